/- Chapter spare: a band alone; the law SpareAlone. -/
import Derived.Test.YtmkdamfdlkpjdaaDoorEi
set_option linter.all false
namespace Go.Proofs.YtmkdamfdlkpjdaaDoor
open Go.RowKit (Below)
open Go.WideMaps
set_option maxRecDepth 100000
set_option maxHeartbeats 64000000

/-! ### a band alone -/
noncomputable def wantF (k n : Int) : Nat → Int
  | 0 => 0
  | j + 1 => if costS k ((j : Int) + 1) ≤ n then (j : Int) + 1 else wantF k n j
theorem cost_le {b : Int} (hb : 0 ≤ b ∧ b ≤ 3) {i : Int} (h0 : 0 ≤ i) : ∀ d : Nat, i + d ≤ 8 → costS b i ≤ costS b (i + d)
  | 0, _ => by rw [show i + ((0 : Nat) : Int) = i by omega]; exact Int.le_refl _
  | d + 1, h => by
    have h1 := cost_le hb h0 d (by omega)
    have h2 := cost_mono hb (k := i + d) (by omega)
    rw [show i + ((d + 1 : Nat) : Int) = i + d + 1 by omega]
    omega
theorem cost_le' {b i j : Int} (hb : 0 ≤ b ∧ b ≤ 3) (h0 : 0 ≤ i) (hij : i ≤ j) (h8 : j ≤ 8) : costS b i ≤ costS b j := by
  have := cost_le hb h0 (j - i).toNat (by omega)
  rwa [show i + (((j - i).toNat : Nat) : Int) = j by omega] at this
theorem one_row {K : List Int} (h : K.length = 4) {k : Int} (hk : 0 ≤ k ∧ k ≤ 3) (hz : ∀ i : Nat, i < 4 → (i : Int) ≠ k → K.getD i 0 = 0) : K = z4.set k.toNat (K.getD k.toNat 0) ∧ costs K 4 = costS k (K.getD k.toNat 0) := by
  match K, h with
  | [x, y, z, w], _ =>
    have h0 := hz 0 (by decide)
    have h1 := hz 1 (by decide)
    have h2 := hz 2 (by decide)
    have h3 := hz 3 (by decide)
    have c0 := cost_none (b := 0) (by decide)
    have c1 := cost_none (b := 1) (by decide)
    have c2 := cost_none (b := 2) (by decide)
    have c3 := cost_none (b := 3) (by decide)
    obtain rfl | rfl | rfl | rfl : k = 0 ∨ k = 1 ∨ k = 2 ∨ k = 3 := by omega
    · obtain rfl : y = 0 := h1 (by decide)
      obtain rfl : z = 0 := h2 (by decide)
      obtain rfl : w = 0 := h3 (by decide)
      exact ⟨rfl, by show 0 + costS 0 x + costS 1 0 + costS 2 0 + costS 3 0 = costS 0 x; omega⟩
    · obtain rfl : x = 0 := h0 (by decide)
      obtain rfl : z = 0 := h2 (by decide)
      obtain rfl : w = 0 := h3 (by decide)
      exact ⟨rfl, by show 0 + costS 0 0 + costS 1 y + costS 2 0 + costS 3 0 = costS 1 y; omega⟩
    · obtain rfl : x = 0 := h0 (by decide)
      obtain rfl : y = 0 := h1 (by decide)
      obtain rfl : w = 0 := h3 (by decide)
      exact ⟨rfl, by show 0 + costS 0 0 + costS 1 0 + costS 2 z + costS 3 0 = costS 2 z; omega⟩
    · obtain rfl : x = 0 := h0 (by decide)
      obtain rfl : y = 0 := h1 (by decide)
      obtain rfl : z = 0 := h2 (by decide)
      exact ⟨rfl, by show 0 + costS 0 0 + costS 1 0 + costS 2 0 + costS 3 w = costS 3 w; omega⟩
theorem z4_at (i : Nat) : z4.getD i 0 = 0 := by
  match i with
  | 0 | 1 | 2 | 3 => rfl
  | n + 4 => rfl
theorem one_at {k lv : Int} {i : Nat} (hi : i < 4) : (z4.set k.toNat lv).getD i 0 = if k.toNat = i then lv else 0 := by
  rw [getD_set]
  by_cases h : k.toNat = i
  · rw [if_pos ⟨h, hi⟩, if_pos h]
  · rw [if_neg (fun hh => h hh.1), if_neg h, z4_at]
theorem one_right {k lv n : Int} (hl : 1 ≤ lv ∧ lv ≤ 20) (hn : 0 ≤ n ∧ n ≤ 1048576) : rightP (z4.set k.toNat lv) n := (rightP_def _ _).2 ⟨fun i hi => by rw [one_at hi]; split <;> omega, hn⟩
theorem pul_alone {k lv n : Int} (hk : 0 ≤ k ∧ k ≤ 3) (hl : 1 ≤ lv ∧ lv ≤ 20) (hn : 0 ≤ n ∧ n ≤ 1048576) : pulS (z4.set k.toNat lv) n = z4.set k.toNat (wantF k n 8) := by
  have g := pul_given (one_right (k := k) hl hn)
  have kk := pulS_ok (z4.set k.toNat lv) n
  obtain ⟨K, eK⟩ : ∃ K, K = pulS (z4.set k.toNat lv) n := ⟨_, rfl⟩
  rw [← eK] at g kk ⊢
  have hz : ∀ i : Nat, i < 4 → (i : Int) ≠ k → K.getD i 0 = 0 := fun i hi hne => g.none i hi (by rw [one_at hi, if_neg (by omega)])
  obtain ⟨e1, e2⟩ := one_row kk.len hk hz
  rw [e2] at g
  have gp := g.pos
  have gf := g.full k.toNat (by omega)
  have hv : (z4.set k.toNat lv).getD k.toNat 0 = lv := by rw [one_at (by omega), if_pos rfl]
  rw [hv] at gf
  have kb := kk.at' k.toNat
  obtain ⟨m, em⟩ : ∃ m, m = K.getD k.toNat 0 := ⟨_, rfl⟩
  have epr : prS K ((k.toNat : Nat) : Int) = costS k (m + 1) - costS k m := by
    unfold prS
    rw [Int.toNat_natCast, ← em, show ((k.toNat : Nat) : Int) = k by omega]
  rw [epr, ← em] at gf
  rw [← em] at gp kb e1
  have key : ∀ j : Nat, j ≤ 8 → wantF k n j = min (j : Int) m := fun j => by
    induction j with
    | zero => intro _; show (0 : Int) = _; omega
    | succ j ih =>
      intro hj
      have ih := ih (by omega)
      show (if costS k ((j : Int) + 1) ≤ n then (j : Int) + 1 else wantF k n j) = _
      rcases Int.lt_or_le m ((j : Int) + 1) with h1 | h1
      · have h2 := cost_le' hk (i := m + 1) (j := (j : Int) + 1) (by omega) (by omega) (by omega)
        rw [if_neg (by omega), ih]; omega
      · have h2 := cost_le' hk (i := (j : Int) + 1) (j := m) (by omega) h1 (by omega)
        rw [if_pos (by omega)]; omega
  rw [e1, key 8 (Nat.le_refl 8), show min ((8 : Nat) : Int) m = m by omega]

/-! ### the law -/
theorem alone_walk (b l t : Int) (hb : 0 ≤ b ∧ b ≤ 255) (hl : 0 ≤ l ∧ l ≤ 255) (ht : 0 ≤ t ∧ t ≤ 65535) : walkq FSf 0 Tryd.f10 [u8 b, u8 l, .c (.ci .u16 t)] [] fun y _ => y = vb true := by
  repeat' ((conv => whnf); first | (refine And.intro (by omega) ?_) | (refine ask_wrap64 (by omega) (by omega) ?_) | fail)
  conv => whnf
  intro k hk
  have hk' : 0 ≤ k ∧ k ≤ 3 := by rw [hk, Int.tmod_eq_emod_of_nonneg hb.1]; omega
  clear hk
  have em : mulN k.toNat (Tryd.prog.types[3]).size = k.toNat := mulN1 _
  repeat' ((conv => whnf); first | (refine And.intro (by omega) ?_) | (refine ask_wrap64 (by omega) (by omega) ?_) | fail)
  conv => whnf
  intro r hr
  have hr' : 0 ≤ r ∧ r ≤ 19 := by rw [hr, Int.tmod_eq_emod_of_nonneg hl.1]; omega
  clear hr
  repeat' ((conv => whnf); first | (refine And.intro (by omega) ?_) | (refine ask_wrap64 (by omega) (by omega) ?_) | fail)
  conv => whnf
  intro n hn
  have hn' : 0 ≤ n ∧ n ≤ 59 := by rw [hn, Int.tmod_eq_emod_of_nonneg ht.1]; omega
  clear hn
  have pa := pul_alone (k := k) (lv := 1 + r) (n := n) hk' (by omega) (by omega)
  conv => whnf
  refine loop_at2 (11 :: 12 :: List.range' 31 11) (fun m (j : Int) (v : Int) => 1 ≤ j ∧ j ≤ 9 ∧ m = (9 - j).toNat ∧ v = wantF k n (j - 1).toNat ∧ 0 ≤ v ∧ v ≤ 8) (fun j v => [(11, vi v), (12, vi j)]) (fun _ _ => [.own 25 [.ints .i64 4 (([0, 0, 0, 0] : List Int).set (mulN k.toNat (Tryd.prog.types[3]).size) (1 + r))], .own 25 [.ints .i64 4 (pulS (([0, 0, 0, 0] : List Int).set (mulN k.toNat (Tryd.prog.types[3]).size) (1 + r)) n)]]) 8 1 0 ⟨by decide, by decide, rfl, rfl, by decide, by decide⟩ ?_ ?_
  · exact ⟨rfl, ⟨⟨Nat.le_of_ble_eq_true rfl, rfl⟩, ⟨Nat.le_of_ble_eq_true rfl, rfl⟩, trivial⟩, ⟨rfl, rfl, trivial⟩, rfl, rfl, Nat.zero_le _⟩
  · rintro _ j v ⟨j0, j1, rfl, hv, v0, v8⟩
    rcases Int.lt_or_le j 9 with j2 | j2
    · have wn : wantF k n (j + 1 - 1).toNat = if costS k j ≤ n then j else wantF k n (j - 1).toNat := by
        rw [show (j + 1 - 1).toNat = (j - 1).toNat + 1 by omega]
        show (if costS k (((j - 1).toNat : Int) + 1) ≤ n then ((j - 1).toNat : Int) + 1 else _) = _
        rw [show ((j - 1).toNat : Int) + 1 = j by omega]
      rw [costS_def] at wn
      rcases Int.lt_or_le n (bitS (sizeS k) j) with h1 | h1
      · rw [if_neg (by omega), ← hv] at wn
        repeat' ((conv => whnf); first | (refine ask_true (by omega) ?_) | (refine ask_false (by omega) ?_) | (refine And.intro trivial ?_) | (refine ask_wrap64 (by omega) (by omega) ?_) | fail)
        conv => whnf
        exact ⟨(9 - (j + 1)).toNat, (j + 1, v), by omega, ⟨by show 1 ≤ j + 1; omega, by show j + 1 ≤ 9; omega, rfl, wn.symm, v0, v8⟩, rfl, ⟨⟨Nat.le_of_ble_eq_true rfl, rfl⟩, ⟨Nat.le_of_ble_eq_true rfl, rfl⟩, trivial⟩, ⟨rfl, rfl, trivial⟩, rfl, rfl, Nat.zero_le _⟩
      · rw [if_pos h1] at wn
        repeat' ((conv => whnf); first | (refine ask_true (by omega) ?_) | (refine ask_false (by omega) ?_) | (refine And.intro trivial ?_) | (refine ask_wrap64 (by omega) (by omega) ?_) | fail)
        conv => whnf
        exact ⟨(9 - (j + 1)).toNat, (j + 1, j), by omega, ⟨by show 1 ≤ j + 1; omega, by show j + 1 ≤ 9; omega, rfl, wn.symm, by show 0 ≤ j; omega, by show j ≤ 8; omega⟩, rfl, ⟨⟨Nat.le_of_ble_eq_true rfl, rfl⟩, ⟨Nat.le_of_ble_eq_true rfl, rfl⟩, trivial⟩, ⟨rfl, rfl, trivial⟩, rfl, rfl, Nat.zero_le _⟩
    · have e : pulS (([0, 0, 0, 0] : List Int).set (mulN k.toNat (Tryd.prog.types[3]).size) (1 + r)) n = ([0, 0, 0, 0] : List Int).set (mulN k.toNat (Tryd.prog.types[3]).size) v := by
        rw [em, hv, show (j - 1).toNat = 8 by omega]; exact pa
      repeat' ((conv => whnf); first | (refine ask_false (by omega) ?_) | (refine And.intro (by omega) ?_) | (refine fun (_ : InK _ _) => ?_) | (refine ask_same e ?_) | rfl | fail)
theorem law_SpareAlone (b : Int) (hb : InK .u8 b) (l : Int) (hl : InK .u8 l) (t : Int) (ht : InK .u16 t) (w0 : World) (hg : GW G1 w0) : Calls Tryd.prog 10 #[.int .u8 b, .int .u8 l, .int .u16 t] w0 fun e w' => e = .returned (.bool true) ∧ Below w0.heap.size w0 w' :=
  walkq_true FSf_ok Tryd.func10 (ws := [u8 b, u8 l, .c (.ci .u16 t)]) ⟨hb, hl, ht, trivial⟩ rfl (n := 0) (alone_walk b l t hb hl ht) w0 hg
end Go.Proofs.YtmkdamfdlkpjdaaDoor
