/- Chapter spare: what is given fits; the law SpareFits. -/
import Derived.Test.YtmkdamfdlkpjdaaDoorEh
set_option linter.all false
namespace Go.Proofs.YtmkdamfdlkpjdaaDoor
open Go.RowKit (Below)
open Go.WideMaps
set_option maxRecDepth 100000
set_option maxHeartbeats 64000000

/-! ### what is given -/
theorem costs_set {ks : List Int} (h : ks.length = 4) {b : Int} (hb : 0 ≤ b ∧ b ≤ 3) : costs (ks.set b.toNat (ks.getD b.toNat 0 + 1)) 4 = costs ks 4 + prS ks b := by
  match ks, h with
  | [x, y, z, w], _ =>
    obtain rfl | rfl | rfl | rfl : b = 0 ∨ b = 1 ∨ b = 2 ∨ b = 3 := by omega
    · show 0 + costS 0 (x + 1) + costS 1 y + costS 2 z + costS 3 w = 0 + costS 0 x + costS 1 y + costS 2 z + costS 3 w + (costS 0 (x + 1) - costS 0 x); omega
    · show 0 + costS 0 x + costS 1 (y + 1) + costS 2 z + costS 3 w = 0 + costS 0 x + costS 1 y + costS 2 z + costS 3 w + (costS 1 (y + 1) - costS 1 y); omega
    · show 0 + costS 0 x + costS 1 y + costS 2 (z + 1) + costS 3 w = 0 + costS 0 x + costS 1 y + costS 2 z + costS 3 w + (costS 2 (z + 1) - costS 2 z); omega
    · show 0 + costS 0 x + costS 1 y + costS 2 z + costS 3 (w + 1) = 0 + costS 0 x + costS 1 y + costS 2 z + costS 3 w + (costS 3 (w + 1) - costS 3 w); omega
structure Given (ls ks : List Int) (lf : Int) : Prop where
  pos : 0 ≤ lf
  none : ∀ i : Nat, i < 4 → ls.getD i 0 = 0 → ks.getD i 0 = 0
  full : ∀ i : Nat, i < 4 → ls.getD i 0 = 0 ∨ ks.getD i 0 = 8 ∨ lf < prS ks i
theorem go_given (ls : List Int) : ∀ (n : Nat) (ks : List Int) (t : Int), KOk ks → 0 ≤ t → 33 - sumK ks ≤ n → (∀ i : Nat, i < 4 → ls.getD i 0 = 0 → ks.getD i 0 = 0) → Given ls (goP ls n ks t) (t + costs ks 4 - costs (goP ls n ks t) 4)
  | 0, ks, t, hk, _, hs, _ => by have := hk.sum; omega
  | n + 1, ks, t, hk, ht, hs, hz => by
    have b1 := best_in ls ks t 4
    rw [goP_next]
    split
    · rename_i hb
      exact ⟨by omega, hz, fun i hi => by
        have := best_none ls ks t 4 hb i hi
        omega⟩
    · rename_i hb
      have b2 := best_pays ls ks t 4 (by omega)
      have hk' := hk.next (b := bestS ls ks t 4) (by omega) b2.2.1
      have cs := costs_set hk.len (b := bestS ls ks t 4) (by omega)
      have ss := sumK_set hk.len (b := bestS ls ks t 4) (by omega)
      have ih := go_given ls n _ (t - prS ks (bestS ls ks t 4)) hk' (by omega) (by rw [ss]; omega) fun i hi h0 => by
        rw [getD_set]
        split
        · rename_i he
          exact absurd (by rw [he.1]; exact h0) b2.1
        · exact hz i hi h0
      rw [cs] at ih
      refine ⟨?_, ih.none, fun i hi => ?_⟩
      · have := ih.pos; omega
      · have := ih.full i hi
        omega
theorem costs_z4 : costs z4 4 = 0 := by
  show 0 + costS 0 0 + costS 1 0 + costS 2 0 + costS 3 0 = 0
  rw [cost_none (by decide), cost_none (by decide), cost_none (by decide), cost_none (by decide)]; rfl
theorem pul_given {ls : List Int} {t : Int} (h : rightP ls t) : Given ls (pulS ls t) (t - costs (pulS ls t) 4) := by
  rw [pulS_def]
  unfold pulF
  rw [if_pos h]
  have := go_given ls 33 z4 t z4_ok ((rightP_def ls t).1 h).2.1 (by decide) fun i hi _ => by
    match i, hi with
    | 0, _ | 1, _ | 2, _ | 3, _ => rfl
  rw [costs_z4] at this
  rwa [show t + 0 - costs (goP ls 33 z4 t) 4 = t - costs (goP ls 33 z4 t) 4 by omega] at this

/-! ### the law -/
noncomputable def FSf : Fns := ((FSa.plus 28 (ctA costs4)).plus 17 (ct1 (fun _ => True) sizeS)).plus 26 (ct2 (fun _ _ => True) bitS)
theorem FSf_ok : FnsOk Tryd.prog FSf G1 := ((FSa_ok.plusG costs_ct Tryd.func28 (by kernel_rfl) (by kernel_rfl)).plusG size_ct Tryd.func17 (by kernel_rfl) (by kernel_rfl)).plus bits_ct Tryd.func26 (by kernel_rfl) (by kernel_rfl)
theorem fitsS_walk (ls : List Int) (h : ls.length = 4) (b : Int) (hb : 0 ≤ b ∧ b ≤ 65535) : walkq FSf 0 Tryd.f12 [ar4 ls, .c (.ci .u16 b)] [] fun y _ => y = vb true := by
  obtain ⟨X, eX⟩ : ∃ X, X = heldS ls := ⟨_, rfl⟩
  have Xi : ∀ i : Nat, i < 4 → 0 ≤ X.getD i 0 ∧ X.getD i 0 ≤ 20 := fun i hi => by rw [eX]; exact heldS_in h hi
  repeat' ((conv => whnf); first | (refine And.intro (by omega) ?_) | (refine ask_wrap64 (by omega) (by omega) ?_) | fail)
  conv => whnf
  intro n hn
  have hn' : 0 ≤ n ∧ n ≤ 399 := by rw [hn, Int.tmod_eq_emod_of_nonneg hb.1]; omega
  clear hn
  have r1 : rightP X n := (rightP_def _ _).2 ⟨fun j hj => Xi j hj, by omega, by omega⟩
  have gv := pul_given r1
  have kk := pulS_ok X n
  have c0 := costs_in (pulS X n) 4
  obtain ⟨K, eK⟩ : ∃ K, K = pulS X n := ⟨_, rfl⟩
  obtain ⟨c, ec⟩ : ∃ c, c = costs4 K := ⟨_, rfl⟩
  conv => whnf
  rw [← eX, ← eK, ← ec]
  rw [← eK] at gv kk c0
  have ec' : costs K 4 = c := ec.symm
  rw [ec'] at gv c0
  have gl := gv.pos
  repeat' ((conv => whnf); first | (refine ask_false (by omega) ?_) | fail)
  conv => whnf
  refine loop_at (9 :: List.range' 25 56) (fun m (i : Int) => 0 ≤ i ∧ i ≤ 4 ∧ m = (4 - i).toNat) (fun i => [(9, vi i)]) (fun _ => [.own 25 [.ints .i64 4 ls], .own 25 [.ints .i64 4 X], .own 25 [.ints .i64 4 K]]) 4 0 ⟨by decide, by decide, rfl⟩ ?_ ?_
  · exact ⟨rfl, ⟨⟨Nat.le_of_ble_eq_true rfl, rfl⟩, trivial⟩, ⟨rfl, rfl, rfl, trivial⟩, rfl, rfl, Nat.zero_le _⟩
  · rintro m i ⟨i0, i1, rfl⟩
    have em : mulN i.toNat (Tryd.prog.types[3]).size = i.toNat := mulN1 _
    rcases Int.lt_or_le i 4 with i2 | i2
    · have ex : X.getD (mulN i.toNat (Tryd.prog.types[3]).size) 0 = X.getD i.toNat 0 := by rw [em]
      have ek : K.getD (mulN i.toNat (Tryd.prog.types[3]).size) 0 = K.getD i.toNat 0 := by rw [em]
      have xi := Xi i.toNat (by omega)
      have ki := kk.at' i.toNat
      have gn := gv.none i.toNat (by omega)
      have gf := gv.full i.toNat (by omega)
      have epr : prS K (i.toNat : Int) = bitS (sizeS i) (K.getD (mulN i.toNat (Tryd.prog.types[3]).size) 0 + 1) - bitS (sizeS i) (K.getD (mulN i.toNat (Tryd.prog.types[3]).size) 0) := by
        rw [ek]
        unfold prS
        rw [costS_def, costS_def, Int.toNat_natCast, show ((i.toNat : Nat) : Int) = i by omega]
      have b1 := bitS_in (sizeS i) (K.getD (mulN i.toNat (Tryd.prog.types[3]).size) 0 + 1)
      have b2 := bitS_in (sizeS i) (K.getD (mulN i.toNat (Tryd.prog.types[3]).size) 0)
      rcases Classical.em (X.getD i.toNat 0 = 0) with h1 | h1
      · have k0 := gn h1
        repeat' ((conv => whnf); first | (refine ask_true (by omega) ?_) | (refine ask_false (by omega) ?_) | (refine And.intro trivial ?_) | (refine And.intro (by omega) ?_) | (refine fun (_ : InK _ _) => ?_) | (refine ask_wrap64 (by omega) (by omega) ?_) | (refine ⟨by kernel_rfl, ?_⟩) | fail)
        conv => whnf
        exact ⟨(4 - (i + 1)).toNat, i + 1, by omega, ⟨by omega, by omega, rfl⟩, rfl, ⟨⟨Nat.le_of_ble_eq_true rfl, rfl⟩, trivial⟩, ⟨rfl, rfl, rfl, trivial⟩, rfl, rfl, Nat.zero_le _⟩
      · rcases Classical.em (K.getD i.toNat 0 = 8) with h2 | h2
        · repeat' ((conv => whnf); first | (refine ask_true (by omega) ?_) | (refine ask_false (by omega) ?_) | (refine And.intro trivial ?_) | (refine And.intro (by omega) ?_) | (refine fun (_ : InK _ _) => ?_) | (refine ask_wrap64 (by omega) (by omega) ?_) | (refine ⟨by kernel_rfl, ?_⟩) | fail)
          conv => whnf
          exact ⟨(4 - (i + 1)).toNat, i + 1, by omega, ⟨by omega, by omega, rfl⟩, rfl, ⟨⟨Nat.le_of_ble_eq_true rfl, rfl⟩, trivial⟩, ⟨rfl, rfl, rfl, trivial⟩, rfl, rfl, Nat.zero_le _⟩
        · have h3 : n - c < prS K (i.toNat : Int) := by omega
          repeat' ((conv => whnf); first | (refine ask_true (by omega) ?_) | (refine ask_false (by omega) ?_) | (refine And.intro trivial ?_) | (refine And.intro (by omega) ?_) | (refine fun (_ : InK _ _) => ?_) | (refine ask_wrap64 (by omega) (by omega) ?_) | (refine ⟨by kernel_rfl, ?_⟩) | fail)
          conv => whnf
          exact ⟨(4 - (i + 1)).toNat, i + 1, by omega, ⟨by omega, by omega, rfl⟩, rfl, ⟨⟨Nat.le_of_ble_eq_true rfl, rfl⟩, trivial⟩, ⟨rfl, rfl, rfl, trivial⟩, rfl, rfl, Nat.zero_le _⟩
    · repeat' ((conv => whnf); first | (refine ask_false (by omega) ?_) | rfl | fail)
theorem law_SpareFits (xs : List Int) (h : xs.length = 4) (hx : ∀ x ∈ xs, InK .i64 x) (b : Int) (hb : InK .u16 b) (w0 : World) (hg : GW G1 w0) : Calls Tryd.prog 12 #[.agg (xs.map (Value.int .i64)).toArray, .int .u16 b] w0 fun e w' => e = .returned (.bool true) ∧ Below w0.heap.size w0 w' := by
  have hd1 : ∀ σ, (W.den σ (ar4 xs)) = Value.agg (xs.map (Value.int .i64)).toArray := fun σ => by simp [W.den, dens, Seg.den]
  have hd : ([ar4 xs, .c (.ci .u16 b)].map (W.den fun _ => (0, 0))).toArray = #[Value.agg (xs.map (Value.int .i64)).toArray, .int .u16 b] := by rw [← hd1 (fun _ => (0, 0))]; rfl
  have := walkq_true FSf_ok Tryd.func12 (ws := [ar4 xs, .c (.ci .u16 b)]) ⟨⟨⟨h, hx⟩, trivial⟩, hb, trivial⟩ rfl (n := 0) (fitsS_walk xs h b hb) w0 hg
  rw [hd] at this; exact this
end Go.Proofs.YtmkdamfdlkpjdaaDoor
