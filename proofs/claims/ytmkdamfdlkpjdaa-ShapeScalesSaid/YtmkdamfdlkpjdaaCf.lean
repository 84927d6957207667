/- Chapter shape: the law ShapeOne, walked. -/
import Derived.Test.YtmkdamfdlkpjdaaCe
set_option linter.all false
namespace Go.Proofs.Ytmkdamfdlkpjdaa
open Go.RowKit (Below)
set_option maxRecDepth 100000
set_option maxHeartbeats 32000000

noncomputable def FL : Fns := ((F0.over 14 hWaves).over 16 hFind).plus 15 (ct0 (vb true))
theorem FL_ok : FnsOk Try.prog FL := ((F0_ok.over waves_ct Try.func14 (by kernel_rfl) (by kernel_rfl)).over find_ct Try.func16 (by kernel_rfl) (by kernel_rfl)).plus awake_ct Try.func15 (by kernel_rfl) (by kernel_rfl)

/-- A law over one slice of integers, from its walks. -/
theorem law_slice {F : Fns} (hF : FnsOk Try.prog F) {n : Nat} {f : FuncId} {fn : Func} (hf : Try.prog.funcs[f]? = some fn) {ws : List W} {w0 : World} {v : Value} (w : SlIn .i64 w0 v) (hr : rngW ws) (hb : bndW 0 ws = true)
    (h0 : walk F n fn (.c .csn :: ws) [] fun y _ => y = vb true)
    (h1 : ∀ (zs : List Int) (l : Nat), l ≤ zs.length → zs.length ≤ 9223372036854775807 → (∀ z ∈ zs, InK .i64 z) → walk F n fn (.c (.csl 0 0 0 l zs.length) :: ws) [.ro [.ints .i64 zs.length zs]] fun y _ => y = vb true) :
    Calls Try.prog f (v :: ws.map (W.den fun _ => (0, 0))).toArray w0 fun e w' => e = .returned (.bool true) ∧ Below w0.heap.size w0 w' := by
  rcases w with rfl | ⟨b, o, len, cap, zs, rfl, hl, hc, hbw, hz, hx, hcell⟩
  · exact walk_true (ws := .c .csn :: ws) hF hf ⟨trivial, hr⟩ (by show (true && bndW 0 ws) = true; rw [hb]; rfl) h0 w0
  · subst hz
    have e := denW_agree (n := 0) (σ := fun _ => (b, o)) (τ := fun _ => (0, 0)) (fun j hj => absurd hj (Nat.not_lt_zero j)) ws hb
    have := walk_true_ro (ws := .c (.csl 0 0 0 len zs.length) :: ws) hF hf ⟨⟨hl, hc⟩, hr⟩ (by show (true && bndW 1 ws) = true; rw [bndW_mono (Nat.zero_le 1) ws hb]; rfl) (h1 zs len hl hc hx) (ro_ok hx) (fun _ => (b, o)) w0 (by
      intro j c hj
      match j, hj with
      | 0, hj => simp at hj; subst hj; exact ⟨rfl, ro_of_slIn rfl hbw hcell⟩
      | j + 1, hj => simp at hj)
    rw [List.map_cons, e] at this
    exact this

/-! ### one pulse -/
theorem sq_lt {a b : Int} (ha : 0 ≤ a) (hb : 0 ≤ b) : a * a > b * b ↔ a > b := by
  constructor
  · intro h
    rcases Int.lt_or_le b a with h1 | h1
    · exact h1
    · have := Int.mul_le_mul h1 h1 ha (by omega)
      omega
  · intro h
    have h1 := Int.mul_le_mul_of_nonneg_left (Int.le_of_lt h) hb
    have h2 := Int.mul_lt_mul_of_pos_left h (show 0 < a by omega)
    rw [Int.mul_comm a b] at h2
    omega
noncomputable def lawBest (c : List Int) : Nat → Nat
  | 0 => 0
  | i + 1 => if absI (c.getD i 0) > absI (c.getD (lawBest c i) 0) then i else lawBest c i
theorem abs0 (x : Int) : 0 ≤ absI x := by unfold absI; omega
theorem rep_getD (n i : Nat) : (List.replicate n (0 : Int)).getD i 0 = 0 := by
  have := (FdOk.zero n).y i
  have h : (List.replicate n (0 : Int)).getD i 0 ≤ 0 := this.2
  have h' : 0 ≤ (List.replicate n (0 : Int)).getD i 0 := this.1
  omega
theorem best_one (c : List Int) (n : Nat) : ∀ i, bestF c ⟨0, 0, List.replicate n 0⟩ i = lawBest c i
  | 0 => rfl
  | i + 1 => by
    have ih := best_one c n i
    show (if topF c ⟨0, 0, List.replicate n 0⟩ i * botF ⟨0, 0, List.replicate n 0⟩ (bestF c ⟨0, 0, List.replicate n 0⟩ i) > topF c ⟨0, 0, List.replicate n 0⟩ (bestF c ⟨0, 0, List.replicate n 0⟩ i) * botF ⟨0, 0, List.replicate n 0⟩ i then i else bestF c ⟨0, 0, List.replicate n 0⟩ i) = if absI (c.getD i 0) > absI (c.getD (lawBest c i) 0) then i else lawBest c i
    rw [ih]
    have eb : ∀ j, botF ⟨0, 0, List.replicate n 0⟩ j = 1 := fun j => by
      show (0 : Int) + 2 * (List.replicate n (0 : Int)).getD j 0 + 1 = 1
      rw [rep_getD]; rfl
    have et : ∀ j, topF c ⟨0, 0, List.replicate n 0⟩ j = absI (c.getD j 0) * absI (c.getD j 0) := fun j => by
      show ((0 : Int) + absI (c.getD j 0)) * (0 + absI (c.getD j 0)) = _
      rw [Int.zero_add]
    rw [eb, eb, et, et, Int.mul_one, Int.mul_one]
    by_cases h : absI (c.getD i 0) > absI (c.getD (lawBest c i) 0)
    · rw [if_pos h, if_pos ((sq_lt (abs0 _) (abs0 _)).2 h)]
    · rw [if_neg h, if_neg fun hh => h ((sq_lt (abs0 _) (abs0 _)).1 hh)]
theorem lawBest_lt (c : List Int) : ∀ i, 0 < i → lawBest c i < i
  | 0, h => absurd h (Nat.lt_irrefl 0)
  | i + 1, _ => by
    show (if _ then i else lawBest c i) < i + 1
    split
    · omega
    · rcases Nat.eq_zero_or_pos i with h | h
      · subst h; exact Nat.lt_succ_self 0
      · have := lawBest_lt c i h; omega
theorem findZ_at {c : List Int} {n k i : Nat} (h : i < n) : (findZ c n k).getD i 0 = if c.getD i 0 < 0 then 0 - (fdRun c n k).y.getD i 0 else (fdRun c n k).y.getD i 0 := getD_range h
theorem one_at {c : List Int} {n i : Nat} (h : i < n) : (findZ c n 1).getD i 0 ≠ 0 ↔ i = lawBest c n := by
  rw [findZ_at h]
  have e : (fdRun c n 1).y.getD i 0 = if i = lawBest c n then 1 else 0 := by
    show ((List.replicate n (0 : Int)).set (bestF c ⟨0, 0, List.replicate n 0⟩ n) ((List.replicate n (0 : Int)).getD (bestF c ⟨0, 0, List.replicate n 0⟩ n) 0 + 1)).getD i 0 = _
    rw [best_one, rep_getD, set_getD' (by rw [List.length_replicate]; exact lawBest_lt c n (by omega)), rep_getD]; rfl
  rw [e]
  by_cases h1 : i = lawBest c n
  · rw [if_pos h1]
    constructor
    · intro _; exact h1
    · intro _ h2; split at h2 <;> omega
  · rw [if_neg h1]
    constructor
    · intro h2; exfalso; apply h2; split <;> omega
    · intro h2; exact absurd h2 h1
theorem wav_right {zs : List Int} {l : Nat} (hl : l ≤ zs.length) {k : Int} (hk : 0 ≤ k ∧ k ≤ 8) (h : wav zs (min l 8) ≠ []) : rightC (wav zs (min l 8)) k := by
  rw [rightC_def, wav_len (by omega)]
  refine ⟨⟨?_, by omega⟩, hk, fun x hx => by have := wav_in hx; omega⟩
  rcases Nat.eq_zero_or_pos (min l 8) with h1 | h1
  · exact absurd (by rw [h1]; rfl) h
  · exact h1
theorem take_all {xs rest : List Int} {n : Nat} (h : n = xs.length) : (xs ++ rest).take n = xs := by
  subst h; rw [List.take_append_of_le_length (Nat.le_refl _), List.take_length]
theorem left_at {xs rest : List Int} {i : Nat} (h : i < xs.length) : (xs ++ rest).getD i 0 = xs.getD i 0 := by
  rw [List.getD_eq_getElem?_getD, List.getD_eq_getElem?_getD, List.getElem?_append_left h]

theorem law_ShapeOne (W0 : World) (v : Value) (w : SlIn .i64 W0 v) : Calls Try.prog 5 #[v] W0 fun e w' => e = .returned (.bool true) ∧ Below W0.heap.size W0 w' := by
  refine law_slice FL_ok Try.func5 (n := 0) (ws := []) w trivial rfl ?_ fun zs l hl hc hx => ?_
  · repeat' ((conv => whnf); first | (refine And.intro (fun _ => ?_) (fun h => absurd rfl h)) | (refine ask_true (by decide) ?_) | (refine ask_false (by decide) ?_) | rfl | fail)
  · repeat' ((conv => whnf); first | (refine And.intro ⟨rfl, rfl⟩ ?_) | (refine And.intro rfl ?_) | fail)
    refine And.intro (fun _ => ?_) fun ne c rest h1 h2 h3 => ?_
    · repeat' ((conv => whnf); first | (refine ask_true (by decide) ?_) | (refine ask_false (by decide) ?_) | rfl | fail)
    · have hR := wav_right hl (k := 1) (by decide) ne
      have n1 := wav_len (zs := zs) (n := min l 8) (by omega)
      have bX : ∀ x ∈ wav zs (min l 8), -524287 ≤ x ∧ x ≤ 524287 := fun x hx => wav_in hx
      obtain ⟨X, hX⟩ : ∃ X, X = wav zs (min l 8) := ⟨_, rfl⟩
      rw [← hX] at ne h1 h3 hR n1 bX ⊢
      obtain ⟨n, hn⟩ : ∃ n, n = X.length := ⟨_, rfl⟩
      rw [← hn] at h1 h3 n1 ⊢
      have et : List.take n (X ++ rest) = X := take_all hn
      have hR' := hR
      rw [rightC_def, ← hn] at hR'
      repeat' ((conv => whnf); first | (refine And.intro ⟨rfl, rfl⟩ ?_) | (refine And.intro rfl ?_) | (refine ask_true (by omega) ?_) | (refine ask_false (by omega) ?_) | fail)
      refine And.intro (fun h => absurd (by rw [et]; exact hR) h) fun _ => ?_
      conv => whnf
      rw [et]
      have hY : ∀ i : Nat, i < n → ((findZ X n (Int.toNat 1)).getD i 0 ≠ 0 ↔ i = lawBest X n) := fun i hi => one_at hi
      obtain ⟨Y, eY⟩ : ∃ Y, Y = findZ X n (Int.toNat 1) := ⟨_, rfl⟩
      rw [← eY] at hY ⊢
      have em : ∀ i : Int, mulN i.toNat (Try.prog.types[3]).size = i.toNat := fun i => mulN1 _
      have at' : ∀ i : Int, 0 ≤ i → i < n → (X ++ rest).getD (0 + mulN i.toNat (Try.prog.types[3]).size) 0 = X.getD i.toNat 0 := fun i h0 h1 => by
        rw [em, Nat.zero_add]; exact left_at (by omega)
      refine loop_at2 (6 :: 7 :: List.range' 24 28) (fun m (i b : Int) => 0 ≤ i ∧ i ≤ n ∧ b = (lawBest X i.toNat : Nat) ∧ m = (n - i).toNat) (fun i b => [(6, vi b), (7, vi i)]) (fun _ _ => [.ro [.ints .i64 zs.length zs], .own 3 [.ints .i64 c (X ++ rest)], .own 3 [.ints .i64 n Y]]) n 0 0 ⟨by decide, by omega, rfl, by omega⟩ ?_ ?_
      · exact ⟨rfl, ⟨⟨Nat.le_of_ble_eq_true rfl, rfl⟩, ⟨Nat.le_of_ble_eq_true rfl, rfl⟩, trivial⟩, ⟨rfl, rfl, rfl, trivial⟩, rfl, rfl, Nat.le_of_ble_eq_true rfl⟩
      · rintro m i b ⟨i0, i1, hb, rfl⟩
        have blt : 0 ≤ b ∧ b < n := by
          rcases Nat.eq_zero_or_pos i.toNat with h | h
          · rw [h] at hb
            have hb : b = 0 := hb
            omega
          · have := lawBest_lt X i.toNat h
            omega
        have ab := at' b blt.1 blt.2
        have eb := em b
        have ei := em i
        have cb := hR'.2.2 _ (mem_at (xs := X) (i := b.toNat) (by omega))
        rw [← ab] at cb
        rcases Int.lt_or_le i n with i2 | i2
        · have ai := at' i i0 i2
          have ci := hR'.2.2 _ (mem_at (xs := X) (i := i.toNat) (by omega))
          rw [← ai] at ci
          repeat' ((conv => whnf); first | (refine ask_true (by omega) ?_) | (refine And.intro (by omega) ?_) | (refine fun (_ : InK _ _) => ?_) | (refine ask_wrap64 (by omega) (by omega) ?_) | fail)
          conv => whnf
          refine ask_split (fun hg => ?_) (fun hg => ?_)
          · repeat' ((conv => whnf); first | (refine ask_wrap64 (by omega) (by omega) ?_) | (refine ⟨by kernel_rfl, ?_⟩) | fail)
            conv => whnf
            refine ⟨(n - (i + 1)).toNat, (i + 1, i), by omega, ⟨by show 0 ≤ i + 1; omega, by show i + 1 ≤ (n : Int); omega, ?_, rfl⟩, rfl, ⟨⟨Nat.le_of_ble_eq_true rfl, rfl⟩, ⟨Nat.le_of_ble_eq_true rfl, rfl⟩, trivial⟩, ⟨rfl, rfl, rfl, trivial⟩, rfl, rfl, Nat.le_of_ble_eq_true rfl⟩
            show i = ((lawBest X (i + 1).toNat : Nat) : Int)
            rw [ai, ab, show b.toNat = lawBest X i.toNat by omega] at hg
            rw [show (i + 1).toNat = i.toNat + 1 by omega]
            show i = ((if absI (X.getD i.toNat 0) > absI (X.getD (lawBest X i.toNat) 0) then i.toNat else lawBest X i.toNat : Nat) : Int)
            rw [if_pos (by unfold absI; exact hg)]; omega
          · repeat' ((conv => whnf); first | (refine ask_wrap64 (by omega) (by omega) ?_) | (refine ⟨by kernel_rfl, ?_⟩) | fail)
            conv => whnf
            refine ⟨(n - (i + 1)).toNat, (i + 1, b), by omega, ⟨by show 0 ≤ i + 1; omega, by show i + 1 ≤ (n : Int); omega, ?_, rfl⟩, rfl, ⟨⟨Nat.le_of_ble_eq_true rfl, rfl⟩, ⟨Nat.le_of_ble_eq_true rfl, rfl⟩, trivial⟩, ⟨rfl, rfl, rfl, trivial⟩, rfl, rfl, Nat.le_of_ble_eq_true rfl⟩
            show b = ((lawBest X (i + 1).toNat : Nat) : Int)
            rw [ai, ab, show b.toNat = lawBest X i.toNat by omega] at hg
            rw [show (i + 1).toNat = i.toNat + 1 by omega]
            show b = ((if absI (X.getD i.toNat 0) > absI (X.getD (lawBest X i.toNat) 0) then i.toNat else lawBest X i.toNat : Nat) : Int)
            rw [if_neg (by unfold absI; exact hg)]; omega
        · repeat' ((conv => whnf); first | (refine ask_true (by omega) ?_) | (refine ask_false (by omega) ?_) | fail)
          conv => whnf
          have il : i.toNat = n := by omega
          rw [il] at hb
          refine loop_at (8 :: List.range' 52 22) (fun m (k : Int) => 0 ≤ k ∧ k ≤ n ∧ m = (n - k).toNat) (fun k => [(8, vi k)]) (fun _ => [.ro [.ints .i64 zs.length zs], .own 3 [.ints .i64 c (X ++ rest)], .own 3 [.ints .i64 n Y]]) n 0 ⟨by decide, by omega, by omega⟩ ?_ ?_
          · exact ⟨rfl, ⟨⟨Nat.le_of_ble_eq_true rfl, rfl⟩, trivial⟩, ⟨rfl, rfl, rfl, trivial⟩, rfl, rfl, Nat.le_of_ble_eq_true rfl⟩
          · rintro m k ⟨k0, k1, rfl⟩
            have ek := em k
            have yk : Y.getD (0 + mulN k.toNat (Try.prog.types[3]).size) 0 = Y.getD k.toNat 0 := by rw [em, Nat.zero_add]
            rcases Int.lt_or_le k n with k2 | k2
            · have hyk := hY k.toNat (by omega)
              rw [← yk] at hyk
              by_cases kb : k.toNat = lawBest X n
              · have y0 := hyk.2 kb
                repeat' ((conv => whnf); first | (refine ask_true (by omega) ?_) | (refine ask_false (by omega) ?_) | (refine ask_false (by decide) ?_) | (refine And.intro (by omega) ?_) | (refine fun (_ : InK _ _) => ?_) | (refine ask_wrap64 (by omega) (by omega) ?_) | fail)
                conv => whnf
                exact ⟨(n - (k + 1)).toNat, k + 1, by omega, ⟨by omega, by omega, rfl⟩, rfl, ⟨⟨Nat.le_of_ble_eq_true rfl, rfl⟩, trivial⟩, ⟨rfl, rfl, rfl, trivial⟩, rfl, rfl, Nat.le_of_ble_eq_true rfl⟩
              · have y0 : ¬ (Y.getD (0 + mulN k.toNat (Try.prog.types[3]).size) 0 ≠ 0) := fun h => kb (hyk.1 h)
                repeat' ((conv => whnf); first | (refine ask_true (by omega) ?_) | (refine ask_false (by omega) ?_) | (refine ask_false (by decide) ?_) | (refine And.intro (by omega) ?_) | (refine fun (_ : InK _ _) => ?_) | (refine ask_wrap64 (by omega) (by omega) ?_) | fail)
                conv => whnf
                exact ⟨(n - (k + 1)).toNat, k + 1, by omega, ⟨by omega, by omega, rfl⟩, rfl, ⟨⟨Nat.le_of_ble_eq_true rfl, rfl⟩, trivial⟩, ⟨rfl, rfl, rfl, trivial⟩, rfl, rfl, Nat.le_of_ble_eq_true rfl⟩
            · repeat' ((conv => whnf); first | (refine ask_true (by decide) ?_) | (refine ask_false (by omega) ?_) | rfl | fail)
end Go.Proofs.Ytmkdamfdlkpjdaa
