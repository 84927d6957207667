/- Chapter vect: vectors with other signs; the law VectTurns. -/
import Derived.Test.YtmkdamfdlkpjdaaVf
set_option linter.all false
namespace Go.Proofs.Ytmkdamfdlkpjdaa
open Go.RowKit (Below)
open Go.WideMaps
set_option maxRecDepth 100000
set_option maxHeartbeats 64000000

theorem sym_tab : (List.range 8).all (fun m => (List.range 9).all fun k => (List.range (2 * k + 2)).all fun s => decide (rnkc (crow m) k s + rnkc (crow m) k (2 * k + 1 - s) = (crow (m + 1)).getD k 0)) = true := by kernel_rfl
theorem rnk_sym {m k : Int} (hm : 0 ≤ m ∧ m ≤ 7) (hk : 0 ≤ k ∧ k ≤ 8) {x : Int} (hx : -k ≤ x ∧ x ≤ k) : rnk m k (0 - x + k).toNat + rnk m k (x + 1 + k).toNat = cN (m + 1) k := by
  obtain ⟨m', rfl⟩ : ∃ m' : Nat, m = m' := ⟨m.toNat, by omega⟩
  obtain ⟨k', rfl⟩ : ∃ k' : Nat, k = k' := ⟨k.toNat, by omega⟩
  obtain ⟨s, hs⟩ : ∃ s : Nat, s = (0 - x + k').toNat := ⟨_, rfl⟩
  rw [← hs, show (x + 1 + (k' : Int)).toNat = 2 * k' + 1 - s by omega, rnk_c m' k' (by omega) s (by omega), rnk_c m' k' (by omega) _ (by omega), show (m' : Int) + 1 = ((m' + 1 : Nat) : Int) by omega, cN_nat]
  have h1 := List.all_eq_true.1 sym_tab m' (List.mem_range.2 (by omega))
  have h2 := List.all_eq_true.1 h1 k' (List.mem_range.2 (by omega))
  exact of_decide_eq_true (List.all_eq_true.1 h2 s (List.mem_range.2 (by omega)))
theorem szV_neg (x : Int) : szV (0 - x) = szV x := by
  rw [szV_def, szV_def]
  unfold absI
  split <;> split <;> omega
theorem sumA_neg (A : List Int) : sumA (A.map fun x => 0 - x) (A.map fun x => 0 - x).length = sumA A A.length := by
  induction A with
  | nil => rfl
  | cons x A ih => rw [List.map_cons, sumA_cons, sumA_cons, szV_neg, ih]
theorem rank_turn : ∀ (A : List Int) (k : Int), sumA A A.length = k → k ≤ 8 → A.length ≤ 8 → rank (A.map fun x => 0 - x) k = cN A.length k - 1 - rank A k
  | [], k, hs, _, _ => by
    obtain rfl : k = 0 := hs.symm
    show (0 : Int) = cN 0 0 - 1 - 0
    rw [cN_zero]; decide
  | x :: B, k, hs, hk, hl => by
    obtain ⟨h1, h2, h3, h4, h5⟩ := head_in hs hk
    have hl' : B.length ≤ 7 := by simpa using hl
    have ih := rank_turn B (k - szV x) h5 h4 (by omega)
    have rn := rnk_next (n := (B.length : Int)) (k := k) (z := x) (by omega)
    have rs := rnk_sym (m := (B.length : Int)) (k := k) (by omega) ⟨h2, hk⟩ h1
    show rnk ((B.map fun x => 0 - x).length : Int) k (0 - x + k).toNat + rank (B.map fun x => 0 - x) (k - szV (0 - x)) = cN ((B.length + 1 : Nat) : Int) k - 1 - (rnk (B.length : Int) k (x + k).toNat + rank B (k - szV x))
    rw [List.length_map, szV_neg, ih, show ((B.length + 1 : Nat) : Int) = (B.length : Int) + 1 by omega]
    omega
theorem pul_le {zs : List Int} {l : Nat} (hl : l ≤ zs.length) (h : pulA zs l ≤ 8) : l ≤ 8 ∧ pulA zs l = sumA (zs.take l) (zs.take l).length := by
  rw [pulA_def] at h
  have l8 : l ≤ 8 := by
    by_cases h' : l ≤ 8
    · exact h'
    · rw [if_neg h'] at h; omega
  rw [if_pos l8] at h
  refine ⟨l8, ?_⟩
  have lt : (zs.take l).length = l := by simp; omega
  have same : ∀ i, i ≤ l → sumA (zs.take l) i = sumA zs i := fun i hi => by
    induction i with
    | zero => rfl
    | succ i ih =>
      show sumA (zs.take l) i + szV ((zs.take l).getD i 0) = sumA zs i + szV (zs.getD i 0)
      rw [ih (by omega), getD_take (by omega)]
  rw [lt, same l (Nat.le_refl l), pulA_def, if_pos l8]
  omega
theorem pul_row {A rest : List Int} (h8 : A.length ≤ 8) (hs : sumA A A.length ≤ 8) : pulA (A ++ rest) A.length = sumA A A.length := by
  have same : ∀ i, i ≤ A.length → sumA (A ++ rest) i = sumA A i := fun i hi => by
    induction i with
    | zero => rfl
    | succ i ih =>
      show sumA (A ++ rest) i + szV ((A ++ rest).getD i 0) = sumA A i + szV (A.getD i 0)
      rw [ih (by omega), left_at (by omega)]
  rw [pulA_def, if_pos h8, same _ (Nat.le_refl _)]
  omega
theorem sumA_at {A : List Int} {i : Nat} (h : i < A.length) : szV (A.getD i 0) ≤ sumA A A.length := by
  have key : ∀ n : Nat, i < n → szV (A.getD i 0) ≤ sumA A n := fun n => by
    induction n with
    | zero => intro h; omega
    | succ n ih =>
      intro hn
      have h1 := (sumA_in A n).1
      have h2 := (szV_in (A.getD n 0)).1
      show _ ≤ sumA A n + szV (A.getD n 0)
      rcases Nat.lt_or_ge i n with h3 | h3
      · have := ih h3; omega
      · obtain rfl : i = n := by omega
        omega
  exact key _ h
theorem small_of {x : Int} (h : szV x ≤ 8) : -8 ≤ x ∧ x ≤ 8 := by
  rw [szV_def] at h
  split at h
  · omega
  · unfold absI at h; omega

/-- A law over one slice of integers, from its walks. -/
theorem law_slice {F : Fns} (hF : FnsOk Try.prog F) {n : Nat} {f : FuncId} {fn : Func} (hf : Try.prog.funcs[f]? = some fn) {ws : List W} {w0 : World} {v : Value} (w : SlIn .i64 w0 v) (hr : rngW ws) (hb : bndW 0 ws = true)
    (h0 : walk F n fn (.c .csn :: ws) [] fun y _ => y = vb true)
    (h1 : ∀ (zs : List Int) (l : Nat), l ≤ zs.length → zs.length ≤ 9223372036854775807 → (∀ z ∈ zs, InK .i64 z) → walk F n fn (.c (.csl 0 0 0 l zs.length) :: ws) [.ro [.ints .i64 zs.length zs]] fun y _ => y = vb true) :
    Calls Try.prog f (v :: ws.map (W.den fun _ => (0, 0))).toArray w0 fun e w' => e = .returned (.bool true) ∧ Below w0.heap.size w0 w' := by
  rcases w with rfl | ⟨b, o, len, cap, zs, rfl, hl, hc, hbw, hz, hx, hcell⟩
  · exact walk_true (ws := .c .csn :: ws) hF hf ⟨trivial, hr⟩ (by show (true && bndW 0 ws) = true; rw [hb]; rfl) h0 w0
  · subst hz
    have e := denW_agree (n := 0) (σ := fun _ => (b, o)) (τ := fun _ => (0, 0)) (fun j hj => absurd hj (Nat.not_lt_zero j)) ws hb
    have := walk_true_ro (ws := .c (.csl 0 0 0 len zs.length) :: ws) hF hf ⟨⟨hl, hc⟩, hr⟩ (by show (true && bndW 1 ws) = true; rw [bndW_mono (Nat.zero_le 1) ws hb]; rfl) (h1 zs len hl hc hx) (ro_ok hx) (fun _ => (b, o)) w0 (by
      intro j c hj
      match j, hj with
      | 0, hj => simp at hj; subst hj; exact ⟨rfl, ro_of_slIn rfl hbw hcell⟩
      | j + 1, hj => simp at hj)
    rw [List.map_cons, e] at this
    exact this

/-! ### the law VectTurns -/
noncomputable def negL (zs : List Int) (i : Nat) : List Int := (List.range i).map fun j => 0 - zs.getD j 0
theorem negL_len (zs : List Int) (i : Nat) : (negL zs i).length = i := by simp [negL]
theorem negL_next (zs : List Int) (i : Nat) : negL zs (i + 1) = negL zs i ++ [0 - zs.getD i 0] := by simp [negL, List.range_succ]
theorem negL_take {zs : List Int} {l : Nat} (h : l ≤ zs.length) : negL zs l = (zs.take l).map fun x => 0 - x := by
  have lt : (zs.take l).length = l := by simp; omega
  refine row_ext (by rw [negL_len, List.length_map, lt]) fun j hj => ?_
  rw [negL_len] at hj
  unfold negL
  rw [getD_range hj, getD_map (by omega), getD_take hj]
theorem turns_nil : walk FZ 0 Try.f11 [.c .csn] [] fun y _ => y = vb true := by
  have c00 : cC ((0 : Nat) : Int) 0 = 1 := by rw [cC_def, if_pos (by decide)]; exact cN_zero
  repeat' ((conv => whnf); first | (refine ask_false (by decide) ?_) | fail)
  conv => whnf
  refine loop_at (3 :: 4 :: List.range' 22 14) (fun m (i : Int) => i = 0 ∧ m = 0) (fun i => [(3, .w (.c .csn)), (4, vi i)]) (fun _ => []) 0 0 ⟨rfl, rfl⟩ ?_ ?_
  · exact ⟨rfl, ⟨⟨Nat.le_of_ble_eq_true rfl, rfl⟩, ⟨Nat.le_of_ble_eq_true rfl, rfl⟩, trivial⟩, trivial, rfl, rfl, Nat.le_of_ble_eq_true rfl⟩
  · rintro m i ⟨rfl, rfl⟩
    repeat' ((conv => whnf); first | (refine ask_false (by decide) ?_) | (refine ask_true rfl ?_) | (refine ask_wrap64 (by omega) (by omega) ?_) | (refine And.intro trivial ?_) | (refine ask_true (by omega) ?_) | rfl | fail)
theorem turns_row (zs : List Int) (l : Nat) (hl : l ≤ zs.length) (hc : zs.length ≤ 9223372036854775807) : walk FZ 0 Try.f11 [.c (.csl 0 0 0 l zs.length)] [.ro [.ints .i64 zs.length zs]] fun y _ => y = vb true := by
  by_cases h8 : 8 < l
  · repeat' ((conv => whnf); first | (refine ask_true (by omega) ?_) | rfl | fail)
  · by_cases hp : 8 < pulA zs l
    · repeat' ((conv => whnf); first | (refine ask_true (by omega) ?_) | (refine ask_false (by omega) ?_) | (refine And.intro ⟨rfl, rfl⟩ ?_) | (refine And.intro rfl ?_) | rfl | fail)
    · obtain ⟨_, eP⟩ := pul_le hl (by omega)
      have lt : (zs.take l).length = l := by simp; omega
      have zb : ∀ i : Nat, i < l → -8 ≤ zs.getD i 0 ∧ zs.getD i 0 ≤ 8 := fun i hi => by
        have := sumA_at (A := zs.take l) (i := i) (by omega)
        rw [getD_take hi] at this
        exact small_of (by omega)
      repeat' ((conv => whnf); first | (refine ask_true (by omega) ?_) | (refine ask_false (by omega) ?_) | (refine And.intro ⟨rfl, rfl⟩ ?_) | (refine And.intro rfl ?_) | fail)
      conv => whnf
      refine loop_ren3 (3 :: 4 :: List.range' 22 14) (fun m (i : Int) (v : V) (b : Blk) => 0 ≤ i ∧ i ≤ l ∧ m = (l - i).toNat ∧ rowS 1 (negL zs i.toNat) v b) (fun i v _ => [(3, v), (4, vi i)]) (fun _ _ b => [.ro [.ints .i64 zs.length zs], b]) l 0 (.w (.c .csn)) .gone ⟨by decide, by omega, by omega, .inl ⟨rfl, rfl, rfl⟩⟩ id ?_ ?_
      · refine ⟨?_, ?_, fun _ _ _ _ h => h, fun _ _ => rfl, rfl, rfl, Nat.le_of_ble_eq_true rfl⟩
        · repeat' (first | exact trivial | refine And.intro rfl ?_ | fail)
        · repeat' (first | exact trivial | refine And.intro rfl ?_ | fail)
      · rintro _ i v b ⟨i0, i1, rfl, hr⟩
        have em : mulN i.toNat (Try.prog.types[3]).size = i.toNat := mulN1 _
        have nl := negL_len zs i.toNat
        rcases Int.lt_or_le i l with i2 | i2
        · have ez : zs.getD (0 + mulN i.toNat (Try.prog.types[3]).size) 0 = zs.getD i.toNat 0 := by rw [em, Nat.zero_add]
          have zi := zb i.toNat (by omega)
          have nx : negL zs (i + 1).toNat = negL zs i.toNat ++ [(0 : Int) - zs.getD (0 + mulN i.toNat (Try.prog.types[3]).size) 0] := by rw [show (i + 1).toNat = i.toNat + 1 by omega, negL_next, ez]
          rcases hr with ⟨t0, rfl, rfl⟩ | ⟨t0, d, s, f1, f2, f3, rfl, rfl⟩
          · have i00 : i.toNat = 0 := by rw [← nl, t0]; rfl
            obtain rfl : i = 0 := by omega
            repeat' ((conv => whnf); first | (refine ask_true (by omega) ?_) | (refine And.intro (by omega) ?_) | (refine fun (_ : InK _ _) => ?_) | (refine ask_wrap64 (by omega) (by omega) ?_) | fail)
            conv => whnf
            refine And.intro ⟨by decide, by decide, Nat.le_of_ble_eq_true (by kernel_rfl)⟩ (fresh_as (zs := negL zs (0 : Int).toNat ++ [0 - zs.getD (0 + mulN (0 : Int).toNat (Try.prog.types[3]).size) 0]) (by rw [t0]; rfl) fun c R h1 h2 h3 => ?_)
            repeat' ((conv => whnf); first | (refine ask_wrap64 (by omega) (by omega) ?_) | fail)
            conv => whnf
            refine ⟨((l : Int) - (0 + 1)).toNat, (0 + 1, .w (.c (.csl 1 0 0 ((0 : Int).toNat + 1) c)), .own 3 [.ints .i64 c (negL zs (0 : Int).toNat ++ [0 - zs.getD (0 + mulN (0 : Int).toNat (Try.prog.types[3]).size) 0] ++ R)]), rho13, by omega, ⟨by show (0 : Int) ≤ 0 + 1; omega, by show (0 : Int) + 1 ≤ (l : Int); omega, rfl, ?_⟩, ⟨?_, And.intro rfl (And.intro rfl trivial), fun _ _ hp hq => rho13_inj hp hq, fun p hp => by unfold rho13; rw [if_neg (by have : p < 1 := hp; omega)], rfl, rfl, Nat.le_of_ble_eq_true rfl⟩⟩
            · show rowS 1 (negL zs ((0 : Int) + 1).toNat) _ _
              rw [nx]; exact rowS_next nl.symm (by omega) (by omega) (by omega)
            · repeat' (first | exact trivial | refine And.intro rfl ?_ | fail)
          · rw [nl] at f1 f3
            rw [nl]
            repeat' ((conv => whnf); first | (refine ask_true (by omega) ?_) | (refine And.intro (by omega) ?_) | (refine fun (_ : InK _ _) => ?_) | (refine ask_wrap64 (by omega) (by omega) ?_) | fail)
            conv => whnf
            refine And.intro ⟨rfl, by omega, by rw [bytes3]; omega⟩ (And.intro (fun hroom => ?_) fun hg => fresh_as (zs := negL zs i.toNat ++ [0 - zs.getD (0 + mulN i.toNat (Try.prog.types[3]).size) 0]) (grow_eq nl.symm) fun c R h1 h2 h3 => ?_)
            · have hroom' : i.toNat + 1 ≤ d := hroom
              have lr : (s.drop 1).length = d - (i.toNat + 1) := by rw [List.length_drop]; omega
              repeat' ((conv => whnf); first | (refine ask_wrap64 (by omega) (by omega) ?_) | fail)
              conv => whnf
              refine ⟨(l - (i + 1)).toNat, (i + 1, .w (.c (.csl 1 0 0 (i.toNat + 1) d)), .own 3 [.ints .i64 d (negL zs i.toNat ++ [0 - zs.getD (0 + mulN i.toNat (Try.prog.types[3]).size) 0] ++ s.drop 1)]), id, by omega, ⟨by show 0 ≤ i + 1; omega, by show i + 1 ≤ (l : Int); omega, rfl, ?_⟩, ⟨?_, And.intro rfl (And.intro (congrArg some (congrArg (fun ys => Blk.own 3 [.ints .i64 _ ys]) (room_eq nl.symm))) trivial), fun _ _ _ _ h => h, fun _ _ => rfl, rfl, rfl, Nat.le_of_ble_eq_true rfl⟩⟩
              · show rowS 1 (negL zs (i + 1).toNat) _ _
                rw [nx]; exact rowS_next nl.symm (by omega) (by omega) lr
              · repeat' (first | exact trivial | refine And.intro rfl ?_ | fail)
            · have hroom' : i.toNat + 1 ≤ c := h1
              repeat' ((conv => whnf); first | (refine ask_wrap64 (by omega) (by omega) ?_) | fail)
              conv => whnf
              refine ⟨(l - (i + 1)).toNat, (i + 1, .w (.c (.csl 1 0 0 (i.toNat + 1) c)), .own 3 [.ints .i64 c (negL zs i.toNat ++ [0 - zs.getD (0 + mulN i.toNat (Try.prog.types[3]).size) 0] ++ R)]), rho13, by omega, ⟨by show 0 ≤ i + 1; omega, by show i + 1 ≤ (l : Int); omega, rfl, ?_⟩, ⟨?_, And.intro rfl (And.intro rfl trivial), fun _ _ hp hq => rho13_inj hp hq, fun p hp => by unfold rho13; rw [if_neg (by have : p < 1 := hp; omega)], rfl, rfl, Nat.le_of_ble_eq_true rfl⟩⟩
              · show rowS 1 (negL zs (i + 1).toNat) _ _
                rw [nx]; exact rowS_next nl.symm (by omega) (by omega) (by omega)
              · repeat' (first | exact trivial | refine And.intro rfl ?_ | fail)
        · have it : i.toNat = l := by omega
          rw [it] at hr nl
          have hn := negL_take hl
          have hs := sumA_neg (zs.take l)
          rw [← hn, nl] at hs
          have hT := rank_turn (zs.take l) (sumA (zs.take l) (zs.take l).length) rfl (by omega) (by omega)
          rw [← hn, lt] at hT
          have hb := rank_in (zs.take l) (sumA (zs.take l) (zs.take l).length) rfl (by omega) (by omega)
          rw [lt] at hb hs eP
          have cb := cN_in (n := (l : Int)) (k := sumA (zs.take l) l) (by omega) (by omega)
          have cc : cC l (pulA zs l) = cN l (sumA (zs.take l) l) := by
            rw [eP, cC_def, if_pos ⟨by omega, (sumA_in _ _).1, by omega⟩]
          have e1 : numOf (zs.take l) = rank (zs.take l) (sumA (zs.take l) l) := by unfold numOf; rw [lt]
          rcases hr with ⟨t0, rfl, rfl⟩ | ⟨t0, d, s, f1, f2, f3, rfl, rfl⟩
          · have l0 : l = 0 := by rw [← nl, t0]; rfl
            subst l0
            have s0 : sumA (zs.take 0) 0 = 0 := rfl
            have r0 : rank (zs.take 0) (sumA (zs.take 0) 0) = 0 := rfl
            have c0 : cN ((0 : Nat) : Int) (sumA (zs.take 0) 0) = 1 := cN_zero
            repeat' ((conv => whnf); first | (refine ask_false (by omega) ?_) | (refine And.intro ⟨rfl, rfl⟩ ?_) | (refine And.intro rfl ?_) | (refine And.intro (fun _ => ?_) (fun h => absurd (by omega) h)) | (refine ask_wrap64 (by omega) (by omega) ?_) | (refine And.intro trivial ?_) | (refine ask_true rfl ?_) | (refine ask_true (by omega) ?_) | rfl | fail)
          · rw [nl] at f1 f3 ⊢
            have pr := pul_row (A := negL zs l) (rest := s) (by omega) (by rw [nl]; omega)
            rw [nl] at pr
            have et : List.take l (negL zs l ++ s) = negL zs l := take_all nl.symm
            have e2 : numOf (List.take l (negL zs l ++ s)) = rank (negL zs l) (sumA (zs.take l) l) := by unfold numOf; rw [et, nl, hs]
            repeat' ((conv => whnf); first | (refine ask_false (by omega) ?_) | (refine And.intro ⟨rfl, rfl⟩ ?_) | (refine And.intro rfl ?_) | (refine And.intro (fun _ => ?_) (fun h => absurd (by omega) h)) | (refine ask_wrap64 (by omega) (by omega) ?_) | (refine And.intro trivial ?_) | (refine ask_true rfl ?_) | (refine ask_true (by omega) ?_) | rfl | fail)
theorem law_VectTurns (W0 : World) (v : Value) (w : SlIn .i64 W0 v) : Calls Try.prog 11 #[v] W0 fun e w' => e = .returned (.bool true) ∧ Below W0.heap.size W0 w' :=
  law_slice FZ_ok Try.func11 (n := 0) (ws := []) w trivial rfl turns_nil fun zs l hl hc hx => turns_row zs l hl hc
end Go.Proofs.Ytmkdamfdlkpjdaa
