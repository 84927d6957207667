/- Chapter vect: how many vectors there are: the recursion over a map, walked. -/
import Derived.Test.YtmkdamfdlkpjdaaVb
set_option linter.all false
namespace Go.Proofs.Ytmkdamfdlkpjdaa
open Go.RowKit (Below)
open Go.WideMaps
set_option maxRecDepth 100000
set_option maxHeartbeats 32000000

/-! ### counts -/
def sumTo (xs : List Int) : Nat → Int
  | 0 => 0
  | j + 1 => sumTo xs j + xs.getD j 0
def crow : Nat → List Int
  | 0 => [1, 0, 0, 0, 0, 0, 0, 0, 0]
  | n + 1 => (List.range 9).map fun k => (crow n).getD k 0 + 2 * sumTo (crow n) k
/-- How many vectors there are. -/
@[irreducible] noncomputable def cN : Int → Int → Int := sealed fun n k => if n < 0 ∨ k < 0 then 0 else (crow n.toNat).getD k.toNat 0
theorem cN_def (n k : Int) : cN n k = if n < 0 ∨ k < 0 then 0 else (crow n.toNat).getD k.toNat 0 := by unfold cN; rw [sealed_eq]
theorem cN_neg {n k : Int} (h : n < 0 ∨ k < 0) : cN n k = 0 := by rw [cN_def, if_pos h]
theorem cN_nat (n k : Nat) : cN n k = (crow n).getD k 0 := by rw [cN_def, if_neg (by omega), Int.toNat_natCast, Int.toNat_natCast]
theorem crow_in : (List.range 9).all (fun n => (List.range 9).all fun k => decide (0 ≤ (crow n).getD k 0 ∧ (crow n).getD k 0 ≤ 4294967296)) = true := by kernel_rfl
theorem cN_in {n k : Int} (hn : n ≤ 8) (hk : k ≤ 8) : 0 ≤ cN n k ∧ cN n k ≤ 4294967296 := by
  rcases Classical.em (n < 0 ∨ k < 0) with h | h
  · rw [cN_neg h]; decide
  · rw [cN_def, if_neg h]
    have h1 := List.all_eq_true.1 crow_in n.toNat (List.mem_range.2 (by omega))
    exact of_decide_eq_true (List.all_eq_true.1 h1 k.toNat (List.mem_range.2 (by omega)))
theorem cN_zero : cN 0 0 = 1 := by rw [cN_def]; decide
theorem cN_none {k : Int} (h : 1 ≤ k) (hk : k ≤ 8) : cN 0 k = 0 := by
  obtain rfl | rfl | rfl | rfl | rfl | rfl | rfl | rfl : k = 1 ∨ k = 2 ∨ k = 3 ∨ k = 4 ∨ k = 5 ∨ k = 6 ∨ k = 7 ∨ k = 8 := by omega
  all_goals rw [cN_def]; decide
/-- The sum, so far. -/
noncomputable def partC (n k : Int) : Nat → Int
  | 0 => cN (n - 1) k
  | j + 1 => partC n k j + 2 * cN (n - 1) j
theorem partC_in {n k : Int} (hn : n ≤ 9) (hk : k ≤ 8) : ∀ j : Nat, j ≤ 9 → 0 ≤ partC n k j ∧ partC n k j ≤ 4294967296 * (1 + 2 * j)
  | 0, _ => by have := cN_in (n := n - 1) (k := k) (by omega) hk; show 0 ≤ cN _ _ ∧ cN _ _ ≤ _; omega
  | j + 1, hj => by
    have := partC_in hn hk j (by omega)
    have := cN_in (n := n - 1) (k := j) (by omega) (by omega)
    show 0 ≤ partC n k j + 2 * cN (n - 1) j ∧ partC n k j + 2 * cN (n - 1) j ≤ _
    omega
theorem partC_all {n k : Int} (h1 : 1 ≤ n) (hk : 0 ≤ k ∧ k ≤ 8) : partC n k k.toNat = cN n k := by
  have key : ∀ j : Nat, partC n k j = cN (n - 1) k + 2 * sumTo (crow (n - 1).toNat) j := fun j => by
    induction j with
    | zero => show cN _ _ = _ + 2 * (0 : Int); omega
    | succ j ih =>
      show partC n k j + 2 * cN (n - 1) j = _ + 2 * (sumTo _ j + _)
      rw [ih, show cN (n - 1) j = (crow (n - 1).toNat).getD j 0 by rw [cN_def, if_neg (by omega), Int.toNat_natCast]]
      omega
  rw [key, cN_def n k, if_neg (by omega), cN_def, if_neg (by omega), show n.toNat = (n - 1).toNat + 1 by omega]
  show _ = ((List.range 9).map fun k => (crow (n - 1).toNat).getD k 0 + 2 * sumTo (crow (n - 1).toNat) k).getD k.toNat 0
  rw [getD_range (by omega)]

/-! ### the walk -/
def cntQ (a b v : Int) : Prop := v = cN a b
def hOf (m : Nat) : HCt := fun ws H K => match ws with
  | [.c (.cm j), .c (.ci .i64 n), .c (.ci .i64 k)] => mapAt H j cntQ ∧ (n ≤ m ∧ n ≤ 8 ∧ k ≤ 8) ∧ ∀ H', H' = H.set j (.obj (mapI cntQ)) → K (vi (cN n k)) H'
  | _ => False
theorem mty : MapTy Try.prog 54 := ⟨56, 3, 3, _, by kernel_rfl, ⟨by kernel_rfl, by kernel_rfl, by kernel_rfl, by kernel_rfl⟩, by kernel_rfl, ⟨Try.prog.types.size.pred, (Nat.succ_pred_eq_of_pos (of_decide_eq_true (by kernel_rfl))).symm⟩, rfl, by kernel_rfl⟩
theorem lenH_at {H : List Blk} {n : Nat} {K : Nat → Prop} (h : K (n + H.length)) : lenH H n K := (lenH_iff _ _ _).2 h
theorem pushH_at {H : List Blk} {b : Blk} {K : List Blk → Prop} (h : K (H ++ [b])) : pushH H b K := (pushH_iff _ _ _).2 h
theorem setH_at {H : List Blk} {n : Nat} {b : Blk} {K : List Blk → Prop} (h : K (H.set n b)) : setH H n b K := (setH_iff _ _ _ _).2 h
theorem wkH_refl : ∀ H : List Blk, wkH H H
  | [] => trivial
  | .gone :: H => wkH_refl H
  | .own _ _ :: H => ⟨rfl, wkH_refl H⟩
  | .ro _ :: H => ⟨rfl, wkH_refl H⟩
  | .obj _ :: H => ⟨rfl, wkH_refl H⟩
theorem bndH_of {n : Nat} : ∀ {H : List Blk}, (∀ b ∈ H, b.bnd n = true) → bndH n H = true
  | [], _ => rfl
  | b :: H, h => by
    show (b.bnd n && bndH n H) = true
    rw [h b (by simp), bndH_of fun c hc => h c (by simp [hc])]; rfl
theorem and_t {a b : Bool} (h : a = true) (k : b = true) : (a && b) = true := by rw [h, k]; rfl
theorem Blk.bnd_up {n m : Nat} (h : n ≤ m) : ∀ b : Blk, b.bnd n = true → b.bnd m = true
  | .own _ ss, hb => bnds_mono h ss hb
  | .ro ss, hb => bnds_mono h ss hb
  | .obj _, _ => rfl
  | .gone, _ => rfl
theorem setH_as {H H' : List Blk} {n : Nat} {b : Blk} {K : List Blk → Prop} (h : H.set n b = H') (hk : K H') : setH H n b K := by
  subst h; exact setH_at hk
theorem hGet_at {b : Blk} : ∀ {H : List Blk} {n : Nat} {K : Blk → Prop}, H[n]? = some b → K b → hGet H n K
  | [], _, _, h, _ => by simp at h
  | _ :: _, 0, _, h, hk => by simp at h; subst h; exact hk
  | _ :: H, n + 1, _, h, hk => hGet_at (H := H) (n := n) (by simpa using h) hk
noncomputable def FO (m : Nat) : Fns := F0.over 39 (hOf m)
theorem of_walk (m : Nat) {n k : Int} (hn : n ≤ m + 1 ∧ n ≤ 8) (hk : k ≤ 8) (hni : InK .i64 n) (hki : InK .i64 k) {R : Obj → Prop} (hR : ∀ o, R o → mapI cntQ o) (T : List Blk) (hT : HOk (T ++ [.obj R])) :
    walk (FO m) 0 Try.f39 (.c (.cm T.length) :: [i64 n, i64 k]) (T ++ [.obj R]) fun x H' => x = vi (cN n k) ∧ ∃ R' B, H' = T ++ .obj R' :: B ∧ ∀ o, R' o → mapI cntQ o := by
  have stop : ∃ R' B, T ++ [.obj R] = T ++ .obj R' :: B ∧ ∀ o, R' o → mapI cntQ o := ⟨R, [], rfl, hR⟩
  obtain ⟨n1, n2⟩ := hni
  obtain ⟨k1, k2⟩ := hki
  simp only [lowK, highK] at n1 n2 k1 k2
  rcases Int.lt_or_le k 0 with hk0 | hk0
  · rw [cN_neg (.inr hk0)]
    repeat' ((conv => whnf); first | (refine lenH_at ?_) | (refine ask_true (by omega) ?_) | (refine ask_false (by omega) ?_) | fail)
    conv => whnf
    exact ⟨rfl, stop⟩
  · rcases Int.lt_or_le n 0 with hn0 | hn0
    · rw [cN_neg (.inl hn0)]
      repeat' ((conv => whnf); first | (refine lenH_at ?_) | (refine pushH_at ?_) | (refine setH_at ?_) | (refine ask_true (by omega) ?_) | (refine ask_false (by omega) ?_) | fail)
      conv => whnf
      exact ⟨rfl, stop⟩
    · rcases Classical.em (n = 0) with h0 | h0
      · subst h0
        rcases Classical.em (k = 0) with h1 | h1
        · subst h1
          rw [cN_zero]
          repeat' ((conv => whnf); first | (refine lenH_at ?_) | (refine pushH_at ?_) | (refine setH_at ?_) | (refine ask_true (by omega) ?_) | (refine ask_false (by omega) ?_) | fail)
          conv => whnf
          exact ⟨rfl, stop⟩
        · rw [cN_none (by omega) hk]
          repeat' ((conv => whnf); first | (refine lenH_at ?_) | (refine pushH_at ?_) | (refine setH_at ?_) | (refine ask_true (by omega) ?_) | (refine ask_false (by omega) ?_) | fail)
          conv => whnf
          exact ⟨rfl, stop⟩
      · repeat' ((conv => whnf); first | (refine lenH_at ?_) | (refine pushH_at ?_) | (refine setH_at ?_) | (refine ask_true (by omega) ?_) | (refine ask_false (by omega) ?_) | fail)
        conv => whnf
        refine hGet_at (b := .own 56 [.ints .i64 2 [0, 0]]) (by simp) ?_
        conv => whnf
        have eS : (T ++ [Blk.obj R] ++ [Blk.own 56 [.ints .i64 2 [0, 0]]]).set (0 + (T ++ [Blk.obj R]).length) (.own 56 [.ints .i64 2 [n, k]]) = T ++ [Blk.obj R] ++ [Blk.own 56 [.ints .i64 2 [n, k]]] := by simp
        refine setH_as (H' := T ++ [Blk.obj R] ++ [Blk.own 56 [.ints .i64 2 [n, k]]]) eS ?_
        repeat' ((conv => whnf); first | (refine lenH_at ?_) | (refine pushH_at ?_) | (refine ask_true (by omega) ?_) | (refine ask_false (by omega) ?_) | (refine hGet_at (b := .own 56 [.ints .i64 2 [n, k]]) (by simp) ?_) | fail)
        conv => whnf
        refine And.intro ⟨mty, rfl⟩ ⟨cntQ, ⟨R, by simp, hR⟩, fun v hv hq => ?_, ?_⟩
        · repeat' ((conv => whnf); first | (refine lenH_at ?_) | (refine pushH_at ?_) | (refine ask_true (by omega) ?_) | (refine ask_false (by omega) ?_) | (refine hGet_at (b := .own 56 [.ints .i64 2 [n, k]]) (by simp) ?_) | fail)
          conv => whnf
          exact ⟨congrArg vi hq, R, [Blk.own 56 [.ints .i64 2 [n, k]]], by simp, hR⟩
        · repeat' ((conv => whnf); first | (refine lenH_at ?_) | (refine pushH_at ?_) | (refine ask_true (by omega) ?_) | (refine ask_false (by omega) ?_) | (refine hGet_at (b := .own 56 [.ints .i64 2 [n, k]]) (by simp) ?_) | (refine ask_wrap64 (by omega) (by omega) ?_) | fail)
          conv => whnf
          refine And.intro ⟨R, by simp, hR⟩ (And.intro ⟨by omega, by omega, hk⟩ fun H' eH => ?_)
          have eH' : H' = T ++ [Blk.obj (mapI cntQ)] ++ [Blk.own 56 [.ints .i64 2 [n, k]]] := by rw [eH]; simp
          clear eH
          subst eH'
          repeat' ((conv => whnf); first | (refine lenH_at ?_) | (refine pushH_at ?_) | (refine ask_true (by omega) ?_) | (refine ask_false (by omega) ?_) | (refine hGet_at (b := .own 56 [.ints .i64 2 [n, k]]) (by simp) ?_) | fail)
          conv => whnf
          obtain ⟨HS, eHS⟩ : ∃ HS, HS = T ++ [Blk.obj (mapI cntQ)] ++ [Blk.own 56 [.ints .i64 2 [n, k]]] := ⟨_, rfl⟩
          have d1 : decide (T.length < HS.length) = true := by rw [eHS]; simp
          have d2 : decide (0 + (T ++ [Blk.obj R]).length < HS.length) = true := by rw [eHS]; simp
          have hbh : bndH HS.length HS = true := bndH_of fun b hb => by
            rw [eHS] at hb
            rcases List.mem_append.1 hb with hb | hb
            · rcases List.mem_append.1 hb with hb | hb
              · exact Blk.bnd_up (by rw [eHS]; simp) b (hT.bnd b (List.mem_append_left _ hb))
              · rw [List.mem_singleton.1 hb]; rfl
            · rw [List.mem_singleton.1 hb]; rfl
          have hlo : 0 + (T ++ [Blk.obj R]).length ≤ HS.length := by rw [eHS]; simp
          have hat : HS[T.length]? = some (.obj (mapI cntQ)) := by rw [eHS]; simp
          have hset : HS.set T.length (.obj (mapI cntQ)) = HS := by rw [eHS]; simp
          have hkey : HS[0 + (T ++ [Blk.obj R]).length]? = some (.own 56 [.ints .i64 2 [n, k]]) := by rw [eHS]; simp
          have hfin : HS = T ++ .obj (mapI cntQ) :: [Blk.own 56 [.ints .i64 2 [n, k]]] := by rw [eHS]; simp
          rw [← eHS]
          clear eHS
          refine loop_at (10 :: 11 :: List.range' 46 12) (fun m (j : Int) => 0 ≤ j ∧ j ≤ k ∧ m = (k - j).toNat) (fun j => [(10, vi (partC n k j.toNat)), (46, vi j)]) (fun _ => HS) k.toNat 0 ⟨by decide, by omega, by omega⟩ ?_ ?_
          · refine ⟨rfl, ⟨⟨Nat.le_of_ble_eq_true rfl, rfl⟩, ⟨Nat.le_of_ble_eq_true rfl, rfl⟩, trivial⟩, wkH_refl _, ?_, hbh, hlo⟩
            repeat' (first | rfl | exact d1 | exact d2 | refine and_t ?_ ?_)
          · rintro mm j ⟨j0, j1, rfl⟩
            have pc := partC_in (n := n) (k := k) (by omega) hk j.toNat (by omega)
            have cc := cN_in (n := n - 1) (k := j) (by omega) (by omega)
            have pn : partC n k j.toNat + 2 * cN (n - 1) j = partC n k (j + 1).toNat := by
              rw [show (j + 1).toNat = j.toNat + 1 by omega]
              show _ = partC n k j.toNat + 2 * cN (n - 1) (j.toNat : Int)
              rw [show ((j.toNat : Nat) : Int) = j by omega]
            rcases Int.lt_or_le j k with j2 | j2
            · repeat' ((conv => whnf); first | (refine lenH_at ?_) | (refine pushH_at ?_) | (refine ask_true (by omega) ?_) | (refine ask_false (by omega) ?_) | (refine hGet_at (b := .own 56 [.ints .i64 2 [n, k]]) (by simp) ?_) | (refine ask_wrap64 (by omega) (by omega) ?_) | fail)
              conv => whnf
              refine And.intro ⟨_, hat, fun o h => h⟩ (And.intro ⟨by omega, by omega, by omega⟩ fun H' eH => ?_)
              rw [hset] at eH
              subst eH
              repeat' ((conv => whnf); first | (refine lenH_at ?_) | (refine pushH_at ?_) | (refine ask_true (by omega) ?_) | (refine ask_false (by omega) ?_) | (refine hGet_at (b := .own 56 [.ints .i64 2 [n, k]]) (by simp) ?_) | (refine ask_wrap64 (by omega) (by omega) ?_) | fail)
              conv => whnf
              refine ⟨(k - (j + 1)).toNat, j + 1, by omega, ⟨by omega, by omega, rfl⟩, rfl, ⟨⟨Nat.le_of_ble_eq_true rfl, congrArg vi pn⟩, ⟨Nat.le_of_ble_eq_true rfl, rfl⟩, trivial⟩, wkH_refl _, ?_, hbh, hlo⟩
              repeat' (first | rfl | exact d1 | exact d2 | refine and_t ?_ ?_)
            · have ej : j = k := by omega
              have pa := partC_all (n := n) (k := k) (by omega) ⟨hk0, hk⟩
              rw [← ej] at pa
              repeat' ((conv => whnf); first | (refine lenH_at ?_) | (refine pushH_at ?_) | (refine ask_true (by omega) ?_) | (refine ask_false (by omega) ?_) | (refine hGet_at hkey ?_) | fail)
              conv => whnf
              refine And.intro ⟨mty, rfl⟩ ⟨cntQ, ⟨_, hat, fun o h => h⟩, by rw [ej] at pa ⊢; exact pa, fun H' eH => ?_⟩
              rw [hset] at eH
              subst eH
              repeat' ((conv => whnf); first | (refine lenH_at ?_) | (refine pushH_at ?_) | (refine ask_true (by omega) ?_) | (refine ask_false (by omega) ?_) | fail)
              conv => whnf
              refine ⟨congrArg vi (by rw [← ej]; exact pa), mapI cntQ, _, hfin, fun o h => h⟩
theorem of_base {n k : Int} (hn : n ≤ 0) (hk : k ≤ 8) (hni : InK .i64 n) (hki : InK .i64 k) {R : Obj → Prop} (hR : ∀ o, R o → mapI cntQ o) (T : List Blk) :
    walk F0 0 Try.f39 (.c (.cm T.length) :: [i64 n, i64 k]) (T ++ [.obj R]) fun x H' => x = vi (cN n k) ∧ ∃ R' B, H' = T ++ .obj R' :: B ∧ ∀ o, R' o → mapI cntQ o := by
  have stop : ∃ R' B, T ++ [.obj R] = T ++ .obj R' :: B ∧ ∀ o, R' o → mapI cntQ o := ⟨R, [], rfl, hR⟩
  obtain ⟨n1, n2⟩ := hni
  obtain ⟨k1, k2⟩ := hki
  simp only [lowK, highK] at n1 n2 k1 k2
  rcases Int.lt_or_le k 0 with hk0 | hk0
  · rw [cN_neg (.inr hk0)]
    repeat' ((conv => whnf); first | (refine lenH_at ?_) | (refine pushH_at ?_) | (refine ask_true (by omega) ?_) | (refine ask_false (by omega) ?_) | fail)
    conv => whnf
    exact ⟨rfl, stop⟩
  · rcases Int.lt_or_le n 0 with hn0 | hn0
    · rw [cN_neg (.inl hn0)]
      repeat' ((conv => whnf); first | (refine lenH_at ?_) | (refine pushH_at ?_) | (refine ask_true (by omega) ?_) | (refine ask_false (by omega) ?_) | fail)
      conv => whnf
      exact ⟨rfl, stop⟩
    · obtain rfl : n = 0 := by omega
      rcases Classical.em (k = 0) with h1 | h1
      · subst h1
        rw [cN_zero]
        repeat' ((conv => whnf); first | (refine lenH_at ?_) | (refine pushH_at ?_) | (refine ask_true (by omega) ?_) | (refine ask_false (by omega) ?_) | fail)
        conv => whnf
        exact ⟨rfl, stop⟩
      · rw [cN_none (by omega) hk]
        repeat' ((conv => whnf); first | (refine lenH_at ?_) | (refine pushH_at ?_) | (refine ask_true (by omega) ?_) | (refine ask_false (by omega) ?_) | fail)
        conv => whnf
        exact ⟨rfl, stop⟩
theorem of_ct : ∀ m : Nat, HCtOk Try.prog 39 (hOf m)
  | 0 => by
    intro ws H K h hr hb ho G σ base w₀ w hw
    unfold hOf at h
    split at h
    · rename_i j n k
      obtain ⟨⟨R, hj, hR⟩, ⟨h1, h2, h3⟩, hK⟩ := h
      have ci := cN_in h2 h3
      exact map_lift (Q := cntQ) F0_ok Try.func39 (d := 0) (ws := [i64 n, i64 k]) ⟨by show InK .i64 _; simp only [InK, lowK, highK]; omega, rfl⟩ ⟨hr.2.1, hr.2.2.1, trivial⟩ rfl (fun T _ => of_base (by omega) h3 hr.2.1 hr.2.2.1 hR T) hj (hK _ rfl) ho G σ base w₀ w hw
    · exact h.elim
  | m + 1 => by
    intro ws H K h hr hb ho G σ base w₀ w hw
    unfold hOf at h
    split at h
    · rename_i j n k
      obtain ⟨⟨R, hj, hR⟩, ⟨h1, h2, h3⟩, hK⟩ := h
      have ci := cN_in h2 h3
      have hF : FnsOk Try.prog (FO m) := F0_ok.over (of_ct m) Try.func39 (by kernel_rfl) (by kernel_rfl)
      exact map_lift (Q := cntQ) hF Try.func39 (d := 0) (ws := [i64 n, i64 k]) ⟨by show InK .i64 _; simp only [InK, lowK, highK]; omega, rfl⟩ ⟨hr.2.1, hr.2.2.1, trivial⟩ rfl (fun T hT => of_walk m ⟨by omega, h2⟩ h3 hr.2.1 hr.2.2.1 hR T hT) hj (hK _ rfl) ho G σ base w₀ w hw
    · exact h.elim
end Go.Proofs.Ytmkdamfdlkpjdaa
