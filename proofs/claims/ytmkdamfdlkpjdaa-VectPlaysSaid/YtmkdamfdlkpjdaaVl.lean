/- Chapter vect: the document's pulses and numbers; how few digits. -/
import Derived.Test.YtmkdamfdlkpjdaaVk
set_option linter.all false
namespace Go.Proofs.Ytmkdamfdlkpjdaa
open Go.RowKit (Below)
open Go.WideMaps
set_option maxRecDepth 100000
set_option maxHeartbeats 64000000

theorem min_sz (x : Int) : min (szF x) 9 = szV x := by
  rw [szV_def, szF_def]; unfold absI; split <;> omega
theorem rpulses_walk (xs : List Int) (l : Nat) (hl : l ≤ xs.length) (hc : xs.length ≤ 9223372036854775807) :
    walk FR9 0 Try.f26 [.c (.csl 0 0 0 l xs.length)] [.ro [.ints .i64 xs.length xs]] (Made fun x N => x = vi (pulA xs l) ∧ N = []) := by
  by_cases h8 : l ≤ 8
  · rw [show pulA xs l = min (sumA xs l) 9 by rw [pulA_def, if_pos h8]]
    repeat' ((conv => whnf); first | (refine ask_false (by omega) ?_) | fail)
    conv => whnf
    refine loop_at (3 :: 4 :: List.range' 8 14) (fun m (i : Int) => 0 ≤ i ∧ i ≤ l ∧ m = (l - i).toNat) (fun i => [(3, vi (min (sumA xs i.toNat) 9)), (4, vi i)]) (fun _ => [.ro [.ints .i64 xs.length xs]]) l 0 ⟨by decide, by omega, by omega⟩ ?_ ?_
    · exact ⟨rfl, ⟨⟨Nat.le_of_ble_eq_true rfl, rfl⟩, ⟨Nat.le_of_ble_eq_true rfl, rfl⟩, trivial⟩, ⟨rfl, trivial⟩, rfl, rfl, Nat.le_of_ble_eq_true rfl⟩
    · rintro m i ⟨i0, i1, rfl⟩
      have em : mulN i.toNat (Try.prog.types[3]).size = i.toNat := mulN1 _
      have si := sumA_in xs i.toNat
      rcases Int.lt_or_le i l with i2 | i2
      · have ex : xs.getD (0 + mulN i.toNat (Try.prog.types[3]).size) 0 = xs.getD i.toNat 0 := by rw [em, Nat.zero_add]
        have hs : sumA xs (i + 1).toNat = sumA xs i.toNat + szV (xs.getD i.toNat 0) := by rw [show (i + 1).toNat = i.toNat + 1 by omega]; rfl
        have ha := szF_in (xs.getD i.toNat 0)
        have hm := min_sz (xs.getD i.toNat 0)
        rw [← ex] at hs ha hm
        repeat' ((conv => whnf); first | (refine ask_true (by omega) ?_) | (refine And.intro (by omega) ?_) | (refine And.intro trivial ?_) | (refine fun (_ : InK _ _) => ?_) | (refine ask_wrap64 (by omega) (by omega) ?_) | fail)
        conv => whnf
        exact ⟨(l - (i + 1)).toNat, i + 1, by omega, ⟨by omega, by omega, rfl⟩, rfl, ⟨⟨Nat.le_of_ble_eq_true rfl, congrArg vi (by show min (min (sumA xs i.toNat) 9 + szF (xs.getD (0 + mulN i.toNat (Try.prog.types[3]).size) 0)) 9 = min (sumA xs (i + 1).toNat) 9; omega)⟩, ⟨Nat.le_of_ble_eq_true rfl, rfl⟩, trivial⟩, ⟨rfl, trivial⟩, rfl, rfl, Nat.le_of_ble_eq_true rfl⟩
      · repeat' ((conv => whnf); first | (refine ask_true (by omega) ?_) | (refine ask_false (by omega) ?_) | fail)
        conv => whnf
        have e : i.toNat = l := by omega
        show Made (fun x N => x = vi (min (sumA xs l) 9) ∧ N = []) (vi (min (sumA xs i.toNat) 9)) _
        rw [e]
        exact made_of (vi (min (sumA xs l) 9)) [] id ⟨rfl, rfl⟩ rfl trivial (fun p q hp _ _ => absurd hp (Nat.not_lt_zero p)) rfl rfl (by intro e; cases e)
  · rw [show pulA xs l = 9 by rw [pulA_def, if_neg h8]]
    repeat' ((conv => whnf); first | (refine ask_true (by omega) ?_) | fail)
    conv => whnf
    exact made_of (vi 9) [] id ⟨rfl, rfl⟩ rfl trivial (fun p q hp _ _ => absurd hp (Nat.not_lt_zero p)) rfl rfl (by intro e; cases e)
theorem rpulses_nil : walk FR9 0 Try.f26 [.c .csn] [] (Made fun x N => x = vi 0 ∧ N = []) := by
  repeat' ((conv => whnf); first | (refine ask_false (by decide) ?_) | fail)
  conv => whnf
  refine loop_at (3 :: 4 :: List.range' 8 14) (fun m (i : Int) => i = 0 ∧ m = 0) (fun i => [(3, vi 0), (4, vi i)]) (fun _ => []) 0 0 ⟨rfl, rfl⟩ ?_ ?_
  · exact ⟨rfl, ⟨⟨Nat.le_of_ble_eq_true rfl, rfl⟩, ⟨Nat.le_of_ble_eq_true rfl, rfl⟩, trivial⟩, trivial, rfl, rfl, Nat.le_of_ble_eq_true rfl⟩
  · rintro m i ⟨rfl, rfl⟩
    repeat' ((conv => whnf); first | (refine ask_false (by decide) ?_) | fail)
    conv => whnf
    exact made_of (vi 0) [] id ⟨rfl, rfl⟩ rfl trivial (fun p q hp _ _ => absurd hp (Nat.not_lt_zero p)) rfl rfl (by intro e; cases e)
theorem rpul_ct : HCtOk Try.prog 26 hPul := by
  intro ws H K h hr hb ho G σ base w₀ w hw
  unfold hPul at h
  split at h
  · exact walk_lift FR9_ok Try.func26 (n := 0) (ws := [.c .csn]) (R := []) nil_ok ⟨trivial, trivial⟩ rfl rpulses_nil val_mine id no_ro rfl (vi_K h) ho G σ base w₀ w hw
  · rename_i x _
    obtain ⟨j, l, xs, h', hx, g1, g2, g3, g4⟩ := slK_spec h ho hr.1
    clear h
    subst hx
    exact walk_lift FR9_ok Try.func26 (n := 0) (ws := [.c (.csl 0 0 0 l xs.length)]) (R := [.ro [.ints .i64 xs.length xs]]) (ro_ok g3) ⟨⟨g1, g2⟩, trivial⟩ rfl (rpulses_walk xs l g1 g2) val_mine (fun _ => j) (ro_at g4) rfl (vi_K h') ho G σ base w₀ w hw
  · exact h.elim

/-! ### numbers -/
noncomputable def FRN : Fns := (FR9.plus 29 (ct2 (fun n k => (0 ≤ n ∧ n ≤ 8) ∧ 0 ≤ k ∧ k ≤ 8) cN)).over 26 hPul
theorem FRN_ok : FnsOk Try.prog FRN := (FR9_ok.plus rcount_ct Try.func29 (by kernel_rfl) (by kernel_rfl)).over rpul_ct Try.func26 (by kernel_rfl) (by kernel_rfl)
theorem rnumber_walk (zs : List Int) (l : Nat) (hl : l ≤ zs.length) (hc : zs.length ≤ 9223372036854775807) (hx : ∀ x ∈ zs, InK .i64 x) (hp : pulA zs l ≤ 8) :
    walk FRN 0 Try.f27 [.c (.csl 0 0 0 l zs.length)] [.ro [.ints .i64 zs.length zs]] (Made fun x N => x = vi (numOf (zs.take l)) ∧ N = []) := by
  have hp' := hp
  rw [pulA_def] at hp'
  have l8 : l ≤ 8 := by
    by_cases h : l ≤ 8
    · exact h
    · rw [if_neg h] at hp'; omega
  rw [if_pos l8] at hp'
  have lt : (zs.take l).length = l := by simp; omega
  have same : ∀ i, i ≤ l → sumA (zs.take l) i = sumA zs i := fun i hi => by
    induction i with
    | zero => rfl
    | succ i ih =>
      show sumA (zs.take l) i + szV ((zs.take l).getD i 0) = sumA zs i + szV (zs.getD i 0)
      rw [ih (by omega), getD_take (by omega)]
  obtain ⟨X, eX⟩ : ∃ X, X = zs.take l := ⟨_, rfl⟩
  rw [← eX] at lt same ⊢
  have Xs : sumA X X.length ≤ 8 := by rw [lt, same l (Nat.le_refl l)]; omega
  have eP : pulA zs l = sumA X X.length := by rw [pulA_def, if_pos l8, lt, same l (Nat.le_refl l)]; omega
  have at0 : ∀ i : Nat, i < l → zs.getD (0 + mulN i (Try.prog.types[3]).size) 0 = X.getD i 0 := fun i hi => by
    have em : mulN i (Try.prog.types[3]).size = i := mulN1 _
    rw [em, Nat.zero_add, eX, getD_take hi]
  have rem0 : ∀ i : Nat, 0 ≤ sumA (X.drop i) (X.drop i).length ∧ sumA (X.drop i) (X.drop i).length ≤ 8 := fun i => by
    induction i with
    | zero => rw [List.drop_zero]; exact ⟨(sumA_in X _).1, Xs⟩
    | succ i ih =>
      refine ⟨(sumA_in _ _).1, ?_⟩
      rcases Nat.lt_or_ge i X.length with h | h
      · have := sumA_drop X i h
        have := (szV_in (X.getD i 0)).1
        omega
      · rw [List.drop_of_length_le (by omega)]
        show (0 : Int) ≤ 8
        decide
  repeat' ((conv => whnf); first | (refine And.intro ⟨rfl, rfl⟩ ?_) | (refine And.intro rfl ?_) | (refine And.intro (by omega) ?_) | fail)
  conv => whnf
  have kA1 : ∀ i : Nat, i < l → sumA (X.drop (i + 1)) (X.drop (i + 1)).length = sumA (X.drop i) (X.drop i).length - szV (X.getD i 0) := fun i hi => by
    have := sumA_drop X i (by omega)
    omega
  obtain ⟨vA, evA⟩ : ∃ vA : Nat → Int, ∀ i, vA i = numOf X - rank (X.drop i) (sumA (X.drop i) (X.drop i).length) := ⟨_, fun _ => rfl⟩
  have vA0 : vA 0 = 0 := by rw [evA, List.drop_zero]; unfold numOf; omega
  have vA1 : ∀ i : Nat, i < l → vA (i + 1) = vA i + rnk ((l : Int) - i - 1) (sumA (X.drop i) (X.drop i).length) (X.getD i 0 + sumA (X.drop i) (X.drop i).length).toNat := fun i hi => by
    rw [evA, evA, rank_drop X i (by omega), kA1 i hi, lt]
    omega
  have xk : ∀ i : Nat, i < l → -sumA (X.drop i) (X.drop i).length ≤ X.getD i 0 ∧ X.getD i 0 ≤ sumA (X.drop i) (X.drop i).length ∧ szV (X.getD i 0) ≤ sumA (X.drop i) (X.drop i).length := fun i hi => by
    have h1 := rem0 i
    have h2 := rem0 (i + 1)
    have h3 := kA1 i hi
    have h4 := szV_def (X.getD i 0)
    split at h4
    · omega
    · unfold absI at h4; omega
  have vAb : ∀ i : Nat, i ≤ l → 0 ≤ vA i ∧ vA i ≤ 73014444032 * i := fun i hi => by
    induction i with
    | zero => rw [vA0]; decide
    | succ i ih =>
      have h1 := ih (by omega)
      have h2 := rem0 i
      have h3 := xk i (by omega)
      have h4 := rnk_in (n := (l : Int) - i - 1) (k := sumA (X.drop i) (X.drop i).length) (by omega) (by omega) (X.getD i 0 + sumA (X.drop i) (X.drop i).length).toNat
      rw [vA1 i (by omega)]
      omega
  have vAl : vA l = numOf X := by
    rw [evA, List.drop_of_length_le (by omega)]
    show numOf X - 0 = _
    omega
  obtain ⟨kA, ekA⟩ : ∃ kA : Nat → Int, ∀ i, kA i = sumA (X.drop i) (X.drop i).length := ⟨_, fun _ => rfl⟩
  have ek0 : pulA zs l = kA 0 := by rw [ekA, List.drop_zero]; exact eP
  simp only [← ekA] at kA1 vA1 xk rem0
  refine loop_at (3 :: 4 :: 5 :: 6 :: List.range' 9 35) (fun m (i : Int) => 0 ≤ i ∧ i ≤ l ∧ m = (l - i).toNat) (fun i => [(3, vi (kA i.toNat)), (4, vi (vA i.toNat)), (5, vi i)]) (fun _ => [.ro [.ints .i64 zs.length zs]]) l 0 ⟨by decide, by omega, by omega⟩ ?_ ?_
  · exact ⟨rfl, ⟨⟨Nat.le_of_ble_eq_true rfl, congrArg vi ek0⟩, ⟨Nat.le_of_ble_eq_true rfl, congrArg vi vA0.symm⟩, ⟨Nat.le_of_ble_eq_true rfl, rfl⟩, trivial⟩, ⟨rfl, trivial⟩, rfl, rfl, Nat.le_of_ble_eq_true rfl⟩
  · rintro m i ⟨i0, i1, rfl⟩
    rcases Int.lt_or_le i l with i2 | i2
    · have ea := at0 i.toNat (by omega)
      have hb := vAb i.toNat (by omega)
      have hk := rem0 i.toNat
      have hx := xk i.toNat (by omega)
      have hk1 := kA1 i.toNat (by omega)
      have hv1 := vA1 i.toNat (by omega)
      have em : mulN i.toNat (Try.prog.types[3]).size = i.toNat := mulN1 _
      repeat' ((conv => whnf); first | (refine ask_true (by omega) ?_) | (refine And.intro (by omega) ?_) | (refine fun (_ : InK _ _) => ?_) | (refine ask_wrap64 (by omega) (by omega) ?_) | fail)
      conv => whnf
      refine loop_at (4 :: 6 :: List.range' 17 20) (fun m (z : Int) => 0 - kA i.toNat ≤ z ∧ z ≤ X.getD i.toNat 0 ∧ m = (X.getD i.toNat 0 - z).toNat) (fun z => [(4, vi (vA i.toNat + rnk ((l : Int) - i - 1) (kA i.toNat) (z + kA i.toNat).toNat)), (6, vi z)]) (fun _ => [.ro [.ints .i64 zs.length zs]]) (X.getD i.toNat 0 - (0 - kA i.toNat)).toNat (0 - kA i.toNat) ⟨by omega, by omega, by omega⟩ ?_ ?_
      · refine ⟨rfl, ⟨⟨Nat.le_of_ble_eq_true rfl, congrArg vi ?_⟩, ⟨Nat.le_of_ble_eq_true rfl, rfl⟩, trivial⟩, ⟨rfl, trivial⟩, rfl, rfl, Nat.le_of_ble_eq_true rfl⟩
        rw [show (0 - kA i.toNat + kA i.toNat).toNat = 0 by omega]
        show _ = vA i.toNat + 0
        omega
      · rintro m z ⟨z0, z1, rfl⟩
        have hs := szV_in z
        have ez := szF_szV (x := z) (by omega)
        have rb := rnk_in (n := (l : Int) - i - 1) (k := kA i.toNat) (by omega) (by omega) (z + kA i.toNat).toNat
        have sz8 : szV z ≤ kA i.toNat := by
          have h4 := szV_def z
          split at h4
          · omega
          · unfold absI at h4; omega
        have cc := cN_in (n := (l : Int) - i - 1) (k := kA i.toNat - szF z) (by omega) (by omega)
        have rn := rnk_next (n := (l : Int) - i - 1) (k := kA i.toNat) (z := z) (by omega)
        rw [← ez] at rn
        rcases Int.lt_or_le z (X.getD i.toNat 0) with z2 | z2
        · repeat' ((conv => whnf); first | (refine ask_true (by omega) ?_) | (refine And.intro trivial ?_) | (refine And.intro ⟨⟨by omega, by omega⟩, by omega, by omega⟩ ?_) | (refine And.intro (by omega) ?_) | (refine fun (_ : InK _ _) => ?_) | (refine ask_wrap64 (by omega) (by omega) ?_) | fail)
          conv => whnf
          refine ⟨(X.getD i.toNat 0 - (z + 1)).toNat, z + 1, by omega, ⟨by show 0 - kA i.toNat ≤ z + 1; omega, by show z + 1 ≤ X.getD i.toNat 0; omega, rfl⟩, rfl, ⟨⟨Nat.le_of_ble_eq_true rfl, congrArg vi ?_⟩, ⟨Nat.le_of_ble_eq_true rfl, rfl⟩, trivial⟩, ⟨rfl, trivial⟩, rfl, rfl, Nat.le_of_ble_eq_true rfl⟩
          show _ = vA i.toNat + rnk ((l : Int) - i - 1) (kA i.toNat) (z + 1 + kA i.toNat).toNat
          omega
        · have ez' : z = X.getD i.toNat 0 := by omega
          have esz : szF (zs.getD (0 + mulN i.toNat (Try.prog.types[3]).size) 0) = szV (X.getD i.toNat 0) := by rw [ea, ← ez', ez]
          have hsx := szV_in (X.getD i.toNat 0)
          have ni : (i + 1).toNat = i.toNat + 1 := by omega
          rw [← ez', show ((i.toNat : Nat) : Int) = i by omega] at hv1
          repeat' ((conv => whnf); first | (refine ask_false (by omega) ?_) | (refine And.intro trivial ?_) | (refine And.intro (by omega) ?_) | (refine fun (_ : InK _ _) => ?_) | (refine ask_wrap64 (by omega) (by omega) ?_) | fail)
          conv => whnf
          refine ⟨(l - (i + 1)).toNat, i + 1, by omega, ⟨by show 0 ≤ i + 1; omega, by show i + 1 ≤ (l : Int); omega, rfl⟩, rfl, ⟨⟨Nat.le_of_ble_eq_true rfl, congrArg vi ?_⟩, ⟨Nat.le_of_ble_eq_true rfl, congrArg vi ?_⟩, ⟨Nat.le_of_ble_eq_true rfl, rfl⟩, trivial⟩, ⟨rfl, trivial⟩, rfl, rfl, Nat.le_of_ble_eq_true rfl⟩
          · show _ = kA (i + 1).toNat
            rw [ni, hk1, esz]
          · show _ = vA (i + 1).toNat
            rw [ni, hv1]
    · have ei : i.toNat = l := by omega
      rw [ei, vAl]
      repeat' ((conv => whnf); first | (refine ask_false (by omega) ?_) | fail)
      conv => whnf
      exact made_of (vi (numOf X)) [] id ⟨rfl, rfl⟩ rfl trivial (fun p q hp _ _ => absurd hp (Nat.not_lt_zero p)) rfl rfl (by intro e; cases e)
theorem rnumber_nil : walk FRN 0 Try.f27 [.c .csn] [] (Made fun x N => x = vi 0 ∧ N = []) := by
  conv => whnf
  refine loop_at (3 :: 4 :: 5 :: 6 :: List.range' 9 35) (fun m (i : Int) => i = 0 ∧ m = 0) (fun i => [(4, vi 0), (5, vi i)]) (fun _ => []) 0 0 ⟨rfl, rfl⟩ ?_ ?_
  · exact ⟨rfl, ⟨⟨Nat.le_of_ble_eq_true rfl, rfl⟩, ⟨Nat.le_of_ble_eq_true rfl, rfl⟩, trivial⟩, trivial, rfl, rfl, Nat.le_of_ble_eq_true rfl⟩
  · rintro m i ⟨rfl, rfl⟩
    repeat' ((conv => whnf); first | (refine ask_false (by decide) ?_) | fail)
    conv => whnf
    exact made_of (vi 0) [] id ⟨rfl, rfl⟩ rfl trivial (fun p q hp _ _ => absurd hp (Nat.not_lt_zero p)) rfl rfl (by intro e; cases e)
def hRNum : HCt := fun ws H K => match ws with
  | [.c .csn] => K (vi 0) H
  | [.c x] => slK H x fun _ l xs => pulA xs l ≤ 8 ∧ K (vi (numOf (xs.take l))) H
  | _ => False
theorem rnum_ct : HCtOk Try.prog 27 hRNum := by
  intro ws H K h hr hb ho G σ base w₀ w hw
  unfold hRNum at h
  split at h
  · exact walk_lift FRN_ok Try.func27 (n := 0) (ws := [.c .csn]) (R := []) nil_ok ⟨trivial, trivial⟩ rfl rnumber_nil val_mine id no_ro rfl (vi_K h) ho G σ base w₀ w hw
  · rename_i x _
    obtain ⟨j, l, xs, ⟨hp, h'⟩, hx, g1, g2, g3, g4⟩ := slK_spec h ho hr.1
    clear h
    subst hx
    exact walk_lift FRN_ok Try.func27 (n := 0) (ws := [.c (.csl 0 0 0 l xs.length)]) (R := [.ro [.ints .i64 xs.length xs]]) (ro_ok g3) ⟨⟨g1, g2⟩, trivial⟩ rfl (rnumber_walk xs l g1 g2 g3 hp) val_mine (fun _ => j) (ro_at g4) rfl (vi_K h') ho G σ base w₀ w hw
  · exact h.elim

/-! ### how few digits -/
noncomputable def FBi : Fns := (F0.plus 24 (ct2 (fun _ _ => True) cC)).plus 41 (ct1 (fun x => -9223372036854775808 < x) lengthS)
theorem FBi_ok : FnsOk Try.prog FBi := (F0_ok.plus count_ct Try.func24 (by kernel_rfl) (by kernel_rfl)).plus length_ct Try.func41 (by kernel_rfl) (by kernel_rfl)
noncomputable def bitS (n k : Int) : Int := lenS (max (cC n k - 1) 0)
theorem len_pos {x : Int} (h : 0 ≤ x) : lengthS x = lenS x := by rw [lengthS_def, if_neg (by omega)]
theorem bits_walk (n k : Int) (hn : InK .i64 n) (hk : InK .i64 k) : walk FBi 0 Try.f28 [i64 n, i64 k] [] fun y _ => y = vi (bitS n k) := by
  have c1 := cC_in n k
  repeat' ((conv => whnf); first | (refine And.intro trivial ?_) | (refine ask_wrap64 (by omega) (by omega) ?_) | (refine And.intro (by omega) ?_) | fail)
  conv => whnf
  exact congrArg vi (len_pos (by omega))
theorem bitS_in (n k : Int) : 0 ≤ bitS n k ∧ bitS n k ≤ 64 := by
  have c1 := cC_in n k
  exact len_small (by omega)
theorem bits_ct : CtOk Try.prog 28 (ct2 (fun _ _ => True) bitS) := ct2_ok FBi_ok Try.func28 (fun a b _ _ _ => by have := bitS_in a b; simp only [InK, lowK, highK]; omega) fun a b ha hb _ => bits_walk a b ha hb
end Go.Proofs.Ytmkdamfdlkpjdaa
