/- Chapter vect: Count, Number. -/
import Derived.Test.YtmkdamfdlkpjdaaVc
set_option linter.all false
namespace Go.Proofs.Ytmkdamfdlkpjdaa
open Go.RowKit (Below)
open Go.WideMaps
set_option maxRecDepth 100000
set_option maxHeartbeats 32000000

noncomputable def FC : Fns := F0.over 39 (hOf 8)
theorem FC_ok : FnsOk Try.prog FC := F0_ok.over (of_ct 8) Try.func39 (by kernel_rfl) (by kernel_rfl)
/-- What Count answers. -/
@[irreducible] noncomputable def cC (n k : Int) : Int := if (0 ≤ n ∧ n ≤ 8) ∧ 0 ≤ k ∧ k ≤ 8 then cN n k else 0
theorem cC_def (n k : Int) : cC n k = if (0 ≤ n ∧ n ≤ 8) ∧ 0 ≤ k ∧ k ≤ 8 then cN n k else 0 := by unfold cC; rfl
theorem cC_in (n k : Int) : 0 ≤ cC n k ∧ cC n k ≤ 4294967296 := by
  rw [cC_def]
  split
  · rename_i h; exact cN_in h.1.2 h.2.2
  · decide
theorem count_walk (n k : Int) (hn : InK .i64 n) (hk : InK .i64 k) : walk FC 0 Try.f24 [i64 n, i64 k] [] fun y _ => y = vi (cC n k) := by
  obtain ⟨n1, n2⟩ := hn
  obtain ⟨k1, k2⟩ := hk
  simp only [lowK, highK] at n1 n2 k1 k2
  rw [cC_def]
  rcases Classical.em ((0 ≤ n ∧ n ≤ 8) ∧ 0 ≤ k ∧ k ≤ 8) with h | h
  · rw [if_pos h]
    repeat' ((conv => whnf); first | (refine ask_true (by omega) ?_) | (refine ask_false (by omega) ?_) | (refine And.intro mty ?_) | fail)
    conv => whnf
    refine And.intro ⟨emptyM, rfl, empty_mapI _⟩ (And.intro ⟨by omega, by omega, by omega⟩ fun H' eH => ?_)
    repeat' ((conv => whnf); first | rfl | fail)
  · rw [if_neg h]
    rcases Int.lt_or_le n 0 with h1 | h1
    · repeat' ((conv => whnf); first | (refine ask_true (by omega) ?_) | (refine ask_false (by omega) ?_) | rfl | fail)
    · rcases Int.lt_or_le 8 n with h2 | h2
      · repeat' ((conv => whnf); first | (refine ask_true (by omega) ?_) | (refine ask_false (by omega) ?_) | rfl | fail)
      · rcases Int.lt_or_le k 0 with h3 | h3
        · repeat' ((conv => whnf); first | (refine ask_true (by omega) ?_) | (refine ask_false (by omega) ?_) | rfl | fail)
        · repeat' ((conv => whnf); first | (refine ask_true (by omega) ?_) | (refine ask_false (by omega) ?_) | rfl | fail)
theorem count_ct : CtOk Try.prog 24 (ct2 (fun _ _ => True) cC) := ct2_ok FC_ok Try.func24 (fun a b _ _ _ => by have := cC_in a b; simp only [InK, lowK, highK]; omega) fun a b ha hb _ => count_walk a b ha hb

/-! ### numbers of vectors -/
/-- How many vectors open with a number less than the one that is s places from the least. -/
noncomputable def rnk (n k : Int) : Nat → Int
  | 0 => 0
  | s + 1 => rnk n k s + cN n (k - szV (s - k))
theorem rnk_next {n k z : Int} (h : 0 ≤ z + k) : rnk n k (z + 1 + k).toNat = rnk n k (z + k).toNat + cN n (k - szV z) := by
  rw [show (z + 1 + k).toNat = (z + k).toNat + 1 by omega]
  show rnk n k (z + k).toNat + cN n (k - szV (((z + k).toNat : Nat) - k)) = _
  rw [show (((z + k).toNat : Nat) : Int) - k = z by omega]
noncomputable def rank : List Int → Int → Int
  | [], _ => 0
  | x :: xs, k => rnk xs.length k (x + k).toNat + rank xs (k - szV x)
/-- The pulses of what is left. -/
def remP (xs : List Int) (l : Nat) : Int := sumA xs l
theorem rnk_in {n k : Int} (hn : n ≤ 8) (hk : k ≤ 8) : ∀ s : Nat, 0 ≤ rnk n k s ∧ rnk n k s ≤ 4294967296 * s
  | 0 => ⟨Int.le_refl 0, Int.le_refl 0⟩
  | s + 1 => by
    have h1 := rnk_in hn hk s
    have h2 := szV_in (s - k)
    have h3 := cN_in (n := n) (k := k - szV (s - k)) hn (by omega)
    show 0 ≤ rnk n k s + cN n (k - szV (s - k)) ∧ rnk n k s + cN n (k - szV (s - k)) ≤ _
    omega
/-- What Number answers, of a row's first numbers. -/
noncomputable def numOf (xs : List Int) : Int := rank xs (sumA xs xs.length)
theorem sumA_drop (xs : List Int) (i : Nat) (h : i < xs.length) : sumA (xs.drop i) (xs.drop i).length = szV (xs.getD i 0) + sumA (xs.drop (i + 1)) (xs.drop (i + 1)).length := by
  have key : ∀ (y : Int) (ys : List Int) (n : Nat), sumA (y :: ys) (n + 1) = szV y + sumA ys n := fun y ys n => by
    induction n with
    | zero => show (0 : Int) + szV y = szV y + 0; omega
    | succ n ih =>
      show sumA (y :: ys) (n + 1) + szV ((y :: ys).getD (n + 1) 0) = szV y + (sumA ys n + szV (ys.getD n 0))
      rw [ih]
      have : (y :: ys).getD (n + 1) 0 = ys.getD n 0 := rfl
      rw [this]; omega
  have e : xs.drop i = xs.getD i 0 :: xs.drop (i + 1) := by
    rw [List.drop_eq_getElem_cons h, List.getD_eq_getElem?_getD, List.getElem?_eq_getElem h]; rfl
  conv => lhs; rw [e]
  exact key _ _ _
theorem rank_drop (xs : List Int) (i : Nat) (h : i < xs.length) (k : Int) : rank (xs.drop i) k = rnk ((xs.length : Int) - i - 1) k (xs.getD i 0 + k).toNat + rank (xs.drop (i + 1)) (k - szV (xs.getD i 0)) := by
  have e : xs.drop i = xs.getD i 0 :: xs.drop (i + 1) := by
    rw [List.drop_eq_getElem_cons h, List.getD_eq_getElem?_getD, List.getElem?_eq_getElem h]; rfl
  rw [e]
  show rnk ((xs.drop (i + 1)).length : Int) k _ + _ = _
  rw [List.length_drop, show ((xs.length - (i + 1) : Nat) : Int) = (xs.length : Int) - i - 1 by omega]
theorem pulses_nil : walk FP 0 Try.f19 [.c .csn] [] (Made fun x N => x = vi 0 ∧ N = []) := by
  repeat' ((conv => whnf); first | (refine ask_false (by decide) ?_) | fail)
  conv => whnf
  refine loop_at (3 :: 4 :: 5 :: List.range' 11 9) (fun m (i : Int) => i = 0 ∧ m = 0) (fun i => [(3, vi 0), (11, vi i)]) (fun _ => []) 0 0 ⟨rfl, rfl⟩ ?_ ?_
  · exact ⟨rfl, ⟨⟨Nat.le_of_ble_eq_true rfl, rfl⟩, ⟨Nat.le_of_ble_eq_true rfl, rfl⟩, trivial⟩, trivial, rfl, rfl, Nat.le_of_ble_eq_true rfl⟩
  · rintro m i ⟨rfl, rfl⟩
    repeat' ((conv => whnf); first | (refine ask_false (by decide) ?_) | fail)
    conv => whnf
    exact made_of (vi 0) [] id ⟨rfl, rfl⟩ rfl trivial (fun p q hp _ _ => absurd hp (Nat.not_lt_zero p)) rfl rfl (by intro e; cases e)
def hPul : HCt := fun ws H K => match ws with
  | [.c .csn] => K (vi 0) H
  | [.c x] => slK H x fun _ l xs => K (vi (pulA xs l)) H
  | _ => False
theorem pul_ct : HCtOk Try.prog 19 hPul := by
  intro ws H K h hr hb ho G σ base w₀ w hw
  unfold hPul at h
  split at h
  · exact walk_lift FP_ok Try.func19 (n := 0) (ws := [.c .csn]) (R := []) nil_ok ⟨trivial, trivial⟩ rfl pulses_nil val_mine id no_ro rfl (vi_K h) ho G σ base w₀ w hw
  · rename_i x _
    obtain ⟨j, l, xs, h', hx, g1, g2, g3, g4⟩ := slK_spec h ho hr.1
    clear h
    subst hx
    exact walk_lift FP_ok Try.func19 (n := 0) (ws := [.c (.csl 0 0 0 l xs.length)]) (R := [.ro [.ints .i64 xs.length xs]]) (ro_ok g3) ⟨⟨g1, g2⟩, trivial⟩ rfl (pulses_walk xs l g1 g2) val_mine (fun _ => j) (ro_at g4) rfl (vi_K h') ho G σ base w₀ w hw
  · exact h.elim
noncomputable def FN : Fns := ((F0.over 39 (hOf 8)).plus 38 (ct1 (fun _ => True) szV)).over 19 hPul
theorem FN_ok : FnsOk Try.prog FN := ((F0_ok.over (of_ct 8) Try.func39 (by kernel_rfl) (by kernel_rfl)).plus vsize_ct Try.func38 (by kernel_rfl) (by kernel_rfl)).over pul_ct Try.func19 (by kernel_rfl) (by kernel_rfl)
def twoP (a e : Int) (x : V) (N : List Blk) : Prop := x = .tup [i64 a, i64 e] ∧ N = []
theorem two_made {a e : Int} {H' : List Blk} : Made (twoP a e) (.tup [i64 a, i64 e]) H' := made_of (.tup [i64 a, i64 e]) [] id ⟨rfl, rfl⟩ rfl trivial (fun p q hp _ _ => absurd hp (Nat.not_lt_zero p)) rfl rfl (by intro e; cases e)
theorem two_mine {a e : Int} : ∀ (x : V) (N : List Blk), twoP a e x N → ∀ b ∈ N, b.mine = true ∨ b = .gone := by
  rintro x N ⟨_, rfl⟩ b hb; cases hb
theorem two_K {a e : Int} {H : List Blk} {K : V → List Blk → Prop} (h : K (.tup [i64 a, i64 e]) H) : ∀ x N, twoP a e x N → K (x.ren (sh H.length)) (H ++ N.map (Blk.ren (sh H.length))) := by
  rintro x N ⟨rfl, rfl⟩
  simpa [V.ren, renW, W.ren, C.ren] using h
theorem number_walk (zs : List Int) (l : Nat) (hl : l ≤ zs.length) (hc : zs.length ≤ 9223372036854775807) (hx : ∀ x ∈ zs, InK .i64 x) (hp : pulA zs l ≤ 8) :
    walk FN 0 Try.f21 [.c (.csl 0 0 0 l zs.length)] [.ro [.ints .i64 zs.length zs]] (Made (twoP (numOf (zs.take l)) 0)) := by
  have hp' := hp
  rw [pulA_def] at hp'
  have l8 : l ≤ 8 := by
    by_cases h : l ≤ 8
    · exact h
    · rw [if_neg h] at hp'; omega
  rw [if_pos l8] at hp'
  have lt : (zs.take l).length = l := by simp; omega
  have same : ∀ i, i ≤ l → sumA (zs.take l) i = sumA zs i := fun i hi => by
    induction i with
    | zero => rfl
    | succ i ih =>
      show sumA (zs.take l) i + szV ((zs.take l).getD i 0) = sumA zs i + szV (zs.getD i 0)
      rw [ih (by omega), getD_take (by omega)]
  obtain ⟨X, eX⟩ : ∃ X, X = zs.take l := ⟨_, rfl⟩
  rw [← eX] at lt same ⊢
  have Xs : sumA X X.length ≤ 8 := by rw [lt, same l (Nat.le_refl l)]; omega
  have eP : pulA zs l = sumA X X.length := by rw [pulA_def, if_pos l8, lt, same l (Nat.le_refl l)]; omega
  have at0 : ∀ i : Nat, i < l → zs.getD (0 + mulN i (Try.prog.types[3]).size) 0 = X.getD i 0 := fun i hi => by
    have em : mulN i (Try.prog.types[3]).size = i := mulN1 _
    rw [em, Nat.zero_add, eX, getD_take hi]
  have rem0 : ∀ i : Nat, 0 ≤ sumA (X.drop i) (X.drop i).length ∧ sumA (X.drop i) (X.drop i).length ≤ 8 := fun i => by
    induction i with
    | zero => rw [List.drop_zero]; exact ⟨(sumA_in X _).1, Xs⟩
    | succ i ih =>
      refine ⟨(sumA_in _ _).1, ?_⟩
      rcases Nat.lt_or_ge i X.length with h | h
      · have := sumA_drop X i h
        have := (szV_in (X.getD i 0)).1
        omega
      · rw [List.drop_of_length_le (by omega)]
        show (0 : Int) ≤ 8
        decide
  repeat' ((conv => whnf); first | (refine And.intro ⟨rfl, rfl⟩ ?_) | (refine And.intro rfl ?_) | (refine ask_false (by omega) ?_) | (refine And.intro mty ?_) | fail)
  conv => whnf
  have kA1 : ∀ i : Nat, i < l → sumA (X.drop (i + 1)) (X.drop (i + 1)).length = sumA (X.drop i) (X.drop i).length - szV (X.getD i 0) := fun i hi => by
    have := sumA_drop X i (by omega)
    omega
  obtain ⟨vA, evA⟩ : ∃ vA : Nat → Int, ∀ i, vA i = numOf X - rank (X.drop i) (sumA (X.drop i) (X.drop i).length) := ⟨_, fun _ => rfl⟩
  have vA0 : vA 0 = 0 := by rw [evA, List.drop_zero]; unfold numOf; omega
  have vA1 : ∀ i : Nat, i < l → vA (i + 1) = vA i + rnk ((l : Int) - i - 1) (sumA (X.drop i) (X.drop i).length) (X.getD i 0 + sumA (X.drop i) (X.drop i).length).toNat := fun i hi => by
    rw [evA, evA, rank_drop X i (by omega), kA1 i hi, lt]
    omega
  have xk : ∀ i : Nat, i < l → -sumA (X.drop i) (X.drop i).length ≤ X.getD i 0 ∧ X.getD i 0 ≤ sumA (X.drop i) (X.drop i).length ∧ szV (X.getD i 0) ≤ sumA (X.drop i) (X.drop i).length := fun i hi => by
    have h1 := rem0 i
    have h2 := rem0 (i + 1)
    have h3 := kA1 i hi
    have h4 := szV_def (X.getD i 0)
    split at h4
    · omega
    · unfold absI at h4; omega
  have vAb : ∀ i : Nat, i ≤ l → 0 ≤ vA i ∧ vA i ≤ 73014444032 * i := fun i hi => by
    induction i with
    | zero => rw [vA0]; decide
    | succ i ih =>
      have h1 := ih (by omega)
      have h2 := rem0 i
      have h3 := xk i (by omega)
      have h4 := rnk_in (n := (l : Int) - i - 1) (k := sumA (X.drop i) (X.drop i).length) (by omega) (by omega) (X.getD i 0 + sumA (X.drop i) (X.drop i).length).toNat
      rw [vA1 i (by omega)]
      omega
  have vAl : vA l = numOf X := by
    rw [evA, List.drop_of_length_le (by omega)]
    show numOf X - 0 = _
    omega
  obtain ⟨kA, ekA⟩ : ∃ kA : Nat → Int, ∀ i, kA i = sumA (X.drop i) (X.drop i).length := ⟨_, fun _ => rfl⟩
  have ek0 : pulA zs l = kA 0 := by rw [ekA, List.drop_zero]; exact eP
  simp only [← ekA] at kA1 vA1 xk rem0
  refine loop_at2 (4 :: 6 :: 7 :: 8 :: 9 :: List.range' 17 30) (fun m (i : Int) (R : Obj → Prop) => 0 ≤ i ∧ i ≤ l ∧ m = (l - i).toNat ∧ ∀ o, R o → mapI cntQ o) (fun i _ => [(4, vi (kA i.toNat)), (6, vi (vA i.toNat)), (17, vi i)]) (fun _ R => [.ro [.ints .i64 zs.length zs], .obj R]) l 0 emptyM ⟨by decide, by omega, by omega, empty_mapI _⟩ ?_ ?_
  · exact ⟨rfl, ⟨⟨Nat.le_of_ble_eq_true rfl, congrArg vi ek0⟩, ⟨Nat.le_of_ble_eq_true rfl, congrArg vi vA0.symm⟩, ⟨Nat.le_of_ble_eq_true rfl, rfl⟩, trivial⟩, ⟨rfl, rfl, trivial⟩, rfl, rfl, Nat.le_of_ble_eq_true rfl⟩
  · rintro m i R ⟨i0, i1, rfl, hR⟩
    rcases Int.lt_or_le i l with i2 | i2
    · have ea := at0 i.toNat (by omega)
      have hb := vAb i.toNat (by omega)
      have hk := rem0 i.toNat
      have hx := xk i.toNat (by omega)
      have hk1 := kA1 i.toNat (by omega)
      have hv1 := vA1 i.toNat (by omega)
      have em : mulN i.toNat (Try.prog.types[3]).size = i.toNat := mulN1 _
      repeat' ((conv => whnf); first | (refine ask_true (by omega) ?_) | (refine And.intro (by omega) ?_) | (refine fun (_ : InK _ _) => ?_) | (refine ask_wrap64 (by omega) (by omega) ?_) | fail)
      conv => whnf
      refine loop_at2 (6 :: 9 :: List.range' 24 18) (fun m (z : Int) (R : Obj → Prop) => 0 - kA i.toNat ≤ z ∧ z ≤ X.getD i.toNat 0 ∧ m = (X.getD i.toNat 0 - z).toNat ∧ ∀ o, R o → mapI cntQ o) (fun z _ => [(6, vi (vA i.toNat + rnk ((l : Int) - i - 1) (kA i.toNat) (z + kA i.toNat).toNat)), (9, vi z)]) (fun _ R => [.ro [.ints .i64 zs.length zs], .obj R]) (X.getD i.toNat 0 - (0 - kA i.toNat)).toNat (0 - kA i.toNat) R ⟨by omega, by omega, rfl, hR⟩ ?_ ?_
      · refine ⟨rfl, ⟨⟨Nat.le_of_ble_eq_true rfl, congrArg vi ?_⟩, ⟨Nat.le_of_ble_eq_true rfl, rfl⟩, trivial⟩, ⟨rfl, rfl, trivial⟩, rfl, rfl, Nat.le_of_ble_eq_true rfl⟩
        rw [show (0 - kA i.toNat + kA i.toNat).toNat = 0 by omega]
        show _ = vA i.toNat + 0
        omega
      · rintro m z R ⟨z0, z1, rfl, hR⟩
        have hs := szV_in z
        have rb := rnk_in (n := (l : Int) - i - 1) (k := kA i.toNat) (by omega) (by omega) (z + kA i.toNat).toNat
        have cc := cN_in (n := (l : Int) - i - 1) (k := kA i.toNat - szV z) (by omega) (by omega)
        have rn := rnk_next (n := (l : Int) - i - 1) (k := kA i.toNat) (z := z) (by omega)
        rcases Int.lt_or_le z (X.getD i.toNat 0) with z2 | z2
        · repeat' ((conv => whnf); first | (refine ask_true (by omega) ?_) | (refine And.intro trivial ?_) | (refine ask_wrap64 (by omega) (by omega) ?_) | fail)
          conv => whnf
          refine And.intro ⟨R, rfl, hR⟩ (And.intro ⟨by omega, by omega, by omega⟩ fun H' eH => ?_)
          have eH' : H' = [.ro [.ints .i64 zs.length zs], .obj (mapI cntQ)] := eH
          clear eH
          subst eH'
          repeat' ((conv => whnf); first | (refine ask_wrap64 (by omega) (by omega) ?_) | fail)
          conv => whnf
          refine ⟨(X.getD i.toNat 0 - (z + 1)).toNat, (z + 1, mapI cntQ), by omega, ⟨by show 0 - kA i.toNat ≤ z + 1; omega, by show z + 1 ≤ X.getD i.toNat 0; omega, rfl, fun o h => h⟩, rfl, ⟨⟨Nat.le_of_ble_eq_true rfl, congrArg vi ?_⟩, ⟨Nat.le_of_ble_eq_true rfl, rfl⟩, trivial⟩, ⟨rfl, rfl, trivial⟩, rfl, rfl, Nat.le_of_ble_eq_true rfl⟩
          show _ = vA i.toNat + rnk ((l : Int) - i - 1) (kA i.toNat) (z + 1 + kA i.toNat).toNat
          omega
        · have ez : z = X.getD i.toNat 0 := by omega
          have hsz := szV_in (zs.getD (0 + mulN i.toNat (Try.prog.types[3]).size) 0)
          have esz : szV (zs.getD (0 + mulN i.toNat (Try.prog.types[3]).size) 0) = szV (X.getD i.toNat 0) := by rw [ea]
          have ni : (i + 1).toNat = i.toNat + 1 := by omega
          rw [← ez, show ((i.toNat : Nat) : Int) = i by omega] at hv1
          repeat' ((conv => whnf); first | (refine ask_false (by omega) ?_) | (refine And.intro trivial ?_) | (refine ask_wrap64 (by omega) (by omega) ?_) | fail)
          conv => whnf
          refine ⟨(l - (i + 1)).toNat, (i + 1, R), by omega, ⟨by show 0 ≤ i + 1; omega, by show i + 1 ≤ (l : Int); omega, rfl, hR⟩, rfl, ⟨⟨Nat.le_of_ble_eq_true rfl, congrArg vi ?_⟩, ⟨Nat.le_of_ble_eq_true rfl, congrArg vi ?_⟩, ⟨Nat.le_of_ble_eq_true rfl, rfl⟩, trivial⟩, ⟨rfl, rfl, trivial⟩, rfl, rfl, Nat.le_of_ble_eq_true rfl⟩
          · show _ = kA (i + 1).toNat
            rw [ni, hk1, esz]
          · show _ = vA (i + 1).toNat
            rw [ni, hv1]
    · have ei : i.toNat = l := by omega
      rw [ei, vAl]
      repeat' ((conv => whnf); first | (refine ask_false (by omega) ?_) | fail)
      conv => whnf
      exact two_made
theorem number_bad (zs : List Int) (l : Nat) (hp : ¬ pulA zs l ≤ 8) :
    walk FN 0 Try.f21 [.c (.csl 0 0 0 l zs.length)] [.ro [.ints .i64 zs.length zs]] (Made (twoP 0 1)) := by
  repeat' ((conv => whnf); first | (refine And.intro ⟨rfl, rfl⟩ ?_) | (refine And.intro rfl ?_) | (refine ask_true (by omega) ?_) | fail)
  conv => whnf
  exact two_made
theorem number_nil : walk FN 0 Try.f21 [.c .csn] [] (Made (twoP 0 0)) := by
  repeat' ((conv => whnf); first | (refine ask_false (by decide) ?_) | (refine And.intro mty ?_) | fail)
  conv => whnf
  refine loop_at2 (4 :: 6 :: 7 :: 8 :: 9 :: List.range' 17 30) (fun m (i : Int) (R : Obj → Prop) => i = 0 ∧ m = 0) (fun i _ => [(17, vi i), (6, vi 0)]) (fun _ R => [.obj R]) 0 0 emptyM ⟨rfl, rfl⟩ ?_ ?_
  · exact ⟨rfl, ⟨⟨Nat.le_of_ble_eq_true rfl, rfl⟩, ⟨Nat.le_of_ble_eq_true rfl, rfl⟩, trivial⟩, ⟨rfl, trivial⟩, rfl, rfl, Nat.le_of_ble_eq_true rfl⟩
  · rintro m i R ⟨rfl, rfl⟩
    repeat' ((conv => whnf); first | (refine ask_false (by decide) ?_) | fail)
    conv => whnf
    exact two_made
def hNumber : HCt := fun ws H K => match ws with
  | [.c .csn] => K (.tup [i64 0, i64 0]) H
  | [.c x] => slK H x fun _ l xs => (pulA xs l ≤ 8 → K (.tup [i64 (numOf (xs.take l)), i64 0]) H) ∧ (¬ pulA xs l ≤ 8 → K (.tup [i64 0, i64 1]) H)
  | _ => False
theorem number_ct : HCtOk Try.prog 21 hNumber := by
  intro ws H K h hr hb ho G σ base w₀ w hw
  unfold hNumber at h
  split at h
  · exact walk_lift FN_ok Try.func21 (n := 0) (ws := [.c .csn]) (R := []) nil_ok ⟨trivial, trivial⟩ rfl number_nil two_mine id no_ro rfl (two_K h) ho G σ base w₀ w hw
  · rename_i x _
    obtain ⟨j, l, xs, h', hx, g1, g2, g3, g4⟩ := slK_spec h ho hr.1
    clear h
    subst hx
    rcases Classical.em (pulA xs l ≤ 8) with hp | hp
    · exact walk_lift FN_ok Try.func21 (n := 0) (ws := [.c (.csl 0 0 0 l xs.length)]) (R := [.ro [.ints .i64 xs.length xs]]) (ro_ok g3) ⟨⟨g1, g2⟩, trivial⟩ rfl (number_walk xs l g1 g2 g3 hp) two_mine (fun _ => j) (ro_at g4) rfl (two_K (h'.1 hp)) ho G σ base w₀ w hw
    · exact walk_lift FN_ok Try.func21 (n := 0) (ws := [.c (.csl 0 0 0 l xs.length)]) (R := [.ro [.ints .i64 xs.length xs]]) (ro_ok g3) ⟨⟨g1, g2⟩, trivial⟩ rfl (number_bad xs l hp) two_mine (fun _ => j) (ro_at g4) rfl (two_K (h'.2 hp)) ho G σ base w₀ w hw
  · exact h.elim
end Go.Proofs.Ytmkdamfdlkpjdaa
