/- Chapter vect: numbers of vectors, in plain Lean; the document's example; the law VectCounts. -/
import Derived.Test.YtmkdamfdlkpjdaaVe
set_option linter.all false
namespace Go.Proofs.Ytmkdamfdlkpjdaa
open Go.RowKit (Below)
open Go.WideMaps
set_option maxRecDepth 100000
set_option maxHeartbeats 32000000

theorem sumA_cons (x : Int) (B : List Int) : sumA (x :: B) (x :: B).length = szV x + sumA B B.length := by
  have := sumA_drop (x :: B) 0 (by simp)
  simpa using this
theorem rnk_mono {n k : Int} (hn : n ≤ 8) (hk : k ≤ 8) {s : Nat} : ∀ t : Nat, s ≤ t → rnk n k s ≤ rnk n k t
  | 0, h => by obtain rfl : s = 0 := by omega
               exact Int.le_refl _
  | t + 1, h => by
    rcases Nat.lt_or_ge s (t + 1) with h1 | h1
    · have := rnk_mono hn hk (s := s) t (by omega)
      have h2 := szV_in (t - k)
      have h3 := (cN_in (n := n) (k := k - szV (t - k)) hn (by omega)).1
      show rnk n k s ≤ rnk n k t + cN n (k - szV (t - k))
      omega
    · obtain rfl : s = t + 1 := by omega
      exact Int.le_refl _
theorem head_in {x : Int} {B : List Int} {k : Int} (hs : sumA (x :: B) (x :: B).length = k) (hk : k ≤ 8) : (-k ≤ x ∧ x ≤ k) ∧ 0 ≤ k ∧ 0 ≤ k - szV x ∧ k - szV x ≤ 8 ∧ sumA B B.length = k - szV x := by
  rw [sumA_cons] at hs
  have h1 := szV_in x
  have h2 := (sumA_in B B.length).1
  have h3 := szV_def x
  split at h3
  · omega
  · unfold absI at h3; omega
theorem rank_in : ∀ (A : List Int) (k : Int), sumA A A.length = k → k ≤ 8 → A.length ≤ 8 → 0 ≤ rank A k ∧ rank A k < cN A.length k
  | [], k, hs, _, _ => by
    obtain rfl : k = 0 := hs.symm
    show (0 : Int) ≤ 0 ∧ (0 : Int) < cN 0 0
    rw [cN_zero]; decide
  | x :: B, k, hs, hk, hl => by
    obtain ⟨h1, h2, h3, h4, h5⟩ := head_in hs hk
    have hl' : B.length ≤ 7 := by simpa using hl
    obtain ⟨i1, i2⟩ := rank_in B (k - szV x) h5 h4 (by omega)
    have r0 := rnk_in (n := (B.length : Int)) (k := k) (by omega) hk (x + k).toNat
    have rn := rnk_next (n := (B.length : Int)) (k := k) (z := x) (by omega)
    have rm := rnk_mono (n := (B.length : Int)) (k := k) (by omega) hk (s := (x + 1 + k).toNat) (2 * k + 1).toNat (by omega)
    have ra := rnk_all (m := (B.length : Int)) (k := k) (by omega) ⟨h2, hk⟩
    show 0 ≤ rnk (B.length : Int) k (x + k).toNat + rank B (k - szV x) ∧ rnk (B.length : Int) k (x + k).toNat + rank B (k - szV x) < cN ((B.length + 1 : Nat) : Int) k
    rw [show ((B.length + 1 : Nat) : Int) = (B.length : Int) + 1 by omega]
    omega
/-- The first place where two vectors are unlike. -/
theorem rank_lt : ∀ (p : Nat) (A B : List Int) (k : Int), A.length = B.length → A.length ≤ 8 → k ≤ 8 → sumA A A.length = k → sumA B B.length = k → p < A.length → (∀ j, j < p → A.getD j 0 = B.getD j 0) → A.getD p 0 < B.getD p 0 → rank A k < rank B k
  | _, [], _, _, _, _, _, _, _, hp, _, _ => by simp at hp
  | _, _ :: _, [], _, hl, _, _, _, _, _, _, _ => by simp at hl
  | 0, x :: A, y :: B, k, hl, h8, hk, ha, hb, _, _, hlt => by
    have hl' : A.length = B.length := by simpa using hl
    have hA : A.length ≤ 7 := by simpa using h8
    obtain ⟨a1, a2, a3, a4, a5⟩ := head_in ha hk
    obtain ⟨b1, b2, b3, b4, b5⟩ := head_in hb hk
    have hlt' : x < y := hlt
    have ia := rank_in A _ a5 a4 (by omega)
    have ib := rank_in B _ b5 b4 (by omega)
    have rn := rnk_next (n := (A.length : Int)) (k := k) (z := x) (by omega)
    have rm := rnk_mono (n := (A.length : Int)) (k := k) (by omega) hk (s := (x + 1 + k).toNat) (y + k).toNat (by omega)
    show rnk (A.length : Int) k (x + k).toNat + rank A (k - szV x) < rnk (B.length : Int) k (y + k).toNat + rank B (k - szV y)
    rw [← hl']
    omega
  | p + 1, x :: A, y :: B, k, hl, h8, hk, ha, hb, hp, hc, hlt => by
    have hl' : A.length = B.length := by simpa using hl
    have hA : A.length ≤ 7 := by simpa using h8
    have hp' : p < A.length := by simpa using hp
    obtain ⟨a1, a2, a3, a4, a5⟩ := head_in ha hk
    obtain ⟨b1, b2, b3, b4, b5⟩ := head_in hb hk
    have e : x = y := hc 0 (by omega)
    subst e
    have := rank_lt p A B (k - szV x) hl' (by omega) a4 a5 b5 hp' (fun j hj => hc (j + 1) (by omega)) hlt
    show rnk (A.length : Int) k (x + k).toNat + rank A (k - szV x) < rnk (B.length : Int) k (x + k).toNat + rank B (k - szV x)
    rw [← hl']
    omega
theorem row_ext {A B : List Int} (hl : A.length = B.length) (h : ∀ j, j < A.length → A.getD j 0 = B.getD j 0) : A = B := by
  refine List.ext_getElem hl fun i h1 h2 => ?_
  have := h i h1
  rwa [List.getD_eq_getElem?_getD, List.getD_eq_getElem?_getD, List.getElem?_eq_getElem h1, List.getElem?_eq_getElem h2] at this
theorem first_unlike {A B : List Int} : ∀ n : Nat, (∀ j, j < n → A.getD j 0 = B.getD j 0) ∨ ∃ p, p < n ∧ (∀ j, j < p → A.getD j 0 = B.getD j 0) ∧ A.getD p 0 ≠ B.getD p 0
  | 0 => .inl fun j hj => absurd hj (Nat.not_lt_zero j)
  | n + 1 => by
    rcases first_unlike n with h | ⟨p, h1, h2, h3⟩
    · by_cases he : A.getD n 0 = B.getD n 0
      · refine .inl fun j hj => ?_
        rcases Nat.lt_or_ge j n with h1 | h1
        · exact h j h1
        · obtain rfl : j = n := by omega
          exact he
      · exact .inr ⟨n, by omega, h, he⟩
    · exact .inr ⟨p, by omega, h2, h3⟩
theorem rank_inj {A B : List Int} {k : Int} (hl : A.length = B.length) (h8 : A.length ≤ 8) (hk : k ≤ 8) (ha : sumA A A.length = k) (hb : sumA B B.length = k) (h : rank A k = rank B k) : A = B := by
  rcases first_unlike (A := A) (B := B) A.length with hh | ⟨p, h1, h2, h3⟩
  · exact row_ext hl hh
  · exfalso
    rcases Int.lt_trichotomy (A.getD p 0) (B.getD p 0) with h4 | h4 | h4
    · have := rank_lt p A B k hl h8 hk ha hb h1 h2 h4
      omega
    · exact h3 h4
    · have := rank_lt p B A k hl.symm (by omega) hk hb ha (by omega) (fun j hj => (h2 j hj).symm) h4
      omega

/-! ### the document's example -/
theorem cN_21 : cN 2 1 = 4 := by rw [cN_def]; decide
theorem cC_21 : cC 2 1 = 4 := by rw [cC_def, if_pos (by decide), cN_21]
theorem num_01 : numOf [0, 1] = 2 := by
  have s : sumA ([0, 1] : List Int) ([0, 1] : List Int).length = 1 := by
    show 0 + szV 0 + szV 1 = 1
    rw [szV_def, szV_def]; decide
  unfold numOf
  rw [s]
  show rnk 1 1 1 + (rnk 0 (1 - szV 0) (1 + (1 - szV 0)).toNat + 0) = 2
  rw [show szV 0 = 0 by rw [szV_def]; decide]
  show (0 + cN 1 (1 - szV (0 - 1))) + ((0 + cN 0 (1 - 0 - szV (0 - (1 - 0)))) + cN 0 (1 - 0 - szV (1 - (1 - 0))) + 0) = 2
  rw [show (0 - 1 : Int) = -1 by decide, show (1 - 0 : Int) = 1 by decide, show (1 - 1 : Int) = 0 by decide, show (0 - 1 : Int) = -1 by decide, szV_def (-1), szV_def 0]
  show (0 + cN 1 0) + ((0 + cN 0 0) + cN 0 1 + 0) = 2
  rw [cN_zero, cN_none (by decide) (by decide), show cN 1 0 = 1 by rw [cN_def]; decide]
  decide
theorem vec_ex {A : List Int} (h : vecR 2 1 0 A) : A.length = 2 ∧ A.getD 0 0 = -1 := by
  obtain ⟨h1, h2, h3⟩ := h
  refine ⟨h1, ?_⟩
  match A, h1 with
  | [x, y], _ =>
    obtain ⟨a1, a2, a3, a4, a5⟩ := head_in h2 (by decide)
    show x = -1
    rcases Int.lt_or_le x 0 with hx | hx
    · omega
    · exfalso
      have hi := rank_in [y] (1 - szV x) a5 a4 (show 1 ≤ 8 by decide)
      have rm := rnk_mono (n := 1) (k := 1) (by decide) (by decide) (s := 1) (x + 1).toNat (by omega)
      have r1 : rnk 1 1 1 = 1 := by
        show 0 + cN 1 (1 - szV (0 - 1)) = 1
        rw [show (0 - 1 : Int) = -1 by decide, szV_def]
        show 0 + cN 1 0 = 1
        rw [show cN 1 0 = 1 by rw [cN_def]; decide]; decide
      have h3' : rnk 1 1 (x + 1).toNat + rank [y] (1 - szV x) = 0 := h3
      omega
noncomputable def FW : Fns := ((((F0.over 21 hNumber).over 22 hVector).plus 24 (ct2 (fun _ _ => True) cC)).over 19 hPul)
theorem FW_ok : FnsOk Try.prog FW := (((F0_ok.over number_ct Try.func21 (by kernel_rfl) (by kernel_rfl)).over vector_ct Try.func22 (by kernel_rfl) (by kernel_rfl)).plus count_ct Try.func24 (by kernel_rfl) (by kernel_rfl)).over pul_ct Try.func19 (by kernel_rfl) (by kernel_rfl)
theorem awake_walk : walk FW 0 Try.f20 [] [] fun y _ => y = vb true := by
  have n01 := num_01
  have c21 := cC_21
  have p8 : pulA [0, 1] 2 ≤ 8 := by
    rw [pulA_def, if_pos (by decide)]
    show min (0 + szV 0 + szV 1) 9 ≤ 8
    rw [szV_def, szV_def]; decide
  have e1 : numOf (List.take 2 (((List.replicate (2 * (Try.prog.types[3]).size) (0 : Int)).set 0 0).set (0 + 1) 1)) = 2 := n01
  repeat' ((conv => whnf); first | (refine And.intro ⟨rfl, rfl⟩ ?_) | (refine And.intro rfl ?_) | (refine And.intro (fun _ => ?_) (fun h => absurd p8 h)) | fail)
  conv => whnf
  refine And.intro (fun h => absurd ⟨by decide, by rw [c21]; decide⟩ h) fun _ A hA => And.intro (fun h => ?_) fun hne c rest h1 h2 h3 => ?_
  · have := (vec_ex hA).1
    rw [h] at this
    cases this
  · obtain ⟨a1, a2⟩ := vec_ex hA
    have em0 : mulN (Int.toNat 0) (Try.prog.types[3]).size = Int.toNat 0 := mulN1 _
    have a3 : (A ++ rest).getD (0 + mulN (Int.toNat 0) (Try.prog.types[3]).size) 0 = -1 := by
      have em : mulN (Int.toNat 0) (Try.prog.types[3]).size = Int.toNat 0 := mulN1 _
      rw [em, left_at (by show 0 + 0 < A.length; omega)]
      exact a2
    repeat' ((conv => whnf); first | (refine ask_true (by omega) ?_) | (refine ask_true rfl ?_) | (refine And.intro (by omega) ?_) | (refine And.intro trivial ?_) | (refine fun (_ : InK _ _) => ?_) | rfl | fail)
theorem awake_ct : CtOk Try.prog 20 (ct0 (vb true)) := ct0_ok FW_ok Try.func20 ⟨trivial, rfl⟩ awake_walk
noncomputable def FZ : Fns := FW.plus 20 (ct0 (vb true))
theorem FZ_ok : FnsOk Try.prog FZ := FW_ok.plus awake_ct Try.func20 (by kernel_rfl) (by kernel_rfl)

/-! ### the law VectCounts -/
theorem counts_tab : (List.range 8).all (fun a => (List.range 8).all fun b => decide ((((b : Int) + 1) * (crow (a + 1)).getD (b + 1) 0 = ((a : Int) + 1) * (crow (b + 1)).getD (a + 1) 0) ∧ (crow (a + 1)).getD 0 0 = 1 ∧ (crow 1).getD (b + 1) 0 = 2 ∧ (crow (a + 1)).getD 1 0 = 2 * ((a : Int) + 1))) = true := by kernel_rfl
theorem cC_nat {a b : Nat} (ha : a ≤ 8) (hb : b ≤ 8) : cC a b = (crow a).getD b 0 := by rw [cC_def, if_pos (by omega), cN_nat]
theorem counts_law {a b : Int} (ha : 1 ≤ a ∧ a ≤ 8) (hb : 1 ≤ b ∧ b ≤ 8) : b * cC a b = a * cC b a ∧ cC a 0 = 1 ∧ cC 1 b = 2 ∧ cC a 1 = 2 * a := by
  obtain ⟨x, rfl⟩ : ∃ x : Nat, a = ((x + 1 : Nat) : Int) := ⟨(a - 1).toNat, by omega⟩
  obtain ⟨y, rfl⟩ : ∃ y : Nat, b = ((y + 1 : Nat) : Int) := ⟨(b - 1).toNat, by omega⟩
  have h1 := List.all_eq_true.1 counts_tab x (List.mem_range.2 (by omega))
  have h2 := of_decide_eq_true (List.all_eq_true.1 h1 y (List.mem_range.2 (by omega)))
  have e0 : cC ((x + 1 : Nat) : Int) 0 = (crow (x + 1)).getD 0 0 := cC_nat (b := 0) (by omega) (by omega)
  have e1 : cC 1 ((y + 1 : Nat) : Int) = (crow 1).getD (y + 1) 0 := cC_nat (a := 1) (by omega) (by omega)
  have e2 : cC ((x + 1 : Nat) : Int) 1 = (crow (x + 1)).getD 1 0 := cC_nat (b := 1) (by omega) (by omega)
  rw [cC_nat (by omega) (by omega), cC_nat (by omega) (by omega), e0, e1, e2]
  refine ⟨h2.1, h2.2.1, h2.2.2.1, ?_⟩
  rw [h2.2.2.2]; omega
theorem counts_walk (n k : Int) (hn : 0 ≤ n ∧ n ≤ 255) (hk : 0 ≤ k ∧ k ≤ 255) : walk FZ 0 Try.f12 [u8 n, u8 k] [] fun y _ => y = vb true := by
  repeat' ((conv => whnf); first | (refine ask_wrap64 (by omega) (by omega) ?_) | (refine And.intro (by omega) ?_) | fail)
  conv => whnf
  intro r hr
  have hr' : 0 ≤ r ∧ r ≤ 7 := by rw [hr, Int.tmod_eq_emod_of_nonneg hn.1]; omega
  clear hr
  repeat' ((conv => whnf); first | (refine ask_wrap64 (by omega) (by omega) ?_) | (refine And.intro (by omega) ?_) | fail)
  conv => whnf
  intro q hq
  have hq' : 0 ≤ q ∧ q ≤ 7 := by rw [hq, Int.tmod_eq_emod_of_nonneg hk.1]; omega
  clear hq
  obtain ⟨c1, c2, c3, c4⟩ := counts_law (a := 1 + r) (b := 1 + q) (by omega) (by omega)
  have m1 := cC_in (1 + r) (1 + q)
  have m2 := cC_in (1 + q) (1 + r)
  have p1 := mul_bound (a := 1 + q) (b := cC (1 + r) (1 + q)) (m := 8) (n := 4294967296) (by omega) (by omega) m1.1 m1.2
  have p2 := mul_bound (a := 1 + r) (b := cC (1 + q) (1 + r)) (m := 8) (n := 4294967296) (by omega) (by omega) m2.1 m2.2
  repeat' ((conv => whnf); first | (refine ask_wrap64 (by omega) (by omega) ?_) | (refine And.intro trivial ?_) | (refine ask_true (by omega) ?_) | rfl | fail)
theorem law_VectCounts (n : Int) (hn : InK .u8 n) (k : Int) (hk : InK .u8 k) (w0 : World) : Calls Try.prog 12 #[.int .u8 n, .int .u8 k] w0 fun e w' => e = .returned (.bool true) ∧ Below w0.heap.size w0 w' :=
  walk_true FZ_ok Try.func12 (ws := [u8 n, u8 k]) ⟨hn, hk, trivial⟩ rfl (n := 0) (counts_walk n k hn hk) w0
end Go.Proofs.Ytmkdamfdlkpjdaa
