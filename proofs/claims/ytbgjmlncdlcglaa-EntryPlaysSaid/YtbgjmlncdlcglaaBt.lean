/- Chapter fix: cuts and shifts, and the document's. -/
import Derived.Test.YtbgjmlncdlcglaaXs
set_option linter.all false
namespace Go.Proofs.Ytbgjmlncdlcglaa
open Go.RowKit (Below)
set_option maxRecDepth 100000
set_option maxHeartbeats 32000000

@[irreducible] noncomputable def cutS : Int → Int → Int := sealed fun x n => if n < 1 ∨ 62 < n then x else max (min x (pw (n - 1) - 1)) (-pw (n - 1))
theorem cutS_def (x n : Int) : cutS x n = if n < 1 ∨ 62 < n then x else max (min x (pw (n - 1) - 1)) (-pw (n - 1)) := by unfold cutS; rw [sealed_eq]
@[irreducible] noncomputable def shiftS : Int → Int → Int := sealed fun x n => if x < -1099511627776 ∨ 1099511627776 < x ∨ 40 < n ∨ n < -20 then 0 else if n ≤ 0 then x * pw (-n) else (x + pw (n - 1)) / pw n
theorem shiftS_def (x n : Int) : shiftS x n = if x < -1099511627776 ∨ 1099511627776 < x ∨ 40 < n ∨ n < -20 then 0 else if n ≤ 0 then x * pw (-n) else (x + pw (n - 1)) / pw n := by unfold shiftS; rw [sealed_eq]

theorem vi_eq {a b : Int} (h : a = b) : vi a = vi b := by rw [h]
theorem ask_wrap64' {e f : Int} {K : Int → Prop} (h : e = f) (h1 : -9223372036854775808 ≤ f) (h2 : f ≤ 9223372036854775807) (hk : K f) : ∀ r, r = IntKind.i64.wrap e → K r := by
  subst h; exact ask_wrap64 h1 h2 hk

theorem cut_walk (x n : Int) (hx : InK .i64 x) (hn : InK .i64 n) : walk F0 0 Try.f82 [i64 x, i64 n] [] fun y _ => y = vi (cutS x n) := by
  obtain ⟨x1, x2⟩ := hx
  obtain ⟨n1, n2⟩ := hn
  simp only [lowK, highK] at x1 x2 n1 n2
  conv => whnf
  refine ask_split (fun h1 => ?_) (fun h1 => ?_)
  · conv => whnf
    rw [cutS_def]; rw [if_pos (.inl h1)]; rfl
  · conv => whnf
    refine ask_split (fun h2 => ?_) (fun h2 => ?_)
    · conv => whnf
      rw [cutS_def]; rw [if_pos (.inr h2)]; rfl
    · conv => whnf
      refine ask_wrap64 (by omega) (by omega) ?_
      conv => whnf
      refine ⟨by omega, ?_⟩
      have e1 := pw_pos (n - 1)
      have e2 := pw62 (n := n - 1) (by omega)
      refine shl64 (by omega) (by omega) (by omega) (by omega) ?_
      have ec : cutS x n = max (min x (pw (n - 1) - 1)) (-pw (n - 1)) := by
        rw [cutS_def]; rw [if_neg (by omega)]
      rw [ec]
      clear ec
      generalize pw (n - 1) = p at *
      repeat' ((conv => whnf); first | (refine ask_wrap64 (by omega) (by omega) ?_) | (refine ask_true (by omega) ?_) | (refine ask_false (by omega) ?_) | (refine ⟨trivial, ?_⟩) | (refine ⟨by omega, ?_⟩) | (refine fun (_ : InK _ _) => ?_) | (refine ⟨by kernel_rfl, ?_⟩) | (refine ask_wrapu8 (by omega) (by omega) ?_) | (refine ask_wrapu64 (by omega) (by omega) ?_) | (refine ask_true (show (_ : Bool) = _ from rfl) ?_) | (refine ask_false (show ¬ ((_ : Bool) = _) from Bool.noConfusion) ?_) | fail)
      exact vi_eq (by omega)
theorem cut_eq (x : Int) {n : Int} (h1 : 1 ≤ n) (h2 : n ≤ 62) : cutS x n = max (min x (pw (n - 1) - 1)) (-pw (n - 1)) := by
  rw [cutS_def]; rw [if_neg (by omega)]
theorem cut_in {x n : Int} (hx : InK .i64 x) : InK .i64 (cutS x n) := by
  rw [cutS_def]
  split
  · exact hx
  · rename_i h
    have e1 := pw_pos (n - 1)
    have e2 := pw62 (n := n - 1) (by omega)
    simp only [InK, lowK, highK] at hx ⊢
    omega
theorem cut_ct : CtOk Try.prog 82 (ct2 (fun _ _ => True) cutS) := ct2_ok F0_ok Try.func82 (fun a b ha _ _ => cut_in ha) fun a b ha hb _ => cut_walk a b ha hb

theorem prod_bound {a b m n : Int} (h1 : -m ≤ a) (h2 : a ≤ m) (h3 : -n ≤ b) (h4 : b ≤ n) : -(m * n) ≤ a * b ∧ a * b ≤ m * n := by
  have h5 : 0 ≤ (m - a) * (n - b) := Int.mul_nonneg (by omega) (by omega)
  have h6 : 0 ≤ (m + a) * (n + b) := Int.mul_nonneg (by omega) (by omega)
  have h7 : 0 ≤ (m - a) * (n + b) := Int.mul_nonneg (by omega) (by omega)
  have h8 : 0 ≤ (m + a) * (n - b) := Int.mul_nonneg (by omega) (by omega)
  simp only [Int.sub_mul, Int.mul_sub, Int.add_mul, Int.mul_add] at h5 h6 h7 h8
  constructor <;> omega

theorem shift_up {x n : Int} (hx : -1099511627776 ≤ x) (hx' : x ≤ 1099511627776) (h : -20 ≤ n) (h0 : n ≤ 0) : -1152921504606846976 ≤ x * pw (-n) ∧ x * pw (-n) ≤ 1152921504606846976 := by
  have e1 := pw_pos (-n)
  have e2 := pw_mono (a := -n) (b := 20) (by omega)
  have e : pw 20 = 1048576 := by rw [pw_def]; decide
  have := prod_bound (a := x) (b := pw (-n)) (m := 1099511627776) (n := 1048576) hx hx' (by omega) (by omega)
  omega
theorem shift_in {x n : Int} : InK .i64 (shiftS x n) := by
  rw [shiftS_def]
  split
  · exact ⟨by decide, by decide⟩
  · rename_i h
    split
    · have := shift_up (x := x) (n := n) (by omega) (by omega) (by omega) (by omega)
      simp only [InK, lowK, highK]
      omega
    · have e1 := pw_pos (n - 1)
      have e2 := pw62 (n := n - 1) (by omega)
      have e3 := pw_pos n
      have h1 : (x + pw (n - 1)) / pw n ≤ 4611687117939015680 := by
        refine Int.le_trans (Int.ediv_le_ediv (c := pw n) (b := 4611687117939015680) (by omega) (by omega)) ?_
        exact Int.ediv_le_self _ (by decide)
      have h2 : -1099511627776 ≤ (x + pw (n - 1)) / pw n := by
        refine (Int.le_ediv_iff_mul_le (by omega)).2 ?_
        have : (-1099511627776) * pw n ≤ (-1099511627776) * 1 := Int.mul_le_mul_of_nonpos_left (by decide) (by omega)
        omega
      simp only [InK, lowK, highK]
      omega
theorem shift_walk (x n : Int) (hx : InK .i64 x) (hn : InK .i64 n) : walk F0 0 Try.f70 [i64 x, i64 n] [] fun y _ => y = vi (shiftS x n) := by
  obtain ⟨x1, x2⟩ := hx
  obtain ⟨n1, n2⟩ := hn
  simp only [lowK, highK] at x1 x2 n1 n2
  by_cases h : x < -1099511627776 ∨ 1099511627776 < x ∨ 40 < n ∨ n < -20
  · rw [shiftS_def]
    rw [if_pos h]
    repeat' ((conv => whnf); first | (refine ask_true (by omega) ?_) | (refine ask_false (by omega) ?_) | (refine ask_split (fun _ => ?_) (fun _ => ?_)) | rfl)
  · rw [shiftS_def]
    rw [if_neg h]
    repeat' ((conv => whnf); first | (refine ask_false (by omega) ?_) | fail)
    conv => whnf
    refine ask_split (fun h2 => ?_) (fun h2 => ?_)
    · have hb := shift_up (x := x) (n := n) (by omega) (by omega) (by omega) h2
      rw [if_pos h2]
      conv => whnf
      refine ask_wrap64 (by omega) (by omega) ?_
      conv => whnf
      refine ⟨by omega, ?_⟩
      have e0 : 0 - n = -n := by omega
      first
        | (refine shl64 (n := -n) (by omega) (by omega) (by omega) (by omega) ?_)
        | (rw [e0]; refine shl64 (n := -n) (by omega) (by omega) (by omega) (by omega) ?_)
      rfl
    · rw [if_neg h2]
      have e1 := pw_pos (n - 1)
      have e2 := pw62 (n := n - 1) (by omega)
      conv => whnf
      refine ask_wrap64 (by omega) (by omega) ?_
      conv => whnf
      refine ⟨by omega, ?_⟩
      refine shl64 (by omega) (by omega) (by omega) (by omega) ?_
      conv => whnf
      refine ask_wrap64 (by omega) (by omega) ?_
      conv => whnf
      refine ⟨by omega, ?_⟩
      refine shr64 (by omega) ?_
      conv => whnf
      refine vi_eq ?_
      rw [Int.one_mul]
theorem shift_ct : CtOk Try.prog 70 (ct2 (fun _ _ => True) shiftS) := ct2_ok F0_ok Try.func70 (fun a b _ _ _ => shift_in) fun a b ha hb _ => shift_walk a b ha hb

theorem pow_walk (n : Int) (hn : InK .i64 n) (h62 : n ≤ 62) : walk F0 0 Try.f83 [i64 n] [] fun y _ => y = vi (pw n) := by
  obtain ⟨n1, n2⟩ := hn
  simp only [lowK, highK] at n1 n2
  conv => whnf
  refine loop_at (3 :: List.range' 4 9) (fun m i => 0 ≤ i ∧ (i = 0 ∨ i ≤ n) ∧ m = (n - i).toNat) (fun i => [(3, vi (pw i)), (4, vi i)]) (fun _ => []) (n - 0).toNat (0 : Int) ⟨by omega, by omega, rfl⟩ ?_ ?_
  · exact ⟨rfl, ⟨⟨Nat.le_of_ble_eq_true rfl, vi_eq (pw_zero (Int.le_refl 0)).symm⟩, ⟨Nat.le_of_ble_eq_true rfl, rfl⟩, trivial⟩, trivial, rfl, rfl, Nat.le_refl _⟩
  · rintro m i ⟨h1, h2, rfl⟩
    have e1 := pw_pos i
    have e2 := pw62 (n := i) (by omega)
    conv => whnf
    refine ask_split (fun h3 => ?_) (fun h3 => ?_)
    · have e3 := pw62 (n := i + 1) (by omega)
      have e4 := pw_succ h1
      repeat' ((conv => whnf); first | (refine ask_wrap64 (by omega) (by omega) ?_) | (refine ask_true (by omega) ?_) | (refine ask_false (by omega) ?_) | (refine ⟨trivial, ?_⟩) | (refine ⟨by omega, ?_⟩) | (refine fun (_ : InK _ _) => ?_) | (refine ⟨by kernel_rfl, ?_⟩) | (refine ask_wrapu8 (by omega) (by omega) ?_) | (refine ask_wrapu64 (by omega) (by omega) ?_) | (refine ask_true (show (_ : Bool) = _ from rfl) ?_) | (refine ask_false (show ¬ ((_ : Bool) = _) from Bool.noConfusion) ?_) | fail)
      exact ⟨(n - (i + 1)).toNat, i + 1, by omega, ⟨by omega, by omega, rfl⟩, rfl, ⟨⟨Nat.le_of_ble_eq_true rfl, vi_eq e4.symm⟩, ⟨Nat.le_of_ble_eq_true rfl, rfl⟩, trivial⟩, trivial, rfl, rfl, Nat.le_refl _⟩
    · conv => whnf
      refine vi_eq ?_
      rcases Int.lt_or_le 0 n with h | h
      · rw [show i = n by omega]
      · rw [pw_zero h, pw_zero (n := i) (by omega)]
theorem pow_ct : CtOk Try.prog 83 (ct1 (fun n => n ≤ 62) pw) := ct1_ok F0_ok Try.func83 (fun n _ h => ⟨Int.le_trans (by decide) (pw_pos n), Int.le_trans (pw62 h) (by decide)⟩) fun n hn h => pow_walk n hn h

theorem down_walk (a b : Int) (ha : InK .i64 a) (hb : InK .i64 b) (h : 0 < b) : walk F0 0 Try.f99 [i64 a, i64 b] [] fun y _ => y = vi (a / b) := by
  obtain ⟨x1, x2⟩ := ha
  obtain ⟨n1, n2⟩ := hb
  simp only [lowK, highK] at x1 x2 n1 n2
  have q1 : -9223372036854775808 ≤ a / b := by
    refine (Int.le_ediv_iff_mul_le h).2 ?_
    have : (-9223372036854775808) * b ≤ (-9223372036854775808) * 1 := Int.mul_le_mul_of_nonpos_left (by decide) (by omega)
    omega
  have q2 : a / b ≤ 9223372036854775807 := by
    refine Int.le_trans (Int.ediv_le_ediv (c := b) (b := 9223372036854775807) h x2) ?_
    exact Int.ediv_le_self _ (by decide)
  have r1 := Int.emod_nonneg a (b := b) (by omega)
  have r2 := Int.emod_lt_of_pos a h
  by_cases hd : 0 ≤ a ∨ b ∣ a
  · have e1 : a.tdiv b = a / b := by rw [Int.tdiv_eq_ediv, if_pos hd]; omega
    have e2 : a.tmod b = a % b := by rw [Int.tmod_eq_emod, if_pos hd]; omega
    conv => whnf
    refine ⟨by omega, ask_wrap64' e1 q1 q2 ?_⟩
    conv => whnf
    refine ⟨by omega, ask_is e2 ?_⟩
    conv => whnf
    refine ask_false (by omega) ?_
    conv => whnf
    rfl
  · have hs : b.sign = 1 := Int.sign_eq_one_of_pos h
    have hn : a % b ≠ 0 := fun e => hd (.inr (Int.dvd_of_emod_eq_zero e))
    have q3 : a / b < 0 := Int.ediv_neg_of_neg_of_pos (by omega) h
    have e1 : a.tdiv b = a / b + 1 := by rw [Int.tdiv_eq_ediv, if_neg hd, hs]
    have e2 : a.tmod b = a % b - b := by rw [Int.tmod_eq_emod, if_neg hd]; omega
    conv => whnf
    refine ⟨by omega, ask_wrap64' e1 (by omega) (by omega) ?_⟩
    conv => whnf
    refine ⟨by omega, ask_is e2 ?_⟩
    conv => whnf
    refine ask_true (by omega) ?_
    repeat' ((conv => whnf); first | (refine ask_wrap64 (by omega) (by omega) ?_) | (refine ask_true (by omega) ?_) | (refine ask_false (by omega) ?_) | (refine ⟨trivial, ?_⟩) | (refine ⟨by omega, ?_⟩) | (refine fun (_ : InK _ _) => ?_) | (refine ⟨by kernel_rfl, ?_⟩) | (refine ask_wrapu8 (by omega) (by omega) ?_) | (refine ask_wrapu64 (by omega) (by omega) ?_) | (refine ask_true (show (_ : Bool) = _ from rfl) ?_) | (refine ask_false (show ¬ ((_ : Bool) = _) from Bool.noConfusion) ?_) | fail)
    exact vi_eq (by omega)
theorem down_in {a b : Int} (ha : InK .i64 a) (h : 0 < b) : InK .i64 (a / b) := by
  obtain ⟨x1, x2⟩ := ha
  simp only [lowK, highK] at x1 x2
  have q1 : -9223372036854775808 ≤ a / b := by
    refine (Int.le_ediv_iff_mul_le h).2 ?_
    have : (-9223372036854775808) * b ≤ (-9223372036854775808) * 1 := Int.mul_le_mul_of_nonpos_left (by decide) (by omega)
    omega
  have q2 : a / b ≤ 9223372036854775807 := by
    refine Int.le_trans (Int.ediv_le_ediv (c := b) (b := 9223372036854775807) h x2) ?_
    exact Int.ediv_le_self _ (by decide)
  exact ⟨q1, q2⟩
theorem down_ct : CtOk Try.prog 99 (ct2 (fun _ b => 0 < b) HDiv.hDiv) := ct2_ok F0_ok Try.func99 (fun a b ha _ h => down_in ha h) fun a b ha hb h => down_walk a b ha hb h

noncomputable def F3 : Fns := (F0.plus 83 (ct1 (fun n => n ≤ 62) pw)).plus 99 (ct2 (fun _ b => 0 < b) HDiv.hDiv)
theorem F3_ok : FnsOk Try.prog F3 := (F0_ok.plus pow_ct Try.func83 (by kernel_rfl) (by kernel_rfl)).plus down_ct Try.func99 (by kernel_rfl) (by kernel_rfl)
theorem refCut_walk (x n : Int) (hx : InK .i64 x) (hn : InK .i64 n) (h : 1 ≤ n ∧ n ≤ 62) : walk F3 0 Try.f43 [i64 x, i64 n] [] fun y _ => y = vi (cutS x n) := by
  rw [cut_eq x h.1 h.2]
  obtain ⟨x1, x2⟩ := hx
  simp only [lowK, highK] at x1 x2
  have e3 := pw_pos (n - 1)
  have e4 := pw62 (n := n - 1) (by omega)
  repeat' ((conv => whnf); first | (refine ask_wrap64 (by omega) (by omega) ?_) | (refine ask_true (by omega) ?_) | (refine ask_false (by omega) ?_) | (refine ⟨trivial, ?_⟩) | (refine ⟨by omega, ?_⟩) | (refine fun (_ : InK _ _) => ?_) | (refine ⟨by kernel_rfl, ?_⟩) | (refine ask_wrapu8 (by omega) (by omega) ?_) | (refine ask_wrapu64 (by omega) (by omega) ?_) | (refine ask_true (show (_ : Bool) = _ from rfl) ?_) | (refine ask_false (show ¬ ((_ : Bool) = _) from Bool.noConfusion) ?_) | rfl | (refine ask_split (fun _ => ?_) (fun _ => ?_)) | fail)
  all_goals exact vi_eq (by omega)
theorem refCut_ct : CtOk Try.prog 43 (ct2 (fun _ n => 1 ≤ n ∧ n ≤ 62) cutS) := ct2_ok F3_ok Try.func43 (fun a b ha _ _ => cut_in ha) fun a b ha hb h => refCut_walk a b ha hb h
theorem refShift_walk (x n : Int) (hx : InK .i64 x) (hn : InK .i64 n) (h : -1099511627776 ≤ x ∧ x ≤ 1099511627776 ∧ 1 ≤ n ∧ n ≤ 40) : walk F3 0 Try.f85 [i64 x, i64 n] [] fun y _ => y = vi (shiftS x n) := by
  rw [shiftS_def, if_neg (by omega), if_neg (by omega)]
  have e3 := pw_pos (n - 1)
  have e4 := pw62 (n := n - 1) (by omega)
  have e5 := pw_pos n
  repeat' ((conv => whnf); first | (refine ask_wrap64 (by omega) (by omega) ?_) | (refine ask_true (by omega) ?_) | (refine ask_false (by omega) ?_) | (refine ⟨trivial, ?_⟩) | (refine ⟨by omega, ?_⟩) | (refine fun (_ : InK _ _) => ?_) | (refine ⟨by kernel_rfl, ?_⟩) | (refine ask_wrapu8 (by omega) (by omega) ?_) | (refine ask_wrapu64 (by omega) (by omega) ?_) | (refine ask_true (show (_ : Bool) = _ from rfl) ?_) | (refine ask_false (show ¬ ((_ : Bool) = _) from Bool.noConfusion) ?_) | fail)
  rfl
theorem refShift_ct : CtOk Try.prog 85 (ct2 (fun x n => -1099511627776 ≤ x ∧ x ≤ 1099511627776 ∧ 1 ≤ n ∧ n ≤ 40) shiftS) := ct2_ok F3_ok Try.func85 (fun a b _ _ _ => shift_in) fun a b ha hb h => refShift_walk a b ha hb h

end Go.Proofs.Ytbgjmlncdlcglaa
