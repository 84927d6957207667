/- Chapter fix: roots, and the document's own functions. -/
import Derived.Test.YtcikcejpmjbckaaXv
set_option linter.all false
namespace Go.Proofs.Ytcikcejpmjbckaa
open Go.RowKit (Below)
set_option maxRecDepth 100000
set_option maxHeartbeats 8000000

def ctU (pre : Int → Prop) (f : Int → Int) : Ct := fun ws K => match ws with
  | [.c (.ci .u64 a)] => pre a ∧ K (vi (f a))
  | _ => False
theorem ctU_ok {F : Fns} (hF : FnsOk Try.prog F) {n : Nat} {f : FuncId} {fn : Func} (hf : Try.prog.funcs[f]? = some fn) {pre : Int → Prop} {g : Int → Int} (hg : ∀ a, InK .u64 a → pre a → InK .i64 (g a))
    (h : ∀ a, InK .u64 a → pre a → walk F n fn [u64 a] [] fun y _ => y = vi (g a)) : CtOk Try.prog f (ctU pre g) := by
  intro ws K h' hr
  unfold ctU at h'
  split at h'
  · rename_i a
    exact ⟨_, h'.2, ⟨hg a hr.1 h'.1, rfl⟩, walk_calls hF hf rfl hr rfl (h a hr.1 h'.1)⟩
  · exact h'.elim

theorem len_small {x : Int} (h : x ≤ 18446744073709551615) : 0 ≤ lenS x ∧ lenS x ≤ 64 := ⟨len_nonneg x, len_le (by have := pw_vals.2.2.2.2.1; omega) (by decide)⟩
theorem len_in {x : Int} (h : x ≤ 18446744073709551615) : InK .i64 (lenS x) := by
  have := len_small h
  simp only [InK, lowK, highK]; omega
theorem len64_ct : CtOk Try.prog 51 (ctU (fun _ => True) lenS) := ctU_ok F0_ok Try.func51 (fun a h _ => len_in h.2) fun a ha _ => len64_walk a ha
def FL : Fns := F0.plus 51 (ctU (fun _ => True) lenS)
theorem FL_ok : FnsOk Try.prog FL := F0_ok.plus len64_ct Try.func51 (by kernel_rfl) (by kernel_rfl)

/-- A number's length, whatever its sign. -/
@[irreducible] noncomputable def lengthS : Int → Int := sealed fun x => lenS (if x < 0 then -x else x)
theorem lengthS_def (x : Int) : lengthS x = lenS (if x < 0 then -x else x) := by unfold lengthS; rw [sealed_eq]
theorem length_walk (x : Int) (hx : InK .i64 x) (h : -9223372036854775808 < x) : walk FL 0 Try.f36 [i64 x] [] fun y _ => y = vi (lengthS x) := by
  obtain ⟨x1, x2⟩ := hx
  simp only [lowK, highK] at x1 x2
  rw [lengthS_def]
  conv => whnf
  refine ask_split (fun h1 => ?_) (fun h1 => ?_)
  · rw [if_pos h1]
    repeat' ((conv => whnf); first | (refine ask_wrap64 (by omega) (by omega) ?_) | (refine ask_true (by omega) ?_) | (refine ask_false (by omega) ?_) | (refine ⟨trivial, ?_⟩) | (refine ⟨by omega, ?_⟩) | (refine ask_wrapu8 (by omega) (by omega) ?_) | (refine ask_wrapu64 (by omega) (by omega) ?_) | (refine ask_true (show (_ : Bool) = _ from rfl) ?_) | (refine ask_false (show ¬ ((_ : Bool) = _) from Bool.noConfusion) ?_) | fail)
    exact vi_eq (by rw [Int.zero_sub])
  · rw [if_neg h1]
    repeat' ((conv => whnf); first | (refine ask_wrap64 (by omega) (by omega) ?_) | (refine ask_true (by omega) ?_) | (refine ask_false (by omega) ?_) | (refine ⟨trivial, ?_⟩) | (refine ⟨by omega, ?_⟩) | (refine ask_wrapu8 (by omega) (by omega) ?_) | (refine ask_wrapu64 (by omega) (by omega) ?_) | (refine ask_true (show (_ : Bool) = _ from rfl) ?_) | (refine ask_false (show ¬ ((_ : Bool) = _) from Bool.noConfusion) ?_) | fail)
    rfl
theorem length_ct : CtOk Try.prog 36 (ct1 (fun x => -9223372036854775808 < x) lengthS) := ct1_ok FL_ok Try.func36 (fun a h _ => by
  rw [lengthS_def]
  have h2 := h.2
  have h1 := h.1
  simp only [lowK, highK] at h1 h2
  exact len_in (by split <;> omega)) fun a ha h => length_walk a ha h

theorem refLength_walk (x : Int) (hx : InK .i64 x) (h : 0 ≤ x) : walk F0 0 Try.f38 [i64 x] [] fun y _ => y = vi (lenS x) := by
  obtain ⟨x1, x2⟩ := hx
  simp only [lowK, highK] at x1 x2
  have hl := len_small (x := x) (by omega)
  conv => whnf
  refine loop_at2 (0 :: List.range' 3 7) (fun m (z n : Int) => 0 ≤ z ∧ z ≤ x ∧ 0 ≤ n ∧ n + lenS z = lenS x ∧ m = z.toNat) (fun z n => [(0, vi z), (3, vi n)]) (fun _ _ => []) x.toNat x 0 ⟨h, Int.le_refl _, Int.le_refl _, by simp, rfl⟩ ?_ ?_
  · exact ⟨rfl, ⟨⟨Nat.le_of_ble_eq_true rfl, rfl⟩, ⟨Nat.le_of_ble_eq_true rfl, rfl⟩, trivial⟩, trivial, rfl, rfl, Nat.le_refl _⟩
  · rintro m z n ⟨h1, h2, h3, h4, rfl⟩
    have hz := len_small (x := z) (by omega)
    conv => whnf
    refine ask_split (fun h5 => ?_) (fun h5 => ?_)
    · have p1 := pw_vals.2.2.2.1
      have e : lenS z = lenS (z / 2) + 1 := by
        rcases Int.lt_or_le z 2 with hh | hh
        · rw [show z = 1 by omega, len_zero (x := 1 / 2) (by decide)]
          exact len_uniq (by decide) (by rw [pw_zero (by decide)]; decide) (by rw [show (0 : Int) + 1 = 1 by decide, p1]; decide) (by decide)
        · have := len_half (x := z) (k := 1) (by decide) (by omega)
          rwa [p1] at this
      have ez : IntKind.i64.wrap (z.tdiv 2) = z / 2 := by
        rw [Int.tdiv_eq_ediv_of_nonneg h1]; exact wrap_of_in (k := .i64) ⟨by simp only [lowK]; omega, by simp only [highK]; omega⟩
      have hz2 := len_nonneg (z / 2)
      conv => whnf
      refine ⟨by omega, ask_is ez ?_⟩
      repeat' ((conv => whnf); first | (refine ask_wrap64 (by omega) (by omega) ?_) | (refine ask_true (by omega) ?_) | (refine ask_false (by omega) ?_) | (refine ⟨trivial, ?_⟩) | (refine ⟨by omega, ?_⟩) | (refine ask_wrapu8 (by omega) (by omega) ?_) | (refine ask_wrapu64 (by omega) (by omega) ?_) | (refine ask_true (show (_ : Bool) = _ from rfl) ?_) | (refine ask_false (show ¬ ((_ : Bool) = _) from Bool.noConfusion) ?_) | fail)
      exact ⟨(z / 2).toNat, (z / 2, n + 1), by omega, ⟨by simp only; omega, by simp only; omega, by simp only; omega, by simp only; omega, rfl⟩, rfl, ⟨⟨Nat.le_of_ble_eq_true rfl, rfl⟩, ⟨Nat.le_of_ble_eq_true rfl, rfl⟩, trivial⟩, trivial, rfl, rfl, Nat.le_refl _⟩
    · have := len_zero (x := z) (by omega)
      conv => whnf
      exact vi_eq (by omega)
theorem refLength_ct : CtOk Try.prog 38 (ct1 (fun x => 0 ≤ x) lenS) := ct1_ok F0_ok Try.func38 (fun a h _ => len_in (Int.le_trans h.2 (by decide))) fun a ha h => refLength_walk a ha h

theorem down_walk (a b : Int) (ha : InK .i64 a) (hb : InK .i64 b) (h : 0 < b) : walk F0 0 Try.f52 [i64 a, i64 b] [] fun y _ => y = vi (a / b) := by
  obtain ⟨x1, x2⟩ := ha
  obtain ⟨n1, n2⟩ := hb
  simp only [lowK, highK] at x1 x2 n1 n2
  have q1 : -9223372036854775808 ≤ a / b := by
    refine (Int.le_ediv_iff_mul_le h).2 ?_
    have : (-9223372036854775808) * b ≤ (-9223372036854775808) * 1 := Int.mul_le_mul_of_nonpos_left (by decide) (by omega)
    omega
  have q2 : a / b ≤ 9223372036854775807 := by
    refine Int.le_trans (Int.ediv_le_ediv (c := b) (b := 9223372036854775807) h x2) ?_
    exact Int.ediv_le_self _ (by decide)
  have r1 := Int.emod_nonneg a (b := b) (by omega)
  have r2 := Int.emod_lt_of_pos a h
  by_cases hd : 0 ≤ a ∨ b ∣ a
  · have e1 : a.tdiv b = a / b := by rw [Int.tdiv_eq_ediv, if_pos hd]; omega
    have e2 : a.tmod b = a % b := by rw [Int.tmod_eq_emod, if_pos hd]; omega
    conv => whnf
    refine ⟨by omega, ask_wrap64' e1 q1 q2 ?_⟩
    conv => whnf
    refine ⟨by omega, ask_is e2 ?_⟩
    conv => whnf
    refine ask_false (by omega) ?_
    conv => whnf
    rfl
  · have hs : b.sign = 1 := Int.sign_eq_one_of_pos h
    have hn : a % b ≠ 0 := fun e => hd (.inr (Int.dvd_of_emod_eq_zero e))
    have q3 : a / b < 0 := Int.ediv_neg_of_neg_of_pos (by omega) h
    have e1 : a.tdiv b = a / b + 1 := by rw [Int.tdiv_eq_ediv, if_neg hd, hs]
    have e2 : a.tmod b = a % b - b := by rw [Int.tmod_eq_emod, if_neg hd]; omega
    conv => whnf
    refine ⟨by omega, ask_wrap64' e1 (by omega) (by omega) ?_⟩
    conv => whnf
    refine ⟨by omega, ask_is e2 ?_⟩
    conv => whnf
    refine ask_true (by omega) ?_
    repeat' ((conv => whnf); first | (refine ask_wrap64 (by omega) (by omega) ?_) | (refine ask_true (by omega) ?_) | (refine ask_false (by omega) ?_) | (refine ⟨trivial, ?_⟩) | (refine ⟨by omega, ?_⟩) | (refine ask_wrapu8 (by omega) (by omega) ?_) | (refine ask_wrapu64 (by omega) (by omega) ?_) | (refine ask_true (show (_ : Bool) = _ from rfl) ?_) | (refine ask_false (show ¬ ((_ : Bool) = _) from Bool.noConfusion) ?_) | fail)
    exact vi_eq (by omega)
theorem down_in {a b : Int} (ha : InK .i64 a) (h : 0 < b) : InK .i64 (a / b) := by
  obtain ⟨x1, x2⟩ := ha
  simp only [lowK, highK] at x1 x2
  have q1 : -9223372036854775808 ≤ a / b := by
    refine (Int.le_ediv_iff_mul_le h).2 ?_
    have : (-9223372036854775808) * b ≤ (-9223372036854775808) * 1 := Int.mul_le_mul_of_nonpos_left (by decide) (by omega)
    omega
  have q2 : a / b ≤ 9223372036854775807 := by
    refine Int.le_trans (Int.ediv_le_ediv (c := b) (b := 9223372036854775807) h x2) ?_
    exact Int.ediv_le_self _ (by decide)
  exact ⟨q1, q2⟩
theorem down_ct : CtOk Try.prog 52 (ct2 (fun _ b => 0 < b) HDiv.hDiv) := ct2_ok F0_ok Try.func52 (fun a b ha _ h => down_in ha h) fun a b ha hb h => down_walk a b ha hb h

def F3 : Fns := (F2.plus 52 (ct2 (fun _ b => 0 < b) HDiv.hDiv)).plus 36 (ct1 (fun x => -9223372036854775808 < x) lengthS)
theorem F3_ok : FnsOk Try.prog F3 := (F2_ok.plus down_ct Try.func52 (by kernel_rfl) (by kernel_rfl)).plus length_ct Try.func36 (by kernel_rfl) (by kernel_rfl)

theorem refMul_walk (a b : Int) (ha : InK .i64 a) (hb : InK .i64 b) (h : -2147483648 ≤ a ∧ a ≤ 2147483648 ∧ -2147483648 ≤ b ∧ b ≤ 2147483648) : walk F3 0 Try.f37 [i64 a, i64 b] [] fun y _ => y = vi (mulS a b) := by
  rw [mulS_def, if_neg (by omega)]
  have hp := prod_bound (a := a) (b := b) (m := 2147483648) (n := 2147483648) (by omega) (by omega) (by omega) (by omega)
  repeat' ((conv => whnf); first | (refine ask_wrap64 (by omega) (by omega) ?_) | (refine ask_true (by omega) ?_) | (refine ask_false (by omega) ?_) | (refine ⟨trivial, ?_⟩) | (refine ⟨by omega, ?_⟩) | (refine ask_wrapu8 (by omega) (by omega) ?_) | (refine ask_wrapu64 (by omega) (by omega) ?_) | (refine ask_true (show (_ : Bool) = _ from rfl) ?_) | (refine ask_false (show ¬ ((_ : Bool) = _) from Bool.noConfusion) ?_) | rfl | (refine ask_split (fun _ => ?_) (fun _ => ?_)) | fail)
  all_goals exact vi_eq (by omega)
theorem refMul_ct : CtOk Try.prog 37 (ct2 (fun a b => -2147483648 ≤ a ∧ a ≤ 2147483648 ∧ -2147483648 ≤ b ∧ b ≤ 2147483648) mulS) := ct2_ok F3_ok Try.func37 (fun a b _ _ _ => mul_in) fun a b ha hb h => refMul_walk a b ha hb h
theorem refCut_walk (x n : Int) (hx : InK .i64 x) (hn : InK .i64 n) (h : 1 ≤ n ∧ n ≤ 62) : walk F3 0 Try.f27 [i64 x, i64 n] [] fun y _ => y = vi (cutS x n) := by
  rw [cut_eq x h.1 h.2]
  obtain ⟨x1, x2⟩ := hx
  simp only [lowK, highK] at x1 x2
  have e3 := pw_pos (n - 1)
  have e4 := pw62 (n := n - 1) (by omega)
  repeat' ((conv => whnf); first | (refine ask_wrap64 (by omega) (by omega) ?_) | (refine ask_true (by omega) ?_) | (refine ask_false (by omega) ?_) | (refine ⟨trivial, ?_⟩) | (refine ⟨by omega, ?_⟩) | (refine ask_wrapu8 (by omega) (by omega) ?_) | (refine ask_wrapu64 (by omega) (by omega) ?_) | (refine ask_true (show (_ : Bool) = _ from rfl) ?_) | (refine ask_false (show ¬ ((_ : Bool) = _) from Bool.noConfusion) ?_) | rfl | (refine ask_split (fun _ => ?_) (fun _ => ?_)) | fail)
  all_goals exact vi_eq (by omega)
theorem refCut_ct : CtOk Try.prog 27 (ct2 (fun _ n => 1 ≤ n ∧ n ≤ 62) cutS) := ct2_ok F3_ok Try.func27 (fun a b ha _ _ => cut_in ha) fun a b ha hb h => refCut_walk a b ha hb h
theorem refShift_walk (x n : Int) (hx : InK .i64 x) (hn : InK .i64 n) (h : -1099511627776 ≤ x ∧ x ≤ 1099511627776 ∧ 1 ≤ n ∧ n ≤ 40) : walk F3 0 Try.f39 [i64 x, i64 n] [] fun y _ => y = vi (shiftS x n) := by
  rw [shiftS_def, if_neg (by omega), if_neg (by omega)]
  have e3 := pw_pos (n - 1)
  have e4 := pw62 (n := n - 1) (by omega)
  have e5 := pw_pos n
  repeat' ((conv => whnf); first | (refine ask_wrap64 (by omega) (by omega) ?_) | (refine ask_true (by omega) ?_) | (refine ask_false (by omega) ?_) | (refine ⟨trivial, ?_⟩) | (refine ⟨by omega, ?_⟩) | (refine ask_wrapu8 (by omega) (by omega) ?_) | (refine ask_wrapu64 (by omega) (by omega) ?_) | (refine ask_true (show (_ : Bool) = _ from rfl) ?_) | (refine ask_false (show ¬ ((_ : Bool) = _) from Bool.noConfusion) ?_) | fail)
  rfl
theorem refShift_ct : CtOk Try.prog 39 (ct2 (fun x n => -1099511627776 ≤ x ∧ x ≤ 1099511627776 ∧ 1 ≤ n ∧ n ≤ 40) shiftS) := ct2_ok F3_ok Try.func39 (fun a b _ _ _ => shift_in) fun a b ha hb h => refShift_walk a b ha hb h

end Go.Proofs.Ytcikcejpmjbckaa
