/- Chapter fix: the laws FixCuts, FixMuls and FixShifts, walked. -/
import Derived.Test.YtcikcejpmjbckaaXt
set_option linter.all false
namespace Go.Proofs.Ytcikcejpmjbckaa
open Go.RowKit (Below)
set_option maxRecDepth 100000
set_option maxHeartbeats 8000000

def F1 : Fns := (((F0.plus 19 (ct2 (fun _ _ => True) cutS)).plus 22 (ct2 (fun _ _ => True) mulS)).plus 25 (ct2 (fun _ _ => True) shiftS)).plus 20 (ct1 (fun n => n ≤ 62) pw)
theorem F1_ok : FnsOk Try.prog F1 := (((F0_ok.plus cut_ct Try.func19 (by kernel_rfl) (by kernel_rfl)).plus mul_ct Try.func22 (by kernel_rfl) (by kernel_rfl)).plus shift_ct Try.func25 (by kernel_rfl) (by kernel_rfl)).plus pow_ct Try.func20 (by kernel_rfl) (by kernel_rfl)

theorem awake01_walk : walk F1 0 Try.f21 [] [] fun y _ => y = vb true := by
  have e1 : mulS 3 16384 = 2 := by rw [mulS_def]; decide
  have e2 : cutS 40000 16 = 32767 := by rw [cutS_def, pw_def]; decide
  repeat' ((conv => whnf); first | (refine ⟨trivial, ?_⟩) | (refine ask_true (by omega) ?_) | fail)
  rfl
theorem awake01_ct : CtOk Try.prog 21 (ct0 (vb true)) := ct0_ok F1_ok Try.func21 ⟨trivial, rfl⟩ awake01_walk
def F2 : Fns := F1.plus 21 (ct0 (vb true))
theorem F2_ok : FnsOk Try.prog F2 := F1_ok.plus awake01_ct Try.func21 (by kernel_rfl) (by kernel_rfl)

theorem law_FixCuts (x : Int) (hx : InK .i64 x) (n : Int) (hn : InK .u8 n) (W : World) : Calls Try.prog 3 #[.int .i64 x, .int .u8 n] W fun e w' => e = .returned (.bool true) ∧ Below W.heap.size W w' := by
  refine walk_true F2_ok Try.func3 (ws := [i64 x, u8 n]) ⟨hx, hn, trivial⟩ rfl (n := 0) ?_ W
  obtain ⟨x1, x2⟩ := hx
  obtain ⟨n1, n2⟩ := hn
  simp only [lowK, highK] at x1 x2 n1 n2
  conv => whnf
  refine ask_wrap64 (by omega) (by omega) ?_
  conv => whnf
  refine ⟨by omega, fun m hm => ?_⟩
  rw [Int.tmod_eq_emod_of_nonneg (by omega)] at hm
  have k1 : 0 ≤ m ∧ m ≤ 61 := by omega
  have e1 := cut_eq x (n := 1 + m) (by omega) (by omega)
  have e2 := cut_eq (cutS x (1 + m)) (n := 1 + m) (by omega) (by omega)
  have e3 := pw_pos (1 + m - 1)
  have e4 := pw62 (n := 1 + m - 1) (by omega)
  repeat' ((conv => whnf); first | (refine ask_wrap64 (by omega) (by omega) ?_) | (refine ask_true (by omega) ?_) | (refine ask_false (by omega) ?_) | (refine ⟨trivial, ?_⟩) | (refine ⟨by omega, ?_⟩) | (refine ask_wrapu8 (by omega) (by omega) ?_) | (refine ask_wrapu64 (by omega) (by omega) ?_) | (refine ask_true (show (_ : Bool) = _ from rfl) ?_) | (refine ask_false (show ¬ ((_ : Bool) = _) from Bool.noConfusion) ?_) | rfl | (refine ask_split (fun _ => ?_) (fun _ => ?_)) | fail)

theorem law_FixMuls (a : Int) (ha : InK .i64 a) (b : Int) (hb : InK .i64 b) (W : World) : Calls Try.prog 4 #[.int .i64 a, .int .i64 b] W fun e w' => e = .returned (.bool true) ∧ Below W.heap.size W w' := by
  refine walk_true F2_ok Try.func4 (ws := [i64 a, i64 b]) ⟨ha, hb, trivial⟩ rfl (n := 0) ?_ W
  obtain ⟨x1, x2⟩ := ha
  obtain ⟨n1, n2⟩ := hb
  simp only [lowK, highK] at x1 x2 n1 n2
  conv => whnf
  refine ⟨by omega, fun x ex => ?_⟩
  have bx := tmod_bound (a := a) (b := 2147483648) (by omega)
  rw [← ex] at bx
  conv => whnf
  refine ⟨by omega, fun y ey => ?_⟩
  have yb := tmod_bound (a := b) (b := 2147483648) (by omega)
  rw [← ey] at yb
  clear ex ey
  have e1 : mulS x y = mulS y x := by rw [mulS_def, mulS_def, if_neg (by omega), if_neg (by omega), Int.mul_comm]
  have e2 : mulS x 32768 = x := by rw [mulS_def, if_neg (by omega)]; omega
  have e3 : mulS x (-32768) = -x := by rw [mulS_def, if_neg (by omega)]; omega
  have e4 : mulS x 0 = 0 := by rw [mulS_def, if_neg (by omega)]; omega
  have e5 : mulS x 65536 = 2 * x := by rw [mulS_def, if_neg (by omega)]; omega
  repeat' ((conv => whnf); first | (refine ask_wrap64 (by omega) (by omega) ?_) | (refine ask_true (by omega) ?_) | (refine ask_false (by omega) ?_) | (refine ⟨trivial, ?_⟩) | (refine ⟨by omega, ?_⟩) | (refine ask_wrapu8 (by omega) (by omega) ?_) | (refine ask_wrapu64 (by omega) (by omega) ?_) | (refine ask_true (show (_ : Bool) = _ from rfl) ?_) | (refine ask_false (show ¬ ((_ : Bool) = _) from Bool.noConfusion) ?_) | rfl | (refine ask_split (fun _ => ?_) (fun _ => ?_)) | fail)

theorem law_FixShifts (x : Int) (hx : InK .i64 x) (n : Int) (hn : InK .u8 n) (W : World) : Calls Try.prog 6 #[.int .i64 x, .int .u8 n] W fun e w' => e = .returned (.bool true) ∧ Below W.heap.size W w' := by
  refine walk_true F2_ok Try.func6 (ws := [i64 x, u8 n]) ⟨hx, hn, trivial⟩ rfl (n := 0) ?_ W
  obtain ⟨x1, x2⟩ := hx
  obtain ⟨n1, n2⟩ := hn
  simp only [lowK, highK] at x1 x2 n1 n2
  conv => whnf
  refine ⟨by omega, fun z ez => ?_⟩
  have bx := tmod_bound (a := x) (b := 1048576) (by omega)
  rw [← ez] at bx
  clear ez
  repeat' ((conv => whnf); first | (refine ask_wrap64 (by omega) (by omega) ?_) | (refine ask_true (by omega) ?_) | (refine ask_false (by omega) ?_) | (refine ⟨trivial, ?_⟩) | (refine ⟨by omega, ?_⟩) | (refine ask_wrapu8 (by omega) (by omega) ?_) | (refine ask_wrapu64 (by omega) (by omega) ?_) | (refine ask_true (show (_ : Bool) = _ from rfl) ?_) | (refine ask_false (show ¬ ((_ : Bool) = _) from Bool.noConfusion) ?_) | fail)
  refine fun k hk => ?_
  rw [Int.tmod_eq_emod_of_nonneg (by omega)] at hk
  have k1 : 0 ≤ k ∧ k ≤ 20 := by omega
  clear hk
  have p1 := pw_pos k
  have p2 := pw_mono (a := k) (b := 20) (by omega)
  rw [show pw 20 = 1048576 by rw [pw_def]; decide] at p2
  have e1 : shiftS z (-k) = z * pw k := by rw [shiftS_def, if_neg (by omega), if_pos (by omega), Int.neg_neg]
  have b1 := prod_bound (a := z) (b := pw k) (m := 1048576) (n := 1048576) (by omega) (by omega) (by omega) (by omega)
  have h2 : 1 ≤ k → pw k = 2 * pw (k - 1) := fun h => by
    have := pw_succ (n := k - 1) (by omega)
    rwa [show k - 1 + 1 = k by omega] at this
  have e2 : shiftS (z * pw k) k = z := by
    rw [shiftS_def, if_neg (by omega)]
    rcases Int.lt_or_le 0 k with h | h
    · rw [if_neg (by omega), Int.add_comm, Int.add_mul_ediv_right _ _ (by omega), Int.ediv_eq_zero_of_lt (by have := pw_pos (k - 1); omega) (by have := pw_pos (k - 1); have := h2 h; omega)]
      omega
    · rw [if_pos h, pw_zero (n := k) h, pw_zero (n := -k) (by omega)]; omega
  have e3 : k = 0 → shiftS z k = z := fun h => by
    rw [shiftS_def, if_neg (by omega), if_pos (by omega), pw_zero (by omega)]; omega
  have e4 : 1 ≤ k → 2 * (shiftS z k * pw k - z) ≤ pw k ∧ 2 * (z - shiftS z k * pw k) < pw k := fun h => by
    rw [shiftS_def, if_neg (by omega), if_neg (by omega)]
    have := h2 h
    have q1 := Int.mul_ediv_add_emod (z + pw (k - 1)) (pw k)
    have q2 := Int.emod_nonneg (z + pw (k - 1)) (b := pw k) (by omega)
    have q3 := Int.emod_lt_of_pos (z + pw (k - 1)) (b := pw k) (by omega)
    rw [Int.mul_comm] at q1
    constructor <;> omega
  have b2 : -1048576 ≤ shiftS z k ∧ shiftS z k ≤ 1048576 := by
    rcases Int.lt_or_le 0 k with h | h
    · have h4 := e4 (by omega)
      have h2 := h2 h
      constructor
      · rcases Int.lt_or_le (shiftS z k) (-1048576) with hh | hh
        · have : (shiftS z k) * pw k ≤ (-1048577) * pw k := Int.mul_le_mul_of_nonneg_right (by omega) (by omega)
          omega
        · exact hh
      · rcases Int.lt_or_le 1048576 (shiftS z k) with hh | hh
        · have : (1048577) * pw k ≤ (shiftS z k) * pw k := Int.mul_le_mul_of_nonneg_right (by omega) (by omega)
          omega
        · exact hh
    · rw [e3 (by omega)]; omega
  have b3 := prod_bound (a := shiftS z k) (b := pw k) (m := 1048576) (n := 1048576) (by omega) (by omega) (by omega) (by omega)
  have e5 : shiftS z (0 - k) = z * pw k := by rw [Int.zero_sub, e1]
  have e6 : shiftS (shiftS z (0 - k)) k = z := by rw [e5, e2]
  repeat' ((conv => whnf); first | (refine ask_wrap64 (by omega) (by omega) ?_) | (refine ask_true (by omega) ?_) | (refine ask_false (by omega) ?_) | (refine ⟨trivial, ?_⟩) | (refine ⟨by omega, ?_⟩) | (refine ask_wrapu8 (by omega) (by omega) ?_) | (refine ask_wrapu64 (by omega) (by omega) ?_) | (refine ask_true (show (_ : Bool) = _ from rfl) ?_) | (refine ask_false (show ¬ ((_ : Bool) = _) from Bool.noConfusion) ?_) | rfl | (refine ask_split (fun _ => ?_) (fun _ => ?_)) | fail)
end Go.Proofs.Ytcikcejpmjbckaa
