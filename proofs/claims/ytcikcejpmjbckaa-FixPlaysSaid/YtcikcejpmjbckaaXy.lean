/- Chapter fix: the laws FixRoots, FixPlays and FixOrder, walked. -/
import Derived.Test.YtcikcejpmjbckaaXx
set_option linter.all false
namespace Go.Proofs.Ytcikcejpmjbckaa
open Go.RowKit (Below)
set_option maxRecDepth 100000
set_option maxHeartbeats 32000000

def F4 : Fns := F3.plus 35 (ct1 (fun _ => True) rootS)
theorem F4_ok : FnsOk Try.prog F4 := F3_ok.plus root_ct Try.func35 (by kernel_rfl) (by kernel_rfl)
def F5 : Fns := (((F4.plus 38 (ct1 (fun x => 0 ≤ x) lenS)).plus 37 (ct2 (fun a b => -2147483648 ≤ a ∧ a ≤ 2147483648 ∧ -2147483648 ≤ b ∧ b ≤ 2147483648) mulS)).plus 27 (ct2 (fun _ n => 1 ≤ n ∧ n ≤ 62) cutS)).plus 39 (ct2 (fun x n => -1099511627776 ≤ x ∧ x ≤ 1099511627776 ∧ 1 ≤ n ∧ n ≤ 40) shiftS)
theorem F5_ok : FnsOk Try.prog F5 := (((F4_ok.plus refLength_ct Try.func38 (by kernel_rfl) (by kernel_rfl)).plus refMul_ct Try.func37 (by kernel_rfl) (by kernel_rfl)).plus refCut_ct Try.func27 (by kernel_rfl) (by kernel_rfl)).plus refShift_ct Try.func39 (by kernel_rfl) (by kernel_rfl)

theorem law_FixRoots (n : Int) (hn : InK .u64 n) (W : World) : Calls Try.prog 15 #[.int .u64 n] W fun e w' => e = .returned (.bool true) ∧ Below W.heap.size W w' := by
  refine walk_true F4_ok Try.func15 (ws := [u64 n]) ⟨hn, trivial⟩ rfl (n := 0) ?_ W
  obtain ⟨n1, n2⟩ := hn
  simp only [lowK, highK] at n1 n2
  conv => whnf
  rintro x hx
  replace hx : x = n % 4611686018427387904 := by rw [hx]; exact and_mask (k := .u64) 62 (by decide) ⟨by decide, by decide⟩
  have x0 : 0 ≤ x ∧ x ≤ 4611686018427387903 := by omega
  clear hx
  have r1 := root_small (x := x) (by omega)
  have r2 : rootS x * rootS x ≤ x ∧ x < (rootS x + 1) * (rootS x + 1) := by
    rcases Int.lt_or_le 0 x with h | h
    · exact (root_pos h).2
    · rw [root_neg h]; omega
  have r3 : (rootS x + 1) * (rootS x + 1) = rootS x * rootS x + 2 * rootS x + 1 := by simp only [Int.add_mul, Int.mul_add]; omega
  have r4 := root_neg (x := 0 - x) (by omega)
  have l0 : lengthS x = lenS x := by rw [lengthS_def, if_neg (by omega)]
  have l1 : lengthS (0 - x) = lenS x := by
    rw [lengthS_def]
    split
    · congr 1; omega
    · congr 1; omega
  have l2 : lengthS x ≤ 62 := by rw [l0]; exact len_le (by have := pw_vals.2.2.2.2.2; omega) (by decide)
  have l3 : 0 ≤ lengthS x := by rw [l0]; exact len_nonneg x
  have l4 : x < pw (lengthS x) := by
    rw [l0]
    rcases Int.lt_or_le 0 x with h | h
    · exact (len_bounds (by omega)).2.1
    · have := pw_pos (lenS x); rw [len_zero h, pw_zero (by decide)]; omega
  have l5 : x ≠ 0 → pw (lengthS x - 1) ≤ x := fun h => by rw [l0]; exact (len_bounds (by omega)).1
  have l6 : lengthS (0 - x) = lengthS x := by rw [l0, l1]
  clear l0 l1
  repeat' ((conv => whnf); first | (refine ask_wrap64 (by omega) (by omega) ?_) | (refine ask_true (by omega) ?_) | (refine ask_false (by omega) ?_) | (refine ⟨trivial, ?_⟩) | (refine ⟨by omega, ?_⟩) | (refine ask_wrapu8 (by omega) (by omega) ?_) | (refine ask_wrapu64 (by omega) (by omega) ?_) | (refine ask_true (show (_ : Bool) = _ from rfl) ?_) | (refine ask_false (show ¬ ((_ : Bool) = _) from Bool.noConfusion) ?_) | rfl | (refine ask_split (fun _ => ?_) (fun _ => ?_)) | fail)

theorem law_FixOrder (a : Int) (ha : InK .i64 a) (b : Int) (hb : InK .i64 b) (n : Int) (hn : InK .u8 n) (W : World) : Calls Try.prog 18 #[.int .i64 a, .int .i64 b, .int .u8 n] W fun e w' => e = .returned (.bool true) ∧ Below W.heap.size W w' := by
  refine walk_true F4_ok Try.func18 (ws := [i64 a, i64 b, u8 n]) ⟨ha, hb, hn, trivial⟩ rfl (n := 0) ?_ W
  obtain ⟨n1, n2⟩ := hn
  simp only [lowK, highK] at n1 n2
  conv => whnf
  rintro x hx
  replace hx : x = a % 1099511627776 := by rw [hx]; exact and_mask (k := .i64) 40 (by decide) ⟨by decide, by decide⟩
  have x0 : 0 ≤ x ∧ x ≤ 1099511627775 := by omega
  conv => whnf
  rintro y hy
  replace hy : y = b % 1099511627776 := by rw [hy]; exact and_mask (k := .i64) 40 (by decide) ⟨by decide, by decide⟩
  have y0 : 0 ≤ y ∧ y ≤ 1099511627775 := by omega
  clear hx hy ha hb
  have key : ∀ x y k : Int, x ≤ y → 0 ≤ x → y ≤ 1099511627775 → 1 ≤ k → k ≤ 40 → cutS x k ≤ cutS y k ∧ lengthS x ≤ lengthS y ∧ rootS x ≤ rootS y ∧ shiftS x k ≤ shiftS y k ∧ shiftS (0 - y) k ≤ shiftS (0 - x) k := fun x y k h h0 h1 h2 h3 => by
    have p := pw_pos k
    refine ⟨?_, ?_, root_mono h, ?_, ?_⟩
    · rw [cut_eq x h2 (by omega), cut_eq y h2 (by omega)]; omega
    · rw [lengthS_def, lengthS_def, if_neg (by omega), if_neg (by omega)]; exact len_mono h
    · rw [shiftS_def, shiftS_def, if_neg (by omega), if_neg (by omega), if_neg (by omega), if_neg (by omega)]
      exact Int.ediv_le_ediv (by omega) (by omega)
    · rw [shiftS_def, shiftS_def, if_neg (by omega), if_neg (by omega), if_neg (by omega), if_neg (by omega)]
      exact Int.ediv_le_ediv (by omega) (by omega)
  conv => whnf
  refine ask_split (fun h => ?_) (fun h => ?_)
  · conv => whnf
    refine ask_wrap64 (by omega) (by omega) ?_
    conv => whnf
    refine ⟨by omega, fun m hm => ?_⟩
    rw [Int.tmod_eq_emod_of_nonneg (by omega)] at hm
    obtain ⟨k1, k2, k3, k4, k5⟩ := key y x (1 + m) (by omega) (by omega) (by omega) (by omega) (by omega)
    have m0 : 0 ≤ m ∧ m ≤ 39 := by omega
    clear hm key
    repeat' ((conv => whnf); first | (refine ask_wrap64 (by omega) (by omega) ?_) | (refine ask_true (by omega) ?_) | (refine ask_false (by omega) ?_) | (refine ⟨trivial, ?_⟩) | (refine ⟨by omega, ?_⟩) | (refine ask_wrapu8 (by omega) (by omega) ?_) | (refine ask_wrapu64 (by omega) (by omega) ?_) | (refine ask_true (show (_ : Bool) = _ from rfl) ?_) | (refine ask_false (show ¬ ((_ : Bool) = _) from Bool.noConfusion) ?_) | rfl | (refine ask_split (fun _ => ?_) (fun _ => ?_)) | fail)
  · conv => whnf
    refine ask_wrap64 (by omega) (by omega) ?_
    conv => whnf
    refine ⟨by omega, fun m hm => ?_⟩
    rw [Int.tmod_eq_emod_of_nonneg (by omega)] at hm
    obtain ⟨k1, k2, k3, k4, k5⟩ := key x y (1 + m) (by omega) (by omega) (by omega) (by omega) (by omega)
    have m0 : 0 ≤ m ∧ m ≤ 39 := by omega
    clear hm key
    repeat' ((conv => whnf); first | (refine ask_wrap64 (by omega) (by omega) ?_) | (refine ask_true (by omega) ?_) | (refine ask_false (by omega) ?_) | (refine ⟨trivial, ?_⟩) | (refine ⟨by omega, ?_⟩) | (refine ask_wrapu8 (by omega) (by omega) ?_) | (refine ask_wrapu64 (by omega) (by omega) ?_) | (refine ask_true (show (_ : Bool) = _ from rfl) ?_) | (refine ask_false (show ¬ ((_ : Bool) = _) from Bool.noConfusion) ?_) | rfl | (refine ask_split (fun _ => ?_) (fun _ => ?_)) | fail)
end Go.Proofs.Ytcikcejpmjbckaa
