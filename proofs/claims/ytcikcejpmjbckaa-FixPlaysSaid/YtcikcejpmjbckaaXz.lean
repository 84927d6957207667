/- Chapter fix: the law FixPlays, walked. -/
import Derived.Test.YtcikcejpmjbckaaXy
set_option linter.all false
namespace Go.Proofs.Ytcikcejpmjbckaa
open Go.RowKit (Below)
set_option maxRecDepth 100000
set_option maxHeartbeats 100000000

theorem law_FixPlays (a : Int) (ha : InK .i64 a) (b : Int) (hb : InK .i64 b) (x : Int) (hx : InK .i64 x) (n : Int) (hn : InK .i64 n) (W : World) : Calls Try.prog 16 #[.int .i64 a, .int .i64 b, .int .i64 x, .int .i64 n] W fun e w' => e = .returned (.bool true) ∧ Below W.heap.size W w' := by
  refine walk_true F5_ok Try.func16 (ws := [i64 a, i64 b, i64 x, i64 n]) ⟨ha, hb, hx, hn, trivial⟩ rfl (n := 0) ?_ W
  obtain ⟨a1, a2⟩ := ha
  obtain ⟨b1, b2⟩ := hb
  obtain ⟨x1, x2⟩ := hx
  obtain ⟨n1, n2⟩ := hn
  simp only [lowK, highK] at a1 a2 b1 b2 x1 x2 n1 n2
  have m0 : (a < -2147483648 ∨ 2147483648 < a ∨ b < -2147483648 ∨ 2147483648 < b) → mulS a b = 0 := fun h => by rw [mulS_def, if_pos h]
  have c0 : (n < 1 ∨ 62 < n) → cutS x n = x := fun h => by rw [cutS_def, if_pos h]
  have l0 : 0 ≤ x → lengthS x = lenS x := fun h => by rw [lengthS_def, if_neg (by omega)]
  have l1 : x < 0 → lengthS x = lenS (0 - x) := fun h => by rw [lengthS_def, if_pos h, Int.zero_sub]
  have s0 : (x < -1099511627776 ∨ 1099511627776 < x ∨ 40 < n ∨ n < -20) → shiftS x n = 0 := fun h => by rw [shiftS_def, if_pos h]
  have s1 : ¬ (x < -1099511627776 ∨ 1099511627776 < x ∨ 40 < n ∨ n < -20) → n ≤ 0 → shiftS x n = x * pw (0 - n) := fun h h' => by rw [shiftS_def, if_neg h, if_pos h', Int.zero_sub]
  have s2 : ¬ (x < -1099511627776 ∨ 1099511627776 < x ∨ 40 < n ∨ n < -20) → n ≤ 0 → -1152921504606846976 ≤ x * pw (0 - n) ∧ x * pw (0 - n) ≤ 1152921504606846976 := fun h h' => by
    rw [Int.zero_sub]; exact shift_up (by omega) (by omega) (by omega) h'
  repeat' ((conv => whnf); first | (refine ask_wrap64 (by omega) (by omega) ?_) | (refine ask_true (by omega) ?_) | (refine ask_false (by omega) ?_) | (refine ⟨trivial, ?_⟩) | (refine ⟨by omega, ?_⟩) | (refine ask_wrapu8 (by omega) (by omega) ?_) | (refine ask_wrapu64 (by omega) (by omega) ?_) | (refine ask_true (show (_ : Bool) = _ from rfl) ?_) | (refine ask_false (show ¬ ((_ : Bool) = _) from Bool.noConfusion) ?_) | rfl | (refine ask_split (fun _ => ?_) (fun _ => ?_)) | fail)
end Go.Proofs.Ytcikcejpmjbckaa
