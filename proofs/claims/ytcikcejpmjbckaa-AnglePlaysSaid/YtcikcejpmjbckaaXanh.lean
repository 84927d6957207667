/- Chapter angle: the laws AngleTwice, AngleTurns and AngleSquares, walked. -/
import Derived.Test.YtcikcejpmjbckaaXang
set_option linter.all false
namespace Go.Proofs.Ytcikcejpmjbckaa
open Go.RowKit (Below)
set_option maxRecDepth 100000
set_option maxHeartbeats 32000000

theorem cosS_shift (u k : Int) : cosS (u + k) = cosS (u % 128 + k) := by
  rw [cosS_mod, cosS_mod (u % 128 + k)]
  congr 1; omega
/-- A law over one round holds of all angles. -/
theorem round_all {p : Int → Prop} [DecidablePred p] (h : (List.range 128).all (fun k => decide (p (k : Int))) = true) (u : Int) : p (u % 128) :=
  of_decide_eq_true (fin_all (p := fun u => decide (p u)) (m := 128) h (u := u % 128) (by omega) (by omega))

theorem law_AngleTurns (u : Int) (hu : InK .i64 u) (W : World) : Calls Try.prog 12 #[.int .i64 u] W fun e w' => e = .returned (.bool true) ∧ Below W.heap.size W w' := by
  refine walk_true FT_ok Try.func12 (ws := [i64 u]) ⟨hu, trivial⟩ rfl (n := 0) ?_ W
  repeat' ((conv => whnf); first | (refine ⟨by omega, fun x hx => ?_⟩) | fail)
  have b := tmod_bound (a := u) (b := 100000) (by decide)
  rw [← hx] at b
  clear hx
  have c0 : cosS x = cosRound (x % 128) := cosS_def x
  have e1 : cosS (x + 64) = 0 - cosS x := by
    rw [cosS_def, cosS_def, show (x + 64) % 128 = (x % 128 + 64) % 128 by omega]
    exact round_all (p := fun v => cosRound ((v + 64) % 128) = 0 - cosRound v) (by decide +kernel) x
  have e2 : cosS (x + 128) = cosS x := by rw [cosS_def, cosS_def]; congr 1; omega
  have e3 : cosS (0 - x) = cosS x := by
    rw [cosS_def, cosS_def, show (0 - x) % 128 = (128 - x % 128) % 128 by omega]
    exact round_all (p := fun v => cosRound ((128 - v) % 128) = cosRound v) (by decide +kernel) x
  have s0 : ∀ y, sinS y = cosS (y - 32) := fun y => by unfold sinS; rfl
  have e4 : sinS (0 - x) = 0 - sinS x := by
    rw [s0, s0, cosS_def, cosS_def, show (0 - x - 32) % 128 = (96 - x % 128) % 128 by omega, show (x - 32) % 128 = (x % 128 + 96) % 128 by omega]
    exact round_all (p := fun v => cosRound ((96 - v) % 128) = 0 - cosRound ((v + 96) % 128)) (by decide +kernel) x
  have e5 : sinS (x + 32) = cosS x := by rw [s0]; congr 1; omega
  have e6 : cosS (x + 32) = 0 - sinS x := by
    rw [s0, cosS_def, cosS_def, show (x + 32) % 128 = (x % 128 + 32) % 128 by omega, show (x - 32) % 128 = (x % 128 + 96) % 128 by omega]
    exact round_all (p := fun v => cosRound ((v + 32) % 128) = 0 - cosRound ((v + 96) % 128)) (by decide +kernel) x
  have b1 := cosS_bound x
  have b2 : -32768 ≤ sinS x ∧ sinS x ≤ 32768 := by rw [s0]; exact cosS_bound _
  repeat' ((conv => whnf); first | (refine ask_wrap64 (by omega) (by omega) ?_) | (refine ask_true (by omega) ?_) | (refine ask_false (by omega) ?_) | (refine ⟨trivial, ?_⟩) | (refine ⟨by omega, ?_⟩) | (refine ask_wrapu8 (by omega) (by omega) ?_) | (refine ask_wrapu64 (by omega) (by omega) ?_) | (refine ask_true (show (_ : Bool) = _ from rfl) ?_) | (refine ask_false (show ¬ ((_ : Bool) = _) from Bool.noConfusion) ?_) | rfl | (refine ask_split (fun _ => ?_) (fun _ => ?_)) | fail)

theorem law_AngleTwice (u : Int) (hu : InK .i64 u) (W : World) : Calls Try.prog 11 #[.int .i64 u] W fun e w' => e = .returned (.bool true) ∧ Below W.heap.size W w' := by
  refine walk_true FT_ok Try.func11 (ws := [i64 u]) ⟨hu, trivial⟩ rfl (n := 0) ?_ W
  repeat' ((conv => whnf); first | (refine ⟨by omega, fun x hx => ?_⟩) | fail)
  have b := tmod_bound (a := u) (b := 100000) (by decide)
  rw [← hx] at b
  clear hx
  have b1 := cosS_bound x
  have b2 := cosS_bound (2 * x)
  have key : -8 ≤ cosS (2 * x) - ((2 * cosS x * cosS x).tdiv 32768 - 32768) ∧ cosS (2 * x) - ((2 * cosS x * cosS x).tdiv 32768 - 32768) ≤ 8 := by
    rw [cosS_def, cosS_def, show (2 * x) % 128 = (2 * (x % 128)) % 128 by omega]
    exact round_all (p := fun v => -8 ≤ cosRound ((2 * v) % 128) - ((2 * cosRound v * cosRound v).tdiv 32768 - 32768) ∧ cosRound ((2 * v) % 128) - ((2 * cosRound v * cosRound v).tdiv 32768 - 32768) ≤ 8) (by decide +kernel) x
  have q := prod_bound (a := 2 * cosS x) (b := cosS x) (m := 65536) (n := 32768) (by omega) (by omega) b1.1 b1.2
  have q2 : -1000000000 ≤ (2 * cosS x * cosS x).tdiv 32768 ∧ (2 * cosS x * cosS x).tdiv 32768 ≤ 1000000000 := by omega
  generalize hd : (2 * cosS x * cosS x).tdiv 32768 = d at *
  repeat' ((conv => whnf); first | (refine ⟨trivial, ?_⟩) | (refine ask_wrap64' hd (by omega) (by omega) ?_) | (refine ⟨by omega, ?_⟩) | (refine ask_wrap64 (by omega) (by omega) ?_) | (refine ask_true (by omega) ?_) | (refine ask_false (by omega) ?_) | rfl | fail)

theorem law_AngleSquares (u : Int) (hu : InK .u8 u) (W : World) : Calls Try.prog 13 #[.int .u8 u] W fun e w' => e = .returned (.bool true) ∧ Below W.heap.size W w' := by
  refine walk_true FT_ok Try.func13 (ws := [u8 u]) ⟨hu, trivial⟩ rfl (n := 0) ?_ W
  obtain ⟨n1, n2⟩ := hu
  simp only [lowK, highK] at n1 n2
  repeat' ((conv => whnf); first | (refine ⟨trivial, ?_⟩) | (refine ask_wrap64 (by omega) (by omega) ?_) | (refine ⟨by omega, fun x hx => ?_⟩) | fail)
  rw [Int.tmod_eq_emod_of_nonneg (by omega)] at hx
  have x0 : 0 ≤ x ∧ x < 64 := by omega
  clear hx
  have s0 : sinS x = cosS (x - 32) := by unfold sinS; rfl
  have b1 := cosS_bound x
  have b2 : -32768 ≤ sinS x ∧ sinS x ≤ 32768 := by rw [s0]; exact cosS_bound _
  have q1 := prod_bound (a := cosS x) (b := cosS x) (m := 32768) (n := 32768) b1.1 b1.2 b1.1 b1.2
  have q2 := prod_bound (a := sinS x) (b := sinS x) (m := 32768) (n := 32768) b2.1 b2.2 b2.1 b2.2
  have key : cosS x * cosS x + sinS x * sinS x - 1073741824 ≤ 262144 ∧ -262144 ≤ cosS x * cosS x + sinS x * sinS x - 1073741824 ∧ cosS (x + 1) < cosS x := by
    rw [s0, cosS_lt (u := x) (by omega) (by omega), cosS_lt (u := x + 1) (by omega) (by omega), cosS_def (x - 32)]
    have := fin_all (p := fun v => decide (cosRound v * cosRound v + cosRound ((v - 32) % 128) * cosRound ((v - 32) % 128) - 1073741824 ≤ 262144 ∧ -262144 ≤ cosRound v * cosRound v + cosRound ((v - 32) % 128) * cosRound ((v - 32) % 128) - 1073741824 ∧ cosRound (v + 1) < cosRound v)) (m := 64) (by decide +kernel) x0.1 (by omega)
    exact of_decide_eq_true this
  repeat' ((conv => whnf); first | (refine ask_wrap64 (by omega) (by omega) ?_) | (refine ask_true (by omega) ?_) | (refine ask_false (by omega) ?_) | (refine ⟨trivial, ?_⟩) | (refine ⟨by omega, ?_⟩) | (refine ask_wrapu8 (by omega) (by omega) ?_) | (refine ask_wrapu64 (by omega) (by omega) ?_) | (refine ask_true (show (_ : Bool) = _ from rfl) ?_) | (refine ask_false (show ¬ ((_ : Bool) = _) from Bool.noConfusion) ?_) | rfl | (refine ask_split (fun _ => ?_) (fun _ => ?_)) | fail)
end Go.Proofs.Ytcikcejpmjbckaa
