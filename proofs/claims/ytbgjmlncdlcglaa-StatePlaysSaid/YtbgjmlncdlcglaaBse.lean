/- Chapter state: the document's example; the law StateNext, walked. -/
import Derived.Test.YtbgjmlncdlcglaaBsd
import Derived.Test.YtbgjmlncdlcglaaBne
set_option linter.all false
namespace Go.Proofs.Ytbgjmlncdlcglaa
open Go.RowKit (Below)
set_option maxRecDepth 100000
set_option maxHeartbeats 32000000

theorem byZ_st0 : byZ st0 = List.replicate 137 0 := by decide
noncomputable def FSa : Fns := F0.plus 34 ctBytes
theorem FSa_ok : FnsOk Try.prog FSa := F0_ok.plus bytes_ct Try.func34 (by kernel_rfl) (by kernel_rfl)
theorem awake12_walk : walk2 FSa 0 Try.f33 [] [] fun y _ => y = vb true := by
  conv => whnf
  refine ⟨⟨rfl, rfl, rfl⟩, fun _ t ht => ?_, fun h => absurd right_st0 h⟩
  have hs : ((t.size : Nat) : Int) = 137 := by
    rw [ht, strOfNums_size]
    exact congrArg Int.ofNat (byZ_len st0_ok)
  conv => whnf
  refine ask_true rfl ?_
  conv => whnf
  refine ask_true hs ?_
  conv => whnf
  refine And.intro rfl ?_
  conv => whnf
  refine And.intro ⟨by decide, by decide, by decide, by decide⟩ ?_
  conv => whnf
  refine And.intro (by decide) ?_
  conv => whnf
  refine And.intro (by decide) ?_
  conv => whnf
  refine ask_true (by rw [ht]; exact congrArg strOfNums byZ_st0) ?_
  conv => whnf
  rfl
theorem awake12_ct : CtOk Try.prog 33 (ct0 (vb true)) := by
  intro ws K h' hr
  unfold ct0 at h'
  split at h'
  · exact ⟨_, h', ⟨trivial, rfl⟩, walk2_calls FSa_ok Try.func33 rfl trivial rfl awake12_walk⟩
  · exact h'.elim
end Go.Proofs.Ytbgjmlncdlcglaa
