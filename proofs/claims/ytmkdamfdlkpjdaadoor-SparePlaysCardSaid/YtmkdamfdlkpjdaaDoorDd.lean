/- Chapter level: the document's example. -/
import Derived.Test.YtmkdamfdlkpjdaaDoorDc
set_option linter.all false
namespace Go.Proofs.YtmkdamfdlkpjdaaDoor
open Go.RowKit (Below)
set_option maxRecDepth 100000
set_option maxHeartbeats 32000000

/-! ### the document's example -/
noncomputable def FA : Fns := (F0.plus 17 (ct1 (fun _ => True) sizeS)).plus 15 (ctL levZ)
theorem FA_ok : FnsOk Tryd.prog FA G1 := (F0_okg.plusG size_ct Tryd.func17 (by kernel_rfl) (by kernel_rfl)).plusG levels_ct Tryd.func15 (by kernel_rfl) (by kernel_rfl)
theorem lev_ex : (levZ [3, -4, 0, 0, 0, 0, 0, 0, 0, 0, 0, 0, 0, 0, 0, 0]).getD 0 0 = 3 := by
  rw [levZ_at _ (by decide)]
  unfold levS
  have e : sumF (bandZ [3, -4, 0, 0, 0, 0, 0, 0, 0, 0, 0, 0, 0, 0, 0, 0] ((0 : Nat) : Int)) (bandZ [3, -4, 0, 0, 0, 0, 0, 0, 0, 0, 0, 0, 0, 0, 0, 0] ((0 : Nat) : Int)).length = 7 := by
    show 0 + szF 3 + szF (-4) = 7
    rw [szF_def, szF_def]; decide
  rw [e, lengthS_def, if_neg (by decide), len_uniq (x := 7) (l := 3) (by decide) (by rw [pw_def]; decide) (by rw [pw_def]; decide) (by decide)]
  decide
theorem awake_walk : walkg FA 0 Tryd.f14 [] [] fun y _ => y = vb true := by
  have l0 := lev_ex
  have e0 : mulN (Int.toNat 0) (Tryd.prog.types[3]).size = Int.toNat 0 := mulN1 _
  have e1 : (levZ ((([0, 0, 0, 0, 0, 0, 0, 0, 0, 0, 0, 0, 0, 0, 0, 0] : List Int).set 0 3).set (0 + 1) (-4))).getD (mulN (Int.toNat 0) (Tryd.prog.types[3]).size) 0 = 3 := by rw [e0]; exact l0
  have s3 : sizeS 3 = 8 := by decide
  repeat' ((conv => whnf); first | (refine ask_true (by omega) ?_) | (refine And.intro (by omega) ?_) | (refine And.intro trivial ?_) | (refine fun (_ : InK _ _) => ?_) | rfl | fail)
theorem awake_ct : CtOkG Tryd.prog G1 14 (ct0 (vb true)) := by
  intro ws K h' hr
  unfold ct0 at h'
  split at h'
  · exact ⟨_, h', ⟨trivial, rfl⟩, walkg_calls FA_ok Tryd.func14 rfl trivial rfl awake_walk⟩
  · exact h'.elim
noncomputable def FE : Fns := ((FA.plus 14 (ct0 (vb true))).over 18 hBand).over 16 hPut
theorem FE_ok : FnsOk Tryd.prog FE G1 := ((FA_ok.plusG awake_ct Tryd.func14 (by kernel_rfl) (by kernel_rfl)).overG band_ct Tryd.func18 (by kernel_rfl) (by kernel_rfl)).overG put_ct Tryd.func16 (by kernel_rfl) (by kernel_rfl)
end Go.Proofs.YtmkdamfdlkpjdaaDoor
