/- The law spool/spooltop.WholeLog: the row, from the walk: the call returns true whatever the input, and the input reads as it did. No condition. -/
import Derived.Test.YtaficaacogcblaaGreatDoorRows
import Derived.Test.YtaficaacogcblaaGreatDoorZo
import Derived.Test.YtaficaacogcblaaGreatDoorTie
import Derived.Test.YtaficaacogcblaaGreatDoorCards
import Derived.ChangeSame
import Derived.ChangeVars
import Derived.JoinedOf
import Derived.LaidLaws
import Derived.LaidHandle
import Derived.Lib.LaidTab
import Derived.SevenTiedAt
import Derived.LaidSub
import Derived.Lay
import Derived.LaidMore
import Derived.MakeChecks
namespace Go.Proofs.YtaficaacogcblaaGreatDoor.wholeLog
open Go.ChangeShapes Go.WideShapes Go.ChangeAt Go.RowKit
open Go.ChangeMaps (open_string shut_string)
set_option linter.all false
theorem own : ownKnob Tryz.prog.godebug = none := by kernel_rfl
theorem laidOut : laidOutB Tryz.prog = true := by kernel_rfl
set_option maxRecDepth 100000 in
theorem lifted (os : Os) (started : os.Started) (H : Type) (enc : TypeId × Value → H) :
    ReturnsInHanded {} Tryz.checked os 3 .any (fun w args => (Rows.wholeLogSpec.pre enc Tryz.prog Tryz.f3 Rows.wholeLogRow.domain false w args ∧ laidMetH Tryz.prog [("spool/level.first", Rows.laid_spool_level_first)] w) ∧ sizedMet enc Tryz.prog Tryz.f3 (OpenSpec.ofChange Rows.wholeLogSpec) false w args) (Rows.wholeLogSpec.post enc Tryz.prog Tryz.f3 false true false false) := by
  refine returnsInHanded_of_change_and (C := Tryz.checked) (X := fun w _ => laidMetH Tryz.prog [("spool/level.first", Rows.laid_spool_level_first)] w) (fun _ _ _ hh h => h.of_heap hh) own started (by kernel_rfl) Tryz.func3
    (ChangeSpec.witness_shaped (enc := enc) (C := Tryz.checked) (os := os) (X := fun w _ => laidMetH Tryz.prog [("spool/level.first", Rows.laid_spool_level_first)] w) false (World.laidAll Tryz.prog os [("spool/level.first", Rows.laid_spool_level_first)]) #[.slice none 0 0] 8 (World.laidAll_os _ _ _)
      (World.shaped_of_ZipB (by kernel_rfl) (by kernel_rfl)) (by kernel_rfl) (by kernel_rfl) (by kernel_rfl)
      (by rw [MakeChecks.laidMetH_plain _ _ _ (by kernel_rfl)]; exact laidMet_laidAll _ (by kernel_rfl) (by kernel_rfl))) ?_
  intro W base args ds gs before hval0 hW hcnd hsz0 hL0 _
  have hL1 := hL0.filter (fun x => x.1 == "spool/level.first")
  have eL : ([("spool/level.first", Rows.laid_spool_level_first)] : List (String × DataW Unit)).filter (fun x => x.1 == "spool/level.first") = [("spool/level.first", Rows.laid_spool_level_first)] := by kernel_rfl
  rw [eL] at hL1
  have hT : Go.Lib.TabIs Tryz.prog W "spool/level.first" .i64 [0, 2, 4, 8, 16] := Go.Lib.tabIs_of_head (rest := []) (t := R.first_type) (e := 3) (n := 5) R.first_named R.first_typed (by kernel_rfl) (by kernel_rfl) (by kernel_rfl) (by kernel_rfl) hL1
  have hGW := R.gw_of_tab hT
  have hsz : (DataW.weightsEach Tryz.prog (Tryz.f3.params.toList ++ Rows.wholeLogSpec.plain.varTypes Tryz.prog) (ds ++ gs)).all (· ≤ reachBytes) = true := hsz0
  have hval : ∀ (j : Nat) t v, Tryz.f3.params[j]? = some t → args[j]? = some v → Value.okWide Tryz.prog W .any base t v := hval0
  have hW' := hW
  obtain ⟨p, q, hA0, hV, rfl, hfz, hnd⟩ := hW
  have hA : DataW.TrodAll enc Tryz.prog W 0 (fun _ => true) true Tryz.f3.params.toList args.toList ds p := hA0
  rw [Tryz.params3] at hA hval hsz
  obtain ⟨v0, vs0, d0, ds0, p0, q0, hargs, rfl, rfl, h0, r0⟩ := trodAll_cons hA
  obtain ⟨rfl, rfl, rfl⟩ := trodAll_nil r0
  obtain rfl : args = #[v0] := by cases args; simp_all
  obtain ⟨rfl, rfl⟩ := trodVars_none hV
  have k0 := h0
  have lt0 : ∀ x ∈ p0, x.block < W.heap.size := by obtain ⟨m, hm⟩ := k0; exact DataW.trod_lt m _ _ _ hm
  obtain ⟨fuel0, hf0⟩ := h0
  have w0 : R.SlE W v0 := R.slE_of Tryz.underlying22 Tryz.underlying33 (by kernel_rfl) rfl rfl rfl (by kernel_rfl) (by kernel_rfl) (by kernel_rfl) Tryz.underlying3 Tryz.underlying31 Tryz.underlying9 (hval 0 22 v0 rfl rfl) hf0
  clear hA0 hval0 hsz0 hsz
  refine (R.law_WholeLog W v0 w0 hGW).mono fun e W' ⟨he, bel⟩ => ?_
  subst he
  exact ⟨_, rfl, _, _, _, [], _, [], hW', trodAll_mk1 (shut_bool Tryz.underlying4 _), (trodAll_cons_mk (Below.trod laidOut (by kernel_rfl) (of_decide_eq_true (by kernel_rfl)) k0 bel lt0) trodAll_mk0), rfl, bel.frame _, fun h => by cases h⟩
theorem over : Rows.wholeLogRow.holds Tryz.pinned (OpenSpec.ofChange Rows.wholeLogSpec) :=
  OpenClaim.holds_of_wide 3 Tryz.f3 rfl rfl rfl rfl rfl rfl rfl ⟨rfl, rfl, rfl, rfl, rfl⟩ rfl rfl rfl rfl rfl (by kernel_rfl) Tryz.func3 (by kernel_rfl)
    (of_decide_eq_true (by kernel_rfl)) (by unfold Func.isWrapper; first | (rw [if_pos (by decide +kernel)]; kernel_rfl) | (rw [if_neg (by decide +kernel)]; exact ⟨rfl, rfl⟩))
    (fun os started H enc _ => lifted os started H enc)
theorem proved : Rows.WholeLogCardSaid :=
  Claim7.holds_tied_plain_at .later [] [.data] true (true, "a97a970a1996346510ae238d958e334796f264de9f210c4d3cf7bcea69e09a99") true
    over (fun _ h => by cases h) (by kernel_rfl) (fun _ h => by cases h) wholeLog_row_tie rfl ⟨rfl, rfl⟩ (by kernel_rfl) rfl
    (fun f fn hf hfn => by
      obtain rfl : f = 3 := Option.some.inj ((show Tryz.prog.funcNamed "spool/spooltop.WholeLog" = some 3 by kernel_rfl).symm.trans hf) |>.symm
      obtain rfl : fn = Tryz.f3 := (Option.some.inj (Tryz.func3.symm.trans hfn)).symm
      exact ⟨by kernel_rfl, fun j t ht => by
        rw [Tryz.params3] at ht
        have hall : ([22].all fun t => !Tryz.prog.wantsStandIn t) = true := by kernel_rfl
        have := List.all_eq_true.1 hall t (by have := Array.mem_of_getElem? ht; simpa using this)
        have h2 : Tryz.prog.wantsStandIn t = false := by simpa using this
        exact h2⟩)
    (by kernel_rfl)
#print axioms proved
end Go.Proofs.YtaficaacogcblaaGreatDoor.wholeLog
namespace Go.Proofs.YtaficaacogcblaaGreatDoor
/-- The row, under a short name, for the claim. -/
theorem wholeLogCard_holds : Rows.WholeLogCardSaid := wholeLog.proved
end Go.Proofs.YtaficaacogcblaaGreatDoor
