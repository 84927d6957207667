/- The law spool/spooltop.WholeWay: the row, from the walk: the call returns true whatever the input, and the input reads as it did. No condition. -/
import Derived.Test.YtaficaacogcblaaGreatDoorRows
import Derived.Test.YtaficaacogcblaaGreatDoorWnn
import Derived.Test.YtaficaacogcblaaGreatDoorXq
import Derived.Test.YtaficaacogcblaaGreatDoorTie
import Derived.Test.YtaficaacogcblaaGreatDoorCards
import Derived.ChangeSame
import Derived.ChangeVars
import Derived.JoinedOf
import Derived.LaidLaws
import Derived.LaidHandle
import Derived.Lib.LaidTab
import Derived.SevenTiedAt
import Derived.LaidSub
import Derived.Lay
import Derived.LaidMore
import Derived.MakeChecks
namespace Go.Proofs.YtaficaacogcblaaGreatDoor.wholeWay
open Go.ChangeShapes Go.WideShapes Go.ChangeAt Go.RowKit
open Go.ChangeMaps (open_string shut_string)
set_option linter.all false
theorem own : ownKnob Tryz.prog.godebug = none := by kernel_rfl
theorem laidOut : laidOutB Tryz.prog = true := by kernel_rfl
set_option maxRecDepth 100000 in
theorem lifted (os : Os) (started : os.Started) (H : Type) (enc : TypeId × Value → H) :
    ReturnsInHanded {} Tryz.checked os 4 .any (fun w args => (Rows.wholeWaySpec.pre enc Tryz.prog Tryz.f4 Rows.wholeWayRow.domain false w args ∧ laidMetH Tryz.prog [("unicode/utf8.acceptRanges", Rows.laid_unicode_utf8_acceptRanges), ("spool/level.first", Rows.laid_spool_level_first), ("unicode/utf8.first", Rows.laid_unicode_utf8_first)] w) ∧ sizedMet enc Tryz.prog Tryz.f4 (OpenSpec.ofChange Rows.wholeWaySpec) false w args) (Rows.wholeWaySpec.post enc Tryz.prog Tryz.f4 false true false false) := by
  refine returnsInHanded_of_change_and (C := Tryz.checked) (X := fun w _ => laidMetH Tryz.prog [("unicode/utf8.acceptRanges", Rows.laid_unicode_utf8_acceptRanges), ("spool/level.first", Rows.laid_spool_level_first), ("unicode/utf8.first", Rows.laid_unicode_utf8_first)] w) (fun _ _ _ hh h => h.of_heap hh) own started (by kernel_rfl) Tryz.func4
    (ChangeSpec.witness_shaped (enc := enc) (C := Tryz.checked) (os := os) (X := fun w _ => laidMetH Tryz.prog [("unicode/utf8.acceptRanges", Rows.laid_unicode_utf8_acceptRanges), ("spool/level.first", Rows.laid_spool_level_first), ("unicode/utf8.first", Rows.laid_unicode_utf8_first)] w) false (World.laidAll Tryz.prog os [("unicode/utf8.acceptRanges", Rows.laid_unicode_utf8_acceptRanges), ("spool/level.first", Rows.laid_spool_level_first), ("unicode/utf8.first", Rows.laid_unicode_utf8_first)]) #[.slice none 0 0, .slice none 0 0, .int .u8 0] 8 (World.laidAll_os _ _ _)
      (World.shaped_of_ZipB (by kernel_rfl) (by kernel_rfl)) (by kernel_rfl) (by kernel_rfl) (by kernel_rfl)
      (by rw [MakeChecks.laidMetH_plain _ _ _ (by kernel_rfl)]; exact laidMet_laidAll _ (by kernel_rfl) (by kernel_rfl))) ?_
  intro W base args ds gs before hval0 hW hcnd hsz0 hL0 _
  have hL1 := hL0.filter (fun x => x.1 == "spool/level.first")
  have eL : ([("unicode/utf8.acceptRanges", Rows.laid_unicode_utf8_acceptRanges), ("spool/level.first", Rows.laid_spool_level_first), ("unicode/utf8.first", Rows.laid_unicode_utf8_first)] : List (String × DataW Unit)).filter (fun x => x.1 == "spool/level.first") = [("spool/level.first", Rows.laid_spool_level_first)] := by kernel_rfl
  rw [eL] at hL1
  have hT : Go.Lib.TabIs Tryz.prog W "spool/level.first" .i64 [0, 2, 4, 8, 16] := Go.Lib.tabIs_of_head (rest := []) (t := R.first_type) (e := 3) (n := 5) R.first_named R.first_typed (by kernel_rfl) (by kernel_rfl) (by kernel_rfl) (by kernel_rfl) hL1
  have hGW := R.gw_of_tab hT
  have hsz : (DataW.weightsEach Tryz.prog (Tryz.f4.params.toList ++ Rows.wholeWaySpec.plain.varTypes Tryz.prog) (ds ++ gs)).all (· ≤ reachBytes) = true := hsz0
  have hval : ∀ (j : Nat) t v, Tryz.f4.params[j]? = some t → args[j]? = some v → Value.okWide Tryz.prog W .any base t v := hval0
  have hW' := hW
  obtain ⟨p, q, hA0, hV, rfl, hfz, hnd⟩ := hW
  have hA : DataW.TrodAll enc Tryz.prog W 0 (fun _ => true) true Tryz.f4.params.toList args.toList ds p := hA0
  rw [Tryz.params4] at hA hval hsz
  obtain ⟨v0, vs0, d0, ds0, p0, q0, hargs, rfl, rfl, h0, r0⟩ := trodAll_cons hA
  obtain ⟨v1, vs1, d1, ds1, p1, q1, rfl, rfl, rfl, h1, r1⟩ := trodAll_cons r0
  obtain ⟨v2, vs2, d2, ds2, p2, q2, rfl, rfl, rfl, h2, r2⟩ := trodAll_cons r1
  obtain ⟨rfl, rfl, rfl⟩ := trodAll_nil r2
  obtain rfl : args = #[v0, v1, v2] := by cases args; simp_all
  obtain ⟨rfl, rfl⟩ := trodVars_none hV
  have k0 := h0
  have lt0 : ∀ x ∈ p0, x.block < W.heap.size := by obtain ⟨m, hm⟩ := k0; exact DataW.trod_lt m _ _ _ hm
  obtain ⟨fuel0, hf0⟩ := h0
  have w0 : R.SlA W v0 := R.slA_of Tryz.underlying57 Tryz.underlying47 Tryz.underlying3 (by kernel_rfl) (by kernel_rfl) (hval 0 57 v0 rfl rfl) hf0
  have k1 := h1
  have lt1 : ∀ x ∈ p1, x.block < W.heap.size := by obtain ⟨m, hm⟩ := k1; exact DataW.trod_lt m _ _ _ hm
  obtain ⟨fuel1, hf1⟩ := h1
  have w1 : W2.SlB W v1 := W2.slB_of Tryz.underlying58 Tryz.underlying4 (by kernel_rfl) (hval 1 58 v1 rfl rfl) hf1
  obtain ⟨a2, rfl, rfl, rfl, w2⟩ := open_int Tryz.underlying5 (hval 2 5 v2 rfl rfl) h2
  clear hA0 hval0 hsz0 hsz
  refine (R.law_WholeWay W v0 w0 v1 w1 a2 (inK_of_wf w2) hGW).mono fun e W' ⟨he, bel⟩ => ?_
  subst he
  exact ⟨_, rfl, _, _, _, [], _, [], hW', trodAll_mk1 (shut_bool Tryz.underlying4 _), (trodAll_cons_mk (Below.trod laidOut (by kernel_rfl) (of_decide_eq_true (by kernel_rfl)) k0 bel lt0) (trodAll_cons_mk (Below.trod laidOut (by kernel_rfl) (of_decide_eq_true (by kernel_rfl)) k1 bel lt1) (trodAll_cons_mk (shut_int Tryz.underlying5 w2) trodAll_mk0))), rfl, bel.frame _, fun h => by cases h⟩
theorem over : Rows.wholeWayRow.holds Tryz.pinned (OpenSpec.ofChange Rows.wholeWaySpec) :=
  OpenClaim.holds_of_wide 4 Tryz.f4 rfl rfl rfl rfl rfl rfl rfl ⟨rfl, rfl, rfl, rfl, rfl⟩ rfl rfl rfl rfl rfl (by kernel_rfl) Tryz.func4 (by kernel_rfl)
    (of_decide_eq_true (by kernel_rfl)) (by unfold Func.isWrapper; first | (rw [if_pos (by decide +kernel)]; kernel_rfl) | (rw [if_neg (by decide +kernel)]; exact ⟨rfl, rfl⟩))
    (fun os started H enc _ => lifted os started H enc)
theorem proved : Rows.WholeWayCardSaid :=
  Claim7.holds_tied_plain_at .later [] [.data, .data, .pinned] true (true, "a97a970a1996346510ae238d958e334796f264de9f210c4d3cf7bcea69e09a99") true
    over (fun _ h => by cases h) (by kernel_rfl) (fun _ h => by cases h) wholeWay_row_tie rfl ⟨rfl, rfl⟩ (by kernel_rfl) rfl
    (fun f fn hf hfn => by
      obtain rfl : f = 4 := Option.some.inj ((show Tryz.prog.funcNamed "spool/spooltop.WholeWay" = some 4 by kernel_rfl).symm.trans hf) |>.symm
      obtain rfl : fn = Tryz.f4 := (Option.some.inj (Tryz.func4.symm.trans hfn)).symm
      exact ⟨by kernel_rfl, fun j t ht => by
        rw [Tryz.params4] at ht
        have hall : ([57, 58, 5].all fun t => !Tryz.prog.wantsStandIn t) = true := by kernel_rfl
        have := List.all_eq_true.1 hall t (by have := Array.mem_of_getElem? ht; simpa using this)
        have h2 : Tryz.prog.wantsStandIn t = false := by simpa using this
        exact h2⟩)
    (by kernel_rfl)
#print axioms proved
end Go.Proofs.YtaficaacogcblaaGreatDoor.wholeWay
namespace Go.Proofs.YtaficaacogcblaaGreatDoor
/-- The row, under a short name, for the claim. -/
theorem wholeWayCard_holds : Rows.WholeWayCardSaid := wholeWay.proved
end Go.Proofs.YtaficaacogcblaaGreatDoor
