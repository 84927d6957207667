/- The law spool/spoollaw11.SparePlays: the row, from the walk: the call returns true whatever the input, and the input reads as it did. No condition. -/
import Derived.Test.YtmkdamfdlkpjdaaDoorRows
import Derived.Test.YtmkdamfdlkpjdaaDoorEl
import Derived.Test.YtmkdamfdlkpjdaaDoorXq
import Derived.Test.YtmkdamfdlkpjdaaDoorDf
import Derived.Test.YtmkdamfdlkpjdaaDoorTie
import Derived.Test.YtmkdamfdlkpjdaaDoorCards
import Derived.ChangeSame
import Derived.ChangeVars
import Derived.JoinedOf
import Derived.LaidLaws
import Derived.LaidHandle
import Derived.Lib.LaidTab
import Derived.SevenTiedAt
namespace Go.Proofs.YtmkdamfdlkpjdaaDoor.sparePlays
open Go.ChangeShapes Go.WideShapes Go.ChangeAt Go.RowKit
open Go.ChangeMaps (open_string shut_string)
set_option linter.all false
theorem own : ownKnob Tryd.prog.godebug = none := by kernel_rfl
theorem laidOut : laidOutB Tryd.prog = true := by kernel_rfl
noncomputable def laidWorld (os : Os) : World :=
  let w0 := World.holding Tryd.prog os ⟨#[], #[], []⟩
  { w0 with heap := w0.heap.modify 0 fun
      | .cells _ t frozen => .cells #[.int .i64 0, .int .i64 2, .int .i64 4, .int .i64 8, .int .i64 16] t frozen
      | o => o }
theorem laidWorld_met (os : Os) (args : Array Value) : laidMetH Tryd.prog [("spool/level.first", Rows.laid_spool_level_first)] ((laidWorld os).forCall (fun _ _ => 0) ⟨#[], args, []⟩).memory :=
  laidMetH_of_parts (laidMet_of_run' 8 (by kernel_rfl) (by kernel_rfl)) (by kernel_rfl)
set_option maxRecDepth 100000 in
theorem lifted (os : Os) (started : os.Started) (H : Type) (enc : TypeId × Value → H) :
    ReturnsInHanded {} Tryd.checked os 13 .any (fun w args => (Rows.sparePlaysSpec.pre enc Tryd.prog Tryd.f13 Rows.sparePlaysRow.domain false w args ∧ laidMetH Tryd.prog [("spool/level.first", Rows.laid_spool_level_first)] w) ∧ sizedMet enc Tryd.prog Tryd.f13 (OpenSpec.ofChange Rows.sparePlaysSpec) false w args) (Rows.sparePlaysSpec.post enc Tryd.prog Tryd.f13 false true false false) := by
  refine returnsInHanded_of_change_and (C := Tryd.checked) (X := fun w _ => laidMetH Tryd.prog [("spool/level.first", Rows.laid_spool_level_first)] w) (fun _ _ _ hh h => h.of_heap hh) own started (by kernel_rfl) Tryd.func13
    (ChangeSpec.witness_at (enc := enc) (C := Tryd.checked) (os := os) (X := fun w _ => laidMetH Tryd.prog [("spool/level.first", Rows.laid_spool_level_first)] w) false (laidWorld os) #[.agg #[.int .i64 0, .int .i64 0, .int .i64 0, .int .i64 0], .int .i64 0, .int .i64 0, .int .i64 0] 8 rfl (by kernel_rfl) (by kernel_rfl) (by kernel_rfl) (by kernel_rfl) (by kernel_rfl) (laidWorld_met os _)) ?_
  intro W base args ds gs before hval0 hW hcnd hsz0 hL _
  have hT : Go.Lib.TabIs Tryd.prog W "spool/level.first" .i64 [0, 2, 4, 8, 16] := Go.Lib.tabIs_of_head (rest := []) (t := first_type) (e := 3) (n := 5) first_named first_typed (by kernel_rfl) (by kernel_rfl) (by kernel_rfl) (by kernel_rfl) hL
  have hGW := gw_of_tab hT
  have hsz : (DataW.weightsEach Tryd.prog (Tryd.f13.params.toList ++ Rows.sparePlaysSpec.plain.varTypes Tryd.prog) (ds ++ gs)).all (· ≤ reachBytes) = true := hsz0
  have hval : ∀ (j : Nat) t v, Tryd.f13.params[j]? = some t → args[j]? = some v → Value.okWide Tryd.prog W .any base t v := hval0
  have hW' := hW
  obtain ⟨p, q, hA0, hV, rfl, hfz, hnd⟩ := hW
  have hA : DataW.TrodAll enc Tryd.prog W 0 (fun _ => true) true Tryd.f13.params.toList args.toList ds p := hA0
  rw [Tryd.params13] at hA hval hsz
  obtain ⟨v0, vs0, d0, ds0, p0, q0, hargs, rfl, rfl, h0, r0⟩ := trodAll_cons hA
  obtain ⟨v1, vs1, d1, ds1, p1, q1, rfl, rfl, rfl, h1, r1⟩ := trodAll_cons r0
  obtain ⟨v2, vs2, d2, ds2, p2, q2, rfl, rfl, rfl, h2, r2⟩ := trodAll_cons r1
  obtain ⟨v3, vs3, d3, ds3, p3, q3, rfl, rfl, rfl, h3, r3⟩ := trodAll_cons r2
  obtain ⟨rfl, rfl, rfl⟩ := trodAll_nil r3
  obtain rfl : args = #[v0, v1, v2, v3] := by cases args; simp_all
  obtain ⟨rfl, rfl⟩ := trodVars_none hV
  have k0 := h0
  have lt0 : ∀ x ∈ p0, x.block < W.heap.size := by obtain ⟨m, hm⟩ := k0; exact DataW.trod_lt m _ _ _ hm
  obtain ⟨a0, rfl, w0, z0⟩ := open_ints_val (P := Tryd.prog) (k := .i64) (ts := List.replicate 4 3) (by kernel_rfl) (by kernel_rfl) (fun u hu => by rw [(List.mem_replicate.1 hu).2]; exact Tryd.underlying3) (hval 0 25 v0 rfl rfl)
  have e0 : Tryd.prog.cellsOf 25 = 4 := by kernel_rfl
  rw [e0] at w0
  obtain ⟨a1, rfl, rfl, rfl, w1⟩ := open_int Tryd.underlying3 (hval 1 3 v1 rfl rfl) h1
  obtain ⟨a2, rfl, rfl, rfl, w2⟩ := open_int Tryd.underlying3 (hval 2 3 v2 rfl rfl) h2
  obtain ⟨a3, rfl, rfl, rfl, w3⟩ := open_int Tryd.underlying3 (hval 3 3 v3 rfl rfl) h3
  clear hA0 hval0 hsz0 hsz
  refine (law_SparePlays a0 w0 z0 a1 (inK_of_wf w1) a2 (inK_of_wf w2) a3 (inK_of_wf w3) W hGW).mono fun e W' ⟨he, bel⟩ => ?_
  subst he
  exact ⟨_, rfl, _, _, _, [], _, [], hW', trodAll_mk1 (shut_bool Tryd.underlying4 _), (trodAll_cons_mk (Below.trod laidOut (by kernel_rfl) (of_decide_eq_true (by kernel_rfl)) k0 bel lt0) (trodAll_cons_mk (shut_int Tryd.underlying3 w1) (trodAll_cons_mk (shut_int Tryd.underlying3 w2) (trodAll_cons_mk (shut_int Tryd.underlying3 w3) trodAll_mk0)))), rfl, bel.frame _, fun h => by cases h⟩
theorem over : Rows.sparePlaysRow.holds Tryd.pinned (OpenSpec.ofChange Rows.sparePlaysSpec) :=
  OpenClaim.holds_of_wide 13 Tryd.f13 rfl rfl rfl rfl rfl rfl rfl ⟨rfl, rfl, rfl, rfl, rfl⟩ rfl rfl rfl rfl rfl (by kernel_rfl) Tryd.func13 (by kernel_rfl)
    (of_decide_eq_true (by kernel_rfl)) (by unfold Func.isWrapper; first | (rw [if_pos (by decide +kernel)]; kernel_rfl) | (rw [if_neg (by decide +kernel)]; exact ⟨rfl, rfl⟩))
    (fun os started H enc _ => lifted os started H enc)
theorem proved : Rows.SparePlaysCardSaid :=
  Claim7.holds_tied_plain_at .later [] [.data] true (true, "2b4961c2c577cae06b8a7e79c0f8f26986b085144b37f6f29cec7ad16258b092") false
    over (fun _ h => by cases h) (by kernel_rfl) (fun _ h => by cases h) sparePlays_row_tie rfl ⟨rfl, rfl⟩ (by kernel_rfl) rfl
    (fun f fn hf hfn => by
      obtain rfl : f = 13 := Option.some.inj ((show Tryd.prog.funcNamed "spool/spoollaw11.SparePlays" = some 13 by kernel_rfl).symm.trans hf) |>.symm
      obtain rfl : fn = Tryd.f13 := (Option.some.inj (Tryd.func13.symm.trans hfn)).symm
      exact ⟨by kernel_rfl, fun j t ht => by
        rw [Tryd.params13] at ht
        have hall : ([25, 3, 3, 3].all fun t => !Tryd.prog.wantsStandIn t) = true := by kernel_rfl
        have := List.all_eq_true.1 hall t (by have := Array.mem_of_getElem? ht; simpa using this)
        have h2 : Tryd.prog.wantsStandIn t = false := by simpa using this
        exact h2⟩)
    (by kernel_rfl)
#print axioms proved
end Go.Proofs.YtmkdamfdlkpjdaaDoor.sparePlays
namespace Go.Proofs.YtmkdamfdlkpjdaaDoor
/-- The row, under a short name, for the claim. -/
theorem sparePlaysCard_holds : Rows.SparePlaysCardSaid := sparePlays.proved
end Go.Proofs.YtmkdamfdlkpjdaaDoor
