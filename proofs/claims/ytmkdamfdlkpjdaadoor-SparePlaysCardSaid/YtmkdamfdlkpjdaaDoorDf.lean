/- Chapter level: what the package's variable holds when the call begins; the law LevelParts. -/
import Derived.Test.YtmkdamfdlkpjdaaDoorDe
import Derived.Lib.LaidTab
set_option linter.all false
namespace Go.Proofs.YtmkdamfdlkpjdaaDoor
open Go.RowKit (Below)
set_option maxRecDepth 100000
set_option maxHeartbeats 32000000

abbrev first_type : TypeId := 27
theorem first_named : Tryd.prog.globalNamed "spool/level.first" = some 0 := by kernel_rfl
theorem first_typed : (Tryd.prog.globals[0]?).map (·.type) = some 27 := by kernel_rfl
/-- From the row's condition. -/
theorem gw_of_tab {w : World} (h : Go.Lib.TabIs Tryd.prog w "spool/level.first" .i64 [0, 2, 4, 8, 16]) : GW G1 w := by
  have c : ∀ i : Nat, i < 5 → w.cell? ⟨0, i, none⟩ = some (.int .i64 (([0, 2, 4, 8, 16] : List Int).getD i 0)) := fun i hi => h.cell first_named i hi
  intro g ss hg
  unfold G1 at hg
  split at hg
  · rename_i hb
    obtain rfl := Nat.eq_of_beq_eq_true hb
    cases hg
    refine ⟨?_, rfl, fun i v hv => ?_⟩
    · rcases Nat.lt_or_ge 0 w.heap.size with hlt | hge
      · exact hlt
      · have := c 0 (by decide)
        unfold World.cell? at this
        simp [Array.getElem?_eq_none hge] at this
    · have hi : i < 5 := by
        have := (List.getElem?_eq_some_iff.1 hv).1
        simpa [dens, Seg.den] using this
      rw [c i hi]
      obtain rfl | rfl | rfl | rfl | rfl : i = 0 ∨ i = 1 ∨ i = 2 ∨ i = 3 ∨ i = 4 := by omega
      all_goals exact hv
  · cases hg
theorem law_LevelParts (xs : List Int) (h : xs.length = 16) (hx : ∀ x ∈ xs, InK .i64 x) (w0 : World) (hg : GW G1 w0) : Calls Tryd.prog 5 #[.agg (xs.map (Value.int .i64)).toArray] w0 fun e w' => e = .returned (.bool true) ∧ Below w0.heap.size w0 w' := by
  have hd1 : (W.den (fun _ => (0, 0)) (ar16 xs)) = Value.agg (xs.map (Value.int .i64)).toArray := by simp [W.den, dens, Seg.den]
  have hd : ([ar16 xs].map (W.den fun _ => (0, 0))).toArray = #[Value.agg (xs.map (Value.int .i64)).toArray] := by rw [← hd1]; rfl
  have := walkg_true FD_ok Tryd.func5 (ws := [ar16 xs]) ⟨ar16_rng h hx, trivial⟩ rfl (n := 0) (parts_walk xs h hx) w0 hg
  rw [hd] at this; exact this
end Go.Proofs.YtmkdamfdlkpjdaaDoor
