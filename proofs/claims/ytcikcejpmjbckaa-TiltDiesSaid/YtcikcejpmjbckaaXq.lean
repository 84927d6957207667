/- What a row asks: arguments laid open, and a walk turned into what the row wants. -/
import Derived.Test.YtcikcejpmjbckaaXo
import Derived.ProofKit
import Derived.OpenShut
import Derived.ShutString
import Derived.ChangeOld
import Derived.SizedLaws
set_option linter.all false
namespace Go.Proofs.Ytcikcejpmjbckaa
open Go.RowKit (Below)

theorem inK_of_wf {k : IntKind} {n : Int} (h : (Lit.int k n).wf = true) : InK k n := by
  cases k <;> simp [Lit.wf, IntKind.min, IntKind.max, IntKind.signed, IntKind.bits] at h <;> simp [InK, lowK, highK] <;> omega

/-- An array (or a struct) of integers of one kind, handed in by value. -/
theorem open_ints_val {P : Program} {w : World} {r : Reach} {base : Nat} {t : TypeId} {v : Value} {k : IntKind} {ts : List TypeId} (hag : isAg (tyOf P t) = some true) (hct : P.cellTypes P.depth t = some ts) (hts : ∀ u ∈ ts, P.underlying u = some (.int k))
    (h : Value.okWide P w r base t v) : ∃ xs : List Int, v = .agg (xs.map (Value.int k)).toArray ∧ xs.length = P.cellsOf t ∧ ∀ x ∈ xs, InK k x := by
  have h' : ∃ cs, v = .agg cs ∧ cs.size = P.cellsOf t ∧ Row.okWide P w r base t cs := by
    unfold Value.okWide at h
    unfold tyOf at hag
    cases hu : P.underlying t with
    | none => rw [hu] at hag; cases hag
    | some d =>
      rw [hu] at hag h
      cases d <;> simp [tyD, isAg] at hag <;> exact h
  obtain ⟨cs, rfl, hsz, ts', h1, _, h3⟩ := h'
  rw [hct] at h1
  cases h1
  have cell : ∀ (i : Nat) (v : Value), cs[i]? = some v → ∃ n, v = Value.int k n ∧ InK k n := fun i v hv => by
    obtain ⟨u, hu, hok⟩ := h3 i v hv
    have hu' := hts u (List.mem_of_getElem? hu)
    unfold Cell.okWide at hok
    rw [hu'] at hok
    unfold Cell.ok at hok
    rw [hu'] at hok
    cases v <;> simp at hok
    rename_i k' n
    obtain ⟨rfl, h1, h2⟩ := hok
    refine ⟨n, rfl, inK_of_wf ?_⟩
    simp [Lit.wf, h1, h2]
  have gen : ∀ l : List Value, (∀ v ∈ l, ∃ n, v = Value.int k n ∧ InK k n) → ∃ xs : List Int, l = xs.map (Value.int k) ∧ ∀ x ∈ xs, InK k x := by
    intro l
    induction l with
    | nil => intro _; exact ⟨[], rfl, fun _ h => by simp at h⟩
    | cons v l ih =>
      intro hl
      obtain ⟨n, rfl, hn⟩ := hl v (by simp)
      obtain ⟨xs, rfl, hxs⟩ := ih fun v hv => hl v (by simp [hv])
      exact ⟨n :: xs, rfl, fun x hx => by rcases List.mem_cons.1 hx with rfl | h; exact hn; exact hxs x h⟩
  obtain ⟨xs, hxs, hin⟩ := gen cs.toList fun v hv => by
    obtain ⟨i, hi⟩ := List.getElem?_of_mem hv
    exact cell i v (by simpa using hi)
  refine ⟨xs, ?_, ?_, hin⟩
  · rw [← hxs]
  · rw [← hsz]
    have := congrArg List.length hxs
    simpa using this.symm

end Go.Proofs.Ytcikcejpmjbckaa
