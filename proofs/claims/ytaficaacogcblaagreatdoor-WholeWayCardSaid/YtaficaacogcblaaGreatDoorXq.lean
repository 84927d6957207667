/- What a row asks: arguments laid open, and a walk turned into what the row wants. -/
import Derived.Test.YtaficaacogcblaaGreatDoorXo
import Derived.ProofKit
import Derived.OpenShut
import Derived.ShutString
import Derived.ChangeOld
import Derived.SizedLaws
import Derived.ChangeSlices
set_option linter.all false
namespace Go.Proofs.YtaficaacogcblaaGreatDoor
open Go.RowKit (Below)

theorem inK_of_wf {k : IntKind} {n : Int} (h : (Lit.int k n).wf = true) : InK k n := by
  cases k <;> simp [Lit.wf, IntKind.min, IntKind.max, IntKind.signed, IntKind.bits] at h <;> simp [InK, lowK, highK] <;> omega

/-- An array (or a struct) of integers of one kind, handed in by value. -/
theorem open_ints_val {P : Program} {w : World} {r : Reach} {base : Nat} {t : TypeId} {v : Value} {k : IntKind} {ts : List TypeId} (hag : isAg (tyOf P t) = some true) (hct : P.cellTypes P.depth t = some ts) (hts : ∀ u ∈ ts, P.underlying u = some (.int k))
    (h : Value.okWide P w r base t v) : ∃ xs : List Int, v = .agg (xs.map (Value.int k)).toArray ∧ xs.length = P.cellsOf t ∧ ∀ x ∈ xs, InK k x := by
  have h' : ∃ cs, v = .agg cs ∧ cs.size = P.cellsOf t ∧ Row.okWide P w r base t cs := by
    unfold Value.okWide at h
    unfold tyOf at hag
    cases hu : P.underlying t with
    | none => rw [hu] at hag; cases hag
    | some d =>
      rw [hu] at hag h
      cases d <;> simp [tyD, isAg] at hag <;> exact h
  obtain ⟨cs, rfl, hsz, ts', h1, _, h3⟩ := h'
  rw [hct] at h1
  cases h1
  have cell : ∀ (i : Nat) (v : Value), cs[i]? = some v → ∃ n, v = Value.int k n ∧ InK k n := fun i v hv => by
    obtain ⟨u, hu, hok⟩ := h3 i v hv
    have hu' := hts u (List.mem_of_getElem? hu)
    unfold Cell.okWide at hok
    rw [hu'] at hok
    unfold Cell.ok at hok
    rw [hu'] at hok
    cases v <;> simp at hok
    rename_i k' n
    obtain ⟨rfl, h1, h2⟩ := hok
    refine ⟨n, rfl, inK_of_wf ?_⟩
    simp [Lit.wf, h1, h2]
  have gen : ∀ l : List Value, (∀ v ∈ l, ∃ n, v = Value.int k n ∧ InK k n) → ∃ xs : List Int, l = xs.map (Value.int k) ∧ ∀ x ∈ xs, InK k x := by
    intro l
    induction l with
    | nil => intro _; exact ⟨[], rfl, fun _ h => by simp at h⟩
    | cons v l ih =>
      intro hl
      obtain ⟨n, rfl, hn⟩ := hl v (by simp)
      obtain ⟨xs, rfl, hxs⟩ := ih fun v hv => hl v (by simp [hv])
      exact ⟨n :: xs, rfl, fun x hx => by rcases List.mem_cons.1 hx with rfl | h; exact hn; exact hxs x h⟩
  obtain ⟨xs, hxs, hin⟩ := gen cs.toList fun v hv => by
    obtain ⟨i, hi⟩ := List.getElem?_of_mem hv
    exact cell i v (by simpa using hi)
  refine ⟨xs, ?_, ?_, hin⟩
  · rw [← hxs]
  · rw [← hsz]
    have := congrArg List.length hxs
    simpa using this.symm

/-- A slice of integers of one kind, handed in: nil, or a row that stands in the world. -/
def SlIn (k : IntKind) (w : World) (v : Value) : Prop :=
  v = .slice none 0 0 ∨ ∃ (b o len cap : Nat) (zs : List Int), v = .slice (some ⟨b, o, none⟩) len cap ∧ len ≤ cap ∧ cap ≤ 9223372036854775807 ∧ b < w.heap.size ∧ zs.length = cap ∧ (∀ z ∈ zs, InK k z) ∧
    ∀ (i : Nat) (u : Value), (zs.map (Value.int k))[i]? = some u → w.cell? ⟨b, o + i, none⟩ = some u

theorem slIn_of {H : Type} {enc : TypeId × Value → H} {P : Program} {w : World} {r : Reach} {base base' : Nat} {held : Bool} {t e : TypeId} {k : IntKind} {fuel : Nat} {v : Value} {x : DataW H × List MemPlace} (ht : P.underlying t = some (.slice e)) (he : P.underlying e = some (.int k)) (hc : P.cellsOf e = 1)
    (hv : Value.okWide P w r base t v) (h : DataW.trod enc P w base' (fun _ => true) held fuel t v.cells.toList = some x) : SlIn k w v := by
  rcases Go.ChangeShapes.open_ints ht he hc h with ⟨hcs, _⟩ | ⟨a, len, cap, zs, hcs, _, hl, hm, hz, _, hcell, hwz⟩
  · left
    obtain ⟨p, l, c, rfl⟩ := Go.WideShapes.okWide_slice ht hv
    simp [Value.cells] at hcs
    obtain ⟨rfl, rfl, rfl⟩ := hcs
    rfl
  · right
    obtain ⟨p, l, c, rfl⟩ := Go.WideShapes.okWide_slice ht hv
    simp [Value.cells] at hcs
    obtain ⟨rfl, rfl, rfl⟩ := hcs
    have hok : w.has P r base a e c := by
      have := hv
      simp only [Value.okWide, ht, Cell.okWide, Cell.ok] at this
      exact this.2.2
    obtain ⟨_, hspot, row, cells, hsh, _⟩ := hok
    have hblk : a.block < w.heap.size := by
      rcases Nat.lt_or_ge a.block w.heap.size with h | h
      · exact h
      · simp [World.shape?, Array.getElem?_eq_none h] at hsh
    obtain ⟨b, o, sp⟩ := a
    simp only at hspot hblk
    subst hspot
    refine ⟨b, o, l, c, zs, rfl, hl, by simpa only [maxLen] using hm, hblk, by simpa using hz, fun z hz' => inK_of_wf (hwz z hz'), fun i u hu => ?_⟩
    have hi := (List.getElem?_eq_some_iff.1 hu).1
    simp at hi
    have := hcell i hi
    rw [add_ne rfl] at this
    rw [this]
    simp [hi] at hu
    rw [← hu]
    simp [List.getD_eq_getElem?_getD, hi]
/-- Such a row, as a block that is only read. -/
theorem ro_of_slIn {k : IntKind} {w : World} {σ : Sg} {j b o cap : Nat} {zs : List Int} (hσ : σ j = (b, o)) (hb : b < w.heap.size) (hcell : ∀ (i : Nat) (u : Value), (zs.map (Value.int k))[i]? = some u → w.cell? ⟨b, o + i, none⟩ = some u) : (Blk.ro [.ints k cap zs]).rep σ w.heap.size w j := by
  refine ⟨by rw [hσ]; exact hb, fun i v hv => ?_⟩
  simp only [Sg.at, hσ]
  exact hcell i v (by simpa [dens, Seg.den] using hv)

end Go.Proofs.YtaficaacogcblaaGreatDoor
