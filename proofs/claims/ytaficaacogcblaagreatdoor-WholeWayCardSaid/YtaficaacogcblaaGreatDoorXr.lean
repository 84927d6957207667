/- Arrays of integers are compared cell by cell. -/
import Derived.Test.YtaficaacogcblaaGreatDoorXq
import Derived.ChangeKeysEq
set_option linter.all false
namespace Go.Proofs.YtaficaacogcblaaGreatDoor
open Go.RowKit (Below)

theorem shaped_rep {k : IntKind} : ∀ {n : Nat} {X : List Value}, shaped (List.replicate n (.i k)) X → ∃ xs : List Int, X = xs.map (Value.int k) ∧ xs.length = n
  | 0, [], _ => ⟨[], rfl, rfl⟩
  | 0, _ :: _, h => h.elim
  | _ + 1, [], h => h.elim
  | n + 1, v :: X, h => by
    obtain ⟨xs, rfl, hl⟩ := shaped_rep (n := n) h.2
    have h1 := h.1
    cases v <;> simp only [cellIs] at h1
    subst h1
    exact ⟨_ :: xs, rfl, by simp [hl]⟩
theorem eqok_ints {P : Program} {t e : TypeId} {n : Nat} {k : IntKind} {inf : TypeInfo} (hu : P.underlying t = some (.array n e)) (he : P.underlying e = some (.int k)) (hi : P.info? e = some inf) (hc : P.cellsOf e = 1) (hpl : P.plainKey e = true)
    (hg : P.eqGuardType P.depth t = false) : EqOk P t (List.replicate n (.i k)) := by
  intro X Y hX hY w
  obtain ⟨xs, rfl, hx⟩ := shaped_rep hX
  obtain ⟨ys, rfl, hy⟩ := shaped_rep hY
  refine ⟨?_, fun op u v => run_eqGuard_agg w op t u v _ _ hg⟩
  have cell : ∀ (zs : List Int) (i : Nat), i < zs.length → (zs.map (Value.int k)).toArray[i]? = some (.int k (zs.getD i 0)) := fun zs i h => by
    simp [List.getD_eq_getElem?_getD, h]
  have main : ∀ is : List Nat, (∀ i ∈ is, i < n) → (Op.eqItems 9999 e 1 (xs.map (Value.int k)).toArray (ys.map (Value.int k)).toArray is).run P w = .ok (is.all fun i => xs.getD i 0 == ys.getD i 0) w := by
    intro is
    induction is with
    | nil => intro _; rfl
    | cons i is ih =>
      intro h
      have h1 := run_part_plain (P := P) w hpl (cell xs i (by rw [hx]; exact h i (by simp)))
      have h2 := run_part_plain (P := P) w hpl (cell ys i (by rw [hy]; exact h i (by simp)))
      have h3 := run_equalIn_int (P := P) w 9998 e k k (xs.getD i 0) (ys.getD i 0) he
      have h4 := ih fun j hj => h j (by simp [hj])
      simp only [Op.eqItems, Nat.mul_one, Sem.run_bind, h1, h2, h3, Result.andThen_ok, List.all_cons]
      cases hb : (xs.getD i 0 == ys.getD i 0)
      · simp
      · simp only [Bool.not_true, Bool.false_eq_true, if_false, Bool.true_and]
        exact h4
  refine ⟨(List.range n).all fun i => xs.getD i 0 == ys.getD i 0, ?_, ?_⟩
  · show (Op.equalIn 10000 t _ _).run P w = _
    rw [run_equalIn_array w 9999 _ _ hu hi, hc]
    exact main _ fun i h => List.mem_range.1 h
  · rw [List.all_eq_true]
    constructor
    · intro h
      congr 1
      refine List.ext_getElem (by rw [hx, hy]) fun i h1 h2 => ?_
      have := h i (List.mem_range.2 (by omega))
      simpa [List.getD_eq_getElem?_getD, h1, h2] using this
    · intro h i hi
      rw [map_int_inj h]; simp
end Go.Proofs.YtaficaacogcblaaGreatDoor
