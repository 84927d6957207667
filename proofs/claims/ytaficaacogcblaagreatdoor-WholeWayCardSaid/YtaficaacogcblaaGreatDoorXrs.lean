/- Structs of integers and of rows of integers are compared cell by cell. -/
import Derived.Test.YtaficaacogcblaaGreatDoorXr
set_option linter.all false
namespace Go.Proofs.YtaficaacogcblaaGreatDoor
open Go.RowKit (Below)

def FldOk (P : Program) (k : IntKind) (f : Field) (n : Nat) : Prop :=
  f.name ≠ "_" ∧ ∀ (w : World) (X Y : Array Value) (xs ys : List Int), xs.length = n → ys.length = n → (X.toList.drop f.offset).take n = xs.map (Value.int k) → (Y.toList.drop f.offset).take n = ys.map (Value.int k) →
    ∃ a b r, (part f.type X f.offset).run P w = .ok a w ∧ (part f.type Y f.offset).run P w = .ok b w ∧ (Op.equalIn 9999 f.type a b).run P w = .ok r w ∧ (r = true ↔ xs = ys)
theorem fld_int {P : Program} {k : IntKind} {f : Field} (hn : f.name ≠ "_") (hu : P.underlying f.type = some (.int k)) (hp : P.plainKey f.type = true) : FldOk P k f 1 := by
  refine ⟨hn, fun w X Y xs ys hx hy eX eY => ?_⟩
  obtain ⟨x, rfl⟩ : ∃ x, xs = [x] := by
    match xs, hx with
    | [x], _ => exact ⟨x, rfl⟩
  obtain ⟨y, rfl⟩ : ∃ x, ys = [x] := by
    match ys, hy with
    | [x], _ => exact ⟨x, rfl⟩
  have cell : ∀ (X : Array Value) (x : Int), (X.toList.drop f.offset).take 1 = [x].map (Value.int k) → X[f.offset]? = some (.int k x) := fun X x e => by
    have e2 : ((X.toList.drop f.offset).take 1)[0]? = some (Value.int k x) := by rw [e]; rfl
    rw [List.getElem?_take_of_lt (by decide), List.getElem?_drop, Nat.add_zero] at e2
    simpa using e2
  refine ⟨.int k x, .int k y, x == y, run_part_plain (P := P) w hp (cell X x eX), run_part_plain (P := P) w hp (cell Y y eY), run_equalIn_int (P := P) w 9998 f.type k k x y hu, ?_⟩
  simp
theorem fld_arr {P : Program} {k : IntKind} {f : Field} {n : Nat} {e : TypeId} {inf ie : TypeInfo} (hn : f.name ≠ "_") (hu : P.underlying f.type = some (.array n e)) (hi : P.info? f.type = some inf) (hs : inf.size = n) (hag : isAg (tyOf P f.type) = some true)
    (he : P.underlying e = some (.int k)) (hie : P.info? e = some ie) (hc : P.cellsOf e = 1) (hp : P.plainKey e = true) : FldOk P k f n := by
  refine ⟨hn, fun w X Y xs ys hx hy eX eY => ?_⟩
  have row : ∀ (X : Array Value) (xs : List Int), (X.toList.drop f.offset).take n = xs.map (Value.int k) → xs.length = n → (part f.type X f.offset).run P w = .ok (.agg (xs.map (Value.int k)).toArray) w := fun X xs e hl => by
    have hlen : f.offset + n ≤ X.size ∨ n = 0 := by
      have := congrArg List.length e
      simp at this
      omega
    have e2 : (X.extract f.offset (f.offset + n)) = (xs.map (Value.int k)).toArray := by
      apply Array.ext'
      rw [← e]
      simp [List.drop_take]
    have hle : ¬ X.size < f.offset + n ∨ n = 0 := by omega
    simp only [part, Sem.run_bind, run_isAgg w hag, run_sizeOf w hi, Result.andThen_ok, if_true, hs, e2, Sem.run_pure]
  have cell : ∀ (zs : List Int) (i : Nat), i < zs.length → (zs.map (Value.int k)).toArray[i]? = some (.int k (zs.getD i 0)) := fun zs i h => by
    simp [List.getD_eq_getElem?_getD, h]
  have main : ∀ is : List Nat, (∀ i ∈ is, i < n) → (Op.eqItems 9998 e 1 (xs.map (Value.int k)).toArray (ys.map (Value.int k)).toArray is).run P w = .ok (is.all fun i => xs.getD i 0 == ys.getD i 0) w := by
    intro is
    induction is with
    | nil => intro _; rfl
    | cons i is ih =>
      intro h
      have h1 := run_part_plain (P := P) w hp (cell xs i (by rw [hx]; exact h i (by simp)))
      have h2 := run_part_plain (P := P) w hp (cell ys i (by rw [hy]; exact h i (by simp)))
      have h3 := run_equalIn_int (P := P) w 9997 e k k (xs.getD i 0) (ys.getD i 0) he
      have h4 := ih fun j hj => h j (by simp [hj])
      simp only [Op.eqItems, Nat.mul_one, Sem.run_bind, h1, h2, h3, Result.andThen_ok, List.all_cons]
      cases hb : (xs.getD i 0 == ys.getD i 0)
      · simp
      · simp only [Bool.not_true, Bool.false_eq_true, if_false, Bool.true_and]
        exact h4
  refine ⟨_, _, (List.range n).all fun i => xs.getD i 0 == ys.getD i 0, row X xs eX hx, row Y ys eY hy, ?_, ?_⟩
  · rw [run_equalIn_array w 9998 _ _ hu hie, hc]
    exact main _ fun i h => List.mem_range.1 h
  · rw [List.all_eq_true]
    constructor
    · intro h
      refine List.ext_getElem (by rw [hx, hy]) fun i h1 h2 => ?_
      have := h i (List.mem_range.2 (by omega))
      simpa [List.getD_eq_getElem?_getD, h1, h2] using this
    · rintro rfl i hi
      simp

def FldsOk (P : Program) (k : IntKind) : List Field → Nat → Nat → Prop
  | [], off, tot => off = tot
  | f :: fs, off, tot => ∃ n, f.offset = off ∧ FldOk P k f n ∧ FldsOk P k fs (off + n) tot
theorem flds_run {P : Program} {k : IntKind} (w : World) {X Y : Array Value} {xs ys : List Int} (hX : X.toList = xs.map (Value.int k)) (hY : Y.toList = ys.map (Value.int k)) : ∀ (fs : List Field) (off tot : Nat), FldsOk P k fs off tot → xs.length = tot → ys.length = tot → off ≤ tot →
    ∃ r, (Op.eqFields 9999 X Y fs).run P w = .ok r w ∧ (r = true ↔ xs.drop off = ys.drop off)
  | [], off, tot, h, hx, hy, _ => by
    have h : off = tot := h
    subst h
    refine ⟨true, rfl, ?_⟩
    rw [List.drop_of_length_le (by omega), List.drop_of_length_le (by omega)]
    simp
  | f :: fs, off, tot, h, hx, hy, hle => by
    obtain ⟨n, rfl, ⟨hn, hf⟩, hrest⟩ := h
    have le : ∀ (fs : List Field) (off : Nat), FldsOk P k fs off tot → off ≤ tot := fun fs => by
      induction fs with
      | nil => intro off h; exact Nat.le_of_eq h
      | cons g gs ih =>
        rintro off ⟨m, _, _, h⟩
        have := ih _ h
        omega
    have hle' := le _ _ hrest
    obtain ⟨a, b, r, p1, p2, p3, hiff⟩ := hf w X Y ((xs.drop f.offset).take n) ((ys.drop f.offset).take n) (by simp; omega) (by simp; omega) (by rw [hX]; simp) (by rw [hY]; simp)
    obtain ⟨r', hr', hiff'⟩ := flds_run w hX hY fs (f.offset + n) tot hrest hx hy hle'
    have split : ∀ zs : List Int, zs.drop f.offset = (zs.drop f.offset).take n ++ zs.drop (f.offset + n) := fun zs => by
      rw [← List.drop_drop, List.take_append_drop]
    have both : xs.drop f.offset = ys.drop f.offset ↔ (xs.drop f.offset).take n = (ys.drop f.offset).take n ∧ xs.drop (f.offset + n) = ys.drop (f.offset + n) := by
      constructor
      · intro e
        refine ⟨by rw [e], ?_⟩
        rw [← List.drop_drop, ← List.drop_drop, e]
      · rintro ⟨e1, e2⟩
        rw [split xs, split ys, e1, e2]
    simp only [Op.eqFields, hn, ne_eq, not_false_eq_true, if_true, Sem.run_bind, p1, p2, p3, Result.andThen_ok]
    cases r
    · refine ⟨false, by simp, ?_⟩
      rw [both]
      constructor
      · intro e; cases e
      · rintro ⟨e1, _⟩; exact absurd (hiff.2 e1) (by simp)
    · refine ⟨r', by simpa using hr', ?_⟩
      rw [hiff', both]
      simp [hiff.1 rfl]
theorem eqok_struct {P : Program} {t : TypeId} {n : Nat} {k : IntKind} (hu : P.underlying t = some (.struct (P.fieldsOf t))) (hs : P.stoodInHeld t = false) (hf : FldsOk P k (P.fieldsOf t).toList 0 n)
    (hg : P.eqGuardType P.depth t = false) : EqOk P t (List.replicate n (.i k)) := by
  intro X Y hX hY w
  obtain ⟨xs, rfl, hx⟩ := shaped_rep hX
  obtain ⟨ys, rfl, hy⟩ := shaped_rep hY
  refine ⟨?_, fun op u v => run_eqGuard_agg w op t u v _ _ hg⟩
  obtain ⟨r, h1, h2⟩ := flds_run (P := P) (k := k) w (X := (xs.map (Value.int k)).toArray) (Y := (ys.map (Value.int k)).toArray) (xs := xs) (ys := ys) (by simp) (by simp) _ 0 n hf hx hy (Nat.zero_le _)
  refine ⟨r, ?_, ?_⟩
  · show (Op.equalIn 10000 t _ _).run P w = _
    rw [run_equalIn_struct w 9999 t _ _ hu hs]
    exact h1
  · rw [h2, List.drop_zero, List.drop_zero]
    exact ⟨fun e => by rw [e], fun e => map_int_inj e⟩
end Go.Proofs.YtaficaacogcblaaGreatDoor
