/- Chapter shape: rows of truth values; waves twice as great, and of other signs. -/
import Derived.Test.YtmkdamfdlkpjdaaCi
import Derived.Deep.Grids
set_option linter.all false
namespace Go.Proofs.Ytmkdamfdlkpjdaa
open Go.RowKit (Below)
set_option maxRecDepth 100000
set_option maxHeartbeats 32000000

/-! ### a slice of truth values, handed in -/
def SlB (w : World) (v : Value) : Prop :=
  v = .slice none 0 0 ∨ ∃ (b o len cap : Nat) (bs : List Bool), v = .slice (some ⟨b, o, none⟩) len cap ∧ len ≤ cap ∧ cap ≤ 9223372036854775807 ∧ b < w.heap.size ∧ bs.length = cap ∧
    ∀ (i : Nat) (u : Value), (bs.map Value.bool)[i]? = some u → w.cell? ⟨b, o + i, none⟩ = some u
theorem slB_of {H : Type} {enc : TypeId × Value → H} {P : Program} {w : World} {r : Reach} {base base' : Nat} {held : Bool} {t e : TypeId} {fuel : Nat} {v : Value} {x : DataW H × List MemPlace} (ht : P.underlying t = some (.slice e)) (he : P.underlying e = some .bool) (hc : P.cellsOf e = 1)
    (hv : Value.okWide P w r base t v) (h : DataW.trod enc P w base' (fun _ => true) held fuel t v.cells.toList = some x) : SlB w v := by
  rcases Go.Deep.open_bools ht he hc h with ⟨hcs, _⟩ | ⟨a, len, cap, B, hcs, _, hl, hm, _, hcell⟩
  · left
    obtain ⟨p, l, c, rfl⟩ := Go.WideShapes.okWide_slice ht hv
    simp [Value.cells] at hcs
    obtain ⟨rfl, rfl, rfl⟩ := hcs
    rfl
  · right
    obtain ⟨p, l, c, rfl⟩ := Go.WideShapes.okWide_slice ht hv
    simp [Value.cells] at hcs
    obtain ⟨rfl, rfl, rfl⟩ := hcs
    have hok : w.has P r base a e c := by
      have := hv
      simp only [Value.okWide, ht, Cell.okWide, Cell.ok] at this
      exact this.2.2
    obtain ⟨_, hspot, row, cells, hsh, _⟩ := hok
    have hblk : a.block < w.heap.size := by
      rcases Nat.lt_or_ge a.block w.heap.size with h | h
      · exact h
      · simp [World.shape?, Array.getElem?_eq_none h] at hsh
    obtain ⟨b, o, sp⟩ := a
    simp only at hspot hblk
    subst hspot
    refine ⟨b, o, l, c, (List.range c).map B, rfl, hl, by simpa only [maxLen] using hm, hblk, by simp, fun i u hu => ?_⟩
    have hi := (List.getElem?_eq_some_iff.1 hu).1
    simp at hi
    have := hcell i hi
    rw [add_ne rfl] at this
    rw [this]
    simp [hi] at hu
    rw [← hu]
/-- Its cells. -/
def boolS (bs : List Bool) : List Seg := bs.map fun b => .one (.cb b)
theorem boolS_ok : ∀ bs : List Bool, rngs (boolS bs) ∧ (∀ n, bnds n (boolS bs) = true) ∧ ∀ σ, dens σ (boolS bs) = bs.map Value.bool
  | [] => ⟨trivial, fun _ => rfl, fun _ => rfl⟩
  | b :: bs => by
    obtain ⟨h1, h2, h3⟩ := boolS_ok bs
    exact ⟨⟨trivial, h1⟩, fun n => h2 n, fun σ => by show _ :: dens σ (boolS bs) = _; rw [h3]; rfl⟩
theorem ro_of_slB {w : World} {σ : Sg} {j b o : Nat} {bs : List Bool} (hσ : σ j = (b, o)) (hb : b < w.heap.size) (hcell : ∀ (i : Nat) (u : Value), (bs.map Value.bool)[i]? = some u → w.cell? ⟨b, o + i, none⟩ = some u) : (Blk.ro (boolS bs)).rep σ w.heap.size w j := by
  refine ⟨by rw [hσ]; exact hb, fun i v hv => ?_⟩
  simp only [Sg.at, hσ]
  rw [(boolS_ok bs).2.2] at hv
  exact hcell i v hv
theorem segAt_bools {K : C → Prop} : ∀ {bs : List Bool} {i : Nat}, i < bs.length → K (.cb (bs.getD i false)) → segAt (boolS bs) i K
  | [], i, h, _ => absurd h (Nat.not_lt_zero i)
  | b :: bs, 0, _, hk => hk
  | b :: bs, i + 1, h, hk => segAt_bools (bs := bs) (i := i) (by simpa using h) hk
theorem kLoad_bools {P : Program} {T : TypeId} {bs : List Bool} {i : Nat} {b : Bool} {K : W → Prop} (hT : isAg (tyOf P T) = some false) (hi : i < bs.length) (hb : bs.getD i false = b) (hk : K (.c (.cb b))) : kLoad P T (boolS bs) 0 (some i) K := by
  have e : oneAt (boolS bs) 0 = true := by
    cases bs with
    | nil => exact absurd hi (Nat.not_lt_zero i)
    | cons => rfl
  unfold kLoad kLoad0
  simp only [e, hT, Nat.zero_add]
  exact segAt_bools hi (by rw [hb]; exact hk)

/-! ### rows that grow -/
def rowS (j : Nat) (xs : List Int) (v : V) (b : Blk) : Prop :=
  (xs = [] ∧ v = .w (.c .csn) ∧ b = .gone) ∨ (xs ≠ [] ∧ ∃ (c : Nat) (rest : List Int), xs.length ≤ c ∧ c ≤ 9223372036854775807 ∧ rest.length = c - xs.length ∧ v = .w (.c (.csl j 0 0 xs.length c)) ∧ b = .own 3 [.ints .i64 c (xs ++ rest)])
theorem rowS_next {j c m : Nat} {A rest : List Int} {v : Int} (hm : m = A.length) (h : m + 1 ≤ c) (hc : c ≤ 9223372036854775807) (hr : rest.length = c - (m + 1)) : rowS j (A ++ [v]) (.w (.c (.csl j 0 0 (m + 1) c))) (.own 3 [.ints .i64 c (A ++ [v] ++ rest)]) := by
  have e : (A ++ [v]).length = m + 1 := by simp [hm]
  exact .inr ⟨by simp, c, rest, by omega, hc, by omega, by rw [e], rfl⟩
theorem room_eq {A rest : List Int} {v : Int} {m : Nat} (hm : m = A.length) : List.take m (A ++ rest) ++ List.take 1 (List.drop 0 [v]) ++ List.drop (m + 1) (A ++ rest) = A ++ [v] ++ rest.drop 1 := by
  subst hm
  have e : List.drop (A.length + 1) (A ++ rest) = rest.drop 1 := by
    rw [List.drop_append, List.drop_of_length_le (show A.length ≤ A.length + 1 by omega), List.nil_append, show A.length + 1 - A.length = 1 by omega]
  rw [List.take_append_of_le_length (Nat.le_refl _), List.take_length, e]
  rfl
theorem grow_eq {A rest : List Int} {v : Int} {m : Nat} (hm : m = A.length) : List.take m (A ++ rest) ++ List.take 1 (List.drop 0 [v]) = A ++ [v] := by
  subst hm
  rw [List.take_append_of_le_length (Nat.le_refl _), List.take_length]
  rfl
theorem fresh_as {e : TypeId} {k : IntKind} {H : List Blk} {m : Nat} {ys zs : List Int} {K : C → List Blk → Prop} (hy : ys = zs) (h : ∀ (c : Nat) (R : List Int), m ≤ c → c ≤ 9223372036854775807 → R.length = c - m → lenH H 0 fun n => pushH H (.own e [.ints k c (zs ++ R)]) fun H' => K (.csl n 0 0 m c) H') : freshK e k H m ys K := by
  subst hy
  exact fun c h1 h2 => h c _ h1 h2 (List.length_replicate ..)
/-- Two blocks take the place of two. -/
def rhoS (p q a b j : Nat) : Nat := if j = p then a else if j = q then b else j
theorem rhoS_inj {p q a b n : Nat} (ha : a = p ∨ n ≤ a) (hb : b = q ∨ n ≤ b) (hab : a ≠ b) (hpq : p ≠ q) (hp : p < n) (hq : q < n) {i j : Nat} (hi : i < n) (hj : j < n) (h : rhoS p q a b i = rhoS p q a b j) : i = j := by
  unfold rhoS at h
  split at h <;> split at h <;> (try split at h) <;> (try split at h) <;> omega
theorem rhoS_low {p q a b lo j : Nat} (hp : lo ≤ p) (hq : lo ≤ q) (h : j < lo) : rhoS p q a b j = j := by
  unfold rhoS; rw [if_neg (by omega), if_neg (by omega)]

/-! ### the plain law -/
theorem best_same {c c' : List Int} {s s' : Fd} {n : Nat} (h : ∀ i j, i < n → j < n → (topF c' s' i * botF s' j > topF c' s' j * botF s' i ↔ topF c s i * botF s j > topF c s j * botF s i)) : ∀ i, i ≤ n → bestF c' s' i = bestF c s i
  | 0, _ => rfl
  | i + 1, hi => by
    have ih := best_same h i (by omega)
    have hb : bestF c s i < n := by
      rcases Nat.eq_zero_or_pos i with h0 | h0
      · subst h0; show 0 < n; omega
      · have := bestF_lt c s i h0; omega
    show (if topF c' s' i * botF s' (bestF c' s' i) > topF c' s' (bestF c' s' i) * botF s' i then i else bestF c' s' i) = if topF c s i * botF s (bestF c s i) > topF c s (bestF c s i) * botF s i then i else bestF c s i
    rw [ih]
    by_cases hh : topF c s i * botF s (bestF c s i) > topF c s (bestF c s i) * botF s i
    · rw [if_pos hh, if_pos ((h i _ (by omega) hb).2 hh)]
    · rw [if_neg hh, if_neg fun g => hh ((h i _ (by omega) hb).1 g)]
theorem run_same {c c' : List Int} {n : Nat} (hn : 0 < n) (h : ∀ i, i < n → absI (c'.getD i 0) = absI (c.getD i 0)) : ∀ k, fdRun c' n k = fdRun c n k
  | 0 => rfl
  | k + 1 => by
    have ih := run_same hn h k
    have eb : bestF c' (fdRun c n k) n = bestF c (fdRun c n k) n := best_same (fun i j hi hj => by unfold topF; rw [h i hi, h j hj]) n (Nat.le_refl n)
    show stepF c' n (fdRun c' n k) = stepF c n (fdRun c n k)
    rw [ih]
    unfold stepF
    rw [eb, h _ (bestF_lt _ _ _ hn)]
theorem run_twice {c c' : List Int} {n : Nat} (hn : 0 < n) (h : ∀ i, i < n → absI (c'.getD i 0) = 2 * absI (c.getD i 0)) : ∀ k, fdRun c' n k = ⟨2 * (fdRun c n k).a, (fdRun c n k).q, (fdRun c n k).y⟩
  | 0 => rfl
  | k + 1 => by
    have ih := run_twice hn h k
    generalize hs : fdRun c n k = s at ih
    have et : ∀ i, i < n → topF c' ⟨2 * s.a, s.q, s.y⟩ i = 4 * topF c s i := fun i hi => by
      show (2 * s.a + absI (c'.getD i 0)) * (2 * s.a + absI (c'.getD i 0)) = 4 * ((s.a + absI (c.getD i 0)) * (s.a + absI (c.getD i 0)))
      rw [h i hi, ← Int.mul_add, Int.mul_assoc, Int.mul_left_comm (s.a + absI (c.getD i 0)) 2, ← Int.mul_assoc]
      rfl
    have eb : bestF c' ⟨2 * s.a, s.q, s.y⟩ n = bestF c s n := best_same (fun i j hi hj => by
      rw [et i hi, et j hj]
      show 4 * topF c s i * botF s j > 4 * topF c s j * botF s i ↔ _
      rw [Int.mul_assoc, Int.mul_assoc]
      omega) n (Nat.le_refl n)
    show stepF c' n (fdRun c' n k) = (⟨2 * (stepF c n (fdRun c n k)).a, (stepF c n (fdRun c n k)).q, (stepF c n (fdRun c n k)).y⟩ : Fd)
    rw [ih, hs]
    unfold stepF
    rw [eb, h _ (bestF_lt _ _ _ hn)]
    show (⟨2 * s.a + 2 * absI (c.getD (bestF c s n) 0), _, _⟩ : Fd) = ⟨2 * (s.a + absI (c.getD (bestF c s n) 0)), _, _⟩
    rw [Int.mul_add]
    rfl
noncomputable def twoL (X : List Int) (i : Nat) : List Int := (List.range i).map fun j => (2 : Int) * X.getD j 0
noncomputable def othL (X : List Int) (t : Nat → Bool) (i : Nat) : List Int := (List.range i).map fun j => if t j then 0 - X.getD j 0 else X.getD j 0
theorem twoL_len (X : List Int) (i : Nat) : (twoL X i).length = i := by simp [twoL]
theorem othL_len (X : List Int) (t : Nat → Bool) (i : Nat) : (othL X t i).length = i := by simp [othL]
theorem twoL_next (X : List Int) (i : Nat) : twoL X (i + 1) = twoL X i ++ [(2 : Int) * X.getD i 0] := by simp [twoL, List.range_succ]
theorem othL_next (X : List Int) (t : Nat → Bool) (i : Nat) : othL X t (i + 1) = othL X t i ++ [if t i then 0 - X.getD i 0 else X.getD i 0] := by simp [othL, List.range_succ]
/-- What the three have. -/
theorem scales {X : List Int} {t : Nat → Bool} {n k : Nat} (hn : 0 < n) (hk : k ≤ 8) (hc : ∀ i, -1048576 ≤ X.getD i 0 ∧ X.getD i 0 ≤ 1048576) :
    ∀ i, i < n → (findZ (twoL X n) n k).getD i 0 = (findZ X n k).getD i 0 ∧ absI ((findZ (othL X t n) n k).getD i 0) = absI ((findZ X n k).getD i 0) ∧ (-8 ≤ (findZ X n k).getD i 0 ∧ (findZ X n k).getD i 0 ≤ 8) ∧ -8 ≤ (findZ (othL X t n) n k).getD i 0 ∧ (findZ (othL X t n) n k).getD i 0 ≤ 8 := fun i hi => by
  have a2 : ∀ j, j < n → (twoL X n).getD j 0 = 2 * X.getD j 0 := fun j hj => getD_range hj
  have a3 : ∀ j, j < n → (othL X t n).getD j 0 = if t j then 0 - X.getD j 0 else X.getD j 0 := fun j hj => getD_range hj
  have r2 := run_twice (c := X) (c' := twoL X n) hn (fun j hj => by rw [a2 j hj]; unfold absI; omega) k
  have r3 := run_same (c := X) (c' := othL X t n) hn (fun j hj => by rw [a3 j hj]; unfold absI; split <;> omega) k
  have y := (fdRun_ok hn hc k hk).y i
  rw [findZ_at hi, findZ_at hi, findZ_at hi, r2, r3, a2 i hi, a3 i hi]
  generalize (fdRun X n k).y.getD i 0 = u at y
  generalize X.getD i 0 = x
  show (if 2 * x < 0 then 0 - u else u) = _ ∧ _
  refine ⟨?_, ?_, ?_, ?_⟩
  · split <;> split <;> omega
  · unfold absI; repeat' split
    all_goals omega
  · split <;> omega
  · split <;> split <;> omega
end Go.Proofs.Ytmkdamfdlkpjdaa
