/- Chapter vect: rows of vectors in blocks; the document's All, walked. -/
import Derived.Test.YtmkdamfdlkpjdaaVn
set_option linter.all false
namespace Go.Proofs.Ytmkdamfdlkpjdaa
open Go.RowKit (Below)
open Go.WideMaps
set_option maxRecDepth 100000
set_option maxHeartbeats 32000000

/-! ### rows in blocks -/
/-- c is a slice that reads y, in a block of its own. -/
def RowAt (ok : Nat → Prop) (H : List Blk) (c : C) (y : List Int) : Prop :=
  ∃ p zs, c = .csl p 0 0 y.length zs.length ∧ ok p ∧ zs.take y.length = y ∧ zs.length ≤ 9223372036854775807 ∧ H[p]? = some (.own 3 [.ints .i64 zs.length zs])
/-- c is a slice of slices that read L. -/
def RowsAt (ok : Nat → Prop) (H : List Blk) (c : C) (L : List (List Int)) : Prop :=
  (L = [] ∧ c = .csn) ∨ ∃ b cs, c = .csl b 0 0 L.length cs.length ∧ ok b ∧ L.length ≤ cs.length ∧ cs.length ≤ 9223372036854775807 ∧ H[b]? = some (.own 22 (ones cs)) ∧ ∀ (i : Nat) (y : List Int), L[i]? = some y → ∃ d, cs[i]? = some d ∧ RowAt (fun p => ok p ∧ p ≠ b) H d y
theorem RowAt.mono {ok ok' : Nat → Prop} {H H' : List Blk} {c : C} {y : List Int} (h : RowAt ok H c y) (hk : ∀ p b, ok p → H[p]? = some b → ok' p ∧ H'[p]? = some b) : RowAt ok' H' c y := by
  obtain ⟨p, zs, h1, h2, h3, h4, h5⟩ := h
  obtain ⟨g1, g2⟩ := hk p _ h2 h5
  exact ⟨p, zs, h1, g1, h3, h4, g2⟩
theorem RowsAt.mono {ok ok' : Nat → Prop} {H H' : List Blk} {c : C} {L : List (List Int)} (h : RowsAt ok H c L) (hk : ∀ p b, ok p → H[p]? = some b → ok' p ∧ H'[p]? = some b) : RowsAt ok' H' c L := by
  rcases h with h | ⟨b, cs, h1, h2, h3, h4, h5, h6⟩
  · exact .inl h
  · obtain ⟨g1, g2⟩ := hk b _ h2 h5
    refine .inr ⟨b, cs, h1, g1, h3, h4, g2, fun i y hi => ?_⟩
    obtain ⟨d, q1, q2⟩ := h6 i y hi
    exact ⟨d, q1, q2.mono fun p b' hp hb => ⟨⟨(hk p b' hp.1 hb).1, hp.2⟩, (hk p b' hp.1 hb).2⟩⟩
theorem up_get {H N : List Blk} {p : Nat} {b : Blk} (h : H[p]? = some b) : (H ++ N)[p]? = some b := by
  rw [List.getElem?_append_left (List.getElem?_eq_some_iff.1 h).1]; exact h
theorem up_top (H : List Blk) (b : Blk) : (H ++ [b])[H.length]? = some b := by simp
theorem pushH_as {H : List Blk} {b b' : Blk} {K : List Blk → Prop} (h : b = b') (k : K (H ++ [b'])) : pushH H b K := by subst h; exact pushH_at k
theorem size3 : (Try.prog.types[3]).size = 1 := by kernel_rfl
theorem load_ones {P : Program} {T : TypeId} {cs : List C} {d : C} {j i : Nat} {K : W → Prop} (ht : isAg (tyOf P T) = some false) (hj : j = i) (hd : cs[i]? = some d) (hK : K (.c d)) : kLoad P T (ones cs) 0 (some j) K := by
  subst hj
  match cs, hd with
  | c :: cs, hd =>
    show kLoad0 P T (ones (c :: cs)) (0 + j) none K
    unfold kLoad0
    rw [ht, Nat.zero_add]
    exact segAt_ones hd hK
theorem ints_rng {c : Nat} {x : Int} {y : List Int} (hl : (x :: y ++ List.replicate (c - (1 + y.length)) (0 : Int)).length = c) (hx : InK .i64 x) (hy : ∀ z ∈ y, InK .i64 z) : (Blk.own 3 [Seg.ints IntKind.i64 c (x :: y ++ List.replicate (c - (1 + y.length)) 0)]).rng := by
  refine ⟨⟨hl, fun z hz => ?_⟩, trivial⟩
  rcases List.mem_append.1 hz with hz | hz
  · rcases List.mem_cons.1 hz with rfl | hz
    · exact hx
    · exact hy z hz
  · rw [(List.mem_replicate.1 hz).2]; exact ⟨by decide, by decide⟩
theorem sizeS : (Try.prog.types[22]).size = 1 := by kernel_rfl
theorem bytesS : (Try.prog.types[22]).bytes = 24 := by kernel_rfl
theorem lenH_is {H : List Blk} {K : Nat → Prop} (h : K H.length) : lenH H 0 K := (lenH_iff _ _ _).2 (by rw [Nat.zero_add]; exact h)
/-- A first row. -/
theorem rows_new {ok : Nat → Prop} {H : List Blk} {d : C} {y : List Int} (h : RowAt ok H d y) {c : Nat} (h1 : 1 ≤ c) (h2 : c ≤ 9223372036854775807) {ok' : Nat → Prop} (ho : ∀ p, ok p → p < H.length → ok' p) (hb : ok' H.length) :
    RowsAt ok' (H ++ [.own 22 (ones ([d] ++ List.replicate (c - 1) .csn))]) (.csl H.length 0 0 1 c) [y] := by
  refine .inr ⟨H.length, [d] ++ List.replicate (c - 1) .csn, ?_, hb, by simp, by simp; omega, up_top _ _, fun i z hi => ?_⟩
  · congr 1; simp; omega
  · match i, hi with
    | 0, hi =>
      obtain rfl : y = z := Option.some.inj hi
      exact ⟨d, rfl, h.mono fun p b hp hb => ⟨⟨ho p hp (List.getElem?_eq_some_iff.1 hb).1, Nat.ne_of_lt (List.getElem?_eq_some_iff.1 hb).1⟩, up_get hb⟩⟩
    | i + 1, hi => cases hi
/-- A row more, in a new buffer. -/
theorem rows_grow {ok ok2 ok' : Nat → Prop} {H : List Blk} {b : Nat} {cs : List C} {L : List (List Int)} (hle : L.length ≤ cs.length) (h : ∀ (i : Nat) (y : List Int), L[i]? = some y → ∃ d, cs[i]? = some d ∧ RowAt ok H d y) {d : C} {y : List Int} (hd : RowAt ok2 H d y)
    {c : Nat} (h1 : L.length + 1 ≤ c) (h2 : c ≤ 9223372036854775807) (ho : ∀ p, ok p → ok' p) (ho2 : ∀ p, ok2 p → ok' p) (hb : ok' H.length) :
    RowsAt ok' (H ++ [.own 22 (ones (cs.take L.length ++ [d] ++ List.replicate (c - (L.length + 1)) .csn))]) (.csl H.length 0 0 (L.length + 1) c) (L ++ [y]) := by
  have hl : (cs.take L.length ++ [d] ++ List.replicate (c - (L.length + 1)) C.csn).length = c := by simp; omega
  refine .inr ⟨H.length, cs.take L.length ++ [d] ++ List.replicate (c - (L.length + 1)) .csn, ?_, hb, by rw [hl]; simp; omega, by rw [hl]; exact h2, up_top _ _, fun i z hi => ?_⟩
  · rw [hl]; congr 1; simp
  · have lt : ∀ {p : Nat} {b : Blk}, H[p]? = some b → p < H.length := fun h => (List.getElem?_eq_some_iff.1 h).1
    rcases Nat.lt_or_ge i L.length with hlt | hge
    · rw [List.getElem?_append_left hlt] at hi
      obtain ⟨e, q1, q2⟩ := h i z hi
      refine ⟨e, ?_, q2.mono fun p b hp hb => ⟨⟨ho p hp, Nat.ne_of_lt (lt hb)⟩, up_get hb⟩⟩
      rw [List.append_assoc, List.getElem?_append_left (by simp; omega), List.getElem?_take_of_lt hlt]; exact q1
    · rw [List.getElem?_append_right hge] at hi
      have hi' := (List.getElem?_eq_some_iff.1 hi).1
      simp at hi'
      obtain rfl : i = L.length := by omega
      simp at hi
      subst hi
      refine ⟨d, ?_, hd.mono fun p b hp hb => ⟨⟨ho2 p hp, Nat.ne_of_lt (lt hb)⟩, up_get hb⟩⟩
      rw [List.append_assoc, List.getElem?_append_right (by simp; omega)]
      simp [Nat.min_eq_left hle]
/-- A row more, in the same buffer. -/
theorem rows_room {ok ok2 ok' : Nat → Prop} {H : List Blk} {b : Nat} {cs : List C} {L : List (List Int)} (hbH : b < H.length) (h : ∀ (i : Nat) (y : List Int), L[i]? = some y → ∃ d, cs[i]? = some d ∧ RowAt (fun p => ok p ∧ p ≠ b) H d y) {d : C} {y : List Int} (hd : RowAt (fun p => ok2 p ∧ p ≠ b) H d y)
    (h1 : L.length + 1 ≤ cs.length) (h2 : cs.length ≤ 9223372036854775807) (ho : ∀ p, ok p → ok' p) (ho2 : ∀ p, ok2 p → ok' p) (hb : ok' b) :
    RowsAt ok' (H.set b (.own 22 (ones (cs.take L.length ++ [d] ++ cs.drop (L.length + 1))))) (.csl b 0 0 (L.length + 1) cs.length) (L ++ [y]) := by
  have hl : (cs.take L.length ++ [d] ++ cs.drop (L.length + 1)).length = cs.length := by simp; omega
  have keep : ∀ (p : Nat) (c : Blk), p ≠ b → H[p]? = some c → (H.set b (.own 22 (ones (cs.take L.length ++ [d] ++ cs.drop (L.length + 1)))))[p]? = some c := fun p c hp hc => by
    rw [List.getElem?_set_ne (Ne.symm hp)]; exact hc
  refine .inr ⟨b, cs.take L.length ++ [d] ++ cs.drop (L.length + 1), ?_, hb, by rw [hl]; simp; omega, by rw [hl]; exact h2, List.getElem?_set_self hbH, fun i z hi => ?_⟩
  · rw [hl]; congr 1; simp
  · rcases Nat.lt_or_ge i L.length with hlt | hge
    · rw [List.getElem?_append_left hlt] at hi
      obtain ⟨e, q1, q2⟩ := h i z hi
      refine ⟨e, ?_, q2.mono fun p b hp hb => ⟨⟨ho p hp.1, hp.2⟩, keep p b hp.2 hb⟩⟩
      rw [List.append_assoc, List.getElem?_append_left (by simp; omega), List.getElem?_take_of_lt hlt]; exact q1
    · rw [List.getElem?_append_right hge] at hi
      have hi' := (List.getElem?_eq_some_iff.1 hi).1
      simp at hi'
      obtain rfl : i = L.length := by omega
      simp at hi
      subst hi
      refine ⟨d, ?_, hd.mono fun p b hp hb => ⟨⟨ho2 p hp.1, hp.2⟩, keep p b hp.2 hb⟩⟩
      rw [List.append_assoc, List.getElem?_append_right (by simp; omega)]
      simp [Nat.min_eq_left (show L.length ≤ cs.length by omega)]

/-! ### what a round of All keeps -/
def noB (out : C) (p : Nat) : Prop := ∀ b o i l q, out = .csl b o i l q → p ≠ b
structure InJ (T0 T : List Blk) (out c : C) (P R : List (List Int)) : Prop where
  hok : HOk T
  ext : ∃ N, T = T0 ++ N
  rows : RowsAt (fun p => T0.length ≤ p) T out P
  rst : RowsAt (fun p => noB out p) T c R
theorem RowAt.cell {ok : Nat → Prop} {H : List Blk} {d : C} {y : List Int} (h : RowAt ok H d y) : d.rng ∧ d.bnd H.length = true := by
  obtain ⟨p, zs, rfl, h2, h3, h4, h5⟩ := h
  refine ⟨⟨?_, h4⟩, ?_⟩
  · have := congrArg List.length h3
    simp at this; omega
  · simp [C.bnd, (List.getElem?_eq_some_iff.1 h5).1]
theorem RowsAt.cell {ok : Nat → Prop} {H : List Blk} {c : C} {L : List (List Int)} (h : RowsAt ok H c L) : c.bnd H.length = true := by
  rcases h with ⟨_, rfl⟩ | ⟨b, cs, rfl, h2, h3, h4, h5, _⟩
  · rfl
  · simp [C.bnd, (List.getElem?_eq_some_iff.1 h5).1]
theorem HOk.ones {H : List Blk} (ho : HOk H) {T : TypeId} {cs : List C} (h : ∀ c ∈ cs, c.rng ∧ c.bnd H.length = true) : HOk (H ++ [.own T (ones cs)]) :=
  ho.push (rngs_ones.2 fun c hc => (h c hc).1) (bnds_ones.2 fun c hc => (h c hc).2)
theorem bnd_mono {n m : Nat} (h : n ≤ m) {c : C} (hc : c.bnd n = true) : c.bnd m = true := by
  have := bnds_mono h [.one c] (by simp [bnds, Seg.bnd, hc])
  simpa [bnds, Seg.bnd] using this
theorem noB_top {n p : Nat} {b : Nat} (h : p < n) (hb : n ≤ b) {i j l q : Nat} : noB (.csl b i j l q) p := by
  intro b' o i' l' q' e
  cases e
  omega
theorem InJ.new {T0 T T1 : List Blk} {c : C} {P R : List (List Int)} (h : InJ T0 T .csn c P R) (he : ∃ N, T1 = T ++ N) (ho : HOk T1) {d : C} {y : List Int} (hd : RowAt (fun p => T.length ≤ p) T1 d y) {c' : Nat} (h1 : 1 ≤ c') (h2 : c' ≤ 9223372036854775807) :
    InJ T0 (T1 ++ [.own 22 [.one d]] ++ [.own 22 (ones ([d] ++ List.replicate (c' - 1) .csn))]) (.csl (T1 ++ [Blk.own 22 [.one d]]).length 0 0 1 c') c (P ++ [y]) R := by
  have hP : P = [] := by
    rcases h.rows with ⟨h, _⟩ | ⟨b, cs, h, _⟩
    · exact h
    · cases h
  subst hP
  obtain ⟨N0, eT⟩ := h.ext
  obtain ⟨N1, e1⟩ := he
  have hT0 : T0.length ≤ T.length := by rw [eT]; simp
  have hT1 : T.length ≤ T1.length := by rw [e1]; simp
  have hc := hd.cell
  have ho2 : HOk (T1 ++ [.own 22 (ones [d])]) := ho.ones fun z hz => by rw [List.mem_singleton.1 hz]; exact hc
  have hd2 : RowAt (fun p => T.length ≤ p) (T1 ++ [.own 22 (ones [d])]) d y := hd.mono fun p b hp hb => ⟨hp, up_get hb⟩
  refine ⟨ho2.ones fun z hz => ?_, ⟨N0 ++ N1 ++ [.own 22 [.one d]] ++ [.own 22 (ones ([d] ++ List.replicate (c' - 1) .csn))], by rw [e1, eT]; simp⟩, ?_, h.rst.mono fun p b hp hb => ⟨noB_top (List.getElem?_eq_some_iff.1 hb).1 (by simp; omega), ?_⟩⟩
  · rcases List.mem_append.1 hz with hz | hz
    · rw [List.mem_singleton.1 hz]; exact ⟨hc.1, bnd_mono (by simp) hc.2⟩
    · rw [(List.mem_replicate.1 hz).2]; exact ⟨trivial, rfl⟩
  · exact rows_new (ok' := fun p => T0.length ≤ p) hd2 h1 h2 (fun p hp _ => Nat.le_trans hT0 hp) (by simp; omega)
  · refine up_get (up_get ?_)
    rw [e1]; exact up_get hb
theorem InJ.grow {T0 T T1 : List Blk} {c : C} {P R : List (List Int)} {b : Nat} {cs : List C} (h : InJ T0 T (.csl b 0 0 P.length cs.length) c P R) (hle : P.length ≤ cs.length) (hb : T[b]? = some (.own 22 (ones cs))) (hrow : ∀ (i : Nat) (y : List Int), P[i]? = some y → ∃ d, cs[i]? = some d ∧ RowAt (fun p => T0.length ≤ p ∧ p ≠ b) T d y) (he : ∃ N, T1 = T ++ N) (ho : HOk T1) {d : C} {y : List Int} (hd : RowAt (fun p => T.length ≤ p) T1 d y) {c' : Nat} (h1 : P.length + 1 ≤ c') (h2 : c' ≤ 9223372036854775807) :
    InJ T0 (T1 ++ [.own 22 [.one d]] ++ [.own 22 (ones (cs.take P.length ++ [d] ++ List.replicate (c' - (P.length + 1)) .csn))]) (.csl (T1 ++ [Blk.own 22 [.one d]]).length 0 0 (P.length + 1) c') c (P ++ [y]) R := by
  obtain ⟨N0, eT⟩ := h.ext
  obtain ⟨N1, e1⟩ := he
  have hT0 : T0.length ≤ T.length := by rw [eT]; simp
  have hT1 : T.length ≤ T1.length := by rw [e1]; simp
  have hc := hd.cell
  have ho2 : HOk (T1 ++ [.own 22 (ones [d])]) := ho.ones fun z hz => by rw [List.mem_singleton.1 hz]; exact hc
  have hd2 : RowAt (fun p => T.length ≤ p) (T1 ++ [.own 22 (ones [d])]) d y := hd.mono fun p b hp hb => ⟨hp, up_get hb⟩
  have up : ∀ (p : Nat) (b : Blk), T[p]? = some b → (T1 ++ [Blk.own 22 (ones [d])])[p]? = some b := fun p b hb => by
    refine up_get ?_
    rw [e1]; exact up_get hb
  have hrow2 : ∀ (i : Nat) (y : List Int), P[i]? = some y → ∃ e, cs[i]? = some e ∧ RowAt (fun p => T0.length ≤ p) (T1 ++ [.own 22 (ones [d])]) e y := fun i z hi => by
    obtain ⟨e, q1, q2⟩ := hrow i z hi
    exact ⟨e, q1, q2.mono fun p b' hp hb' => ⟨hp.1, up p b' hb'⟩⟩
  have hr1 := rngs_ones.1 (h.hok.rng _ (List.mem_of_getElem? hb))
  have hb1 := bnds_ones.1 (h.hok.bnd _ (List.mem_of_getElem? hb))
  refine ⟨ho2.ones fun z hz => ?_, ⟨N0 ++ N1 ++ [.own 22 [.one d]] ++ [.own 22 (ones (cs.take P.length ++ [d] ++ List.replicate (c' - (P.length + 1)) .csn))], by rw [e1, eT]; simp⟩, ?_, h.rst.mono fun p b hp hb => ⟨noB_top (List.getElem?_eq_some_iff.1 hb).1 (by simp; omega), up_get (up p b hb)⟩⟩
  · rcases List.mem_append.1 hz with hz | hz
    · rcases List.mem_append.1 hz with hz | hz
      · exact ⟨hr1 z (List.mem_of_mem_take hz), bnd_mono (by simp; omega) (hb1 z (List.mem_of_mem_take hz))⟩
      · rw [List.mem_singleton.1 hz]; exact ⟨hc.1, bnd_mono (by simp) hc.2⟩
    · rw [(List.mem_replicate.1 hz).2]; exact ⟨trivial, rfl⟩
  · exact rows_grow (b := b) (ok' := fun p => T0.length ≤ p) hle hrow2 hd2 h1 h2 (fun p hp => hp) (fun p hp => Nat.le_trans hT0 hp) (by simp; omega)
theorem InJ.room {T0 T T1 : List Blk} {c : C} {P R : List (List Int)} {b : Nat} {cs : List C} (h : InJ T0 T (.csl b 0 0 P.length cs.length) c P R) (hb0 : T0.length ≤ b) (h2 : cs.length ≤ 9223372036854775807) (hb : T[b]? = some (.own 22 (ones cs))) (hrow : ∀ (i : Nat) (y : List Int), P[i]? = some y → ∃ d, cs[i]? = some d ∧ RowAt (fun p => T0.length ≤ p ∧ p ≠ b) T d y) (he : ∃ N, T1 = T ++ N) (ho : HOk T1) {d : C} {y : List Int} (hd : RowAt (fun p => T.length ≤ p) T1 d y) (h1 : P.length + 1 ≤ cs.length) :
    InJ T0 ((T1 ++ [Blk.own 22 [.one d]]).set b (.own 22 (ones (cs.take P.length ++ [d] ++ cs.drop (P.length + 1))))) (.csl b 0 0 (P.length + 1) cs.length) c (P ++ [y]) R := by
  obtain ⟨N0, eT⟩ := h.ext
  obtain ⟨N1, e1⟩ := he
  have hT0 : T0.length ≤ T.length := by rw [eT]; simp
  have hT1 : T.length ≤ T1.length := by rw [e1]; simp
  have hbT := (List.getElem?_eq_some_iff.1 hb).1
  have hc := hd.cell
  have ho2 : HOk (T1 ++ [.own 22 (ones [d])]) := ho.ones fun z hz => by rw [List.mem_singleton.1 hz]; exact hc
  have hd2 : RowAt (fun p => T0.length ≤ p ∧ p ≠ b) (T1 ++ [.own 22 (ones [d])]) d y := hd.mono fun p b' hp hb' => ⟨⟨Nat.le_trans hT0 hp, by omega⟩, up_get hb'⟩
  have up : ∀ (p : Nat) (b : Blk), T[p]? = some b → (T1 ++ [Blk.own 22 (ones [d])])[p]? = some b := fun p b hb => by
    refine up_get ?_
    rw [e1]; exact up_get hb
  have hrow2 : ∀ (i : Nat) (y : List Int), P[i]? = some y → ∃ e, cs[i]? = some e ∧ RowAt (fun p => T0.length ≤ p ∧ p ≠ b) (T1 ++ [.own 22 (ones [d])]) e y := fun i z hi => by
    obtain ⟨e, q1, q2⟩ := hrow i z hi
    exact ⟨e, q1, q2.mono fun p b' hp hb' => ⟨hp, up p b' hb'⟩⟩
  have hr1 := rngs_ones.1 (h.hok.rng _ (List.mem_of_getElem? hb))
  have hb1 := bnds_ones.1 (h.hok.bnd _ (List.mem_of_getElem? hb))
  have hall : ∀ z ∈ cs.take P.length ++ [d] ++ cs.drop (P.length + 1), z.rng ∧ z.bnd (T1 ++ [Blk.own 22 (ones [d])]).length = true := fun z hz => by
    rcases List.mem_append.1 hz with hz | hz
    · rcases List.mem_append.1 hz with hz | hz
      · exact ⟨hr1 z (List.mem_of_mem_take hz), bnd_mono (by simp; omega) (hb1 z (List.mem_of_mem_take hz))⟩
      · rw [List.mem_singleton.1 hz]; exact ⟨hc.1, bnd_mono (by simp) hc.2⟩
    · exact ⟨hr1 z (List.mem_of_mem_drop hz), bnd_mono (by simp; omega) (hb1 z (List.mem_of_mem_drop hz))⟩
  refine ⟨HOk.set ho2 (c := .own 22 (ones (cs.take P.length ++ [d] ++ cs.drop (P.length + 1)))) (rngs_ones.2 fun z hz => (hall z hz).1) (bnds_ones.2 fun z hz => (hall z hz).2), ⟨(N0 ++ N1 ++ [Blk.own 22 [.one d]]).set (b - T0.length) (.own 22 (ones (cs.take P.length ++ [d] ++ cs.drop (P.length + 1)))), ?_⟩, ?_, h.rst.mono fun p b' hp hb' => ⟨fun b2 o i l q e => by cases e; exact hp _ _ _ _ _ rfl, ?_⟩⟩
  · rw [e1, eT, List.append_assoc, List.append_assoc, List.set_append_right _ _ hb0]
    simp
  · exact rows_room (ok := fun p => T0.length ≤ p) (ok2 := fun p => T0.length ≤ p) (ok' := fun p => T0.length ≤ p) (by simp; omega) hrow2 hd2 h1 h2 (fun p hp => hp) (fun p hp => hp) hb0
  · rw [List.getElem?_set_ne (Ne.symm (hp b _ _ _ _ rfl))]
    exact up p b' hb'

/-! ### a walk over any blocks is a contract -/
theorem any_lift {F : Fns} (hF : FnsOk Try.prog F) {n : Nat} {f : FuncId} {fn : Func} (hf : Try.prog.funcs[f]? = some fn) {ws : List W} (hr : rngW ws) (hb : bndW 0 ws = true) {P : V → List Blk → Prop} {H : List Blk} (ho : HOk H)
    (h : walk F n fn ws H P) {K : V → List Blk → Prop} (hK : ∀ x H', P x H' → K x H') (G : Glo) (σ : Sg) (base : Nat) (w₀ w : World) (hw : Rep G σ base w₀ w H) :
    Calls Try.prog f (ws.map (W.den σ)).toArray w (LeftG G σ base w₀ H.length K) := by
  have hw0 : Rep E0.G σ base w₀ w H := ⟨hw.below, hw.size, hw.blk, hw.sep, fun g ss hg => by cases hg⟩
  refine (xfun_spec E0_ok (calF_ok E0_ok hF (fun cal hc => drwA_ok E0_ok hF mixed cal hc) n) (drwA_ok E0_ok hF mixed _ (calF_ok E0_ok hF (fun cal hc => drwA_ok E0_ok hF mixed cal hc) n)) hf h hr (bndW_mono (Nat.zero_le _) ws hb) ho σ base w₀ w hw0).mono ?_
  rintro e w' ⟨τ, x, H', v, rfl, h1, h2, h3, h4, h5, h6, h7⟩
  refine ⟨τ, x, H', v, rfl, h1, hK x H' h2, h3, ⟨h4.below, h4.size, h4.blk, h4.sep, fun g ss hg => ?_⟩, h5, h6, h7⟩
  obtain ⟨g1, g2, g3⟩ := hw.glo g ss hg
  refine ⟨g1, g2, fun i u hu => ?_⟩
  have hu' : (dens σ ss)[i]? = some u := by
    rw [dens_agree (n := 0) (τ := τ) (fun j hj => absurd hj (Nat.not_lt_zero j)) ss g2]; exact hu
  have := g3 i u hu'
  rw [cell_eq_of_block (w := w) (w' := w')]
  · exact this
  · show w'.heap[g]? = w.heap[g]?
    rw [h4.below.block g g1, hw.below.block g g1]

/-! ### All -/
theorem loop_at3 {body : List V → List Blk → XQ → Prop} {lo : Nat} {fr : List V} {H : List Blk} {Q : XQ} {α β γ : Type} (ds : List Nat) (J : Nat → α → β → γ → Prop) (sel : α → β → γ → List (Nat × V)) (Hs : α → β → γ → List Blk) (m₀ : Nat) (a₀ : α) (b₀ : β) (c₀ : γ) (h₀ : J m₀ a₀ b₀ c₀)
    (start : Next' ds lo fr (sel a₀ b₀ c₀) (Hs a₀ b₀ c₀) fr H)
    (round : ∀ m a b c, J m a b c → havK ds 0 fr fun f₁ => setLK (sel a b c) f₁ fun f₂ => body f₂ (Hs a b c) fun ex fr' H' => match ex with
      | .normal => ∃ m' s', m' < m ∧ J m' (Prod.fst s') (Prod.fst (Prod.snd s')) (Prod.snd (Prod.snd s')) ∧ Next' ds lo fr (sel (Prod.fst s') (Prod.fst (Prod.snd s')) (Prod.snd (Prod.snd s'))) (Hs (Prod.fst s') (Prod.fst (Prod.snd s')) (Prod.snd (Prod.snd s'))) fr' H'
      | .exit id => Q (.exit id) fr' H'
      | .ret => Q .ret fr' H') : XLoop body lo fr H Q :=
  loop_at ds (fun m s => J m s.1 s.2.1 s.2.2) (fun s => sel s.1 s.2.1 s.2.2) (fun s => Hs s.1 s.2.1 s.2.2) m₀ (a₀, b₀, c₀) h₀ start fun m s h => round m s.1 s.2.1 s.2.2 h
def hAll (M : Nat) : HCt := fun ws H K => match ws with
  | [.c (.ci .i64 n), .c (.ci .i64 k)] => ((0 ≤ n ∧ n ≤ M ∧ n ≤ 8) ∧ 0 ≤ k ∧ k ≤ 8) ∧ ∀ (c : C) (N : List Blk), HOk (H ++ N) → RowsAt (fun p => H.length ≤ p) (H ++ N) c (allV n.toNat k) → K (.w (.c c)) (H ++ N)
  | _ => False
def allP (T : List Blk) (L : List (List Int)) (x : V) (H' : List Blk) : Prop := ∃ c N, x = .w (.c c) ∧ H' = T ++ N ∧ HOk (T ++ N) ∧ RowsAt (fun p => T.length ≤ p) (T ++ N) c L
theorem base_rows (T : List Blk) (hT : HOk T) : ∃ c N, V.w (W.c (C.csl (T ++ [Blk.own 3 [Seg.ints IntKind.i64 0 []]]).length 0 0 1 1)) = V.w (W.c c) ∧ T ++ [Blk.own 3 [Seg.ints IntKind.i64 0 []]] ++ [Blk.own 22 (ones ([C.csl T.length 0 0 0 0] ++ List.replicate (1 - 1) .csn))] = T ++ N ∧ HOk (T ++ N) ∧ RowsAt (fun p => T.length ≤ p) (T ++ N) c [[]] := by
  have e : T ++ [Blk.own 3 [Seg.ints IntKind.i64 0 []]] ++ [Blk.own 22 (ones ([C.csl T.length 0 0 0 0] ++ List.replicate (1 - 1) .csn))] = T ++ [Blk.own 3 [Seg.ints IntKind.i64 0 []], Blk.own 22 (ones ([C.csl T.length 0 0 0 0] ++ List.replicate (1 - 1) .csn))] := by simp
  refine ⟨_, _, rfl, e, ?_, ?_⟩
  · rw [← e]
    refine HOk.ones (HOk.push hT (b := .own 3 [.ints .i64 0 []]) ⟨⟨rfl, fun y hy => by cases hy⟩, trivial⟩ rfl) fun c hc => ?_
    obtain rfl : c = C.csl T.length 0 0 0 0 := by simpa using hc
    exact ⟨⟨Nat.le_refl _, Nat.zero_le _⟩, by simp [C.bnd]⟩
  · rw [← e]
    exact rows_new (ok := fun p => T.length ≤ p) ⟨T.length, [], rfl, Nat.le_refl _, rfl, Nat.zero_le _, up_top _ _⟩ (Nat.le_refl _) (by decide) (fun p hp _ => hp) (by simp)
theorem all_base (k : Int) (hk : 0 ≤ k ∧ k ≤ 8) (T : List Blk) (hT : HOk T) : walk F0 0 Try.f25 [i64 0, i64 k] T (allP T (allV 0 k)) := by
  rcases Classical.em (k = 0) with h0 | h0
  · subst h0
    repeat' ((conv => whnf); first | (refine ask_true (by omega) ?_) | (refine ask_false (by omega) ?_) | (refine lenH_is ?_) | (refine pushH_at ?_) | fail)
    conv => whnf
    exact base_rows T hT
  · have e : allV 0 k = [] := by unfold allV; rw [if_neg h0]
    rw [e]
    repeat' ((conv => whnf); first | (refine ask_true (by omega) ?_) | (refine ask_false (by omega) ?_) | (refine lenH_is ?_) | fail)
    conv => whnf
    exact ⟨.csn, [], rfl, by simp, by simpa using hT, .inl ⟨rfl, rfl⟩⟩
noncomputable def FA (M : Nat) : Fns := (F0.plus 40 (ct1 (fun _ => True) szF)).over 25 (hAll M)
theorem szF_V {x : Int} (h : -8 ≤ x ∧ x ≤ 8) : szF x = szV x := by
  rw [szF_abs (by omega), szV_abs h]
  unfold absI
  split <;> omega
theorem all_step (M : Nat) (n k : Int) (hn : 1 ≤ n ∧ n ≤ (M + 1 : Nat) ∧ n ≤ 8) (hk : 0 ≤ k ∧ k ≤ 8) (T : List Blk) (hT : HOk T) : walk (FA M) 0 Try.f25 [i64 n, i64 k] T (allP T (allV n.toNat k)) := by
  obtain ⟨p, rfl⟩ : ∃ p : Nat, n = ((p + 1 : Nat) : Int) := ⟨(n - 1).toNat, by omega⟩
  rw [Int.toNat_natCast, allV_succ]
  repeat' ((conv => whnf); first | (refine ask_true (by omega) ?_) | (refine ask_false (by omega) ?_) | (refine lenH_is ?_) | (refine ask_wrap64 (by omega) (by omega) ?_) | fail)
  conv => whnf
  refine loop_at3 (5 :: 6 :: 7 :: 8 :: List.range' 17 28) (fun m (x : Int) (T' : List Blk) (out : C) => (-k ≤ x ∧ x ≤ k + 1) ∧ m = (k + 1 - x).toNat ∧ HOk T' ∧ (∃ N, T' = T ++ N) ∧ RowsAt (fun q => T.length ≤ q) T' out (preV p k (x + k).toNat)) (fun x _ out => [(5, .w (.c out)), (6, vi x)]) (fun _ T' _ => T') (2 * k + 1).toNat (0 - k) T .csn ⟨⟨by omega, by omega⟩, by omega, hT, ⟨[], by simp⟩, .inl ⟨by rw [show (0 - k + k).toNat = 0 by omega]; rfl, rfl⟩⟩ ?_ ?_
  · exact ⟨rfl, ⟨⟨Nat.le_of_ble_eq_true rfl, rfl⟩, ⟨Nat.le_of_ble_eq_true rfl, rfl⟩, trivial⟩, wkH_refl _, rfl, bndH_of hT.bnd, Nat.le_refl _⟩
  · rintro m x T' out ⟨hx, rfl, hT', hN, hout⟩
    rcases Int.lt_or_le k x with x2 | x2
    · have ex : x = k + 1 := by omega
      repeat' ((conv => whnf); first | (refine ask_false (by omega) ?_) | fail)
      conv => whnf
      obtain ⟨N, rfl⟩ := hN
      refine ⟨out, N, rfl, rfl, hT', ?_⟩
      rw [show (2 * k + 1).toNat = (x + k).toNat by omega]
      exact hout
    · obtain ⟨t, ht⟩ : ∃ t : Nat, x = (t : Int) - k := ⟨(x + k).toNat, by omega⟩
      have he : szF x = szV x := szF_V (by omega)
      have hl : 0 ≤ k - szV x ∧ k - szV x ≤ 8 := by rw [ht]; exact left_in hk (by omega)
      repeat' ((conv => whnf); first | (refine ask_true (by omega) ?_) | (refine ask_wrap64 (by omega) (by omega) ?_) | (refine And.intro trivial ?_) | fail)
      conv => whnf
      rw [he]
      refine And.intro ⟨by omega, hl⟩ (fun c N hok hrows => ?_)
      have ep : (((p + 1 : Nat) : Int) - 1).toNat = p := by omega
      rw [ep] at hrows
      have hQ : (x + k).toNat = t := by omega
      rw [hQ] at hout
      conv => whnf
      have hin : InJ T (T' ++ N) out c (preV p k t) (allV p (k - szV x)) := by
        obtain ⟨N', eN⟩ := hN
        have hTT : T.length ≤ T'.length := by rw [eN]; simp
        refine ⟨hok, ⟨N' ++ N, by rw [eN]; simp⟩, hout.mono fun q b hq hb => ⟨hq, up_get hb⟩, hrows.mono fun q b hq hb => ⟨?_, hb⟩⟩
        rcases hout with ⟨_, rfl⟩ | ⟨b', cs, rfl, h2, _, _, h5, _⟩
        · intro b o i l q e; cases e
        · intro b o i l q e
          cases e
          have hlt := (List.getElem?_eq_some_iff.1 h5).1
          have hq' : T'.length ≤ q := hq
          omega
      have lR : ((allV p (k - szV x)).length : Int) ≤ 4294967296 := by
        rw [allV_len p (by omega) _ hl]; exact (cN_in (by omega) hl.2).2
      have lP : ((preV p k t).length : Int) ≤ 4294967296 * 17 := by
        rw [preV_len (by omega) hk (allV_len p (by omega)) t (by omega)]
        have := (rnk_in (n := p) (k := k) (by omega) hk.2 t).2
        omega
      have eR : ∀ y ∈ allV p (k - szV x), y.length = p := fun y hy => (allV_of p _ hl y hy).1
      have eN : preV p k (t + 1) = preV p k t ++ (allV p (k - szV x)).map fun y => x :: y := by rw [preV_succ, ht]
      clear hrows hok hout
      generalize T' ++ N = S at hin ⊢
      generalize allV p (k - szV x) = R at *
      generalize preV p k t = P at *
      refine loop_at3 (5 :: 8 :: List.range' 29 16) (fun m (i : Int) (U : List Blk) (o : C) => (0 ≤ i ∧ i ≤ R.length) ∧ m = (R.length - i).toNat ∧ InJ T U o c (P ++ (R.take i.toNat).map fun y => x :: y) R) (fun i _ o => [(5, .w (.c o)), (8, vi i)]) (fun _ U _ => U) R.length 0 S out ⟨by omega, by omega, by simpa using hin⟩ ?_ ?_
      · have d1 := hin.rows.cell
        have d2 := hin.rst.cell
        have d3 : T.length ≤ S.length := by obtain ⟨N', e⟩ := hin.ext; rw [e]; simp
        refine ⟨rfl, ⟨⟨Nat.le_of_ble_eq_true rfl, rfl⟩, ⟨Nat.le_of_ble_eq_true rfl, rfl⟩, trivial⟩, wkH_refl _, ?_, bndH_of hin.hok.bnd, d3⟩
        repeat' (first | rfl | exact d1 | exact d2 | refine and_t ?_ ?_)
      · rintro m i U o ⟨hi, rfl, hJ⟩
        rcases Int.lt_or_le i R.length with i2 | i2
        · rcases hJ.rst with ⟨hR0, hc⟩ | ⟨b1, cs1, hc, ok1, le1, mx1, at1, rows1⟩
          · rw [hR0] at i2; simp at i2; omega
          · subst hc
            have em : mulN i.toNat (Try.prog.types[22]).size = i.toNat := mulN1 i.toNat
            obtain ⟨y, hy⟩ : ∃ y, R[i.toNat]? = some y := ⟨_, List.getElem?_eq_getElem (by omega)⟩
            obtain ⟨d, hd1, hd2⟩ := rows1 _ _ hy
            have hyl := eR y (List.mem_of_getElem? hy)
            obtain ⟨q, zs, hd, okq, hz, mz, atq⟩ := hd2
            subst hd
            have lz : y.length ≤ zs.length := by have := congrArg List.length hz; simp at this; omega
            have hx1 : (Blk.own 3 [Seg.ints IntKind.i64 1 [x]]).rng := ⟨⟨rfl, fun z hz => by rw [List.mem_singleton.1 hz]; simp only [InK, lowK, highK]; omega⟩, trivial⟩
            have hxin : InK .i64 x := by simp only [InK, lowK, highK]; omega
            have hyin : ∀ z ∈ y, InK .i64 z := fun z h => by
              have hr := hJ.hok.rng _ (List.mem_of_getElem? atq)
              rw [← hz] at h
              exact hr.1.2 z (List.mem_of_mem_take h)
            have eT : (P ++ (R.take (i + 1).toNat).map fun y => x :: y) = (P ++ (R.take i.toNat).map fun y => x :: y) ++ [x :: y] := by
              rw [show (i + 1).toNat = i.toNat + 1 by omega, List.take_succ, hy]; simp
-- ROUND
            rcases hJ.rows with ⟨hP0, ho⟩ | ⟨b2, cs2, ho, ok2, le2, mx2, at2, rows2⟩
            · skip
              subst ho
              repeat' ((conv => whnf); first | (refine ask_true (by omega) ?_) | (refine And.intro rfl ?_) | (refine ask_wrap64 (by omega) (by omega) ?_) | (refine lenH_is ?_) | (refine pushH_as (b' := .own 3 [.ints .i64 1 [x]]) (by rw [size3]; rfl) ?_) | (refine And.intro (by omega) ?_) | fail)
              conv => whnf
              refine hGet_at (up_get at1) ?_
              conv => whnf
              refine load_ones (by kernel_rfl) (by rw [Nat.zero_add]; exact em) hd1 ?_
              conv => whnf
              refine And.intro rfl ?_
              conv => whnf
              refine hGet_at (up_get atq) ?_
              conv => whnf
              refine And.intro (by omega) ?_
              conv => whnf
              refine hGet_at (up_top _ _) ?_
              conv => whnf
              refine ⟨⟨rfl, by omega, by rw [bytes3]; omega⟩, fun h0 => ?_, fun h0 c1 f1 f2 => ?_⟩
              · obtain rfl : y = [] := List.eq_nil_of_length_eq_zero (by omega)
                refine setH_as (H' := U ++ [Blk.own 3 [Seg.ints IntKind.i64 1 [x]]]) (by simp) ?_
                have hdd : ∃ dd, dd = C.csl U.length 0 0 (1 + ([] : List Int).length) 1 := ⟨_, rfl⟩
                obtain ⟨dd, edd⟩ := hdd
                rw [← edd]
                have he1 : ∃ N, (U ++ [Blk.own 3 [Seg.ints IntKind.i64 1 [x]]]) = U ++ N := ⟨_, rfl⟩
                have ho1 : HOk ((U ++ [Blk.own 3 [Seg.ints IntKind.i64 1 [x]]])) := HOk.push hJ.hok (b := Blk.own 3 [Seg.ints IntKind.i64 1 [x]]) hx1 rfl
                have hd1 : RowAt (fun p => U.length ≤ p) (U ++ [Blk.own 3 [Seg.ints IntKind.i64 1 [x]]]) dd [x] := ⟨U.length, [x], edd, Nat.le_refl _, rfl, (by decide : 1 ≤ 9223372036854775807), up_top _ _⟩
                repeat' ((conv => whnf); first | (refine ask_true (by omega) ?_) | (refine And.intro rfl ?_) | (refine ask_wrap64 (by omega) (by omega) ?_) | (refine lenH_is ?_) | (refine pushH_as (b' := .own 22 [.one dd]) rfl ?_) | fail)
                conv => whnf
                refine hGet_at (up_top _ _) ?_
                conv => whnf
                refine And.intro (by rw [bytesS]; decide) fun c2 g1 g2 => ?_
                have hK := InJ.new hJ he1 ho1 hd1 g1 g2
                repeat' ((conv => whnf); first | (refine ask_true (by omega) ?_) | (refine And.intro rfl ?_) | (refine ask_wrap64 (by omega) (by omega) ?_) | (refine lenH_is ?_) | (refine pushH_at ?_) | (refine setH_at ?_) | fail)
                conv => whnf
                have e1 := hK.rows.cell
                have e2 := hK.rst.cell
                have e3 : T.length ≤ ((U ++ [Blk.own 3 [Seg.ints IntKind.i64 1 [x]]]) ++ [Blk.own 22 [.one dd]] ++ [Blk.own 22 (ones ([dd] ++ List.replicate (c2 - 1) .csn))]).length := by obtain ⟨N', e⟩ := hK.ext; rw [e]; simp
                refine ⟨(R.length - (i + 1)).toNat, (i + 1, ((U ++ [Blk.own 3 [Seg.ints IntKind.i64 1 [x]]]) ++ [Blk.own 22 [.one dd]] ++ [Blk.own 22 (ones ([dd] ++ List.replicate (c2 - 1) .csn))]), (.csl ((U ++ [Blk.own 3 [Seg.ints IntKind.i64 1 [x]]]) ++ [Blk.own 22 [.one dd]]).length 0 0 1 c2)), by omega, ⟨⟨by show 0 ≤ i + 1; omega, by show i + 1 ≤ R.length; omega⟩, rfl, by show InJ T _ _ _ (P ++ ((R.take (i + 1).toNat).map fun y => x :: y)) R; rw [eT]; exact hK⟩, rfl, ⟨⟨Nat.le_of_ble_eq_true rfl, rfl⟩, ⟨Nat.le_of_ble_eq_true rfl, rfl⟩, trivial⟩, wkH_refl _, ?_, bndH_of hK.hok.bnd, e3⟩
                repeat' (first | rfl | exact e1 | exact e2 | refine and_t ?_ ?_)
              · have l2 : (x :: y ++ List.replicate (c1 - (1 + y.length)) (0 : Int)).length = c1 := by simp; omega
                refine lenH_is ?_
                refine pushH_as (b' := Blk.own 3 [Seg.ints IntKind.i64 c1 (x :: y ++ List.replicate (c1 - (1 + y.length)) 0)]) (by rw [List.drop_zero, hz]; rfl) ?_
                have hdd : ∃ dd, dd = C.csl (U ++ [Blk.own 3 [Seg.ints IntKind.i64 1 [x]]]).length 0 0 (1 + y.length) c1 := ⟨_, rfl⟩
                obtain ⟨dd, edd⟩ := hdd
                rw [← edd]
                have he1 : ∃ N, (U ++ [Blk.own 3 [Seg.ints IntKind.i64 1 [x]]] ++ [Blk.own 3 [Seg.ints IntKind.i64 c1 (x :: y ++ List.replicate (c1 - (1 + y.length)) 0)]]) = U ++ N := ⟨_, List.append_assoc _ _ _⟩
                have ho1 : HOk ((U ++ [Blk.own 3 [Seg.ints IntKind.i64 1 [x]]] ++ [Blk.own 3 [Seg.ints IntKind.i64 c1 (x :: y ++ List.replicate (c1 - (1 + y.length)) 0)]])) := HOk.push (HOk.push hJ.hok (b := Blk.own 3 [Seg.ints IntKind.i64 1 [x]]) hx1 rfl) (b := Blk.own 3 [Seg.ints IntKind.i64 c1 (x :: y ++ List.replicate (c1 - (1 + y.length)) 0)]) (ints_rng l2 hxin hyin) rfl
                have hd1 : RowAt (fun p => U.length ≤ p) (U ++ [Blk.own 3 [Seg.ints IntKind.i64 1 [x]]] ++ [Blk.own 3 [Seg.ints IntKind.i64 c1 (x :: y ++ List.replicate (c1 - (1 + y.length)) 0)]]) dd (x :: y) := ⟨(U ++ [Blk.own 3 [Seg.ints IntKind.i64 1 [x]]]).length, x :: y ++ List.replicate (c1 - (1 + y.length)) 0, by rw [edd, l2, List.length_cons, Nat.add_comm y.length 1], by simp, by simp, by rw [l2]; exact f2, by rw [l2]; exact up_top _ _⟩
                repeat' ((conv => whnf); first | (refine ask_true (by omega) ?_) | (refine And.intro rfl ?_) | (refine ask_wrap64 (by omega) (by omega) ?_) | (refine lenH_is ?_) | (refine pushH_as (b' := .own 22 [.one dd]) rfl ?_) | fail)
                conv => whnf
                refine hGet_at (up_top _ _) ?_
                conv => whnf
                refine And.intro (by rw [bytesS]; decide) fun c2 g1 g2 => ?_
                have hK := InJ.new hJ he1 ho1 hd1 g1 g2
                repeat' ((conv => whnf); first | (refine ask_true (by omega) ?_) | (refine And.intro rfl ?_) | (refine ask_wrap64 (by omega) (by omega) ?_) | (refine lenH_is ?_) | (refine pushH_at ?_) | (refine setH_at ?_) | fail)
                conv => whnf
                have e1 := hK.rows.cell
                have e2 := hK.rst.cell
                have e3 : T.length ≤ ((U ++ [Blk.own 3 [Seg.ints IntKind.i64 1 [x]]] ++ [Blk.own 3 [Seg.ints IntKind.i64 c1 (x :: y ++ List.replicate (c1 - (1 + y.length)) 0)]]) ++ [Blk.own 22 [.one dd]] ++ [Blk.own 22 (ones ([dd] ++ List.replicate (c2 - 1) .csn))]).length := by obtain ⟨N', e⟩ := hK.ext; rw [e]; simp
                refine ⟨(R.length - (i + 1)).toNat, (i + 1, ((U ++ [Blk.own 3 [Seg.ints IntKind.i64 1 [x]]] ++ [Blk.own 3 [Seg.ints IntKind.i64 c1 (x :: y ++ List.replicate (c1 - (1 + y.length)) 0)]]) ++ [Blk.own 22 [.one dd]] ++ [Blk.own 22 (ones ([dd] ++ List.replicate (c2 - 1) .csn))]), (.csl ((U ++ [Blk.own 3 [Seg.ints IntKind.i64 1 [x]]] ++ [Blk.own 3 [Seg.ints IntKind.i64 c1 (x :: y ++ List.replicate (c1 - (1 + y.length)) 0)]]) ++ [Blk.own 22 [.one dd]]).length 0 0 1 c2)), by omega, ⟨⟨by show 0 ≤ i + 1; omega, by show i + 1 ≤ R.length; omega⟩, rfl, by show InJ T _ _ _ (P ++ ((R.take (i + 1).toNat).map fun y => x :: y)) R; rw [eT]; exact hK⟩, rfl, ⟨⟨Nat.le_of_ble_eq_true rfl, rfl⟩, ⟨Nat.le_of_ble_eq_true rfl, rfl⟩, trivial⟩, wkH_refl _, ?_, bndH_of hK.hok.bnd, e3⟩
                repeat' (first | rfl | exact e1 | exact e2 | refine and_t ?_ ?_)
            · skip
              subst ho
              have lPP : (P ++ (R.take i.toNat).map fun y => x :: y).length ≤ 77309411328 := by simp only [List.length_append, List.length_map, List.length_take]; omega
              repeat' ((conv => whnf); first | (refine ask_true (by omega) ?_) | (refine And.intro rfl ?_) | (refine ask_wrap64 (by omega) (by omega) ?_) | (refine lenH_is ?_) | (refine pushH_as (b' := .own 3 [.ints .i64 1 [x]]) (by rw [size3]; rfl) ?_) | (refine And.intro (by omega) ?_) | fail)
              conv => whnf
              refine hGet_at (up_get at1) ?_
              conv => whnf
              refine load_ones (by kernel_rfl) (by rw [Nat.zero_add]; exact em) hd1 ?_
              conv => whnf
              refine And.intro rfl ?_
              conv => whnf
              refine hGet_at (up_get atq) ?_
              conv => whnf
              refine And.intro (by omega) ?_
              conv => whnf
              refine hGet_at (up_top _ _) ?_
              conv => whnf
              refine ⟨⟨rfl, by omega, by rw [bytes3]; omega⟩, fun h0 => ?_, fun h0 c1 f1 f2 => ?_⟩
              · obtain rfl : y = [] := List.eq_nil_of_length_eq_zero (by omega)
                refine setH_as (H' := U ++ [Blk.own 3 [Seg.ints IntKind.i64 1 [x]]]) (by simp) ?_
                have hdd : ∃ dd, dd = C.csl U.length 0 0 (1 + ([] : List Int).length) 1 := ⟨_, rfl⟩
                obtain ⟨dd, edd⟩ := hdd
                rw [← edd]
                have he1 : ∃ N, (U ++ [Blk.own 3 [Seg.ints IntKind.i64 1 [x]]]) = U ++ N := ⟨_, rfl⟩
                have ho1 : HOk ((U ++ [Blk.own 3 [Seg.ints IntKind.i64 1 [x]]])) := HOk.push hJ.hok (b := Blk.own 3 [Seg.ints IntKind.i64 1 [x]]) hx1 rfl
                have hd1 : RowAt (fun p => U.length ≤ p) (U ++ [Blk.own 3 [Seg.ints IntKind.i64 1 [x]]]) dd [x] := ⟨U.length, [x], edd, Nat.le_refl _, rfl, (by decide : 1 ≤ 9223372036854775807), up_top _ _⟩
                repeat' ((conv => whnf); first | (refine ask_true (by omega) ?_) | (refine And.intro rfl ?_) | (refine ask_wrap64 (by omega) (by omega) ?_) | (refine lenH_is ?_) | (refine pushH_as (b' := .own 22 [.one dd]) rfl ?_) | fail)
                conv => whnf
                refine hGet_at (up_top _ _) ?_
                conv => whnf
                refine hGet_at (by first | exact up_get (up_get at2) | exact up_get (up_get (up_get at2))) ?_
                conv => whnf
                refine ⟨cs2, rfl, ⟨rfl, by omega, by rw [bytesS]; omega⟩, fun r0 => ?_, fun r0 c2 g1 g2 => ?_⟩
                · have hK := InJ.room hJ ok2 mx2 at2 rows2 he1 ho1 hd1 r0
                  repeat' ((conv => whnf); first | (refine ask_true (by omega) ?_) | (refine And.intro rfl ?_) | (refine ask_wrap64 (by omega) (by omega) ?_) | (refine lenH_is ?_) | (refine pushH_at ?_) | (refine setH_at ?_) | fail)
                  conv => whnf
                  have e1 := hK.rows.cell
                  have e2 := hK.rst.cell
                  have e3 : T.length ≤ (((U ++ [Blk.own 3 [Seg.ints IntKind.i64 1 [x]]]) ++ [Blk.own 22 [.one dd]]).set b2 (Blk.own 22 (ones (cs2.take (P ++ (R.take i.toNat).map fun y => x :: y).length ++ [dd] ++ cs2.drop ((P ++ (R.take i.toNat).map fun y => x :: y).length + 1))))).length := by obtain ⟨N', e⟩ := hK.ext; rw [e]; simp
                  refine ⟨(R.length - (i + 1)).toNat, (i + 1, (((U ++ [Blk.own 3 [Seg.ints IntKind.i64 1 [x]]]) ++ [Blk.own 22 [.one dd]]).set b2 (Blk.own 22 (ones (cs2.take (P ++ (R.take i.toNat).map fun y => x :: y).length ++ [dd] ++ cs2.drop ((P ++ (R.take i.toNat).map fun y => x :: y).length + 1))))), (.csl b2 0 0 ((P ++ (R.take i.toNat).map fun y => x :: y).length + 1) cs2.length)), by omega, ⟨⟨by show 0 ≤ i + 1; omega, by show i + 1 ≤ R.length; omega⟩, rfl, by show InJ T _ _ _ (P ++ ((R.take (i + 1).toNat).map fun y => x :: y)) R; rw [eT]; exact hK⟩, rfl, ⟨⟨Nat.le_of_ble_eq_true rfl, rfl⟩, ⟨Nat.le_of_ble_eq_true rfl, rfl⟩, trivial⟩, wkH_refl _, ?_, bndH_of hK.hok.bnd, e3⟩
                  repeat' (first | rfl | exact e1 | exact e2 | refine and_t ?_ ?_)
                · have hK := InJ.grow hJ le2 at2 rows2 he1 ho1 hd1 g1 g2
                  repeat' ((conv => whnf); first | (refine ask_true (by omega) ?_) | (refine And.intro rfl ?_) | (refine ask_wrap64 (by omega) (by omega) ?_) | (refine lenH_is ?_) | (refine pushH_at ?_) | (refine setH_at ?_) | fail)
                  conv => whnf
                  have e1 := hK.rows.cell
                  have e2 := hK.rst.cell
                  have e3 : T.length ≤ (((U ++ [Blk.own 3 [Seg.ints IntKind.i64 1 [x]]]) ++ [Blk.own 22 [.one dd]]) ++ [Blk.own 22 (ones (cs2.take (P ++ (R.take i.toNat).map fun y => x :: y).length ++ [dd] ++ List.replicate (c2 - ((P ++ (R.take i.toNat).map fun y => x :: y).length + 1)) .csn))]).length := by obtain ⟨N', e⟩ := hK.ext; rw [e]; simp
                  refine ⟨(R.length - (i + 1)).toNat, (i + 1, (((U ++ [Blk.own 3 [Seg.ints IntKind.i64 1 [x]]]) ++ [Blk.own 22 [.one dd]]) ++ [Blk.own 22 (ones (cs2.take (P ++ (R.take i.toNat).map fun y => x :: y).length ++ [dd] ++ List.replicate (c2 - ((P ++ (R.take i.toNat).map fun y => x :: y).length + 1)) .csn))]), (.csl ((U ++ [Blk.own 3 [Seg.ints IntKind.i64 1 [x]]]) ++ [Blk.own 22 [.one dd]]).length 0 0 ((P ++ (R.take i.toNat).map fun y => x :: y).length + 1) c2)), by omega, ⟨⟨by show 0 ≤ i + 1; omega, by show i + 1 ≤ R.length; omega⟩, rfl, by show InJ T _ _ _ (P ++ ((R.take (i + 1).toNat).map fun y => x :: y)) R; rw [eT]; exact hK⟩, rfl, ⟨⟨Nat.le_of_ble_eq_true rfl, rfl⟩, ⟨Nat.le_of_ble_eq_true rfl, rfl⟩, trivial⟩, wkH_refl _, ?_, bndH_of hK.hok.bnd, e3⟩
                  repeat' (first | rfl | exact e1 | exact e2 | refine and_t ?_ ?_)
              · have l2 : (x :: y ++ List.replicate (c1 - (1 + y.length)) (0 : Int)).length = c1 := by simp; omega
                refine lenH_is ?_
                refine pushH_as (b' := Blk.own 3 [Seg.ints IntKind.i64 c1 (x :: y ++ List.replicate (c1 - (1 + y.length)) 0)]) (by rw [List.drop_zero, hz]; rfl) ?_
                have hdd : ∃ dd, dd = C.csl (U ++ [Blk.own 3 [Seg.ints IntKind.i64 1 [x]]]).length 0 0 (1 + y.length) c1 := ⟨_, rfl⟩
                obtain ⟨dd, edd⟩ := hdd
                rw [← edd]
                have he1 : ∃ N, (U ++ [Blk.own 3 [Seg.ints IntKind.i64 1 [x]]] ++ [Blk.own 3 [Seg.ints IntKind.i64 c1 (x :: y ++ List.replicate (c1 - (1 + y.length)) 0)]]) = U ++ N := ⟨_, List.append_assoc _ _ _⟩
                have ho1 : HOk ((U ++ [Blk.own 3 [Seg.ints IntKind.i64 1 [x]]] ++ [Blk.own 3 [Seg.ints IntKind.i64 c1 (x :: y ++ List.replicate (c1 - (1 + y.length)) 0)]])) := HOk.push (HOk.push hJ.hok (b := Blk.own 3 [Seg.ints IntKind.i64 1 [x]]) hx1 rfl) (b := Blk.own 3 [Seg.ints IntKind.i64 c1 (x :: y ++ List.replicate (c1 - (1 + y.length)) 0)]) (ints_rng l2 hxin hyin) rfl
                have hd1 : RowAt (fun p => U.length ≤ p) (U ++ [Blk.own 3 [Seg.ints IntKind.i64 1 [x]]] ++ [Blk.own 3 [Seg.ints IntKind.i64 c1 (x :: y ++ List.replicate (c1 - (1 + y.length)) 0)]]) dd (x :: y) := ⟨(U ++ [Blk.own 3 [Seg.ints IntKind.i64 1 [x]]]).length, x :: y ++ List.replicate (c1 - (1 + y.length)) 0, by rw [edd, l2, List.length_cons, Nat.add_comm y.length 1], by simp, by simp, by rw [l2]; exact f2, by rw [l2]; exact up_top _ _⟩
                repeat' ((conv => whnf); first | (refine ask_true (by omega) ?_) | (refine And.intro rfl ?_) | (refine ask_wrap64 (by omega) (by omega) ?_) | (refine lenH_is ?_) | (refine pushH_as (b' := .own 22 [.one dd]) rfl ?_) | fail)
                conv => whnf
                refine hGet_at (up_top _ _) ?_
                conv => whnf
                refine hGet_at (by first | exact up_get (up_get at2) | exact up_get (up_get (up_get at2))) ?_
                conv => whnf
                refine ⟨cs2, rfl, ⟨rfl, by omega, by rw [bytesS]; omega⟩, fun r0 => ?_, fun r0 c2 g1 g2 => ?_⟩
                · have hK := InJ.room hJ ok2 mx2 at2 rows2 he1 ho1 hd1 r0
                  repeat' ((conv => whnf); first | (refine ask_true (by omega) ?_) | (refine And.intro rfl ?_) | (refine ask_wrap64 (by omega) (by omega) ?_) | (refine lenH_is ?_) | (refine pushH_at ?_) | (refine setH_at ?_) | fail)
                  conv => whnf
                  have e1 := hK.rows.cell
                  have e2 := hK.rst.cell
                  have e3 : T.length ≤ (((U ++ [Blk.own 3 [Seg.ints IntKind.i64 1 [x]]] ++ [Blk.own 3 [Seg.ints IntKind.i64 c1 (x :: y ++ List.replicate (c1 - (1 + y.length)) 0)]]) ++ [Blk.own 22 [.one dd]]).set b2 (Blk.own 22 (ones (cs2.take (P ++ (R.take i.toNat).map fun y => x :: y).length ++ [dd] ++ cs2.drop ((P ++ (R.take i.toNat).map fun y => x :: y).length + 1))))).length := by obtain ⟨N', e⟩ := hK.ext; rw [e]; simp
                  refine ⟨(R.length - (i + 1)).toNat, (i + 1, (((U ++ [Blk.own 3 [Seg.ints IntKind.i64 1 [x]]] ++ [Blk.own 3 [Seg.ints IntKind.i64 c1 (x :: y ++ List.replicate (c1 - (1 + y.length)) 0)]]) ++ [Blk.own 22 [.one dd]]).set b2 (Blk.own 22 (ones (cs2.take (P ++ (R.take i.toNat).map fun y => x :: y).length ++ [dd] ++ cs2.drop ((P ++ (R.take i.toNat).map fun y => x :: y).length + 1))))), (.csl b2 0 0 ((P ++ (R.take i.toNat).map fun y => x :: y).length + 1) cs2.length)), by omega, ⟨⟨by show 0 ≤ i + 1; omega, by show i + 1 ≤ R.length; omega⟩, rfl, by show InJ T _ _ _ (P ++ ((R.take (i + 1).toNat).map fun y => x :: y)) R; rw [eT]; exact hK⟩, rfl, ⟨⟨Nat.le_of_ble_eq_true rfl, rfl⟩, ⟨Nat.le_of_ble_eq_true rfl, rfl⟩, trivial⟩, wkH_refl _, ?_, bndH_of hK.hok.bnd, e3⟩
                  repeat' (first | rfl | exact e1 | exact e2 | refine and_t ?_ ?_)
                · have hK := InJ.grow hJ le2 at2 rows2 he1 ho1 hd1 g1 g2
                  repeat' ((conv => whnf); first | (refine ask_true (by omega) ?_) | (refine And.intro rfl ?_) | (refine ask_wrap64 (by omega) (by omega) ?_) | (refine lenH_is ?_) | (refine pushH_at ?_) | (refine setH_at ?_) | fail)
                  conv => whnf
                  have e1 := hK.rows.cell
                  have e2 := hK.rst.cell
                  have e3 : T.length ≤ (((U ++ [Blk.own 3 [Seg.ints IntKind.i64 1 [x]]] ++ [Blk.own 3 [Seg.ints IntKind.i64 c1 (x :: y ++ List.replicate (c1 - (1 + y.length)) 0)]]) ++ [Blk.own 22 [.one dd]]) ++ [Blk.own 22 (ones (cs2.take (P ++ (R.take i.toNat).map fun y => x :: y).length ++ [dd] ++ List.replicate (c2 - ((P ++ (R.take i.toNat).map fun y => x :: y).length + 1)) .csn))]).length := by obtain ⟨N', e⟩ := hK.ext; rw [e]; simp
                  refine ⟨(R.length - (i + 1)).toNat, (i + 1, (((U ++ [Blk.own 3 [Seg.ints IntKind.i64 1 [x]]] ++ [Blk.own 3 [Seg.ints IntKind.i64 c1 (x :: y ++ List.replicate (c1 - (1 + y.length)) 0)]]) ++ [Blk.own 22 [.one dd]]) ++ [Blk.own 22 (ones (cs2.take (P ++ (R.take i.toNat).map fun y => x :: y).length ++ [dd] ++ List.replicate (c2 - ((P ++ (R.take i.toNat).map fun y => x :: y).length + 1)) .csn))]), (.csl ((U ++ [Blk.own 3 [Seg.ints IntKind.i64 1 [x]]] ++ [Blk.own 3 [Seg.ints IntKind.i64 c1 (x :: y ++ List.replicate (c1 - (1 + y.length)) 0)]]) ++ [Blk.own 22 [.one dd]]).length 0 0 ((P ++ (R.take i.toNat).map fun y => x :: y).length + 1) c2)), by omega, ⟨⟨by show 0 ≤ i + 1; omega, by show i + 1 ≤ R.length; omega⟩, rfl, by show InJ T _ _ _ (P ++ ((R.take (i + 1).toNat).map fun y => x :: y)) R; rw [eT]; exact hK⟩, rfl, ⟨⟨Nat.le_of_ble_eq_true rfl, rfl⟩, ⟨Nat.le_of_ble_eq_true rfl, rfl⟩, trivial⟩, wkH_refl _, ?_, bndH_of hK.hok.bnd, e3⟩
                  repeat' (first | rfl | exact e1 | exact e2 | refine and_t ?_ ?_)
-- ROUND END
        · have hi' : i = R.length := by omega
          have eX : (P ++ (R.take i.toNat).map fun y => x :: y) = preV p k (x + 1 + k).toNat := by
            rw [show (x + 1 + k).toNat = t + 1 by omega, eN, hi', Int.toNat_natCast, List.take_length]
          have e1 := hJ.rows.cell
          have e3 : T.length ≤ U.length := by obtain ⟨N', e⟩ := hJ.ext; rw [e]; simp
          rcases hJ.rst with ⟨hR0, hc⟩ | ⟨b1, cs1, hc, ok1, le1, mx1, at1, rows1⟩
          · have hi0 : i = 0 := by rw [hR0] at hi'; exact hi'
            subst hc
            repeat' ((conv => whnf); first | (refine ask_false (by omega) ?_) | (refine ask_wrap64 (by omega) (by omega) ?_) | fail)
            conv => whnf
            refine ⟨(k + 1 - (x + 1)).toNat, (x + 1, U, o), by omega, ⟨⟨by show -k ≤ x + 1; omega, by show x + 1 ≤ k + 1; omega⟩, rfl, hJ.hok, hJ.ext, by show RowsAt _ U o (preV p k (x + 1 + k).toNat); rw [← eX]; exact hJ.rows⟩, rfl, ⟨⟨Nat.le_of_ble_eq_true rfl, rfl⟩, ⟨Nat.le_of_ble_eq_true rfl, rfl⟩, trivial⟩, wkH_refl _, ?_, bndH_of hJ.hok.bnd, e3⟩
            repeat' (first | rfl | exact e1 | refine and_t ?_ ?_)
          · subst hc
            repeat' ((conv => whnf); first | (refine ask_false (by omega) ?_) | (refine ask_wrap64 (by omega) (by omega) ?_) | fail)
            conv => whnf
            refine ⟨(k + 1 - (x + 1)).toNat, (x + 1, U, o), by omega, ⟨⟨by show -k ≤ x + 1; omega, by show x + 1 ≤ k + 1; omega⟩, rfl, hJ.hok, hJ.ext, by show RowsAt _ U o (preV p k (x + 1 + k).toNat); rw [← eX]; exact hJ.rows⟩, rfl, ⟨⟨Nat.le_of_ble_eq_true rfl, rfl⟩, ⟨Nat.le_of_ble_eq_true rfl, rfl⟩, trivial⟩, wkH_refl _, ?_, bndH_of hJ.hok.bnd, e3⟩
            repeat' (first | rfl | exact e1 | refine and_t ?_ ?_)
theorem all_ct : ∀ M : Nat, HCtOk Try.prog 25 (hAll M)
  | 0 => by
    intro ws H K h hr hb ho G σ base w₀ w hw
    unfold hAll at h
    split at h
    · rename_i n k
      obtain ⟨⟨⟨h1, h2, h3⟩, hk⟩, hK⟩ := h
      obtain rfl : n = 0 := by omega
      exact any_lift F0_ok Try.func25 (n := 0) (ws := [i64 0, i64 k]) ⟨hr.1, hr.2.1, trivial⟩ rfl ho (all_base k hk H ho) (fun x H' hP => by
        obtain ⟨c, N, rfl, rfl, q1, q2⟩ := hP
        exact hK c N q1 q2) G σ base w₀ w hw
    · exact h.elim
  | M + 1 => by
    intro ws H K h hr hb ho G σ base w₀ w hw
    unfold hAll at h
    split at h
    · rename_i n k
      obtain ⟨⟨⟨h1, h2, h3⟩, hk⟩, hK⟩ := h
      rcases Classical.em (n = 0) with h0 | h0
      · subst h0
        exact any_lift F0_ok Try.func25 (n := 0) (ws := [i64 0, i64 k]) ⟨hr.1, hr.2.1, trivial⟩ rfl ho (all_base k hk H ho) (fun x H' hP => by
          obtain ⟨c, N, rfl, rfl, q1, q2⟩ := hP
          exact hK c N q1 q2) G σ base w₀ w hw
      · have hF : FnsOk Try.prog (FA M) := (F0_ok.plus rsize_ct Try.func40 (by kernel_rfl) (by kernel_rfl)).over (all_ct M) Try.func25 (by kernel_rfl) (by kernel_rfl)
        exact any_lift hF Try.func25 (n := 0) (ws := [i64 n, i64 k]) ⟨hr.1, hr.2.1, trivial⟩ rfl ho (all_step M n k ⟨by omega, h2, h3⟩ hk H ho) (fun x H' hP => by
          obtain ⟨c, N, rfl, rfl, q1, q2⟩ := hP
          exact hK c N q1 q2) G σ base w₀ w hw
    · exact h.elim
end Go.Proofs.Ytmkdamfdlkpjdaa
