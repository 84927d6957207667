/- Segments of cells: read, written, at literal places and at places that are reckoned. -/
import Derived.Test.YtaficaacogcblaaGreatDoorXa
set_option linter.all false
namespace Go.Proofs.YtaficaacogcblaaGreatDoor
open Go.RowKit (Below)

def sameK : IntKind → IntKind → Bool
  | .i8, .i8 | .i16, .i16 | .i32, .i32 | .i64, .i64 | .u8, .u8 | .u16, .u16 | .u32, .u32 | .u64, .u64 => true
  | _, _ => false
theorem sameK_eq {j k : IntKind} (h : sameK j k = true) : j = k := by cases j <;> cases k <;> first | rfl | cases h

theorem dens_append (σ : Sg) : ∀ (a b : List Seg), dens σ (a ++ b) = dens σ a ++ dens σ b
  | [], _ => rfl
  | x :: a, b => by simp only [List.cons_append, dens, dens_append σ a b, List.append_assoc]

def segsLen : List Seg → Nat
  | [] => 0
  | .one _ :: ss => segsLen ss + 1
  | .ints _ n _ :: ss => segsLen ss + n
theorem dens_len (σ : Sg) : ∀ {ss : List Seg}, rngs ss → (dens σ ss).length = segsLen ss
  | [], _ => rfl
  | .one c :: ss, h => by simp only [dens, Seg.den, List.length_append, List.length_singleton, dens_len σ h.2, segsLen]; omega
  | .ints k n xs :: ss, h => by
    have := h.1.1
    simp only [dens, Seg.den, List.length_append, List.length_map, dens_len σ h.2, segsLen]; omega

/-- The first n cells. -/
def segTake : List Seg → Nat → (List Seg → Prop) → Prop
  | [], n, K => match n with | 0 => K [] | _ + 1 => False
  | .one c :: ss, n, K => match n with | 0 => K [] | n + 1 => segTake ss n fun r => K (.one c :: r)
  | .ints k m xs :: ss, n, K => match n with
    | 0 => K []
    | n + 1 => match Nat.ble m (n + 1) with
      | true => segTake ss (n + 1 - m) fun r => K (.ints k m xs :: r)
      | false => K [.ints k (n + 1) (xs.take (n + 1))]

theorem segTake_spec : ∀ {ss : List Seg} {n : Nat} {K : List Seg → Prop}, segTake ss n K → rngs ss → ∃ r, K r ∧ rngs r ∧ (∀ m, bnds m ss = true → bnds m r = true) ∧ n ≤ segsLen ss ∧ ∀ σ, dens σ r = (dens σ ss).take n
  | [], 0, K, h, _ => ⟨[], h, trivial, fun _ _ => rfl, Nat.le_refl _, fun _ => rfl⟩
  | [], _ + 1, _, h, _ => h.elim
  | .one c :: ss, 0, K, h, _ => ⟨[], h, trivial, fun _ _ => rfl, Nat.zero_le _, fun _ => by simp [dens]⟩
  | .one c :: ss, n + 1, K, h, hr => by
    obtain ⟨r, h1, h2, h3, h4, h5⟩ := segTake_spec (ss := ss) (n := n) h hr.2
    refine ⟨_, h1, ⟨hr.1, h2⟩, fun m hm => ?_, by simp only [segsLen]; omega, fun σ => by simp [dens, Seg.den, h5 σ]⟩
    simp only [bnds, Bool.and_eq_true] at hm ⊢
    exact ⟨hm.1, h3 m hm.2⟩
  | .ints k m xs :: ss, 0, K, h, _ => ⟨[], h, trivial, fun _ _ => rfl, Nat.zero_le _, fun _ => by simp [dens]⟩
  | .ints k m xs :: ss, n + 1, K, h, hr => by
    simp only [segTake] at h
    have hl := hr.1.1
    cases hb : Nat.ble m (n + 1) with
    | true =>
      rw [hb] at h
      have hle : m ≤ n + 1 := Nat.le_of_ble_eq_true hb
      obtain ⟨r, h1, h2, h3, h4, h5⟩ := segTake_spec (ss := ss) (n := n + 1 - m) h hr.2
      refine ⟨_, h1, ⟨hr.1, h2⟩, fun q hm => ?_, by simp only [segsLen]; omega, fun σ => ?_⟩
      · simp only [bnds, Bool.and_eq_true] at hm ⊢
        exact ⟨hm.1, h3 q hm.2⟩
      · simp only [dens, Seg.den, h5 σ, List.take_append, List.length_map, hl]
        rw [List.take_of_length_le (l := xs.map (Value.int k)) (by simp; omega)]
    | false =>
      rw [hb] at h
      have hlt : n + 1 < m := by
        rcases Nat.lt_or_ge (n + 1) m with h' | h'
        · exact h'
        · rw [Nat.ble_eq_true_of_le h'] at hb; cases hb
      refine ⟨_, h, ⟨⟨by simp; omega, fun x hx => hr.1.2 x (List.mem_of_mem_take hx)⟩, trivial⟩, fun q hm => rfl, by simp only [segsLen]; omega, fun σ => ?_⟩
      simp only [dens, Seg.den, List.append_nil, List.take_append, List.length_map, hl]
      rw [show n + 1 - m = 0 by omega]
      simp [List.map_take]

/-- n cells from o on. -/
def segRd : List Seg → Nat → Nat → (List Seg → Prop) → Prop
  | ss, 0, n, K => segTake ss n K
  | [], _ + 1, _, _ => False
  | .one _ :: ss, o + 1, n, K => segRd ss o n K
  | .ints k m xs :: ss, o + 1, n, K => match Nat.ble m (o + 1) with
    | true => segRd ss (o + 1 - m) n K
    | false => match Nat.ble (o + 1 + n) m with
      | true => K [.ints k n ((xs.drop (o + 1)).take n)]
      | false => False
termination_by structural ss => ss

theorem segRd_spec : ∀ {ss : List Seg} {o n : Nat} {K : List Seg → Prop}, segRd ss o n K → rngs ss → ∃ r, K r ∧ rngs r ∧ (∀ m, bnds m ss = true → bnds m r = true) ∧ o + n ≤ segsLen ss ∧ ∀ σ, dens σ r = ((dens σ ss).drop o).take n
  | [], 0, n, K, h, hr => by simp only [segRd] at h; simpa using segTake_spec h hr
  | .one _ :: _, 0, n, K, h, hr => by simp only [segRd] at h; simpa using segTake_spec h hr
  | .ints _ _ _ :: _, 0, n, K, h, hr => by simp only [segRd] at h; simpa using segTake_spec h hr
  | [], _ + 1, _, _, h, _ => by simp only [segRd] at h
  | .one c :: ss, o + 1, n, K, h, hr => by
    simp only [segRd] at h
    obtain ⟨r, h1, h2, h3, h4, h5⟩ := segRd_spec h hr.2
    refine ⟨r, h1, h2, fun m hm => h3 m ?_, by simp only [segsLen]; omega, fun σ => by simp [dens, Seg.den, h5 σ]⟩
    simp only [bnds, Bool.and_eq_true] at hm
    exact hm.2
  | .ints k m xs :: ss, o + 1, n, K, h, hr => by
    simp only [segRd] at h
    have hl := hr.1.1
    cases hb : Nat.ble m (o + 1) with
    | true =>
      rw [hb] at h
      have hle : m ≤ o + 1 := Nat.le_of_ble_eq_true hb
      obtain ⟨r, h1, h2, h3, h4, h5⟩ := segRd_spec (ss := ss) (o := o + 1 - m) h hr.2
      refine ⟨r, h1, h2, fun q hm => h3 q ?_, by simp only [segsLen]; omega, fun σ => ?_⟩
      · simp only [bnds, Bool.and_eq_true] at hm
        exact hm.2
      · rw [h5 σ]
        simp only [dens, Seg.den, List.drop_append, List.length_map, hl]
        rw [List.drop_of_length_le (l := xs.map (Value.int k)) (by simp; omega)]
        simp
    | false =>
      rw [hb] at h
      simp only at h
      cases hc : Nat.ble (o + 1 + n) m with
      | false => rw [hc] at h; exact h.elim
      | true =>
        rw [hc] at h
        have hle : o + 1 + n ≤ m := Nat.le_of_ble_eq_true hc
        refine ⟨_, h, ⟨⟨by simp; omega, fun x hx => hr.1.2 x (List.mem_of_mem_drop (List.mem_of_mem_take hx))⟩, trivial⟩, fun q hm => rfl, by simp only [segsLen]; omega, fun σ => ?_⟩
        simp only [dens, Seg.den, List.append_nil, List.drop_append, List.length_map, hl]
        rw [List.take_append_of_le_length (by simp; omega)]
        simp [List.map_take, List.map_drop]

theorem getD_in {k : IntKind} {n : Nat} {xs : List Int} (h : (Seg.ints k n xs).rng) {i : Nat} (hi : i < n) : InK k (xs.getD i 0) := by
  have hl := h.1
  have : i < xs.length := by omega
  have hx := h.2 xs[i] (List.getElem_mem this)
  simpa [List.getD_eq_getElem?_getD, List.getElem?_eq_getElem this] using hx

/-- One cell. -/
def segAt : List Seg → Nat → (C → Prop) → Prop
  | [], _, _ => False
  | .one c :: ss, o, K => match o with | 0 => K c | o + 1 => segAt ss o K
  | .ints k m xs :: ss, o, K => match Nat.ble m o with
    | true => segAt ss (o - m) K
    | false => InK k (xs.getD o 0) → K (.ci k (xs.getD o 0))

theorem segAt_spec : ∀ {ss : List Seg} {o : Nat} {K : C → Prop}, segAt ss o K → rngs ss → ∃ c, K c ∧ c.rng ∧ (∀ m, bnds m ss = true → c.bnd m = true) ∧ o < segsLen ss ∧ ∀ σ, (dens σ ss)[o]? = some (c.den σ)
  | [], _, _, h, _ => h.elim
  | .one c :: ss, 0, K, h, hr => ⟨c, h, hr.1, fun m hm => by simp only [bnds, Seg.bnd, Bool.and_eq_true] at hm; exact hm.1, by simp only [segsLen]; omega, fun σ => by simp [dens, Seg.den]⟩
  | .one c :: ss, o + 1, K, h, hr => by
    obtain ⟨r, h1, h2, h3, h4, h5⟩ := segAt_spec (ss := ss) (o := o) h hr.2
    refine ⟨r, h1, h2, fun m hm => h3 m ?_, by simp only [segsLen]; omega, fun σ => by simp [dens, Seg.den, h5 σ]⟩
    simp only [bnds, Bool.and_eq_true] at hm
    exact hm.2
  | .ints k m xs :: ss, o, K, h, hr => by
    simp only [segAt] at h
    have hl := hr.1.1
    cases hb : Nat.ble m o with
    | true =>
      rw [hb] at h
      have hle : m ≤ o := Nat.le_of_ble_eq_true hb
      obtain ⟨r, h1, h2, h3, h4, h5⟩ := segAt_spec (ss := ss) (o := o - m) h hr.2
      refine ⟨r, h1, h2, fun q hm => h3 q ?_, by simp only [segsLen]; omega, fun σ => ?_⟩
      · simp only [bnds, Bool.and_eq_true] at hm
        exact hm.2
      · simp only [dens, Seg.den]
        rw [List.getElem?_append_right (by simp; omega)]
        simpa [hl] using h5 σ
    | false =>
      rw [hb] at h
      have hlt : o < m := by
        rcases Nat.lt_or_ge o m with h' | h'
        · exact h'
        · rw [Nat.ble_eq_true_of_le h'] at hb; cases hb
      refine ⟨_, h (getD_in hr.1 hlt), getD_in hr.1 hlt, fun _ _ => rfl, by simp only [segsLen]; omega, fun σ => ?_⟩
      simp only [dens, Seg.den, C.den]
      rw [List.getElem?_append_left (by simp; omega)]
      have : o < xs.length := by omega
      simp [List.getD_eq_getElem?_getD, this]

/-- The row of integers that begins at o. -/
def segIx : List Seg → Nat → (IntKind → Nat → List Int → Prop) → Prop
  | [], _, _ => False
  | .one _ :: ss, o, K => match o with | 0 => False | o + 1 => segIx ss o K
  | .ints k m xs :: ss, o, K => match o with
    | 0 => K k m xs
    | o + 1 => match Nat.ble m (o + 1) with
      | true => segIx ss (o + 1 - m) K
      | false => False

theorem segIx_spec : ∀ {ss : List Seg} {o : Nat} {K : IntKind → Nat → List Int → Prop}, segIx ss o K → rngs ss → ∃ k m xs, K k m xs ∧ (Seg.ints k m xs).rng ∧ o + m ≤ segsLen ss ∧ ∀ σ i, i < m → (dens σ ss)[o + i]? = some (.int k (xs.getD i 0))
  | [], _, _, h, _ => h.elim
  | .one _ :: ss, 0, K, h, hr => h.elim
  | .one c :: ss, o + 1, K, h, hr => by
    obtain ⟨k, m, xs, h1, h2, h3, h4⟩ := segIx_spec (ss := ss) (o := o) h hr.2
    refine ⟨k, m, xs, h1, h2, by simp only [segsLen]; omega, fun σ i hi => ?_⟩
    have := h4 σ i hi
    rw [show o + 1 + i = (o + i) + 1 by omega]
    simpa [dens, Seg.den] using this
  | .ints k m xs :: ss, 0, K, h, hr => by
    refine ⟨k, m, xs, h, hr.1, by simp only [segsLen]; omega, fun σ i hi => ?_⟩
    have hl := hr.1.1
    have : i < xs.length := by omega
    simp only [dens, Seg.den, Nat.zero_add]
    rw [List.getElem?_append_left (by simp; omega)]
    simp [List.getD_eq_getElem?_getD, this]
  | .ints k m xs :: ss, o + 1, K, h, hr => by
    simp only [segIx] at h
    have hl := hr.1.1
    cases hb : Nat.ble m (o + 1) with
    | false => rw [hb] at h; exact h.elim
    | true =>
      rw [hb] at h
      have hle : m ≤ o + 1 := Nat.le_of_ble_eq_true hb
      obtain ⟨k', m', xs', h1, h2, h3, h4⟩ := segIx_spec (ss := ss) (o := o + 1 - m) h hr.2
      refine ⟨k', m', xs', h1, h2, by simp only [segsLen]; omega, fun σ i hi => ?_⟩
      simp only [dens, Seg.den]
      rw [List.getElem?_append_right (by simp; omega)]
      have := h4 σ i hi
      rw [show o + 1 - m + i = o + 1 + i - (xs.map (Value.int k)).length by simp; omega] at this
      exact this

/-- A segment's cells turned: what stands at o gives way to as many cells. -/
def Spliced (ss : List Seg) (o : Nat) (new r : List Seg) : Prop :=
  rngs r ∧ (∀ m, bnds m ss = true → bnds m new = true → bnds m r = true) ∧ segsLen r = segsLen ss ∧ o + segsLen new ≤ segsLen ss ∧
    ∀ σ, dens σ r = (dens σ ss).take o ++ dens σ new ++ (dens σ ss).drop (o + segsLen new)

def segPut : List Seg → List Seg → (List Seg → Prop) → Prop
  | ss, [], K => K ss
  | .one _ :: ss, .one c :: ns, K => segPut ss ns fun r => K (.one c :: r)
  | .ints k m xs :: ss, .ints k' m' ys :: ns, K => match sameK k k', Nat.beq m m' with
    | true, true => segPut ss ns fun r => K (.ints k m ys :: r)
    | true, false => match ns, Nat.ble m' m with
      | [], true => K (.ints k m (ys ++ xs.drop m') :: ss)
      | _, _ => False
    | _, _ => False
  | .ints k m xs :: ss, .one (.ci k' v) :: ns, K => match sameK k k', ns, m with
    | true, [], m + 1 => K (.ints k (m + 1) (xs.set 0 v) :: ss)
    | _, _, _ => False
  | _, _ :: _, _ => False
termination_by structural ss => ss

theorem mem_set_in {k : IntKind} {xs : List Int} {v : Int} {i : Nat} (h : ∀ x ∈ xs, InK k x) (hv : InK k v) : ∀ x ∈ xs.set i v, InK k x := fun x hx => by
  rcases List.mem_or_eq_of_mem_set hx with h' | h'
  · exact h x h'
  · exact h' ▸ hv

theorem map_set {k : IntKind} (xs : List Int) (v : Int) (i : Nat) (hi : i < xs.length) : (xs.set i v).map (Value.int k) = (xs.map (Value.int k)).take i ++ [.int k v] ++ (xs.map (Value.int k)).drop (i + 1) := by
  rw [List.map_set, List.set_eq_take_append_cons_drop, if_pos (by simpa using hi)]
  simp

theorem segPut_spec : ∀ {ss new : List Seg} {K : List Seg → Prop}, segPut ss new K → rngs ss → rngs new → ∃ r, K r ∧ Spliced ss 0 new r
  | ss, [], K, h, hr, _ => by
    have h' : K ss := by cases ss with
      | nil => simpa only [segPut] using h
      | cons s ss => cases s <;> simpa only [segPut] using h
    exact ⟨ss, h', hr, fun m hm _ => hm, rfl, by simp [segsLen], fun σ => by simp [dens, segsLen]⟩
  | [], _ :: _, K, h, _, _ => by simp only [segPut] at h
  | .one c0 :: ss, .one c :: ns, K, h, hr, hn => by
    simp only [segPut] at h
    obtain ⟨r, h1, h2, h3, h4, h5, h6⟩ := segPut_spec h hr.2 hn.2
    refine ⟨_, h1, ⟨hn.1, h2⟩, fun m hm hm' => ?_, by simp only [segsLen, h4], by simp only [segsLen]; omega, fun σ => ?_⟩
    · simp only [bnds, Seg.bnd, Bool.and_eq_true] at hm hm' ⊢
      exact ⟨hm'.1, h3 m hm.2 hm'.2⟩
    · simp [dens, Seg.den, h6 σ, segsLen]
  | .one c0 :: ss, .ints _ _ _ :: ns, K, h, _, _ => by simp only [segPut] at h
  | .ints k m xs :: ss, .ints k' m' ys :: ns, K, h, hr, hn => by
    simp only [segPut] at h
    cases hk : sameK k k' with
    | false => rw [hk] at h; cases hm : Nat.beq m m' <;> rw [hm] at h <;> exact h.elim
    | true =>
      obtain rfl := sameK_eq hk
      rw [hk] at h
      have hl := hr.1.1
      have hl' := hn.1.1
      cases hm : Nat.beq m m' with
      | true =>
        rw [hm] at h
        obtain rfl := Nat.eq_of_beq_eq_true hm
        obtain ⟨r, h1, h2, h3, h4, h5, h6⟩ := segPut_spec (ss := ss) (new := ns) h hr.2 hn.2
        refine ⟨_, h1, ⟨hn.1, h2⟩, fun q hq hq' => ?_, by simp only [segsLen, h4], by simp only [segsLen]; omega, fun σ => ?_⟩
        · simp only [bnds, Seg.bnd, Bool.and_eq_true] at hq hq' ⊢
          exact ⟨trivial, h3 q hq.2 hq'.2⟩
        · simp only [dens, Seg.den, h6 σ, segsLen, List.take_zero, List.nil_append, List.append_assoc, List.drop_append, List.length_map, hl]
          rw [List.drop_of_length_le (l := xs.map (Value.int k)) (by simp; omega)]
          simp [show segsLen ns + m - m = segsLen ns by omega]
      | false =>
        rw [hm] at h
        cases ns with
        | cons n ns => exact h.elim
        | nil =>
          simp only at h
          cases hb : Nat.ble m' m with
          | false => rw [hb] at h; exact h.elim
          | true =>
            rw [hb] at h
            have hle : m' ≤ m := Nat.le_of_ble_eq_true hb
            refine ⟨_, h, ⟨⟨by simp; omega, fun x hx => ?_⟩, hr.2⟩, fun q hq _ => hq, rfl, by simp only [segsLen]; omega, fun σ => ?_⟩
            · rcases List.mem_append.1 hx with h' | h'
              · exact hn.1.2 x h'
              · exact hr.1.2 x (List.mem_of_mem_drop h')
            · simp only [dens, Seg.den, segsLen, List.take_zero, List.nil_append, List.append_nil, List.drop_append, List.length_map, hl, List.map_append, List.map_drop, Nat.zero_add]
              rw [show m' - m = 0 by omega]
              simp
  | .ints k m xs :: ss, .one c :: ns, K, h, hr, hn => by
    cases c with
    | ci k' v =>
      simp only [segPut] at h
      cases hk : sameK k k' with
      | false => rw [hk] at h; exact h.elim
      | true =>
        obtain rfl := sameK_eq hk
        rw [hk] at h
        cases ns with
        | cons n ns => exact h.elim
        | nil =>
          cases m with
          | zero => exact h.elim
          | succ m =>
            have hl := hr.1.1
            refine ⟨_, h, ⟨⟨by simp; omega, mem_set_in hr.1.2 hn.1⟩, hr.2⟩, fun q hq _ => hq, rfl, by simp only [segsLen]; omega, fun σ => ?_⟩
            simp only [dens, Seg.den, C.den, segsLen, map_set xs v 0 (by omega), List.drop_append, List.length_map, hl]
            simp
    | _ => simp only [segPut] at h

def segWr : List Seg → Nat → List Seg → (List Seg → Prop) → Prop
  | ss, 0, new, K => segPut ss new K
  | [], _ + 1, _, _ => False
  | .one c :: ss, o + 1, new, K => segWr ss o new fun r => K (.one c :: r)
  | .ints k m xs :: ss, o + 1, new, K => match Nat.ble m (o + 1) with
    | true => segWr ss (o + 1 - m) new fun r => K (.ints k m xs :: r)
    | false => match new with
      | [.one (.ci k' v)] => match sameK k k' with
        | true => K (.ints k m (xs.set (o + 1) v) :: ss)
        | false => False
      | [.ints k' n ys] => match sameK k k', Nat.ble (o + 1 + n) m with
        | true, true => K (.ints k m (xs.take (o + 1) ++ ys ++ xs.drop (o + 1 + n)) :: ss)
        | _, _ => False
      | _ => False
termination_by structural ss => ss

theorem spliced_cons_ints {k : IntKind} {m : Nat} {xs : List Int} {ss new : List Seg} {o : Nat} {ys : List Int} (hr : rngs (.ints k m xs :: ss)) (hn : rngs new) (hy : (Seg.ints k m ys).rng)
    (hle : o + segsLen new ≤ m) (hd : ∀ σ, ys.map (Value.int k) = (xs.map (Value.int k)).take o ++ dens σ new ++ (xs.map (Value.int k)).drop (o + segsLen new)) :
    Spliced (.ints k m xs :: ss) o new (.ints k m ys :: ss) := by
  have hl := hr.1.1
  refine ⟨⟨hy, hr.2⟩, fun q hq _ => hq, rfl, by simp only [segsLen]; omega, fun σ => ?_⟩
  simp only [dens, Seg.den, hd σ, List.take_append, List.drop_append, List.length_map, hl]
  rw [show o - m = 0 by omega, show o + segsLen new - m = 0 by omega]
  simp

theorem spliced_cons {s : Seg} {ss new r : List Seg} {o : Nat} (hs : s.rng) (h : Spliced ss o new r) : Spliced (s :: ss) (o + s.len) new (s :: r) := by
  obtain ⟨h2, h3, h4, h5, h6⟩ := h
  have e : ∀ t : List Seg, segsLen (s :: t) = segsLen t + s.len := fun t => by cases s <;> rfl
  have hlen : ∀ σ, (s.den σ).length = s.len := fun σ => by cases s with
    | one c => rfl
    | ints k m xs => simpa [Seg.den, Seg.len] using hs.1
  refine ⟨⟨hs, h2⟩, fun q hq hq' => ?_, by rw [e, e, h4], by rw [e]; omega, fun σ => ?_⟩
  · simp only [bnds, Bool.and_eq_true] at hq ⊢
    exact ⟨hq.1, h3 q hq.2 hq'⟩
  · simp only [dens, h6 σ, List.take_append, List.drop_append, hlen σ]
    rw [List.take_of_length_le (l := s.den σ) (by rw [hlen σ]; omega), List.drop_of_length_le (l := s.den σ) (by rw [hlen σ]; omega)]
    simp [show o + s.len - s.len = o by omega, show o + s.len + segsLen new - s.len = o + segsLen new by omega]

theorem segWr_spec : ∀ {ss : List Seg} {o : Nat} {new : List Seg} {K : List Seg → Prop}, segWr ss o new K → rngs ss → rngs new → ∃ r, K r ∧ Spliced ss o new r
  | [], 0, new, K, h, hr, hn => by simp only [segWr] at h; exact segPut_spec h hr hn
  | .one _ :: _, 0, new, K, h, hr, hn => by simp only [segWr] at h; exact segPut_spec h hr hn
  | .ints _ _ _ :: _, 0, new, K, h, hr, hn => by simp only [segWr] at h; exact segPut_spec h hr hn
  | [], _ + 1, _, _, h, _, _ => by simp only [segWr] at h
  | .one c :: ss, o + 1, new, K, h, hr, hn => by
    simp only [segWr] at h
    obtain ⟨r, h1, h2⟩ := segWr_spec h hr.2 hn
    exact ⟨_, h1, spliced_cons hr.1 h2⟩
  | .ints k m xs :: ss, o + 1, new, K, h, hr, hn => by
    simp only [segWr] at h
    have hl := hr.1.1
    cases hb : Nat.ble m (o + 1) with
    | true =>
      rw [hb] at h
      have hle : m ≤ o + 1 := Nat.le_of_ble_eq_true hb
      obtain ⟨r, h1, h2⟩ := segWr_spec (ss := ss) (o := o + 1 - m) h hr.2 hn
      refine ⟨_, h1, ?_⟩
      have := spliced_cons (s := .ints k m xs) hr.1 h2
      rwa [show o + 1 - m + Seg.len (.ints k m xs) = o + 1 by simp only [Seg.len]; omega] at this
    | false =>
      rw [hb] at h
      have hlt : o + 1 < m := by
        rcases Nat.lt_or_ge (o + 1) m with h' | h'
        · exact h'
        · rw [Nat.ble_eq_true_of_le h'] at hb; cases hb
      match new, h, hn with
      | [.one (.ci k' v)], h, hn =>
        simp only at h
        cases hk : sameK k k' with
        | false => rw [hk] at h; exact h.elim
        | true =>
          obtain rfl := sameK_eq hk
          rw [hk] at h
          exact ⟨_, h, spliced_cons_ints hr hn ⟨by simp; omega, mem_set_in hr.1.2 hn.1⟩ (by simp only [segsLen]; omega) fun σ => by simp [map_set xs v (o + 1) (by omega), dens, Seg.den, C.den, segsLen]⟩
      | [.ints k' n ys], h, hn =>
        simp only at h
        cases hk : sameK k k' with
        | false => rw [hk] at h; exact h.elim
        | true =>
          obtain rfl := sameK_eq hk
          rw [hk] at h
          cases hc : Nat.ble (o + 1 + n) m with
          | false => rw [hc] at h; exact h.elim
          | true =>
            rw [hc] at h
            have hle : o + 1 + n ≤ m := Nat.le_of_ble_eq_true hc
            have hl' := hn.1.1
            refine ⟨_, h, spliced_cons_ints hr hn ⟨by simp; omega, fun x hx => ?_⟩ (by simp only [segsLen]; omega) fun σ => by simp [dens, Seg.den, segsLen, List.map_take, List.map_drop]⟩
            rcases List.mem_append.1 hx with h' | h'
            · rcases List.mem_append.1 h' with h' | h'
              · exact hr.1.2 x (List.mem_of_mem_take h')
              · exact hn.1.2 x h'
            · exact hr.1.2 x (List.mem_of_mem_drop h')

/-- A store at a reckoned place of the row of integers that begins at o. -/
def segWx : List Seg → Nat → Nat → List Seg → (List Seg → Prop) → Prop
  | [], _, _, _, _ => False
  | .one c :: ss, o, i, new, K => match o with | 0 => False | o + 1 => segWx ss o i new fun r => K (.one c :: r)
  | .ints k m xs :: ss, o, i, new, K => match o with
    | 0 => match new with
      | [.one (.ci k' v)] => match sameK k k' with
        | true => i < m ∧ K (.ints k m (xs.set i v) :: ss)
        | false => False
      | [.ints k' n ys] => match sameK k k' with
        | true => i + n ≤ m ∧ K (.ints k m (xs.take i ++ ys ++ xs.drop (i + n)) :: ss)
        | false => False
      | _ => False
    | o + 1 => match Nat.ble m (o + 1) with
      | true => segWx ss (o + 1 - m) i new fun r => K (.ints k m xs :: r)
      | false => False

theorem segWx_spec : ∀ {ss : List Seg} {o i : Nat} {new : List Seg} {K : List Seg → Prop}, segWx ss o i new K → rngs ss → rngs new → ∃ r, K r ∧ Spliced ss (o + i) new r
  | [], _, _, _, _, h, _, _ => h.elim
  | .one c :: ss, 0, i, new, K, h, hr, hn => h.elim
  | .one c :: ss, o + 1, i, new, K, h, hr, hn => by
    obtain ⟨r, h1, h2⟩ := segWx_spec (ss := ss) (o := o) h hr.2 hn
    refine ⟨_, h1, ?_⟩
    have := spliced_cons (s := .one c) hr.1 h2
    rwa [show o + i + Seg.len (.one c) = o + 1 + i by simp only [Seg.len]; omega] at this
  | .ints k m xs :: ss, o + 1, i, new, K, h, hr, hn => by
    simp only [segWx] at h
    cases hb : Nat.ble m (o + 1) with
    | false => rw [hb] at h; exact h.elim
    | true =>
      rw [hb] at h
      have hle : m ≤ o + 1 := Nat.le_of_ble_eq_true hb
      obtain ⟨r, h1, h2⟩ := segWx_spec (ss := ss) (o := o + 1 - m) h hr.2 hn
      refine ⟨_, h1, ?_⟩
      have := spliced_cons (s := .ints k m xs) hr.1 h2
      rwa [show o + 1 - m + i + Seg.len (.ints k m xs) = o + 1 + i by simp only [Seg.len]; omega] at this
  | .ints k m xs :: ss, 0, i, new, K, h, hr, hn => by
    have hl := hr.1.1
    simp only [segWx] at h
    rw [Nat.zero_add]
    match new, h, hn with
    | [.one (.ci k' v)], h, hn =>
      simp only at h
      cases hk : sameK k k' with
      | false => rw [hk] at h; exact h.elim
      | true =>
        obtain rfl := sameK_eq hk
        rw [hk] at h
        exact ⟨_, h.2, spliced_cons_ints hr hn ⟨by simp; omega, mem_set_in hr.1.2 hn.1⟩ (by have := h.1; simp only [segsLen]; omega) fun σ => by simp [map_set xs v i (by have := h.1; omega), dens, Seg.den, C.den, segsLen]⟩
    | [.ints k' n ys], h, hn =>
      simp only at h
      cases hk : sameK k k' with
      | false => rw [hk] at h; exact h.elim
      | true =>
        obtain rfl := sameK_eq hk
        rw [hk] at h
        have hl' := hn.1.1
        have hle := h.1
        refine ⟨_, h.2, spliced_cons_ints hr hn ⟨by simp; omega, fun x hx => ?_⟩ (by simp only [segsLen]; omega) fun σ => by simp [dens, Seg.den, segsLen, List.map_take, List.map_drop]⟩
        rcases List.mem_append.1 hx with h' | h'
        · rcases List.mem_append.1 h' with h' | h'
          · exact hr.1.2 x (List.mem_of_mem_take h')
          · exact hn.1.2 x h'
        · exact hr.1.2 x (List.mem_of_mem_drop h')

end Go.Proofs.YtaficaacogcblaaGreatDoor
