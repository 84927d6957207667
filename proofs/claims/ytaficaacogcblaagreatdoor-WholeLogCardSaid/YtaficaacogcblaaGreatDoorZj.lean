/- Ya, Yb: what the law wants of them. -/
import Derived.Test.YtaficaacogcblaaGreatDoorZi
import Derived.MapFrom
set_option linter.all false
namespace Go.Proofs.YtaficaacogcblaaGreatDoor
open Go.RowKit (Below)
open Go.MapKept
variable {Df : List Deferred}
def freeB (Ts : List Nat) : Blk → Bool
  | .own T _ => !(Ts.elem T)
  | _ => true
structure UpT (Ts : List Nat) (H H' : List Blk) : Prop where
  len : H.length ≤ H'.length
  keep : ∀ (i : Nat) (b : Blk), H[i]? = some b → freeB Ts b = true → H'[i]? = some b
  bnd : ∀ b ∈ H', b.bnd H'.length = true
theorem UpT.refl {Ts : List Nat} {H : List Blk} (h : ∀ b ∈ H, b.bnd H.length = true) : UpT Ts H H := ⟨Nat.le_refl _, fun _ _ h _ => h, h⟩
theorem UpT.trans {Ts : List Nat} {A B C : List Blk} (h : UpT Ts A B) (k : UpT Ts B C) : UpT Ts A C := ⟨Nat.le_trans h.len k.len, fun i b hb hf => k.keep i b (h.keep i b hb hf) hf, k.bnd⟩
theorem freeB_mono {Ts Us : List Nat} (h : ∀ t, Ts.elem t = true → Us.elem t = true) {b : Blk} (hb : freeB Us b = true) : freeB Ts b = true := by
  cases b with
  | own T ss =>
    simp only [freeB] at hb ⊢
    cases ht : Ts.elem T with
    | false => rfl
    | true => rw [h T ht] at hb; cases hb
  | _ => rfl
theorem UpT.mono {Ts Us : List Nat} {A B : List Blk} (h : UpT Ts A B) (k : ∀ t, Ts.elem t = true → Us.elem t = true) : UpT Us A B := ⟨h.len, fun i b hb hf => h.keep i b hb (freeB_mono k hf), h.bnd⟩
theorem UpT.any {Us : List Nat} {A B : List Blk} (h : UpT [] A B) : UpT Us A B := h.mono fun _ e => by cases e
theorem blk_up {n m : Nat} (h : n ≤ m) (b : Blk) (hb : b.bnd n = true) : b.bnd m = true := by
  cases b with
  | own T ss => exact bnds_mono h ss hb
  | ro ss => exact bnds_mono h ss hb
  | obj R => rfl
  | gone => rfl
theorem UpT.app {Ts : List Nat} {A H : List Blk} (h : UpT Ts A H) {b : Blk} (hb : b.bnd (H.length + 1) = true) : UpT Ts A (H ++ [b]) :=
  ⟨by rw [List.length_append]; exact Nat.le_trans h.len (Nat.le_add_right _ _), fun i x hx hf => by
    have := h.keep i x hx hf
    rw [List.getElem?_append_left (List.getElem?_eq_some_iff.1 this).1]; exact this, fun c hc => by
    rw [List.length_append]
    rcases List.mem_append.1 hc with h1 | h1
    · exact blk_up (Nat.le_add_right _ _) c (h.bnd c h1)
    · rw [List.mem_singleton.1 h1]; exact hb⟩
theorem UpT.set {Ts : List Nat} {A H : List Blk} (h : UpT Ts A H) {q : Nat} (hq : A.length ≤ q) {b : Blk} (hb : b.bnd H.length = true) : UpT Ts A (H.set q b) :=
  ⟨by rw [List.length_set]; exact h.len, fun i x hx hf => by
    have hi := (List.getElem?_eq_some_iff.1 hx).1
    rw [List.getElem?_set_ne (by omega)]
    exact h.keep i x hx hf, fun c hc => by
    rw [List.length_set]
    rcases List.mem_or_eq_of_mem_set hc with h1 | h1
    · exact h.bnd c h1
    · exact h1 ▸ hb⟩
theorem UpT.put {Ts : List Nat} {A H : List Blk} (h : UpT Ts A H) {q : Nat} {T : Nat} {ss : List Seg} (hq : H[q]? = some (.own T ss)) (hT : Ts.elem T = true) {b : Blk} (hb : b.bnd H.length = true) : UpT Ts A (H.set q b) :=
  ⟨by rw [List.length_set]; exact h.len, fun i x hx hf => by
    have h1 := h.keep i x hx hf
    by_cases hi : q = i
    · subst hi
      rw [h1] at hq
      cases hq
      simp only [freeB, hT] at hf
      cases hf
    · rw [List.getElem?_set_ne hi]; exact h1, fun c hc => by
    rw [List.length_set]
    rcases List.mem_or_eq_of_mem_set hc with h1 | h1
    · exact h.bnd c h1
    · exact h1 ▸ hb⟩
theorem set_same {H : List Blk} {q : Nat} {b : Blk} (h : H[q]? = some b) : H.set q b = H := by
  obtain ⟨h1, h2⟩ := List.getElem?_eq_some_iff.1 h
  rw [← h2]; exact List.set_getElem_self h1
theorem segsLen_app : ∀ a b : List Seg, segsLen (a ++ b) = segsLen a + segsLen b
  | [], b => by simp [segsLen]
  | .one c :: a, b => by simp only [List.cons_append, segsLen, segsLen_app a b]; omega
  | .ints k n xs :: a, b => by simp only [List.cons_append, segsLen, segsLen_app a b]; omega
theorem rngs_app : ∀ {a b : List Seg}, rngs (a ++ b) ↔ rngs a ∧ rngs b
  | [], b => ⟨fun h => ⟨trivial, h⟩, fun h => h.2⟩
  | s :: a, b => by
    show (s.rng ∧ rngs (a ++ b)) ↔ (s.rng ∧ rngs a) ∧ rngs b
    rw [rngs_app (a := a) (b := b), and_assoc]
theorem bnds_app {n : Nat} : ∀ {a b : List Seg}, bnds n (a ++ b) = true ↔ bnds n a = true ∧ bnds n b = true
  | [], b => ⟨fun h => ⟨rfl, h⟩, fun h => h.2⟩
  | s :: a, b => by
    show ((s.bnd n && bnds n (a ++ b)) = true) ↔ ((s.bnd n && bnds n a) = true) ∧ bnds n b = true
    rw [Bool.and_eq_true, Bool.and_eq_true, bnds_app (a := a) (b := b), and_assoc]
theorem rngs_rows : ∀ {rs : List (List Seg)}, rngs rs.flatten ↔ ∀ r ∈ rs, rngs r
  | [] => ⟨fun _ r hr => (by cases hr), fun _ => trivial⟩
  | r :: rs => by rw [List.flatten_cons, rngs_app, rngs_rows (rs := rs)]; simp
theorem bnds_rows {n : Nat} : ∀ {rs : List (List Seg)}, bnds n rs.flatten = true ↔ ∀ r ∈ rs, bnds n r = true
  | [] => ⟨fun _ r hr => (by cases hr), fun _ => rfl⟩
  | r :: rs => by rw [List.flatten_cons, bnds_app, bnds_rows (rs := rs)]; simp
theorem len_rows {n : Nat} : ∀ {rs : List (List Seg)}, (∀ r ∈ rs, segsLen r = n) → segsLen rs.flatten = rs.length * n
  | [], _ => by simp [segsLen]
  | r :: rs, h => by
    rw [List.flatten_cons, segsLen_app, h r (by simp), len_rows (rs := rs) fun x hx => h x (by simp [hx]), List.length_cons, Nat.succ_mul, Nat.add_comm]
theorem drop_rows {n : Nat} (σ : Sg) {rs : List (List Seg)} (h : ∀ r ∈ rs, segsLen r = n) (hr : rngs rs.flatten) (k : Nat) : (dens σ rs.flatten).drop (k * n) = dens σ (rs.drop k).flatten := by
  rcases Nat.lt_or_ge rs.length k with hk | hk
  · rw [List.drop_of_length_le (l := rs) (by omega), List.drop_of_length_le]
    · rfl
    rw [dens_len σ hr, len_rows h]
    exact Nat.mul_le_mul_right n (by omega)
  have e : rs = rs.take k ++ rs.drop k := (List.take_append_drop k rs).symm
  have hl : (dens σ (rs.take k).flatten).length = k * n := by
    rw [dens_len σ (rngs_rows.2 fun r hx => rngs_rows.1 hr r (List.mem_of_mem_take hx)), len_rows (n := n) fun r hx => h r (List.mem_of_mem_take hx), List.length_take, Nat.min_eq_left hk]
  conv => lhs; rw [e, List.flatten_append, dens_append]
  rw [List.drop_left' hl]
def posS : List Seg → Bool
  | [] => true
  | .one _ :: ss => posS ss
  | .ints _ m _ :: ss => Nat.blt 0 m && posS ss
theorem segRd_zero {l : List Seg} {q : Nat} {J : List Seg → Prop} : segRd l 0 q J ↔ segTake l q J := by
  cases l with
  | nil => simp [segRd]
  | cons s l => cases s <;> simp [segRd]
theorem segTake_mk {K : List Seg → Prop} : ∀ {r rest : List Seg}, posS r = true → K r → segTake (r ++ rest) (segsLen r) K
  | [], rest, _, h => by
    cases rest with
    | nil => exact h
    | cons s rest => cases s <;> exact h
  | .one c :: r, rest, hp, h => segTake_mk (r := r) (rest := rest) hp (K := fun q => K (.one c :: q)) h
  | .ints k m xs :: r, rest, hp, h => by
    simp only [posS, Bool.and_eq_true] at hp
    have hm : 0 < m := Nat.le_of_ble_eq_true hp.1
    show segTake (.ints k m xs :: (r ++ rest)) (segsLen r + m) K
    obtain ⟨m', rfl⟩ : ∃ m', m = m' + 1 := ⟨m - 1, by omega⟩
    show (match Nat.ble (m' + 1) (segsLen r + m' + 1) with | true => segTake (r ++ rest) (segsLen r + m' + 1 - (m' + 1)) fun q => K (.ints k (m' + 1) xs :: q) | false => K [.ints k (segsLen r + m' + 1) (xs.take (segsLen r + m' + 1))])
    rw [Nat.ble_eq_true_of_le (by omega : m' + 1 ≤ segsLen r + m' + 1)]
    simp only
    rw [show segsLen r + m' + 1 - (m' + 1) = segsLen r by omega]
    exact segTake_mk (r := r) (rest := rest) hp.2 (K := fun q => K (.ints k (m' + 1) xs :: q)) h
theorem segRd_skip {n : Nat} {K : List Seg → Prop} : ∀ {a b : List Seg} {o : Nat}, posS a = true → segRd b o n K → segRd (a ++ b) (segsLen a + o) n K
  | [], b, o, _, h => by simpa [segsLen] using h
  | .one c :: a, b, o, hp, h => by
    have ih := segRd_skip (a := a) (b := b) (o := o) hp h
    show segRd (.one c :: (a ++ b)) (segsLen a + 1 + o) n K
    rw [show segsLen a + 1 + o = segsLen a + o + 1 by omega]
    simp only [segRd]
    exact ih
  | .ints k m xs :: a, b, o, hp, h => by
    simp only [posS, Bool.and_eq_true] at hp
    have hm : 0 < m := Nat.le_of_ble_eq_true hp.1
    have ih := segRd_skip (a := a) (b := b) (o := o) hp.2 h
    show segRd (.ints k m xs :: (a ++ b)) (segsLen a + m + o) n K
    obtain ⟨q, hq⟩ : ∃ q, segsLen a + m + o = q + 1 := ⟨segsLen a + m + o - 1, by omega⟩
    rw [hq]
    simp only [segRd]
    rw [Nat.ble_eq_true_of_le (by omega : m ≤ q + 1)]
    simp only
    rw [show q + 1 - m = segsLen a + o by omega]
    exact ih
theorem segAt_skip {K : C → Prop} : ∀ {a b : List Seg} {o : Nat}, segAt b o K → segAt (a ++ b) (segsLen a + o) K
  | [], b, o, h => by simpa [segsLen] using h
  | .one c :: a, b, o, h => by
    have ih := segAt_skip (a := a) (b := b) (o := o) h
    show segAt (.one c :: (a ++ b)) (segsLen a + 1 + o) K
    rw [show segsLen a + 1 + o = segsLen a + o + 1 by omega]
    exact ih
  | .ints k m xs :: a, b, o, h => by
    have ih := segAt_skip (a := a) (b := b) (o := o) h
    show (match Nat.ble m (segsLen a + m + o) with | true => segAt (a ++ b) (segsLen a + m + o - m) K | false => _)
    rw [Nat.ble_eq_true_of_le (by omega : m ≤ segsLen a + m + o)]
    simp only
    rw [show segsLen a + m + o - m = segsLen a + o by omega]
    exact ih
def rowOk (n : Nat) (r : List Seg) : Prop := segsLen r = n ∧ posS r = true
theorem posS_app {a b : List Seg} : posS (a ++ b) = (posS a && posS b) := by
  induction a with
  | nil => rfl
  | cons s a ih => cases s <;> simp [posS, ih, Bool.and_assoc]
theorem posS_rows {rs : List (List Seg)} (h : ∀ r ∈ rs, posS r = true) : posS rs.flatten = true := by
  induction rs with
  | nil => rfl
  | cons r rs ih => rw [List.flatten_cons, posS_app, h r (by simp), ih fun x hx => h x (by simp [hx])]; rfl
theorem split_rows {n : Nat} {rs : List (List Seg)} (h : ∀ r ∈ rs, rowOk n r) {i : Nat} {r : List Seg} (hi : rs[i]? = some r) : ∃ a b, rs.flatten = a ++ (r ++ b) ∧ segsLen a = i * n ∧ posS a = true := by
  obtain ⟨hl, rfl⟩ := List.getElem?_eq_some_iff.1 hi
  refine ⟨(rs.take i).flatten, (rs.drop (i + 1)).flatten, ?_, ?_, ?_⟩
  · conv => lhs; rw [← List.take_append_drop i rs, List.flatten_append, List.drop_eq_getElem_cons hl, List.flatten_cons]
  · rw [len_rows (n := n) fun r hr => (h r (List.mem_of_mem_take hr)).1, List.length_take, Nat.min_eq_left (by omega)]
  · exact posS_rows fun r hr => (h r (List.mem_of_mem_take hr)).2
theorem segAt_row {n : Nat} {rs : List (List Seg)} (h : ∀ r ∈ rs, rowOk n r) {i f : Nat} {r : List Seg} (hi : rs[i]? = some r) {K : C → Prop} (hK : ∀ b, segAt (r ++ b) f K) : segAt rs.flatten (i * n + f) K := by
  obtain ⟨a, b, e, hl, _⟩ := split_rows h hi
  rw [e, ← hl]
  exact segAt_skip (hK b)
theorem segRd_row {n : Nat} {rs : List (List Seg)} (h : ∀ r ∈ rs, rowOk n r) {i f m : Nat} {r : List Seg} (hi : rs[i]? = some r) {K : List Seg → Prop} (hK : ∀ b, segRd (r ++ b) f m K) : segRd rs.flatten (i * n + f) m K := by
  obtain ⟨a, b, e, hl, hp⟩ := split_rows h hi
  rw [e, ← hl]
  exact segRd_skip hp (hK b)
theorem segRd_whole {n : Nat} {rs : List (List Seg)} (h : ∀ r ∈ rs, rowOk n r) {i : Nat} {r : List Seg} (hi : rs[i]? = some r) {K : List Seg → Prop} (hK : K r) : segRd rs.flatten (i * n) n K := by
  have hr := h r (List.mem_of_getElem? hi)
  have := segRd_row h hi (f := 0) (m := n) (K := K) fun b => segRd_zero.2 (by rw [← hr.1]; exact segTake_mk hr.2 hK)
  simpa using this
def SlAt (T n : Nat) (H : List Blk) (v : C) (rs : List (List Seg)) : Prop :=
  (rs = [] ∧ v = .csn) ∨ (rs ≠ [] ∧ ∃ q rest, v = .csl q 0 0 rs.length (rs.length + rest.length) ∧ rs.length + rest.length ≤ 9223372036854775807 ∧ (∀ r ∈ rs ++ rest, rowOk n r) ∧ H[q]? = some (.own T (rs ++ rest).flatten))
theorem SlAt.up {T n : Nat} {Ts : List Nat} {H H' : List Blk} {v : C} {rs : List (List Seg)} (h : SlAt T n H v rs) (u : UpT Ts H H') (hT : Ts.elem T = false) : SlAt T n H' v rs := by
  rcases h with h | ⟨h0, q, rest, h1, h2, h3, h4⟩
  · exact .inl h
  · exact .inr ⟨h0, q, rest, h1, h2, h3, u.keep q _ h4 (by simp only [freeB, hT]; rfl)⟩
theorem SlAt.bnd {T n : Nat} {H : List Blk} {v : C} {rs : List (List Seg)} (h : SlAt T n H v rs) : v.bnd H.length = true := by
  rcases h with ⟨_, h⟩ | ⟨h0, q, rest, h1, h2, h3, h4⟩
  · rw [h]; rfl
  · rw [h1]; exact decide_eq_true (List.getElem?_eq_some_iff.1 h4).1
theorem SlAt.nil {T n : Nat} {H : List Blk} : SlAt T n H .csn [] := .inl ⟨rfl, rfl⟩
theorem SlAt.rng {T n : Nat} {H : List Blk} {v : C} {rs : List (List Seg)} (h : SlAt T n H v rs) : v.rng := by
  rcases h with ⟨_, h⟩ | ⟨h0, q, rest, h1, h2, h3, h4⟩
  · rw [h]; trivial
  · rw [h1]; exact ⟨Nat.le_add_right _ _, h2⟩
def NewAt (T n : Nat) (H : List Blk) (v : C) (rs : List (List Seg)) : Prop :=
  (rs = [] ∧ v = .csn) ∨ ∃ q rest cap, v = .csl q 0 0 rs.length cap ∧ (∀ r ∈ rs ++ rest, rowOk n r) ∧ H[q]? = some (.own T (rs ++ rest).flatten)
theorem SlAt.new {T n : Nat} {H : List Blk} {v : C} {rs : List (List Seg)} (h : SlAt T n H v rs) : NewAt T n H v rs := by
  rcases h with h | ⟨h0, q, rest, h1, h2, h3, h4⟩
  · exact .inl h
  · exact .inr ⟨q, rest, _, h1, h3, h4⟩
theorem NewAt.one {T n : Nat} {H : List Blk} {q cap : Nat} {r : List Seg} (h : H[q]? = some (.own T r)) (hr : rowOk n r) : NewAt T n H (.csl q 0 0 1 cap) [r] :=
  .inr ⟨q, [], cap, rfl, fun x hx => by simp at hx; exact hx ▸ hr, by simpa using h⟩
def bufOf : C → Option Nat
  | .csl q _ _ _ _ => some q
  | _ => none
structure UpA (cs v : C) (H H' : List Blk) : Prop where
  keep : ∀ (i : Nat) (b : Blk), H[i]? = some b → bufOf cs ≠ some i → H'[i]? = some b
  buf : ∀ q, bufOf v = some q → bufOf cs = some q ∨ H.length ≤ q
def mapJ (o : Obj) : Prop := ∃ (es : Array MapEntry) (clock : Nat), o = .map es clock ∧ ∀ e ∈ es.toList, (∃ a, e.key = .int .i64 a) ∧ ∃ v, e.val = .int .i64 v ∧ InK .i64 v
def aggZ (P : Program) (T : TypeId) : Bool := match P.info? T with
  | some inf => match inf.zero with
    | some (.agg _) => true
    | _ => false
  | none => false
def intZ (P : Program) (T : TypeId) : Prop := ∃ inf, P.info? T = some inf ∧ inf.zero = some (.int .i64 0)
def xY (P : Program) (G : Glo) : Oper → List V → List Blk → (V → List Blk → Prop) → Prop := fun o fr H K =>
  match o.op with
  | .makeMap _ none => lenH H 0 fun n => ∃ R : Obj → Prop, R (.map #[] 0) ∧ pushH H (.obj R) fun H' => K (.w (.c (.cm n))) H'
  | .lookup T x i false => evC fr x fun c => evC fr i fun d => match c, d with
    | .cm j, .ci .i64 _ => match tyOf P T with
      | .map kt et => match tyOf P kt with
        | .int .i64 => (H[j]? = some (.obj emptyM) ∧ aggZ P et = true ∧ zeroS P et fun ss => K (.w (.agg ss)) H) ∨ (H[j]? = some (.obj mapJ) ∧ intZ P et ∧ ∀ v, InK .i64 v → K (.w (.c (.ci .i64 v))) H)
        | _ => False
      | _ => False
    | _, _ => False
  | .mapUpdate T m k v => evC fr m fun c => evC fr k fun d => evC fr v fun x => match c, d, x with
    | .cm j, .ci .i64 _, .ci .i64 _ => match tyOf P T with
      | .map kt et => match tyOf P kt with
        | .int .i64 => (H[j]? = some (.obj mapJ) ∧ K undefV H)
        | _ => False
      | _ => False
    | _, _, _ => False
  | .buildSlice T len ps => match tyOf P T, ps.toList with
    | .slice e, [(0, x)] => match P.info? e with
      | some inf => evW fr x fun w => (len = 1 ∧ segsLen w.segs = inf.size ∧ 0 < inf.size ∧ inf.size ≤ 16777216) ∧ zeroS P e fun zs => segsLen zs = inf.size ∧
        lenH H 0 fun n => pushH H (.own e w.segs) fun H' => K (.w (.c (.csl n 0 0 1 1))) H'
      | none => False
    | .slice e, [] => match P.info? e with
      | some _ => match len with
        | 0 => lenH H 0 fun n => pushH H (.own e []) fun H' => K (.w (.c (.csl n 0 0 0 0))) H'
        | _ + 1 => False
      | none => False
    | _, _ => False
  | .fieldAddr s x f => evC fr x fun c => match c with
    | .cpi j o i => match tyOf P s with
      | .st fs => nthP fs f fun off ft => match P.info? ft with
        | some inf => match inf.size with
          | 0 => False
          | _ + 1 => K (.w (.c (.cpi j o (i + off)))) H
        | none => False
      | _ => False
    | _ => False
  | .binOp op T x y _ => match op with
    | .eql => evC fr x fun c => evC fr y fun d => match c, d, tyOf P T with
      | .csn, .csn, .slice _ => K (.w (.c (.cb true))) H
      | .csl _ _ _ _ _, .csn, .slice _ => K (.w (.c (.cb false))) H
      | _, _, _ => False
    | _ => False
  | .load T x => evC fr x fun c => lookA G H c fun ss o i => kLoad0 P T ss (o + i.getD 0) none fun x => K (.w x) H
  | .call c => match c.callee, c.args.toList, c.argTypes.toList with
    | .builtin .append, [s, x], [T, T'] => match tyOf P T with
      | .slice e => match P.info? e with
        | some inf => evC fr s fun cs => evC fr x fun cx => (T = T' ∧ ∃ zs, zeroS P e (fun q => q = zs) ∧ rowOk inf.size zs) ∧ ∃ news, NewAt e inf.size H cx news ∧
          ((∃ rs, SlAt e inf.size H cs rs ∧ (rs.length + news.length ≤ 9223372036854775807 ∧ (rs.length + news.length) * inf.bytes ≤ 140737488355328) ∧ ∀ v' H', UpT [e] H H' → SlAt e inf.size H' v' (rs ++ news) → UpA cs v' H H' → K (.w (.c v')) H') ∨
           ((∃ j i, cs = .csl j 0 i 0 0) ∧ news ≠ [] ∧ (news.length ≤ 9223372036854775807 ∧ news.length * inf.bytes ≤ 140737488355328) ∧ ∀ v' H', UpT [] H H' → SlAt e inf.size H' v' news → K (.w (.c v')) H'))
        | none => False
      | _ => False
    | .builtin .copy, [d, x], [T, _] => match tyOf P T with
      | .slice e => match P.info? e with
        | some inf => evC fr d fun cd => evC fr x fun cx => match cd, cx with
          | .csl j o i dlen _, .cs s => match o with
            | 0 => inf.size = 1 ∧ hGet H j fun b => match b with
              | .own T₀ [.ints .u8 n xs] => i + dlen ≤ n ∧ ∀ zs, zs = xs.take i ++ (bytesI s).take dlen ++ xs.drop (i + min s.size dlen) → setH H j (.own T₀ [.ints .u8 n zs]) fun H' => K (.w (.c (.ci .i64 ((min s.size dlen : Nat) : Int)))) H'
              | _ => False
            | _ + 1 => False
          | _, _ => False
        | none => False
      | _ => False
    | _, _, _ => False
  | _ => False
theorem run_eq_nil {P : Program} {t e : TypeId} (h : P.underlying t = some (.slice e)) (a : Option Addr) (n c : Nat) (w : World) : (Op.equal t (.slice a n c) (.slice none 0 0)).run P w = .ok a.isNone w := by
  show (Op.equalIn (9999 + 1) t (.slice a n c) (.slice none 0 0)).run P w = _
  rw [Op.equalIn]
  simp only [Sem.run_bind, run_und w h, Result.andThen_ok, Sem.run_pure]
  cases a <;> rfl
theorem isKey_int {v : Value} (h : ∃ a, v = .int .i64 a) : IsKey (.int .i64) v := by
  obtain ⟨a, rfl⟩ := h; exact rfl
theorem tyOf_map {P : Program} {t k e : TypeId} (h : tyOf P t = .map k e) : P.underlying t = some (.map k e) := by
  unfold tyOf at h
  cases hu : P.underlying t with
  | none => rw [hu] at h; cases h
  | some d => rw [hu] at h; cases d <;> simp [tyD] at h; simp [h]
theorem zeroCells_list (l : List Value) : ∀ n : Nat, Builtin.zeroCells l.toArray n = ((List.replicate n l).flatten).toArray := fun n => by
  have e : ∀ n : Nat, (Builtin.zeroCells l.toArray n).toList = (List.replicate n l).flatten := fun n => by
    induction n with
    | zero => simp [Builtin.zeroCells]
    | succ n ih =>
      rw [List.replicate_succ', List.flatten_append, ← ih]
      simp only [Builtin.zeroCells, List.size_toArray, Nat.succ_mul, Array.toList_map, Array.toList_range]
      rw [List.range_add, List.map_append, List.map_map]
      congr 1
      apply List.ext_getElem
      · simp
      · intro i h1 h2
        have hi : i < l.length := by simpa using h1
        simp [Nat.mod_eq_of_lt hi, hi]
  exact Array.ext' (by rw [e n])
theorem rows_dens (σ : Sg) : ∀ (n : Nat) (zs : List Seg), dens σ (List.replicate n zs).flatten = (List.replicate n (dens σ zs)).flatten
  | 0, _ => rfl
  | n + 1, zs => by rw [List.replicate_succ, List.flatten_cons, dens_append, rows_dens σ n zs, List.replicate_succ, List.flatten_cons]
theorem rows_fresh {G : Glo} {e : TypeId} {n : Nat} {H : List Blk} (ho : HOk H) {rows : List (List Seg)} (h1 : ∀ r ∈ rows, rowOk n r) (hr : rngs rows.flatten) (hb : bnds H.length rows.flatten = true) (h0 : rows ≠ []) {zs : List Seg} (zr : rngs zs) (zb : bnds 0 zs = true) (hzs : rowOk n zs)
    {σ : Sg} {base : Nat} {w₀ w : World} (hw : Rep G σ base w₀ w H) {c : Nat} (hc : rows.length ≤ c) (hc' : c ≤ 9223372036854775807) {X : Array Value} (hX : X = (dens σ rows.flatten).toArray ++ Builtin.zeroCells (dens σ zs).toArray (c - rows.length)) :
    ∃ τ x H', UpT [] H H' ∧ SlAt e n H' x rows ∧ Sg.agree H.length σ τ ∧ HOk H' ∧ x.den τ = .slice (some ⟨w.heap.size, 0, none⟩) rows.length c ∧ Rep G τ base w₀ (w.drew.alloc (.cells X e)) H' ∧ ∀ q, bufOf x = some q → H.length ≤ q := by
  have hag := Sg.upd_agree σ H.length (w.heap.size, 0)
  have hall : rngs (rows ++ List.replicate (c - rows.length) zs).flatten := by
    rw [List.flatten_append, rngs_app]
    exact ⟨hr, rngs_rows.2 fun r h => by rw [(List.mem_replicate.1 h).2]; exact zr⟩
  have hbb : bnds H.length (rows ++ List.replicate (c - rows.length) zs).flatten = true := by
    rw [List.flatten_append, bnds_app]
    exact ⟨hb, bnds_rows.2 fun r h => by rw [(List.mem_replicate.1 h).2]; exact bnds_mono (Nat.zero_le _) zs zb⟩
  have hpush := ho.push (b := .own e (rows ++ List.replicate (c - rows.length) zs).flatten) hall hbb
  refine ⟨σ.upd H.length (w.heap.size, 0), .csl H.length 0 0 rows.length c, _, (UpT.refl ho.bnd).app (b := .own e (rows ++ List.replicate (c - rows.length) zs).flatten) (blk_up (Nat.le_succ _) _ hbb), ?_, hag, hpush, ?_, ?_, fun q hq => (by cases hq; exact Nat.le_refl _)⟩
  · refine .inr ⟨h0, H.length, List.replicate (c - rows.length) zs, by rw [List.length_replicate, Nat.add_sub_cancel' hc], by rw [List.length_replicate]; omega, fun r h => ?_, by simp⟩
    rcases List.mem_append.1 h with h | h
    · exact h1 r h
    · rw [(List.mem_replicate.1 h).2]; exact hzs
  · simp only [C.den, Sg.at, Sg.upd_self]
  · refine (hw.drew).push ho _ _ ⟨by rw [Sg.upd_self], by rw [Sg.upd_self]; exact Nat.le_trans hw.size hw.below.size, ?_⟩
    have e1 : dens (σ.upd H.length (w.drew.heap.size, 0)) (rows ++ List.replicate (c - rows.length) zs).flatten = dens σ (rows ++ List.replicate (c - rows.length) zs).flatten := (dens_agree hag _ hbb).symm
    rw [Sg.upd_self, e1, List.flatten_append, dens_append, rows_dens, hX, zeroCells_list]
    show (w.heap.push _)[w.heap.size]? = _
    simp
theorem new_reads {G : Glo} {e n : Nat} {H : List Blk} (ho : HOk H) {cx : C} {news : List (List Seg)} (hx : NewAt e n H cx news) {σ : Sg} {base : Nat} {w₀ w : World} (hw : Rep G σ base w₀ w H) :
    (news = [] ∧ cx = .csn) ∨ (∃ a q, cx.den σ = .slice (some a) news.length q ∧ (∀ (j : Nat) (u : Value), (dens σ news.flatten)[j]? = some u → w.cell? (a.add j) = some u)) := by
  rcases hx with h | ⟨q, rest, cap, rfl, hr, hq⟩
  · exact .inl h
  · refine .inr ⟨_, _, rfl, fun j u hu => ?_⟩
    have hrep := hw.blk q _ hq
    have := (rep_reads hw (.inl ⟨_, hq⟩) 0).cell j u (by
      rw [List.flatten_append, dens_append]
      simp only [List.drop_zero]
      rw [List.getElem?_append_left (List.getElem?_eq_some_iff.1 hu).1]; exact hu)
    rw [add_ne rfl]
    simpa [Sg.at, hrep.1] using this
theorem new_ok {e n : Nat} {H : List Blk} (ho : HOk H) {cx : C} {news : List (List Seg)} (hx : NewAt e n H cx news) : (∀ r ∈ news, rowOk n r) ∧ rngs news.flatten ∧ bnds H.length news.flatten = true := by
  rcases hx with ⟨rfl, _⟩ | ⟨q, rest, cap, rfl, hr, hq⟩
  · exact ⟨fun r hr => (by cases hr), trivial, rfl⟩
  · have h1 := ho.rng _ (List.mem_of_getElem? hq)
    have h2 := ho.bnd _ (List.mem_of_getElem? hq)
    simp only [Blk.rng, Blk.bnd, List.flatten_append, rngs_app, bnds_app] at h1 h2
    exact ⟨fun r h => hr r (List.mem_append_left _ h), h1.1, h2.1⟩
theorem run_append_none {P : Program} (w : World) {T ty e : TypeId} {inf : TypeInfo} (ht : P.underlying T = some (.slice e)) (hi : P.info? e = some inf) (len cap : Nat) (hl : len ≤ cap) (b : Option Addr) :
    (Builtin.append_ #[T, T] ty #[.slice b len cap, .slice none 0 0]).run P w = .ok (.slice b len cap) w := by
  cases b <;> simp [Builtin.append_, run_underlying ht, sizeOf, typeInfo, hi, Builtin.lenOf, Builtin.firstCells, hl, storeCells]
theorem run_append_zero {P : Program} (w : World) {T ty e : TypeId} {inf : TypeInfo} (ht : P.underlying T = some (.slice e)) (hi : P.info? e = some inf) (len cap : Nat) (hl : len ≤ cap) (b : Option Addr) (a : Addr) (q : Nat) :
    (Builtin.append_ #[T, T] ty #[.slice b len cap, .slice (some a) 0 q]).run P w = .ok (.slice b len cap) w := by
  have hl0 : (loadCells a 0).run P w = .ok #[] w := by simpa using run_loadCells_list (P := P) w a [] (by simp)
  cases b <;> simp [Builtin.append_, run_underlying ht, sizeOf, typeInfo, hi, Builtin.lenOf, Builtin.firstCells, hl, storeCells, hl0]
theorem rows_append {P : Program} {G : Glo} {T ty e : TypeId} {inf : TypeInfo} (ht : P.underlying T = some (.slice e)) (hi : P.info? e = some inf) {zs : List Seg} (hz : zeroS P e fun q => q = zs) (hzs : rowOk inf.size zs)
    {H : List Blk} (ho : HOk H) {cs cx : C} {rs news : List (List Seg)} (hs : SlAt e inf.size H cs rs) (hx : NewAt e inf.size H cx news) (h63 : rs.length + news.length ≤ 9223372036854775807) (h48 : (rs.length + news.length) * inf.bytes ≤ 140737488355328)
    {σ : Sg} {base : Nat} {w₀ w : World} (hw : Rep G σ base w₀ w H) :
    ∃ v w' τ c H', (Builtin.append_ #[T, T] ty #[cs.den σ, cx.den σ]).run P w = .ok v w' ∧ UpT [e] H H' ∧ SlAt e inf.size H' c (rs ++ news) ∧ Sg.agree H.length σ τ ∧ HOk H' ∧ v = c.den τ ∧ Rep G τ base w₀ w' H' ∧ UpA cs c H H' := by
  obtain ⟨inf', z, ss, k1, k2, rfl, k4, k5, k6⟩ := zeroS_spec hz
  obtain rfl : inf = inf' := by rw [hi] at k1; exact Option.some.inj k1
  obtain ⟨n1, n2, n3⟩ := new_ok ho hx
  have idle : ∀ (v : Value), v = cs.den σ → (Builtin.append_ #[T, T] ty #[cs.den σ, cx.den σ]).run P w = .ok v w → news = [] → ∃ v w' τ c H', (Builtin.append_ #[T, T] ty #[cs.den σ, cx.den σ]).run P w = .ok v w' ∧ UpT [e] H H' ∧ SlAt e inf.size H' c (rs ++ news) ∧ Sg.agree H.length σ τ ∧ HOk H' ∧ v = c.den τ ∧ Rep G τ base w₀ w' H' ∧ UpA cs c H H' := fun v hv hrun hn => ⟨v, w, σ, cs, H, hrun, UpT.refl ho.bnd, by rw [hn, List.append_nil]; exact hs, Sg.agree.refl _ _, ho, hv, hw, ⟨fun _ _ h _ => h, fun _ h => .inl h⟩⟩
  have hlc : ∃ b len cap, cs.den σ = .slice b len cap ∧ len ≤ cap := by
    rcases hs with ⟨_, rfl⟩ | ⟨_, q, rest, rfl, _⟩
    · exact ⟨none, 0, 0, rfl, Nat.le_refl _⟩
    · exact ⟨_, _, _, rfl, Nat.le_add_right _ _⟩
  rcases new_reads ho hx hw with ⟨hn, rfl⟩ | ⟨a, q, hxd, hnews⟩
  · obtain ⟨b, len, cap, hcs, hl⟩ := hlc
    refine idle _ rfl ?_ hn
    rw [hcs]
    exact run_append_none w ht hi len cap hl b
  rcases Nat.eq_zero_or_pos news.length with hn0 | hn0
  · have hn : news = [] := List.eq_nil_of_length_eq_zero hn0
    obtain ⟨b, len, cap, hcs, hl⟩ := hlc
    refine idle _ rfl ?_ hn
    rw [hcs, hxd, hn0]
    exact run_append_zero w ht hi len cap hl b a q
  rw [hxd]
  have hne : news ≠ [] := fun e => by rw [e] at hn0; exact absurd hn0 (by simp)
  have hl1 : (dens σ news.flatten).length = news.length * inf.size := by rw [dens_len σ n2, len_rows fun r h => (n1 r h).1]
  rcases hs with ⟨rfl, rfl⟩ | ⟨h0, j, rest, rfl, hcap, hrows, hj⟩
  · simp only [List.length_nil, Nat.zero_add] at h63 h48
    have hrun := run_append_nil (P := P) w T ty e inf z ht hi k2 a news.length q (dens σ news.flatten) hl1 hnews hn0 (by omega) (by omega)
    have hc := grownCap_ge w news.length 0 e
    have hc' := grownCap_le_maxLen w news.length 0 e (by simpa only [maxLen] using h63)
    obtain ⟨τ, x', H', q1, q2, q3, q4, q5, q6, q7⟩ := rows_fresh (e := e) ho n1 n2 n3 hne k4 k5 hzs hw hc (by simpa only [maxLen] using hc') (X := (dens σ news.flatten).toArray ++ Builtin.zeroCells z.cells (grownCap w news.length 0 e - news.length)) (by rw [k6 σ])
    exact ⟨_, _, τ, x', H', hrun, q1.any, q2, q3, q4, q5.symm, q6, ⟨fun i b h _ => q1.keep i b h (by cases b <;> rfl), fun q h => .inr (q7 q h)⟩⟩
  · have hrep := hw.blk j _ hj
    have hxr := ho.rng _ (List.mem_of_getElem? hj)
    have hxb := ho.bnd _ (List.mem_of_getElem? hj)
    simp only [Blk.rng, Blk.bnd] at hxr hxb
    have hxr' := hxr
    have hxb' := hxb
    rw [List.flatten_append, rngs_app] at hxr'
    rw [List.flatten_append, bnds_app] at hxb'
    have ha : σ.at j (0 + 0) = ⟨(σ j).1, 0, none⟩ := by simp only [Sg.at, hrep.1]
    have hcur := hrep.2.2
    have r1 : ∀ r ∈ rs, rowOk inf.size r := fun r h => hrows r (List.mem_append_left _ h)
    have hlr : (dens σ rs.flatten).length = rs.length * inf.size := by rw [dens_len σ hxr'.1, len_rows fun r h => (r1 r h).1]
    simp only [C.den, ha]
    rcases Nat.lt_or_ge (rs.length + rest.length) (rs.length + news.length) with hg | hroom
    · have holds : ∀ (p : Nat) (u : Value), (dens σ rs.flatten)[p]? = some u → w.cell? ((⟨(σ j).1, 0, none⟩ : Addr).add p) = some u := fun p u hu => by
        have := (rep_reads hw (.inl ⟨_, hj⟩) 0).cell p u (by
          rw [List.flatten_append, dens_append, List.drop_zero, List.getElem?_append_left (List.getElem?_eq_some_iff.1 hu).1]; exact hu)
        rw [add_ne rfl]
        simpa [Sg.at, hrep.1] using this
      have hrun := run_append_grow (P := P) w T ty e inf z ht hi k2 ⟨(σ j).1, 0, none⟩ rs.length (rs.length + rest.length) (dens σ rs.flatten) hlr holds a news.length q (dens σ news.flatten) hl1 hnews hg (by omega) (growslice_fits hg h48)
      have hc := grownCap_ge w (rs.length + news.length) (rs.length + rest.length) e
      have hc' := grownCap_le_maxLen w (rs.length + news.length) (rs.length + rest.length) e (by simpa only [maxLen] using h63)
      have e1 : (rs ++ news).length = rs.length + news.length := List.length_append
      obtain ⟨τ, x', H', q1, q2, q3, q4, q5, q6, q7⟩ := rows_fresh (e := e) (n := inf.size) (rows := rs ++ news) ho (fun r h => by
        rcases List.mem_append.1 h with h | h
        · exact r1 r h
        · exact n1 r h) (by rw [List.flatten_append, rngs_app]; exact ⟨hxr'.1, n2⟩) (by rw [List.flatten_append, bnds_app]; exact ⟨hxb'.1, n3⟩) (by simp [h0]) k4 k5 hzs hw (c := grownCap w (rs.length + news.length) (rs.length + rest.length) e) (by rw [e1]; exact hc) (by simpa only [maxLen] using hc')
        (X := (dens σ rs.flatten).toArray ++ (dens σ news.flatten).toArray ++ Builtin.zeroCells z.cells (grownCap w (rs.length + news.length) (rs.length + rest.length) e - (rs.length + news.length))) (by
          rw [k6 σ, e1, List.flatten_append, dens_append]; simp)
      exact ⟨_, _, τ, x', H', hrun, q1.any, q2, q3, q4, by rw [e1] at q5; exact q5.symm, q6, ⟨fun i b h _ => q1.keep i b h (by cases b <;> rfl), fun q h => .inr (q7 q h)⟩⟩
    · have hfit : rs.length * inf.size + (dens σ news.flatten).length ≤ (dens σ (rs ++ rest).flatten).toArray.size := by
        rw [List.size_toArray, dens_len σ hxr, len_rows fun r h => (hrows r h).1, hl1, List.length_append, ← Nat.add_mul]
        exact Nat.mul_le_mul_right _ hroom
      have hrun := run_append_room (P := P) w T ty e inf ht hi (σ j).1 rs.length (rs.length + rest.length) _ hcur a news.length q (dens σ news.flatten) hl1 hnews (dens_one n2) hroom hfit
      have hnew : rngs (rs ++ (news ++ rest.drop news.length)).flatten ∧ bnds H.length (rs ++ (news ++ rest.drop news.length)).flatten = true := by
        simp only [List.flatten_append, rngs_app, bnds_app]
        exact ⟨⟨hxr'.1, n2, rngs_rows.2 fun r h => rngs_rows.1 hxr'.2 r (List.mem_of_mem_drop h)⟩, hxb'.1, n3, bnds_rows.2 fun r h => bnds_rows.1 hxb'.2 r (List.mem_of_mem_drop h)⟩
      have hlen : (news ++ rest.drop news.length).length = rest.length := by rw [List.length_append, List.length_drop]; omega
      refine ⟨_, _, σ, .csl j 0 0 (rs.length + news.length) (rs.length + rest.length), H.set j (.own e (rs ++ (news ++ rest.drop news.length)).flatten), hrun, (UpT.refl ho.bnd).put hj (by simp) hnew.2, ?_, Sg.agree.refl _ _, ho.set hnew.1 hnew.2, by simp only [C.den, ha], ?_, ⟨fun i b h hne => by rw [List.getElem?_set_ne (fun e => hne (by rw [e]; rfl))]; exact h, fun q h => .inl h⟩⟩
      · refine .inr ⟨by simp [h0], j, rest.drop news.length, ?_, ?_, fun r h => ?_, ?_⟩
        · rw [List.length_append, List.length_drop]
          congr 1
          omega
        · rw [List.length_append, List.length_drop]; omega
        · rcases List.mem_append.1 h with h | h
          · rcases List.mem_append.1 h with h | h
            · exact r1 r h
            · exact n1 r h
          · exact hrows r (List.mem_append_right _ (List.mem_of_mem_drop h))
        · rw [List.append_assoc]
          exact List.getElem?_set_self (List.getElem?_eq_some_iff.1 hj).1
      · refine hw.set hj rfl (fun p hp => ?_) (by simp) rfl rfl rfl rfl ⟨hrep.1, hrep.2.1, ?_⟩
        · simp only [World.setRow, Array.getElem?_modify]; rw [if_neg (Ne.symm hp)]
        · rw [setRow_heap w (σ j).1 _ _ e _ hcur]
          have hr2 : ∀ r ∈ rest, rowOk inf.size r := fun r h => hrows r (List.mem_append_right _ h)
          rw [← hlr]
          simp only [List.flatten_append, dens_append]
          rw [List.take_left' rfl, ← drop_rows σ (fun r h => (hr2 r h).1) hxr'.2, hl1]
          rw [List.drop_append, List.drop_of_length_le (by omega)]
          simp
theorem rows_append_new {P : Program} {G : Glo} {T ty e : TypeId} {inf : TypeInfo} (ht : P.underlying T = some (.slice e)) (hi : P.info? e = some inf) {zs : List Seg} (hz : zeroS P e fun q => q = zs) (hzs : rowOk inf.size zs)
    {H : List Blk} (ho : HOk H) {cx : C} {news : List (List Seg)} {j i : Nat} (hne : news ≠ []) (hx : NewAt e inf.size H cx news) (h63 : news.length ≤ 9223372036854775807) (h48 : news.length * inf.bytes ≤ 140737488355328)
    {σ : Sg} {base : Nat} {w₀ w : World} (hw : Rep G σ base w₀ w H) :
    ∃ v w' τ c H', (Builtin.append_ #[T, T] ty #[(C.csl j 0 i 0 0).den σ, cx.den σ]).run P w = .ok v w' ∧ UpT [] H H' ∧ SlAt e inf.size H' c news ∧ Sg.agree H.length σ τ ∧ HOk H' ∧ v = c.den τ ∧ Rep G τ base w₀ w' H' := by
  obtain ⟨inf', z, ss, k1, k2, rfl, k4, k5, k6⟩ := zeroS_spec hz
  obtain rfl : inf = inf' := by rw [hi] at k1; exact Option.some.inj k1
  obtain ⟨n1, n2, n3⟩ := new_ok ho hx
  have hn0 : 0 < news.length := List.length_pos_iff.2 hne
  rcases new_reads ho hx hw with ⟨hn, rfl⟩ | ⟨a, q, hxd, hnews⟩
  · exact absurd hn hne
  rw [hxd]
  have hl1 : (dens σ news.flatten).length = news.length * inf.size := by rw [dens_len σ n2, len_rows fun r h => (n1 r h).1]
  simp only [C.den]
  have hrun := run_append_grow (P := P) w T ty e inf z ht hi k2 (σ.at j (0 + i)) 0 0 [] (by simp) (fun p u hu => by simp at hu) a news.length q (dens σ news.flatten) hl1 hnews (by omega) (by omega) (growslice_fits (by omega) (by simpa using h48))
  have hc := grownCap_ge w (0 + news.length) 0 e
  have hc' := grownCap_le_maxLen w (0 + news.length) 0 e (by simp only [maxLen]; omega)
  obtain ⟨τ, x', H', q1, q2, q3, q4, q5, q6, _⟩ := rows_fresh (e := e) ho n1 n2 n3 hne k4 k5 hzs hw (c := grownCap w (0 + news.length) 0 e) (by omega) (by simpa only [maxLen] using hc')
    (X := [].toArray ++ (dens σ news.flatten).toArray ++ Builtin.zeroCells z.cells (grownCap w (0 + news.length) 0 e - (0 + news.length))) (by rw [k6 σ, Nat.zero_add]; simp)
  exact ⟨_, _, τ, x', H', hrun, q1, q2, q3, q4, by rw [q5, Nat.zero_add], q6⟩
theorem run_copy_str {P : Program} (w : World) {T T' ty e : TypeId} {inf : TypeInfo} (ht : P.underlying T = some (.slice e)) (hi : P.info? e = some inf) (hs : inf.size = 1) (g o dlen dcap : Nat) (s : ByteArray) (cur : Array Value) (t : TypeId) (hg : w.heap[g]? = some (.cells cur t (0, 0))) (hfit : o + min s.size dlen ≤ cur.size) :
    (Builtin.copy_ #[T, T'] ty #[.slice (some ⟨g, o, none⟩) dlen dcap, .string s]).run P w = .ok (goInt (min s.size dlen)) (w.setRow g (cur.toList.take o ++ ((bytesI s).take dlen).map (Value.int .u8) ++ cur.toList.drop (o + min s.size dlen)).toArray) := by
  have e1 : ((s.extract 0 (Nat.min s.size dlen)).data.map fun b => Value.int .u8 b.toNat).toList = ((bytesI s).take dlen).map (Value.int .u8) := by
    simp only [bytesI, Array.toList_map, ByteArray.data_extract, Array.toList_extract, List.extract_eq_take_drop, List.drop_zero, ← List.map_take, List.map_map, Nat.sub_zero]
    have : s.data.toList.take (Nat.min s.size dlen) = s.data.toList.take dlen := by
      rcases Nat.le_total s.size dlen with h | h
      · rw [show Nat.min s.size dlen = s.size from Nat.min_eq_left h, List.take_of_length_le (l := s.data.toList) (i := dlen) (by simpa using h), List.take_of_length_le (by simp)]
      · rw [show Nat.min s.size dlen = dlen from Nat.min_eq_right h]
    rw [this]
    rfl
  have hl : (((bytesI s).take dlen).map (Value.int .u8)).length = min s.size dlen := by
    simp [bytesI, Nat.min_comm]
  have hst := run_storeCells_at P g o t (((bytesI s).take dlen).map (Value.int .u8)) 0 cur w hg (by rw [hl]; omega) (fun v hv => by
    obtain ⟨y, _, rfl⟩ := List.mem_map.1 hv; rfl)
  simp only [Nat.add_zero, hl] at hst
  have e2 : List.take (s.size.min dlen) (List.map (fun b : UInt8 => Value.int .u8 (b.toNat : Int)) s.data.toList) = List.map (Value.int .u8) (List.take dlen (bytesI s)) := by
    rw [← e1]; simp
  simp [Builtin.copy_, run_underlying ht, Builtin.lenOf, Builtin.firstCells, sizeOf, typeInfo, hi, hs]
  rw [e2, hst]
  simp [show s.size.min dlen = min s.size dlen from rfl]
  congr 1
  omega
theorem copy_rng {n i dlen : Nat} {s : ByteArray} {xs : List Int} (h : rngs [.ints .u8 n xs]) (hn : i + dlen ≤ n) : rngs [.ints .u8 n (xs.take i ++ (bytesI s).take dlen ++ xs.drop (i + min s.size dlen))] := by
  have hl := h.1.1
  have hb : (bytesI s).length = s.size := by simp [bytesI]
  refine ⟨⟨by simp [hb]; omega, fun y hy => ?_⟩, trivial⟩
  rcases List.mem_append.1 hy with h1 | h1
  · rcases List.mem_append.1 h1 with h1 | h1
    · exact h.1.2 y (List.mem_of_mem_take h1)
    · have := List.mem_of_mem_take h1
      simp only [bytesI, List.mem_map] at this
      obtain ⟨b, _, rfl⟩ := this
      have := b.toNat_lt
      simp only [InK, lowK, highK]; omega
  · exact h.1.2 y (List.mem_of_mem_drop h1)
set_option maxHeartbeats 1600000 in
theorem xY_ok {P : Program} {G : Glo} (hG : GOk G) : ExtOk P G (xY P G) := by
  intro Df o fr H K h hf ho σ a base w₀ w hr hw N Q next
  obtain ⟨dst, op, ty, pos, after, guard⟩ := o
  cases op <;> simp only [xY] at h <;> try exact h.elim
  case makeMap T r =>
    cases r with
    | some x => exact h.elim
    | none =>
      simp only at h
      rw [lenH_iff, Nat.zero_add] at h
      obtain ⟨R, hR, h⟩ := h
      rw [pushH_iff] at h
      have hex : (execOp a.eval { dst, op := .makeMap T none, type := ty, pos, after, guard }).run P w = .ok (.value (.map (some w.heap.size))) (w.alloc (.map #[] 0)) := by
        simp [execOp, Instr.makeMap, run_newObj]
      unfold Oper.wp
      rw [hex]
      have ha := Sg.upd_agree σ H.length (w.heap.size, 0)
      refine next (σ.upd H.length (w.heap.size, 0)) _ _ _ _ h ha ?_ (hw.push ho _ (.obj R) ?_) (ho.push trivial rfl) ⟨trivial, by simp [V.bnd, W.bnd, C.bnd]⟩ (by simp)
      · simp [V.rep, W.den, C.den, Sg.upd_self]
      · refine ⟨by rw [Sg.upd_self], by rw [Sg.upd_self]; exact Nat.le_trans hw.size hw.below.size, .map #[] 0, ?_, hR⟩
        rw [Sg.upd_self]
        show (w.heap.push _)[w.heap.size]? = _
        simp
  case lookup T x i ok =>
    cases ok with
    | true => exact h.elim
    | false =>
      simp only at h
      obtain ⟨c, c1, c2, h, c4⟩ := evC_spec hf h
      obtain ⟨d, d1, d2, h, d4⟩ := evC_spec hf h
      split at h
      · rename_i j n _
        split at h
        · rename_i kt et ht
          split at h
          · rename_i hk
            have ht' := tyOf_map ht
            have hk' := tyOf_int hk
            have ec : a.eval x = .map (some (σ j).1) := c4 σ a hr
            have ed : a.eval i = .int .i64 n := d4 σ a hr
            have hkey : IsKey (.int .i64) (Value.int .i64 n) := rfl
            rcases h with ⟨hj, haz, h⟩ | ⟨hj, ⟨inf, hi, hz⟩, h⟩
            · obtain ⟨hb1, hb2, ob, hb3, hb4⟩ := hw.blk j _ hj
              obtain rfl : ob = .map #[] 0 := hb4
              obtain ⟨inf, z, ss, k1, k2, h, k4, k5, k6⟩ := zeroS_spec h
              obtain ⟨cs, rfl⟩ : ∃ cs, z = .agg cs := by
                unfold aggZ at haz
                rw [k1] at haz
                simp only [k2] at haz
                cases z <;> first | exact ⟨_, rfl⟩ | cases haz
              have hzero : (zeroValue et).run P w = .ok (.agg cs) w := run_zero w k1 k2
              have hcs : cs = (dens σ ss).toArray := k6 σ
              have hfind : Instr.findNow (.int .i64) (Value.int .i64 n) (#[] : Array MapEntry).toList 0 = some none := rfl
              have hex : (execOp a.eval { dst, op := .lookup T x i false, type := ty, pos, after, guard }).run P w = .ok (.value (.agg cs)) w := by
                simp [execOp, ec, ed, Instr.lookup, run_und w ht', MapKept.run_getObj_map hb3, MapKept.run_checkKey hk' hkey, MapKept.run_findKey hk' hfind, hzero, Result.andThen]
              unfold Oper.wp
              rw [hex]
              exact next σ (.w (.agg ss)) H _ _ h (Sg.agree.refl _ _) (by rw [hcs]; rfl) hw ho ⟨k4, bnds_mono (Nat.zero_le _) ss k5⟩ (Nat.le_refl _)
            · obtain ⟨hb1, hb2, ob, hb3, es, clock, rfl, hes⟩ := hw.blk j _ hj
              have hkeys : ∀ x ∈ es.toList, IsKey (.int .i64) x.key := fun x hx => isKey_int (hes x hx).1
              have hzero : (zeroValue et).run P w = .ok (.int .i64 0) w := run_zero w hi hz
              rcases MapKept.findNow_spec hkey es.toList 0 hkeys with ⟨h1, _⟩ | ⟨p, e0, h1, h2, h3⟩
              · have hex : (execOp a.eval { dst, op := .lookup T x i false, type := ty, pos, after, guard }).run P w = .ok (.value (.int .i64 0)) w := by
                  simp [execOp, ec, ed, Instr.lookup, run_und w ht', MapKept.run_getObj_map hb3, MapKept.run_checkKey hk' hkey, MapKept.run_findKey hk' h1, hzero, Result.andThen]
                unfold Oper.wp
                rw [hex]
                have h0 : InK .i64 0 := by simp only [InK, lowK, highK]; omega
                exact next σ _ H _ _ (h 0 h0) (Sg.agree.refl _ _) rfl hw ho ⟨h0, rfl⟩ (Nat.le_refl _)
              · obtain ⟨_, v, hv, hin⟩ := hes e0 (List.mem_of_getElem? h2)
                have hex : (execOp a.eval { dst, op := .lookup T x i false, type := ty, pos, after, guard }).run P w = .ok (.value (.int .i64 v)) w := by
                  simp [execOp, ec, ed, Instr.lookup, run_und w ht', MapKept.run_getObj_map hb3, MapKept.run_checkKey hk' hkey, MapKept.run_findKey hk' h1, hv, Result.andThen]
                unfold Oper.wp
                rw [hex]
                exact next σ _ H _ _ (h v hin) (Sg.agree.refl _ _) rfl hw ho ⟨hin, rfl⟩ (Nat.le_refl _)
          · exact h.elim
        · exact h.elim
      · exact h.elim
  case mapUpdate T m k v =>
    obtain ⟨c, c1, c2, h, c4⟩ := evC_spec hf h
    obtain ⟨d, d1, d2, h, d4⟩ := evC_spec hf h
    obtain ⟨x, x1, x2, h, x4⟩ := evC_spec hf h
    split at h
    · rename_i j n y _ _
      split at h
      · rename_i kt et ht
        split at h
        · rename_i hk
          have ht' := tyOf_map ht
          have hk' := tyOf_int hk
          have ec : a.eval m = .map (some (σ j).1) := c4 σ a hr
          have ed : a.eval k = .int .i64 n := d4 σ a hr
          have ex : a.eval v = .int .i64 y := x4 σ a hr
          have hkey : IsKey (.int .i64) (Value.int .i64 n) := rfl
          obtain ⟨hj, h⟩ := h
          obtain ⟨hb1, hb2, ob, hb3, es, clock, rfl, hes⟩ := hw.blk j _ hj
          have hkeys : ∀ x ∈ es.toList, IsKey (.int .i64) x.key := fun x hx => isKey_int (hes x hx).1
          have fin : ∀ (es' : Array MapEntry) (clock' : Nat), (∀ y' ∈ es'.toList, y' ∈ es.toList ∨ (y'.key = .int .i64 n ∧ y'.val = .int .i64 y)) →
              (execOp a.eval { dst, op := .mapUpdate T m k v, type := ty, pos, after, guard }).run P w = .ok .skip { w with heap := w.heap.setIfInBounds (σ j).1 (.map es' clock') } → Oper.wp P { dst, op := .mapUpdate T m k v, type := ty, pos, after, guard } a w N Q := fun es' clock' hall hex => by
            unfold Oper.wp
            rw [hex]
            have hset := MapKept.heap_set (o' := .map es' clock') hb3
            have hset' := hw.set hj rfl (c := .obj mapJ) (w' := { w with heap := w.heap.setIfInBounds (σ j).1 (.map es' clock') }) (fun r hr' => hset.2 r hr') (by simp) rfl rfl rfl rfl ⟨hb1, hb2, .map es' clock', hset.1, es', clock', rfl, fun y' hy => by
              rcases hall y' hy with hy | ⟨y1, y2⟩
              · exact hes y' hy
              · exact ⟨⟨n, y1⟩, y, y2, x1⟩⟩
            rw [set_same hj] at hset'
            exact next σ undefV H undef _ h (Sg.agree.refl _ _) (undefV_rep σ) hset' ho ⟨trivial, rfl⟩ (Nat.le_refl _)
          rcases MapKept.findNow_spec hkey es.toList 0 hkeys with ⟨h1, _⟩ | ⟨p, e0, h1, h2, h3⟩
          · refine fin (es.push { key := .int .i64 n, val := .int .i64 y, born := clock }) (clock + 1) (fun y' hy => ?_) ?_
            · simp only [Array.toList_push, List.mem_append, List.mem_singleton] at hy
              rcases hy with hy | rfl
              · exact .inl hy
              · exact .inr ⟨rfl, rfl⟩
            · simp [execOp, ec, ed, ex, Instr.mapUpdate, run_und w ht', MapKept.run_getObj_map hb3, MapKept.run_checkKey hk' hkey, MapKept.run_findKey hk' h1, MapKept.run_setObj_map _ hb3, Result.andThen]
          · have hp : es[p]? = some e0 := by simpa using h2
            refine fin (es.modify p fun e' => { e' with key := .int .i64 n, val := .int .i64 y }) clock (fun y' hy => ?_) ?_
            · rcases MapFrom.mem_modify hy with hy | ⟨e', _, rfl⟩
              · exact .inl hy
              · exact .inr ⟨rfl, rfl⟩
            · simp [execOp, ec, ed, ex, Instr.mapUpdate, run_und w ht', MapKept.run_getObj_map hb3, MapKept.run_checkKey hk' hkey, MapKept.run_findKey hk' h1, hp, h3, MapKept.run_keyThatStays hkey, MapKept.run_setObj_map _ hb3, Result.andThen]
        · exact h.elim
      · exact h.elim
    · exact h.elim
  case fieldAddr s x f =>
    obtain ⟨c, c1, c2, h, c4⟩ := evC_spec hf h
    split at h
    · rename_i j p i
      split at h
      · rename_i fs ht
        obtain ⟨F, hF, rfl⟩ := tyOf_st ht
        obtain ⟨fl, hfl, h⟩ := nthP_field h
        split at h
        · rename_i inf hi
          split at h
          · exact h.elim
          · rename_i sz hsz
            have hne : ¬ inf.size = 0 := by omega
            have hex : (execOp a.eval { dst, op := .fieldAddr s x f, type := ty, pos, after, guard }).run P w = .ok (.value ((C.cpi j p (i + fl.offset)).den σ)) w := by
              simp [execOp, c4 σ a hr, C.den, Instr.fieldAt, run_und w hF, hfl, Instr.sureAddr, fieldPlace, run_sizeOf w hi, hne, Sg.at]
              rw [add_ne rfl]; simp only [Nat.add_assoc]
            unfold Oper.wp
            rw [hex]
            exact next σ (.w (.c (.cpi j p (i + fl.offset)))) H _ _ h (Sg.agree.refl _ _) rfl hw ho ⟨trivial, c2⟩ (Nat.le_refl _)
        · exact h.elim
      · exact h.elim
    · exact h.elim
  case load T x =>
    obtain ⟨c, c1, c2, h, c4⟩ := evC_spec hf h
    obtain ⟨ss, o, i, h, h2, h3, h4, h5⟩ := lookA_spec hG ho h
    obtain ⟨y, y1, y2, y3, y4⟩ := kLoad0_spec h h2 h3
    have hex : (execOp a.eval { dst, op := .load T x, type := ty, pos, after, guard }).run P w = .ok (.value (y.den σ)) w := by
      have := y4 σ w _ (by simpa using h5 σ base w₀ w hw)
      simp [execOp, c4 σ a hr, h4 σ, Instr.loadAt, Instr.sureAddr, this]
    unfold Oper.wp
    rw [hex]
    exact next σ (.w y) H _ _ y3 (Sg.agree.refl _ _) rfl hw ho ⟨y1, y2⟩ (Nat.le_refl _)
  case binOp op T x y yt =>
    cases op <;> simp only at h <;> try exact h.elim
    obtain ⟨c, c1, c2, h1, c4⟩ := evC_spec hf h
    clear h
    obtain ⟨d, d1, d2, h, d4⟩ := evC_spec hf h1
    clear h1
    split at h
    · rename_i e ht
      have hex : (execOp a.eval { dst, op := .binOp .eql T x y yt, type := ty, pos, after, guard }).run P w = .ok (.value (.bool true)) w := by
        simp [execOp, c4 σ a hr, d4 σ a hr, C.den, eqGuard, binOp, run_eq_nil (tyOf_slice ht)]
      unfold Oper.wp
      rw [hex]
      exact next σ (.w (.c (.cb true))) H _ _ h (Sg.agree.refl _ _) rfl hw ho ⟨trivial, rfl⟩ (Nat.le_refl _)
    · rename_i j o i n m e ht
      have hex : (execOp a.eval { dst, op := .binOp .eql T x y yt, type := ty, pos, after, guard }).run P w = .ok (.value (.bool false)) w := by
        simp [execOp, c4 σ a hr, d4 σ a hr, C.den, eqGuard, binOp, run_eq_nil (tyOf_slice ht)]
      unfold Oper.wp
      rw [hex]
      exact next σ (.w (.c (.cb false))) H _ _ h (Sg.agree.refl _ _) rfl hw ho ⟨trivial, rfl⟩ (Nat.le_refl _)
    · exact h.elim
  case buildSlice T len ps =>
    split at h
    · rename_i e x ht hps
      split at h
      · rename_i inf hi
        obtain ⟨y, y1, y2, ⟨⟨hlen, hsz, hpos, hle⟩, h2⟩, y4⟩ := evW_spec hf h
        subst hlen
        clear h
        obtain ⟨inf', z, zs, k1, k2, ⟨hzl, h⟩, k4, k5, k6⟩ := zeroS_spec h2
        obtain rfl : inf = inf' := by rw [hi] at k1; exact Option.some.inj k1
        rw [lenH_iff, Nat.zero_add, pushH_iff] at h
        have ht' := tyOf_slice ht
        have hps' : ps = #[(0, x)] := by cases ps; simp_all
        have hzc : z.cells = (dens σ zs).toArray := k6 σ
        have hzs : (dens σ zs).length = inf.size := by rw [dens_len σ k4, hzl]
        have hfill : (Instr.fill (fun i => some (i * inf.size, inf.size)) ((Array.range (1 * inf.size)).map (z.cells[· % z.cells.size]!)) [(0, y.den σ)]) = some (dens σ y.segs).toArray := by
          have e0 : (Array.range (1 * inf.size)).map (z.cells[· % z.cells.size]!) = (dens σ zs).toArray := by
            rw [hzc]
            apply Array.ext
            · simp [hzs]
            · intro i h1 h2
              simp at h1
              have hi : i < (dens σ zs).length := by omega
              simp [Nat.mod_eq_of_lt hi, hi]
          rw [e0, fill_step (off := 0) (size := inf.size) (by simp) (y.den σ) (dens σ y.segs) (dens σ zs) (W.cells y1) (by rw [dens_len σ (W.segs_rng y1), hsz]) (by omega)]
          simp [Instr.fill, hzs]
        have hgt : ¬ 1 * inf.size > 2 ^ 24 := by omega
        have hne : ¬ 1 * inf.size = 0 := by omega
        have hex : (execOp a.eval { dst, op := .buildSlice T 1 ps, type := ty, pos, after, guard }).run P w = .ok (.value (.slice (some ⟨w.heap.size, 0, none⟩) 1 1)) (w.alloc (.cells (dens σ y.segs).toArray e)) := by
          subst hps'
          have hm : (#[(0, x)] : Array (Nat × Operand)).map (fun (i, x) => (i, a.eval x)) = #[(0, y.den σ)] := by simp [y4 σ a hr]
          simp only [execOp, hm, Instr.buildSlice, Sem.run_bind, run_und w ht', Result.andThen_ok, run_sizeOf w hi, if_neg hgt, if_neg hne, run_zero w hi k2, Sem.run_pure, hfill]
          rfl
        unfold Oper.wp
        rw [hex]
        have ha := Sg.upd_agree σ H.length (w.heap.size, 0)
        have hsb := W.segs_bnd y2
        refine next (σ.upd H.length (w.heap.size, 0)) _ _ _ _ h ha (new_sl_rep σ _ _ _ _) (hw.push ho _ (.own e y.segs) ?_) (ho.push (W.segs_rng y1) hsb) ⟨⟨Nat.le_refl _, by omega⟩, by simp [V.bnd, W.bnd, C.bnd]⟩ (by simp)
        refine ⟨by rw [Sg.upd_self], by rw [Sg.upd_self]; exact Nat.le_trans hw.size hw.below.size, ?_⟩
        rw [Sg.upd_self, ← dens_agree ha y.segs hsb]
        show (w.heap.push _)[w.heap.size]? = _
        simp
      · exact h.elim
    · rename_i e ht hps
      split at h
      · rename_i inf hi
        split at h
        · rw [lenH_iff, Nat.zero_add, pushH_iff] at h
          have ht' := tyOf_slice ht
          obtain rfl : ps = #[] := by cases ps; simp_all
          have hgt : ¬ 0 * inf.size > 2 ^ 24 := by omega
          have h0 : 0 * inf.size = 0 := Nat.zero_mul _
          have hex : (execOp a.eval { dst, op := .buildSlice T 0 #[], type := ty, pos, after, guard }).run P w = .ok (.value (.slice (some ⟨w.heap.size, 0, none⟩) 0 0)) (w.alloc (.cells (dens σ []).toArray e)) := by
            simp only [execOp, Instr.buildSlice, Sem.run_bind, run_und w ht', Result.andThen_ok, run_sizeOf w hi, if_neg hgt, if_pos h0, Sem.run_pure]
            simp only [h0, List.map_toArray, List.map_nil]
            have ez : (Array.map (fun x => (#[] : Array Value)[x % (#[] : Array Value).size]!) (Array.range 0)) = #[] := by simp
            rw [ez]
            simp only [Instr.fill]
            rfl
          unfold Oper.wp
          rw [hex]
          have ha := Sg.upd_agree σ H.length (w.heap.size, 0)
          refine next (σ.upd H.length (w.heap.size, 0)) _ _ _ _ h ha (new_sl_rep σ _ _ _ _) (hw.push ho _ (.own e []) ?_) (ho.push trivial rfl) ⟨⟨Nat.le_refl _, by omega⟩, by simp [V.bnd, W.bnd, C.bnd]⟩ (by simp)
          refine ⟨by rw [Sg.upd_self], by rw [Sg.upd_self]; exact Nat.le_trans hw.size hw.below.size, ?_⟩
          rw [Sg.upd_self]
          show (w.heap.push _)[w.heap.size]? = _
          simp
          try rfl
        · exact h.elim
      · exact h.elim
    · exact h.elim
  case call c =>
    obtain ⟨callee, args, argTypes⟩ := c
    split at h
    · rename_i s x T T' hcal hargs htys
      simp only at hcal hargs htys
      subst hcal
      have hargs' : args = #[s, x] := by cases args; simp_all
      have htys' : argTypes = #[T, T'] := by cases argTypes; simp_all
      subst hargs' htys'
      split at h
      · rename_i e hty
        have ht := tyOf_slice hty
        split at h
        · rename_i inf hi
          obtain ⟨cs, s1, s2, h, s4⟩ := evC_spec hf h
          obtain ⟨cx, x1, x2, h, x4⟩ := evC_spec hf h
          obtain ⟨⟨rfl, zs, hz, hzs⟩, news, hnew, h⟩ := h
          have fin : ∀ v w' τ c H', (Builtin.append_ #[T, T] ty #[cs.den σ, cx.den σ]).run P w = .ok v w' → Sg.agree H.length σ τ → HOk H' → v = c.den τ → Rep G τ base w₀ w' H' → H.length ≤ H'.length → c.rng → c.bnd H'.length = true → K (.w (.c c)) H' → Oper.wp P { dst, op := .call { callee := .builtin .append, args := #[s, x], argTypes := #[T, T] }, type := ty, pos, after, guard } a w N Q := fun v w' τ c H' hrun q1 q2 q3 q4 q5 q6 q7 q8 => by
            have hex : (execOp a.eval { dst, op := .call { callee := .builtin .append, args := #[s, x], argTypes := #[T, T] }, type := ty, pos, after, guard }).run P w = .ok (.value v) w' := by
              simp only [execOp, resolve, invoke, builtin, Sem.run_bind, Sem.run_pure, Result.andThen_ok, List.map_toArray, List.map_cons, List.map_nil, s4 σ a hr, x4 σ a hr, hrun]
            unfold Oper.wp
            rw [hex]
            exact next τ (.w (.c c)) H' v w' q8 q1 q3 q4 q2 ⟨q6, q7⟩ q5
          rcases h with ⟨rs, hs, ⟨h63, h48⟩, hK⟩ | ⟨⟨j, i, rfl⟩, hne, ⟨h63, h48⟩, hK⟩
          · obtain ⟨v, w', τ, c, H', hrun, q1, q2, q3, q4, q5, q6, q7⟩ := rows_append (ty := ty) ht hi hz hzs ho hs hnew h63 h48 hw
            exact fin v w' τ c H' hrun q3 q4 q5 q6 q1.len q2.rng q2.bnd (hK c H' q1 q2 q7)
          · obtain ⟨v, w', τ, c, H', hrun, q1, q2, q3, q4, q5, q6⟩ := rows_append_new (ty := ty) ht hi hz hzs ho hne hnew h63 h48 hw (j := j) (i := i)
            exact fin v w' τ c H' hrun q3 q4 q5 q6 q1.len q2.rng q2.bnd (hK c H' q1 q2)
        · exact h.elim
      · exact h.elim
    · rename_i d x T T' hcal hargs htys
      simp only at hcal hargs htys
      subst hcal
      have hargs' : args = #[d, x] := by cases args; simp_all
      have htys' : argTypes = #[T, T'] := by cases argTypes; simp_all
      subst hargs' htys'
      split at h
      · rename_i e hty
        have ht := tyOf_slice hty
        split at h
        · rename_i inf hi
          obtain ⟨cd, s1, s2, h, s4⟩ := evC_spec hf h
          obtain ⟨cx, x1, x2, h, x4⟩ := evC_spec hf h
          split at h
          · rename_i j o i dlen dcap s _
            split at h
            · obtain ⟨hsz, h⟩ := h
              obtain ⟨b, hb, h⟩ := hGet_spec h
              split at h
              · rename_i T₀ n xs
                obtain ⟨hn, h⟩ := h
                have hK := (setH_iff _ _ _ _).1 (h _ rfl)
                have hrep := hw.blk j _ hb
                have hrng : rngs [.ints .u8 n xs] := ho.rng _ (List.mem_of_getElem? hb)
                have hxl : xs.length = n := hrng.1.1
                have hcur : w.heap[(σ j).1]? = some (.cells (xs.map (Value.int .u8)).toArray T₀ (0, 0)) := by
                  have := hrep.2.2
                  simpa [dens, Seg.den] using this
                have ha : σ.at j (0 + i) = ⟨(σ j).1, i, none⟩ := by simp only [Sg.at, hrep.1, Nat.zero_add]
                have hrun := run_copy_str (P := P) w (T' := T') (ty := ty) ht hi hsz (σ j).1 i dlen dcap s _ T₀ hcur (by simp [hxl]; omega)
                have hex : (execOp a.eval { dst, op := .call { callee := .builtin .copy, args := #[d, x], argTypes := #[T, T'] }, type := ty, pos, after, guard }).run P w = .ok (.value (goInt (min s.size dlen))) (w.setRow (σ j).1 ((xs.map (Value.int .u8)).toArray.toList.take i ++ ((bytesI s).take dlen).map (Value.int .u8) ++ (xs.map (Value.int .u8)).toArray.toList.drop (i + min s.size dlen)).toArray) := by
                  simp only [execOp, resolve, invoke, builtin, Sem.run_bind, Sem.run_pure, Result.andThen_ok, List.map_toArray, List.map_cons, List.map_nil, s4 σ a hr, x4 σ a hr, C.den, ha, hrun]
                unfold Oper.wp
                rw [hex]
                have hlc : dlen ≤ dcap ∧ dcap ≤ 9223372036854775807 := s1
                refine next σ _ _ _ _ hK (Sg.agree.refl _ _) (by simp [V.rep, W.den, C.den, goInt]; omega) (hw.set hb rfl (fun p hp => ?_) (by simp) rfl rfl rfl rfl ⟨hrep.1, hrep.2.1, ?_⟩) (ho.set (copy_rng hrng hn) rfl) ⟨?_, rfl⟩ (by simp)
                · simp only [World.setRow, Array.getElem?_modify]; rw [if_neg (Ne.symm hp)]
                · rw [setRow_heap w (σ j).1 _ _ T₀ _ hcur]
                  simp [dens, Seg.den, List.map_take, List.map_drop]
                · show InK .i64 _
                  simp only [InK, lowK, highK]
                  omega
              · exact h.elim
            · exact h.elim
          · exact h.elim
        · exact h.elim
      · exact h.elim
    · exact h.elim
end Go.Proofs.YtaficaacogcblaaGreatDoor
set_option linter.all false
namespace Go.Proofs.YtaficaacogcblaaGreatDoor
namespace R
open Go.RowKit (Below)
set_option maxRecDepth 100000
set_option maxHeartbeats 16000000
def ownY (o : Oper) : Bool := match o.op with
  | .makeMap _ _ => true
  | .lookup _ _ _ ok => match ok with
    | true => false
    | false => true
  | .mapUpdate _ _ _ _ => true
  | .buildSlice _ _ _ => true
  | .binOp op T _ _ _ => match op with
    | .eql => Nat.beq T 40
    | _ => false
  | .load T _ => match Nat.beq T 98, Nat.beq T 48 with
    | false, false => false
    | _, _ => true
  | .fieldAddr T _ _ => match Nat.beq T 131, Nat.beq T 45, Nat.beq T 33 with
    | false, false, false => false
    | _, _, _ => true
  | .call c => match c.callee with
    | .builtin .append => true
    | .builtin .copy => true
    | _ => false
  | _ => false
def E6 : Env := ⟨D.G1, fun t => match Nat.beq t 98 with
  | true => some (List.replicate 64 (.i .u8))
  | false => E5.EQ t, ownY, xY Tryz.prog D.G1⟩
theorem E6_ok : EnvOk Tryz.prog E6 := by
  refine ⟨D.E1_ok.glo, fun t ks h => ?_, xY_ok D.E1_ok.glo⟩
  simp only [E6] at h
  split at h
  · rename_i hb
    obtain rfl := Nat.eq_of_beq_eq_true hb
    cases h
    exact eqok_ints (e := 5) (by kernel_rfl) (by kernel_rfl) rfl (by kernel_rfl) (by kernel_rfl) (by kernel_rfl)
  · exact E5_ok.eq t ks h
def isRedY (F : Fns) (ops : List Oper) : Bool := ops.any fun o => match o.op with
  | .buildSlice _ _ _ => true
  | .store _ _ _ => F.all 777777
  | .binOp _ _ _ _ _ => F.all 888888
  | .call c => match c.callee with
    | .builtin .append => true
    | .builtin .copy => true
    | .value (.func g) => F.all g
    | .value _ => F.all 999999
    | _ => false
  | _ => false
def drwY (P : Program) (E : Env) (F : Fns) (cal : Cal) : Drw := fun ops lo fr H K => match isRedY F ops.toList with
  | true => XRed P E cal ops lo fr H K
  | false => drwF P E F cal ops lo fr H K
theorem drwY_ok {P : Program} {E : Env} (hE : EnvOk P E) {F : Fns} (hF : FnsOk P F E.G) (hm : P.follows .mixedOrders = true) (cal : Cal) (hc : CalOk P E cal) : DrwOk P E (drwY P E F cal) := by
  intro Df id ops lo fr H K h hf ho hlo σ base w₀ w a hr hw
  unfold drwY at h
  split at h
  · exact drwX_ok hE hm cal hc Df id ops lo fr H K h hf ho hlo σ base w₀ w a hr hw
  · exact drwF_ok hE hF hm cal hc Df id ops lo fr H K h hf ho hlo σ base w₀ w a hr hw
abbrev walk6 (F : Fns) (n : Nat) (fn : Func) (ws : List W) (H : List Blk) (K : V → List Blk → Prop) : Prop := xfun Tryz.prog E6 (calF Tryz.prog E6 F (drwY Tryz.prog E6 F) n) (drwY Tryz.prog E6 F (calF Tryz.prog E6 F (drwY Tryz.prog E6 F) n)) fn ws H K
theorem cal6_ok {F : Fns} (hF : FnsOk Tryz.prog F D.G1) (n : Nat) : CalOk Tryz.prog E6 (calF Tryz.prog E6 F (drwY Tryz.prog E6 F) n) := calF_ok E6_ok hF (fun cal hc => drwY_ok E6_ok hF mixed cal hc) n
theorem heap_lift6 {F : Fns} (hF : FnsOk Tryz.prog F D.G1) {n : Nat} {f : FuncId} {fn : Func} (hf : Tryz.prog.funcs[f]? = some fn) {ws : List W} (hr : rngW ws) {P : V → List Blk → Prop} {H : List Blk} (hb : bndW H.length ws = true) (ho : HOk H)
    (h : walk6 F n fn ws H P) {K : V → List Blk → Prop} (hK : ∀ x H', P x H' → K x H') (σ : Sg) (base : Nat) (w₀ w : World) (hw : Rep D.G1 σ base w₀ w H) :
    Calls Tryz.prog f (ws.map (W.den σ)).toArray w (LeftG D.G1 σ base w₀ H.length K) := by
  refine (xfun_spec E6_ok (cal6_ok hF n) (drwY_ok E6_ok hF mixed _ (cal6_ok hF n)) hf h hr hb ho σ base w₀ w hw).mono ?_
  rintro e w' ⟨τ, x, H', v, rfl, h1, h2, h3, h4, h5, h6, h7⟩
  exact ⟨τ, x, H', v, rfl, h1, hK x H' h2, h3, h4, h5, h6, h7⟩
theorem val_lift6 {F : Fns} (hF : FnsOk Tryz.prog F D.G1) {n : Nat} {f : FuncId} {fn : Func} (hf : Tryz.prog.funcs[f]? = some fn) {ws : List W} {x : V} (hx : x.bnd 0 = true) (hr : rngW ws) (hb : bndW 0 ws = true)
    (h : walk6 F n fn ws [] fun y _ => y = x) (σ : Sg) (w : World) (hg : GW D.G1 w) : Calls Tryz.prog f (ws.map (W.den σ)).toArray w fun e w' => ∃ v, e = .returned v ∧ x.rep σ v ∧ Below w.heap.size w w' :=
  call_roG (R := []) E6_ok (cal6_ok hF n) (drwY_ok E6_ok hF mixed _ (cal6_ok hF n)) hf hx hr hb h C.nil_ok σ w (fun j b hj => by simp at hj) hg
theorem set_get {H : List Blk} {j : Nat} {b x : Blk} (h : H[j]? = some x) : (H.set j b)[j]? = some b := List.getElem?_set_self (List.getElem?_eq_some_iff.1 h).1
theorem setH_up {H : List Blk} {j : Nat} {T : Nat} {ss : List Seg} {b' : Blk} {K : List Blk → Prop} (hj : H[j]? = some (.own T ss)) (hH : ∀ b ∈ H, b.bnd H.length = true) (hb : b'.bnd H.length = true)
    (k : ∀ H', H' = H.set j b' → UpT [T] H H' → H'[j]? = some b' → K H') : setH H j b' K :=
  setH_at (k _ rfl ((UpT.refl hH).put hj (by simp) hb) (set_get hj))
theorem get_blt {H : List Blk} {j : Nat} {b : Blk} (h : H[j]? = some b) : decide (j < H.length) = true := decide_eq_true (List.getElem?_eq_some_iff.1 h).1
theorem segTake_zero {K : List Seg → Prop} : ∀ {b : List Seg}, K [] → segTake b 0 K
  | [], h => h
  | .one _ :: _, h => h
  | .ints _ _ _ :: _, h => h
theorem oneAt_rows {rs : List (List Seg)} {c : C} {r : List Seg} (h : rs[0]? = some (.one c :: r)) : oneAt rs.flatten 0 = true := by
  cases rs with
  | nil => cases h
  | cons a rs =>
    obtain rfl : a = .one c :: r := by simpa using h
    rfl
theorem load_row {P : Program} {T : TypeId} {n : Nat} {rs : List (List Seg)} {K : W → Prop} (ht : isAg (tyOf P T) = some false) (h : ∀ r ∈ rs, rowOk n r) (h0 : oneAt rs.flatten 0 = true) {i f p : Nat} {r : List Seg} (hi : rs[i]? = some r) (hp : p = i * n + f)
    (hK : ∀ b, segAt (r ++ b) f fun c => K (.c c)) : kLoad P T rs.flatten 0 (some p) K := by
  subst hp
  unfold kLoad
  simp only [h0]
  unfold kLoad0
  rw [ht, Nat.zero_add]
  exact segAt_row h hi hK
theorem load0_rowS {P : Program} {T : TypeId} {n : Nat} {rs : List (List Seg)} {K : W → Prop} (ht : isAg (tyOf P T) = some true) {inf : TypeInfo} (hinf : P.info? T = some inf) (h : ∀ r ∈ rs, rowOk n r) {i f p : Nat} {r : List Seg} (hi : rs[i]? = some r) (hp : p = i * n + f)
    (hK : ∀ b, segRd (r ++ b) f inf.size fun q => K (.agg q)) : kLoad0 P T rs.flatten p none K := by
  subst hp
  unfold kLoad0
  rw [ht]
  simp only [hinf]
  exact segRd_row h hi hK
abbrev dskS (m1 : Nat) (v : C) (m2 : Nat) : List Seg := [.one (.ci .i64 96), .one (.cm m1), .one v, .one (.cb false), .one (.ci .i64 (-1)), .one (.cm m2)]
abbrev dskB (m1 : Nat) (v : C) (m2 : Nat) : Blk := .own 77 (dskS m1 v m2)
abbrev wRow (i : Nat) (bs : List Int) : List Seg := [.one (.ci .i64 (i : Int)), .ints .u8 64 bs]
def wRows (ws : List (List Int)) : List (List Seg) := ws.mapIdx wRow
structure DskAt (H : List Blk) (j : Nat) (ws : List (List Int)) : Prop where
  ex : ∃ m1 v m2, H[j]? = some (dskB m1 v m2) ∧ H[m1]? = some (.obj emptyM) ∧ H[m2]? = some (.obj mapJ) ∧ SlAt 131 65 H v (wRows ws)
  len : ws.length ≤ 96
theorem DskAt.up {Ts : List Nat} {H H' : List Blk} {j : Nat} {ws : List (List Int)} (h : DskAt H j ws) (u : UpT Ts H H') (h1 : Ts.elem 77 = false) (h2 : Ts.elem 131 = false) : DskAt H' j ws := by
  obtain ⟨m1, v, m2, a1, a2, a3, a4⟩ := h.ex
  exact ⟨⟨m1, v, m2, u.keep _ _ a1 (by simp only [freeB, h1]; rfl), u.keep _ _ a2 rfl, u.keep _ _ a3 rfl, a4.up u h2⟩, h.len⟩
abbrev pgZ : List Int := List.replicate 64 0
def rdW (ws : List (List Int)) (i : Nat) : List Int := (ws[i]?).getD pgZ
abbrev pgW (bs : List Int) : W := .agg [.ints .u8 64 bs]
theorem wRows_len (ws : List (List Int)) : (wRows ws).length = ws.length := by simp [wRows]
theorem wRows_get {ws : List (List Int)} {k : Nat} {bs : List Int} (h : ws[k]? = some bs) : (wRows ws)[k]? = some (wRow k bs) := by simp [wRows, h]
theorem wRows_app (ws : List (List Int)) (bs : List Int) : wRows (ws ++ [bs]) = wRows ws ++ [wRow ws.length bs] := by simp [wRows]
noncomputable def FDk : Fns := ((F0.into 51 Tryz.f51).into 153 Tryz.f153).into 29 Tryz.f29
theorem FDk_ok : FnsOk Tryz.prog FDk D.G1 := ((D.F0_okg.into Tryz.func51 (by kernel_rfl) (by kernel_rfl)).into Tryz.func153 (by kernel_rfl) (by kernel_rfl)).into Tryz.func29 (by kernel_rfl) (by kernel_rfl)
theorem intZ3 : intZ Tryz.prog 3 := ⟨Tryz.prog.types[3], by kernel_rfl, by kernel_rfl⟩
theorem dread_walk {H : List Blk} (hH : HOk H) {j : Nat} {ws : List (List Int)} (hd : DskAt H j ws) {i : Nat} (hi : i < 96) : walk6 FDk 1 Tryz.f30 [.c (.cp j 0), i64 i] H fun y H' => y = .tup [pgW (rdW ws i), i64 0] ∧ UpT [] H H' := by
  obtain ⟨m1, v, m2, hj, h1, h2, hs⟩ := hd.ex
  have u0 : UpT [] H H := UpT.refl hH.bnd
  have u1 : UpT [] H (H ++ [.own 98 [.ints .u8 64 pgZ]]) := u0.app rfl
  repeat' ((conv => whnf); first | (refine lenH_is ?_) | (refine pushH_at ?_) | (refine setH_as (set_top _ _ _) ?_) | (refine setH_as (set_low _ _ _ _) ?_) | (refine setH_as (set_top' _ _ _ _ _) ?_) | (refine hGet_at (up_get hj) ?_) | (refine And.intro ?_ trivial) | (refine And.intro rfl ?_) | (refine And.intro (And.intro (by decide) (by decide)) ?_) | (refine And.intro (And.intro (by decide) (And.intro (by decide) (by decide))) ?_) | (refine And.intro (Nat.le_of_ble_eq_true rfl) (And.intro (Nat.le_of_ble_eq_true rfl) ?_)) | (refine And.intro (Nat.le_of_ble_eq_true rfl) ?_) | (refine ask_false (by omega) ?_) | (refine ask_true (by omega) ?_) | (refine ask_wrap64 (by omega) (by omega) ?_) | (refine And.intro (And.intro (by omega) (by omega)) ?_) | (refine fun (_ : InK _ _) => ?_) | (refine ⟨by kernel_rfl, ?_⟩) | fail)
  conv => whnf
  refine .inr ⟨up_get h2, intZ3, fun n hn => ?_⟩
  conv => whnf
  refine fun n' hn' => ?_
  conv => whnf
  refine And.intro (up_get h2) ?_
  repeat' ((conv => whnf); first | (refine lenH_is ?_) | (refine pushH_at ?_) | (refine setH_as (set_top _ _ _) ?_) | (refine setH_as (set_low _ _ _ _) ?_) | (refine setH_as (set_top' _ _ _ _ _) ?_) | (refine hGet_at (up_get hj) ?_) | (refine And.intro ?_ trivial) | (refine And.intro rfl ?_) | (refine And.intro (And.intro (by decide) (by decide)) ?_) | (refine And.intro (And.intro (by decide) (And.intro (by decide) (by decide))) ?_) | (refine And.intro (Nat.le_of_ble_eq_true rfl) (And.intro (Nat.le_of_ble_eq_true rfl) ?_)) | (refine And.intro (Nat.le_of_ble_eq_true rfl) ?_) | (refine ask_false (by omega) ?_) | (refine ask_true (by omega) ?_) | (refine ask_wrap64 (by omega) (by omega) ?_) | (refine And.intro (And.intro (by omega) (by omega)) ?_) | (refine fun (_ : InK _ _) => ?_) | (refine ⟨by kernel_rfl, ?_⟩) | fail)
  have dj := get_blt (up_get (N := [.own 98 [.ints .u8 64 pgZ]]) hj)
  have dH : decide (H.length < (H ++ [Blk.own 98 [.ints .u8 64 pgZ]]).length) = true := get_blt (up_top _ _)
  have hl := wRows_len ws
  have hlen := hd.len
  have fin : rdW ws i = pgZ → ∀ H', H' = H ++ [.own 98 [.ints .u8 64 pgZ]] → (V.tup [pgW pgZ, i64 0] : V) = .tup [pgW (rdW ws i), i64 0] ∧ UpT [] H H' := fun e H' eH => by rw [e, eH]; exact ⟨rfl, u1⟩
  rcases hs with ⟨hn0, rfl⟩ | ⟨hn0, q, rest, rfl, hcap, hrows, hq⟩
  · have hws : ws = [] := by
      have : ws.length = 0 := by rw [← hl, hn0]; rfl
      exact List.eq_nil_of_length_eq_zero this
    repeat' ((conv => whnf); first | (refine lenH_is ?_) | (refine pushH_at ?_) | (refine setH_as (set_top _ _ _) ?_) | (refine setH_as (set_low _ _ _ _) ?_) | (refine setH_as (set_top' _ _ _ _ _) ?_) | (refine hGet_at (up_get hj) ?_) | (refine And.intro ?_ trivial) | (refine And.intro rfl ?_) | (refine And.intro (And.intro (by decide) (by decide)) ?_) | (refine And.intro (And.intro (by decide) (And.intro (by decide) (by decide))) ?_) | (refine And.intro (Nat.le_of_ble_eq_true rfl) (And.intro (Nat.le_of_ble_eq_true rfl) ?_)) | (refine And.intro (Nat.le_of_ble_eq_true rfl) ?_) | (refine ask_false (by omega) ?_) | (refine ask_true (by omega) ?_) | (refine ask_wrap64 (by omega) (by omega) ?_) | (refine And.intro (And.intro (by omega) (by omega)) ?_) | (refine fun (_ : InK _ _) => ?_) | (refine ⟨by kernel_rfl, ?_⟩) | fail)
    conv => whnf
    refine loop_upJ (7 :: List.range' 8 48) (fun m (k : Nat) => m = 0 ∧ k = 0) (fun k => [(7, vi (-1))]) (fun _ => H ++ [.own 98 [.ints .u8 64 pgZ]]) 0 (0 : Nat) ⟨rfl, rfl⟩ ?_ ?_ ?_
    · rintro m k _
      repeat' (first | rfl | exact dj | exact dH | refine and_t ?_ ?_)
    · exact ⟨rfl, ⟨⟨Nat.le_of_ble_eq_true rfl, rfl⟩, trivial⟩, wkH_refl _, bndH_of u1.bnd, u1.len⟩
    · rintro m k ⟨rfl, rfl⟩
      repeat' ((conv => whnf); first | (refine lenH_is ?_) | (refine pushH_at ?_) | (refine setH_as (set_top _ _ _) ?_) | (refine setH_as (set_low _ _ _ _) ?_) | (refine setH_as (set_top' _ _ _ _ _) ?_) | (refine hGet_at (up_get hj) ?_) | (refine And.intro ?_ trivial) | (refine And.intro rfl ?_) | (refine And.intro (And.intro (by decide) (by decide)) ?_) | (refine And.intro (And.intro (by decide) (And.intro (by decide) (by decide))) ?_) | (refine And.intro (Nat.le_of_ble_eq_true rfl) (And.intro (Nat.le_of_ble_eq_true rfl) ?_)) | (refine And.intro (Nat.le_of_ble_eq_true rfl) ?_) | (refine ask_false (by omega) ?_) | (refine ask_true (by omega) ?_) | (refine ask_wrap64 (by omega) (by omega) ?_) | (refine And.intro (And.intro (by omega) (by omega)) ?_) | (refine fun (_ : InK _ _) => ?_) | (refine ⟨by kernel_rfl, ?_⟩) | fail)
      conv => whnf
      refine .inl ⟨up_get h1, rfl, ?_⟩
      repeat' ((conv => whnf); first | (refine hGet_at (up_top _ _) ?_) | (refine setH_as (set_top _ _ _) ?_) | fail)
      refine fin ?_ _ rfl
      rw [hws]; rfl
  · repeat' ((conv => whnf); first | (refine lenH_is ?_) | (refine pushH_at ?_) | (refine setH_as (set_top _ _ _) ?_) | (refine setH_as (set_low _ _ _ _) ?_) | (refine setH_as (set_top' _ _ _ _ _) ?_) | (refine hGet_at (up_get hj) ?_) | (refine And.intro ?_ trivial) | (refine And.intro rfl ?_) | (refine And.intro (And.intro (by decide) (by decide)) ?_) | (refine And.intro (And.intro (by decide) (And.intro (by decide) (by decide))) ?_) | (refine And.intro (Nat.le_of_ble_eq_true rfl) (And.intro (Nat.le_of_ble_eq_true rfl) ?_)) | (refine And.intro (Nat.le_of_ble_eq_true rfl) ?_) | (refine ask_false (by omega) ?_) | (refine ask_true (by omega) ?_) | (refine ask_wrap64 (by omega) (by omega) ?_) | (refine And.intro (And.intro (by omega) (by omega)) ?_) | (refine fun (_ : InK _ _) => ?_) | (refine ⟨by kernel_rfl, ?_⟩) | fail)
    conv => whnf
    refine loop_upJ (7 :: List.range' 8 48) (fun m (k : Nat) => (m = k ∧ k ≤ (wRows ws).length) ∧ ∀ p : Nat, k ≤ p → p < ws.length → p ≠ i) (fun k => [(7, vi ((k : Int) - 1))]) (fun _ => H ++ [.own 98 [.ints .u8 64 pgZ]]) (wRows ws).length (wRows ws).length ⟨⟨rfl, Nat.le_refl _⟩, fun p h1 h2 => by omega⟩ ?_ ?_ ?_
    · rintro m k _
      repeat' (first | rfl | exact dj | exact dH | refine and_t ?_ ?_)
    · exact ⟨rfl, ⟨⟨Nat.le_of_ble_eq_true rfl, rfl⟩, trivial⟩, wkH_refl _, bndH_of u1.bnd, u1.len⟩
    · rintro m k ⟨⟨rfl, k1⟩, k2⟩
      rcases Nat.eq_zero_or_pos m with rfl | hk
      · repeat' ((conv => whnf); first | (refine lenH_is ?_) | (refine pushH_at ?_) | (refine setH_as (set_top _ _ _) ?_) | (refine setH_as (set_low _ _ _ _) ?_) | (refine setH_as (set_top' _ _ _ _ _) ?_) | (refine hGet_at (up_get hj) ?_) | (refine And.intro ?_ trivial) | (refine And.intro rfl ?_) | (refine And.intro (And.intro (by decide) (by decide)) ?_) | (refine And.intro (And.intro (by decide) (And.intro (by decide) (by decide))) ?_) | (refine And.intro (Nat.le_of_ble_eq_true rfl) (And.intro (Nat.le_of_ble_eq_true rfl) ?_)) | (refine And.intro (Nat.le_of_ble_eq_true rfl) ?_) | (refine ask_false (by omega) ?_) | (refine ask_true (by omega) ?_) | (refine ask_wrap64 (by omega) (by omega) ?_) | (refine And.intro (And.intro (by omega) (by omega)) ?_) | (refine fun (_ : InK _ _) => ?_) | (refine ⟨by kernel_rfl, ?_⟩) | fail)
        conv => whnf
        refine .inl ⟨up_get h1, rfl, ?_⟩
        repeat' ((conv => whnf); first | (refine hGet_at (up_top _ _) ?_) | (refine setH_as (set_top _ _ _) ?_) | fail)
        refine fin ?_ _ rfl
        unfold rdW
        rw [List.getElem?_eq_none (by
          rcases Nat.lt_or_ge i ws.length with h | h
          · exact absurd rfl (k2 i (Nat.zero_le _) h)
          · exact h)]
        rfl
      · have e131 : mulN ((m : Int) - 1).toNat (Tryz.prog.types[131]).size = (m - 1) * 65 := by
          rw [show (Tryz.prog.types[131]).size = 65 by kernel_rfl, mulN_eq, show ((m : Int) - 1).toNat = m - 1 by omega]
        obtain ⟨bs, hbs⟩ : ∃ bs, ws[m - 1]? = some bs := ⟨_, List.getElem?_eq_getElem (by omega)⟩
        have hrow := wRows_get hbs
        have hrow' : (wRows ws ++ rest)[m - 1]? = some (wRow (m - 1) bs) := by
          rw [List.getElem?_append_left (by omega)]; exact hrow
        have h0 : oneAt (wRows ws ++ rest).flatten 0 = true := by
          obtain ⟨b0, hb0⟩ : ∃ b0, ws[0]? = some b0 := ⟨_, List.getElem?_eq_getElem (by omega)⟩
          exact oneAt_rows (by rw [List.getElem?_append_left (by omega)]; exact wRows_get hb0)
        repeat' ((conv => whnf); first | (refine lenH_is ?_) | (refine pushH_at ?_) | (refine setH_as (set_top _ _ _) ?_) | (refine setH_as (set_low _ _ _ _) ?_) | (refine setH_as (set_top' _ _ _ _ _) ?_) | (refine hGet_at (up_get hj) ?_) | (refine And.intro ?_ trivial) | (refine And.intro rfl ?_) | (refine And.intro (And.intro (by decide) (by decide)) ?_) | (refine And.intro (And.intro (by decide) (And.intro (by decide) (by decide))) ?_) | (refine And.intro (Nat.le_of_ble_eq_true rfl) (And.intro (Nat.le_of_ble_eq_true rfl) ?_)) | (refine And.intro (Nat.le_of_ble_eq_true rfl) ?_) | (refine ask_false (by omega) ?_) | (refine ask_true (by omega) ?_) | (refine ask_wrap64 (by omega) (by omega) ?_) | (refine And.intro (And.intro (by omega) (by omega)) ?_) | (refine fun (_ : InK _ _) => ?_) | (refine ⟨by kernel_rfl, ?_⟩) | fail)
        refine hGet_at (up_get hq) ?_
        refine load_row (by kernel_rfl) hrows h0 hrow' (f := 0) (by rw [e131]; show 0 + (m - 1) * 65 + 0 = (m - 1) * 65 + 0; omega) fun b => ?_
        rcases Classical.em (((m - 1 : Nat) : Int) = (i : Int)) with g | g
        · repeat' ((conv => whnf); first | (refine lenH_is ?_) | (refine pushH_at ?_) | (refine setH_as (set_top _ _ _) ?_) | (refine setH_as (set_low _ _ _ _) ?_) | (refine setH_as (set_top' _ _ _ _ _) ?_) | (refine hGet_at (up_get hj) ?_) | (refine And.intro ?_ trivial) | (refine And.intro rfl ?_) | (refine And.intro (And.intro (by decide) (by decide)) ?_) | (refine And.intro (And.intro (by decide) (And.intro (by decide) (by decide))) ?_) | (refine And.intro (Nat.le_of_ble_eq_true rfl) (And.intro (Nat.le_of_ble_eq_true rfl) ?_)) | (refine And.intro (Nat.le_of_ble_eq_true rfl) ?_) | (refine ask_false (by omega) ?_) | (refine ask_true (by omega) ?_) | (refine ask_wrap64 (by omega) (by omega) ?_) | (refine And.intro (And.intro (by omega) (by omega)) ?_) | (refine fun (_ : InK _ _) => ?_) | (refine ⟨by kernel_rfl, ?_⟩) | fail)
          refine hGet_at (up_get hq) ?_
          refine load0_rowS (by kernel_rfl) (inf := Tryz.prog.types[98]) (by kernel_rfl) hrows hrow' (f := 1) (by rw [e131]; show 0 + (0 + (m - 1) * 65 + 1) = (m - 1) * 65 + 1; omega) fun b => ?_
          conv => whnf
          refine segTake_zero ?_
          repeat' ((conv => whnf); first | (refine hGet_at (up_top _ _) ?_) | (refine setH_as (set_top _ _ _) ?_) | fail)
          have e : rdW ws i = bs := by
            unfold rdW
            rw [show i = m - 1 by omega, hbs]; rfl
          rw [e]
          refine ⟨rfl, u0.app ?_⟩
          rfl
        · repeat' ((conv => whnf); first | (refine lenH_is ?_) | (refine pushH_at ?_) | (refine setH_as (set_top _ _ _) ?_) | (refine setH_as (set_low _ _ _ _) ?_) | (refine setH_as (set_top' _ _ _ _ _) ?_) | (refine hGet_at (up_get hj) ?_) | (refine And.intro ?_ trivial) | (refine And.intro rfl ?_) | (refine And.intro (And.intro (by decide) (by decide)) ?_) | (refine And.intro (And.intro (by decide) (And.intro (by decide) (by decide))) ?_) | (refine And.intro (Nat.le_of_ble_eq_true rfl) (And.intro (Nat.le_of_ble_eq_true rfl) ?_)) | (refine And.intro (Nat.le_of_ble_eq_true rfl) ?_) | (refine ask_false (by omega) ?_) | (refine ask_true (by omega) ?_) | (refine ask_wrap64 (by omega) (by omega) ?_) | (refine And.intro (And.intro (by omega) (by omega)) ?_) | (refine fun (_ : InK _ _) => ?_) | (refine ⟨by kernel_rfl, ?_⟩) | fail)
          refine ⟨m - 1, m - 1, by omega, ⟨⟨rfl, by omega⟩, fun p p1 p2 => ?_⟩, ⟨rfl, ⟨⟨Nat.le_of_ble_eq_true rfl, ?_⟩, trivial⟩, wkH_refl _, bndH_of u1.bnd, u1.len⟩⟩
          · rcases Nat.eq_or_lt_of_le p1 with h | h
            · omega
            · exact k2 p (by omega) p2
          · show vi ((m : Int) - 1 - 1) = vi (((m - 1 : Nat) : Int) - 1)
            rw [show ((m - 1 : Nat) : Int) = (m : Int) - 1 by omega]
def hDRead : HCt := fun ws H K => match ws with
  | [.c (.cp j 0), .c (.ci .i64 i)] => ∃ (us : List (List Int)) (k : Nat), DskAt H j us ∧ (k < 96 ∧ i = k) ∧ ∀ H', UpT [] H H' → K (.tup [pgW (rdW us k), i64 0]) H'
  | _ => False
theorem dread_ct : HCtOkG Tryz.prog D.G1 30 hDRead := by
  intro ws H K h hr hb ho σ base w₀ w hw
  unfold hDRead at h
  split at h
  · rename_i j i
    obtain ⟨us, k, hd, ⟨hk, rfl⟩, hK⟩ := h
    exact heap_lift6 FDk_ok Tryz.func30 (ws := [.c (.cp j 0), i64 k]) hr hb ho (dread_walk ho hd hk) (fun x H' hP => by
      obtain ⟨rfl, u⟩ := hP
      exact hK H' u) σ base w₀ w hw
  · exact h.elim
theorem zero_write : ∃ zs, zeroS Tryz.prog 131 (fun q => q = zs) ∧ rowOk (Tryz.prog.types[131]).size zs := ⟨[.one (.ci .i64 0), .ints .u8 64 pgZ], by (conv => whnf); rfl, by kernel_rfl, rfl⟩
theorem dsk_bnd {n m1 m2 : Nat} {v v' : C} (h : (dskB m1 v m2).bnd n = true) (hv : v'.bnd n = true) : (dskB m1 v' m2).bnd n = true := by
  simp only [Blk.bnd, bnds, Seg.bnd, C.bnd, Bool.and_eq_true] at h ⊢
  exact ⟨h.1, h.2.1, hv, h.2.2.2⟩
theorem dwrite_fin {H H' : List Blk} (hH : HOk H) {j m1 m2 : Nat} {v v' : C} {ws : List (List Int)} (hl : ws.length ≤ 96) (hi : ws.length < 96) {bs : List Int} {a b : Blk} (hj : H[j]? = some (dskB m1 v m2)) (h1 : H[m1]? = some (.obj emptyM)) (h2 : H[m2]? = some (.obj mapJ))
    (u : UpT [131] (H ++ [a] ++ [b]) H') (hab : (a.bnd 0 && b.bnd 0) = true) (s : SlAt 131 65 H' v' (wRows ws ++ [wRow ws.length bs])) :
    UpT [77, 131] H (H'.set j (dskB m1 v' m2)) ∧ DskAt (H'.set j (dskB m1 v' m2)) j (ws ++ [bs]) := by
  have hj' := u.keep _ _ (up_get (up_get hj)) rfl
  have hab' := Bool.and_eq_true _ _ ▸ hab
  have hb := dsk_bnd (u.bnd _ (List.mem_of_getElem? hj')) s.bnd
  have u2 : UpT [77] H' (H'.set j (dskB m1 v' m2)) := (UpT.refl u.bnd).put hj' rfl hb
  have u0 : UpT [77, 131] H (H ++ [a] ++ [b]) := ((UpT.refl hH.bnd).app (blk_up (Nat.zero_le _) _ hab'.1)).app (blk_up (Nat.zero_le _) _ hab'.2)
  refine ⟨(u0.trans (u.mono fun t ht => ?_)).trans (u2.mono fun t ht => ?_), ⟨m1, v', m2, set_get hj', u2.keep _ _ (u.keep _ _ (up_get (up_get h1)) rfl) rfl, u2.keep _ _ (u.keep _ _ (up_get (up_get h2)) rfl) rfl, ?_⟩, by simp; omega⟩
  · simp at ht ⊢; exact .inr ht
  · simp at ht ⊢; exact .inl ht
  · rw [wRows_app]; exact s.up u2 rfl
theorem dwrite_walk {H : List Blk} (hH : HOk H) {j : Nat} {ws : List (List Int)} (hd : DskAt H j ws) (hi : ws.length < 96) {bs : List Int} : walk6 FDk 1 Tryz.f131 [.c (.cp j 0), i64 ws.length, pgW bs] H fun y H' => y = vi 0 ∧ UpT [77, 131] H H' ∧ DskAt H' j (ws ++ [bs]) := by
  obtain ⟨m1, v, m2, hj, h1, h2, hs⟩ := hd.ex
  have u0 : UpT [77, 131] H H := UpT.refl hH.bnd
  have u1 : UpT [77, 131] H (H ++ [.own 98 [.ints .u8 64 bs]]) := u0.app rfl
  have hl := wRows_len ws
  repeat' ((conv => whnf); first | (refine lenH_is ?_) | (refine pushH_at ?_) | (refine hGet_at (up_get hj) ?_) | (refine setH_as (set_same (up_get hj)) ?_) | (refine ask_false (by omega) ?_) | (refine ask_true (by omega) ?_) | (refine ask_wrap64 (by omega) (by omega) ?_) | fail)
  conv => whnf
  refine red_each (by kernel_rfl) ?_
  repeat' ((conv => whnf); first | (refine lenH_is ?_) | (refine pushH_at ?_) | (refine hGet_at (up_get hj) ?_) | (refine hGet_at (up_top _ _) ?_) | (refine hGet_at (up_get (up_top _ _)) ?_) | (refine hGet_at (up_get (up_get hj)) ?_) | (refine And.intro ⟨rfl, (by kernel_rfl), Nat.le_of_ble_eq_true (by kernel_rfl), Nat.le_of_ble_eq_true (by kernel_rfl)⟩ ?_) | (refine And.intro (by kernel_rfl) ?_) | (refine And.intro ⟨rfl, zero_write⟩ ⟨[wRow ws.length bs], NewAt.one (up_top _ _) ⟨by kernel_rfl, rfl⟩, .inl ⟨wRows ws, hs.up (((UpT.refl (Ts := []) hH.bnd).app rfl).app rfl) rfl, ⟨(by simp only [List.length_singleton]; omega), Nat.le_trans (Nat.mul_le_mul_right _ (show _ ≤ 200 by simp only [List.length_singleton]; omega)) (Nat.le_of_ble_eq_true (by kernel_rfl))⟩, fun v' H' u s _ => ?_⟩⟩) | (refine And.intro ?_ (And.intro ?_ trivial)) | (refine And.intro ?_ trivial) | fail)
  all_goals
    have hj' := u.keep _ _ (up_get (up_get hj)) rfl
    repeat' ((conv => whnf); first | (refine hGet_at hj' ?_) | (refine setH_at ?_) | (refine And.intro ?_ trivial) | fail)
    exact ⟨rfl, dwrite_fin hH hd.len hi hj h1 h2 u rfl s⟩
def hDWrite : HCt := fun ws H K => match ws with
  | [.c (.cp j 0), .c (.ci .i64 i), .agg [.ints .u8 n bs]] => ∃ us : List (List Int), DskAt H j us ∧ (us.length < 96 ∧ i = (us.length : Int) ∧ n = 64) ∧ ∀ H', UpT [77, 131] H H' → DskAt H' j (us ++ [bs]) → K (vi 0) H'
  | _ => False
theorem dwrite_ct : HCtOkG Tryz.prog D.G1 131 hDWrite := by
  intro ws H K h hr hb ho σ base w₀ w hw
  unfold hDWrite at h
  split at h
  · rename_i j i n bs
    obtain ⟨us, hd, ⟨hk, rfl, rfl⟩, hK⟩ := h
    exact heap_lift6 FDk_ok Tryz.func131 (ws := [.c (.cp j 0), i64 us.length, pgW bs]) hr hb ho (dwrite_walk ho hd hk) (fun x H' hP => by
      obtain ⟨rfl, u, d⟩ := hP
      exact hK H' u d) σ base w₀ w hw
  · exact h.elim
theorem dnew_walk {H : List Blk} (hH : HOk H) : walk6 F0 0 Tryz.f6 [i64 96] H fun y H' => ∃ j, y = .tup [.c (.cp j 0), i64 0] ∧ UpT [] H H' ∧ DskAt H' j [] := by
  repeat' ((conv => whnf); first | (refine lenH_is ?_) | (refine pushH_at ?_) | (refine setH_as (set_top _ _ _) ?_) | (refine setH_as (set_low _ _ _ _) ?_) | (refine setH_as (set_top' _ _ _ _ _) ?_) | (refine hGet_at (up_top _ _) ?_) | (refine And.intro ?_ trivial) | (refine And.intro rfl ?_) | (refine And.intro (And.intro (by decide) (by decide)) ?_) | (refine And.intro (And.intro (by decide) (And.intro (by decide) (by decide))) ?_) | (refine And.intro (Nat.le_of_ble_eq_true rfl) (And.intro (Nat.le_of_ble_eq_true rfl) ?_)) | (refine And.intro (Nat.le_of_ble_eq_true rfl) ?_) | (refine ask_false (by omega) ?_) | (refine ask_true (by omega) ?_) | (refine ask_wrap64 (by omega) (by omega) ?_) | (refine And.intro (And.intro (by omega) (by omega)) ?_) | (refine fun (_ : InK _ _) => ?_) | (refine ⟨by kernel_rfl, ?_⟩) | fail)
  conv => whnf
  refine ⟨emptyM, rfl, ?_⟩
  repeat' ((conv => whnf); first | (refine lenH_is ?_) | (refine pushH_at ?_) | (refine setH_as (set_top _ _ _) ?_) | (refine setH_as (set_low _ _ _ _) ?_) | (refine setH_as (set_top' _ _ _ _ _) ?_) | (refine hGet_at (up_top _ _) ?_) | (refine And.intro ?_ trivial) | (refine And.intro rfl ?_) | (refine And.intro (And.intro (by decide) (by decide)) ?_) | (refine And.intro (And.intro (by decide) (And.intro (by decide) (by decide))) ?_) | (refine And.intro (Nat.le_of_ble_eq_true rfl) (And.intro (Nat.le_of_ble_eq_true rfl) ?_)) | (refine And.intro (Nat.le_of_ble_eq_true rfl) ?_) | (refine ask_false (by omega) ?_) | (refine ask_true (by omega) ?_) | (refine ask_wrap64 (by omega) (by omega) ?_) | (refine And.intro (And.intro (by omega) (by omega)) ?_) | (refine fun (_ : InK _ _) => ?_) | (refine ⟨by kernel_rfl, ?_⟩) | fail)
  conv => whnf
  refine ⟨mapJ, ⟨#[], 0, rfl, fun e he => by simp at he⟩, ?_⟩
  repeat' ((conv => whnf); first | (refine lenH_is ?_) | (refine pushH_at ?_) | (refine setH_as (set_top _ _ _) ?_) | (refine setH_as (set_low _ _ _ _) ?_) | (refine setH_as (set_top' _ _ _ _ _) ?_) | (refine hGet_at (up_top _ _) ?_) | (refine And.intro ?_ trivial) | (refine And.intro rfl ?_) | (refine And.intro (And.intro (by decide) (by decide)) ?_) | (refine And.intro (And.intro (by decide) (And.intro (by decide) (by decide))) ?_) | (refine And.intro (Nat.le_of_ble_eq_true rfl) (And.intro (Nat.le_of_ble_eq_true rfl) ?_)) | (refine And.intro (Nat.le_of_ble_eq_true rfl) ?_) | (refine ask_false (by omega) ?_) | (refine ask_true (by omega) ?_) | (refine ask_wrap64 (by omega) (by omega) ?_) | (refine And.intro (And.intro (by omega) (by omega)) ?_) | (refine fun (_ : InK _ _) => ?_) | (refine ⟨by kernel_rfl, ?_⟩) | fail)
  conv => whnf
  refine ⟨_, rfl, (((UpT.refl hH.bnd).app rfl).app rfl).app ?_, ⟨⟨_, _, _, up_top _ _, up_get (up_get (up_top _ _)), up_get (up_top _ _), .nil⟩, Nat.zero_le _⟩⟩
  simp [Blk.bnd, bnds, Seg.bnd, C.bnd, W.segs]
  omega
def hDNew : HCt := fun ws H K => match ws with
  | [.c (.ci .i64 n)] => n = 96 ∧ ∀ j H', UpT [] H H' → DskAt H' j [] → K (.tup [.c (.cp j 0), i64 0]) H'
  | _ => False
theorem dnew_ct : HCtOkG Tryz.prog D.G1 6 hDNew := by
  intro ws H K h hr hb ho σ base w₀ w hw
  unfold hDNew at h
  split at h
  · obtain ⟨rfl, hK⟩ := h
    exact heap_lift6 D.F0_okg Tryz.func6 (n := 0) (ws := [i64 96]) hr hb ho (dnew_walk ho) (fun x H' hP => by
      obtain ⟨j, rfl, u, d⟩ := hP
      exact hK j H' u d) σ base w₀ w hw
  · exact h.elim
end R
end Go.Proofs.YtaficaacogcblaaGreatDoor
