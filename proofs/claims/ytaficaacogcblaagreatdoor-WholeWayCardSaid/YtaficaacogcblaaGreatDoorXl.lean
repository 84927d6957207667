/- Steps of a walk: lemmas by which what is asked is answered. -/
import Derived.Test.YtaficaacogcblaaGreatDoorXk
set_option linter.all false
namespace Go.Proofs.YtaficaacogcblaaGreatDoor

theorem ask_wrap64 {e : Int} {K : Int → Prop} (h1 : -9223372036854775808 ≤ e) (h2 : e ≤ 9223372036854775807) (hk : K e) : ∀ r, r = IntKind.i64.wrap e → K r := by
  rintro r rfl
  rw [wrap_of_in (k := .i64) ⟨h1, h2⟩]; exact hk
theorem ask_wrapu8 {e : Int} {K : Int → Prop} (h1 : 0 ≤ e) (h2 : e ≤ 255) (hk : K e) : ∀ r, r = IntKind.u8.wrap e → K r := by
  rintro r rfl
  rw [wrap_of_in (k := .u8) ⟨h1, h2⟩]; exact hk
theorem ask_wrapu32 {e : Int} {K : Int → Prop} (h1 : 0 ≤ e) (h2 : e ≤ 4294967295) (hk : K e) : ∀ r, r = IntKind.u32.wrap e → K r := by
  rintro r rfl
  rw [wrap_of_in (k := .u32) ⟨h1, h2⟩]; exact hk
theorem ask_wrapu64 {e : Int} {K : Int → Prop} (h1 : 0 ≤ e) (h2 : e ≤ 18446744073709551615) (hk : K e) : ∀ r, r = IntKind.u64.wrap e → K r := by
  rintro r rfl
  rw [wrap_of_in (k := .u64) ⟨h1, h2⟩]; exact hk
theorem ask_wrap32 {e : Int} {K : Int → Prop} (h1 : -2147483648 ≤ e) (h2 : e ≤ 2147483647) (hk : K e) : ∀ r, r = IntKind.i32.wrap e → K r := by
  rintro r rfl
  rw [wrap_of_in (k := .i32) ⟨h1, h2⟩]; exact hk
theorem ask_true {p : Prop} [Decidable p] {K : Bool → Prop} (h : p) (hk : K true) : ∀ t, t = decide p → K t := by
  rintro t rfl
  rw [decide_eq_true h]; exact hk
theorem ask_false {p : Prop} [Decidable p] {K : Bool → Prop} (h : ¬ p) (hk : K false) : ∀ t, t = decide p → K t := by
  rintro t rfl
  rw [decide_eq_false h]; exact hk
theorem ask_split {p : Prop} [Decidable p] {K : Bool → Prop} (h1 : p → K true) (h2 : ¬ p → K false) : ∀ t, t = decide p → K t := by
  by_cases h : p
  · exact ask_true h (h1 h)
  · exact ask_false h (h2 h)
theorem ask_in64 {x : Int} {K : Prop} (h : -9223372036854775808 ≤ x → x ≤ 9223372036854775807 → K) : InK .i64 x → K := fun hx => h hx.1 hx.2
theorem ask_inu8 {x : Int} {K : Prop} (h : 0 ≤ x → x ≤ 255 → K) : InK .u8 x → K := fun hx => h hx.1 hx.2
theorem ask_inu32 {x : Int} {K : Prop} (h : 0 ≤ x → x ≤ 4294967295 → K) : InK .u32 x → K := fun hx => h hx.1 hx.2
theorem ask_is {α : Type} {e f : α} {K : α → Prop} (h : e = f) (hk : K f) : ∀ r, r = e → K r := by
  rintro r rfl
  rw [h]; exact hk

/-- Go's quotient and rest, by a number above 0. -/
theorem tdiv_pos {a b : Int} (h : 0 ≤ a) : a.tdiv b = a / b := Int.tdiv_eq_ediv_of_nonneg h
theorem tdiv_neg {a b : Int} (h : a ≤ 0) : a.tdiv b = -((-a) / b) := by
  have : a.tdiv b = -((-a).tdiv b) := by rw [Int.neg_tdiv]; omega
  rw [this, Int.tdiv_eq_ediv_of_nonneg (by omega)]

/-! ### loops -/
def hav (ds : List Nat) : Nat → List V → List V
  | _, [] => []
  | n, x :: xs => (match ds.elem n with | true => .any | false => x) :: hav ds (n + 1) xs
def havK (ds : List Nat) : Nat → List V → (List V → Prop) → Prop
  | _, [], K => K []
  | n, x :: xs, K => match ds.elem n with
    | true => havK ds (n + 1) xs fun r => K (.any :: r)
    | false => havK ds (n + 1) xs fun r => K (x :: r)
theorem havK_iff (ds : List Nat) : ∀ (n : Nat) (fr : List V) (K : List V → Prop), havK ds n fr K ↔ K (hav ds n fr)
  | _, [], _ => Iff.rfl
  | n, x :: xs, K => by
    rw [havK, hav]
    cases ds.elem n with
    | true => exact havK_iff ds (n + 1) xs _
    | false => exact havK_iff ds (n + 1) xs _
def setL : List (Nat × V) → List V → List V
  | [], fr => fr
  | (i, v) :: l, fr => setL l (fr.set i v)
def setLK : List (Nat × V) → List V → (List V → Prop) → Prop
  | [], fr, K => K fr
  | (i, v) :: l, fr, K => putK fr (some i) v fun r => setLK l r K
theorem setLK_iff : ∀ (l : List (Nat × V)) (fr : List V) (K : List V → Prop), setLK l fr K ↔ K (setL l fr)
  | [], _, _ => Iff.rfl
  | (i, v) :: l, fr, K => by rw [setLK, putK_iff, setLK_iff l]; rfl
/-- The slots hold these. -/
def selOk : List (Nat × V) → List V → Prop
  | [], _ => True
  | (i, v) :: l, fr => (i < fr.length ∧ getK fr i fun x => x = v) ∧ selOk l fr

theorem hav_get (ds : List Nat) : ∀ (n : Nat) (fr : List V) (i : Nat), (hav ds n fr)[i]? = (fr[i]?).map fun x => match ds.elem (n + i) with | true => .any | false => x
  | _, [], _ => rfl
  | n, x :: xs, 0 => by simp [hav]
  | n, x :: xs, i + 1 => by
    have := hav_get ds (n + 1) xs i
    simp only [hav, List.getElem?_cons_succ, this]
    rw [show n + 1 + i = n + (i + 1) by omega]
theorem hav_len (ds : List Nat) : ∀ (n : Nat) (fr : List V), (hav ds n fr).length = fr.length
  | _, [] => rfl
  | n, _ :: xs => by simp [hav, hav_len ds (n + 1) xs]
theorem setL_len : ∀ (l : List (Nat × V)) (fr : List V), (setL l fr).length = fr.length
  | [], _ => rfl
  | (i, v) :: l, fr => by rw [setL, setL_len l]; simp
theorem wkF_mk : ∀ {F G : List V}, F.length = G.length → (∀ (i : Nat) (x : V), F[i]? = some x → x = .any ∨ G[i]? = some x) → wkF F G
  | [], [], _, _ => trivial
  | [], _ :: _, h, _ => by simp at h
  | _ :: _, [], h, _ => by simp at h
  | x :: F, y :: G, h, hg => by
    have ih := wkF_mk (F := F) (G := G) (by simpa using h) fun i z hz => by simpa using hg (i + 1) z (by simpa using hz)
    rcases hg 0 x (by simp) with rfl | h0
    · exact ih
    · have hxy : x = y := by have := h0; simp at this; exact this.symm
      cases x with
      | any => exact ih
      | w _ => exact ⟨hxy, ih⟩
      | tup _ => exact ⟨hxy, ih⟩

theorem wkF_sel {ds : List Nat} {fr fr' : List V} (h : hav ds 0 fr' = hav ds 0 fr) : ∀ (l : List (Nat × V)), selOk l fr' → wkF (setL l (hav ds 0 fr)) fr' := by
  have hlen : fr.length = fr'.length := by rw [← hav_len ds 0 fr, ← h, hav_len]
  have gen : ∀ (l : List (Nat × V)) (F : List V), F.length = fr'.length → (∀ (i : Nat) (x : V), F[i]? = some x → x = .any ∨ fr'[i]? = some x) → selOk l fr' → wkF (setL l F) fr' := by
    intro l
    induction l with
    | nil => intro F h1 h2 _; exact wkF_mk h1 h2
    | cons p l ih =>
      obtain ⟨i, v⟩ := p
      intro F h1 h2 h3
      refine ih _ (by simpa using h1) (fun k x hk => ?_) h3.2
      by_cases hik : i = k
      · subst hik
        have hlt := (List.getElem?_eq_some_iff.1 hk).1
        simp at hlt
        rw [List.getElem?_set_self hlt] at hk
        cases hk
        have h4 := (getK_iff fr' i _).1 h3.1.2
        have hlt' := h3.1.1
        rw [List.getD_eq_getElem?_getD, List.getElem?_eq_getElem hlt'] at h4
        refine .inr ?_
        rw [List.getElem?_eq_getElem hlt', ← h4]; rfl
      · rw [List.getElem?_set_ne hik] at hk
        exact h2 k x hk
  intro l hl
  refine gen l _ (by rw [hav_len, hlen]) (fun i x hx => ?_) hl
  rw [← h, hav_get] at hx
  cases hi : fr'[i]? with
  | none => rw [hi] at hx; cases hx
  | some y =>
    rw [hi] at hx
    simp only [Option.map_some, Option.some.injEq] at hx
    split at hx
    · exact .inl hx.symm
    · exact .inr (by rw [hx])

theorem bndF_set {n : Nat} {v : V} (hv : v.bnd n = true) : ∀ {fr : List V} {i : Nat}, bndF n fr = true → bndF n (fr.set i v) = true
  | [], _, h => h
  | x :: xs, 0, h => by simp only [bndF, Bool.and_eq_true, List.set_cons_zero] at h ⊢; exact ⟨hv, h.2⟩
  | x :: xs, i + 1, h => by simp only [bndF, Bool.and_eq_true, List.set_cons_succ] at h ⊢; exact ⟨h.1, bndF_set hv h.2⟩

/-- What a round leaves, told of the state that follows. -/
structure Next' (ds : List Nat) (lo : Nat) (fr : List V) (sel : List (Nat × V)) (Hs : List Blk) (fr' : List V) (H' : List Blk) : Prop where
  same : hav ds 0 fr' = hav ds 0 fr
  hold : selOk sel fr'
  heap : wkH Hs H'
  bf : bndF Hs.length (setL sel (hav ds 0 fr)) = true
  bh : bndH Hs.length Hs = true
  lo : lo ≤ Hs.length

/-- A loop, by the state at each round's head: the slots named hold what is told, the other ones that the body writes hold anything. -/
theorem loop_at {body : List V → List Blk → XQ → Prop} {lo : Nat} {fr : List V} {H : List Blk} {Q : XQ} {α : Type} (ds : List Nat) (J : Nat → α → Prop) (sel : α → List (Nat × V)) (Hs : α → List Blk) (m₀ : Nat) (s₀ : α) (h₀ : J m₀ s₀)
    (start : Next' ds lo fr (sel s₀) (Hs s₀) fr H)
    (round : ∀ m s, J m s → havK ds 0 fr fun f₁ => setLK (sel s) f₁ fun f₂ => body f₂ (Hs s) fun ex fr' H' => match ex with
      | .normal => ∃ m' s', m' < m ∧ J m' s' ∧ Next' ds lo fr (sel s') (Hs s') fr' H'
      | .exit id => Q (.exit id) fr' H'
      | .ret => Q .ret fr' H') : XLoop body lo fr H Q := by
  unfold XLoop
  refine ⟨fun m f h => ∃ s, J m s ∧ f = setL (sel s) (hav ds 0 fr) ∧ h = Hs s, fun m fr' H' => ∃ m' s', m' < m ∧ J m' s' ∧ Next' ds lo fr (sel s') (Hs s') fr' H',
    ⟨m₀, _, _, id, ⟨s₀, h₀, rfl, rfl⟩, Seen.of_wk (wkF_len (wkF_sel start.same _ start.hold)) (wkF_sel start.same _ start.hold) start.heap start.bf start.bh start.lo⟩, ?_, ?_⟩
  · rintro m f h ⟨s, hs, rfl, rfl⟩ _ _ _
    have := round m s hs
    rw [havK_iff, setLK_iff] at this
    exact this
  · rintro m fr' H' ⟨m', s', h1, h2, h3⟩
    exact ⟨m', _, _, id, h1, ⟨s', h2, rfl, rfl⟩, Seen.of_wk (wkF_len (wkF_sel h3.same _ h3.hold)) (wkF_sel h3.same _ h3.hold) h3.heap h3.bf h3.bh h3.lo⟩

/-- The same, with a state of two parts. -/
theorem loop_at2 {body : List V → List Blk → XQ → Prop} {lo : Nat} {fr : List V} {H : List Blk} {Q : XQ} {α β : Type} (ds : List Nat) (J : Nat → α → β → Prop) (sel : α → β → List (Nat × V)) (Hs : α → β → List Blk) (m₀ : Nat) (a₀ : α) (b₀ : β) (h₀ : J m₀ a₀ b₀)
    (start : Next' ds lo fr (sel a₀ b₀) (Hs a₀ b₀) fr H)
    (round : ∀ m a b, J m a b → havK ds 0 fr fun f₁ => setLK (sel a b) f₁ fun f₂ => body f₂ (Hs a b) fun ex fr' H' => match ex with
      | .normal => ∃ m' s', m' < m ∧ J m' (Prod.fst s') (Prod.snd s') ∧ Next' ds lo fr (sel (Prod.fst s') (Prod.snd s')) (Hs (Prod.fst s') (Prod.snd s')) fr' H'
      | .exit id => Q (.exit id) fr' H'
      | .ret => Q .ret fr' H') : XLoop body lo fr H Q :=
  loop_at ds (fun m s => J m s.1 s.2) (fun s => sel s.1 s.2) (fun s => Hs s.1 s.2) m₀ (a₀, b₀) h₀ start fun m s h => round m s.1 s.2 h

/-! ### loops whose rounds renumber blocks -/
def renFr (ρ : Nat → Nat) : List V → List V → Prop
  | [], [] => True
  | .any :: F, _ :: G => renFr ρ F G
  | x :: F, y :: G => y = x.ren ρ ∧ renFr ρ F G
  | _, _ => False
theorem renFr_get {ρ : Nat → Nat} : ∀ {F G : List V}, renFr ρ F G → F.length = G.length ∧ ∀ (i : Nat) (x : V), F[i]? = some x → x = .any ∨ G[i]? = some (x.ren ρ)
  | [], [], _ => ⟨rfl, fun i x hx => by simp at hx⟩
  | [], _ :: _, h => h.elim
  | .any :: _, [], h => h.elim
  | .w _ :: _, [], h => h.elim
  | .tup _ :: _, [], h => h.elim
  | .any :: F, y :: G, h => by
    obtain ⟨h1, h2⟩ := renFr_get (F := F) (G := G) h
    refine ⟨by simp [h1], fun i x hx => ?_⟩
    cases i with
    | zero => simp at hx; exact .inl hx.symm
    | succ i => simpa using h2 i x (by simpa using hx)
  | .w a :: F, y :: G, h => by
    obtain ⟨h1, h2⟩ := renFr_get h.2
    refine ⟨by simp [h1], fun i x hx => ?_⟩
    cases i with
    | zero => simp at hx; subst hx; exact .inr (by simp [h.1])
    | succ i => simpa using h2 i x (by simpa using hx)
  | .tup a :: F, y :: G, h => by
    obtain ⟨h1, h2⟩ := renFr_get h.2
    refine ⟨by simp [h1], fun i x hx => ?_⟩
    cases i with
    | zero => simp at hx; subst hx; exact .inr (by simp [h.1])
    | succ i => simpa using h2 i x (by simpa using hx)
def renHp (ρ : Nat → Nat) (H' : List Blk) : Nat → List Blk → Prop
  | _, [] => True
  | j, .gone :: H => renHp ρ H' (j + 1) H
  | j, b :: H => H'[ρ j]? = some (b.ren ρ) ∧ renHp ρ H' (j + 1) H
theorem renHp_get {ρ : Nat → Nat} {H' : List Blk} : ∀ {H : List Blk} {k : Nat}, renHp ρ H' k H → ∀ (j : Nat) (b : Blk), H[j]? = some b → b = .gone ∨ H'[ρ (k + j)]? = some (b.ren ρ)
  | [], _, _, j, b, hb => by simp at hb
  | c :: H, k, h, j, b, hb => by
    have step : renHp ρ H' (k + 1) H ∧ (c = .gone ∨ H'[ρ k]? = some (c.ren ρ)) := by
      cases c with
      | gone => exact ⟨h, .inl rfl⟩
      | own T ss => exact ⟨h.2, .inr h.1⟩
      | ro ss => exact ⟨h.2, .inr h.1⟩
      | obj R => exact ⟨h.2, .inr h.1⟩
    cases j with
    | zero => simp at hb; subst hb; exact step.2
    | succ j =>
      have := renHp_get step.1 j b (by simpa using hb)
      rwa [show k + 1 + j = k + (j + 1) by omega] at this

structure Next2 (ρ : Nat → Nat) (ds : List Nat) (lo : Nat) (fr : List V) (sel : List (Nat × V)) (Hs : List Blk) (fr' : List V) (H' : List Blk) : Prop where
  frame : renFr ρ (setL sel (hav ds 0 fr)) fr'
  heap : renHp ρ H' 0 Hs
  inj : ∀ i j : Nat, i < Hs.length → j < Hs.length → ρ i = ρ j → i = j
  low : ∀ j : Nat, j < lo → ρ j = j
  bf : bndF Hs.length (setL sel (hav ds 0 fr)) = true
  bh : bndH Hs.length Hs = true
  lo : lo ≤ Hs.length
theorem Next2.seen {ρ : Nat → Nat} {ds : List Nat} {lo : Nat} {fr : List V} {sel : List (Nat × V)} {Hs : List Blk} {fr' : List V} {H' : List Blk} (h : Next2 ρ ds lo fr sel Hs fr' H') : Seen ρ lo (setL sel (hav ds 0 fr)) Hs fr' H' :=
  ⟨(renFr_get h.frame).1, (renFr_get h.frame).2, fun j b hb => by have := renHp_get h.heap j b hb; rwa [Nat.zero_add] at this, fun i j b c hi hj _ _ e => h.inj i j (List.getElem?_eq_some_iff.1 hi).1 (List.getElem?_eq_some_iff.1 hj).1 e, h.low, h.bf, h.bh, h.lo⟩
/-- A loop, as loop_at, whose rounds (and whose start) may renumber the blocks: what a round has made takes the place of what it is made anew for. -/
theorem loop_ren {body : List V → List Blk → XQ → Prop} {lo : Nat} {fr : List V} {H : List Blk} {Q : XQ} {α : Type} (ds : List Nat) (J : Nat → α → Prop) (sel : α → List (Nat × V)) (Hs : α → List Blk) (m₀ : Nat) (s₀ : α) (h₀ : J m₀ s₀) (ρ₀ : Nat → Nat)
    (start : Next2 ρ₀ ds lo fr (sel s₀) (Hs s₀) fr H)
    (round : ∀ m s, J m s → havK ds 0 fr fun f₁ => setLK (sel s) f₁ fun f₂ => body f₂ (Hs s) fun ex fr' H' => match ex with
      | .normal => ∃ m' s' ρ, m' < m ∧ J m' s' ∧ Next2 ρ ds lo fr (sel s') (Hs s') fr' H'
      | .exit id => Q (.exit id) fr' H'
      | .ret => Q .ret fr' H') : XLoop body lo fr H Q := by
  unfold XLoop
  refine ⟨fun m f h => ∃ s, J m s ∧ f = setL (sel s) (hav ds 0 fr) ∧ h = Hs s, fun m fr' H' => ∃ m' s' ρ, m' < m ∧ J m' s' ∧ Next2 ρ ds lo fr (sel s') (Hs s') fr' H',
    ⟨m₀, _, _, ρ₀, ⟨s₀, h₀, rfl, rfl⟩, start.seen⟩, ?_, ?_⟩
  · rintro m f h ⟨s, hs, rfl, rfl⟩ _ _ _
    have := round m s hs
    rw [havK_iff, setLK_iff] at this
    exact this
  · rintro m fr' H' ⟨m', s', ρ, h1, h2, h3⟩
    exact ⟨m', _, _, ρ, h1, ⟨s', h2, rfl, rfl⟩, h3.seen⟩

/-- The same, with a state of three parts. -/
theorem loop_ren3 {body : List V → List Blk → XQ → Prop} {lo : Nat} {fr : List V} {H : List Blk} {Q : XQ} {α β γ : Type} (ds : List Nat) (J : Nat → α → β → γ → Prop) (sel : α → β → γ → List (Nat × V)) (Hs : α → β → γ → List Blk) (m₀ : Nat) (a₀ : α) (b₀ : β) (c₀ : γ) (h₀ : J m₀ a₀ b₀ c₀) (ρ₀ : Nat → Nat)
    (start : Next2 ρ₀ ds lo fr (sel a₀ b₀ c₀) (Hs a₀ b₀ c₀) fr H)
    (round : ∀ m a b c, J m a b c → havK ds 0 fr fun f₁ => setLK (sel a b c) f₁ fun f₂ => body f₂ (Hs a b c) fun ex fr' H' => match ex with
      | .normal => ∃ m' s' ρ, m' < m ∧ J m' (Prod.fst s') (Prod.fst (Prod.snd s')) (Prod.snd (Prod.snd s')) ∧ Next2 ρ ds lo fr (sel (Prod.fst s') (Prod.fst (Prod.snd s')) (Prod.snd (Prod.snd s'))) (Hs (Prod.fst s') (Prod.fst (Prod.snd s')) (Prod.snd (Prod.snd s'))) fr' H'
      | .exit id => Q (.exit id) fr' H'
      | .ret => Q .ret fr' H') : XLoop body lo fr H Q :=
  loop_ren ds (fun m s => J m s.1 s.2.1 s.2.2) (fun s => sel s.1 s.2.1 s.2.2) (fun s => Hs s.1 s.2.1 s.2.2) m₀ (a₀, b₀, c₀) h₀ ρ₀ start fun m s h => round m s.1 s.2.1 s.2.2 h

theorem made_of {P0 : V → List Blk → Prop} {x : V} {H' : List Blk} (x0 : V) (N : List Blk) (ρ : Nat → Nat) (h : P0 x0 N) (h1 : x = x0.ren ρ) (h2 : renHp ρ H' 0 N) (h3 : ∀ i j : Nat, i < N.length → j < N.length → ρ i = ρ j → i = j)
    (h4 : bndF N.length [x0] = true) (h5 : bndH N.length N = true) (h6 : x0 ≠ .any) : Made P0 x H' := by
  refine ⟨x0, N, ρ, h, ⟨rfl, fun i y hy => ?_, fun j b hb => ?_, fun i j b c hi hj _ _ e => h3 i j (List.getElem?_eq_some_iff.1 hi).1 (List.getElem?_eq_some_iff.1 hj).1 e, fun j hj => absurd hj (Nat.not_lt_zero j), h4, h5, Nat.zero_le _⟩, h6⟩
  · cases i with
    | zero => simp at hy; subst hy; exact .inr (by simp [h1])
    | succ i => simp at hy
  · have := renHp_get h2 j b hb
    rwa [Nat.zero_add] at this

/-! ### loops whose rounds put new blocks in the places of others -/
def mineIx : Nat → List Blk → List Nat
  | _, [] => []
  | n, b :: H => match b.mine with
    | true => n :: mineIx (n + 1) H
    | false => mineIx (n + 1) H
def ndup : List Nat → Bool
  | [] => true
  | x :: xs => !(xs.elem x) && ndup xs
theorem mem_mineIx : ∀ {H : List Blk} {k i : Nat} {b : Blk}, H[i]? = some b → b.mine = true → k + i ∈ mineIx k H
  | [], _, _, _, h, _ => by simp at h
  | c :: H, k, 0, b, h, hm => by
    simp at h; subst h
    simp [mineIx, hm]
  | c :: H, k, i + 1, b, h, hm => by
    have := mem_mineIx (H := H) (k := k + 1) (i := i) (by simpa using h) hm
    rw [show k + (i + 1) = k + 1 + i by omega]
    unfold mineIx
    split
    · exact List.mem_cons_of_mem _ this
    · exact this
theorem ndup_inj {ρ : Nat → Nat} : ∀ {l : List Nat}, ndup (l.map ρ) = true → ∀ i ∈ l, ∀ j ∈ l, ρ i = ρ j → i = j
  | [], _, i, hi, _, _, _ => by simp at hi
  | x :: l, h, i, hi, j, hj, e => by
    simp only [List.map_cons, ndup, Bool.and_eq_true, Bool.not_eq_true', List.elem_eq_mem, decide_eq_false_iff_not] at h
    rcases List.mem_cons.1 hi with e1 | hi1 <;> rcases List.mem_cons.1 hj with e2 | hj1
    · rw [e1, e2]
    · exact absurd (List.mem_map.2 ⟨j, hj1, by rw [← e, e1]⟩) h.1
    · exact absurd (List.mem_map.2 ⟨i, hi1, by rw [e, e2]⟩) h.1
    · exact ndup_inj h.2 i hi1 j hj1 e
structure Next3 (ρ : Nat → Nat) (ds : List Nat) (lo : Nat) (fr : List V) (sel : List (Nat × V)) (Hs : List Blk) (fr' : List V) (H' : List Blk) : Prop where
  frame : renFr ρ (setL sel (hav ds 0 fr)) fr'
  heap : renHp ρ H' 0 Hs
  inj : ndup ((mineIx 0 Hs).map ρ) = true
  low : ∀ j : Nat, j < lo → ρ j = j
  bf : bndF Hs.length (setL sel (hav ds 0 fr)) = true
  bh : bndH Hs.length Hs = true
  lo : lo ≤ Hs.length
theorem Next3.seen {ρ : Nat → Nat} {ds : List Nat} {lo : Nat} {fr : List V} {sel : List (Nat × V)} {Hs : List Blk} {fr' : List V} {H' : List Blk} (h : Next3 ρ ds lo fr sel Hs fr' H') : Seen ρ lo (setL sel (hav ds 0 fr)) Hs fr' H' :=
  ⟨(renFr_get h.frame).1, (renFr_get h.frame).2, fun j b hb => by have := renHp_get h.heap j b hb; rwa [Nat.zero_add] at this, fun i j b c hi hj hb hc e => by
    have h1 := mem_mineIx (k := 0) hi hb
    have h2 := mem_mineIx (k := 0) hj hc
    rw [Nat.zero_add] at h1 h2
    exact ndup_inj h.inj i h1 j h2 e, h.low, h.bf, h.bh, h.lo⟩
/-- A loop, as loop_ren; two numbers may stand for one block, if only one of them is told of. -/
theorem loop_mv {body : List V → List Blk → XQ → Prop} {lo : Nat} {fr : List V} {H : List Blk} {Q : XQ} {α β γ : Type} (ds : List Nat) (J : Nat → α → β → γ → Prop) (sel : α → β → γ → List (Nat × V)) (Hs : α → β → γ → List Blk) (m₀ : Nat) (a₀ : α) (b₀ : β) (c₀ : γ) (h₀ : J m₀ a₀ b₀ c₀) (ρ₀ : Nat → Nat)
    (start : Next3 ρ₀ ds lo fr (sel a₀ b₀ c₀) (Hs a₀ b₀ c₀) fr H)
    (round : ∀ m a b c, J m a b c → havK ds 0 fr fun f₁ => setLK (sel a b c) f₁ fun f₂ => body f₂ (Hs a b c) fun ex fr' H' => match ex with
      | .normal => ∃ m' a' b' c' ρ, m' < m ∧ J m' a' b' c' ∧ Next3 ρ ds lo fr (sel a' b' c') (Hs a' b' c') fr' H'
      | .exit id => Q (.exit id) fr' H'
      | .ret => Q .ret fr' H') : XLoop body lo fr H Q := by
  unfold XLoop
  refine ⟨fun m f h => ∃ a b c, J m a b c ∧ f = setL (sel a b c) (hav ds 0 fr) ∧ h = Hs a b c, fun m fr' H' => ∃ m' a' b' c' ρ, m' < m ∧ J m' a' b' c' ∧ Next3 ρ ds lo fr (sel a' b' c') (Hs a' b' c') fr' H',
    ⟨m₀, _, _, ρ₀, ⟨a₀, b₀, c₀, h₀, rfl, rfl⟩, start.seen⟩, ?_, ?_⟩
  · rintro m f h ⟨a, b, c, hs, rfl, rfl⟩ _ _ _
    have := round m a b c hs
    rw [havK_iff, setLK_iff] at this
    exact this
  · rintro m fr' H' ⟨m', a', b', c', ρ, h1, h2, h3⟩
    exact ⟨m', _, _, ρ, h1, ⟨a', b', c', h2, rfl, rfl⟩, h3.seen⟩
end Go.Proofs.YtaficaacogcblaaGreatDoor
