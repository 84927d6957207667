/- Xl, Xm, Xn, Xo, Xq, Xal, Xs, Xr: what the law wants of them. -/
import Derived.Test.YtaficaacogcblaaGreatDoorZc
import Derived.Orders
import Derived.ProofKit
import Derived.OpenShut
import Derived.ShutString
import Derived.ChangeOld
import Derived.SizedLaws
import Derived.ChangeSlices
import Derived.Test.YtaficaacogcblaaGreatDoorProg
import Derived.ChangeKeysEq
set_option linter.all false
namespace Go.Proofs.YtaficaacogcblaaGreatDoor
theorem ask_wrap64 {e : Int} {K : Int → Prop} (h1 : -9223372036854775808 ≤ e) (h2 : e ≤ 9223372036854775807) (hk : K e) : ∀ r, r = IntKind.i64.wrap e → K r := by
  rintro r rfl
  rw [wrap_of_in (k := .i64) ⟨h1, h2⟩]; exact hk
theorem ask_wrapu8 {e : Int} {K : Int → Prop} (h1 : 0 ≤ e) (h2 : e ≤ 255) (hk : K e) : ∀ r, r = IntKind.u8.wrap e → K r := by
  rintro r rfl
  rw [wrap_of_in (k := .u8) ⟨h1, h2⟩]; exact hk
theorem ask_wrapu32 {e : Int} {K : Int → Prop} (h1 : 0 ≤ e) (h2 : e ≤ 4294967295) (hk : K e) : ∀ r, r = IntKind.u32.wrap e → K r := by
  rintro r rfl
  rw [wrap_of_in (k := .u32) ⟨h1, h2⟩]; exact hk
theorem ask_wrapu64 {e : Int} {K : Int → Prop} (h1 : 0 ≤ e) (h2 : e ≤ 18446744073709551615) (hk : K e) : ∀ r, r = IntKind.u64.wrap e → K r := by
  rintro r rfl
  rw [wrap_of_in (k := .u64) ⟨h1, h2⟩]; exact hk
theorem ask_true {p : Prop} [Decidable p] {K : Bool → Prop} (h : p) (hk : K true) : ∀ t, t = decide p → K t := by
  rintro t rfl
  rw [decide_eq_true h]; exact hk
theorem ask_false {p : Prop} [Decidable p] {K : Bool → Prop} (h : ¬ p) (hk : K false) : ∀ t, t = decide p → K t := by
  rintro t rfl
  rw [decide_eq_false h]; exact hk
theorem ask_split {p : Prop} [Decidable p] {K : Bool → Prop} (h1 : p → K true) (h2 : ¬ p → K false) : ∀ t, t = decide p → K t := by
  by_cases h : p
  · exact ask_true h (h1 h)
  · exact ask_false h (h2 h)
theorem ask_in64 {x : Int} {K : Prop} (h : -9223372036854775808 ≤ x → x ≤ 9223372036854775807 → K) : InK .i64 x → K := fun hx => h hx.1 hx.2
theorem ask_is {α : Type} {e f : α} {K : α → Prop} (h : e = f) (hk : K f) : ∀ r, r = e → K r := by
  rintro r rfl
  rw [h]; exact hk
theorem tdiv_pos {a b : Int} (h : 0 ≤ a) : a.tdiv b = a / b := Int.tdiv_eq_ediv_of_nonneg h
theorem tdiv_neg {a b : Int} (h : a ≤ 0) : a.tdiv b = -((-a) / b) := by
  have : a.tdiv b = -((-a).tdiv b) := by rw [Int.neg_tdiv]; omega
  rw [this, Int.tdiv_eq_ediv_of_nonneg (by omega)]
def hav (ds : List Nat) : Nat → List V → List V
  | _, [] => []
  | n, x :: xs => (match ds.elem n with | true => .any | false => x) :: hav ds (n + 1) xs
def havK (ds : List Nat) : Nat → List V → (List V → Prop) → Prop
  | _, [], K => K []
  | n, x :: xs, K => match ds.elem n with
    | true => havK ds (n + 1) xs fun r => K (.any :: r)
    | false => havK ds (n + 1) xs fun r => K (x :: r)
theorem havK_iff (ds : List Nat) : ∀ (n : Nat) (fr : List V) (K : List V → Prop), havK ds n fr K ↔ K (hav ds n fr)
  | _, [], _ => Iff.rfl
  | n, x :: xs, K => by
    rw [havK, hav]
    cases ds.elem n with
    | true => exact havK_iff ds (n + 1) xs _
    | false => exact havK_iff ds (n + 1) xs _
def setL : List (Nat × V) → List V → List V
  | [], fr => fr
  | (i, v) :: l, fr => setL l (fr.set i v)
def setLK : List (Nat × V) → List V → (List V → Prop) → Prop
  | [], fr, K => K fr
  | (i, v) :: l, fr, K => putK fr (some i) v fun r => setLK l r K
theorem setLK_iff : ∀ (l : List (Nat × V)) (fr : List V) (K : List V → Prop), setLK l fr K ↔ K (setL l fr)
  | [], _, _ => Iff.rfl
  | (i, v) :: l, fr, K => by rw [setLK, putK_iff, setLK_iff l]; rfl
def selOk : List (Nat × V) → List V → Prop
  | [], _ => True
  | (i, v) :: l, fr => (i < fr.length ∧ getK fr i fun x => x = v) ∧ selOk l fr
theorem hav_get (ds : List Nat) : ∀ (n : Nat) (fr : List V) (i : Nat), (hav ds n fr)[i]? = (fr[i]?).map fun x => match ds.elem (n + i) with | true => .any | false => x
  | _, [], _ => rfl
  | n, x :: xs, 0 => by simp [hav]
  | n, x :: xs, i + 1 => by
    have := hav_get ds (n + 1) xs i
    simp only [hav, List.getElem?_cons_succ, this]
    rw [show n + 1 + i = n + (i + 1) by omega]
theorem hav_len (ds : List Nat) : ∀ (n : Nat) (fr : List V), (hav ds n fr).length = fr.length
  | _, [] => rfl
  | n, _ :: xs => by simp [hav, hav_len ds (n + 1) xs]
theorem wkF_mk : ∀ {F G : List V}, F.length = G.length → (∀ (i : Nat) (x : V), F[i]? = some x → x = .any ∨ G[i]? = some x) → wkF F G
  | [], [], _, _ => trivial
  | [], _ :: _, h, _ => by simp at h
  | _ :: _, [], h, _ => by simp at h
  | x :: F, y :: G, h, hg => by
    have ih := wkF_mk (F := F) (G := G) (by simpa using h) fun i z hz => by simpa using hg (i + 1) z (by simpa using hz)
    rcases hg 0 x (by simp) with rfl | h0
    · exact ih
    · have hxy : x = y := by have := h0; simp at this; exact this.symm
      cases x with
      | any => exact ih
      | w _ => exact ⟨hxy, ih⟩
      | tup _ => exact ⟨hxy, ih⟩
theorem wkF_sel {ds : List Nat} {fr fr' : List V} (h : hav ds 0 fr' = hav ds 0 fr) : ∀ (l : List (Nat × V)), selOk l fr' → wkF (setL l (hav ds 0 fr)) fr' := by
  have hlen : fr.length = fr'.length := by rw [← hav_len ds 0 fr, ← h, hav_len]
  have gen : ∀ (l : List (Nat × V)) (F : List V), F.length = fr'.length → (∀ (i : Nat) (x : V), F[i]? = some x → x = .any ∨ fr'[i]? = some x) → selOk l fr' → wkF (setL l F) fr' := by
    intro l
    induction l with
    | nil => intro F h1 h2 _; exact wkF_mk h1 h2
    | cons p l ih =>
      obtain ⟨i, v⟩ := p
      intro F h1 h2 h3
      refine ih _ (by simpa using h1) (fun k x hk => ?_) h3.2
      by_cases hik : i = k
      · subst hik
        have hlt := (List.getElem?_eq_some_iff.1 hk).1
        simp at hlt
        rw [List.getElem?_set_self hlt] at hk
        cases hk
        have h4 := (getK_iff fr' i _).1 h3.1.2
        have hlt' := h3.1.1
        rw [List.getD_eq_getElem?_getD, List.getElem?_eq_getElem hlt'] at h4
        refine .inr ?_
        rw [List.getElem?_eq_getElem hlt', ← h4]; rfl
      · rw [List.getElem?_set_ne hik] at hk
        exact h2 k x hk
  intro l hl
  refine gen l _ (by rw [hav_len, hlen]) (fun i x hx => ?_) hl
  rw [← h, hav_get] at hx
  cases hi : fr'[i]? with
  | none => rw [hi] at hx; cases hx
  | some y =>
    rw [hi] at hx
    simp only [Option.map_some, Option.some.injEq] at hx
    split at hx
    · exact .inl hx.symm
    · exact .inr (by rw [hx])
structure Next' (ds : List Nat) (lo : Nat) (fr : List V) (sel : List (Nat × V)) (Hs : List Blk) (fr' : List V) (H' : List Blk) : Prop where
  same : hav ds 0 fr' = hav ds 0 fr
  hold : selOk sel fr'
  heap : wkH Hs H'
  bf : bndF Hs.length (setL sel (hav ds 0 fr)) = true
  bh : bndH Hs.length Hs = true
  lo : lo ≤ Hs.length
theorem loop_at {body : List V → List Blk → XQ → Prop} {lo : Nat} {fr : List V} {H : List Blk} {Q : XQ} {α : Type} (ds : List Nat) (J : Nat → α → Prop) (sel : α → List (Nat × V)) (Hs : α → List Blk) (m₀ : Nat) (s₀ : α) (h₀ : J m₀ s₀)
    (start : Next' ds lo fr (sel s₀) (Hs s₀) fr H)
    (round : ∀ m s, J m s → havK ds 0 fr fun f₁ => setLK (sel s) f₁ fun f₂ => body f₂ (Hs s) fun ex fr' H' => match ex with
      | .normal => ∃ m' s', m' < m ∧ J m' s' ∧ Next' ds lo fr (sel s') (Hs s') fr' H'
      | .exit id => Q (.exit id) fr' H'
      | .ret => Q .ret fr' H') : XLoop body lo fr H Q := by
  unfold XLoop
  refine ⟨fun m f h => ∃ s, J m s ∧ f = setL (sel s) (hav ds 0 fr) ∧ h = Hs s, fun m fr' H' => ∃ m' s', m' < m ∧ J m' s' ∧ Next' ds lo fr (sel s') (Hs s') fr' H',
    ⟨m₀, _, _, id, ⟨s₀, h₀, rfl, rfl⟩, Seen.of_wk (wkF_len (wkF_sel start.same _ start.hold)) (wkF_sel start.same _ start.hold) start.heap start.bf start.bh start.lo⟩, ?_, ?_⟩
  · rintro m f h ⟨s, hs, rfl, rfl⟩ _ _ _
    have := round m s hs
    rw [havK_iff, setLK_iff] at this
    exact this
  · rintro m fr' H' ⟨m', s', h1, h2, h3⟩
    exact ⟨m', _, _, id, h1, ⟨s', h2, rfl, rfl⟩, Seen.of_wk (wkF_len (wkF_sel h3.same _ h3.hold)) (wkF_sel h3.same _ h3.hold) h3.heap h3.bf h3.bh h3.lo⟩
theorem loop_at2 {body : List V → List Blk → XQ → Prop} {lo : Nat} {fr : List V} {H : List Blk} {Q : XQ} {α β : Type} (ds : List Nat) (J : Nat → α → β → Prop) (sel : α → β → List (Nat × V)) (Hs : α → β → List Blk) (m₀ : Nat) (a₀ : α) (b₀ : β) (h₀ : J m₀ a₀ b₀)
    (start : Next' ds lo fr (sel a₀ b₀) (Hs a₀ b₀) fr H)
    (round : ∀ m a b, J m a b → havK ds 0 fr fun f₁ => setLK (sel a b) f₁ fun f₂ => body f₂ (Hs a b) fun ex fr' H' => match ex with
      | .normal => ∃ m' s', m' < m ∧ J m' (Prod.fst s') (Prod.snd s') ∧ Next' ds lo fr (sel (Prod.fst s') (Prod.snd s')) (Hs (Prod.fst s') (Prod.snd s')) fr' H'
      | .exit id => Q (.exit id) fr' H'
      | .ret => Q .ret fr' H') : XLoop body lo fr H Q :=
  loop_at ds (fun m s => J m s.1 s.2) (fun s => sel s.1 s.2) (fun s => Hs s.1 s.2) m₀ (a₀, b₀) h₀ start fun m s h => round m s.1 s.2 h
def renFr (ρ : Nat → Nat) : List V → List V → Prop
  | [], [] => True
  | .any :: F, _ :: G => renFr ρ F G
  | x :: F, y :: G => y = x.ren ρ ∧ renFr ρ F G
  | _, _ => False
theorem renFr_get {ρ : Nat → Nat} : ∀ {F G : List V}, renFr ρ F G → F.length = G.length ∧ ∀ (i : Nat) (x : V), F[i]? = some x → x = .any ∨ G[i]? = some (x.ren ρ)
  | [], [], _ => ⟨rfl, fun i x hx => by simp at hx⟩
  | [], _ :: _, h => h.elim
  | .any :: _, [], h => h.elim
  | .w _ :: _, [], h => h.elim
  | .tup _ :: _, [], h => h.elim
  | .any :: F, y :: G, h => by
    obtain ⟨h1, h2⟩ := renFr_get (F := F) (G := G) h
    refine ⟨by simp [h1], fun i x hx => ?_⟩
    cases i with
    | zero => simp at hx; exact .inl hx.symm
    | succ i => simpa using h2 i x (by simpa using hx)
  | .w a :: F, y :: G, h => by
    obtain ⟨h1, h2⟩ := renFr_get h.2
    refine ⟨by simp [h1], fun i x hx => ?_⟩
    cases i with
    | zero => simp at hx; subst hx; exact .inr (by simp [h.1])
    | succ i => simpa using h2 i x (by simpa using hx)
  | .tup a :: F, y :: G, h => by
    obtain ⟨h1, h2⟩ := renFr_get h.2
    refine ⟨by simp [h1], fun i x hx => ?_⟩
    cases i with
    | zero => simp at hx; subst hx; exact .inr (by simp [h.1])
    | succ i => simpa using h2 i x (by simpa using hx)
def renHp (ρ : Nat → Nat) (H' : List Blk) : Nat → List Blk → Prop
  | _, [] => True
  | j, .gone :: H => renHp ρ H' (j + 1) H
  | j, b :: H => H'[ρ j]? = some (b.ren ρ) ∧ renHp ρ H' (j + 1) H
theorem renHp_get {ρ : Nat → Nat} {H' : List Blk} : ∀ {H : List Blk} {k : Nat}, renHp ρ H' k H → ∀ (j : Nat) (b : Blk), H[j]? = some b → b = .gone ∨ H'[ρ (k + j)]? = some (b.ren ρ)
  | [], _, _, j, b, hb => by simp at hb
  | c :: H, k, h, j, b, hb => by
    have step : renHp ρ H' (k + 1) H ∧ (c = .gone ∨ H'[ρ k]? = some (c.ren ρ)) := by
      cases c with
      | gone => exact ⟨h, .inl rfl⟩
      | own T ss => exact ⟨h.2, .inr h.1⟩
      | ro ss => exact ⟨h.2, .inr h.1⟩
      | obj R => exact ⟨h.2, .inr h.1⟩
    cases j with
    | zero => simp at hb; subst hb; exact step.2
    | succ j =>
      have := renHp_get step.1 j b (by simpa using hb)
      rwa [show k + 1 + j = k + (j + 1) by omega] at this
structure Next2 (ρ : Nat → Nat) (ds : List Nat) (lo : Nat) (fr : List V) (sel : List (Nat × V)) (Hs : List Blk) (fr' : List V) (H' : List Blk) : Prop where
  frame : renFr ρ (setL sel (hav ds 0 fr)) fr'
  heap : renHp ρ H' 0 Hs
  inj : ∀ i j : Nat, i < Hs.length → j < Hs.length → ρ i = ρ j → i = j
  low : ∀ j : Nat, j < lo → ρ j = j
  bf : bndF Hs.length (setL sel (hav ds 0 fr)) = true
  bh : bndH Hs.length Hs = true
  lo : lo ≤ Hs.length
theorem Next2.seen {ρ : Nat → Nat} {ds : List Nat} {lo : Nat} {fr : List V} {sel : List (Nat × V)} {Hs : List Blk} {fr' : List V} {H' : List Blk} (h : Next2 ρ ds lo fr sel Hs fr' H') : Seen ρ lo (setL sel (hav ds 0 fr)) Hs fr' H' :=
  ⟨(renFr_get h.frame).1, (renFr_get h.frame).2, fun j b hb => by have := renHp_get h.heap j b hb; rwa [Nat.zero_add] at this, fun i j b c hi hj _ _ e => h.inj i j (List.getElem?_eq_some_iff.1 hi).1 (List.getElem?_eq_some_iff.1 hj).1 e, h.low, h.bf, h.bh, h.lo⟩
theorem loop_ren {body : List V → List Blk → XQ → Prop} {lo : Nat} {fr : List V} {H : List Blk} {Q : XQ} {α : Type} (ds : List Nat) (J : Nat → α → Prop) (sel : α → List (Nat × V)) (Hs : α → List Blk) (m₀ : Nat) (s₀ : α) (h₀ : J m₀ s₀) (ρ₀ : Nat → Nat)
    (start : Next2 ρ₀ ds lo fr (sel s₀) (Hs s₀) fr H)
    (round : ∀ m s, J m s → havK ds 0 fr fun f₁ => setLK (sel s) f₁ fun f₂ => body f₂ (Hs s) fun ex fr' H' => match ex with
      | .normal => ∃ m' s' ρ, m' < m ∧ J m' s' ∧ Next2 ρ ds lo fr (sel s') (Hs s') fr' H'
      | .exit id => Q (.exit id) fr' H'
      | .ret => Q .ret fr' H') : XLoop body lo fr H Q := by
  unfold XLoop
  refine ⟨fun m f h => ∃ s, J m s ∧ f = setL (sel s) (hav ds 0 fr) ∧ h = Hs s, fun m fr' H' => ∃ m' s' ρ, m' < m ∧ J m' s' ∧ Next2 ρ ds lo fr (sel s') (Hs s') fr' H',
    ⟨m₀, _, _, ρ₀, ⟨s₀, h₀, rfl, rfl⟩, start.seen⟩, ?_, ?_⟩
  · rintro m f h ⟨s, hs, rfl, rfl⟩ _ _ _
    have := round m s hs
    rw [havK_iff, setLK_iff] at this
    exact this
  · rintro m fr' H' ⟨m', s', ρ, h1, h2, h3⟩
    exact ⟨m', _, _, ρ, h1, ⟨s', h2, rfl, rfl⟩, h3.seen⟩
theorem made_of {P0 : V → List Blk → Prop} {x : V} {H' : List Blk} (x0 : V) (N : List Blk) (ρ : Nat → Nat) (h : P0 x0 N) (h1 : x = x0.ren ρ) (h2 : renHp ρ H' 0 N) (h3 : ∀ i j : Nat, i < N.length → j < N.length → ρ i = ρ j → i = j)
    (h4 : bndF N.length [x0] = true) (h5 : bndH N.length N = true) (h6 : x0 ≠ .any) : Made P0 x H' := by
  refine ⟨x0, N, ρ, h, ⟨rfl, fun i y hy => ?_, fun j b hb => ?_, fun i j b c hi hj _ _ e => h3 i j (List.getElem?_eq_some_iff.1 hi).1 (List.getElem?_eq_some_iff.1 hj).1 e, fun j hj => absurd hj (Nat.not_lt_zero j), h4, h5, Nat.zero_le _⟩, h6⟩
  · cases i with
    | zero => simp at hy; subst hy; exact .inr (by simp [h1])
    | succ i => simp at hy
  · have := renHp_get h2 j b hb
    rwa [Nat.zero_add] at this
end Go.Proofs.YtaficaacogcblaaGreatDoor
set_option linter.all false
namespace Go.Proofs.YtaficaacogcblaaGreatDoor
open Go.RowKit (Below)
variable {Df : List Deferred}
def upd1 {α : Type} (b : Bool) (u : Option (Nat × α)) (l : List α) : List α :=
  match u with
  | some q => match b with
    | true => l.set q.1 q.2
    | false => l
  | none => l
def upds {α : Type} : List (Option (Nat × α)) → Nat → (Nat → Bool) → List α → List α
  | [], _, _, l => l
  | u :: us, k, D, l => upds us (k + 1) D (upd1 (D k) u l)
theorem upds_length {α : Type} : ∀ (us : List (Option (Nat × α))) (k : Nat) (D : Nat → Bool) (l : List α), (upds us k D l).length = l.length
  | [], _, _, _ => rfl
  | u :: us, k, D, l => by
    rw [upds, upds_length us]
    cases u with
    | none => rfl
    | some q => cases D k <;> simp [upd1]
theorem upds_congr {α : Type} {s : Nat} : ∀ (us : List (Option (Nat × α))) (k : Nat) (D D' : Nat → Bool) (l l' : List α), (l[s]? = l'[s]?) → (∀ p v, us[p]? = some (some (s, v)) → D (k + p) = D' (k + p)) →
    (upds us k D l)[s]? = (upds us k D' l')[s]?
  | [], _, _, _, l, l', hl, _ => hl
  | u :: us, k, D, D', l, l', hl, h => by
    rw [upds, upds]
    refine upds_congr us (k + 1) D D' _ _ ?_ (fun p v hp => by have := h (p + 1) v (by simpa using hp); simpa [Nat.add_assoc, Nat.add_comm 1 p] using this)
    have hlen : ∀ (t : Nat) (v : α) (m : List α), t ≠ s → (m.set t v)[s]? = m[s]? := fun t v m hne => List.getElem?_set_ne hne
    cases u with
    | none => exact hl
    | some q =>
      obtain ⟨t, v⟩ := q
      simp only [upd1]
      by_cases hts : t = s
      · subst hts
        have h0 : D k = D' k := by have := h 0 v (by simp); simpa using this
        rw [← h0]
        cases D k with
        | false => exact hl
        | true =>
          show (l.set t v)[t]? = (l'.set t v)[t]?
          rcases Nat.lt_or_ge t l.length with hlt | hge
          · have : t < l'.length := by
              rcases Nat.lt_or_ge t l'.length with h' | h'
              · exact h'
              · rw [List.getElem?_eq_getElem hlt, List.getElem?_eq_none h'] at hl; cases hl
            rw [List.getElem?_set_self hlt, List.getElem?_set_self this]
          · have : l'.length ≤ t := by
              rcases Nat.lt_or_ge t l'.length with h' | h'
              · rw [List.getElem?_eq_none hge, List.getElem?_eq_getElem h'] at hl; cases hl
              · exact h'
            rw [List.getElem?_eq_none (by simpa using hge), List.getElem?_eq_none (by simpa using this)]
      · have e1 := hlen t v l hts
        have e2 := hlen t v l' hts
        cases D k <;> cases D' k
        · exact hl
        · show l[s]? = (l'.set t v)[s]?
          rw [e2]; exact hl
        · show (l.set t v)[s]? = l'[s]?
          rw [e1]; exact hl
        · show (l.set t v)[s]? = (l'.set t v)[s]?
          rw [e1, e2]; exact hl
theorem upds_set {α : Type} {s : Nat} {v : α} : ∀ (us : List (Option (Nat × α))) (k : Nat) (D : Nat → Bool) (l : List α), (∀ p w, us[p]? = some (some (s, w)) → D (k + p) = false) →
    upds us k D (l.set s v) = (upds us k D l).set s v
  | [], _, _, _, _ => rfl
  | u :: us, k, D, l, h => by
    have ih := fun l => upds_set (s := s) (v := v) us (k + 1) D l (fun p w hp => by have := h (p + 1) w (by simpa using hp); simpa [Nat.add_assoc, Nat.add_comm 1 p] using this)
    rw [upds, upds, ← ih]
    congr 1
    cases hD : D k with
    | false => cases u <;> rfl
    | true =>
      cases u with
      | none => rfl
      | some q =>
        obtain ⟨t, w⟩ := q
        simp only [upd1]
        have hts : t ≠ s := fun e => by
          subst e
          have := h 0 w (by simp)
          simp [hD] at this
        show (l.set s v).set t w = (l.set t w).set s v
        exact List.set_comm _ _ (Ne.symm hts)
theorem upds_add {α : Type} (i : Nat) (u : Option (Nat × α)) : ∀ (us : List (Option (Nat × α))) (k : Nat) (D : Nat → Bool) (l : List α), k ≤ i → us[i - k]? = some u → D i = false →
    (∀ p s v w, u = some (s, v) → i < p → us[p - k]? = some (some (s, w)) → D p = false) →
    upds us k (fun p => p == i || D p) l = upd1 true u (upds us k D l)
  | [], k, D, l, _, hu, _, _ => by simp at hu
  | u' :: us, k, D, l, hk, hu, hD, hlater => by
    rw [upds, upds]
    rcases Nat.lt_or_ge k i with hlt | hge
    · have hki : (k == i) = false := by simp; omega
      have := upds_add i u us (k + 1) D (upd1 (D k) u' l) (by omega) (by rw [show i - k = (i - (k + 1)) + 1 by omega] at hu; simpa using hu) hD
        (fun p s v w hu' hp hpw => hlater p s v w hu' hp (by rw [show p - k = (p - (k + 1)) + 1 by omega]; simpa using hpw))
      simp only [hki, Bool.false_or]
      exact this
    · obtain rfl : k = i := by omega
      simp at hu
      subst hu
      have hrest : ∀ l, upds us (k + 1) (fun p => p == k || D p) l = upds us (k + 1) D l := fun l => by
        have gen : ∀ (us : List (Option (Nat × α))) (m : Nat) (l : List α), k < m → upds us m (fun p => p == k || D p) l = upds us m D l := by
          intro us
          induction us with
          | nil => intro m l _; rfl
          | cons a us ih =>
            intro m l hm
            rw [upds, upds]
            have : (m == k) = false := by simp; omega
            simp only [this, Bool.false_or]
            exact ih (m + 1) _ (by omega)
        exact gen us (k + 1) l (by omega)
      rw [hrest]
      simp only [beq_self_eq_true, Bool.true_or, hD]
      cases u' with
      | none => rfl
      | some q =>
        obtain ⟨s, v⟩ := q
        show upds us (k + 1) D (l.set s v) = (upds us (k + 1) D l).set s v
        refine upds_set us (k + 1) D l fun p w hp => ?_
        exact hlater (k + 1 + p) s v w rfl (by omega) (by rw [show k + 1 + p - k = p + 1 by omega]; simpa using hp)
theorem upds_none {α : Type} : ∀ (us : List (Option (Nat × α))) (k : Nat) (l : List α), upds us k (fun _ => false) l = l
  | [], _, _ => rfl
  | u :: us, k, l => by rw [upds]; cases u <;> exact upds_none us (k + 1) l
theorem upds_lt {α : Type} : ∀ (us : List (Option (Nat × α))) (k i : Nat) (l : List α), upds us k (fun p => decide (p < i)) l = (us.take (i - k)).foldl (fun l u => upd1 true u l) l
  | [], k, i, l => by simp [upds]
  | u :: us, k, i, l => by
    rw [upds, upds_lt us (k + 1) i]
    rcases Nat.lt_or_ge k i with h | h
    · rw [show i - k = (i - (k + 1)) + 1 by omega, List.take_succ_cons, List.foldl_cons]
      simp only [h, decide_true]
    · rw [show i - k = 0 by omega, show i - (k + 1) = 0 by omega]
      have : decide (k < i) = false := by simp; omega
      rw [this]
      cases u <;> rfl
theorem upds_mem {α : Type} {x : α} : ∀ (us : List (Option (Nat × α))) (k : Nat) (D : Nat → Bool) (l : List α), x ∈ upds us k D l → x ∈ l ∨ ∃ p s, us[p]? = some (some (s, x)) ∧ D (k + p) = true
  | [], _, _, _, h => .inl h
  | u :: us, k, D, l, h => by
    rw [upds] at h
    rcases upds_mem us (k + 1) D _ h with h' | ⟨p, s, h1, h2⟩
    · cases hD : D k with
      | false => rw [hD] at h'; cases u <;> exact .inl h'
      | true =>
        rw [hD] at h'
        cases u with
        | none => exact .inl h'
        | some q =>
          obtain ⟨t, v⟩ := q
          rcases List.mem_or_eq_of_mem_set h' with h'' | rfl
          · exact .inl h''
          · exact .inr ⟨0, t, by simp, by simpa using hD⟩
    · exact .inr ⟨p + 1, s, by simpa using h1, by simpa [Nat.add_assoc, Nat.add_comm 1 p] using h2⟩
mutual
def C.on (p : Nat → Bool) : C → Bool
  | .cp j _ => p j
  | .cpi j _ _ => p j
  | .csl j _ _ _ _ => p j
  | .cm j => p j
  | .cf _ caps => C.onL p caps
  | .cmv _ j _ => p j
  | _ => true
def C.onL (p : Nat → Bool) : List C → Bool
  | [] => true
  | c :: l => c.on p && C.onL p l
end
def ons (p : Nat → Bool) : List Seg → Bool
  | [] => true
  | .one c :: ss => c.on p && ons p ss
  | .ints _ _ _ :: ss => ons p ss
def W.on (p : Nat → Bool) : W → Bool
  | .c x => x.on p
  | .agg ss => ons p ss
def onW (p : Nat → Bool) : List W → Bool
  | [] => true
  | x :: xs => x.on p && onW p xs
def V.on (p : Nat → Bool) : V → Bool
  | .w x => x.on p
  | .tup ws => onW p ws
  | .any => true
def Blk.on (p : Nat → Bool) : Blk → Bool
  | .own _ ss => ons p ss
  | .ro ss => ons p ss
  | _ => true
def Sg.onA (p : Nat → Bool) (σ τ : Sg) : Prop := ∀ j, p j = true → σ j = τ j
mutual
theorem C.den_on {p : Nat → Bool} {σ τ : Sg} (h : Sg.onA p σ τ) : (c : C) → c.on p = true → c.den σ = c.den τ
  | .cb _, _ | .ci _ _, _ | .cs _, _ | .cnil, _ | .cg _ _, _ | .cgi _ _ _, _ | .csn, _ | .cv _, _ => rfl
  | .cp j o, hb => by simp only [C.den, Sg.at, h j hb]
  | .cpi j o i, hb => by simp only [C.den, Sg.at, h j hb]
  | .csl j o i l c, hb => by simp only [C.den, Sg.at, h j hb]
  | .cm j, hb => by simp only [C.den, h j hb]
  | .cf f caps, hb => by simp only [C.den, C.denL_on h caps hb]
  | .cmv f j o, hb => by simp only [C.den, Sg.at, h j hb]
theorem C.denL_on {p : Nat → Bool} {σ τ : Sg} (h : Sg.onA p σ τ) : (l : List C) → C.onL p l = true → C.denL σ l = C.denL τ l
  | [], _ => rfl
  | c :: l, hb => by
    simp only [C.onL, Bool.and_eq_true] at hb
    simp only [C.denL, C.den_on h c hb.1, C.denL_on h l hb.2]
end
theorem dens_on {p : Nat → Bool} {σ τ : Sg} (h : Sg.onA p σ τ) : (ss : List Seg) → ons p ss = true → dens σ ss = dens τ ss
  | [], _ => rfl
  | .one c :: ss, hb => by
    simp only [ons, Bool.and_eq_true] at hb
    simp only [dens, Seg.den, C.den_on h c hb.1, dens_on h ss hb.2]
  | .ints k m xs :: ss, hb => by
    simp only [ons] at hb
    simp only [dens, Seg.den, dens_on h ss hb]
theorem W.den_on {p : Nat → Bool} {σ τ : Sg} (h : Sg.onA p σ τ) (x : W) (hb : x.on p = true) : x.den σ = x.den τ := by
  cases x with
  | c x => exact C.den_on h x hb
  | agg ss => simp only [W.den, dens_on h ss hb]
theorem denW_on {p : Nat → Bool} {σ τ : Sg} (h : Sg.onA p σ τ) : (ws : List W) → onW p ws = true → ws.map (W.den σ) = ws.map (W.den τ)
  | [], _ => rfl
  | x :: ws, hb => by
    simp only [onW, Bool.and_eq_true] at hb
    simp only [List.map_cons, W.den_on h x hb.1, denW_on h ws hb.2]
theorem V.rep_on {p : Nat → Bool} {σ τ : Sg} (h : Sg.onA p σ τ) {x : V} (hb : x.on p = true) {v : Value} (hr : x.rep σ v) : x.rep τ v := by
  cases x with
  | w x => exact hr.trans (W.den_on h x hb)
  | tup ws => exact hr.trans (by rw [denW_on h ws hb])
  | any => trivial
mutual
theorem C.on_of {p : Nat → Bool} {n : Nat} (h : ∀ j, j < n → p j = true) : (c : C) → c.bnd n = true → c.on p = true
  | .cb _, _ | .ci _ _, _ | .cs _, _ | .cnil, _ | .cg _ _, _ | .cgi _ _ _, _ | .csn, _ | .cv _, _ => rfl
  | .cp j o, hb => h j (of_decide_eq_true hb)
  | .cpi j o i, hb => h j (of_decide_eq_true hb)
  | .csl j o i l c, hb => h j (of_decide_eq_true hb)
  | .cm j, hb => h j (of_decide_eq_true hb)
  | .cf f caps, hb => C.onL_of h caps hb
  | .cmv f j o, hb => h j (of_decide_eq_true hb)
theorem C.onL_of {p : Nat → Bool} {n : Nat} (h : ∀ j, j < n → p j = true) : (l : List C) → C.bndL n l = true → C.onL p l = true
  | [], _ => by simp only [C.onL]
  | c :: l, hb => by
    simp only [C.bndL, Bool.and_eq_true] at hb
    simp only [C.onL, Bool.and_eq_true]
    exact ⟨C.on_of h c hb.1, C.onL_of h l hb.2⟩
end
theorem ons_of {p : Nat → Bool} {n : Nat} (h : ∀ j, j < n → p j = true) : (ss : List Seg) → bnds n ss = true → ons p ss = true
  | [], _ => rfl
  | .one c :: ss, hb => by
    simp only [bnds, Seg.bnd, Bool.and_eq_true] at hb
    simp only [ons, Bool.and_eq_true]
    exact ⟨C.on_of h c hb.1, ons_of h ss hb.2⟩
  | .ints k m xs :: ss, hb => by
    simp only [bnds, Seg.bnd, Bool.and_eq_true] at hb
    exact ons_of h ss hb.2
theorem W.on_of {p : Nat → Bool} {n : Nat} (h : ∀ j, j < n → p j = true) (x : W) (hb : x.bnd n = true) : x.on p = true := by
  cases x with
  | c x => exact C.on_of h x hb
  | agg ss => exact ons_of h ss hb
theorem onW_of {p : Nat → Bool} {n : Nat} (h : ∀ j, j < n → p j = true) : (ws : List W) → bndW n ws = true → onW p ws = true
  | [], _ => rfl
  | x :: ws, hb => by
    simp only [bndW, Bool.and_eq_true] at hb
    simp only [onW, Bool.and_eq_true]
    exact ⟨W.on_of h x hb.1, onW_of h ws hb.2⟩
theorem V.on_of {p : Nat → Bool} {n : Nat} (h : ∀ j, j < n → p j = true) (x : V) (hb : x.bnd n = true) : x.on p = true := by
  cases x with
  | w x => exact W.on_of h x hb
  | tup ws => exact onW_of h ws hb
  | any => rfl
theorem Blk.on_of {p : Nat → Bool} {n : Nat} (h : ∀ j, j < n → p j = true) (x : Blk) (hb : x.bnd n = true) : x.on p = true := by
  cases x with
  | own T ss => exact ons_of h ss hb
  | ro ss => exact ons_of h ss hb
  | _ => rfl
theorem FRep.on {p : Nat → Bool} {σ τ : Sg} (h : Sg.onA p σ τ) {a : Act} {fr : List V} (hf : FRep Df σ a fr) (ho : ∀ x ∈ fr, x.on p = true) : FRep Df τ a fr :=
  ⟨hf.dfr, hf.size, fun i x hx => V.rep_on h (ho x (List.mem_of_getElem? hx)) (hf.rep i x hx)⟩
theorem Rep.weak' {G : Glo} {σ : Sg} {base : Nat} {w₀ w : World} {H K : List Blk} (h : Rep G σ base w₀ w K) (hw : ∀ (j : Nat) (b : Blk), H[j]? = some b → b = .gone ∨ K[j]? = some b) : Rep G σ base w₀ w H := by
  refine ⟨h.below, h.size, fun j b hj => ?_, fun i j b c hi hj hb hc hij => ?_, h.glo⟩
  · rcases hw j b hj with rfl | hk
    · trivial
    · exact h.blk j b hk
  · rcases hw i b hi with rfl | hi'
    · cases hb
    · rcases hw j c hj with rfl | hj'
      · cases hc
      · exact h.sep i j b c hi' hj' hb hc hij
theorem FRep.weak' {σ : Sg} {a : Act} {F G : List V} (h : FRep Df σ a G) (hl : F.length = G.length) (hw : ∀ (i : Nat) (x : V), F[i]? = some x → x = .any ∨ G[i]? = some x) : FRep Df σ a F :=
  ⟨h.dfr, by rw [h.size, hl], fun i x hx => by
    rcases hw i x hx with rfl | hg
    · trivial
    · exact h.rep i x hg⟩
theorem Rep.fill {G : Glo} {σ : Sg} {base : Nat} {w₀ w : World} {H : List Blk} (h : Rep G σ base w₀ w H) {j : Nat} (hj : H[j]? = some .gone) (ha : ∀ b ∈ H, b.on (fun k => k != j) = true) (o : Obj) (b : Blk)
    (hb : b.rep (σ.upd j (w.heap.size, 0)) base (w.alloc o) j) : Rep G (σ.upd j (w.heap.size, 0)) base w₀ (w.alloc o) (H.set j b) := by
  have hon : Sg.onA (fun k => k != j) σ (σ.upd j (w.heap.size, 0)) := fun k hk => by
    have : k ≠ j := by simpa using hk
    simp only [Sg.upd, if_neg this]
  have h1 := h.later ((Below.refl w.heap.size w).alloc (Nat.le_refl _) o)
  have hlt := (List.getElem?_eq_some_iff.1 hj).1
  have low : ∀ (i : Nat) (c : Blk), H[i]? = some c → c.mine = true → (σ i).1 < w.heap.size := fun i c hi hc => by
    have := h.blk i c hi
    cases c with
    | own T ss => exact (Array.getElem?_eq_some_iff.1 this.2.2).1
    | obj R => obtain ⟨_, _, o, h3, _⟩ := this; exact (Array.getElem?_eq_some_iff.1 h3).1
    | ro ss => cases hc
    | gone => cases hc
  refine ⟨h1.below, h1.size, fun i c hi => ?_, fun i k c d hi hk hc hd hik => ?_, fun g ss hg => ?_⟩
  · by_cases hij : j = i
    · subst hij
      rw [List.getElem?_set_self hlt] at hi
      cases hi; exact hb
    · rw [List.getElem?_set_ne hij] at hi
      have hc := h1.blk i c hi
      have hσ : σ i = σ.upd j (w.heap.size, 0) i := hon i (by simpa using Ne.symm hij)
      have hcon := ha c (List.mem_of_getElem? hi)
      cases c with
      | own T ss => simp only [Blk.rep, ← hσ, ← dens_on hon ss hcon]; exact hc
      | ro ss => simp only [Blk.rep, Sg.at, ← hσ, ← dens_on hon ss hcon]; exact hc
      | obj R => simp only [Blk.rep, ← hσ]; exact hc
      | gone => trivial
  · have val : ∀ (i : Nat) (c : Blk), (H.set j b)[i]? = some c → c.mine = true → i ≠ j → H[i]? = some c := fun i c hi _ hne => by rwa [List.getElem?_set_ne (Ne.symm hne)] at hi
    by_cases hij : i = j
    · subst hij
      have := low k d (val k d hk hd (Ne.symm hik)) hd
      rw [Sg.upd_self, ← hon k (by simpa using Ne.symm hik)]; simp only; omega
    · by_cases hkj : k = j
      · subst hkj
        have := low i c (val i c hi hc hij) hc
        rw [Sg.upd_self, ← hon i (by simpa using hij)]; simp only; omega
      · rw [← hon i (by simpa using hij), ← hon k (by simpa using hkj)]
        exact h1.sep i k c d (val i c hi hc hij) (val k d hk hd hkj) hc hd hik
  · obtain ⟨h1, h2, h3⟩ := h1.glo g ss hg
    refine ⟨h1, h2, ?_⟩
    rw [← dens_agree (n := 0) (fun j hj => absurd hj (Nat.not_lt_zero j)) ss h2]
    exact h3
end Go.Proofs.YtaficaacogcblaaGreatDoor
set_option linter.all false
namespace Go.Proofs.YtaficaacogcblaaGreatDoor
open Go.RowKit (Below)
variable {Df : List Deferred}
inductive EffD where
  | none
  | new (j : Nat) (T : TypeId) (ss : List Seg)
  | set (j : Nat) (T : TypeId) (ss : List Seg)
def EffD.wr : EffD → Option (Nat × Blk)
  | .none => Option.none
  | .new j T ss => some (j, .own T ss)
  | .set j T ss => some (j, .own T ss)
def EffD.fresh : EffD → Option Nat
  | .new j _ _ => some j
  | _ => Option.none
structure DEff where
  dst : Option Nat
  x : V
  e : EffD
  foot : List Nat
def DEff.fu (d : DEff) : Option (Nat × V) := match d.dst with | some s => some (s, d.x) | none => none
def DEff.wu (d : DEff) : Option (Nat × Blk) := d.e.wr
def bound (ops : Array Oper) (i p : Nat) : Bool := match ops[i]? with
  | some o => o.after.any fun e => Region.binds .any e && e.on == p
  | none => false
def clash (ops : Array Oper) (oi : Oper) (dp di : DEff) : Bool :=
  (match dp.dst with
   | some s => (oi.looksAt ops).contains s || di.dst == some s
   | none => false) ||
  (match dp.e.wr with
   | some (j, _) => di.foot.contains j || (match di.e.wr with | some (j', _) => j' == j | none => false)
   | none => false)
def names (j : Nat) (d : DEff) : Bool :=
  !(d.x.on (fun k => k != j)) || (match d.e.wr with | some (_, b) => !(b.on (fun k => k != j)) | none => false)
def chkAt (ops : Array Oper) (effs : List DEff) (i : Nat) (o : Oper) (d : DEff) : Bool :=
  (o.after.all fun e => !(Region.binds .any e) || Nat.blt e.on i) &&
  (effs.zipIdx.all fun (dp, p) => p == i || bound ops i p || bound ops p i || !(clash ops o dp d)) &&
  (effs.zipIdx.all fun (dp, p) => p == i || bound ops i p || (match dp.e.fresh with | some j => !(names j d) | none => true))
def chk (ops : Array Oper) (effs : List DEff) : Bool :=
  effs.zipIdx.all fun (d, i) => match ops[i]? with | some o => chkAt ops effs i o d | none => false
def SF (Df : List Deferred) (P : Program) (E : Env) (ops : Array Oper) (i : Nat) (o : Oper) (frm : List V) (Hm : List Blk) (d : DEff) : Prop :=
  ∀ σ a base w₀ w, FRep Df σ a frm → Rep E.G σ base w₀ w Hm → ∀ (N : Act → World → Prop) (Q : Exit → Act → World → Prop),
    (match d.e with
     | .none => ∀ v w', d.x.rep σ v → Below w.heap.size w w' → N (a.put o.dst v) w'
     | .new j T ss => ∀ v, d.x.rep (σ.upd j (w.heap.size, 0)) v → N (a.put o.dst v) (w.alloc (.cells (dens σ ss).toArray T))
     | .set j T ss => d.x = undefV → (∃ s₀, Hm[j]? = some (.own T s₀)) → N (a.put o.dst undef) (w.setRow (σ j).1 (dens σ ss).toArray)) → wpOp P ops Q i N a w
def runF (pre : List DEff) (fr : List V) : List V := pre.foldl (fun l d => upd1 true d.fu l) fr
def runH (pre : List DEff) (H : List Blk) : List Blk := pre.foldl (fun l d => upd1 true d.wu l) H
theorem upds_runF (effs : List DEff) (i : Nat) (fr : List V) : upds (effs.map DEff.fu) 0 (fun p => decide (p < i)) fr = runF (effs.take i) fr := by
  rw [upds_lt, Nat.sub_zero, ← List.map_take, List.foldl_map]; rfl
theorem upds_runH (effs : List DEff) (i : Nat) (H : List Blk) : upds (effs.map DEff.wu) 0 (fun p => decide (p < i)) H = runH (effs.take i) H := by
  rw [upds_lt, Nat.sub_zero, ← List.map_take, List.foldl_map]; rfl
structure Fact (Df : List Deferred) (P : Program) (E : Env) (ops : Array Oper) (n₀ : Nat) (fr₀ : List V) (H₀ : List Blk) (pre : List DEff) (i : Nat) (d : DEff) : Prop where
  op : ∃ o, ops[i]? = some o ∧ o.dst = d.dst ∧ ∃ frm Hm, frm.length = fr₀.length ∧
    (∀ (s : Nat) (x : V), frm[s]? = some x → x = .any ∨ (s ∈ o.looksAt ops ∧ (runF pre fr₀)[s]? = some x)) ∧
    (∀ (j : Nat) (b : Blk), Hm[j]? = some b → b = .gone ∨ (j ∈ d.foot ∧ (runH pre H₀)[j]? = some b)) ∧ SF Df P E ops i o frm Hm d
  new : ∀ j T ss, d.e = .new j T ss → n₀ ≤ j ∧ (runH pre H₀)[j]? = some .gone ∧ ons (fun k => k != j) ss = true
  set : ∀ j T ss, d.e = .set j T ss → True
section
variable {P : Program} {E : Env} {ops : Array Oper} {n₀ : Nat} {fr₀ : List V} {H₀ : List Blk} {effs : List DEff} {σ₀ : Sg} {base : Nat} {w₀ : World}
def Good (Df : List Deferred) (E : Env) (n₀ : Nat) (fr₀ : List V) (H₀ : List Blk) (effs : List DEff) (σ₀ : Sg) (base : Nat) (w₀ : World) (D : Nat → Bool) (a : Act) (w : World) : Prop :=
  ∃ σ, Sg.agree n₀ σ₀ σ ∧ FRep Df σ a (upds (effs.map DEff.fu) 0 D fr₀) ∧ Rep E.G σ base w₀ w (upds (effs.map DEff.wu) 0 D H₀)
theorem chk_spec (hc : chk ops effs = true) {i : Nat} {d : DEff} (hd : effs[i]? = some d) {o : Oper} (ho : ops[i]? = some o) :
    (∀ p, bound ops i p = true → p < i) ∧
    (∀ p dp, effs[p]? = some dp → p ≠ i → clash ops o dp d = true → bound ops i p = true ∨ bound ops p i = true) ∧
    (∀ p dp, effs[p]? = some dp → p ≠ i → ∀ j, dp.e.fresh = some j → names j d = true → bound ops i p = true) := by
  have h1 := List.all_eq_true.1 hc (d, i) (List.mem_zipIdx_iff_getElem?.2 (by simpa using hd))
  simp only [ho, chkAt, Bool.and_eq_true] at h1
  obtain ⟨⟨h2, h3⟩, h4⟩ := h1
  refine ⟨fun p hp => ?_, fun p dp hdp hne hcl => ?_, fun p dp hdp hne j hj hn => ?_⟩
  · simp only [bound, ho] at hp
    rw [Array.any_eq_true'] at hp
    obtain ⟨e, he, hb⟩ := hp
    simp only [Bool.and_eq_true, beq_iff_eq] at hb
    have := Array.all_eq_true'.1 h2 e he
    simp only [hb.1, Bool.not_true, Bool.false_or, Nat.blt_eq] at this
    rw [← hb.2]; exact this
  · have := List.all_eq_true.1 h3 (dp, p) (List.mem_zipIdx_iff_getElem?.2 (by simpa using hdp))
    have hne' : (p == i) = false := by simpa using hne
    simp only [hne', hcl, Bool.false_or, Bool.not_true, Bool.or_false, Bool.or_eq_true] at this
    exact this
  · have := List.all_eq_true.1 h4 (dp, p) (List.mem_zipIdx_iff_getElem?.2 (by simpa using hdp))
    have hne' : (p == i) = false := by simpa using hne
    simp only [hne', hj, hn, Bool.false_or, Bool.not_true, Bool.or_false] at this
    exact this
theorem good_step (hc : chk ops effs = true) (hfr : ∀ x ∈ fr₀, x.bnd n₀ = true) (hH : ∀ b ∈ H₀, b.bnd n₀ = true) {i : Nat} {d : DEff} (hd : effs[i]? = some d)
    (hF : Fact Df P E ops n₀ fr₀ H₀ (effs.take i) i d) {D : Nat → Bool} (hDn : ∀ p, D p = true → p < effs.length) (hcl : ∀ q p, D q = true → bound ops q p = true → D p = true) (hi : D i = false) (hready : ∀ p, bound ops i p = true → D p = true)
    {a : Act} {w : World} (hg : Good Df E n₀ fr₀ H₀ effs σ₀ base w₀ D a w) {Q : Exit → Act → World → Prop} :
    wpOp P ops Q i (Good Df E n₀ fr₀ H₀ effs σ₀ base w₀ (fun p => p == i || D p)) a w := by
  obtain ⟨σ, g1, g2, g3⟩ := hg
  obtain ⟨o, ho, hdst, frm, Hm, hlen, hfm, hHm, hSF⟩ := hF.op
  obtain ⟨c1, c2, c3⟩ := chk_spec hc hd ho
  -- whoever bears on i has come just if the text has it ahead of i
  have same : ∀ (p : Nat) (dp : DEff), effs[p]? = some dp → p ≠ i → clash ops o dp d = true → decide (p < i) = D p := fun p dp hdp hne hc' => by
    rcases c2 p dp hdp hne hc' with h | h
    · rw [hready p h, decide_eq_true (c1 p h)]
    · have hop : ∃ op, ops[p]? = some op := by
        unfold bound at h
        cases hop : ops[p]? with
        | none => rw [hop] at h; cases h
        | some op => exact ⟨op, rfl⟩
      obtain ⟨op, hop⟩ := hop
      have := (chk_spec hc hdp hop).1 i h
      have hDp : D p = false := by
        cases hDp : D p with
        | false => rfl
        | true => rw [hcl p i hDp h] at hi; cases hi
      rw [hDp, decide_eq_false (by omega)]
  have later : ∀ (p : Nat) (dp : DEff), effs[p]? = some dp → i < p → clash ops o dp d = true → D p = false := fun p dp hdp hlt hc' => by
    rw [← same p dp hdp (by omega) hc', decide_eq_false (by omega)]
  have fuc : ∀ (p s : Nat) (v : V), (effs.map DEff.fu)[p]? = some (some (s, v)) → ∃ dp, effs[p]? = some dp ∧ dp.dst = some s ∧ dp.x = v := fun p s v h => by
    rw [List.getElem?_map] at h
    cases hp : effs[p]? with
    | none => rw [hp] at h; cases h
    | some dp =>
      rw [hp] at h
      simp only [Option.map_some, Option.some.injEq, DEff.fu] at h
      split at h
      · rename_i s' hs'
        simp at h
        exact ⟨dp, rfl, by rw [hs', h.1], h.2⟩
      · cases h
  have wuc : ∀ (p j : Nat) (b : Blk), (effs.map DEff.wu)[p]? = some (some (j, b)) → ∃ dp, effs[p]? = some dp ∧ dp.e.wr = some (j, b) := fun p j b h => by
    rw [List.getElem?_map] at h
    cases hp : effs[p]? with
    | none => rw [hp] at h; cases h
    | some dp => rw [hp] at h; simp only [Option.map_some, Option.some.injEq, DEff.wu] at h; exact ⟨dp, rfl, h⟩
  -- the masked state is told of the state as it is
  have r1 : FRep Df σ a frm := by
    refine g2.weak' (by rw [hlen, upds_length]) fun s x hx => ?_
    rcases hfm s x hx with h | ⟨h1, h2⟩
    · exact .inl h
    · refine .inr ?_
      rw [← upds_runF] at h2
      rw [← h2]
      refine (upds_congr _ 0 _ _ _ _ rfl fun p v hp => ?_).symm
      obtain ⟨dp, q1, q2, q3⟩ := fuc p s v hp
      rw [Nat.zero_add]
      by_cases hpi : p = i
      · subst hpi; rw [hi, decide_eq_false (Nat.lt_irrefl _)]
      · exact same p dp q1 hpi (by simp only [clash, q2]; rw [List.contains_iff_mem.2 h1]; rfl)
  have memE : ∀ (j : Nat), (j ∈ d.foot ∨ ∃ b, d.e.wr = some (j, b)) → (upds (effs.map DEff.wu) 0 D H₀)[j]? = (runH (effs.take i) H₀)[j]? := fun j hj => by
    rw [← upds_runH]
    refine (upds_congr _ 0 _ _ _ _ rfl fun p v hp => ?_).symm
    obtain ⟨dp, q1, q2⟩ := wuc p j v hp
    rw [Nat.zero_add]
    by_cases hpi : p = i
    · subst hpi; rw [hi, decide_eq_false (Nat.lt_irrefl _)]
    · refine same p dp q1 hpi ?_
      simp only [clash, q2]
      rcases hj with h | ⟨b, h⟩
      · rw [List.contains_iff_mem.2 h]; simp
      · rw [h]; simp
  have r2 : Rep E.G σ base w₀ w Hm := by
    refine g3.weak' fun j b hb => ?_
    rcases hHm j b hb with h | ⟨h1, h2⟩
    · exact .inl h
    · exact .inr (by rw [memE j (.inl h1)]; exact h2)
  -- the frame behind it
  have addF : ∀ (τ : Sg) (v : Value), FRep Df τ a (upds (effs.map DEff.fu) 0 D fr₀) → d.x.rep τ v → FRep Df τ (a.put o.dst v) (upds (effs.map DEff.fu) 0 (fun p => p == i || D p) fr₀) := fun τ v h1 h2 => by
    have hu : (effs.map DEff.fu)[i - 0]? = some d.fu := by simp [hd]
    rw [upds_add i d.fu _ 0 D fr₀ (Nat.zero_le _) hu hi (fun p s v w hs hp hpw => by
      obtain ⟨dp, q1, q2, q3⟩ := fuc p s w (by simpa using hpw)
      refine later p dp q1 hp ?_
      have hds : d.dst = some s := by
        unfold DEff.fu at hs
        split at hs
        · simp at hs; rename_i s' hs'; rw [hs', hs.1]
        · cases hs
      simp only [clash, q2, hds]; simp)]
    have h3 := h1.put (d := o.dst) h2
    rw [hdst] at h3 ⊢
    unfold DEff.fu
    cases hds : d.dst with
    | none => rw [hds] at h3; exact h3
    | some s => rw [hds] at h3; exact h3
  have huw : (effs.map DEff.wu)[i - 0]? = some d.wu := by simp [hd]
  have addH : upds (effs.map DEff.wu) 0 (fun p => p == i || D p) H₀ = upd1 true d.e.wr (upds (effs.map DEff.wu) 0 D H₀) :=
    upds_add i d.wu _ 0 D H₀ (Nat.zero_le _) huw hi (fun p s v w hs hp hpw => by
      obtain ⟨dp, q1, q2⟩ := wuc p s w (by simpa using hpw)
      refine later p dp q1 hp ?_
      simp only [DEff.wu] at hs
      simp only [clash, q2, hs]; simp)
  refine hSF σ a base w₀ w r1 r2 _ Q ?_
  cases he : d.e with
  | none =>
    intro v w' hv hb
    rw [he] at addH
    refine ⟨σ, g1, addF σ v g2 hv, ?_⟩
    rw [addH]
    exact g3.later hb
  | new j T ss =>
    intro v hv
    rw [he] at addH
    obtain ⟨n1, n2, n3⟩ := hF.new j T ss he
    have hav : ∀ (p : Nat) (dp : DEff), effs[p]? = some dp → D p = true → names j dp = false := fun p dp hdp hDp => by
      cases hn : names j dp with
      | false => rfl
      | true =>
        have hop : ∃ op, ops[p]? = some op := by
          have := List.all_eq_true.1 hc (dp, p) (List.mem_zipIdx_iff_getElem?.2 (by simpa using hdp))
          cases hop : ops[p]? with
          | none => simp [hop] at this
          | some op => exact ⟨op, rfl⟩
        obtain ⟨op, hop⟩ := hop
        have hne : i ≠ p := fun e => by subst e; rw [hi] at hDp; cases hDp
        have hb := (chk_spec hc hdp hop).2.2 i d hd hne j (by simp only [he, EffD.fresh]) hn
        rw [hcl p i hDp hb] at hi
        cases hi
    have hlt : ∀ k, k < n₀ → (k != j) = true := fun k hk => by simp; omega
    have hon : Sg.onA (fun k => k != j) σ (σ.upd j (w.heap.size, 0)) := fun k hk => by
      have : k ≠ j := by simpa using hk
      simp only [Sg.upd, if_neg this]
    have frOn : ∀ x ∈ upds (effs.map DEff.fu) 0 D fr₀, x.on (fun k => k != j) = true := fun x hx => by
      rcases upds_mem _ 0 D fr₀ hx with h | ⟨p, s, h1, h2⟩
      · exact V.on_of hlt x (hfr x h)
      · obtain ⟨dp, q1, q2, q3⟩ := fuc p s x h1
        have := hav p dp q1 (by simpa using h2)
        unfold names at this
        simp only [Bool.or_eq_false_iff, Bool.not_eq_false'] at this
        rw [← q3]; exact this.1
    have HOn : ∀ b ∈ upds (effs.map DEff.wu) 0 D H₀, b.on (fun k => k != j) = true := fun b hb => by
      rcases upds_mem _ 0 D H₀ hb with h | ⟨p, s, h1, h2⟩
      · exact Blk.on_of hlt b (hH b h)
      · obtain ⟨dp, q1, q2⟩ := wuc p s b h1
        have := hav p dp q1 (by simpa using h2)
        unfold names at this
        simp only [Bool.or_eq_false_iff, q2, Bool.not_eq_false'] at this
        exact this.2
    have hgone : (upds (effs.map DEff.wu) 0 D H₀)[j]? = some .gone := by rw [memE j (.inr ⟨_, by rw [he]; rfl⟩)]; exact n2
    refine ⟨σ.upd j (w.heap.size, 0), fun k hk => (g1 k hk).trans (hon k (hlt k hk)), addF _ v (g2.on hon frOn) hv, ?_⟩
    rw [addH]
    refine g3.fill hgone HOn _ (.own T ss) ?_
    refine ⟨by rw [Sg.upd_self], by rw [Sg.upd_self]; exact Nat.le_trans g3.size g3.below.size, ?_⟩
    rw [Sg.upd_self, ← dens_on hon ss n3]
    show (w.heap.push _)[w.heap.size]? = _
    simp
  | set j T ss =>
    intro hx hs
    rw [he] at addH
    obtain ⟨s₀, hs₀⟩ := hs
    have hj : (upds (effs.map DEff.wu) 0 D H₀)[j]? = some (.own T s₀) := by
      rcases hHm j _ hs₀ with h | ⟨h1, h2⟩
      · cases h
      · rw [memE j (.inl h1)]; exact h2
    have hb := g3.blk j _ hj
    refine ⟨σ, g1, addF σ undef g2 (by rw [hx]; exact undefV_rep σ), ?_⟩
    rw [addH]
    refine g3.set hj rfl (fun k hk => ?_) (by simp) rfl rfl rfl rfl ⟨hb.1, hb.2.1, ?_⟩
    · simp only [World.setRow, Array.getElem?_modify]; rw [if_neg (Ne.symm hk)]
    · exact setRow_heap w (σ j).1 _ _ T _ hb.2.2
theorem good_any (hc : chk ops effs = true) (hfr : ∀ x ∈ fr₀, x.bnd n₀ = true) (hH : ∀ b ∈ H₀, b.bnd n₀ = true) (hlen : effs.length = ops.size)
    (hF : ∀ i d, effs[i]? = some d → Fact Df P E ops n₀ fr₀ H₀ (effs.take i) i d) {Q : Exit → Act → World → Prop}
    (fin : ∀ a w, Good Df E n₀ fr₀ H₀ effs σ₀ base w₀ (fun p => decide (p < ops.size)) a w → Q .normal a w) :
    ∀ (fuel : Nat) (listed : Array Bool), listed.size = ops.size → listed.toList.count false = fuel → (∀ q p, listed.getD q false = true → bound ops q p = true → listed.getD p false = true) →
      ∀ a w, Good Df E n₀ fr₀ H₀ effs σ₀ base w₀ (fun p => listed.getD p false) a w → wpAny P .any ops Q fuel listed a w := by
  have edges : ∀ i o, ops[i]? = some o → ∀ e ∈ o.after, Region.binds .any e = true → bound ops i e.on = true := fun i o ho e he hb => by
    simp only [bound, ho]
    rw [Array.any_eq_true']
    exact ⟨e, he, by simp [hb]⟩
  have hd : ∀ i, i < ops.size → ∃ d o, effs[i]? = some d ∧ ops[i]? = some o := fun i hi => ⟨effs[i], ops[i], List.getElem?_eq_getElem (by omega), Array.getElem?_eq_getElem hi⟩
  -- if someone is left, someone is ready
  have someone : ∀ listed : Array Bool, listed.size = ops.size → Region.ready .any ops listed = [] → ∀ i, i < ops.size → listed.getD i false = true := fun listed hs hr i => by
    induction i using Nat.strongRecOn with
    | _ i ih =>
      intro hi
      cases hl : listed.getD i false with
      | true => rfl
      | false =>
        obtain ⟨d, o, h1, h2⟩ := hd i hi
        have : i ∈ Region.ready .any ops listed := by
          rw [mem_ready]
          have hlt : i < listed.size := by omega
          refine ⟨by simp [hlt] at hl ⊢; exact hl, o, h2, fun e he hb => ?_⟩
          have hb' := (chk_spec hc h1 h2).1 e.on (edges i o h2 e he hb)
          exact ih e.on hb' (by omega)
        rw [hr] at this
        cases this
  have all : ∀ (listed : Array Bool) a w, listed.size = ops.size → (∀ i, i < ops.size → listed.getD i false = true) → Good Df E n₀ fr₀ H₀ effs σ₀ base w₀ (fun p => listed.getD p false) a w → Q .normal a w := fun listed a w hs hall hg => by
    have : (fun p => listed.getD p false) = fun p => decide (p < ops.size) := by
      funext p
      rcases Nat.lt_or_ge p ops.size with h | h
      · rw [hall p h, decide_eq_true h]
      · rw [decide_eq_false (by omega)]
        simp [Array.getElem?_eq_none (xs := listed) (i := p) (by omega)]
    rw [this] at hg
    exact fin a w hg
  intro fuel
  induction fuel with
  | zero =>
    intro listed hs hcnt hcl a w hg
    have hall : ∀ i, i < ops.size → listed.getD i false = true := fun i hi => by
      have hlt : i < listed.size := by omega
      have h0 := List.count_eq_zero.1 hcnt
      have : listed[i] ≠ false := fun e => h0 (by rw [← e]; exact Array.getElem_mem_toList hlt)
      simp [hlt]
      simpa using this
    refine ⟨?_, all listed a w hs hall hg⟩
    unfold Region.ready
    rw [List.filter_eq_nil_iff]
    intro i hi
    have hi' : i < ops.size := by simpa using hi
    have := hall i hi'
    have hlt : i < listed.size := by omega
    simp [hlt] at this ⊢
    simp [this]
  | succ fuel ih =>
    intro listed hs hcnt hcl a w hg
    refine ⟨fun hr => all listed a w hs (someone listed hs hr) hg, fun i hi => ?_⟩
    obtain ⟨h1, o, h2, h3⟩ := mem_ready.1 hi
    have hilt : i < ops.size := (Array.getElem?_eq_some_iff.1 h2).1
    have hlt : i < listed.size := by omega
    obtain ⟨d, _, hde, _⟩ := hd i hilt
    have hfalse : listed.getD i false = false := by simp [hlt] at h1 ⊢; exact h1
    have hready : ∀ p, bound ops i p = true → listed.getD p false = true := fun p hp => by
      simp only [bound, h2] at hp
      rw [Array.any_eq_true'] at hp
      obtain ⟨e, he, hb⟩ := hp
      simp only [Bool.and_eq_true, beq_iff_eq] at hb
      rw [← hb.2]; exact h3 e he hb.1
    have step := good_step (σ₀ := σ₀) (base := base) (w₀ := w₀) hc hfr hH hde (hF i d hde) (D := fun p => listed.getD p false) (fun p hp => by
      rcases Nat.lt_or_ge p effs.length with h | h
      · exact h
      · simp [Array.getElem?_eq_none (xs := listed) (i := p) (by omega)] at hp) hcl hfalse hready hg (Q := Q)
    refine wpOp_mono (fun a' w' hg' => ?_) step
    have hset : ∀ p, (listed.setIfInBounds i true).getD p false = (p == i || listed.getD p false) := fun p => by
      by_cases hpi : p = i
      · subst hpi; simp [hlt]
      · have : (p == i) = false := by simpa using hpi
        rw [this, Bool.false_or, getD_set_ne false (Ne.symm hpi)]
    refine ih _ (by simpa using hs) ?_ (fun q p hq hb => ?_) a' w' ?_
    · have e1 : (listed.setIfInBounds i true).toList = listed.toList.set i true := by simp
      have hl : listed.toList[i]? = some false := by
        have : listed[i] = false := by simpa [hlt] using hfalse
        simp [hlt, this]
      have hlt' : i < listed.toList.length := by simpa using hlt
      have hget : listed.toList[i] = false := by rw [List.getElem?_eq_getElem hlt'] at hl; simpa using hl
      rw [e1, List.count_set hlt', hget]
      have e2 : (true == false) = false := rfl
      simp only [beq_self_eq_true, if_true, e2, Bool.false_eq_true, if_false]
      omega
    · rw [hset] at hq ⊢
      simp only [Bool.or_eq_true, beq_iff_eq] at hq ⊢
      rcases hq with rfl | hq
      · exact .inr (hready p hb)
      · exact .inr (hcl q p hq hb)
    · have : (fun p => (listed.setIfInBounds i true).getD p false) = fun p => p == i || listed.getD p false := funext hset
      rw [this]; exact hg'
end
end Go.Proofs.YtaficaacogcblaaGreatDoor
set_option linter.all false
namespace Go.Proofs.YtaficaacogcblaaGreatDoor
open Go.RowKit (Below)
variable {Df : List Deferred}
def maskF (ls : List Nat) : Nat → List V → (List V → Prop) → Prop
  | _, [], K => K []
  | n, x :: xs, K => match ls.elem n with
    | true => maskF ls (n + 1) xs fun r => K (x :: r)
    | false => maskF ls (n + 1) xs fun r => K (.any :: r)
theorem maskF_spec {ls : List Nat} : ∀ {n : Nat} {fr : List V} {K : List V → Prop}, maskF ls n fr K → ∃ frm, K frm ∧ frm.length = fr.length ∧ ∀ (s : Nat) (x : V), frm[s]? = some x → x = .any ∨ (n + s ∈ ls ∧ fr[s]? = some x)
  | n, [], K, h => ⟨[], h, rfl, fun s x hx => by simp at hx⟩
  | n, y :: ys, K, h => by
    simp only [maskF] at h
    have step : ∀ (z : V) (K' : List V → Prop), (z = .any ∨ (n ∈ ls ∧ z = y)) → maskF ls (n + 1) ys (fun r => K (z :: r)) → ∃ frm, K frm ∧ frm.length = (y :: ys).length ∧ ∀ (s : Nat) (x : V), frm[s]? = some x → x = .any ∨ (n + s ∈ ls ∧ (y :: ys)[s]? = some x) := fun z K' hz h => by
      obtain ⟨frm, h1, h2, h3⟩ := maskF_spec h
      refine ⟨z :: frm, h1, by simp [h2], fun s x hx => ?_⟩
      cases s with
      | zero =>
        simp at hx
        subst hx
        rcases hz with h | ⟨h, h'⟩
        · exact .inl h
        · exact .inr ⟨h, by simp [h']⟩
      | succ s =>
        rcases h3 s x (by simpa using hx) with h | ⟨h, h'⟩
        · exact .inl h
        · exact .inr ⟨by rw [show n + (s + 1) = n + 1 + s by omega]; exact h, by simpa using h'⟩
    cases he : ls.elem n with
    | true => rw [he] at h; exact step y K (.inr ⟨List.elem_iff.1 he, rfl⟩) h
    | false => rw [he] at h; exact step .any K (.inl rfl) h
def roB : Blk → Blk
  | .own _ ss => .ro ss
  | .ro ss => .ro ss
  | _ => .gone
def visB (ro : Bool) (b : Blk) : Blk := match ro with | true => roB b | false => b
def maskB (ro : Bool) (ft : List Nat) : Nat → List Blk → (List Blk → Prop) → Prop
  | _, [], K => K []
  | n, b :: H, K => match ft.elem n with
    | true => match ro with
      | true => maskB ro ft (n + 1) H fun r => K (roB b :: r)
      | false => maskB ro ft (n + 1) H fun r => K (b :: r)
    | false => maskB ro ft (n + 1) H fun r => K (.gone :: r)
theorem maskB_spec {ro : Bool} {ft : List Nat} : ∀ {n : Nat} {H : List Blk} {K : List Blk → Prop}, maskB ro ft n H K → ∃ Hm, K Hm ∧ Hm.length = H.length ∧ ∀ (s : Nat) (b : Blk), Hm[s]? = some b → b = .gone ∨ (n + s ∈ ft ∧ ∃ b', H[s]? = some b' ∧ b = visB ro b')
  | n, [], K, h => ⟨[], h, rfl, fun s x hx => by simp at hx⟩
  | n, y :: ys, K, h => by
    simp only [maskB] at h
    have step : ∀ (z : Blk), (z = .gone ∨ (n ∈ ft ∧ z = visB ro y)) → maskB ro ft (n + 1) ys (fun r => K (z :: r)) →
        ∃ Hm, K Hm ∧ Hm.length = (y :: ys).length ∧ ∀ (s : Nat) (b : Blk), Hm[s]? = some b → b = .gone ∨ (n + s ∈ ft ∧ ∃ b', (y :: ys)[s]? = some b' ∧ b = visB ro b') := fun z hz h => by
      obtain ⟨Hm, h1, h2, h3⟩ := maskB_spec h
      refine ⟨z :: Hm, h1, by simp [h2], fun s x hx => ?_⟩
      cases s with
      | zero =>
        simp at hx
        subst hx
        rcases hz with h | ⟨h, h'⟩
        · exact .inl h
        · exact .inr ⟨h, y, rfl, h'⟩
      | succ s =>
        rcases h3 s x (by simpa using hx) with h | ⟨h, b', h', h''⟩
        · exact .inl h
        · exact .inr ⟨by rw [show n + (s + 1) = n + 1 + s by omega]; exact h, b', by simpa using h', h''⟩
    cases he : ft.elem n with
    | true =>
      rw [he] at h
      cases ro with
      | true => exact step (roB y) (.inr ⟨List.elem_iff.1 he, rfl⟩) h
      | false => exact step y (.inr ⟨List.elem_iff.1 he, rfl⟩) h
    | false => rw [he] at h; exact step .gone (.inl rfl) h
theorem roB_ok {b : Blk} {n : Nat} : (b.rng → (roB b).rng) ∧ (b.bnd n = true → (roB b).bnd n = true) := by
  cases b with
  | own T ss => exact ⟨id, id⟩
  | ro ss => exact ⟨id, id⟩
  | obj R => exact ⟨fun _ => trivial, fun _ => rfl⟩
  | gone => exact ⟨fun _ => trivial, fun _ => rfl⟩
def footOf (o : Oper) (fr : List V) (K : List Nat → Prop) : Prop :=
  let at_ (a : Operand) : Prop := evC fr a fun c => match c with
    | .cp j _ => K [j]
    | .cpi j _ _ => K [j]
    | _ => K []
  match o.op with
  | .load _ a => at_ a
  | .store _ a _ => at_ a
  | .convert _ _ a => evC fr a fun c => match c with
    | .csl j _ _ _ _ => K [j]
    | _ => K []
  | _ => K []
theorem footOf_spec {n : Nat} {o : Oper} {fr : List V} (hf : FOk n fr) {K : List Nat → Prop} (h : footOf o fr K) : ∃ ft, K ft := by
  have at_ : ∀ a : Operand, (evC fr a fun c => match c with
    | .cp j _ => K [j]
    | .cpi j _ _ => K [j]
    | _ => K []) → ∃ ft, K ft := fun a h => by
    obtain ⟨c, _, _, h, _⟩ := evC_spec hf h
    split at h <;> exact ⟨_, h⟩
  unfold footOf at h
  simp only at h
  split at h
  · exact at_ _ h
  · exact at_ _ h
  · obtain ⟨c, _, _, h, _⟩ := evC_spec hf h
    split at h <;> exact ⟨_, h⟩
  · exact ⟨_, h⟩
def toD (j : Nat) : Eff → EffD
  | .none => .none
  | .new T ss => .new j T ss
  | .set i T ss => .set i T ss
def xdop (P : Program) (E : Env) (F : Fns) (cal : Cal) (o : Oper) (frm : List V) (H : List Blk) (K : V → Eff → List Nat → Prop) : Prop :=
  let mem : Prop := footOf o frm fun ft => maskB false ft 0 H fun Hm => xop P E o frm Hm fun x e => K x e ft
  match o.op with
  | .call c => match c.callee with
    | .value f => evC frm f fun fv => match fv with
      | .cf g caps => evWs frm c.args.toList fun ws => match F.ct g with
        | some ct => ct (ws ++ caps.map W.c) fun x => K x .none []
        | none => ∃ (m : List Nat) (x : V), x.bnd 0 = true ∧ (maskB true m 0 H fun Hr => cal g (ws ++ caps.map W.c) Hr fun x' _ => x' = x) ∧ x.rng ∧ K x .none m
      | _ => False
    | _ => mem
  | _ => mem
def xdr (P : Program) (E : Env) (F : Fns) (cal : Cal) (ops : Array Oper) (l : List Oper) : List V → List Blk → List DEff → (List V → List Blk → Prop) → Prop :=
  List.rec (motive := fun _ => List V → List Blk → List DEff → (List V → List Blk → Prop) → Prop) (fun fr H acc K => chk ops acc.reverse = true ∧ K fr H)
    (fun o _ ih fr H acc K => maskF (o.looksAt ops) 0 fr fun frm => guardK ops.toList frm o fun wanted => match wanted with
    | false => putK fr o.dst undefV fun fr' => ih fr' H (⟨o.dst, undefV, .none, []⟩ :: acc) K
    | true => xdop P E F cal o frm H fun x e ft => putK fr o.dst x fun fr' => lenH H 0 fun n => effK H e fun H' => ih fr' H' (⟨o.dst, x, toD n e, ft⟩ :: acc) K) l
theorem xdr_nil (P : Program) (E : Env) (F : Fns) (cal : Cal) (ops : Array Oper) (fr : List V) (H : List Blk) (acc : List DEff) (K : List V → List Blk → Prop) : xdr P E F cal ops [] fr H acc K = (chk ops acc.reverse = true ∧ K fr H) := rfl
theorem xdr_cons (P : Program) (E : Env) (F : Fns) (cal : Cal) (ops : Array Oper) (o : Oper) (rest : List Oper) (fr : List V) (H : List Blk) (acc : List DEff) (K : List V → List Blk → Prop) : xdr P E F cal ops (o :: rest) fr H acc K = maskF (o.looksAt ops) 0 fr fun frm => guardK ops.toList frm o fun wanted => match wanted with
    | false => putK fr o.dst undefV fun fr' => xdr P E F cal ops rest fr' H (⟨o.dst, undefV, .none, []⟩ :: acc) K
    | true => xdop P E F cal o frm H fun x e ft => putK fr o.dst x fun fr' => lenH H 0 fun n => effK H e fun H' => xdr P E F cal ops rest fr' H' (⟨o.dst, x, toD n e, ft⟩ :: acc) K := rfl
theorem guard_wp {P : Program} {ops : Array Oper} {i : Nat} {o : Oper} (ho : ops[i]? = some o) {N : Act → World → Prop} {Q : Exit → Act → World → Prop} {a : Act} {w : World} {b : Bool} (hb : Region.wanted o (yielded ops a.tmps) = b)
    (h : match b with | true => o.wp P a w N Q | false => N (a.put o.dst undef) w) : wpOp P ops Q i N a w := by
  unfold wpOp
  simp only [ho, hb]
  cases b with
  | true => simp only [if_true]; exact .inl h
  | false => simp only [Bool.false_eq_true, if_false]; exact h
theorem call_enter {P : Program} {dst : Option Tmp} {ty : TypeId} {pos : String} {after : Array Edge} {guard : Option (Nat × Bool)} {f : Operand} {args : Array Operand} {argTypes : Array TypeId} {a : Act} {σ : Sg} {g : FuncId} {caps : List C} {ws : List W}
    (hf : a.eval f = C.den σ (.cf g caps)) (hw : args.toList.map a.eval = ws.map (W.den σ)) (he : Enter P g) (w : World) :
    (execOp a.eval { dst, op := .call { callee := .value f, args, argTypes }, type := ty, pos, after, guard }).run P w = .ok (.enter g ((ws ++ caps.map W.c).map (W.den σ)).toArray) w := by
  have e1 : args.map a.eval = (ws.map (W.den σ)).toArray := toList_toArray_map args a.eval _ hw
  have e2 : (ws.map (W.den σ)).toArray ++ (C.denL σ caps).toArray = ((ws ++ caps.map W.c).map (W.den σ)).toArray := by rw [denL_W]; simp
  simp only [execOp, resolve, hf, C.den, Deferred.ofValue, e1, Sem.run_bind, Sem.run_pure, Result.andThen_ok, invoke, Array.empty_append, e2]
  exact he _ _
theorem xdop_spec {P : Program} {E : Env} (hE : EnvOk P E) {F : Fns} (hF : FnsOk P F E.G) {cal : Cal} (hc : CalOk P E cal) {ops : Array Oper} {i : Nat} {o : Oper} (hi : ops[i]? = some o) {frm : List V} {H : List Blk} (hf : FOk H.length frm) (ho : HOk H)
    (hg : ∀ {Df : List Deferred} σ a, FRep Df σ a frm → Region.wanted o (yielded ops a.tmps) = true) {K : V → Eff → List Nat → Prop} (h : xdop P E F cal o frm H K) :
    ∃ x e ft, K x e ft ∧ e.ok H ∧ x.ok (e.app H).length ∧ ∃ Hm, (∀ (j : Nat) (b : Blk), Hm[j]? = some b → b = .gone ∨ (j ∈ ft ∧ H[j]? = some b)) ∧ SF Df P E ops i o frm Hm ⟨o.dst, x, toD H.length e, ft⟩ := by
  have mem : (footOf o frm fun ft => maskB false ft 0 H fun Hm => xop P E o frm Hm fun x e => K x e ft) →
      ∃ x e ft, K x e ft ∧ e.ok H ∧ x.ok (e.app H).length ∧ ∃ Hm, (∀ (j : Nat) (b : Blk), Hm[j]? = some b → b = .gone ∨ (j ∈ ft ∧ H[j]? = some b)) ∧ SF Df P E ops i o frm Hm ⟨o.dst, x, toD H.length e, ft⟩ := fun h => by
    obtain ⟨ft, h⟩ := footOf_spec hf h
    obtain ⟨Hm, h, hl, hm⟩ := maskB_spec h
    have hm' : ∀ (j : Nat) (b : Blk), Hm[j]? = some b → b = .gone ∨ (j ∈ ft ∧ H[j]? = some b) := fun j b hb => by
      rcases hm j b hb with h | ⟨h1, b', h2, h3⟩
      · exact .inl h
      · exact .inr ⟨by simpa using h1, by rw [h2, h3]; rfl⟩
    have hom : HOk Hm := by
      refine ⟨fun b hb => ?_, fun b hb => ?_⟩ <;> obtain ⟨q, hq⟩ := List.getElem?_of_mem hb <;> rcases hm' q b hq with rfl | ⟨_, h2⟩
      · trivial
      · exact ho.rng b (List.mem_of_getElem? h2)
      · rfl
      · rw [hl]; exact ho.bnd b (List.mem_of_getElem? h2)
    obtain ⟨x, e, h1, h2, h3, h4⟩ := xop_spec hE h (by rw [hl]; exact hf) hom
    have eok : e.ok H := by
      cases e with
      | none => trivial
      | new T ss => exact ⟨h2.1, by rw [← hl]; exact h2.2⟩
      | set j T ss =>
        obtain ⟨q1, q2, s, q3⟩ := h2
        refine ⟨q1, by rw [← hl]; exact q2, s, ?_⟩
        rcases hm' j _ q3 with h | ⟨_, h⟩
        · cases h
        · exact h
    have elen : (e.app Hm).length = (e.app H).length := by cases e <;> simp [Eff.app, hl]
    refine ⟨x, e, ft, h1, eok, by rw [← elen]; exact h3, Hm, hm', fun σ a base w₀ w hr hw N Q cont => guard_wp hi (hg σ a hr) ?_⟩
    have hrun := h4 σ a base w₀ w hr hw
    show o.wp P a w N Q
    unfold Oper.wp
    cases e with
    | none =>
      obtain ⟨v, v1, v2⟩ := hrun
      rw [v2]
      exact cont v w v1 (Below.refl _ _)
    | new T ss =>
      obtain ⟨v, v1, v2⟩ := hrun
      rw [v2]
      rw [hl] at v1
      exact cont v v1
    | set j T ss =>
      obtain ⟨v1, v2⟩ := hrun
      rw [v2]
      obtain ⟨_, _, s, q3⟩ := h2
      exact cont v1 ⟨s, q3⟩
  unfold xdop at h
  simp only at h
  split at h
  · rename_i c hop
    split at h
    · rename_i f hcal
      obtain ⟨fv, f1, f2, h, f4⟩ := evC_spec hf h
      split at h
      · rename_i g caps
        obtain ⟨ws, w1, w2, h5, w4⟩ := evWs_spec hf h
        simp only [C.rng] at f1
        simp only [C.bnd] at f2
        obtain ⟨dst, op, ty, pos, after, guard⟩ := o
        simp only at hop
        subst hop
        obtain ⟨callee, args, argTypes⟩ := c
        simp only at hcal
        subst hcal
        split at h5
        · rename_i ct hct
          obtain ⟨hok, hent⟩ := hF.ct g ct hct
          obtain ⟨x, x1, x2, x3⟩ := hok _ _ h5 (rngW_append w1 (rngL_W f1))
          refine ⟨x, .none, [], x1, trivial, V.ok_mono (Nat.zero_le _) x2, [], fun j b hb => by simp at hb, fun σ a base w₀ w hr hw N Q cont => guard_wp hi (hg σ a hr) ?_⟩
          show Oper.wp P _ a w N Q
          unfold Oper.wp
          rw [call_enter (f4 σ a hr) (w4 σ a hr) hent w, Oper.upon_enter]
          refine (x3 σ w hw.gw).mono ?_
          rintro e w' ⟨v, rfl, k1, k2⟩
          exact cont v w' k1 k2
        · obtain ⟨m, x, hx, h6, hxr, hk⟩ := h5
          obtain ⟨Hr, h6, hl, hm⟩ := maskB_spec h6
          have hor : HOk Hr := by
            refine ⟨fun b hb => ?_, fun b hb => ?_⟩ <;> obtain ⟨q, hq⟩ := List.getElem?_of_mem hb <;> rcases hm q b hq with rfl | ⟨_, b', h2, rfl⟩
            · trivial
            · exact (roB_ok (n := 0)).1 (ho.rng b' (List.mem_of_getElem? h2))
            · rfl
            · rw [hl]; exact roB_ok.2 (ho.bnd b' (List.mem_of_getElem? h2))
          have hmget : ∀ (j : Nat) (b : Blk), ((List.range H.length).map fun n => if m.elem n then H.getD n .gone else .gone)[j]? = some b → b = .gone ∨ (j ∈ m ∧ H[j]? = some b) := fun j b hb => by
            rw [List.getElem?_map] at hb
            rcases Nat.lt_or_ge j H.length with hlt | hge
            · rw [List.getElem?_range hlt] at hb
              simp only [Option.map_some, Option.some.injEq] at hb
              split at hb
              · rename_i he
                refine .inr ⟨List.elem_iff.1 he, ?_⟩
                rw [List.getD_eq_getElem?_getD, List.getElem?_eq_getElem hlt] at hb
                rw [List.getElem?_eq_getElem hlt, ← hb]; rfl
              · exact .inl hb.symm
            · rw [List.getElem?_eq_none (by simpa using hge)] at hb; cases hb
          refine ⟨x, .none, m, hk, trivial, ⟨hxr, V.bnd_mono (Nat.zero_le _) hx⟩, ((List.range H.length).map fun n => if m.elem n then H.getD n .gone else .gone), hmget, fun σ a base w₀ w hr hw N Q cont => guard_wp hi (hg σ a hr) ?_⟩
          show Oper.wp P _ a w N Q
          have hent : Enter P g := hc.enter _ _ _ _ h6
          unfold Oper.wp
          rw [call_enter (f4 σ a hr) (w4 σ a hr) hent w, Oper.upon_enter]
          have hw' : Rep E.G σ w.heap.size w w Hr := by
            refine ⟨Below.refl _ _, Nat.le_refl _, fun j b hb => ?_, fun i j b c hi hj hb hc hij => ?_, fun q ss hq => ?_⟩
            · rcases hm j b hb with rfl | ⟨h1, b', h2, rfl⟩
              · trivial
              · have hj : ((List.range H.length).map fun n => if m.elem n then H.getD n .gone else .gone)[j]? = some b' := by
                  have hlt := (List.getElem?_eq_some_iff.1 h2).1
                  rw [List.getElem?_map, List.getElem?_range hlt]
                  rw [Nat.zero_add] at h1
                  simp only [Option.map_some, List.elem_iff.2 h1, if_true]
                  rw [List.getD_eq_getElem?_getD, h2]; rfl
                have hb' := hw.blk j b' hj
                cases b' with
                | own T ss =>
                  have hrd := rep_reads hw (ss := ss) (.inl ⟨T, hj⟩) 0
                  refine ⟨(Array.getElem?_eq_some_iff.1 hb'.2.2).1, fun i v hv => ?_⟩
                  have := hrd.cell i v (by simpa using hv)
                  simpa [Sg.at] using this
                | ro ss => exact ⟨Nat.lt_of_lt_of_le hb'.1 (Nat.le_trans hw.size hw.below.size), hb'.2⟩
                | obj R => trivial
                | gone => trivial
            · rcases hm i b hi with rfl | ⟨_, b', _, rfl⟩
              · cases hb
              · cases b' <;> cases hb
            · obtain ⟨g1, g2, g3⟩ := hw.glo q ss hq
              exact ⟨Nat.lt_of_lt_of_le g1 (Nat.le_trans hw.size hw.below.size), g2, g3⟩
          refine (hc.call _ _ _ _ h6 (rngW_append w1 (rngL_W f1)) (by rw [hl]; exact bndW_append w2 (bndL_W f2)) hor σ w.heap.size w w hw').mono ?_
          rintro e w' ⟨τ, y, H', v, rfl, k1, rfl, k3, k4, k5, k6, k7⟩
          exact cont v w' (V.rep_agree (n := 0) (fun j hj => absurd hj (Nat.not_lt_zero j)) hx k1) k4.below
      · exact h.elim
    · exact mem h
  · exact mem h
theorem runF_snoc (pre : List DEff) (d : DEff) (fr : List V) : runF (pre ++ [d]) fr = putF (runF pre fr) d.dst d.x := by
  unfold runF
  rw [List.foldl_append]
  simp only [List.foldl_cons, List.foldl_nil, DEff.fu]
  cases d.dst <;> rfl
theorem runH_snoc (pre : List DEff) (d : DEff) (H : List Blk) : runH (pre ++ [d]) H = upd1 true d.e.wr (runH pre H) := by
  unfold runH
  rw [List.foldl_append]
  rfl
def leftR (e : Eff) (r : Nat) : Nat := match e with | .new _ _ => r | _ => r + 1
theorem xdr_spec {P : Program} {E : Env} (hE : EnvOk P E) {F : Fns} (hF : FnsOk P F E.G) {cal : Cal} (hc : CalOk P E cal) (ops : Array Oper) {n₀ : Nat} {fr₀ : List V} {H₀ : List Blk} {K : List V → List Blk → Prop} :
    ∀ (rest : List Oper) (acc : List DEff) (r : Nat) {fr : List V} {H : List Blk}, (∀ j, rest[j]? = ops[acc.length + j]?) → xdr P E F cal ops rest fr H acc K →
      fr = runF acc.reverse fr₀ → H ++ List.replicate r .gone = runH acc.reverse H₀ → rest.length ≤ r → n₀ ≤ H.length → FOk H.length fr → HOk H →
      (∀ i d, acc.reverse[i]? = some d → Fact Df P E ops n₀ fr₀ H₀ (acc.reverse.take i) i d) →
      ∃ effs r' H', effs.length = acc.length + rest.length ∧ chk ops effs = true ∧ K (runF effs fr₀) H' ∧ H' ++ List.replicate r' .gone = runH effs H₀ ∧ FOk H'.length (runF effs fr₀) ∧ HOk H' ∧ n₀ ≤ H'.length ∧
        (∀ i d, effs[i]? = some d → Fact Df P E ops n₀ fr₀ H₀ (effs.take i) i d)
  | [], acc, r, fr, H, _, h, hfr, hH, _, hn, hf, ho, hfacts => by
    rw [xdr_nil] at h
    exact ⟨acc.reverse, r, H, by simp, h.1, by rw [← hfr]; exact h.2, hH, by rw [← hfr]; exact hf, ho, hn, hfacts⟩
  | o :: rest, acc, r, fr, H, hget, h, hfr, hH, hr, hn, hf, ho, hfacts => by
    simp only [List.length_cons] at hr
    obtain ⟨r', rfl⟩ : ∃ r', r = r' + 1 := ⟨r - 1, by omega⟩
    have hi : ops[acc.length]? = some o := by simpa using (hget 0).symm
    rw [xdr_cons] at h
    obtain ⟨frm, h, hfl, hfm⟩ := maskF_spec h
    have hfok : FOk H.length frm := ⟨fun x hx => by
      obtain ⟨s, hs⟩ := List.getElem?_of_mem hx
      rcases hfm s x hs with rfl | ⟨_, h2⟩
      · exact ⟨trivial, rfl⟩
      · exact hf.ok x (List.mem_of_getElem? h2)⟩
    have hfl0 : frm.length = fr₀.length := by
      rw [hfl, hfr]
      have : ∀ pre : List DEff, (runF pre fr₀).length = fr₀.length := fun pre => by
        have := congrArg List.length (upds_runF pre pre.length fr₀)
        rw [List.take_length] at this
        rw [← this, upds_length]
      exact this _
    have hHlen : (runH acc.reverse H₀).length = H.length + (r' + 1) := by rw [← hH]; simp
    have hHget : ∀ (j : Nat) (b : Blk), H[j]? = some b → (runH acc.reverse H₀)[j]? = some b := fun j b hb => by
      rw [← hH, List.getElem?_append_left (List.getElem?_eq_some_iff.1 hb).1]; exact hb
    have hget' : ∀ (d : DEff) (j : Nat), rest[j]? = ops[(d :: acc).length + j]? := fun d j => by have := hget (j + 1); simpa [Nat.add_assoc, Nat.add_comm 1 j] using this
    have facts' : ∀ d, Fact Df P E ops n₀ fr₀ H₀ acc.reverse acc.length d → ∀ i d', (d :: acc).reverse[i]? = some d' → Fact Df P E ops n₀ fr₀ H₀ ((d :: acc).reverse.take i) i d' := fun d hd i d' hd' => by
      rw [List.reverse_cons] at hd' ⊢
      rcases Nat.lt_or_ge i acc.length with hlt | hge
      · rw [List.getElem?_append_left (by simpa using hlt)] at hd'
        rw [List.take_append_of_le_length (by simp; omega)]
        exact hfacts i d' hd'
      · have hlt := (List.getElem?_eq_some_iff.1 hd').1
        simp at hlt
        obtain rfl : i = acc.length := by omega
        rw [List.getElem?_append_right (by simp)] at hd'
        simp at hd'
        subst hd'
        rw [List.take_append_of_le_length (by simp), List.take_of_length_le (by simp)]
        exact hd
    have hmf : ∀ (s : Nat) (x : V), frm[s]? = some x → x = .any ∨ (s ∈ o.looksAt ops ∧ (runF acc.reverse fr₀)[s]? = some x) := fun s x hx => by
      rcases hfm s x hx with h | ⟨h1, h2⟩
      · exact .inl h
      · exact .inr ⟨by simpa using h1, by rw [← hfr]; exact h2⟩
    obtain ⟨b, h, hdet⟩ := guardK_det h
    have hwant : ∀ {Df : List Deferred} σ a, FRep Df σ a frm → Region.wanted o (yielded ops a.tmps) = b := fun σ a hra => guardK_spec hdet hra
    cases b with
    | false =>
      simp only at h
      rw [putK_iff] at h
      have hfact : Fact Df P E ops n₀ fr₀ H₀ acc.reverse acc.length ⟨o.dst, undefV, .none, []⟩ := by
        refine ⟨⟨o, hi, rfl, frm, [], hfl0, hmf, fun j b hb => by simp at hb, fun σ a base w₀ w hra _ N Q cont => ?_⟩, (fun j T ss he => by cases he), (fun j T ss he => trivial)⟩
        exact guard_wp hi (hwant σ a hra) (cont undef w (undefV_rep σ) (Below.refl _ _))
      obtain ⟨effs, r'', H', e1, e2⟩ := xdr_spec hE hF hc ops rest (⟨o.dst, undefV, .none, []⟩ :: acc) (r' + 1) (hget' _) h
        (by rw [List.reverse_cons, runF_snoc, ← hfr]) (by rw [List.reverse_cons, runH_snoc]; exact hH) (by omega) hn (hf.put ⟨trivial, rfl⟩) ho (facts' _ hfact)
      exact ⟨effs, r'', H', by rw [e1]; simp; omega, e2⟩
    | true =>
      simp only at h
      obtain ⟨x, e, ft, h, he, hx, Hm, hm, hsf⟩ := xdop_spec hE hF hc hi hfok ho hwant h
      rw [putK_iff, lenH_iff, Nat.zero_add, effK_iff] at h
      have hfact : Fact Df P E ops n₀ fr₀ H₀ acc.reverse acc.length ⟨o.dst, x, toD H.length e, ft⟩ := by
        refine ⟨⟨o, hi, rfl, frm, Hm, hfl0, hmf, fun j b hb => ?_, hsf⟩, fun j T ss he' => ?_, fun _ _ _ _ => trivial⟩
        · rcases hm j b hb with h | ⟨h1, h2⟩
          · exact .inl h
          · exact .inr ⟨h1, hHget j b h2⟩
        · cases e with
          | new T' ss' =>
            simp only [toD, EffD.new.injEq] at he'
            obtain ⟨rfl, rfl, rfl⟩ := he'
            refine ⟨hn, ?_, ons_of (fun k hk => by simp; omega) _ he.2⟩
            rw [← hH, List.getElem?_append_right (Nat.le_refl _)]
            simp
          | _ => cases he'
      have hlen := Eff.app_len H e
      have hok : HOk (e.app H) := by
        cases e with
        | none => exact ho
        | new T ss => exact ho.push he.1 he.2
        | set j T ss => exact ho.set he.1 he.2.1
      have hrun : e.app H ++ List.replicate (leftR e r') .gone = runH (⟨o.dst, x, toD H.length e, ft⟩ :: acc).reverse H₀ := by
        rw [List.reverse_cons, runH_snoc, ← hH]
        cases e with
        | none => rfl
        | new T ss =>
          simp only [toD, EffD.wr, upd1, Eff.app, leftR]
          rw [List.set_append_right _ _ (Nat.le_refl _)]
          simp [List.replicate_succ]
        | set j T ss =>
          obtain ⟨_, _, s, hs⟩ := he
          simp only [toD, EffD.wr, upd1, Eff.app, leftR]
          rw [List.set_append_left _ _ (List.getElem?_eq_some_iff.1 hs).1]
      obtain ⟨effs, r'', H', e1, e2⟩ := xdr_spec hE hF hc ops rest (⟨o.dst, x, toD H.length e, ft⟩ :: acc) (leftR e r') (hget' _) h
        (by rw [List.reverse_cons, runF_snoc, ← hfr]) hrun (by cases e <;> simp [leftR] <;> omega) (by omega) (FOk.put (hf.mono hlen) hx) hok (facts' _ hfact)
      exact ⟨effs, r'', H', by rw [e1]; simp; omega, e2⟩
def drwF (P : Program) (E : Env) (F : Fns) (cal : Cal) : Drw := fun ops _ fr H K => xdr P E F cal ops ops.toList fr H [] K
theorem drwF_ok {P : Program} {E : Env} (hE : EnvOk P E) {F : Fns} (hF : FnsOk P F E.G) (hm : P.follows .mixedOrders = true) (cal : Cal) (hc : CalOk P E cal) : DrwOk P E (drwF P E F cal) := by
  intro Df id ops lo fr H K h hf ho hlo σ base w₀ w a hr hw
  have hH : ∀ b ∈ H ++ List.replicate ops.size .gone, b.bnd H.length = true := fun b hb => by
    rcases List.mem_append.1 hb with h | h
    · exact ho.bnd b h
    · rw [(List.mem_replicate.1 h).2]; rfl
  obtain ⟨effs, r', H', e1, e2, e3, e4, e5, e6, e7, e8⟩ := xdr_spec hE hF hc ops (n₀ := H.length) (fr₀ := fr) (H₀ := H ++ List.replicate ops.size .gone) ops.toList [] ops.size (fun j => by simp) h rfl rfl (by simp) (Nat.le_refl _) hf ho
    (fun i d hd => by simp at hd)
  have e1' : effs.length = ops.size := by simpa using e1
  refine wp_region_any hm ?_
  refine good_any (E := E) (n₀ := H.length) (σ₀ := σ) (base := base) (w₀ := w₀) e2 (fun x hx => (hf.ok x hx).2) hH e1' e8 ?_ ops.size (Array.replicate ops.size false) (by simp) (by simp) (fun q p hq => ?_) a _ ?_
  · rintro a' w' ⟨τ, q1, q2, q3⟩
    rw [upds_runF, ← e1', List.take_length] at q2
    rw [upds_runH] at q3
    have e9 : effs.take ops.size = effs := by rw [← e1', List.take_length]
    rw [e9, ← e4] at q3
    refine ⟨τ, _, H', .normal, rfl, ⟨rfl, e3⟩, q1.mono hlo, q3.weak' (fun j b hb => .inr ?_), e6, q2, e5, Nat.le_trans hlo e7⟩
    rw [List.getElem?_append_left (List.getElem?_eq_some_iff.1 hb).1]; exact hb
  · rcases Nat.lt_or_ge q ops.size with hlt | hge
    · simp [hlt] at hq
    · simp [Array.getElem?_eq_none (xs := Array.replicate ops.size false) (i := q) (by simpa using hge)] at hq
  · have hD : (fun p => (Array.replicate ops.size false).getD p false) = fun _ => false := by
      funext p
      rcases Nat.lt_or_ge p ops.size with hlt | hge
      · simp [hlt]
      · simp [Array.getElem?_eq_none (xs := Array.replicate ops.size false) (i := p) (by simpa using hge)]
    rw [hD]
    refine ⟨σ, Sg.agree.refl _ _, ?_, ?_⟩
    · rw [upds_none]; exact hr
    · rw [upds_none]
      have hw' : Rep E.G σ base w₀ { w with drawn := w.drawn + 1 } H := hw.later ⟨rfl, rfl, rfl, Nat.le_refl _, fun _ _ => rfl⟩
      refine hw'.weak' fun j b hb => ?_
      rcases Nat.lt_or_ge j H.length with hlt | hge
      · rw [List.getElem?_append_left hlt] at hb; exact .inr hb
      · rw [List.getElem?_append_right hge] at hb
        exact .inl (List.mem_replicate.1 (List.mem_of_getElem? hb)).2
end Go.Proofs.YtaficaacogcblaaGreatDoor
set_option linter.all false
namespace Go.Proofs.YtaficaacogcblaaGreatDoor
open Go.RowKit (Below)
theorem inK_of_wf {k : IntKind} {n : Int} (h : (Lit.int k n).wf = true) : InK k n := by
  cases k <;> simp [Lit.wf, IntKind.min, IntKind.max, IntKind.signed, IntKind.bits] at h <;> simp [InK, lowK, highK] <;> omega
end Go.Proofs.YtaficaacogcblaaGreatDoor
set_option linter.all false
namespace Go.Proofs.YtaficaacogcblaaGreatDoor
open Go.RowKit (Below)
variable {Df : List Deferred}
def rdyO (done : List Nat) (o : Oper) : Bool := o.after.toList.all fun e => !(Region.binds .any e) || done.elem e.on
def rdyL (done : List Nat) : List Oper → Nat → List Nat
  | [], _ => []
  | o :: os, i => match done.elem i with
    | true => rdyL done os (i + 1)
    | false => match rdyO done o with
      | true => i :: rdyL done os (i + 1)
      | false => rdyL done os (i + 1)
theorem mem_rdyL {done : List Nat} : ∀ {l : List Oper} {k i : Nat}, i ∈ rdyL done l k ↔ ∃ m o, i = k + m ∧ l[m]? = some o ∧ done.elem i = false ∧ rdyO done o = true
  | [], k, i => by simp [rdyL]
  | o :: os, k, i => by
    have ih := mem_rdyL (done := done) (l := os) (k := k + 1) (i := i)
    have tail : (∃ m o', i = k + 1 + m ∧ os[m]? = some o' ∧ done.elem i = false ∧ rdyO done o' = true) ∨ (i = k ∧ done.elem i = false ∧ rdyO done o = true) ↔ ∃ m o', i = k + m ∧ (o :: os)[m]? = some o' ∧ done.elem i = false ∧ rdyO done o' = true := by
      constructor
      · rintro (⟨m, o', h1, h2, h3⟩ | ⟨h1, h2, h3⟩)
        · exact ⟨m + 1, o', by omega, by simpa using h2, h3⟩
        · exact ⟨0, o, by omega, by simp, h2, h3⟩
      · rintro ⟨m, o', h1, h2, h3⟩
        cases m with
        | zero => simp at h2; subst h2; exact .inr ⟨by omega, h3⟩
        | succ m => exact .inl ⟨m, o', by omega, by simpa using h2, h3⟩
    rw [← tail, ← ih]
    simp only [rdyL]
    cases h1 : done.elem k with
    | true =>
      simp only
      constructor
      · exact .inl
      · rintro (h | ⟨rfl, h2, _⟩)
        · exact h
        · rw [h1] at h2; cases h2
    | false =>
      simp only
      cases h2 : rdyO done o with
      | true =>
        simp only [List.mem_cons]
        constructor
        · rintro (rfl | h)
          · exact .inr ⟨rfl, h1, trivial⟩
          · exact .inl h
        · rintro (h | ⟨h, _⟩)
          · exact .inr h
          · exact .inl h
      | false =>
        simp only
        constructor
        · exact .inl
        · rintro (h | ⟨_, _, h3⟩)
          · exact h
          · cases h3
def eachN (l : List Nat) : (Nat → Prop) → Prop :=
  List.rec (motive := fun _ => (Nat → Prop) → Prop) (fun _ => True) (fun i _ ih f => f i ∧ ih f) l
theorem eachN_mem : ∀ {l : List Nat} {f : Nat → Prop}, eachN l f → ∀ i ∈ l, f i
  | [], _, _, i, hi => by simp at hi
  | j :: l, f, h, i, hi => by
    rcases List.mem_cons.1 hi with rfl | hi
    · exact h.1
    · exact eachN_mem (l := l) h.2 i hi
def xall (P : Program) (E : Env) (cal : Cal) (ops : List Oper) (n : Nat) : List Nat → List V → List Blk → (List V → List Blk → Prop) → Prop :=
  Nat.rec (motive := fun _ => List Nat → List V → List Blk → (List V → List Blk → Prop) → Prop) (fun _ fr H K => K fr H)
    (fun _ ih done fr H K => match rdyL done ops 0 with
      | [] => False
      | i :: is => eachN (i :: is) fun i => nthL ops i fun o => guardK ops fr o fun wanted => match wanted with
        | true => xany P E cal o fr H fun x H' => putK fr o.dst x fun fr' => ih (i :: done) fr' H' K
        | false => putK fr o.dst undefV fun fr' => ih (i :: done) fr' H K) n
theorem xall_succ (P : Program) (E : Env) (cal : Cal) (ops : List Oper) (n : Nat) (done : List Nat) (fr : List V) (H : List Blk) (K : List V → List Blk → Prop) : xall P E cal ops (n + 1) done fr H K = match rdyL done ops 0 with
      | [] => False
      | i :: is => eachN (i :: is) fun i => nthL ops i fun o => guardK ops fr o fun wanted => match wanted with
        | true => xany P E cal o fr H fun x H' => putK fr o.dst x fun fr' => xall P E cal ops n (i :: done) fr' H' K
        | false => putK fr o.dst undefV fun fr' => xall P E cal ops n (i :: done) fr' H K := rfl
theorem xall_spec {P : Program} {E : Env} (hE : EnvOk P E) {cal : Cal} (hc : CalOk P E cal) (ops : Array Oper) {base : Nat} {w₀ : World} {lo : Nat} {Q : Exit → Act → World → Prop} {σ₀ : Sg} {K : List V → List Blk → Prop}
    (fin : ∀ τ fr H a w, K fr H → Sg.agree lo σ₀ τ → Rep E.G τ base w₀ w H → HOk H → FRep Df τ a fr → FOk H.length fr → lo ≤ H.length → Q .normal a w) :
    ∀ (fuel : Nat) (listed : Array Bool) (done : List Nat), listed.size = ops.size → listed.toList.count false = fuel → (∀ p, listed.getD p false = done.elem p) →
      ∀ {fr : List V} {H : List Blk} {σ : Sg} {a : Act} {w : World}, xall P E cal ops.toList fuel done fr H K → FOk H.length fr → HOk H → lo ≤ H.length → Sg.agree lo σ₀ σ → FRep Df σ a fr → Rep E.G σ base w₀ w H → wpAny P .any ops Q fuel listed a w
  | 0, listed, done, hs, hcnt, hd, fr, H, σ, a, w, h, hf, ho, hlo, hσ, hr, hw => by
    refine ⟨?_, fin σ fr H a w h hσ hw ho hr hf hlo⟩
    have hall : ∀ i, i < ops.size → listed.getD i false = true := fun i hi => by
      have hlt : i < listed.size := by omega
      have h0 := List.count_eq_zero.1 hcnt
      have : listed[i] ≠ false := fun e => h0 (by rw [← e]; exact Array.getElem_mem_toList hlt)
      simp [hlt]
      simpa using this
    unfold Region.ready
    rw [List.filter_eq_nil_iff]
    intro i hi
    have hi' : i < ops.size := by simpa using hi
    have := hall i hi'
    have hlt : i < listed.size := by omega
    simp [hlt] at this ⊢
    simp [this]
  | fuel + 1, listed, done, hs, hcnt, hd, fr, H, σ, a, w, h, hf, ho, hlo, hσ, hr, hw => by
    have mem : ∀ i, i ∈ Region.ready .any ops listed ↔ i ∈ rdyL done ops.toList 0 := fun i => by
      rw [mem_ready, mem_rdyL]
      constructor
      · rintro ⟨h1, o, h2, h3⟩
        have hlt : i < listed.size := by have := (Array.getElem?_eq_some_iff.1 h2).1; omega
        refine ⟨i, o, by omega, by simpa using h2, ?_, ?_⟩
        · rw [← hd]; simp [hlt] at h1 ⊢; exact h1
        · unfold rdyO
          rw [List.all_eq_true]
          intro e he
          cases hb : Region.binds .any e with
          | false => rfl
          | true =>
            have := h3 e (by simpa using he) hb
            rw [hd] at this
            simpa using this
      · rintro ⟨m, o, h1, h2, h3, h4⟩
        obtain rfl : i = m := by omega
        have h2' : ops[i]? = some o := by simpa using h2
        have hlt : i < listed.size := by have := (Array.getElem?_eq_some_iff.1 h2').1; omega
        refine ⟨?_, o, h2', fun e he hb => ?_⟩
        · rw [← hd] at h3; simp [hlt] at h3 ⊢; exact h3
        · unfold rdyO at h4
          rw [List.all_eq_true] at h4
          have := h4 e (by simpa using he)
          rw [hb] at this
          rw [hd]
          simpa using this
    rw [xall_succ] at h
    refine ⟨fun hn => ?_, fun i hi => ?_⟩
    · cases hl : rdyL done ops.toList 0 with
      | nil => rw [hl] at h; exact h.elim
      | cons i is =>
        have := (mem i).2 (by rw [hl]; simp)
        rw [hn] at this
        cases this
    · have hil := (mem i).1 hi
      obtain ⟨h1, o, h2, h3⟩ := mem_ready.1 hi
      have hilt : i < ops.size := (Array.getElem?_eq_some_iff.1 h2).1
      have hlt : i < listed.size := by omega
      have hfalse : listed.getD i false = false := by simp [hlt] at h1 ⊢; exact h1
      have h' : nthL ops.toList i fun o => guardK ops.toList fr o fun wanted => match wanted with
        | true => xany P E cal o fr H fun x H' => putK fr o.dst x fun fr' => xall P E cal ops.toList fuel (i :: done) fr' H' K
        | false => putK fr o.dst undefV fun fr' => xall P E cal ops.toList fuel (i :: done) fr' H K := by
        cases hl : rdyL done ops.toList 0 with
        | nil => rw [hl] at h; exact h.elim
        | cons j js =>
          rw [hl] at h hil
          exact eachN_mem h i hil
      obtain ⟨o', ho', h⟩ := nthL_spec h'
      have : o' = o := by
        have e : ops.toList[i]? = some o := by simpa using h2
        rw [e] at ho'
        exact (Option.some.inj ho').symm
      subst this
      have hset : ∀ p, (listed.setIfInBounds i true).getD p false = (i :: done).elem p := fun p => by
        rw [List.elem_cons]
        by_cases hpi : p = i
        · subst hpi; simp [hlt]
        · have : (p == i) = false := by simpa using hpi
          rw [this, getD_set_ne false (Ne.symm hpi), hd]
      have hcnt' : (listed.setIfInBounds i true).toList.count false = fuel := by
        have e1 : (listed.setIfInBounds i true).toList = listed.toList.set i true := by simp
        have hl : listed.toList[i]? = some false := by
          have : listed[i] = false := by simpa [hlt] using hfalse
          simp [hlt, this]
        have hlt' : i < listed.toList.length := by simpa using hlt
        have hget : listed.toList[i] = false := by rw [List.getElem?_eq_getElem hlt'] at hl; simpa using hl
        rw [e1, List.count_set hlt', hget]
        have e2 : (true == false) = false := rfl
        simp only [beq_self_eq_true, if_true, e2, Bool.false_eq_true, if_false]
        omega
      have h := guardK_spec h hr
      cases hwant : Region.wanted o' (yielded ops a.tmps) with
      | true =>
        refine guard_wp h2 hwant ?_
        rw [hwant] at h
        refine xany_spec hE hc h hf ho hr hw fun τ x H' v w' k1 k2 k3 k4 k5 k6 k7 => ?_
        rw [putK_iff] at k1
        exact xall_spec hE hc ops fin fuel _ (i :: done) (by simpa using hs) hcnt' hset k1 (FOk.put (hf.mono k7) k6) k5 (Nat.le_trans hlo k7) (hσ.trans (k2.mono hlo)) ((hr.agree k2 hf).put k3) k4
      | false =>
        refine guard_wp h2 hwant ?_
        rw [hwant] at h
        simp only at h
        rw [putK_iff] at h
        exact xall_spec hE hc ops fin fuel _ (i :: done) (by simpa using hs) hcnt' hset h (FOk.put hf ⟨trivial, rfl⟩) ho hlo hσ (hr.put (undefV_rep σ)) hw
@[irreducible] def XAll (P : Program) (E : Env) (cal : Cal) (ops : Array Oper) (lo : Nat) (fr : List V) (H : List Blk) (K : List V → List Blk → Prop) : Prop :=
  ∃ S L : List V → List Blk → Prop, (∀ frc Hc, S frc Hc → K frc Hc) ∧ (∀ fr' H', L fr' H' → ∃ frc Hc ρ, S frc Hc ∧ Seen ρ lo frc Hc fr' H') ∧ xall P E cal ops.toList ops.size [] fr H L
def isAll (F : Fns) (ops : List Oper) : Bool := ops.any fun o => match o.op with
  | .call c => match c.callee with
    | .builtin .append => true
    | .value (.func g) => F.all g
    | _ => false
  | _ => false
def drwA (P : Program) (E : Env) (F : Fns) (cal : Cal) : Drw := fun ops lo fr H K => match isAll F ops.toList with
  | true => XAll P E cal ops lo fr H K
  | false => drwF P E F cal ops lo fr H K
theorem drwA_ok {P : Program} {E : Env} (hE : EnvOk P E) {F : Fns} (hF : FnsOk P F E.G) (hm : P.follows .mixedOrders = true) (cal : Cal) (hc : CalOk P E cal) : DrwOk P E (drwA P E F cal) := by
  intro Df id ops lo fr H K h hf ho hlo σ base w₀ w a hr hw
  unfold drwA at h
  split at h
  · unfold XAll at h
    obtain ⟨S, L, h1, hL, h2⟩ := h
    refine wp_region_any hm ?_
    have hw' : Rep E.G σ base w₀ { w with drawn := w.drawn + 1 } H := hw.later ⟨rfl, rfl, rfl, Nat.le_refl _, fun _ _ => rfl⟩
    refine xall_spec hE hc ops (σ₀ := σ) (base := base) (w₀ := w₀) (lo := lo) ?_ ops.size (Array.replicate ops.size false) [] (by simp) (by simp) (fun p => ?_) h2 hf ho hlo (Sg.agree.refl _ _) hr hw'
    · rintro τ fr' H' a' w' k0 k3 k4 k5 k6 k7 k8
      obtain ⟨frc, Hc, ρ, k1, k2⟩ := hL _ _ k0
      obtain ⟨q1, q2⟩ := k2.ok k7 k5
      exact ⟨τ.ren ρ, frc, Hc, .normal, rfl, ⟨rfl, h1 _ _ k1⟩, k3.trans (fun j hj => by simp only [Sg.ren, k2.low j hj]), k4.ren k2.blk k2.inj, q2, k6.ren k2.len k2.fr, q1, k2.lo⟩
    · rcases Nat.lt_or_ge p ops.size with hlt | hge
      · simp [hlt]
      · simp [Array.getElem?_eq_none (xs := Array.replicate ops.size false) (i := p) (by simpa using hge)]
  · exact drwF_ok hE hF hm cal hc Df id ops lo fr H K h hf ho hlo σ base w₀ w a hr hw
end Go.Proofs.YtaficaacogcblaaGreatDoor
set_option linter.all false
namespace Go.Proofs.YtaficaacogcblaaGreatDoor
open Go.RowKit (Below)
def E0 : Env := ⟨fun _ => none, fun _ => none, fun _ => false, noX⟩
def F0 : Fns := ⟨fun _ => none, fun _ => none, fun _ => false, fun _ => none⟩
theorem E0_ok : EnvOk Tryz.prog E0 := ⟨⟨fun _ _ h => by cases h⟩, fun _ _ h => (by cases h), noX_ok _ _⟩
theorem F0_ok : FnsOk Tryz.prog F0 := ⟨fun _ _ h => (by cases h), fun _ _ h => (by cases h), fun _ _ h => (by cases h)⟩
theorem mixed : Tryz.prog.follows .mixedOrders = true := by kernel_rfl
def Fns.plus (F : Fns) (n : FuncId) (c : Ct) : Fns := ⟨fun f => match Nat.beq f n with | true => some c | false => F.ct f, F.fn, F.all, F.hc⟩
def Fns.into (F : Fns) (n : FuncId) (g : Func) : Fns := ⟨F.ct, fun f => match Nat.beq f n with | true => some g | false => F.fn f, F.all, F.hc⟩
def Fns.every (F : Fns) (n : FuncId) : Fns := ⟨F.ct, F.fn, fun f => match Nat.beq f n with | true => true | false => F.all f, F.hc⟩
theorem FnsOk.every {P : Program} {F : Fns} {G : Glo} (h : FnsOk P F G) (n : FuncId) : FnsOk P (F.every n) G := ⟨h.ct, h.fn, h.hc⟩
theorem enter_of {P : Program} {f : FuncId} {fn : Func} (hf : P.funcs[f]? = some fn) (hb : fn.body.isNone = false) (hn : (fn.name == "runtime.NumGoroutine") = false) : Enter P f := by
  intro args w
  unfold callFunc
  simp only [Sem.run_bind, run_program, Result.andThen_ok, hf, hb, hn, Bool.false_eq_true, if_false, Sem.run_pure]
theorem FnsOk.plus {P : Program} {F : Fns} {G : Glo} (h : FnsOk P F G) {n : FuncId} {c : Ct} {fn : Func} (hc : CtOk P n c) (hf : P.funcs[n]? = some fn) (hb : fn.body.isNone = false) (hn : (fn.name == "runtime.NumGoroutine") = false) : FnsOk P (F.plus n c) G := by
  refine ⟨fun f c' hf' => ?_, h.fn, h.hc⟩
  simp only [Fns.plus] at hf'
  split at hf'
  · rename_i hb'
    obtain rfl := Nat.eq_of_beq_eq_true hb'
    cases hf'
    exact ⟨hc.g G, enter_of hf hb hn⟩
  · exact h.ct f c' hf'
theorem FnsOk.plusG {P : Program} {F : Fns} {G : Glo} (h : FnsOk P F G) {n : FuncId} {c : Ct} {fn : Func} (hc : CtOkG P G n c) (hf : P.funcs[n]? = some fn) (hb : fn.body.isNone = false) (hn : (fn.name == "runtime.NumGoroutine") = false) : FnsOk P (F.plus n c) G := by
  refine ⟨fun f c' hf' => ?_, h.fn, h.hc⟩
  simp only [Fns.plus] at hf'
  split at hf'
  · rename_i hb'
    obtain rfl := Nat.eq_of_beq_eq_true hb'
    cases hf'
    exact ⟨hc, enter_of hf hb hn⟩
  · exact h.ct f c' hf'
theorem FnsOk.into {P : Program} {F : Fns} {G : Glo} (h : FnsOk P F G) {n : FuncId} {fn : Func} (hf : P.funcs[n]? = some fn) (hb : fn.body.isNone = false) (hn : (fn.name == "runtime.NumGoroutine") = false) : FnsOk P (F.into n fn) G := by
  refine ⟨h.ct, fun f c' hf' => ?_, h.hc⟩
  simp only [Fns.into] at hf'
  split at hf'
  · rename_i hb'
    obtain rfl := Nat.eq_of_beq_eq_true hb'
    cases hf'
    exact ⟨hf, enter_of hf hb hn⟩
  · exact h.fn f c' hf'
def Fns.over (F : Fns) (n : FuncId) (g : HCt) : Fns := ⟨F.ct, F.fn, F.all, fun f => match Nat.beq f n with | true => some g | false => F.hc f⟩
theorem FnsOk.over {P : Program} {F : Fns} {G : Glo} (h : FnsOk P F G) {n : FuncId} {g : HCt} {fn : Func} (hg : HCtOk P n g) (hf : P.funcs[n]? = some fn) (hb : fn.body.isNone = false) (hn : (fn.name == "runtime.NumGoroutine") = false) : FnsOk P (F.over n g) G := by
  refine ⟨h.ct, h.fn, fun f c' hf' => ?_⟩
  simp only [Fns.over] at hf'
  split at hf'
  · rename_i hb'
    obtain rfl := Nat.eq_of_beq_eq_true hb'
    cases hf'
    exact ⟨fun ws H K h' hr hb ho σ base w₀ w hw => hg ws H K h' hr hb ho G σ base w₀ w hw, enter_of hf hb hn⟩
  · exact h.hc f c' hf'
theorem FnsOk.overG {P : Program} {F : Fns} {G : Glo} (h : FnsOk P F G) {n : FuncId} {g : HCt} {fn : Func} (hg : HCtOkG P G n g) (hf : P.funcs[n]? = some fn) (hb : fn.body.isNone = false) (hn : (fn.name == "runtime.NumGoroutine") = false) : FnsOk P (F.over n g) G := by
  refine ⟨h.ct, h.fn, fun f c' hf' => ?_⟩
  simp only [Fns.over] at hf'
  split at hf'
  · rename_i hb'
    obtain rfl := Nat.eq_of_beq_eq_true hb'
    cases hf'
    exact ⟨hg, enter_of hf hb hn⟩
  · exact h.hc f c' hf'
abbrev walk (F : Fns) (n : Nat) (fn : Func) (ws : List W) (H : List Blk) (K : V → List Blk → Prop) : Prop := xfun Tryz.prog E0 (calF Tryz.prog E0 F (drwA Tryz.prog E0 F) n) (drwA Tryz.prog E0 F (calF Tryz.prog E0 F (drwA Tryz.prog E0 F) n)) fn ws H K
theorem walk_calls {F : Fns} (hF : FnsOk Tryz.prog F) {n : Nat} {f : FuncId} {fn : Func} (hf : Tryz.prog.funcs[f]? = some fn) {ws : List W} {x : V} (hx : x.bnd 0 = true) (hr : rngW ws) (hb : bndW 0 ws = true)
    (h : walk F n fn ws [] fun y _ => y = x) (σ : Sg) (w : World) : Calls Tryz.prog f (ws.map (W.den σ)).toArray w fun e w' => ∃ v, e = .returned v ∧ x.rep σ v ∧ Below w.heap.size w w' :=
  call_of E0_ok (fun _ => rfl) (calF_ok E0_ok hF (fun cal hc => drwA_ok E0_ok hF mixed cal hc) n) (drwA_ok E0_ok hF mixed _ (calF_ok E0_ok hF (fun cal hc => drwA_ok E0_ok hF mixed cal hc) n)) hf hx hr hb h σ w
theorem walk_lift {F : Fns} (hF : FnsOk Tryz.prog F) {n : Nat} {f : FuncId} {fn : Func} (hf : Tryz.prog.funcs[f]? = some fn) {ws ws' : List W} {R : List Blk} {P0 : V → List Blk → Prop} (hR : HOk R) (hr : rngW ws) (hb : bndW R.length ws = true) (h : walk F n fn ws R (Made P0))
    (hm : ∀ x N, P0 x N → ∀ b ∈ N, b.mine = true ∨ b = .gone) {H : List Blk} (ρ : Nat → Nat) (hro : ∀ (j : Nat) (b : Blk), R[j]? = some b → b = .gone ∨ ∃ ss, b = .ro ss ∧ ((∃ T, H[ρ j]? = some (.own T (rens ρ ss))) ∨ H[ρ j]? = some (.ro (rens ρ ss)))) (hws : ws' = renW ρ ws)
    {K : V → List Blk → Prop} (hK : ∀ x N, P0 x N → K (x.ren (sh H.length)) (H ++ N.map (Blk.ren (sh H.length)))) (ho : HOk H) (G : Glo) (σ : Sg) (base : Nat) (w₀ w : World) (hw : Rep G σ base w₀ w H) :
    Calls Tryz.prog f (ws'.map (W.den σ)).toArray w (LeftG G σ base w₀ H.length K) := by
  subst hws
  exact call_lift E0_ok (fun _ => rfl) (calF_ok E0_ok hF (fun cal hc => drwA_ok E0_ok hF mixed cal hc) n) (drwA_ok E0_ok hF mixed _ (calF_ok E0_ok hF (fun cal hc => drwA_ok E0_ok hF mixed cal hc) n)) hf hR hr hb h hm hro hK ho G σ base w₀ w hw
abbrev i64 (x : Int) : W := .c (.ci .i64 x)
abbrev u8 (x : Int) : W := .c (.ci .u8 x)
abbrev u32 (x : Int) : W := .c (.ci .u32 x)
abbrev u64 (x : Int) : W := .c (.ci .u64 x)
abbrev vi (x : Int) : V := .w (.c (.ci .i64 x))
abbrev vb (b : Bool) : V := .w (.c (.cb b))
def ct0 (x : V) : Ct := fun ws K => match ws with
  | [] => K x
  | _ => False
def ct1 (pre : Int → Prop) (f : Int → Int) : Ct := fun ws K => match ws with
  | [.c (.ci .i64 a)] => pre a ∧ K (vi (f a))
  | _ => False
def ct2 (pre : Int → Int → Prop) (f : Int → Int → Int) : Ct := fun ws K => match ws with
  | [.c (.ci .i64 a), .c (.ci .i64 b)] => pre a b ∧ K (vi (f a b))
  | _ => False
theorem ct0_ok {F : Fns} (hF : FnsOk Tryz.prog F) {n : Nat} {f : FuncId} {fn : Func} (hf : Tryz.prog.funcs[f]? = some fn) {x : V} (hx : x.ok 0) (h : walk F n fn [] [] fun y _ => y = x) : CtOk Tryz.prog f (ct0 x) := by
  intro ws K h' hr
  unfold ct0 at h'
  split at h'
  · exact ⟨_, h', hx, walk_calls hF hf hx.2 trivial rfl h⟩
  · exact h'.elim
theorem ct1_ok {F : Fns} (hF : FnsOk Tryz.prog F) {n : Nat} {f : FuncId} {fn : Func} (hf : Tryz.prog.funcs[f]? = some fn) {pre : Int → Prop} {g : Int → Int} (hg : ∀ a, InK .i64 a → pre a → InK .i64 (g a))
    (h : ∀ a, InK .i64 a → pre a → walk F n fn [i64 a] [] fun y _ => y = vi (g a)) : CtOk Tryz.prog f (ct1 pre g) := by
  intro ws K h' hr
  unfold ct1 at h'
  split at h'
  · rename_i a
    exact ⟨_, h'.2, ⟨hg a hr.1 h'.1, rfl⟩, walk_calls hF hf rfl hr rfl (h a hr.1 h'.1)⟩
  · exact h'.elim
theorem ct2_ok {F : Fns} (hF : FnsOk Tryz.prog F) {n : Nat} {f : FuncId} {fn : Func} (hf : Tryz.prog.funcs[f]? = some fn) {pre : Int → Int → Prop} {g : Int → Int → Int} (hg : ∀ a b, InK .i64 a → InK .i64 b → pre a b → InK .i64 (g a b))
    (h : ∀ a b, InK .i64 a → InK .i64 b → pre a b → walk F n fn [i64 a, i64 b] [] fun y _ => y = vi (g a b)) : CtOk Tryz.prog f (ct2 pre g) := by
  intro ws K h' hr
  unfold ct2 at h'
  split at h'
  · rename_i a b
    exact ⟨_, h'.2, ⟨hg a b hr.1 hr.2.1 h'.1, rfl⟩, walk_calls hF hf rfl hr rfl (h a b hr.1 hr.2.1 h'.1)⟩
  · exact h'.elim
@[irreducible] noncomputable def sealed {α : Type} (a : α) : α := Classical.choose (⟨a, rfl⟩ : ∃ x : α, x = a)
theorem sealed_eq {α : Type} (a : α) : sealed a = a := by unfold sealed; exact Classical.choose_spec (⟨a, rfl⟩ : ∃ x : α, x = a)
@[irreducible] noncomputable def pw (n : Int) : Int := sealed (fun n : Int => (2 : Int) ^ n.toNat) n
theorem pw_def (n : Int) : pw n = 2 ^ n.toNat := by unfold pw; rw [sealed_eq]
theorem pw_pos (n : Int) : 1 ≤ pw n := by
  simp only [pw_def]
  have : (0 : Int) < 2 ^ n.toNat := Int.pow_pos (by decide)
  omega
theorem pw_mono {a b : Int} (h : a ≤ b) : pw a ≤ pw b := by
  simp only [pw_def]
  have := Nat.pow_le_pow_right (n := 2) (by decide) (show a.toNat ≤ b.toNat by omega)
  have e1 : ((2 ^ a.toNat : Nat) : Int) = 2 ^ a.toNat := by simp
  have e2 : ((2 ^ b.toNat : Nat) : Int) = 2 ^ b.toNat := by simp
  omega
theorem pw_add {a b : Int} (ha : 0 ≤ a) (hb : 0 ≤ b) : pw (a + b) = pw a * pw b := by
  simp only [pw_def]
  rw [show (a + b).toNat = a.toNat + b.toNat by omega, Int.pow_add]
theorem pw62 {n : Int} (h : n ≤ 62) : pw n ≤ 4611686018427387904 := by
  have := pw_mono h
  have e : pw 62 = 4611686018427387904 := by rw [pw_def]; decide
  omega
theorem tmod_bound {a b : Int} (h : 0 < b) : -b < a.tmod b ∧ a.tmod b < b := by
  rcases Int.lt_or_le a 0 with hn | hp
  · have e : a.tmod b = -((-a).tmod b) := by rw [Int.neg_tmod]; omega
    rw [e, Int.tmod_eq_emod_of_nonneg (by omega)]
    have h1 := Int.emod_nonneg (-a) (b := b) (by omega)
    have h2 := Int.emod_lt_of_pos (-a) h
    omega
  · rw [Int.tmod_eq_emod_of_nonneg hp]
    have h1 := Int.emod_nonneg a (b := b) (by omega)
    have h2 := Int.emod_lt_of_pos a h
    omega
theorem shl64 {x n : Int} (h0 : 0 ≤ n) (hn : n ≤ 62) (h1 : -9223372036854775808 ≤ x * pw n) (h2 : x * pw n ≤ 9223372036854775807) {K : Int → Prop} (hk : K (x * pw n)) : ∀ r, r = IntKind.i64.wrap (x * 2 ^ (min n.toNat IntKind.i64.bits)) → K r := by
  have e : (2 : Int) ^ (min n.toNat IntKind.i64.bits) = pw n := by
    simp only [pw_def]
    rw [show min n.toNat IntKind.i64.bits = n.toNat by simp [IntKind.bits]; omega]
  rw [e]
  exact ask_wrap64 h1 h2 hk
theorem fdiv_ediv {x : Int} (m : Nat) : x.fdiv (2 ^ m) = x / 2 ^ m := Int.fdiv_eq_ediv_of_nonneg _ (Int.le_of_lt (Int.pow_pos (by decide)))
theorem shr64 {x n : Int} (hn : n ≤ 63) {K : Int → Prop} (hk : K (x / pw n)) : ∀ r, r = x.fdiv (2 ^ (min n.toNat IntKind.i64.bits)) → K r := by
  have e : (2 : Int) ^ (min n.toNat IntKind.i64.bits) = pw n := by
    simp only [pw_def]
    rw [show min n.toNat IntKind.i64.bits = n.toNat by simp [IntKind.bits]; omega]
  rintro r rfl
  rw [fdiv_ediv, e]; exact hk
end Go.Proofs.YtaficaacogcblaaGreatDoor
set_option linter.all false
namespace Go.Proofs.YtaficaacogcblaaGreatDoor
open Go.RowKit (Below)
theorem shaped_rep {k : IntKind} : ∀ {n : Nat} {X : List Value}, shaped (List.replicate n (.i k)) X → ∃ xs : List Int, X = xs.map (Value.int k) ∧ xs.length = n
  | 0, [], _ => ⟨[], rfl, rfl⟩
  | 0, _ :: _, h => h.elim
  | _ + 1, [], h => h.elim
  | n + 1, v :: X, h => by
    obtain ⟨xs, rfl, hl⟩ := shaped_rep (n := n) h.2
    have h1 := h.1
    cases v <;> simp only [cellIs] at h1
    subst h1
    exact ⟨_ :: xs, rfl, by simp [hl]⟩
theorem eqok_ints {P : Program} {t e : TypeId} {n : Nat} {k : IntKind} {inf : TypeInfo} (hu : P.underlying t = some (.array n e)) (he : P.underlying e = some (.int k)) (hi : P.info? e = some inf) (hc : P.cellsOf e = 1) (hpl : P.plainKey e = true)
    (hg : P.eqGuardType P.depth t = false) : EqOk P t (List.replicate n (.i k)) := by
  intro X Y hX hY w
  obtain ⟨xs, rfl, hx⟩ := shaped_rep hX
  obtain ⟨ys, rfl, hy⟩ := shaped_rep hY
  refine ⟨?_, fun op u v => run_eqGuard_agg w op t u v _ _ hg⟩
  have cell : ∀ (zs : List Int) (i : Nat), i < zs.length → (zs.map (Value.int k)).toArray[i]? = some (.int k (zs.getD i 0)) := fun zs i h => by
    simp [List.getD_eq_getElem?_getD, h]
  have main : ∀ is : List Nat, (∀ i ∈ is, i < n) → (Op.eqItems 9999 e 1 (xs.map (Value.int k)).toArray (ys.map (Value.int k)).toArray is).run P w = .ok (is.all fun i => xs.getD i 0 == ys.getD i 0) w := by
    intro is
    induction is with
    | nil => intro _; rfl
    | cons i is ih =>
      intro h
      have h1 := run_part_plain (P := P) w hpl (cell xs i (by rw [hx]; exact h i (by simp)))
      have h2 := run_part_plain (P := P) w hpl (cell ys i (by rw [hy]; exact h i (by simp)))
      have h3 := run_equalIn_int (P := P) w 9998 e k k (xs.getD i 0) (ys.getD i 0) he
      have h4 := ih fun j hj => h j (by simp [hj])
      simp only [Op.eqItems, Nat.mul_one, Sem.run_bind, h1, h2, h3, Result.andThen_ok, List.all_cons]
      cases hb : (xs.getD i 0 == ys.getD i 0)
      · simp
      · simp only [Bool.not_true, Bool.false_eq_true, if_false, Bool.true_and]
        exact h4
  refine ⟨(List.range n).all fun i => xs.getD i 0 == ys.getD i 0, ?_, ?_⟩
  · show (Op.equalIn 10000 t _ _).run P w = _
    rw [run_equalIn_array w 9999 _ _ hu hi, hc]
    exact main _ fun i h => List.mem_range.1 h
  · rw [List.all_eq_true]
    constructor
    · intro h
      congr 1
      refine List.ext_getElem (by rw [hx, hy]) fun i h1 h2 => ?_
      have := h i (List.mem_range.2 (by omega))
      simpa [List.getD_eq_getElem?_getD, h1, h2] using this
    · intro h i hi
      rw [map_int_inj h]; simp
end Go.Proofs.YtaficaacogcblaaGreatDoor
