/- Regions whose order is open: that every order comes to what the text's order comes to. The bare matter: updates that are made in any order. -/
import Derived.Test.YtaficaacogcblaaGreatDoorXl
import Derived.Orders
set_option linter.all false
namespace Go.Proofs.YtaficaacogcblaaGreatDoor
open Go.RowKit (Below)
variable {Df : List Deferred}

/-! ### updates by number -/
def upd1 {α : Type} (b : Bool) (u : Option (Nat × α)) (l : List α) : List α :=
  match u with
  | some q => match b with
    | true => l.set q.1 q.2
    | false => l
  | none => l
def upds {α : Type} : List (Option (Nat × α)) → Nat → (Nat → Bool) → List α → List α
  | [], _, _, l => l
  | u :: us, k, D, l => upds us (k + 1) D (upd1 (D k) u l)

theorem upds_length {α : Type} : ∀ (us : List (Option (Nat × α))) (k : Nat) (D : Nat → Bool) (l : List α), (upds us k D l).length = l.length
  | [], _, _, _ => rfl
  | u :: us, k, D, l => by
    rw [upds, upds_length us]
    cases u with
    | none => rfl
    | some q => cases D k <;> simp [upd1]

theorem upds_congr {α : Type} {s : Nat} : ∀ (us : List (Option (Nat × α))) (k : Nat) (D D' : Nat → Bool) (l l' : List α), (l[s]? = l'[s]?) → (∀ p v, us[p]? = some (some (s, v)) → D (k + p) = D' (k + p)) →
    (upds us k D l)[s]? = (upds us k D' l')[s]?
  | [], _, _, _, l, l', hl, _ => hl
  | u :: us, k, D, D', l, l', hl, h => by
    rw [upds, upds]
    refine upds_congr us (k + 1) D D' _ _ ?_ (fun p v hp => by have := h (p + 1) v (by simpa using hp); simpa [Nat.add_assoc, Nat.add_comm 1 p] using this)
    have hlen : ∀ (t : Nat) (v : α) (m : List α), t ≠ s → (m.set t v)[s]? = m[s]? := fun t v m hne => List.getElem?_set_ne hne
    cases u with
    | none => exact hl
    | some q =>
      obtain ⟨t, v⟩ := q
      simp only [upd1]
      by_cases hts : t = s
      · subst hts
        have h0 : D k = D' k := by have := h 0 v (by simp); simpa using this
        rw [← h0]
        cases D k with
        | false => exact hl
        | true =>
          show (l.set t v)[t]? = (l'.set t v)[t]?
          rcases Nat.lt_or_ge t l.length with hlt | hge
          · have : t < l'.length := by
              rcases Nat.lt_or_ge t l'.length with h' | h'
              · exact h'
              · rw [List.getElem?_eq_getElem hlt, List.getElem?_eq_none h'] at hl; cases hl
            rw [List.getElem?_set_self hlt, List.getElem?_set_self this]
          · have : l'.length ≤ t := by
              rcases Nat.lt_or_ge t l'.length with h' | h'
              · rw [List.getElem?_eq_none hge, List.getElem?_eq_getElem h'] at hl; cases hl
              · exact h'
            rw [List.getElem?_eq_none (by simpa using hge), List.getElem?_eq_none (by simpa using this)]
      · have e1 := hlen t v l hts
        have e2 := hlen t v l' hts
        cases D k <;> cases D' k
        · exact hl
        · show l[s]? = (l'.set t v)[s]?
          rw [e2]; exact hl
        · show (l.set t v)[s]? = l'[s]?
          rw [e1]; exact hl
        · show (l.set t v)[s]? = (l'.set t v)[s]?
          rw [e1, e2]; exact hl

theorem upds_set {α : Type} {s : Nat} {v : α} : ∀ (us : List (Option (Nat × α))) (k : Nat) (D : Nat → Bool) (l : List α), (∀ p w, us[p]? = some (some (s, w)) → D (k + p) = false) →
    upds us k D (l.set s v) = (upds us k D l).set s v
  | [], _, _, _, _ => rfl
  | u :: us, k, D, l, h => by
    have ih := fun l => upds_set (s := s) (v := v) us (k + 1) D l (fun p w hp => by have := h (p + 1) w (by simpa using hp); simpa [Nat.add_assoc, Nat.add_comm 1 p] using this)
    rw [upds, upds, ← ih]
    congr 1
    cases hD : D k with
    | false => cases u <;> rfl
    | true =>
      cases u with
      | none => rfl
      | some q =>
        obtain ⟨t, w⟩ := q
        simp only [upd1]
        have hts : t ≠ s := fun e => by
          subst e
          have := h 0 w (by simp)
          simp [hD] at this
        show (l.set s v).set t w = (l.set t w).set s v
        exact List.set_comm _ _ (Ne.symm hts)

/-- One more, before which none that follows in the list and writes the same place has come. -/
theorem upds_add {α : Type} (i : Nat) (u : Option (Nat × α)) : ∀ (us : List (Option (Nat × α))) (k : Nat) (D : Nat → Bool) (l : List α), k ≤ i → us[i - k]? = some u → D i = false →
    (∀ p s v w, u = some (s, v) → i < p → us[p - k]? = some (some (s, w)) → D p = false) →
    upds us k (fun p => p == i || D p) l = upd1 true u (upds us k D l)
  | [], k, D, l, _, hu, _, _ => by simp at hu
  | u' :: us, k, D, l, hk, hu, hD, hlater => by
    rw [upds, upds]
    rcases Nat.lt_or_ge k i with hlt | hge
    · have hki : (k == i) = false := by simp; omega
      have := upds_add i u us (k + 1) D (upd1 (D k) u' l) (by omega) (by rw [show i - k = (i - (k + 1)) + 1 by omega] at hu; simpa using hu) hD
        (fun p s v w hu' hp hpw => hlater p s v w hu' hp (by rw [show p - k = (p - (k + 1)) + 1 by omega]; simpa using hpw))
      simp only [hki, Bool.false_or]
      exact this
    · obtain rfl : k = i := by omega
      simp at hu
      subst hu
      have hrest : ∀ l, upds us (k + 1) (fun p => p == k || D p) l = upds us (k + 1) D l := fun l => by
        have gen : ∀ (us : List (Option (Nat × α))) (m : Nat) (l : List α), k < m → upds us m (fun p => p == k || D p) l = upds us m D l := by
          intro us
          induction us with
          | nil => intro m l _; rfl
          | cons a us ih =>
            intro m l hm
            rw [upds, upds]
            have : (m == k) = false := by simp; omega
            simp only [this, Bool.false_or]
            exact ih (m + 1) _ (by omega)
        exact gen us (k + 1) l (by omega)
      rw [hrest]
      simp only [beq_self_eq_true, Bool.true_or, hD]
      cases u' with
      | none => rfl
      | some q =>
        obtain ⟨s, v⟩ := q
        show upds us (k + 1) D (l.set s v) = (upds us (k + 1) D l).set s v
        refine upds_set us (k + 1) D l fun p w hp => ?_
        exact hlater (k + 1 + p) s v w rfl (by omega) (by rw [show k + 1 + p - k = p + 1 by omega]; simpa using hp)

theorem upds_none {α : Type} : ∀ (us : List (Option (Nat × α))) (k : Nat) (l : List α), upds us k (fun _ => false) l = l
  | [], _, _ => rfl
  | u :: us, k, l => by rw [upds]; cases u <;> exact upds_none us (k + 1) l

/-- All below i have come: as the text has it. -/
theorem upds_lt {α : Type} : ∀ (us : List (Option (Nat × α))) (k i : Nat) (l : List α), upds us k (fun p => decide (p < i)) l = (us.take (i - k)).foldl (fun l u => upd1 true u l) l
  | [], k, i, l => by simp [upds]
  | u :: us, k, i, l => by
    rw [upds, upds_lt us (k + 1) i]
    rcases Nat.lt_or_ge k i with h | h
    · rw [show i - k = (i - (k + 1)) + 1 by omega, List.take_succ_cons, List.foldl_cons]
      simp only [h, decide_true]
    · rw [show i - k = 0 by omega, show i - (k + 1) = 0 by omega]
      have : decide (k < i) = false := by simp; omega
      rw [this]
      cases u <;> rfl

/-- A value somewhere among the updated ones. -/
theorem upds_mem {α : Type} {x : α} : ∀ (us : List (Option (Nat × α))) (k : Nat) (D : Nat → Bool) (l : List α), x ∈ upds us k D l → x ∈ l ∨ ∃ p s, us[p]? = some (some (s, x)) ∧ D (k + p) = true
  | [], _, _, _, h => .inl h
  | u :: us, k, D, l, h => by
    rw [upds] at h
    rcases upds_mem us (k + 1) D _ h with h' | ⟨p, s, h1, h2⟩
    · cases hD : D k with
      | false => rw [hD] at h'; cases u <;> exact .inl h'
      | true =>
        rw [hD] at h'
        cases u with
        | none => exact .inl h'
        | some q =>
          obtain ⟨t, v⟩ := q
          rcases List.mem_or_eq_of_mem_set h' with h'' | rfl
          · exact .inl h''
          · exact .inr ⟨0, t, by simp, by simpa using hD⟩
    · exact .inr ⟨p + 1, s, by simpa using h1, by simpa [Nat.add_assoc, Nat.add_comm 1 p] using h2⟩

/-! ### names but some -/
mutual
def C.on (p : Nat → Bool) : C → Bool
  | .cp j _ => p j
  | .cpi j _ _ => p j
  | .csl j _ _ _ _ => p j
  | .cm j => p j
  | .cf _ caps => C.onL p caps
  | .cmv _ j _ => p j
  | _ => true
def C.onL (p : Nat → Bool) : List C → Bool
  | [] => true
  | c :: l => c.on p && C.onL p l
end
def ons (p : Nat → Bool) : List Seg → Bool
  | [] => true
  | .one c :: ss => c.on p && ons p ss
  | .ints _ _ _ :: ss => ons p ss
def W.on (p : Nat → Bool) : W → Bool
  | .c x => x.on p
  | .agg ss => ons p ss
def onW (p : Nat → Bool) : List W → Bool
  | [] => true
  | x :: xs => x.on p && onW p xs
def V.on (p : Nat → Bool) : V → Bool
  | .w x => x.on p
  | .tup ws => onW p ws
  | .any => true
def Blk.on (p : Nat → Bool) : Blk → Bool
  | .own _ ss => ons p ss
  | .ro ss => ons p ss
  | _ => true

def Sg.onA (p : Nat → Bool) (σ τ : Sg) : Prop := ∀ j, p j = true → σ j = τ j

mutual
theorem C.den_on {p : Nat → Bool} {σ τ : Sg} (h : Sg.onA p σ τ) : (c : C) → c.on p = true → c.den σ = c.den τ
  | .cb _, _ | .ci _ _, _ | .cs _, _ | .cnil, _ | .cg _ _, _ | .cgi _ _ _, _ | .csn, _ | .cv _, _ => rfl
  | .cp j o, hb => by simp only [C.den, Sg.at, h j hb]
  | .cpi j o i, hb => by simp only [C.den, Sg.at, h j hb]
  | .csl j o i l c, hb => by simp only [C.den, Sg.at, h j hb]
  | .cm j, hb => by simp only [C.den, h j hb]
  | .cf f caps, hb => by simp only [C.den, C.denL_on h caps hb]
  | .cmv f j o, hb => by simp only [C.den, Sg.at, h j hb]
theorem C.denL_on {p : Nat → Bool} {σ τ : Sg} (h : Sg.onA p σ τ) : (l : List C) → C.onL p l = true → C.denL σ l = C.denL τ l
  | [], _ => rfl
  | c :: l, hb => by
    simp only [C.onL, Bool.and_eq_true] at hb
    simp only [C.denL, C.den_on h c hb.1, C.denL_on h l hb.2]
end
theorem dens_on {p : Nat → Bool} {σ τ : Sg} (h : Sg.onA p σ τ) : (ss : List Seg) → ons p ss = true → dens σ ss = dens τ ss
  | [], _ => rfl
  | .one c :: ss, hb => by
    simp only [ons, Bool.and_eq_true] at hb
    simp only [dens, Seg.den, C.den_on h c hb.1, dens_on h ss hb.2]
  | .ints k m xs :: ss, hb => by
    simp only [ons] at hb
    simp only [dens, Seg.den, dens_on h ss hb]
theorem W.den_on {p : Nat → Bool} {σ τ : Sg} (h : Sg.onA p σ τ) (x : W) (hb : x.on p = true) : x.den σ = x.den τ := by
  cases x with
  | c x => exact C.den_on h x hb
  | agg ss => simp only [W.den, dens_on h ss hb]
theorem denW_on {p : Nat → Bool} {σ τ : Sg} (h : Sg.onA p σ τ) : (ws : List W) → onW p ws = true → ws.map (W.den σ) = ws.map (W.den τ)
  | [], _ => rfl
  | x :: ws, hb => by
    simp only [onW, Bool.and_eq_true] at hb
    simp only [List.map_cons, W.den_on h x hb.1, denW_on h ws hb.2]
theorem V.rep_on {p : Nat → Bool} {σ τ : Sg} (h : Sg.onA p σ τ) {x : V} (hb : x.on p = true) {v : Value} (hr : x.rep σ v) : x.rep τ v := by
  cases x with
  | w x => exact hr.trans (W.den_on h x hb)
  | tup ws => exact hr.trans (by rw [denW_on h ws hb])
  | any => trivial

mutual
theorem C.on_of {p : Nat → Bool} {n : Nat} (h : ∀ j, j < n → p j = true) : (c : C) → c.bnd n = true → c.on p = true
  | .cb _, _ | .ci _ _, _ | .cs _, _ | .cnil, _ | .cg _ _, _ | .cgi _ _ _, _ | .csn, _ | .cv _, _ => rfl
  | .cp j o, hb => h j (of_decide_eq_true hb)
  | .cpi j o i, hb => h j (of_decide_eq_true hb)
  | .csl j o i l c, hb => h j (of_decide_eq_true hb)
  | .cm j, hb => h j (of_decide_eq_true hb)
  | .cf f caps, hb => C.onL_of h caps hb
  | .cmv f j o, hb => h j (of_decide_eq_true hb)
theorem C.onL_of {p : Nat → Bool} {n : Nat} (h : ∀ j, j < n → p j = true) : (l : List C) → C.bndL n l = true → C.onL p l = true
  | [], _ => by simp only [C.onL]
  | c :: l, hb => by
    simp only [C.bndL, Bool.and_eq_true] at hb
    simp only [C.onL, Bool.and_eq_true]
    exact ⟨C.on_of h c hb.1, C.onL_of h l hb.2⟩
end
theorem ons_of {p : Nat → Bool} {n : Nat} (h : ∀ j, j < n → p j = true) : (ss : List Seg) → bnds n ss = true → ons p ss = true
  | [], _ => rfl
  | .one c :: ss, hb => by
    simp only [bnds, Seg.bnd, Bool.and_eq_true] at hb
    simp only [ons, Bool.and_eq_true]
    exact ⟨C.on_of h c hb.1, ons_of h ss hb.2⟩
  | .ints k m xs :: ss, hb => by
    simp only [bnds, Seg.bnd, Bool.and_eq_true] at hb
    exact ons_of h ss hb.2
theorem W.on_of {p : Nat → Bool} {n : Nat} (h : ∀ j, j < n → p j = true) (x : W) (hb : x.bnd n = true) : x.on p = true := by
  cases x with
  | c x => exact C.on_of h x hb
  | agg ss => exact ons_of h ss hb
theorem onW_of {p : Nat → Bool} {n : Nat} (h : ∀ j, j < n → p j = true) : (ws : List W) → bndW n ws = true → onW p ws = true
  | [], _ => rfl
  | x :: ws, hb => by
    simp only [bndW, Bool.and_eq_true] at hb
    simp only [onW, Bool.and_eq_true]
    exact ⟨W.on_of h x hb.1, onW_of h ws hb.2⟩
theorem V.on_of {p : Nat → Bool} {n : Nat} (h : ∀ j, j < n → p j = true) (x : V) (hb : x.bnd n = true) : x.on p = true := by
  cases x with
  | w x => exact W.on_of h x hb
  | tup ws => exact onW_of h ws hb
  | any => rfl
theorem Blk.on_of {p : Nat → Bool} {n : Nat} (h : ∀ j, j < n → p j = true) (x : Blk) (hb : x.bnd n = true) : x.on p = true := by
  cases x with
  | own T ss => exact ons_of h ss hb
  | ro ss => exact ons_of h ss hb
  | _ => rfl

theorem FRep.on {p : Nat → Bool} {σ τ : Sg} (h : Sg.onA p σ τ) {a : Act} {fr : List V} (hf : FRep Df σ a fr) (ho : ∀ x ∈ fr, x.on p = true) : FRep Df τ a fr :=
  ⟨hf.dfr, hf.size, fun i x hx => V.rep_on h (ho x (List.mem_of_getElem? hx)) (hf.rep i x hx)⟩

theorem Rep.weak' {G : Glo} {σ : Sg} {base : Nat} {w₀ w : World} {H K : List Blk} (h : Rep G σ base w₀ w K) (hw : ∀ (j : Nat) (b : Blk), H[j]? = some b → b = .gone ∨ K[j]? = some b) : Rep G σ base w₀ w H := by
  refine ⟨h.below, h.size, fun j b hj => ?_, fun i j b c hi hj hb hc hij => ?_, h.glo⟩
  · rcases hw j b hj with rfl | hk
    · trivial
    · exact h.blk j b hk
  · rcases hw i b hi with rfl | hi'
    · cases hb
    · rcases hw j c hj with rfl | hj'
      · cases hc
      · exact h.sep i j b c hi' hj' hb hc hij
theorem FRep.weak' {σ : Sg} {a : Act} {F G : List V} (h : FRep Df σ a G) (hl : F.length = G.length) (hw : ∀ (i : Nat) (x : V), F[i]? = some x → x = .any ∨ G[i]? = some x) : FRep Df σ a F :=
  ⟨h.dfr, by rw [h.size, hl], fun i x hx => by
    rcases hw i x hx with rfl | hg
    · trivial
    · exact h.rep i x hg⟩

/-- A new block in a place that is kept for it. -/
theorem Rep.fill {G : Glo} {σ : Sg} {base : Nat} {w₀ w : World} {H : List Blk} (h : Rep G σ base w₀ w H) {j : Nat} (hj : H[j]? = some .gone) (ha : ∀ b ∈ H, b.on (fun k => k != j) = true) (o : Obj) (b : Blk)
    (hb : b.rep (σ.upd j (w.heap.size, 0)) base (w.alloc o) j) : Rep G (σ.upd j (w.heap.size, 0)) base w₀ (w.alloc o) (H.set j b) := by
  have hon : Sg.onA (fun k => k != j) σ (σ.upd j (w.heap.size, 0)) := fun k hk => by
    have : k ≠ j := by simpa using hk
    simp only [Sg.upd, if_neg this]
  have h1 := h.later ((Below.refl w.heap.size w).alloc (Nat.le_refl _) o)
  have hlt := (List.getElem?_eq_some_iff.1 hj).1
  have low : ∀ (i : Nat) (c : Blk), H[i]? = some c → c.mine = true → (σ i).1 < w.heap.size := fun i c hi hc => by
    have := h.blk i c hi
    cases c with
    | own T ss => exact (Array.getElem?_eq_some_iff.1 this.2.2).1
    | obj R => obtain ⟨_, _, o, h3, _⟩ := this; exact (Array.getElem?_eq_some_iff.1 h3).1
    | ro ss => cases hc
    | gone => cases hc
  refine ⟨h1.below, h1.size, fun i c hi => ?_, fun i k c d hi hk hc hd hik => ?_, fun g ss hg => ?_⟩
  · by_cases hij : j = i
    · subst hij
      rw [List.getElem?_set_self hlt] at hi
      cases hi; exact hb
    · rw [List.getElem?_set_ne hij] at hi
      have hc := h1.blk i c hi
      have hσ : σ i = σ.upd j (w.heap.size, 0) i := hon i (by simpa using Ne.symm hij)
      have hcon := ha c (List.mem_of_getElem? hi)
      cases c with
      | own T ss => simp only [Blk.rep, ← hσ, ← dens_on hon ss hcon]; exact hc
      | ro ss => simp only [Blk.rep, Sg.at, ← hσ, ← dens_on hon ss hcon]; exact hc
      | obj R => simp only [Blk.rep, ← hσ]; exact hc
      | gone => trivial
  · have val : ∀ (i : Nat) (c : Blk), (H.set j b)[i]? = some c → c.mine = true → i ≠ j → H[i]? = some c := fun i c hi _ hne => by rwa [List.getElem?_set_ne (Ne.symm hne)] at hi
    by_cases hij : i = j
    · subst hij
      have := low k d (val k d hk hd (Ne.symm hik)) hd
      rw [Sg.upd_self, ← hon k (by simpa using Ne.symm hik)]; simp only; omega
    · by_cases hkj : k = j
      · subst hkj
        have := low i c (val i c hi hc hij) hc
        rw [Sg.upd_self, ← hon i (by simpa using hij)]; simp only; omega
      · rw [← hon i (by simpa using hij), ← hon k (by simpa using hkj)]
        exact h1.sep i k c d (val i c hi hc hij) (val k d hk hd hkj) hc hd hik
  · obtain ⟨h1, h2, h3⟩ := h1.glo g ss hg
    refine ⟨h1, h2, ?_⟩
    rw [← dens_agree (n := 0) (fun j hj => absurd hj (Nat.not_lt_zero j)) ss h2]
    exact h3

end Go.Proofs.YtaficaacogcblaaGreatDoor
