/- Regions whose order is open: every order, walked; then less is told of the states, and what follows is walked once. -/
import Derived.Test.YtaficaacogcblaaGreatDoorXo
set_option linter.all false
namespace Go.Proofs.YtaficaacogcblaaGreatDoor
open Go.RowKit (Below)
variable {Df : List Deferred}

def rdyO (done : List Nat) (o : Oper) : Bool := o.after.toList.all fun e => !(Region.binds .any e) || done.elem e.on
def rdyL (done : List Nat) : List Oper → Nat → List Nat
  | [], _ => []
  | o :: os, i => match done.elem i with
    | true => rdyL done os (i + 1)
    | false => match rdyO done o with
      | true => i :: rdyL done os (i + 1)
      | false => rdyL done os (i + 1)
theorem mem_rdyL {done : List Nat} : ∀ {l : List Oper} {k i : Nat}, i ∈ rdyL done l k ↔ ∃ m o, i = k + m ∧ l[m]? = some o ∧ done.elem i = false ∧ rdyO done o = true
  | [], k, i => by simp [rdyL]
  | o :: os, k, i => by
    have ih := mem_rdyL (done := done) (l := os) (k := k + 1) (i := i)
    have tail : (∃ m o', i = k + 1 + m ∧ os[m]? = some o' ∧ done.elem i = false ∧ rdyO done o' = true) ∨ (i = k ∧ done.elem i = false ∧ rdyO done o = true) ↔ ∃ m o', i = k + m ∧ (o :: os)[m]? = some o' ∧ done.elem i = false ∧ rdyO done o' = true := by
      constructor
      · rintro (⟨m, o', h1, h2, h3⟩ | ⟨h1, h2, h3⟩)
        · exact ⟨m + 1, o', by omega, by simpa using h2, h3⟩
        · exact ⟨0, o, by omega, by simp, h2, h3⟩
      · rintro ⟨m, o', h1, h2, h3⟩
        cases m with
        | zero => simp at h2; subst h2; exact .inr ⟨by omega, h3⟩
        | succ m => exact .inl ⟨m, o', by omega, by simpa using h2, h3⟩
    rw [← tail, ← ih]
    simp only [rdyL]
    cases h1 : done.elem k with
    | true =>
      simp only
      constructor
      · exact .inl
      · rintro (h | ⟨rfl, h2, _⟩)
        · exact h
        · rw [h1] at h2; cases h2
    | false =>
      simp only
      cases h2 : rdyO done o with
      | true =>
        simp only [List.mem_cons]
        constructor
        · rintro (rfl | h)
          · exact .inr ⟨rfl, h1, trivial⟩
          · exact .inl h
        · rintro (h | ⟨h, _⟩)
          · exact .inr h
          · exact .inl h
      | false =>
        simp only
        constructor
        · exact .inl
        · rintro (h | ⟨_, _, h3⟩)
          · exact h
          · cases h3

def eachN (l : List Nat) : (Nat → Prop) → Prop :=
  List.rec (motive := fun _ => (Nat → Prop) → Prop) (fun _ => True) (fun i _ ih f => f i ∧ ih f) l
theorem eachN_mem : ∀ {l : List Nat} {f : Nat → Prop}, eachN l f → ∀ i ∈ l, f i
  | [], _, _, i, hi => by simp at hi
  | j :: l, f, h, i, hi => by
    rcases List.mem_cons.1 hi with rfl | hi
    · exact h.1
    · exact eachN_mem (l := l) h.2 i hi

def xall (P : Program) (E : Env) (cal : Cal) (ops : List Oper) (n : Nat) : List Nat → List V → List Blk → (List V → List Blk → Prop) → Prop :=
  Nat.rec (motive := fun _ => List Nat → List V → List Blk → (List V → List Blk → Prop) → Prop) (fun _ fr H K => K fr H)
    (fun _ ih done fr H K => match rdyL done ops 0 with
      | [] => False
      | i :: is => eachN (i :: is) fun i => nthL ops i fun o => guardK ops fr o fun wanted => match wanted with
        | true => xany P E cal o fr H fun x H' => putK fr o.dst x fun fr' => ih (i :: done) fr' H' K
        | false => putK fr o.dst undefV fun fr' => ih (i :: done) fr' H K) n
theorem xall_succ (P : Program) (E : Env) (cal : Cal) (ops : List Oper) (n : Nat) (done : List Nat) (fr : List V) (H : List Blk) (K : List V → List Blk → Prop) : xall P E cal ops (n + 1) done fr H K = match rdyL done ops 0 with
      | [] => False
      | i :: is => eachN (i :: is) fun i => nthL ops i fun o => guardK ops fr o fun wanted => match wanted with
        | true => xany P E cal o fr H fun x H' => putK fr o.dst x fun fr' => xall P E cal ops n (i :: done) fr' H' K
        | false => putK fr o.dst undefV fun fr' => xall P E cal ops n (i :: done) fr' H K := rfl

theorem xall_spec {P : Program} {E : Env} (hE : EnvOk P E) {cal : Cal} (hc : CalOk P E cal) (ops : Array Oper) {base : Nat} {w₀ : World} {lo : Nat} {Q : Exit → Act → World → Prop} {σ₀ : Sg} {K : List V → List Blk → Prop}
    (fin : ∀ τ fr H a w, K fr H → Sg.agree lo σ₀ τ → Rep E.G τ base w₀ w H → HOk H → FRep Df τ a fr → FOk H.length fr → lo ≤ H.length → Q .normal a w) :
    ∀ (fuel : Nat) (listed : Array Bool) (done : List Nat), listed.size = ops.size → listed.toList.count false = fuel → (∀ p, listed.getD p false = done.elem p) →
      ∀ {fr : List V} {H : List Blk} {σ : Sg} {a : Act} {w : World}, xall P E cal ops.toList fuel done fr H K → FOk H.length fr → HOk H → lo ≤ H.length → Sg.agree lo σ₀ σ → FRep Df σ a fr → Rep E.G σ base w₀ w H → wpAny P .any ops Q fuel listed a w
  | 0, listed, done, hs, hcnt, hd, fr, H, σ, a, w, h, hf, ho, hlo, hσ, hr, hw => by
    refine ⟨?_, fin σ fr H a w h hσ hw ho hr hf hlo⟩
    have hall : ∀ i, i < ops.size → listed.getD i false = true := fun i hi => by
      have hlt : i < listed.size := by omega
      have h0 := List.count_eq_zero.1 hcnt
      have : listed[i] ≠ false := fun e => h0 (by rw [← e]; exact Array.getElem_mem_toList hlt)
      simp [hlt]
      simpa using this
    unfold Region.ready
    rw [List.filter_eq_nil_iff]
    intro i hi
    have hi' : i < ops.size := by simpa using hi
    have := hall i hi'
    have hlt : i < listed.size := by omega
    simp [hlt] at this ⊢
    simp [this]
  | fuel + 1, listed, done, hs, hcnt, hd, fr, H, σ, a, w, h, hf, ho, hlo, hσ, hr, hw => by
    have mem : ∀ i, i ∈ Region.ready .any ops listed ↔ i ∈ rdyL done ops.toList 0 := fun i => by
      rw [mem_ready, mem_rdyL]
      constructor
      · rintro ⟨h1, o, h2, h3⟩
        have hlt : i < listed.size := by have := (Array.getElem?_eq_some_iff.1 h2).1; omega
        refine ⟨i, o, by omega, by simpa using h2, ?_, ?_⟩
        · rw [← hd]; simp [hlt] at h1 ⊢; exact h1
        · unfold rdyO
          rw [List.all_eq_true]
          intro e he
          cases hb : Region.binds .any e with
          | false => rfl
          | true =>
            have := h3 e (by simpa using he) hb
            rw [hd] at this
            simpa using this
      · rintro ⟨m, o, h1, h2, h3, h4⟩
        obtain rfl : i = m := by omega
        have h2' : ops[i]? = some o := by simpa using h2
        have hlt : i < listed.size := by have := (Array.getElem?_eq_some_iff.1 h2').1; omega
        refine ⟨?_, o, h2', fun e he hb => ?_⟩
        · rw [← hd] at h3; simp [hlt] at h3 ⊢; exact h3
        · unfold rdyO at h4
          rw [List.all_eq_true] at h4
          have := h4 e (by simpa using he)
          rw [hb] at this
          rw [hd]
          simpa using this
    rw [xall_succ] at h
    refine ⟨fun hn => ?_, fun i hi => ?_⟩
    · cases hl : rdyL done ops.toList 0 with
      | nil => rw [hl] at h; exact h.elim
      | cons i is =>
        have := (mem i).2 (by rw [hl]; simp)
        rw [hn] at this
        cases this
    · have hil := (mem i).1 hi
      obtain ⟨h1, o, h2, h3⟩ := mem_ready.1 hi
      have hilt : i < ops.size := (Array.getElem?_eq_some_iff.1 h2).1
      have hlt : i < listed.size := by omega
      have hfalse : listed.getD i false = false := by simp [hlt] at h1 ⊢; exact h1
      have h' : nthL ops.toList i fun o => guardK ops.toList fr o fun wanted => match wanted with
        | true => xany P E cal o fr H fun x H' => putK fr o.dst x fun fr' => xall P E cal ops.toList fuel (i :: done) fr' H' K
        | false => putK fr o.dst undefV fun fr' => xall P E cal ops.toList fuel (i :: done) fr' H K := by
        cases hl : rdyL done ops.toList 0 with
        | nil => rw [hl] at h; exact h.elim
        | cons j js =>
          rw [hl] at h hil
          exact eachN_mem h i hil
      obtain ⟨o', ho', h⟩ := nthL_spec h'
      have : o' = o := by
        have e : ops.toList[i]? = some o := by simpa using h2
        rw [e] at ho'
        exact (Option.some.inj ho').symm
      subst this
      have hset : ∀ p, (listed.setIfInBounds i true).getD p false = (i :: done).elem p := fun p => by
        rw [List.elem_cons]
        by_cases hpi : p = i
        · subst hpi; simp [hlt]
        · have : (p == i) = false := by simpa using hpi
          rw [this, getD_set_ne false (Ne.symm hpi), hd]
      have hcnt' : (listed.setIfInBounds i true).toList.count false = fuel := by
        have e1 : (listed.setIfInBounds i true).toList = listed.toList.set i true := by simp
        have hl : listed.toList[i]? = some false := by
          have : listed[i] = false := by simpa [hlt] using hfalse
          simp [hlt, this]
        have hlt' : i < listed.toList.length := by simpa using hlt
        have hget : listed.toList[i] = false := by rw [List.getElem?_eq_getElem hlt'] at hl; simpa using hl
        rw [e1, List.count_set hlt', hget]
        have e2 : (true == false) = false := rfl
        simp only [beq_self_eq_true, if_true, e2, Bool.false_eq_true, if_false]
        omega
      have h := guardK_spec h hr
      cases hwant : Region.wanted o' (yielded ops a.tmps) with
      | true =>
        refine guard_wp h2 hwant ?_
        rw [hwant] at h
        refine xany_spec hE hc h hf ho hr hw fun τ x H' v w' k1 k2 k3 k4 k5 k6 k7 => ?_
        rw [putK_iff] at k1
        exact xall_spec hE hc ops fin fuel _ (i :: done) (by simpa using hs) hcnt' hset k1 (FOk.put (hf.mono k7) k6) k5 (Nat.le_trans hlo k7) (hσ.trans (k2.mono hlo)) ((hr.agree k2 hf).put k3) k4
      | false =>
        refine guard_wp h2 hwant ?_
        rw [hwant] at h
        simp only at h
        rw [putK_iff] at h
        exact xall_spec hE hc ops fin fuel _ (i :: done) (by simpa using hs) hcnt' hset h (FOk.put hf ⟨trivial, rfl⟩) ho hlo hσ (hr.put (undefV_rep σ)) hw

@[irreducible] def XAll (P : Program) (E : Env) (cal : Cal) (ops : Array Oper) (lo : Nat) (fr : List V) (H : List Blk) (K : List V → List Blk → Prop) : Prop :=
  ∃ S L : List V → List Blk → Prop, (∀ frc Hc, S frc Hc → K frc Hc) ∧ (∀ fr' H', L fr' H' → ∃ frc Hc ρ, S frc Hc ∧ Seen ρ lo frc Hc fr' H') ∧ xall P E cal ops.toList ops.size [] fr H L

/-- Is each order to be walked? -/
def isAll (F : Fns) (ops : List Oper) : Bool := ops.any fun o => match o.op with
  | .call c => match c.callee with
    | .builtin .append => true
    | .value (.func g) => F.all g
    | _ => false
  | _ => false
def drwA (P : Program) (E : Env) (F : Fns) (cal : Cal) : Drw := fun ops lo fr H K => match isAll F ops.toList with
  | true => XAll P E cal ops lo fr H K
  | false => drwF P E F cal ops lo fr H K

theorem drwA_ok {P : Program} {E : Env} (hE : EnvOk P E) {F : Fns} (hF : FnsOk P F E.G) (hm : P.follows .mixedOrders = true) (cal : Cal) (hc : CalOk P E cal) : DrwOk P E (drwA P E F cal) := by
  intro Df id ops lo fr H K h hf ho hlo σ base w₀ w a hr hw
  unfold drwA at h
  split at h
  · unfold XAll at h
    obtain ⟨S, L, h1, hL, h2⟩ := h
    refine wp_region_any hm ?_
    have hw' : Rep E.G σ base w₀ { w with drawn := w.drawn + 1 } H := hw.later ⟨rfl, rfl, rfl, Nat.le_refl _, fun _ _ => rfl⟩
    refine xall_spec hE hc ops (σ₀ := σ) (base := base) (w₀ := w₀) (lo := lo) ?_ ops.size (Array.replicate ops.size false) [] (by simp) (by simp) (fun p => ?_) h2 hf ho hlo (Sg.agree.refl _ _) hr hw'
    · rintro τ fr' H' a' w' k0 k3 k4 k5 k6 k7 k8
      obtain ⟨frc, Hc, ρ, k1, k2⟩ := hL _ _ k0
      obtain ⟨q1, q2⟩ := k2.ok k7 k5
      exact ⟨τ.ren ρ, frc, Hc, .normal, rfl, ⟨rfl, h1 _ _ k1⟩, k3.trans (fun j hj => by simp only [Sg.ren, k2.low j hj]), k4.ren k2.blk k2.inj, q2, k6.ren k2.len k2.fr, q1, k2.lo⟩
    · rcases Nat.lt_or_ge p ops.size with hlt | hge
      · simp [hlt]
      · simp [Array.getElem?_eq_none (xs := Array.replicate ops.size false) (i := p) (by simpa using hge)]
  · exact drwF_ok hE hF hm cal hc Df id ops lo fr H K h hf ho hlo σ base w₀ w a hr hw

/-- A region whose orders are all walked, by the states that may stand behind it. -/
theorem all_at {P : Program} {E : Env} {cal : Cal} {ops : Array Oper} {lo : Nat} {fr : List V} {H : List Blk} {K : List V → List Blk → Prop} {α : Type} (ds : List Nat) (J : α → Prop) (sel : α → List (Nat × V)) (Hs : α → List Blk)
    (rest : ∀ s, J s → havK ds 0 fr fun f₁ => setLK (sel s) f₁ fun f₂ => K f₂ (Hs s))
    (walk : xall P E cal ops.toList ops.size [] fr H fun fr' H' => ∃ s ρ, J s ∧ Next2 ρ ds lo fr (sel s) (Hs s) fr' H') : XAll P E cal ops lo fr H K := by
  unfold XAll
  refine ⟨fun frc Hc => ∃ s, J s ∧ frc = setL (sel s) (hav ds 0 fr) ∧ Hc = Hs s, _, ?_, ?_, walk⟩
  · rintro frc Hc ⟨s, hs, rfl, rfl⟩
    have := rest s hs
    rw [havK_iff, setLK_iff] at this
    exact this
  · rintro fr' H' ⟨s, ρ, h1, h2⟩
    exact ⟨_, _, ρ, ⟨s, h1, rfl, rfl⟩, h2.seen⟩
end Go.Proofs.YtaficaacogcblaaGreatDoor
