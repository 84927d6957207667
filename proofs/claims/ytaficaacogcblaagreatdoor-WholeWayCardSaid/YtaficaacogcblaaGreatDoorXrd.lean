/- Regions whose order is open, walked in few orders: an operation that looks at its operands alone is carried out as soon as it may be (whoever comes ahead of it leaves it as it is). -/
import Derived.Test.YtaficaacogcblaaGreatDoorXs
set_option linter.all false
namespace Go.Proofs.YtaficaacogcblaaGreatDoor
open Go.RowKit (Below)
variable {Df : List Deferred}

/-- It looks at its operands alone. -/
def stillO (P : Program) (o : Oper) : Bool := match o.op with
  | .move _ => true
  | .assign _ => true
  | .pick _ _ _ => true
  | .nilCheck _ => true
  | .binOp _ _ _ _ _ => true
  | .unOp _ _ _ => true
  | .fieldAddr _ _ _ => true
  | .field _ _ _ => true
  | .indexAddr _ _ _ => true
  | .index _ _ _ => true
  | .extract _ _ => true
  | .makeFunc _ _ _ => true
  | .slice _ _ _ _ _ => true
  | .build _ _ => true
  | .convert _ d _ => match tyOf P d with
    | .str => false
    | _ => true
  | .call c => match c.callee with
    | .builtin .len => true
    | .builtin .cap => true
    | .builtin .max => true
    | .builtin .min => true
    | _ => false
  | _ => false
def Env.bare (E : Env) : Env := ⟨fun _ => none, E.EQ⟩
theorem Env.bare_ok {P : Program} {E : Env} (h : EnvOk P E) : EnvOk P (Env.bare E) := ⟨⟨by intro g ss hg; exact absurd hg (by simp [Env.bare])⟩, h.eq⟩
theorem still_xpure {P : Program} {E : Env} {o : Oper} (hs : stillO P o = true) {fr : List V} {H H' : List Blk} {K : V → Prop} (h : xpure P E o fr H K) : xpure P (Env.bare E) o fr H' K := by
  obtain ⟨dst, op, ty, pos, after, guard⟩ := o
  cases op
  case convert s d x =>
    simp only [stillO] at hs
    simp only [xpure] at h ⊢
    split at hs
    · cases hs
    · rename_i hne
      have : ∀ c, (match tyOf P d with | .str => kStr P s d H c fun c => K (.w (.c c)) | _ => kConv P s d c fun c => K (.w (.c c))) = kConv P s d c fun c => K (.w (.c c)) := fun c => by
        split
        · rename_i he; exact absurd he hne
        · rfl
      have this' : ∀ c, (match tyOf P d with | .str => kStr P s d H' c fun c => K (.w (.c c)) | _ => kConv P s d c fun c => K (.w (.c c))) = kConv P s d c fun c => K (.w (.c c)) := fun c => by
        split
        · rename_i he; exact absurd he hne
        · rfl
      simp only [this] at h
      simp only [this']
      exact h
  case call c =>
    obtain ⟨callee, args, argTypes⟩ := c
    cases callee with
    | builtin b => cases b <;> first | exact h | cases hs
    | value _ => cases hs
    | invoke _ _ => cases hs
  case makeFunc fn first caps =>
    cases fn with
    | func f => exact h
    | _ => exact h.elim
  all_goals first | exact h | cases hs

def knownV (x : V) (K : Prop) : Prop := match x with
  | .w _ => K
  | .tup _ => K
  | .any => False

theorem gone_rep (σ : Sg) (n : Nat) (w : World) : Rep (fun _ => none) σ w.heap.size w w (List.replicate n .gone) := by
  refine ⟨Below.refl _ _, Nat.le_refl _, fun j b hj => ?_, fun i j b c hi hj hb hc hij => ?_, fun g ss hg => by cases hg⟩
  · rw [(List.mem_replicate.1 (List.mem_of_getElem? hj)).2]; trivial
  · rw [(List.mem_replicate.1 (List.mem_of_getElem? hi)).2] at hb; cases hb
theorem gone_ok (n : Nat) : HOk (List.replicate n .gone) := ⟨fun b hb => by rw [(List.mem_replicate.1 hb).2]; trivial, fun b hb => by rw [(List.mem_replicate.1 hb).2]; rfl⟩

/-- In every world alike. -/
theorem still_yields {P : Program} {E : Env} (hE : EnvOk P E) {ops : Array Oper} {o : Oper} (hs : stillO P o = true) {fr : List V} {H : List Blk} {K : V → Prop} (h : xpure P E o fr H fun x => knownV x (K x)) (hf : FOk H.length fr) {σ : Sg} {a : Act} (hr : FRep Df σ a fr)
    (hw : Region.wanted o (yielded ops a.tmps) = true) : ∃ x v, x.ok H.length ∧ K x ∧ x.rep σ v ∧ Yields P ops o v a := by
  have h' := still_xpure (H' := List.replicate H.length .gone) hs h
  obtain ⟨x, x1, x2, x3⟩ := xpure_spec (E := Env.bare E) (Env.bare_ok hE) h' (by rw [List.length_replicate]; exact hf) (gone_ok _)
  rw [List.length_replicate] at x1
  have x3' := fun w => x3 σ a w.heap.size w w hr (show Rep (Env.bare E).G σ w.heap.size w w _ from gone_rep σ H.length w)
  cases x with
  | any => exact x2.elim
  | w y =>
    refine ⟨.w y, y.den σ, x1, x2, rfl, .inl ⟨hw, fun w => ?_⟩⟩
    obtain ⟨v, rfl, h2⟩ := x3' w
    exact h2
  | tup ws =>
    refine ⟨.tup ws, .tuple (ws.map (W.den σ)).toArray, x1, x2, rfl, .inl ⟨hw, fun w => ?_⟩⟩
    obtain ⟨v, rfl, h2⟩ := x3' w
    exact h2

def stillL (P : Program) (ops : List Oper) : List Nat → Option Nat
  | [] => none
  | i :: is => match ops[i]? with
    | some o => match stillO P o with
      | true => some i
      | false => stillL P ops is
    | none => stillL P ops is
theorem stillL_spec {P : Program} {ops : List Oper} : ∀ {l : List Nat} {i : Nat}, stillL P ops l = some i → i ∈ l ∧ ∃ o, ops[i]? = some o ∧ stillO P o = true
  | [], _, h => by cases h
  | j :: js, i, h => by
    simp only [stillL] at h
    split at h
    · rename_i o ho
      split at h
      · rename_i hs
        cases h
        exact ⟨by simp, o, ho, hs⟩
      · obtain ⟨h1, h2⟩ := stillL_spec h
        exact ⟨List.mem_cons_of_mem _ h1, h2⟩
    · obtain ⟨h1, h2⟩ := stillL_spec h
      exact ⟨List.mem_cons_of_mem _ h1, h2⟩

def xred (P : Program) (E : Env) (cal : Cal) (ops : List Oper) (n : Nat) : List Nat → List V → List Blk → (List V → List Blk → Prop) → Prop :=
  Nat.rec (motive := fun _ => List Nat → List V → List Blk → (List V → List Blk → Prop) → Prop) (fun _ fr H K => K fr H)
    (fun _ ih done fr H K => match rdyL done ops 0 with
      | [] => False
      | i :: is => match stillL P ops (i :: is) with
        | some i => nthL ops i fun o => guardK ops fr o fun wanted => match wanted with
          | true => xpure P E o fr H fun x => knownV x (putK fr o.dst x fun fr' => ih (i :: done) fr' H K)
          | false => putK fr o.dst undefV fun fr' => ih (i :: done) fr' H K
        | none => eachN (i :: is) fun i => nthL ops i fun o => guardK ops fr o fun wanted => match wanted with
          | true => xany P E cal o fr H fun x H' => putK fr o.dst x fun fr' => ih (i :: done) fr' H' K
          | false => putK fr o.dst undefV fun fr' => ih (i :: done) fr' H K) n
theorem xred_succ (P : Program) (E : Env) (cal : Cal) (ops : List Oper) (n : Nat) (done : List Nat) (fr : List V) (H : List Blk) (K : List V → List Blk → Prop) : xred P E cal ops (n + 1) done fr H K = match rdyL done ops 0 with
      | [] => False
      | i :: is => match stillL P ops (i :: is) with
        | some i => nthL ops i fun o => guardK ops fr o fun wanted => match wanted with
          | true => xpure P E o fr H fun x => knownV x (putK fr o.dst x fun fr' => xred P E cal ops n (i :: done) fr' H K)
          | false => putK fr o.dst undefV fun fr' => xred P E cal ops n (i :: done) fr' H K
        | none => eachN (i :: is) fun i => nthL ops i fun o => guardK ops fr o fun wanted => match wanted with
          | true => xany P E cal o fr H fun x H' => putK fr o.dst x fun fr' => xred P E cal ops n (i :: done) fr' H' K
          | false => putK fr o.dst undefV fun fr' => xred P E cal ops n (i :: done) fr' H K := rfl

/-- Each two operations are ordered, or neither bears on the other. -/
def waitsB (ops : Array Oper) (j i : Nat) : Bool := match ops[j]? with
  | some oj => oj.after.any fun e => Region.binds .any e && e.on == i
  | none => false
def ssaB (ops : Array Oper) : Bool := Region.noSelect ops && (List.range ops.size).all fun i => (List.range ops.size).all fun j => i == j || waitsB ops j i || waitsB ops i j || match ops[i]?, ops[j]? with
  | some oi, some oj => oi.apart ops oj
  | _, _ => true

theorem waitsB_spec {ops : Array Oper} {j i : Nat} (h : waitsB ops j i = true) : ∃ oj, ops[j]? = some oj ∧ ∃ e ∈ oj.after, Region.binds .any e = true ∧ e.on = i := by
  unfold waitsB at h
  split at h
  · rename_i oj hj
    obtain ⟨e, he, hb⟩ := Array.any_eq_true'.1 h
    simp only [Bool.and_eq_true, beq_iff_eq] at hb
    exact ⟨oj, hj, e, he, hb.1, hb.2⟩
  · cases h

theorem ready_rdyL {ops : Array Oper} {listed : Array Bool} {done : List Nat} (hs : listed.size = ops.size) (hd : ∀ p, listed.getD p false = done.elem p) (i : Nat) : i ∈ Region.ready .any ops listed ↔ i ∈ rdyL done ops.toList 0 := by
  rw [mem_ready, mem_rdyL]
  constructor
  · rintro ⟨h1, o, h2, h3⟩
    have hlt : i < listed.size := by have := (Array.getElem?_eq_some_iff.1 h2).1; omega
    refine ⟨i, o, by omega, by simpa using h2, ?_, ?_⟩
    · rw [← hd]; simp [hlt] at h1 ⊢; exact h1
    · unfold rdyO
      rw [List.all_eq_true]
      intro e he
      cases hb : Region.binds .any e with
      | false => rfl
      | true =>
        have := h3 e (by simpa using he) hb
        rw [hd] at this
        simpa using this
  · rintro ⟨m, o, h1, h2, h3, h4⟩
    obtain rfl : i = m := by omega
    have h2' : ops[i]? = some o := by simpa using h2
    have hlt : i < listed.size := by have := (Array.getElem?_eq_some_iff.1 h2').1; omega
    refine ⟨?_, o, h2', fun e he hb => ?_⟩
    · rw [← hd] at h3; simp [hlt] at h3 ⊢; exact h3
    · unfold rdyO at h4
      rw [List.all_eq_true] at h4
      have := h4 e (by simpa using he)
      rw [hb] at this
      rw [hd]
      simpa using this

theorem xred_spec {P : Program} {E : Env} (hE : EnvOk P E) {cal : Cal} (hc : CalOk P E cal) (ops : Array Oper) (hssa : ssaB ops = true) {base : Nat} {w₀ : World} {lo : Nat} {Q : Exit → Act → World → Prop} {σ₀ : Sg} {K : List V → List Blk → Prop}
    (hQ : ∀ c a w, ¬ Q (.panic c) a w)
    (fin : ∀ τ fr H a w, K fr H → Sg.agree lo σ₀ τ → Rep E.G τ base w₀ w H → HOk H → FRep Df τ a fr → FOk H.length fr → lo ≤ H.length → Q .normal a w) :
    ∀ (fuel : Nat) (listed : Array Bool) (done : List Nat), listed.size = ops.size → listed.toList.count false = fuel → (∀ p, listed.getD p false = done.elem p) →
      ∀ {fr : List V} {H : List Blk} {σ : Sg} {a : Act} {w : World}, xred P E cal ops.toList fuel done fr H K → FOk H.length fr → HOk H → lo ≤ H.length → Sg.agree lo σ₀ σ → FRep Df σ a fr → Rep E.G σ base w₀ w H → wpAny P .any ops Q fuel listed a w
  | 0, listed, done, hs, hcnt, hd, fr, H, σ, a, w, h, hf, ho, hlo, hσ, hr, hw => by
    refine ⟨?_, fin σ fr H a w h hσ hw ho hr hf hlo⟩
    have hall : ∀ i, i < ops.size → listed.getD i false = true := fun i hi => by
      have hlt : i < listed.size := by omega
      have h0 := List.count_eq_zero.1 hcnt
      have : listed[i] ≠ false := fun e => h0 (by rw [← e]; exact Array.getElem_mem_toList hlt)
      simp [hlt]
      simpa using this
    unfold Region.ready
    rw [List.filter_eq_nil_iff]
    intro i hi
    have hi' : i < ops.size := by simpa using hi
    have := hall i hi'
    have hlt : i < listed.size := by omega
    simp [hlt] at this ⊢
    simp [this]
  | fuel + 1, listed, done, hs, hcnt, hd, fr, H, σ, a, w, h, hf, ho, hlo, hσ, hr, hw => by
    have mem := ready_rdyL hs hd
    have hset : ∀ i, i < listed.size → ∀ p, (listed.setIfInBounds i true).getD p false = (i :: done).elem p := fun i hlt p => by
      rw [List.elem_cons]
      by_cases hpi : p = i
      · subst hpi; simp [hlt]
      · have : (p == i) = false := by simpa using hpi
        rw [this, getD_set_ne false (Ne.symm hpi), hd]
    have hcnt' : ∀ i, i < listed.size → listed.getD i false = false → (listed.setIfInBounds i true).toList.count false = fuel := fun i hlt hfalse => by
      have e1 : (listed.setIfInBounds i true).toList = listed.toList.set i true := by simp
      have hl : listed.toList[i]? = some false := by
        have : listed[i] = false := by simpa [hlt] using hfalse
        simp [hlt, this]
      have hlt' : i < listed.toList.length := by simpa using hlt
      have hget : listed.toList[i] = false := by rw [List.getElem?_eq_getElem hlt'] at hl; simpa using hl
      rw [e1, List.count_set hlt', hget]
      have e2 : (true == false) = false := rfl
      simp only [beq_self_eq_true, if_true, e2, Bool.false_eq_true, if_false]
      omega
    have look : ∀ i, i ∈ Region.ready .any ops listed → ∃ o, ops[i]? = some o ∧ ops.toList[i]? = some o ∧ i < listed.size ∧ listed.getD i false = false := fun i hi => by
      obtain ⟨h1, o, h2, h3⟩ := mem_ready.1 hi
      have hilt : i < ops.size := (Array.getElem?_eq_some_iff.1 h2).1
      have hlt : i < listed.size := by omega
      exact ⟨o, h2, by simpa using h2, hlt, by simp [hlt] at h1 ⊢; exact h1⟩
    rw [xred_succ] at h
    cases hl : rdyL done ops.toList 0 with
    | nil => rw [hl] at h; exact h.elim
    | cons i0 is0 =>
      rw [hl] at h
      simp only at h
      cases hst : stillL P ops.toList (i0 :: is0) with
      | some i =>
        rw [hst] at h
        simp only at h
        obtain ⟨hin, o2, ho2, hso⟩ := stillL_spec hst
        have hi : i ∈ Region.ready .any ops listed := (mem i).2 (by rw [hl]; exact hin)
        obtain ⟨o, h2, h2', hlt, hfalse⟩ := look i hi
        obtain rfl : o = o2 := by rw [h2'] at ho2; exact Option.some.inj ho2
        obtain ⟨o', ho', h⟩ := nthL_spec h
        obtain rfl : o = o' := by rw [h2'] at ho'; exact Option.some.inj ho'
        have h := guardK_spec h hr
        have free : ∀ j oj, ops[j]? = some oj → j ≠ i → listed.getD j true = false → (∀ e ∈ oj.after, Region.binds .any e = true → e.on ≠ i) → o.apart ops oj = true := fun j oj hj hji hun hno => by
          unfold ssaB at hssa
          rw [Bool.and_eq_true] at hssa
          have hjlt := (Array.getElem?_eq_some_iff.1 hj).1
          have hilt := (Array.getElem?_eq_some_iff.1 h2).1
          have := List.all_eq_true.1 (List.all_eq_true.1 hssa.2 i (List.mem_range.2 hilt)) j (List.mem_range.2 hjlt)
          have e1 : (i == j) = false := by simpa using Ne.symm hji
          have e2 : waitsB ops j i = false := by
            cases hb : waitsB ops j i with
            | false => rfl
            | true =>
              obtain ⟨oj', q1, e, q2, q3, q4⟩ := waitsB_spec hb
              rw [hj] at q1
              cases q1
              exact absurd q4 (hno e q2 q3)
          have e3 : waitsB ops i j = false := by
            cases hb : waitsB ops i j with
            | false => rfl
            | true =>
              obtain ⟨oi', q1, e, q2, q3, q4⟩ := waitsB_spec hb
              rw [h2] at q1
              cases q1
              obtain ⟨_, o3, r1, r2⟩ := mem_ready.1 hi
              rw [h2] at r1
              cases r1
              have := r2 e q2 q3
              rw [q4] at this
              have hjl : j < listed.size := by omega
              simp [hjl] at this hun
              rw [this] at hun; cases hun
          simpa [e1, e2, e3, h2, hj] using this
        have hsel := Region.noSelect_spec (ops := ops) (by unfold ssaB at hssa; rw [Bool.and_eq_true] at hssa; exact hssa.1)
        cases hwant : Region.wanted o (yielded ops a.tmps) with
        | true =>
          rw [hwant] at h
          obtain ⟨x, v, x1, x2, x3, x4⟩ := still_yields hE hso h hf hr hwant
          rw [putK_iff] at x2
          exact wpAny_first h2 hsel (fun c a w h => (hQ c _ w h).elim) fuel listed a w free hi x4
            (xred_spec hE hc ops hssa hQ fin fuel _ (i :: done) (by simpa using hs) (hcnt' i hlt hfalse) (hset i hlt) x2 (FOk.put hf x1) ho hlo hσ (hr.put x3) hw)
        | false =>
          rw [hwant] at h
          simp only at h
          rw [putK_iff] at h
          exact wpAny_first (v := undef) h2 hsel (fun c a w h => (hQ c _ w h).elim) fuel listed a w free hi (.inr ⟨hwant, rfl⟩)
            (xred_spec hE hc ops hssa hQ fin fuel _ (i :: done) (by simpa using hs) (hcnt' i hlt hfalse) (hset i hlt) h (FOk.put hf ⟨trivial, rfl⟩) ho hlo hσ (hr.put (undefV_rep σ)) hw)
      | none =>
        rw [hst] at h
        simp only at h
        refine ⟨fun hn => ?_, fun i hi => ?_⟩
        · have := (mem i0).2 (by rw [hl]; simp)
          rw [hn] at this
          cases this
        · have hil := (mem i).1 hi
          rw [hl] at hil
          obtain ⟨o, h2, h2', hlt, hfalse⟩ := look i hi
          obtain ⟨o', ho', h⟩ := nthL_spec (eachN_mem h i hil)
          obtain rfl : o = o' := by rw [h2'] at ho'; exact Option.some.inj ho'
          have h := guardK_spec h hr
          cases hwant : Region.wanted o (yielded ops a.tmps) with
          | true =>
            refine guard_wp h2 hwant ?_
            rw [hwant] at h
            refine xany_spec hE hc h hf ho hr hw fun τ x H' v w' k1 k2 k3 k4 k5 k6 k7 => ?_
            rw [putK_iff] at k1
            exact xred_spec hE hc ops hssa hQ fin fuel _ (i :: done) (by simpa using hs) (hcnt' i hlt hfalse) (hset i hlt) k1 (FOk.put (hf.mono k7) k6) k5 (Nat.le_trans hlo k7) (hσ.trans (k2.mono hlo)) ((hr.agree k2 hf).put k3) k4
          | false =>
            refine guard_wp h2 hwant ?_
            rw [hwant] at h
            simp only at h
            rw [putK_iff] at h
            exact xred_spec hE hc ops hssa hQ fin fuel _ (i :: done) (by simpa using hs) (hcnt' i hlt hfalse) (hset i hlt) h (FOk.put hf ⟨trivial, rfl⟩) ho hlo hσ (hr.put (undefV_rep σ)) hw

@[irreducible] def XRed (P : Program) (E : Env) (cal : Cal) (ops : Array Oper) (lo : Nat) (fr : List V) (H : List Blk) (K : List V → List Blk → Prop) : Prop :=
  ssaB ops = true ∧ ∃ S L : List V → List Blk → Prop, (∀ frc Hc, S frc Hc → K frc Hc) ∧ (∀ fr' H', L fr' H' → ∃ frc Hc ρ, (FOk H'.length fr' → HOk H' → lo ≤ H'.length → Seen ρ lo frc Hc fr' H') ∧ S frc Hc) ∧ xred P E cal ops.toList ops.size [] fr H L

/-- Is it walked in few orders? -/
def isRed (F : Fns) (ops : List Oper) : Bool := ops.any fun o => match o.op with
  | .call c => match c.callee with
    | .builtin .append => true
    | .value (.func g) => F.all g
    | .value _ => F.all 999999
    | _ => false
  | _ => false
def drwR (P : Program) (E : Env) (F : Fns) (cal : Cal) : Drw := fun ops lo fr H K => match isRed F ops.toList with
  | true => XRed P E cal ops lo fr H K
  | false => drwF P E F cal ops lo fr H K

theorem drwR_ok {P : Program} {E : Env} (hE : EnvOk P E) {F : Fns} (hF : FnsOk P F E.G) (hm : P.follows .mixedOrders = true) (cal : Cal) (hc : CalOk P E cal) : DrwOk P E (drwR P E F cal) := by
  intro Df id ops lo fr H K h hf ho hlo σ base w₀ w a hr hw
  unfold drwR at h
  split at h
  · unfold XRed at h
    obtain ⟨hssa, S, L, h1, hL, h2⟩ := h
    refine wp_region_any hm ?_
    have hw' : Rep E.G σ base w₀ { w with drawn := w.drawn + 1 } H := hw.later ⟨rfl, rfl, rfl, Nat.le_refl _, fun _ _ => rfl⟩
    refine xred_spec hE hc ops hssa (σ₀ := σ) (base := base) (w₀ := w₀) (lo := lo) ?_ ?_ ops.size (Array.replicate ops.size false) [] (by simp) (by simp) (fun p => ?_) h2 hf ho hlo (Sg.agree.refl _ _) hr hw'
    · rintro c a w ⟨_, _, _, ex, he, _⟩
      cases ex <;> cases he
    · rintro τ fr' H' a' w' k0 k3 k4 k5 k6 k7 k8
      obtain ⟨frc, Hc, ρ, k2, k1⟩ := hL _ _ k0
      replace k2 := k2 k7 k5 k8
      obtain ⟨q1, q2⟩ := k2.ok k7 k5
      exact ⟨τ.ren ρ, frc, Hc, .normal, rfl, ⟨rfl, h1 _ _ k1⟩, k3.trans (fun j hj => by simp only [Sg.ren, k2.low j hj]), k4.ren k2.blk k2.inj, q2, k6.ren k2.len k2.fr, q1, k2.lo⟩
    · rcases Nat.lt_or_ge p ops.size with hlt | hge
      · simp [hlt]
      · simp [Array.getElem?_eq_none (xs := Array.replicate ops.size false) (i := p) (by simpa using hge)]
  · exact drwF_ok hE hF hm cal hc Df id ops lo fr H K h hf ho hlo σ base w₀ w a hr hw

/-- A region whose orders are walked, by the states that may stand behind it. -/
theorem red_at {P : Program} {E : Env} {cal : Cal} {ops : Array Oper} {lo : Nat} {fr : List V} {H : List Blk} {K : List V → List Blk → Prop} {α : Type} (ds : List Nat) (J : α → Prop) (sel : α → List (Nat × V)) (Hs : α → List Blk) (hssa : ssaB ops = true)
    (rest : ∀ s, J s → havK ds 0 fr fun f₁ => setLK (sel s) f₁ fun f₂ => K f₂ (Hs s))
    (walk : xred P E cal ops.toList ops.size [] fr H fun fr' H' => ∃ s ρ, J s ∧ Next2 ρ ds lo fr (sel s) (Hs s) fr' H') : XRed P E cal ops lo fr H K := by
  unfold XRed
  refine ⟨hssa, fun frc Hc => ∃ s, J s ∧ frc = setL (sel s) (hav ds 0 fr) ∧ Hc = Hs s, _, ?_, ?_, walk⟩
  · rintro frc Hc ⟨s, hs, rfl, rfl⟩
    have := rest s hs
    rw [havK_iff, setLK_iff] at this
    exact this
  · rintro fr' H' ⟨s, ρ, h1, h2⟩
    exact ⟨_, _, ρ, fun _ _ _ => h2.seen, s, h1, rfl, rfl⟩

theorem wkF_refl : ∀ F : List V, wkF F F
  | [] => trivial
  | .any :: F => wkF_refl F
  | .w _ :: F => ⟨rfl, wkF_refl F⟩
  | .tup _ :: F => ⟨rfl, wkF_refl F⟩
theorem wkH_self : ∀ H : List Blk, wkH H H
  | [] => trivial
  | .gone :: H => wkH_self H
  | .own _ _ :: H => ⟨rfl, wkH_self H⟩
  | .ro _ :: H => ⟨rfl, wkH_self H⟩
  | .obj _ :: H => ⟨rfl, wkH_self H⟩
theorem bndF_of {n : Nat} : ∀ {F : List V}, (∀ x ∈ F, x.bnd n = true) → bndF n F = true
  | [], _ => rfl
  | x :: F, h => by simp only [bndF, h x (by simp), bndF_of fun y hy => h y (List.mem_cons_of_mem _ hy), Bool.and_self]
theorem bndH_of' {n : Nat} : ∀ {F : List Blk}, (∀ x ∈ F, x.bnd n = true) → bndH n F = true
  | [], _ => rfl
  | x :: F, h => by simp only [bndH, h x (by simp), bndH_of' fun y hy => h y (List.mem_cons_of_mem _ hy), Bool.and_self]
/-- What follows is walked behind each order. -/
theorem red_each {P : Program} {E : Env} {cal : Cal} {ops : Array Oper} {lo : Nat} {fr : List V} {H : List Blk} {K : List V → List Blk → Prop} (hssa : ssaB ops = true) (walk : xred P E cal ops.toList ops.size [] fr H K) : XRed P E cal ops lo fr H K := by
  unfold XRed
  refine ⟨hssa, K, K, fun _ _ h => h, fun fr' H' h => ⟨fr', H', id, fun hF hH hl => Seen.of_wk rfl (wkF_refl _) (wkH_self _) (bndF_of fun x hx => (hF.ok x hx).2) (bndH_of' fun b hb => hH.bnd b hb) hl, h⟩, walk⟩

/-- A function's walk, where regions are walked in few orders. -/
abbrev walkr (F : Fns) (n : Nat) (fn : Func) (ws : List W) (H : List Blk) (K : V → List Blk → Prop) : Prop := xfun Tryz.prog E0 (calF Tryz.prog E0 F (drwR Tryz.prog E0 F) n) (drwR Tryz.prog E0 F (calF Tryz.prog E0 F (drwR Tryz.prog E0 F) n)) fn ws H K
/-- A walk over these blocks, as what a call leaves. -/
theorem heap_liftr {F : Fns} (hF : FnsOk Tryz.prog F) {n : Nat} {f : FuncId} {fn : Func} (hf : Tryz.prog.funcs[f]? = some fn) {ws : List W} (hr : rngW ws) {P : V → List Blk → Prop} {H : List Blk} (hb : bndW H.length ws = true) (ho : HOk H)
    (h : walkr F n fn ws H P) {K : V → List Blk → Prop} (hK : ∀ x H', P x H' → K x H') (G : Glo) (σ : Sg) (base : Nat) (w₀ w : World) (hw : Rep G σ base w₀ w H) :
    Calls Tryz.prog f (ws.map (W.den σ)).toArray w (LeftG G σ base w₀ H.length K) := by
  have hw0 : Rep E0.G σ base w₀ w H := ⟨hw.below, hw.size, hw.blk, hw.sep, fun g ss hg => by cases hg⟩
  refine (xfun_spec E0_ok (calF_ok E0_ok hF (fun cal hc => drwR_ok E0_ok hF mixed cal hc) n) (drwR_ok E0_ok hF mixed _ (calF_ok E0_ok hF (fun cal hc => drwR_ok E0_ok hF mixed cal hc) n)) hf h hr hb ho σ base w₀ w hw0).mono ?_
  rintro e w' ⟨τ, x, H', v, rfl, h1, h2, h3, h4, h5, h6, h7⟩
  refine ⟨τ, x, H', v, rfl, h1, hK x H' h2, h3, ⟨h4.below, h4.size, h4.blk, h4.sep, fun g ss hg => ?_⟩, h5, h6, h7⟩
  obtain ⟨g1, g2, g3⟩ := hw.glo g ss hg
  refine ⟨g1, g2, fun i u hu => ?_⟩
  have hu' : (dens σ ss)[i]? = some u := by
    rw [dens_agree (n := 0) (τ := τ) (fun j hj => absurd hj (Nat.not_lt_zero j)) ss g2]; exact hu
  have := g3 i u hu'
  rw [cell_eq_of_block (w := w) (w' := w')]
  · exact this
  · show w'.heap[g]? = w.heap[g]?
    rw [h4.below.block g g1, hw.below.block g g1]
end Go.Proofs.YtaficaacogcblaaGreatDoor
