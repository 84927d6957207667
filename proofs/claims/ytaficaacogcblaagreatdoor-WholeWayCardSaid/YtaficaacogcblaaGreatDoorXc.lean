/- Operations that leave memory as it is: their abstract steps, and that the model's own steps come to the same. -/
import Derived.Test.YtaficaacogcblaaGreatDoorXb
set_option linter.all false
namespace Go.Proofs.YtaficaacogcblaaGreatDoor
open Go.RowKit (Below)
variable {Df : List Deferred}

/-! ### types -/
inductive Ty where
  | int (k : IntKind) | bool | str | ptr (e : TypeId) | func | slice (e : TypeId) | arr (n : Nat) (e : TypeId) | st (fs : List (Nat × TypeId)) | map (k e : TypeId) | iface | other

def tyD : TypeDesc → Ty
  | .int k => .int k
  | .bool => .bool
  | .string => .str
  | .pointer e => .ptr e
  | .func _ _ _ => .func
  | .slice e => .slice e
  | .array n e => .arr n e
  | .struct fs => .st (fs.toList.map fun f => (f.offset, f.type))
  | .map k e => .map k e
  | .interface _ => .iface
  | _ => .other
def tyOf (P : Program) (t : TypeId) : Ty := match P.underlying t with | some d => tyD d | none => .other

theorem tyOf_arr {P : Program} {t : TypeId} {n : Nat} {e : TypeId} (h : tyOf P t = .arr n e) : P.underlying t = some (.array n e) := by
  unfold tyOf at h
  cases hu : P.underlying t with
  | none => rw [hu] at h; cases h
  | some d => rw [hu] at h; cases d <;> simp [tyD] at h; simp [h]
theorem tyOf_slice {P : Program} {t : TypeId} {e : TypeId} (h : tyOf P t = .slice e) : P.underlying t = some (.slice e) := by
  unfold tyOf at h
  cases hu : P.underlying t with
  | none => rw [hu] at h; cases h
  | some d => rw [hu] at h; cases d <;> simp [tyD] at h; simp [h]
theorem tyOf_ptr {P : Program} {t : TypeId} {e : TypeId} (h : tyOf P t = .ptr e) : P.underlying t = some (.pointer e) := by
  unfold tyOf at h
  cases hu : P.underlying t with
  | none => rw [hu] at h; cases h
  | some d => rw [hu] at h; cases d <;> simp [tyD] at h; simp [h]
theorem tyOf_int {P : Program} {t : TypeId} {k : IntKind} (h : tyOf P t = .int k) : P.underlying t = some (.int k) := by
  unfold tyOf at h
  cases hu : P.underlying t with
  | none => rw [hu] at h; cases h
  | some d => rw [hu] at h; cases d <;> simp [tyD] at h; simp [h]
theorem tyOf_str {P : Program} {t : TypeId} (h : tyOf P t = .str) : P.underlying t = some .string := by
  unfold tyOf at h
  cases hu : P.underlying t with
  | none => rw [hu] at h; cases h
  | some d => rw [hu] at h; cases d <;> simp [tyD] at h; rfl
theorem tyOf_st {P : Program} {t : TypeId} {fs : List (Nat × TypeId)} (h : tyOf P t = .st fs) : ∃ F : Array Field, P.underlying t = some (.struct F) ∧ fs = F.toList.map fun f => (f.offset, f.type) := by
  unfold tyOf at h
  cases hu : P.underlying t with
  | none => rw [hu] at h; cases h
  | some d => rw [hu] at h; cases d <;> simp [tyD] at h; exact ⟨_, rfl, h.symm⟩

theorem run_und {P : Program} {t : TypeId} {d : TypeDesc} (w : World) (h : P.underlying t = some d) : (underlying t).run P w = .ok d w := by
  simp [underlying, h]
theorem run_sizeOf {P : Program} {t : TypeId} {i : TypeInfo} (w : World) (h : P.info? t = some i) : (sizeOf t).run P w = .ok i.size w := by
  simp [sizeOf, typeInfo, h]
theorem run_typeInfo {P : Program} {t : TypeId} {i : TypeInfo} (w : World) (h : P.info? t = some i) : (typeInfo t).run P w = .ok i w := by
  simp [typeInfo, h]
theorem run_zero {P : Program} {t : TypeId} {i : TypeInfo} {v : Value} (w : World) (h : P.info? t = some i) (hz : i.zero = some v) : (zeroValue t).run P w = .ok v w := by
  simp [zeroValue, typeInfo, h, hz]

/-- Is it an array or a struct? -/
def isAg : Ty → Option Bool
  | .arr _ _ => some true
  | .st _ => some true
  | .other => none
  | _ => some false
theorem run_isAgg {P : Program} {t : TypeId} {b : Bool} (w : World) (h : isAg (tyOf P t) = some b) : (isAgg t).run P w = .ok b w := by
  unfold tyOf at h
  cases hu : P.underlying t with
  | none => rw [hu] at h; cases h
  | some d => rw [hu] at h; cases d <;> simp [tyD, isAg] at h <;> subst h <;> simp [isAgg, run_und w hu]

/-! ### operands -/
def getK : List V → Nat → (V → Prop) → Prop
  | [], _, K => K .any
  | x :: _, 0, K => K x
  | _ :: xs, n + 1, K => getK xs n K
theorem getK_iff : ∀ (fr : List V) (n : Nat) (K : V → Prop), getK fr n K ↔ K (fr.getD n .any)
  | [], _, _ => by simp [getK]
  | _ :: _, 0, _ => by simp [getK]
  | _ :: xs, n + 1, K => by simp [getK, getK_iff xs n K]

def leI (a b : Int) : Bool := decide (a ≤ b)
def constC : Value → Option C
  | .bool t => some (.cb t)
  | .int k n => match leI (lowK k) n, leI n (highK k) with
    | true, true => some (.ci k n)
    | _, _ => none
  | .string s => match Nat.ble s.size 9223372036854775807 with
    | true => some (.cs s)
    | false => none
  | .pointer none => some .cnil
  | .slice none 0 0 => some .csn
  | .nilIface => some (.cv .nilIface)
  | .nilFunc => some (.cv .nilFunc)
  | .map none => some (.cv (.map none))
  | _ => none
theorem constC_spec {v : Value} {c : C} (h : constC v = some c) : c.rng ∧ c.bnd 0 = true ∧ ∀ σ, c.den σ = v := by
  unfold constC at h
  split at h <;> try (cases h; exact ⟨trivial, rfl, fun _ => rfl⟩)
  · split at h
    · rename_i h1 h2
      cases h
      exact ⟨⟨of_decide_eq_true h1, of_decide_eq_true h2⟩, rfl, fun _ => rfl⟩
    · cases h
  · split at h
    · rename_i h1
      cases h
      exact ⟨Nat.le_of_ble_eq_true h1, rfl, fun _ => rfl⟩
    · cases h
  · cases h

def evK (fr : List V) (x : Operand) (K : V → Prop) : Prop :=
  match x with
  | .tmp t => getK fr t K
  | .const v => match constC v with
    | some c => K (.w (.c c))
    | none => match v with
      | .tuple ⟨[]⟩ => K undefV
      | _ => K .any
  | .global g => K (.w (.c (.cg g 0)))
  | .func f => K (.w (.c (.cf f [])))

theorem evK_spec {n : Nat} {fr : List V} (hf : FOk n fr) {x : Operand} {K : V → Prop} (h : evK fr x K) : ∃ v : V, v.ok n ∧ K v ∧ ∀ {Df : List Deferred} σ a, FRep Df σ a fr → v.rep σ (a.eval x) := by
  cases x with
  | tmp t =>
    have h' := (getK_iff fr t K).1 h
    refine ⟨_, ?_, h', fun σ a hr => ?_⟩
    · rcases Nat.lt_or_ge t fr.length with hlt | hge
      · rw [List.getD_eq_getElem?_getD, List.getElem?_eq_getElem hlt]
        exact hf.ok _ (List.getElem_mem hlt)
      · rw [List.getD_eq_getElem?_getD, List.getElem?_eq_none hge]
        exact ⟨trivial, rfl⟩
    · rcases Nat.lt_or_ge t fr.length with hlt | hge
      · have := hr.rep t fr[t] (List.getElem?_eq_getElem hlt)
        rw [List.getD_eq_getElem?_getD, List.getElem?_eq_getElem hlt]
        exact this
      · rw [List.getD_eq_getElem?_getD, List.getElem?_eq_none hge]
        trivial
  | const v =>
    simp only [evK] at h
    cases hc : constC v with
    | some c =>
      rw [hc] at h
      obtain ⟨h1, h2, h3⟩ := constC_spec hc
      exact ⟨.w (.c c), ⟨h1, C.bnd_mono (Nat.zero_le _) c h2⟩, h, fun σ a _ => (h3 σ).symm⟩
    | none =>
      rw [hc] at h
      simp only at h
      split at h
      · exact ⟨undefV, ⟨trivial, rfl⟩, h, fun σ a _ => undefV_rep σ⟩
      · exact ⟨.any, ⟨trivial, rfl⟩, h, fun σ a _ => trivial⟩
  | global g => exact ⟨.w (.c (.cg g 0)), ⟨trivial, rfl⟩, h, fun σ a _ => rfl⟩
  | func f => exact ⟨.w (.c (.cf f [])), ⟨trivial, rfl⟩, h, fun σ a _ => rfl⟩

/-- A one-cell operand. -/
def evC (fr : List V) (x : Operand) (K : C → Prop) : Prop :=
  evK fr x fun v => match v with
    | .w (.c c) => K c
    | _ => False
theorem evC_spec {n : Nat} {fr : List V} (hf : FOk n fr) {x : Operand} {K : C → Prop} (h : evC fr x K) : ∃ c : C, c.rng ∧ c.bnd n = true ∧ K c ∧ ∀ {Df : List Deferred} σ a, FRep Df σ a fr → a.eval x = c.den σ := by
  obtain ⟨v, h1, h2, h3⟩ := evK_spec hf h
  split at h2
  · exact ⟨_, h1.1, h1.2, h2, h3⟩
  · exact h2.elim
/-- An operand of a cell, or of a row of them. -/
def evW (fr : List V) (x : Operand) (K : W → Prop) : Prop :=
  evK fr x fun v => match v with
    | .w c => K c
    | _ => False
theorem evW_spec {n : Nat} {fr : List V} (hf : FOk n fr) {x : Operand} {K : W → Prop} (h : evW fr x K) : ∃ c : W, c.rng ∧ c.bnd n = true ∧ K c ∧ ∀ {Df : List Deferred} σ a, FRep Df σ a fr → a.eval x = c.den σ := by
  obtain ⟨v, h1, h2, h3⟩ := evK_spec hf h
  split at h2
  · exact ⟨_, h1.1, h1.2, h2, h3⟩
  · exact h2.elim
/-- Several. -/
def evWs (fr : List V) : List Operand → (List W → Prop) → Prop
  | [], K => K []
  | x :: xs, K => evW fr x fun c => evWs fr xs fun cs => K (c :: cs)
theorem evWs_spec {n : Nat} {fr : List V} (hf : FOk n fr) : ∀ {xs : List Operand} {K : List W → Prop}, evWs fr xs K → ∃ cs : List W, rngW cs ∧ bndW n cs = true ∧ K cs ∧ ∀ {Df : List Deferred} σ a, FRep Df σ a fr → xs.map a.eval = cs.map (W.den σ)
  | [], K, h => ⟨[], trivial, rfl, h, fun _ _ _ => rfl⟩
  | x :: xs, K, h => by
    obtain ⟨c, h1, h2, h3, h4⟩ := evW_spec hf h
    obtain ⟨cs, k1, k2, k3, k4⟩ := evWs_spec hf h3
    refine ⟨c :: cs, ⟨h1, k1⟩, by simp only [bndW, h2, k2, Bool.and_self], k3, fun σ a hr => ?_⟩
    simp only [List.map_cons, h4 σ a hr, k4 σ a hr]

/-! ### reading memory -/
def hGet : List Blk → Nat → (Blk → Prop) → Prop
  | [], _, _ => False
  | b :: _, 0, K => K b
  | _ :: H, n + 1, K => hGet H n K
theorem hGet_spec : ∀ {H : List Blk} {n : Nat} {K : Blk → Prop}, hGet H n K → ∃ b, H[n]? = some b ∧ K b
  | [], _, _, h => h.elim
  | b :: _, 0, _, h => ⟨b, rfl, h⟩
  | _ :: H, n + 1, _, h => by obtain ⟨b, h1, h2⟩ := hGet_spec (H := H) h; exact ⟨b, by simpa using h1, h2⟩

def Addr.of (σ : Sg) : C → Addr
  | .cp j o => σ.at j o
  | .cpi j o i => σ.at j (o + i)
  | .cg g o => ⟨g, o, none⟩
  | .cgi g o i => ⟨g, o + i, none⟩
  | _ => ⟨0, 0, none⟩

/-- Where a pointer leads: the cells there, the literal place, the reckoned one. -/
def lookA (G : Glo) (H : List Blk) (c : C) (K : List Seg → Nat → Option Nat → Prop) : Prop :=
  match c with
  | .cp j o => hGet H j fun b => match b with
    | .own _ ss => K ss o none
    | .ro ss => K ss o none
    | _ => False
  | .cpi j o i => hGet H j fun b => match b with
    | .own _ ss => K ss o (some i)
    | .ro ss => K ss o (some i)
    | _ => False
  | .cg g o => match G g with
    | some ss => K ss o none
    | none => False
  | .cgi g o i => match G g with
    | some ss => K ss o (some i)
    | none => False
  | _ => False

/-- What is readable at an address. -/
structure Reads (w : World) (a : Addr) (cs : List Value) : Prop where
  spot : a.spot = none
  cell : ∀ i v, cs[i]? = some v → w.cell? ⟨a.block, a.off + i, none⟩ = some v

theorem rep_reads {G : Glo} {σ : Sg} {base : Nat} {w₀ w : World} {H : List Blk} (h : Rep G σ base w₀ w H) {j : Nat} {ss : List Seg}
    (hj : (∃ T, H[j]? = some (.own T ss)) ∨ H[j]? = some (.ro ss)) (o : Nat) : Reads w (σ.at j o) ((dens σ ss).drop o) := by
  refine ⟨rfl, fun i v hv => ?_⟩
  rw [List.getElem?_drop] at hv
  rcases hj with ⟨T, hj⟩ | hj
  · obtain ⟨h1, _, h3⟩ := h.blk j _ hj
    simp only [Sg.at, World.cell?, h3]
    simpa [h1] using hv
  · have := (h.blk j _ hj).2 (o + i) v hv
    simpa [Sg.at, Nat.add_assoc] using this

theorem glo_reads {G : Glo} {σ : Sg} {base : Nat} {w₀ w : World} {H : List Blk} (h : Rep G σ base w₀ w H) {g : Nat} {ss : List Seg} (hg : G g = some ss) (o : Nat) : Reads w ⟨g, o, none⟩ ((dens σ ss).drop o) := by
  refine ⟨rfl, fun i v hv => ?_⟩
  rw [List.getElem?_drop] at hv
  exact (h.glo g ss hg).2.2 (o + i) v hv

structure GOk (G : Glo) : Prop where
  rng : ∀ g ss, G g = some ss → rngs ss ∧ bnds 0 ss = true

theorem lookA_spec {G : Glo} (hG : GOk G) {H : List Blk} (ho : HOk H) {c : C} {K : List Seg → Nat → Option Nat → Prop} (h : lookA G H c K) :
    ∃ ss o i, K ss o i ∧ rngs ss ∧ bnds H.length ss = true ∧ (∀ σ, c.den σ = .pointer (some (Addr.of σ c))) ∧ ∀ σ base w₀ w, Rep G σ base w₀ w H → Reads w (Addr.of σ c) ((dens σ ss).drop (o + i.getD 0)) := by
  cases c with
  | cp j o =>
    obtain ⟨b, h1, h2⟩ := hGet_spec h
    cases b with
    | own T ss => exact ⟨ss, o, none, h2, ho.rng _ (List.mem_of_getElem? h1), ho.bnd _ (List.mem_of_getElem? h1), fun _ => rfl, fun σ base w₀ w hr => rep_reads hr (.inl ⟨T, h1⟩) o⟩
    | ro ss => exact ⟨ss, o, none, h2, ho.rng _ (List.mem_of_getElem? h1), ho.bnd _ (List.mem_of_getElem? h1), fun _ => rfl, fun σ base w₀ w hr => rep_reads hr (.inr h1) o⟩
    | _ => exact h2.elim
  | cpi j o i =>
    obtain ⟨b, h1, h2⟩ := hGet_spec h
    cases b with
    | own T ss => exact ⟨ss, o, some i, h2, ho.rng _ (List.mem_of_getElem? h1), ho.bnd _ (List.mem_of_getElem? h1), fun _ => rfl, fun σ base w₀ w hr => rep_reads hr (.inl ⟨T, h1⟩) (o + i)⟩
    | ro ss => exact ⟨ss, o, some i, h2, ho.rng _ (List.mem_of_getElem? h1), ho.bnd _ (List.mem_of_getElem? h1), fun _ => rfl, fun σ base w₀ w hr => rep_reads hr (.inr h1) (o + i)⟩
    | _ => exact h2.elim
  | cg g o =>
    simp only [lookA] at h
    cases hg : G g with
    | none => rw [hg] at h; exact h.elim
    | some ss =>
      rw [hg] at h
      obtain ⟨h1, h2⟩ := hG.rng g ss hg
      exact ⟨ss, o, none, h, h1, bnds_mono (Nat.zero_le _) ss h2, fun _ => rfl, fun σ base w₀ w hr => glo_reads hr hg o⟩
  | cgi g o i =>
    simp only [lookA] at h
    cases hg : G g with
    | none => rw [hg] at h; exact h.elim
    | some ss =>
      rw [hg] at h
      obtain ⟨h1, h2⟩ := hG.rng g ss hg
      exact ⟨ss, o, some i, h, h1, bnds_mono (Nat.zero_le _) ss h2, fun _ => rfl, fun σ base w₀ w hr => glo_reads hr hg (o + i)⟩
  | _ => exact h.elim

/-- Does a single cell stand there? -/
def oneAt : List Seg → Nat → Bool
  | [], _ => false
  | .one _ :: ss, o => match o with | 0 => true | o + 1 => oneAt ss o
  | .ints _ m _ :: ss, o => match o with
    | 0 => false
    | o + 1 => match Nat.ble m (o + 1) with
      | true => oneAt ss (o + 1 - m)
      | false => false
/-- A variable of type T, at a place in cells. -/
def kLoad0 (P : Program) (T : TypeId) (ss : List Seg) (o : Nat) (i : Option Nat) (K : W → Prop) : Prop :=
  match isAg (tyOf P T), i with
  | some true, none => match P.info? T with
    | some inf => segRd ss o inf.size fun r => K (.agg r)
    | none => False
  | some true, some i => match P.info? T with
    | some inf => segIx ss o fun k m xs => i + inf.size ≤ m ∧ K (.agg [.ints k inf.size ((xs.drop i).take inf.size)])
    | none => False
  | some false, none => segAt ss o fun c => K (.c c)
  | some false, some i => segIx ss o fun k m xs => i < m ∧ (InK k (xs.getD i 0) → K (.c (.ci k (xs.getD i 0))))
  | none, _ => False

def kLoad (P : Program) (T : TypeId) (ss : List Seg) (o : Nat) (i : Option Nat) (K : W → Prop) : Prop :=
  match i with
  | none => kLoad0 P T ss o none K
  | some i => match oneAt ss o with
    | true => kLoad0 P T ss (o + i) none K
    | false => kLoad0 P T ss o (some i) K

theorem add_ne {a : Addr} (h : a.spot = none) (j : Nat) : a.add j = ⟨a.block, a.off + j, none⟩ := by
  unfold Addr.add
  split
  · subst_vars; cases a; simp_all
  · rfl

theorem kLoad0_spec {P : Program} {T : TypeId} {ss : List Seg} {o : Nat} {i : Option Nat} {K : W → Prop} (h : kLoad0 P T ss o i K) (hr : rngs ss) {n : Nat} (hb : bnds n ss = true) :
    ∃ x : W, x.rng ∧ x.bnd n = true ∧ K x ∧ ∀ σ w a, Reads w a ((dens σ ss).drop (o + i.getD 0)) → (loadVar T a).run P w = .ok (x.den σ) w := by
  unfold kLoad0 at h
  cases hag : isAg (tyOf P T) with
  | none => rw [hag] at h; exact h.elim
  | some b =>
    rw [hag] at h
    cases b with
    | true =>
      cases hi : P.info? T with
      | none => rw [hi] at h; cases i <;> exact h.elim
      | some inf =>
        rw [hi] at h
        have fin : ∀ (σ : Sg) (w : World) (a : Addr) (cs r : List Value), Reads w a cs → r = cs.take inf.size → inf.size ≤ cs.length → (loadVar T a).run P w = .ok (.agg r.toArray) w := fun σ w a cs r hrd e hle => by
          have hl : r.length = inf.size := by rw [e]; simp; omega
          have := run_loadCells_list (P := P) w a r (fun j v hv => by
            rw [add_ne hrd.spot]
            refine hrd.cell j v ?_
            rw [e, List.getElem?_take] at hv
            split at hv
            · exact hv
            · cases hv)
          rw [hl] at this
          simp [loadVar, run_isAgg w hag, run_sizeOf w hi, this]
        cases i with
        | none =>
          simp only at h
          obtain ⟨r, h1, h2, h3, h4, h5⟩ := segRd_spec h hr
          refine ⟨.agg r, h2, h3 n hb, h1, fun σ w a hrd => ?_⟩
          rw [Option.getD_none, Nat.add_zero] at hrd
          exact fin σ w a _ _ hrd (h5 σ) (by rw [List.length_drop, dens_len σ hr]; omega)
        | some i =>
          simp only at h
          obtain ⟨k, m, xs, h1, h2, h3, h4⟩ := segIx_spec h hr
          have hl := h2.1
          refine ⟨.agg [.ints k inf.size ((xs.drop i).take inf.size)], ⟨⟨by simp; omega, fun x hx => h2.2 x (List.mem_of_mem_drop (List.mem_of_mem_take hx))⟩, trivial⟩, rfl, h1.2, fun σ w a hrd => ?_⟩
          rw [Option.getD_some] at hrd
          refine fin σ w a _ _ hrd ?_ (by rw [List.length_drop, dens_len σ hr]; omega)
          simp only [dens, Seg.den, List.append_nil]
          apply List.ext_getElem?
          intro q
          rcases Nat.lt_or_ge q inf.size with hq | hq
          · have := h4 σ (i + q) (by omega)
            rw [List.getElem?_take, if_pos hq, List.getElem?_drop, show o + i + q = o + (i + q) by omega, this]
            have hlt : i + q < xs.length := by omega
            simp [hq, List.getD_eq_getElem?_getD, hlt]
          · rw [List.getElem?_eq_none (by simp; omega), List.getElem?_eq_none (by simp; omega)]
    | false =>
      have fin : ∀ (w : World) (a : Addr) (cs : List Value) (v : Value), Reads w a cs → cs[0]? = some v → (loadVar T a).run P w = .ok v w := fun w a cs v hrd hv => by
        have := hrd.cell 0 v hv
        have e : (⟨a.block, a.off + 0, none⟩ : Addr) = a := by have := hrd.spot; cases a; simp_all
        rw [e] at this
        simp [loadVar, run_isAgg w hag, this]
      cases i with
      | none =>
        simp only at h
        obtain ⟨c, h1, h2, h3, h4, h5⟩ := segAt_spec h hr
        refine ⟨.c c, h2, h3 n hb, h1, fun σ w a hrd => ?_⟩
        exact fin w a _ _ hrd (by rw [List.getElem?_drop]; exact h5 σ)
      | some i =>
        simp only at h
        obtain ⟨k, m, xs, h1, h2, h3, h4⟩ := segIx_spec h hr
        have hin := getD_in h2 h1.1
        refine ⟨.c (.ci k (xs.getD i 0)), hin, rfl, h1.2 hin, fun σ w a hrd => ?_⟩
        exact fin w a _ _ hrd (by rw [List.getElem?_drop]; exact h4 σ i h1.1)
theorem kLoad_spec {P : Program} {T : TypeId} {ss : List Seg} {o : Nat} {i : Option Nat} {K : W → Prop} (h : kLoad P T ss o i K) (hr : rngs ss) {n : Nat} (hb : bnds n ss = true) :
    ∃ x : W, x.rng ∧ x.bnd n = true ∧ K x ∧ ∀ σ w a, Reads w a ((dens σ ss).drop (o + i.getD 0)) → (loadVar T a).run P w = .ok (x.den σ) w := by
  unfold kLoad at h
  split at h
  · exact kLoad0_spec h hr hb
  · rename_i i
    split at h
    · have := kLoad0_spec h hr hb
      simpa using this
    · exact kLoad0_spec h hr hb

end Go.Proofs.YtaficaacogcblaaGreatDoor
