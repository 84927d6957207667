/- A small calculus of weakest preconditions over abstract frames and abstract heaps: its words: cells, segments, values, blocks, and what it is for them to stand for a frame and a world of the model. -/
import Derived.WalkKit
import Derived.Deep.Quiet
import Derived.Below
set_option linter.all false
namespace Go.Proofs.YtaficaacogcblaaGreatDoor
open Go.RowKit (Below)
variable {Df : List Deferred}

/-- One cell's value. Blocks are named by small numbers. -/
inductive C where
  | cb (t : Bool) | ci (k : IntKind) (n : Int) | cs (x : ByteArray)
  | cp (j o : Nat) | cpi (j o i : Nat) | cnil | cg (g o : Nat) | cgi (g o i : Nat)
  | csl (j o i len cap : Nat) | csn
  | cm (j : Nat)
  | cf (f : FuncId) (caps : List C)
  | cv (x : Value)
  | cmv (f : FuncId) (j o : Nat)

abbrev Sg := Nat → Nat × Nat

def Sg.at (σ : Sg) (j o : Nat) : Addr := ⟨(σ j).1, (σ j).2 + o, none⟩

mutual
def C.den (σ : Sg) : C → Value
  | .cb t => .bool t
  | .ci k n => .int k n
  | .cs x => .string x
  | .cp j o => .pointer (some (σ.at j o))
  | .cpi j o i => .pointer (some (σ.at j (o + i)))
  | .cnil => .pointer none
  | .cg g o => .pointer (some ⟨g, o, none⟩)
  | .cgi g o i => .pointer (some ⟨g, o + i, none⟩)
  | .csl j o i len cap => .slice (some (σ.at j (o + i))) len cap
  | .csn => .slice none 0 0
  | .cm j => .map (some (σ j).1)
  | .cf f caps => .func (.func f) #[] (C.denL σ caps).toArray
  | .cmv f j o => .func (.func f) #[.pointer (some (σ.at j o))] #[]
  | .cv x => x
def C.denL (σ : Sg) : List C → List Value
  | [] => []
  | c :: l => c.den σ :: C.denL σ l
end

def lowK : IntKind → Int
  | .i8 => -128 | .i16 => -32768 | .i32 => -2147483648 | .i64 => -9223372036854775808 | _ => 0
def highK : IntKind → Int
  | .i8 => 127 | .i16 => 32767 | .i32 => 2147483647 | .i64 => 9223372036854775807
  | .u8 => 255 | .u16 => 65535 | .u32 => 4294967295 | .u64 => 18446744073709551615
/-- A number of that kind. -/
def InK (k : IntKind) (n : Int) : Prop := lowK k ≤ n ∧ n ≤ highK k
theorem inK_wrap (k : IntKind) (n : Int) : InK k (k.wrap n) := by
  cases k <;> simp [InK, lowK, highK, IntKind.wrap, IntKind.bits, IntKind.signed] <;> (try split) <;> omega
theorem wrap_of_in {k : IntKind} {n : Int} (h : InK k n) : k.wrap n = n := by
  cases k <;> simp [InK, lowK, highK, IntKind.wrap, IntKind.bits, IntKind.signed] at * <;> (try split) <;> omega

def plainV : Value → Prop
  | .agg _ => False
  | .tuple _ => False
  | _ => True

mutual
/-- Its numbers are of their kinds. -/
def C.rng : C → Prop
  | .ci k n => InK k n
  | .cs x => x.size ≤ 9223372036854775807
  | .csl _ _ _ len cap => len ≤ cap ∧ cap ≤ 9223372036854775807
  | .cf _ caps => C.rngL caps
  | .cv x => plainV x
  | _ => True
def C.rngL : List C → Prop
  | [] => True
  | c :: l => c.rng ∧ C.rngL l
end

mutual
/-- It names blocks below n alone. -/
def C.bnd (n : Nat) : C → Bool
  | .cp j _ => decide (j < n)
  | .cpi j _ _ => decide (j < n)
  | .csl j _ _ _ _ => decide (j < n)
  | .cm j => decide (j < n)
  | .cf _ caps => C.bndL n caps
  | .cmv _ j _ => decide (j < n)
  | _ => true
def C.bndL (n : Nat) : List C → Bool
  | [] => true
  | c :: l => c.bnd n && C.bndL n l
end

inductive Seg where
  | one (c : C)
  | ints (k : IntKind) (n : Nat) (xs : List Int)

def Seg.len : Seg → Nat
  | .one _ => 1
  | .ints _ n _ => n
def Seg.den (σ : Sg) : Seg → List Value
  | .one c => [c.den σ]
  | .ints k _ xs => xs.map (.int k)
def Seg.rng : Seg → Prop
  | .one c => c.rng
  | .ints k n xs => xs.length = n ∧ ∀ x ∈ xs, InK k x
def Seg.bnd (n : Nat) : Seg → Bool
  | .one c => c.bnd n
  | .ints _ _ _ => true

def dens (σ : Sg) : List Seg → List Value
  | [] => []
  | s :: ss => s.den σ ++ dens σ ss
def rngs : List Seg → Prop
  | [] => True
  | s :: ss => s.rng ∧ rngs ss
def bnds (n : Nat) : List Seg → Bool
  | [] => true
  | s :: ss => s.bnd n && bnds n ss

inductive W where
  | c (x : C)
  | agg (ss : List Seg)

def W.den (σ : Sg) : W → Value
  | .c x => x.den σ
  | .agg ss => .agg (dens σ ss).toArray
def W.rng : W → Prop
  | .c x => x.rng
  | .agg ss => rngs ss
def W.bnd (n : Nat) : W → Bool
  | .c x => x.bnd n
  | .agg ss => bnds n ss
/-- Its cells. -/
def W.segs : W → List Seg
  | .c x => [.one x]
  | .agg ss => ss

inductive V where
  | w (x : W)
  | tup (ws : List W)
  | any

def rngW : List W → Prop
  | [] => True
  | x :: xs => x.rng ∧ rngW xs
def bndW (n : Nat) : List W → Bool
  | [] => true
  | x :: xs => x.bnd n && bndW n xs

def V.rng : V → Prop
  | .w x => x.rng
  | .tup ws => rngW ws
  | .any => True
def V.bnd (n : Nat) : V → Bool
  | .w x => x.bnd n
  | .tup ws => bndW n ws
  | .any => true
/-- It stands for this value. -/
def V.rep (σ : Sg) : V → Value → Prop
  | .w x, v => v = x.den σ
  | .tup ws, v => v = .tuple (ws.map (W.den σ)).toArray
  | .any, _ => True

def undefV : V := .tup []
theorem undefV_rep (σ : Sg) : undefV.rep σ undef := rfl

def V.ok (n : Nat) (v : V) : Prop := v.rng ∧ v.bnd n = true

/-! ### what hangs on the naming of blocks -/

def Sg.agree (n : Nat) (σ τ : Sg) : Prop := ∀ j, j < n → σ j = τ j
theorem Sg.agree.at {n : Nat} {σ τ : Sg} (h : Sg.agree n σ τ) {j o : Nat} (hj : j < n) : σ.at j o = τ.at j o := by
  simp only [Sg.at, h j hj]
theorem Sg.agree.refl (n : Nat) (σ : Sg) : Sg.agree n σ σ := fun _ _ => rfl
theorem Sg.agree.trans {n : Nat} {a b c : Sg} (h : Sg.agree n a b) (k : Sg.agree n b c) : Sg.agree n a c := fun j hj => (h j hj).trans (k j hj)
theorem Sg.agree.mono {n m : Nat} {a b : Sg} (h : Sg.agree n a b) (hm : m ≤ n) : Sg.agree m a b := fun j hj => h j (Nat.lt_of_lt_of_le hj hm)

mutual
theorem C.den_agree {n : Nat} {σ τ : Sg} (h : Sg.agree n σ τ) : (c : C) → c.bnd n = true → c.den σ = c.den τ
  | .cb _, _ | .ci _ _, _ | .cs _, _ | .cnil, _ | .cg _ _, _ | .cgi _ _ _, _ | .csn, _ | .cv _, _ => rfl
  | .cp j o, hb => by simp only [C.den, h.at (of_decide_eq_true hb)]
  | .cpi j o i, hb => by simp only [C.den, h.at (of_decide_eq_true hb)]
  | .csl j o i l c, hb => by simp only [C.den, h.at (of_decide_eq_true hb)]
  | .cm j, hb => by simp only [C.den, h j (of_decide_eq_true hb)]
  | .cf f caps, hb => by simp only [C.den, C.denL_agree h caps hb]
  | .cmv f j o, hb => by simp only [C.den, h.at (of_decide_eq_true hb)]
theorem C.denL_agree {n : Nat} {σ τ : Sg} (h : Sg.agree n σ τ) : (l : List C) → C.bndL n l = true → C.denL σ l = C.denL τ l
  | [], _ => rfl
  | c :: l, hb => by
    simp only [C.bndL, Bool.and_eq_true] at hb
    simp only [C.denL, C.den_agree h c hb.1, C.denL_agree h l hb.2]
end

mutual
theorem C.bnd_mono {n m : Nat} (h : n ≤ m) : (c : C) → c.bnd n = true → c.bnd m = true
  | .cb _, _ | .ci _ _, _ | .cs _, _ | .cnil, _ | .cg _ _, _ | .cgi _ _ _, _ | .csn, _ | .cv _, _ => rfl
  | .cp j o, hb => decide_eq_true (Nat.lt_of_lt_of_le (of_decide_eq_true hb) h)
  | .cpi j o i, hb => decide_eq_true (Nat.lt_of_lt_of_le (of_decide_eq_true hb) h)
  | .csl j o i l c, hb => decide_eq_true (Nat.lt_of_lt_of_le (of_decide_eq_true hb) h)
  | .cm j, hb => decide_eq_true (Nat.lt_of_lt_of_le (of_decide_eq_true hb) h)
  | .cf f caps, hb => C.bndL_mono h caps hb
  | .cmv _ j o, hb => decide_eq_true (Nat.lt_of_lt_of_le (of_decide_eq_true hb) h)
theorem C.bndL_mono {n m : Nat} (h : n ≤ m) : (l : List C) → C.bndL n l = true → C.bndL m l = true
  | [], _ => by simp only [C.bndL]
  | c :: l, hb => by
    simp only [C.bndL, Bool.and_eq_true] at hb ⊢
    exact ⟨C.bnd_mono h c hb.1, C.bndL_mono h l hb.2⟩
end

theorem dens_agree {n : Nat} {σ τ : Sg} (h : Sg.agree n σ τ) : (ss : List Seg) → bnds n ss = true → dens σ ss = dens τ ss
  | [], _ => rfl
  | .one c :: ss, hb => by
    simp only [bnds, Seg.bnd, Bool.and_eq_true] at hb
    simp only [dens, Seg.den, C.den_agree h c hb.1, dens_agree h ss hb.2]
  | .ints k m xs :: ss, hb => by
    simp only [bnds, Seg.bnd, Bool.and_eq_true] at hb
    simp only [dens, Seg.den, dens_agree h ss hb.2]
theorem bnds_mono {n m : Nat} (h : n ≤ m) : (ss : List Seg) → bnds n ss = true → bnds m ss = true
  | [], _ => rfl
  | .one c :: ss, hb => by
    simp only [bnds, Seg.bnd, Bool.and_eq_true] at hb ⊢
    exact ⟨C.bnd_mono h c hb.1, bnds_mono h ss hb.2⟩
  | .ints k _ xs :: ss, hb => by
    simp only [bnds, Seg.bnd, Bool.and_eq_true] at hb ⊢
    exact ⟨trivial, bnds_mono h ss hb.2⟩

theorem W.den_agree {n : Nat} {σ τ : Sg} (h : Sg.agree n σ τ) (x : W) (hb : x.bnd n = true) : x.den σ = x.den τ := by
  cases x with
  | c x => exact C.den_agree h x hb
  | agg ss => simp only [W.den, dens_agree h ss hb]
theorem W.bnd_mono {n m : Nat} (h : n ≤ m) (x : W) (hb : x.bnd n = true) : x.bnd m = true := by
  cases x with
  | c x => exact C.bnd_mono h x hb
  | agg ss => exact bnds_mono h ss hb
theorem denW_agree {n : Nat} {σ τ : Sg} (h : Sg.agree n σ τ) : (ws : List W) → bndW n ws = true → ws.map (W.den σ) = ws.map (W.den τ)
  | [], _ => rfl
  | x :: ws, hb => by
    simp only [bndW, Bool.and_eq_true] at hb
    simp only [List.map_cons, W.den_agree h x hb.1, denW_agree h ws hb.2]
theorem bndW_mono {n m : Nat} (h : n ≤ m) : (ws : List W) → bndW n ws = true → bndW m ws = true
  | [], _ => rfl
  | x :: ws, hb => by
    simp only [bndW, Bool.and_eq_true] at hb ⊢
    exact ⟨W.bnd_mono h x hb.1, bndW_mono h ws hb.2⟩
theorem V.rep_agree {n : Nat} {σ τ : Sg} (h : Sg.agree n σ τ) {x : V} (hb : x.bnd n = true) {v : Value} (hr : x.rep σ v) : x.rep τ v := by
  cases x with
  | w x => exact hr.trans (W.den_agree h x hb)
  | tup ws => exact hr.trans (by rw [denW_agree h ws hb])
  | any => trivial
theorem V.bnd_mono {n m : Nat} (h : n ≤ m) {x : V} (hb : x.bnd n = true) : x.bnd m = true := by
  cases x with
  | w x => exact W.bnd_mono h x hb
  | tup ws => exact bndW_mono h ws hb
  | any => rfl
theorem V.ok_mono {n m : Nat} (h : n ≤ m) {x : V} (hx : x.ok n) : x.ok m := ⟨hx.1, V.bnd_mono h hx.2⟩

/-! ### frames -/

structure FOk (n : Nat) (fr : List V) : Prop where
  ok : ∀ x ∈ fr, V.ok n x
structure FRep (Df : List Deferred) (σ : Sg) (a : Act) (fr : List V) : Prop where
  dfr : a.defers = Df
  size : a.tmps.size = fr.length
  rep : ∀ (i : Nat) (x : V), fr[i]? = some x → x.rep σ (a.tmps.getD i undef)

theorem FOk.mono {n m : Nat} (h : n ≤ m) {fr : List V} (hf : FOk n fr) : FOk m fr := ⟨fun x hx => V.ok_mono h (hf.ok x hx)⟩
theorem FRep.agree {n : Nat} {σ τ : Sg} (h : Sg.agree n σ τ) {a : Act} {fr : List V} (hf : FRep Df σ a fr) (ho : FOk n fr) : FRep Df τ a fr :=
  ⟨hf.dfr, hf.size, fun i x hx => V.rep_agree h (ho.ok x (List.mem_of_getElem? hx)).2 (hf.rep i x hx)⟩

def putF (fr : List V) (d : Option Nat) (x : V) : List V :=
  match d with
  | some d => fr.set d x
  | none => fr

theorem FOk.put {n : Nat} {fr : List V} (hf : FOk n fr) {d : Option Nat} {x : V} (hx : x.ok n) : FOk n (putF fr d x) := by
  cases d with
  | none => exact hf
  | some d =>
    refine ⟨fun y hy => ?_⟩
    rcases List.mem_or_eq_of_mem_set hy with h | h
    · exact hf.ok y h
    · exact h ▸ hx
theorem FRep.put {σ : Sg} {a : Act} {fr : List V} (hf : FRep Df σ a fr) {d : Option Nat} {x : V} {v : Value} (hx : x.rep σ v) : FRep Df σ (a.put d v) (putF fr d x) := by
  cases d with
  | none => exact hf
  | some d =>
    refine ⟨hf.dfr, by simp [Act.put, putF, hf.size], fun i y hy => ?_⟩
    simp only [Act.put, putF] at hy ⊢
    have hs := hf.size
    have hlt : i < fr.length := by
      have := (List.getElem?_eq_some_iff.1 hy).1
      simpa using this
    by_cases hdi : d = i
    · subst hdi
      rw [List.getElem?_set_self hlt] at hy
      cases hy
      simpa [hs, hlt] using hx
    · rw [List.getElem?_set_ne hdi] at hy
      have h2 := hf.rep i y hy
      simpa [Array.getElem?_setIfInBounds_ne hdi] using h2

/-! ### heaps -/

inductive Blk where
  | own (T : TypeId) (ss : List Seg)
  | ro (ss : List Seg)
  | obj (R : Obj → Prop)
  | gone

def Blk.rng : Blk → Prop
  | .own _ ss => rngs ss
  | .ro ss => rngs ss
  | _ => True
def Blk.bnd (n : Nat) : Blk → Bool
  | .own _ ss => bnds n ss
  | .ro ss => bnds n ss
  | _ => true
def Blk.mine : Blk → Bool
  | .own _ _ => true
  | .obj _ => true
  | _ => false

def Blk.rep (σ : Sg) (base : Nat) (w : World) (j : Nat) : Blk → Prop
  | .own T ss => (σ j).2 = 0 ∧ base ≤ (σ j).1 ∧ w.heap[(σ j).1]? = some (.cells (dens σ ss).toArray T (0, 0))
  | .ro ss => (σ j).1 < base ∧ ∀ i v, (dens σ ss)[i]? = some v → w.cell? (σ.at j i) = some v
  | .obj R => (σ j).2 = 0 ∧ base ≤ (σ j).1 ∧ ∃ o, w.heap[(σ j).1]? = some o ∧ R o
  | .gone => True

structure HOk (H : List Blk) : Prop where
  rng : ∀ b ∈ H, b.rng
  bnd : ∀ b ∈ H, b.bnd H.length = true

/-- Named package-level variables that hold known cells. -/
abbrev Glo := Nat → Option (List Seg)

structure Rep (G : Glo) (σ : Sg) (base : Nat) (w₀ w : World) (H : List Blk) : Prop where
  below : Below base w₀ w
  size : base ≤ w₀.heap.size
  blk : ∀ (j : Nat) (b : Blk), H[j]? = some b → b.rep σ base w j
  sep : ∀ (i j : Nat) (b c : Blk), H[i]? = some b → H[j]? = some c → b.mine = true → c.mine = true → i ≠ j → (σ i).1 ≠ (σ j).1
  glo : ∀ (g : Nat) (ss : List Seg), G g = some ss → g < base ∧ bnds 0 ss = true ∧ ∀ (i : Nat) (v : Value), (dens σ ss)[i]? = some v → w.cell? ⟨g, i, none⟩ = some v

theorem Blk.rep_agree {n : Nat} {σ τ : Sg} (h : Sg.agree n σ τ) {base : Nat} {w : World} {j : Nat} (hj : j < n) {b : Blk} (hb : b.bnd n = true) (hr : b.rep σ base w j) : b.rep τ base w j := by
  cases b with
  | own T ss => simp only [Blk.rep, ← h j hj, ← dens_agree h ss hb]; exact hr
  | ro ss =>
    simp only [Blk.rep, Sg.at, ← h j hj, ← dens_agree h ss hb]; exact hr
  | obj R => simp only [Blk.rep, ← h j hj]; exact hr
  | gone => trivial

theorem cell_eq_of_block {w w' : World} {a : Addr} (h : w'.heap[a.block]? = w.heap[a.block]?) : w'.cell? a = w.cell? a := World.cell?_of_block (w := w) h

/-- A later world in which none of the blocks from base on has turned, up to the old heap's end. -/
theorem Rep.later {G : Glo} {σ : Sg} {base : Nat} {w₀ w w' : World} {H : List Blk} (h : Rep G σ base w₀ w H) (hb : Below w.heap.size w w') : Rep G σ base w₀ w' H := by
  have hsz : base ≤ w.heap.size := Nat.le_trans h.size h.below.size
  have hget : ∀ k o, w.heap[k]? = some o → w'.heap[k]? = some o := fun k o hk => by
    rw [hb.block k (Array.getElem?_eq_some_iff.1 hk).1]; exact hk
  refine ⟨h.below.trans (hb.mono hsz), h.size, fun j b hj => ?_, h.sep, fun g ss hg => ?_⟩
  · have := h.blk j b hj
    cases b with
    | own T ss => exact ⟨this.1, this.2.1, hget _ _ this.2.2⟩
    | ro ss =>
      refine ⟨this.1, fun i v hv => ?_⟩
      rw [hb.cell (p := σ.at j i) (Nat.lt_of_lt_of_le this.1 hsz)]
      exact this.2 i v hv
    | obj R => obtain ⟨h1, h2, o, h3, h4⟩ := this; exact ⟨h1, h2, o, hget _ _ h3, h4⟩
    | gone => trivial
  · obtain ⟨h1, h2, h3⟩ := h.glo g ss hg
    refine ⟨h1, h2, fun i v hv => ?_⟩
    rw [hb.cell (p := ⟨g, i, none⟩) (Nat.lt_of_lt_of_le h1 hsz)]
    exact h3 i v hv

theorem Rep.agree {G : Glo} {σ τ : Sg} {base : Nat} {w₀ w : World} {H : List Blk} (h : Rep G σ base w₀ w H) (ho : HOk H) (ha : Sg.agree H.length σ τ) : Rep G τ base w₀ w H := by
  refine ⟨h.below, h.size, fun j b hj => ?_, fun i j b c hi hj hb hc hij => ?_, fun g ss hg => ?_⟩
  · have hlt := (List.getElem?_eq_some_iff.1 hj).1
    exact Blk.rep_agree ha hlt (ho.bnd b (List.mem_of_getElem? hj)) (h.blk j b hj)
  · rw [← ha i (List.getElem?_eq_some_iff.1 hi).1, ← ha j (List.getElem?_eq_some_iff.1 hj).1]
    exact h.sep i j b c hi hj hb hc hij
  · obtain ⟨h1, h2, h3⟩ := h.glo g ss hg
    refine ⟨h1, h2, ?_⟩
    rw [← dens_agree (n := 0) (fun j hj => absurd hj (Nat.not_lt_zero j)) ss h2]
    exact h3

def Sg.upd (σ : Sg) (j : Nat) (p : Nat × Nat) : Sg := fun k => if k = j then p else σ k
theorem Sg.upd_agree (σ : Sg) (j : Nat) (p : Nat × Nat) : Sg.agree j σ (σ.upd j p) := fun k hk => by
  simp only [Sg.upd, if_neg (Nat.ne_of_lt hk)]
theorem Sg.upd_self (σ : Sg) (j : Nat) (p : Nat × Nat) : σ.upd j p j = p := by simp [Sg.upd]

/-- A new block. -/
theorem Rep.push {G : Glo} {σ : Sg} {base : Nat} {w₀ w : World} {H : List Blk} (h : Rep G σ base w₀ w H) (ho : HOk H) (o : Obj) (b : Blk)
    (hb : b.rep (σ.upd H.length (w.heap.size, 0)) base (w.alloc o) H.length) :
    Rep G (σ.upd H.length (w.heap.size, 0)) base w₀ (w.alloc o) (H ++ [b]) := by
  have ha := Sg.upd_agree σ H.length (w.heap.size, 0)
  have hsz : base ≤ w.heap.size := Nat.le_trans h.size h.below.size
  have h1 := (h.later ((Below.refl w.heap.size w).alloc (Nat.le_refl _) o)).agree ho ha
  have low : ∀ i c, H[i]? = some c → c.mine = true → ((σ.upd H.length (w.heap.size, 0)) i).1 < w.heap.size := fun i c hi hc => by
    rw [← ha i (List.getElem?_eq_some_iff.1 hi).1]
    have := h.blk i c hi
    cases c with
    | own T ss => exact (Array.getElem?_eq_some_iff.1 this.2.2).1
    | obj R => obtain ⟨_, _, o, h3, _⟩ := this; exact (Array.getElem?_eq_some_iff.1 h3).1
    | ro ss => cases hc
    | gone => cases hc
  refine ⟨h1.below, h1.size, fun j c hj => ?_, fun i j c d hi hj hc hd hij => ?_, h1.glo⟩
  · rcases Nat.lt_or_ge j H.length with hlt | hge
    · rw [List.getElem?_append_left hlt] at hj; exact h1.blk j c hj
    · have hl := (List.getElem?_eq_some_iff.1 hj).1
      simp at hl
      obtain rfl : j = H.length := by omega
      simp at hj; subst hj; exact hb
  · have hi' := (List.getElem?_eq_some_iff.1 hi).1
    have hj' := (List.getElem?_eq_some_iff.1 hj).1
    simp at hi' hj'
    rcases Nat.lt_or_ge i H.length with hilt | hige
    · rw [List.getElem?_append_left hilt] at hi
      rcases Nat.lt_or_ge j H.length with hjlt | hjge
      · rw [List.getElem?_append_left hjlt] at hj
        exact h1.sep i j c d hi hj hc hd hij
      · obtain rfl : j = H.length := by omega
        have := low i c hi hc
        rw [Sg.upd_self]; simp only; omega
    · obtain rfl : i = H.length := by omega
      have hjlt : j < H.length := by omega
      rw [List.getElem?_append_left hjlt] at hj
      have := low j d hj hd
      rw [Sg.upd_self]; simp only; omega

theorem HOk.push {H : List Blk} (ho : HOk H) {b : Blk} (hr : b.rng) (hb : b.bnd H.length = true) : HOk (H ++ [b]) := by
  have mono : ∀ c : Blk, c.bnd H.length = true → c.bnd (H ++ [b]).length = true := fun c hc => by
    cases c with
    | own T ss => exact bnds_mono (by simp) ss hc
    | ro ss => exact bnds_mono (by simp) ss hc
    | obj R => rfl
    | gone => rfl
  refine ⟨fun c hc => ?_, fun c hc => ?_⟩ <;> rcases List.mem_append.1 hc with h | h
  · exact ho.rng c h
  · simp at h; subst h; exact hr
  · exact mono c (ho.bnd c h)
  · simp at h; subst h; exact mono c hb

/-- A block of one's own, turned. -/
theorem Rep.set {G : Glo} {σ : Sg} {base : Nat} {w₀ w w' : World} {H : List Blk} (h : Rep G σ base w₀ w H) {j : Nat} {b c : Blk} (hj : H[j]? = some b) (hbm : b.mine = true)
    (hother : ∀ k, k ≠ (σ j).1 → w'.heap[k]? = w.heap[k]?) (hsz : w'.heap.size = w.heap.size) (hos : w'.os = w.os) (htp : w'.tape = w.tape) (hout : w'.output = w.output)
    (hcm : c.mine = true) (hc : c.rep σ base w' j) : Rep G σ base w₀ w' (H.set j c) := by
  have hbase : base ≤ (σ j).1 := by
    have := h.blk j b hj
    cases b with
    | own T ss => exact this.2.1
    | obj R => exact this.2.1
    | ro ss => cases hbm
    | gone => cases hbm
  have hlt := (List.getElem?_eq_some_iff.1 hj).1
  refine ⟨h.below.trans ⟨hos, htp, hout, Nat.le_of_eq hsz.symm, fun k hk => hother k (by omega)⟩, h.size, fun i d hi => ?_, fun i k d e hi hk hd he hik => ?_, fun g ss hg => ?_⟩
  · by_cases hij : j = i
    · subst hij
      rw [List.getElem?_set_self hlt] at hi
      cases hi; exact hc
    · rw [List.getElem?_set_ne hij] at hi
      have hd := h.blk i d hi
      cases d with
      | own T ss =>
        refine ⟨hd.1, hd.2.1, ?_⟩
        rw [hother _ (h.sep i j _ b hi hj rfl hbm (Ne.symm hij))]; exact hd.2.2
      | ro ss =>
        refine ⟨hd.1, fun m v hv => ?_⟩
        rw [cell_eq_of_block (w := w) (hother _ (by have := hd.1; simp only [Sg.at]; omega))]
        exact hd.2 m v hv
      | obj R =>
        obtain ⟨h1, h2, o, h3, h4⟩ := hd
        refine ⟨h1, h2, o, ?_, h4⟩
        rw [hother _ (h.sep i j _ b hi hj rfl hbm (Ne.symm hij))]; exact h3
      | gone => trivial
  · have look : ∀ (i : Nat) (d : Blk), (H.set j c)[i]? = some d → d.mine = true → ∃ d' : Blk, H[i]? = some d' ∧ d'.mine = true := fun i d hi hd => by
      by_cases hij : j = i
      · subst hij; exact ⟨b, hj, hbm⟩
      · rw [List.getElem?_set_ne hij] at hi; exact ⟨d, hi, hd⟩
    obtain ⟨d', hd1, hd2⟩ := look i d hi hd
    obtain ⟨e', he1, he2⟩ := look k e hk he
    exact h.sep i k d' e' hd1 he1 hd2 he2 hik
  · obtain ⟨h1, h2, h3⟩ := h.glo g ss hg
    refine ⟨h1, h2, fun m v hv => ?_⟩
    rw [cell_eq_of_block (w := w) (hother _ (by simp only; omega))]
    exact h3 m v hv

theorem HOk.set {H : List Blk} (ho : HOk H) {j : Nat} {c : Blk} (hr : c.rng) (hb : c.bnd H.length = true) : HOk (H.set j c) := by
  refine ⟨fun d hd => ?_, fun d hd => ?_⟩ <;> rcases List.mem_or_eq_of_mem_set hd with h | h
  · exact ho.rng d h
  · exact h ▸ hr
  · rw [List.length_set]; exact ho.bnd d h
  · rw [List.length_set]; exact h ▸ hb

/-- Less may be told of a heap. -/
def wkH : List Blk → List Blk → Prop
  | [], _ => True
  | .gone :: H, _ :: K => wkH H K
  | b :: H, c :: K => b = c ∧ wkH H K
  | _ :: _, [] => False

theorem wkH_get : ∀ {H K : List Blk}, wkH H K → ∀ (j : Nat) (b : Blk), H[j]? = some b → b = .gone ∨ K[j]? = some b
  | [], _, _, j, b, h => by simp at h
  | b :: H, [], hw, _, _, _ => by cases b <;> exact hw.elim
  | .gone :: H, c :: K, hw, 0, b, h => by simp at h; exact .inl h.symm
  | .gone :: H, c :: K, hw, j + 1, b, h => by simpa using wkH_get (H := H) (K := K) hw j b (by simpa using h)
  | .own T ss :: H, c :: K, hw, 0, b, h => by simp at h; subst h; exact .inr (by simp [hw.1])
  | .own T ss :: H, c :: K, hw, j + 1, b, h => by simpa using wkH_get (H := H) (K := K) hw.2 j b (by simpa using h)
  | .ro ss :: H, c :: K, hw, 0, b, h => by simp at h; subst h; exact .inr (by simp [hw.1])
  | .ro ss :: H, c :: K, hw, j + 1, b, h => by simpa using wkH_get (H := H) (K := K) hw.2 j b (by simpa using h)
  | .obj R :: H, c :: K, hw, 0, b, h => by simp at h; subst h; exact .inr (by simp [hw.1])
  | .obj R :: H, c :: K, hw, j + 1, b, h => by simpa using wkH_get (H := H) (K := K) hw.2 j b (by simpa using h)

theorem Rep.weak {G : Glo} {σ : Sg} {base : Nat} {w₀ w : World} {H K : List Blk} (h : Rep G σ base w₀ w K) (hw : wkH H K) : Rep G σ base w₀ w H := by
  refine ⟨h.below, h.size, fun j b hj => ?_, fun i j b c hi hj hb hc hij => ?_, h.glo⟩
  · rcases wkH_get hw j b hj with rfl | hk
    · trivial
    · exact h.blk j b hk
  · rcases wkH_get hw i b hi with rfl | hi'
    · cases hb
    · rcases wkH_get hw j c hj with rfl | hj'
      · cases hc
      · exact h.sep i j b c hi' hj' hb hc hij

/-- Less may be told of a frame. -/
def wkF : List V → List V → Prop
  | [], [] => True
  | .any :: F, _ :: G => wkF F G
  | x :: F, y :: G => x = y ∧ wkF F G
  | _, _ => False

theorem wkF_len : ∀ {F G : List V}, wkF F G → F.length = G.length
  | [], [], _ => rfl
  | [], _ :: _, h => h.elim
  | x :: _, [], h => by cases x <;> exact h.elim
  | .any :: F, _ :: G, h => by simp [wkF_len (F := F) (G := G) h]
  | .w _ :: F, _ :: G, h => by simp [wkF_len (F := F) (G := G) h.2]
  | .tup _ :: F, _ :: G, h => by simp [wkF_len (F := F) (G := G) h.2]
theorem wkF_get : ∀ {F G : List V}, wkF F G → ∀ (i : Nat) (x : V), F[i]? = some x → x = .any ∨ G[i]? = some x
  | [], _, _, i, x, h => by simp at h
  | x :: _, [], hw, _, _, _ => by cases x <;> exact hw.elim
  | .any :: F, _ :: G, hw, 0, x, h => by simp at h; exact .inl h.symm
  | .any :: F, _ :: G, hw, i + 1, x, h => by simpa using wkF_get (F := F) (G := G) hw i x (by simpa using h)
  | .w _ :: F, _ :: G, hw, 0, x, h => by simp at h; subst h; exact .inr (by simp [hw.1])
  | .w _ :: F, _ :: G, hw, i + 1, x, h => by simpa using wkF_get (F := F) (G := G) hw.2 i x (by simpa using h)
  | .tup _ :: F, _ :: G, hw, 0, x, h => by simp at h; subst h; exact .inr (by simp [hw.1])
  | .tup _ :: F, _ :: G, hw, i + 1, x, h => by simpa using wkF_get (F := F) (G := G) hw.2 i x (by simpa using h)

theorem FRep.weak {σ : Sg} {a : Act} {F G : List V} (h : FRep Df σ a G) (hw : wkF F G) : FRep Df σ a F :=
  ⟨h.dfr, by rw [h.size, wkF_len hw], fun i x hx => by
    rcases wkF_get hw i x hx with rfl | hg
    · trivial
    · exact h.rep i x hg⟩

/-- Frames' and heaps' names below n, by reckoning. -/
def bndF (n : Nat) : List V → Bool
  | [] => true
  | x :: xs => x.bnd n && bndF n xs
def bndH (n : Nat) : List Blk → Bool
  | [] => true
  | x :: xs => x.bnd n && bndH n xs
theorem bndF_mem {n : Nat} : ∀ {fr : List V}, bndF n fr = true → ∀ x ∈ fr, x.bnd n = true
  | x :: xs, h, y, hy => by
    simp only [bndF, Bool.and_eq_true] at h
    rcases List.mem_cons.1 hy with rfl | h'
    · exact h.1
    · exact bndF_mem h.2 y h'
theorem bndH_mem {n : Nat} : ∀ {H : List Blk}, bndH n H = true → ∀ x ∈ H, x.bnd n = true
  | x :: xs, h, y, hy => by
    simp only [bndH, Bool.and_eq_true] at h
    rcases List.mem_cons.1 hy with rfl | h'
    · exact h.1
    · exact bndH_mem h.2 y h'

end Go.Proofs.YtaficaacogcblaaGreatDoor
