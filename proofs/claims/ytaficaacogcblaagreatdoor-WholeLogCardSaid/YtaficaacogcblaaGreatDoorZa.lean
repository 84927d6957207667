/- Xa, Xb, Xc, Xd, Xe, Xf: what the law wants of them. -/
import Derived.WalkKit
import Derived.Deep.Quiet
import Derived.Below
set_option linter.all false
namespace Go.Proofs.YtaficaacogcblaaGreatDoor
open Go.RowKit (Below)
variable {Df : List Deferred}
inductive C where
  | cb (t : Bool) | ci (k : IntKind) (n : Int) | cs (x : ByteArray)
  | cp (j o : Nat) | cpi (j o i : Nat) | cnil | cg (g o : Nat) | cgi (g o i : Nat)
  | csl (j o i len cap : Nat) | csn
  | cm (j : Nat)
  | cf (f : FuncId) (caps : List C)
  | cv (x : Value)
  | cmv (f : FuncId) (j o : Nat)
abbrev Sg := Nat → Nat × Nat
def Sg.at (σ : Sg) (j o : Nat) : Addr := ⟨(σ j).1, (σ j).2 + o, none⟩
mutual
def C.den (σ : Sg) : C → Value
  | .cb t => .bool t
  | .ci k n => .int k n
  | .cs x => .string x
  | .cp j o => .pointer (some (σ.at j o))
  | .cpi j o i => .pointer (some (σ.at j (o + i)))
  | .cnil => .pointer none
  | .cg g o => .pointer (some ⟨g, o, none⟩)
  | .cgi g o i => .pointer (some ⟨g, o + i, none⟩)
  | .csl j o i len cap => .slice (some (σ.at j (o + i))) len cap
  | .csn => .slice none 0 0
  | .cm j => .map (some (σ j).1)
  | .cf f caps => .func (.func f) #[] (C.denL σ caps).toArray
  | .cmv f j o => .func (.func f) #[.pointer (some (σ.at j o))] #[]
  | .cv x => x
def C.denL (σ : Sg) : List C → List Value
  | [] => []
  | c :: l => c.den σ :: C.denL σ l
end
def lowK : IntKind → Int
  | .i8 => -128 | .i16 => -32768 | .i32 => -2147483648 | .i64 => -9223372036854775808 | _ => 0
def highK : IntKind → Int
  | .i8 => 127 | .i16 => 32767 | .i32 => 2147483647 | .i64 => 9223372036854775807
  | .u8 => 255 | .u16 => 65535 | .u32 => 4294967295 | .u64 => 18446744073709551615
def InK (k : IntKind) (n : Int) : Prop := lowK k ≤ n ∧ n ≤ highK k
theorem inK_wrap (k : IntKind) (n : Int) : InK k (k.wrap n) := by
  cases k <;> simp [InK, lowK, highK, IntKind.wrap, IntKind.bits, IntKind.signed] <;> (try split) <;> omega
theorem wrap_of_in {k : IntKind} {n : Int} (h : InK k n) : k.wrap n = n := by
  cases k <;> simp [InK, lowK, highK, IntKind.wrap, IntKind.bits, IntKind.signed] at * <;> (try split) <;> omega
def plainV : Value → Prop
  | .agg _ => False
  | .tuple _ => False
  | _ => True
mutual
def C.rng : C → Prop
  | .ci k n => InK k n
  | .cs x => x.size ≤ 9223372036854775807
  | .csl _ _ _ len cap => len ≤ cap ∧ cap ≤ 9223372036854775807
  | .cf _ caps => C.rngL caps
  | .cv x => plainV x
  | _ => True
def C.rngL : List C → Prop
  | [] => True
  | c :: l => c.rng ∧ C.rngL l
end
mutual
def C.bnd (n : Nat) : C → Bool
  | .cp j _ => decide (j < n)
  | .cpi j _ _ => decide (j < n)
  | .csl j _ _ _ _ => decide (j < n)
  | .cm j => decide (j < n)
  | .cf _ caps => C.bndL n caps
  | .cmv _ j _ => decide (j < n)
  | _ => true
def C.bndL (n : Nat) : List C → Bool
  | [] => true
  | c :: l => c.bnd n && C.bndL n l
end
inductive Seg where
  | one (c : C)
  | ints (k : IntKind) (n : Nat) (xs : List Int)
def Seg.len : Seg → Nat
  | .one _ => 1
  | .ints _ n _ => n
def Seg.den (σ : Sg) : Seg → List Value
  | .one c => [c.den σ]
  | .ints k _ xs => xs.map (.int k)
def Seg.rng : Seg → Prop
  | .one c => c.rng
  | .ints k n xs => xs.length = n ∧ ∀ x ∈ xs, InK k x
def Seg.bnd (n : Nat) : Seg → Bool
  | .one c => c.bnd n
  | .ints _ _ _ => true
def dens (σ : Sg) : List Seg → List Value
  | [] => []
  | s :: ss => s.den σ ++ dens σ ss
def rngs : List Seg → Prop
  | [] => True
  | s :: ss => s.rng ∧ rngs ss
def bnds (n : Nat) : List Seg → Bool
  | [] => true
  | s :: ss => s.bnd n && bnds n ss
inductive W where
  | c (x : C)
  | agg (ss : List Seg)
def W.den (σ : Sg) : W → Value
  | .c x => x.den σ
  | .agg ss => .agg (dens σ ss).toArray
def W.rng : W → Prop
  | .c x => x.rng
  | .agg ss => rngs ss
def W.bnd (n : Nat) : W → Bool
  | .c x => x.bnd n
  | .agg ss => bnds n ss
def W.segs : W → List Seg
  | .c x => [.one x]
  | .agg ss => ss
inductive V where
  | w (x : W)
  | tup (ws : List W)
  | any
def rngW : List W → Prop
  | [] => True
  | x :: xs => x.rng ∧ rngW xs
def bndW (n : Nat) : List W → Bool
  | [] => true
  | x :: xs => x.bnd n && bndW n xs
def V.rng : V → Prop
  | .w x => x.rng
  | .tup ws => rngW ws
  | .any => True
def V.bnd (n : Nat) : V → Bool
  | .w x => x.bnd n
  | .tup ws => bndW n ws
  | .any => true
def V.rep (σ : Sg) : V → Value → Prop
  | .w x, v => v = x.den σ
  | .tup ws, v => v = .tuple (ws.map (W.den σ)).toArray
  | .any, _ => True
def undefV : V := .tup []
theorem undefV_rep (σ : Sg) : undefV.rep σ undef := rfl
def V.ok (n : Nat) (v : V) : Prop := v.rng ∧ v.bnd n = true
def Sg.agree (n : Nat) (σ τ : Sg) : Prop := ∀ j, j < n → σ j = τ j
theorem Sg.agree.at {n : Nat} {σ τ : Sg} (h : Sg.agree n σ τ) {j o : Nat} (hj : j < n) : σ.at j o = τ.at j o := by
  simp only [Sg.at, h j hj]
theorem Sg.agree.refl (n : Nat) (σ : Sg) : Sg.agree n σ σ := fun _ _ => rfl
theorem Sg.agree.trans {n : Nat} {a b c : Sg} (h : Sg.agree n a b) (k : Sg.agree n b c) : Sg.agree n a c := fun j hj => (h j hj).trans (k j hj)
theorem Sg.agree.mono {n m : Nat} {a b : Sg} (h : Sg.agree n a b) (hm : m ≤ n) : Sg.agree m a b := fun j hj => h j (Nat.lt_of_lt_of_le hj hm)
mutual
theorem C.den_agree {n : Nat} {σ τ : Sg} (h : Sg.agree n σ τ) : (c : C) → c.bnd n = true → c.den σ = c.den τ
  | .cb _, _ | .ci _ _, _ | .cs _, _ | .cnil, _ | .cg _ _, _ | .cgi _ _ _, _ | .csn, _ | .cv _, _ => rfl
  | .cp j o, hb => by simp only [C.den, h.at (of_decide_eq_true hb)]
  | .cpi j o i, hb => by simp only [C.den, h.at (of_decide_eq_true hb)]
  | .csl j o i l c, hb => by simp only [C.den, h.at (of_decide_eq_true hb)]
  | .cm j, hb => by simp only [C.den, h j (of_decide_eq_true hb)]
  | .cf f caps, hb => by simp only [C.den, C.denL_agree h caps hb]
  | .cmv f j o, hb => by simp only [C.den, h.at (of_decide_eq_true hb)]
theorem C.denL_agree {n : Nat} {σ τ : Sg} (h : Sg.agree n σ τ) : (l : List C) → C.bndL n l = true → C.denL σ l = C.denL τ l
  | [], _ => rfl
  | c :: l, hb => by
    simp only [C.bndL, Bool.and_eq_true] at hb
    simp only [C.denL, C.den_agree h c hb.1, C.denL_agree h l hb.2]
end
mutual
theorem C.bnd_mono {n m : Nat} (h : n ≤ m) : (c : C) → c.bnd n = true → c.bnd m = true
  | .cb _, _ | .ci _ _, _ | .cs _, _ | .cnil, _ | .cg _ _, _ | .cgi _ _ _, _ | .csn, _ | .cv _, _ => rfl
  | .cp j o, hb => decide_eq_true (Nat.lt_of_lt_of_le (of_decide_eq_true hb) h)
  | .cpi j o i, hb => decide_eq_true (Nat.lt_of_lt_of_le (of_decide_eq_true hb) h)
  | .csl j o i l c, hb => decide_eq_true (Nat.lt_of_lt_of_le (of_decide_eq_true hb) h)
  | .cm j, hb => decide_eq_true (Nat.lt_of_lt_of_le (of_decide_eq_true hb) h)
  | .cf f caps, hb => C.bndL_mono h caps hb
  | .cmv _ j o, hb => decide_eq_true (Nat.lt_of_lt_of_le (of_decide_eq_true hb) h)
theorem C.bndL_mono {n m : Nat} (h : n ≤ m) : (l : List C) → C.bndL n l = true → C.bndL m l = true
  | [], _ => by simp only [C.bndL]
  | c :: l, hb => by
    simp only [C.bndL, Bool.and_eq_true] at hb ⊢
    exact ⟨C.bnd_mono h c hb.1, C.bndL_mono h l hb.2⟩
end
theorem dens_agree {n : Nat} {σ τ : Sg} (h : Sg.agree n σ τ) : (ss : List Seg) → bnds n ss = true → dens σ ss = dens τ ss
  | [], _ => rfl
  | .one c :: ss, hb => by
    simp only [bnds, Seg.bnd, Bool.and_eq_true] at hb
    simp only [dens, Seg.den, C.den_agree h c hb.1, dens_agree h ss hb.2]
  | .ints k m xs :: ss, hb => by
    simp only [bnds, Seg.bnd, Bool.and_eq_true] at hb
    simp only [dens, Seg.den, dens_agree h ss hb.2]
theorem bnds_mono {n m : Nat} (h : n ≤ m) : (ss : List Seg) → bnds n ss = true → bnds m ss = true
  | [], _ => rfl
  | .one c :: ss, hb => by
    simp only [bnds, Seg.bnd, Bool.and_eq_true] at hb ⊢
    exact ⟨C.bnd_mono h c hb.1, bnds_mono h ss hb.2⟩
  | .ints k _ xs :: ss, hb => by
    simp only [bnds, Seg.bnd, Bool.and_eq_true] at hb ⊢
    exact ⟨trivial, bnds_mono h ss hb.2⟩
theorem W.den_agree {n : Nat} {σ τ : Sg} (h : Sg.agree n σ τ) (x : W) (hb : x.bnd n = true) : x.den σ = x.den τ := by
  cases x with
  | c x => exact C.den_agree h x hb
  | agg ss => simp only [W.den, dens_agree h ss hb]
theorem W.bnd_mono {n m : Nat} (h : n ≤ m) (x : W) (hb : x.bnd n = true) : x.bnd m = true := by
  cases x with
  | c x => exact C.bnd_mono h x hb
  | agg ss => exact bnds_mono h ss hb
theorem denW_agree {n : Nat} {σ τ : Sg} (h : Sg.agree n σ τ) : (ws : List W) → bndW n ws = true → ws.map (W.den σ) = ws.map (W.den τ)
  | [], _ => rfl
  | x :: ws, hb => by
    simp only [bndW, Bool.and_eq_true] at hb
    simp only [List.map_cons, W.den_agree h x hb.1, denW_agree h ws hb.2]
theorem bndW_mono {n m : Nat} (h : n ≤ m) : (ws : List W) → bndW n ws = true → bndW m ws = true
  | [], _ => rfl
  | x :: ws, hb => by
    simp only [bndW, Bool.and_eq_true] at hb ⊢
    exact ⟨W.bnd_mono h x hb.1, bndW_mono h ws hb.2⟩
theorem V.rep_agree {n : Nat} {σ τ : Sg} (h : Sg.agree n σ τ) {x : V} (hb : x.bnd n = true) {v : Value} (hr : x.rep σ v) : x.rep τ v := by
  cases x with
  | w x => exact hr.trans (W.den_agree h x hb)
  | tup ws => exact hr.trans (by rw [denW_agree h ws hb])
  | any => trivial
theorem V.bnd_mono {n m : Nat} (h : n ≤ m) {x : V} (hb : x.bnd n = true) : x.bnd m = true := by
  cases x with
  | w x => exact W.bnd_mono h x hb
  | tup ws => exact bndW_mono h ws hb
  | any => rfl
theorem V.ok_mono {n m : Nat} (h : n ≤ m) {x : V} (hx : x.ok n) : x.ok m := ⟨hx.1, V.bnd_mono h hx.2⟩
structure FOk (n : Nat) (fr : List V) : Prop where
  ok : ∀ x ∈ fr, V.ok n x
structure FRep (Df : List Deferred) (σ : Sg) (a : Act) (fr : List V) : Prop where
  dfr : a.defers = Df
  size : a.tmps.size = fr.length
  rep : ∀ (i : Nat) (x : V), fr[i]? = some x → x.rep σ (a.tmps.getD i undef)
theorem FOk.mono {n m : Nat} (h : n ≤ m) {fr : List V} (hf : FOk n fr) : FOk m fr := ⟨fun x hx => V.ok_mono h (hf.ok x hx)⟩
theorem FRep.agree {n : Nat} {σ τ : Sg} (h : Sg.agree n σ τ) {a : Act} {fr : List V} (hf : FRep Df σ a fr) (ho : FOk n fr) : FRep Df τ a fr :=
  ⟨hf.dfr, hf.size, fun i x hx => V.rep_agree h (ho.ok x (List.mem_of_getElem? hx)).2 (hf.rep i x hx)⟩
def putF (fr : List V) (d : Option Nat) (x : V) : List V :=
  match d with
  | some d => fr.set d x
  | none => fr
theorem FOk.put {n : Nat} {fr : List V} (hf : FOk n fr) {d : Option Nat} {x : V} (hx : x.ok n) : FOk n (putF fr d x) := by
  cases d with
  | none => exact hf
  | some d =>
    refine ⟨fun y hy => ?_⟩
    rcases List.mem_or_eq_of_mem_set hy with h | h
    · exact hf.ok y h
    · exact h ▸ hx
theorem FRep.put {σ : Sg} {a : Act} {fr : List V} (hf : FRep Df σ a fr) {d : Option Nat} {x : V} {v : Value} (hx : x.rep σ v) : FRep Df σ (a.put d v) (putF fr d x) := by
  cases d with
  | none => exact hf
  | some d =>
    refine ⟨hf.dfr, by simp [Act.put, putF, hf.size], fun i y hy => ?_⟩
    simp only [Act.put, putF] at hy ⊢
    have hs := hf.size
    have hlt : i < fr.length := by
      have := (List.getElem?_eq_some_iff.1 hy).1
      simpa using this
    by_cases hdi : d = i
    · subst hdi
      rw [List.getElem?_set_self hlt] at hy
      cases hy
      simpa [hs, hlt] using hx
    · rw [List.getElem?_set_ne hdi] at hy
      have h2 := hf.rep i y hy
      simpa [Array.getElem?_setIfInBounds_ne hdi] using h2
inductive Blk where
  | own (T : TypeId) (ss : List Seg)
  | ro (ss : List Seg)
  | obj (R : Obj → Prop)
  | gone
def Blk.rng : Blk → Prop
  | .own _ ss => rngs ss
  | .ro ss => rngs ss
  | _ => True
def Blk.bnd (n : Nat) : Blk → Bool
  | .own _ ss => bnds n ss
  | .ro ss => bnds n ss
  | _ => true
def Blk.mine : Blk → Bool
  | .own _ _ => true
  | .obj _ => true
  | _ => false
def Blk.rep (σ : Sg) (base : Nat) (w : World) (j : Nat) : Blk → Prop
  | .own T ss => (σ j).2 = 0 ∧ base ≤ (σ j).1 ∧ w.heap[(σ j).1]? = some (.cells (dens σ ss).toArray T (0, 0))
  | .ro ss => (σ j).1 < base ∧ ∀ i v, (dens σ ss)[i]? = some v → w.cell? (σ.at j i) = some v
  | .obj R => (σ j).2 = 0 ∧ base ≤ (σ j).1 ∧ ∃ o, w.heap[(σ j).1]? = some o ∧ R o
  | .gone => True
structure HOk (H : List Blk) : Prop where
  rng : ∀ b ∈ H, b.rng
  bnd : ∀ b ∈ H, b.bnd H.length = true
abbrev Glo := Nat → Option (List Seg)
structure Rep (G : Glo) (σ : Sg) (base : Nat) (w₀ w : World) (H : List Blk) : Prop where
  below : Below base w₀ w
  size : base ≤ w₀.heap.size
  blk : ∀ (j : Nat) (b : Blk), H[j]? = some b → b.rep σ base w j
  sep : ∀ (i j : Nat) (b c : Blk), H[i]? = some b → H[j]? = some c → b.mine = true → c.mine = true → i ≠ j → (σ i).1 ≠ (σ j).1
  glo : ∀ (g : Nat) (ss : List Seg), G g = some ss → g < base ∧ bnds 0 ss = true ∧ ∀ (i : Nat) (v : Value), (dens σ ss)[i]? = some v → w.cell? ⟨g, i, none⟩ = some v
theorem Blk.rep_agree {n : Nat} {σ τ : Sg} (h : Sg.agree n σ τ) {base : Nat} {w : World} {j : Nat} (hj : j < n) {b : Blk} (hb : b.bnd n = true) (hr : b.rep σ base w j) : b.rep τ base w j := by
  cases b with
  | own T ss => simp only [Blk.rep, ← h j hj, ← dens_agree h ss hb]; exact hr
  | ro ss =>
    simp only [Blk.rep, Sg.at, ← h j hj, ← dens_agree h ss hb]; exact hr
  | obj R => simp only [Blk.rep, ← h j hj]; exact hr
  | gone => trivial
theorem cell_eq_of_block {w w' : World} {a : Addr} (h : w'.heap[a.block]? = w.heap[a.block]?) : w'.cell? a = w.cell? a := World.cell?_of_block (w := w) h
theorem Rep.later {G : Glo} {σ : Sg} {base : Nat} {w₀ w w' : World} {H : List Blk} (h : Rep G σ base w₀ w H) (hb : Below w.heap.size w w') : Rep G σ base w₀ w' H := by
  have hsz : base ≤ w.heap.size := Nat.le_trans h.size h.below.size
  have hget : ∀ k o, w.heap[k]? = some o → w'.heap[k]? = some o := fun k o hk => by
    rw [hb.block k (Array.getElem?_eq_some_iff.1 hk).1]; exact hk
  refine ⟨h.below.trans (hb.mono hsz), h.size, fun j b hj => ?_, h.sep, fun g ss hg => ?_⟩
  · have := h.blk j b hj
    cases b with
    | own T ss => exact ⟨this.1, this.2.1, hget _ _ this.2.2⟩
    | ro ss =>
      refine ⟨this.1, fun i v hv => ?_⟩
      rw [hb.cell (p := σ.at j i) (Nat.lt_of_lt_of_le this.1 hsz)]
      exact this.2 i v hv
    | obj R => obtain ⟨h1, h2, o, h3, h4⟩ := this; exact ⟨h1, h2, o, hget _ _ h3, h4⟩
    | gone => trivial
  · obtain ⟨h1, h2, h3⟩ := h.glo g ss hg
    refine ⟨h1, h2, fun i v hv => ?_⟩
    rw [hb.cell (p := ⟨g, i, none⟩) (Nat.lt_of_lt_of_le h1 hsz)]
    exact h3 i v hv
theorem Rep.agree {G : Glo} {σ τ : Sg} {base : Nat} {w₀ w : World} {H : List Blk} (h : Rep G σ base w₀ w H) (ho : HOk H) (ha : Sg.agree H.length σ τ) : Rep G τ base w₀ w H := by
  refine ⟨h.below, h.size, fun j b hj => ?_, fun i j b c hi hj hb hc hij => ?_, fun g ss hg => ?_⟩
  · have hlt := (List.getElem?_eq_some_iff.1 hj).1
    exact Blk.rep_agree ha hlt (ho.bnd b (List.mem_of_getElem? hj)) (h.blk j b hj)
  · rw [← ha i (List.getElem?_eq_some_iff.1 hi).1, ← ha j (List.getElem?_eq_some_iff.1 hj).1]
    exact h.sep i j b c hi hj hb hc hij
  · obtain ⟨h1, h2, h3⟩ := h.glo g ss hg
    refine ⟨h1, h2, ?_⟩
    rw [← dens_agree (n := 0) (fun j hj => absurd hj (Nat.not_lt_zero j)) ss h2]
    exact h3
def Sg.upd (σ : Sg) (j : Nat) (p : Nat × Nat) : Sg := fun k => if k = j then p else σ k
theorem Sg.upd_agree (σ : Sg) (j : Nat) (p : Nat × Nat) : Sg.agree j σ (σ.upd j p) := fun k hk => by
  simp only [Sg.upd, if_neg (Nat.ne_of_lt hk)]
theorem Sg.upd_self (σ : Sg) (j : Nat) (p : Nat × Nat) : σ.upd j p j = p := by simp [Sg.upd]
theorem Rep.push {G : Glo} {σ : Sg} {base : Nat} {w₀ w : World} {H : List Blk} (h : Rep G σ base w₀ w H) (ho : HOk H) (o : Obj) (b : Blk)
    (hb : b.rep (σ.upd H.length (w.heap.size, 0)) base (w.alloc o) H.length) :
    Rep G (σ.upd H.length (w.heap.size, 0)) base w₀ (w.alloc o) (H ++ [b]) := by
  have ha := Sg.upd_agree σ H.length (w.heap.size, 0)
  have hsz : base ≤ w.heap.size := Nat.le_trans h.size h.below.size
  have h1 := (h.later ((Below.refl w.heap.size w).alloc (Nat.le_refl _) o)).agree ho ha
  have low : ∀ i c, H[i]? = some c → c.mine = true → ((σ.upd H.length (w.heap.size, 0)) i).1 < w.heap.size := fun i c hi hc => by
    rw [← ha i (List.getElem?_eq_some_iff.1 hi).1]
    have := h.blk i c hi
    cases c with
    | own T ss => exact (Array.getElem?_eq_some_iff.1 this.2.2).1
    | obj R => obtain ⟨_, _, o, h3, _⟩ := this; exact (Array.getElem?_eq_some_iff.1 h3).1
    | ro ss => cases hc
    | gone => cases hc
  refine ⟨h1.below, h1.size, fun j c hj => ?_, fun i j c d hi hj hc hd hij => ?_, h1.glo⟩
  · rcases Nat.lt_or_ge j H.length with hlt | hge
    · rw [List.getElem?_append_left hlt] at hj; exact h1.blk j c hj
    · have hl := (List.getElem?_eq_some_iff.1 hj).1
      simp at hl
      obtain rfl : j = H.length := by omega
      simp at hj; subst hj; exact hb
  · have hi' := (List.getElem?_eq_some_iff.1 hi).1
    have hj' := (List.getElem?_eq_some_iff.1 hj).1
    simp at hi' hj'
    rcases Nat.lt_or_ge i H.length with hilt | hige
    · rw [List.getElem?_append_left hilt] at hi
      rcases Nat.lt_or_ge j H.length with hjlt | hjge
      · rw [List.getElem?_append_left hjlt] at hj
        exact h1.sep i j c d hi hj hc hd hij
      · obtain rfl : j = H.length := by omega
        have := low i c hi hc
        rw [Sg.upd_self]; simp only; omega
    · obtain rfl : i = H.length := by omega
      have hjlt : j < H.length := by omega
      rw [List.getElem?_append_left hjlt] at hj
      have := low j d hj hd
      rw [Sg.upd_self]; simp only; omega
theorem HOk.push {H : List Blk} (ho : HOk H) {b : Blk} (hr : b.rng) (hb : b.bnd H.length = true) : HOk (H ++ [b]) := by
  have mono : ∀ c : Blk, c.bnd H.length = true → c.bnd (H ++ [b]).length = true := fun c hc => by
    cases c with
    | own T ss => exact bnds_mono (by simp) ss hc
    | ro ss => exact bnds_mono (by simp) ss hc
    | obj R => rfl
    | gone => rfl
  refine ⟨fun c hc => ?_, fun c hc => ?_⟩ <;> rcases List.mem_append.1 hc with h | h
  · exact ho.rng c h
  · simp at h; subst h; exact hr
  · exact mono c (ho.bnd c h)
  · simp at h; subst h; exact mono c hb
theorem Rep.set {G : Glo} {σ : Sg} {base : Nat} {w₀ w w' : World} {H : List Blk} (h : Rep G σ base w₀ w H) {j : Nat} {b c : Blk} (hj : H[j]? = some b) (hbm : b.mine = true)
    (hother : ∀ k, k ≠ (σ j).1 → w'.heap[k]? = w.heap[k]?) (hsz : w'.heap.size = w.heap.size) (hos : w'.os = w.os) (htp : w'.tape = w.tape) (hout : w'.output = w.output)
    (hcm : c.mine = true) (hc : c.rep σ base w' j) : Rep G σ base w₀ w' (H.set j c) := by
  have hbase : base ≤ (σ j).1 := by
    have := h.blk j b hj
    cases b with
    | own T ss => exact this.2.1
    | obj R => exact this.2.1
    | ro ss => cases hbm
    | gone => cases hbm
  have hlt := (List.getElem?_eq_some_iff.1 hj).1
  refine ⟨h.below.trans ⟨hos, htp, hout, Nat.le_of_eq hsz.symm, fun k hk => hother k (by omega)⟩, h.size, fun i d hi => ?_, fun i k d e hi hk hd he hik => ?_, fun g ss hg => ?_⟩
  · by_cases hij : j = i
    · subst hij
      rw [List.getElem?_set_self hlt] at hi
      cases hi; exact hc
    · rw [List.getElem?_set_ne hij] at hi
      have hd := h.blk i d hi
      cases d with
      | own T ss =>
        refine ⟨hd.1, hd.2.1, ?_⟩
        rw [hother _ (h.sep i j _ b hi hj rfl hbm (Ne.symm hij))]; exact hd.2.2
      | ro ss =>
        refine ⟨hd.1, fun m v hv => ?_⟩
        rw [cell_eq_of_block (w := w) (hother _ (by have := hd.1; simp only [Sg.at]; omega))]
        exact hd.2 m v hv
      | obj R =>
        obtain ⟨h1, h2, o, h3, h4⟩ := hd
        refine ⟨h1, h2, o, ?_, h4⟩
        rw [hother _ (h.sep i j _ b hi hj rfl hbm (Ne.symm hij))]; exact h3
      | gone => trivial
  · have look : ∀ (i : Nat) (d : Blk), (H.set j c)[i]? = some d → d.mine = true → ∃ d' : Blk, H[i]? = some d' ∧ d'.mine = true := fun i d hi hd => by
      by_cases hij : j = i
      · subst hij; exact ⟨b, hj, hbm⟩
      · rw [List.getElem?_set_ne hij] at hi; exact ⟨d, hi, hd⟩
    obtain ⟨d', hd1, hd2⟩ := look i d hi hd
    obtain ⟨e', he1, he2⟩ := look k e hk he
    exact h.sep i k d' e' hd1 he1 hd2 he2 hik
  · obtain ⟨h1, h2, h3⟩ := h.glo g ss hg
    refine ⟨h1, h2, fun m v hv => ?_⟩
    rw [cell_eq_of_block (w := w) (hother _ (by simp only; omega))]
    exact h3 m v hv
theorem HOk.set {H : List Blk} (ho : HOk H) {j : Nat} {c : Blk} (hr : c.rng) (hb : c.bnd H.length = true) : HOk (H.set j c) := by
  refine ⟨fun d hd => ?_, fun d hd => ?_⟩ <;> rcases List.mem_or_eq_of_mem_set hd with h | h
  · exact ho.rng d h
  · exact h ▸ hr
  · rw [List.length_set]; exact ho.bnd d h
  · rw [List.length_set]; exact h ▸ hb
def wkH : List Blk → List Blk → Prop
  | [], _ => True
  | .gone :: H, _ :: K => wkH H K
  | b :: H, c :: K => b = c ∧ wkH H K
  | _ :: _, [] => False
theorem wkH_get : ∀ {H K : List Blk}, wkH H K → ∀ (j : Nat) (b : Blk), H[j]? = some b → b = .gone ∨ K[j]? = some b
  | [], _, _, j, b, h => by simp at h
  | b :: H, [], hw, _, _, _ => by cases b <;> exact hw.elim
  | .gone :: H, c :: K, hw, 0, b, h => by simp at h; exact .inl h.symm
  | .gone :: H, c :: K, hw, j + 1, b, h => by simpa using wkH_get (H := H) (K := K) hw j b (by simpa using h)
  | .own T ss :: H, c :: K, hw, 0, b, h => by simp at h; subst h; exact .inr (by simp [hw.1])
  | .own T ss :: H, c :: K, hw, j + 1, b, h => by simpa using wkH_get (H := H) (K := K) hw.2 j b (by simpa using h)
  | .ro ss :: H, c :: K, hw, 0, b, h => by simp at h; subst h; exact .inr (by simp [hw.1])
  | .ro ss :: H, c :: K, hw, j + 1, b, h => by simpa using wkH_get (H := H) (K := K) hw.2 j b (by simpa using h)
  | .obj R :: H, c :: K, hw, 0, b, h => by simp at h; subst h; exact .inr (by simp [hw.1])
  | .obj R :: H, c :: K, hw, j + 1, b, h => by simpa using wkH_get (H := H) (K := K) hw.2 j b (by simpa using h)
def wkF : List V → List V → Prop
  | [], [] => True
  | .any :: F, _ :: G => wkF F G
  | x :: F, y :: G => x = y ∧ wkF F G
  | _, _ => False
theorem wkF_len : ∀ {F G : List V}, wkF F G → F.length = G.length
  | [], [], _ => rfl
  | [], _ :: _, h => h.elim
  | x :: _, [], h => by cases x <;> exact h.elim
  | .any :: F, _ :: G, h => by simp [wkF_len (F := F) (G := G) h]
  | .w _ :: F, _ :: G, h => by simp [wkF_len (F := F) (G := G) h.2]
  | .tup _ :: F, _ :: G, h => by simp [wkF_len (F := F) (G := G) h.2]
theorem wkF_get : ∀ {F G : List V}, wkF F G → ∀ (i : Nat) (x : V), F[i]? = some x → x = .any ∨ G[i]? = some x
  | [], _, _, i, x, h => by simp at h
  | x :: _, [], hw, _, _, _ => by cases x <;> exact hw.elim
  | .any :: F, _ :: G, hw, 0, x, h => by simp at h; exact .inl h.symm
  | .any :: F, _ :: G, hw, i + 1, x, h => by simpa using wkF_get (F := F) (G := G) hw i x (by simpa using h)
  | .w _ :: F, _ :: G, hw, 0, x, h => by simp at h; subst h; exact .inr (by simp [hw.1])
  | .w _ :: F, _ :: G, hw, i + 1, x, h => by simpa using wkF_get (F := F) (G := G) hw.2 i x (by simpa using h)
  | .tup _ :: F, _ :: G, hw, 0, x, h => by simp at h; subst h; exact .inr (by simp [hw.1])
  | .tup _ :: F, _ :: G, hw, i + 1, x, h => by simpa using wkF_get (F := F) (G := G) hw.2 i x (by simpa using h)
def bndF (n : Nat) : List V → Bool
  | [] => true
  | x :: xs => x.bnd n && bndF n xs
def bndH (n : Nat) : List Blk → Bool
  | [] => true
  | x :: xs => x.bnd n && bndH n xs
theorem bndF_mem {n : Nat} : ∀ {fr : List V}, bndF n fr = true → ∀ x ∈ fr, x.bnd n = true
  | x :: xs, h, y, hy => by
    simp only [bndF, Bool.and_eq_true] at h
    rcases List.mem_cons.1 hy with rfl | h'
    · exact h.1
    · exact bndF_mem h.2 y h'
theorem bndH_mem {n : Nat} : ∀ {H : List Blk}, bndH n H = true → ∀ x ∈ H, x.bnd n = true
  | x :: xs, h, y, hy => by
    simp only [bndH, Bool.and_eq_true] at h
    rcases List.mem_cons.1 hy with rfl | h'
    · exact h.1
    · exact bndH_mem h.2 y h'
end Go.Proofs.YtaficaacogcblaaGreatDoor
set_option linter.all false
namespace Go.Proofs.YtaficaacogcblaaGreatDoor
open Go.RowKit (Below)
def sameK : IntKind → IntKind → Bool
  | .i8, .i8 | .i16, .i16 | .i32, .i32 | .i64, .i64 | .u8, .u8 | .u16, .u16 | .u32, .u32 | .u64, .u64 => true
  | _, _ => false
theorem sameK_eq {j k : IntKind} (h : sameK j k = true) : j = k := by cases j <;> cases k <;> first | rfl | cases h
theorem dens_append (σ : Sg) : ∀ (a b : List Seg), dens σ (a ++ b) = dens σ a ++ dens σ b
  | [], _ => rfl
  | x :: a, b => by simp only [List.cons_append, dens, dens_append σ a b, List.append_assoc]
def segsLen : List Seg → Nat
  | [] => 0
  | .one _ :: ss => segsLen ss + 1
  | .ints _ n _ :: ss => segsLen ss + n
theorem dens_len (σ : Sg) : ∀ {ss : List Seg}, rngs ss → (dens σ ss).length = segsLen ss
  | [], _ => rfl
  | .one c :: ss, h => by simp only [dens, Seg.den, List.length_append, List.length_singleton, dens_len σ h.2, segsLen]; omega
  | .ints k n xs :: ss, h => by
    have := h.1.1
    simp only [dens, Seg.den, List.length_append, List.length_map, dens_len σ h.2, segsLen]; omega
def segTake : List Seg → Nat → (List Seg → Prop) → Prop
  | [], n, K => match n with | 0 => K [] | _ + 1 => False
  | .one c :: ss, n, K => match n with | 0 => K [] | n + 1 => segTake ss n fun r => K (.one c :: r)
  | .ints k m xs :: ss, n, K => match n with
    | 0 => K []
    | n + 1 => match Nat.ble m (n + 1) with
      | true => segTake ss (n + 1 - m) fun r => K (.ints k m xs :: r)
      | false => K [.ints k (n + 1) (xs.take (n + 1))]
theorem segTake_spec : ∀ {ss : List Seg} {n : Nat} {K : List Seg → Prop}, segTake ss n K → rngs ss → ∃ r, K r ∧ rngs r ∧ (∀ m, bnds m ss = true → bnds m r = true) ∧ n ≤ segsLen ss ∧ ∀ σ, dens σ r = (dens σ ss).take n
  | [], 0, K, h, _ => ⟨[], h, trivial, fun _ _ => rfl, Nat.le_refl _, fun _ => rfl⟩
  | [], _ + 1, _, h, _ => h.elim
  | .one c :: ss, 0, K, h, _ => ⟨[], h, trivial, fun _ _ => rfl, Nat.zero_le _, fun _ => by simp [dens]⟩
  | .one c :: ss, n + 1, K, h, hr => by
    obtain ⟨r, h1, h2, h3, h4, h5⟩ := segTake_spec (ss := ss) (n := n) h hr.2
    refine ⟨_, h1, ⟨hr.1, h2⟩, fun m hm => ?_, by simp only [segsLen]; omega, fun σ => by simp [dens, Seg.den, h5 σ]⟩
    simp only [bnds, Bool.and_eq_true] at hm ⊢
    exact ⟨hm.1, h3 m hm.2⟩
  | .ints k m xs :: ss, 0, K, h, _ => ⟨[], h, trivial, fun _ _ => rfl, Nat.zero_le _, fun _ => by simp [dens]⟩
  | .ints k m xs :: ss, n + 1, K, h, hr => by
    simp only [segTake] at h
    have hl := hr.1.1
    cases hb : Nat.ble m (n + 1) with
    | true =>
      rw [hb] at h
      have hle : m ≤ n + 1 := Nat.le_of_ble_eq_true hb
      obtain ⟨r, h1, h2, h3, h4, h5⟩ := segTake_spec (ss := ss) (n := n + 1 - m) h hr.2
      refine ⟨_, h1, ⟨hr.1, h2⟩, fun q hm => ?_, by simp only [segsLen]; omega, fun σ => ?_⟩
      · simp only [bnds, Bool.and_eq_true] at hm ⊢
        exact ⟨hm.1, h3 q hm.2⟩
      · simp only [dens, Seg.den, h5 σ, List.take_append, List.length_map, hl]
        rw [List.take_of_length_le (l := xs.map (Value.int k)) (by simp; omega)]
    | false =>
      rw [hb] at h
      have hlt : n + 1 < m := by
        rcases Nat.lt_or_ge (n + 1) m with h' | h'
        · exact h'
        · rw [Nat.ble_eq_true_of_le h'] at hb; cases hb
      refine ⟨_, h, ⟨⟨by simp; omega, fun x hx => hr.1.2 x (List.mem_of_mem_take hx)⟩, trivial⟩, fun q hm => rfl, by simp only [segsLen]; omega, fun σ => ?_⟩
      simp only [dens, Seg.den, List.append_nil, List.take_append, List.length_map, hl]
      rw [show n + 1 - m = 0 by omega]
      simp [List.map_take]
def segRd : List Seg → Nat → Nat → (List Seg → Prop) → Prop
  | ss, 0, n, K => segTake ss n K
  | [], _ + 1, _, _ => False
  | .one _ :: ss, o + 1, n, K => segRd ss o n K
  | .ints k m xs :: ss, o + 1, n, K => match Nat.ble m (o + 1) with
    | true => segRd ss (o + 1 - m) n K
    | false => match Nat.ble (o + 1 + n) m with
      | true => K [.ints k n ((xs.drop (o + 1)).take n)]
      | false => False
termination_by structural ss => ss
theorem segRd_spec : ∀ {ss : List Seg} {o n : Nat} {K : List Seg → Prop}, segRd ss o n K → rngs ss → ∃ r, K r ∧ rngs r ∧ (∀ m, bnds m ss = true → bnds m r = true) ∧ o + n ≤ segsLen ss ∧ ∀ σ, dens σ r = ((dens σ ss).drop o).take n
  | [], 0, n, K, h, hr => by simp only [segRd] at h; simpa using segTake_spec h hr
  | .one _ :: _, 0, n, K, h, hr => by simp only [segRd] at h; simpa using segTake_spec h hr
  | .ints _ _ _ :: _, 0, n, K, h, hr => by simp only [segRd] at h; simpa using segTake_spec h hr
  | [], _ + 1, _, _, h, _ => by simp only [segRd] at h
  | .one c :: ss, o + 1, n, K, h, hr => by
    simp only [segRd] at h
    obtain ⟨r, h1, h2, h3, h4, h5⟩ := segRd_spec h hr.2
    refine ⟨r, h1, h2, fun m hm => h3 m ?_, by simp only [segsLen]; omega, fun σ => by simp [dens, Seg.den, h5 σ]⟩
    simp only [bnds, Bool.and_eq_true] at hm
    exact hm.2
  | .ints k m xs :: ss, o + 1, n, K, h, hr => by
    simp only [segRd] at h
    have hl := hr.1.1
    cases hb : Nat.ble m (o + 1) with
    | true =>
      rw [hb] at h
      have hle : m ≤ o + 1 := Nat.le_of_ble_eq_true hb
      obtain ⟨r, h1, h2, h3, h4, h5⟩ := segRd_spec (ss := ss) (o := o + 1 - m) h hr.2
      refine ⟨r, h1, h2, fun q hm => h3 q ?_, by simp only [segsLen]; omega, fun σ => ?_⟩
      · simp only [bnds, Bool.and_eq_true] at hm
        exact hm.2
      · rw [h5 σ]
        simp only [dens, Seg.den, List.drop_append, List.length_map, hl]
        rw [List.drop_of_length_le (l := xs.map (Value.int k)) (by simp; omega)]
        simp
    | false =>
      rw [hb] at h
      simp only at h
      cases hc : Nat.ble (o + 1 + n) m with
      | false => rw [hc] at h; exact h.elim
      | true =>
        rw [hc] at h
        have hle : o + 1 + n ≤ m := Nat.le_of_ble_eq_true hc
        refine ⟨_, h, ⟨⟨by simp; omega, fun x hx => hr.1.2 x (List.mem_of_mem_drop (List.mem_of_mem_take hx))⟩, trivial⟩, fun q hm => rfl, by simp only [segsLen]; omega, fun σ => ?_⟩
        simp only [dens, Seg.den, List.append_nil, List.drop_append, List.length_map, hl]
        rw [List.take_append_of_le_length (by simp; omega)]
        simp [List.map_take, List.map_drop]
theorem getD_in {k : IntKind} {n : Nat} {xs : List Int} (h : (Seg.ints k n xs).rng) {i : Nat} (hi : i < n) : InK k (xs.getD i 0) := by
  have hl := h.1
  have : i < xs.length := by omega
  have hx := h.2 xs[i] (List.getElem_mem this)
  simpa [List.getD_eq_getElem?_getD, List.getElem?_eq_getElem this] using hx
def segAt : List Seg → Nat → (C → Prop) → Prop
  | [], _, _ => False
  | .one c :: ss, o, K => match o with | 0 => K c | o + 1 => segAt ss o K
  | .ints k m xs :: ss, o, K => match Nat.ble m o with
    | true => segAt ss (o - m) K
    | false => InK k (xs.getD o 0) → K (.ci k (xs.getD o 0))
theorem segAt_spec : ∀ {ss : List Seg} {o : Nat} {K : C → Prop}, segAt ss o K → rngs ss → ∃ c, K c ∧ c.rng ∧ (∀ m, bnds m ss = true → c.bnd m = true) ∧ o < segsLen ss ∧ ∀ σ, (dens σ ss)[o]? = some (c.den σ)
  | [], _, _, h, _ => h.elim
  | .one c :: ss, 0, K, h, hr => ⟨c, h, hr.1, fun m hm => by simp only [bnds, Seg.bnd, Bool.and_eq_true] at hm; exact hm.1, by simp only [segsLen]; omega, fun σ => by simp [dens, Seg.den]⟩
  | .one c :: ss, o + 1, K, h, hr => by
    obtain ⟨r, h1, h2, h3, h4, h5⟩ := segAt_spec (ss := ss) (o := o) h hr.2
    refine ⟨r, h1, h2, fun m hm => h3 m ?_, by simp only [segsLen]; omega, fun σ => by simp [dens, Seg.den, h5 σ]⟩
    simp only [bnds, Bool.and_eq_true] at hm
    exact hm.2
  | .ints k m xs :: ss, o, K, h, hr => by
    simp only [segAt] at h
    have hl := hr.1.1
    cases hb : Nat.ble m o with
    | true =>
      rw [hb] at h
      have hle : m ≤ o := Nat.le_of_ble_eq_true hb
      obtain ⟨r, h1, h2, h3, h4, h5⟩ := segAt_spec (ss := ss) (o := o - m) h hr.2
      refine ⟨r, h1, h2, fun q hm => h3 q ?_, by simp only [segsLen]; omega, fun σ => ?_⟩
      · simp only [bnds, Bool.and_eq_true] at hm
        exact hm.2
      · simp only [dens, Seg.den]
        rw [List.getElem?_append_right (by simp; omega)]
        simpa [hl] using h5 σ
    | false =>
      rw [hb] at h
      have hlt : o < m := by
        rcases Nat.lt_or_ge o m with h' | h'
        · exact h'
        · rw [Nat.ble_eq_true_of_le h'] at hb; cases hb
      refine ⟨_, h (getD_in hr.1 hlt), getD_in hr.1 hlt, fun _ _ => rfl, by simp only [segsLen]; omega, fun σ => ?_⟩
      simp only [dens, Seg.den, C.den]
      rw [List.getElem?_append_left (by simp; omega)]
      have : o < xs.length := by omega
      simp [List.getD_eq_getElem?_getD, this]
def segIx : List Seg → Nat → (IntKind → Nat → List Int → Prop) → Prop
  | [], _, _ => False
  | .one _ :: ss, o, K => match o with | 0 => False | o + 1 => segIx ss o K
  | .ints k m xs :: ss, o, K => match o with
    | 0 => K k m xs
    | o + 1 => match Nat.ble m (o + 1) with
      | true => segIx ss (o + 1 - m) K
      | false => False
theorem segIx_spec : ∀ {ss : List Seg} {o : Nat} {K : IntKind → Nat → List Int → Prop}, segIx ss o K → rngs ss → ∃ k m xs, K k m xs ∧ (Seg.ints k m xs).rng ∧ o + m ≤ segsLen ss ∧ ∀ σ i, i < m → (dens σ ss)[o + i]? = some (.int k (xs.getD i 0))
  | [], _, _, h, _ => h.elim
  | .one _ :: ss, 0, K, h, hr => h.elim
  | .one c :: ss, o + 1, K, h, hr => by
    obtain ⟨k, m, xs, h1, h2, h3, h4⟩ := segIx_spec (ss := ss) (o := o) h hr.2
    refine ⟨k, m, xs, h1, h2, by simp only [segsLen]; omega, fun σ i hi => ?_⟩
    have := h4 σ i hi
    rw [show o + 1 + i = (o + i) + 1 by omega]
    simpa [dens, Seg.den] using this
  | .ints k m xs :: ss, 0, K, h, hr => by
    refine ⟨k, m, xs, h, hr.1, by simp only [segsLen]; omega, fun σ i hi => ?_⟩
    have hl := hr.1.1
    have : i < xs.length := by omega
    simp only [dens, Seg.den, Nat.zero_add]
    rw [List.getElem?_append_left (by simp; omega)]
    simp [List.getD_eq_getElem?_getD, this]
  | .ints k m xs :: ss, o + 1, K, h, hr => by
    simp only [segIx] at h
    have hl := hr.1.1
    cases hb : Nat.ble m (o + 1) with
    | false => rw [hb] at h; exact h.elim
    | true =>
      rw [hb] at h
      have hle : m ≤ o + 1 := Nat.le_of_ble_eq_true hb
      obtain ⟨k', m', xs', h1, h2, h3, h4⟩ := segIx_spec (ss := ss) (o := o + 1 - m) h hr.2
      refine ⟨k', m', xs', h1, h2, by simp only [segsLen]; omega, fun σ i hi => ?_⟩
      simp only [dens, Seg.den]
      rw [List.getElem?_append_right (by simp; omega)]
      have := h4 σ i hi
      rw [show o + 1 - m + i = o + 1 + i - (xs.map (Value.int k)).length by simp; omega] at this
      exact this
def Spliced (ss : List Seg) (o : Nat) (new r : List Seg) : Prop :=
  rngs r ∧ (∀ m, bnds m ss = true → bnds m new = true → bnds m r = true) ∧ segsLen r = segsLen ss ∧ o + segsLen new ≤ segsLen ss ∧
    ∀ σ, dens σ r = (dens σ ss).take o ++ dens σ new ++ (dens σ ss).drop (o + segsLen new)
def segPut : List Seg → List Seg → (List Seg → Prop) → Prop
  | ss, [], K => K ss
  | .one _ :: ss, .one c :: ns, K => segPut ss ns fun r => K (.one c :: r)
  | .ints k m xs :: ss, .ints k' m' ys :: ns, K => match sameK k k', Nat.beq m m' with
    | true, true => segPut ss ns fun r => K (.ints k m ys :: r)
    | true, false => match ns, Nat.ble m' m with
      | [], true => K (.ints k m (ys ++ xs.drop m') :: ss)
      | _, _ => False
    | _, _ => False
  | .ints k m xs :: ss, .one (.ci k' v) :: ns, K => match sameK k k', ns, m with
    | true, [], m + 1 => K (.ints k (m + 1) (xs.set 0 v) :: ss)
    | _, _, _ => False
  | _, _ :: _, _ => False
termination_by structural ss => ss
theorem mem_set_in {k : IntKind} {xs : List Int} {v : Int} {i : Nat} (h : ∀ x ∈ xs, InK k x) (hv : InK k v) : ∀ x ∈ xs.set i v, InK k x := fun x hx => by
  rcases List.mem_or_eq_of_mem_set hx with h' | h'
  · exact h x h'
  · exact h' ▸ hv
theorem map_set {k : IntKind} (xs : List Int) (v : Int) (i : Nat) (hi : i < xs.length) : (xs.set i v).map (Value.int k) = (xs.map (Value.int k)).take i ++ [.int k v] ++ (xs.map (Value.int k)).drop (i + 1) := by
  rw [List.map_set, List.set_eq_take_append_cons_drop, if_pos (by simpa using hi)]
  simp
theorem segPut_spec : ∀ {ss new : List Seg} {K : List Seg → Prop}, segPut ss new K → rngs ss → rngs new → ∃ r, K r ∧ Spliced ss 0 new r
  | ss, [], K, h, hr, _ => by
    have h' : K ss := by cases ss with
      | nil => simpa only [segPut] using h
      | cons s ss => cases s <;> simpa only [segPut] using h
    exact ⟨ss, h', hr, fun m hm _ => hm, rfl, by simp [segsLen], fun σ => by simp [dens, segsLen]⟩
  | [], _ :: _, K, h, _, _ => by simp only [segPut] at h
  | .one c0 :: ss, .one c :: ns, K, h, hr, hn => by
    simp only [segPut] at h
    obtain ⟨r, h1, h2, h3, h4, h5, h6⟩ := segPut_spec h hr.2 hn.2
    refine ⟨_, h1, ⟨hn.1, h2⟩, fun m hm hm' => ?_, by simp only [segsLen, h4], by simp only [segsLen]; omega, fun σ => ?_⟩
    · simp only [bnds, Seg.bnd, Bool.and_eq_true] at hm hm' ⊢
      exact ⟨hm'.1, h3 m hm.2 hm'.2⟩
    · simp [dens, Seg.den, h6 σ, segsLen]
  | .one c0 :: ss, .ints _ _ _ :: ns, K, h, _, _ => by simp only [segPut] at h
  | .ints k m xs :: ss, .ints k' m' ys :: ns, K, h, hr, hn => by
    simp only [segPut] at h
    cases hk : sameK k k' with
    | false => rw [hk] at h; cases hm : Nat.beq m m' <;> rw [hm] at h <;> exact h.elim
    | true =>
      obtain rfl := sameK_eq hk
      rw [hk] at h
      have hl := hr.1.1
      have hl' := hn.1.1
      cases hm : Nat.beq m m' with
      | true =>
        rw [hm] at h
        obtain rfl := Nat.eq_of_beq_eq_true hm
        obtain ⟨r, h1, h2, h3, h4, h5, h6⟩ := segPut_spec (ss := ss) (new := ns) h hr.2 hn.2
        refine ⟨_, h1, ⟨hn.1, h2⟩, fun q hq hq' => ?_, by simp only [segsLen, h4], by simp only [segsLen]; omega, fun σ => ?_⟩
        · simp only [bnds, Seg.bnd, Bool.and_eq_true] at hq hq' ⊢
          exact ⟨trivial, h3 q hq.2 hq'.2⟩
        · simp only [dens, Seg.den, h6 σ, segsLen, List.take_zero, List.nil_append, List.append_assoc, List.drop_append, List.length_map, hl]
          rw [List.drop_of_length_le (l := xs.map (Value.int k)) (by simp; omega)]
          simp [show segsLen ns + m - m = segsLen ns by omega]
      | false =>
        rw [hm] at h
        cases ns with
        | cons n ns => exact h.elim
        | nil =>
          simp only at h
          cases hb : Nat.ble m' m with
          | false => rw [hb] at h; exact h.elim
          | true =>
            rw [hb] at h
            have hle : m' ≤ m := Nat.le_of_ble_eq_true hb
            refine ⟨_, h, ⟨⟨by simp; omega, fun x hx => ?_⟩, hr.2⟩, fun q hq _ => hq, rfl, by simp only [segsLen]; omega, fun σ => ?_⟩
            · rcases List.mem_append.1 hx with h' | h'
              · exact hn.1.2 x h'
              · exact hr.1.2 x (List.mem_of_mem_drop h')
            · simp only [dens, Seg.den, segsLen, List.take_zero, List.nil_append, List.append_nil, List.drop_append, List.length_map, hl, List.map_append, List.map_drop, Nat.zero_add]
              rw [show m' - m = 0 by omega]
              simp
  | .ints k m xs :: ss, .one c :: ns, K, h, hr, hn => by
    cases c with
    | ci k' v =>
      simp only [segPut] at h
      cases hk : sameK k k' with
      | false => rw [hk] at h; exact h.elim
      | true =>
        obtain rfl := sameK_eq hk
        rw [hk] at h
        cases ns with
        | cons n ns => exact h.elim
        | nil =>
          cases m with
          | zero => exact h.elim
          | succ m =>
            have hl := hr.1.1
            refine ⟨_, h, ⟨⟨by simp; omega, mem_set_in hr.1.2 hn.1⟩, hr.2⟩, fun q hq _ => hq, rfl, by simp only [segsLen]; omega, fun σ => ?_⟩
            simp only [dens, Seg.den, C.den, segsLen, map_set xs v 0 (by omega), List.drop_append, List.length_map, hl]
            simp
    | _ => simp only [segPut] at h
def segWr : List Seg → Nat → List Seg → (List Seg → Prop) → Prop
  | ss, 0, new, K => segPut ss new K
  | [], _ + 1, _, _ => False
  | .one c :: ss, o + 1, new, K => segWr ss o new fun r => K (.one c :: r)
  | .ints k m xs :: ss, o + 1, new, K => match Nat.ble m (o + 1) with
    | true => segWr ss (o + 1 - m) new fun r => K (.ints k m xs :: r)
    | false => match new with
      | [.one (.ci k' v)] => match sameK k k' with
        | true => K (.ints k m (xs.set (o + 1) v) :: ss)
        | false => False
      | [.ints k' n ys] => match sameK k k', Nat.ble (o + 1 + n) m with
        | true, true => K (.ints k m (xs.take (o + 1) ++ ys ++ xs.drop (o + 1 + n)) :: ss)
        | _, _ => False
      | _ => False
termination_by structural ss => ss
theorem spliced_cons_ints {k : IntKind} {m : Nat} {xs : List Int} {ss new : List Seg} {o : Nat} {ys : List Int} (hr : rngs (.ints k m xs :: ss)) (hn : rngs new) (hy : (Seg.ints k m ys).rng)
    (hle : o + segsLen new ≤ m) (hd : ∀ σ, ys.map (Value.int k) = (xs.map (Value.int k)).take o ++ dens σ new ++ (xs.map (Value.int k)).drop (o + segsLen new)) :
    Spliced (.ints k m xs :: ss) o new (.ints k m ys :: ss) := by
  have hl := hr.1.1
  refine ⟨⟨hy, hr.2⟩, fun q hq _ => hq, rfl, by simp only [segsLen]; omega, fun σ => ?_⟩
  simp only [dens, Seg.den, hd σ, List.take_append, List.drop_append, List.length_map, hl]
  rw [show o - m = 0 by omega, show o + segsLen new - m = 0 by omega]
  simp
theorem spliced_cons {s : Seg} {ss new r : List Seg} {o : Nat} (hs : s.rng) (h : Spliced ss o new r) : Spliced (s :: ss) (o + s.len) new (s :: r) := by
  obtain ⟨h2, h3, h4, h5, h6⟩ := h
  have e : ∀ t : List Seg, segsLen (s :: t) = segsLen t + s.len := fun t => by cases s <;> rfl
  have hlen : ∀ σ, (s.den σ).length = s.len := fun σ => by cases s with
    | one c => rfl
    | ints k m xs => simpa [Seg.den, Seg.len] using hs.1
  refine ⟨⟨hs, h2⟩, fun q hq hq' => ?_, by rw [e, e, h4], by rw [e]; omega, fun σ => ?_⟩
  · simp only [bnds, Bool.and_eq_true] at hq ⊢
    exact ⟨hq.1, h3 q hq.2 hq'⟩
  · simp only [dens, h6 σ, List.take_append, List.drop_append, hlen σ]
    rw [List.take_of_length_le (l := s.den σ) (by rw [hlen σ]; omega), List.drop_of_length_le (l := s.den σ) (by rw [hlen σ]; omega)]
    simp [show o + s.len - s.len = o by omega, show o + s.len + segsLen new - s.len = o + segsLen new by omega]
theorem segWr_spec : ∀ {ss : List Seg} {o : Nat} {new : List Seg} {K : List Seg → Prop}, segWr ss o new K → rngs ss → rngs new → ∃ r, K r ∧ Spliced ss o new r
  | [], 0, new, K, h, hr, hn => by simp only [segWr] at h; exact segPut_spec h hr hn
  | .one _ :: _, 0, new, K, h, hr, hn => by simp only [segWr] at h; exact segPut_spec h hr hn
  | .ints _ _ _ :: _, 0, new, K, h, hr, hn => by simp only [segWr] at h; exact segPut_spec h hr hn
  | [], _ + 1, _, _, h, _, _ => by simp only [segWr] at h
  | .one c :: ss, o + 1, new, K, h, hr, hn => by
    simp only [segWr] at h
    obtain ⟨r, h1, h2⟩ := segWr_spec h hr.2 hn
    exact ⟨_, h1, spliced_cons hr.1 h2⟩
  | .ints k m xs :: ss, o + 1, new, K, h, hr, hn => by
    simp only [segWr] at h
    have hl := hr.1.1
    cases hb : Nat.ble m (o + 1) with
    | true =>
      rw [hb] at h
      have hle : m ≤ o + 1 := Nat.le_of_ble_eq_true hb
      obtain ⟨r, h1, h2⟩ := segWr_spec (ss := ss) (o := o + 1 - m) h hr.2 hn
      refine ⟨_, h1, ?_⟩
      have := spliced_cons (s := .ints k m xs) hr.1 h2
      rwa [show o + 1 - m + Seg.len (.ints k m xs) = o + 1 by simp only [Seg.len]; omega] at this
    | false =>
      rw [hb] at h
      have hlt : o + 1 < m := by
        rcases Nat.lt_or_ge (o + 1) m with h' | h'
        · exact h'
        · rw [Nat.ble_eq_true_of_le h'] at hb; cases hb
      match new, h, hn with
      | [.one (.ci k' v)], h, hn =>
        simp only at h
        cases hk : sameK k k' with
        | false => rw [hk] at h; exact h.elim
        | true =>
          obtain rfl := sameK_eq hk
          rw [hk] at h
          exact ⟨_, h, spliced_cons_ints hr hn ⟨by simp; omega, mem_set_in hr.1.2 hn.1⟩ (by simp only [segsLen]; omega) fun σ => by simp [map_set xs v (o + 1) (by omega), dens, Seg.den, C.den, segsLen]⟩
      | [.ints k' n ys], h, hn =>
        simp only at h
        cases hk : sameK k k' with
        | false => rw [hk] at h; exact h.elim
        | true =>
          obtain rfl := sameK_eq hk
          rw [hk] at h
          cases hc : Nat.ble (o + 1 + n) m with
          | false => rw [hc] at h; exact h.elim
          | true =>
            rw [hc] at h
            have hle : o + 1 + n ≤ m := Nat.le_of_ble_eq_true hc
            have hl' := hn.1.1
            refine ⟨_, h, spliced_cons_ints hr hn ⟨by simp; omega, fun x hx => ?_⟩ (by simp only [segsLen]; omega) fun σ => by simp [dens, Seg.den, segsLen, List.map_take, List.map_drop]⟩
            rcases List.mem_append.1 hx with h' | h'
            · rcases List.mem_append.1 h' with h' | h'
              · exact hr.1.2 x (List.mem_of_mem_take h')
              · exact hn.1.2 x h'
            · exact hr.1.2 x (List.mem_of_mem_drop h')
def segWx : List Seg → Nat → Nat → List Seg → (List Seg → Prop) → Prop
  | [], _, _, _, _ => False
  | .one c :: ss, o, i, new, K => match o with | 0 => False | o + 1 => segWx ss o i new fun r => K (.one c :: r)
  | .ints k m xs :: ss, o, i, new, K => match o with
    | 0 => match new with
      | [.one (.ci k' v)] => match sameK k k' with
        | true => i < m ∧ K (.ints k m (xs.set i v) :: ss)
        | false => False
      | [.ints k' n ys] => match sameK k k' with
        | true => i + n ≤ m ∧ K (.ints k m (xs.take i ++ ys ++ xs.drop (i + n)) :: ss)
        | false => False
      | _ => False
    | o + 1 => match Nat.ble m (o + 1) with
      | true => segWx ss (o + 1 - m) i new fun r => K (.ints k m xs :: r)
      | false => False
theorem segWx_spec : ∀ {ss : List Seg} {o i : Nat} {new : List Seg} {K : List Seg → Prop}, segWx ss o i new K → rngs ss → rngs new → ∃ r, K r ∧ Spliced ss (o + i) new r
  | [], _, _, _, _, h, _, _ => h.elim
  | .one c :: ss, 0, i, new, K, h, hr, hn => h.elim
  | .one c :: ss, o + 1, i, new, K, h, hr, hn => by
    obtain ⟨r, h1, h2⟩ := segWx_spec (ss := ss) (o := o) h hr.2 hn
    refine ⟨_, h1, ?_⟩
    have := spliced_cons (s := .one c) hr.1 h2
    rwa [show o + i + Seg.len (.one c) = o + 1 + i by simp only [Seg.len]; omega] at this
  | .ints k m xs :: ss, o + 1, i, new, K, h, hr, hn => by
    simp only [segWx] at h
    cases hb : Nat.ble m (o + 1) with
    | false => rw [hb] at h; exact h.elim
    | true =>
      rw [hb] at h
      have hle : m ≤ o + 1 := Nat.le_of_ble_eq_true hb
      obtain ⟨r, h1, h2⟩ := segWx_spec (ss := ss) (o := o + 1 - m) h hr.2 hn
      refine ⟨_, h1, ?_⟩
      have := spliced_cons (s := .ints k m xs) hr.1 h2
      rwa [show o + 1 - m + i + Seg.len (.ints k m xs) = o + 1 + i by simp only [Seg.len]; omega] at this
  | .ints k m xs :: ss, 0, i, new, K, h, hr, hn => by
    have hl := hr.1.1
    simp only [segWx] at h
    rw [Nat.zero_add]
    match new, h, hn with
    | [.one (.ci k' v)], h, hn =>
      simp only at h
      cases hk : sameK k k' with
      | false => rw [hk] at h; exact h.elim
      | true =>
        obtain rfl := sameK_eq hk
        rw [hk] at h
        exact ⟨_, h.2, spliced_cons_ints hr hn ⟨by simp; omega, mem_set_in hr.1.2 hn.1⟩ (by have := h.1; simp only [segsLen]; omega) fun σ => by simp [map_set xs v i (by have := h.1; omega), dens, Seg.den, C.den, segsLen]⟩
    | [.ints k' n ys], h, hn =>
      simp only at h
      cases hk : sameK k k' with
      | false => rw [hk] at h; exact h.elim
      | true =>
        obtain rfl := sameK_eq hk
        rw [hk] at h
        have hl' := hn.1.1
        have hle := h.1
        refine ⟨_, h.2, spliced_cons_ints hr hn ⟨by simp; omega, fun x hx => ?_⟩ (by simp only [segsLen]; omega) fun σ => by simp [dens, Seg.den, segsLen, List.map_take, List.map_drop]⟩
        rcases List.mem_append.1 hx with h' | h'
        · rcases List.mem_append.1 h' with h' | h'
          · exact hr.1.2 x (List.mem_of_mem_take h')
          · exact hn.1.2 x h'
        · exact hr.1.2 x (List.mem_of_mem_drop h')
end Go.Proofs.YtaficaacogcblaaGreatDoor
set_option linter.all false
namespace Go.Proofs.YtaficaacogcblaaGreatDoor
open Go.RowKit (Below)
variable {Df : List Deferred}
inductive Ty where
  | int (k : IntKind) | bool | str | ptr (e : TypeId) | func | slice (e : TypeId) | arr (n : Nat) (e : TypeId) | st (fs : List (Nat × TypeId)) | map (k e : TypeId) | iface | other
def tyD : TypeDesc → Ty
  | .int k => .int k
  | .bool => .bool
  | .string => .str
  | .pointer e => .ptr e
  | .func _ _ _ => .func
  | .slice e => .slice e
  | .array n e => .arr n e
  | .struct fs => .st (fs.toList.map fun f => (f.offset, f.type))
  | .map k e => .map k e
  | .interface _ => .iface
  | _ => .other
def tyOf (P : Program) (t : TypeId) : Ty := match P.underlying t with | some d => tyD d | none => .other
theorem tyOf_arr {P : Program} {t : TypeId} {n : Nat} {e : TypeId} (h : tyOf P t = .arr n e) : P.underlying t = some (.array n e) := by
  unfold tyOf at h
  cases hu : P.underlying t with
  | none => rw [hu] at h; cases h
  | some d => rw [hu] at h; cases d <;> simp [tyD] at h; simp [h]
theorem tyOf_slice {P : Program} {t : TypeId} {e : TypeId} (h : tyOf P t = .slice e) : P.underlying t = some (.slice e) := by
  unfold tyOf at h
  cases hu : P.underlying t with
  | none => rw [hu] at h; cases h
  | some d => rw [hu] at h; cases d <;> simp [tyD] at h; simp [h]
theorem tyOf_int {P : Program} {t : TypeId} {k : IntKind} (h : tyOf P t = .int k) : P.underlying t = some (.int k) := by
  unfold tyOf at h
  cases hu : P.underlying t with
  | none => rw [hu] at h; cases h
  | some d => rw [hu] at h; cases d <;> simp [tyD] at h; simp [h]
theorem tyOf_str {P : Program} {t : TypeId} (h : tyOf P t = .str) : P.underlying t = some .string := by
  unfold tyOf at h
  cases hu : P.underlying t with
  | none => rw [hu] at h; cases h
  | some d => rw [hu] at h; cases d <;> simp [tyD] at h; rfl
theorem tyOf_st {P : Program} {t : TypeId} {fs : List (Nat × TypeId)} (h : tyOf P t = .st fs) : ∃ F : Array Field, P.underlying t = some (.struct F) ∧ fs = F.toList.map fun f => (f.offset, f.type) := by
  unfold tyOf at h
  cases hu : P.underlying t with
  | none => rw [hu] at h; cases h
  | some d => rw [hu] at h; cases d <;> simp [tyD] at h; exact ⟨_, rfl, h.symm⟩
theorem run_und {P : Program} {t : TypeId} {d : TypeDesc} (w : World) (h : P.underlying t = some d) : (underlying t).run P w = .ok d w := by
  simp [underlying, h]
theorem run_sizeOf {P : Program} {t : TypeId} {i : TypeInfo} (w : World) (h : P.info? t = some i) : (sizeOf t).run P w = .ok i.size w := by
  simp [sizeOf, typeInfo, h]
theorem run_typeInfo {P : Program} {t : TypeId} {i : TypeInfo} (w : World) (h : P.info? t = some i) : (typeInfo t).run P w = .ok i w := by
  simp [typeInfo, h]
theorem run_zero {P : Program} {t : TypeId} {i : TypeInfo} {v : Value} (w : World) (h : P.info? t = some i) (hz : i.zero = some v) : (zeroValue t).run P w = .ok v w := by
  simp [zeroValue, typeInfo, h, hz]
def isAg : Ty → Option Bool
  | .arr _ _ => some true
  | .st _ => some true
  | .other => none
  | _ => some false
theorem run_isAgg {P : Program} {t : TypeId} {b : Bool} (w : World) (h : isAg (tyOf P t) = some b) : (isAgg t).run P w = .ok b w := by
  unfold tyOf at h
  cases hu : P.underlying t with
  | none => rw [hu] at h; cases h
  | some d => rw [hu] at h; cases d <;> simp [tyD, isAg] at h <;> subst h <;> simp [isAgg, run_und w hu]
def getK : List V → Nat → (V → Prop) → Prop
  | [], _, K => K .any
  | x :: _, 0, K => K x
  | _ :: xs, n + 1, K => getK xs n K
theorem getK_iff : ∀ (fr : List V) (n : Nat) (K : V → Prop), getK fr n K ↔ K (fr.getD n .any)
  | [], _, _ => by simp [getK]
  | _ :: _, 0, _ => by simp [getK]
  | _ :: xs, n + 1, K => by simp [getK, getK_iff xs n K]
def leI (a b : Int) : Bool := decide (a ≤ b)
def constC : Value → Option C
  | .bool t => some (.cb t)
  | .int k n => match leI (lowK k) n, leI n (highK k) with
    | true, true => some (.ci k n)
    | _, _ => none
  | .string s => match Nat.ble s.size 9223372036854775807 with
    | true => some (.cs s)
    | false => none
  | .pointer none => some .cnil
  | .slice none 0 0 => some .csn
  | .nilIface => some (.cv .nilIface)
  | .nilFunc => some (.cv .nilFunc)
  | .map none => some (.cv (.map none))
  | _ => none
theorem constC_spec {v : Value} {c : C} (h : constC v = some c) : c.rng ∧ c.bnd 0 = true ∧ ∀ σ, c.den σ = v := by
  unfold constC at h
  split at h <;> try (cases h; exact ⟨trivial, rfl, fun _ => rfl⟩)
  · split at h
    · rename_i h1 h2
      cases h
      exact ⟨⟨of_decide_eq_true h1, of_decide_eq_true h2⟩, rfl, fun _ => rfl⟩
    · cases h
  · split at h
    · rename_i h1
      cases h
      exact ⟨Nat.le_of_ble_eq_true h1, rfl, fun _ => rfl⟩
    · cases h
  · cases h
def evK (fr : List V) (x : Operand) (K : V → Prop) : Prop :=
  match x with
  | .tmp t => getK fr t K
  | .const v => match constC v with
    | some c => K (.w (.c c))
    | none => match v with
      | .tuple ⟨[]⟩ => K undefV
      | _ => K .any
  | .global g => K (.w (.c (.cg g 0)))
  | .func f => K (.w (.c (.cf f [])))
theorem evK_spec {n : Nat} {fr : List V} (hf : FOk n fr) {x : Operand} {K : V → Prop} (h : evK fr x K) : ∃ v : V, v.ok n ∧ K v ∧ ∀ {Df : List Deferred} σ a, FRep Df σ a fr → v.rep σ (a.eval x) := by
  cases x with
  | tmp t =>
    have h' := (getK_iff fr t K).1 h
    refine ⟨_, ?_, h', fun σ a hr => ?_⟩
    · rcases Nat.lt_or_ge t fr.length with hlt | hge
      · rw [List.getD_eq_getElem?_getD, List.getElem?_eq_getElem hlt]
        exact hf.ok _ (List.getElem_mem hlt)
      · rw [List.getD_eq_getElem?_getD, List.getElem?_eq_none hge]
        exact ⟨trivial, rfl⟩
    · rcases Nat.lt_or_ge t fr.length with hlt | hge
      · have := hr.rep t fr[t] (List.getElem?_eq_getElem hlt)
        rw [List.getD_eq_getElem?_getD, List.getElem?_eq_getElem hlt]
        exact this
      · rw [List.getD_eq_getElem?_getD, List.getElem?_eq_none hge]
        trivial
  | const v =>
    simp only [evK] at h
    cases hc : constC v with
    | some c =>
      rw [hc] at h
      obtain ⟨h1, h2, h3⟩ := constC_spec hc
      exact ⟨.w (.c c), ⟨h1, C.bnd_mono (Nat.zero_le _) c h2⟩, h, fun σ a _ => (h3 σ).symm⟩
    | none =>
      rw [hc] at h
      simp only at h
      split at h
      · exact ⟨undefV, ⟨trivial, rfl⟩, h, fun σ a _ => undefV_rep σ⟩
      · exact ⟨.any, ⟨trivial, rfl⟩, h, fun σ a _ => trivial⟩
  | global g => exact ⟨.w (.c (.cg g 0)), ⟨trivial, rfl⟩, h, fun σ a _ => rfl⟩
  | func f => exact ⟨.w (.c (.cf f [])), ⟨trivial, rfl⟩, h, fun σ a _ => rfl⟩
def evC (fr : List V) (x : Operand) (K : C → Prop) : Prop :=
  evK fr x fun v => match v with
    | .w (.c c) => K c
    | _ => False
theorem evC_spec {n : Nat} {fr : List V} (hf : FOk n fr) {x : Operand} {K : C → Prop} (h : evC fr x K) : ∃ c : C, c.rng ∧ c.bnd n = true ∧ K c ∧ ∀ {Df : List Deferred} σ a, FRep Df σ a fr → a.eval x = c.den σ := by
  obtain ⟨v, h1, h2, h3⟩ := evK_spec hf h
  split at h2
  · exact ⟨_, h1.1, h1.2, h2, h3⟩
  · exact h2.elim
def evW (fr : List V) (x : Operand) (K : W → Prop) : Prop :=
  evK fr x fun v => match v with
    | .w c => K c
    | _ => False
theorem evW_spec {n : Nat} {fr : List V} (hf : FOk n fr) {x : Operand} {K : W → Prop} (h : evW fr x K) : ∃ c : W, c.rng ∧ c.bnd n = true ∧ K c ∧ ∀ {Df : List Deferred} σ a, FRep Df σ a fr → a.eval x = c.den σ := by
  obtain ⟨v, h1, h2, h3⟩ := evK_spec hf h
  split at h2
  · exact ⟨_, h1.1, h1.2, h2, h3⟩
  · exact h2.elim
def evWs (fr : List V) : List Operand → (List W → Prop) → Prop
  | [], K => K []
  | x :: xs, K => evW fr x fun c => evWs fr xs fun cs => K (c :: cs)
theorem evWs_spec {n : Nat} {fr : List V} (hf : FOk n fr) : ∀ {xs : List Operand} {K : List W → Prop}, evWs fr xs K → ∃ cs : List W, rngW cs ∧ bndW n cs = true ∧ K cs ∧ ∀ {Df : List Deferred} σ a, FRep Df σ a fr → xs.map a.eval = cs.map (W.den σ)
  | [], K, h => ⟨[], trivial, rfl, h, fun _ _ _ => rfl⟩
  | x :: xs, K, h => by
    obtain ⟨c, h1, h2, h3, h4⟩ := evW_spec hf h
    obtain ⟨cs, k1, k2, k3, k4⟩ := evWs_spec hf h3
    refine ⟨c :: cs, ⟨h1, k1⟩, by simp only [bndW, h2, k2, Bool.and_self], k3, fun σ a hr => ?_⟩
    simp only [List.map_cons, h4 σ a hr, k4 σ a hr]
def hGet : List Blk → Nat → (Blk → Prop) → Prop
  | [], _, _ => False
  | b :: _, 0, K => K b
  | _ :: H, n + 1, K => hGet H n K
theorem hGet_spec : ∀ {H : List Blk} {n : Nat} {K : Blk → Prop}, hGet H n K → ∃ b, H[n]? = some b ∧ K b
  | [], _, _, h => h.elim
  | b :: _, 0, _, h => ⟨b, rfl, h⟩
  | _ :: H, n + 1, _, h => by obtain ⟨b, h1, h2⟩ := hGet_spec (H := H) h; exact ⟨b, by simpa using h1, h2⟩
def Addr.of (σ : Sg) : C → Addr
  | .cp j o => σ.at j o
  | .cpi j o i => σ.at j (o + i)
  | .cg g o => ⟨g, o, none⟩
  | .cgi g o i => ⟨g, o + i, none⟩
  | _ => ⟨0, 0, none⟩
def lookA (G : Glo) (H : List Blk) (c : C) (K : List Seg → Nat → Option Nat → Prop) : Prop :=
  match c with
  | .cp j o => hGet H j fun b => match b with
    | .own _ ss => K ss o none
    | .ro ss => K ss o none
    | _ => False
  | .cpi j o i => hGet H j fun b => match b with
    | .own _ ss => K ss o (some i)
    | .ro ss => K ss o (some i)
    | _ => False
  | .cg g o => match G g with
    | some ss => K ss o none
    | none => False
  | .cgi g o i => match G g with
    | some ss => K ss o (some i)
    | none => False
  | _ => False
structure Reads (w : World) (a : Addr) (cs : List Value) : Prop where
  spot : a.spot = none
  cell : ∀ i v, cs[i]? = some v → w.cell? ⟨a.block, a.off + i, none⟩ = some v
theorem rep_reads {G : Glo} {σ : Sg} {base : Nat} {w₀ w : World} {H : List Blk} (h : Rep G σ base w₀ w H) {j : Nat} {ss : List Seg}
    (hj : (∃ T, H[j]? = some (.own T ss)) ∨ H[j]? = some (.ro ss)) (o : Nat) : Reads w (σ.at j o) ((dens σ ss).drop o) := by
  refine ⟨rfl, fun i v hv => ?_⟩
  rw [List.getElem?_drop] at hv
  rcases hj with ⟨T, hj⟩ | hj
  · obtain ⟨h1, _, h3⟩ := h.blk j _ hj
    simp only [Sg.at, World.cell?, h3]
    simpa [h1] using hv
  · have := (h.blk j _ hj).2 (o + i) v hv
    simpa [Sg.at, Nat.add_assoc] using this
theorem glo_reads {G : Glo} {σ : Sg} {base : Nat} {w₀ w : World} {H : List Blk} (h : Rep G σ base w₀ w H) {g : Nat} {ss : List Seg} (hg : G g = some ss) (o : Nat) : Reads w ⟨g, o, none⟩ ((dens σ ss).drop o) := by
  refine ⟨rfl, fun i v hv => ?_⟩
  rw [List.getElem?_drop] at hv
  exact (h.glo g ss hg).2.2 (o + i) v hv
structure GOk (G : Glo) : Prop where
  rng : ∀ g ss, G g = some ss → rngs ss ∧ bnds 0 ss = true
theorem lookA_spec {G : Glo} (hG : GOk G) {H : List Blk} (ho : HOk H) {c : C} {K : List Seg → Nat → Option Nat → Prop} (h : lookA G H c K) :
    ∃ ss o i, K ss o i ∧ rngs ss ∧ bnds H.length ss = true ∧ (∀ σ, c.den σ = .pointer (some (Addr.of σ c))) ∧ ∀ σ base w₀ w, Rep G σ base w₀ w H → Reads w (Addr.of σ c) ((dens σ ss).drop (o + i.getD 0)) := by
  cases c with
  | cp j o =>
    obtain ⟨b, h1, h2⟩ := hGet_spec h
    cases b with
    | own T ss => exact ⟨ss, o, none, h2, ho.rng _ (List.mem_of_getElem? h1), ho.bnd _ (List.mem_of_getElem? h1), fun _ => rfl, fun σ base w₀ w hr => rep_reads hr (.inl ⟨T, h1⟩) o⟩
    | ro ss => exact ⟨ss, o, none, h2, ho.rng _ (List.mem_of_getElem? h1), ho.bnd _ (List.mem_of_getElem? h1), fun _ => rfl, fun σ base w₀ w hr => rep_reads hr (.inr h1) o⟩
    | _ => exact h2.elim
  | cpi j o i =>
    obtain ⟨b, h1, h2⟩ := hGet_spec h
    cases b with
    | own T ss => exact ⟨ss, o, some i, h2, ho.rng _ (List.mem_of_getElem? h1), ho.bnd _ (List.mem_of_getElem? h1), fun _ => rfl, fun σ base w₀ w hr => rep_reads hr (.inl ⟨T, h1⟩) (o + i)⟩
    | ro ss => exact ⟨ss, o, some i, h2, ho.rng _ (List.mem_of_getElem? h1), ho.bnd _ (List.mem_of_getElem? h1), fun _ => rfl, fun σ base w₀ w hr => rep_reads hr (.inr h1) (o + i)⟩
    | _ => exact h2.elim
  | cg g o =>
    simp only [lookA] at h
    cases hg : G g with
    | none => rw [hg] at h; exact h.elim
    | some ss =>
      rw [hg] at h
      obtain ⟨h1, h2⟩ := hG.rng g ss hg
      exact ⟨ss, o, none, h, h1, bnds_mono (Nat.zero_le _) ss h2, fun _ => rfl, fun σ base w₀ w hr => glo_reads hr hg o⟩
  | cgi g o i =>
    simp only [lookA] at h
    cases hg : G g with
    | none => rw [hg] at h; exact h.elim
    | some ss =>
      rw [hg] at h
      obtain ⟨h1, h2⟩ := hG.rng g ss hg
      exact ⟨ss, o, some i, h, h1, bnds_mono (Nat.zero_le _) ss h2, fun _ => rfl, fun σ base w₀ w hr => glo_reads hr hg (o + i)⟩
  | _ => exact h.elim
def oneAt : List Seg → Nat → Bool
  | [], _ => false
  | .one _ :: ss, o => match o with | 0 => true | o + 1 => oneAt ss o
  | .ints _ m _ :: ss, o => match o with
    | 0 => false
    | o + 1 => match Nat.ble m (o + 1) with
      | true => oneAt ss (o + 1 - m)
      | false => false
def kLoad0 (P : Program) (T : TypeId) (ss : List Seg) (o : Nat) (i : Option Nat) (K : W → Prop) : Prop :=
  match isAg (tyOf P T), i with
  | some true, none => match P.info? T with
    | some inf => segRd ss o inf.size fun r => K (.agg r)
    | none => False
  | some true, some i => match P.info? T with
    | some inf => segIx ss o fun k m xs => i + inf.size ≤ m ∧ K (.agg [.ints k inf.size ((xs.drop i).take inf.size)])
    | none => False
  | some false, none => segAt ss o fun c => K (.c c)
  | some false, some i => segIx ss o fun k m xs => i < m ∧ (InK k (xs.getD i 0) → K (.c (.ci k (xs.getD i 0))))
  | none, _ => False
def kLoad (P : Program) (T : TypeId) (ss : List Seg) (o : Nat) (i : Option Nat) (K : W → Prop) : Prop :=
  match i with
  | none => kLoad0 P T ss o none K
  | some i => match oneAt ss o with
    | true => kLoad0 P T ss (o + i) none K
    | false => kLoad0 P T ss o (some i) K
theorem add_ne {a : Addr} (h : a.spot = none) (j : Nat) : a.add j = ⟨a.block, a.off + j, none⟩ := by
  unfold Addr.add
  split
  · subst_vars; cases a; simp_all
  · rfl
theorem kLoad0_spec {P : Program} {T : TypeId} {ss : List Seg} {o : Nat} {i : Option Nat} {K : W → Prop} (h : kLoad0 P T ss o i K) (hr : rngs ss) {n : Nat} (hb : bnds n ss = true) :
    ∃ x : W, x.rng ∧ x.bnd n = true ∧ K x ∧ ∀ σ w a, Reads w a ((dens σ ss).drop (o + i.getD 0)) → (loadVar T a).run P w = .ok (x.den σ) w := by
  unfold kLoad0 at h
  cases hag : isAg (tyOf P T) with
  | none => rw [hag] at h; exact h.elim
  | some b =>
    rw [hag] at h
    cases b with
    | true =>
      cases hi : P.info? T with
      | none => rw [hi] at h; cases i <;> exact h.elim
      | some inf =>
        rw [hi] at h
        have fin : ∀ (σ : Sg) (w : World) (a : Addr) (cs r : List Value), Reads w a cs → r = cs.take inf.size → inf.size ≤ cs.length → (loadVar T a).run P w = .ok (.agg r.toArray) w := fun σ w a cs r hrd e hle => by
          have hl : r.length = inf.size := by rw [e]; simp; omega
          have := run_loadCells_list (P := P) w a r (fun j v hv => by
            rw [add_ne hrd.spot]
            refine hrd.cell j v ?_
            rw [e, List.getElem?_take] at hv
            split at hv
            · exact hv
            · cases hv)
          rw [hl] at this
          simp [loadVar, run_isAgg w hag, run_sizeOf w hi, this]
        cases i with
        | none =>
          simp only at h
          obtain ⟨r, h1, h2, h3, h4, h5⟩ := segRd_spec h hr
          refine ⟨.agg r, h2, h3 n hb, h1, fun σ w a hrd => ?_⟩
          rw [Option.getD_none, Nat.add_zero] at hrd
          exact fin σ w a _ _ hrd (h5 σ) (by rw [List.length_drop, dens_len σ hr]; omega)
        | some i =>
          simp only at h
          obtain ⟨k, m, xs, h1, h2, h3, h4⟩ := segIx_spec h hr
          have hl := h2.1
          refine ⟨.agg [.ints k inf.size ((xs.drop i).take inf.size)], ⟨⟨by simp; omega, fun x hx => h2.2 x (List.mem_of_mem_drop (List.mem_of_mem_take hx))⟩, trivial⟩, rfl, h1.2, fun σ w a hrd => ?_⟩
          rw [Option.getD_some] at hrd
          refine fin σ w a _ _ hrd ?_ (by rw [List.length_drop, dens_len σ hr]; omega)
          simp only [dens, Seg.den, List.append_nil]
          apply List.ext_getElem?
          intro q
          rcases Nat.lt_or_ge q inf.size with hq | hq
          · have := h4 σ (i + q) (by omega)
            rw [List.getElem?_take, if_pos hq, List.getElem?_drop, show o + i + q = o + (i + q) by omega, this]
            have hlt : i + q < xs.length := by omega
            simp [hq, List.getD_eq_getElem?_getD, hlt]
          · rw [List.getElem?_eq_none (by simp; omega), List.getElem?_eq_none (by simp; omega)]
    | false =>
      have fin : ∀ (w : World) (a : Addr) (cs : List Value) (v : Value), Reads w a cs → cs[0]? = some v → (loadVar T a).run P w = .ok v w := fun w a cs v hrd hv => by
        have := hrd.cell 0 v hv
        have e : (⟨a.block, a.off + 0, none⟩ : Addr) = a := by have := hrd.spot; cases a; simp_all
        rw [e] at this
        simp [loadVar, run_isAgg w hag, this]
      cases i with
      | none =>
        simp only at h
        obtain ⟨c, h1, h2, h3, h4, h5⟩ := segAt_spec h hr
        refine ⟨.c c, h2, h3 n hb, h1, fun σ w a hrd => ?_⟩
        exact fin w a _ _ hrd (by rw [List.getElem?_drop]; exact h5 σ)
      | some i =>
        simp only at h
        obtain ⟨k, m, xs, h1, h2, h3, h4⟩ := segIx_spec h hr
        have hin := getD_in h2 h1.1
        refine ⟨.c (.ci k (xs.getD i 0)), hin, rfl, h1.2 hin, fun σ w a hrd => ?_⟩
        exact fin w a _ _ hrd (by rw [List.getElem?_drop]; exact h4 σ i h1.1)
theorem kLoad_spec {P : Program} {T : TypeId} {ss : List Seg} {o : Nat} {i : Option Nat} {K : W → Prop} (h : kLoad P T ss o i K) (hr : rngs ss) {n : Nat} (hb : bnds n ss = true) :
    ∃ x : W, x.rng ∧ x.bnd n = true ∧ K x ∧ ∀ σ w a, Reads w a ((dens σ ss).drop (o + i.getD 0)) → (loadVar T a).run P w = .ok (x.den σ) w := by
  unfold kLoad at h
  split at h
  · exact kLoad0_spec h hr hb
  · rename_i i
    split at h
    · have := kLoad0_spec h hr hb
      simpa using this
    · exact kLoad0_spec h hr hb
end Go.Proofs.YtaficaacogcblaaGreatDoor
set_option linter.all false
namespace Go.Proofs.YtaficaacogcblaaGreatDoor
open Go.RowKit (Below)
def bitsI (op : BinOp) (k : IntKind) (x y : Int) : Int :=
  let a := BitVec.ofInt k.bits x
  let b := BitVec.ofInt k.bits y
  match op with
  | .and => k.wrap (a &&& b).toNat
  | .or => k.wrap (a ||| b).toNat
  | .xor => k.wrap (a ^^^ b).toNat
  | _ => k.wrap (a &&& ~~~b).toNat
def kBin (op : BinOp) (x y : C) (K : C → Prop) : Prop :=
  match x, y with
  | .ci k a, .ci k' b =>
    match op with
    | .shl => 0 ≤ b ∧ ∀ r, r = k.wrap (a * 2 ^ (min b.toNat k.bits)) → K (.ci k r)
    | .shr => 0 ≤ b ∧ ∀ r, r = a.fdiv (2 ^ (min b.toNat k.bits)) → K (.ci k r)
    | _ => match sameK k k' with
      | false => False
      | true => match op with
        | .add => ∀ r, r = k.wrap (a + b) → K (.ci k r)
        | .sub => ∀ r, r = k.wrap (a - b) → K (.ci k r)
        | .mul => ∀ r, r = k.wrap (a * b) → K (.ci k r)
        | .quo => b ≠ 0 ∧ ∀ r, r = k.wrap (a.tdiv b) → K (.ci k r)
        | .rem => b ≠ 0 ∧ ∀ r, r = a.tmod b → K (.ci k r)
        | .eql => ∀ t, t = decide (a = b) → K (.cb t)
        | .neq => ∀ t, t = decide (a ≠ b) → K (.cb t)
        | .lss => ∀ t, t = decide (a < b) → K (.cb t)
        | .leq => ∀ t, t = decide (a ≤ b) → K (.cb t)
        | .gtr => ∀ t, t = decide (b < a) → K (.cb t)
        | .geq => ∀ t, t = decide (b ≤ a) → K (.cb t)
        | .and | .or | .xor | .andNot => ∀ r, r = bitsI op k a b → K (.ci k r)
        | _ => False
  | .cs a, .cs b =>
    match op with
    | .add => a.size + b.size ≤ 9223372036854775807 ∧ K (.cs (a ++ b))
    | .eql => ∀ t, t = decide (a = b) → K (.cb t)
    | .neq => ∀ t, t = decide (a ≠ b) → K (.cb t)
    | _ => False
  | _, _ => False
theorem toList_inj {a b : ByteArray} : a.toList = b.toList ↔ a = b := by
  constructor
  · intro h
    rw [ByteArray.toList_eq, ByteArray.toList_eq] at h
    cases a; cases b; simp at h; simp [h]
  · rintro rfl; rfl
theorem toList_beq (a b : ByteArray) : (a.toList == b.toList) = decide (a = b) := by
  rw [Bool.eq_iff_iff]; simp [toList_inj]
theorem shr_in {k : IntKind} {a : Int} (h : InK k a) (n : Nat) : InK k (a.fdiv (2 ^ n)) := by
  have hp : (0 : Int) < 2 ^ n := Int.pow_pos (by omega)
  rw [Int.fdiv_eq_ediv_of_nonneg _ (Int.le_of_lt hp)]
  have key : ∀ lo hi : Int, lo ≤ 0 → 0 ≤ hi → lo ≤ a → a ≤ hi → lo ≤ a / 2 ^ n ∧ a / 2 ^ n ≤ hi := fun lo hi h1 h2 h3 h4 => by
    have h1p : (1 : Int) ≤ 2 ^ n := hp
    constructor
    · refine (Int.le_ediv_iff_mul_le hp).2 ?_
      have : lo * 2 ^ n ≤ lo * 1 := Int.mul_le_mul_of_nonpos_left h1 h1p
      omega
    · rcases Int.lt_or_le a 0 with h | h
      · have : a / 2 ^ n < 0 := Int.ediv_neg_of_neg_of_pos h hp
        omega
      · have : a / 2 ^ n ≤ a := Int.ediv_le_self _ h
        omega
  exact key _ _ (by cases k <;> simp [lowK]) (by cases k <;> simp [highK]) h.1 h.2
theorem rem_in {k : IntKind} {a b : Int} (h : InK k a) (h0 : b ≠ 0) : InK k (a.tmod b) := by
  have h1 : lowK k ≤ 0 := by cases k <;> simp [lowK]
  have h2 : 0 ≤ highK k := by cases k <;> simp [highK]
  obtain ⟨h3, h4⟩ := h
  rcases Int.lt_or_le a 0 with hn | hp
  · have e : a.tmod b = -((-a).tmod b) := by rw [Int.neg_tmod]; omega
    have h5 := Int.tmod_nonneg b (show 0 ≤ -a by omega)
    have h6 : (-a).tmod b ≤ -a := by
      have := Int.tmod_add_mul_tdiv (-a) b
      have hq : 0 ≤ b * (-a).tdiv b := by
        rcases Int.lt_or_le b 0 with hb | hb
        · have : (-a).tdiv b ≤ 0 := Int.tdiv_nonpos_of_nonneg_of_nonpos (by omega) (by omega)
          exact Int.mul_nonneg_of_nonpos_of_nonpos (by omega) this
        · exact Int.mul_nonneg hb (Int.tdiv_nonneg (by omega) hb)
      omega
    constructor <;> omega
  · have h5 := Int.tmod_nonneg b hp
    have h6 : a.tmod b ≤ a := by
      have := Int.tmod_add_mul_tdiv a b
      have hq : 0 ≤ b * a.tdiv b := by
        rcases Int.lt_or_le b 0 with hb | hb
        · have : a.tdiv b ≤ 0 := Int.tdiv_nonpos_of_nonneg_of_nonpos hp (by omega)
          exact Int.mul_nonneg_of_nonpos_of_nonpos (by omega) this
        · exact Int.mul_nonneg hb (Int.tdiv_nonneg hp hb)
      omega
    constructor <;> omega
theorem beq_dec (a b : Int) : (a == b) = decide (a = b) := by rw [Bool.eq_iff_iff]; simp
theorem kBin_spec {op : BinOp} {x y : C} {K : C → Prop} (h : kBin op x y K) (hx : x.rng) :
    ∃ c : C, c.rng ∧ c.bnd 0 = true ∧ K c ∧ ∀ P t σ w, (binOp op t (x.den σ) (y.den σ)).run P w = .ok (c.den σ) w ∧ ∀ u v, (eqGuard op t u v (x.den σ) (y.den σ)).run P w = .ok () w := by
  have hgi : ∀ (P : Program) (t : TypeId) (w : World) (u v : Operand) (k : IntKind) (a : Int) (b : Value), (eqGuard op t u v (.int k a) b).run P w = .ok () w := by
    intro P t w u v k a b
    unfold eqGuard
    cases op <;> simp
  have hgs : ∀ (P : Program) (t : TypeId) (w : World) (u v : Operand) (a : ByteArray) (b : Value), (eqGuard op t u v (.string a) b).run P w = .ok () w := by
    intro P t w u v a b
    unfold eqGuard
    cases op <;> simp
  unfold kBin at h
  split at h
  · rename_i k a k' b
    have eg : ∀ (P : Program) (t : TypeId) (σ : Sg) (w : World), ∀ u v, (eqGuard op t u v ((C.ci k a).den σ) ((C.ci k' b).den σ)).run P w = .ok () w := fun P t σ w u v => hgi P t w u v _ _ _
    split at h
    · refine ⟨.ci k _, inK_wrap k _, rfl, h.2 _ rfl, fun P t σ w => ⟨?_, eg P t σ w⟩⟩
      simp [C.den, binOp, Op.shift, Int.not_lt.2 h.1]
    · refine ⟨.ci k _, shr_in hx _, rfl, h.2 _ rfl, fun P t σ w => ⟨?_, eg P t σ w⟩⟩
      simp [C.den, binOp, Op.shift, Int.not_lt.2 h.1]
    · split at h
      · exact h.elim
      · rename_i hk
        obtain rfl := sameK_eq hk
        split at h
        · exact ⟨.ci k _, inK_wrap k _, rfl, h _ rfl, fun P t σ w => ⟨by simp [C.den, binOp, Op.intArith], eg P t σ w⟩⟩
        · exact ⟨.ci k _, inK_wrap k _, rfl, h _ rfl, fun P t σ w => ⟨by simp [C.den, binOp, Op.intArith], eg P t σ w⟩⟩
        · exact ⟨.ci k _, inK_wrap k _, rfl, h _ rfl, fun P t σ w => ⟨by simp [C.den, binOp, Op.intArith], eg P t σ w⟩⟩
        · exact ⟨.ci k _, inK_wrap k _, rfl, h.2 _ rfl, fun P t σ w => ⟨by simp [C.den, binOp, Op.intDiv, h.1], eg P t σ w⟩⟩
        · exact ⟨.ci k _, rem_in hx h.1, rfl, h.2 _ rfl, fun P t σ w => ⟨by simp [C.den, binOp, Op.intDiv, h.1], eg P t σ w⟩⟩
        · exact ⟨.cb _, trivial, rfl, h _ rfl, fun P t σ w => ⟨by simp [C.den, binOp, Op.intCmp, beq_dec], eg P t σ w⟩⟩
        · exact ⟨.cb _, trivial, rfl, h _ rfl, fun P t σ w => ⟨by simp [C.den, binOp, Op.intCmp, bne, beq_dec], eg P t σ w⟩⟩
        · exact ⟨.cb _, trivial, rfl, h _ rfl, fun P t σ w => ⟨by simp [C.den, binOp, Op.intCmp], eg P t σ w⟩⟩
        · exact ⟨.cb _, trivial, rfl, h _ rfl, fun P t σ w => ⟨by simp [C.den, binOp, Op.intCmp], eg P t σ w⟩⟩
        · exact ⟨.cb _, trivial, rfl, h _ rfl, fun P t σ w => ⟨by simp [C.den, binOp, Op.intCmp], eg P t σ w⟩⟩
        · exact ⟨.cb _, trivial, rfl, h _ rfl, fun P t σ w => ⟨by simp [C.den, binOp, Op.intCmp], eg P t σ w⟩⟩
        · exact ⟨.ci k _, inK_wrap k _, rfl, h _ rfl, fun P t σ w => ⟨by simp [C.den, binOp, Op.intBits, bitsI], eg P t σ w⟩⟩
        · exact ⟨.ci k _, inK_wrap k _, rfl, h _ rfl, fun P t σ w => ⟨by simp [C.den, binOp, Op.intBits, bitsI], eg P t σ w⟩⟩
        · exact ⟨.ci k _, inK_wrap k _, rfl, h _ rfl, fun P t σ w => ⟨by simp [C.den, binOp, Op.intBits, bitsI], eg P t σ w⟩⟩
        · exact ⟨.ci k _, inK_wrap k _, rfl, h _ rfl, fun P t σ w => ⟨by simp [C.den, binOp, Op.intBits, bitsI], eg P t σ w⟩⟩
        · exact h.elim
  · rename_i a b
    have eg : ∀ (P : Program) (t : TypeId) (σ : Sg) (w : World), ∀ u v, (eqGuard op t u v ((C.cs a).den σ) ((C.cs b).den σ)).run P w = .ok () w := fun P t σ w u v => hgs P t w u v _ _
    split at h
    · refine ⟨.cs (a ++ b), by simpa [C.rng, ByteArray.size_append] using h.1, rfl, h.2, fun P t σ w => ⟨?_, eg P t σ w⟩⟩
      have : ¬ ((a.size + b.size : Nat) : Int) > IntKind.i64.max := by
        have := h.1
        simp [IntKind.max, IntKind.signed, IntKind.bits]; omega
      simp only [C.den, binOp, Op.stringOp, this, if_false, Sem.run_pure]
    · exact ⟨.cb _, trivial, rfl, h _ rfl, fun P t σ w => ⟨by simp [C.den, binOp, Op.stringOp, toList_beq], eg P t σ w⟩⟩
    · exact ⟨.cb _, trivial, rfl, h _ rfl, fun P t σ w => ⟨by simp [C.den, binOp, Op.stringOp, toList_beq], eg P t σ w⟩⟩
    · exact h.elim
  · exact h.elim
def kUn (op : UnOp) (x : C) (K : C → Prop) : Prop :=
  match op, x with
  | .neg, .ci k n => ∀ r, r = k.wrap (0 - n) → K (.ci k r)
  | .not, .cb t => K (.cb (!t))
  | .xor, .ci k n => ∀ r, r = bitsI .xor k (if k.signed then -1 else k.max) n → K (.ci k r)
  | _, _ => False
theorem kUn_spec {op : UnOp} {x : C} {K : C → Prop} (h : kUn op x K) : ∃ c : C, c.rng ∧ c.bnd 0 = true ∧ K c ∧ ∀ P σ w, (Op.unary op (x.den σ)).run P w = .ok (c.den σ) w := by
  unfold kUn at h
  split at h
  · exact ⟨.ci _ _, inK_wrap _ _, rfl, h _ rfl, fun P σ w => by simp [C.den, Op.unary, Op.intArith]⟩
  · exact ⟨.cb _, trivial, rfl, h, fun P σ w => by simp [C.den, Op.unary]⟩
  · exact ⟨.ci _ _, inK_wrap _ _, rfl, h _ rfl, fun P σ w => by simp [C.den, Op.unary, Op.intBits, bitsI]⟩
  · exact h.elim
def kConv (P : Program) (s d : TypeId) (x : C) (K : C → Prop) : Prop :=
  match tyOf P d, x with
  | .int k, .ci _ n => match P.underlying s with
    | some _ => ∀ r, r = k.wrap n → K (.ci k r)
    | none => False
  | _, _ => False
theorem kConv_spec {P : Program} {s d : TypeId} {x : C} {K : C → Prop} (h : kConv P s d x K) : ∃ c : C, c.rng ∧ c.bnd 0 = true ∧ K c ∧ ∀ σ w, (convert s d (x.den σ)).run P w = .ok (c.den σ) w := by
  unfold kConv at h
  split at h
  · rename_i k _ n ht
    split at h
    · rename_i u hs
      refine ⟨.ci k _, inK_wrap k n, rfl, h _ rfl, fun σ w => ?_⟩
      simp [C.den, convert, run_und w hs, run_und w (tyOf_int ht), Conv.intToInt]
    · exact h.elim
  · exact h.elim
inductive K0 where
  | i (k : IntKind) | s
def cellIs : K0 → Value → Prop
  | .i k, .int k' _ => k = k'
  | .s, .string _ => True
  | _, _ => False
def shaped : List K0 → List Value → Prop
  | [], [] => True
  | k :: ks, v :: vs => cellIs k v ∧ shaped ks vs
  | _, _ => False
def EqOk (P : Program) (t : TypeId) (ks : List K0) : Prop :=
  ∀ X Y : List Value, shaped ks X → shaped ks Y → ∀ w, (∃ r : Bool, (Op.equal t (.agg X.toArray) (.agg Y.toArray)).run P w = .ok r w ∧ (r = true ↔ X = Y)) ∧
    ∀ op u v, (eqGuard op t u v (.agg X.toArray) (.agg Y.toArray)).run P w = .ok () w
def segsEq : List Seg → List Seg → (List K0 → Bool → Prop) → Prop
  | [], t, K => match t with
    | [] => K [] true
    | _ => False
  | .one (.ci k a) :: s, t, K => match t with
    | .one (.ci k' b) :: t => match sameK k k' with
      | true => segsEq s t fun ks r => K (.i k :: ks) (decide (a = b) && r)
      | false => False
    | _ => False
  | .one (.cs a) :: s, t, K => match t with
    | .one (.cs b) :: t => segsEq s t fun ks r => K (.s :: ks) (decide (a = b) && r)
    | _ => False
  | .one _ :: _, _, _ => False
  | .ints k n xs :: s, t, K => match t with
    | .ints k' m ys :: t => match sameK k k', Nat.beq n m with
      | true, true => segsEq s t fun ks r => K (List.replicate n (.i k) ++ ks) (decide (xs = ys) && r)
      | _, _ => False
    | _ => False
theorem shaped_append : ∀ {a b : List K0} {x y : List Value}, shaped a x → shaped b y → shaped (a ++ b) (x ++ y)
  | [], _, [], _, _, h => h
  | _ :: _, _, _ :: _, _, h, k => ⟨h.1, shaped_append h.2 k⟩
  | [], _, _ :: _, _, h, _ => h.elim
  | _ :: _, _, [], _, h, _ => h.elim
theorem shaped_ints (k : IntKind) : ∀ xs : List Int, shaped (List.replicate xs.length (.i k)) (xs.map (Value.int k))
  | [] => trivial
  | _ :: xs => ⟨rfl, shaped_ints k xs⟩
theorem map_int_inj {k : IntKind} : ∀ {xs ys : List Int}, xs.map (Value.int k) = ys.map (Value.int k) → xs = ys
  | [], [], _ => rfl
  | [], _ :: _, h => by simp at h
  | _ :: _, [], h => by simp at h
  | x :: xs, y :: ys, h => by simp at h; rw [h.1, map_int_inj h.2]
theorem segsEq_spec : ∀ {s t : List Seg} {K : List K0 → Bool → Prop}, segsEq s t K → rngs s → rngs t → ∃ ks r, K ks r ∧ ∀ σ, shaped ks (dens σ s) ∧ shaped ks (dens σ t) ∧ (r = true ↔ dens σ s = dens σ t)
  | [], [], K, h, _, _ => ⟨[], true, h, fun σ => ⟨trivial, trivial, by simp [dens]⟩⟩
  | [], _ :: _, K, h, _, _ => h.elim
  | .one (.ci k a) :: s, t, K, h, hs, ht => by
    simp only [segsEq] at h
    split at h
    · rename_i k' b t
      split at h
      · rename_i hk
        obtain rfl := sameK_eq hk
        obtain ⟨ks, r, h1, h2⟩ := segsEq_spec h hs.2 ht.2
        refine ⟨_, _, h1, fun σ => ?_⟩
        obtain ⟨h3, h4, h5⟩ := h2 σ
        refine ⟨⟨rfl, h3⟩, ⟨rfl, h4⟩, ?_⟩
        simp [dens, Seg.den, C.den, h5]
      · exact h.elim
    · exact h.elim
  | .one (.cs a) :: s, t, K, h, hs, ht => by
    simp only [segsEq] at h
    split at h
    · rename_i b t
      obtain ⟨ks, r, h1, h2⟩ := segsEq_spec h hs.2 ht.2
      refine ⟨_, _, h1, fun σ => ?_⟩
      obtain ⟨h3, h4, h5⟩ := h2 σ
      refine ⟨⟨trivial, h3⟩, ⟨trivial, h4⟩, ?_⟩
      simp [dens, Seg.den, C.den, h5]
    · exact h.elim
  | .one (.cb _) :: _, _, _, h, _, _ | .one (.cp _ _) :: _, _, _, h, _, _ | .one (.cpi _ _ _) :: _, _, _, h, _, _ | .one .cnil :: _, _, _, h, _, _ | .one (.cg _ _) :: _, _, _, h, _, _ | .one (.cgi _ _ _) :: _, _, _, h, _, _
  | .one (.csl _ _ _ _ _) :: _, _, _, h, _, _ | .one .csn :: _, _, _, h, _, _ | .one (.cm _) :: _, _, _, h, _, _ | .one (.cf _ _) :: _, _, _, h, _, _ | .one (.cv _) :: _, _, _, h, _, _ | .one (.cmv _ _ _) :: _, _, _, h, _, _ => h.elim
  | .ints k n xs :: s, t, K, h, hs, ht => by
    simp only [segsEq] at h
    split at h
    · rename_i k' m ys t
      split at h
      · rename_i hk hn
        obtain rfl := sameK_eq hk
        obtain rfl := Nat.eq_of_beq_eq_true hn
        obtain ⟨ks, r, h1, h2⟩ := segsEq_spec h hs.2 ht.2
        refine ⟨_, _, h1, fun σ => ?_⟩
        obtain ⟨h3, h4, h5⟩ := h2 σ
        have hl := hs.1.1
        have hl' := ht.1.1
        refine ⟨shaped_append ?_ h3, shaped_append ?_ h4, ?_⟩
        · rw [← hl]; exact shaped_ints k xs
        · rw [← hl']; exact shaped_ints k ys
        · simp only [Bool.and_eq_true, decide_eq_true_eq, h5, dens, Seg.den]
          constructor
          · rintro ⟨rfl, e⟩; rw [e]
          · intro e
            have hll : (xs.map (Value.int k)).length = (ys.map (Value.int k)).length := by simp; omega
            obtain ⟨e1, e2⟩ := List.append_inj e hll
            exact ⟨map_int_inj e1, e2⟩
      · exact h.elim
    · exact h.elim
def sameK0 : List K0 → List K0 → Bool
  | [], [] => true
  | .i k :: a, .i k' :: b => sameK k k' && sameK0 a b
  | .s :: a, .s :: b => sameK0 a b
  | _, _ => false
theorem sameK0_eq : ∀ {a b : List K0}, sameK0 a b = true → a = b
  | [], [], _ => rfl
  | .i k :: a, .i k' :: b, h => by simp only [sameK0, Bool.and_eq_true] at h; rw [sameK_eq h.1, sameK0_eq h.2]
  | .s :: a, .s :: b, h => by simp only [sameK0] at h; rw [sameK0_eq h]
  | [], _ :: _, h => by cases h
  | .i _ :: _, [], h => by cases h
  | .s :: _, [], h => by cases h
  | .i _ :: _, .s :: _, h => by cases h
  | .s :: _, .i _ :: _, h => by cases h
abbrev Eqs := TypeId → Option (List K0)
def kEq (EQ : Eqs) (neg : Bool) (t : TypeId) (a b : List Seg) (K : C → Prop) : Prop :=
  match EQ t with
  | none => False
  | some ks => segsEq a b fun ks' r => match sameK0 ks ks' with
    | true => ∀ τ, τ = (neg ^^ r) → K (.cb τ)
    | false => False
theorem kEq_spec {P : Program} {EQ : Eqs} (hE : ∀ t ks, EQ t = some ks → EqOk P t ks) {neg : Bool} {t : TypeId} {a b : List Seg} {K : C → Prop} (h : kEq EQ neg t a b K) (ha : rngs a) (hb : rngs b) :
    ∃ c : C, c.rng ∧ c.bnd 0 = true ∧ K c ∧ ∀ σ w, (binOp (if neg then .neq else .eql) t ((W.agg a).den σ) ((W.agg b).den σ)).run P w = .ok (c.den σ) w ∧ ∀ op u v, (eqGuard op t u v ((W.agg a).den σ) ((W.agg b).den σ)).run P w = .ok () w := by
  unfold kEq at h
  split at h
  · exact h.elim
  · rename_i ks hks
    obtain ⟨ks', r, h1, h2⟩ := segsEq_spec h ha hb
    split at h1
    · rename_i hs
      obtain rfl := sameK0_eq hs
      refine ⟨.cb _, trivial, rfl, h1 _ rfl, fun σ w => ?_⟩
      obtain ⟨h3, h4, h5⟩ := h2 σ
      obtain ⟨⟨r', h6, h7⟩, h8⟩ := hE t ks hks _ _ h3 h4 w
      have hrr : r' = r := by rw [Bool.eq_iff_iff, h7, h5]
      subst hrr
      refine ⟨?_, h8⟩
      cases neg <;> simp [W.den, C.den, binOp, h6]
    · exact h1.elim
end Go.Proofs.YtaficaacogcblaaGreatDoor
set_option linter.all false
namespace Go.Proofs.YtaficaacogcblaaGreatDoor
open Go.RowKit (Below)
theorem kLoad0_val {P : Program} {T : TypeId} {ss : List Seg} {o : Nat} {i : Option Nat} {K : W → Prop} (h : kLoad0 P T ss o i K) (hr : rngs ss) {n : Nat} (hb : bnds n ss = true) :
    ∃ x : W, x.rng ∧ x.bnd n = true ∧ K x ∧ ∀ σ w, (part T (dens σ ss).toArray (o + i.getD 0)).run P w = .ok (x.den σ) w := by
  unfold kLoad0 at h
  cases hag : isAg (tyOf P T) with
  | none => rw [hag] at h; exact h.elim
  | some b =>
    rw [hag] at h
    cases b with
    | true =>
      cases hi : P.info? T with
      | none => rw [hi] at h; cases i <;> exact h.elim
      | some inf =>
        rw [hi] at h
        have fin : ∀ (σ : Sg) (w : World) (q : Nat) (r : List Value), r = ((dens σ ss).drop q).take inf.size → (part T (dens σ ss).toArray q).run P w = .ok (.agg r.toArray) w := fun σ w q r e => by
          have : (dens σ ss).toArray.extract q (q + inf.size) = r.toArray := by
            rw [e, List.extract_toArray, List.extract_eq_drop_take']
            simp [List.drop_take]
          simp only [part, Sem.run_bind, run_isAgg w hag, run_sizeOf w hi, Result.andThen_ok, if_true, this, Sem.run_pure]
        cases i with
        | none =>
          simp only at h
          obtain ⟨r, h1, h2, h3, h4, h5⟩ := segRd_spec h hr
          exact ⟨.agg r, h2, h3 n hb, h1, fun σ w => fin σ w _ _ (h5 σ)⟩
        | some i =>
          simp only at h
          obtain ⟨k, m, xs, h1, h2, h3, h4⟩ := segIx_spec h hr
          have hl := h2.1
          refine ⟨.agg [.ints k inf.size ((xs.drop i).take inf.size)], ⟨⟨by simp; omega, fun x hx => h2.2 x (List.mem_of_mem_drop (List.mem_of_mem_take hx))⟩, trivial⟩, rfl, h1.2, fun σ w => ?_⟩
          refine fin σ w _ _ ?_
          simp only [dens, Seg.den, List.append_nil, Option.getD_some]
          apply List.ext_getElem?
          intro q
          rcases Nat.lt_or_ge q inf.size with hq | hq
          · have := h4 σ (i + q) (by omega)
            rw [List.getElem?_take, if_pos hq, List.getElem?_drop, show o + i + q = o + (i + q) by omega, this]
            have hlt : i + q < xs.length := by omega
            simp [hq, List.getD_eq_getElem?_getD, hlt]
          · rw [List.getElem?_eq_none (by simp; omega), List.getElem?_eq_none (by simp; omega)]
    | false =>
      have fin : ∀ (σ : Sg) (w : World) (q : Nat) (v : Value), (dens σ ss)[q]? = some v → (part T (dens σ ss).toArray q).run P w = .ok v w := fun σ w q v hv => by
        simp [part, run_isAgg w hag, hv]
      cases i with
      | none =>
        simp only at h
        obtain ⟨c, h1, h2, h3, h4, h5⟩ := segAt_spec h hr
        exact ⟨.c c, h2, h3 n hb, h1, fun σ w => fin σ w _ _ (h5 σ)⟩
      | some i =>
        simp only at h
        obtain ⟨k, m, xs, h1, h2, h3, h4⟩ := segIx_spec h hr
        have hin := getD_in h2 h1.1
        exact ⟨.c (.ci k (xs.getD i 0)), hin, rfl, h1.2 hin, fun σ w => fin σ w _ _ (h4 σ i h1.1)⟩
theorem kLoad_val {P : Program} {T : TypeId} {ss : List Seg} {o : Nat} {i : Option Nat} {K : W → Prop} (h : kLoad P T ss o i K) (hr : rngs ss) {n : Nat} (hb : bnds n ss = true) :
    ∃ x : W, x.rng ∧ x.bnd n = true ∧ K x ∧ ∀ σ w, (part T (dens σ ss).toArray (o + i.getD 0)).run P w = .ok (x.den σ) w := by
  unfold kLoad at h
  split at h
  · exact kLoad0_val h hr hb
  · rename_i i
    split at h
    · have := kLoad0_val h hr hb
      simpa using this
    · exact kLoad0_val h hr hb
structure Env where
  G : Glo
  EQ : Eqs
  own : Oper → Bool
  X : Oper → List V → List Blk → (V → List Blk → Prop) → Prop
def ExtOk (P : Program) (G : Glo) (X : Oper → List V → List Blk → (V → List Blk → Prop) → Prop) : Prop :=
  ∀ (Df : List Deferred) (o : Oper) (fr : List V) (H : List Blk) (K : V → List Blk → Prop), X o fr H K → FOk H.length fr → HOk H → ∀ (σ : Sg) (a : Act) (base : Nat) (w₀ w : World), FRep Df σ a fr → Rep G σ base w₀ w H →
    ∀ (N : Act → World → Prop) (Q : Exit → Act → World → Prop), (∀ τ x H' v w', K x H' → Sg.agree H.length σ τ → x.rep τ v → Rep G τ base w₀ w' H' → HOk H' → x.ok H'.length → H.length ≤ H'.length → N (a.put o.dst v) w') → o.wp P a w N Q
def noX : Oper → List V → List Blk → (V → List Blk → Prop) → Prop := fun _ _ _ _ => False
theorem noX_ok (P : Program) (G : Glo) : ExtOk P G noX := fun _ _ _ _ _ h => h.elim
structure EnvOk (P : Program) (E : Env) : Prop where
  glo : GOk E.G
  eq : ∀ t ks, E.EQ t = some ks → EqOk P t ks
  ext : ExtOk P E.G E.X
def nthP : List (Nat × TypeId) → Nat → (Nat → TypeId → Prop) → Prop
  | [], _, _ => False
  | (o, t) :: _, 0, K => K o t
  | _ :: fs, n + 1, K => nthP fs n K
theorem nthP_spec : ∀ {fs : List (Nat × TypeId)} {n : Nat} {K : Nat → TypeId → Prop}, nthP fs n K → ∃ o t, fs[n]? = some (o, t) ∧ K o t
  | [], _, _, h => h.elim
  | (o, t) :: _, 0, _, h => ⟨o, t, rfl, h⟩
  | _ :: fs, n + 1, _, h => by obtain ⟨o, t, h1, h2⟩ := nthP_spec (fs := fs) h; exact ⟨o, t, by simpa using h1, h2⟩
theorem nthP_field {F : Array Field} {n : Nat} {K : Nat → TypeId → Prop} (h : nthP (F.toList.map fun f => (f.offset, f.type)) n K) : ∃ f : Field, F[n]? = some f ∧ K f.offset f.type := by
  obtain ⟨o, t, h1, h2⟩ := nthP_spec h
  rw [List.getElem?_map] at h1
  cases hf : F.toList[n]? with
  | none => rw [hf] at h1; cases h1
  | some f =>
    rw [hf] at h1
    simp at h1
    exact ⟨f, by simpa using hf, by rw [h1.1, h1.2]; exact h2⟩
def nthW : List W → Nat → (W → Prop) → Prop
  | [], _, _ => False
  | w :: _, 0, K => K w
  | _ :: ws, n + 1, K => nthW ws n K
theorem nthW_spec {m : Nat} : ∀ {ws : List W} {n : Nat} {K : W → Prop}, nthW ws n K → rngW ws → bndW m ws = true → ∃ x : W, x.rng ∧ x.bnd m = true ∧ ws[n]? = some x ∧ K x
  | [], _, _, h, _, _ => h.elim
  | w :: _, 0, _, h, hr, hb => ⟨w, hr.1, by simp only [bndW, Bool.and_eq_true] at hb; exact hb.1, rfl, h⟩
  | _ :: ws, n + 1, _, h, hr, hb => by
    simp only [bndW, Bool.and_eq_true] at hb
    obtain ⟨x, h1, h2, h3, h4⟩ := nthW_spec (ws := ws) h hr.2 hb.2
    exact ⟨x, h1, h2, by simpa using h3, h4⟩
def mulN (i sz : Nat) : Nat := match sz with | 1 => i | _ => i * sz
theorem mulN_eq (i sz : Nat) : mulN i sz = i * sz := by unfold mulN; split <;> simp_all
def allC : List W → (List C → Prop) → Prop
  | [], K => K []
  | .c c :: ws, K => allC ws fun cs => K (c :: cs)
  | .agg _ :: _, _ => False
theorem allC_spec {n : Nat} : ∀ {ws : List W} {K : List C → Prop}, allC ws K → rngW ws → bndW n ws = true → ∃ l, K l ∧ C.rngL l ∧ C.bndL n l = true ∧ ∀ σ, ws.map (W.den σ) = C.denL σ l
  | [], K, h, _, _ => ⟨[], h, by simp only [C.rngL], by simp only [C.bndL], fun _ => by simp only [C.denL, List.map_nil]⟩
  | .c c :: ws, K, h, hr, hb => by
    simp only [bndW, Bool.and_eq_true] at hb
    obtain ⟨l, h1, h2, h3, h4⟩ := allC_spec (ws := ws) h hr.2 hb.2
    refine ⟨c :: l, h1, ?_, ?_, fun σ => ?_⟩
    · simp only [C.rngL]; exact ⟨hr.1, h2⟩
    · simp only [C.bndL, Bool.and_eq_true]; exact ⟨hb.1, h3⟩
    · simp only [C.denL, List.map_cons, h4 σ, W.den]
  | .agg _ :: _, _, h, _, _ => h.elim
def fieldC (c : C) (off : Nat) (K : C → Prop) : Prop :=
  match c with
  | .cp j o => K (.cp j (o + off))
  | .cg g o => K (.cg g (o + off))
  | _ => False
def elemC (c : C) (i : Nat) (K : C → Prop) : Prop :=
  match c with
  | .cp j o => K (.cpi j o i)
  | .cpi j o i₀ => K (.cpi j o (i₀ + i))
  | .cg g o => K (.cgi g o i)
  | .cgi g o i₀ => K (.cgi g o (i₀ + i))
  | _ => False
theorem fieldC_spec {n : Nat} {c : C} {off : Nat} {K : C → Prop} (h : fieldC c off K) (hb : c.bnd n = true) : ∃ c' : C, c'.rng ∧ c'.bnd n = true ∧ K c' ∧ (∀ σ, c.den σ = .pointer (some (Addr.of σ c))) ∧ (∀ σ, (Addr.of σ c).spot = none) ∧ ∀ σ, c'.den σ = .pointer (some ((Addr.of σ c).add off)) := by
  cases c with
  | cp j o => exact ⟨.cp j (o + off), trivial, hb, h, fun _ => rfl, fun _ => rfl, fun σ => by rw [add_ne rfl]; simp only [C.den, Addr.of, Sg.at, Nat.add_assoc]⟩
  | cg g o => exact ⟨.cg g (o + off), trivial, rfl, h, fun _ => rfl, fun _ => rfl, fun σ => by rw [add_ne rfl]; simp only [C.den, Addr.of]⟩
  | _ => exact h.elim
theorem elemC_spec {n : Nat} {c : C} {i : Nat} {K : C → Prop} (h : elemC c i K) (hb : c.bnd n = true) : ∃ c' : C, c'.rng ∧ c'.bnd n = true ∧ K c' ∧ (∀ σ, c.den σ = .pointer (some (Addr.of σ c))) ∧ ∀ σ, c'.den σ = .pointer (some ((Addr.of σ c).add i)) := by
  cases c with
  | cp j o => exact ⟨.cpi j o i, trivial, hb, h, fun _ => rfl, fun σ => by rw [add_ne rfl]; simp only [C.den, Addr.of, Sg.at, Nat.add_assoc]⟩
  | cpi j o i₀ => exact ⟨.cpi j o (i₀ + i), trivial, hb, h, fun _ => rfl, fun σ => by rw [add_ne rfl]; simp only [C.den, Addr.of, Sg.at, Nat.add_assoc]⟩
  | cg g o => exact ⟨.cgi g o i, trivial, rfl, h, fun _ => rfl, fun σ => by rw [add_ne rfl]; simp only [C.den, Addr.of]⟩
  | cgi g o i₀ => exact ⟨.cgi g o (i₀ + i), trivial, rfl, h, fun _ => rfl, fun σ => by rw [add_ne rfl]; simp only [C.den, Addr.of, Nat.add_assoc]⟩
  | _ => exact h.elim
def kIndexAt (P : Program) (t : TypeId) (c d : C) (K : C → Prop) : Prop :=
  match tyOf P t, c, d with
  | .slice e, .csl j o i₀ len _, .ci _ i => match P.info? e with
    | some inf => (0 ≤ i ∧ i < len) ∧ K (.cpi j o (i₀ + mulN i.toNat inf.size))
    | none => False
  | .arr n e, c, .ci _ i => match P.info? e with
    | some inf => (0 ≤ i ∧ i < n) ∧ elemC c (mulN i.toNat inf.size) K
    | none => False
  | _, _, _ => False
theorem kIndexAt_spec {P : Program} {t : TypeId} {c d : C} {K : C → Prop} (h : kIndexAt P t c d K) {n : Nat} (hb : c.bnd n = true) :
    ∃ c' : C, c'.rng ∧ c'.bnd n = true ∧ K c' ∧ ∀ σ w, (Instr.indexAt t (c.den σ) (d.den σ)).run P w = .ok (c'.den σ) w := by
  unfold kIndexAt at h
  split at h
  · rename_i e j o i₀ len cap k i ht
    split at h
    · rename_i inf hi
      refine ⟨.cpi j o (i₀ + mulN i.toNat inf.size), trivial, ?_, h.2, fun σ w => ?_⟩
      · exact hb
      · simp [C.den, Instr.indexAt, asIntOf, run_und w (tyOf_slice ht), run_sizeOf w hi, h.1, mulN_eq, Sg.at]
        rw [add_ne rfl]; simp only [Nat.add_assoc]
    · exact h.elim
  · rename_i m e k i ht
    split at h
    · rename_i inf hi
      obtain ⟨c', h1, h2, h3, h4, h5⟩ := elemC_spec h.2 hb
      refine ⟨c', h1, h2, h3, fun σ w => ?_⟩
      have e4 := h4 σ
      rw [h5 σ, e4]
      simp [C.den, Instr.indexAt, Instr.sureAddr, asIntOf, run_und w (tyOf_arr ht), run_sizeOf w hi, h.1, mulN_eq]
    · exact h.elim
  · exact h.elim
def kIndex (P : Program) (t : TypeId) (x : W) (d : C) (K : W → Prop) : Prop :=
  match tyOf P t, x, d with
  | .arr n e, .agg ss, .ci _ i => match P.info? e with
    | some inf => (0 ≤ i ∧ i < n) ∧ kLoad P e ss 0 (some (mulN i.toNat inf.size)) K
    | none => False
  | .str, .c (.cs s), .ci _ i => (0 ≤ i ∧ i < s.size) ∧ ∀ r : Int, r = (s.get! i.toNat).toNat → K (.c (.ci .u8 r))
  | _, _, _ => False
theorem kIndex_spec {P : Program} {t : TypeId} {x : W} {d : C} {K : W → Prop} (h : kIndex P t x d K) {n : Nat} (hr : x.rng) (hb : x.bnd n = true) :
    ∃ y : W, y.rng ∧ y.bnd n = true ∧ K y ∧ ∀ σ w, (Instr.index t (x.den σ) (d.den σ)).run P w = .ok (y.den σ) w := by
  unfold kIndex at h
  split at h
  · rename_i m e ss k i ht
    split at h
    · rename_i inf hi
      obtain ⟨y, h1, h2, h3, h4⟩ := kLoad_val h.2 hr hb
      refine ⟨y, h1, h2, h3, fun σ w => ?_⟩
      have := h4 σ w
      simp only [Option.getD_some, Nat.zero_add, mulN_eq] at this
      simp [W.den, C.den, Instr.index, asIntOf, run_und w (tyOf_arr ht), run_sizeOf w hi, h.1, this]
    · exact h.elim
  · rename_i s k i ht
    have hlt : i.toNat < s.size := by omega
    refine ⟨.c (.ci .u8 (s.get! i.toNat).toNat), ?_, rfl, h.2 _ rfl, fun σ w => ?_⟩
    · show InK .u8 _
      have := (s.get! i.toNat).toNat_lt
      simp only [InK, lowK, highK]
      omega
    · have e1 : s[i.toNat]? = some (s.get! i.toNat) := by
        rw [getElem?_pos s i.toNat hlt]
        congr 1
        cases s with
        | mk bs =>
          have hlt' : i.toNat < bs.size := hlt
          show bs[i.toNat] = bs[i.toNat]!
          rw [getElem!_pos bs i.toNat hlt']
      simp [W.den, C.den, Instr.index, asIntOf, run_und w (tyOf_str ht), h.1.1, e1]
  · exact h.elim
end Go.Proofs.YtaficaacogcblaaGreatDoor
set_option linter.all false
namespace Go.Proofs.YtaficaacogcblaaGreatDoor
open Go.RowKit (Below)
def nInts : Nat → List Value → (List Int → List Value → Option (List Seg × List Value)) → IntKind → Option (List Seg × List Value)
  | 0, vs, K, _ => K [] vs
  | n + 1, .int k' x :: vs, K, k => match sameK k k', leI (lowK k) x, leI x (highK k) with
    | true, true, true => nInts n vs (fun xs r => K (x :: xs) r) k
    | _, _, _ => none
  | _ + 1, _, _, _ => none
theorem nInts_spec : ∀ {n : Nat} {vs : List Value} {K : List Int → List Value → Option (List Seg × List Value)} {k : IntKind} {q : List Seg × List Value}, nInts n vs K k = some q →
    ∃ xs r, K xs r = some q ∧ xs.length = n ∧ (∀ x ∈ xs, InK k x) ∧ xs.map (Value.int k) ++ r = vs
  | 0, vs, K, k, q, h => ⟨[], vs, h, rfl, fun _ h => by simp at h, rfl⟩
  | n + 1, .int k' x :: vs, K, k, q, h => by
    simp only [nInts] at h
    split at h
    · rename_i h1 h2 h3
      obtain rfl := sameK_eq h1
      obtain ⟨xs, r, h4, h5, h6, h7⟩ := nInts_spec h
      refine ⟨x :: xs, r, h4, by simp [h5], fun y hy => ?_, by simp [h7]⟩
      rcases List.mem_cons.1 hy with rfl | hy
      · exact ⟨of_decide_eq_true h2, of_decide_eq_true h3⟩
      · exact h6 y hy
    · cases h
  | n + 1, [], _, _, _, h => by simp [nInts] at h
  | n + 1, .bool _ :: _, _, _, _, h | n + 1, .float _ _ :: _, _, _, _, h | n + 1, .complex _ _ _ :: _, _, _, _, h | n + 1, .string _ :: _, _, _, _, h | n + 1, .pointer _ :: _, _, _, _, h
  | n + 1, .slice _ _ _ :: _, _, _, _, h | n + 1, .map _ :: _, _, _, _, h | n + 1, .chan _ :: _, _, _, _, h | n + 1, .func _ _ _ :: _, _, _, _, h | n + 1, .nilFunc :: _, _, _, _, h
  | n + 1, .iface _ _ :: _, _, _, _, h | n + 1, .nilIface :: _, _, _, _, h | n + 1, .agg _ :: _, _, _, _, h | n + 1, .tuple _ :: _, _, _, _, h => by simp [nInts] at h
def cutT (P : Program) : Nat → TypeId → List Value → Option (List Seg × List Value)
  | 0, _, _ => none
  | d + 1, t, vs => match tyOf P t with
    | .arr n e => match tyOf P e with
      | .int k => nInts n vs (fun xs r => some ([.ints k n xs], r)) k
      | .arr m e' => match tyOf P e' with
        | .int k => nInts (n * m) vs (fun xs r => some ([.ints k (n * m) xs], r)) k
        | _ => (List.range n).foldl (fun acc _ => acc.bind fun (ss, vs) => (cutT P d e vs).map fun (s, r) => (ss ++ s, r)) (some ([], vs))
      | _ => (List.range n).foldl (fun acc _ => acc.bind fun (ss, vs) => (cutT P d e vs).map fun (s, r) => (ss ++ s, r)) (some ([], vs))
    | .st fs => fs.foldl (fun acc f => acc.bind fun (ss, vs) => (cutT P d f.2 vs).map fun (s, r) => (ss ++ s, r)) (some ([], vs))
    | _ => match vs with
      | v :: r => (constC v).map fun c => ([.one c], r)
      | [] => none
def CutOk (vs : List Value) (q : List Seg × List Value) : Prop := rngs q.1 ∧ bnds 0 q.1 = true ∧ ∀ σ, dens σ q.1 ++ q.2 = vs
theorem rngs_append : ∀ {a b : List Seg}, rngs a → rngs b → rngs (a ++ b)
  | [], _, _, h => h
  | _ :: _, _, h, k => ⟨h.1, rngs_append h.2 k⟩
theorem bnds_append {n : Nat} : ∀ {a b : List Seg}, bnds n a = true → bnds n b = true → bnds n (a ++ b) = true
  | [], _, _, h => h
  | s :: a, b, h, k => by
    simp only [List.cons_append, bnds, Bool.and_eq_true] at h ⊢
    exact ⟨h.1, bnds_append h.2 k⟩
theorem cut_foldl {α : Type} (f : α → List Value → Option (List Seg × List Value)) (vs₀ : List Value) (hf : ∀ a vs q, f a vs = some q → CutOk vs q) :
    ∀ (l : List α) (acc : Option (List Seg × List Value)) (q : List Seg × List Value), (∀ q, acc = some q → CutOk vs₀ q) →
      l.foldl (fun acc a => acc.bind fun (ss, vs) => (f a vs).map fun (s, r) => (ss ++ s, r)) acc = some q → CutOk vs₀ q
  | [], acc, q, h, e => h q e
  | a :: l, acc, q, h, e => by
    refine cut_foldl f vs₀ hf l _ q (fun q' hq' => ?_) e
    cases acc with
    | none => cases hq'
    | some p =>
      obtain ⟨h1, h2, h3⟩ := h p rfl
      simp only [Option.bind_some] at hq'
      cases hp : f a p.2 with
      | none => rw [hp] at hq'; cases hq'
      | some s =>
        rw [hp] at hq'
        simp at hq'
        subst hq'
        obtain ⟨k1, k2, k3⟩ := hf a _ s hp
        exact ⟨rngs_append h1 k1, bnds_append h2 k2, fun σ => by simp only [dens_append, List.append_assoc, k3 σ, h3 σ]⟩
theorem cutT_spec (P : Program) : ∀ (d : Nat) (t : TypeId) (vs : List Value) (q : List Seg × List Value), cutT P d t vs = some q → CutOk vs q
  | 0, _, _, _, h => by simp [cutT] at h
  | d + 1, t, vs, q, h => by
    simp only [cutT] at h
    split at h
    · split at h
      · rename_i n e _ k _
        obtain ⟨xs, r, h1, h2, h3, h4⟩ := nInts_spec h
        simp at h1
        subst h1
        exact ⟨⟨⟨h2, h3⟩, trivial⟩, rfl, fun σ => by simpa [dens, Seg.den] using h4⟩
      · split at h
        · obtain ⟨xs, r, h1, h2, h3, h4⟩ := nInts_spec h
          simp at h1
          subst h1
          exact ⟨⟨⟨h2, h3⟩, trivial⟩, rfl, fun σ => by simpa [dens, Seg.den] using h4⟩
        · exact cut_foldl (fun (_ : Nat) vs => cutT P d _ vs) vs (fun _ vs q h => cutT_spec P d _ vs q h) _ _ q (fun q hq => by cases hq; exact ⟨trivial, rfl, fun σ => rfl⟩) h
      · exact cut_foldl (fun (_ : Nat) vs => cutT P d _ vs) vs (fun _ vs q h => cutT_spec P d _ vs q h) _ _ q (fun q hq => by cases hq; exact ⟨trivial, rfl, fun σ => rfl⟩) h
    · rename_i fs _
      exact cut_foldl (fun (f : Nat × TypeId) vs => cutT P d f.2 vs) vs (fun f vs q h => cutT_spec P d f.2 vs q h) _ _ q (fun q hq => by cases hq; exact ⟨trivial, rfl, fun σ => rfl⟩) h
    · split at h
      · rename_i v r
        cases hc : constC v with
        | none => rw [hc] at h; cases h
        | some c =>
          rw [hc] at h
          simp at h
          subst h
          obtain ⟨h1, h2, h3⟩ := constC_spec hc
          exact ⟨⟨h1, trivial⟩, by simp only [bnds, Seg.bnd, h2, Bool.and_self], fun σ => by simp [dens, Seg.den, h3 σ]⟩
      · cases h
def cellsV : Value → List Value
  | .agg cs => cs.toList
  | v => [v]
theorem cellsV_eq (v : Value) : v.cells = (cellsV v).toArray := by cases v <;> simp [Value.cells, cellsV]
def zeroS (P : Program) (T : TypeId) (K : List Seg → Prop) : Prop :=
  match P.info? T with
  | some inf => match inf.zero with
    | some z => match cutT P 8 T (cellsV z) with
      | some (ss, []) => K ss
      | _ => False
    | none => False
  | none => False
theorem zeroS_spec {P : Program} {T : TypeId} {K : List Seg → Prop} (h : zeroS P T K) : ∃ inf z ss, P.info? T = some inf ∧ inf.zero = some z ∧ K ss ∧ rngs ss ∧ bnds 0 ss = true ∧ ∀ σ, z.cells = (dens σ ss).toArray := by
  unfold zeroS at h
  split at h
  · rename_i inf hi
    split at h
    · rename_i z hz
      split at h
      · rename_i ss hc
        obtain ⟨h1, h2, h3⟩ := cutT_spec P _ _ _ _ hc
        exact ⟨inf, z, ss, hi, hz, h, h1, h2, fun σ => by rw [cellsV_eq, ← h3 σ]; simp⟩
      · exact h.elim
    · exact h.elim
  · exact h.elim
mutual
theorem C.plain {σ : Sg} : (c : C) → c.rng → plainV (c.den σ)
  | .cb _, _ | .ci _ _, _ | .cs _, _ | .cp _ _, _ | .cpi _ _ _, _ | .cnil, _ | .cg _ _, _ | .cgi _ _ _, _ | .csl _ _ _ _ _, _ | .csn, _ | .cm _, _ | .cf _ _, _ | .cmv _ _ _, _ => by simp only [C.den, plainV]
  | .cv _, h => h
end
theorem cells_plain {v : Value} (h : plainV v) : v.cells = #[v] ∧ v.oneCell' = true := by cases v <;> first | exact h.elim | exact ⟨rfl, rfl⟩
theorem W.cells {σ : Sg} {x : W} (h : x.rng) : (x.den σ).cells = (dens σ x.segs).toArray := by
  cases x with
  | c x => rw [W.den, (cells_plain (C.plain (σ := σ) x h)).1]; simp [W.segs, dens, Seg.den]
  | agg ss => rfl
theorem dens_one {σ : Sg} : ∀ {ss : List Seg}, rngs ss → ∀ v ∈ dens σ ss, v.oneCell' = true
  | [], _, v, hv => by simp [dens] at hv
  | .one c :: ss, h, v, hv => by
    simp only [dens, Seg.den, List.cons_append, List.nil_append, List.mem_cons] at hv
    rcases hv with rfl | hv
    · exact (cells_plain (C.plain c h.1)).2
    · exact dens_one h.2 v hv
  | .ints k n xs :: ss, h, v, hv => by
    simp only [dens, Seg.den, List.mem_append, List.mem_map] at hv
    rcases hv with ⟨x, _, rfl⟩ | hv
    · rfl
    · exact dens_one h.2 v hv
theorem W.segs_rng {x : W} (h : x.rng) : rngs x.segs := by
  cases x with
  | c x => exact ⟨h, trivial⟩
  | agg ss => exact h
theorem W.segs_bnd {n : Nat} {x : W} (h : x.bnd n = true) : bnds n x.segs = true := by
  cases x with
  | c x => simp only [W.segs, bnds, Seg.bnd, Bool.and_true]; exact h
  | agg ss => exact h
def kStore (P : Program) (T : TypeId) (H : List Blk) (c : C) (x : W) (K : Nat → TypeId → List Seg → Prop) : Prop :=
  match P.info? T with
  | none => False
  | some inf => match Nat.beq inf.size (segsLen x.segs) with
    | false => False
    | true => match c with
      | .cp j o => hGet H j fun b => match b with
        | .own T₀ ss => segWr ss o x.segs fun r => K j T₀ r
        | _ => False
      | .cpi j o i => hGet H j fun b => match b with
        | .own T₀ ss => match oneAt ss o with
          | true => segWr ss (o + i) x.segs fun r => K j T₀ r
          | false => segWx ss o i x.segs fun r => K j T₀ r
        | _ => False
      | _ => False
theorem kStore_spec {P : Program} {T : TypeId} {H : List Blk} (ho : HOk H) {c : C} {x : W} {K : Nat → TypeId → List Seg → Prop} (h : kStore P T H c x K) (hx : x.rng) (hb : x.bnd H.length = true) :
    ∃ j T₀ ss r, K j T₀ r ∧ H[j]? = some (.own T₀ ss) ∧ rngs r ∧ bnds H.length r = true ∧ segsLen r = segsLen ss ∧
      ∀ (G : Glo) σ base w₀ w, Rep G σ base w₀ w H → (Instr.storeAt T (c.den σ) (x.den σ)).run P w = .ok () (w.setRow (σ j).1 (dens σ r).toArray) := by
  unfold kStore at h
  split at h
  · exact h.elim
  · rename_i inf hi
    split at h
    · exact h.elim
    · rename_i hsz
      have hsz := Nat.eq_of_beq_eq_true hsz
      have fin : ∀ (j o : Nat) (T₀ : TypeId) (ss r : List Seg), H[j]? = some (.own T₀ ss) → Spliced ss o x.segs r → rngs ss → ∀ (G : Glo) σ base w₀ w, Rep G σ base w₀ w H → ∀ v, v = .pointer (some (σ.at j o)) →
          (Instr.storeAt T v (x.den σ)).run P w = .ok () (w.setRow (σ j).1 (dens σ r).toArray) := by
        intro j o T₀ ss r hj hs hss G σ base w₀ w hr v hv
        subst hv
        obtain ⟨s1, s2, s3, s4, s5⟩ := hs
        obtain ⟨b1, b2, b3⟩ := hr.blk j _ hj
        have hl := dens_len σ hss
        have hln := dens_len σ (W.segs_rng hx)
        have hcs := W.cells (σ := σ) hx
        have := run_storeCells_at P (σ j).1 o T₀ (dens σ x.segs) 0 (dens σ ss).toArray w b3 (by simp; omega) (dens_one (W.segs_rng hx))
        simp only [Instr.storeAt, Instr.sureAddr, storeVar, Sem.run_bind, Sem.run_pure, Result.andThen_ok, run_sizeOf w hi, hcs]
        rw [if_neg (by simp; omega)]
        simp only [Sg.at, b1, Nat.zero_add]
        rw [this, s5 σ]
        simp [hln]
      cases c with
      | cp j o =>
        obtain ⟨b, h1, h2⟩ := hGet_spec h
        cases b with
        | own T₀ ss =>
          have hss := ho.rng _ (List.mem_of_getElem? h1)
          obtain ⟨r, h3, h4⟩ := segWr_spec h2 hss (W.segs_rng hx)
          exact ⟨j, T₀, ss, r, h3, h1, h4.1, h4.2.1 _ (ho.bnd _ (List.mem_of_getElem? h1)) (W.segs_bnd hb), h4.2.2.1, fun G σ base w₀ w hr => fin j o T₀ ss r h1 h4 hss G σ base w₀ w hr _ rfl⟩
        | _ => exact h2.elim
      | cpi j o i =>
        obtain ⟨b, h1, h2⟩ := hGet_spec h
        cases b with
        | own T₀ ss =>
          have hss := ho.rng _ (List.mem_of_getElem? h1)
          have h2' : ∃ r, K j T₀ r ∧ Spliced ss (o + i) x.segs r := by
            simp only at h2
            split at h2
            · exact segWr_spec h2 hss (W.segs_rng hx)
            · exact segWx_spec h2 hss (W.segs_rng hx)
          obtain ⟨r, h3, h4⟩ := h2'
          exact ⟨j, T₀, ss, r, h3, h1, h4.1, h4.2.1 _ (ho.bnd _ (List.mem_of_getElem? h1)) (W.segs_bnd hb), h4.2.2.1, fun G σ base w₀ w hr => fin j (o + i) T₀ ss r h1 h4 hss G σ base w₀ w hr _ rfl⟩
        | _ => exact h2.elim
      | _ => exact h.elim
end Go.Proofs.YtaficaacogcblaaGreatDoor
