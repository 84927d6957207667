/- Operations that make or turn memory; what becomes of a heap. -/
import Derived.Test.YtaficaacogcblaaGreatDoorXh
set_option linter.all false
namespace Go.Proofs.YtaficaacogcblaaGreatDoor
open Go.RowKit (Below)
variable {Df : List Deferred}

inductive Eff where
  | none
  | new (T : TypeId) (ss : List Seg)
  | set (j : Nat) (T : TypeId) (ss : List Seg)

def Eff.app (H : List Blk) : Eff → List Blk
  | .none => H
  | .new T ss => H ++ [.own T ss]
  | .set j T ss => H.set j (.own T ss)

def pushH : List Blk → Blk → (List Blk → Prop) → Prop
  | [], b, K => K [b]
  | x :: H, b, K => pushH H b fun r => K (x :: r)
theorem pushH_iff : ∀ (H : List Blk) (b : Blk) (K : List Blk → Prop), pushH H b K ↔ K (H ++ [b])
  | [], _, _ => Iff.rfl
  | x :: H, b, K => by simp only [pushH, pushH_iff H b, List.cons_append]
def setH : List Blk → Nat → Blk → (List Blk → Prop) → Prop
  | [], _, _, K => K []
  | _ :: H, 0, b, K => K (b :: H)
  | x :: H, n + 1, b, K => setH H n b fun r => K (x :: r)
theorem setH_iff : ∀ (H : List Blk) (n : Nat) (b : Blk) (K : List Blk → Prop), setH H n b K ↔ K (H.set n b)
  | [], n, _, _ => by simp [setH]
  | _ :: H, 0, b, K => by simp [setH]
  | x :: H, n + 1, b, K => by simp [setH, setH_iff H n b]
def lenH : List Blk → Nat → (Nat → Prop) → Prop
  | [], n, K => K n
  | _ :: H, n, K => lenH H (Nat.succ n) K
theorem lenH_iff : ∀ (H : List Blk) (n : Nat) (K : Nat → Prop), lenH H n K ↔ K (n + H.length)
  | [], n, K => by simp [lenH]
  | _ :: H, n, K => by
    rw [lenH, lenH_iff H]
    simp only [List.length_cons, Nat.succ_eq_add_one, show n + 1 + H.length = n + (H.length + 1) by omega]
def effK (H : List Blk) (e : Eff) (K : List Blk → Prop) : Prop :=
  match e with
  | .none => K H
  | .new T ss => pushH H (.own T ss) K
  | .set j T ss => setH H j (.own T ss) K
theorem effK_iff (H : List Blk) (e : Eff) (K : List Blk → Prop) : effK H e K ↔ K (e.app H) := by
  cases e with
  | none => exact Iff.rfl
  | new T ss => exact pushH_iff H _ K
  | set j T ss => exact setH_iff H j _ K
def putK : List V → Option Nat → V → (List V → Prop) → Prop
  | fr, none, _, K => K fr
  | [], some _, _, K => K []
  | x :: fr, some n, v, K => match n with
    | 0 => K (v :: fr)
    | n + 1 => putK fr (some n) v fun r => K (x :: r)
theorem putK_iff : ∀ (fr : List V) (d : Option Nat) (x : V) (K : List V → Prop), putK fr d x K ↔ K (putF fr d x)
  | [], none, _, _ => by simp [putK, putF]
  | _ :: _, none, _, _ => by simp [putK, putF]
  | [], some n, _, _ => by simp [putK, putF]
  | y :: fr, some 0, x, K => by simp [putK, putF]
  | y :: fr, some (n + 1), x, K => by
    have := putK_iff fr (some n) x fun r => K (y :: r)
    simpa [putK, putF] using this

/-- The one value that all cells of a zero value hold. -/
def uniZ (ss : List Seg) (K : C → Nat → Prop) : Prop :=
  match ss with
  | [.one (.ci k n)] => n = 0 ∧ K (.ci k 0) 1
  | [.one (.cs s)] => K (.cs s) 1
  | [.one .csn] => K .csn 1
  | [.ints k (n + 1) xs] => xs = List.replicate (n + 1) 0 ∧ K (.ci k 0) (n + 1)
  | _ => False
theorem uniZ_spec {ss : List Seg} {K : C → Nat → Prop} (h : uniZ ss K) (hr : rngs ss) : ∃ c n, K c n ∧ n ≠ 0 ∧ c.rng ∧ c.bnd 0 = true ∧ ∀ σ, dens σ ss = List.replicate n (c.den σ) := by
  unfold uniZ at h
  split at h
  · rename_i k n
    obtain ⟨rfl, h⟩ := h
    exact ⟨_, _, h, by simp, hr.1, rfl, fun σ => rfl⟩
  · exact ⟨_, _, h, by simp, hr.1, rfl, fun σ => rfl⟩
  · exact ⟨_, _, h, by simp, trivial, rfl, fun σ => rfl⟩
  · rename_i k n xs
    obtain ⟨rfl, h⟩ := h
    refine ⟨_, _, h, by simp, ?_, rfl, fun σ => ?_⟩
    · show InK k 0
      cases k <;> simp [InK, lowK, highK]
    · simp [dens, Seg.den, C.den]
  · exact h.elim

/-- So many cells of it. -/
def fillZ (c : C) (m : Nat) : List Seg :=
  match c with
  | .ci k n => [.ints k m (List.replicate m n)]
  | c => List.replicate m (.one c)
theorem fillZ_spec {c : C} (hr : c.rng) {n : Nat} (hb : c.bnd n = true) (m : Nat) : rngs (fillZ c m) ∧ bnds n (fillZ c m) = true ∧ ∀ σ, dens σ (fillZ c m) = List.replicate m (c.den σ) := by
  have gen : ∀ m : Nat, rngs (List.replicate m (.one c)) ∧ bnds n (List.replicate m (.one c)) = true ∧ ∀ σ, dens σ (List.replicate m (.one c)) = List.replicate m (c.den σ) := fun m => by
    induction m with
    | zero => exact ⟨trivial, rfl, fun σ => rfl⟩
    | succ m ih =>
      simp only [List.replicate_succ]
      refine ⟨⟨hr, ih.1⟩, by simp only [bnds, Seg.bnd, hb, ih.2.1, Bool.and_self], fun σ => by simp only [dens, Seg.den, ih.2.2 σ]; rfl⟩
  cases c with
  | ci k x => exact ⟨⟨⟨by simp, fun y hy => by rw [(List.mem_replicate.1 hy).2]; exact hr⟩, trivial⟩, rfl, fun σ => by simp [fillZ, dens, Seg.den, C.den]⟩
  | _ => exact gen m

theorem range_map_mod {v : Value} {m n : Nat} (hn : m ≠ 0 → n ≠ 0) : (Array.range m).map (fun i => (List.replicate n v).toArray[i % (List.replicate n v).toArray.size]!) = (List.replicate m v).toArray := by
  apply Array.ext
  · simp
  · intro i h1 h2
    simp at h1
    have : n ≠ 0 := hn (by omega)
    have hlt : i % n < n := Nat.mod_lt _ (by omega)
    simp [hlt]

/-- Operations that leave the world as it is, make one block, or turn one. -/
def xop (P : Program) (E : Env) (o : Oper) (fr : List V) (H : List Blk) (K : V → Eff → Prop) : Prop :=
  match o.op with
  | .alloc T => zeroS P T fun ss => lenH H 0 fun n => K (.w (.c (.cp n 0))) (.new T ss)
  | .box T x => evW fr x fun w => lenH H 0 fun n => K (.w (.c (.cp n 0))) (.new T w.segs)
  | .store T a x => evC fr a fun c => evW fr x fun w => kStore P T H c w fun j T₀ r => K undefV (.set j T₀ r)
  | .buildSlice T len ps => match tyOf P T with
    | .slice e => match P.info? e with
      | some inf => match Nat.ble (len * inf.size) 16777216, Nat.beq (len * inf.size) 0 with
        | true, false => zeroS P e fun zs => uniZ zs fun c _ => evPs fr ps.toList fun ps => kFill (fun i K => K (i * inf.size) inf.size) ps (fillZ c (len * inf.size)) fun ss =>
          lenH H 0 fun n => K (.w (.c (.csl n 0 0 len len))) (.new e ss)
        | true, true => match len, ps.toList, tyOf P e with
          | 0, [], .int k => lenH H 0 fun n => K (.w (.c (.csl n 0 0 0 0))) (.new e [.ints k 0 []])
          | _, _, _ => False
        | _, _ => False
      | none => False
    | _ => False
  | .makeSlice T l c => evC fr l fun l => evC fr c fun c => match tyOf P T, l, c with
    | .slice e, .ci _ l, .ci _ c => match P.info? e with
      | some inf => match Nat.beq inf.size 1 with
        | true => zeroS P e fun zs => uniZ zs fun z _ => (0 ≤ l ∧ l ≤ c ∧ c ≤ 9223372036854775807 ∧ inf.bytes * c ≤ 281474976710656) ∧
          lenH H 0 fun n => K (.w (.c (.csl n 0 0 (natI l) (natI c)))) (.new e (fillZ z (natI c)))
        | false => False
      | none => False
    | _, _, _ => False
  | _ => xpure P E o fr H fun x => K x .none

def Eff.ok (H : List Blk) : Eff → Prop
  | .none => True
  | .new _ ss => rngs ss ∧ bnds H.length ss = true
  | .set j T ss => rngs ss ∧ bnds H.length ss = true ∧ ∃ s₀, H[j]? = some (.own T s₀)

def EffRun (P : Program) (o : Oper) (a : Act) (σ : Sg) (w : World) (H : List Blk) (x : V) : Eff → Prop
  | .none => ∃ v, x.rep σ v ∧ (execOp a.eval o).run P w = .ok (.value v) w
  | .new T ss => ∃ v, x.rep (σ.upd H.length (w.heap.size, 0)) v ∧ (execOp a.eval o).run P w = .ok (.value v) (w.alloc (.cells (dens σ ss).toArray T))
  | .set j _ ss => x = undefV ∧ (execOp a.eval o).run P w = .ok .skip (w.setRow (σ j).1 (dens σ ss).toArray)

theorem Eff.app_len (H : List Blk) (e : Eff) : H.length ≤ (e.app H).length := by cases e <;> simp [Eff.app]

theorem new_ptr_rep (σ : Sg) (n b : Nat) : V.rep (σ.upd n (b, 0)) (.w (.c (.cp n 0))) (.pointer (some ⟨b, 0, none⟩)) := by
  simp [V.rep, W.den, C.den, Sg.at, Sg.upd_self]
theorem new_sl_rep (σ : Sg) (n b l c : Nat) : V.rep (σ.upd n (b, 0)) (.w (.c (.csl n 0 0 l c))) (.slice (some ⟨b, 0, none⟩) l c) := by
  simp [V.rep, W.den, C.den, Sg.at, Sg.upd_self]

set_option maxHeartbeats 800000 in
theorem xop_spec {P : Program} {E : Env} (hE : EnvOk P E) {o : Oper} {fr : List V} {H : List Blk} {K : V → Eff → Prop} (h : xop P E o fr H K) (hf : FOk H.length fr) (ho : HOk H) :
    ∃ (x : V) (e : Eff), K x e ∧ e.ok H ∧ x.ok (e.app H).length ∧ ∀ {Df : List Deferred} σ a base w₀ w, FRep Df σ a fr → Rep E.G σ base w₀ w H → EffRun P o a σ w H x e := by
  have pure_case : (xpure P E o fr H fun x => K x .none) → ∃ (x : V) (e : Eff), K x e ∧ e.ok H ∧ x.ok (e.app H).length ∧ ∀ {Df : List Deferred} σ a base w₀ w, FRep Df σ a fr → Rep E.G σ base w₀ w H → EffRun P o a σ w H x e := fun h => by
    obtain ⟨x, h1, h2, h3⟩ := xpure_spec hE h hf ho
    exact ⟨x, .none, h2, trivial, h1, h3⟩
  have okp : ∀ T ss, V.ok ((Eff.new T ss).app H).length (.w (.c (.cp H.length 0))) := fun T ss => ⟨trivial, by simp [V.bnd, W.bnd, C.bnd, Eff.app]⟩
  obtain ⟨dst, op, ty, pos, after, guard⟩ := o
  cases op <;> simp only [xop] at h
  case alloc T =>
    obtain ⟨inf, z, ss, k1, k2, h, k4, k5, k6⟩ := zeroS_spec h
    rw [lenH_iff, Nat.zero_add] at h
    refine ⟨_, _, h, ⟨k4, bnds_mono (Nat.zero_le _) ss k5⟩, okp _ _, fun σ a base w₀ w hr hw => ⟨_, new_ptr_rep σ _ _, ?_⟩⟩
    simp [execOp, Instr.alloc, run_zero w k1 k2, newVar, newRow, k6 σ]
  case box T x =>
    obtain ⟨c, c1, c2, h, c4⟩ := evW_spec hf h
    rw [lenH_iff, Nat.zero_add] at h
    refine ⟨_, _, h, ⟨W.segs_rng c1, W.segs_bnd c2⟩, okp _ _, fun σ a base w₀ w hr hw => ⟨_, new_ptr_rep σ _ _, ?_⟩⟩
    simp [execOp, Instr.box, newVar, newRow, c4 σ a hr, W.cells (σ := σ) c1]
  case store T x y =>
    obtain ⟨c, c1, c2, h, c4⟩ := evC_spec hf h
    obtain ⟨d, d1, d2, h, d4⟩ := evW_spec hf h
    obtain ⟨j, T₀, ss, r, h1, h2, h3, h4, h5, h6⟩ := kStore_spec ho h d1 d2
    refine ⟨_, _, h1, ⟨h3, h4, ss, h2⟩, ⟨trivial, rfl⟩, fun σ a base w₀ w hr hw => ⟨rfl, ?_⟩⟩
    simp [execOp, c4 σ a hr, d4 σ a hr, h6 E.G σ base w₀ w hw]
  case buildSlice T len ps =>
    split at h
    · rename_i e ht
      split at h
      · rename_i inf hi
        split at h
        · rename_i hle hne
          have hle := Nat.le_of_ble_eq_true hle
          have hne : len * inf.size ≠ 0 := fun e => by rw [e] at hne; cases hne
          obtain ⟨inf', z, zs, k1, k2, h, k4, k5, k6⟩ := zeroS_spec h
          obtain ⟨c, m, h, hm, c1, c2, c3⟩ := uniZ_spec h k4
          obtain ⟨qs, q1, q2, h, q4⟩ := evPs_spec hf h
          obtain ⟨f1, f2, f3⟩ := fillZ_spec c1 (C.bnd_mono (Nat.zero_le H.length) c c2) (len * inf.size)
          obtain ⟨ss, h, s2, s3, s4, s5⟩ := kFill_spec (plc := fun i => some (i * inf.size, inf.size)) (fun i K hk => ⟨_, _, rfl, hk⟩) h f1 f2 q1 q2
          rw [lenH_iff, Nat.zero_add] at h
          refine ⟨_, _, h, ⟨s2, s3⟩, ⟨⟨Nat.le_refl _, ?_⟩, by simp [V.bnd, W.bnd, C.bnd, Eff.app]⟩, fun σ a base w₀ w hr hw => ⟨_, new_sl_rep σ _ _ _ _, ?_⟩⟩
          · have : len ≤ len * inf.size := Nat.le_mul_of_pos_right len (Nat.pos_of_ne_zero fun e => hne (by rw [e]; simp))
            omega
          · have e1 : z.cells = (List.replicate m (c.den σ)).toArray := by rw [k6 σ, c3 σ]
            have e2 := range_map_mod (v := c.den σ) (m := len * inf.size) (n := m) (fun _ => hm)
            have e3 := toList_toArray_map ps (fun (i, x) => (i, a.eval x)) _ (q4 σ a hr)
            have e4 := s5 σ
            rw [f3 σ] at e4
            have hgt : ¬ len * inf.size > 2 ^ 24 := by omega
            simp only [execOp, e3, Instr.buildSlice, Sem.run_bind, run_und w (tyOf_slice ht), Result.andThen_ok, run_sizeOf w hi, if_neg hgt, if_neg hne, run_zero w k1 k2, Sem.run_pure, e1, e2, e4]
            rfl
        · split at h
          · rename_i k hps hty _ _
            rw [lenH_iff, Nat.zero_add] at h
            refine ⟨_, _, h, ⟨⟨⟨rfl, fun y hy => by cases hy⟩, trivial⟩, rfl⟩, ⟨⟨Nat.le_refl _, by decide⟩, by simp [V.bnd, W.bnd, C.bnd, Eff.app]⟩, fun σ a base w₀ w hr hw => ⟨_, new_sl_rep σ _ _ _ _, ?_⟩⟩
            obtain rfl : ps = #[] := by
              cases ps with
              | mk l =>
                have hps' : l = [] := hps
                rw [hps']
            have hgt : ¬ 0 * inf.size > 2 ^ 24 := by omega
            have h0 : 0 * inf.size = 0 := Nat.zero_mul _
            simp only [execOp, Instr.buildSlice, Sem.run_bind, run_und w (tyOf_slice ht), Result.andThen_ok, run_sizeOf w hi, if_neg hgt, if_pos h0, Sem.run_pure]
            simp only [h0, List.map_toArray, List.map_nil]
            have ez : (Array.map (fun x => (#[] : Array Value)[x % (#[] : Array Value).size]!) (Array.range 0)) = #[] := by simp
            rw [ez]
            simp only [Instr.fill]
            rfl
          · exact h.elim
        · exact h.elim
      · exact h.elim
    · exact h.elim
  case makeSlice T l c =>
    obtain ⟨x, x1, x2, h, x4⟩ := evC_spec hf h
    obtain ⟨y, y1, y2, h, y4⟩ := evC_spec hf h
    split at h
    · rename_i e k p k' q ht _
      split at h
      · rename_i inf hi
        split at h
        · rename_i hsz
          have hsz := Nat.eq_of_beq_eq_true hsz
          obtain ⟨inf', z, zs, k1, k2, h, k4, k5, k6⟩ := zeroS_spec h
          obtain ⟨c, m, h, hm, c1, c2, c3⟩ := uniZ_spec h k4
          obtain ⟨⟨b1, b2, b3, b4⟩, h⟩ := h
          rw [lenH_iff, Nat.zero_add] at h
          obtain ⟨f1, f2, f3⟩ := fillZ_spec c1 (C.bnd_mono (Nat.zero_le H.length) c c2) (natI q)
          refine ⟨_, _, h, ⟨f1, f2⟩, ⟨⟨by unfold natI; omega, by unfold natI; omega⟩, by simp [V.bnd, W.bnd, C.bnd, Eff.app]⟩, fun σ a base w₀ w hr hw => ⟨_, new_sl_rep σ _ _ _ _, ?_⟩⟩
          have e1 : z.cells = (List.replicate m (c.den σ)).toArray := by rw [k6 σ, c3 σ]
          have e2 := range_map_mod (v := c.den σ) (m := q.toNat * inf.size) (n := m) (fun _ => hm)
          have wp : IntKind.i64.wrap p = p := wrap_of_in (k := .i64) ⟨by simp [lowK]; omega, by simp [highK]; omega⟩
          have wq : IntKind.i64.wrap q = q := wrap_of_in (k := .i64) ⟨by simp [lowK]; omega, by simp [highK]; omega⟩
          have hlow : ¬ p < 0 := by omega
          have hlow' : ¬ q < 0 := by omega
          have hpq : ¬ q < p := by omega
          have hbig : ¬ (2 ^ 48 : Int) < inf.bytes * q := by omega
          have hfz := f3 σ
          simp only [execOp, x4 σ a hr, y4 σ a hr, C.den, Instr.makeSlice, Sem.run_bind, run_und w (tyOf_slice ht), Result.andThen_ok, asInt, asIntOf, Sem.run_pure, run_typeInfo w hi, wp, wq]
          simp only [decide_eq_true_eq, gt_iff_lt, hlow, hlow', hpq, hbig, decide_false, Bool.or_self, Bool.false_eq_true, if_false, Sem.run_bind, run_askRoom, Result.andThen_ok, run_sizeOf w hi]
          by_cases h0 : q.toNat * inf.size = 0
          · have hq0 : q.toNat = 0 := by rw [hsz] at h0; omega
            have : (dens σ (fillZ c (natI q))).toArray = #[] := by rw [hfz]; simp [natI, hq0]
            have er : (Array.range 0).map (fun x => (#[] : Array Value)[x % (#[] : Array Value).size]!) = #[] := by simp
            rw [if_pos h0]
            simp only [Sem.run_bind, Sem.run_pure, Result.andThen_ok, newRow, run_newObj, this, h0, er]
            rfl
          · have : (dens σ (fillZ c (natI q))).toArray = (List.replicate (q.toNat * inf.size) (c.den σ)).toArray := by rw [hfz, hsz, Nat.mul_one]; rfl
            simp only [if_neg h0, Sem.run_bind, run_zero w k1 k2, Sem.run_pure, Result.andThen_ok, newRow, run_newObj, e1, e2, this]
            rfl
        · exact h.elim
      · exact h.elim
    · exact h.elim
  all_goals exact pure_case h

end Go.Proofs.YtaficaacogcblaaGreatDoor
