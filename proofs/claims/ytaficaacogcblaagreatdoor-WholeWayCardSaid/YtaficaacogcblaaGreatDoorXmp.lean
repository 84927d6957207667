/- Maps from pairs of integers to integers: made, asked, turned. -/
import Derived.Test.YtaficaacogcblaaGreatDoorXi
import Derived.WideKeyMaps2
import Derived.WideKeyArr2
import Derived.MapFrom
set_option linter.all false
namespace Go.Proofs.YtaficaacogcblaaGreatDoor
open Go.RowKit (Below)
variable {Df : List Deferred}
open Go.WideMaps

theorem wf_of_inK {k : IntKind} {n : Int} (h : InK k n) : (Lit.int k n).wf = true := by
  cases k <;> simp [InK, lowK, highK] at h <;> simp [Lit.wf, IntKind.min, IntKind.max, IntKind.signed, IntKind.bits] <;> omega

/-- A map whose entries are all as told. -/
def mapI (Q : Int → Int → Int → Prop) (o : Obj) : Prop := ∃ (es : Array MapEntry) (clock : Nat), o = .map es clock ∧ ∀ e ∈ es.toList, ∃ a b v, e.key = .agg #[.int .i64 a, .int .i64 b] ∧ e.val = .int .i64 v ∧ InK .i64 a ∧ InK .i64 b ∧ InK .i64 v ∧ Q a b v
/-- The type of such a map. -/
structure MapTy (P : Program) (T : TypeId) : Prop where
  ex : ∃ kt e et inf, P.underlying T = some (.map kt et) ∧ ArrKey P kt e 2 ∧ P.underlying e = some (.int .i64) ∧ (∃ m, P.types.size = m + 1) ∧ P.info? et = some inf ∧ inf.zero = some (.int .i64 0)
theorem key_of {P : Program} {k e : TypeId} (A : ArrKey P k e 2) (he : P.underlying e = some (.int .i64)) (hsz : ∃ m, P.types.size = m + 1) {a b : Int} (ha : InK .i64 a) (hb : InK .i64 b) : ∃ l, keyOf P k (.agg #[.int .i64 a, .int .i64 b]) = some l := by
  have hkt := A.keyType hsz
  obtain ⟨m0, hm0⟩ := hsz
  unfold keyOf
  simp only [A.hu]
  rw [if_pos (by simp [hkt, Value.formed, A.hu, A.size]), hm0]
  unfold Program.keyLits
  simp only [A.hu, Value.cells]
  rw [if_pos (by rw [A.size]; rfl)]
  have wa := wf_of_inK ha
  have wb := wf_of_inK hb
  have e1 : ((List.range 2).mapM fun i => P.keyLits (m0 + 1) e (((#[Value.int .i64 a, .int .i64 b] : Array Value).toList.drop (i * P.cellsOf e)).take (P.cellsOf e))) = some [[.int .i64 a], [.int .i64 b]] := by
    rw [A.one]
    simp [List.range_succ, Program.keyLits, he, wa, wb]
  rw [e1]
  simp

def mapAt (H : List Blk) (j : Nat) (Q : Int → Int → Int → Prop) : Prop := ∃ R, H[j]? = some (.obj R) ∧ ∀ o, R o → mapI Q o
def emptyM (o : Obj) : Prop := o = .map #[] 0
theorem empty_mapI (Q : Int → Int → Int → Prop) : ∀ o, emptyM o → mapI Q o := fun o h => ⟨#[], 0, h, fun e he => by simp at he⟩

/-- Operations on such maps. -/
def xmap (P : Program) (o : Oper) (fr : List V) (H : List Blk) (K : V → List Blk → Prop) : Prop :=
  match o.op with
  | .makeMap T none => MapTy P T ∧ lenH H 0 fun n => pushH H (.obj emptyM) fun H' => K (.w (.c (.cm n))) H'
  | .lookup T x i true => evC fr x fun c => evW fr i fun w => match c, w with
    | .cm j, .agg [.ints .i64 n ks] => (MapTy P T ∧ n = 2) ∧ ∃ Q, mapAt H j Q ∧ (∀ v, InK .i64 v → Q (ks.getD 0 0) (ks.getD 1 0) v → K (.tup [.c (.ci .i64 v), .c (.cb true)]) H) ∧ K (.tup [.c (.ci .i64 0), .c (.cb false)]) H
    | _, _ => False
  | .mapUpdate T m k v => evC fr m fun c => evW fr k fun w => evC fr v fun x => match c, w, x with
    | .cm j, .agg [.ints .i64 n ks], .ci .i64 v => (MapTy P T ∧ n = 2) ∧ ∃ Q, mapAt H j Q ∧ Q (ks.getD 0 0) (ks.getD 1 0) v ∧ ∀ H', H' = H.set j (.obj (mapI Q)) → K undefV H'
    | _, _, _ => False
  | _ => False

theorem pair_of {n : Nat} {ks : List Int} (h : Seg.rng (.ints .i64 n ks)) (hn : n = 2) : ∃ a b, ks = [a, b] ∧ InK .i64 a ∧ InK .i64 b := by
  subst hn
  obtain ⟨hl, hx⟩ := h
  match ks, hl, hx with
  | [a, b], _, hx => exact ⟨a, b, rfl, hx a (by simp), hx b (by simp)⟩

set_option maxHeartbeats 1600000 in
theorem xmap_spec {P : Program} {E : Env} {o : Oper} {fr : List V} {H : List Blk} {K : V → List Blk → Prop} (h : xmap P o fr H K) (hf : FOk H.length fr) (ho : HOk H) {σ : Sg} {a : Act} {base : Nat} {w₀ w : World}
    (hr : FRep Df σ a fr) (hw : Rep E.G σ base w₀ w H) {N : Act → World → Prop} {Q : Exit → Act → World → Prop}
    (next : ∀ τ x H' v w', K x H' → Sg.agree H.length σ τ → x.rep τ v → Rep E.G τ base w₀ w' H' → HOk H' → x.ok H'.length → H.length ≤ H'.length → N (a.put o.dst v) w') : o.wp P a w N Q := by
  obtain ⟨dst, op, ty, pos, after, guard⟩ := o
  cases op <;> simp only [xmap] at h
  case makeMap T r =>
    cases r with
    | some x => exact h.elim
    | none =>
      obtain ⟨_, h⟩ := h
      rw [lenH_iff, Nat.zero_add, pushH_iff] at h
      have hex : (execOp a.eval { dst, op := .makeMap T none, type := ty, pos, after, guard }).run P w = .ok (.value (.map (some w.heap.size))) (w.alloc (.map #[] 0)) := by
        simp [execOp, Instr.makeMap, run_newObj]
      unfold Oper.wp
      rw [hex]
      have ha := Sg.upd_agree σ H.length (w.heap.size, 0)
      refine next (σ.upd H.length (w.heap.size, 0)) _ _ _ _ h ha ?_ (hw.push ho _ (.obj emptyM) ?_) (ho.push trivial rfl) ⟨trivial, by simp [V.bnd, W.bnd, C.bnd]⟩ (by simp)
      · simp [V.rep, W.den, C.den, Sg.upd_self]
      · refine ⟨by rw [Sg.upd_self], by rw [Sg.upd_self]; exact Nat.le_trans hw.size hw.below.size, .map #[] 0, ?_, rfl⟩
        rw [Sg.upd_self]
        show (w.heap.push _)[w.heap.size]? = _
        simp
  case lookup T x i ok =>
    cases ok with
    | false => exact h.elim
    | true =>
      obtain ⟨c, c1, c2, h, c4⟩ := evC_spec hf h
      obtain ⟨d, d1, d2, h, d4⟩ := evW_spec hf h
      split at h
      · rename_i j n ks _
        obtain ⟨⟨⟨kt, e, et, inf, ht, A, he, hsz, hi, hz⟩, hn⟩, Q', ⟨R, hj, hR⟩, hyes, hno⟩ := h
        obtain ⟨p, q, rfl, hp, hq⟩ := pair_of d1.1 hn
        obtain ⟨l, hkey⟩ := key_of A he hsz hp hq
        have K' := A.law
        have hb := hw.blk j _ hj
        obtain ⟨hb1, hb2, ob, hb3, hb4⟩ := hb
        obtain ⟨es, clock, rfl, hes⟩ := hR ob hb4
        have hkeys : ∀ x ∈ es.toList, ∃ l, keyOf P kt x.key = some l := fun x hx => by
          obtain ⟨a1, b1, v1, k1, _, k2, k3, _⟩ := hes x hx
          rw [k1]; exact key_of A he hsz k2 k3
        have ec : a.eval x = .map (some (σ j).1) := c4 σ a hr
        have ed : a.eval i = .agg #[.int .i64 p, .int .i64 q] := d4 σ a hr
        have hzero : (zeroValue et).run P w = .ok (.int .i64 0) w := run_zero w hi hz
        rcases K'.find w hkey es.toList hkeys with ⟨h1, h2⟩ | ⟨m, e0, h1, h2, h3⟩
        · have hex : (execOp a.eval { dst, op := .lookup T x i true, type := ty, pos, after, guard }).run P w = .ok (.value (.tuple #[.int .i64 0, .bool false])) w := by
            simp [execOp, ec, ed, Instr.lookup, run_und w ht, MapKept.run_getObj_map hb3, K'.check w _ hkey, h1, hzero, Result.andThen]
          unfold Oper.wp
          rw [hex]
          exact next σ _ _ _ _ hno (Sg.agree.refl _ _) rfl hw ho ⟨⟨by simp only [W.rng, C.rng, InK, lowK, highK]; omega, trivial, trivial⟩, rfl⟩ (Nat.le_refl _)
        · have hm0 : e0 ∈ es.toList := List.mem_of_getElem? h2
          obtain ⟨a1, b1, v1, k1, k2, k3, k4, k5, k6⟩ := hes e0 hm0
          rw [k1] at h3
          obtain ⟨rfl, rfl⟩ : a1 = p ∧ b1 = q := by simpa using h3
          have hex : (execOp a.eval { dst, op := .lookup T x i true, type := ty, pos, after, guard }).run P w = .ok (.value (.tuple #[.int .i64 v1, .bool true])) w := by
            simp [execOp, ec, ed, Instr.lookup, run_und w ht, MapKept.run_getObj_map hb3, K'.check w _ hkey, h1, k2, Result.andThen]
          unfold Oper.wp
          rw [hex]
          exact next σ _ _ _ _ (hyes v1 k5 k6) (Sg.agree.refl _ _) rfl hw ho ⟨⟨k5, trivial, trivial⟩, rfl⟩ (Nat.le_refl _)
      · exact h.elim
  case mapUpdate T m k v =>
    obtain ⟨c, c1, c2, h, c4⟩ := evC_spec hf h
    obtain ⟨d, d1, d2, h, d4⟩ := evW_spec hf h
    obtain ⟨x, x1, x2, h, x4⟩ := evC_spec hf h
    split at h
    · rename_i j n ks vv _ _
      obtain ⟨⟨⟨kt, e, et, inf, ht, A, he, hsz, hi, hz⟩, hn⟩, Q', ⟨R, hj, hR⟩, hv, hgo⟩ := h
      obtain ⟨p, q, rfl, hp, hq⟩ := pair_of d1.1 hn
      obtain ⟨l, hkey⟩ := key_of A he hsz hp hq
      have K' := A.law
      have hb := hw.blk j _ hj
      obtain ⟨hb1, hb2, ob, hb3, hb4⟩ := hb
      obtain ⟨es, clock, rfl, hes⟩ := hR ob hb4
      have hkeys : ∀ x ∈ es.toList, ∃ l, keyOf P kt x.key = some l := fun x hx => by
        obtain ⟨a1, b1, v1, k1, _, k2, k3, _⟩ := hes x hx
        rw [k1]; exact key_of A he hsz k2 k3
      have ec : a.eval m = .map (some (σ j).1) := c4 σ a hr
      have ed : a.eval k = .agg #[.int .i64 p, .int .i64 q] := d4 σ a hr
      have ex : a.eval v = .int .i64 vv := x4 σ a hr
      have fin : ∀ (es' : Array MapEntry) (clock' : Nat), (∀ y ∈ es'.toList, y ∈ es.toList ∨ (y.key = .agg #[.int .i64 p, .int .i64 q] ∧ y.val = .int .i64 vv)) →
          (execOp a.eval { dst, op := .mapUpdate T m k v, type := ty, pos, after, guard }).run P w = .ok .skip { w with heap := w.heap.setIfInBounds (σ j).1 (.map es' clock') } → Oper.wp P { dst, op := .mapUpdate T m k v, type := ty, pos, after, guard } a w N Q := fun es' clock' hall hex => by
        unfold Oper.wp
        rw [hex]
        have hset := MapKept.heap_set (o' := .map es' clock') hb3
        refine next σ undefV _ undef _ (hgo _ rfl) (Sg.agree.refl _ _) (undefV_rep σ) (hw.set hj rfl (fun r hr' => hset.2 r hr') (by simp) rfl rfl rfl rfl ⟨hb1, hb2, .map es' clock', hset.1, es', clock', rfl, fun y hy => ?_⟩) (ho.set trivial rfl) ⟨trivial, rfl⟩ (by simp)
        rcases hall y hy with hy | ⟨y1, y2⟩
        · exact hes y hy
        · exact ⟨p, q, vv, y1, y2, hp, hq, x1, hv⟩
      rcases K'.find w hkey es.toList hkeys with ⟨h1, h2⟩ | ⟨i, e0, h1, h2, h3⟩
      · refine fin (es.push { key := .agg #[.int .i64 p, .int .i64 q], val := .int .i64 vv, born := clock }) (clock + 1) (fun y hy => ?_) ?_
        · simp only [Array.toList_push, List.mem_append, List.mem_singleton] at hy
          rcases hy with hy | rfl
          · exact .inl hy
          · exact .inr ⟨rfl, rfl⟩
        · simp [execOp, ec, ed, ex, Instr.mapUpdate, run_und w ht, MapKept.run_getObj_map hb3, K'.check w false hkey, h1, MapKept.run_setObj_map _ hb3, Result.andThen]
      · have hi0 : es[i]? = some e0 := by simpa using h2
        refine fin (es.modify i fun e' => { e' with key := .agg #[.int .i64 p, .int .i64 q], val := .int .i64 vv }) clock (fun y hy => ?_) ?_
        · rcases MapFrom.mem_modify hy with hy | ⟨e', _, rfl⟩
          · exact .inl hy
          · exact .inr ⟨rfl, rfl⟩
        · simp [execOp, ec, ed, ex, Instr.mapUpdate, run_und w ht, MapKept.run_getObj_map hb3, K'.check w false hkey, h1, hi0, h3, K'.stays w hkey, MapKept.run_setObj_map _ hb3, Result.andThen]
    · exact h.elim
end Go.Proofs.YtaficaacogcblaaGreatDoor
