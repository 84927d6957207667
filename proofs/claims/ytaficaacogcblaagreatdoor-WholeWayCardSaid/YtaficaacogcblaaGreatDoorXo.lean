/- Regions whose order is open: the walk in the text's order, with masked states; it is sound. -/
import Derived.Test.YtaficaacogcblaaGreatDoorXn
set_option linter.all false
namespace Go.Proofs.YtaficaacogcblaaGreatDoor
open Go.RowKit (Below)
variable {Df : List Deferred}

def maskF (ls : List Nat) : Nat → List V → (List V → Prop) → Prop
  | _, [], K => K []
  | n, x :: xs, K => match ls.elem n with
    | true => maskF ls (n + 1) xs fun r => K (x :: r)
    | false => maskF ls (n + 1) xs fun r => K (.any :: r)
theorem maskF_spec {ls : List Nat} : ∀ {n : Nat} {fr : List V} {K : List V → Prop}, maskF ls n fr K → ∃ frm, K frm ∧ frm.length = fr.length ∧ ∀ (s : Nat) (x : V), frm[s]? = some x → x = .any ∨ (n + s ∈ ls ∧ fr[s]? = some x)
  | n, [], K, h => ⟨[], h, rfl, fun s x hx => by simp at hx⟩
  | n, y :: ys, K, h => by
    simp only [maskF] at h
    have step : ∀ (z : V) (K' : List V → Prop), (z = .any ∨ (n ∈ ls ∧ z = y)) → maskF ls (n + 1) ys (fun r => K (z :: r)) → ∃ frm, K frm ∧ frm.length = (y :: ys).length ∧ ∀ (s : Nat) (x : V), frm[s]? = some x → x = .any ∨ (n + s ∈ ls ∧ (y :: ys)[s]? = some x) := fun z K' hz h => by
      obtain ⟨frm, h1, h2, h3⟩ := maskF_spec h
      refine ⟨z :: frm, h1, by simp [h2], fun s x hx => ?_⟩
      cases s with
      | zero =>
        simp at hx
        subst hx
        rcases hz with h | ⟨h, h'⟩
        · exact .inl h
        · exact .inr ⟨h, by simp [h']⟩
      | succ s =>
        rcases h3 s x (by simpa using hx) with h | ⟨h, h'⟩
        · exact .inl h
        · exact .inr ⟨by rw [show n + (s + 1) = n + 1 + s by omega]; exact h, by simpa using h'⟩
    cases he : ls.elem n with
    | true => rw [he] at h; exact step y K (.inr ⟨List.elem_iff.1 he, rfl⟩) h
    | false => rw [he] at h; exact step .any K (.inl rfl) h

def roB : Blk → Blk
  | .own _ ss => .ro ss
  | .ro ss => .ro ss
  | _ => .gone
def visB (ro : Bool) (b : Blk) : Blk := match ro with | true => roB b | false => b
/-- Some blocks alone; all to be read only, where ro says so. -/
def maskB (ro : Bool) (ft : List Nat) : Nat → List Blk → (List Blk → Prop) → Prop
  | _, [], K => K []
  | n, b :: H, K => match ft.elem n with
    | true => match ro with
      | true => maskB ro ft (n + 1) H fun r => K (roB b :: r)
      | false => maskB ro ft (n + 1) H fun r => K (b :: r)
    | false => maskB ro ft (n + 1) H fun r => K (.gone :: r)
theorem maskB_spec {ro : Bool} {ft : List Nat} : ∀ {n : Nat} {H : List Blk} {K : List Blk → Prop}, maskB ro ft n H K → ∃ Hm, K Hm ∧ Hm.length = H.length ∧ ∀ (s : Nat) (b : Blk), Hm[s]? = some b → b = .gone ∨ (n + s ∈ ft ∧ ∃ b', H[s]? = some b' ∧ b = visB ro b')
  | n, [], K, h => ⟨[], h, rfl, fun s x hx => by simp at hx⟩
  | n, y :: ys, K, h => by
    simp only [maskB] at h
    have step : ∀ (z : Blk), (z = .gone ∨ (n ∈ ft ∧ z = visB ro y)) → maskB ro ft (n + 1) ys (fun r => K (z :: r)) →
        ∃ Hm, K Hm ∧ Hm.length = (y :: ys).length ∧ ∀ (s : Nat) (b : Blk), Hm[s]? = some b → b = .gone ∨ (n + s ∈ ft ∧ ∃ b', (y :: ys)[s]? = some b' ∧ b = visB ro b') := fun z hz h => by
      obtain ⟨Hm, h1, h2, h3⟩ := maskB_spec h
      refine ⟨z :: Hm, h1, by simp [h2], fun s x hx => ?_⟩
      cases s with
      | zero =>
        simp at hx
        subst hx
        rcases hz with h | ⟨h, h'⟩
        · exact .inl h
        · exact .inr ⟨h, y, rfl, h'⟩
      | succ s =>
        rcases h3 s x (by simpa using hx) with h | ⟨h, b', h', h''⟩
        · exact .inl h
        · exact .inr ⟨by rw [show n + (s + 1) = n + 1 + s by omega]; exact h, b', by simpa using h', h''⟩
    cases he : ft.elem n with
    | true =>
      rw [he] at h
      cases ro with
      | true => exact step (roB y) (.inr ⟨List.elem_iff.1 he, rfl⟩) h
      | false => exact step y (.inr ⟨List.elem_iff.1 he, rfl⟩) h
    | false => rw [he] at h; exact step .gone (.inl rfl) h

theorem roB_ok {b : Blk} {n : Nat} : (b.rng → (roB b).rng) ∧ (b.bnd n = true → (roB b).bnd n = true) := by
  cases b with
  | own T ss => exact ⟨id, id⟩
  | ro ss => exact ⟨id, id⟩
  | obj R => exact ⟨fun _ => trivial, fun _ => rfl⟩
  | gone => exact ⟨fun _ => trivial, fun _ => rfl⟩

/-- The blocks that an operation touches. -/
def footOf (o : Oper) (fr : List V) (K : List Nat → Prop) : Prop :=
  let at_ (a : Operand) : Prop := evC fr a fun c => match c with
    | .cp j _ => K [j]
    | .cpi j _ _ => K [j]
    | _ => K []
  match o.op with
  | .load _ a => at_ a
  | .store _ a _ => at_ a
  | .convert _ _ a => evC fr a fun c => match c with
    | .csl j _ _ _ _ => K [j]
    | _ => K []
  | _ => K []
theorem footOf_spec {n : Nat} {o : Oper} {fr : List V} (hf : FOk n fr) {K : List Nat → Prop} (h : footOf o fr K) : ∃ ft, K ft := by
  have at_ : ∀ a : Operand, (evC fr a fun c => match c with
    | .cp j _ => K [j]
    | .cpi j _ _ => K [j]
    | _ => K []) → ∃ ft, K ft := fun a h => by
    obtain ⟨c, _, _, h, _⟩ := evC_spec hf h
    split at h <;> exact ⟨_, h⟩
  unfold footOf at h
  simp only at h
  split at h
  · exact at_ _ h
  · exact at_ _ h
  · obtain ⟨c, _, _, h, _⟩ := evC_spec hf h
    split at h <;> exact ⟨_, h⟩
  · exact ⟨_, h⟩

def toD (j : Nat) : Eff → EffD
  | .none => .none
  | .new T ss => .new j T ss
  | .set i T ss => .set i T ss

/-- One operation, at a masked frame. -/
def xdop (P : Program) (E : Env) (F : Fns) (cal : Cal) (o : Oper) (frm : List V) (H : List Blk) (K : V → Eff → List Nat → Prop) : Prop :=
  let mem : Prop := footOf o frm fun ft => maskB false ft 0 H fun Hm => xop P E o frm Hm fun x e => K x e ft
  match o.op with
  | .call c => match c.callee with
    | .value f => evC frm f fun fv => match fv with
      | .cf g caps => evWs frm c.args.toList fun ws => match F.ct g with
        | some ct => ct (ws ++ caps.map W.c) fun x => K x .none []
        | none => ∃ (m : List Nat) (x : V), x.bnd 0 = true ∧ (maskB true m 0 H fun Hr => cal g (ws ++ caps.map W.c) Hr fun x' _ => x' = x) ∧ x.rng ∧ K x .none m
      | _ => False
    | _ => mem
  | _ => mem

def xdr (P : Program) (E : Env) (F : Fns) (cal : Cal) (ops : Array Oper) (l : List Oper) : List V → List Blk → List DEff → (List V → List Blk → Prop) → Prop :=
  List.rec (motive := fun _ => List V → List Blk → List DEff → (List V → List Blk → Prop) → Prop) (fun fr H acc K => chk ops acc.reverse = true ∧ K fr H)
    (fun o _ ih fr H acc K => maskF (o.looksAt ops) 0 fr fun frm => guardK ops.toList frm o fun wanted => match wanted with
    | false => putK fr o.dst undefV fun fr' => ih fr' H (⟨o.dst, undefV, .none, []⟩ :: acc) K
    | true => xdop P E F cal o frm H fun x e ft => putK fr o.dst x fun fr' => lenH H 0 fun n => effK H e fun H' => ih fr' H' (⟨o.dst, x, toD n e, ft⟩ :: acc) K) l
theorem xdr_nil (P : Program) (E : Env) (F : Fns) (cal : Cal) (ops : Array Oper) (fr : List V) (H : List Blk) (acc : List DEff) (K : List V → List Blk → Prop) : xdr P E F cal ops [] fr H acc K = (chk ops acc.reverse = true ∧ K fr H) := rfl
theorem xdr_cons (P : Program) (E : Env) (F : Fns) (cal : Cal) (ops : Array Oper) (o : Oper) (rest : List Oper) (fr : List V) (H : List Blk) (acc : List DEff) (K : List V → List Blk → Prop) : xdr P E F cal ops (o :: rest) fr H acc K = maskF (o.looksAt ops) 0 fr fun frm => guardK ops.toList frm o fun wanted => match wanted with
    | false => putK fr o.dst undefV fun fr' => xdr P E F cal ops rest fr' H (⟨o.dst, undefV, .none, []⟩ :: acc) K
    | true => xdop P E F cal o frm H fun x e ft => putK fr o.dst x fun fr' => lenH H 0 fun n => effK H e fun H' => xdr P E F cal ops rest fr' H' (⟨o.dst, x, toD n e, ft⟩ :: acc) K := rfl

/-! ### soundness -/
theorem guard_wp {P : Program} {ops : Array Oper} {i : Nat} {o : Oper} (ho : ops[i]? = some o) {N : Act → World → Prop} {Q : Exit → Act → World → Prop} {a : Act} {w : World} {b : Bool} (hb : Region.wanted o (yielded ops a.tmps) = b)
    (h : match b with | true => o.wp P a w N Q | false => N (a.put o.dst undef) w) : wpOp P ops Q i N a w := by
  unfold wpOp
  simp only [ho, hb]
  cases b with
  | true => simp only [if_true]; exact .inl h
  | false => simp only [Bool.false_eq_true, if_false]; exact h

theorem call_enter {P : Program} {dst : Option Tmp} {ty : TypeId} {pos : String} {after : Array Edge} {guard : Option (Nat × Bool)} {f : Operand} {args : Array Operand} {argTypes : Array TypeId} {a : Act} {σ : Sg} {g : FuncId} {caps : List C} {ws : List W}
    (hf : a.eval f = C.den σ (.cf g caps)) (hw : args.toList.map a.eval = ws.map (W.den σ)) (he : Enter P g) (w : World) :
    (execOp a.eval { dst, op := .call { callee := .value f, args, argTypes }, type := ty, pos, after, guard }).run P w = .ok (.enter g ((ws ++ caps.map W.c).map (W.den σ)).toArray) w := by
  have e1 : args.map a.eval = (ws.map (W.den σ)).toArray := toList_toArray_map args a.eval _ hw
  have e2 : (ws.map (W.den σ)).toArray ++ (C.denL σ caps).toArray = ((ws ++ caps.map W.c).map (W.den σ)).toArray := by rw [denL_W]; simp
  simp only [execOp, resolve, hf, C.den, Deferred.ofValue, e1, Sem.run_bind, Sem.run_pure, Result.andThen_ok, invoke, Array.empty_append, e2]
  exact he _ _

/-- What the step of one operation tells. -/
theorem xdop_spec {P : Program} {E : Env} (hE : EnvOk P E) {F : Fns} (hF : FnsOk P F E.G) {cal : Cal} (hc : CalOk P E cal) {ops : Array Oper} {i : Nat} {o : Oper} (hi : ops[i]? = some o) {frm : List V} {H : List Blk} (hf : FOk H.length frm) (ho : HOk H)
    (hg : ∀ {Df : List Deferred} σ a, FRep Df σ a frm → Region.wanted o (yielded ops a.tmps) = true) {K : V → Eff → List Nat → Prop} (h : xdop P E F cal o frm H K) :
    ∃ x e ft, K x e ft ∧ e.ok H ∧ x.ok (e.app H).length ∧ ∃ Hm, (∀ (j : Nat) (b : Blk), Hm[j]? = some b → b = .gone ∨ (j ∈ ft ∧ H[j]? = some b)) ∧ SF Df P E ops i o frm Hm ⟨o.dst, x, toD H.length e, ft⟩ := by
  have mem : (footOf o frm fun ft => maskB false ft 0 H fun Hm => xop P E o frm Hm fun x e => K x e ft) →
      ∃ x e ft, K x e ft ∧ e.ok H ∧ x.ok (e.app H).length ∧ ∃ Hm, (∀ (j : Nat) (b : Blk), Hm[j]? = some b → b = .gone ∨ (j ∈ ft ∧ H[j]? = some b)) ∧ SF Df P E ops i o frm Hm ⟨o.dst, x, toD H.length e, ft⟩ := fun h => by
    obtain ⟨ft, h⟩ := footOf_spec hf h
    obtain ⟨Hm, h, hl, hm⟩ := maskB_spec h
    have hm' : ∀ (j : Nat) (b : Blk), Hm[j]? = some b → b = .gone ∨ (j ∈ ft ∧ H[j]? = some b) := fun j b hb => by
      rcases hm j b hb with h | ⟨h1, b', h2, h3⟩
      · exact .inl h
      · exact .inr ⟨by simpa using h1, by rw [h2, h3]; rfl⟩
    have hom : HOk Hm := by
      refine ⟨fun b hb => ?_, fun b hb => ?_⟩ <;> obtain ⟨q, hq⟩ := List.getElem?_of_mem hb <;> rcases hm' q b hq with rfl | ⟨_, h2⟩
      · trivial
      · exact ho.rng b (List.mem_of_getElem? h2)
      · rfl
      · rw [hl]; exact ho.bnd b (List.mem_of_getElem? h2)
    obtain ⟨x, e, h1, h2, h3, h4⟩ := xop_spec hE h (by rw [hl]; exact hf) hom
    have eok : e.ok H := by
      cases e with
      | none => trivial
      | new T ss => exact ⟨h2.1, by rw [← hl]; exact h2.2⟩
      | set j T ss =>
        obtain ⟨q1, q2, s, q3⟩ := h2
        refine ⟨q1, by rw [← hl]; exact q2, s, ?_⟩
        rcases hm' j _ q3 with h | ⟨_, h⟩
        · cases h
        · exact h
    have elen : (e.app Hm).length = (e.app H).length := by cases e <;> simp [Eff.app, hl]
    refine ⟨x, e, ft, h1, eok, by rw [← elen]; exact h3, Hm, hm', fun σ a base w₀ w hr hw N Q cont => guard_wp hi (hg σ a hr) ?_⟩
    have hrun := h4 σ a base w₀ w hr hw
    show o.wp P a w N Q
    unfold Oper.wp
    cases e with
    | none =>
      obtain ⟨v, v1, v2⟩ := hrun
      rw [v2]
      exact cont v w v1 (Below.refl _ _)
    | new T ss =>
      obtain ⟨v, v1, v2⟩ := hrun
      rw [v2]
      rw [hl] at v1
      exact cont v v1
    | set j T ss =>
      obtain ⟨v1, v2⟩ := hrun
      rw [v2]
      obtain ⟨_, _, s, q3⟩ := h2
      exact cont v1 ⟨s, q3⟩
  unfold xdop at h
  simp only at h
  split at h
  · rename_i c hop
    split at h
    · rename_i f hcal
      obtain ⟨fv, f1, f2, h, f4⟩ := evC_spec hf h
      split at h
      · rename_i g caps
        obtain ⟨ws, w1, w2, h5, w4⟩ := evWs_spec hf h
        simp only [C.rng] at f1
        simp only [C.bnd] at f2
        obtain ⟨dst, op, ty, pos, after, guard⟩ := o
        simp only at hop
        subst hop
        obtain ⟨callee, args, argTypes⟩ := c
        simp only at hcal
        subst hcal
        split at h5
        · rename_i ct hct
          obtain ⟨hok, hent⟩ := hF.ct g ct hct
          obtain ⟨x, x1, x2, x3⟩ := hok _ _ h5 (rngW_append w1 (rngL_W f1))
          refine ⟨x, .none, [], x1, trivial, V.ok_mono (Nat.zero_le _) x2, [], fun j b hb => by simp at hb, fun σ a base w₀ w hr hw N Q cont => guard_wp hi (hg σ a hr) ?_⟩
          show Oper.wp P _ a w N Q
          unfold Oper.wp
          rw [call_enter (f4 σ a hr) (w4 σ a hr) hent w, Oper.upon_enter]
          refine (x3 σ w hw.gw).mono ?_
          rintro e w' ⟨v, rfl, k1, k2⟩
          exact cont v w' k1 k2
        · obtain ⟨m, x, hx, h6, hxr, hk⟩ := h5
          obtain ⟨Hr, h6, hl, hm⟩ := maskB_spec h6
          have hor : HOk Hr := by
            refine ⟨fun b hb => ?_, fun b hb => ?_⟩ <;> obtain ⟨q, hq⟩ := List.getElem?_of_mem hb <;> rcases hm q b hq with rfl | ⟨_, b', h2, rfl⟩
            · trivial
            · exact (roB_ok (n := 0)).1 (ho.rng b' (List.mem_of_getElem? h2))
            · rfl
            · rw [hl]; exact roB_ok.2 (ho.bnd b' (List.mem_of_getElem? h2))
          have hmget : ∀ (j : Nat) (b : Blk), ((List.range H.length).map fun n => if m.elem n then H.getD n .gone else .gone)[j]? = some b → b = .gone ∨ (j ∈ m ∧ H[j]? = some b) := fun j b hb => by
            rw [List.getElem?_map] at hb
            rcases Nat.lt_or_ge j H.length with hlt | hge
            · rw [List.getElem?_range hlt] at hb
              simp only [Option.map_some, Option.some.injEq] at hb
              split at hb
              · rename_i he
                refine .inr ⟨List.elem_iff.1 he, ?_⟩
                rw [List.getD_eq_getElem?_getD, List.getElem?_eq_getElem hlt] at hb
                rw [List.getElem?_eq_getElem hlt, ← hb]; rfl
              · exact .inl hb.symm
            · rw [List.getElem?_eq_none (by simpa using hge)] at hb; cases hb
          refine ⟨x, .none, m, hk, trivial, ⟨hxr, V.bnd_mono (Nat.zero_le _) hx⟩, ((List.range H.length).map fun n => if m.elem n then H.getD n .gone else .gone), hmget, fun σ a base w₀ w hr hw N Q cont => guard_wp hi (hg σ a hr) ?_⟩
          show Oper.wp P _ a w N Q
          have hent : Enter P g := hc.enter _ _ _ _ h6
          unfold Oper.wp
          rw [call_enter (f4 σ a hr) (w4 σ a hr) hent w, Oper.upon_enter]
          have hw' : Rep E.G σ w.heap.size w w Hr := by
            refine ⟨Below.refl _ _, Nat.le_refl _, fun j b hb => ?_, fun i j b c hi hj hb hc hij => ?_, fun q ss hq => ?_⟩
            · rcases hm j b hb with rfl | ⟨h1, b', h2, rfl⟩
              · trivial
              · have hj : ((List.range H.length).map fun n => if m.elem n then H.getD n .gone else .gone)[j]? = some b' := by
                  have hlt := (List.getElem?_eq_some_iff.1 h2).1
                  rw [List.getElem?_map, List.getElem?_range hlt]
                  rw [Nat.zero_add] at h1
                  simp only [Option.map_some, List.elem_iff.2 h1, if_true]
                  rw [List.getD_eq_getElem?_getD, h2]; rfl
                have hb' := hw.blk j b' hj
                cases b' with
                | own T ss =>
                  have hrd := rep_reads hw (ss := ss) (.inl ⟨T, hj⟩) 0
                  refine ⟨(Array.getElem?_eq_some_iff.1 hb'.2.2).1, fun i v hv => ?_⟩
                  have := hrd.cell i v (by simpa using hv)
                  simpa [Sg.at] using this
                | ro ss => exact ⟨Nat.lt_of_lt_of_le hb'.1 (Nat.le_trans hw.size hw.below.size), hb'.2⟩
                | obj R => trivial
                | gone => trivial
            · rcases hm i b hi with rfl | ⟨_, b', _, rfl⟩
              · cases hb
              · cases b' <;> cases hb
            · obtain ⟨g1, g2, g3⟩ := hw.glo q ss hq
              exact ⟨Nat.lt_of_lt_of_le g1 (Nat.le_trans hw.size hw.below.size), g2, g3⟩
          refine (hc.call _ _ _ _ h6 (rngW_append w1 (rngL_W f1)) (by rw [hl]; exact bndW_append w2 (bndL_W f2)) hor σ w.heap.size w w hw').mono ?_
          rintro e w' ⟨τ, y, H', v, rfl, k1, rfl, k3, k4, k5, k6, k7⟩
          exact cont v w' (V.rep_agree (n := 0) (fun j hj => absurd hj (Nat.not_lt_zero j)) hx k1) k4.below
      · exact h.elim
    · exact mem h
  · exact mem h

theorem runF_snoc (pre : List DEff) (d : DEff) (fr : List V) : runF (pre ++ [d]) fr = putF (runF pre fr) d.dst d.x := by
  unfold runF
  rw [List.foldl_append]
  simp only [List.foldl_cons, List.foldl_nil, DEff.fu]
  cases d.dst <;> rfl
theorem runH_snoc (pre : List DEff) (d : DEff) (H : List Blk) : runH (pre ++ [d]) H = upd1 true d.e.wr (runH pre H) := by
  unfold runH
  rw [List.foldl_append]
  rfl

/-- How many places are left. -/
def leftR (e : Eff) (r : Nat) : Nat := match e with | .new _ _ => r | _ => r + 1

/-- The walk in the text's order tells all that is wanted. -/
theorem xdr_spec {P : Program} {E : Env} (hE : EnvOk P E) {F : Fns} (hF : FnsOk P F E.G) {cal : Cal} (hc : CalOk P E cal) (ops : Array Oper) {n₀ : Nat} {fr₀ : List V} {H₀ : List Blk} {K : List V → List Blk → Prop} :
    ∀ (rest : List Oper) (acc : List DEff) (r : Nat) {fr : List V} {H : List Blk}, (∀ j, rest[j]? = ops[acc.length + j]?) → xdr P E F cal ops rest fr H acc K →
      fr = runF acc.reverse fr₀ → H ++ List.replicate r .gone = runH acc.reverse H₀ → rest.length ≤ r → n₀ ≤ H.length → FOk H.length fr → HOk H →
      (∀ i d, acc.reverse[i]? = some d → Fact Df P E ops n₀ fr₀ H₀ (acc.reverse.take i) i d) →
      ∃ effs r' H', effs.length = acc.length + rest.length ∧ chk ops effs = true ∧ K (runF effs fr₀) H' ∧ H' ++ List.replicate r' .gone = runH effs H₀ ∧ FOk H'.length (runF effs fr₀) ∧ HOk H' ∧ n₀ ≤ H'.length ∧
        (∀ i d, effs[i]? = some d → Fact Df P E ops n₀ fr₀ H₀ (effs.take i) i d)
  | [], acc, r, fr, H, _, h, hfr, hH, _, hn, hf, ho, hfacts => by
    rw [xdr_nil] at h
    exact ⟨acc.reverse, r, H, by simp, h.1, by rw [← hfr]; exact h.2, hH, by rw [← hfr]; exact hf, ho, hn, hfacts⟩
  | o :: rest, acc, r, fr, H, hget, h, hfr, hH, hr, hn, hf, ho, hfacts => by
    simp only [List.length_cons] at hr
    obtain ⟨r', rfl⟩ : ∃ r', r = r' + 1 := ⟨r - 1, by omega⟩
    have hi : ops[acc.length]? = some o := by simpa using (hget 0).symm
    rw [xdr_cons] at h
    obtain ⟨frm, h, hfl, hfm⟩ := maskF_spec h
    have hfok : FOk H.length frm := ⟨fun x hx => by
      obtain ⟨s, hs⟩ := List.getElem?_of_mem hx
      rcases hfm s x hs with rfl | ⟨_, h2⟩
      · exact ⟨trivial, rfl⟩
      · exact hf.ok x (List.mem_of_getElem? h2)⟩
    have hfl0 : frm.length = fr₀.length := by
      rw [hfl, hfr]
      have : ∀ pre : List DEff, (runF pre fr₀).length = fr₀.length := fun pre => by
        have := congrArg List.length (upds_runF pre pre.length fr₀)
        rw [List.take_length] at this
        rw [← this, upds_length]
      exact this _
    have hHlen : (runH acc.reverse H₀).length = H.length + (r' + 1) := by rw [← hH]; simp
    have hHget : ∀ (j : Nat) (b : Blk), H[j]? = some b → (runH acc.reverse H₀)[j]? = some b := fun j b hb => by
      rw [← hH, List.getElem?_append_left (List.getElem?_eq_some_iff.1 hb).1]; exact hb
    have hget' : ∀ (d : DEff) (j : Nat), rest[j]? = ops[(d :: acc).length + j]? := fun d j => by have := hget (j + 1); simpa [Nat.add_assoc, Nat.add_comm 1 j] using this
    have facts' : ∀ d, Fact Df P E ops n₀ fr₀ H₀ acc.reverse acc.length d → ∀ i d', (d :: acc).reverse[i]? = some d' → Fact Df P E ops n₀ fr₀ H₀ ((d :: acc).reverse.take i) i d' := fun d hd i d' hd' => by
      rw [List.reverse_cons] at hd' ⊢
      rcases Nat.lt_or_ge i acc.length with hlt | hge
      · rw [List.getElem?_append_left (by simpa using hlt)] at hd'
        rw [List.take_append_of_le_length (by simp; omega)]
        exact hfacts i d' hd'
      · have hlt := (List.getElem?_eq_some_iff.1 hd').1
        simp at hlt
        obtain rfl : i = acc.length := by omega
        rw [List.getElem?_append_right (by simp)] at hd'
        simp at hd'
        subst hd'
        rw [List.take_append_of_le_length (by simp), List.take_of_length_le (by simp)]
        exact hd
    have hmf : ∀ (s : Nat) (x : V), frm[s]? = some x → x = .any ∨ (s ∈ o.looksAt ops ∧ (runF acc.reverse fr₀)[s]? = some x) := fun s x hx => by
      rcases hfm s x hx with h | ⟨h1, h2⟩
      · exact .inl h
      · exact .inr ⟨by simpa using h1, by rw [← hfr]; exact h2⟩
    obtain ⟨b, h, hdet⟩ := guardK_det h
    have hwant : ∀ {Df : List Deferred} σ a, FRep Df σ a frm → Region.wanted o (yielded ops a.tmps) = b := fun σ a hra => guardK_spec hdet hra
    cases b with
    | false =>
      simp only at h
      rw [putK_iff] at h
      have hfact : Fact Df P E ops n₀ fr₀ H₀ acc.reverse acc.length ⟨o.dst, undefV, .none, []⟩ := by
        refine ⟨⟨o, hi, rfl, frm, [], hfl0, hmf, fun j b hb => by simp at hb, fun σ a base w₀ w hra _ N Q cont => ?_⟩, (fun j T ss he => by cases he), (fun j T ss he => trivial)⟩
        exact guard_wp hi (hwant σ a hra) (cont undef w (undefV_rep σ) (Below.refl _ _))
      obtain ⟨effs, r'', H', e1, e2⟩ := xdr_spec hE hF hc ops rest (⟨o.dst, undefV, .none, []⟩ :: acc) (r' + 1) (hget' _) h
        (by rw [List.reverse_cons, runF_snoc, ← hfr]) (by rw [List.reverse_cons, runH_snoc]; exact hH) (by omega) hn (hf.put ⟨trivial, rfl⟩) ho (facts' _ hfact)
      exact ⟨effs, r'', H', by rw [e1]; simp; omega, e2⟩
    | true =>
      simp only at h
      obtain ⟨x, e, ft, h, he, hx, Hm, hm, hsf⟩ := xdop_spec hE hF hc hi hfok ho hwant h
      rw [putK_iff, lenH_iff, Nat.zero_add, effK_iff] at h
      have hfact : Fact Df P E ops n₀ fr₀ H₀ acc.reverse acc.length ⟨o.dst, x, toD H.length e, ft⟩ := by
        refine ⟨⟨o, hi, rfl, frm, Hm, hfl0, hmf, fun j b hb => ?_, hsf⟩, fun j T ss he' => ?_, fun _ _ _ _ => trivial⟩
        · rcases hm j b hb with h | ⟨h1, h2⟩
          · exact .inl h
          · exact .inr ⟨h1, hHget j b h2⟩
        · cases e with
          | new T' ss' =>
            simp only [toD, EffD.new.injEq] at he'
            obtain ⟨rfl, rfl, rfl⟩ := he'
            refine ⟨hn, ?_, ons_of (fun k hk => by simp; omega) _ he.2⟩
            rw [← hH, List.getElem?_append_right (Nat.le_refl _)]
            simp
          | _ => cases he'
      have hlen := Eff.app_len H e
      have hok : HOk (e.app H) := by
        cases e with
        | none => exact ho
        | new T ss => exact ho.push he.1 he.2
        | set j T ss => exact ho.set he.1 he.2.1
      have hrun : e.app H ++ List.replicate (leftR e r') .gone = runH (⟨o.dst, x, toD H.length e, ft⟩ :: acc).reverse H₀ := by
        rw [List.reverse_cons, runH_snoc, ← hH]
        cases e with
        | none => rfl
        | new T ss =>
          simp only [toD, EffD.wr, upd1, Eff.app, leftR]
          rw [List.set_append_right _ _ (Nat.le_refl _)]
          simp [List.replicate_succ]
        | set j T ss =>
          obtain ⟨_, _, s, hs⟩ := he
          simp only [toD, EffD.wr, upd1, Eff.app, leftR]
          rw [List.set_append_left _ _ (List.getElem?_eq_some_iff.1 hs).1]
      obtain ⟨effs, r'', H', e1, e2⟩ := xdr_spec hE hF hc ops rest (⟨o.dst, x, toD H.length e, ft⟩ :: acc) (leftR e r') (hget' _) h
        (by rw [List.reverse_cons, runF_snoc, ← hfr]) hrun (by cases e <;> simp [leftR] <;> omega) (by omega) (FOk.put (hf.mono hlen) hx) hok (facts' _ hfact)
      exact ⟨effs, r'', H', by rw [e1]; simp; omega, e2⟩

/-- The step of a region whose order is open. -/
def drwF (P : Program) (E : Env) (F : Fns) (cal : Cal) : Drw := fun ops _ fr H K => xdr P E F cal ops ops.toList fr H [] K

theorem drwF_ok {P : Program} {E : Env} (hE : EnvOk P E) {F : Fns} (hF : FnsOk P F E.G) (hm : P.follows .mixedOrders = true) (cal : Cal) (hc : CalOk P E cal) : DrwOk P E (drwF P E F cal) := by
  intro Df id ops lo fr H K h hf ho hlo σ base w₀ w a hr hw
  have hH : ∀ b ∈ H ++ List.replicate ops.size .gone, b.bnd H.length = true := fun b hb => by
    rcases List.mem_append.1 hb with h | h
    · exact ho.bnd b h
    · rw [(List.mem_replicate.1 h).2]; rfl
  obtain ⟨effs, r', H', e1, e2, e3, e4, e5, e6, e7, e8⟩ := xdr_spec hE hF hc ops (n₀ := H.length) (fr₀ := fr) (H₀ := H ++ List.replicate ops.size .gone) ops.toList [] ops.size (fun j => by simp) h rfl rfl (by simp) (Nat.le_refl _) hf ho
    (fun i d hd => by simp at hd)
  have e1' : effs.length = ops.size := by simpa using e1
  refine wp_region_any hm ?_
  refine good_any (E := E) (n₀ := H.length) (σ₀ := σ) (base := base) (w₀ := w₀) e2 (fun x hx => (hf.ok x hx).2) hH e1' e8 ?_ ops.size (Array.replicate ops.size false) (by simp) (by simp) (fun q p hq => ?_) a _ ?_
  · rintro a' w' ⟨τ, q1, q2, q3⟩
    rw [upds_runF, ← e1', List.take_length] at q2
    rw [upds_runH] at q3
    have e9 : effs.take ops.size = effs := by rw [← e1', List.take_length]
    rw [e9, ← e4] at q3
    refine ⟨τ, _, H', .normal, rfl, ⟨rfl, e3⟩, q1.mono hlo, q3.weak' (fun j b hb => .inr ?_), e6, q2, e5, Nat.le_trans hlo e7⟩
    rw [List.getElem?_append_left (List.getElem?_eq_some_iff.1 hb).1]; exact hb
  · rcases Nat.lt_or_ge q ops.size with hlt | hge
    · simp [hlt] at hq
    · simp [Array.getElem?_eq_none (xs := Array.replicate ops.size false) (i := q) (by simpa using hge)] at hq
  · have hD : (fun p => (Array.replicate ops.size false).getD p false) = fun _ => false := by
      funext p
      rcases Nat.lt_or_ge p ops.size with hlt | hge
      · simp [hlt]
      · simp [Array.getElem?_eq_none (xs := Array.replicate ops.size false) (i := p) (by simpa using hge)]
    rw [hD]
    refine ⟨σ, Sg.agree.refl _ _, ?_, ?_⟩
    · rw [upds_none]; exact hr
    · rw [upds_none]
      have hw' : Rep E.G σ base w₀ { w with drawn := w.drawn + 1 } H := hw.later ⟨rfl, rfl, rfl, Nat.le_refl _, fun _ _ => rfl⟩
      refine hw'.weak' fun j b hb => ?_
      rcases Nat.lt_or_ge j H.length with hlt | hge
      · rw [List.getElem?_append_left hlt] at hb; exact .inr hb
      · rw [List.getElem?_append_right hge] at hb
        exact .inl (List.mem_replicate.1 (List.mem_of_getElem? hb)).2

end Go.Proofs.YtaficaacogcblaaGreatDoor

