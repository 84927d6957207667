/- Calls, regions in the text's order, code, loops: the calculus, and its soundness. -/
import Derived.Test.YtaficaacogcblaaGreatDoorXi
import Derived.Test.YtaficaacogcblaaGreatDoorXp
import Derived.Test.YtaficaacogcblaaGreatDoorXat
import Derived.Test.YtaficaacogcblaaGreatDoorXst
import Derived.Test.YtaficaacogcblaaGreatDoorXmp
import Derived.Deep.LoopGhost
import Derived.Scope
set_option linter.all false
namespace Go.Proofs.YtaficaacogcblaaGreatDoor
open Go.RowKit (Below)
variable {Df : List Deferred}

theorem Rep.app {P : Program} {E : Env} {o : Oper} {a : Act} {σ : Sg} {base : Nat} {w₀ w : World} {H : List Blk} {fr : List V} {x : V} {e : Eff} (hw : Rep E.G σ base w₀ w H) (ho : HOk H) (hr : FRep Df σ a fr) (hf : FOk H.length fr)
    (he : e.ok H) (hx : x.ok (e.app H).length) (h : EffRun P o a σ w H x e) {K : Act → World → Prop} {Q : Exit → Act → World → Prop}
    (next : ∀ τ v w', Sg.agree H.length σ τ → x.rep τ v → Rep E.G τ base w₀ w' (e.app H) → HOk (e.app H) → FRep Df τ a fr → K (a.put o.dst v) w') : o.wp P a w K Q := by
  unfold Oper.wp
  cases e with
  | none =>
    obtain ⟨v, h1, h2⟩ := h
    rw [h2]
    exact next σ v w (Sg.agree.refl _ _) h1 hw ho hr
  | new T ss =>
    obtain ⟨v, h1, h2⟩ := h
    rw [h2]
    have ha := Sg.upd_agree σ H.length (w.heap.size, 0)
    refine next _ v _ ha h1 (hw.push ho _ (.own T ss) ?_) (ho.push he.1 he.2) (hr.agree ha hf)
    refine ⟨by rw [Sg.upd_self], by rw [Sg.upd_self]; exact Nat.le_trans hw.size hw.below.size, ?_⟩
    rw [Sg.upd_self, ← dens_agree ha ss he.2]
    show (w.heap.push _)[w.heap.size]? = _
    simp
  | set j T ss =>
    obtain ⟨rfl, h2⟩ := h
    obtain ⟨he1, he2, s₀, he3⟩ := he
    rw [h2]
    have hb := hw.blk j _ he3
    refine next σ undef _ (Sg.agree.refl _ _) (undefV_rep σ) (hw.set he3 rfl (fun k hk => ?_) (by simp) rfl rfl rfl rfl ⟨hb.1, hb.2.1, ?_⟩) (ho.set he1 he2) hr
    · simp only [World.setRow, Array.getElem?_modify]; rw [if_neg (Ne.symm hk)]
    · exact setRow_heap w (σ j).1 _ _ T _ hb.2.2

/-! ### calls -/
abbrev Cal := FuncId → List W → List Blk → (V → List Blk → Prop) → Prop

/-- What a call leaves. -/
def LeftG (G : Glo) (σ : Sg) (base : Nat) (w₀ : World) (n : Nat) (K : V → List Blk → Prop) (e : Ending) (w' : World) : Prop :=
  ∃ τ x H' v, e = .returned v ∧ x.rep τ v ∧ K x H' ∧ Sg.agree n σ τ ∧ Rep G τ base w₀ w' H' ∧ HOk H' ∧ x.ok H'.length ∧ n ≤ H'.length
abbrev Left' (E : Env) (σ : Sg) (base : Nat) (w₀ : World) (n : Nat) (K : V → List Blk → Prop) (e : Ending) (w' : World) : Prop := LeftG E.G σ base w₀ n K e w'

structure CalOk (P : Program) (E : Env) (cal : Cal) : Prop where
  call : ∀ f ws H K, cal f ws H K → rngW ws → bndW H.length ws = true → HOk H → ∀ σ base w₀ w, Rep E.G σ base w₀ w H → Calls P f (ws.map (W.den σ)).toArray w (Left' E σ base w₀ H.length K)
  enter : ∀ f ws H K, cal f ws H K → ∀ args w, (callFunc f args).run P w = .ok (.enter f args) w

def xcall (cal : Cal) (o : Oper) (fr : List V) (H : List Blk) (K : V → List Blk → Prop) : Prop :=
  match o.op with
  | .call c => match c.callee with
    | .value f => evC fr f fun fv => match fv with
      | .cf g caps => evWs fr c.args.toList fun ws => cal g (ws ++ caps.map W.c) H K
      | .cmv g j o => evWs fr c.args.toList fun ws => cal g (.c (.cp j o) :: ws) H K
      | _ => False
    | _ => False
  | _ => False

theorem rngW_append : ∀ {a b : List W}, rngW a → rngW b → rngW (a ++ b)
  | [], _, _, h => h
  | _ :: _, _, h, k => ⟨h.1, rngW_append h.2 k⟩
theorem bndW_append {n : Nat} : ∀ {a b : List W}, bndW n a = true → bndW n b = true → bndW n (a ++ b) = true
  | [], _, _, h => h
  | s :: a, b, h, k => by
    simp only [List.cons_append, bndW, Bool.and_eq_true] at h ⊢
    exact ⟨h.1, bndW_append h.2 k⟩
theorem rngL_W : ∀ {l : List C}, C.rngL l → rngW (l.map W.c)
  | [], _ => trivial
  | c :: l, h => by simp only [C.rngL] at h; exact ⟨h.1, rngL_W h.2⟩
theorem bndL_W {n : Nat} : ∀ {l : List C}, C.bndL n l = true → bndW n (l.map W.c) = true
  | [], _ => rfl
  | c :: l, h => by simp only [C.bndL, Bool.and_eq_true] at h; simp only [List.map_cons, bndW, W.bnd, h.1, bndL_W h.2, Bool.and_self]
theorem denL_W (σ : Sg) : ∀ (l : List C), C.denL σ l = (l.map W.c).map (W.den σ)
  | [] => by simp only [C.denL, List.map_nil]
  | c :: l => by simp only [C.denL, List.map_cons, denL_W σ l, W.den]

theorem xcall_spec {P : Program} {E : Env} {cal : Cal} (hc : CalOk P E cal) {o : Oper} {fr : List V} {H : List Blk} {K : V → List Blk → Prop} (h : xcall cal o fr H K) (hf : FOk H.length fr) (ho : HOk H) {σ : Sg} {a : Act} {base : Nat} {w₀ w : World}
    (hr : FRep Df σ a fr) (hw : Rep E.G σ base w₀ w H) {N : Act → World → Prop} {Q : Exit → Act → World → Prop}
    (next : ∀ τ x H' v w', K x H' → Sg.agree H.length σ τ → x.rep τ v → Rep E.G τ base w₀ w' H' → HOk H' → x.ok H'.length → H.length ≤ H'.length → N (a.put o.dst v) w') : o.wp P a w N Q := by
  obtain ⟨dst, op, ty, pos, after, guard⟩ := o
  cases op <;> simp only [xcall] at h
  case call c =>
    obtain ⟨callee, args, argTypes⟩ := c
    cases callee with
    | builtin _ => exact h.elim
    | invoke _ _ => exact h.elim
    | value f =>
      simp only at h
      obtain ⟨fv, f1, f2, h, f4⟩ := evC_spec hf h
      split at h
      · rename_i g caps
        obtain ⟨ws, w1, w2, h, w4⟩ := evWs_spec hf h
        simp only [C.rng] at f1
        simp only [C.bnd] at f2
        have e1 : args.map a.eval = (ws.map (W.den σ)).toArray := toList_toArray_map args a.eval _ (w4 σ a hr)
        have e2 : (ws.map (W.den σ)).toArray ++ (C.denL σ caps).toArray = ((ws ++ caps.map W.c).map (W.den σ)).toArray := by rw [denL_W]; simp
        have hrun : (execOp a.eval { dst, op := .call { callee := .value f, args, argTypes }, type := ty, pos, after, guard }).run P w = .ok (.enter g ((ws ++ caps.map W.c).map (W.den σ)).toArray) w := by
          simp only [execOp, resolve, f4 σ a hr, C.den, Deferred.ofValue, e1, Sem.run_bind, Sem.run_pure, Result.andThen_ok, invoke, Array.empty_append, e2]
          exact hc.enter _ _ _ _ h _ _
        unfold Oper.wp
        rw [hrun, Oper.upon_enter]
        refine (hc.call _ _ _ _ h (rngW_append w1 (rngL_W f1)) (bndW_append w2 (bndL_W f2)) ho σ base w₀ w hw).mono ?_
        rintro e w' ⟨τ, x, H', v, rfl, h1, h2, h3, h4, h5, h6, h7⟩
        exact next τ x H' v w' h2 h3 h1 h4 h5 h6 h7
      · rename_i g j o
        obtain ⟨ws, w1, w2, h, w4⟩ := evWs_spec hf h
        have e1 : args.map a.eval = (ws.map (W.den σ)).toArray := toList_toArray_map args a.eval _ (w4 σ a hr)
        have e2 : #[Value.pointer (some (σ.at j o))] ++ (ws.map (W.den σ)).toArray = ((W.c (.cp j o) :: ws).map (W.den σ)).toArray := by simp [W.den, C.den]
        have hrun : (execOp a.eval { dst, op := .call { callee := .value f, args, argTypes }, type := ty, pos, after, guard }).run P w = .ok (.enter g ((W.c (.cp j o) :: ws).map (W.den σ)).toArray) w := by
          simp only [execOp, resolve, f4 σ a hr, C.den, Deferred.ofValue, e1, Sem.run_bind, Sem.run_pure, Result.andThen_ok, invoke, Array.append_empty, e2]
          exact hc.enter _ _ _ _ h _ _
        unfold Oper.wp
        rw [hrun, Oper.upon_enter]
        refine (hc.call _ _ _ _ h ⟨trivial, w1⟩ (by simp only [bndW, w2, Bool.and_true]; exact f2) ho σ base w₀ w hw).mono ?_
        rintro e w' ⟨τ, x, H', v, rfl, h1, h2, h3, h4, h5, h6, h7⟩
        exact next τ x H' v w' h2 h3 h1 h4 h5 h6 h7
      · exact h.elim

/-! ### regions in the text's order -/
def guardV (want : Bool) (v : V) (K : Bool → Prop) : Prop :=
  match v with
  | .w (.c (.cb b)) => match want, b with
    | true, true => K true
    | true, false => K false
    | false, true => K false
    | false, false => K true
  | .tup [] => K false
  | _ => False
def guardO (fr : List V) (want : Bool) (p : Oper) (K : Bool → Prop) : Prop :=
  match p.dst with
  | some t => getK fr t fun v => guardV want v K
  | none => False
def guardK (ops : List Oper) (fr : List V) (o : Oper) (K : Bool → Prop) : Prop :=
  match o.guard with
  | none => K true
  | some (j, want) => nthL ops j fun p => guardO fr want p K

theorem guardV_det {want : Bool} {v : V} {T : Bool → Prop} (h : guardV want v T) : ∃ b, T b ∧ guardV want v (fun c => c = b) := by
  unfold guardV at h
  split at h
  · cases want <;> rename_i b <;> cases b
    · exact ⟨true, h, rfl⟩
    · exact ⟨false, h, rfl⟩
    · exact ⟨false, h, rfl⟩
    · exact ⟨true, h, rfl⟩
  · exact ⟨false, h, rfl⟩
  · exact h.elim
theorem nthL_mk {α : Type} {p : α} : ∀ {l : List α} {n : Nat} {K : α → Prop}, l[n]? = some p → K p → nthL l n K
  | [], _, _, h, _ => by simp at h
  | a :: l, 0, _, h, hK => by simp at h; subst h; exact hK
  | a :: l, n + 1, _, h, hK => nthL_mk (l := l) (n := n) (by simpa using h) hK
theorem guardK_det {ops : List Oper} {fr : List V} {o : Oper} {T : Bool → Prop} (h : guardK ops fr o T) : ∃ b, T b ∧ guardK ops fr o (fun c => c = b) := by
  unfold guardK at h ⊢
  cases hg : o.guard with
  | none => rw [hg] at h; exact ⟨true, h, rfl⟩
  | some q =>
    obtain ⟨j, want⟩ := q
    rw [hg] at h
    obtain ⟨p, hp, h⟩ := nthL_spec h
    unfold guardO at h
    cases hd : p.dst with
    | none => rw [hd] at h; exact h.elim
    | some t =>
      rw [hd] at h
      obtain ⟨b, h1, h2⟩ := guardV_det ((getK_iff fr t _).1 h)
      refine ⟨b, h1, nthL_mk hp ?_⟩
      unfold guardO
      rw [hd]
      exact (getK_iff fr t _).2 h2

theorem guardK_spec {ops : Array Oper} {fr : List V} {o : Oper} {K : Bool → Prop} (h : guardK ops.toList fr o K) {σ : Sg} {a : Act} (hr : FRep Df σ a fr) : K (Region.wanted o (yielded ops a.tmps)) := by
  unfold guardK at h
  unfold Region.wanted
  split at h
  · rename_i hg; rw [hg]; exact h
  · rename_i j want hg
    rw [hg]
    show K (yielded ops a.tmps j == some want)
    obtain ⟨p, hp, h⟩ := nthL_spec h
    have hp' : ops[j]? = some p := by simpa using hp
    unfold guardO at h
    split at h
    · rename_i t ht
      replace h := (getK_iff fr t _).1 h
      have hy : ∀ v, a.tmps.getD t undef = v → t < fr.length → yielded ops a.tmps j = match v with | .bool b => some b | _ => none := fun v hv hlt => by
        have hlt' : t < a.tmps.size := by rw [hr.size]; exact hlt
        simp only [yielded, hp', Option.bind_some, ht]
        rw [Array.getElem?_eq_getElem hlt']
        have : a.tmps[t] = v := by rw [← hv]; simp [hlt']
        rw [this]
        cases v <;> rfl
      rcases Nat.lt_or_ge t fr.length with hlt | hge
      · have hv := hr.rep t fr[t] (List.getElem?_eq_getElem hlt)
        have hg' : fr.getD t .any = fr[t] := by rw [List.getD_eq_getElem?_getD, List.getElem?_eq_getElem hlt]; rfl
        rw [hg'] at h
        generalize fr[t] = y at h hv
        unfold guardV at h
        split at h
        · rename_i b
          rw [hy (.bool b) hv hlt]
          cases want <;> cases b <;> exact h
        · rw [hy undef hv hlt]
          exact h
        · exact h.elim
      · rw [List.getD_eq_getElem?_getD, List.getElem?_eq_none hge] at h
        exact h.elim
    · exact h.elim

/-- append, of integers. -/
def xapp (P : Program) (o : Oper) (fr : List V) (H : List Blk) (K : V → List Blk → Prop) : Prop :=
  match o.op with
  | .call c => match c.callee, c.args.toList, c.argTypes.toList with
    | .builtin .append, [s, x], [T, T'] => match Nat.beq T T' with
      | true => evC fr s fun cs => evC fr x fun cx => kAppW P T H cs cx fun c H' => K (.w (.c c)) H'
      | false => evC fr s fun cs => evC fr x fun cx => match cx with
        | .cs _ => kAppS P T T' H cs cx fun c H' => K (.w (.c c)) H'
        | _ => kAppZ P T T' H cs cx fun c H' => K (.w (.c c)) H'
    | .builtin .copy, [s, x], [T, _] => evC fr s fun cs => evC fr x fun cx => kCopy P T H cs cx fun c H' => K (.w (.c c)) H'
    | _, _, _ => False
  | _ => False
theorem xapp_spec {P : Program} {E : Env} {o : Oper} {fr : List V} {H : List Blk} {K : V → List Blk → Prop} (h : xapp P o fr H K) (hf : FOk H.length fr) (ho : HOk H) {σ : Sg} {a : Act} {base : Nat} {w₀ w : World}
    (hr : FRep Df σ a fr) (hw : Rep E.G σ base w₀ w H) {N : Act → World → Prop} {Q : Exit → Act → World → Prop}
    (next : ∀ τ x H' v w', K x H' → Sg.agree H.length σ τ → x.rep τ v → Rep E.G τ base w₀ w' H' → HOk H' → x.ok H'.length → H.length ≤ H'.length → N (a.put o.dst v) w') : o.wp P a w N Q := by
  obtain ⟨dst, op, ty, pos, after, guard⟩ := o
  cases op <;> simp only [xapp] at h
  case call c =>
    obtain ⟨callee, args, argTypes⟩ := c
    split at h
    · rename_i s x T T' hcal hargs htys
      simp only at hcal hargs htys
      subst hcal
      have hargs' : args = #[s, x] := by cases args; simp_all
      have htys' : argTypes = #[T, T'] := by cases argTypes; simp_all
      subst hargs' htys'
      split at h
      · rename_i hT
        obtain rfl := Nat.eq_of_beq_eq_true hT
        obtain ⟨cs, s1, s2, h, s4⟩ := evC_spec hf h
        obtain ⟨cx, x1, x2, h, x4⟩ := evC_spec hf h
        obtain ⟨v, w', τ, c, H', hrun, k1, k2, k3, k4, k5, k6, k7⟩ := kAppW_spec (ty := ty) h ho s1 hw
        have hex : (execOp a.eval { dst, op := .call { callee := .builtin .append, args := #[s, x], argTypes := #[T, T] }, type := ty, pos, after, guard }).run P w = .ok (.value v) w' := by
          simp only [execOp, resolve, invoke, builtin, Sem.run_bind, Sem.run_pure, Result.andThen_ok, List.map_toArray, List.map_cons, List.map_nil, s4 σ a hr, x4 σ a hr, hrun]
        unfold Oper.wp
        rw [hex]
        exact next τ (.w (.c c)) H' v w' k1 k2 k6 k7 k5 k3 k4
      · obtain ⟨cs, s1, s2, h, s4⟩ := evC_spec hf h
        obtain ⟨cx, x1, x2, h, x4⟩ := evC_spec hf h
        have both : ∃ v w' τ c H', (Builtin.append_ #[T, T'] ty #[cs.den σ, cx.den σ]).run P w = .ok v w' ∧ K (.w (.c c)) H' ∧ Sg.agree H.length σ τ ∧ (c.rng ∧ c.bnd H'.length = true) ∧ H.length ≤ H'.length ∧ HOk H' ∧ v = c.den τ ∧ Rep E.G τ base w₀ w' H' := by
          split at h
          · exact kAppS_spec (ty := ty) h ho s1 x1 hw
          · exact kAppZ_spec (ty := ty) h ho hw
        obtain ⟨v, w', τ, c, H', hrun, k1, k2, k3, k4, k5, k6, k7⟩ := both
        have hex : (execOp a.eval { dst, op := .call { callee := .builtin .append, args := #[s, x], argTypes := #[T, T'] }, type := ty, pos, after, guard }).run P w = .ok (.value v) w' := by
          simp only [execOp, resolve, invoke, builtin, Sem.run_bind, Sem.run_pure, Result.andThen_ok, List.map_toArray, List.map_cons, List.map_nil, s4 σ a hr, x4 σ a hr, hrun]
        unfold Oper.wp
        rw [hex]
        exact next τ (.w (.c c)) H' v w' k1 k2 k6 k7 k5 k3 k4
    · rename_i s x T T' hcal hargs htys
      simp only at hcal hargs htys
      subst hcal
      have hargs' : args = #[s, x] := by cases args; simp_all
      have htys' : argTypes = #[T, T'] := by cases argTypes; simp_all
      subst hargs' htys'
      obtain ⟨cs, s1, s2, h, s4⟩ := evC_spec hf h
      obtain ⟨cx, x1, x2, h, x4⟩ := evC_spec hf h
      obtain ⟨v, w', τ, c, H', hrun, k1, k2, k3, k4, k5, k6, k7⟩ := kCopy_spec (T' := T') (ty := ty) h ho s1 hw
      have hex : (execOp a.eval { dst, op := .call { callee := .builtin .copy, args := #[s, x], argTypes := #[T, T'] }, type := ty, pos, after, guard }).run P w = .ok (.value v) w' := by
        simp only [execOp, resolve, invoke, builtin, Sem.run_bind, Sem.run_pure, Result.andThen_ok, List.map_toArray, List.map_cons, List.map_nil, s4 σ a hr, x4 σ a hr, hrun]
      unfold Oper.wp
      rw [hex]
      exact next τ (.w (.c c)) H' v w' k1 k2 k6 k7 k5 k3 k4
    · exact h.elim

/-- One operation of whatever kind. -/
def xany (P : Program) (E : Env) (cal : Cal) (o : Oper) (fr : List V) (H : List Blk) (K : V → List Blk → Prop) : Prop :=
  match o.op with
  | .call c => match c.callee with
    | .value _ => xcall cal o fr H K
    | .builtin .append => xapp P o fr H K
    | .builtin .copy => xapp P o fr H K
    | _ => xop P E o fr H fun x e => effK H e fun H' => K x H'
  | .makeMap _ _ => xmap P o fr H K
  | .lookup _ _ _ _ => xmap P o fr H K
  | .mapUpdate _ _ _ _ => xmap P o fr H K
  | _ => xop P E o fr H fun x e => effK H e fun H' => K x H'

theorem xany_spec {P : Program} {E : Env} (hE : EnvOk P E) {cal : Cal} (hc : CalOk P E cal) {o : Oper} {fr : List V} {H : List Blk} {K : V → List Blk → Prop} (h : xany P E cal o fr H K) (hf : FOk H.length fr) (ho : HOk H) {σ : Sg} {a : Act} {base : Nat} {w₀ w : World}
    (hr : FRep Df σ a fr) (hw : Rep E.G σ base w₀ w H) {N : Act → World → Prop} {Q : Exit → Act → World → Prop}
    (next : ∀ τ x H' v w', K x H' → Sg.agree H.length σ τ → x.rep τ v → Rep E.G τ base w₀ w' H' → HOk H' → x.ok H'.length → H.length ≤ H'.length → N (a.put o.dst v) w') : o.wp P a w N Q := by
  have opc : (xop P E o fr H fun x e => effK H e fun H' => K x H') → o.wp P a w N Q := fun h => by
    obtain ⟨x, e, h1, h2, h3, h4⟩ := xop_spec hE h hf ho
    rw [effK_iff] at h1
    exact Rep.app hw ho hr hf h2 h3 (h4 σ a base w₀ w hr hw) fun τ v w' k1 k2 k3 k4 k5 => next τ x _ v w' h1 k1 k2 k3 k4 h3 (Eff.app_len H e)
  unfold xany at h
  split at h
  · split at h
    · exact xcall_spec hc h hf ho hr hw next
    · exact xapp_spec h hf ho hr hw next
    · exact xapp_spec h hf ho hr hw next
    · exact opc h
  · exact xmap_spec h hf ho hr hw next
  · exact xmap_spec h hf ho hr hw next
  · exact xmap_spec h hf ho hr hw next
  · exact opc h

/- (By the recursor itself: what a tactic reckons and what the checker reckons are then one term.) -/
def xops (P : Program) (E : Env) (cal : Cal) (ops l : List Oper) : List V → List Blk → (List V → List Blk → Prop) → Prop :=
  List.rec (motive := fun _ => List V → List Blk → (List V → List Blk → Prop) → Prop) (fun fr H K => K fr H)
    (fun o _ ih fr H K => guardK ops fr o fun wanted => match wanted with
      | true => xany P E cal o fr H fun x H' => putK fr o.dst x fun fr' => ih fr' H' K
      | false => putK fr o.dst undefV fun fr' => ih fr' H K) l
theorem xops_cons (P : Program) (E : Env) (cal : Cal) (ops : List Oper) (o : Oper) (rest : List Oper) (fr : List V) (H : List Blk) (K : List V → List Blk → Prop) : xops P E cal ops (o :: rest) fr H K = guardK ops fr o fun wanted => match wanted with
    | true => xany P E cal o fr H fun x H' => putK fr o.dst x fun fr' => xops P E cal ops rest fr' H' K
    | false => putK fr o.dst undefV fun fr' => xops P E cal ops rest fr' H K := rfl

/-- Where code may end. -/
inductive Ex where
  | normal
  | exit (id : Nat)
  | ret

def Ex.of : Ex → Exit
  | .normal => .normal
  | .exit id => .exit id
  | .ret => .ret

abbrev XQ := Ex → List V → List Blk → Prop

def Post (Df : List Deferred) (E : Env) (σ : Sg) (base : Nat) (w₀ : World) (lo : Nat) (Q : XQ) (e : Exit) (a : Act) (w : World) : Prop :=
  ∃ τ fr H ex, e = Ex.of ex ∧ Q ex fr H ∧ Sg.agree lo σ τ ∧ Rep E.G τ base w₀ w H ∧ HOk H ∧ FRep Df τ a fr ∧ FOk H.length fr ∧ lo ≤ H.length

theorem xops_spec {P : Program} {E : Env} (hE : EnvOk P E) {cal : Cal} (hc : CalOk P E cal) (ops : Array Oper) {base : Nat} {w₀ : World} {lo : Nat} {Q : Exit → Act → World → Prop} {σ₀ : Sg} :
    ∀ (rest : List Oper) (i : Nat), (∀ j, rest[j]? = ops[i + j]?) → ∀ {fr : List V} {H : List Blk} {K : List V → List Blk → Prop}, xops P E cal ops.toList rest fr H K → FOk H.length fr → HOk H → lo ≤ H.length →
      (∀ τ fr H a w, K fr H → Sg.agree lo σ₀ τ → Rep E.G τ base w₀ w H → HOk H → FRep Df τ a fr → FOk H.length fr → lo ≤ H.length → Q .normal a w) →
      ∀ {σ : Sg} {a : Act} {w : World}, Sg.agree lo σ₀ σ → FRep Df σ a fr → Rep E.G σ base w₀ w H → wpOps P ops Q (List.range' i rest.length) a w
  | [], i, _, fr, H, K, h, hf, ho, hlo, fin, σ, a, w, hσ, hr, hw => by
    simp only [List.length_nil, List.range'_zero, wpOps]
    exact fin σ fr H a w h hσ hw ho hr hf hlo
  | o :: rest, i, hget, fr, H, K, h, hf, ho, hlo, fin, σ, a, w, hσ, hr, hw => by
    have hi : ops[i]? = some o := by simpa using (hget 0).symm
    have hrest : ∀ j, rest[j]? = ops[i + 1 + j]? := fun j => by have := hget (j + 1); simpa [Nat.add_assoc, Nat.add_comm 1 j] using this
    simp only [List.length_cons, List.range'_succ, wpOps, hi]
    rw [xops_cons] at h
    have h := guardK_spec h hr
    cases hwant : Region.wanted o (yielded ops a.tmps) with
    | true =>
      rw [hwant] at h
      simp only [if_true]
      refine .inl (xany_spec hE hc h hf ho hr hw fun τ x H' v w' k1 k2 k3 k4 k5 k6 k7 => ?_)
      rw [putK_iff] at k1
      exact xops_spec hE hc ops rest (i + 1) hrest k1 (FOk.put (hf.mono k7) k6) k5 (Nat.le_trans hlo k7) fin (hσ.trans (k2.mono hlo)) ((hr.agree k2 hf).put k3) k4
    | false =>
      rw [hwant] at h
      simp only [Bool.false_eq_true, if_false]
      simp only at h
      rw [putK_iff] at h
      exact xops_spec hE hc ops rest (i + 1) hrest h (FOk.put hf ⟨trivial, rfl⟩) ho hlo fin hσ (hr.put (undefV_rep σ)) hw

/-- The first of a region's operations; what follows them is told otherwise. -/
theorem xops_pre {P : Program} {E : Env} (hE : EnvOk P E) {cal : Cal} (hc : CalOk P E cal) (ops : Array Oper) {base : Nat} {w₀ : World} {lo m : Nat} {Q : Exit → Act → World → Prop} {σ₀ : Sg} :
    ∀ (pre : List Oper) (i : Nat), (∀ j, j < pre.length → pre[j]? = ops[i + j]?) → ∀ {fr : List V} {H : List Blk} {K : List V → List Blk → Prop}, xops P E cal ops.toList pre fr H K → FOk H.length fr → HOk H → lo ≤ H.length →
      (∀ τ fr H a w, K fr H → Sg.agree lo σ₀ τ → Rep E.G τ base w₀ w H → HOk H → FRep Df τ a fr → FOk H.length fr → lo ≤ H.length → wpOps P ops Q (List.range' (i + pre.length) m) a w) →
      ∀ {σ : Sg} {a : Act} {w : World}, Sg.agree lo σ₀ σ → FRep Df σ a fr → Rep E.G σ base w₀ w H → wpOps P ops Q (List.range' i (pre.length + m)) a w
  | [], i, _, fr, H, K, h, hf, ho, hlo, fin, σ, a, w, hσ, hr, hw => by
    have := fin σ fr H a w h hσ hw ho hr hf hlo
    simpa using this
  | o :: rest, i, hget, fr, H, K, h, hf, ho, hlo, fin, σ, a, w, hσ, hr, hw => by
    have hi : ops[i]? = some o := by simpa using (hget 0 (by simp)).symm
    have hrest : ∀ j, j < rest.length → rest[j]? = ops[i + 1 + j]? := fun j hj => by have := hget (j + 1) (by simpa using hj); simpa [Nat.add_assoc, Nat.add_comm 1 j] using this
    have hfin : ∀ τ fr H a w, K fr H → Sg.agree lo σ₀ τ → Rep E.G τ base w₀ w H → HOk H → FRep Df τ a fr → FOk H.length fr → lo ≤ H.length → wpOps P ops Q (List.range' (i + 1 + rest.length) m) a w := fun τ fr H a w k1 k2 k3 k4 k5 k6 k7 => by
      have := fin τ fr H a w k1 k2 k3 k4 k5 k6 k7
      rwa [List.length_cons, show i + (rest.length + 1) = i + 1 + rest.length by omega] at this
    rw [List.length_cons, show rest.length + 1 + m = (rest.length + m) + 1 by omega, List.range'_succ]
    simp only [wpOps, hi]
    rw [xops_cons] at h
    have h := guardK_spec h hr
    cases hwant : Region.wanted o (yielded ops a.tmps) with
    | true =>
      rw [hwant] at h
      simp only [if_true]
      refine .inl (xany_spec hE hc h hf ho hr hw fun τ x H' v w' k1 k2 k3 k4 k5 k6 k7 => ?_)
      rw [putK_iff] at k1
      exact xops_pre hE hc ops rest (i + 1) hrest k1 (FOk.put (hf.mono k7) k6) k5 (Nat.le_trans hlo k7) hfin (hσ.trans (k2.mono hlo)) ((hr.agree k2 hf).put k3) k4
    | false =>
      rw [hwant] at h
      simp only [Bool.false_eq_true, if_false]
      simp only at h
      rw [putK_iff] at h
      exact xops_pre hE hc ops rest (i + 1) hrest h (FOk.put hf ⟨trivial, rfl⟩) ho hlo hfin hσ (hr.put (undefV_rep σ)) hw

/-! ### code -/
/-- A loop: what holds at each round's head, with a number that falls. -/
@[irreducible] def XLoop (body : List V → List Blk → XQ → Prop) (lo : Nat) (fr : List V) (H : List Blk) (Q : XQ) : Prop :=
  ∃ I N : Nat → List V → List Blk → Prop, (∃ m fr' H' ρ, I m fr' H' ∧ Seen ρ lo fr' H' fr H) ∧
    (∀ m fr H, I m fr H → HOk H → FOk H.length fr → lo ≤ H.length → body fr H fun ex fr' H' => match ex with
      | .normal => N m fr' H'
      | .exit id => Q (.exit id) fr' H'
      | .ret => Q .ret fr' H') ∧
    ∀ m fr' H', N m fr' H' → ∃ m' fr'' H'' ρ, m' < m ∧ I m' fr'' H'' ∧ Seen ρ lo fr'' H'' fr' H'

/-- A region whose order is open: told later. -/
abbrev Drw := Array Oper → Nat → List V → List Blk → (List V → List Blk → Prop) → Prop

def XC (P : Program) (E : Env) (cal : Cal) (drw : Drw) (c : Code) : Nat → List V → List Blk → XQ → Prop :=
  Code.rec (motive := fun _ => Nat → List V → List Blk → XQ → Prop)
    (fun _ fr H Q => Q .normal fr H)
    (fun _ ops draw lo fr H Q => match draw with
      | false => xops P E cal ops.toList ops.toList fr H fun fr H => Q .normal fr H
      | true => drw ops lo fr H fun fr H => Q .normal fr H)
    (fun _ _ ihx ihy lo fr H Q => ihx lo fr H fun ex fr H => match ex with
      | .normal => ihy lo fr H Q
      | .exit id => Q (.exit id) fr H
      | .ret => Q .ret fr H)
    (fun c _ _ ihx ihy lo fr H Q => evC fr c fun d => match d with
      | .cb t => match t with
        | true => ihx lo fr H Q
        | false => ihy lo fr H Q
      | _ => False)
    (fun id _ ih lo fr H Q => ih lo fr H fun ex fr H => match ex with
      | .exit id' => match Nat.beq id' id with
        | true => Q .normal fr H
        | false => Q (.exit id') fr H
      | .normal => Q .normal fr H
      | .ret => Q .ret fr H)
    (fun _ ih lo fr H Q => XLoop (fun fr H Q => ih lo fr H Q) lo fr H Q)
    (fun _ _ _ _ _ _ _ _ _ _ => False)
    (fun id _ fr H Q => Q (.exit id) fr H)
    (fun _ ih lo fr H Q => ih lo fr H Q)
    (fun _ _ fr H Q => Q .normal fr H)
    (fun _ _ _ _ _ => False)
    (fun _ fr H Q => Q .ret fr H)
    (fun _ _ _ _ _ => False) c

def DrwOk (P : Program) (E : Env) (drw : Drw) : Prop :=
  ∀ (Df : List Deferred) (id : Nat) ops lo fr H K, drw ops lo fr H K → FOk H.length fr → HOk H → lo ≤ H.length → ∀ σ base w₀ w a, FRep Df σ a fr → Rep E.G σ base w₀ w H →
    (Code.region id ops true).wp P (Post Df E σ base w₀ lo fun ex fr H => ex = .normal ∧ K fr H) a w

theorem Rep.bring {G : Glo} {σ : Sg} {base : Nat} {w₀ w : World} {H : List Blk} (h : Rep G σ base w₀ w H) : Rep G σ base w₀ w H := h

theorem weak_ok {H H' : List Blk} {fr fr' : List V} (hF : FOk H.length fr) (hH : HOk H) (hwf : wkF fr' fr) (hwh : wkH H' H) (hbf : bndF H'.length fr' = true) (hbh : bndH H'.length H' = true) : FOk H'.length fr' ∧ HOk H' := by
  refine ⟨⟨fun x hx => ⟨?_, bndF_mem hbf x hx⟩⟩, ⟨fun b hb => ?_, fun b hb => bndH_mem hbh b hb⟩⟩
  · obtain ⟨i, hi⟩ := List.getElem?_of_mem hx
    rcases wkF_get hwf i x hi with rfl | h
    · trivial
    · exact (hF.ok x (List.mem_of_getElem? h)).1
  · obtain ⟨i, hi⟩ := List.getElem?_of_mem hb
    rcases wkH_get hwh i b hi with rfl | h
    · trivial
    · exact hH.rng b (List.mem_of_getElem? h)

theorem XC_spec {P : Program} {E : Env} (hE : EnvOk P E) {cal : Cal} (hc : CalOk P E cal) {drw : Drw} (hd : DrwOk P E drw) {base : Nat} {w₀ : World} :
    ∀ (c : Code) {lo : Nat} {fr : List V} {H : List Blk} {Q : XQ}, XC P E cal drw c lo fr H Q → FOk H.length fr → HOk H → lo ≤ H.length → ∀ {σ : Sg} {w : World} {a : Act}, FRep Df σ a fr → Rep E.G σ base w₀ w H →
      c.wp P (Post Df E σ base w₀ lo Q) a w := by
  intro c
  induction c with
  | skip =>
    intro lo fr H Q h hf ho hlo σ w a hr hw
    exact wp_skip ⟨σ, fr, H, .normal, rfl, h, Sg.agree.refl _ _, hw, ho, hr, hf, hlo⟩
  | label l =>
    intro lo fr H Q h hf ho hlo σ w a hr hw
    exact wp_label ⟨σ, fr, H, .normal, rfl, h, Sg.agree.refl _ _, hw, ho, hr, hf, hlo⟩
  | region id ops draw =>
    intro lo fr H Q h hf ho hlo σ w a hr hw
    cases draw with
    | false =>
      replace h : xops P E cal ops.toList ops.toList fr H (fun fr H => Q .normal fr H) := h
      refine wp_region ?_
      have := xops_spec hE hc ops (base := base) (w₀ := w₀) (lo := lo) (σ₀ := σ) (Q := Post Df E σ base w₀ lo Q) ops.toList 0 (fun j => by simp) h hf ho hlo
        (fun τ fr H a w k1 k2 k3 k4 k5 k6 k7 => ⟨τ, fr, H, .normal, rfl, k1, k2, k3, k4, k5, k6, k7⟩) (Sg.agree.refl _ _) hr hw
      rw [List.range_eq_range']
      simpa using this
    | true =>
      replace h : drw ops lo fr H (fun fr H => Q .normal fr H) := h
      refine wp_mono (hd Df id ops lo fr H _ h hf ho hlo σ base w₀ w a hr hw) ?_
      rintro e a' w' ⟨τ, fr', H', ex, rfl, ⟨rfl, k1⟩, k2, k3, k4, k5, k6, k7⟩
      exact ⟨τ, fr', H', .normal, rfl, k1, k2, k3, k4, k5, k6, k7⟩
  | seq x y ihx ihy =>
    intro lo fr H Q h hf ho hlo σ w a hr hw
    replace h : XC P E cal drw x lo fr H (fun ex fr H => match ex with
      | .normal => XC P E cal drw y lo fr H Q
      | .exit id => Q (.exit id) fr H
      | .ret => Q .ret fr H) := h
    refine wp_seq (wp_mono (ihx h hf ho hlo hr hw) ?_)
    rintro e a' w' ⟨τ, fr', H', ex, rfl, k1, k2, k3, k4, k5, k6, k7⟩
    cases ex with
    | normal =>
      refine wp_mono (ihy k1 k6 k4 k7 k5 k3) ?_
      rintro e a'' w'' ⟨τ', fr'', H'', ex', rfl, q1, q2, q3, q4, q5, q6, q7⟩
      exact ⟨τ', fr'', H'', ex', rfl, q1, k2.trans q2, q3, q4, q5, q6, q7⟩
    | exit id => exact ⟨τ, fr', H', .exit id, rfl, k1, k2, k3, k4, k5, k6, k7⟩
    | ret => exact ⟨τ, fr', H', .ret, rfl, k1, k2, k3, k4, k5, k6, k7⟩
  | cond c x y ihx ihy =>
    intro lo fr H Q h hf ho hlo σ w a hr hw
    replace h : evC fr c (fun d => match d with
      | .cb t => match t with
        | true => XC P E cal drw x lo fr H Q
        | false => XC P E cal drw y lo fr H Q
      | _ => False) := h
    obtain ⟨d, d1, d2, h, d4⟩ := evC_spec hf h
    split at h
    · split at h
      · exact wp_cond_true (d4 σ a hr) (ihx h hf ho hlo hr hw)
      · exact wp_cond_false (d4 σ a hr) (ihy h hf ho hlo hr hw)
    · exact h.elim
  | block id c ih =>
    intro lo fr H Q h hf ho hlo σ w a hr hw
    replace h : XC P E cal drw c lo fr H (fun ex fr H => match ex with
      | .exit id' => match Nat.beq id' id with
        | true => Q .normal fr H
        | false => Q (.exit id') fr H
      | .normal => Q .normal fr H
      | .ret => Q .ret fr H) := h
    refine wp_block (wp_mono (ih h hf ho hlo hr hw) ?_)
    rintro e a' w' ⟨τ, fr', H', ex, rfl, k1, k2, k3, k4, k5, k6, k7⟩
    cases ex with
    | normal => exact ⟨τ, fr', H', .normal, rfl, k1, k2, k3, k4, k5, k6, k7⟩
    | ret => exact ⟨τ, fr', H', .ret, rfl, k1, k2, k3, k4, k5, k6, k7⟩
    | exit id' =>
      simp only [Ex.of, Exit.inBlock]
      simp only at k1
      split at k1
      · rename_i hb
        rw [if_pos (Nat.eq_of_beq_eq_true hb)]
        exact ⟨τ, fr', H', .normal, rfl, k1, k2, k3, k4, k5, k6, k7⟩
      · rename_i hb
        rw [if_neg (Nat.ne_of_beq_eq_false hb)]
        exact ⟨τ, fr', H', .exit id', rfl, k1, k2, k3, k4, k5, k6, k7⟩
  | loop c ih =>
    intro lo fr H Q h hf ho hlo σ w a hr hw
    replace h : XLoop (fun fr H Q => XC P E cal drw c lo fr H Q) lo fr H Q := h
    unfold XLoop at h
    obtain ⟨I, N, ⟨m, fr', H', ρ, i1, i2⟩, round, again⟩ := h
    obtain ⟨o1, o2⟩ := i2.ok hf ho
    refine wp_loop_ghost (fun m a' w' => ∃ τ fr H, I m fr H ∧ FOk H.length fr ∧ HOk H ∧ lo ≤ H.length ∧ Sg.agree lo σ τ ∧ FRep Df τ a' fr ∧ Rep E.G τ base w₀ w' H) m
      ⟨σ.ren ρ, fr', H', i1, o1, o2, i2.lo, fun j hj => by simp only [Sg.ren, i2.low j hj], hr.ren i2.len i2.fr, hw.ren i2.blk i2.inj⟩ ?_
    rintro m a' w' ⟨τ, fr, H, j1, j2, j3, j4, j5, j6, j7⟩
    refine wp_mono (ih (round m fr H j1 j3 j2 j4) j2 j3 j4 j6 j7) ?_
    rintro e a'' w'' ⟨τ', fr₂, H₂, ex, rfl, k1, k2, k3, k4, k5, k6, k7⟩
    cases ex with
    | normal =>
      obtain ⟨m', fr₃, H₃, ρ', n1, n2, n3⟩ := again _ _ _ k1
      obtain ⟨q1, q2⟩ := n3.ok k6 k4
      exact ⟨m', n1, τ'.ren ρ', fr₃, H₃, n2, q1, q2, n3.lo, (j5.trans k2).trans fun j hj => by simp only [Sg.ren, n3.low j hj], k5.ren n3.len n3.fr, k3.ren n3.blk n3.inj⟩
    | exit id => exact ⟨τ', fr₂, H₂, .exit id, rfl, k1, j5.trans k2, k3, k4, k5, k6, k7⟩
    | ret => exact ⟨τ', fr₂, H₂, .ret, rfl, k1, j5.trans k2, k3, k4, k5, k6, k7⟩
  | exit id =>
    intro lo fr H Q h hf ho hlo σ w a hr hw
    exact wp_exit ⟨σ, fr, H, .exit id, rfl, h, Sg.agree.refl _ _, hw, ho, hr, hf, hlo⟩
  | ret =>
    intro lo fr H Q h hf ho hlo σ w a hr hw
    exact wp_ret ⟨σ, fr, H, .ret, rfl, h, Sg.agree.refl _ _, hw, ho, hr, hf, hlo⟩
  | rangeFunc _ _ _ _ => intro lo fr H Q h; exact h.elim
  | scope c ih =>
    intro lo fr H Q h hf ho hlo σ w a hr hw
    replace h : XC P E cal drw c lo fr H Q := h
    refine wp_scope_straight (wp_mono (ih h hf ho hlo hr hw) ?_)
    rintro e a' w' ⟨τ, fr', H', ex, rfl, k1, k2, k3, k4, k5, k6, k7⟩
    cases ex with
    | normal => exact ⟨τ, fr', H', .normal, rfl, k1, k2, k3, k4, k5, k6, k7⟩
    | exit id => exact ⟨τ, fr', H', .exit id, rfl, k1, k2, k3, k4, k5, k6, k7⟩
    | ret => exact ⟨τ, fr', H', .ret, rfl, k1, k2, k3, k4, k5, k6, k7⟩
  | goto _ => intro lo fr H Q h; exact h.elim
  | refuse _ => intro lo fr H Q h; exact h.elim

end Go.Proofs.YtaficaacogcblaaGreatDoor
