/- Functions: contracts, calls that are walked into, and what a walk of a function's body says of a call. -/
import Derived.Test.YtcikcejpmjbckaaXj
set_option linter.all false
namespace Go.Proofs.Ytcikcejpmjbckaa
open Go.RowKit (Below)

def frameK : List W → Nat → (List V → Prop) → Prop
  | [], 0, K => K []
  | [], n + 1, K => frameK [] n fun r => K (.tup [] :: r)
  | w :: ws, n + 1, K => frameK ws n fun r => K (.w w :: r)
  | _ :: _, 0, _ => False

theorem frameK_spec : ∀ {ws : List W} {n : Nat} {K : List V → Prop}, frameK ws n K → ∃ fr, K fr ∧ ws.length ≤ n ∧ fr = ws.map V.w ++ List.replicate (n - ws.length) undefV
  | [], 0, K, h => ⟨[], h, Nat.le_refl _, rfl⟩
  | [], n + 1, K, h => by
    obtain ⟨fr, h1, h2, h3⟩ := frameK_spec (ws := []) (n := n) h
    refine ⟨_, h1, Nat.zero_le _, ?_⟩
    rw [h3]
    simp [List.replicate_succ, undefV]
  | w :: ws, n + 1, K, h => by
    obtain ⟨fr, h1, h2, h3⟩ := frameK_spec (ws := ws) (n := n) h
    refine ⟨_, h1, by simpa using h2, ?_⟩
    rw [h3]
    simp
  | _ :: _, 0, _, h => h.elim

theorem frame_ok {n : Nat} {ws : List W} (hr : rngW ws) (hb : bndW n ws = true) (m : Nat) : FOk n (ws.map V.w ++ List.replicate m undefV) := by
  refine ⟨fun x hx => ?_⟩
  rcases List.mem_append.1 hx with h | h
  · clear hx
    induction ws with
    | nil => simp at h
    | cons w ws ih =>
      simp only [bndW, Bool.and_eq_true] at hb
      rcases List.mem_cons.1 h with rfl | h
      · exact ⟨hr.1, hb.1⟩
      · exact ih hr.2 hb.2 h
  · rw [(List.mem_replicate.1 h).2]; exact ⟨trivial, rfl⟩
theorem frame_rep (σ : Sg) (ws : List W) (m : Nat) : FRep σ { tmps := (ws.map (W.den σ)).toArray ++ Array.replicate m undef, defers := [] } (ws.map V.w ++ List.replicate m undefV) := by
  refine ⟨rfl, by simp, fun i x hx => ?_⟩
  rcases Nat.lt_or_ge i ws.length with h | h
  · rw [List.getElem?_append_left (by simpa using h)] at hx
    simp [h] at hx
    subst hx
    simp [V.rep, Array.getElem?_append, h]
  · rw [List.getElem?_append_right (by simpa using h)] at hx
    have hx' := List.getElem?_eq_some_iff.1 hx
    obtain ⟨hlt, hx2⟩ := hx'
    simp at hlt
    simp at hx2
    subst hx2
    have : i - ws.length < m := hlt
    simp [Array.getElem?_append, Nat.not_lt.2 h, this]
    exact undefV_rep σ

def resK (P : Program) (E : Env) : List ResultVar → List V → List Blk → (List W → Prop) → Prop
  | [], _, _, K => K []
  | .tmp t :: rs, fr, H, K => getK fr t fun v => match v with
    | .w x => resK P E rs fr H fun xs => K (x :: xs)
    | _ => False
  | .cell a T :: rs, fr, H, K => getK fr a fun v => match v with
    | .w (.c c) => lookA E.G H c fun ss o i => kLoad P T ss o i fun x => resK P E rs fr H fun xs => K (x :: xs)
    | _ => False

def rvS (a : Act) : ResultVar → Sem Value
  | .tmp t => pure (a.tmps.getD t undef)
  | .cell c t => do loadVar t (← asAddr (a.tmps.getD c undef))

theorem resK_spec {P : Program} {E : Env} (hE : EnvOk P E) {fr : List V} {H : List Blk} (hf : FOk H.length fr) (ho : HOk H) : ∀ {rs : List ResultVar} {K : List W → Prop}, resK P E rs fr H K →
    ∃ xs, K xs ∧ rngW xs ∧ bndW H.length xs = true ∧ ∀ σ a base w₀ w, FRep σ a fr → Rep E.G σ base w₀ w H →
      (rs.mapM (rvS a)).run P w = .ok (xs.map (W.den σ)) w
  | [], K, h => ⟨[], h, trivial, rfl, fun σ a base w₀ w _ _ => rfl⟩
  | .tmp t :: rs, K, h => by
    obtain ⟨v, h1, h2, h3⟩ := evK_spec hf (x := .tmp t) h
    split at h2
    · rename_i x
      obtain ⟨xs, k1, k2, k3, k4⟩ := resK_spec hE hf ho h2
      refine ⟨x :: xs, k1, ⟨h1.1, k2⟩, by simp only [bndW, k3, Bool.and_true]; exact h1.2, fun σ a base w₀ w hr hw => ?_⟩
      have e1 : a.tmps.getD t undef = x.den σ := h3 σ a hr
      rw [List.mapM_cons]
      simp only [rvS, Sem.run_bind, Sem.run_pure, Result.andThen_ok, k4 σ a base w₀ w hr hw, e1, List.map_cons]
    · exact h2.elim
  | .cell c t :: rs, K, h => by
    obtain ⟨v, h1, h2, h3⟩ := evK_spec hf (x := .tmp c) h
    split at h2
    · rename_i cc
      obtain ⟨ss, o, i, h, q2, q3, q4, q5⟩ := lookA_spec hE.glo ho h2
      obtain ⟨y, y1, y2, y3, y4⟩ := kLoad_spec h q2 q3
      obtain ⟨xs, k1, k2, k3, k4⟩ := resK_spec hE hf ho y3
      refine ⟨y :: xs, k1, ⟨y1, k2⟩, by simp only [bndW, y2, k3, Bool.and_true], fun σ a base w₀ w hr hw => ?_⟩
      have e1 : a.tmps.getD c undef = cc.den σ := h3 σ a hr
      have e2 : asAddr (a.tmps.getD c undef) = pure (Addr.of σ cc) := by rw [e1, q4 σ]; rfl
      rw [List.mapM_cons]
      simp only [rvS, Sem.run_bind, Sem.run_pure, Result.andThen_ok, e2, y4 σ w _ (q5 σ base w₀ w hw), k4 σ a base w₀ w hr hw, List.map_cons]
    · exact h2.elim

def finalV : List W → V
  | [x] => .w x
  | xs => .tup xs

theorem results_run {P : Program} {fn : Func} {a : Act} {w : World} {vs : List Value}
    (h : (fn.results.toList.mapM (rvS a)).run P w = .ok vs w) :
    (results fn a.tmps).run P w = .ok (match vs with | [v] => v | vs => .tuple vs.toArray) w := by
  show (do let vs ← fn.results.mapM (rvS a); pure (if h : vs.size = 1 then vs[0] else .tuple vs) : Sem Value).run P w = _
  rw [Array.mapM_eq_mapM_toList]
  simp only [Sem.run_bind, Sem.run_map, h, Result.andThen_ok, Sem.run_pure]
  cases vs with
  | nil => rfl
  | cons v vs =>
    cases vs with
    | nil => rfl
    | cons u us => rfl

/-- A function's body, walked. -/
def xfun (P : Program) (E : Env) (cal : Cal) (drw : Drw) (fn : Func) (ws : List W) (H : List Blk) (K : V → List Blk → Prop) : Prop :=
  match fn.body with
  | none => False
  | some c => lenH H 0 fun lo => frameK ws fn.ntmps fun fr => XC P E cal drw c lo fr H fun ex fr' H' => match ex with
    | .exit _ => False
    | _ => resK P E fn.results.toList fr' H' fun xs => K (finalV xs) H'

theorem xfun_spec {P : Program} {E : Env} (hE : EnvOk P E) {cal : Cal} (hc : CalOk P E cal) {drw : Drw} (hd : DrwOk P E drw) {f : FuncId} {fn : Func} (hf : P.funcs[f]? = some fn) {ws : List W} {H : List Blk} {K : V → List Blk → Prop}
    (h : xfun P E cal drw fn ws H K) (hr : rngW ws) (hb : bndW H.length ws = true) (ho : HOk H) (σ : Sg) (base : Nat) (w₀ w : World) (hw : Rep E.G σ base w₀ w H) :
    Calls P f (ws.map (W.den σ)).toArray w (Left' E σ base w₀ H.length K) := by
  unfold xfun at h
  split at h
  · exact h.elim
  · rename_i c hbody
    rw [lenH_iff, Nat.zero_add] at h
    obtain ⟨fr, h, h2, rfl⟩ := frameK_spec h
    refine calls_of_wp hf hbody ?_
    have hsz : fn.ntmps - ((ws.map (W.den σ)).toArray).size = fn.ntmps - ws.length := by simp
    rw [hsz]
    refine wp_mono (XC_spec hE hc hd c h (frame_ok hr hb _) ho (Nat.le_refl _) (frame_rep σ ws _) hw) ?_
    rintro e a w' ⟨τ, fr', H', ex, rfl, k1, k2, k3, k4, k5, k6, k7⟩
    have fin : (resK P E fn.results.toList fr' H' fun xs => K (finalV xs) H') → a.defers = [] ∧ ∃ v, (results fn a.tmps).run P w' = .ok v w' ∧ Left' E σ base w₀ H.length K (.returned v) w' := fun k1 => by
      obtain ⟨xs, q1, q2, q3, q4⟩ := resK_spec hE k6 k4 k1
      refine ⟨k5.dfr, _, results_run (q4 τ a base w₀ w' k5 k3), τ, finalV xs, H', _, rfl, ?_, q1, k2, k3, k4, ?_, k7⟩
      · match xs with
        | [] => rfl
        | [x] => rfl
        | x :: y :: xs => rfl
      · match xs, q2, q3 with
        | [], _, _ => exact ⟨trivial, rfl⟩
        | [x], q2, q3 => simp only [bndW, Bool.and_true] at q3; exact ⟨q2.1, q3⟩
        | x :: y :: xs, q2, q3 => exact ⟨q2, q3⟩
    cases ex with
    | normal => exact fin k1
    | ret => exact fin k1
    | exit id => exact k1.elim

/-- A contract of a function that hangs on its arguments alone. -/
abbrev Ct := List W → (V → Prop) → Prop
def CtOk (P : Program) (f : FuncId) (ct : Ct) : Prop :=
  ∀ ws K, ct ws K → rngW ws → ∃ x : V, K x ∧ x.ok 0 ∧ ∀ (σ : Sg) w, Calls P f (ws.map (W.den σ)).toArray w fun e w' => ∃ v, e = .returned v ∧ x.rep σ v ∧ Below w.heap.size w w'

def Enter (P : Program) (f : FuncId) : Prop := ∀ args w, (callFunc f args).run P w = .ok (.enter f args) w

/-- Functions known by contract, and functions that are walked into. -/
structure Fns where
  ct : FuncId → Option Ct
  fn : FuncId → Option Func
structure FnsOk (P : Program) (F : Fns) : Prop where
  ct : ∀ f c, F.ct f = some c → CtOk P f c ∧ Enter P f
  fn : ∀ f g, F.fn f = some g → P.funcs[f]? = some g ∧ Enter P f

def calF (P : Program) (E : Env) (F : Fns) (drw : Cal → Drw) (n : Nat) : Cal :=
  Nat.rec (motive := fun _ => Cal)
    (fun f ws H K => match F.ct f with
      | some ct => ct ws fun x => K x H
      | none => False)
    (fun _ ih f ws H K => match F.ct f with
      | some ct => ct ws fun x => K x H
      | none => match F.fn f with
        | some fn => xfun P E ih (drw ih) fn ws H K
        | none => False) n
theorem calF_zero (P : Program) (E : Env) (F : Fns) (drw : Cal → Drw) : calF P E F drw 0 = fun f ws H K => match F.ct f with
    | some ct => ct ws fun x => K x H
    | none => False := rfl
theorem calF_succ (P : Program) (E : Env) (F : Fns) (drw : Cal → Drw) (n : Nat) : calF P E F drw (n + 1) = fun f ws H K => match F.ct f with
    | some ct => ct ws fun x => K x H
    | none => match F.fn f with
      | some fn => xfun P E (calF P E F drw n) (drw (calF P E F drw n)) fn ws H K
      | none => False := rfl

theorem ct_call {P : Program} {E : Env} {f : FuncId} {ct : Ct} (h : CtOk P f ct) {ws : List W} {H : List Blk} {K : V → List Blk → Prop} (hk : ct ws fun x => K x H) (hr : rngW ws) (ho : HOk H) (σ : Sg) (base : Nat) (w₀ w : World) (hw : Rep E.G σ base w₀ w H) :
    Calls P f (ws.map (W.den σ)).toArray w (Left' E σ base w₀ H.length K) := by
  obtain ⟨x, h1, h2, h3⟩ := h ws _ hk hr
  refine (h3 σ w).mono ?_
  rintro e w' ⟨v, rfl, h4, h5⟩
  exact ⟨σ, x, H, v, rfl, h4, h1, Sg.agree.refl _ _, hw.later h5, ho, V.ok_mono (Nat.zero_le _) h2, Nat.le_refl _⟩

theorem calF_ok {P : Program} {E : Env} (hE : EnvOk P E) {F : Fns} (hF : FnsOk P F) {drw : Cal → Drw} (hd : ∀ cal, CalOk P E cal → DrwOk P E (drw cal)) : ∀ n, CalOk P E (calF P E F drw n)
  | 0 => by
    refine ⟨fun f ws H K h hr hb ho σ base w₀ w hw => ?_, fun f ws H K h => ?_⟩ <;> simp only [calF_zero] at h <;> split at h
    · rename_i ct hct; exact ct_call (hF.ct f ct hct).1 h hr ho σ base w₀ w hw
    · exact h.elim
    · rename_i ct hct; exact (hF.ct f ct hct).2
    · exact h.elim
  | n + 1 => by
    have ih := calF_ok hE hF hd n
    refine ⟨fun f ws H K h hr hb ho σ base w₀ w hw => ?_, fun f ws H K h => ?_⟩ <;> simp only [calF_succ] at h <;> split at h
    · rename_i ct hct; exact ct_call (hF.ct f ct hct).1 h hr ho σ base w₀ w hw
    · split at h
      · rename_i fn hfn; exact xfun_spec hE ih (hd _ ih) (hF.fn f fn hfn).1 h hr hb ho σ base w₀ w hw
      · exact h.elim
    · rename_i ct hct; exact (hF.ct f ct hct).2
    · split at h
      · rename_i fn hfn; exact (hF.fn f fn hfn).2
      · exact h.elim

/-- From a walk over no blocks of one's own to a contract. -/
theorem call_of {P : Program} {E : Env} (hE : EnvOk P E) (hG : ∀ g, E.G g = none) {cal : Cal} (hc : CalOk P E cal) {drw : Drw} (hd : DrwOk P E drw) {f : FuncId} {fn : Func} (hf : P.funcs[f]? = some fn) {ws : List W} {x : V} (hx : x.bnd 0 = true)
    (hr : rngW ws) (hb : bndW 0 ws = true) (h : xfun P E cal drw fn ws [] fun y _ => y = x) (σ : Sg) (w : World) :
    Calls P f (ws.map (W.den σ)).toArray w fun e w' => ∃ v, e = .returned v ∧ x.rep σ v ∧ Below w.heap.size w w' := by
  have hw : Rep E.G σ w.heap.size w w [] := ⟨Below.refl _ _, Nat.le_refl _, fun j b hj => by simp at hj, fun i j b c hi => by simp at hi, fun g ss hg => by rw [hG g] at hg; cases hg⟩
  refine (xfun_spec hE hc hd hf h hr hb ⟨fun b hb => by simp at hb, fun b hb => by simp at hb⟩ σ w.heap.size w w hw).mono ?_
  rintro e w' ⟨τ, y, H', v, rfl, h1, rfl, h3, h4, h5, h6, h7⟩
  exact ⟨v, rfl, V.rep_agree (n := 0) (fun j hj => absurd hj (Nat.not_lt_zero j)) hx h1, h4.below⟩

end Go.Proofs.Ytcikcejpmjbckaa
