/- Functions: contracts, calls that are walked into, and what a walk of a function's body says of a call. -/
import Derived.Test.YtaficaacogcblaaGreatDoorXj
set_option linter.all false
namespace Go.Proofs.YtaficaacogcblaaGreatDoor
open Go.RowKit (Below)
variable {Df : List Deferred}

def frameK : List W → Nat → (List V → Prop) → Prop
  | [], 0, K => K []
  | [], n + 1, K => frameK [] n fun r => K (.tup [] :: r)
  | w :: ws, n + 1, K => frameK ws n fun r => K (.w w :: r)
  | _ :: _, 0, _ => False

theorem frameK_spec : ∀ {ws : List W} {n : Nat} {K : List V → Prop}, frameK ws n K → ∃ fr, K fr ∧ ws.length ≤ n ∧ fr = ws.map V.w ++ List.replicate (n - ws.length) undefV
  | [], 0, K, h => ⟨[], h, Nat.le_refl _, rfl⟩
  | [], n + 1, K, h => by
    obtain ⟨fr, h1, h2, h3⟩ := frameK_spec (ws := []) (n := n) h
    refine ⟨_, h1, Nat.zero_le _, ?_⟩
    rw [h3]
    simp [List.replicate_succ, undefV]
  | w :: ws, n + 1, K, h => by
    obtain ⟨fr, h1, h2, h3⟩ := frameK_spec (ws := ws) (n := n) h
    refine ⟨_, h1, by simpa using h2, ?_⟩
    rw [h3]
    simp
  | _ :: _, 0, _, h => h.elim

theorem frame_ok {n : Nat} {ws : List W} (hr : rngW ws) (hb : bndW n ws = true) (m : Nat) : FOk n (ws.map V.w ++ List.replicate m undefV) := by
  refine ⟨fun x hx => ?_⟩
  rcases List.mem_append.1 hx with h | h
  · clear hx
    induction ws with
    | nil => simp at h
    | cons w ws ih =>
      simp only [bndW, Bool.and_eq_true] at hb
      rcases List.mem_cons.1 h with rfl | h
      · exact ⟨hr.1, hb.1⟩
      · exact ih hr.2 hb.2 h
  · rw [(List.mem_replicate.1 h).2]; exact ⟨trivial, rfl⟩
theorem frame_rep (σ : Sg) (ws : List W) (m : Nat) : FRep [] σ { tmps := (ws.map (W.den σ)).toArray ++ Array.replicate m undef, defers := [] } (ws.map V.w ++ List.replicate m undefV) := by
  refine ⟨rfl, by simp, fun i x hx => ?_⟩
  rcases Nat.lt_or_ge i ws.length with h | h
  · rw [List.getElem?_append_left (by simpa using h)] at hx
    simp [h] at hx
    subst hx
    simp [V.rep, Array.getElem?_append, h]
  · rw [List.getElem?_append_right (by simpa using h)] at hx
    have hx' := List.getElem?_eq_some_iff.1 hx
    obtain ⟨hlt, hx2⟩ := hx'
    simp at hlt
    simp at hx2
    subst hx2
    have : i - ws.length < m := hlt
    simp [Array.getElem?_append, Nat.not_lt.2 h, this]
    exact undefV_rep σ

def resK (P : Program) (E : Env) : List ResultVar → List V → List Blk → (List W → Prop) → Prop
  | [], _, _, K => K []
  | .tmp t :: rs, fr, H, K => getK fr t fun v => match v with
    | .w x => resK P E rs fr H fun xs => K (x :: xs)
    | _ => False
  | .cell a T :: rs, fr, H, K => getK fr a fun v => match v with
    | .w (.c c) => lookA E.G H c fun ss o i => kLoad P T ss o i fun x => resK P E rs fr H fun xs => K (x :: xs)
    | _ => False

def rvS (a : Act) : ResultVar → Sem Value
  | .tmp t => pure (a.tmps.getD t undef)
  | .cell c t => do loadVar t (← asAddr (a.tmps.getD c undef))

theorem resK_spec {P : Program} {E : Env} (hE : EnvOk P E) {fr : List V} {H : List Blk} (hf : FOk H.length fr) (ho : HOk H) : ∀ {rs : List ResultVar} {K : List W → Prop}, resK P E rs fr H K →
    ∃ xs, K xs ∧ rngW xs ∧ bndW H.length xs = true ∧ ∀ {Df : List Deferred} σ a base w₀ w, FRep Df σ a fr → Rep E.G σ base w₀ w H →
      (rs.mapM (rvS a)).run P w = .ok (xs.map (W.den σ)) w
  | [], K, h => ⟨[], h, trivial, rfl, fun σ a base w₀ w _ _ => rfl⟩
  | .tmp t :: rs, K, h => by
    obtain ⟨v, h1, h2, h3⟩ := evK_spec hf (x := .tmp t) h
    split at h2
    · rename_i x
      obtain ⟨xs, k1, k2, k3, k4⟩ := resK_spec hE hf ho h2
      refine ⟨x :: xs, k1, ⟨h1.1, k2⟩, by simp only [bndW, k3, Bool.and_true]; exact h1.2, fun σ a base w₀ w hr hw => ?_⟩
      have e1 : a.tmps.getD t undef = x.den σ := h3 σ a hr
      rw [List.mapM_cons]
      simp only [rvS, Sem.run_bind, Sem.run_pure, Result.andThen_ok, k4 σ a base w₀ w hr hw, e1, List.map_cons]
    · exact h2.elim
  | .cell c t :: rs, K, h => by
    obtain ⟨v, h1, h2, h3⟩ := evK_spec hf (x := .tmp c) h
    split at h2
    · rename_i cc
      obtain ⟨ss, o, i, h, q2, q3, q4, q5⟩ := lookA_spec hE.glo ho h2
      obtain ⟨y, y1, y2, y3, y4⟩ := kLoad_spec h q2 q3
      obtain ⟨xs, k1, k2, k3, k4⟩ := resK_spec hE hf ho y3
      refine ⟨y :: xs, k1, ⟨y1, k2⟩, by simp only [bndW, y2, k3, Bool.and_true], fun σ a base w₀ w hr hw => ?_⟩
      have e1 : a.tmps.getD c undef = cc.den σ := h3 σ a hr
      have e2 : asAddr (a.tmps.getD c undef) = pure (Addr.of σ cc) := by rw [e1, q4 σ]; rfl
      rw [List.mapM_cons]
      simp only [rvS, Sem.run_bind, Sem.run_pure, Result.andThen_ok, e2, y4 σ w _ (q5 σ base w₀ w hw), k4 σ a base w₀ w hr hw, List.map_cons]
    · exact h2.elim

def finalV : List W → V
  | [x] => .w x
  | xs => .tup xs

theorem results_run {P : Program} {fn : Func} {a : Act} {w : World} {vs : List Value}
    (h : (fn.results.toList.mapM (rvS a)).run P w = .ok vs w) :
    (results fn a.tmps).run P w = .ok (match vs with | [v] => v | vs => .tuple vs.toArray) w := by
  show (do let vs ← fn.results.mapM (rvS a); pure (if h : vs.size = 1 then vs[0] else .tuple vs) : Sem Value).run P w = _
  rw [Array.mapM_eq_mapM_toList]
  simp only [Sem.run_bind, Sem.run_map, h, Result.andThen_ok, Sem.run_pure]
  cases vs with
  | nil => rfl
  | cons v vs =>
    cases vs with
    | nil => rfl
    | cons u us => rfl

/-- A function's body, walked. -/
def xfun (P : Program) (E : Env) (cal : Cal) (drw : Drw) (fn : Func) (ws : List W) (H : List Blk) (K : V → List Blk → Prop) : Prop :=
  match fn.body with
  | none => False
  | some c => lenH H 0 fun lo => frameK ws fn.ntmps fun fr => XC P E cal drw c lo fr H fun ex fr' H' => match ex with
    | .exit _ => False
    | _ => resK P E fn.results.toList fr' H' fun xs => K (finalV xs) H'

theorem xfun_spec {P : Program} {E : Env} (hE : EnvOk P E) {cal : Cal} (hc : CalOk P E cal) {drw : Drw} (hd : DrwOk P E drw) {f : FuncId} {fn : Func} (hf : P.funcs[f]? = some fn) {ws : List W} {H : List Blk} {K : V → List Blk → Prop}
    (h : xfun P E cal drw fn ws H K) (hr : rngW ws) (hb : bndW H.length ws = true) (ho : HOk H) (σ : Sg) (base : Nat) (w₀ w : World) (hw : Rep E.G σ base w₀ w H) :
    Calls P f (ws.map (W.den σ)).toArray w (Left' E σ base w₀ H.length K) := by
  unfold xfun at h
  split at h
  · exact h.elim
  · rename_i c hbody
    rw [lenH_iff, Nat.zero_add] at h
    obtain ⟨fr, h, h2, rfl⟩ := frameK_spec h
    refine calls_of_wp hf hbody ?_
    have hsz : fn.ntmps - ((ws.map (W.den σ)).toArray).size = fn.ntmps - ws.length := by simp
    rw [hsz]
    refine wp_mono (XC_spec hE hc hd c h (frame_ok hr hb _) ho (Nat.le_refl _) (frame_rep σ ws _) hw) ?_
    rintro e a w' ⟨τ, fr', H', ex, rfl, k1, k2, k3, k4, k5, k6, k7⟩
    have fin : (resK P E fn.results.toList fr' H' fun xs => K (finalV xs) H') → a.defers = [] ∧ ∃ v, (results fn a.tmps).run P w' = .ok v w' ∧ Left' E σ base w₀ H.length K (.returned v) w' := fun k1 => by
      obtain ⟨xs, q1, q2, q3, q4⟩ := resK_spec hE k6 k4 k1
      refine ⟨k5.dfr, _, results_run (q4 τ a base w₀ w' k5 k3), τ, finalV xs, H', _, rfl, ?_, q1, k2, k3, k4, ?_, k7⟩
      · match xs with
        | [] => rfl
        | [x] => rfl
        | x :: y :: xs => rfl
      · match xs, q2, q3 with
        | [], _, _ => exact ⟨trivial, rfl⟩
        | [x], q2, q3 => simp only [bndW, Bool.and_true] at q3; exact ⟨q2.1, q3⟩
        | x :: y :: xs, q2, q3 => exact ⟨q2, q3⟩
    cases ex with
    | normal => exact fin k1
    | ret => exact fin k1
    | exit id => exact k1.elim

/-- A contract of a function that hangs on its arguments alone. -/
abbrev Ct := List W → (V → Prop) → Prop
def CtOk (P : Program) (f : FuncId) (ct : Ct) : Prop :=
  ∀ ws K, ct ws K → rngW ws → ∃ x : V, K x ∧ x.ok 0 ∧ ∀ (σ : Sg) w, Calls P f (ws.map (W.den σ)).toArray w fun e w' => ∃ v, e = .returned v ∧ x.rep σ v ∧ Below w.heap.size w w'

/-- Package-level variables hold what is told. -/
def GW (G : Glo) (w : World) : Prop := ∀ (g : Nat) (ss : List Seg), G g = some ss → g < w.heap.size ∧ bnds 0 ss = true ∧ ∀ (i : Nat) (v : Value), (dens (fun _ => (0, 0)) ss)[i]? = some v → w.cell? ⟨g, i, none⟩ = some v
theorem GW.rep {G : Glo} {w : World} (h : GW G w) (σ : Sg) : ∀ (g : Nat) (ss : List Seg), G g = some ss → g < w.heap.size ∧ bnds 0 ss = true ∧ ∀ (i : Nat) (v : Value), (dens σ ss)[i]? = some v → w.cell? ⟨g, i, none⟩ = some v := fun g ss hg => by
  obtain ⟨g1, g2, g3⟩ := h g ss hg
  refine ⟨g1, g2, ?_⟩
  rw [dens_agree (n := 0) (τ := fun _ => (0, 0)) (fun j hj => absurd hj (Nat.not_lt_zero j)) ss g2]
  exact g3
theorem Rep.gw {G : Glo} {σ : Sg} {base : Nat} {w₀ w : World} {H : List Blk} (h : Rep G σ base w₀ w H) : GW G w := fun g ss hg => by
  obtain ⟨g1, g2, g3⟩ := h.glo g ss hg
  refine ⟨Nat.lt_of_lt_of_le g1 (Nat.le_trans h.size h.below.size), g2, ?_⟩
  rw [dens_agree (n := 0) (τ := σ) (fun j hj => absurd hj (Nat.not_lt_zero j)) ss g2]
  exact g3
/-- A contract of a function that hangs on its arguments and on package-level variables that hold what is told. -/
def CtOkG (P : Program) (G : Glo) (f : FuncId) (ct : Ct) : Prop :=
  ∀ ws K, ct ws K → rngW ws → ∃ x : V, K x ∧ x.ok 0 ∧ ∀ (σ : Sg) w, GW G w → Calls P f (ws.map (W.den σ)).toArray w fun e w' => ∃ v, e = .returned v ∧ x.rep σ v ∧ Below w.heap.size w w'
theorem CtOk.g {P : Program} {f : FuncId} {ct : Ct} (h : CtOk P f ct) (G : Glo) : CtOkG P G f ct := fun ws K h1 h2 => by
  obtain ⟨x, k1, k2, k3⟩ := h ws K h1 h2
  exact ⟨x, k1, k2, fun σ w _ => k3 σ w⟩

def Enter (P : Program) (f : FuncId) : Prop := ∀ args w, (callFunc f args).run P w = .ok (.enter f args) w

/-- A contract over blocks. -/
abbrev HCt := List W → List Blk → (V → List Blk → Prop) → Prop
def HCtOk (P : Program) (f : FuncId) (h : HCt) : Prop :=
  ∀ ws H K, h ws H K → rngW ws → bndW H.length ws = true → HOk H → ∀ G σ base w₀ w, Rep G σ base w₀ w H → Calls P f (ws.map (W.den σ)).toArray w (LeftG G σ base w₀ H.length K)

/-- The same, where package-level variables hold what is told. -/
def HCtOkG (P : Program) (G : Glo) (f : FuncId) (h : HCt) : Prop :=
  ∀ ws H K, h ws H K → rngW ws → bndW H.length ws = true → HOk H → ∀ σ base w₀ w, Rep G σ base w₀ w H → Calls P f (ws.map (W.den σ)).toArray w (LeftG G σ base w₀ H.length K)

/-- Functions known by contract, and functions that are walked into. -/
structure Fns where
  ct : FuncId → Option Ct
  fn : FuncId → Option Func
  all : FuncId → Bool
  hc : FuncId → Option HCt
structure FnsOk (P : Program) (F : Fns) (G : Glo := fun _ => none) : Prop where
  ct : ∀ f c, F.ct f = some c → CtOkG P G f c ∧ Enter P f
  fn : ∀ f g, F.fn f = some g → P.funcs[f]? = some g ∧ Enter P f
  hc : ∀ f h, F.hc f = some h → HCtOkG P G f h ∧ Enter P f

def calF (P : Program) (E : Env) (F : Fns) (drw : Cal → Drw) (n : Nat) : Cal :=
  Nat.rec (motive := fun _ => Cal)
    (fun f ws H K => match F.ct f with
      | some ct => ct ws fun x => K x H
      | none => match F.hc f with
        | some h => h ws H K
        | none => False)
    (fun _ ih f ws H K => match F.ct f with
      | some ct => ct ws fun x => K x H
      | none => match F.hc f with
        | some h => h ws H K
        | none => match F.fn f with
          | some fn => xfun P E ih (drw ih) fn ws H K
          | none => False) n
theorem calF_zero (P : Program) (E : Env) (F : Fns) (drw : Cal → Drw) : calF P E F drw 0 = fun f ws H K => match F.ct f with
    | some ct => ct ws fun x => K x H
    | none => match F.hc f with
      | some h => h ws H K
      | none => False := rfl
theorem calF_succ (P : Program) (E : Env) (F : Fns) (drw : Cal → Drw) (n : Nat) : calF P E F drw (n + 1) = fun f ws H K => match F.ct f with
    | some ct => ct ws fun x => K x H
    | none => match F.hc f with
      | some h => h ws H K
      | none => match F.fn f with
        | some fn => xfun P E (calF P E F drw n) (drw (calF P E F drw n)) fn ws H K
        | none => False := rfl

theorem ct_call {P : Program} {E : Env} {f : FuncId} {ct : Ct} (h : CtOkG P E.G f ct) {ws : List W} {H : List Blk} {K : V → List Blk → Prop} (hk : ct ws fun x => K x H) (hr : rngW ws) (ho : HOk H) (σ : Sg) (base : Nat) (w₀ w : World) (hw : Rep E.G σ base w₀ w H) :
    Calls P f (ws.map (W.den σ)).toArray w (Left' E σ base w₀ H.length K) := by
  obtain ⟨x, h1, h2, h3⟩ := h ws _ hk hr
  refine (h3 σ w hw.gw).mono ?_
  rintro e w' ⟨v, rfl, h4, h5⟩
  exact ⟨σ, x, H, v, rfl, h4, h1, Sg.agree.refl _ _, hw.later h5, ho, V.ok_mono (Nat.zero_le _) h2, Nat.le_refl _⟩

theorem calF_ok {P : Program} {E : Env} (hE : EnvOk P E) {F : Fns} (hF : FnsOk P F E.G) {drw : Cal → Drw} (hd : ∀ cal, CalOk P E cal → DrwOk P E (drw cal)) : ∀ n, CalOk P E (calF P E F drw n)
  | 0 => by
    refine ⟨fun f ws H K h hr hb ho σ base w₀ w hw => ?_, fun f ws H K h => ?_⟩ <;> simp only [calF_zero] at h <;> split at h
    · rename_i ct hct; exact ct_call (hF.ct f ct hct).1 h hr ho σ base w₀ w hw
    · split at h
      · rename_i hh hhc; exact (hF.hc f hh hhc).1 ws H K h hr hb ho σ base w₀ w hw
      · exact h.elim
    · rename_i ct hct; exact (hF.ct f ct hct).2
    · split at h
      · rename_i hh hhc; exact (hF.hc f hh hhc).2
      · exact h.elim
  | n + 1 => by
    have ih := calF_ok hE hF hd n
    refine ⟨fun f ws H K h hr hb ho σ base w₀ w hw => ?_, fun f ws H K h => ?_⟩ <;> simp only [calF_succ] at h <;> split at h
    · rename_i ct hct; exact ct_call (hF.ct f ct hct).1 h hr ho σ base w₀ w hw
    · split at h
      · rename_i hh hhc; exact (hF.hc f hh hhc).1 ws H K h hr hb ho σ base w₀ w hw
      · split at h
        · rename_i fn hfn; exact xfun_spec hE ih (hd _ ih) (hF.fn f fn hfn).1 h hr hb ho σ base w₀ w hw
        · exact h.elim
    · rename_i ct hct; exact (hF.ct f ct hct).2
    · split at h
      · rename_i hh hhc; exact (hF.hc f hh hhc).2
      · split at h
        · rename_i fn hfn; exact (hF.fn f fn hfn).2
        · exact h.elim

/-- From a walk over no blocks of one's own to a contract. -/
theorem call_of {P : Program} {E : Env} (hE : EnvOk P E) (hG : ∀ g, E.G g = none) {cal : Cal} (hc : CalOk P E cal) {drw : Drw} (hd : DrwOk P E drw) {f : FuncId} {fn : Func} (hf : P.funcs[f]? = some fn) {ws : List W} {x : V} (hx : x.bnd 0 = true)
    (hr : rngW ws) (hb : bndW 0 ws = true) (h : xfun P E cal drw fn ws [] fun y _ => y = x) (σ : Sg) (w : World) :
    Calls P f (ws.map (W.den σ)).toArray w fun e w' => ∃ v, e = .returned v ∧ x.rep σ v ∧ Below w.heap.size w w' := by
  have hw : Rep E.G σ w.heap.size w w [] := ⟨Below.refl _ _, Nat.le_refl _, fun j b hj => by simp at hj, fun i j b c hi => by simp at hi, fun g ss hg => by rw [hG g] at hg; cases hg⟩
  refine (xfun_spec hE hc hd hf h hr hb ⟨fun b hb => by simp at hb, fun b hb => by simp at hb⟩ σ w.heap.size w w hw).mono ?_
  rintro e w' ⟨τ, y, H', v, rfl, h1, rfl, h3, h4, h5, h6, h7⟩
  exact ⟨v, rfl, V.rep_agree (n := 0) (fun j hj => absurd hj (Nat.not_lt_zero j)) hx h1, h4.below⟩

/-- The same, over blocks that were handed in and are only read. -/
theorem call_ro {P : Program} {E : Env} (hE : EnvOk P E) (hG : ∀ g, E.G g = none) {cal : Cal} (hc : CalOk P E cal) {drw : Drw} (hd : DrwOk P E drw) {f : FuncId} {fn : Func} (hf : P.funcs[f]? = some fn) {ws : List W} {R : List Blk} {x : V} (hx : x.bnd 0 = true)
    (hr : rngW ws) (hb : bndW R.length ws = true) (h : xfun P E cal drw fn ws R fun y _ => y = x) (hR : HOk R) (σ : Sg) (w : World) (hro : ∀ (j : Nat) (b : Blk), R[j]? = some b → b.mine = false ∧ b.rep σ w.heap.size w j) :
    Calls P f (ws.map (W.den σ)).toArray w fun e w' => ∃ v, e = .returned v ∧ x.rep σ v ∧ Below w.heap.size w w' := by
  have hw : Rep E.G σ w.heap.size w w R := ⟨Below.refl _ _, Nat.le_refl _, fun j b hj => (hro j b hj).2, fun i j b c hi _ hb _ _ => (by rw [(hro i b hi).1] at hb; cases hb), fun g ss hg => (by rw [hG g] at hg; cases hg)⟩
  refine (xfun_spec hE hc hd hf h hr hb hR σ w.heap.size w w hw).mono ?_
  rintro e w' ⟨τ, y, H', v, rfl, h1, rfl, h3, h4, h5, h6, h7⟩
  exact ⟨v, rfl, V.rep_agree (n := 0) (fun j hj => absurd hj (Nat.not_lt_zero j)) hx h1, h4.below⟩

/-! ### calls over some of the blocks -/
def sh (n j : Nat) : Nat := j + n
theorem bnd_sh {n m : Nat} : (∀ c : C, c.bnd n = true → (c.ren (sh m)).bnd (m + n) = true) ∧ (∀ l : List C, C.bndL n l = true → C.bndL (m + n) (C.renL (sh m) l) = true) := by
  have key : ∀ (c : C), c.bnd n = true → (c.ren (sh m)).bnd (m + n) = true := fun c => by
    refine C.rec (motive_1 := fun c => c.bnd n = true → (c.ren (sh m)).bnd (m + n) = true) (motive_2 := fun l => C.bndL n l = true → C.bndL (m + n) (C.renL (sh m) l) = true) ?_ ?_ ?_ ?_ ?_ ?_ ?_ ?_ ?_ ?_ ?_ ?_ ?_ ?_ ?_ ?_ c
    all_goals intros
    all_goals simp_all [C.ren, C.bnd, C.renL, C.bndL, sh]
    all_goals omega
  refine ⟨key, fun l => ?_⟩
  induction l with
  | nil => intro _; simp only [C.renL, C.bndL]
  | cons c l ih =>
    intro h
    simp only [C.bndL, Bool.and_eq_true] at h
    simp only [C.renL, C.bndL, key c h.1, ih h.2, Bool.and_self]
theorem bnds_sh {n m : Nat} : ∀ ss : List Seg, bnds n ss = true → bnds (m + n) (rens (sh m) ss) = true
  | [], _ => rfl
  | .one c :: ss, h => by
    simp only [bnds, Seg.bnd, Bool.and_eq_true] at h
    simp only [rens, Seg.ren, bnds, Seg.bnd, bnd_sh.1 c h.1, bnds_sh ss h.2, Bool.and_self]
  | .ints k q xs :: ss, h => by
    simp only [bnds, Seg.bnd, Bool.and_eq_true] at h
    simp only [rens, Seg.ren, bnds, Seg.bnd, bnds_sh ss h.2, Bool.and_self]
theorem W.bnd_sh {n m : Nat} (x : W) (h : x.bnd n = true) : (x.ren (sh m)).bnd (m + n) = true := by
  cases x with
  | c x => exact Go.Proofs.YtaficaacogcblaaGreatDoor.bnd_sh.1 x h
  | agg ss => exact bnds_sh ss h
theorem bndW_sh {n m : Nat} : ∀ xs : List W, bndW n xs = true → bndW (m + n) (renW (sh m) xs) = true
  | [], _ => rfl
  | x :: xs, h => by
    simp only [bndW, Bool.and_eq_true] at h
    simp only [renW, bndW, W.bnd_sh x h.1, bndW_sh xs h.2, Bool.and_self]
theorem V.bnd_sh {n m : Nat} (x : V) (h : x.bnd n = true) : (x.ren (sh m)).bnd (m + n) = true := by
  cases x with
  | w x => exact W.bnd_sh x h
  | tup ws => exact bndW_sh ws h
  | any => rfl
theorem Blk.bnd_sh {n m : Nat} (b : Blk) (h : b.bnd n = true) : (b.ren (sh m)).bnd (m + n) = true := by
  cases b with
  | own T ss => exact bnds_sh ss h
  | ro ss => exact bnds_sh ss h
  | obj R => rfl
  | gone => rfl

mutual
theorem C.rng_ren' (ρ : Nat → Nat) : (c : C) → c.rng → (c.ren ρ).rng
  | .cb _, _ | .cnil, _ | .cg _ _, _ | .cgi _ _ _, _ | .csn, _ | .cp _ _, _ | .cpi _ _ _, _ | .cm _, _ | .cmv _ _ _, _ => by simp only [C.ren, C.rng]
  | .ci _ _, h => by simpa only [C.ren, C.rng] using h
  | .cs _, h => by simpa only [C.ren, C.rng] using h
  | .cv _, h => by simpa only [C.ren, C.rng] using h
  | .csl _ _ _ _ _, h => by simpa only [C.ren, C.rng] using h
  | .cf f caps, h => by
    simp only [C.ren, C.rng] at h ⊢
    exact C.rngL_ren' ρ caps h
theorem C.rngL_ren' (ρ : Nat → Nat) : (l : List C) → C.rngL l → C.rngL (C.renL ρ l)
  | [], _ => by simp only [C.renL, C.rngL]
  | c :: l, h => by
    simp only [C.renL, C.rngL] at h ⊢
    exact ⟨C.rng_ren' ρ c h.1, C.rngL_ren' ρ l h.2⟩
end
theorem rngs_ren' (ρ : Nat → Nat) : (ss : List Seg) → rngs ss → rngs (rens ρ ss)
  | [], _ => trivial
  | .one c :: ss, h => ⟨C.rng_ren' ρ c h.1, rngs_ren' ρ ss h.2⟩
  | .ints _ _ _ :: ss, h => ⟨h.1, rngs_ren' ρ ss h.2⟩
theorem W.rng_ren' (ρ : Nat → Nat) (x : W) (h : x.rng) : (x.ren ρ).rng := by
  cases x with
  | c x => exact C.rng_ren' ρ x h
  | agg ss => exact rngs_ren' ρ ss h
theorem rngW_ren' (ρ : Nat → Nat) : (xs : List W) → rngW xs → rngW (renW ρ xs)
  | [], _ => trivial
  | x :: xs, h => ⟨W.rng_ren' ρ x h.1, rngW_ren' ρ xs h.2⟩
theorem V.rng_ren' (ρ : Nat → Nat) (x : V) (h : x.rng) : (x.ren ρ).rng := by
  cases x with
  | w x => exact W.rng_ren' ρ x h
  | tup ws => exact rngW_ren' ρ ws h
  | any => trivial
theorem Blk.rng_ren' (ρ : Nat → Nat) (b : Blk) (h : b.rng) : (b.ren ρ).rng := by
  cases b with
  | own T ss => exact rngs_ren' ρ ss h
  | ro ss => exact rngs_ren' ρ ss h
  | obj R => trivial
  | gone => trivial

def joinS (n : Nat) (σ τ : Sg) : Sg := fun j => if j < n then σ j else τ (j - n)
theorem joinS_low (n : Nat) (σ τ : Sg) : Sg.agree n σ (joinS n σ τ) := fun j hj => by simp only [joinS, if_pos hj]
theorem joinS_sh (n : Nat) (σ τ : Sg) : (joinS n σ τ).ren (sh n) = τ := by
  funext j
  simp only [Sg.ren, joinS, sh, if_neg (show ¬ (j + n < n) by omega), Nat.add_sub_cancel]
theorem Blk.rep_ren' {σ : Sg} {ρ : Nat → Nat} {base : Nat} {w : World} {j : Nat} {b : Blk} (h : b.rep (σ.ren ρ) base w j) : (b.ren ρ).rep σ base w (ρ j) := by
  cases b with
  | own T ss => simpa only [Blk.ren, Blk.rep, dens_ren, Sg.ren] using h
  | ro ss => simpa only [Blk.ren, Blk.rep, dens_ren, Sg.ren, Sg.at] using h
  | obj R => simpa only [Blk.ren, Blk.rep, Sg.ren] using h
  | gone => trivial

/-- What was, and what a call has made. -/
theorem Rep.join {G G' : Glo} {σ τ : Sg} {base : Nat} {w₀ w w' : World} {H N : List Blk} (h : Rep G σ base w₀ w H) (ho : HOk H) (hn : Rep G' τ w.heap.size w w' N) (hm : ∀ b ∈ N, b.mine = true ∨ b = .gone) :
    Rep G (joinS H.length σ τ) base w₀ w' (H ++ N.map (Blk.ren (sh H.length))) := by
  have h1 := (h.later hn.below).agree ho (joinS_low H.length σ τ)
  have hsz : base ≤ w.heap.size := Nat.le_trans h.size h.below.size
  have low : ∀ i c, H[i]? = some c → c.mine = true → ((joinS H.length σ τ) i).1 < w.heap.size := fun i c hi hc => by
    rw [← joinS_low H.length σ τ i (List.getElem?_eq_some_iff.1 hi).1]
    have := h.blk i c hi
    cases c with
    | own T ss => exact (Array.getElem?_eq_some_iff.1 this.2.2).1
    | obj R => obtain ⟨_, _, o, h3, _⟩ := this; exact (Array.getElem?_eq_some_iff.1 h3).1
    | ro ss => cases hc
    | gone => cases hc
  have new : ∀ i c, (H ++ N.map (Blk.ren (sh H.length)))[i]? = some c → H.length ≤ i → ∃ b, N[i - H.length]? = some b ∧ c = b.ren (sh H.length) := fun i c hi hge => by
    rw [List.getElem?_append_right hge, List.getElem?_map] at hi
    cases hb : N[i - H.length]? with
    | none => rw [hb] at hi; cases hi
    | some b => rw [hb] at hi; simp at hi; exact ⟨b, rfl, hi.symm⟩
  have up : ∀ i, H.length ≤ i → (joinS H.length σ τ) i = τ (i - H.length) := fun i hi => by simp only [joinS, if_neg (Nat.not_lt.2 hi)]
  have nrep : ∀ i b, N[i]? = some b → b.mine = true → w.heap.size ≤ (τ i).1 := fun i b hb hbm => by
    have := hn.blk i b hb
    cases b with
    | own T ss => exact this.2.1
    | obj R => exact this.2.1
    | ro ss => cases hbm
    | gone => cases hbm
  have mren : ∀ b : Blk, (b.ren (sh H.length)).mine = b.mine := fun b => by cases b <;> rfl
  refine ⟨h1.below, h1.size, fun j c hj => ?_, fun i j c d hi hj hc hd hij => ?_, h1.glo⟩
  · rcases Nat.lt_or_ge j H.length with hlt | hge
    · rw [List.getElem?_append_left hlt] at hj; exact h1.blk j c hj
    · obtain ⟨b, hb, rfl⟩ := new j c hj hge
      have hr := hn.blk _ b hb
      have e : j = sh H.length (j - H.length) := by unfold sh; omega
      have hr' : b.rep ((joinS H.length σ τ).ren (sh H.length)) w.heap.size w' (j - H.length) := by rw [joinS_sh]; exact hr
      have := Blk.rep_ren' hr'
      rw [← e] at this
      rcases hm b (List.mem_of_getElem? hb) with hbm | rfl
      · cases b with
        | own T ss => exact ⟨this.1, Nat.le_trans hsz this.2.1, this.2.2⟩
        | obj R => exact ⟨this.1, Nat.le_trans hsz this.2.1, this.2.2⟩
        | ro ss => cases hbm
        | gone => cases hbm
      · trivial
  · rcases Nat.lt_or_ge i H.length with hilt | hige
    · rcases Nat.lt_or_ge j H.length with hjlt | hjge
      · rw [List.getElem?_append_left hilt] at hi
        rw [List.getElem?_append_left hjlt] at hj
        exact h1.sep i j c d hi hj hc hd hij
      · rw [List.getElem?_append_left hilt] at hi
        have := low i c hi hc
        obtain ⟨b, hb, rfl⟩ := new j d hj hjge
        have := nrep _ b hb (by rw [← mren]; exact hd)
        rw [up j hjge]; omega
    · obtain ⟨b, hb, rfl⟩ := new i c hi hige
      rw [mren] at hc
      have hh := nrep _ b hb hc
      rw [up i hige]
      rcases Nat.lt_or_ge j H.length with hjlt | hjge
      · rw [List.getElem?_append_left hjlt] at hj
        have := low j d hj hd
        omega
      · obtain ⟨b', hb', rfl⟩ := new j d hj hjge
        rw [mren] at hd
        rw [up j hjge]
        exact hn.sep _ _ b b' hb hb' hc hd (by omega)
theorem HOk.join {H N : List Blk} (ho : HOk H) (hn : HOk N) : HOk (H ++ N.map (Blk.ren (sh H.length))) := by
  have e : (H ++ N.map (Blk.ren (sh H.length))).length = H.length + N.length := by simp
  refine ⟨fun c hc => ?_, fun c hc => ?_⟩ <;> rcases List.mem_append.1 hc with h | h
  · exact ho.rng c h
  · obtain ⟨b, hb, rfl⟩ := List.mem_map.1 h
    exact Blk.rng_ren' _ b (hn.rng b hb)
  · rw [e]
    have := ho.bnd c h
    cases c with
    | own T ss => exact bnds_mono (by omega) ss this
    | ro ss => exact bnds_mono (by omega) ss this
    | obj R => rfl
    | gone => rfl
  · obtain ⟨b, hb, rfl⟩ := List.mem_map.1 h
    rw [e]
    exact Blk.bnd_sh b (hn.bnd b hb)

/-- What a walk over blocks that are only read leaves: a value and blocks of its own, under names of their own. -/
def Made (P0 : V → List Blk → Prop) (x : V) (H' : List Blk) : Prop := ∃ x0 N ρ, P0 x0 N ∧ Seen ρ 0 [x0] N [x] H' ∧ x0 ≠ .any

/-- A walk over blocks that are only read, used over more blocks. -/
theorem call_liftG {P : Program} {E : Env} (hE : EnvOk P E) {G : Glo} (hG : ∀ g ss, E.G g = some ss → G g = some ss) {cal : Cal} (hc : CalOk P E cal) {drw : Drw} (hd : DrwOk P E drw) {f : FuncId} {fn : Func} (hf : P.funcs[f]? = some fn) {ws : List W} {R : List Blk} {P0 : V → List Blk → Prop}
    (hR : HOk R) (hr : rngW ws) (hb : bndW R.length ws = true) (h : xfun P E cal drw fn ws R (Made P0)) (hm : ∀ x N, P0 x N → ∀ b ∈ N, b.mine = true ∨ b = .gone)
    {H : List Blk} {ρ : Nat → Nat} (hro : ∀ (j : Nat) (b : Blk), R[j]? = some b → b = .gone ∨ ∃ ss, b = .ro ss ∧ ((∃ T, H[ρ j]? = some (.own T (rens ρ ss))) ∨ H[ρ j]? = some (.ro (rens ρ ss))))
    {K : V → List Blk → Prop} (hK : ∀ x N, P0 x N → K (x.ren (sh H.length)) (H ++ N.map (Blk.ren (sh H.length)))) (ho : HOk H) (σ : Sg) (base : Nat) (w₀ w : World) (hw : Rep G σ base w₀ w H) :
    Calls P f ((renW ρ ws).map (W.den σ)).toArray w (LeftG G σ base w₀ H.length K) := by
  rw [renW_den]
  have hsz : base ≤ w.heap.size := Nat.le_trans hw.size hw.below.size
  have hw' : Rep E.G (σ.ren ρ) w.heap.size w w R := by
    refine ⟨Below.refl _ _, Nat.le_refl _, fun j b hj => ?_, fun i j b c hi _ hb _ _ => ?_, fun g ss hg => ?_⟩
    · rcases hro j b hj with rfl | ⟨ss, rfl, h1⟩
      · trivial
      · show ((σ.ren ρ) j).1 < w.heap.size ∧ ∀ i v, (dens (σ.ren ρ) ss)[i]? = some v → w.cell? ((σ.ren ρ).at j i) = some v
        rcases h1 with ⟨T, h1⟩ | h1
        · have hb' := hw.blk _ _ h1
          have hrd := rep_reads hw (ss := rens ρ ss) (.inl ⟨T, h1⟩) 0
          refine ⟨(Array.getElem?_eq_some_iff.1 hb'.2.2).1, fun i v hv => ?_⟩
          rw [← dens_ren] at hv
          have := hrd.cell i v (by simpa using hv)
          simpa [Sg.at, Sg.ren] using this
        · have hb' := hw.blk _ _ h1
          refine ⟨Nat.lt_of_lt_of_le hb'.1 hsz, fun i v hv => ?_⟩
          rw [← dens_ren] at hv
          exact hb'.2 i v hv
    · rcases hro i b hi with rfl | ⟨ss, rfl, _⟩ <;> cases hb
    · obtain ⟨g1, g2, g3⟩ := hw.glo g ss (hG g ss hg)
      refine ⟨Nat.lt_of_lt_of_le g1 hsz, g2, ?_⟩
      rw [dens_agree (n := 0) (fun j hj => absurd hj (Nat.not_lt_zero j)) ss g2]
      exact g3
  refine (xfun_spec hE hc hd hf h hr hb hR (σ.ren ρ) w.heap.size w w hw').mono ?_
  rintro e w' ⟨τ, y, H', v, rfl, h1, ⟨x0, N, ρ', p1, p2, p3⟩, h3, h4, h5, h6, h7⟩
  have hN : Rep E.G (τ.ren ρ') w.heap.size w w' N := h4.ren p2.blk p2.inj
  obtain ⟨q1, q2⟩ := p2.ok ⟨fun x hx => by rw [List.mem_singleton.1 hx]; exact h6⟩ h5
  have hy : y = x0.ren ρ' := by
    rcases p2.fr 0 x0 rfl with h | h
    · exact absurd h p3
    · simpa using h
  subst hy
  have x0ok : x0.ok N.length := q1.ok x0 (by simp)
  refine ⟨joinS H.length σ (τ.ren ρ'), x0.ren (sh H.length), H ++ N.map (Blk.ren (sh H.length)), v, rfl, ?_, hK x0 N p1, joinS_low _ _ _, hw.join ho hN (hm x0 N p1), ho.join q2, ⟨V.rng_ren' _ _ x0ok.1, ?_⟩, by simp⟩
  · rw [V.rep_ren, joinS_sh, ← V.rep_ren]; exact h1
  · rw [show (H ++ N.map (Blk.ren (sh H.length))).length = H.length + N.length by simp]
    exact V.bnd_sh x0 x0ok.2
theorem call_lift {P : Program} {E : Env} (hE : EnvOk P E) (hG : ∀ g, E.G g = none) {cal : Cal} (hc : CalOk P E cal) {drw : Drw} (hd : DrwOk P E drw) {f : FuncId} {fn : Func} (hf : P.funcs[f]? = some fn) {ws : List W} {R : List Blk} {P0 : V → List Blk → Prop}
    (hR : HOk R) (hr : rngW ws) (hb : bndW R.length ws = true) (h : xfun P E cal drw fn ws R (Made P0)) (hm : ∀ x N, P0 x N → ∀ b ∈ N, b.mine = true ∨ b = .gone)
    {H : List Blk} {ρ : Nat → Nat} (hro : ∀ (j : Nat) (b : Blk), R[j]? = some b → b = .gone ∨ ∃ ss, b = .ro ss ∧ ((∃ T, H[ρ j]? = some (.own T (rens ρ ss))) ∨ H[ρ j]? = some (.ro (rens ρ ss))))
    {K : V → List Blk → Prop} (hK : ∀ x N, P0 x N → K (x.ren (sh H.length)) (H ++ N.map (Blk.ren (sh H.length)))) (ho : HOk H) (G : Glo) (σ : Sg) (base : Nat) (w₀ w : World) (hw : Rep G σ base w₀ w H) :
    Calls P f ((renW ρ ws).map (W.den σ)).toArray w (LeftG G σ base w₀ H.length K) :=
  call_liftG hE (G := G) (fun g ss hg => by rw [hG g] at hg; cases hg) hc hd hf hR hr hb h hm hro hK ho σ base w₀ w hw
/-- As call_ro, where package-level variables hold what is told. -/
theorem call_roG {P : Program} {E : Env} (hE : EnvOk P E) {cal : Cal} (hc : CalOk P E cal) {drw : Drw} (hd : DrwOk P E drw) {f : FuncId} {fn : Func} (hf : P.funcs[f]? = some fn) {ws : List W} {R : List Blk} {x : V} (hx : x.bnd 0 = true)
    (hr : rngW ws) (hb : bndW R.length ws = true) (h : xfun P E cal drw fn ws R fun y _ => y = x) (hR : HOk R) (σ : Sg) (w : World) (hro : ∀ (j : Nat) (b : Blk), R[j]? = some b → b.mine = false ∧ b.rep σ w.heap.size w j)
    (hglo : GW E.G w) :
    Calls P f (ws.map (W.den σ)).toArray w fun e w' => ∃ v, e = .returned v ∧ x.rep σ v ∧ Below w.heap.size w w' := by
  have hw : Rep E.G σ w.heap.size w w R := ⟨Below.refl _ _, Nat.le_refl _, fun j b hj => (hro j b hj).2, fun i j b c hi _ hb _ _ => (by rw [(hro i b hi).1] at hb; cases hb), hglo.rep σ⟩
  refine (xfun_spec hE hc hd hf h hr hb hR σ w.heap.size w w hw).mono ?_
  rintro e w' ⟨τ, y, H', v, rfl, h1, rfl, h3, h4, h5, h6, h7⟩
  exact ⟨v, rfl, V.rep_agree (n := 0) (fun j hj => absurd hj (Nat.not_lt_zero j)) hx h1, h4.below⟩
end Go.Proofs.YtaficaacogcblaaGreatDoor
