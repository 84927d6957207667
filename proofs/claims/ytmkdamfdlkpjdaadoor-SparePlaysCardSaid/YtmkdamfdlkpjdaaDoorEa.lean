/- Base of chapter spare. -/
import Derived.Test.YtmkdamfdlkpjdaaDoorDf
set_option linter.all false
namespace Go.Proofs.YtmkdamfdlkpjdaaDoor
open Go.RowKit (Below)
set_option maxRecDepth 100000
set_option maxHeartbeats 32000000

def absI (x : Int) : Int := max x (0 - x)
@[irreducible] def szV (x : Int) : Int := if x < -8 ∨ 8 < x then 9 else absI x
theorem szV_def (x : Int) : szV x = if x < -8 ∨ 8 < x then 9 else absI x := by unfold szV; rfl
theorem szV_in (x : Int) : 0 ≤ szV x ∧ szV x ≤ 9 := by rw [szV_def]; unfold absI; split <;> omega
theorem szV_abs {x : Int} (h : -8 ≤ x ∧ x ≤ 8) : szV x = absI x := by rw [szV_def, if_neg (by omega)]
theorem val_mine {x0 : V} : ∀ (x : V) (N : List Blk), (x = x0 ∧ N = []) → ∀ b ∈ N, b.mine = true ∨ b = .gone := by
  rintro x N ⟨_, rfl⟩ b hb; cases hb
theorem vi_K {H : List Blk} {K : V → List Blk → Prop} {a : Int} (h : K (vi a) H) : ∀ (x : V) (N : List Blk), (x = vi a ∧ N = []) → K (x.ren (sh H.length)) (H ++ N.map (Blk.ren (sh H.length))) := by
  rintro x N ⟨rfl, rfl⟩
  simpa [V.ren, renW, W.ren, C.ren] using h
theorem rsize_walk (x : Int) (hx : InK .i64 x) : walk F0 0 Tryd.f36 [i64 x] [] fun y _ => y = vi (szF x) := by
  obtain ⟨x1, x2⟩ := hx
  simp only [lowK, highK] at x1 x2
  rcases Classical.em (x < -1099511627776) with h1 | h1
  · rw [show szF x = 1099511627776 by rw [szF_def]; omega]
    repeat' ((conv => whnf); first | (refine ask_true (by omega) ?_) | (refine ask_false (by omega) ?_) | rfl | fail)
  · rcases Classical.em (x > 1099511627776) with h2 | h2
    · rw [show szF x = 1099511627776 by rw [szF_def]; omega]
      repeat' ((conv => whnf); first | (refine ask_true (by omega) ?_) | (refine ask_false (by omega) ?_) | rfl | fail)
    · rw [szF_abs (by omega)]
      rcases Int.lt_or_le x 0 with h3 | h3
      · rw [if_pos h3]
        repeat' ((conv => whnf); first | (refine ask_true (by omega) ?_) | (refine ask_false (by omega) ?_) | (refine ask_wrap64 (by omega) (by omega) ?_) | fail)
        exact vi_eq (by omega)
      · rw [if_neg (by omega)]
        repeat' ((conv => whnf); first | (refine ask_true (by omega) ?_) | (refine ask_false (by omega) ?_) | rfl | fail)
theorem rsize_ct : CtOk Tryd.prog 36 (ct1 (fun _ => True) szF) := ct1_ok F0_ok Tryd.func36 (fun a _ _ => by have := szF_in a; simp only [InK, lowK, highK]; omega) fun a h _ => rsize_walk a h

theorem lt5 {n : Nat} (h : n < 5) : n < 4 + 1 := h
def ctB : Ct := fun ws K => match ws with
  | [.c (.ci .i64 b)] => (0 ≤ b ∧ b ≤ 3) ∧ K (.tup [i64 (fst b), i64 (fst (b + 1))])
  | _ => False
theorem bounds_walk (b : Int) (h : 0 ≤ b ∧ b ≤ 3) : walk F0 0 Tryd.f20 [i64 b] [] fun y _ => y = .tup [i64 (fst b), i64 (fst (b + 1))] := by
  have em0 : mulN b.toNat (Tryd.prog.types[3]).size = b.toNat := mulN1 _
  have em1 : mulN (b + 1).toNat (Tryd.prog.types[3]).size = (b + 1).toNat := mulN1 _
  have f := fst_ok h
  have x0 : ([0, 2, 4, 8, 16] : List Int).getD (0 + mulN b.toNat (Tryd.prog.types[3]).size) 0 = fst b := by rw [em0, Nat.zero_add]; rfl
  have x1 : ([0, 2, 4, 8, 16] : List Int).getD (0 + mulN (b + 1).toNat (Tryd.prog.types[3]).size) 0 = fst (b + 1) := by rw [em1, Nat.zero_add]; rfl
  repeat' ((conv => whnf); first | (refine And.intro rfl ?_) | (refine And.intro (by omega) ?_) | (refine And.intro (lt5 (by omega)) ?_) | (refine fun (_ : InK _ _) => ?_) | (refine ask_wrap64 (by omega) (by omega) ?_) | (refine ⟨by kernel_rfl, ?_⟩) | fail)
  exact congrArg V.tup (by rw [show ((((((List.replicate (5 * (Tryd.prog.types[3]).size) (0 : Int)).set 0 0).set (0 + 1) 2).set (1 + 1) 4).set (2 + 1) 8).set (3 + 1) 16) = [0, 2, 4, 8, 16] from rfl, x0, x1])

def E4 : Env := ⟨G1, fun t => match Nat.beq t 25 with
  | true => some (List.replicate 4 (.i .i64))
  | false => none⟩
theorem E4_ok : EnvOk Tryd.prog E4 := by
  refine ⟨⟨fun g ss h => ?_⟩, fun t ks h => ?_⟩
  · simp only [E4, G1] at h
    split at h
    · cases h
      refine ⟨⟨⟨rfl, fun x hx => ?_⟩, trivial⟩, rfl⟩
      simp only [List.mem_cons, List.not_mem_nil, or_false] at hx
      simp only [InK, lowK, highK]
      omega
    · cases h
  · simp only [E4] at h
    split at h
    · rename_i hb
      obtain rfl := Nat.eq_of_beq_eq_true hb
      cases h
      exact eqok_ints (e := 3) (by kernel_rfl) (by kernel_rfl) rfl (by kernel_rfl) (by kernel_rfl) (by kernel_rfl)
    · cases h
/-- A function's walk, where the variable holds what it holds. -/
abbrev walkq (F : Fns) (n : Nat) (fn : Func) (ws : List W) (H : List Blk) (K : V → List Blk → Prop) : Prop := xfun Tryd.prog E4 (calF Tryd.prog E4 F (drwA Tryd.prog E4 F) n) (drwA Tryd.prog E4 F (calF Tryd.prog E4 F (drwA Tryd.prog E4 F) n)) fn ws H K
theorem calq_ok {F : Fns} (hF : FnsOk Tryd.prog F G1) (n : Nat) : CalOk Tryd.prog E4 (calF Tryd.prog E4 F (drwA Tryd.prog E4 F) n) := calF_ok E4_ok hF (fun cal hc => drwA_ok E4_ok hF mixed cal hc) n
theorem walkq_ro {F : Fns} (hF : FnsOk Tryd.prog F G1) {n : Nat} {f : FuncId} {fn : Func} (hf : Tryd.prog.funcs[f]? = some fn) {ws : List W} {R : List Blk} {x : V} (hx : x.bnd 0 = true) (hr : rngW ws) (hb : bndW R.length ws = true)
    (h : walkq F n fn ws R fun y _ => y = x) (hR : HOk R) (σ : Sg) (w : World) (hro : ∀ (j : Nat) (b : Blk), R[j]? = some b → b.mine = false ∧ b.rep σ w.heap.size w j) (hg : GW G1 w) :
    Calls Tryd.prog f (ws.map (W.den σ)).toArray w fun e w' => ∃ v, e = .returned v ∧ x.rep σ v ∧ Below w.heap.size w w' :=
  call_roG E4_ok (calq_ok hF n) (drwA_ok E4_ok hF mixed _ (calq_ok hF n)) hf hx hr hb h hR σ w hro hg
theorem walkq_calls {F : Fns} (hF : FnsOk Tryd.prog F G1) {n : Nat} {f : FuncId} {fn : Func} (hf : Tryd.prog.funcs[f]? = some fn) {ws : List W} {x : V} (hx : x.bnd 0 = true) (hr : rngW ws) (hb : bndW 0 ws = true)
    (h : walkq F n fn ws [] fun y _ => y = x) (σ : Sg) (w : World) (hg : GW G1 w) : Calls Tryd.prog f (ws.map (W.den σ)).toArray w fun e w' => ∃ v, e = .returned v ∧ x.rep σ v ∧ Below w.heap.size w w' :=
  walkq_ro (R := []) hF hf hx hr hb h nil_okB σ w (fun j b hj => by simp at hj) hg
theorem walkq_true_ro {F : Fns} (hF : FnsOk Tryd.prog F G1) {n : Nat} {f : FuncId} {fn : Func} (hf : Tryd.prog.funcs[f]? = some fn) {ws : List W} {R : List Blk} (hr : rngW ws) (hb : bndW R.length ws = true)
    (h : walkq F n fn ws R fun y _ => y = .w (.c (.cb true))) (hR : HOk R) (σ : Sg) (w : World) (hro : ∀ (j : Nat) (b : Blk), R[j]? = some b → b.mine = false ∧ b.rep σ w.heap.size w j) (hg : GW G1 w) :
    Calls Tryd.prog f (ws.map (W.den σ)).toArray w fun e w' => e = .returned (.bool true) ∧ Below w.heap.size w w' := by
  refine (walkq_ro hF hf rfl hr hb h hR σ w hro hg).mono ?_
  rintro e w' ⟨v, rfl, h1, h2⟩
  exact ⟨by rw [show v = _ from h1]; rfl, h2⟩
theorem walkq_true {F : Fns} (hF : FnsOk Tryd.prog F G1) {n : Nat} {f : FuncId} {fn : Func} (hf : Tryd.prog.funcs[f]? = some fn) {ws : List W} (hr : rngW ws) (hb : bndW 0 ws = true)
    (h : walkq F n fn ws [] fun y _ => y = .w (.c (.cb true))) (w : World) (hg : GW G1 w) : Calls Tryd.prog f (ws.map (W.den fun _ => (0, 0))).toArray w fun e w' => e = .returned (.bool true) ∧ Below w.heap.size w w' :=
  walkq_true_ro (R := []) hF hf hr hb h nil_okB (fun _ => (0, 0)) w (fun j b hj => by simp at hj) hg
theorem walkq_lift {F : Fns} (hF : FnsOk Tryd.prog F G1) {n : Nat} {f : FuncId} {fn : Func} (hf : Tryd.prog.funcs[f]? = some fn) {ws ws' : List W} {R : List Blk} {P0 : V → List Blk → Prop} (hR : HOk R) (hr : rngW ws) (hb : bndW R.length ws = true) (h : walkq F n fn ws R (Made P0))
    (hm : ∀ x N, P0 x N → ∀ b ∈ N, b.mine = true ∨ b = .gone) {H : List Blk} (ρ : Nat → Nat) (hro : ∀ (j : Nat) (b : Blk), R[j]? = some b → b = .gone ∨ ∃ ss, b = .ro ss ∧ ((∃ T, H[ρ j]? = some (.own T (rens ρ ss))) ∨ H[ρ j]? = some (.ro (rens ρ ss)))) (hws : ws' = renW ρ ws)
    {K : V → List Blk → Prop} (hK : ∀ x N, P0 x N → K (x.ren (sh H.length)) (H ++ N.map (Blk.ren (sh H.length)))) (ho : HOk H) (σ : Sg) (base : Nat) (w₀ w : World) (hw : Rep G1 σ base w₀ w H) :
    Calls Tryd.prog f (ws'.map (W.den σ)).toArray w (LeftG G1 σ base w₀ H.length K) := by
  subst hws
  exact call_liftG E4_ok (G := G1) (fun g ss hg => hg) (calq_ok hF n) (drwA_ok E4_ok hF mixed _ (calq_ok hF n)) hf hR hr hb h hm hro hK ho σ base w₀ w hw
theorem ctq1_ok {F : Fns} (hF : FnsOk Tryd.prog F G1) {n : Nat} {f : FuncId} {fn : Func} (hf : Tryd.prog.funcs[f]? = some fn) {pre : Int → Prop} {g : Int → Int} (hg : ∀ a, InK .i64 a → pre a → InK .i64 (g a))
    (h : ∀ a, InK .i64 a → pre a → walkq F n fn [i64 a] [] fun y _ => y = vi (g a)) : CtOkG Tryd.prog G1 f (ct1 pre g) := by
  intro ws K h' hr
  unfold ct1 at h'
  split at h'
  · rename_i a
    exact ⟨_, h'.2, ⟨hg a hr.1 h'.1, rfl⟩, walkq_calls hF hf rfl hr rfl (h a hr.1 h'.1)⟩
  · exact h'.elim
end Go.Proofs.YtmkdamfdlkpjdaaDoor
