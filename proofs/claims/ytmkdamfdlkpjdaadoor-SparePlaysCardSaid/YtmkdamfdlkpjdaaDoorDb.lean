/- Chapter level: the variable of the bands' first waves; how many waves a band has. -/
import Derived.Test.YtmkdamfdlkpjdaaDoorDa
set_option linter.all false
namespace Go.Proofs.YtmkdamfdlkpjdaaDoor
open Go.RowKit (Below)
set_option maxRecDepth 100000
set_option maxHeartbeats 32000000

/-- What the package's variable holds. -/
def G1 : Glo := fun g => match Nat.beq g 0 with
  | true => some [.ints .i64 5 [0, 2, 4, 8, 16]]
  | false => none
def E1 : Env := ⟨G1, fun t => match Nat.beq t 24 with
  | true => some (List.replicate 16 (.i .i64))
  | false => none⟩
theorem E1_ok : EnvOk Tryd.prog E1 := by
  refine ⟨⟨fun g ss h => ?_⟩, fun t ks h => ?_⟩
  · simp only [E1, G1] at h
    split at h
    · cases h
      refine ⟨⟨⟨rfl, fun x hx => ?_⟩, trivial⟩, rfl⟩
      simp only [List.mem_cons, List.not_mem_nil, or_false] at hx
      simp only [InK, lowK, highK]
      omega
    · cases h
  · simp only [E1] at h
    split at h
    · rename_i hb
      obtain rfl := Nat.eq_of_beq_eq_true hb
      cases h
      exact eqok_ints (e := 3) (by kernel_rfl) (by kernel_rfl) rfl (by kernel_rfl) (by kernel_rfl) (by kernel_rfl)
    · cases h
/-- A function's walk, where the variable holds what it holds. -/
abbrev walkg (F : Fns) (n : Nat) (fn : Func) (ws : List W) (H : List Blk) (K : V → List Blk → Prop) : Prop := xfun Tryd.prog E1 (calF Tryd.prog E1 F (drwA Tryd.prog E1 F) n) (drwA Tryd.prog E1 F (calF Tryd.prog E1 F (drwA Tryd.prog E1 F) n)) fn ws H K
theorem calg_ok {F : Fns} (hF : FnsOk Tryd.prog F G1) (n : Nat) : CalOk Tryd.prog E1 (calF Tryd.prog E1 F (drwA Tryd.prog E1 F) n) := calF_ok E1_ok hF (fun cal hc => drwA_ok E1_ok hF mixed cal hc) n
theorem walkg_ro {F : Fns} (hF : FnsOk Tryd.prog F G1) {n : Nat} {f : FuncId} {fn : Func} (hf : Tryd.prog.funcs[f]? = some fn) {ws : List W} {R : List Blk} {x : V} (hx : x.bnd 0 = true) (hr : rngW ws) (hb : bndW R.length ws = true)
    (h : walkg F n fn ws R fun y _ => y = x) (hR : HOk R) (σ : Sg) (w : World) (hro : ∀ (j : Nat) (b : Blk), R[j]? = some b → b.mine = false ∧ b.rep σ w.heap.size w j) (hg : GW G1 w) :
    Calls Tryd.prog f (ws.map (W.den σ)).toArray w fun e w' => ∃ v, e = .returned v ∧ x.rep σ v ∧ Below w.heap.size w w' :=
  call_roG E1_ok (calg_ok hF n) (drwA_ok E1_ok hF mixed _ (calg_ok hF n)) hf hx hr hb h hR σ w hro hg
theorem nil_okB : HOk [] := ⟨fun b hb => (by cases hb), fun b hb => (by cases hb)⟩
theorem walkg_calls {F : Fns} (hF : FnsOk Tryd.prog F G1) {n : Nat} {f : FuncId} {fn : Func} (hf : Tryd.prog.funcs[f]? = some fn) {ws : List W} {x : V} (hx : x.bnd 0 = true) (hr : rngW ws) (hb : bndW 0 ws = true)
    (h : walkg F n fn ws [] fun y _ => y = x) (σ : Sg) (w : World) (hg : GW G1 w) : Calls Tryd.prog f (ws.map (W.den σ)).toArray w fun e w' => ∃ v, e = .returned v ∧ x.rep σ v ∧ Below w.heap.size w w' :=
  walkg_ro (R := []) hF hf hx hr hb h nil_okB σ w (fun j b hj => by simp at hj) hg
theorem walkg_true_ro {F : Fns} (hF : FnsOk Tryd.prog F G1) {n : Nat} {f : FuncId} {fn : Func} (hf : Tryd.prog.funcs[f]? = some fn) {ws : List W} {R : List Blk} (hr : rngW ws) (hb : bndW R.length ws = true)
    (h : walkg F n fn ws R fun y _ => y = .w (.c (.cb true))) (hR : HOk R) (σ : Sg) (w : World) (hro : ∀ (j : Nat) (b : Blk), R[j]? = some b → b.mine = false ∧ b.rep σ w.heap.size w j) (hg : GW G1 w) :
    Calls Tryd.prog f (ws.map (W.den σ)).toArray w fun e w' => e = .returned (.bool true) ∧ Below w.heap.size w w' := by
  refine (walkg_ro hF hf rfl hr hb h hR σ w hro hg).mono ?_
  rintro e w' ⟨v, rfl, h1, h2⟩
  exact ⟨by rw [show v = _ from h1]; rfl, h2⟩
theorem walkg_true {F : Fns} (hF : FnsOk Tryd.prog F G1) {n : Nat} {f : FuncId} {fn : Func} (hf : Tryd.prog.funcs[f]? = some fn) {ws : List W} (hr : rngW ws) (hb : bndW 0 ws = true)
    (h : walkg F n fn ws [] fun y _ => y = .w (.c (.cb true))) (w : World) (hg : GW G1 w) : Calls Tryd.prog f (ws.map (W.den fun _ => (0, 0))).toArray w fun e w' => e = .returned (.bool true) ∧ Below w.heap.size w w' :=
  walkg_true_ro (R := []) hF hf hr hb h nil_okB (fun _ => (0, 0)) w (fun j b hj => by simp at hj) hg
theorem walkg_lift {F : Fns} (hF : FnsOk Tryd.prog F G1) {n : Nat} {f : FuncId} {fn : Func} (hf : Tryd.prog.funcs[f]? = some fn) {ws ws' : List W} {R : List Blk} {P0 : V → List Blk → Prop} (hR : HOk R) (hr : rngW ws) (hb : bndW R.length ws = true) (h : walkg F n fn ws R (Made P0))
    (hm : ∀ x N, P0 x N → ∀ b ∈ N, b.mine = true ∨ b = .gone) {H : List Blk} (ρ : Nat → Nat) (hro : ∀ (j : Nat) (b : Blk), R[j]? = some b → b = .gone ∨ ∃ ss, b = .ro ss ∧ ((∃ T, H[ρ j]? = some (.own T (rens ρ ss))) ∨ H[ρ j]? = some (.ro (rens ρ ss)))) (hws : ws' = renW ρ ws)
    {K : V → List Blk → Prop} (hK : ∀ x N, P0 x N → K (x.ren (sh H.length)) (H ++ N.map (Blk.ren (sh H.length)))) (ho : HOk H) (σ : Sg) (base : Nat) (w₀ w : World) (hw : Rep G1 σ base w₀ w H) :
    Calls Tryd.prog f (ws'.map (W.den σ)).toArray w (LeftG G1 σ base w₀ H.length K) := by
  subst hws
  exact call_liftG E1_ok (G := G1) (fun g ss hg => hg) (calg_ok hF n) (drwA_ok E1_ok hF mixed _ (calg_ok hF n)) hf hR hr hb h hm hro hK ho σ base w₀ w hw
theorem ctg1_ok {F : Fns} (hF : FnsOk Tryd.prog F G1) {n : Nat} {f : FuncId} {fn : Func} (hf : Tryd.prog.funcs[f]? = some fn) {pre : Int → Prop} {g : Int → Int} (hg : ∀ a, InK .i64 a → pre a → InK .i64 (g a))
    (h : ∀ a, InK .i64 a → pre a → walkg F n fn [i64 a] [] fun y _ => y = vi (g a)) : CtOkG Tryd.prog G1 f (ct1 pre g) := by
  intro ws K h' hr
  unfold ct1 at h'
  split at h'
  · rename_i a
    exact ⟨_, h'.2, ⟨hg a hr.1 h'.1, rfl⟩, walkg_calls hF hf rfl hr rfl (h a hr.1 h'.1)⟩
  · exact h'.elim
theorem F0_okg : FnsOk Tryd.prog F0 G1 := ⟨fun _ _ h => (by cases h), fun _ _ h => (by cases h), fun _ _ h => (by cases h)⟩

/-! ### bands -/
def fst (b : Int) : Int := [0, 2, 4, 8, 16].getD b.toNat 0
theorem fst_ok {b : Int} (h : 0 ≤ b ∧ b ≤ 3) : 0 ≤ fst b ∧ fst b < fst (b + 1) ∧ fst (b + 1) ≤ 16 := by
  obtain rfl | rfl | rfl | rfl : b = 0 ∨ b = 1 ∨ b = 2 ∨ b = 3 := by omega
  all_goals decide
def sizeS (b : Int) : Int := if 0 ≤ b ∧ b ≤ 3 then fst (b + 1) - fst b else 0
theorem sizeS_in (b : Int) : 0 ≤ sizeS b ∧ sizeS b ≤ 16 := by
  unfold sizeS
  split
  · rename_i h; have := fst_ok h; omega
  · omega
theorem fst_at {b : Int} : ([0, 2, 4, 8, 16] : List Int).getD (mulN b.toNat (Tryd.prog.types[3]).size) 0 = fst b := by
  have em : mulN b.toNat (Tryd.prog.types[3]).size = b.toNat := mulN1 _
  rw [em]; rfl
noncomputable def FM : Fns := F0.into 34 Tryd.f34
theorem FM_ok : FnsOk Tryd.prog FM G1 := F0_okg.into Tryd.func34 (by kernel_rfl) (by kernel_rfl)
theorem size_walk (b : Int) (hb : InK .i64 b) : walkg FM 1 Tryd.f17 [i64 b] [] fun y _ => y = vi (sizeS b) := by
  obtain ⟨b1, b2⟩ := hb
  simp only [lowK, highK] at b1 b2
  unfold sizeS
  rcases Classical.em (0 ≤ b ∧ b ≤ 3) with h | h
  · rw [if_pos h]
    have e0 := @fst_at b
    have e1 := @fst_at (b + 1)
    have em0 : mulN b.toNat (Tryd.prog.types[3]).size = b.toNat := mulN1 _
    have em1 : mulN (b + 1).toNat (Tryd.prog.types[3]).size = (b + 1).toNat := mulN1 _
    have f := fst_ok h
    repeat' ((conv => whnf); first | (refine ask_true (by omega) ?_) | (refine ask_false (by omega) ?_) | (refine ask_wrap64 (by omega) (by omega) ?_) | (refine And.intro (by omega) ?_) | (refine fun (_ : InK _ _) => ?_) | (refine ⟨by kernel_rfl, ?_⟩) | fail)
    refine vi_eq ?_
    rw [e0, e1]
  · rw [if_neg h]
    rcases Int.lt_or_le b 0 with h2 | h2
    all_goals repeat' ((conv => whnf); first | (refine ask_true (by omega) ?_) | (refine ask_false (by omega) ?_) | rfl | fail)
theorem size_ct : CtOkG Tryd.prog G1 17 (ct1 (fun _ => True) sizeS) := ctg1_ok FM_ok Tryd.func17 (fun a _ _ => by have := sizeS_in a; simp only [InK, lowK, highK]; omega) fun a h _ => size_walk a h
end Go.Proofs.YtmkdamfdlkpjdaaDoor
