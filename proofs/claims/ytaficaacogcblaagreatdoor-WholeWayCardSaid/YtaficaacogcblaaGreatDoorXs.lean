/- The base of this seat's walks: no package's variables, no equality of composite types; contracts by function; powers of two. -/
import Derived.Test.YtaficaacogcblaaGreatDoorXq
import Derived.Test.YtaficaacogcblaaGreatDoorXal
import Derived.Test.YtaficaacogcblaaGreatDoorProg
set_option linter.all false
namespace Go.Proofs.YtaficaacogcblaaGreatDoor
open Go.RowKit (Below)

def E0 : Env := ⟨fun _ => none, fun _ => none⟩
def F0 : Fns := ⟨fun _ => none, fun _ => none, fun _ => false, fun _ => none⟩
theorem E0_ok : EnvOk Tryz.prog E0 := ⟨⟨fun _ _ h => by cases h⟩, fun _ _ h => by cases h⟩
theorem F0_ok : FnsOk Tryz.prog F0 := ⟨fun _ _ h => (by cases h), fun _ _ h => (by cases h), fun _ _ h => (by cases h)⟩
theorem mixed : Tryz.prog.follows .mixedOrders = true := by kernel_rfl

def Fns.plus (F : Fns) (n : FuncId) (c : Ct) : Fns := ⟨fun f => match Nat.beq f n with | true => some c | false => F.ct f, F.fn, F.all, F.hc⟩
def Fns.into (F : Fns) (n : FuncId) (g : Func) : Fns := ⟨F.ct, fun f => match Nat.beq f n with | true => some g | false => F.fn f, F.all, F.hc⟩

/-- Regions that call it are walked in every order. -/
def Fns.every (F : Fns) (n : FuncId) : Fns := ⟨F.ct, F.fn, fun f => match Nat.beq f n with | true => true | false => F.all f, F.hc⟩
theorem FnsOk.every {P : Program} {F : Fns} {G : Glo} (h : FnsOk P F G) (n : FuncId) : FnsOk P (F.every n) G := ⟨h.ct, h.fn, h.hc⟩
theorem enter_of {P : Program} {f : FuncId} {fn : Func} (hf : P.funcs[f]? = some fn) (hb : fn.body.isNone = false) (hn : (fn.name == "runtime.NumGoroutine") = false) : Enter P f := by
  intro args w
  unfold callFunc
  simp only [Sem.run_bind, run_program, Result.andThen_ok, hf, hb, hn, Bool.false_eq_true, if_false, Sem.run_pure]

theorem FnsOk.plus {P : Program} {F : Fns} {G : Glo} (h : FnsOk P F G) {n : FuncId} {c : Ct} {fn : Func} (hc : CtOk P n c) (hf : P.funcs[n]? = some fn) (hb : fn.body.isNone = false) (hn : (fn.name == "runtime.NumGoroutine") = false) : FnsOk P (F.plus n c) G := by
  refine ⟨fun f c' hf' => ?_, h.fn, h.hc⟩
  simp only [Fns.plus] at hf'
  split at hf'
  · rename_i hb'
    obtain rfl := Nat.eq_of_beq_eq_true hb'
    cases hf'
    exact ⟨hc.g G, enter_of hf hb hn⟩
  · exact h.ct f c' hf'
theorem FnsOk.plusG {P : Program} {F : Fns} {G : Glo} (h : FnsOk P F G) {n : FuncId} {c : Ct} {fn : Func} (hc : CtOkG P G n c) (hf : P.funcs[n]? = some fn) (hb : fn.body.isNone = false) (hn : (fn.name == "runtime.NumGoroutine") = false) : FnsOk P (F.plus n c) G := by
  refine ⟨fun f c' hf' => ?_, h.fn, h.hc⟩
  simp only [Fns.plus] at hf'
  split at hf'
  · rename_i hb'
    obtain rfl := Nat.eq_of_beq_eq_true hb'
    cases hf'
    exact ⟨hc, enter_of hf hb hn⟩
  · exact h.ct f c' hf'
theorem FnsOk.into {P : Program} {F : Fns} {G : Glo} (h : FnsOk P F G) {n : FuncId} {fn : Func} (hf : P.funcs[n]? = some fn) (hb : fn.body.isNone = false) (hn : (fn.name == "runtime.NumGoroutine") = false) : FnsOk P (F.into n fn) G := by
  refine ⟨h.ct, fun f c' hf' => ?_, h.hc⟩
  simp only [Fns.into] at hf'
  split at hf'
  · rename_i hb'
    obtain rfl := Nat.eq_of_beq_eq_true hb'
    cases hf'
    exact ⟨hf, enter_of hf hb hn⟩
  · exact h.fn f c' hf'

/-- A contract over blocks. -/
def Fns.over (F : Fns) (n : FuncId) (g : HCt) : Fns := ⟨F.ct, F.fn, F.all, fun f => match Nat.beq f n with | true => some g | false => F.hc f⟩
theorem FnsOk.over {P : Program} {F : Fns} {G : Glo} (h : FnsOk P F G) {n : FuncId} {g : HCt} {fn : Func} (hg : HCtOk P n g) (hf : P.funcs[n]? = some fn) (hb : fn.body.isNone = false) (hn : (fn.name == "runtime.NumGoroutine") = false) : FnsOk P (F.over n g) G := by
  refine ⟨h.ct, h.fn, fun f c' hf' => ?_⟩
  simp only [Fns.over] at hf'
  split at hf'
  · rename_i hb'
    obtain rfl := Nat.eq_of_beq_eq_true hb'
    cases hf'
    exact ⟨fun ws H K h' hr hb ho σ base w₀ w hw => hg ws H K h' hr hb ho G σ base w₀ w hw, enter_of hf hb hn⟩
  · exact h.hc f c' hf'

theorem FnsOk.overG {P : Program} {F : Fns} {G : Glo} (h : FnsOk P F G) {n : FuncId} {g : HCt} {fn : Func} (hg : HCtOkG P G n g) (hf : P.funcs[n]? = some fn) (hb : fn.body.isNone = false) (hn : (fn.name == "runtime.NumGoroutine") = false) : FnsOk P (F.over n g) G := by
  refine ⟨h.ct, h.fn, fun f c' hf' => ?_⟩
  simp only [Fns.over] at hf'
  split at hf'
  · rename_i hb'
    obtain rfl := Nat.eq_of_beq_eq_true hb'
    cases hf'
    exact ⟨hg, enter_of hf hb hn⟩
  · exact h.hc f c' hf'

/-- A function's walk, over no blocks. -/
abbrev walk (F : Fns) (n : Nat) (fn : Func) (ws : List W) (H : List Blk) (K : V → List Blk → Prop) : Prop := xfun Tryz.prog E0 (calF Tryz.prog E0 F (drwA Tryz.prog E0 F) n) (drwA Tryz.prog E0 F (calF Tryz.prog E0 F (drwA Tryz.prog E0 F) n)) fn ws H K
theorem walk_calls {F : Fns} (hF : FnsOk Tryz.prog F) {n : Nat} {f : FuncId} {fn : Func} (hf : Tryz.prog.funcs[f]? = some fn) {ws : List W} {x : V} (hx : x.bnd 0 = true) (hr : rngW ws) (hb : bndW 0 ws = true)
    (h : walk F n fn ws [] fun y _ => y = x) (σ : Sg) (w : World) : Calls Tryz.prog f (ws.map (W.den σ)).toArray w fun e w' => ∃ v, e = .returned v ∧ x.rep σ v ∧ Below w.heap.size w w' :=
  call_of E0_ok (fun _ => rfl) (calF_ok E0_ok hF (fun cal hc => drwA_ok E0_ok hF mixed cal hc) n) (drwA_ok E0_ok hF mixed _ (calF_ok E0_ok hF (fun cal hc => drwA_ok E0_ok hF mixed cal hc) n)) hf hx hr hb h σ w
/-- The same, where the call's value is a truth value and the arguments are values without blocks. -/
theorem walk_true {F : Fns} (hF : FnsOk Tryz.prog F) {n : Nat} {f : FuncId} {fn : Func} (hf : Tryz.prog.funcs[f]? = some fn) {ws : List W} (hr : rngW ws) (hb : bndW 0 ws = true)
    (h : walk F n fn ws [] fun y _ => y = .w (.c (.cb true))) (w : World) : Calls Tryz.prog f (ws.map (W.den fun _ => (0, 0))).toArray w fun e w' => e = .returned (.bool true) ∧ Below w.heap.size w w' := by
  refine (walk_calls hF hf rfl hr hb h (fun _ => (0, 0)) w).mono ?_
  rintro e w' ⟨v, rfl, h1, h2⟩
  exact ⟨by rw [show v = _ from h1]; rfl, h2⟩

/-- The same over blocks that were handed in and are only read. -/
theorem walk_true_ro {F : Fns} (hF : FnsOk Tryz.prog F) {n : Nat} {f : FuncId} {fn : Func} (hf : Tryz.prog.funcs[f]? = some fn) {ws : List W} {R : List Blk} (hr : rngW ws) (hb : bndW R.length ws = true)
    (h : walk F n fn ws R fun y _ => y = .w (.c (.cb true))) (hR : HOk R) (σ : Sg) (w : World) (hro : ∀ (j : Nat) (b : Blk), R[j]? = some b → b.mine = false ∧ b.rep σ w.heap.size w j) :
    Calls Tryz.prog f (ws.map (W.den σ)).toArray w fun e w' => e = .returned (.bool true) ∧ Below w.heap.size w w' := by
  refine (call_ro E0_ok (fun _ => rfl) (calF_ok E0_ok hF (fun cal hc => drwA_ok E0_ok hF mixed cal hc) n) (drwA_ok E0_ok hF mixed _ (calF_ok E0_ok hF (fun cal hc => drwA_ok E0_ok hF mixed cal hc) n)) hf rfl hr hb h hR σ w hro).mono ?_
  rintro e w' ⟨v, rfl, h1, h2⟩
  exact ⟨by rw [show v = _ from h1]; rfl, h2⟩

/-- A walk over blocks that are only read, used over more blocks. -/
theorem walk_lift {F : Fns} (hF : FnsOk Tryz.prog F) {n : Nat} {f : FuncId} {fn : Func} (hf : Tryz.prog.funcs[f]? = some fn) {ws ws' : List W} {R : List Blk} {P0 : V → List Blk → Prop} (hR : HOk R) (hr : rngW ws) (hb : bndW R.length ws = true) (h : walk F n fn ws R (Made P0))
    (hm : ∀ x N, P0 x N → ∀ b ∈ N, b.mine = true ∨ b = .gone) {H : List Blk} (ρ : Nat → Nat) (hro : ∀ (j : Nat) (b : Blk), R[j]? = some b → b = .gone ∨ ∃ ss, b = .ro ss ∧ ((∃ T, H[ρ j]? = some (.own T (rens ρ ss))) ∨ H[ρ j]? = some (.ro (rens ρ ss)))) (hws : ws' = renW ρ ws)
    {K : V → List Blk → Prop} (hK : ∀ x N, P0 x N → K (x.ren (sh H.length)) (H ++ N.map (Blk.ren (sh H.length)))) (ho : HOk H) (G : Glo) (σ : Sg) (base : Nat) (w₀ w : World) (hw : Rep G σ base w₀ w H) :
    Calls Tryz.prog f (ws'.map (W.den σ)).toArray w (LeftG G σ base w₀ H.length K) := by
  subst hws
  exact call_lift E0_ok (fun _ => rfl) (calF_ok E0_ok hF (fun cal hc => drwA_ok E0_ok hF mixed cal hc) n) (drwA_ok E0_ok hF mixed _ (calF_ok E0_ok hF (fun cal hc => drwA_ok E0_ok hF mixed cal hc) n)) hf hR hr hb h hm hro hK ho G σ base w₀ w hw

abbrev i64 (x : Int) : W := .c (.ci .i64 x)
abbrev u8 (x : Int) : W := .c (.ci .u8 x)
abbrev u32 (x : Int) : W := .c (.ci .u32 x)
abbrev u64 (x : Int) : W := .c (.ci .u64 x)
abbrev vi (x : Int) : V := .w (.c (.ci .i64 x))
abbrev vb (b : Bool) : V := .w (.c (.cb b))

/-- Contracts over integers of the kind int: a condition, and the answer. -/
def ct0 (x : V) : Ct := fun ws K => match ws with
  | [] => K x
  | _ => False
def ct1 (pre : Int → Prop) (f : Int → Int) : Ct := fun ws K => match ws with
  | [.c (.ci .i64 a)] => pre a ∧ K (vi (f a))
  | _ => False
def ct2 (pre : Int → Int → Prop) (f : Int → Int → Int) : Ct := fun ws K => match ws with
  | [.c (.ci .i64 a), .c (.ci .i64 b)] => pre a b ∧ K (vi (f a b))
  | _ => False

theorem ct0_ok {F : Fns} (hF : FnsOk Tryz.prog F) {n : Nat} {f : FuncId} {fn : Func} (hf : Tryz.prog.funcs[f]? = some fn) {x : V} (hx : x.ok 0) (h : walk F n fn [] [] fun y _ => y = x) : CtOk Tryz.prog f (ct0 x) := by
  intro ws K h' hr
  unfold ct0 at h'
  split at h'
  · exact ⟨_, h', hx, walk_calls hF hf hx.2 trivial rfl h⟩
  · exact h'.elim
theorem ct1_ok {F : Fns} (hF : FnsOk Tryz.prog F) {n : Nat} {f : FuncId} {fn : Func} (hf : Tryz.prog.funcs[f]? = some fn) {pre : Int → Prop} {g : Int → Int} (hg : ∀ a, InK .i64 a → pre a → InK .i64 (g a))
    (h : ∀ a, InK .i64 a → pre a → walk F n fn [i64 a] [] fun y _ => y = vi (g a)) : CtOk Tryz.prog f (ct1 pre g) := by
  intro ws K h' hr
  unfold ct1 at h'
  split at h'
  · rename_i a
    exact ⟨_, h'.2, ⟨hg a hr.1 h'.1, rfl⟩, walk_calls hF hf rfl hr rfl (h a hr.1 h'.1)⟩
  · exact h'.elim
theorem ct2_ok {F : Fns} (hF : FnsOk Tryz.prog F) {n : Nat} {f : FuncId} {fn : Func} (hf : Tryz.prog.funcs[f]? = some fn) {pre : Int → Int → Prop} {g : Int → Int → Int} (hg : ∀ a b, InK .i64 a → InK .i64 b → pre a b → InK .i64 (g a b))
    (h : ∀ a b, InK .i64 a → InK .i64 b → pre a b → walk F n fn [i64 a, i64 b] [] fun y _ => y = vi (g a b)) : CtOk Tryz.prog f (ct2 pre g) := by
  intro ws K h' hr
  unfold ct2 at h'
  split at h'
  · rename_i a b
    exact ⟨_, h'.2, ⟨hg a b hr.1 hr.2.1 h'.1, rfl⟩, walk_calls hF hf rfl hr rfl (h a b hr.1 hr.2.1 h'.1)⟩
  · exact h'.elim

/-- A value that nothing unfolds: neither the tactics nor the checker. -/
@[irreducible] noncomputable def sealed {α : Type} (a : α) : α := Classical.choose (⟨a, rfl⟩ : ∃ x : α, x = a)
theorem sealed_eq {α : Type} (a : α) : sealed a = a := by unfold sealed; exact Classical.choose_spec (⟨a, rfl⟩ : ∃ x : α, x = a)

/-- Two to a power. -/
@[irreducible] noncomputable def pw (n : Int) : Int := sealed (fun n : Int => (2 : Int) ^ n.toNat) n
theorem pw_def (n : Int) : pw n = 2 ^ n.toNat := by unfold pw; rw [sealed_eq]
theorem pw_pos (n : Int) : 1 ≤ pw n := by
  simp only [pw_def]
  have : (0 : Int) < 2 ^ n.toNat := Int.pow_pos (by decide)
  omega
theorem pw_zero {n : Int} (h : n ≤ 0) : pw n = 1 := by
  simp only [pw_def]
  rw [show n.toNat = 0 by omega]; rfl
theorem pw_succ {n : Int} (h : 0 ≤ n) : pw (n + 1) = 2 * pw n := by
  simp only [pw_def]
  rw [show (n + 1).toNat = n.toNat + 1 by omega, Int.pow_succ, Int.mul_comm]
theorem pw_mono {a b : Int} (h : a ≤ b) : pw a ≤ pw b := by
  simp only [pw_def]
  have := Nat.pow_le_pow_right (n := 2) (by decide) (show a.toNat ≤ b.toNat by omega)
  have e1 : ((2 ^ a.toNat : Nat) : Int) = 2 ^ a.toNat := by simp
  have e2 : ((2 ^ b.toNat : Nat) : Int) = 2 ^ b.toNat := by simp
  omega
theorem pw_add {a b : Int} (ha : 0 ≤ a) (hb : 0 ≤ b) : pw (a + b) = pw a * pw b := by
  simp only [pw_def]
  rw [show (a + b).toNat = a.toNat + b.toNat by omega, Int.pow_add]
theorem pw62 {n : Int} (h : n ≤ 62) : pw n ≤ 4611686018427387904 := by
  have := pw_mono h
  have e : pw 62 = 4611686018427387904 := by rw [pw_def]; decide
  omega
theorem pw_lt {a b : Int} (h : a < b) (hb : 0 < b) : 2 * pw a ≤ pw b := by
  rcases Int.lt_or_le a 0 with h0 | h0
  · have e := pw_zero (n := a) (by omega)
    have := pw_mono (a := 1) (b := b) (by omega)
    have e1 : pw 1 = 2 := by rw [pw_def]; decide
    omega
  · have := pw_mono (a := a + 1) (b := b) (by omega)
    rw [pw_succ h0] at this
    exact this
/-- Go's rest lies below its number. -/
theorem tmod_bound {a b : Int} (h : 0 < b) : -b < a.tmod b ∧ a.tmod b < b := by
  rcases Int.lt_or_le a 0 with hn | hp
  · have e : a.tmod b = -((-a).tmod b) := by rw [Int.neg_tmod]; omega
    rw [e, Int.tmod_eq_emod_of_nonneg (by omega)]
    have h1 := Int.emod_nonneg (-a) (b := b) (by omega)
    have h2 := Int.emod_lt_of_pos (-a) h
    omega
  · rw [Int.tmod_eq_emod_of_nonneg hp]
    have h1 := Int.emod_nonneg a (b := b) (by omega)
    have h2 := Int.emod_lt_of_pos a h
    omega
/-- Go's shift to the left of a number, within its kind. -/
theorem shl64 {x n : Int} (h0 : 0 ≤ n) (hn : n ≤ 62) (h1 : -9223372036854775808 ≤ x * pw n) (h2 : x * pw n ≤ 9223372036854775807) {K : Int → Prop} (hk : K (x * pw n)) : ∀ r, r = IntKind.i64.wrap (x * 2 ^ (min n.toNat IntKind.i64.bits)) → K r := by
  have e : (2 : Int) ^ (min n.toNat IntKind.i64.bits) = pw n := by
    simp only [pw_def]
    rw [show min n.toNat IntKind.i64.bits = n.toNat by simp [IntKind.bits]; omega]
  rw [e]
  exact ask_wrap64 h1 h2 hk
theorem fdiv_ediv {x : Int} (m : Nat) : x.fdiv (2 ^ m) = x / 2 ^ m := Int.fdiv_eq_ediv_of_nonneg _ (Int.le_of_lt (Int.pow_pos (by decide)))
/-- Go's shift to the right: the quotient, rounded down. -/
theorem shr64 {x n : Int} (hn : n ≤ 63) {K : Int → Prop} (hk : K (x / pw n)) : ∀ r, r = x.fdiv (2 ^ (min n.toNat IntKind.i64.bits)) → K r := by
  have e : (2 : Int) ^ (min n.toNat IntKind.i64.bits) = pw n := by
    simp only [pw_def]
    rw [show min n.toNat IntKind.i64.bits = n.toNat by simp [IntKind.bits]; omega]
  rintro r rfl
  rw [fdiv_ediv, e]; exact hk
theorem shrU64 {x n : Int} (hn : n ≤ 63) {K : Int → Prop} (hk : K (x / pw n)) : ∀ r, r = x.fdiv (2 ^ (min n.toNat IntKind.u64.bits)) → K r := by
  have e : (2 : Int) ^ (min n.toNat IntKind.u64.bits) = pw n := by
    simp only [pw_def]
    rw [show min n.toNat IntKind.u64.bits = n.toNat by simp [IntKind.bits]; omega]
  rintro r rfl
  rw [fdiv_ediv, e]; exact hk

theorem ofInt_toNat {w : Nat} (x : Int) : ((BitVec.ofInt w x).toNat : Int) = x % (2 ^ w : Nat) := by
  rw [BitVec.toNat_ofInt]
  exact Int.toNat_of_nonneg (Int.emod_nonneg _ (by have := Nat.two_pow_pos w; omega))
/-- And with a mask of low bits: the rest. -/
theorem and_mask {k : IntKind} {x : Int} (m : Nat) (hm : m < k.bits) (hk : InK k ((2 : Int) ^ m - 1)) : bitsI .and k x (2 ^ m - 1) = x % 2 ^ m := by
  unfold bitsI
  simp only
  have hp : (0 : Int) < 2 ^ m := Int.pow_pos (by decide)
  have hlt : (2 : Int) ^ m ≤ ((2 ^ k.bits : Nat) : Int) := by
    have := Nat.pow_le_pow_right (n := 2) (by decide) (Nat.le_of_lt hm)
    have e : ((2 ^ m : Nat) : Int) = 2 ^ m := by simp
    omega
  have e1 : (BitVec.ofInt k.bits ((2 : Int) ^ m - 1)).toNat = 2 ^ m - 1 := by
    have h := ofInt_toNat (w := k.bits) ((2 : Int) ^ m - 1)
    rw [Int.emod_eq_of_lt (by omega) (by omega)] at h
    have e : ((2 ^ m : Nat) : Int) = 2 ^ m := by simp
    have h2 := Nat.two_pow_pos m
    omega
  have e2 : ((BitVec.ofInt k.bits x &&& BitVec.ofInt k.bits ((2 : Int) ^ m - 1)).toNat : Int) = x % 2 ^ m := by
    rw [BitVec.toNat_and, e1, Nat.and_two_pow_sub_one_eq_mod]
    have h := ofInt_toNat (w := k.bits) x
    rw [Int.natCast_emod, h]
    have e : ((2 ^ m : Nat) : Int) = 2 ^ m := by simp
    rw [e, Int.emod_emod_of_dvd]
    rw [← e]
    exact Int.natCast_dvd_natCast.2 (Nat.pow_dvd_pow 2 (Nat.le_of_lt hm))
  rw [e2]
  have h3 := Int.emod_nonneg x (show (2 : Int) ^ m ≠ 0 by omega)
  have h4 := Int.emod_lt_of_pos x hp
  refine wrap_of_in ⟨?_, ?_⟩
  · have : lowK k ≤ 0 := by cases k <;> simp [lowK]
    omega
  · have := hk.2; omega

end Go.Proofs.YtaficaacogcblaaGreatDoor
