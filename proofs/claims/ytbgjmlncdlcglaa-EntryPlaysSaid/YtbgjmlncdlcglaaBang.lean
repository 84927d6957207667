/- Chapter angle: cosines and sines. -/
import Derived.Test.YtbgjmlncdlcglaaBt
set_option linter.all false
namespace Go.Proofs.Ytbgjmlncdlcglaa
open Go.RowKit (Below)
set_option maxRecDepth 100000
set_option maxHeartbeats 32000000

/-- What the code reckons, for 0 to 16. -/
def cosR (u : Int) : Int :=
  let x := u * 105414357 / 2
  let y := x * x / 1073741824
  let q := y * y / 1073741824
  1073741824 - y / 2 + y * y / 25769803776 - q * y / 773094113280 + q * q / 43293270343680
def sinR (u : Int) : Int :=
  let x := u * 105414357 / 2
  let y := x * x / 1073741824
  let q := y * y / 1073741824
  x - x * y / 6442450944 + x * q / 128849018880 - x * (q * y / 1073741824) / 5411658792960
def toldR (x : Int) : Int := (x + 16384) / 32768
def cos16 (u : Int) : Int := if 16 < u then toldR (sinR (32 - u)) else toldR (cosR u)
def cosRound (u : Int) : Int :=
  let v := if 64 < u then 128 - u else u
  if 32 < v then -cos16 (64 - v) else cos16 v
@[irreducible] noncomputable def cosB : Int → Int := sealed cosR
@[irreducible] noncomputable def sinB : Int → Int := sealed sinR
theorem cosB_def (u : Int) : cosB u = cosR u := by unfold cosB; rw [sealed_eq]
theorem sinB_def (u : Int) : sinB u = sinR u := by unfold sinB; rw [sealed_eq]
@[irreducible] noncomputable def cosS : Int → Int := sealed fun u => cosRound (u % 128)
theorem cosS_def (u : Int) : cosS u = cosRound (u % 128) := by unfold cosS; rw [sealed_eq]

/-- What holds for all numbers below another one holds for a whole number within. -/
theorem fin_all {p : Int → Bool} {m : Nat} (h : (List.range m).all (fun k => p k) = true) {u : Int} (h0 : 0 ≤ u) (h1 : u < m) : p u = true := by
  have := List.all_eq_true.1 h u.toNat (List.mem_range.2 (by omega))
  rwa [Int.toNat_of_nonneg h0] at this

theorem mul_bound {a b m n : Int} (h1 : 0 ≤ a) (h2 : a ≤ m) (h3 : 0 ≤ b) (h4 : b ≤ n) : 0 ≤ a * b ∧ a * b ≤ m * n := by
  have := prod_bound (a := a) (b := b) (m := m) (n := n) (by omega) h2 (by omega) h4
  exact ⟨Int.mul_nonneg h1 h3, this.2⟩
/-- A contract that names the answer. -/
def ct1e (pre : Int → Prop) (f : Int → Int) : Ct := fun ws K => match ws with
  | [.c (.ci .i64 a)] => pre a ∧ ∀ r, r = f a → K (vi r)
  | _ => False
def ct2e (pre : Int → Int → Prop) (f : Int → Int → Int) : Ct := fun ws K => match ws with
  | [.c (.ci .i64 a), .c (.ci .i64 b)] => pre a b ∧ ∀ r, r = f a b → K (vi r)
  | _ => False
theorem ct1e_ok {F : Fns} (hF : FnsOk Try.prog F) {n : Nat} {f : FuncId} {fn : Func} (hf : Try.prog.funcs[f]? = some fn) {pre : Int → Prop} {g : Int → Int} (hg : ∀ a, InK .i64 a → pre a → InK .i64 (g a))
    (h : ∀ a, InK .i64 a → pre a → walk F n fn [i64 a] [] fun y _ => y = vi (g a)) : CtOk Try.prog f (ct1e pre g) := by
  intro ws K h' hr
  unfold ct1e at h'
  split at h'
  · rename_i a
    exact ⟨_, h'.2 _ rfl, ⟨hg a hr.1 h'.1, rfl⟩, walk_calls hF hf rfl hr rfl (h a hr.1 h'.1)⟩
  · exact h'.elim
theorem ct2e_ok {F : Fns} (hF : FnsOk Try.prog F) {n : Nat} {f : FuncId} {fn : Func} (hf : Try.prog.funcs[f]? = some fn) {pre : Int → Int → Prop} {g : Int → Int → Int} (hg : ∀ a b, InK .i64 a → InK .i64 b → pre a b → InK .i64 (g a b))
    (h : ∀ a b, InK .i64 a → InK .i64 b → pre a b → walk F n fn [i64 a, i64 b] [] fun y _ => y = vi (g a b)) : CtOk Try.prog f (ct2e pre g) := by
  intro ws K h' hr
  unfold ct2e at h'
  split at h'
  · rename_i a b
    exact ⟨_, h'.2 _ rfl, ⟨hg a b hr.1 hr.2.1 h'.1, rfl⟩, walk_calls hF hf rfl hr rfl (h a b hr.1 hr.2.1 h'.1)⟩
  · exact h'.elim

def byOk (a b : Int) : Prop := 0 ≤ a ∧ a ≤ 2147483648 ∧ 0 ≤ b ∧ b ≤ 2147483648
def byV (a b : Int) : Int := a * b / 1073741824
theorem by_walk (a b : Int) (ha : InK .i64 a) (hb : InK .i64 b) (h : byOk a b) : walk F0 0 Try.f113 [i64 a, i64 b] [] fun y _ => y = vi (a * b / 1073741824) := by
  have := mul_bound h.1 h.2.1 h.2.2.1 h.2.2.2
  conv => whnf
  refine ask_wrap64 (by omega) (by omega) ?_
  conv => whnf
  refine ⟨by omega, ask_is (f := _ / 1073741824) (fdiv_ediv 30) ?_⟩
  repeat' ((conv => whnf); first | (refine ask_wrap64 (by omega) (by omega) ?_) | (refine ask_true (by omega) ?_) | (refine ask_false (by omega) ?_) | (refine ⟨trivial, ?_⟩) | (refine ⟨by omega, ?_⟩) | (refine fun (_ : InK _ _) => ?_) | (refine ⟨by kernel_rfl, ?_⟩) | (refine ask_wrapu8 (by omega) (by omega) ?_) | (refine ask_wrapu64 (by omega) (by omega) ?_) | (refine ask_true (show (_ : Bool) = _ from rfl) ?_) | (refine ask_false (show ¬ ((_ : Bool) = _) from Bool.noConfusion) ?_) | fail)
  rfl
theorem by_ct : CtOk Try.prog 113 (ct2e byOk byV) := ct2e_ok F0_ok Try.func113 (fun a b _ _ h => by
  have := mul_bound h.1 h.2.1 h.2.2.1 h.2.2.2
  simp only [InK, lowK, highK, byV]
  omega) fun a b ha hb h => by_walk a b ha hb h
def FA : Fns := (F0.plus 113 (ct2e byOk byV)).plus 70 (ct2 (fun _ _ => True) shiftS)
theorem FA_ok : FnsOk Try.prog FA := (F0_ok.plus by_ct Try.func113 (by kernel_rfl) (by kernel_rfl)).plus shift_ct Try.func70 (by kernel_rfl) (by kernel_rfl)

theorem ask_quo {a b : Int} {K : Int → Prop} (h : 0 ≤ a) (hb : 0 < b) (ha : a ≤ 9223372036854775807) (hk : K (a / b)) : ∀ r, r = IntKind.i64.wrap (a.tdiv b) → K r := by
  have h1 := Int.ediv_nonneg (a := a) (b := b) h (by omega)
  have h2 := Int.ediv_le_self (a := a) b h
  exact ask_wrap64' (Int.tdiv_eq_ediv_of_nonneg h) (by omega) (by omega) hk

theorem cosine_walk (u : Int) (hu : InK .i64 u) (h : 0 ≤ u ∧ u ≤ 16) : walk FA 0 Try.f111 [i64 u] [] fun y _ => y = vi (cosB u) := by
  rw [cosB_def]
  conv => whnf
  refine ask_wrap64 (by omega) (by omega) ?_
  conv => whnf
  refine ⟨by omega, fun x ex => ?_⟩
  replace ex : x = u * 105414357 / 2 := ex.trans (fdiv_ediv 1)
  have x0 : 0 ≤ x ∧ x ≤ 843314856 := by omega
  have xx := mul_bound x0.1 x0.2 x0.1 x0.2
  conv => whnf
  refine ⟨⟨by omega, by omega, by omega, by omega⟩, fun y ey => ?_⟩
  simp only [byV] at ey
  have y0 : 0 ≤ y ∧ y ≤ 662337938 := by omega
  have yy := mul_bound y0.1 y0.2 y0.1 y0.2
  conv => whnf
  refine ⟨⟨by omega, by omega, by omega, by omega⟩, fun q eq => ?_⟩
  simp only [byV] at eq
  have q0 : 0 ≤ q ∧ q ≤ 408563338 := by omega
  have qq := mul_bound q0.1 q0.2 q0.1 q0.2
  have qy := mul_bound q0.1 q0.2 y0.1 y0.2
  have e : cosR u = 1073741824 - y / 2 + y * y / 25769803776 - q * y / 773094113280 + q * q / 43293270343680 := by
    unfold cosR; simp only; rw [← ex, ← ey, ← eq]
  rw [e]
  clear e ex ey eq
  conv => whnf
  refine ⟨by omega, ask_is (f := y / 2) (fdiv_ediv 1) ?_⟩
  repeat' ((conv => whnf); first | (refine ask_wrap64 (by omega) (by omega) ?_) | (refine ⟨by omega, ask_quo (by omega) (by omega) (by omega) ?_⟩) | rfl | fail)
theorem sine_walk (u : Int) (hu : InK .i64 u) (h : 0 ≤ u ∧ u ≤ 16) : walk FA 0 Try.f110 [i64 u] [] fun y _ => y = vi (sinB u) := by
  rw [sinB_def]
  conv => whnf
  refine ask_wrap64 (by omega) (by omega) ?_
  conv => whnf
  refine ⟨by omega, fun x ex => ?_⟩
  replace ex : x = u * 105414357 / 2 := ex.trans (fdiv_ediv 1)
  have x0 : 0 ≤ x ∧ x ≤ 843314856 := by omega
  have xx := mul_bound x0.1 x0.2 x0.1 x0.2
  conv => whnf
  refine ⟨⟨by omega, by omega, by omega, by omega⟩, fun y ey => ?_⟩
  simp only [byV] at ey
  have y0 : 0 ≤ y ∧ y ≤ 662337938 := by omega
  have yy := mul_bound y0.1 y0.2 y0.1 y0.2
  conv => whnf
  refine ⟨⟨by omega, by omega, by omega, by omega⟩, fun q eq => ?_⟩
  simp only [byV] at eq
  have q0 : 0 ≤ q ∧ q ≤ 408563338 := by omega
  have qy := mul_bound q0.1 q0.2 y0.1 y0.2
  have xy := mul_bound x0.1 x0.2 y0.1 y0.2
  have xq := mul_bound x0.1 x0.2 q0.1 q0.2
  have e : sinR u = x - x * y / 6442450944 + x * q / 128849018880 - x * (q * y / 1073741824) / 5411658792960 := by
    unfold sinR; simp only; rw [← ex, ← ey, ← eq]
  rw [e]
  clear e ex ey eq
  repeat' ((conv => whnf); first | (refine ask_wrap64 (by omega) (by omega) ?_) | (refine ⟨by omega, ask_quo (by omega) (by omega) (by omega) ?_⟩) | fail)
  conv => whnf
  refine ⟨⟨by omega, by omega, by omega, by omega⟩, fun p ep => ?_⟩
  simp only [byV] at ep
  have p0 : 0 ≤ p ∧ p ≤ 252022406 := by omega
  have xp := mul_bound x0.1 x0.2 p0.1 p0.2
  rw [← ep]
  repeat' ((conv => whnf); first | (refine ask_wrap64 (by omega) (by omega) ?_) | (refine ⟨by omega, ask_quo (by omega) (by omega) (by omega) ?_⟩) | rfl | fail)

theorem cosB_in {u : Int} (h : 0 ≤ u ∧ u ≤ 16) : 0 ≤ cosB u ∧ cosB u ≤ 2147483647 := by
  rw [cosB_def]
  have := fin_all (p := fun u => decide (0 ≤ cosR u ∧ cosR u ≤ 2147483647)) (m := 17) (by decide +kernel) h.1 (by omega)
  simpa using this
theorem sinB_in {u : Int} (h : 0 ≤ u ∧ u ≤ 16) : 0 ≤ sinB u ∧ sinB u ≤ 2147483647 := by
  rw [sinB_def]
  have := fin_all (p := fun u => decide (0 ≤ sinR u ∧ sinR u ≤ 2147483647)) (m := 17) (by decide +kernel) h.1 (by omega)
  simpa using this
theorem cosine_ct : CtOk Try.prog 111 (ct1 (fun u => 0 ≤ u ∧ u ≤ 16) cosB) := ct1_ok FA_ok Try.func111 (fun a _ h => by
  have := cosB_in h
  simp only [InK, lowK, highK]; omega) fun a ha h => cosine_walk a ha h
theorem sine_ct : CtOk Try.prog 110 (ct1 (fun u => 0 ≤ u ∧ u ≤ 16) sinB) := ct1_ok FA_ok Try.func110 (fun a _ h => by
  have := sinB_in h
  simp only [InK, lowK, highK]; omega) fun a ha h => sine_walk a ha h
theorem told_walk (x : Int) (hx : InK .i64 x) (h : 0 ≤ x ∧ x ≤ 2147483647) : walk FA 0 Try.f109 [i64 x] [] fun y _ => y = vi ((x + 16384) / 32768) := by
  have e : shiftS x 15 = (x + 16384) / 32768 := by
    rw [shiftS_def, if_neg (by omega), if_neg (by omega), pw_def, pw_def]; rfl
  repeat' ((conv => whnf); first | (refine ask_wrap64 (by omega) (by omega) ?_) | (refine ask_true (by omega) ?_) | (refine ask_false (by omega) ?_) | (refine ⟨trivial, ?_⟩) | (refine ⟨by omega, ?_⟩) | (refine fun (_ : InK _ _) => ?_) | (refine ⟨by kernel_rfl, ?_⟩) | (refine ask_wrapu8 (by omega) (by omega) ?_) | (refine ask_wrapu64 (by omega) (by omega) ?_) | (refine ask_true (show (_ : Bool) = _ from rfl) ?_) | (refine ask_false (show ¬ ((_ : Bool) = _) from Bool.noConfusion) ?_) | fail)
  exact vi_eq e
theorem told_ct : CtOk Try.prog 109 (ct1 (fun x => 0 ≤ x ∧ x ≤ 2147483647) toldR) := ct1_ok FA_ok Try.func109 (fun a _ h => by
  simp only [InK, lowK, highK, toldR]; omega) fun a ha h => told_walk a ha h
def FB : Fns := (((F0.plus 111 (ct1 (fun u => 0 ≤ u ∧ u ≤ 16) cosB)).plus 110 (ct1 (fun u => 0 ≤ u ∧ u ≤ 16) sinB))).plus 109 (ct1 (fun x => 0 ≤ x ∧ x ≤ 2147483647) toldR)
theorem FB_ok : FnsOk Try.prog FB := (((F0_ok.plus cosine_ct Try.func111 (by kernel_rfl) (by kernel_rfl)).plus sine_ct Try.func110 (by kernel_rfl) (by kernel_rfl))).plus told_ct Try.func109 (by kernel_rfl) (by kernel_rfl)

theorem cosRound_bound {u : Int} (h0 : 0 ≤ u) (h1 : u < 128) : -32768 ≤ cosRound u ∧ cosRound u ≤ 32768 := by
  have := fin_all (p := fun u => decide (-32768 ≤ cosRound u ∧ cosRound u ≤ 32768)) (m := 128) (by decide +kernel) h0 h1
  simpa using this
theorem cosS_bound (u : Int) : -32768 ≤ cosS u ∧ cosS u ≤ 32768 := by
  rw [cosS_def]; exact cosRound_bound (by omega) (by omega)
theorem cosS_in (u : Int) : InK .i64 (cosS u) := by
  have := cosS_bound u
  simp only [InK, lowK, highK]; omega

theorem rem128 {u : Int} : (u.tmod 128 + 128).tmod 128 = u % 128 := by
  have := tmod_bound (a := u) (b := 128) (by decide)
  rw [Int.tmod_eq_emod_of_nonneg (by omega)]
  have e : u.tmod 128 = u - 128 * u.tdiv 128 := by have := Int.tmod_add_mul_tdiv u 128; omega
  omega

theorem cosS_mod (u : Int) : cosS u = cosS (u % 128) := by rw [cosS_def, cosS_def, Int.emod_emod]
theorem cosS_lt {u : Int} (h : 0 ≤ u) (h' : u < 128) : cosS u = cosRound u := by rw [cosS_def, Int.emod_eq_of_lt h h']
theorem cosS_back {u : Int} (h : 0 ≤ u) (h' : u < 128) (h1 : 64 < u) : cosS u = cosS (128 - u) := by
  rw [cosS_lt h h', cosS_lt (u := 128 - u) (by omega) (by omega)]
  have := fin_all (p := fun u => decide (64 < u → cosRound u = cosRound (128 - u))) (m := 128) (by decide +kernel) h h'
  exact (of_decide_eq_true this) h1
theorem cosS_neg {u : Int} (h : 0 ≤ u) (h' : u ≤ 64) (hl : 32 < u) : cosS u = 0 - cosS (64 - u) := by
  rw [cosS_lt h (by omega), cosS_lt (u := 64 - u) (by omega) (by omega)]
  have := fin_all (p := fun u => decide (32 < u → cosRound u = 0 - cosRound (64 - u))) (m := 65) (by decide +kernel) h (by omega)
  exact (of_decide_eq_true this) hl
theorem cosS_16 {u : Int} (h : 0 ≤ u) (h' : u ≤ 32) : cosS u = cos16 u := by
  rw [cosS_lt h (by omega)]
  have := fin_all (p := fun u => decide (cosRound u = cos16 u)) (m := 33) (by decide +kernel) h (by omega)
  exact of_decide_eq_true this
theorem cos32_walk (u : Int) (hu : InK .i64 u) (h : 0 ≤ u ∧ u ≤ 32) : walk FB 0 Try.f105 [i64 u] [] fun y _ => y = vi (cosS u) := by
  have e : cosS u = cos16 u := cosS_16 h.1 h.2
  have r := rem128 (u := u)
  have b := tmod_bound (a := u) (b := 128) (by decide)
  rw [e]
  conv => whnf
  refine ⟨by omega, fun s hs => ?_⟩
  rw [← hs] at r b
  conv => whnf
  refine ask_wrap64 (by omega) (by omega) ?_
  conv => whnf
  refine ⟨by omega, fun v hv => ?_⟩
  rw [← hv] at r
  have hv' : v = u := by omega
  subst hv'
  clear r b hs hv
  conv => whnf
  refine ask_false (by omega) ?_
  conv => whnf
  refine ask_false (by omega) ?_
  conv => whnf
  unfold cos16
  refine ask_split (fun h1 => ?_) (fun h1 => ?_)
  · rw [if_pos h1]
    have := sinB_in (u := 32 - v) (by omega)
    rw [← sinB_def]
    repeat' ((conv => whnf); first | (refine ask_wrap64 (by omega) (by omega) ?_) | (refine ⟨⟨by omega, by omega⟩, ?_⟩) | rfl | fail)
  · rw [if_neg h1]
    have := cosB_in (u := v) (by omega)
    rw [← cosB_def]
    repeat' ((conv => whnf); first | (refine ask_wrap64 (by omega) (by omega) ?_) | (refine ⟨⟨by omega, by omega⟩, ?_⟩) | rfl | fail)
theorem cos32_ct : CtOk Try.prog 105 (ct1 (fun u => 0 ≤ u ∧ u ≤ 32) cosS) := ct1_ok FB_ok Try.func105 (fun a _ _ => cosS_in a) fun a ha h => cos32_walk a ha h
def FC : Fns := FB.plus 105 (ct1 (fun u => 0 ≤ u ∧ u ≤ 32) cosS)
theorem FC_ok : FnsOk Try.prog FC := FB_ok.plus cos32_ct Try.func105 (by kernel_rfl) (by kernel_rfl)
theorem cos64_walk (u : Int) (hu : InK .i64 u) (h : 0 ≤ u ∧ u ≤ 64) : walk FC 0 Try.f105 [i64 u] [] fun y _ => y = vi (cosS u) := by
  rcases Int.lt_or_le 32 u with hl | hl
  · have e : cosS u = 0 - cosS (64 - u) := cosS_neg h.1 h.2 hl
    have bb := cosS_bound (64 - u)
    have r := rem128 (u := u)
    have b := tmod_bound (a := u) (b := 128) (by decide)
    rw [e]
    conv => whnf
    refine ⟨by omega, fun s hs => ?_⟩
    rw [← hs] at r b
    conv => whnf
    refine ask_wrap64 (by omega) (by omega) ?_
    conv => whnf
    refine ⟨by omega, fun v hv => ?_⟩
    rw [← hv] at r
    have hv' : v = u := by omega
    subst hv'
    clear r b hs hv
    conv => whnf
    refine ask_false (by omega) ?_
    conv => whnf
    refine ask_true (by omega) ?_
    repeat' ((conv => whnf); first | (refine ask_wrap64 (by omega) (by omega) ?_) | (refine ⟨⟨by omega, by omega⟩, ?_⟩) | rfl | fail)
  · have e : cosS u = cos16 u := cosS_16 h.1 hl
    have r := rem128 (u := u)
    have b := tmod_bound (a := u) (b := 128) (by decide)
    rw [e]
    conv => whnf
    refine ⟨by omega, fun s hs => ?_⟩
    rw [← hs] at r b
    conv => whnf
    refine ask_wrap64 (by omega) (by omega) ?_
    conv => whnf
    refine ⟨by omega, fun v hv => ?_⟩
    rw [← hv] at r
    have hv' : v = u := by omega
    subst hv'
    clear r b hs hv
    conv => whnf
    refine ask_false (by omega) ?_
    conv => whnf
    refine ask_false (by omega) ?_
    conv => whnf
    unfold cos16
    refine ask_split (fun h1 => ?_) (fun h1 => ?_)
    · rw [if_pos h1]
      have := sinB_in (u := 32 - v) (by omega)
      rw [← sinB_def]
      repeat' ((conv => whnf); first | (refine ask_wrap64 (by omega) (by omega) ?_) | (refine ⟨⟨by omega, by omega⟩, ?_⟩) | rfl | fail)
    · rw [if_neg h1]
      have := cosB_in (u := v) (by omega)
      rw [← cosB_def]
      repeat' ((conv => whnf); first | (refine ask_wrap64 (by omega) (by omega) ?_) | (refine ⟨⟨by omega, by omega⟩, ?_⟩) | rfl | fail)
theorem cos64_ct : CtOk Try.prog 105 (ct1 (fun u => 0 ≤ u ∧ u ≤ 64) cosS) := ct1_ok FC_ok Try.func105 (fun a _ _ => cosS_in a) fun a ha h => cos64_walk a ha h
def FD : Fns := FB.plus 105 (ct1 (fun u => 0 ≤ u ∧ u ≤ 64) cosS)
theorem FD_ok : FnsOk Try.prog FD := FB_ok.plus cos64_ct Try.func105 (by kernel_rfl) (by kernel_rfl)
theorem cos_walk (u : Int) (hu : InK .i64 u) : walk FD 0 Try.f105 [i64 u] [] fun y _ => y = vi (cosS u) := by
  have r := rem128 (u := u)
  have b := tmod_bound (a := u) (b := 128) (by decide)
  rw [cosS_mod]
  conv => whnf
  refine ⟨by omega, fun s hs => ?_⟩
  rw [← hs] at r b
  conv => whnf
  refine ask_wrap64 (by omega) (by omega) ?_
  conv => whnf
  refine ⟨by omega, fun v hv => ?_⟩
  rw [← hv] at r
  rw [← r]
  have v0 : 0 ≤ v ∧ v < 128 := by omega
  clear r b hs hv
  rcases Int.lt_or_le 64 v with h64 | h64
  · rw [cosS_back v0.1 v0.2 h64]
    repeat' ((conv => whnf); first | (refine ask_true (by omega) ?_) | (refine ask_wrap64 (by omega) (by omega) ?_) | (refine ⟨⟨by omega, by omega⟩, ?_⟩) | rfl | fail)
  · rcases Int.lt_or_le 32 v with h32 | h32
    · have bb := cosS_bound (64 - v)
      rw [cosS_neg v0.1 h64 h32]
      repeat' ((conv => whnf); first | (refine ask_true (by omega) ?_) | (refine ask_false (by omega) ?_) | (refine ask_wrap64 (by omega) (by omega) ?_) | (refine ⟨⟨by omega, by omega⟩, ?_⟩) | rfl | fail)
    · rw [cosS_16 v0.1 h32]
      unfold cos16
      rcases Int.lt_or_le 16 v with h1 | h1
      · rw [if_pos h1]
        have := sinB_in (u := 32 - v) (by omega)
        rw [← sinB_def]
        repeat' ((conv => whnf); first | (refine ask_true (by omega) ?_) | (refine ask_false (by omega) ?_) | (refine ask_wrap64 (by omega) (by omega) ?_) | (refine ⟨⟨by omega, by omega⟩, ?_⟩) | rfl | fail)
      · rw [if_neg (by omega)]
        have := cosB_in (u := v) (by omega)
        rw [← cosB_def]
        repeat' ((conv => whnf); first | (refine ask_true (by omega) ?_) | (refine ask_false (by omega) ?_) | (refine ask_wrap64 (by omega) (by omega) ?_) | (refine ⟨⟨by omega, by omega⟩, ?_⟩) | rfl | fail)
theorem cos_ct : CtOk Try.prog 105 (ct1 (fun _ => True) cosS) := ct1_ok FD_ok Try.func105 (fun a _ _ => cosS_in a) fun a ha _ => cos_walk a ha
def FE : Fns := F0.plus 105 (ct1 (fun _ => True) cosS)
theorem FE_ok : FnsOk Try.prog FE := F0_ok.plus cos_ct Try.func105 (by kernel_rfl) (by kernel_rfl)
@[irreducible] noncomputable def sinS (u : Int) : Int := cosS (u - 32)
theorem sin_walk (u : Int) (hu : InK .i64 u) : walk FE 0 Try.f106 [i64 u] [] fun y _ => y = vi (sinS u) := by
  have b := tmod_bound (a := u) (b := 128) (by decide)
  have e : sinS u = cosS (u.tmod 128 - 32) := by
    unfold sinS
    have e : u.tmod 128 = u - 128 * u.tdiv 128 := by have := Int.tmod_add_mul_tdiv u 128; omega
    rw [cosS_mod, cosS_mod (u.tmod 128 - 32), e]
    congr 1; omega
  rw [e]
  conv => whnf
  refine ⟨by omega, fun s hs => ?_⟩
  rw [← hs] at b ⊢
  repeat' ((conv => whnf); first | (refine ask_wrap64 (by omega) (by omega) ?_) | (refine ask_true (by omega) ?_) | (refine ask_false (by omega) ?_) | (refine ⟨trivial, ?_⟩) | (refine ⟨by omega, ?_⟩) | (refine fun (_ : InK _ _) => ?_) | (refine ⟨by kernel_rfl, ?_⟩) | (refine ask_wrapu8 (by omega) (by omega) ?_) | (refine ask_wrapu64 (by omega) (by omega) ?_) | (refine ask_true (show (_ : Bool) = _ from rfl) ?_) | (refine ask_false (show ¬ ((_ : Bool) = _) from Bool.noConfusion) ?_) | fail)
  rfl
theorem sin_ct : CtOk Try.prog 106 (ct1 (fun _ => True) sinS) := ct1_ok FE_ok Try.func106 (fun a _ _ => by unfold sinS; exact cosS_in _) fun a ha _ => sin_walk a ha
def FS : Fns := FE.plus 106 (ct1 (fun _ => True) sinS)
theorem FS_ok : FnsOk Try.prog FS := FE_ok.plus sin_ct Try.func106 (by kernel_rfl) (by kernel_rfl)
/-- A law of the cosines' own numbers, from their round. -/
theorem cos_all (p : Int → Int → Bool) (k : Int) (h : (List.range 128).all (fun v => p (cosRound (v : Int)) (cosRound (((v : Int) + k) % 128))) = true) (u : Int) : p (cosS u) (cosS (u + k)) = true := by
  have := fin_all (p := fun v => p (cosRound v) (cosRound ((v + k) % 128))) h (u := u % 128) (by omega) (by omega)
  rw [cosS_def, cosS_def]
  simpa using this
theorem cosS_shift (u k : Int) : cosS (u + k) = cosS (u % 128 + k) := by
  rw [cosS_mod, cosS_mod (u % 128 + k)]
  congr 1; omega
/-- A law over one round holds of all angles. -/
theorem round_all {p : Int → Prop} [DecidablePred p] (h : (List.range 128).all (fun k => decide (p (k : Int))) = true) (u : Int) : p (u % 128) :=
  of_decide_eq_true (fin_all (p := fun u => decide (p u)) (m := 128) h (u := u % 128) (by omega) (by omega))

end Go.Proofs.Ytbgjmlncdlcglaa
