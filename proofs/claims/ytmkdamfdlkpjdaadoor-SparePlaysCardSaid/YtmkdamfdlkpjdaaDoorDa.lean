/- Base of the chapters level and spare. -/
import Derived.Test.YtmkdamfdlkpjdaaDoorXs
import Derived.Test.YtmkdamfdlkpjdaaDoorXr
set_option linter.all false
namespace Go.Proofs.YtmkdamfdlkpjdaaDoor
open Go.RowKit (Below)
set_option maxRecDepth 100000
set_option maxHeartbeats 32000000

theorem vi_eq {a b : Int} (h : a = b) : vi a = vi b := by rw [h]
theorem ask_wrap64' {e f : Int} {K : Int → Prop} (h : e = f) (h1 : -9223372036854775808 ≤ f) (h2 : f ≤ 9223372036854775807) (hk : K f) : ∀ r, r = IntKind.i64.wrap e → K r := by
  subst h; exact ask_wrap64 h1 h2 hk

theorem prod_bound {a b m n : Int} (h1 : -m ≤ a) (h2 : a ≤ m) (h3 : -n ≤ b) (h4 : b ≤ n) : -(m * n) ≤ a * b ∧ a * b ≤ m * n := by
  have h5 : 0 ≤ (m - a) * (n - b) := Int.mul_nonneg (by omega) (by omega)
  have h6 : 0 ≤ (m + a) * (n + b) := Int.mul_nonneg (by omega) (by omega)
  have h7 : 0 ≤ (m - a) * (n + b) := Int.mul_nonneg (by omega) (by omega)
  have h8 : 0 ≤ (m + a) * (n - b) := Int.mul_nonneg (by omega) (by omega)
  simp only [Int.sub_mul, Int.mul_sub, Int.add_mul, Int.mul_add] at h5 h6 h7 h8
  constructor <;> omega

theorem pow_walk (n : Int) (hn : InK .i64 n) (h62 : n ≤ 62) : walk F0 0 Tryd.f38 [i64 n] [] fun y _ => y = vi (pw n) := by
  obtain ⟨n1, n2⟩ := hn
  simp only [lowK, highK] at n1 n2
  conv => whnf
  refine loop_at (3 :: List.range' 4 9) (fun m i => 0 ≤ i ∧ (i = 0 ∨ i ≤ n) ∧ m = (n - i).toNat) (fun i => [(3, vi (pw i)), (4, vi i)]) (fun _ => []) (n - 0).toNat (0 : Int) ⟨by omega, by omega, rfl⟩ ?_ ?_
  · exact ⟨rfl, ⟨⟨Nat.le_of_ble_eq_true rfl, vi_eq (pw_zero (Int.le_refl 0)).symm⟩, ⟨Nat.le_of_ble_eq_true rfl, rfl⟩, trivial⟩, trivial, rfl, rfl, Nat.le_refl _⟩
  · rintro m i ⟨h1, h2, rfl⟩
    have e1 := pw_pos i
    have e2 := pw62 (n := i) (by omega)
    conv => whnf
    refine ask_split (fun h3 => ?_) (fun h3 => ?_)
    · have e3 := pw62 (n := i + 1) (by omega)
      have e4 := pw_succ h1
      repeat' ((conv => whnf); first | (refine ask_wrap64 (by omega) (by omega) ?_) | (refine ask_true (by omega) ?_) | (refine ask_false (by omega) ?_) | (refine ⟨trivial, ?_⟩) | (refine ⟨by omega, ?_⟩) | (refine fun (_ : InK _ _) => ?_) | (refine ⟨by kernel_rfl, ?_⟩) | (refine ask_wrapu8 (by omega) (by omega) ?_) | (refine ask_wrapu64 (by omega) (by omega) ?_) | (refine ask_true (show (_ : Bool) = _ from rfl) ?_) | (refine ask_false (show ¬ ((_ : Bool) = _) from Bool.noConfusion) ?_) | fail)
      exact ⟨(n - (i + 1)).toNat, i + 1, by omega, ⟨by omega, by omega, rfl⟩, rfl, ⟨⟨Nat.le_of_ble_eq_true rfl, vi_eq e4.symm⟩, ⟨Nat.le_of_ble_eq_true rfl, rfl⟩, trivial⟩, trivial, rfl, rfl, Nat.le_refl _⟩
    · conv => whnf
      refine vi_eq ?_
      rcases Int.lt_or_le 0 n with h | h
      · rw [show i = n by omega]
      · rw [pw_zero h, pw_zero (n := i) (by omega)]
theorem pow_ct : CtOk Tryd.prog 38 (ct1 (fun n => n ≤ 62) pw) := ct1_ok F0_ok Tryd.func38 (fun n _ h => ⟨Int.le_trans (by decide) (pw_pos n), Int.le_trans (pw62 h) (by decide)⟩) fun n hn h => pow_walk n hn h

theorem mul_bound {a b m n : Int} (h1 : 0 ≤ a) (h2 : a ≤ m) (h3 : 0 ≤ b) (h4 : b ≤ n) : 0 ≤ a * b ∧ a * b ≤ m * n := by
  have := prod_bound (a := a) (b := b) (m := m) (n := n) (by omega) h2 (by omega) h4
  exact ⟨Int.mul_nonneg h1 h3, this.2⟩
/-- Some of a list's places have their new values. -/
def stg (zs xs : List Int) (i : Int) : List Int := zs.take i.toNat ++ xs.drop i.toNat
theorem stg_set {zs xs : List Int} {i : Int} {m : Nat} (hm : m = i.toNat) {v : Int} (h : zs.length = xs.length) (h0 : 0 ≤ i) (h1 : i < zs.length) (hv : zs.getD i.toNat 0 = v) : (stg zs xs i).set m v = stg zs xs (i + 1) := by
  subst hm hv
  have hlt : i.toNat < zs.length := by omega
  have hlt' : i.toNat < xs.length := by omega
  unfold stg
  rw [show (i + 1).toNat = i.toNat + 1 by omega]
  rw [List.set_append_right _ _ (by simp; omega)]
  have e : i.toNat - (zs.take i.toNat).length = 0 := by simp; omega
  rw [e, List.drop_eq_getElem_cons hlt', List.set_cons_zero, List.take_succ_eq_append_getElem hlt, List.append_assoc, List.singleton_append]
  congr 2
  rw [List.getD_eq_getElem?_getD, List.getElem?_eq_getElem hlt]; rfl
theorem stg_zero (zs xs : List Int) : stg zs xs 0 = xs := by simp [stg]
theorem stg_all {zs xs : List Int} (h : zs.length = xs.length) {i : Int} (hi : i = zs.length) : stg zs xs i = zs := by
  subst hi
  unfold stg
  rw [Int.toNat_natCast, List.take_length, List.drop_of_length_le (by omega), List.append_nil]
theorem getD_map {xs : List Int} {f : Int → Int} {i : Nat} (h : i < xs.length) : (xs.map f).getD i 0 = f (xs.getD i 0) := by
  simp [List.getD_eq_getElem?_getD, List.getElem?_eq_getElem h]
theorem mulN1 (n : Nat) : mulN n 1 = n := (mulN_eq n 1).trans (Nat.mul_one n)
theorem getD_range {f : Nat → Int} {m i : Nat} (h : i < m) : ((List.range m).map f).getD i 0 = f i := by
  simp [List.getD_eq_getElem?_getD, h]
def ctP (p : Int → Prop) [DecidablePred p] : Ct := fun ws K => match ws with
  | [.c (.ci .i64 a)] => ∀ τ, τ = decide (p a) → K (vb τ)
  | _ => False
theorem ctP_ok {F : Fns} (hF : FnsOk Tryd.prog F) {n : Nat} {f : FuncId} {fn : Func} (hf : Tryd.prog.funcs[f]? = some fn) {p : Int → Prop} [DecidablePred p]
    (h : ∀ a, InK .i64 a → walk F n fn [i64 a] [] fun y _ => y = vb (decide (p a))) : CtOk Tryd.prog f (ctP p) := by
  intro ws K h' hr
  unfold ctP at h'
  split at h'
  · rename_i a
    exact ⟨_, h' _ rfl, ⟨trivial, rfl⟩, walk_calls hF hf rfl hr rfl (h a hr.1)⟩
  · exact h'.elim
theorem ask_vb {p : Prop} [Decidable p] {t : Bool} (h : t = decide p) : vb t = vb (decide p) := by rw [h]
theorem mem_at {xs : List Int} {i : Nat} (h : i < xs.length) : xs.getD i 0 ∈ xs := by
  rw [List.getD_eq_getElem?_getD, List.getElem?_eq_getElem h]
  exact List.getElem_mem _
theorem all_of_at {xs : List Int} {p : Int → Prop} (h : ∀ k : Nat, k < xs.length → p (xs.getD k 0)) : ∀ x ∈ xs, p x := by
  intro x hx
  obtain ⟨k, hk, rfl⟩ := List.getElem_of_mem hx
  have := h k hk
  rwa [List.getD_eq_getElem?_getD, List.getElem?_eq_getElem hk] at this
theorem stg_at {zs xs : List Int} {i : Int} {m : Nat} (hm : m = i.toNat) (h : zs.length = xs.length) (h0 : 0 ≤ i) (h1 : i < xs.length) : (stg zs xs i).getD m 0 = xs.getD m 0 := by
  subst hm
  unfold stg
  rw [List.getD_eq_getElem?_getD, List.getD_eq_getElem?_getD, List.getElem?_append_right (by simp; omega), List.getElem?_drop]
  congr 2
  simp
  omega
theorem set_same {xs : List Int} {m : Nat} {v : Int} (h : xs.getD m 0 = v) : xs.set m v = xs := by
  apply List.ext_getElem?
  intro k
  rcases Nat.lt_or_ge m xs.length with hm | hm
  · by_cases hk : m = k
    · subst hk
      rw [List.getElem?_set_self hm, List.getElem?_eq_getElem hm, ← h, List.getD_eq_getElem?_getD, List.getElem?_eq_getElem hm]; rfl
    · rw [List.getElem?_set_ne hk]
  · rw [List.set_eq_of_length_le hm]
/-- How many binary digits a number has. -/
@[irreducible] noncomputable def lenS : Int → Int := sealed fun x => if x ≤ 0 then 0 else (Nat.log2 x.toNat : Int) + 1
theorem lenS_def (x : Int) : lenS x = if x ≤ 0 then 0 else (Nat.log2 x.toNat : Int) + 1 := by unfold lenS; rw [sealed_eq]
theorem len_zero {x : Int} (h : x ≤ 0) : lenS x = 0 := by rw [lenS_def, if_pos h]
theorem len_nonneg (x : Int) : 0 ≤ lenS x := by rw [lenS_def]; split <;> omega
theorem len_bounds {x : Int} (h : 1 ≤ x) : pw (lenS x - 1) ≤ x ∧ x < pw (lenS x) ∧ 1 ≤ lenS x := by
  rw [lenS_def, if_neg (by omega)]
  have h0 : x.toNat ≠ 0 := by omega
  have h1 := Nat.log2_self_le h0
  have h2 := Nat.lt_log2_self (n := x.toNat)
  have e1 : pw ((Nat.log2 x.toNat : Int) + 1 - 1) = ((2 ^ Nat.log2 x.toNat : Nat) : Int) := by
    rw [pw_def, show ((Nat.log2 x.toNat : Int) + 1 - 1).toNat = Nat.log2 x.toNat by omega]; simp
  have e2 : pw ((Nat.log2 x.toNat : Int) + 1) = ((2 ^ (Nat.log2 x.toNat + 1) : Nat) : Int) := by
    rw [pw_def, show ((Nat.log2 x.toNat : Int) + 1).toNat = Nat.log2 x.toNat + 1 by omega]; simp
  rw [e1, e2]
  refine ⟨by omega, by omega, by omega⟩
theorem len_uniq {x l : Int} (h1 : 1 ≤ x) (h2 : pw (l - 1) ≤ x) (h3 : x < pw l) (h4 : 1 ≤ l) : lenS x = l := by
  obtain ⟨b1, b2, b3⟩ := len_bounds h1
  rcases Int.lt_trichotomy (lenS x) l with h | h | h
  · have := pw_mono (a := lenS x) (b := l - 1) (by omega); omega
  · exact h
  · have := pw_mono (a := l) (b := lenS x - 1) (by omega); omega
theorem len_le {x l : Int} (h : x < pw l) (hl : 0 ≤ l) : lenS x ≤ l := by
  rcases Int.lt_or_le 0 x with h0 | h0
  · obtain ⟨b1, b2, b3⟩ := len_bounds (x := x) (by omega)
    rcases Int.lt_or_le l (lenS x) with hh | hh
    · have := pw_mono (a := l) (b := lenS x - 1) (by omega); omega
    · exact hh
  · rw [len_zero h0]; exact hl
theorem len_mono {x y : Int} (h : x ≤ y) : lenS x ≤ lenS y := by
  rcases Int.lt_or_le 0 y with h0 | h0
  · exact len_le (by have := (len_bounds (x := y) (by omega)).2.1; omega) (len_nonneg y)
  · rw [len_zero (x := x) (by omega)]; exact len_nonneg y
theorem len_half {x k : Int} (hk : 0 ≤ k) (h : pw k ≤ x) : lenS x = lenS (x / pw k) + k := by
  have hp := pw_pos k
  have hq : 1 ≤ x / pw k := (Int.le_ediv_iff_mul_le (by omega)).2 (by omega)
  obtain ⟨b1, b2, b3⟩ := len_bounds hq
  refine len_uniq (by omega) ?_ ?_ (by omega)
  · rw [show lenS (x / pw k) + k - 1 = (lenS (x / pw k) - 1) + k by omega, pw_add (by omega) hk]
    exact Int.le_trans (Int.mul_le_mul_of_nonneg_right b1 (by omega)) (Int.ediv_mul_le x (by omega))
  · rw [pw_add (by omega) hk]
    exact (Int.ediv_lt_iff_lt_mul (by omega)).1 b2

theorem pw_vals : pw 32 = 4294967296 ∧ pw 16 = 65536 ∧ pw 8 = 256 ∧ pw 1 = 2 ∧ pw 64 = 18446744073709551616 ∧ pw 62 = 4611686018427387904 := by simp only [pw_def]; decide


theorem tab_ask {s : ByteArray} {i : Int} {K : Int → Prop} (hi : 0 ≤ i ∧ i ≤ 255) (hs : s.size = 256) (ht : ((List.range 256).all fun n => (s.get! n).toNat == if n == 0 then 0 else Nat.log2 n + 1) = true)
    (hk : 0 ≤ lenS i → lenS i ≤ 8 → K (lenS i)) : (0 ≤ i ∧ i < s.size) ∧ ∀ r : Int, r = (s.get! i.toNat).toNat → K r := by
  refine ⟨by omega, ?_⟩
  rintro r rfl
  have h := List.all_eq_true.1 ht i.toNat (List.mem_range.2 (by omega))
  have e : ((s.get! i.toNat).toNat : Int) = lenS i := by
    rw [beq_iff_eq.1 h, lenS_def]
    simp only [beq_iff_eq]
    split
    · rw [if_pos (by omega)]; rfl
    · rw [if_neg (by omega)]; simp
  rw [e]
  exact hk (len_nonneg i) (len_le (by have := pw_vals.2.2.1; omega) (by decide))

theorem len64_walk (x : Int) (hx : InK .u64 x) : walk F0 0 Tryd.f43 [u64 x] [] fun y _ => y = vi (lenS x) := by
  obtain ⟨x1, x2⟩ := hx
  simp only [lowK, highK] at x1 x2
  obtain ⟨p32, p16, p8, -⟩ := pw_vals
  have h32 := fun y : Int => len_half (x := y) (k := 32) (by decide)
  have h16 := fun y : Int => len_half (x := y) (k := 16) (by decide)
  have h8 := fun y : Int => len_half (x := y) (k := 8) (by decide)
  rw [p32] at h32
  rw [p16] at h16
  rw [p8] at h8
  have a1 := h32 x
  have a2 := h16 x
  have a3 := h16 (x / 4294967296)
  have a4 := h8 x
  have a5 := h8 (x / 4294967296)
  have a6 := h8 (x / 65536)
  have a7 := h8 (x / 4294967296 / 65536)
  clear h32 h16 h8 p32 p16 p8
  repeat' ((conv => whnf); first | (refine ask_split (fun _ => ?_) (fun _ => ?_)) | (refine tab_ask (by omega) (by kernel_rfl) (by kernel_rfl) (fun _ _ => ?_)) | (refine ⟨by omega, ?_⟩) | (refine ask_is (f := _ / 4294967296) (fdiv_ediv 32) ?_) | (refine ask_is (f := _ / 65536) (fdiv_ediv 16) ?_) | (refine ask_is (f := _ / 256) (fdiv_ediv 8) ?_) | (refine ask_wrap64 (by omega) (by omega) ?_) | (refine ask_wrapu8 (by omega) (by omega) ?_) | (exact vi_eq (by omega)) | fail)

def ctU (pre : Int → Prop) (f : Int → Int) : Ct := fun ws K => match ws with
  | [.c (.ci .u64 a)] => pre a ∧ K (vi (f a))
  | _ => False
theorem ctU_ok {F : Fns} (hF : FnsOk Tryd.prog F) {n : Nat} {f : FuncId} {fn : Func} (hf : Tryd.prog.funcs[f]? = some fn) {pre : Int → Prop} {g : Int → Int} (hg : ∀ a, InK .u64 a → pre a → InK .i64 (g a))
    (h : ∀ a, InK .u64 a → pre a → walk F n fn [u64 a] [] fun y _ => y = vi (g a)) : CtOk Tryd.prog f (ctU pre g) := by
  intro ws K h' hr
  unfold ctU at h'
  split at h'
  · rename_i a
    exact ⟨_, h'.2, ⟨hg a hr.1 h'.1, rfl⟩, walk_calls hF hf rfl hr rfl (h a hr.1 h'.1)⟩
  · exact h'.elim

theorem len_small {x : Int} (h : x ≤ 18446744073709551615) : 0 ≤ lenS x ∧ lenS x ≤ 64 := ⟨len_nonneg x, len_le (by have := pw_vals.2.2.2.2.1; omega) (by decide)⟩
theorem len_in {x : Int} (h : x ≤ 18446744073709551615) : InK .i64 (lenS x) := by
  have := len_small h
  simp only [InK, lowK, highK]; omega
theorem len64_ct : CtOk Tryd.prog 43 (ctU (fun _ => True) lenS) := ctU_ok F0_ok Tryd.func43 (fun a h _ => len_in h.2) fun a ha _ => len64_walk a ha
def FL : Fns := F0.plus 43 (ctU (fun _ => True) lenS)
theorem FL_ok : FnsOk Tryd.prog FL := F0_ok.plus len64_ct Tryd.func43 (by kernel_rfl) (by kernel_rfl)

/-- A number's length, whatever its sign. -/
@[irreducible] noncomputable def lengthS : Int → Int := sealed fun x => lenS (if x < 0 then -x else x)
theorem lengthS_def (x : Int) : lengthS x = lenS (if x < 0 then -x else x) := by unfold lengthS; rw [sealed_eq]
theorem length_walk (x : Int) (hx : InK .i64 x) (h : -9223372036854775808 < x) : walk FL 0 Tryd.f32 [i64 x] [] fun y _ => y = vi (lengthS x) := by
  obtain ⟨x1, x2⟩ := hx
  simp only [lowK, highK] at x1 x2
  rw [lengthS_def]
  conv => whnf
  refine ask_split (fun h1 => ?_) (fun h1 => ?_)
  · rw [if_pos h1]
    repeat' ((conv => whnf); first | (refine ask_wrap64 (by omega) (by omega) ?_) | (refine ask_true (by omega) ?_) | (refine ask_false (by omega) ?_) | (refine ⟨trivial, ?_⟩) | (refine ⟨by omega, ?_⟩) | (refine fun (_ : InK _ _) => ?_) | (refine ⟨by kernel_rfl, ?_⟩) | (refine ask_wrapu8 (by omega) (by omega) ?_) | (refine ask_wrapu64 (by omega) (by omega) ?_) | (refine ask_true (show (_ : Bool) = _ from rfl) ?_) | (refine ask_false (show ¬ ((_ : Bool) = _) from Bool.noConfusion) ?_) | fail)
    exact vi_eq (by rw [Int.zero_sub])
  · rw [if_neg h1]
    repeat' ((conv => whnf); first | (refine ask_wrap64 (by omega) (by omega) ?_) | (refine ask_true (by omega) ?_) | (refine ask_false (by omega) ?_) | (refine ⟨trivial, ?_⟩) | (refine ⟨by omega, ?_⟩) | (refine fun (_ : InK _ _) => ?_) | (refine ⟨by kernel_rfl, ?_⟩) | (refine ask_wrapu8 (by omega) (by omega) ?_) | (refine ask_wrapu64 (by omega) (by omega) ?_) | (refine ask_true (show (_ : Bool) = _ from rfl) ?_) | (refine ask_false (show ¬ ((_ : Bool) = _) from Bool.noConfusion) ?_) | fail)
    rfl
theorem length_ct : CtOk Tryd.prog 32 (ct1 (fun x => -9223372036854775808 < x) lengthS) := ct1_ok FL_ok Tryd.func32 (fun a h _ => by
  rw [lengthS_def]
  have h2 := h.2
  have h1 := h.1
  simp only [lowK, highK] at h1 h2
  exact len_in (by split <;> omega)) fun a ha h => length_walk a ha h

theorem refLength_walk (x : Int) (hx : InK .i64 x) (h : 0 ≤ x) : walk F0 0 Tryd.f37 [i64 x] [] fun y _ => y = vi (lenS x) := by
  obtain ⟨x1, x2⟩ := hx
  simp only [lowK, highK] at x1 x2
  have hl := len_small (x := x) (by omega)
  conv => whnf
  refine loop_at2 (0 :: List.range' 3 7) (fun m (z n : Int) => 0 ≤ z ∧ z ≤ x ∧ 0 ≤ n ∧ n + lenS z = lenS x ∧ m = z.toNat) (fun z n => [(0, vi z), (3, vi n)]) (fun _ _ => []) x.toNat x 0 ⟨h, Int.le_refl _, Int.le_refl _, by simp, rfl⟩ ?_ ?_
  · exact ⟨rfl, ⟨⟨Nat.le_of_ble_eq_true rfl, rfl⟩, ⟨Nat.le_of_ble_eq_true rfl, rfl⟩, trivial⟩, trivial, rfl, rfl, Nat.le_refl _⟩
  · rintro m z n ⟨h1, h2, h3, h4, rfl⟩
    have hz := len_small (x := z) (by omega)
    conv => whnf
    refine ask_split (fun h5 => ?_) (fun h5 => ?_)
    · have p1 := pw_vals.2.2.2.1
      have e : lenS z = lenS (z / 2) + 1 := by
        rcases Int.lt_or_le z 2 with hh | hh
        · rw [show z = 1 by omega, len_zero (x := 1 / 2) (by decide)]
          exact len_uniq (by decide) (by rw [pw_zero (by decide)]; decide) (by rw [show (0 : Int) + 1 = 1 by decide, p1]; decide) (by decide)
        · have := len_half (x := z) (k := 1) (by decide) (by omega)
          rwa [p1] at this
      have ez : IntKind.i64.wrap (z.tdiv 2) = z / 2 := by
        rw [Int.tdiv_eq_ediv_of_nonneg h1]; exact wrap_of_in (k := .i64) ⟨by simp only [lowK]; omega, by simp only [highK]; omega⟩
      have hz2 := len_nonneg (z / 2)
      conv => whnf
      refine ⟨by omega, ask_is ez ?_⟩
      repeat' ((conv => whnf); first | (refine ask_wrap64 (by omega) (by omega) ?_) | (refine ask_true (by omega) ?_) | (refine ask_false (by omega) ?_) | (refine ⟨trivial, ?_⟩) | (refine ⟨by omega, ?_⟩) | (refine fun (_ : InK _ _) => ?_) | (refine ⟨by kernel_rfl, ?_⟩) | (refine ask_wrapu8 (by omega) (by omega) ?_) | (refine ask_wrapu64 (by omega) (by omega) ?_) | (refine ask_true (show (_ : Bool) = _ from rfl) ?_) | (refine ask_false (show ¬ ((_ : Bool) = _) from Bool.noConfusion) ?_) | fail)
      exact ⟨(z / 2).toNat, (z / 2, n + 1), by omega, ⟨by simp only; omega, by simp only; omega, by simp only; omega, by simp only; omega, rfl⟩, rfl, ⟨⟨Nat.le_of_ble_eq_true rfl, rfl⟩, ⟨Nat.le_of_ble_eq_true rfl, rfl⟩, trivial⟩, trivial, rfl, rfl, Nat.le_refl _⟩
    · have := len_zero (x := z) (by omega)
      conv => whnf
      exact vi_eq (by omega)
theorem refLength_ct : CtOk Tryd.prog 37 (ct1 (fun x => 0 ≤ x) lenS) := ct1_ok F0_ok Tryd.func37 (fun a h _ => len_in (Int.le_trans h.2 (by decide))) fun a ha h => refLength_walk a ha h

/-- A row of so many numbers, or none. -/
def rowP (xs : List Int) (x : V) (N : List Blk) : Prop := (xs = [] ∧ x = .w (.c .csn) ∧ N = []) ∨ (xs ≠ [] ∧ ∃ (c : Nat) (rest : List Int), xs.length ≤ c ∧ c ≤ 9223372036854775807 ∧ rest.length = c - xs.length ∧ x = .w (.c (.csl 0 0 0 xs.length c)) ∧ N = [.own 3 [.ints .i64 c (xs ++ rest)]])
theorem take_one {y : Int} : List.take 1 (List.drop 0 [y]) = [y] := rfl
/-- The row that a slice reads: its cells, all of them. -/
def slK (H : List Blk) (x : C) (K : Nat → Nat → List Int → Prop) : Prop :=
  match x with
  | .csl j o i l c => (o = 0 ∧ i = 0) ∧ hGet H j fun b => match b with
    | .own _ [.ints .i64 n xs] => n = c ∧ K j l xs
    | .ro [.ints .i64 n xs] => n = c ∧ K j l xs
    | _ => False
  | _ => False
theorem slK_spec {H : List Blk} {x : C} {K : Nat → Nat → List Int → Prop} (h : slK H x K) (ho : HOk H) (hx : x.rng) : ∃ j l xs, K j l xs ∧ x = .csl j 0 0 l xs.length ∧ l ≤ xs.length ∧ xs.length ≤ 9223372036854775807 ∧ (∀ y ∈ xs, InK .i64 y) ∧ ((∃ T, H[j]? = some (.own T [.ints .i64 xs.length xs])) ∨ H[j]? = some (.ro [.ints .i64 xs.length xs])) := by
  unfold slK at h
  split at h
  · rename_i j o i l c
    obtain ⟨⟨rfl, rfl⟩, h0⟩ := h
    obtain ⟨b, hb, h⟩ := hGet_spec h0
    clear h0
    have hr := ho.rng b (List.mem_of_getElem? hb)
    obtain ⟨h1, h2⟩ : l ≤ c ∧ c ≤ 9223372036854775807 := hx
    split at h
    · rename_i T n xs
      obtain ⟨hn, hK⟩ := h
      subst hn
      have hl : xs.length = n := hr.1.1
      subst hl
      exact ⟨j, l, xs, hK, rfl, h1, h2, hr.1.2, .inl ⟨_, hb⟩⟩
    · rename_i n xs
      obtain ⟨hn, hK⟩ := h
      subst hn
      have hl : xs.length = n := hr.1.1
      subst hl
      exact ⟨j, l, xs, hK, rfl, h1, h2, hr.1.2, .inr hb⟩
    · exact h.elim
  · exact h.elim
theorem ro_ok {xs : List Int} (hx : ∀ y ∈ xs, InK .i64 y) : HOk [.ro [.ints .i64 xs.length xs]] := ⟨fun b hb => by rw [List.mem_singleton.1 hb]; exact ⟨⟨rfl, hx⟩, trivial⟩, fun b hb => by rw [List.mem_singleton.1 hb]; rfl⟩
theorem ro_at {H : List Blk} {xs : List Int} {j : Nat} (h : (∃ T, H[j]? = some (.own T [.ints .i64 xs.length xs])) ∨ H[j]? = some (.ro [.ints .i64 xs.length xs])) : ∀ (k : Nat) (b : Blk), ([.ro [.ints .i64 xs.length xs]] : List Blk)[k]? = some b → b = .gone ∨ ∃ ss, b = .ro ss ∧ ((∃ T, H[(fun _ => j) k]? = some (.own T (rens (fun _ => j) ss))) ∨ H[(fun _ => j) k]? = some (.ro (rens (fun _ => j) ss))) := by
  intro k b hk
  match k, hk with
  | 0, hk => simp at hk; subst hk; exact .inr ⟨_, rfl, h⟩
  | k + 1, hk => simp at hk

theorem getD_take {xs : List Int} {n i : Nat} (h : i < n) : (xs.take n).getD i 0 = xs.getD i 0 := by
  rw [List.getD_eq_getElem?_getD, List.getD_eq_getElem?_getD, List.getElem?_take_of_lt h]
theorem no_ro {H : List Blk} {ρ : Nat → Nat} : ∀ (k : Nat) (b : Blk), ([] : List Blk)[k]? = some b → b = .gone ∨ ∃ ss, b = .ro ss ∧ ((∃ T, H[ρ k]? = some (.own T (rens ρ ss))) ∨ H[ρ k]? = some (.ro (rens ρ ss))) := fun k b hb => by simp at hb
theorem nil_ok : HOk [] := ⟨fun b hb => (by cases hb), fun b hb => (by cases hb)⟩
def rowS (j : Nat) (xs : List Int) (v : V) (b : Blk) : Prop :=
  (xs = [] ∧ v = .w (.c .csn) ∧ b = .gone) ∨ (xs ≠ [] ∧ ∃ (c : Nat) (rest : List Int), xs.length ≤ c ∧ c ≤ 9223372036854775807 ∧ rest.length = c - xs.length ∧ v = .w (.c (.csl j 0 0 xs.length c)) ∧ b = .own 3 [.ints .i64 c (xs ++ rest)])
theorem rowS_next {j c m : Nat} {A rest : List Int} {v : Int} (hm : m = A.length) (h : m + 1 ≤ c) (hc : c ≤ 9223372036854775807) (hr : rest.length = c - (m + 1)) : rowS j (A ++ [v]) (.w (.c (.csl j 0 0 (m + 1) c))) (.own 3 [.ints .i64 c (A ++ [v] ++ rest)]) := by
  have e : (A ++ [v]).length = m + 1 := by simp [hm]
  exact .inr ⟨by simp, c, rest, by omega, hc, by omega, by rw [e], rfl⟩
theorem room_eq {A rest : List Int} {v : Int} {m : Nat} (hm : m = A.length) : List.take m (A ++ rest) ++ List.take 1 (List.drop 0 [v]) ++ List.drop (m + 1) (A ++ rest) = A ++ [v] ++ rest.drop 1 := by
  subst hm
  have e : List.drop (A.length + 1) (A ++ rest) = rest.drop 1 := by
    rw [List.drop_append, List.drop_of_length_le (show A.length ≤ A.length + 1 by omega), List.nil_append, show A.length + 1 - A.length = 1 by omega]
  rw [List.take_append_of_le_length (Nat.le_refl _), List.take_length, e]
  rfl
theorem grow_eq {A rest : List Int} {v : Int} {m : Nat} (hm : m = A.length) : List.take m (A ++ rest) ++ List.take 1 (List.drop 0 [v]) = A ++ [v] := by
  subst hm
  rw [List.take_append_of_le_length (Nat.le_refl _), List.take_length]
  rfl
theorem fresh_as {e : TypeId} {k : IntKind} {H : List Blk} {m : Nat} {ys zs : List Int} {K : C → List Blk → Prop} (hy : ys = zs) (h : ∀ (c : Nat) (R : List Int), m ≤ c → c ≤ 9223372036854775807 → R.length = c - m → lenH H 0 fun n => pushH H (.own e [.ints k c (zs ++ R)]) fun H' => K (.csl n 0 0 m c) H') : freshK e k H m ys K := by
  subst hy
  exact fun c h1 h2 => h c _ h1 h2 (List.length_replicate ..)
/-- Two blocks take the place of two. -/
def rhoS (p q a b j : Nat) : Nat := if j = p then a else if j = q then b else j
theorem rhoS_inj {p q a b n : Nat} (ha : a = p ∨ n ≤ a) (hb : b = q ∨ n ≤ b) (hab : a ≠ b) (hpq : p ≠ q) (hp : p < n) (hq : q < n) {i j : Nat} (hi : i < n) (hj : j < n) (h : rhoS p q a b i = rhoS p q a b j) : i = j := by
  unfold rhoS at h
  split at h <;> split at h <;> (try split at h) <;> (try split at h) <;> omega
theorem rhoS_low {p q a b lo j : Nat} (hp : lo ≤ p) (hq : lo ≤ q) (h : j < lo) : rhoS p q a b j = j := by
  unfold rhoS; rw [if_neg (by omega), if_neg (by omega)]

theorem take_all {xs rest : List Int} {n : Nat} (h : n = xs.length) : (xs ++ rest).take n = xs := by
  subst h; rw [List.take_append_of_le_length (Nat.le_refl _), List.take_length]
theorem left_at {xs rest : List Int} {i : Nat} (h : i < xs.length) : (xs ++ rest).getD i 0 = xs.getD i 0 := by
  rw [List.getD_eq_getElem?_getD, List.getD_eq_getElem?_getD, List.getElem?_append_left h]

/-- What is done with a row that was made. -/
def rowK (H : List Blk) (xs : List Int) (K : V → List Blk → Prop) : Prop :=
  (xs = [] → K (.w (.c .csn)) H) ∧ (xs ≠ [] → ∀ (c : Nat) (rest : List Int), xs.length ≤ c → c ≤ 9223372036854775807 → rest.length = c - xs.length → K (.w (.c (.csl H.length 0 0 xs.length c))) (H ++ [.own 3 [.ints .i64 c (xs ++ rest)]]))
theorem row_mine {xs : List Int} : ∀ x N, rowP xs x N → ∀ b ∈ N, b.mine = true ∨ b = .gone := by
  rintro x N (⟨_, _, rfl⟩ | ⟨_, c, rest, _, _, _, _, rfl⟩) b hb
  · cases hb
  · rw [List.mem_singleton.1 hb]; exact .inl rfl
theorem row_K {xs : List Int} {H : List Blk} {K : V → List Blk → Prop} (h : rowK H xs K) : ∀ x N, rowP xs x N → K (x.ren (sh H.length)) (H ++ N.map (Blk.ren (sh H.length))) := by
  rintro x N (⟨e, rfl, rfl⟩ | ⟨e, c, rest, h1, h2, h3, rfl, rfl⟩)
  · simpa [V.ren, W.ren, C.ren] using h.1 e
  · have := h.2 e c rest h1 h2 h3
    simpa [V.ren, W.ren, C.ren, Blk.ren, rens, Seg.ren, sh] using this

def noneP (e : Int) (x : V) (N : List Blk) : Prop := x = .tup [.c .csn, i64 e] ∧ N = []
theorem none_K {H : List Blk} {K : V → List Blk → Prop} {e : Int} (h : K (.tup [.c .csn, i64 e]) H) : ∀ x N, noneP e x N → K (x.ren (sh H.length)) (H ++ N.map (Blk.ren (sh H.length))) := by
  rintro x N ⟨rfl, rfl⟩
  simpa [V.ren, renW, W.ren, C.ren] using h
theorem none_mine {e : Int} : ∀ x N, noneP e x N → ∀ b ∈ N, b.mine = true ∨ b = .gone := by
  rintro x N ⟨_, rfl⟩ b hb; cases hb
end Go.Proofs.YtmkdamfdlkpjdaaDoor
