/- Lengths of numbers; the document's sizes. -/
import Derived.Test.YtmkdamfdlkpjdaaVi
import Derived.Test.YtmkdamfdlkpjdaaXr
set_option linter.all false
namespace Go.Proofs.Ytmkdamfdlkpjdaa
open Go.RowKit (Below)
set_option maxRecDepth 100000
set_option maxHeartbeats 32000000

/-- How many binary digits a number has. -/
@[irreducible] noncomputable def lenS : Int → Int := sealed fun x => if x ≤ 0 then 0 else (Nat.log2 x.toNat : Int) + 1
theorem lenS_def (x : Int) : lenS x = if x ≤ 0 then 0 else (Nat.log2 x.toNat : Int) + 1 := by unfold lenS; rw [sealed_eq]
theorem len_zero {x : Int} (h : x ≤ 0) : lenS x = 0 := by rw [lenS_def, if_pos h]
theorem len_nonneg (x : Int) : 0 ≤ lenS x := by rw [lenS_def]; split <;> omega
theorem len_bounds {x : Int} (h : 1 ≤ x) : pw (lenS x - 1) ≤ x ∧ x < pw (lenS x) ∧ 1 ≤ lenS x := by
  rw [lenS_def, if_neg (by omega)]
  have h0 : x.toNat ≠ 0 := by omega
  have h1 := Nat.log2_self_le h0
  have h2 := Nat.lt_log2_self (n := x.toNat)
  have e1 : pw ((Nat.log2 x.toNat : Int) + 1 - 1) = ((2 ^ Nat.log2 x.toNat : Nat) : Int) := by
    rw [pw_def, show ((Nat.log2 x.toNat : Int) + 1 - 1).toNat = Nat.log2 x.toNat by omega]; simp
  have e2 : pw ((Nat.log2 x.toNat : Int) + 1) = ((2 ^ (Nat.log2 x.toNat + 1) : Nat) : Int) := by
    rw [pw_def, show ((Nat.log2 x.toNat : Int) + 1).toNat = Nat.log2 x.toNat + 1 by omega]; simp
  rw [e1, e2]
  refine ⟨by omega, by omega, by omega⟩
theorem len_uniq {x l : Int} (h1 : 1 ≤ x) (h2 : pw (l - 1) ≤ x) (h3 : x < pw l) (h4 : 1 ≤ l) : lenS x = l := by
  obtain ⟨b1, b2, b3⟩ := len_bounds h1
  rcases Int.lt_trichotomy (lenS x) l with h | h | h
  · have := pw_mono (a := lenS x) (b := l - 1) (by omega); omega
  · exact h
  · have := pw_mono (a := l) (b := lenS x - 1) (by omega); omega
theorem len_le {x l : Int} (h : x < pw l) (hl : 0 ≤ l) : lenS x ≤ l := by
  rcases Int.lt_or_le 0 x with h0 | h0
  · obtain ⟨b1, b2, b3⟩ := len_bounds (x := x) (by omega)
    rcases Int.lt_or_le l (lenS x) with hh | hh
    · have := pw_mono (a := l) (b := lenS x - 1) (by omega); omega
    · exact hh
  · rw [len_zero h0]; exact hl
theorem len_mono {x y : Int} (h : x ≤ y) : lenS x ≤ lenS y := by
  rcases Int.lt_or_le 0 y with h0 | h0
  · exact len_le (by have := (len_bounds (x := y) (by omega)).2.1; omega) (len_nonneg y)
  · rw [len_zero (x := x) (by omega)]; exact len_nonneg y
theorem len_half {x k : Int} (hk : 0 ≤ k) (h : pw k ≤ x) : lenS x = lenS (x / pw k) + k := by
  have hp := pw_pos k
  have hq : 1 ≤ x / pw k := (Int.le_ediv_iff_mul_le (by omega)).2 (by omega)
  obtain ⟨b1, b2, b3⟩ := len_bounds hq
  refine len_uniq (by omega) ?_ ?_ (by omega)
  · rw [show lenS (x / pw k) + k - 1 = (lenS (x / pw k) - 1) + k by omega, pw_add (by omega) hk]
    exact Int.le_trans (Int.mul_le_mul_of_nonneg_right b1 (by omega)) (Int.ediv_mul_le x (by omega))
  · rw [pw_add (by omega) hk]
    exact (Int.ediv_lt_iff_lt_mul (by omega)).1 b2

theorem pw_vals : pw 32 = 4294967296 ∧ pw 16 = 65536 ∧ pw 8 = 256 ∧ pw 1 = 2 ∧ pw 64 = 18446744073709551616 ∧ pw 62 = 4611686018427387904 := by simp only [pw_def]; decide


theorem tab_ask {s : ByteArray} {i : Int} {K : Int → Prop} (hi : 0 ≤ i ∧ i ≤ 255) (hs : s.size = 256) (ht : ((List.range 256).all fun n => (s.get! n).toNat == if n == 0 then 0 else Nat.log2 n + 1) = true)
    (hk : 0 ≤ lenS i → lenS i ≤ 8 → K (lenS i)) : (0 ≤ i ∧ i < s.size) ∧ ∀ r : Int, r = (s.get! i.toNat).toNat → K r := by
  refine ⟨by omega, ?_⟩
  rintro r rfl
  have h := List.all_eq_true.1 ht i.toNat (List.mem_range.2 (by omega))
  have e : ((s.get! i.toNat).toNat : Int) = lenS i := by
    rw [beq_iff_eq.1 h, lenS_def]
    simp only [beq_iff_eq]
    split
    · rw [if_pos (by omega)]; rfl
    · rw [if_neg (by omega)]; simp
  rw [e]
  exact hk (len_nonneg i) (len_le (by have := pw_vals.2.2.1; omega) (by decide))

theorem len64_walk (x : Int) (hx : InK .u64 x) : walk F0 0 Try.f44 [u64 x] [] fun y _ => y = vi (lenS x) := by
  obtain ⟨x1, x2⟩ := hx
  simp only [lowK, highK] at x1 x2
  obtain ⟨p32, p16, p8, -⟩ := pw_vals
  have h32 := fun y : Int => len_half (x := y) (k := 32) (by decide)
  have h16 := fun y : Int => len_half (x := y) (k := 16) (by decide)
  have h8 := fun y : Int => len_half (x := y) (k := 8) (by decide)
  rw [p32] at h32
  rw [p16] at h16
  rw [p8] at h8
  have a1 := h32 x
  have a2 := h16 x
  have a3 := h16 (x / 4294967296)
  have a4 := h8 x
  have a5 := h8 (x / 4294967296)
  have a6 := h8 (x / 65536)
  have a7 := h8 (x / 4294967296 / 65536)
  clear h32 h16 h8 p32 p16 p8
  repeat' ((conv => whnf); first | (refine ask_split (fun _ => ?_) (fun _ => ?_)) | (refine tab_ask (by omega) (by kernel_rfl) (by kernel_rfl) (fun _ _ => ?_)) | (refine ⟨by omega, ?_⟩) | (refine ask_is (f := _ / 4294967296) (fdiv_ediv 32) ?_) | (refine ask_is (f := _ / 65536) (fdiv_ediv 16) ?_) | (refine ask_is (f := _ / 256) (fdiv_ediv 8) ?_) | (refine ask_wrap64 (by omega) (by omega) ?_) | (refine ask_wrapu8 (by omega) (by omega) ?_) | (exact vi_eq (by omega)) | fail)

def ctU (pre : Int → Prop) (f : Int → Int) : Ct := fun ws K => match ws with
  | [.c (.ci .u64 a)] => pre a ∧ K (vi (f a))
  | _ => False
theorem ctU_ok {F : Fns} (hF : FnsOk Try.prog F) {n : Nat} {f : FuncId} {fn : Func} (hf : Try.prog.funcs[f]? = some fn) {pre : Int → Prop} {g : Int → Int} (hg : ∀ a, InK .u64 a → pre a → InK .i64 (g a))
    (h : ∀ a, InK .u64 a → pre a → walk F n fn [u64 a] [] fun y _ => y = vi (g a)) : CtOk Try.prog f (ctU pre g) := by
  intro ws K h' hr
  unfold ctU at h'
  split at h'
  · rename_i a
    exact ⟨_, h'.2, ⟨hg a hr.1 h'.1, rfl⟩, walk_calls hF hf rfl hr rfl (h a hr.1 h'.1)⟩
  · exact h'.elim

theorem len_small {x : Int} (h : x ≤ 18446744073709551615) : 0 ≤ lenS x ∧ lenS x ≤ 64 := ⟨len_nonneg x, len_le (by have := pw_vals.2.2.2.2.1; omega) (by decide)⟩
theorem len_in {x : Int} (h : x ≤ 18446744073709551615) : InK .i64 (lenS x) := by
  have := len_small h
  simp only [InK, lowK, highK]; omega
theorem len64_ct : CtOk Try.prog 44 (ctU (fun _ => True) lenS) := ctU_ok F0_ok Try.func44 (fun a h _ => len_in h.2) fun a ha _ => len64_walk a ha
def FL : Fns := F0.plus 44 (ctU (fun _ => True) lenS)
theorem FL_ok : FnsOk Try.prog FL := F0_ok.plus len64_ct Try.func44 (by kernel_rfl) (by kernel_rfl)

/-- A number's length, whatever its sign. -/
@[irreducible] noncomputable def lengthS : Int → Int := sealed fun x => lenS (if x < 0 then -x else x)
theorem lengthS_def (x : Int) : lengthS x = lenS (if x < 0 then -x else x) := by unfold lengthS; rw [sealed_eq]
theorem length_walk (x : Int) (hx : InK .i64 x) (h : -9223372036854775808 < x) : walk FL 0 Try.f41 [i64 x] [] fun y _ => y = vi (lengthS x) := by
  obtain ⟨x1, x2⟩ := hx
  simp only [lowK, highK] at x1 x2
  rw [lengthS_def]
  conv => whnf
  refine ask_split (fun h1 => ?_) (fun h1 => ?_)
  · rw [if_pos h1]
    repeat' ((conv => whnf); first | (refine ask_wrap64 (by omega) (by omega) ?_) | (refine ask_true (by omega) ?_) | (refine ask_false (by omega) ?_) | (refine ⟨trivial, ?_⟩) | (refine ⟨by omega, ?_⟩) | (refine fun (_ : InK _ _) => ?_) | (refine ⟨by kernel_rfl, ?_⟩) | (refine ask_wrapu8 (by omega) (by omega) ?_) | (refine ask_wrapu64 (by omega) (by omega) ?_) | (refine ask_true (show (_ : Bool) = _ from rfl) ?_) | (refine ask_false (show ¬ ((_ : Bool) = _) from Bool.noConfusion) ?_) | fail)
    exact vi_eq (by rw [Int.zero_sub])
  · rw [if_neg h1]
    repeat' ((conv => whnf); first | (refine ask_wrap64 (by omega) (by omega) ?_) | (refine ask_true (by omega) ?_) | (refine ask_false (by omega) ?_) | (refine ⟨trivial, ?_⟩) | (refine ⟨by omega, ?_⟩) | (refine fun (_ : InK _ _) => ?_) | (refine ⟨by kernel_rfl, ?_⟩) | (refine ask_wrapu8 (by omega) (by omega) ?_) | (refine ask_wrapu64 (by omega) (by omega) ?_) | (refine ask_true (show (_ : Bool) = _ from rfl) ?_) | (refine ask_false (show ¬ ((_ : Bool) = _) from Bool.noConfusion) ?_) | fail)
    rfl
theorem length_ct : CtOk Try.prog 41 (ct1 (fun x => -9223372036854775808 < x) lengthS) := ct1_ok FL_ok Try.func41 (fun a h _ => by
  rw [lengthS_def]
  have h2 := h.2
  have h1 := h.1
  simp only [lowK, highK] at h1 h2
  exact len_in (by split <;> omega)) fun a ha h => length_walk a ha h

theorem refLength_walk (x : Int) (hx : InK .i64 x) (h : 0 ≤ x) : walk F0 0 Try.f30 [i64 x] [] fun y _ => y = vi (lenS x) := by
  obtain ⟨x1, x2⟩ := hx
  simp only [lowK, highK] at x1 x2
  have hl := len_small (x := x) (by omega)
  conv => whnf
  refine loop_at2 (0 :: List.range' 3 7) (fun m (z n : Int) => 0 ≤ z ∧ z ≤ x ∧ 0 ≤ n ∧ n + lenS z = lenS x ∧ m = z.toNat) (fun z n => [(0, vi z), (3, vi n)]) (fun _ _ => []) x.toNat x 0 ⟨h, Int.le_refl _, Int.le_refl _, by simp, rfl⟩ ?_ ?_
  · exact ⟨rfl, ⟨⟨Nat.le_of_ble_eq_true rfl, rfl⟩, ⟨Nat.le_of_ble_eq_true rfl, rfl⟩, trivial⟩, trivial, rfl, rfl, Nat.le_refl _⟩
  · rintro m z n ⟨h1, h2, h3, h4, rfl⟩
    have hz := len_small (x := z) (by omega)
    conv => whnf
    refine ask_split (fun h5 => ?_) (fun h5 => ?_)
    · have p1 := pw_vals.2.2.2.1
      have e : lenS z = lenS (z / 2) + 1 := by
        rcases Int.lt_or_le z 2 with hh | hh
        · rw [show z = 1 by omega, len_zero (x := 1 / 2) (by decide)]
          exact len_uniq (by decide) (by rw [pw_zero (by decide)]; decide) (by rw [show (0 : Int) + 1 = 1 by decide, p1]; decide) (by decide)
        · have := len_half (x := z) (k := 1) (by decide) (by omega)
          rwa [p1] at this
      have ez : IntKind.i64.wrap (z.tdiv 2) = z / 2 := by
        rw [Int.tdiv_eq_ediv_of_nonneg h1]; exact wrap_of_in (k := .i64) ⟨by simp only [lowK]; omega, by simp only [highK]; omega⟩
      have hz2 := len_nonneg (z / 2)
      conv => whnf
      refine ⟨by omega, ask_is ez ?_⟩
      repeat' ((conv => whnf); first | (refine ask_wrap64 (by omega) (by omega) ?_) | (refine ask_true (by omega) ?_) | (refine ask_false (by omega) ?_) | (refine ⟨trivial, ?_⟩) | (refine ⟨by omega, ?_⟩) | (refine fun (_ : InK _ _) => ?_) | (refine ⟨by kernel_rfl, ?_⟩) | (refine ask_wrapu8 (by omega) (by omega) ?_) | (refine ask_wrapu64 (by omega) (by omega) ?_) | (refine ask_true (show (_ : Bool) = _ from rfl) ?_) | (refine ask_false (show ¬ ((_ : Bool) = _) from Bool.noConfusion) ?_) | fail)
      exact ⟨(z / 2).toNat, (z / 2, n + 1), by omega, ⟨by simp only; omega, by simp only; omega, by simp only; omega, by simp only; omega, rfl⟩, rfl, ⟨⟨Nat.le_of_ble_eq_true rfl, rfl⟩, ⟨Nat.le_of_ble_eq_true rfl, rfl⟩, trivial⟩, trivial, rfl, rfl, Nat.le_refl _⟩
    · have := len_zero (x := z) (by omega)
      conv => whnf
      exact vi_eq (by omega)
theorem refLength_ct : CtOk Try.prog 30 (ct1 (fun x => 0 ≤ x) lenS) := ct1_ok F0_ok Try.func30 (fun a h _ => len_in (Int.le_trans h.2 (by decide))) fun a ha h => refLength_walk a ha h

/-- A number without its sign, 2 to the 40 at most. -/
@[irreducible] def szF (x : Int) : Int := max (max (min x 1099511627776) (-1099511627776)) (0 - max (min x 1099511627776) (-1099511627776))
theorem szF_def (x : Int) : szF x = max (max (min x 1099511627776) (-1099511627776)) (0 - max (min x 1099511627776) (-1099511627776)) := by unfold szF; rfl
theorem szF_in (x : Int) : 0 ≤ szF x ∧ szF x ≤ 1099511627776 := by rw [szF_def]; omega
theorem szF_abs {x : Int} (h : -1099511627776 ≤ x ∧ x ≤ 1099511627776) : szF x = if x < 0 then -x else x := by rw [szF_def]; omega
theorem rsize_walk (x : Int) (hx : InK .i64 x) : walk F0 0 Try.f40 [i64 x] [] fun y _ => y = vi (szF x) := by
  obtain ⟨x1, x2⟩ := hx
  simp only [lowK, highK] at x1 x2
  rcases Classical.em (x < -1099511627776) with h1 | h1
  · rw [show szF x = 1099511627776 by rw [szF_def]; omega]
    repeat' ((conv => whnf); first | (refine ask_true (by omega) ?_) | (refine ask_false (by omega) ?_) | rfl | fail)
  · rcases Classical.em (x > 1099511627776) with h2 | h2
    · rw [show szF x = 1099511627776 by rw [szF_def]; omega]
      repeat' ((conv => whnf); first | (refine ask_true (by omega) ?_) | (refine ask_false (by omega) ?_) | rfl | fail)
    · rw [szF_abs (by omega)]
      rcases Int.lt_or_le x 0 with h3 | h3
      · rw [if_pos h3]
        repeat' ((conv => whnf); first | (refine ask_true (by omega) ?_) | (refine ask_false (by omega) ?_) | (refine ask_wrap64 (by omega) (by omega) ?_) | fail)
        exact vi_eq (by omega)
      · rw [if_neg (by omega)]
        repeat' ((conv => whnf); first | (refine ask_true (by omega) ?_) | (refine ask_false (by omega) ?_) | rfl | fail)
theorem rsize_ct : CtOk Try.prog 40 (ct1 (fun _ => True) szF) := ct1_ok F0_ok Try.func40 (fun a _ _ => by have := szF_in a; simp only [InK, lowK, highK]; omega) fun a h _ => rsize_walk a h

end Go.Proofs.Ytmkdamfdlkpjdaa
