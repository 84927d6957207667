/- Chapter fix: roots and lengths, and the document's answers. -/
import Derived.Test.YtcikcejpmjbckaaXu
set_option linter.all false
namespace Go.Proofs.Ytcikcejpmjbckaa
open Go.RowKit (Below)
set_option maxRecDepth 100000
set_option maxHeartbeats 8000000

/-! ### lengths -/
/-- How many binary digits a number has. -/
@[irreducible] noncomputable def lenS : Int → Int := sealed fun x => if x ≤ 0 then 0 else (Nat.log2 x.toNat : Int) + 1
theorem lenS_def (x : Int) : lenS x = if x ≤ 0 then 0 else (Nat.log2 x.toNat : Int) + 1 := by unfold lenS; rw [sealed_eq]
theorem len_zero {x : Int} (h : x ≤ 0) : lenS x = 0 := by rw [lenS_def, if_pos h]
theorem len_nonneg (x : Int) : 0 ≤ lenS x := by rw [lenS_def]; split <;> omega
theorem len_bounds {x : Int} (h : 1 ≤ x) : pw (lenS x - 1) ≤ x ∧ x < pw (lenS x) ∧ 1 ≤ lenS x := by
  rw [lenS_def, if_neg (by omega)]
  have h0 : x.toNat ≠ 0 := by omega
  have h1 := Nat.log2_self_le h0
  have h2 := Nat.lt_log2_self (n := x.toNat)
  have e1 : pw ((Nat.log2 x.toNat : Int) + 1 - 1) = ((2 ^ Nat.log2 x.toNat : Nat) : Int) := by
    rw [pw_def, show ((Nat.log2 x.toNat : Int) + 1 - 1).toNat = Nat.log2 x.toNat by omega]; simp
  have e2 : pw ((Nat.log2 x.toNat : Int) + 1) = ((2 ^ (Nat.log2 x.toNat + 1) : Nat) : Int) := by
    rw [pw_def, show ((Nat.log2 x.toNat : Int) + 1).toNat = Nat.log2 x.toNat + 1 by omega]; simp
  rw [e1, e2]
  refine ⟨by omega, by omega, by omega⟩
theorem len_uniq {x l : Int} (h1 : 1 ≤ x) (h2 : pw (l - 1) ≤ x) (h3 : x < pw l) (h4 : 1 ≤ l) : lenS x = l := by
  obtain ⟨b1, b2, b3⟩ := len_bounds h1
  rcases Int.lt_trichotomy (lenS x) l with h | h | h
  · have := pw_mono (a := lenS x) (b := l - 1) (by omega); omega
  · exact h
  · have := pw_mono (a := l) (b := lenS x - 1) (by omega); omega
theorem len_le {x l : Int} (h : x < pw l) (hl : 0 ≤ l) : lenS x ≤ l := by
  rcases Int.lt_or_le 0 x with h0 | h0
  · obtain ⟨b1, b2, b3⟩ := len_bounds (x := x) (by omega)
    rcases Int.lt_or_le l (lenS x) with hh | hh
    · have := pw_mono (a := l) (b := lenS x - 1) (by omega); omega
    · exact hh
  · rw [len_zero h0]; exact hl
theorem len_mono {x y : Int} (h : x ≤ y) : lenS x ≤ lenS y := by
  rcases Int.lt_or_le 0 y with h0 | h0
  · exact len_le (by have := (len_bounds (x := y) (by omega)).2.1; omega) (len_nonneg y)
  · rw [len_zero (x := x) (by omega)]; exact len_nonneg y
theorem len_half {x k : Int} (hk : 0 ≤ k) (h : pw k ≤ x) : lenS x = lenS (x / pw k) + k := by
  have hp := pw_pos k
  have hq : 1 ≤ x / pw k := (Int.le_ediv_iff_mul_le (by omega)).2 (by omega)
  obtain ⟨b1, b2, b3⟩ := len_bounds hq
  refine len_uniq (by omega) ?_ ?_ (by omega)
  · rw [show lenS (x / pw k) + k - 1 = (lenS (x / pw k) - 1) + k by omega, pw_add (by omega) hk]
    exact Int.le_trans (Int.mul_le_mul_of_nonneg_right b1 (by omega)) (Int.ediv_mul_le x (by omega))
  · rw [pw_add (by omega) hk]
    exact (Int.ediv_lt_iff_lt_mul (by omega)).1 b2

theorem pw_vals : pw 32 = 4294967296 ∧ pw 16 = 65536 ∧ pw 8 = 256 ∧ pw 1 = 2 ∧ pw 64 = 18446744073709551616 ∧ pw 62 = 4611686018427387904 := by simp only [pw_def]; decide


theorem tab_ask {s : ByteArray} {i : Int} {K : Int → Prop} (hi : 0 ≤ i ∧ i ≤ 255) (hs : s.size = 256) (ht : ((List.range 256).all fun n => (s.get! n).toNat == if n == 0 then 0 else Nat.log2 n + 1) = true)
    (hk : 0 ≤ lenS i → lenS i ≤ 8 → K (lenS i)) : (0 ≤ i ∧ i < s.size) ∧ ∀ r : Int, r = (s.get! i.toNat).toNat → K r := by
  refine ⟨by omega, ?_⟩
  rintro r rfl
  have h := List.all_eq_true.1 ht i.toNat (List.mem_range.2 (by omega))
  have e : ((s.get! i.toNat).toNat : Int) = lenS i := by
    rw [beq_iff_eq.1 h, lenS_def]
    simp only [beq_iff_eq]
    split
    · rw [if_pos (by omega)]; rfl
    · rw [if_neg (by omega)]; simp
  rw [e]
  exact hk (len_nonneg i) (len_le (by have := pw_vals.2.2.1; omega) (by decide))

theorem len64_walk (x : Int) (hx : InK .u64 x) : walk F0 0 Try.f51 [u64 x] [] fun y _ => y = vi (lenS x) := by
  obtain ⟨x1, x2⟩ := hx
  simp only [lowK, highK] at x1 x2
  obtain ⟨p32, p16, p8, -⟩ := pw_vals
  have h32 := fun y : Int => len_half (x := y) (k := 32) (by decide)
  have h16 := fun y : Int => len_half (x := y) (k := 16) (by decide)
  have h8 := fun y : Int => len_half (x := y) (k := 8) (by decide)
  rw [p32] at h32
  rw [p16] at h16
  rw [p8] at h8
  have a1 := h32 x
  have a2 := h16 x
  have a3 := h16 (x / 4294967296)
  have a4 := h8 x
  have a5 := h8 (x / 4294967296)
  have a6 := h8 (x / 65536)
  have a7 := h8 (x / 4294967296 / 65536)
  clear h32 h16 h8 p32 p16 p8
  repeat' ((conv => whnf); first | (refine ask_split (fun _ => ?_) (fun _ => ?_)) | (refine tab_ask (by omega) (by kernel_rfl) (by kernel_rfl) (fun _ _ => ?_)) | (refine ⟨by omega, ?_⟩) | (refine ask_is (f := _ / 4294967296) (fdiv_ediv 32) ?_) | (refine ask_is (f := _ / 65536) (fdiv_ediv 16) ?_) | (refine ask_is (f := _ / 256) (fdiv_ediv 8) ?_) | (refine ask_wrap64 (by omega) (by omega) ?_) | (refine ask_wrapu8 (by omega) (by omega) ?_) | (exact vi_eq (by omega)) | fail)

end Go.Proofs.Ytcikcejpmjbckaa
