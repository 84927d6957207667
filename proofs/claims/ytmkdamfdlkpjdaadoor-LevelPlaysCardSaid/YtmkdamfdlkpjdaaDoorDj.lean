/- Chapter level: what a filled band is like, in plain Lean. -/
import Derived.Test.YtmkdamfdlkpjdaaDoorDi
set_option linter.all false
namespace Go.Proofs.YtmkdamfdlkpjdaaDoor
open Go.RowKit (Below)
set_option maxRecDepth 100000
set_option maxHeartbeats 32000000

theorem fillN_pos {lv S n : Int} (hS : 0 < S) (hn : 0 ≤ n) : fillN lv S n = n * 3 * pw lv / (4 * S) := by
  have p := pw_pos lv
  unfold fillN
  rw [Int.one_mul, Int.tdiv_eq_ediv_of_nonneg (Int.mul_nonneg (by omega) (by omega))]
theorem fillN_neg (lv S n : Int) : fillN lv S (0 - n) = 0 - fillN lv S n := by
  unfold fillN
  rw [Int.zero_sub, Int.neg_mul, Int.neg_mul, Int.neg_tdiv, Int.zero_sub]
theorem fillN_nonneg {lv S n : Int} (hS : 0 < S) (hn : 0 ≤ n) : 0 ≤ fillN lv S n := by
  have p := pw_pos lv
  rw [fillN_pos hS hn]
  exact Int.ediv_nonneg (Int.mul_nonneg (by omega) (by omega)) (by omega)
theorem fillN_sign {lv S n : Int} (hS : 0 ≤ S) : (fillN lv S n < 0 → n < 0) ∧ (0 < fillN lv S n → 0 < n) := by
  rcases Int.lt_or_le 0 S with h | h
  · rcases Int.lt_or_le n 0 with hn | hn
    · have := fillN_nonneg (lv := lv) h (n := 0 - n) (by omega)
      rw [fillN_neg] at this
      omega
    · have := fillN_nonneg (lv := lv) h hn
      refine ⟨by omega, fun hp => ?_⟩
      rcases Int.lt_or_le 0 n with h1 | h1
      · exact h1
      · obtain rfl : n = 0 := by omega
        unfold fillN at hp
        rw [Int.zero_mul, Int.zero_mul, Int.zero_tdiv] at hp
        omega
  · obtain rfl : S = 0 := by omega
    rw [fillN_zero]
    omega
/-- Its size. -/
theorem fillN_size {lv S n : Int} (h : 0 ≤ lv ∧ lv ≤ 20) (hS : 0 < S) (hn : -8 ≤ n ∧ n ≤ 8) : szF (fillN lv S n) = szF n * 3 * pw lv / (4 * S) := by
  have b := fillN_in (S := S) h hn
  rw [szF_abs (by omega), szF_abs (x := n) (by omega)]
  rcases Int.lt_or_le n 0 with h1 | h1
  · have e := fillN_neg lv S (0 - n)
    rw [show 0 - (0 - n) = n by omega] at e
    have p := fillN_nonneg (lv := lv) hS (n := 0 - n) (by omega)
    rw [if_pos h1, ← fillN_pos hS (by omega), show -n = 0 - n by omega]
    split <;> omega
  · have p := fillN_nonneg (lv := lv) hS h1
    rw [if_neg (by omega), if_neg (by omega), fillN_pos hS h1]
theorem div_bounds {a D : Int} (hD : 0 < D) : D * (a / D) ≤ a ∧ a < D * (a / D + 1) := by
  have h1 := Int.mul_ediv_add_emod a D
  have h2 := Int.emod_nonneg a (b := D) (by omega)
  have h3 := Int.emod_lt_of_pos a hD
  rw [Int.mul_add, Int.mul_one]
  omega
theorem flZ_at {lv : Int} {ys : List Int} (h : rightL lv ys) (h0 : lv ≠ 0) {i : Nat} (hi : i < ys.length) : (flZ lv ys).getD i 0 = fillN lv (sumF ys ys.length) (ys.getD i 0) := by
  unfold flZ
  rw [if_pos ⟨h, h0⟩, getD_map hi]
/-- No less and no more than three parts of four. -/
theorem fill_sums {lv : Int} {ys : List Int} (h : rightL lv ys) (h0 : lv ≠ 0) (hS : 0 < sumF ys ys.length) : ∀ n : Nat, n ≤ ys.length →
    4 * sumF ys ys.length * sumF (flZ lv ys) n ≤ sumF ys n * (3 * pw lv) ∧ sumF ys n * (3 * pw lv) ≤ 4 * sumF ys ys.length * (sumF (flZ lv ys) n + n)
  | 0, _ => by
    show _ * (0 : Int) ≤ 0 * _ ∧ (0 : Int) * _ ≤ _ * (0 + ((0 : Nat) : Int))
    simp
  | n + 1, hn => by
    have ih := fill_sums h h0 hS n (by omega)
    have hr := h
    rw [rightL_def] at hr
    have hy := hr.2.2 (ys.getD n 0) (mem_at (by omega))
    have e := fillN_size (S := sumF ys ys.length) hr.1 hS hy
    have d := div_bounds (a := szF (ys.getD n 0) * 3 * pw lv) (D := 4 * sumF ys ys.length) (by omega)
    rw [← e, ← flZ_at h h0 (by omega)] at d
    show 4 * sumF ys ys.length * (sumF (flZ lv ys) n + szF ((flZ lv ys).getD n 0)) ≤ (sumF ys n + szF (ys.getD n 0)) * (3 * pw lv) ∧ (sumF ys n + szF (ys.getD n 0)) * (3 * pw lv) ≤ 4 * sumF ys ys.length * (sumF (flZ lv ys) n + szF ((flZ lv ys).getD n 0) + ((n + 1 : Nat) : Int))
    rw [Int.mul_assoc (szF _) 3 _] at d
    generalize 4 * sumF ys ys.length = D at *
    rw [show sumF (flZ lv ys) n + szF ((flZ lv ys).getD n 0) + ((n + 1 : Nat) : Int) = (sumF (flZ lv ys) n + n) + (szF ((flZ lv ys).getD n 0) + 1) by omega, Int.mul_add D (sumF (flZ lv ys) n) _, Int.mul_add D (sumF (flZ lv ys) n + n) _, Int.add_mul]
    omega
theorem fill_level {lv : Int} {ys : List Int} (h : rightL lv ys) (h0 : lv ≠ 0) (hS : 0 < sumF ys ys.length) : 4 * sumF (flZ lv ys) ys.length ≤ 3 * pw lv ∧ (6 ≤ lv → pw lv ≤ 2 * sumF (flZ lv ys) ys.length) ∧ sumF (flZ lv ys) ys.length < pw lv := by
  obtain ⟨a, b⟩ := fill_sums h h0 hS ys.length (Nat.le_refl _)
  have hr := h
  rw [rightL_def] at hr
  have p := pw_pos lv
  generalize sumF ys ys.length = S at *
  generalize sumF (flZ lv ys) ys.length = Z at *
  have a2 : S * (4 * Z) ≤ S * (3 * pw lv) := by
    rw [show S * (4 * Z) = 4 * S * Z by rw [Int.mul_left_comm, Int.mul_assoc]]; exact a
  have b2 : S * (3 * pw lv) ≤ S * (4 * (Z + ys.length)) := by
    rw [show S * (4 * (Z + ys.length)) = 4 * S * (Z + ys.length) by rw [Int.mul_left_comm, Int.mul_assoc]]; exact b
  have a3 := Int.le_of_mul_le_mul_left a2 hS
  have b3 := Int.le_of_mul_le_mul_left b2 hS
  refine ⟨a3, fun h6 => ?_, by omega⟩
  have p6 := pw_mono h6
  have e6 : pw 6 = 64 := by rw [pw_def]; decide
  omega
theorem fill_none {lv : Int} {ys : List Int} (h : lv = 0 ∨ sumF ys ys.length = 0) : sumF (flZ lv ys) ys.length = 0 := by
  have e : flZ lv ys = List.replicate ys.length 0 := by
    unfold flZ
    split
    · rename_i hh
      rcases h with h | h
      · exact absurd h hh.2
      · rw [h]
        refine List.ext_getElem (by rw [List.length_map, List.length_replicate]) fun k k1 k2 => ?_
        simp only [List.getElem_map, List.getElem_replicate, fillN_zero]
    · rfl
  rw [e]
  have key : ∀ n m : Nat, sumF (List.replicate m 0) n = 0 := fun n m => by
    induction n with
    | zero => rfl
    | succ n ih =>
      show sumF _ n + szF ((List.replicate m 0).getD n 0) = 0
      rw [ih]
      have : (List.replicate m (0 : Int)).getD n 0 = 0 := by
        rw [List.getD_eq_getElem?_getD, List.getElem?_replicate]; split <;> rfl
      rw [this, szF_def]; decide
  exact key _ _
theorem fill_signs {lv : Int} {ys : List Int} {i : Nat} (hi : i < ys.length) : ((flZ lv ys).getD i 0 < 0 → ys.getD i 0 < 0) ∧ (0 < (flZ lv ys).getD i 0 → 0 < ys.getD i 0) := by
  by_cases hh : rightL lv ys ∧ lv ≠ 0
  · rw [flZ_at hh.1 hh.2 hi]
    exact fillN_sign (sumF_in ys _).1
  · unfold flZ
    rw [if_neg hh]
    have : (List.replicate ys.length (0 : Int)).getD i 0 = 0 := by
      rw [List.getD_eq_getElem?_getD, List.getElem?_replicate]; split <;> rfl
    rw [this]; omega
theorem flZ_in {lv : Int} {ys : List Int} {i : Nat} (hi : i < ys.length) : -25165824 ≤ (flZ lv ys).getD i 0 ∧ (flZ lv ys).getD i 0 ≤ 25165824 := by
  by_cases hh : rightL lv ys ∧ lv ≠ 0
  · rw [flZ_at hh.1 hh.2 hi]
    have hr := hh.1
    rw [rightL_def] at hr
    exact fillN_in hr.1 (hr.2.2 _ (mem_at hi))
  · unfold flZ
    rw [if_neg hh]
    have : (List.replicate ys.length (0 : Int)).getD i 0 = 0 := by
      rw [List.getD_eq_getElem?_getD, List.getElem?_replicate]; split <;> rfl
    rw [this]; omega

/-! ### pulses off bytes -/
noncomputable def q9 (zs : List Int) (n : Nat) : List Int := (List.range n).map fun j => (zs.getD j 0).tmod 9
theorem q9_len (zs : List Int) (n : Nat) : (q9 zs n).length = n := by simp [q9]
theorem q9_next (zs : List Int) (n : Nat) : q9 zs (n + 1) = q9 zs n ++ [(zs.getD n 0).tmod 9] := by simp [q9, List.range_succ]
theorem q9_in {zs : List Int} {n : Nat} : ∀ y ∈ q9 zs n, -8 ≤ y ∧ y ≤ 8 := fun y hy => by
  unfold q9 at hy
  obtain ⟨j, _, rfl⟩ := List.mem_map.1 hy
  have := tmod_bound (a := zs.getD j 0) (b := 9) (by decide)
  omega
theorem sumF_rel' {xs ys : List Int} {c : Int} : ∀ n : Nat, (∀ i, i < n → szF (ys.getD i 0) = c * szF (xs.getD i 0)) → sumF ys n = c * sumF xs n
  | 0, _ => by show (0 : Int) = c * 0; omega
  | n + 1, h => by
    show sumF ys n + szF (ys.getD n 0) = c * (sumF xs n + szF (xs.getD n 0))
    rw [sumF_rel' n fun i hi => h i (by omega), h n (by omega), Int.mul_add]
theorem sumF_same {xs ys : List Int} {n : Nat} (h : ∀ i, i < n → xs.getD i 0 = ys.getD i 0) : sumF xs n = sumF ys n := by
  have := sumF_rel' (c := 1) (xs := ys) (ys := xs) n fun i hi => by rw [h i hi, Int.one_mul]
  rw [this, Int.one_mul]
end Go.Proofs.YtmkdamfdlkpjdaaDoor
