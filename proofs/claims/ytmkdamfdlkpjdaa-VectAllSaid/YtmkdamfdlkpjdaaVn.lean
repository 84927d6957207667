/- Chapter vect: all vectors, in order (plain). -/
import Derived.Test.YtmkdamfdlkpjdaaVj
set_option linter.all false
namespace Go.Proofs.Ytmkdamfdlkpjdaa
open Go.RowKit (Below)
open Go.WideMaps
set_option maxRecDepth 100000
set_option maxHeartbeats 4000000

/-- All vectors of n numbers with k pulses, in order. -/
def allV : Nat → Int → List (List Int)
  | 0, k => if k = 0 then [[]] else []
  | n + 1, k => (List.range (2 * k + 1).toNat).flatMap fun (t : Nat) => (allV n (k - szV ((t : Int) - k))).map fun y => ((t : Int) - k) :: y
/-- Those whose first number is one of the first s. -/
def preV (n : Nat) (k : Int) (s : Nat) : List (List Int) := (List.range s).flatMap fun (t : Nat) => (allV n (k - szV ((t : Int) - k))).map fun y => ((t : Int) - k) :: y
theorem allV_succ (n : Nat) (k : Int) : allV (n + 1) k = preV n k (2 * k + 1).toNat := rfl
theorem preV_zero (n : Nat) (k : Int) : preV n k 0 = [] := rfl
theorem preV_succ (n : Nat) (k : Int) (s : Nat) : preV n k (s + 1) = preV n k s ++ (allV n (k - szV ((s : Int) - k))).map fun y => ((s : Int) - k) :: y := by
  simp [preV, List.range_succ, List.flatMap_append]
theorem left_in {k : Int} (hk : 0 ≤ k ∧ k ≤ 8) {s : Nat} (hs : (s : Int) < 2 * k + 1) : 0 ≤ k - szV ((s : Int) - k) ∧ k - szV ((s : Int) - k) ≤ 8 := by
  have h1 := szV_abs (x := (s : Int) - k) (by omega)
  have h2 := szV_in ((s : Int) - k)
  rw [h1] at h2 ⊢
  unfold absI at h2 ⊢
  omega
theorem allV_of : ∀ (n : Nat) (k : Int), 0 ≤ k ∧ k ≤ 8 → ∀ y ∈ allV n k, y.length = n ∧ sumA y y.length = k
  | 0, k, _, y, hy => by
    unfold allV at hy
    split at hy
    · rename_i h
      rw [List.mem_singleton.1 hy]
      exact ⟨rfl, h.symm⟩
    · cases hy
  | n + 1, k, hk, y, hy => by
    rw [allV] at hy
    obtain ⟨t, ht, hy⟩ := List.mem_flatMap.1 hy
    obtain ⟨B, hB, rfl⟩ := List.mem_map.1 hy
    have ht' := List.mem_range.1 ht
    have hl := left_in hk (s := t) (by omega)
    obtain ⟨h1, h2⟩ := allV_of n _ hl B hB
    refine ⟨by rw [List.length_cons, h1], ?_⟩
    rw [sumA_cons, h2]; omega
theorem preV_len {n : Nat} (hn : n ≤ 7) {k : Int} (hk : 0 ≤ k ∧ k ≤ 8) (ih : ∀ k : Int, 0 ≤ k ∧ k ≤ 8 → ((allV n k).length : Int) = cN n k) : ∀ s : Nat, (s : Int) ≤ 2 * k + 1 → ((preV n k s).length : Int) = rnk n k s
  | 0, _ => rfl
  | s + 1, hs => by
    have h1 := preV_len hn hk ih s (by omega)
    have h2 := ih _ (left_in hk (s := s) (by omega))
    rw [preV_succ, List.length_append, List.length_map]
    show _ = rnk n k s + cN n (k - szV (s - k))
    rw [← h1, ← h2]; omega
theorem allV_len : ∀ (n : Nat), n ≤ 8 → ∀ (k : Int), 0 ≤ k ∧ k ≤ 8 → ((allV n k).length : Int) = cN n k
  | 0, _, k, hk => by
    unfold allV
    split
    · rename_i h
      subst h
      exact cN_zero.symm
    · rename_i h
      exact (cN_none (by omega) hk.2).symm
  | n + 1, hn, k, hk => by
    rw [allV_succ, preV_len (by omega) hk (allV_len n (by omega)) _ (by omega), rnk_all (by omega) hk]
    rfl
theorem preV_rank {n : Nat} (hn : n ≤ 7) {k : Int} (hk : 0 ≤ k ∧ k ≤ 8) (ih : ∀ k : Int, 0 ≤ k ∧ k ≤ 8 → ∀ (i : Nat) y, (allV n k)[i]? = some y → rank y k = i) : ∀ s : Nat, (s : Int) ≤ 2 * k + 1 → ∀ (i : Nat) y, (preV n k s)[i]? = some y → rank y k = i
  | 0, _, i, y, h => by rw [preV_zero] at h; cases h
  | s + 1, hs, i, y, h => by
    rw [preV_succ] at h
    have hlen := preV_len hn hk (allV_len n (by omega)) s (by omega)
    rcases Nat.lt_or_ge i (preV n k s).length with hi | hi
    · rw [List.getElem?_append_left hi] at h
      exact preV_rank hn hk ih s (by omega) i y h
    · rw [List.getElem?_append_right hi, List.getElem?_map] at h
      obtain ⟨B, hB, rfl⟩ := Option.map_eq_some_iff.1 h
      have hl := left_in hk (s := s) (by omega)
      have h1 := ih _ hl _ _ hB
      have h2 := (allV_of n _ hl B (List.mem_of_getElem? hB)).1
      show rnk B.length k ((s : Int) - k + k).toNat + rank B (k - szV ((s : Int) - k)) = i
      rw [h1, h2, show ((s : Int) - k + k).toNat = s by omega, ← hlen]
      omega
theorem allV_rank : ∀ (n : Nat), n ≤ 8 → ∀ (k : Int), 0 ≤ k ∧ k ≤ 8 → ∀ (i : Nat) y, (allV n k)[i]? = some y → rank y k = i
  | 0, _, k, hk, i, y, h => by
    unfold allV at h
    split at h
    · match i, h with
      | 0, h => rw [← Option.some.inj h]; rfl
      | i + 1, h => cases h
    · cases h
  | n + 1, hn, k, hk, i, y, h => by
    rw [allV_succ] at h
    exact preV_rank (by omega) hk (allV_rank n (by omega)) _ (by omega) i y h
end Go.Proofs.Ytmkdamfdlkpjdaa
