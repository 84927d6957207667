/- Chapter tilt: the law TiltDies, walked. -/
import Derived.Test.YtcikcejpmjbckaaXtp
set_option linter.all false
namespace Go.Proofs.Ytcikcejpmjbckaa
open Go.RowKit (Below)
set_option maxRecDepth 100000
set_option maxHeartbeats 32000000

/-- How great a sample can be behind so many ones of nothing. -/
def gI : Nat → Int
  | 0 => 2097152
  | k + 1 => 27853 * gI k / 32768
theorem gI_nonneg : ∀ k, 0 ≤ gI k
  | 0 => by decide
  | k + 1 => by have := gI_nonneg k; rw [gI]; omega
theorem gI_end : gI 320 = 0 := by decide +kernel
theorem lay_zero {l : Int} (h : -2097152 ≤ l ∧ l ≤ 2097151) (k : Nat) : layP l z16 (k + 1) = (27853 * layP l z16 k).tdiv 32768 := by
  have b := td28 (lay_bound (xs := z16) h k)
  rw [layP, lay1, z16_getD]
  have h1 := cut22 0
  rw [h1, cut22]
  omega
theorem lay_falls {l : Int} (h : -2097152 ≤ l ∧ l ≤ 2097151) (k : Nat) : (0 ≤ layP l z16 k → 0 ≤ layP l z16 (k + 1) ∧ layP l z16 (k + 1) ≤ layP l z16 k ∧ layP l z16 (k + 1) ≤ 27853 * layP l z16 k / 32768) ∧
    (layP l z16 k ≤ 0 → layP l z16 k ≤ layP l z16 (k + 1) ∧ layP l z16 (k + 1) ≤ 0 ∧ -(27853 * (-layP l z16 k) / 32768) ≤ layP l z16 (k + 1)) := by
  rw [lay_zero h]
  constructor
  · intro h0
    rw [tdiv_pos (by omega)]; omega
  · intro h0
    rw [tdiv_neg (by omega)]; omega
theorem lay_gI {l : Int} (h : -2097152 ≤ l ∧ l ≤ 2097151) {m : Nat} (hm : -gI m ≤ l ∧ l ≤ gI m) : ∀ k, -gI (m + k) ≤ layP l z16 k ∧ layP l z16 k ≤ gI (m + k)
  | 0 => hm
  | k + 1 => by
    have ih := lay_gI h hm k
    obtain ⟨f1, f2⟩ := lay_falls h k
    rw [show m + (k + 1) = m + k + 1 by omega, gI]
    generalize gI (m + k) = g at *
    generalize layP l z16 (k + 1) = v at *
    generalize layP l z16 k = a at *
    rcases Int.lt_or_le a 0 with h0 | h0
    · have := f2 (by omega); omega
    · have := f1 h0; omega

theorem law_TiltDies (l : Int) (hl : InK .i64 l) (w0 : World) : Calls Try.prog 8 #[.int .i64 l] w0 fun e w' => e = .returned (.bool true) ∧ Below w0.heap.size w0 w' := by
  refine walk1_true FV_ok Try.func8 (ws := [i64 l]) ⟨hl, trivial⟩ rfl (n := 0) ?_ w0
  conv => whnf
  refine ⟨⟨by decide, by decide⟩, ?_⟩
  rw [← c22_def]
  have lb := c22_bound l
  generalize c22 l = n₀ at *
  conv => whnf
  refine loop_at2 (List.range' 3 66) (fun m (f n : Int) => 0 ≤ f ∧ f ≤ 20 ∧ m = (20 - f).toNat ∧ (-2097152 ≤ n ∧ n ≤ 2097151) ∧ (-gI (16 * f.toNat) ≤ n ∧ n ≤ gI (16 * f.toNat))) (fun f n => [(3, vi n), (4, vi f)]) (fun _ _ => []) 20 0 n₀ ⟨by decide, by decide, rfl, lb, by show -2097152 ≤ _ ∧ _ ≤ 2097152; omega⟩ ?_ ?_
  · exact ⟨rfl, ⟨⟨Nat.le_of_ble_eq_true rfl, rfl⟩, ⟨Nat.le_of_ble_eq_true rfl, rfl⟩, trivial⟩, trivial, rfl, rfl, Nat.le_of_ble_eq_true rfl⟩
  · rintro m f n ⟨f0, f1, rfl, nb, ng⟩
    rcases Int.lt_or_le f 20 with f2 | f2
    · have cn : c22 n = n := by rw [cut22]; omega
      have em15 : mulN (Int.toNat 15) (Try.prog.types[3]).size = 15 := mulN1 15
      have zl : ∀ m : Nat, m < 16 → (layZ n z16).getD m 0 = layP n z16 (m + 1) := fun m hm => by unfold layZ; exact getD_range hm
      repeat' ((conv => whnf); first | (refine ask_true (by omega) ?_) | (refine ask_wrap64 (by omega) (by omega) ?_) | (refine ⟨rfl, ?_⟩) | fail)
      refine loop_at (7 :: 8 :: List.range' 24 40) (fun m (i : Int) => 0 ≤ i ∧ i ≤ 16 ∧ m = (16 - i).toNat) (fun i => [(7, vi (layP n z16 i.toNat)), (8, vi i)]) (fun i => [ob (layZ n z16)]) 16 0 ⟨by decide, by decide, rfl⟩ ?_ ?_
      · exact ⟨rfl, ⟨⟨Nat.le_of_ble_eq_true rfl, rfl⟩, ⟨Nat.le_of_ble_eq_true rfl, rfl⟩, trivial⟩, ⟨congrArg (fun n => ob (layZ n z16)) cn.symm, trivial⟩, rfl, rfl, Nat.le_of_ble_eq_true rfl⟩
      · rintro m i ⟨h0, h1, rfl⟩
        have em : mulN i.toNat (Try.prog.types[3]).size = i.toNat := mulN1 _
        rcases Int.lt_or_le i 16 with h2 | h2
        · have e1 : (layZ n z16).getD (mulN i.toNat (Try.prog.types[3]).size) 0 = layP n z16 (i.toNat + 1) := by rw [em]; exact zl _ (by omega)
          obtain ⟨g1, g2⟩ := lay_falls nb i.toNat
          have b1 := lay_bound (xs := z16) nb i.toNat
          have b2 := lay_bound (xs := z16) nb (i.toNat + 1)
          repeat' ((conv => whnf); first | (refine ask_wrap64 (by omega) (by omega) ?_) | (refine ask_true (by omega) ?_) | (refine ask_false (by omega) ?_) | (refine ⟨by omega, ?_⟩) | (refine fun (_ : InK _ _) => ?_) | (refine ⟨by kernel_rfl, ?_⟩) | (refine ask_split (fun _ => ?_) (fun _ => ?_)) | fail)
          all_goals refine ⟨(16 - (i + 1)).toNat, i + 1, by omega, ⟨by omega, by omega, rfl⟩, rfl, ⟨⟨Nat.le_of_ble_eq_true rfl, ?_⟩, ⟨Nat.le_of_ble_eq_true rfl, rfl⟩, trivial⟩, ⟨rfl, trivial⟩, rfl, rfl, Nat.le_of_ble_eq_true rfl⟩
          all_goals exact vi_eq (e1.trans (by rw [show (i + 1).toNat = i.toNat + 1 by omega]))
        · have hi : i = 16 := by omega
          subst hi
          have e15 : (layZ n z16).getD (mulN (Int.toNat 15) (Try.prog.types[3]).size) 0 = layP n z16 16 := by rw [em15]; exact zl 15 (by decide)
          have hne : ¬ (layP (c22 n) z16 16 ≠ (layZ n z16).getD (mulN (Int.toNat 15) (Try.prog.types[3]).size) 0) := fun hh => hh (by rw [cn, e15])
          repeat' ((conv => whnf); first | (refine ask_wrap64 (by omega) (by omega) ?_) | (refine ask_true (by omega) ?_) | (refine ask_false hne ?_) | (refine ask_false (by omega) ?_) | (refine ⟨by omega, ?_⟩) | (refine fun (_ : InK _ _) => ?_) | (refine ⟨by kernel_rfl, ?_⟩) | fail)
          have lb2 := lay_bound (xs := z16) nb 16
          have lg := lay_gI nb ng 16
          rw [show 16 * f.toNat + 16 = 16 * (f + 1).toNat by omega] at lg
          exact ⟨(20 - (f + 1)).toNat, (f + 1, layP n z16 16), by omega, ⟨by omega, by omega, rfl, lb2, lg⟩, rfl, ⟨⟨Nat.le_of_ble_eq_true rfl, congrArg (fun n => vi (layP n z16 16)) cn⟩, ⟨Nat.le_of_ble_eq_true rfl, rfl⟩, trivial⟩, trivial, rfl, rfl, Nat.le_of_ble_eq_true rfl⟩
    · have hf : f = 20 := by omega
      subst hf
      have ge : gI (16 * (20 : Int).toNat) = 0 := gI_end
      have n0 : n = 0 := by omega
      repeat' ((conv => whnf); first | (refine ask_false (by omega) ?_) | (refine ask_true n0 ?_) | rfl | fail)
end Go.Proofs.Ytcikcejpmjbckaa
