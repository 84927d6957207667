/- Chapter state: the law StateQuiet, walked. -/
import Derived.Test.YtbgjmlncdlcglaaBsf
set_option linter.all false
namespace Go.Proofs.Ytbgjmlncdlcglaa
open Go.RowKit (Below)
set_option maxRecDepth 100000
set_option maxHeartbeats 32000000

/-- Nothing is laid behind a sample: it falls. -/
theorem lay1_falls {l : Int} (h : -29999 ≤ l ∧ l ≤ 29999) : (0 ≤ l → 0 ≤ lay1 l 0 ∧ lay1 l 0 ≤ l) ∧ (l ≤ 0 → l ≤ lay1 l 0 ∧ lay1 l 0 ≤ 0) := by
  unfold lay1
  rw [c22_none, Int.zero_add, c22_def, c22_le]
  constructor
  · intro h0
    rw [tdiv_pos (by omega)]
    omega
  · intro h0
    rw [tdiv_neg (by omega)]
    omega
noncomputable abbrev aQ (n : Int) (k : Nat) : Int := layP n z16 k
theorem aQ_succ (n : Int) (k : Nat) : aQ n (k + 1) = lay1 (aQ n k) 0 := by
  show lay1 (layP n z16 k) (z16.getD k 0) = _
  rw [z16_at]
theorem aQ_in {n : Int} (h : -29999 ≤ n ∧ n ≤ 29999) : ∀ k, -29999 ≤ aQ n k ∧ aQ n k ≤ 29999
  | 0 => h
  | k + 1 => by
    have ih := aQ_in h k
    have := lay1_falls ih
    rw [aQ_succ]
    rcases Int.le_total 0 (aQ n k) with h0 | h0
    · have := this.1 h0; omega
    · have := this.2 h0; omega
abbrev stQ (n : Int) : St := ⟨z16, n, z4, z16, 0⟩
theorem stQ_ok {n q : Int} (h : -29999 ≤ n ∧ n ≤ 29999) (h0 : 0 ≤ q) (h1 : q ≤ 255) : okN (stQ n) z4 z16 q := by
  have z0 := right_st0
  rw [rightP_def] at z0
  refine ⟨?_, ?_⟩ <;> rw [rightP_def]
  · exact ⟨z0.1, z0.2.1, ⟨by show -2097152 ≤ n; omega, by show n ≤ 2097151; omega⟩, z0.2.2.2⟩
  · exact ⟨z0.1, z0.2.1, z0.2.2.1, z0.2.2.2.1, h0, h1⟩
theorem c22_small {n : Int} (h : -29999 ≤ n ∧ n ≤ 29999) : c22 n = n := by rw [c22_def, c22_le]; omega
theorem outQ_at {n q : Int} (h : -29999 ≤ n ∧ n ≤ 29999) (h0 : 0 ≤ q) (h1 : q ≤ 255) {i : Nat} (hi : i < 16) : (outN (stQ n) z4 z16 q).getD i 0 = aQ n (i + 1) := by
  rw [outN_ok (stQ_ok h h0 h1)]
  unfold soundZ
  rw [getD_map (by rw [laidZ_len]; exact hi)]
  unfold laidZ
  show c16 ((layZ (c22 n) (overZ z16 (back1 z16))).getD i 0) = _
  rw [c22_small h, back1_none, overZ_zero]
  unfold layZ
  rw [getD_range (by exact hi)]
  have := aQ_in h (i + 1)
  show c16 (aQ n (i + 1)) = _
  rw [cut16]
  omega
theorem quiet_law (n q : Int) (hn : InK .i64 n) (hq : InK .u8 q) : walk2 FSb 0 Try.f23 [i64 n, u8 q] [] fun y _ => y = vb true := by
  obtain ⟨q1, q2⟩ := hq
  simp only [lowK, highK] at q1 q2
  repeat' ((conv => whnf); first | fail)
  conv => whnf
  refine And.intro (by decide) fun r hr => ?_
  have hb := tmod_bound (a := n) (b := 30000) (by decide)
  rw [← hr] at hb
  have h : -29999 ≤ r ∧ r ≤ 29999 := by omega
  clear hr hb
  have ok := stQ_ok (q := q) h q1 q2
  repeat' ((conv => whnf); first | (refine And.intro ⟨rfl, rfl, rfl, rfl, rfl⟩ ?_) | (refine ask_wrap64 (by omega) (by omega) ?_) | fail)
  conv => whnf
  refine loop_at (8 :: 9 :: List.range' 25 40) (fun m (i : Int) => 0 ≤ i ∧ i ≤ 16 ∧ m = (16 - i).toNat) (fun i => [(8, vi (aQ r i.toNat)), (9, vi i)]) (fun _ => [ob (outN (stQ r) z4 z16 q), sb (stN (stQ r) z4 z16 q)]) 16 0 ⟨by decide, by decide, rfl⟩ ?_ ?_
  · exact ⟨rfl, ⟨⟨Nat.le_of_ble_eq_true rfl, rfl⟩, ⟨Nat.le_of_ble_eq_true rfl, rfl⟩, trivial⟩, ⟨rfl, rfl, trivial⟩, rfl, rfl, Nat.zero_le _⟩
  · rintro m i ⟨i0, i1, rfl⟩
    have em : mulN i.toNat (Try.prog.types[3]).size = i.toNat := mulN1 i.toNat
    rcases Int.lt_or_le i 16 with i2 | i2
    · have e1 : (outN (stQ r) z4 z16 q).getD (mulN i.toNat (Try.prog.types[3]).size) 0 = aQ r (i.toNat + 1) := by rw [em]; exact outQ_at h q1 q2 (by omega)
      have b0 := aQ_in h i.toNat
      have b1 := lay1_falls b0
      rw [← aQ_succ, ← e1] at b1
      obtain ⟨A, hA⟩ : ∃ A, A = aQ r i.toNat := ⟨_, rfl⟩
      obtain ⟨B, hB⟩ : ∃ B, B = (outN (stQ r) z4 z16 q).getD (mulN i.toNat (Try.prog.types[3]).size) 0 := ⟨_, rfl⟩
      rw [← hA] at b0
      rw [← hA, ← hB] at b1
      rw [← hB] at e1
      have esel : vi (aQ r i.toNat) = vi A := by rw [hA]
      rw [esel]
      have fin : vi B = vi (aQ r (i + 1).toNat) := by rw [e1, show (i + 1).toNat = i.toNat + 1 by omega]
      rw [hB] at fin
      rcases Int.lt_trichotomy B 0 with hs | hs | hs
      all_goals repeat' ((conv => whnf); first | (refine ask_true (by omega) ?_) | (refine ask_false (by omega) ?_) | (refine And.intro (by omega) ?_) | (refine fun (_ : InK _ _) => ?_) | (refine ask_wrap64 (by omega) (by omega) ?_) | (refine ⟨by kernel_rfl, ?_⟩) | fail)
      all_goals conv => whnf
      all_goals exact ⟨(16 - (i + 1)).toNat, i + 1, by omega, ⟨by omega, by omega, rfl⟩, rfl, ⟨⟨Nat.le_of_ble_eq_true rfl, fin⟩, ⟨Nat.le_of_ble_eq_true rfl, rfl⟩, trivial⟩, ⟨rfl, rfl, trivial⟩, rfl, rfl, Nat.zero_le _⟩
    · have hi : i = 16 := by omega
      subst hi
      have e15 : (outN (stQ r) z4 z16 q).getD (mulN (Int.toNat 15) (Try.prog.types[3]).size) 0 = aQ r 16 := by
        have em15 : mulN (Int.toNat 15) (Try.prog.types[3]).size = 15 := mulN1 _
        rw [em15]; exact outQ_at h q1 q2 (i := 15) (by decide)
      have el : (stN (stQ r) z4 z16 q).l = aQ r 16 := by
        rw [stN_ok ok]
        show layP (c22 r) (overZ z16 (back1 z16)) 16 = _
        rw [c22_small h, back1_none, overZ_zero]
      have em' : (stN (stQ r) z4 z16 q).m = z16 := by rw [stN_ok ok]; exact memZ_none
      have eq' : (stN (stQ r) z4 z16 q).q = q := by rw [stN_ok ok]
      repeat' ((conv => whnf); first | (refine ask_false (by omega) ?_) | (refine And.intro (by decide) ?_) | (refine fun (_ : InK _ _) => ?_) | (refine ask_true (el.trans e15.symm) ?_) | (refine ask_same em' ?_) | (refine ask_wrap64 (by omega) (by omega) ?_) | (refine ask_true eq' ?_) | rfl | fail)
theorem law_StateQuiet (n : Int) (hn : InK .i64 n) (q : Int) (hq : InK .u8 q) (w0 : World) : Calls Try.prog 23 #[.int .i64 n, .int .u8 q] w0 fun e w' => e = .returned (.bool true) ∧ Below w0.heap.size w0 w' :=
  walk2_true FSb_ok Try.func23 (ws := [i64 n, u8 q]) ⟨hn, hq, trivial⟩ rfl (n := 0) (quiet_law n q hn hq) w0
end Go.Proofs.Ytbgjmlncdlcglaa
