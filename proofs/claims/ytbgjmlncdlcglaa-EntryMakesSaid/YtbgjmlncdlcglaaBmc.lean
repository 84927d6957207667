/- Chapter mdct: the way back, what is laid over; contracts. -/
import Derived.Test.YtbgjmlncdlcglaaBmb
set_option linter.all false
namespace Go.Proofs.Ytbgjmlncdlcglaa
open Go.RowKit (Below)
set_option maxRecDepth 100000
set_option maxHeartbeats 32000000

/-! ### over -/
theorem p31 : pw 31 = 2147483648 := by rw [pw_def]; decide
theorem cut32 (x : Int) : cutS x 32 = max (min x 2147483647) (-2147483648) := by
  rw [cut_eq x (by decide) (by decide)]
  show max (min x (pw 31 - 1)) (-pw 31) = _
  rw [p31]; rfl
theorem cut32_bound (x : Int) : -2147483648 ≤ cutS x 32 ∧ cutS x 32 ≤ 2147483647 := by rw [cut32]; omega
noncomputable def over1 (x y : Int) : Int := cutS (cutS x 32 + cutS y 32) 32
noncomputable def overZ (xs ys : List Int) : List Int := (List.range 16).map fun i => over1 (xs.getD i 0) (ys.getD i 0)
theorem overZ_len (xs ys : List Int) : (overZ xs ys).length = 16 := by simp [overZ]
theorem over_walk (xs ys : List Int) (h : xs.length = 16) (h' : ys.length = 16) (hx : ∀ x ∈ xs, InK .i64 x) (hy : ∀ x ∈ ys, InK .i64 x) : walk FCut 0 Try.f42 [ar 16 xs, ar 16 ys] [] fun y _ => y = .w (ar 16 (overZ xs ys)) := by
  conv => whnf
  refine loop_at (6 :: List.range' 7 16) (fun m (i : Int) => 0 ≤ i ∧ i ≤ 16 ∧ m = (16 - i).toNat) (fun i => [(7, vi i)]) (fun i => [ob xs, ob ys, ob z16, ob (stg (overZ xs ys) z16 i)]) 16 0 ⟨by decide, by decide, rfl⟩ ?_ ?_
  · exact ⟨rfl, ⟨⟨Nat.le_of_ble_eq_true rfl, rfl⟩, trivial⟩, ⟨rfl, rfl, rfl, by rw [stg_zero]; rfl, trivial⟩, rfl, rfl, Nat.zero_le _⟩
  · rintro m i ⟨h0, h1, rfl⟩
    have em : mulN i.toNat (Try.prog.types[3]).size = i.toNat := mulN1 i.toNat
    rcases Int.lt_or_le i 16 with h2 | h2
    · have c1 := cut32_bound (xs.getD (mulN i.toNat (Try.prog.types[3]).size) 0)
      have c2 := cut32_bound (ys.getD (mulN i.toNat (Try.prog.types[3]).size) 0)
      repeat' ((conv => whnf); first | (refine ask_true (by omega) ?_) | (refine And.intro trivial ?_) | (refine And.intro (by omega) ?_) | (refine fun (_ : InK _ _) => ?_) | (refine ask_wrap64 (by omega) (by omega) ?_) | (refine ⟨by kernel_rfl, ?_⟩) | fail)
      conv => whnf
      refine ⟨(16 - (i + 1)).toNat, i + 1, by omega, ⟨by omega, by omega, rfl⟩, rfl, ⟨⟨Nat.le_of_ble_eq_true rfl, rfl⟩, trivial⟩, ⟨rfl, rfl, rfl, ?_, trivial⟩, rfl, rfl, Nat.zero_le _⟩
      refine congrArg ob (stg_set em (by rw [overZ_len]; rfl) h0 (by rw [overZ_len]; omega) ?_).symm
      unfold overZ
      rw [getD_range (by omega), em]
      rfl
    · have hi : i = 16 := by omega
      subst hi
      rw [stg_all (by rw [overZ_len]; rfl) (by rw [overZ_len]; rfl)]
      repeat' ((conv => whnf); first | (refine ask_false (by omega) ?_) | rfl | fail)

/-! ### back -/
noncomputable def bTerm (w : List Int) (n k : Int) : Int := w.getD k.toNat 0 * kAt n k
theorem bTerm_bound {w : List Int} (h : held w) (n k : Int) : -34359738368 ≤ bTerm w n k ∧ bTerm w n k ≤ 34359738368 := by
  have h1 := held_at h k.toNat
  have h2 := kAt_bound n k
  have h3 := prod_bound h1.1 h1.2 h2.1 h2.2
  unfold bTerm
  omega
noncomputable def backS (w : List Int) (n : Int) : Int := shiftS (shiftS (sumN (bTerm w n) 16) 15 * sinS (2 * n + 1)) 16
noncomputable def backL (w : List Int) : List Int := (List.range 32).map fun (n : Nat) => backS w (n : Int)
theorem backL_len (w : List Int) : (backL w).length = 32 := by simp [backL]
noncomputable def backZ (w : List Int) : List Int := if held w then backL w else z32
theorem backZ_len (w : List Int) : (backZ w).length = 32 := by unfold backZ; split; exact backL_len w; rfl
noncomputable def back1 (w : List Int) : List Int := (backZ w).take 16
noncomputable def back2 (w : List Int) : List Int := (backZ w).drop 16
noncomputable abbrev bH (w out : List Int) : List Blk := [ob w, ob z16, ob z16, o32 out, .own 100 [.ints .i64 128 tabZ, .ints .i64 32 winZ], .own 93 [.one (.cp 4 0)]]
theorem sum16_bound {w : List Int} (h : held w) (n : Int) : -549755813888 ≤ sumN (bTerm w n) 16 ∧ sumN (bTerm w n) 16 ≤ 549755813888 := by
  have := sumN_bound (f := bTerm w n) (b := 34359738368) (m := 16) (fun i _ _ => bTerm_bound h n i) 16 (by omega)
  omega
theorem back_walk (w : List Int) (h : w.length = 16) (hx : ∀ x ∈ w, InK .i64 x) : walk FM 3 Try.f39 [ar 16 w] [] fun y _ => y = .tup [ar 16 (back1 w), ar 16 (back2 w)] := by
  have e0 : mulN (natI 16) (Try.prog.types[3]).size = 16 := mulN1 _
  have e00 : mulN 0 (Try.prog.types[3]).size = 0 := mulN1 _
  have fin : ∀ L : List Int, L.length = 32 → V.tup [W.agg [.ints .i64 16 ((L.drop (mulN 0 (Try.prog.types[3]).size)).take 16)], W.agg [.ints .i64 16 ((L.drop (mulN (natI 16) (Try.prog.types[3]).size)).take 16)]] = .tup [ar 16 (L.take 16), ar 16 (L.drop 16)] := fun L hL => by
    rw [e0, e00, List.drop_zero, List.take_of_length_le (l := L.drop 16) (by simp; omega)]
  conv => whnf
  refine And.intro rfl ?_
  conv => whnf
  refine ask_split (fun h1 => ?_) (fun h1 => ?_)
  · conv => whnf
    refine loop_at (6 :: 7 :: List.range' 11 18) (fun m (n : Int) => 0 ≤ n ∧ n ≤ 32 ∧ m = (32 - n).toNat) (fun n => [(11, vi n)]) (fun n => bH w (stg (backL w) z32 n)) 32 0 ⟨by decide, by decide, rfl⟩ ?_ ?_
    · exact ⟨rfl, ⟨⟨Nat.le_of_ble_eq_true rfl, rfl⟩, trivial⟩, ⟨rfl, rfl, rfl, by rw [stg_zero]; rfl, rfl, rfl, trivial⟩, rfl, rfl, Nat.zero_le _⟩
    · rintro m n ⟨n0, n1, rfl⟩
      have en : mulN n.toNat (Try.prog.types[3]).size = n.toNat := mulN1 _
      rcases Int.lt_or_le n 32 with n2 | n2
      · conv => whnf
        refine ask_true (by omega) ?_
        conv => whnf
        refine loop_at2 (5 :: 6 :: List.range' 8 9) (fun m (k s : Int) => 0 ≤ k ∧ k ≤ 16 ∧ s = sumN (bTerm w n) k.toNat ∧ m = (16 - k).toNat) (fun k s => [(5, vi s), (8, vi k)]) (fun _ _ => bH w (stg (backL w) z32 n) ++ [.own 3 [.one (.ci .i64 n)]]) 16 0 0 ⟨by decide, by decide, (sumN_zero _).symm, rfl⟩ ?_ ?_
        · exact ⟨rfl, ⟨⟨Nat.le_of_ble_eq_true rfl, rfl⟩, ⟨Nat.le_of_ble_eq_true rfl, rfl⟩, trivial⟩, ⟨rfl, rfl, rfl, rfl, rfl, rfl, rfl, trivial⟩, rfl, rfl, Nat.le_of_ble_eq_true rfl⟩
        · rintro m k s ⟨k0, k1, hs, rfl⟩
          have ek : mulN k.toNat (Try.prog.types[3]).size = k.toNat := mulN1 _
          rcases Int.lt_or_le k 16 with k2 | k2
          · have q1 := held_at h1 (mulN k.toNat (Try.prog.types[3]).size)
            have q2 := kAt_bound n k
            have q3 := prod_bound q1.1 q1.2 q2.1 q2.2
            have q4 := mul_bound (a := 2 * n + 1 + 16) (b := 2 * k + 1) (m := 79) (n := 31) (by omega) (by omega) (by omega) (by omega)
            have q7 := sumN_bound (f := bTerm w n) (b := 34359738368) (m := 16) (fun i _ _ => bTerm_bound h1 n i) k.toNat (by omega)
            rw [← hs] at q7
            have q8 : w.getD (mulN k.toNat (Try.prog.types[3]).size) 0 * kAt n k = bTerm w n k := by rw [ek]; rfl
            repeat' ((conv => whnf); first | (refine ask_true (by omega) ?_) | (refine And.intro (by omega) ?_) | (refine fun (_ : InK _ _) => ?_) | (refine ask_wrap64 (by omega) (by omega) ?_) | fail)
            conv => whnf
            refine ⟨[4], vi (kAt n k), rfl, ?_, ?_, ?_⟩
            · repeat' ((conv => whnf); first | (refine ask_wrap64 (by omega) (by omega) ?_) | (refine And.intro (by omega) fun r hr => ?_) | fail)
              have r0 : 0 ≤ r ∧ r < 128 := by
                rw [hr, Int.tmod_eq_emod_of_nonneg (by omega)]; omega
              have er : mulN r.toNat (Try.prog.types[3]).size = r.toNat := mulN1 _
              repeat' ((conv => whnf); first | (refine And.intro (by omega) ?_) | (refine fun (_ : InK _ _) => ?_) | fail)
              conv => whnf
              exact vi_eq ((tab_at er r0.1 r0.2).trans (kAt_mod n0 k0 hr q4.1))
            · show InK .i64 _
              simp only [InK, lowK, highK]; omega
            · repeat' ((conv => whnf); first | (refine ask_wrap64 (by omega) (by omega) ?_) | (refine ⟨by kernel_rfl, ?_⟩) | fail)
              conv => whnf
              refine ⟨(16 - (k + 1)).toNat, (k + 1, _), by show (16 - (k + 1)).toNat < (16 - k).toNat; omega, ⟨by show 0 ≤ k + 1; omega, by show k + 1 ≤ 16; omega, ?_, rfl⟩, rfl, ⟨⟨Nat.le_of_ble_eq_true rfl, rfl⟩, ⟨Nat.le_of_ble_eq_true rfl, rfl⟩, trivial⟩, ⟨rfl, rfl, rfl, rfl, rfl, rfl, rfl, trivial⟩, rfl, rfl, Nat.le_of_ble_eq_true rfl⟩
              show s + _ = sumN (bTerm w n) (k + 1).toNat
              rw [sumN_int _ k0, ← hs, q8]
          · have hk : k = 16 := by omega
            subst hk
            have hs' : s = sumN (bTerm w n) 16 := hs
            have b1 := sum16_bound h1 n
            rw [← hs'] at b1
            have b2 := shift15 (x := s) (by omega)
            have b3 := sin_bound (2 * n + 1)
            have hW : winZ.getD (mulN n.toNat (Try.prog.types[3]).size) 0 = sinS (2 * n + 1) := win_of en n0 n2
            rw [← hW] at b3
            have b4 := prod_bound (a := shiftS s 15) (b := winZ.getD (mulN n.toNat (Try.prog.types[3]).size) 0) (m := 16777216) (n := 32768) (by omega) (by omega) b3.1 b3.2
            repeat' ((conv => whnf); first | (refine ask_false (by omega) ?_) | (refine And.intro trivial ?_) | (refine And.intro (by omega) ?_) | (refine fun (_ : InK _ _) => ?_) | (refine ⟨by kernel_rfl, ?_⟩) | (refine ask_wrap64 (by omega) (by omega) ?_) | fail)
            conv => whnf
            refine ⟨(32 - (n + 1)).toNat, n + 1, by omega, ⟨by omega, by omega, rfl⟩, rfl, ⟨⟨Nat.le_of_ble_eq_true rfl, rfl⟩, trivial⟩, ⟨rfl, rfl, rfl, ?_, rfl, rfl, trivial⟩, rfl, rfl, Nat.zero_le _⟩
            refine congrArg o32 (stg_set en (by rw [backL_len]; rfl) n0 (by rw [backL_len]; omega) ?_).symm
            unfold backL
            rw [getD_range (by omega), Int.toNat_of_nonneg n0, hW, hs']
            rfl
      · have hn : n = 32 := by omega
        subst hn
        rw [stg_all (by rw [backL_len]; rfl) (by rw [backL_len]; rfl)]
        repeat' ((conv => whnf); first | (refine ask_false (by omega) ?_) | (refine And.intro (by omega) ?_) | (refine And.intro (by decide) ?_) | (refine ⟨by kernel_rfl, ?_⟩) | fail)
        conv => whnf
        unfold back1 back2
        rw [show backZ w = backL w from if_pos h1]
        exact fin _ (backL_len w)
  · repeat' ((conv => whnf); first | (refine And.intro (by omega) ?_) | (refine And.intro (by decide) ?_) | (refine ⟨by kernel_rfl, ?_⟩) | fail)
    conv => whnf
    unfold back1 back2
    rw [show backZ w = z32 from if_neg h1]
    exact fin _ rfl
end Go.Proofs.Ytbgjmlncdlcglaa
