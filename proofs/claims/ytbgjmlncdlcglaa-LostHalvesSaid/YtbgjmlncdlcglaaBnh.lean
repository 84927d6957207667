/- Chapter lost: the law LostHalves, walked. -/
import Derived.Test.YtbgjmlncdlcglaaBng
set_option linter.all false
namespace Go.Proofs.Ytbgjmlncdlcglaa
open Go.RowKit (Below)
set_option maxRecDepth 100000
set_option maxHeartbeats 32000000

noncomputable abbrev ran (s : St) (k : Int) (c : Nat) (rest : List Int) : Blk := .own 38 [.ints .i64 (c * 16) (outsL s k.toNat ++ rest)]
theorem law_LostHalves (xs : List Int) (h : xs.length = 38) (hx : ∀ x ∈ xs, InK .i64 x) (n : Int) (hn : InK .u8 n) (w0 : World) : Calls Try.prog 18 #[.agg (xs.map (Value.int .i64)).toArray, .int .u8 n] w0 fun e w' => e = .returned (.bool true) ∧ Below w0.heap.size w0 w' := by
  obtain ⟨s, hs, hd⟩ := st_split xs h hx
  have := walk2_true FLr_ok Try.func18 (ws := [stW s, u8 n]) ⟨hs.rng, hn, trivial⟩ rfl (n := 0) ?_ w0
  · have e : ([stW s, u8 n].map (W.den fun _ => (0, 0))).toArray = #[Value.agg (xs.map (Value.int .i64)).toArray, .int .u8 n] := by rw [← hd]; rfl
    rw [e] at this; exact this
  obtain ⟨n1, n2⟩ := hn
  simp only [lowK, highK] at n1 n2
  rcases Classical.em (rightP s) with h1 | h1
  · rcases Int.lt_or_le 8 s.q with hq | hq
    · repeat' ((conv => whnf); first | (refine And.intro ⟨rfl, rfl, rfl⟩ ?_) | (refine ask_true h1 ?_) | (refine ask_true (by omega) ?_) | rfl | fail)
    · have hr := h1
      rw [rightP_def] at hr
      have hv := hs.v.1
      have hwl := hs.w.1
      repeat' ((conv => whnf); first | (refine And.intro ⟨rfl, rfl, rfl⟩ (And.intro (fun hk => absurd hk (by decide)) (And.intro (fun _ _ c rest h1 h2 h3 => ?_) (by decide)))) | (refine And.intro ⟨rfl, rfl, rfl⟩ ?_) | (refine ask_true h1 ?_) | (refine ask_false (by omega) ?_) | (refine ask_wrap64 (by omega) (by omega) ?_) | fail)
      conv => whnf
      refine And.intro (by omega) fun k hk => ?_
      rw [Int.tmod_eq_emod_of_nonneg (by omega)] at hk
      have k1 := Int.emod_nonneg n (b := 9 - s.q) (by omega)
      have k2 := Int.emod_lt_of_pos n (b := 9 - s.q) (by omega)
      rw [← hk] at k1 k2
      clear hk
      have facts := iter_halves h1 k.toNat (by omega)
      have hwb : ∀ i, -1048576 ≤ s.w.getD i 0 ∧ s.w.getD i 0 ≤ 1048576 := held_at hr.2.2.2.1
      have ik := iter_right h1 k.toNat
      have hvk := (iterS_ok hs k.toNat).v.1
      have hwk := (iterS_ok hs k.toNat).w.1
      rcases Int.lt_or_le 0 k with kp | kp
      · repeat' ((conv => whnf); first | (refine And.intro ⟨rfl, rfl, rfl⟩ (And.intro (fun hk => absurd hk (by omega)) (And.intro (fun _ _ c rest g1 g2 g3 => ?_) (by omega)))) | (refine And.intro ⟨rfl, rfl, rfl⟩ ?_) | (refine ⟨by kernel_rfl, ?_⟩) | fail)
        conv => whnf
        refine loop_at (4 :: 8 :: 9 :: 10 :: List.range' 38 21) (fun m (i : Int) => 0 ≤ i ∧ i ≤ 16 ∧ m = (16 - i).toNat) (fun i => [(8, vi i)]) (fun _ => [rb s, ran s k c rest, sb (iterS s k.toNat)]) 16 0 ⟨by decide, by decide, rfl⟩ ?_ ?_
        · exact ⟨rfl, ⟨⟨Nat.le_of_ble_eq_true rfl, rfl⟩, trivial⟩, ⟨rfl, rfl, rfl, trivial⟩, rfl, rfl, Nat.zero_le _⟩
        · rintro m i ⟨i0, i1, rfl⟩
          have em : mulN i.toNat (Try.prog.types[3]).size = i.toNat := mulN1 i.toNat
          rcases Int.lt_or_le i 16 with i2 | i2
          · have wb := hwb (mulN i.toNat (Try.prog.types[3]).size)
            have fw := facts.2.1 (mulN i.toNat (Try.prog.types[3]).size)
            repeat' ((conv => whnf); first | (refine ask_true (by omega) ?_) | (refine And.intro (by omega) ?_) | (refine fun (_ : InK _ _) => ?_) | fail)
            conv => whnf
            refine loop_at2 (9 :: 10 :: List.range' 46 7) (fun m (j x : Int) => 0 ≤ j ∧ j ≤ k ∧ x = halfN (s.w.getD (mulN i.toNat (Try.prog.types[3]).size) 0) j.toNat ∧ m = (k - j).toNat) (fun j x => [(9, vi x), (10, vi j)]) (fun _ _ => [rb s, ran s k c rest, sb (iterS s k.toNat)]) (k).toNat 0 (s.w.getD (mulN i.toNat (Try.prog.types[3]).size) 0) ⟨by decide, by omega, rfl, by omega⟩ ?_ ?_
            · exact ⟨rfl, ⟨⟨Nat.le_of_ble_eq_true rfl, rfl⟩, ⟨Nat.le_of_ble_eq_true rfl, rfl⟩, trivial⟩, ⟨rfl, rfl, rfl, trivial⟩, rfl, rfl, Nat.zero_le _⟩
            · rintro m j x ⟨j0, j1, hxj, rfl⟩
              have xb := halfN_in wb j.toNat
              rw [← hxj] at xb
              rcases Int.lt_or_le j (k) with j2 | j2
              · repeat' ((conv => whnf); first | (refine ask_true (by omega) ?_) | (refine And.intro (by omega) ?_) | (refine ask_wrap64 (half_bound (by omega) (by omega)).1 (half_bound (by omega) (by omega)).2 ?_) | (refine ask_wrap64 (by omega) (by omega) ?_) | fail)
                conv => whnf
                refine ⟨(k - (j + 1)).toNat, (j + 1, x.tdiv 2), by show (k - (j + 1)).toNat < (k - j).toNat; omega, ⟨by show 0 ≤ j + 1; omega, by show j + 1 ≤ k; omega, ?_, rfl⟩, rfl, ⟨⟨Nat.le_of_ble_eq_true rfl, rfl⟩, ⟨Nat.le_of_ble_eq_true rfl, rfl⟩, trivial⟩, ⟨rfl, rfl, rfl, trivial⟩, rfl, rfl, Nat.zero_le _⟩
                show x.tdiv 2 = halfN (s.w.getD (mulN i.toNat (Try.prog.types[3]).size) 0) (j + 1).toNat
                rw [show (j + 1).toNat = j.toNat + 1 by omega, hxj]; rfl
              · have hj : k = j := by omega
                subst hj
                have fin : (iterS s k.toNat).w.getD (mulN i.toNat (Try.prog.types[3]).size) 0 = x := fw.trans hxj.symm
                repeat' ((conv => whnf); first | (refine ask_false (by omega) ?_) | (refine And.intro (by omega) ?_) | (refine fun (_ : InK _ _) => ?_) | (with_reducible refine ask_false (not_not_intro fin) ?_) | (refine ask_false (not_not_intro fin) ?_) | (refine ask_wrap64 (by omega) (by omega) ?_) | fail)
                conv => whnf
                exact ⟨(16 - (i + 1)).toNat, i + 1, by omega, ⟨by omega, by omega, rfl⟩, rfl, ⟨⟨Nat.le_of_ble_eq_true rfl, rfl⟩, trivial⟩, ⟨rfl, rfl, rfl, trivial⟩, rfl, rfl, Nat.zero_le _⟩
          · repeat' ((conv => whnf); first | (refine ask_false (by omega) ?_) | fail)
            conv => whnf
            refine loop_at (4 :: 11 :: List.range' 59 16) (fun m (i : Int) => 0 ≤ i ∧ i ≤ 4 ∧ m = (4 - i).toNat) (fun i => [(11, vi i)]) (fun _ => [rb s, ran s k c rest, sb (iterS s k.toNat)]) 4 0 ⟨by decide, by decide, rfl⟩ ?_ ?_
            · exact ⟨rfl, ⟨⟨Nat.le_of_ble_eq_true rfl, rfl⟩, trivial⟩, ⟨rfl, rfl, rfl, trivial⟩, rfl, rfl, Nat.zero_le _⟩
            · rintro m i ⟨i0, i1, rfl⟩
              have em : mulN i.toNat (Try.prog.types[3]).size = i.toNat := mulN1 i.toNat
              rcases Int.lt_or_le i 4 with i2 | i2
              · have vb := hr.2.1 _ (mem_at (i := mulN i.toNat (Try.prog.types[3]).size) (by omega))
                have fv := facts.2.2 (mulN i.toNat (Try.prog.types[3]).size)
                have fin : (iterS s k.toNat).v.getD (mulN i.toNat (Try.prog.types[3]).size) 0 = max (s.v.getD (mulN i.toNat (Try.prog.types[3]).size) 0 - k) 0 := fv.trans (by omega)
                repeat' ((conv => whnf); first | (refine ask_true (by omega) ?_) | (refine And.intro (by omega) ?_) | (refine fun (_ : InK _ _) => ?_) | (with_reducible refine ask_false (not_not_intro fin) ?_) | (refine ask_false (not_not_intro fin) ?_) | (refine ask_wrap64 (by omega) (by omega) ?_) | (refine ⟨by kernel_rfl, ?_⟩) | fail)
                conv => whnf
                exact ⟨(4 - (i + 1)).toNat, i + 1, by omega, ⟨by omega, by omega, rfl⟩, rfl, ⟨⟨Nat.le_of_ble_eq_true rfl, rfl⟩, trivial⟩, ⟨rfl, rfl, rfl, trivial⟩, rfl, rfl, Nat.zero_le _⟩
              · have fq : (iterS s k.toNat).q = s.q + k := facts.1.trans (by omega)
                repeat' ((conv => whnf); first | (refine ask_false (by omega) ?_) | (refine ask_wrap64 (by omega) (by omega) ?_) | (refine ask_true fq ?_) | (refine ⟨by kernel_rfl, ?_⟩) | rfl | fail)
      · have k0 : k = 0 := by omega
        subst k0
        repeat' ((conv => whnf); first | (refine And.intro ⟨rfl, rfl, rfl⟩ (And.intro (fun hk => ?_) (And.intro (fun hk => absurd hk (by omega)) (by omega)))) | (refine And.intro ⟨rfl, rfl, rfl⟩ ?_) | (refine ⟨by kernel_rfl, ?_⟩) | fail)
        conv => whnf
        refine loop_at (4 :: 8 :: 9 :: 10 :: List.range' 38 21) (fun m (i : Int) => 0 ≤ i ∧ i ≤ 16 ∧ m = (16 - i).toNat) (fun i => [(8, vi i)]) (fun _ => [rb s, sb (s)]) 16 0 ⟨by decide, by decide, rfl⟩ ?_ ?_
        · exact ⟨rfl, ⟨⟨Nat.le_of_ble_eq_true rfl, rfl⟩, trivial⟩, ⟨rfl, rfl, trivial⟩, rfl, rfl, Nat.zero_le _⟩
        · rintro m i ⟨i0, i1, rfl⟩
          have em : mulN i.toNat (Try.prog.types[3]).size = i.toNat := mulN1 i.toNat
          rcases Int.lt_or_le i 16 with i2 | i2
          · have wb := hwb (mulN i.toNat (Try.prog.types[3]).size)
            have fw := facts.2.1 (mulN i.toNat (Try.prog.types[3]).size)
            repeat' ((conv => whnf); first | (refine ask_true (by omega) ?_) | (refine And.intro (by omega) ?_) | (refine fun (_ : InK _ _) => ?_) | fail)
            conv => whnf
            refine loop_at2 (9 :: 10 :: List.range' 46 7) (fun m (j x : Int) => 0 ≤ j ∧ j ≤ (0 : Int) ∧ x = halfN (s.w.getD (mulN i.toNat (Try.prog.types[3]).size) 0) j.toNat ∧ m = ((0 : Int) - j).toNat) (fun j x => [(9, vi x), (10, vi j)]) (fun _ _ => [rb s, sb (s)]) ((0 : Int)).toNat 0 (s.w.getD (mulN i.toNat (Try.prog.types[3]).size) 0) ⟨by decide, by omega, rfl, by omega⟩ ?_ ?_
            · exact ⟨rfl, ⟨⟨Nat.le_of_ble_eq_true rfl, rfl⟩, ⟨Nat.le_of_ble_eq_true rfl, rfl⟩, trivial⟩, ⟨rfl, rfl, trivial⟩, rfl, rfl, Nat.zero_le _⟩
            · rintro m j x ⟨j0, j1, hxj, rfl⟩
              have xb := halfN_in wb j.toNat
              rw [← hxj] at xb
              rcases Int.lt_or_le j ((0 : Int)) with j2 | j2
              · repeat' ((conv => whnf); first | (refine ask_true (by omega) ?_) | (refine And.intro (by omega) ?_) | (refine ask_wrap64 (half_bound (by omega) (by omega)).1 (half_bound (by omega) (by omega)).2 ?_) | (refine ask_wrap64 (by omega) (by omega) ?_) | fail)
                conv => whnf
                refine ⟨((0 : Int) - (j + 1)).toNat, (j + 1, x.tdiv 2), by show ((0 : Int) - (j + 1)).toNat < ((0 : Int) - j).toNat; omega, ⟨by show 0 ≤ j + 1; omega, by show j + 1 ≤ (0 : Int); omega, ?_, rfl⟩, rfl, ⟨⟨Nat.le_of_ble_eq_true rfl, rfl⟩, ⟨Nat.le_of_ble_eq_true rfl, rfl⟩, trivial⟩, ⟨rfl, rfl, trivial⟩, rfl, rfl, Nat.zero_le _⟩
                show x.tdiv 2 = halfN (s.w.getD (mulN i.toNat (Try.prog.types[3]).size) 0) (j + 1).toNat
                rw [show (j + 1).toNat = j.toNat + 1 by omega, hxj]; rfl
              · have hj : (0 : Int) = j := by omega
                subst hj
                have fin : (s).w.getD (mulN i.toNat (Try.prog.types[3]).size) 0 = x := fw.trans hxj.symm
                repeat' ((conv => whnf); first | (refine ask_false (by omega) ?_) | (refine And.intro (by omega) ?_) | (refine fun (_ : InK _ _) => ?_) | (with_reducible refine ask_false (not_not_intro fin) ?_) | (refine ask_false (not_not_intro fin) ?_) | (refine ask_wrap64 (by omega) (by omega) ?_) | fail)
                conv => whnf
                exact ⟨(16 - (i + 1)).toNat, i + 1, by omega, ⟨by omega, by omega, rfl⟩, rfl, ⟨⟨Nat.le_of_ble_eq_true rfl, rfl⟩, trivial⟩, ⟨rfl, rfl, trivial⟩, rfl, rfl, Nat.zero_le _⟩
          · repeat' ((conv => whnf); first | (refine ask_false (by omega) ?_) | fail)
            conv => whnf
            refine loop_at (4 :: 11 :: List.range' 59 16) (fun m (i : Int) => 0 ≤ i ∧ i ≤ 4 ∧ m = (4 - i).toNat) (fun i => [(11, vi i)]) (fun _ => [rb s, sb (s)]) 4 0 ⟨by decide, by decide, rfl⟩ ?_ ?_
            · exact ⟨rfl, ⟨⟨Nat.le_of_ble_eq_true rfl, rfl⟩, trivial⟩, ⟨rfl, rfl, trivial⟩, rfl, rfl, Nat.zero_le _⟩
            · rintro m i ⟨i0, i1, rfl⟩
              have em : mulN i.toNat (Try.prog.types[3]).size = i.toNat := mulN1 i.toNat
              rcases Int.lt_or_le i 4 with i2 | i2
              · have vb := hr.2.1 _ (mem_at (i := mulN i.toNat (Try.prog.types[3]).size) (by omega))
                have fv := facts.2.2 (mulN i.toNat (Try.prog.types[3]).size)
                have fin : (s).v.getD (mulN i.toNat (Try.prog.types[3]).size) 0 = max (s.v.getD (mulN i.toNat (Try.prog.types[3]).size) 0 - (0 : Int)) 0 := fv.trans (by omega)
                repeat' ((conv => whnf); first | (refine ask_true (by omega) ?_) | (refine And.intro (by omega) ?_) | (refine fun (_ : InK _ _) => ?_) | (with_reducible refine ask_false (not_not_intro fin) ?_) | (refine ask_false (not_not_intro fin) ?_) | (refine ask_wrap64 (by omega) (by omega) ?_) | (refine ⟨by kernel_rfl, ?_⟩) | fail)
                conv => whnf
                exact ⟨(4 - (i + 1)).toNat, i + 1, by omega, ⟨by omega, by omega, rfl⟩, rfl, ⟨⟨Nat.le_of_ble_eq_true rfl, rfl⟩, trivial⟩, ⟨rfl, rfl, trivial⟩, rfl, rfl, Nat.zero_le _⟩
              · have fq : (s).q = s.q + (0 : Int) := facts.1.trans (by omega)
                repeat' ((conv => whnf); first | (refine ask_false (by omega) ?_) | (refine ask_wrap64 (by omega) (by omega) ?_) | (refine ask_true fq ?_) | (refine ⟨by kernel_rfl, ?_⟩) | rfl | fail)
  · repeat' ((conv => whnf); first | (refine And.intro ⟨rfl, rfl, rfl⟩ ?_) | (refine ask_false h1 ?_) | rfl | fail)
end Go.Proofs.Ytbgjmlncdlcglaa
