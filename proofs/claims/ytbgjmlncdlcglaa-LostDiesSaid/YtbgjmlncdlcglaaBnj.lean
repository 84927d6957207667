/- Chapter lost: what is heard dies away; the law LostDies, walked. -/
import Derived.Test.YtbgjmlncdlcglaaBnk
set_option linter.all false
namespace Go.Proofs.Ytbgjmlncdlcglaa
open Go.RowKit (Below)
set_option maxRecDepth 100000
set_option maxHeartbeats 32000000

theorem law_LostDies (xs : List Int) (h : xs.length = 38) (hx : ∀ x ∈ xs, InK .i64 x) (n : Int) (hn : InK .u8 n) (w0 : World) : Calls Try.prog 16 #[.agg (xs.map (Value.int .i64)).toArray, .int .u8 n] w0 fun e w' => e = .returned (.bool true) ∧ Below w0.heap.size w0 w' := by
  obtain ⟨s, hs, hd⟩ := st_split xs h hx
  have := walk2_true FLr_ok Try.func16 (ws := [stW s, u8 n]) ⟨hs.rng, hn, trivial⟩ rfl (n := 0) ?_ w0
  · have e : ([stW s, u8 n].map (W.den fun _ => (0, 0))).toArray = #[Value.agg (xs.map (Value.int .i64)).toArray, .int .u8 n] := by rw [← hd]; rfl
    rw [e] at this; exact this
  obtain ⟨n1, n2⟩ := hn
  simp only [lowK, highK] at n1 n2
  rcases Classical.em (rightP s) with h1 | h1
  · have hr := h1
    rw [rightP_def] at hr
    repeat' ((conv => whnf); first | (refine And.intro ⟨rfl, rfl, rfl⟩ ?_) | (refine ask_true h1 ?_) | (refine ask_wrap64 (by omega) (by omega) ?_) | fail)
    conv => whnf
    refine And.intro (by omega) fun k hk => ?_
    rw [Int.tmod_eq_emod_of_nonneg (by omega)] at hk
    have k0 : 0 ≤ k ∧ k < 40 := by omega
    clear hk
    have eb : ∀ k : Int, mulN k.toNat (Try.prog.types[38]).size = k.toNat * 16 := fun k => mulN_eq _ _
    have fq : (iterS s k.toNat).q = min (s.q + k) 255 := (iter_q h1 _).trans (by omega)
    have fw : 10 ≤ k → (iterS s k.toNat).w = z16 := fun hk => iter_w h1 (by omega)
    have xr := iter_right h1 k.toNat
    have xk := iterS_ok hs k.toNat
    have dies : ∀ x, StOk x → rightP x → ∃ Y O, iterS x (Int.toNat 200) = Y ∧ outsL x (Int.toNat 200) = O ∧ Y.w = z16 ∧ Y.v = z4 ∧ ∀ rest : List Int, ((O ++ rest).drop (0 + mulN (Int.toNat 199) (Try.prog.types[38]).size)).take 16 = z16 := fun x hx hr =>
      ⟨_, _, rfl, rfl, iter_w hr (n := 200) (by decide), dies_v hx hr, fun rest => (row_in x (n := 200) (k := 199) (by decide) (by rw [eb]; rfl)).trans (dies_out hr)⟩
    have d5 : ∀ c : Nat, Int.toNat 200 ≤ c → 0 + mulN (Int.toNat 199) (Try.prog.types[38]).size + 16 ≤ c * 16 := fun c hc => by
      rw [eb]
      have : 200 ≤ c := hc
      show 0 + 199 * 16 + 16 ≤ c * 16
      omega
    rcases Int.lt_or_le 0 k with kp | kp
    · repeat' ((conv => whnf); first | (refine And.intro ⟨rfl, rfl, rfl⟩ (And.intro (fun hk => absurd hk (by omega)) (And.intro (fun _ _ c rest g1 g2 g3 => ?_) (by omega)))) | (refine And.intro ⟨rfl, rfl, rfl⟩ ?_) | (refine ⟨by kernel_rfl, ?_⟩) | fail)
      obtain ⟨Y, O, hY, hO, d2, d3, d4⟩ := dies _ xk xr
      conv => whnf
      refine loop_at (4 :: 8 :: 9 :: List.range' 30 26) (fun m (i : Int) => 0 ≤ i ∧ i ≤ k ∧ m = (k - i).toNat) (fun i => [(8, vi i)]) (fun _ => [rb s, ranD s k c rest, sb (iterS s k.toNat)]) k.toNat 0 ⟨by decide, by omega, by omega⟩ ?_ ?_
      · exact ⟨rfl, ⟨⟨Nat.le_of_ble_eq_true rfl, rfl⟩, trivial⟩, ⟨rfl, rfl, rfl, trivial⟩, rfl, rfl, Nat.zero_le _⟩
      · rintro m i ⟨i0, i1, rfl⟩
        have ei := eb i
        rcases Int.lt_or_le i k with i2 | i2
        · conv => whnf
          refine ask_true (by omega) ?_
          conv => whnf
          refine loop_at (4 :: 9 :: List.range' 36 20) (fun m (j : Int) => 0 ≤ j ∧ j ≤ 16 ∧ m = (16 - j).toNat) (fun j => [(9, vi j)]) (fun _ => [rb s, ranD s k c rest, sb (iterS s k.toNat)]) 16 0 ⟨by decide, by decide, rfl⟩ ?_ ?_
          · exact ⟨rfl, ⟨⟨Nat.le_of_ble_eq_true rfl, rfl⟩, trivial⟩, ⟨rfl, rfl, rfl, trivial⟩, rfl, rfl, Nat.zero_le _⟩
          · rintro m j ⟨j0, j1, rfl⟩
            have em : mulN j.toNat (Try.prog.types[3]).size = j.toNat := mulN1 j.toNat
            rcases Int.lt_or_le j 16 with j2 | j2
            · have hlen := outsL_len s k.toNat
              have hmem : (outsL s k.toNat ++ rest).getD (0 + mulN i.toNat (Try.prog.types[38]).size + mulN j.toNat (Try.prog.types[3]).size) 0 ∈ outsL s k.toNat := by
                rw [getD_append' (by rw [hlen]; omega)]
                exact mem_at (by rw [hlen]; omega)
              have hb := outsL_in s k.toNat _ hmem
              repeat' ((conv => whnf); first | (refine ask_true (by omega) ?_) | (refine ask_false (by omega) ?_) | (refine And.intro (by omega) ?_) | (refine fun (_ : InK _ _) => ?_) | (refine ask_wrap64 (by omega) (by omega) ?_) | fail)
              conv => whnf
              exact ⟨(16 - (j + 1)).toNat, j + 1, by omega, ⟨by omega, by omega, rfl⟩, rfl, ⟨⟨Nat.le_of_ble_eq_true rfl, rfl⟩, trivial⟩, ⟨rfl, rfl, rfl, trivial⟩, rfl, rfl, Nat.zero_le _⟩
            · repeat' ((conv => whnf); first | (refine ask_false (by omega) ?_) | (refine ask_wrap64 (by omega) (by omega) ?_) | fail)
              conv => whnf
              exact ⟨(k - (i + 1)).toNat, i + 1, by omega, ⟨by omega, by omega, rfl⟩, rfl, ⟨⟨Nat.le_of_ble_eq_true rfl, rfl⟩, trivial⟩, ⟨rfl, rfl, rfl, trivial⟩, rfl, rfl, Nat.zero_le _⟩
        · have hik : i = k := by omega
          rcases Int.lt_or_le k 10 with k10 | k10
          · repeat' ((conv => whnf); first | (refine ask_false (by omega) ?_) | (refine ask_false (not_not_intro fq) ?_) | (refine ask_wrap64 (by omega) (by omega) ?_) | fail)
            conv => whnf
            refine And.intro ⟨rfl, rfl, rfl⟩ (And.intro (fun hk => absurd hk (by decide)) (And.intro (fun _ _ c2 rest2 g1 g2 g3 => ?_) (by decide)))
            rw [hY, hO]
            repeat' ((conv => whnf); first | (refine ask_true (by decide) ?_) | (refine And.intro (by decide) ?_) | (refine And.intro (d5 c2 g1) ?_) | (refine ask_same (d4 rest2) ?_) | (with_reducible refine ask_same d2 ?_) | (with_reducible refine ask_same d3 ?_) | (refine ask_same d2 ?_) | (refine ask_same d3 ?_) | (refine ⟨by kernel_rfl, ?_⟩) | rfl | fail)
          · repeat' ((conv => whnf); first | (refine ask_false (by omega) ?_) | (refine ask_true (by omega) ?_) | (refine ask_false (not_not_intro fq) ?_) | (refine ask_nother (fw k10) ?_) | (refine ask_wrap64 (by omega) (by omega) ?_) | fail)
            conv => whnf
            refine And.intro ⟨rfl, rfl, rfl⟩ (And.intro (fun hk => absurd hk (by decide)) (And.intro (fun _ _ c2 rest2 g1 g2 g3 => ?_) (by decide)))
            rw [hY, hO]
            repeat' ((conv => whnf); first | (refine ask_true (by decide) ?_) | (refine And.intro (by decide) ?_) | (refine And.intro (d5 c2 g1) ?_) | (refine ask_same (d4 rest2) ?_) | (with_reducible refine ask_same d2 ?_) | (with_reducible refine ask_same d3 ?_) | (refine ask_same d2 ?_) | (refine ask_same d3 ?_) | (refine ⟨by kernel_rfl, ?_⟩) | rfl | fail)
    · have k00 : k = 0 := by omega
      subst k00
      repeat' ((conv => whnf); first | (refine And.intro ⟨rfl, rfl, rfl⟩ (And.intro (fun hk => ?_) (And.intro (fun hk => absurd hk (by omega)) (by omega)))) | (refine And.intro ⟨rfl, rfl, rfl⟩ ?_) | (refine ⟨by kernel_rfl, ?_⟩) | fail)
      obtain ⟨Y, O, hY, hO, d2, d3, d4⟩ := dies s hs h1
      conv => whnf
      refine loop_at (4 :: 8 :: 9 :: List.range' 30 26) (fun m (i : Int) => i = 0 ∧ m = 0) (fun i => [(8, vi i)]) (fun _ => [rb s, sb s]) 0 0 ⟨rfl, rfl⟩ ?_ ?_
      · exact ⟨rfl, ⟨⟨Nat.le_of_ble_eq_true rfl, rfl⟩, trivial⟩, ⟨rfl, rfl, trivial⟩, rfl, rfl, Nat.zero_le _⟩
      · rintro m i ⟨rfl, rfl⟩
        repeat' ((conv => whnf); first | (refine ask_false (by omega) ?_) | (refine ask_false (not_not_intro fq) ?_) | (refine ask_wrap64 (by omega) (by omega) ?_) | fail)
        conv => whnf
        refine And.intro ⟨rfl, rfl, rfl⟩ (And.intro (fun hk => absurd hk (by decide)) (And.intro (fun _ _ c2 rest2 g1 g2 g3 => ?_) (by decide)))
        rw [hY, hO]
        repeat' ((conv => whnf); first | (refine ask_true (by decide) ?_) | (refine And.intro (by decide) ?_) | (refine And.intro (d5 c2 g1) ?_) | (refine ask_same (d4 rest2) ?_) | (with_reducible refine ask_same d2 ?_) | (with_reducible refine ask_same d3 ?_) | (refine ask_same d2 ?_) | (refine ask_same d3 ?_) | (refine ⟨by kernel_rfl, ?_⟩) | rfl | fail)
  · repeat' ((conv => whnf); first | (refine And.intro ⟨rfl, rfl, rfl⟩ ?_) | (refine ask_false h1 ?_) | rfl | fail)
end Go.Proofs.Ytbgjmlncdlcglaa
