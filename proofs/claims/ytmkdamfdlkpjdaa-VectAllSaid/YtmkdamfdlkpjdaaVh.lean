/- Chapter vect: the law VectOrder. -/
import Derived.Test.YtmkdamfdlkpjdaaVg
set_option linter.all false
namespace Go.Proofs.Ytmkdamfdlkpjdaa
open Go.RowKit (Below)
open Go.WideMaps
set_option maxRecDepth 100000
set_option maxHeartbeats 64000000

/-- The remainder of a drawn number by the count. -/
theorem tmod_in {i c : Int} (hi : 0 ≤ i) (hc : 0 < c) : 0 ≤ i.tmod c ∧ i.tmod c < c := by
  rw [Int.tmod_eq_emod_of_nonneg hi]
  exact ⟨Int.emod_nonneg _ (by omega), Int.emod_lt_of_pos _ hc⟩
theorem order_walk (n k i j : Int) (hn : 0 ≤ n ∧ n ≤ 255) (hk : 0 ≤ k ∧ k ≤ 255) (hi : 0 ≤ i ∧ i ≤ 4294967295) (hj : 0 ≤ j ∧ j ≤ 4294967295) : walk FZ 0 Try.f9 [u8 n, u8 k, u32 i, u32 j] [] fun y _ => y = vb true := by
  repeat' ((conv => whnf); first | (refine ask_wrap64 (by omega) (by omega) ?_) | (refine And.intro (by omega) ?_) | fail)
  conv => whnf
  intro m hm
  have hm' : 0 ≤ m ∧ m ≤ 8 := by rw [hm, Int.tmod_eq_emod_of_nonneg hn.1]; omega
  clear hm
  repeat' ((conv => whnf); first | (refine ask_wrap64 (by omega) (by omega) ?_) | (refine And.intro (by omega) ?_) | fail)
  conv => whnf
  intro q hq
  have hq' : 0 ≤ q ∧ q ≤ 8 := by rw [hq, Int.tmod_eq_emod_of_nonneg hk.1]; omega
  clear hq
  have c1 := cC_in m q
  rcases Classical.em (cC m q = 0) with c0 | c0
  · repeat' ((conv => whnf); first | (refine ask_true (by omega) ?_) | (refine And.intro trivial ?_) | rfl | fail)
  · repeat' ((conv => whnf); first | (refine ask_false (by omega) ?_) | (refine And.intro trivial ?_) | (refine And.intro (by omega) ?_) | (refine ask_wrap64 (by omega) (by omega) ?_) | fail)
    conv => whnf
    intro a ha
    have ha' := tmod_in (c := cC m q) hi.1 (by omega)
    rw [← ha] at ha'
    clear ha
    repeat' ((conv => whnf); first | (refine And.intro (by omega) ?_) | (refine ask_wrap64 (by omega) (by omega) ?_) | fail)
    conv => whnf
    intro b hb
    have hb' := tmod_in (c := cC m q) hj.1 (by omega)
    rw [← hb] at hb'
    clear hb
    repeat' ((conv => whnf); first | (refine ⟨by kernel_rfl, ?_⟩) | fail)
    conv => whnf
    refine And.intro (fun h => absurd ha' h) fun _ A hA => And.intro (fun h => ?_) fun hne c rest h1 h2 h3 => ?_
    all_goals obtain ⟨A1, A2, A3⟩ := hA
    · subst h
      have m0 : m = 0 := by have : (0 : Nat) = m.toNat := A1; omega
      conv => whnf
      refine And.intro (fun h => absurd hb' h) fun _ B hB => And.intro (fun h => ?_) fun hne c rest h1 h2 h3 => ?_
      all_goals obtain ⟨B1, B2, B3⟩ := hB
      · subst h
        have ab : a = b := by rw [← A3, ← B3]
        subst m0
        conv => whnf
        refine loop_at (18 :: List.range' 54 40) (fun z (x : Int) => x = 0 ∧ z = 0) (fun x => [(18, vi x)]) (fun _ => []) 0 0 ⟨rfl, rfl⟩ ?_ ?_
        · exact ⟨rfl, ⟨⟨Nat.le_of_ble_eq_true rfl, rfl⟩, trivial⟩, trivial, rfl, rfl, Nat.le_of_ble_eq_true rfl⟩
        · rintro z x ⟨rfl, rfl⟩
          repeat' ((conv => whnf); first | (refine ask_false (by decide) ?_) | (refine ask_true (by omega) ?_) | rfl | fail)
      · exact absurd (List.length_eq_zero_iff.1 (by omega)) hne
    · conv => whnf
      refine And.intro (fun h => absurd hb' h) fun _ B hB => And.intro (fun h => ?_) fun hne' c' rest' h1' h2' h3' => ?_
      all_goals obtain ⟨B1, B2, B3⟩ := hB
      · subst h
        exact absurd (List.length_eq_zero_iff.1 (by have : (0 : Nat) = m.toNat := B1; omega)) hne
      · have bB : B.length = A.length := by omega
        have mA : (A.length : Int) = m := by omega
        conv => whnf
        refine loop_at (18 :: List.range' 54 40) (fun z (x : Int) => 0 ≤ x ∧ x ≤ m ∧ z = (m - x).toNat ∧ ∀ p : Nat, (p : Int) < x → A.getD p 0 = B.getD p 0) (fun x => [(18, vi x)]) (fun _ => [.own 3 [.ints .i64 c (A ++ rest)], .own 3 [.ints .i64 c' (B ++ rest')]]) m.toNat 0 ⟨by decide, by omega, by omega, fun p hp => by omega⟩ ?_ ?_
        · exact ⟨rfl, ⟨⟨Nat.le_of_ble_eq_true rfl, rfl⟩, trivial⟩, ⟨rfl, rfl, trivial⟩, rfl, rfl, Nat.le_of_ble_eq_true rfl⟩
        · rintro z x ⟨x0, x1, rfl, hx⟩
          have eL : A.length = m := by omega
          have eM : B.length = m := by omega
          rcases Int.lt_or_le x m with x2 | x2
          · have em : mulN x.toNat (Try.prog.types[3]).size = x.toNat := mulN1 _
            have eA : (A ++ rest).getD (0 + mulN x.toNat (Try.prog.types[3]).size) 0 = A.getD x.toNat 0 := by rw [em, Nat.zero_add, left_at (by omega)]
            have eB : (B ++ rest').getD (0 + mulN x.toNat (Try.prog.types[3]).size) 0 = B.getD x.toNat 0 := by rw [em, Nat.zero_add, left_at (by omega)]
            repeat' ((conv => whnf); first | (refine ask_true (by omega) ?_) | (refine And.intro (by omega) ?_) | (refine fun (_ : InK _ _) => ?_) | (refine ⟨by kernel_rfl, ?_⟩) | fail)
            rcases Classical.em (A.getD x.toNat 0 = B.getD x.toNat 0) with hq0 | hq0
            · repeat' ((conv => whnf); first | (refine ask_false (by omega) ?_) | (refine ⟨by kernel_rfl, ?_⟩) | (refine ask_wrap64 (by omega) (by omega) ?_) | fail)
              conv => whnf
              refine ⟨(m - (x + 1)).toNat, x + 1, by omega, ⟨by show 0 ≤ x + 1; omega, by show x + 1 ≤ m; omega, rfl, fun p hp => ?_⟩, ?_⟩
              · have hp' : (p : Int) < x + 1 := hp
                rcases Int.lt_or_le p x with h | h
                · exact hx p h
                · obtain rfl : p = x.toNat := by omega
                  exact hq0
              · exact ⟨rfl, ⟨⟨Nat.le_of_ble_eq_true rfl, rfl⟩, trivial⟩, ⟨rfl, rfl, trivial⟩, rfl, rfl, Nat.le_of_ble_eq_true rfl⟩
            · have hlt := rank_lt x.toNat A B q bB.symm (by omega) (by omega) A2 B2 (by omega) (fun p hp => hx p (by omega))
              have hgt := rank_lt x.toNat B A q bB (by omega) (by omega) B2 A2 (by omega) (fun p hp => (hx p (by omega)).symm)
              rw [A3, B3] at hlt
              rw [A3, B3] at hgt
              rcases Int.lt_or_le (A.getD x.toNat 0) (B.getD x.toNat 0) with h4 | h4
              · have h5 := hlt h4
                repeat' ((conv => whnf); first | (refine ask_true (by omega) ?_) | (refine And.intro (by omega) ?_) | (refine fun (_ : InK _ _) => ?_) | (refine ⟨by kernel_rfl, ?_⟩) | (refine ask_true rfl ?_) | rfl | fail)
              · have h5 := hgt (by omega)
                refine ask_true (by omega) ?_
                repeat' ((conv => whnf); first | (refine ask_false (by omega) ?_) | (refine And.intro (by omega) ?_) | (refine fun (_ : InK _ _) => ?_) | (refine ⟨by kernel_rfl, ?_⟩) | (refine ask_true rfl ?_) | rfl | fail)
          · have hAB : A = B := row_ext bB.symm fun p hp => hx p (by omega)
            subst hAB
            repeat' ((conv => whnf); first | (refine ask_false (by omega) ?_) | (refine ask_true (by omega) ?_) | rfl | fail)
theorem law_VectOrder (n : Int) (hn : InK .u8 n) (k : Int) (hk : InK .u8 k) (i : Int) (hi : InK .u32 i) (j : Int) (hj : InK .u32 j) (w0 : World) : Calls Try.prog 9 #[.int .u8 n, .int .u8 k, .int .u32 i, .int .u32 j] w0 fun e w' => e = .returned (.bool true) ∧ Below w0.heap.size w0 w' :=
  walk_true FZ_ok Try.func9 (ws := [u8 n, u8 k, u32 i, u32 j]) ⟨hn, hk, hi, hj, trivial⟩ rfl (n := 0) (order_walk n k i j hn hk hi hj) w0
end Go.Proofs.Ytmkdamfdlkpjdaa
