/- Chapter lost: the law LostRuns, walked. -/
import Derived.Test.YtbgjmlncdlcglaaBng
set_option linter.all false
namespace Go.Proofs.Ytbgjmlncdlcglaa
open Go.RowKit (Below)
set_option maxRecDepth 100000
set_option maxHeartbeats 32000000

theorem iterS_add (s : St) (i : Nat) : ∀ j, iterS s (i + j) = iterS (iterS s i) j
  | 0 => rfl
  | j + 1 => by
    show loseSt (iterS s (i + j)) = loseSt (iterS (iterS s i) j)
    rw [iterS_add s i j]
theorem outsL_add (s : St) (i : Nat) : ∀ j, outsL s (i + j) = outsL s i ++ outsL (iterS s i) j
  | 0 => (List.append_nil _).symm
  | j + 1 => by
    show outsL s (i + j) ++ loseOut (iterS s (i + j)) = outsL s i ++ (outsL (iterS s i) j ++ loseOut (iterS (iterS s i) j))
    rw [outsL_add s i j, iterS_add s i j, List.append_assoc]
theorem row_at (s : St) {n k m : Nat} {rest : List Int} (hk : k < n) (hm : m = k * 16) : ((outsL s n ++ rest).drop m).take 16 = loseOut (iterS s k) := by
  subst hm
  obtain ⟨t, rfl⟩ : ∃ t, n = k + (1 + t) := ⟨n - k - 1, by omega⟩
  have e1 : outsL (iterS s k) (1 + t) = loseOut (iterS s k) ++ outsL (iterS (iterS s k) 1) t := by
    rw [outsL_add]; rfl
  rw [outsL_add, e1, List.append_assoc, List.drop_append, List.drop_of_length_le (by rw [outsL_len]; omega), outsL_len, Nat.sub_self, List.drop_zero, List.nil_append, List.append_assoc, List.take_append_of_le_length (by rw [loseOut_len]; omega), List.take_of_length_le (by rw [loseOut_len]; omega)]
noncomputable abbrev ran (s : St) (k : Int) (c : Nat) (rest : List Int) : Blk := .own 38 [.ints .i64 (c * 16) (outsL s k.toNat ++ rest)]
theorem law_LostRuns (xs : List Int) (h : xs.length = 38) (hx : ∀ x ∈ xs, InK .i64 x) (n : Int) (hn : InK .u8 n) (m : Int) (hm : InK .u8 m) (w0 : World) : Calls Try.prog 17 #[.agg (xs.map (Value.int .i64)).toArray, .int .u8 n, .int .u8 m] w0 fun e w' => e = .returned (.bool true) ∧ Below w0.heap.size w0 w' := by
  obtain ⟨s, hs, hd⟩ := st_split xs h hx
  have := walk2_true FLr_ok Try.func17 (ws := [stW s, u8 n, u8 m]) ⟨hs.rng, hn, hm, trivial⟩ rfl (n := 0) ?_ w0
  · have e : ([stW s, u8 n, u8 m].map (W.den fun _ => (0, 0))).toArray = #[Value.agg (xs.map (Value.int .i64)).toArray, .int .u8 n, .int .u8 m] := by rw [← hd]; rfl
    rw [e] at this; exact this
  obtain ⟨n1, n2⟩ := hn
  obtain ⟨m1, m2⟩ := hm
  simp only [lowK, highK] at n1 n2 m1 m2
  rcases Classical.em (rightP s) with h1 | h1
  · repeat' ((conv => whnf); first | (refine And.intro ⟨rfl, rfl, rfl⟩ ?_) | (refine ask_true h1 ?_) | (refine ask_wrap64 (by omega) (by omega) ?_) | fail)
    conv => whnf
    refine And.intro (by omega) fun i hi => ?_
    conv => whnf
    refine ask_wrap64 (by omega) (by omega) ?_
    conv => whnf
    refine And.intro (by omega) fun j hj => ?_
    rw [Int.tmod_eq_emod_of_nonneg (by omega)] at hi hj
    have i0 : 0 ≤ i ∧ i < 20 := by omega
    have j0 : 0 ≤ j ∧ j < 20 := by omega
    clear hi hj
    have ij : (i + j).toNat = i.toNat + j.toNat := by omega
    have yz : iterS (iterS s i.toNat) j.toNat = iterS s (i + j).toNat := by rw [ij, iterS_add]
    have em : ∀ k : Int, mulN k.toNat (Try.prog.types[38]).size = k.toNat * 16 := fun k => mulN_eq _ _
    have es : (Try.prog.types[38]).size = 16 := by kernel_rfl
    rcases Int.lt_or_le 0 i with ip | ip
    · rcases Int.lt_or_le 0 j with jp | jp
      · repeat' ((conv => whnf); first | (refine And.intro ⟨rfl, rfl, rfl⟩ (And.intro (fun hk => absurd hk (by omega)) (And.intro (fun _ _ c rest g1 g2 g3 => ?_) (by omega)))) | (refine And.intro ⟨rfl, rfl, rfl⟩ (And.intro (fun hk => ?_) (And.intro (fun hk => absurd hk (by omega)) (by omega)))) | (refine And.intro ⟨rfl, rfl, rfl⟩ ?_) | (refine ask_wrap64 (by omega) (by omega) ?_) | (refine ⟨by kernel_rfl, ?_⟩) | fail)
        conv => whnf
        rename_i a1 a2 c1 r1 p1 p2 p3 b1 b2 c2 r2 q1 q2 q3 d1 d2
        have ex : (iterS s i.toNat) = iterS s i.toNat := rfl
        have yz' : (iterS (iterS s i.toNat) j.toNat) = (iterS s (i + j).toNat) := yz
        refine loop_at (6 :: 15 :: List.range' 54 48) (fun m (k : Int) => 0 ≤ k ∧ k ≤ i + j ∧ m = (i + j - k).toNat) (fun k => [(15, vi k)]) (fun _ => [rb s, ran s i c1 r1, sb (iterS s i.toNat), ran (iterS s i.toNat) j c2 r2, sb (iterS (iterS s i.toNat) j.toNat), ran s (i + j) c rest, sb (iterS s (i + j).toNat)]) (i + j).toNat 0 ⟨by decide, by omega, by omega⟩ ?_ ?_
        · exact ⟨rfl, ⟨⟨Nat.le_of_ble_eq_true rfl, rfl⟩, trivial⟩, ⟨rfl, rfl, rfl, rfl, rfl, rfl, rfl, trivial⟩, rfl, rfl, Nat.zero_le _⟩
        · rintro m k ⟨k0, k1, rfl⟩
          rcases Int.lt_or_le k (i + j) with k2 | k2
          · have ek := em k
            have ek2 := em (k - i)
            have rc := row_at s (n := (i + j).toNat) (k := k.toNat) (m := 0 + mulN k.toNat (Try.prog.types[38]).size) (rest := rest) (by omega) (by omega)
            rcases Int.lt_or_le k i with k3 | k3
            · have ra := row_at s (n := i.toNat) (k := k.toNat) (m := 0 + mulN k.toNat (Try.prog.types[38]).size) (rest := r1) (by omega) (by omega)
              repeat' ((conv => whnf); first | (refine ask_true (by omega) ?_) | (refine ask_false (by omega) ?_) | (refine And.intro (by omega) ?_) | (refine ask_nother (rc.trans ra.symm) ?_) | (refine ask_wrap64 (by omega) (by omega) ?_) | (refine ⟨by kernel_rfl, ?_⟩) | fail)
              conv => whnf
              exact ⟨(i + j - (k + 1)).toNat, k + 1, by omega, ⟨by omega, by omega, rfl⟩, rfl, ⟨⟨Nat.le_of_ble_eq_true rfl, rfl⟩, trivial⟩, ⟨rfl, rfl, rfl, rfl, rfl, rfl, rfl, trivial⟩, rfl, rfl, Nat.zero_le _⟩
            · have rb' := row_at (iterS s i.toNat) (n := j.toNat) (k := (k - i).toNat) (m := 0 + mulN (k - i).toNat (Try.prog.types[38]).size) (rest := r2) (by omega) (by omega)
              have e4 : iterS (iterS s i.toNat) (k - i).toNat = iterS s k.toNat := by rw [ex, ← iterS_add]; congr 1; omega
              rw [e4] at rb'
              repeat' ((conv => whnf); first | (refine ask_true (by omega) ?_) | (refine ask_false (by omega) ?_) | (refine And.intro (by omega) ?_) | (refine ask_nother (rc.trans rb'.symm) ?_) | (refine ask_wrap64 (by omega) (by omega) ?_) | (refine ⟨by kernel_rfl, ?_⟩) | fail)
              conv => whnf
              exact ⟨(i + j - (k + 1)).toNat, k + 1, by omega, ⟨by omega, by omega, rfl⟩, rfl, ⟨⟨Nat.le_of_ble_eq_true rfl, rfl⟩, trivial⟩, ⟨rfl, rfl, rfl, rfl, rfl, rfl, rfl, trivial⟩, rfl, rfl, Nat.zero_le _⟩
          · repeat' ((conv => whnf); first | (refine ask_true (by omega) ?_) | (refine ask_false (by omega) ?_) | (refine And.intro ⟨rfl, rfl, rfl⟩ (And.intro (fun hk => ?_) (And.intro (fun hk => absurd hk (by omega)) (by omega)))) | (refine And.intro ⟨rfl, rfl, rfl⟩ ?_) | (refine ask_st _ _ yz' ?_) | (refine ask_st s s rfl ?_) | (refine ask_wrap64 (by omega) (by omega) ?_) | (refine ⟨by kernel_rfl, ?_⟩) | rfl | fail)
      · repeat' ((conv => whnf); first | (refine And.intro ⟨rfl, rfl, rfl⟩ (And.intro (fun hk => absurd hk (by omega)) (And.intro (fun _ _ c rest g1 g2 g3 => ?_) (by omega)))) | (refine And.intro ⟨rfl, rfl, rfl⟩ (And.intro (fun hk => ?_) (And.intro (fun hk => absurd hk (by omega)) (by omega)))) | (refine And.intro ⟨rfl, rfl, rfl⟩ ?_) | (refine ask_wrap64 (by omega) (by omega) ?_) | (refine ⟨by kernel_rfl, ?_⟩) | fail)
        conv => whnf
        rename_i a1 a2 c1 r1 p1 p2 p3 d1 d2
        have ex : (iterS s i.toNat) = iterS s i.toNat := rfl
        have yz' : (iterS s i.toNat) = (iterS s (i + j).toNat) := by rw [show (i + j).toNat = i.toNat by omega]
        refine loop_at (6 :: 15 :: List.range' 54 48) (fun m (k : Int) => 0 ≤ k ∧ k ≤ i + j ∧ m = (i + j - k).toNat) (fun k => [(15, vi k)]) (fun _ => [rb s, ran s i c1 r1, sb (iterS s i.toNat), sb (iterS s i.toNat), ran s (i + j) c rest, sb (iterS s (i + j).toNat)]) (i + j).toNat 0 ⟨by decide, by omega, by omega⟩ ?_ ?_
        · exact ⟨rfl, ⟨⟨Nat.le_of_ble_eq_true rfl, rfl⟩, trivial⟩, ⟨rfl, rfl, rfl, rfl, rfl, rfl, trivial⟩, rfl, rfl, Nat.zero_le _⟩
        · rintro m k ⟨k0, k1, rfl⟩
          rcases Int.lt_or_le k (i + j) with k2 | k2
          · have ek := em k
            have ek2 := em (k - i)
            have rc := row_at s (n := (i + j).toNat) (k := k.toNat) (m := 0 + mulN k.toNat (Try.prog.types[38]).size) (rest := rest) (by omega) (by omega)
            rcases Int.lt_or_le k i with k3 | k3
            · have ra := row_at s (n := i.toNat) (k := k.toNat) (m := 0 + mulN k.toNat (Try.prog.types[38]).size) (rest := r1) (by omega) (by omega)
              repeat' ((conv => whnf); first | (refine ask_true (by omega) ?_) | (refine ask_false (by omega) ?_) | (refine And.intro (by omega) ?_) | (refine ask_nother (rc.trans ra.symm) ?_) | (refine ask_wrap64 (by omega) (by omega) ?_) | (refine ⟨by kernel_rfl, ?_⟩) | fail)
              conv => whnf
              exact ⟨(i + j - (k + 1)).toNat, k + 1, by omega, ⟨by omega, by omega, rfl⟩, rfl, ⟨⟨Nat.le_of_ble_eq_true rfl, rfl⟩, trivial⟩, ⟨rfl, rfl, rfl, rfl, rfl, rfl, trivial⟩, rfl, rfl, Nat.zero_le _⟩
            · omega
          · repeat' ((conv => whnf); first | (refine ask_true (by omega) ?_) | (refine ask_false (by omega) ?_) | (refine And.intro ⟨rfl, rfl, rfl⟩ (And.intro (fun hk => ?_) (And.intro (fun hk => absurd hk (by omega)) (by omega)))) | (refine And.intro ⟨rfl, rfl, rfl⟩ ?_) | (refine ask_st _ _ yz' ?_) | (refine ask_st s s rfl ?_) | (refine ask_wrap64 (by omega) (by omega) ?_) | (refine ⟨by kernel_rfl, ?_⟩) | rfl | fail)
    · rcases Int.lt_or_le 0 j with jp | jp
      · repeat' ((conv => whnf); first | (refine And.intro ⟨rfl, rfl, rfl⟩ (And.intro (fun hk => absurd hk (by omega)) (And.intro (fun _ _ c rest g1 g2 g3 => ?_) (by omega)))) | (refine And.intro ⟨rfl, rfl, rfl⟩ (And.intro (fun hk => ?_) (And.intro (fun hk => absurd hk (by omega)) (by omega)))) | (refine And.intro ⟨rfl, rfl, rfl⟩ ?_) | (refine ask_wrap64 (by omega) (by omega) ?_) | (refine ⟨by kernel_rfl, ?_⟩) | fail)
        conv => whnf
        rename_i b1 b2 c2 r2 q1 q2 q3 d1 d2
        have ex : s = iterS s i.toNat := by rw [show i.toNat = 0 by omega]; rfl
        have yz' : (iterS s j.toNat) = (iterS s (i + j).toNat) := by rw [show (i + j).toNat = j.toNat by omega]
        refine loop_at (6 :: 15 :: List.range' 54 48) (fun m (k : Int) => 0 ≤ k ∧ k ≤ i + j ∧ m = (i + j - k).toNat) (fun k => [(15, vi k)]) (fun _ => [rb s, sb s, ran s j c2 r2, sb (iterS s j.toNat), ran s (i + j) c rest, sb (iterS s (i + j).toNat)]) (i + j).toNat 0 ⟨by decide, by omega, by omega⟩ ?_ ?_
        · exact ⟨rfl, ⟨⟨Nat.le_of_ble_eq_true rfl, rfl⟩, trivial⟩, ⟨rfl, rfl, rfl, rfl, rfl, rfl, trivial⟩, rfl, rfl, Nat.zero_le _⟩
        · rintro m k ⟨k0, k1, rfl⟩
          rcases Int.lt_or_le k (i + j) with k2 | k2
          · have ek := em k
            have ek2 := em (k - i)
            have rc := row_at s (n := (i + j).toNat) (k := k.toNat) (m := 0 + mulN k.toNat (Try.prog.types[38]).size) (rest := rest) (by omega) (by omega)
            rcases Int.lt_or_le k i with k3 | k3
            · omega
            · have rb' := row_at s (n := j.toNat) (k := (k - i).toNat) (m := 0 + mulN (k - i).toNat (Try.prog.types[38]).size) (rest := r2) (by omega) (by omega)
              have e4 : iterS s (k - i).toNat = iterS s k.toNat := by rw [ex, ← iterS_add]; congr 1; omega
              rw [e4] at rb'
              repeat' ((conv => whnf); first | (refine ask_true (by omega) ?_) | (refine ask_false (by omega) ?_) | (refine And.intro (by omega) ?_) | (refine ask_nother (rc.trans rb'.symm) ?_) | (refine ask_wrap64 (by omega) (by omega) ?_) | (refine ⟨by kernel_rfl, ?_⟩) | fail)
              conv => whnf
              exact ⟨(i + j - (k + 1)).toNat, k + 1, by omega, ⟨by omega, by omega, rfl⟩, rfl, ⟨⟨Nat.le_of_ble_eq_true rfl, rfl⟩, trivial⟩, ⟨rfl, rfl, rfl, rfl, rfl, rfl, trivial⟩, rfl, rfl, Nat.zero_le _⟩
          · repeat' ((conv => whnf); first | (refine ask_true (by omega) ?_) | (refine ask_false (by omega) ?_) | (refine And.intro ⟨rfl, rfl, rfl⟩ (And.intro (fun hk => ?_) (And.intro (fun hk => absurd hk (by omega)) (by omega)))) | (refine And.intro ⟨rfl, rfl, rfl⟩ ?_) | (refine ask_st _ _ yz' ?_) | (refine ask_st s s rfl ?_) | (refine ask_wrap64 (by omega) (by omega) ?_) | (refine ⟨by kernel_rfl, ?_⟩) | rfl | fail)
      · repeat' ((conv => whnf); first | (refine And.intro ⟨rfl, rfl, rfl⟩ (And.intro (fun hk => absurd hk (by omega)) (And.intro (fun _ _ c rest g1 g2 g3 => ?_) (by omega)))) | (refine And.intro ⟨rfl, rfl, rfl⟩ (And.intro (fun hk => ?_) (And.intro (fun hk => absurd hk (by omega)) (by omega)))) | (refine And.intro ⟨rfl, rfl, rfl⟩ ?_) | (refine ask_wrap64 (by omega) (by omega) ?_) | (refine ⟨by kernel_rfl, ?_⟩) | fail)
        conv => whnf
        have ex : s = iterS s i.toNat := by rw [show i.toNat = 0 by omega]; rfl
        have yz' : s = s := rfl
        refine loop_at (6 :: 15 :: List.range' 54 48) (fun m (k : Int) => 0 ≤ k ∧ k ≤ i + j ∧ m = (i + j - k).toNat) (fun k => [(15, vi k)]) (fun _ => [rb s, sb s, sb s, sb s]) (i + j).toNat 0 ⟨by decide, by omega, by omega⟩ ?_ ?_
        · exact ⟨rfl, ⟨⟨Nat.le_of_ble_eq_true rfl, rfl⟩, trivial⟩, ⟨rfl, rfl, rfl, rfl, trivial⟩, rfl, rfl, Nat.zero_le _⟩
        · rintro m k ⟨k0, k1, rfl⟩
          rcases Int.lt_or_le k (i + j) with k2 | k2
          · omega
          · repeat' ((conv => whnf); first | (refine ask_true (by omega) ?_) | (refine ask_false (by omega) ?_) | (refine And.intro ⟨rfl, rfl, rfl⟩ (And.intro (fun hk => ?_) (And.intro (fun hk => absurd hk (by omega)) (by omega)))) | (refine And.intro ⟨rfl, rfl, rfl⟩ ?_) | (refine ask_st _ _ yz' ?_) | (refine ask_st s s rfl ?_) | (refine ask_wrap64 (by omega) (by omega) ?_) | (refine ⟨by kernel_rfl, ?_⟩) | rfl | fail)
  · repeat' ((conv => whnf); first | (refine And.intro ⟨rfl, rfl, rfl⟩ ?_) | (refine ask_false h1 ?_) | rfl | fail)
end Go.Proofs.Ytbgjmlncdlcglaa
