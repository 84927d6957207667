/- Chapter mdct: the law MdctOver, walked. -/
import Derived.Test.YtbgjmlncdlcglaaBmj
set_option linter.all false
namespace Go.Proofs.Ytbgjmlncdlcglaa
open Go.RowKit (Below)
set_option maxRecDepth 100000
set_option maxHeartbeats 32000000

theorem main_split {A B : List Int} (hA : A.length = 16) (m : Int) : mainS (A ++ B) m * sn m = sumN (fun n => A.getD n.toNat 0 * cf m n) 16 + sumN (fun n => B.getD n.toNat 0 * cf m (16 + n)) 16 := by
  unfold mainS
  rw [← sumN_times']
  have h1 : sumN (fun n => (A ++ B).getD n.toNat 0 * sn n * gram m n * sn m) 32 = sumN (fun n => (A ++ B).getD n.toNat 0 * cf m n) (16 + 16) := sumN_congr fun n _ => by
    unfold cf; ac_rfl
  rw [h1, sumN_split]
  congr 1
  · refine sumN_congr fun n hn => ?_
    rw [getD_append' (by rw [Int.toNat_natCast]; omega)]
  · refine sumN_congr fun n hn => ?_
    have e : ((((16 : Nat) : Int) + (n : Int))).toNat = 16 + n := by omega
    show (A ++ B).getD ((((16 : Nat) : Int) + (n : Int))).toNat 0 * _ = B.getD (n : Int).toNat 0 * _
    rw [e, Int.toNat_natCast, List.getD_eq_getElem?_getD, List.getElem?_append_right (by omega), List.getD_eq_getElem?_getD, show 16 + n - A.length = n by omega]
    rfl
theorem over_near {X Y Z : List Int} (lX : X.length = 16) (lY : Y.length = 16) {M : Int} (hM0 : 0 ≤ M) (hM : M ≤ 65536) (bX : ∀ j, -M ≤ X.getD j 0 ∧ X.getD j 0 ≤ M) (bY : ∀ j, -M ≤ Y.getD j 0 ∧ Y.getD j 0 ≤ M) (bZ : ∀ j, -M ≤ Z.getD j 0 ∧ Z.getD j 0 ≤ M)
    (h1 : held (X ++ Y)) (h2 : held (Y ++ Z)) (w1 : held (waveZ (X ++ Y))) (w2 : held (waveZ (Y ++ Z))) {i : Nat} (hi : i < 16) :
    -(M / 64 + 128) ≤ backS (waveZ (X ++ Y)) (16 + i) + backS (waveZ (Y ++ Z)) i - Y.getD i 0 ∧ backS (waveZ (X ++ Y)) (16 + i) + backS (waveZ (Y ++ Z)) i - Y.getD i 0 ≤ M / 64 + 128 := by
  obtain ⟨R1, r1, r1', f1⟩ := frame_back h1 w1 (16 + i)
  obtain ⟨R2, r2, r2', f2⟩ := frame_back h2 w2 i
  rw [main_split lX] at f1
  rw [main_split lY] at f2
  have fy : sumN (fun n => Y.getD n.toNat 0 * (if n.toNat = i then 9223372036854775808 else 0)) 16 = Y.getD i 0 * 9223372036854775808 := by
    rw [sumN_one (j := i) (fun n hn => by rw [Int.toNat_natCast, if_neg hn, Int.mul_zero]), if_pos hi, Int.toNat_natCast, if_pos rfl]
  have key := sumN_le (f := fun n => X.getD n.toNat 0 * cf (16 + i) n + Y.getD n.toNat 0 * cf (16 + i) (16 + n) + Y.getD n.toNat 0 * cf i n + Z.getD n.toNat 0 * cf i (16 + n) - Y.getD n.toNat 0 * (if n.toNat = i then 9223372036854775808 else 0))
    (g := fun n => M * devR i n.toNat) (n := 16) (fun n hn => by
      rw [Int.toNat_natCast]
      have e1 : cf (16 + (i : Int)) (n : Int) = cR (16 + i) n := by
        have := cf_cR (m := 16 + i) (n := n) (by omega) (by omega)
        rwa [Int.natCast_add] at this
      have e2 : cf (16 + (i : Int)) (16 + (n : Int)) = cR (16 + i) (16 + n) := by
        have := cf_cR (m := 16 + i) (n := 16 + n) (by omega) (by omega)
        rwa [Int.natCast_add, Int.natCast_add] at this
      have e3 : cf (i : Int) (n : Int) = cR i n := cf_cR (by omega) (by omega)
      have e4 : cf (i : Int) (16 + (n : Int)) = cR i (16 + n) := by
        have := cf_cR (m := i) (n := 16 + n) (by omega) (by omega)
        rwa [Int.natCast_add] at this
      rw [e1, e2, e3, e4]
      have a1 := ab_mul (c := cR (16 + i) n) (bX n)
      have a2 := ab_mul (c := cR (16 + i) (16 + n) + cR i n - (if n = i then 9223372036854775808 else 0)) (bY n)
      have a3 := ab_mul (c := cR i (16 + n)) (bZ n)
      rw [Int.mul_sub, Int.mul_add] at a2
      unfold devR
      rw [Int.mul_add, Int.mul_add]
      omega)
  rw [sumN_minus, sumN_plus, sumN_plus, sumN_plus, fy, sumN_times, sumN_list] at key
  have hd := dev_le hi
  have hdd : ((List.range 16).map fun (n : Nat) => devR i ((n : Int)).toNat).sum ≤ 144115188075855872 := by
    have e : (fun (n : Nat) => devR i ((n : Int)).toNat) = fun n => devR i n := by funext n; rw [Int.toNat_natCast]
    rw [e]; exact hd
  have hmd : M * ((List.range 16).map fun (n : Nat) => devR i ((n : Int)).toNat).sum ≤ M * 144115188075855872 := Int.mul_le_mul_of_nonneg_left hdd hM0
  have e16 : ((((16 : Nat) : Int)) + (i : Int)) = 16 + (i : Int) := rfl
  omega
theorem three_rows {X Y Z : List Int} (h : X.length = 16) (h' : Y.length = 16) (h'' : Z.length = 16) {n : Nat} (hn : n = 48) : List.take (31 + 1) (List.take (15 + 1) (X ++ List.drop 16 (List.replicate n 0)) ++ Y ++ List.drop (15 + 1 + 16) (X ++ List.drop 16 (List.replicate n 0))) ++ Z ++
    List.drop (31 + 1 + 16) (List.take (15 + 1) (X ++ List.drop 16 (List.replicate n 0)) ++ Y ++ List.drop (15 + 1 + 16) (X ++ List.drop 16 (List.replicate n 0))) = X ++ Y ++ Z := by
  subst hn
  rw [List.take_append_of_le_length (l₁ := X) (by omega), List.take_of_length_le (l := X) (by omega), List.take_append_of_le_length (by simp; omega), List.take_of_length_le (by simp; omega), List.drop_of_length_le (by simp; omega), List.append_nil]
theorem law_MdctOver (xs : List Int) (h : xs.length = 16) (hx : ∀ x ∈ xs, InK .i64 x) (ys : List Int) (h' : ys.length = 16) (hy : ∀ x ∈ ys, InK .i64 x) (zs : List Int) (h'' : zs.length = 16) (hz : ∀ x ∈ zs, InK .i64 x) (w0 : World) :
    Calls Try.prog 11 #[.agg (xs.map (Value.int .i64)).toArray, .agg (ys.map (Value.int .i64)).toArray, .agg (zs.map (Value.int .i64)).toArray] w0 fun e w' => e = .returned (.bool true) ∧ Below w0.heap.size w0 w' := by
  have hdA : ∀ l : List Int, (W.den (fun _ => (0, 0)) (ar 16 l)) = Value.agg (l.map (Value.int .i64)).toArray := fun l => by simp [W.den, dens, Seg.den]
  have hd : ([ar 16 xs, ar 16 ys, ar 16 zs].map (W.den fun _ => (0, 0))).toArray = #[Value.agg (xs.map (Value.int .i64)).toArray, Value.agg (ys.map (Value.int .i64)).toArray, .agg (zs.map (Value.int .i64)).toArray] := by rw [← hdA, ← hdA, ← hdA]; rfl
  have := walk1_true FQ3_ok Try.func11 (ws := [ar 16 xs, ar 16 ys, ar 16 zs]) ⟨ar_rng h hx, ar_rng h' hy, ar_rng h'' hz, trivial⟩ rfl (n := 0) ?_ w0
  · rw [hd] at this; exact this
  obtain ⟨X, hX⟩ : ∃ X, X = smallZ xs := ⟨_, rfl⟩
  obtain ⟨Y, hY⟩ : ∃ X, X = smallZ ys := ⟨_, rfl⟩
  obtain ⟨Z, hZ⟩ : ∃ X, X = smallZ zs := ⟨_, rfl⟩
  have lX : X.length = 16 := by rw [hX]; exact smallZ_len h
  have lY : Y.length = 16 := by rw [hY]; exact smallZ_len h'
  have lZ : Z.length = 16 := by rw [hZ]; exact smallZ_len h''
  have hhX : held X := by rw [hX]; exact small_held _
  have hhY : held Y := by rw [hY]; exact small_held _
  have hhZ : held Z := by rw [hZ]; exact small_held _
  have inX : ∀ x ∈ X, -65536 ≤ x ∧ x ≤ 65536 := by rw [hX]; exact fun x hx => smallZ_in hx
  have inY : ∀ x ∈ Y, -65536 ≤ x ∧ x ≤ 65536 := by rw [hY]; exact fun x hx => smallZ_in hx
  have inZ : ∀ x ∈ Z, -65536 ≤ x ∧ x ≤ 65536 := by rw [hZ]; exact fun x hx => smallZ_in hx
  obtain ⟨M, hM⟩ : ∃ M, M = mostS (X ++ Y ++ Z) := ⟨_, rfl⟩
  have m0 : 0 ≤ M := by rw [hM]; exact mostS_nonneg _
  have m1 : M ≤ 65536 := by
    rw [hM]
    refine mostS_le (by decide) _ fun x hx => ?_
    rcases List.mem_append.1 hx with hx | hx
    · rcases List.mem_append.1 hx with hx | hx
      · exact inX x hx
      · exact inY x hx
    · exact inZ x hx
  have inM : ∀ x ∈ X ++ Y ++ Z, -M ≤ x ∧ x ≤ M := fun x hx => by
    have := mostS_ge hx
    rw [hM]; omega
  have bX := getD_most m0 (fun x hx => inM x (List.mem_append_left _ (List.mem_append_left _ hx)))
  have bY := getD_most m0 (fun x hx => inM x (List.mem_append_left _ (List.mem_append_right _ hx)))
  have bZ := getD_most m0 (fun x hx => inM x (List.mem_append_right _ hx))
  have e1 : wavesZ X Y = waveZ (X ++ Y) := if_pos ⟨hhX, hhY⟩
  have e2 : wavesZ Y Z = waveZ (Y ++ Z) := if_pos ⟨hhY, hhZ⟩
  have wheld : ∀ A B : List Int, (∀ x ∈ A, -65536 ≤ x ∧ x ≤ 65536) → (∀ x ∈ B, -65536 ≤ x ∧ x ≤ 65536) → held (waveZ (A ++ B)) := fun A B hA hB => by
    rw [held_def]
    intro x hx
    have := waveZ_most (M := 65536) (by decide) (by decide) (fun x hx => by
      rcases List.mem_append.1 hx with h | h
      · exact hA x h
      · exact hB x h) hx
    omega
  have w1 := wheld X Y inX inY
  have w2 := wheld Y Z inY inZ
  have z1 : backZ (wavesZ X Y) = backL (waveZ (X ++ Y)) := by rw [e1]; exact if_pos w1
  have z2 : backZ (wavesZ Y Z) = backL (waveZ (Y ++ Z)) := by rw [e2]; exact if_pos w2
  have fin : ∀ k : Nat, k < 16 → -(M / 64 + 128) ≤ (overZ (back2 (wavesZ X Y)) (back1 (wavesZ Y Z))).getD k 0 - Y.getD k 0 ∧ (overZ (back2 (wavesZ X Y)) (back1 (wavesZ Y Z))).getD k 0 - Y.getD k 0 ≤ M / 64 + 128 := fun k hk => by
    have near := over_near lX lY m0 m1 bX bY bZ (held_append hhX hhY) (held_append hhY hhZ) w1 w2 hk
    have b1 := backS_bound w1 (16 + k)
    have b2 := backS_bound w2 k
    have g1 : (back2 (wavesZ X Y)).getD k 0 = backS (waveZ (X ++ Y)) (16 + k) := by
      unfold back2
      rw [z1, List.getD_eq_getElem?_getD, List.getElem?_drop, ← List.getD_eq_getElem?_getD]
      unfold backL
      rw [getD_range (by omega), Int.natCast_add]; rfl
    have g2 : (back1 (wavesZ Y Z)).getD k 0 = backS (waveZ (Y ++ Z)) k := by
      unfold back1
      rw [z2, List.getD_eq_getElem?_getD, List.getElem?_take_of_lt hk, ← List.getD_eq_getElem?_getD]
      unfold backL
      rw [getD_range (by omega)]
    rw [overZ_at _ _ hk, g1, g2]
    unfold over1
    have c1 := cut32 (backS (waveZ (X ++ Y)) (16 + k))
    have c2 := cut32 (backS (waveZ (Y ++ Z)) k)
    have c3 := cut32 (cutS (backS (waveZ (X ++ Y)) (16 + k)) 32 + cutS (backS (waveZ (Y ++ Z)) k) 32)
    omega
  repeat' ((conv => whnf); first | (refine And.intro ⟨by omega, by omega⟩ ?_) | (refine And.intro trivial ?_) | (refine And.intro rfl ?_) | (refine And.intro (by omega) ?_) | (refine ⟨by kernel_rfl, ?_⟩) | fail)
  conv => whnf
  rw [← hX, ← hY, ← hZ]
  have es : 3 * (Try.prog.types[38]).size = 48 := by kernel_rfl
  rw [three_rows lX lY lZ es, ← hM]
  refine And.intro ⟨by kernel_rfl, fun x hx => by have := inM x hx; omega⟩ ?_
  conv => whnf
  refine And.intro (by omega) fun r hr => ?_
  have hr' : r = M / 64 := by
    rw [hr, tdiv_pos m0]
    exact wrap_of_in (k := .i64) ⟨by simp only [lowK]; omega, by simp only [highK]; omega⟩
  clear hr
  conv => whnf
  refine ask_wrap64 (by omega) (by omega) ?_
  conv => whnf
  refine loop_at (6 :: 16 :: 45 :: List.range' 49 24) (fun m (i : Int) => 0 ≤ i ∧ i ≤ 16 ∧ m = (16 - i).toNat) (fun i => [(16, vi i)]) (fun _ => [oa xs, oa ys, oa zs, ob X, ob Y, ob Z, ob (back1 (wavesZ X Y)), ob (back2 (wavesZ X Y)), ob (back1 (wavesZ Y Z)), ob (back2 (wavesZ Y Z)), ob (overZ (back2 (wavesZ X Y)) (back1 (wavesZ Y Z)))]) 16 0 ⟨by decide, by decide, rfl⟩ ?_ ?_
  · exact ⟨rfl, ⟨⟨Nat.le_of_ble_eq_true rfl, rfl⟩, trivial⟩, ⟨rfl, rfl, rfl, rfl, rfl, rfl, rfl, rfl, rfl, rfl, rfl, trivial⟩, rfl, rfl, Nat.zero_le _⟩
  · rintro m i ⟨i0, i1, rfl⟩
    have em : mulN i.toNat (Try.prog.types[3]).size = i.toNat := mulN1 i.toNat
    rcases Int.lt_or_le i 16 with i2 | i2
    · have f1 := fin (mulN i.toNat (Try.prog.types[3]).size) (by omega)
      have y1 := bY (mulN i.toNat (Try.prog.types[3]).size)
      repeat' ((conv => whnf); first | (refine ask_true (by omega) ?_) | (refine ask_false (by omega) ?_) | (refine And.intro (by omega) ?_) | (refine fun (_ : InK _ _) => ?_) | (refine ask_wrap64 (by omega) (by omega) ?_) | (refine ⟨by kernel_rfl, ?_⟩) | fail)
      conv => whnf
      exact ⟨(16 - (i + 1)).toNat, i + 1, by omega, ⟨by omega, by omega, rfl⟩, rfl, ⟨⟨Nat.le_of_ble_eq_true rfl, rfl⟩, trivial⟩, ⟨rfl, rfl, rfl, rfl, rfl, rfl, rfl, rfl, rfl, rfl, rfl, trivial⟩, rfl, rfl, Nat.zero_le _⟩
    · repeat' ((conv => whnf); first | (refine ask_false (by omega) ?_) | rfl | fail)
end Go.Proofs.Ytbgjmlncdlcglaa
