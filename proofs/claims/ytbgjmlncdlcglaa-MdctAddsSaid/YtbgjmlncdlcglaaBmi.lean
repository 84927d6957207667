/- Chapter mdct: the law MdctAdds, walked. -/
import Derived.Test.YtbgjmlncdlcglaaBmh
set_option linter.all false
namespace Go.Proofs.Ytbgjmlncdlcglaa
open Go.RowKit (Below)
set_option maxRecDepth 100000
set_option maxHeartbeats 32000000

noncomputable def sumL (A B : List Int) : List Int := (List.range 16).map fun i => A.getD i 0 + B.getD i 0
theorem sumL_len (A B : List Int) : (sumL A B).length = 16 := by simp [sumL]
theorem sumL_at (A B : List Int) {i : Nat} (h : i < 16) : (sumL A B).getD i 0 = A.getD i 0 + B.getD i 0 := by unfold sumL; rw [getD_range h]
theorem getD_out {xs : List Int} {i : Nat} (h : xs.length ≤ i) : xs.getD i 0 = 0 := by rw [List.getD_eq_getElem?_getD, List.getElem?_eq_none h]; rfl
theorem getD_app {xs ys : List Int} (i : Nat) : (xs ++ ys).getD i 0 = if i < xs.length then xs.getD i 0 else ys.getD (i - xs.length) 0 := by
  split
  · rename_i h; exact getD_append' h
  · rename_i h
    rw [List.getD_eq_getElem?_getD, List.getD_eq_getElem?_getD, List.getElem?_append_right (by omega)]
theorem sum_app {X Y Z T : List Int} (hX : X.length = 16) (hY : Y.length = 16) (hZ : Z.length = 16) (hT : T.length = 16) (i : Nat) : (sumL X Z ++ sumL Y T).getD i 0 = (X ++ Y).getD i 0 + (Z ++ T).getD i 0 := by
  rw [getD_app, getD_app, getD_app, sumL_len, hX, hZ]
  split
  · rename_i h; exact sumL_at _ _ h
  · rcases Nat.lt_or_ge (i - 16) 16 with h | h
    · exact sumL_at _ _ h
    · rw [getD_out (by rw [sumL_len]; omega), getD_out (by omega), getD_out (by omega)]; rfl
theorem wnd_add {A B S : List Int} (hA : held A) (hB : held B) (hS : held S) (h : ∀ i, S.getD i 0 = A.getD i 0 + B.getD i 0) (i : Int) : -1 ≤ wnd S i - wnd A i - wnd B i ∧ wnd S i - wnd A i - wnd B i ≤ 1 := by
  have b := sin_bound (2 * i + 1)
  have h1 := held_at hA i.toNat
  have h2 := held_at hB i.toNat
  have h3 := held_at hS i.toNat
  have q1 := prod_bound h1.1 h1.2 b.1 b.2
  have q2 := prod_bound h2.1 h2.2 b.1 b.2
  have q3 := prod_bound h3.1 h3.2 b.1 b.2
  have e : S.getD i.toNat 0 * sinS (2 * i + 1) = A.getD i.toNat 0 * sinS (2 * i + 1) + B.getD i.toNat 0 * sinS (2 * i + 1) := by rw [h, Int.add_mul]
  rw [wnd_def, wnd_def, wnd_def, shift15 (by omega), shift15 (by omega), shift15 (by omega), e]
  omega
theorem sumN_diff {f g h : Int → Int} {b : Int} (hd : ∀ i : Nat, -b ≤ f i - g i - h i ∧ f i - g i - h i ≤ b) : ∀ n : Nat, -(b * n) ≤ sumN f n - sumN g n - sumN h n ∧ sumN f n - sumN g n - sumN h n ≤ b * n
  | 0 => by rw [sumN_zero, sumN_zero, sumN_zero]; simp
  | n + 1 => by
    have h1 := sumN_diff hd n
    have h2 := hd n
    rw [sumN_succ, sumN_succ, sumN_succ]
    have : b * ((n + 1 : Nat) : Int) = b * n + b := by rw [Int.natCast_add, Int.mul_add]; simp
    omega
theorem waveS_add {A B S : List Int} (hA : held A) (hB : held B) (hS : held S) (h : ∀ i, S.getD i 0 = A.getD i 0 + B.getD i 0) (k : Int) : -32 ≤ waveS S k - waveS A k - waveS B k ∧ waveS S k - waveS A k - waveS B k ≤ 32 := by
  have hd : ∀ i : Nat, -(1 * 32768) ≤ wTerm S k i - wTerm A k i - wTerm B k i ∧ wTerm S k i - wTerm A k i - wTerm B k i ≤ 1 * 32768 := fun i => by
    have h1 := wnd_add hA hB hS h i
    have h2 := kAt_bound i k
    have := prod_bound (a := wnd S i - wnd A i - wnd B i) (b := kAt i k) (m := 1) (n := 32768) h1.1 h1.2 h2.1 h2.2
    have e : wTerm S k i - wTerm A k i - wTerm B k i = (wnd S i - wnd A i - wnd B i) * kAt i k := by
      unfold wTerm; rw [Int.sub_mul, Int.sub_mul]
    rw [e]; exact this
  have hs := sumN_diff hd 32
  have b1 := sum32_bound hA k
  have b2 := sum32_bound hB k
  have b3 := sum32_bound hS k
  unfold waveS
  rw [shift17 b1, shift17 b2, shift17 b3]
  omega

theorem law_MdctAdds (xs : List Int) (h : xs.length = 16) (hx : ∀ x ∈ xs, InK .i64 x) (ys : List Int) (h' : ys.length = 16) (hy : ∀ x ∈ ys, InK .i64 x) (zs : List Int) (h'' : zs.length = 16) (hz : ∀ x ∈ zs, InK .i64 x) (ts : List Int) (h''' : ts.length = 16) (ht : ∀ x ∈ ts, InK .i64 x) (w0 : World) :
    Calls Try.prog 6 #[.agg (xs.map (Value.int .i64)).toArray, .agg (ys.map (Value.int .i64)).toArray, .agg (zs.map (Value.int .i64)).toArray, .agg (ts.map (Value.int .i64)).toArray] w0 fun e w' => e = .returned (.bool true) ∧ Below w0.heap.size w0 w' := by
  have hdA : ∀ l : List Int, (W.den (fun _ => (0, 0)) (ar 16 l)) = Value.agg (l.map (Value.int .i64)).toArray := fun l => by simp [W.den, dens, Seg.den]
  have hd : ([ar 16 xs, ar 16 ys, ar 16 zs, ar 16 ts].map (W.den fun _ => (0, 0))).toArray = #[Value.agg (xs.map (Value.int .i64)).toArray, Value.agg (ys.map (Value.int .i64)).toArray, .agg (zs.map (Value.int .i64)).toArray, .agg (ts.map (Value.int .i64)).toArray] := by rw [← hdA, ← hdA, ← hdA, ← hdA]; rfl
  have := walk1_true FQ2_ok Try.func6 (ws := [ar 16 xs, ar 16 ys, ar 16 zs, ar 16 ts]) ⟨ar_rng h hx, ar_rng h' hy, ar_rng h'' hz, ar_rng h''' ht, trivial⟩ rfl (n := 0) ?_ w0
  · rw [hd] at this; exact this
  obtain ⟨X, hX⟩ : ∃ X, X = smallZ xs := ⟨_, rfl⟩
  obtain ⟨Y, hY⟩ : ∃ X, X = smallZ ys := ⟨_, rfl⟩
  obtain ⟨Z, hZ⟩ : ∃ X, X = smallZ zs := ⟨_, rfl⟩
  obtain ⟨T, hT⟩ : ∃ X, X = smallZ ts := ⟨_, rfl⟩
  have lX : X.length = 16 := by rw [hX]; exact smallZ_len h
  have lY : Y.length = 16 := by rw [hY]; exact smallZ_len h'
  have lZ : Z.length = 16 := by rw [hZ]; exact smallZ_len h''
  have lT : T.length = 16 := by rw [hT]; exact smallZ_len h'''
  have bX : ∀ i, -65536 ≤ X.getD i 0 ∧ X.getD i 0 ≤ 65536 := getD_most (by decide) (by rw [hX]; exact fun x hx => smallZ_in hx)
  have bY : ∀ i, -65536 ≤ Y.getD i 0 ∧ Y.getD i 0 ≤ 65536 := getD_most (by decide) (by rw [hY]; exact fun x hx => smallZ_in hx)
  have bZ : ∀ i, -65536 ≤ Z.getD i 0 ∧ Z.getD i 0 ≤ 65536 := getD_most (by decide) (by rw [hZ]; exact fun x hx => smallZ_in hx)
  have bT : ∀ i, -65536 ≤ T.getD i 0 ∧ T.getD i 0 ≤ 65536 := getD_most (by decide) (by rw [hT]; exact fun x hx => smallZ_in hx)
  have hhX : held X := by rw [hX]; exact small_held _
  have hhY : held Y := by rw [hY]; exact small_held _
  have hhZ : held Z := by rw [hZ]; exact small_held _
  have hhT : held T := by rw [hT]; exact small_held _
  have hsum : ∀ A B : List Int, (∀ i, -65536 ≤ A.getD i 0 ∧ A.getD i 0 ≤ 65536) → (∀ i, -65536 ≤ B.getD i 0 ∧ B.getD i 0 ≤ 65536) → held (sumL A B) := fun A B hA hB => by
    rw [held_def]
    intro x hx
    unfold sumL at hx
    obtain ⟨k, _, rfl⟩ := List.mem_map.1 hx
    have := hA k
    have := hB k
    omega
  have hhS := hsum X Z bX bZ
  have hhU := hsum Y T bY bT
  have e1 : wavesZ X Y = waveZ (X ++ Y) := if_pos ⟨hhX, hhY⟩
  have e2 : wavesZ Z T = waveZ (Z ++ T) := if_pos ⟨hhZ, hhT⟩
  have e3 : wavesZ (sumL X Z) (sumL Y T) = waveZ (sumL X Z ++ sumL Y T) := if_pos ⟨hhS, hhU⟩
  have fin : ∀ k : Nat, k < 16 → -32 ≤ (wavesZ (sumL X Z) (sumL Y T)).getD k 0 - (wavesZ X Y).getD k 0 - (wavesZ Z T).getD k 0 ∧ (wavesZ (sumL X Z) (sumL Y T)).getD k 0 - (wavesZ X Y).getD k 0 - (wavesZ Z T).getD k 0 ≤ 32 := fun k hk => by
    rw [e1, e2, e3]
    unfold waveZ
    rw [getD_range hk, getD_range hk, getD_range hk]
    exact waveS_add (held_append hhX hhY) (held_append hhZ hhT) (held_append hhS hhU) (sum_app lX lY lZ lT) k
  have bw : ∀ A B k, -8388608 ≤ (wavesZ A B).getD k 0 ∧ (wavesZ A B).getD k 0 ≤ 8388608 := fun A B k => getD_most (by decide) (fun x hx => wavesZ_bound A B hx) k
  repeat' ((conv => whnf); first | (refine And.intro trivial ?_) | (refine And.intro (by omega) ?_) | (refine ⟨by kernel_rfl, ?_⟩) | fail)
  rw [← hX, ← hY, ← hZ, ← hT]
  refine loop_at (15 :: List.range' 31 22) (fun m (i : Int) => 0 ≤ i ∧ i ≤ 16 ∧ m = (16 - i).toNat) (fun i => [(15, vi i)]) (fun i => [oa xs, oa ys, oa zs, oa ts, ob X, ob Y, ob Z, ob T, ob (stg (sumL X Z) z16 i), ob (stg (sumL Y T) z16 i)]) 16 0 ⟨by decide, by decide, rfl⟩ ?_ ?_
  · exact ⟨rfl, ⟨⟨Nat.le_of_ble_eq_true rfl, rfl⟩, trivial⟩, ⟨rfl, rfl, rfl, rfl, rfl, rfl, rfl, rfl, by rw [stg_zero]; rfl, by rw [stg_zero]; rfl, trivial⟩, rfl, rfl, Nat.zero_le _⟩
  · rintro m i ⟨h0, h1, rfl⟩
    have em : mulN i.toNat (Try.prog.types[3]).size = i.toNat := mulN1 i.toNat
    have b1 := bX (mulN i.toNat (Try.prog.types[3]).size)
    have b2 := bY (mulN i.toNat (Try.prog.types[3]).size)
    have b3 := bZ (mulN i.toNat (Try.prog.types[3]).size)
    have b4 := bT (mulN i.toNat (Try.prog.types[3]).size)
    rcases Int.lt_or_le i 16 with h2 | h2
    · repeat' ((conv => whnf); first | (refine ask_true (by omega) ?_) | (refine And.intro (by omega) ?_) | (refine fun (_ : InK _ _) => ?_) | (refine ask_wrap64 (by omega) (by omega) ?_) | (refine ⟨by kernel_rfl, ?_⟩) | fail)
      conv => whnf
      refine ⟨(16 - (i + 1)).toNat, i + 1, by omega, ⟨by omega, by omega, rfl⟩, rfl, ⟨⟨Nat.le_of_ble_eq_true rfl, rfl⟩, trivial⟩, ⟨rfl, rfl, rfl, rfl, rfl, rfl, rfl, rfl, ?_, ?_, trivial⟩, rfl, rfl, Nat.zero_le _⟩
      · refine congrArg ob (stg_set em (by rw [sumL_len]; rfl) h0 (by rw [sumL_len]; omega) ?_).symm
        rw [sumL_at _ _ (by omega), em]
      · refine congrArg ob (stg_set em (by rw [sumL_len]; rfl) h0 (by rw [sumL_len]; omega) ?_).symm
        rw [sumL_at _ _ (by omega), em]
    · have hi : i = 16 := by omega
      subst hi
      rw [stg_all (by rw [sumL_len]; rfl) (by rw [sumL_len]; rfl), stg_all (by rw [sumL_len]; rfl) (by rw [sumL_len]; rfl)]
      repeat' ((conv => whnf); first | (refine ask_false (by omega) ?_) | (refine And.intro ⟨by omega, by omega⟩ ?_) | (refine And.intro trivial ?_) | (refine ⟨by kernel_rfl, ?_⟩) | fail)
      conv => whnf
      refine loop_at (8 :: 19 :: 20 :: List.range' 62 21) (fun m (i : Int) => 0 ≤ i ∧ i ≤ 16 ∧ m = (16 - i).toNat) (fun i => [(19, vi i)]) (fun i => [oa xs, oa ys, oa zs, oa ts, ob X, ob Y, ob Z, ob T, ob (sumL X Z), ob (sumL Y T), ob (wavesZ X Y), ob (wavesZ Z T), ob (wavesZ (sumL X Z) (sumL Y T))]) 16 0 ⟨by decide, by decide, rfl⟩ ?_ ?_
      · exact ⟨rfl, ⟨⟨Nat.le_of_ble_eq_true rfl, rfl⟩, trivial⟩, ⟨rfl, rfl, rfl, rfl, rfl, rfl, rfl, rfl, rfl, rfl, rfl, rfl, rfl, trivial⟩, rfl, rfl, Nat.zero_le _⟩
      · rintro m i ⟨h0, h1, rfl⟩
        have em : mulN i.toNat (Try.prog.types[3]).size = i.toNat := mulN1 i.toNat
        conv => whnf
        refine ask_split (fun h2 => ?_) (fun h2 => ?_)
        · have f1 := fin (mulN i.toNat (Try.prog.types[3]).size) (by omega)
          have w1 := bw X Y (mulN i.toNat (Try.prog.types[3]).size)
          have w2 := bw Z T (mulN i.toNat (Try.prog.types[3]).size)
          have w3 := bw (sumL X Z) (sumL Y T) (mulN i.toNat (Try.prog.types[3]).size)
          repeat' ((conv => whnf); first | (refine And.intro (by omega) ?_) | (refine fun (_ : InK _ _) => ?_) | (refine ask_wrap64 (by omega) (by omega) ?_) | (refine ask_false (by omega) ?_) | (refine ⟨by kernel_rfl, ?_⟩) | fail)
          conv => whnf
          exact ⟨(16 - (i + 1)).toNat, i + 1, by omega, ⟨by omega, by omega, rfl⟩, rfl, ⟨⟨Nat.le_of_ble_eq_true rfl, rfl⟩, trivial⟩, ⟨rfl, rfl, rfl, rfl, rfl, rfl, rfl, rfl, rfl, rfl, rfl, rfl, rfl, trivial⟩, rfl, rfl, Nat.zero_le _⟩
        · repeat' ((conv => whnf); first | rfl | fail)
end Go.Proofs.Ytbgjmlncdlcglaa
