/- Chapter entry: the law EntrySizes, walked. -/
import Derived.Test.YtbgjmlncdlcglaaBea
import Derived.Test.YtbgjmlncdlcglaaBsm
set_option linter.all false
namespace Go.Proofs.Ytbgjmlncdlcglaa
open Go.RowKit (Below)
set_option maxRecDepth 100000
set_option maxHeartbeats 32000000

noncomputable def FEd : Fns := ((F0.plus 24 (ct0 (vb true))).plus 26 ctEnId).plus 25 ctLayE
theorem FEd_ok : FnsOk Try.prog FEd := ((F0_ok.plus awake20_ct Try.func24 (by kernel_rfl) (by kernel_rfl)).plus enOf_ct Try.func26 (by kernel_rfl) (by kernel_rfl)).plus enLay_ct Try.func25 (by kernel_rfl) (by kernel_rfl)
theorem four_at {t : Int} {j : Nat} (hj : j < 4) : (four t).getD j 0 = dv t j % 256 := by
  obtain rfl | rfl | rfl | rfl : j = 0 ∨ j = 1 ∨ j = 2 ∨ j = 3 := by omega
  · rfl
  · rfl
  · show t / 65536 % 256 = t / 256 / 256 % 256
    omega
  · show t / 16777216 % 256 = t / 256 / 256 / 256 % 256
    omega
theorem layE_at {k t : Int} {d : ByteArray} {i : Nat} (h1 : 1 ≤ i) (h4 : i ≤ 4) : (layE k t d).getD i 0 = dv t (i - 1) % 256 := by
  rw [← four_at (by omega)]
  obtain rfl | rfl | rfl | rfl : i = 1 ∨ i = 2 ∨ i = 3 ∨ i = 4 := by omega
  all_goals rfl
theorem layE_get {k t : Int} {d : ByteArray} {i : Nat} (h : i < 5 + d.size) : ((((strOfNums (layE k t d)).get! i).toNat : Nat) : Int) = (layE k t d).getD i 0 := by
  rw [get_bytesI (by rw [strOfNums_size, layE_len]; exact h), bytesI_str (layE_in k t d)]
theorem layE_rest (k t : Int) (d : ByteArray) : (strOfNums (layE k t d)).extract 5 (strOfNums (layE k t d)).size = d := by
  rw [str_drop _ (layE_in k t d)]
  exact str_bytesI d
theorem sizes_law (k t : Int) (d : ByteArray) (ht : InK .u32 t) (hd : d.size ≤ 9223372036854775807) : walk FEd 0 Try.f3 [enW k t d] [] fun y _ => y = vb true := by
  obtain ⟨t0, t1⟩ := ht
  simp only [lowK, highK] at t0 t1
  rcases Nat.lt_or_ge 500 d.size with hl | hl
  · repeat' ((conv => whnf); first | (refine ask_true (by omega) ?_) | rfl | fail)
  · rcases Classical.em (rightE k d) with hr | hr
    · repeat' ((conv => whnf); first | (refine ask_false (by omega) ?_) | (refine And.intro (fun _ s hs => ?_) (fun hn => absurd hr hn)) | fail)
      have hk : k % 256 = k := by
        have h := hr
        rw [rightE_def] at h
        omega
      have hsz := rightE_size hr
      have hs5 : s.size = 5 + d.size := by rw [hs, strOfNums_size, layE_len]
      conv => whnf
      refine loop_at (5 :: 6 :: List.range' 24 11) (fun m (i : Int) => 0 ≤ i ∧ i ≤ 4 ∧ m = i.toNat) (fun i => [(5, .w (u32 (dv t i.toNat))), (6, vi i)]) (fun _ => [.own 24 (enW k t d).segs]) 4 4 ⟨by decide, by decide, rfl⟩ ?_ ?_
      · refine ⟨rfl, ⟨⟨Nat.le_of_ble_eq_true rfl, ?_⟩, ⟨Nat.le_of_ble_eq_true rfl, rfl⟩, trivial⟩, ⟨rfl, trivial⟩, rfl, rfl, Nat.zero_le _⟩
        show V.w (u32 0) = V.w (u32 (t / 256 / 256 / 256 / 256))
        rw [show t / 256 / 256 / 256 / 256 = 0 by omega]
      · rintro m i ⟨i0, i1, rfl⟩
        rcases Int.lt_or_le 0 i with i2 | i2
        · have hb := dv_in t0 t1 i.toNat
          have hb1 := dv_in t0 t1 (i.toNat - 1)
          have he : dv t i.toNat = dv t (i.toNat - 1) / 256 := by
            have : i.toNat = (i.toNat - 1) + 1 := by omega
            conv => lhs; rw [this]
            rfl
          have hg : ((((strOfNums (layE k t d)).get! i.toNat).toNat : Nat) : Int) = dv t (i.toNat - 1) % 256 := by
            rw [layE_get (by omega), layE_at (by omega) (by omega)]
          have ei : (i - 1).toNat = i.toNat - 1 := by omega
          rw [← hs] at hg
          conv => whnf
          refine ask_true (by omega) ?_
          conv => whnf
          refine ask_wrapu32 (by omega) (by omega) ?_
          conv => whnf
          refine And.intro (by omega) ?_
          conv => whnf
          refine ask_is hg ?_
          conv => whnf
          refine ask_wrapu32 (by omega) (by omega) ?_
          conv => whnf
          refine ask_wrapu32 (by omega) (by omega) ?_
          conv => whnf
          refine ask_wrap64 (by omega) (by omega) ?_
          conv => whnf
          refine ⟨(i - 1).toNat, i - 1, by omega, ⟨by omega, by omega, rfl⟩, rfl, ⟨⟨Nat.le_of_ble_eq_true rfl, ?_⟩, ⟨Nat.le_of_ble_eq_true rfl, rfl⟩, trivial⟩, ⟨rfl, trivial⟩, rfl, rfl, Nat.zero_le _⟩
          show V.w (u32 _) = V.w (u32 (dv t (i - 1).toNat))
          rw [ei]
          congr 3
          omega
        · have hi : i = 0 := by omega
          subst hi
          have hg : ((((strOfNums (layE k t d)).get! 0).toNat : Nat) : Int) = k := by
            rw [layE_get (by omega)]
            exact hk
          rw [← hs] at hg
          have hx : s.extract 5 s.size = d := by rw [hs]; exact layE_rest k t d
          have hsi : ((s.size : Nat) : Int) = 5 + (d.size : Nat) := by omega
          conv => whnf
          refine ask_false (by omega) ?_
          conv => whnf
          refine ask_wrap64 (by omega) (by omega) ?_
          conv => whnf
          refine ask_true hsi ?_
          conv => whnf
          refine And.intro (by omega) ?_
          conv => whnf
          refine ask_is hg ?_
          have hkk := hr
          rw [rightE_def] at hkk
          conv => whnf
          refine ask_wrap64 (by omega) (by omega) ?_
          conv => whnf
          refine ask_true rfl ?_
          conv => whnf
          refine ask_true rfl ?_
          conv => whnf
          refine And.intro (by omega) ?_
          conv => whnf
          refine ask_true hx ?_
          conv => whnf
          refine ask_true (by omega) ?_
          repeat' ((conv => whnf); first | (refine ⟨by kernel_rfl, ?_⟩) | rfl | fail)
    · repeat' ((conv => whnf); first | (refine ask_false (by omega) ?_) | (refine And.intro (fun hn => absurd hn hr) (fun _ => ?_)) | (refine ask_true (by decide) ?_) | rfl | fail)
theorem law_EntrySizes (v : Value) (hv : EntV v) (w0 : World) : Calls Try.prog 3 #[v] w0 fun e w' => e = .returned (.bool true) ∧ Below w0.heap.size w0 w' := by
  obtain ⟨k, t, d, rfl, hk, ht, hd⟩ := hv
  have := walk_true FEd_ok Try.func3 (ws := [enW k t d]) ⟨enW_rng hk ht hd, trivial⟩ rfl (n := 0) (sizes_law k t d ht hd) w0
  rw [show ([enW k t d].map (W.den fun _ => (0, 0))).toArray = #[Value.agg #[.int .i64 k, .int .u32 t, .string d]] by simp [W.den, dens, Seg.den, C.den]] at this
  exact this
end Go.Proofs.Ytbgjmlncdlcglaa
