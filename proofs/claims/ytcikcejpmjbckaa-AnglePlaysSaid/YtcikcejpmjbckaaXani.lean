/- Chapter angle: the window, and the law AngleWindow, walked. -/
import Derived.Test.YtcikcejpmjbckaaXanh
import Derived.Test.YtcikcejpmjbckaaXtl
set_option linter.all false
namespace Go.Proofs.Ytcikcejpmjbckaa
open Go.RowKit (Below)
set_option maxRecDepth 100000
set_option maxHeartbeats 32000000

noncomputable def winZ : List Int := (List.range 32).map fun (n : Nat) => sinS (2 * (n : Int) + 1)
theorem winZ_len : winZ.length = 32 := by simp [winZ]
abbrev o32 (xs : List Int) : Blk := .own 39 [.ints .i64 32 xs]
def z32 : List Int := [0, 0, 0, 0, 0, 0, 0, 0, 0, 0, 0, 0, 0, 0, 0, 0, 0, 0, 0, 0, 0, 0, 0, 0, 0, 0, 0, 0, 0, 0, 0, 0]
theorem sinS_def (u : Int) : sinS u = cosS (u - 32) := by unfold sinS; rfl
theorem sin_bound (u : Int) : -32768 ≤ sinS u ∧ sinS u ≤ 32768 := by rw [sinS_def]; exact cosS_bound _
theorem window_walk : walk FS 0 Try.f34 [] [] fun y _ => y = .w (ar 32 winZ) := by
  conv => whnf
  refine loop_at (2 :: List.range' 3 10) (fun m (i : Int) => 0 ≤ i ∧ i ≤ 32 ∧ m = (32 - i).toNat) (fun i => [(3, vi i)]) (fun i => [o32 z32, o32 (stg winZ z32 i)]) 32 0 ⟨by decide, by decide, rfl⟩ ?_ ?_
  · exact ⟨rfl, ⟨⟨Nat.le_of_ble_eq_true rfl, rfl⟩, trivial⟩, ⟨rfl, by rw [stg_zero]; rfl, trivial⟩, rfl, rfl, Nat.le_of_ble_eq_true rfl⟩
  · rintro m i ⟨h0, h1, rfl⟩
    have em : mulN i.toNat (Try.prog.types[3]).size = i.toNat := mulN1 i.toNat
    rcases Int.lt_or_le i 32 with h2 | h2
    · repeat' ((conv => whnf); first | (refine ask_true (by omega) ?_) | (refine ask_wrap64 (by omega) (by omega) ?_) | (refine ⟨trivial, ?_⟩) | (refine ⟨by omega, ?_⟩) | fail)
      refine ⟨(32 - (i + 1)).toNat, i + 1, by omega, ⟨by omega, by omega, rfl⟩, rfl, ⟨⟨Nat.le_of_ble_eq_true rfl, rfl⟩, trivial⟩, ⟨rfl, ?_, trivial⟩, rfl, rfl, Nat.le_of_ble_eq_true rfl⟩
      refine congrArg o32 (stg_set em (by rw [winZ_len]; rfl) h0 (by rw [winZ_len]; omega) ?_).symm
      unfold winZ
      rw [getD_range (by omega), Int.toNat_of_nonneg h0]
    · have hi : i = 32 := by omega
      subst hi
      rw [stg_all (by rw [winZ_len]; rfl) (by rw [winZ_len]; rfl)]
      repeat' ((conv => whnf); first | (refine ask_false (by omega) ?_) | rfl | fail)
theorem window_ct : CtOk Try.prog 34 (ct0 (.w (ar 32 winZ))) := ct0_ok FS_ok Try.func34 ⟨⟨⟨winZ_len, fun x hx => by
  obtain ⟨i, _, rfl⟩ := List.mem_map.1 hx
  have := sin_bound (2 * (i : Int) + 1)
  simp only [InK, lowK, highK]; omega⟩, trivial⟩, rfl⟩ window_walk
noncomputable def FW : Fns := FT.plus 34 (ct0 (.w (ar 32 winZ)))
theorem FW_ok : FnsOk Try.prog FW := FT_ok.plus window_ct Try.func34 (by kernel_rfl) (by kernel_rfl)

theorem win_at {i : Int} {m : Nat} (hm : m = i.toNat) (h0 : 0 ≤ i) (h1 : i < 32) : winZ.getD m 0 = cosRound ((2 * i + 97) % 128) := by
  subst hm
  unfold winZ
  rw [getD_range (by omega), Int.toNat_of_nonneg h0, sinS_def, cosS_def]
  congr 1; omega
theorem law_AngleWindow (n : Int) (hn : InK .u8 n) (w0 : World) : Calls Try.prog 14 #[.int .u8 n] w0 fun e w' => e = .returned (.bool true) ∧ Below w0.heap.size w0 w' := by
  refine walk_true FW_ok Try.func14 (ws := [u8 n]) ⟨hn, trivial⟩ rfl (n := 0) ?_ w0
  obtain ⟨n1, n2⟩ := hn
  simp only [lowK, highK] at n1 n2
  conv => whnf
  refine ask_wrap64 (by omega) (by omega) ?_
  conv => whnf
  refine ⟨by omega, fun k hk => ?_⟩
  rw [Int.tmod_eq_emod_of_nonneg (by omega)] at hk
  have k0 : 0 ≤ k ∧ k < 16 := by omega
  clear hk
  have m1 : mulN k.toNat (Try.prog.types[3]).size = k.toNat := mulN1 _
  have m2 : mulN (k + 16).toNat (Try.prog.types[3]).size = (k + 16).toNat := mulN1 _
  have m3 : mulN (31 - k).toNat (Try.prog.types[3]).size = (31 - k).toNat := mulN1 _
  have m4 : mulN (k + 1).toNat (Try.prog.types[3]).size = (k + 1).toNat := mulN1 _
  have w1 := win_at (i := k) m1 (by omega) (by omega)
  have w2 := win_at (i := k + 16) m2 (by omega) (by omega)
  have w3 := win_at (i := 31 - k) m3 (by omega) (by omega)
  have w4 := win_at (i := k + 1) m4 (by omega) (by omega)
  have key := of_decide_eq_true (fin_all (p := fun k => decide (cosRound ((2 * k + 97) % 128) = cosRound ((2 * (31 - k) + 97) % 128) ∧ 0 < cosRound ((2 * k + 97) % 128) ∧ (k = 15 ∨ cosRound ((2 * k + 97) % 128) < cosRound ((2 * (k + 1) + 97) % 128)) ∧
    cosRound ((2 * k + 97) % 128) * cosRound ((2 * k + 97) % 128) + cosRound ((2 * (k + 16) + 97) % 128) * cosRound ((2 * (k + 16) + 97) % 128) - 1073741824 ≤ 262144 ∧
    -262144 ≤ cosRound ((2 * k + 97) % 128) * cosRound ((2 * k + 97) % 128) + cosRound ((2 * (k + 16) + 97) % 128) * cosRound ((2 * (k + 16) + 97) % 128) - 1073741824)) (m := 16) (by decide +kernel) k0.1 (by omega))
  have b1 := cosRound_bound (u := (2 * k + 97) % 128) (by omega) (by omega)
  have b2 := cosRound_bound (u := (2 * (k + 16) + 97) % 128) (by omega) (by omega)
  rw [← w1, ← w2, ← w3, ← w4] at key
  rw [← w1] at b1
  rw [← w2] at b2
  have q1 := prod_bound b1.1 b1.2 b1.1 b1.2
  have q2 := prod_bound b2.1 b2.2 b2.1 b2.2
  clear w1 w2 w3 w4
  obtain ⟨g1, g2, g3, g4, g5⟩ := key
  repeat' ((conv => whnf); first | (refine ask_wrap64 (by omega) (by omega) ?_) | (refine ask_true (by omega) ?_) | (refine ask_false (by omega) ?_) | (refine ⟨trivial, ?_⟩) | (refine ⟨by omega, ?_⟩) | (refine fun (_ : InK _ _) => ?_) | (refine ⟨by kernel_rfl, ?_⟩) | (refine ask_wrapu8 (by omega) (by omega) ?_) | (refine ask_wrapu64 (by omega) (by omega) ?_) | (refine ask_true (show (_ : Bool) = _ from rfl) ?_) | (refine ask_false (show ¬ ((_ : Bool) = _) from Bool.noConfusion) ?_) | rfl | (refine ask_split (fun _ => ?_) (fun _ => ?_)) | fail)
end Go.Proofs.Ytcikcejpmjbckaa
