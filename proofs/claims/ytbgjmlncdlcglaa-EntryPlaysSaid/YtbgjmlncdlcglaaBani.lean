/- Chapter angle: the window, the table, the document's cosines. -/
import Derived.Test.YtbgjmlncdlcglaaBang
import Derived.Test.YtbgjmlncdlcglaaBtl
set_option linter.all false
namespace Go.Proofs.Ytbgjmlncdlcglaa
open Go.RowKit (Below)
set_option maxRecDepth 100000
set_option maxHeartbeats 32000000

noncomputable def winZ : List Int := (List.range 32).map fun (n : Nat) => sinS (2 * (n : Int) + 1)
theorem winZ_len : winZ.length = 32 := by simp [winZ]
abbrev o32 (xs : List Int) : Blk := .own 63 [.ints .i64 32 xs]
def z32 : List Int := [0, 0, 0, 0, 0, 0, 0, 0, 0, 0, 0, 0, 0, 0, 0, 0, 0, 0, 0, 0, 0, 0, 0, 0, 0, 0, 0, 0, 0, 0, 0, 0]
theorem sinS_def (u : Int) : sinS u = cosS (u - 32) := by unfold sinS; rfl
theorem sin_bound (u : Int) : -32768 ≤ sinS u ∧ sinS u ≤ 32768 := by rw [sinS_def]; exact cosS_bound _
theorem window_walk : walk FS 0 Try.f94 [] [] fun y _ => y = .w (ar 32 winZ) := by
  conv => whnf
  refine loop_at (2 :: List.range' 3 10) (fun m (i : Int) => 0 ≤ i ∧ i ≤ 32 ∧ m = (32 - i).toNat) (fun i => [(3, vi i)]) (fun i => [o32 z32, o32 (stg winZ z32 i)]) 32 0 ⟨by decide, by decide, rfl⟩ ?_ ?_
  · exact ⟨rfl, ⟨⟨Nat.le_of_ble_eq_true rfl, rfl⟩, trivial⟩, ⟨rfl, by rw [stg_zero]; rfl, trivial⟩, rfl, rfl, Nat.le_of_ble_eq_true rfl⟩
  · rintro m i ⟨h0, h1, rfl⟩
    have em : mulN i.toNat (Try.prog.types[3]).size = i.toNat := mulN1 i.toNat
    rcases Int.lt_or_le i 32 with h2 | h2
    · repeat' ((conv => whnf); first | (refine ask_true (by omega) ?_) | (refine ask_wrap64 (by omega) (by omega) ?_) | (refine ⟨trivial, ?_⟩) | (refine ⟨by omega, ?_⟩) | fail)
      refine ⟨(32 - (i + 1)).toNat, i + 1, by omega, ⟨by omega, by omega, rfl⟩, rfl, ⟨⟨Nat.le_of_ble_eq_true rfl, rfl⟩, trivial⟩, ⟨rfl, ?_, trivial⟩, rfl, rfl, Nat.le_of_ble_eq_true rfl⟩
      refine congrArg o32 (stg_set em (by rw [winZ_len]; rfl) h0 (by rw [winZ_len]; omega) ?_).symm
      unfold winZ
      rw [getD_range (by omega), Int.toNat_of_nonneg h0]
    · have hi : i = 32 := by omega
      subst hi
      rw [stg_all (by rw [winZ_len]; rfl) (by rw [winZ_len]; rfl)]
      repeat' ((conv => whnf); first | (refine ask_false (by omega) ?_) | rfl | fail)
theorem window_ct : CtOk Try.prog 94 (ct0 (.w (ar 32 winZ))) := ct0_ok FS_ok Try.func94 ⟨⟨⟨winZ_len, fun x hx => by
  obtain ⟨i, _, rfl⟩ := List.mem_map.1 hx
  have := sin_bound (2 * (i : Int) + 1)
  simp only [InK, lowK, highK]; omega⟩, trivial⟩, rfl⟩ window_walk
noncomputable def FW : Fns := FS.plus 94 (ct0 (.w (ar 32 winZ)))
theorem FW_ok : FnsOk Try.prog FW := FS_ok.plus window_ct Try.func94 (by kernel_rfl) (by kernel_rfl)

theorem win_at {i : Int} {m : Nat} (hm : m = i.toNat) (h0 : 0 ≤ i) (h1 : i < 32) : winZ.getD m 0 = cosRound ((2 * i + 97) % 128) := by
  subst hm
  unfold winZ
  rw [getD_range (by omega), Int.toNat_of_nonneg h0, sinS_def, cosS_def]
  congr 1; omega
theorem down_cte : CtOk Try.prog 99 (ct2e (fun _ b => 0 < b) HDiv.hDiv) := ct2e_ok F0_ok Try.func99 (fun a b ha _ h => down_in ha h) fun a b ha hb h => down_walk a b ha hb h
noncomputable def FN : Fns := F0.plus 99 (ct2e (fun _ b => 0 < b) HDiv.hDiv)
theorem FN_ok : FnsOk Try.prog FN := F0_ok.plus down_cte Try.func99 (by kernel_rfl) (by kernel_rfl)
theorem near_walk (x : Int) (hx : InK .i64 x) (h : 0 ≤ x ∧ x ≤ 2147483647) : walk FN 0 Try.f112 [i64 x] [] fun y _ => y = vi (toldR x) := by
  conv => whnf
  refine ask_wrap64 (by omega) (by omega) ?_
  conv => whnf
  refine ⟨by show (0 : Int) < _; decide, fun r hr => ?_⟩
  conv => whnf
  exact vi_eq hr
theorem near_ct : CtOk Try.prog 112 (ct1 (fun x => 0 ≤ x ∧ x ≤ 2147483647) toldR) := ct1_ok FN_ok Try.func112 (fun a _ h => by
  simp only [InK, lowK, highK, toldR]; omega) fun a ha h => near_walk a ha h
noncomputable def FO : Fns := FN.plus 112 (ct1 (fun x => 0 ≤ x ∧ x ≤ 2147483647) toldR)
theorem FO_ok : FnsOk Try.prog FO := FN_ok.plus near_ct Try.func112 (by kernel_rfl) (by kernel_rfl)
theorem ask_quoN {a b : Int} {K : Int → Prop} (h : 0 ≤ a) (hb : 0 < b) (ha : a ≤ 9223372036854775807) (hk : ∀ y, y = a / b → K y) : ∀ r, r = IntKind.i64.wrap (a.tdiv b) → K r := ask_quo h hb ha (hk _ rfl)
def ctB : Ct := fun ws K => match ws with
  | [.c (.ci .i64 a)] => (0 ≤ a ∧ a ≤ 16) ∧ K (.tup [i64 (toldR (cosB a)), i64 (toldR (sinB a))])
  | _ => False
theorem both_walk (u : Int) (hu : InK .i64 u) (h : 0 ≤ u ∧ u ≤ 16) : walk FO 0 Try.f108 [i64 u] [] fun y _ => y = .tup [i64 (toldR (cosB u)), i64 (toldR (sinB u))] := by
  have c1 := cosB_in h
  have c2 := sinB_in h
  conv => whnf
  refine ask_wrap64 (by omega) (by omega) ?_
  conv => whnf
  refine ⟨by show (0 : Int) < _; decide, fun x ex => ?_⟩
  have x0 : 0 ≤ x ∧ x ≤ 843314856 := by omega
  have xx := mul_bound x0.1 x0.2 x0.1 x0.2
  conv => whnf
  refine ask_wrap64 (by omega) (by omega) ?_
  conv => whnf
  refine ⟨by omega, ask_quoN (by omega) (by omega) (by omega) fun y ey => ?_⟩
  have y0 : 0 ≤ y ∧ y ≤ 662337938 := by omega
  have yy := mul_bound y0.1 y0.2 y0.1 y0.2
  conv => whnf
  refine ask_wrap64 (by omega) (by omega) ?_
  conv => whnf
  refine ⟨by omega, ask_quoN (by omega) (by omega) (by omega) fun q eq => ?_⟩
  have q0 : 0 ≤ q ∧ q ≤ 408563338 := by omega
  have qq := mul_bound q0.1 q0.2 q0.1 q0.2
  have qy := mul_bound q0.1 q0.2 y0.1 y0.2
  have xy := mul_bound x0.1 x0.2 y0.1 y0.2
  have xq := mul_bound x0.1 x0.2 q0.1 q0.2
  have e1 : cosB u = 1073741824 - y / 2 + y * y / 25769803776 - q * y / 773094113280 + q * q / 43293270343680 := by
    rw [cosB_def]; unfold cosR; simp only; rw [← ex, ← ey, ← eq]
  have e2 : sinB u = x - x * y / 6442450944 + x * q / 128849018880 - x * (q * y / 1073741824) / 5411658792960 := by
    rw [sinB_def]; unfold sinR; simp only; rw [← ex, ← ey, ← eq]
  have p0 : 0 ≤ q * y / 1073741824 ∧ q * y / 1073741824 ≤ 252022406 := by omega
  have xp := mul_bound x0.1 x0.2 p0.1 p0.2
  clear ex ey eq
  repeat' ((conv => whnf); first | (refine ask_wrap64 (by omega) (by omega) ?_) | (refine ⟨by omega, ask_quo (by omega) (by omega) (by omega) ?_⟩) | (refine ⟨⟨by omega, by omega⟩, ?_⟩) | fail)
  conv => whnf
  rw [e1, e2]
  rfl
theorem both_ct : CtOk Try.prog 108 ctB := by
  intro ws K h' hr
  unfold ctB at h'
  split at h'
  · rename_i a
    have c1 := cosB_in h'.1
    have c2 := sinB_in h'.1
    have i1 : InK .i64 (toldR (cosB a)) := by simp only [InK, lowK, highK, toldR]; omega
    have i2 : InK .i64 (toldR (sinB a)) := by simp only [InK, lowK, highK, toldR]; omega
    exact ⟨_, h'.2, ⟨⟨i1, i2, trivial⟩, rfl⟩, walk_calls FO_ok Try.func108 rfl hr rfl (both_walk a hr.1 h'.1)⟩
  · exact h'.elim
noncomputable def FP : Fns := F0.plus 108 ctB
theorem FP_ok : FnsOk Try.prog FP := F0_ok.plus both_ct Try.func108 (by kernel_rfl) (by kernel_rfl)
theorem told_small {x : Int} (h : 0 ≤ x ∧ x ≤ 2147483647) : 0 ≤ toldR x ∧ toldR x ≤ 65536 := by unfold toldR; omega
theorem refCos_walk (u : Int) (hu : InK .i64 u) : walk FP 0 Try.f98 [i64 u] [] fun y _ => y = vi (cosS u) := by
  have b := tmod_bound (a := u) (b := 128) (by decide)
  have e : u.tmod 128 = u - 128 * u.tdiv 128 := by have := Int.tmod_add_mul_tdiv u 128; omega
  rw [cosS_mod]
  obtain ⟨w, hw⟩ : ∃ w, u % 128 = w := ⟨_, rfl⟩
  have w0 : 0 ≤ w ∧ w < 128 := by omega
  rw [hw]
  conv => whnf
  refine ⟨by omega, fun s hs => ?_⟩
  rw [← hs] at b e
  have hsw : s = w ∨ (s < 0 ∧ s + 128 = w) := by omega
  have hsw2 : 0 ≤ s → s = w := by omega
  clear hs e hw
  rcases hsw with rfl | ⟨hs1, hs2⟩
  · clear hsw2
    rcases Int.lt_or_le 64 s with h64 | h64
    · rw [cosS_back w0.1 w0.2 h64]
      rcases Int.lt_or_le 32 (128 - s) with h32 | h32
      · rw [cosS_neg (by omega) (by omega) h32, cosS_16 (by omega) (by omega)]
        unfold cos16
        split
        · rename_i h16
          have t := told_small (sinB_in (u := 32 - (64 - (128 - s))) (by omega))
          rw [← sinB_def]
          repeat' ((conv => whnf); first | (refine ask_true (by omega) ?_) | (refine ask_false (by omega) ?_) | (refine ask_wrap64 (by omega) (by omega) ?_) | (refine ⟨⟨by omega, by omega⟩, ?_⟩) | (exact vi_eq (by omega)) | fail)
        · rename_i h16
          have t := told_small (cosB_in (u := 64 - (128 - s)) (by omega))
          rw [← cosB_def]
          repeat' ((conv => whnf); first | (refine ask_true (by omega) ?_) | (refine ask_false (by omega) ?_) | (refine ask_wrap64 (by omega) (by omega) ?_) | (refine ⟨⟨by omega, by omega⟩, ?_⟩) | (exact vi_eq (by omega)) | fail)
      · rw [cosS_16 (by omega) h32]
        unfold cos16
        split
        · rename_i h16
          have t := told_small (sinB_in (u := 32 - (128 - s)) (by omega))
          rw [← sinB_def]
          repeat' ((conv => whnf); first | (refine ask_true (by omega) ?_) | (refine ask_false (by omega) ?_) | (refine ask_wrap64 (by omega) (by omega) ?_) | (refine ⟨⟨by omega, by omega⟩, ?_⟩) | (exact vi_eq (by omega)) | fail)
        · rename_i h16
          have t := told_small (cosB_in (u := 128 - s) (by omega))
          rw [← cosB_def]
          repeat' ((conv => whnf); first | (refine ask_true (by omega) ?_) | (refine ask_false (by omega) ?_) | (refine ask_wrap64 (by omega) (by omega) ?_) | (refine ⟨⟨by omega, by omega⟩, ?_⟩) | (exact vi_eq (by omega)) | fail)
    · rcases Int.lt_or_le 32 s with h32 | h32
      · rw [cosS_neg (by omega) (by omega) h32, cosS_16 (by omega) (by omega)]
        unfold cos16
        split
        · rename_i h16
          have t := told_small (sinB_in (u := 32 - (64 - s)) (by omega))
          rw [← sinB_def]
          repeat' ((conv => whnf); first | (refine ask_true (by omega) ?_) | (refine ask_false (by omega) ?_) | (refine ask_wrap64 (by omega) (by omega) ?_) | (refine ⟨⟨by omega, by omega⟩, ?_⟩) | (exact vi_eq (by omega)) | fail)
        · rename_i h16
          have t := told_small (cosB_in (u := 64 - s) (by omega))
          rw [← cosB_def]
          repeat' ((conv => whnf); first | (refine ask_true (by omega) ?_) | (refine ask_false (by omega) ?_) | (refine ask_wrap64 (by omega) (by omega) ?_) | (refine ⟨⟨by omega, by omega⟩, ?_⟩) | (exact vi_eq (by omega)) | fail)
      · rw [cosS_16 (by omega) h32]
        unfold cos16
        split
        · rename_i h16
          have t := told_small (sinB_in (u := 32 - s) (by omega))
          rw [← sinB_def]
          repeat' ((conv => whnf); first | (refine ask_true (by omega) ?_) | (refine ask_false (by omega) ?_) | (refine ask_wrap64 (by omega) (by omega) ?_) | (refine ⟨⟨by omega, by omega⟩, ?_⟩) | (exact vi_eq (by omega)) | fail)
        · rename_i h16
          have t := told_small (cosB_in (u := s) (by omega))
          rw [← cosB_def]
          repeat' ((conv => whnf); first | (refine ask_true (by omega) ?_) | (refine ask_false (by omega) ?_) | (refine ask_wrap64 (by omega) (by omega) ?_) | (refine ⟨⟨by omega, by omega⟩, ?_⟩) | (exact vi_eq (by omega)) | fail)
  · have w1 : 0 ≤ s + 128 ∧ s + 128 < 128 := by omega
    clear hsw2
    rw [← hs2]
    rcases Int.lt_or_le 64 (s + 128) with h64 | h64
    · rw [cosS_back w1.1 w1.2 h64]
      rcases Int.lt_or_le 32 (128 - (s + 128)) with h32 | h32
      · rw [cosS_neg (by omega) (by omega) h32, cosS_16 (by omega) (by omega)]
        unfold cos16
        split
        · rename_i h16
          have t := told_small (sinB_in (u := 32 - (64 - (128 - (s + 128)))) (by omega))
          rw [← sinB_def]
          repeat' ((conv => whnf); first | (refine ask_true (by omega) ?_) | (refine ask_false (by omega) ?_) | (refine ask_wrap64 (by omega) (by omega) ?_) | (refine ⟨⟨by omega, by omega⟩, ?_⟩) | (exact vi_eq (by omega)) | fail)
        · rename_i h16
          have t := told_small (cosB_in (u := 64 - (128 - (s + 128))) (by omega))
          rw [← cosB_def]
          repeat' ((conv => whnf); first | (refine ask_true (by omega) ?_) | (refine ask_false (by omega) ?_) | (refine ask_wrap64 (by omega) (by omega) ?_) | (refine ⟨⟨by omega, by omega⟩, ?_⟩) | (exact vi_eq (by omega)) | fail)
      · rw [cosS_16 (by omega) h32]
        unfold cos16
        split
        · rename_i h16
          have t := told_small (sinB_in (u := 32 - (128 - (s + 128))) (by omega))
          rw [← sinB_def]
          repeat' ((conv => whnf); first | (refine ask_true (by omega) ?_) | (refine ask_false (by omega) ?_) | (refine ask_wrap64 (by omega) (by omega) ?_) | (refine ⟨⟨by omega, by omega⟩, ?_⟩) | (exact vi_eq (by omega)) | fail)
        · rename_i h16
          have t := told_small (cosB_in (u := 128 - (s + 128)) (by omega))
          rw [← cosB_def]
          repeat' ((conv => whnf); first | (refine ask_true (by omega) ?_) | (refine ask_false (by omega) ?_) | (refine ask_wrap64 (by omega) (by omega) ?_) | (refine ⟨⟨by omega, by omega⟩, ?_⟩) | (exact vi_eq (by omega)) | fail)
    · rcases Int.lt_or_le 32 (s + 128) with h32 | h32
      · rw [cosS_neg (by omega) (by omega) h32, cosS_16 (by omega) (by omega)]
        unfold cos16
        split
        · rename_i h16
          have t := told_small (sinB_in (u := 32 - (64 - (s + 128))) (by omega))
          rw [← sinB_def]
          repeat' ((conv => whnf); first | (refine ask_true (by omega) ?_) | (refine ask_false (by omega) ?_) | (refine ask_wrap64 (by omega) (by omega) ?_) | (refine ⟨⟨by omega, by omega⟩, ?_⟩) | (exact vi_eq (by omega)) | fail)
        · rename_i h16
          have t := told_small (cosB_in (u := 64 - (s + 128)) (by omega))
          rw [← cosB_def]
          repeat' ((conv => whnf); first | (refine ask_true (by omega) ?_) | (refine ask_false (by omega) ?_) | (refine ask_wrap64 (by omega) (by omega) ?_) | (refine ⟨⟨by omega, by omega⟩, ?_⟩) | (exact vi_eq (by omega)) | fail)
      · rw [cosS_16 (by omega) h32]
        unfold cos16
        split
        · rename_i h16
          have t := told_small (sinB_in (u := 32 - (s + 128)) (by omega))
          rw [← sinB_def]
          repeat' ((conv => whnf); first | (refine ask_true (by omega) ?_) | (refine ask_false (by omega) ?_) | (refine ask_wrap64 (by omega) (by omega) ?_) | (refine ⟨⟨by omega, by omega⟩, ?_⟩) | (exact vi_eq (by omega)) | fail)
        · rename_i h16
          have t := told_small (cosB_in (u := (s + 128)) (by omega))
          rw [← cosB_def]
          repeat' ((conv => whnf); first | (refine ask_true (by omega) ?_) | (refine ask_false (by omega) ?_) | (refine ask_wrap64 (by omega) (by omega) ?_) | (refine ⟨⟨by omega, by omega⟩, ?_⟩) | (exact vi_eq (by omega)) | fail)
theorem refCos_ct : CtOk Try.prog 98 (ct1 (fun _ => True) cosS) := ct1_ok FP_ok Try.func98 (fun a _ _ => cosS_in a) fun a ha _ => refCos_walk a ha
noncomputable def FR : Fns := F0.plus 98 (ct1 (fun _ => True) cosS)
theorem FR_ok : FnsOk Try.prog FR := F0_ok.plus refCos_ct Try.func98 (by kernel_rfl) (by kernel_rfl)
theorem refSin_walk (u : Int) (hu : InK .i64 u) : walk FR 0 Try.f86 [i64 u] [] fun y _ => y = vi (sinS u) := by
  have b := tmod_bound (a := u) (b := 128) (by decide)
  have e : sinS u = cosS (u.tmod 128 - 32) := by
    rw [sinS_def]
    have e : u.tmod 128 = u - 128 * u.tdiv 128 := by have := Int.tmod_add_mul_tdiv u 128; omega
    rw [cosS_mod, cosS_mod (u.tmod 128 - 32), e]
    congr 1; omega
  rw [e]
  conv => whnf
  refine ⟨by omega, fun s hs => ?_⟩
  rw [← hs] at b ⊢
  repeat' ((conv => whnf); first | (refine ask_wrap64 (by omega) (by omega) ?_) | (refine ask_true (by omega) ?_) | (refine ask_false (by omega) ?_) | (refine ⟨trivial, ?_⟩) | (refine ⟨by omega, ?_⟩) | (refine fun (_ : InK _ _) => ?_) | (refine ⟨by kernel_rfl, ?_⟩) | (refine ask_wrapu8 (by omega) (by omega) ?_) | (refine ask_wrapu64 (by omega) (by omega) ?_) | (refine ask_true (show (_ : Bool) = _ from rfl) ?_) | (refine ask_false (show ¬ ((_ : Bool) = _) from Bool.noConfusion) ?_) | fail)
  rfl
theorem refSin_ct : CtOk Try.prog 86 (ct1 (fun _ => True) sinS) := ct1_ok FR_ok Try.func86 (fun a _ _ => by rw [sinS_def]; exact cosS_in _) fun a ha _ => refSin_walk a ha

noncomputable def tabZ : List Int := (List.range 128).map fun (n : Nat) => cosS (n : Int)
theorem tabZ_len : tabZ.length = 128 := by simp [tabZ]
abbrev o128 (xs : List Int) : Blk := .own 98 [.ints .i64 128 xs]
def z128 : List Int := List.replicate 128 0
theorem table_walk : walk FS 0 Try.f93 [] [] fun y _ => y = .w (ar 128 tabZ) := by
  conv => whnf
  refine loop_at (2 :: List.range' 3 8) (fun m (i : Int) => 0 ≤ i ∧ i ≤ 128 ∧ m = (128 - i).toNat) (fun i => [(3, vi i)]) (fun i => [o128 z128, o128 (stg tabZ z128 i)]) 128 0 ⟨by decide, by decide, rfl⟩ ?_ ?_
  · exact ⟨rfl, ⟨⟨Nat.le_of_ble_eq_true rfl, rfl⟩, trivial⟩, ⟨rfl, by rw [stg_zero]; rfl, trivial⟩, rfl, rfl, Nat.le_of_ble_eq_true rfl⟩
  · rintro m i ⟨h0, h1, rfl⟩
    have em : mulN i.toNat (Try.prog.types[3]).size = i.toNat := mulN1 i.toNat
    rcases Int.lt_or_le i 128 with h2 | h2
    · repeat' ((conv => whnf); first | (refine ask_true (by omega) ?_) | (refine ask_wrap64 (by omega) (by omega) ?_) | (refine ⟨trivial, ?_⟩) | (refine ⟨by omega, ?_⟩) | fail)
      refine ⟨(128 - (i + 1)).toNat, i + 1, by omega, ⟨by omega, by omega, rfl⟩, rfl, ⟨⟨Nat.le_of_ble_eq_true rfl, rfl⟩, trivial⟩, ⟨rfl, ?_, trivial⟩, rfl, rfl, Nat.le_of_ble_eq_true rfl⟩
      refine congrArg o128 (stg_set em (by rw [tabZ_len]; rfl) h0 (by rw [tabZ_len]; omega) ?_).symm
      unfold tabZ
      rw [getD_range (by omega), Int.toNat_of_nonneg h0]
    · have hi : i = 128 := by omega
      subst hi
      rw [stg_all (by rw [tabZ_len]; rfl) (by rw [tabZ_len]; rfl)]
      repeat' ((conv => whnf); first | (refine ask_false (by omega) ?_) | rfl | fail)
theorem table_ct : CtOk Try.prog 93 (ct0 (.w (ar 128 tabZ))) := ct0_ok FS_ok Try.func93 ⟨⟨⟨tabZ_len, fun x hx => by
  obtain ⟨i, _, rfl⟩ := List.mem_map.1 hx
  exact cosS_in _⟩, trivial⟩, rfl⟩ table_walk
noncomputable def FG : Fns := ((FW.plus 93 (ct0 (.w (ar 128 tabZ)))).plus 98 (ct1 (fun _ => True) cosS)).plus 86 (ct1 (fun _ => True) sinS)
theorem FG_ok : FnsOk Try.prog FG := ((FW_ok.plus table_ct Try.func93 (by kernel_rfl) (by kernel_rfl)).plus refCos_ct Try.func98 (by kernel_rfl) (by kernel_rfl)).plus refSin_ct Try.func86 (by kernel_rfl) (by kernel_rfl)

end Go.Proofs.Ytbgjmlncdlcglaa
