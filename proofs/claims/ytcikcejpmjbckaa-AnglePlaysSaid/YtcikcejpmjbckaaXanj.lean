/- Chapter angle: the table, the document's own functions; the law AnglePlays, walked. -/
import Derived.Test.YtcikcejpmjbckaaXani
set_option linter.all false
namespace Go.Proofs.Ytcikcejpmjbckaa
open Go.RowKit (Below)
set_option maxRecDepth 100000
set_option maxHeartbeats 32000000

theorem down_cte : CtOk Try.prog 52 (ct2e (fun _ b => 0 < b) HDiv.hDiv) := ct2e_ok F0_ok Try.func52 (fun a b ha _ h => down_in ha h) fun a b ha hb h => down_walk a b ha hb h
noncomputable def FN : Fns := F0.plus 52 (ct2e (fun _ b => 0 < b) HDiv.hDiv)
theorem FN_ok : FnsOk Try.prog FN := F0_ok.plus down_cte Try.func52 (by kernel_rfl) (by kernel_rfl)
theorem near_walk (x : Int) (hx : InK .i64 x) (h : 0 ≤ x ∧ x ≤ 2147483647) : walk FN 0 Try.f55 [i64 x] [] fun y _ => y = vi (toldR x) := by
  conv => whnf
  refine ask_wrap64 (by omega) (by omega) ?_
  conv => whnf
  refine ⟨by show (0 : Int) < _; decide, fun r hr => ?_⟩
  conv => whnf
  exact vi_eq hr
theorem near_ct : CtOk Try.prog 55 (ct1 (fun x => 0 ≤ x ∧ x ≤ 2147483647) toldR) := ct1_ok FN_ok Try.func55 (fun a _ h => by
  simp only [InK, lowK, highK, toldR]; omega) fun a ha h => near_walk a ha h
noncomputable def FO : Fns := FN.plus 55 (ct1 (fun x => 0 ≤ x ∧ x ≤ 2147483647) toldR)
theorem FO_ok : FnsOk Try.prog FO := FN_ok.plus near_ct Try.func55 (by kernel_rfl) (by kernel_rfl)
theorem ask_quoN {a b : Int} {K : Int → Prop} (h : 0 ≤ a) (hb : 0 < b) (ha : a ≤ 9223372036854775807) (hk : ∀ y, y = a / b → K y) : ∀ r, r = IntKind.i64.wrap (a.tdiv b) → K r := ask_quo h hb ha (hk _ rfl)
def ctB : Ct := fun ws K => match ws with
  | [.c (.ci .i64 a)] => (0 ≤ a ∧ a ≤ 16) ∧ K (.tup [i64 (toldR (cosB a)), i64 (toldR (sinB a))])
  | _ => False
theorem both_walk (u : Int) (hu : InK .i64 u) (h : 0 ≤ u ∧ u ≤ 16) : walk FO 0 Try.f53 [i64 u] [] fun y _ => y = .tup [i64 (toldR (cosB u)), i64 (toldR (sinB u))] := by
  have c1 := cosB_in h
  have c2 := sinB_in h
  conv => whnf
  refine ask_wrap64 (by omega) (by omega) ?_
  conv => whnf
  refine ⟨by show (0 : Int) < _; decide, fun x ex => ?_⟩
  have x0 : 0 ≤ x ∧ x ≤ 843314856 := by omega
  have xx := mul_bound x0.1 x0.2 x0.1 x0.2
  conv => whnf
  refine ask_wrap64 (by omega) (by omega) ?_
  conv => whnf
  refine ⟨by omega, ask_quoN (by omega) (by omega) (by omega) fun y ey => ?_⟩
  have y0 : 0 ≤ y ∧ y ≤ 662337938 := by omega
  have yy := mul_bound y0.1 y0.2 y0.1 y0.2
  conv => whnf
  refine ask_wrap64 (by omega) (by omega) ?_
  conv => whnf
  refine ⟨by omega, ask_quoN (by omega) (by omega) (by omega) fun q eq => ?_⟩
  have q0 : 0 ≤ q ∧ q ≤ 408563338 := by omega
  have qq := mul_bound q0.1 q0.2 q0.1 q0.2
  have qy := mul_bound q0.1 q0.2 y0.1 y0.2
  have xy := mul_bound x0.1 x0.2 y0.1 y0.2
  have xq := mul_bound x0.1 x0.2 q0.1 q0.2
  have e1 : cosB u = 1073741824 - y / 2 + y * y / 25769803776 - q * y / 773094113280 + q * q / 43293270343680 := by
    rw [cosB_def]; unfold cosR; simp only; rw [← ex, ← ey, ← eq]
  have e2 : sinB u = x - x * y / 6442450944 + x * q / 128849018880 - x * (q * y / 1073741824) / 5411658792960 := by
    rw [sinB_def]; unfold sinR; simp only; rw [← ex, ← ey, ← eq]
  have p0 : 0 ≤ q * y / 1073741824 ∧ q * y / 1073741824 ≤ 252022406 := by omega
  have xp := mul_bound x0.1 x0.2 p0.1 p0.2
  clear ex ey eq
  repeat' ((conv => whnf); first | (refine ask_wrap64 (by omega) (by omega) ?_) | (refine ⟨by omega, ask_quo (by omega) (by omega) (by omega) ?_⟩) | (refine ⟨⟨by omega, by omega⟩, ?_⟩) | fail)
  conv => whnf
  rw [e1, e2]
  rfl
theorem both_ct : CtOk Try.prog 53 ctB := by
  intro ws K h' hr
  unfold ctB at h'
  split at h'
  · rename_i a
    have c1 := cosB_in h'.1
    have c2 := sinB_in h'.1
    have i1 : InK .i64 (toldR (cosB a)) := by simp only [InK, lowK, highK, toldR]; omega
    have i2 : InK .i64 (toldR (sinB a)) := by simp only [InK, lowK, highK, toldR]; omega
    exact ⟨_, h'.2, ⟨⟨i1, i2, trivial⟩, rfl⟩, walk_calls FO_ok Try.func53 rfl hr rfl (both_walk a hr.1 h'.1)⟩
  · exact h'.elim
noncomputable def FP : Fns := F0.plus 53 ctB
theorem FP_ok : FnsOk Try.prog FP := F0_ok.plus both_ct Try.func53 (by kernel_rfl) (by kernel_rfl)
theorem told_small {x : Int} (h : 0 ≤ x ∧ x ≤ 2147483647) : 0 ≤ toldR x ∧ toldR x ≤ 65536 := by unfold toldR; omega
theorem refCos_walk (u : Int) (hu : InK .i64 u) : walk FP 0 Try.f41 [i64 u] [] fun y _ => y = vi (cosS u) := by
  have b := tmod_bound (a := u) (b := 128) (by decide)
  have e : u.tmod 128 = u - 128 * u.tdiv 128 := by have := Int.tmod_add_mul_tdiv u 128; omega
  rw [cosS_mod]
  obtain ⟨w, hw⟩ : ∃ w, u % 128 = w := ⟨_, rfl⟩
  have w0 : 0 ≤ w ∧ w < 128 := by omega
  rw [hw]
  conv => whnf
  refine ⟨by omega, fun s hs => ?_⟩
  rw [← hs] at b e
  have hsw : s = w ∨ (s < 0 ∧ s + 128 = w) := by omega
  have hsw2 : 0 ≤ s → s = w := by omega
  clear hs e hw
  rcases hsw with rfl | ⟨hs1, hs2⟩
  · clear hsw2
    rcases Int.lt_or_le 64 s with h64 | h64
    · rw [cosS_back w0.1 w0.2 h64]
      rcases Int.lt_or_le 32 (128 - s) with h32 | h32
      · rw [cosS_neg (by omega) (by omega) h32, cosS_16 (by omega) (by omega)]
        unfold cos16
        split
        · rename_i h16
          have t := told_small (sinB_in (u := 32 - (64 - (128 - s))) (by omega))
          rw [← sinB_def]
          repeat' ((conv => whnf); first | (refine ask_true (by omega) ?_) | (refine ask_false (by omega) ?_) | (refine ask_wrap64 (by omega) (by omega) ?_) | (refine ⟨⟨by omega, by omega⟩, ?_⟩) | (exact vi_eq (by omega)) | fail)
        · rename_i h16
          have t := told_small (cosB_in (u := 64 - (128 - s)) (by omega))
          rw [← cosB_def]
          repeat' ((conv => whnf); first | (refine ask_true (by omega) ?_) | (refine ask_false (by omega) ?_) | (refine ask_wrap64 (by omega) (by omega) ?_) | (refine ⟨⟨by omega, by omega⟩, ?_⟩) | (exact vi_eq (by omega)) | fail)
      · rw [cosS_16 (by omega) h32]
        unfold cos16
        split
        · rename_i h16
          have t := told_small (sinB_in (u := 32 - (128 - s)) (by omega))
          rw [← sinB_def]
          repeat' ((conv => whnf); first | (refine ask_true (by omega) ?_) | (refine ask_false (by omega) ?_) | (refine ask_wrap64 (by omega) (by omega) ?_) | (refine ⟨⟨by omega, by omega⟩, ?_⟩) | (exact vi_eq (by omega)) | fail)
        · rename_i h16
          have t := told_small (cosB_in (u := 128 - s) (by omega))
          rw [← cosB_def]
          repeat' ((conv => whnf); first | (refine ask_true (by omega) ?_) | (refine ask_false (by omega) ?_) | (refine ask_wrap64 (by omega) (by omega) ?_) | (refine ⟨⟨by omega, by omega⟩, ?_⟩) | (exact vi_eq (by omega)) | fail)
    · rcases Int.lt_or_le 32 s with h32 | h32
      · rw [cosS_neg (by omega) (by omega) h32, cosS_16 (by omega) (by omega)]
        unfold cos16
        split
        · rename_i h16
          have t := told_small (sinB_in (u := 32 - (64 - s)) (by omega))
          rw [← sinB_def]
          repeat' ((conv => whnf); first | (refine ask_true (by omega) ?_) | (refine ask_false (by omega) ?_) | (refine ask_wrap64 (by omega) (by omega) ?_) | (refine ⟨⟨by omega, by omega⟩, ?_⟩) | (exact vi_eq (by omega)) | fail)
        · rename_i h16
          have t := told_small (cosB_in (u := 64 - s) (by omega))
          rw [← cosB_def]
          repeat' ((conv => whnf); first | (refine ask_true (by omega) ?_) | (refine ask_false (by omega) ?_) | (refine ask_wrap64 (by omega) (by omega) ?_) | (refine ⟨⟨by omega, by omega⟩, ?_⟩) | (exact vi_eq (by omega)) | fail)
      · rw [cosS_16 (by omega) h32]
        unfold cos16
        split
        · rename_i h16
          have t := told_small (sinB_in (u := 32 - s) (by omega))
          rw [← sinB_def]
          repeat' ((conv => whnf); first | (refine ask_true (by omega) ?_) | (refine ask_false (by omega) ?_) | (refine ask_wrap64 (by omega) (by omega) ?_) | (refine ⟨⟨by omega, by omega⟩, ?_⟩) | (exact vi_eq (by omega)) | fail)
        · rename_i h16
          have t := told_small (cosB_in (u := s) (by omega))
          rw [← cosB_def]
          repeat' ((conv => whnf); first | (refine ask_true (by omega) ?_) | (refine ask_false (by omega) ?_) | (refine ask_wrap64 (by omega) (by omega) ?_) | (refine ⟨⟨by omega, by omega⟩, ?_⟩) | (exact vi_eq (by omega)) | fail)
  · have w1 : 0 ≤ s + 128 ∧ s + 128 < 128 := by omega
    clear hsw2
    rw [← hs2]
    rcases Int.lt_or_le 64 (s + 128) with h64 | h64
    · rw [cosS_back w1.1 w1.2 h64]
      rcases Int.lt_or_le 32 (128 - (s + 128)) with h32 | h32
      · rw [cosS_neg (by omega) (by omega) h32, cosS_16 (by omega) (by omega)]
        unfold cos16
        split
        · rename_i h16
          have t := told_small (sinB_in (u := 32 - (64 - (128 - (s + 128)))) (by omega))
          rw [← sinB_def]
          repeat' ((conv => whnf); first | (refine ask_true (by omega) ?_) | (refine ask_false (by omega) ?_) | (refine ask_wrap64 (by omega) (by omega) ?_) | (refine ⟨⟨by omega, by omega⟩, ?_⟩) | (exact vi_eq (by omega)) | fail)
        · rename_i h16
          have t := told_small (cosB_in (u := 64 - (128 - (s + 128))) (by omega))
          rw [← cosB_def]
          repeat' ((conv => whnf); first | (refine ask_true (by omega) ?_) | (refine ask_false (by omega) ?_) | (refine ask_wrap64 (by omega) (by omega) ?_) | (refine ⟨⟨by omega, by omega⟩, ?_⟩) | (exact vi_eq (by omega)) | fail)
      · rw [cosS_16 (by omega) h32]
        unfold cos16
        split
        · rename_i h16
          have t := told_small (sinB_in (u := 32 - (128 - (s + 128))) (by omega))
          rw [← sinB_def]
          repeat' ((conv => whnf); first | (refine ask_true (by omega) ?_) | (refine ask_false (by omega) ?_) | (refine ask_wrap64 (by omega) (by omega) ?_) | (refine ⟨⟨by omega, by omega⟩, ?_⟩) | (exact vi_eq (by omega)) | fail)
        · rename_i h16
          have t := told_small (cosB_in (u := 128 - (s + 128)) (by omega))
          rw [← cosB_def]
          repeat' ((conv => whnf); first | (refine ask_true (by omega) ?_) | (refine ask_false (by omega) ?_) | (refine ask_wrap64 (by omega) (by omega) ?_) | (refine ⟨⟨by omega, by omega⟩, ?_⟩) | (exact vi_eq (by omega)) | fail)
    · rcases Int.lt_or_le 32 (s + 128) with h32 | h32
      · rw [cosS_neg (by omega) (by omega) h32, cosS_16 (by omega) (by omega)]
        unfold cos16
        split
        · rename_i h16
          have t := told_small (sinB_in (u := 32 - (64 - (s + 128))) (by omega))
          rw [← sinB_def]
          repeat' ((conv => whnf); first | (refine ask_true (by omega) ?_) | (refine ask_false (by omega) ?_) | (refine ask_wrap64 (by omega) (by omega) ?_) | (refine ⟨⟨by omega, by omega⟩, ?_⟩) | (exact vi_eq (by omega)) | fail)
        · rename_i h16
          have t := told_small (cosB_in (u := 64 - (s + 128)) (by omega))
          rw [← cosB_def]
          repeat' ((conv => whnf); first | (refine ask_true (by omega) ?_) | (refine ask_false (by omega) ?_) | (refine ask_wrap64 (by omega) (by omega) ?_) | (refine ⟨⟨by omega, by omega⟩, ?_⟩) | (exact vi_eq (by omega)) | fail)
      · rw [cosS_16 (by omega) h32]
        unfold cos16
        split
        · rename_i h16
          have t := told_small (sinB_in (u := 32 - (s + 128)) (by omega))
          rw [← sinB_def]
          repeat' ((conv => whnf); first | (refine ask_true (by omega) ?_) | (refine ask_false (by omega) ?_) | (refine ask_wrap64 (by omega) (by omega) ?_) | (refine ⟨⟨by omega, by omega⟩, ?_⟩) | (exact vi_eq (by omega)) | fail)
        · rename_i h16
          have t := told_small (cosB_in (u := (s + 128)) (by omega))
          rw [← cosB_def]
          repeat' ((conv => whnf); first | (refine ask_true (by omega) ?_) | (refine ask_false (by omega) ?_) | (refine ask_wrap64 (by omega) (by omega) ?_) | (refine ⟨⟨by omega, by omega⟩, ?_⟩) | (exact vi_eq (by omega)) | fail)
theorem refCos_ct : CtOk Try.prog 41 (ct1 (fun _ => True) cosS) := ct1_ok FP_ok Try.func41 (fun a _ _ => cosS_in a) fun a ha _ => refCos_walk a ha
noncomputable def FR : Fns := F0.plus 41 (ct1 (fun _ => True) cosS)
theorem FR_ok : FnsOk Try.prog FR := F0_ok.plus refCos_ct Try.func41 (by kernel_rfl) (by kernel_rfl)
theorem refSin_walk (u : Int) (hu : InK .i64 u) : walk FR 0 Try.f42 [i64 u] [] fun y _ => y = vi (sinS u) := by
  have b := tmod_bound (a := u) (b := 128) (by decide)
  have e : sinS u = cosS (u.tmod 128 - 32) := by
    rw [sinS_def]
    have e : u.tmod 128 = u - 128 * u.tdiv 128 := by have := Int.tmod_add_mul_tdiv u 128; omega
    rw [cosS_mod, cosS_mod (u.tmod 128 - 32), e]
    congr 1; omega
  rw [e]
  conv => whnf
  refine ⟨by omega, fun s hs => ?_⟩
  rw [← hs] at b ⊢
  repeat' ((conv => whnf); first | (refine ask_wrap64 (by omega) (by omega) ?_) | (refine ask_true (by omega) ?_) | (refine ask_false (by omega) ?_) | (refine ⟨trivial, ?_⟩) | (refine ⟨by omega, ?_⟩) | (refine fun (_ : InK _ _) => ?_) | (refine ⟨by kernel_rfl, ?_⟩) | (refine ask_wrapu8 (by omega) (by omega) ?_) | (refine ask_wrapu64 (by omega) (by omega) ?_) | (refine ask_true (show (_ : Bool) = _ from rfl) ?_) | (refine ask_false (show ¬ ((_ : Bool) = _) from Bool.noConfusion) ?_) | fail)
  rfl
theorem refSin_ct : CtOk Try.prog 42 (ct1 (fun _ => True) sinS) := ct1_ok FR_ok Try.func42 (fun a _ _ => by rw [sinS_def]; exact cosS_in _) fun a ha _ => refSin_walk a ha

noncomputable def tabZ : List Int := (List.range 128).map fun (n : Nat) => cosS (n : Int)
theorem tabZ_len : tabZ.length = 128 := by simp [tabZ]
abbrev o128 (xs : List Int) : Blk := .own 44 [.ints .i64 128 xs]
def z128 : List Int := List.replicate 128 0
theorem table_walk : walk FS 0 Try.f40 [] [] fun y _ => y = .w (ar 128 tabZ) := by
  conv => whnf
  refine loop_at (2 :: List.range' 3 8) (fun m (i : Int) => 0 ≤ i ∧ i ≤ 128 ∧ m = (128 - i).toNat) (fun i => [(3, vi i)]) (fun i => [o128 z128, o128 (stg tabZ z128 i)]) 128 0 ⟨by decide, by decide, rfl⟩ ?_ ?_
  · exact ⟨rfl, ⟨⟨Nat.le_of_ble_eq_true rfl, rfl⟩, trivial⟩, ⟨rfl, by rw [stg_zero]; rfl, trivial⟩, rfl, rfl, Nat.le_of_ble_eq_true rfl⟩
  · rintro m i ⟨h0, h1, rfl⟩
    have em : mulN i.toNat (Try.prog.types[3]).size = i.toNat := mulN1 i.toNat
    rcases Int.lt_or_le i 128 with h2 | h2
    · repeat' ((conv => whnf); first | (refine ask_true (by omega) ?_) | (refine ask_wrap64 (by omega) (by omega) ?_) | (refine ⟨trivial, ?_⟩) | (refine ⟨by omega, ?_⟩) | fail)
      refine ⟨(128 - (i + 1)).toNat, i + 1, by omega, ⟨by omega, by omega, rfl⟩, rfl, ⟨⟨Nat.le_of_ble_eq_true rfl, rfl⟩, trivial⟩, ⟨rfl, ?_, trivial⟩, rfl, rfl, Nat.le_of_ble_eq_true rfl⟩
      refine congrArg o128 (stg_set em (by rw [tabZ_len]; rfl) h0 (by rw [tabZ_len]; omega) ?_).symm
      unfold tabZ
      rw [getD_range (by omega), Int.toNat_of_nonneg h0]
    · have hi : i = 128 := by omega
      subst hi
      rw [stg_all (by rw [tabZ_len]; rfl) (by rw [tabZ_len]; rfl)]
      repeat' ((conv => whnf); first | (refine ask_false (by omega) ?_) | rfl | fail)
theorem table_ct : CtOk Try.prog 40 (ct0 (.w (ar 128 tabZ))) := ct0_ok FS_ok Try.func40 ⟨⟨⟨tabZ_len, fun x hx => by
  obtain ⟨i, _, rfl⟩ := List.mem_map.1 hx
  exact cosS_in _⟩, trivial⟩, rfl⟩ table_walk
noncomputable def FG : Fns := ((FW.plus 40 (ct0 (.w (ar 128 tabZ)))).plus 41 (ct1 (fun _ => True) cosS)).plus 42 (ct1 (fun _ => True) sinS)
theorem FG_ok : FnsOk Try.prog FG := ((FW_ok.plus table_ct Try.func40 (by kernel_rfl) (by kernel_rfl)).plus refCos_ct Try.func41 (by kernel_rfl) (by kernel_rfl)).plus refSin_ct Try.func42 (by kernel_rfl) (by kernel_rfl)

theorem law_AnglePlays (u : Int) (hu : InK .i64 u) (w0 : World) : Calls Try.prog 17 #[.int .i64 u] w0 fun e w' => e = .returned (.bool true) ∧ Below w0.heap.size w0 w' := by
  refine walk_true FG_ok Try.func17 (ws := [i64 u]) ⟨hu, trivial⟩ rfl (n := 0) ?_ w0
  have r := rem128 (u := u)
  have b := tmod_bound (a := u) (b := 128) (by decide)
  repeat' ((conv => whnf); first | (refine ⟨by omega, fun s hs => ?_⟩) | fail)
  rw [← hs] at r b
  conv => whnf
  refine ask_wrap64 (by omega) (by omega) ?_
  conv => whnf
  refine ⟨by omega, fun v hv => ?_⟩
  have v0 : 0 ≤ v ∧ v < 128 := by omega
  clear r b hs hv
  have em1 : mulN v.toNat (Try.prog.types[3]).size = v.toNat := mulN1 _
  have em2 : mulN (v % 32).toNat (Try.prog.types[3]).size = (v % 32).toNat := mulN1 _
  have t1 : tabZ.getD (mulN v.toNat (Try.prog.types[3]).size) 0 = cosS v := by
    rw [em1]; unfold tabZ; rw [getD_range (by omega), Int.toNat_of_nonneg v0.1]
  have t2 : winZ.getD (mulN (v % 32).toNat (Try.prog.types[3]).size) 0 = sinS (2 * (v % 32) + 1) := by
    rw [em2]; unfold winZ; rw [getD_range (by omega), Int.toNat_of_nonneg (by omega)]
  repeat' ((conv => whnf); first | (refine ⟨trivial, ?_⟩) | (with_reducible refine ask_true rfl ?_) | (with_reducible refine ask_true t1 ?_) | (with_reducible refine ask_true t2 ?_) | (refine ask_wrap64 (by omega) (by omega) ?_) | (refine ⟨by omega, ?_⟩) | (refine ask_is (Int.tmod_eq_emod_of_nonneg (by omega)) ?_) | (refine fun (_ : InK _ _) => ?_) | (refine ⟨by kernel_rfl, ?_⟩) | rfl | fail)
end Go.Proofs.Ytcikcejpmjbckaa
