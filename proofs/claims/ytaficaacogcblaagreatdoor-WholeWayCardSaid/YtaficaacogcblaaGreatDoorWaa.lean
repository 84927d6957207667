/- The coder of ranges: what a cell costs; numbers of bits; small numbers. -/
import Derived.Test.YtaficaacogcblaaGreatDoorWq
set_option linter.all false
namespace Go.Proofs.YtaficaacogcblaaGreatDoor
namespace R
open Go.RowKit (Below)
set_option maxRecDepth 100000
set_option maxHeartbeats 16000000

theorem len_scale {r : Int} (h : 1 ≤ r) {k : Int} (hk : 0 ≤ k) : D.lenS (r * pw k) = D.lenS r + k := by
  have hp := pw_pos k
  have h1 : pw k ≤ r * pw k := by
    have := Int.mul_le_mul_of_nonneg_right h (show 0 ≤ pw k by omega)
    omega
  rw [D.len_half hk h1, Int.mul_ediv_cancel _ (by omega)]
theorem len_mono {x y : Int} (h : x ≤ y) : D.lenS x ≤ D.lenS y := by
  rcases Int.lt_or_le 0 y with h0 | h0
  · exact D.len_le (by have := (D.len_bounds (x := y) (by omega)).2.1; omega) (D.len_nonneg y)
  · rw [D.len_zero (x := x) (by omega)]; exact D.len_nonneg y
theorem pw8 : pw 8 = 256 := by rw [pw_def]; decide
theorem nrm_ok : ∀ (m : Nat) (r : Int) (g : Nat), 1 ≤ r → r ≤ 4294967295 → 16777216 ≤ r * 256 ^ m → (16777216 ≤ (nrm m r g).1 ∧ (nrm m r g).1 ≤ 4294967295) ∧ (g ≤ (nrm m r g).2 ∧ (nrm m r g).2 ≤ g + m) ∧ usedS (nrm m r g).2 (nrm m r g).1 = usedS g r
  | 0, r, g, h1, h2, h3 => by
    rw [Int.pow_zero] at h3
    exact ⟨⟨by show 16777216 ≤ r; omega, h2⟩, ⟨Nat.le_refl _, Nat.le_refl _⟩, rfl⟩
  | m + 1, r, g, h1, h2, h3 => by
    simp only [nrm]
    split
    · rename_i hr
      have h3' : 16777216 ≤ r * 256 * 256 ^ m := by
        rw [Int.pow_succ, Int.mul_comm (256 ^ m) 256, ← Int.mul_assoc] at h3
        exact h3
      obtain ⟨q1, q2, q3⟩ := nrm_ok m (r * 256) (g + 1) (by omega) (by omega) h3'
      refine ⟨q1, by omega, q3.trans ?_⟩
      have := len_scale h1 (k := 8) (by decide)
      rw [pw8] at this
      unfold usedS lz32
      omega
    · exact ⟨⟨by omega, h2⟩, ⟨Nat.le_refl _, by omega⟩, rfl⟩
noncomputable def usedE (e : ES) : Int := usedS e.g e.rg
theorem put_used {e : ES} (h0 : 16777216 ≤ e.rg) (h1 : e.rg ≤ 4294967295) {s w t : Int} (hc : cellP s w t) {r : Int × Nat} (hr : r = nrm 3 (e.rg / t * w) e.g) :
    (16777216 ≤ r.1 ∧ r.1 ≤ 4294967295) ∧ (e.g ≤ r.2 ∧ r.2 ≤ e.g + 3) ∧ usedS r.2 r.1 = usedS e.g (e.rg / t * w) := by
  unfold cellP at hc
  have hs := put_step h0 h1 (t := t) (by omega)
  have m2 : 512 ≤ e.rg / t * w ∧ e.rg / t * w ≤ 4294967295 := by
    have h1 := Int.mul_le_mul_of_nonneg_left (show w ≤ t by omega) (show 0 ≤ e.rg / t by omega)
    have h2 := Int.mul_le_mul_of_nonneg_left (show 1 ≤ w by omega) (show 0 ≤ e.rg / t by omega)
    omega
  rw [hr]
  exact nrm_ok 3 _ _ (by omega) m2.2 (by omega)
/-- A number of m bits costs m. -/
theorem used_bits {e : ES} (h0 : 16777216 ≤ e.rg) {m : Int} (hm : 0 ≤ m ∧ m ≤ 8) : usedS e.g (e.rg / pw m * 1) = usedE e + m := by
  have h2 := pw_mono (a := m) (b := 8) (by omega)
  rw [pw8] at h2
  have := D.len_half (x := e.rg) (k := m) hm.1 (by omega)
  unfold usedE usedS lz32
  rw [Int.mul_one]
  omega
/-- A small number costs twelve bits at most. -/
theorem used_lapl {e : ES} (h0 : 16777216 ≤ e.rg) {w : Int} (hw : 8 ≤ w) : usedS e.g (e.rg / 32768 * w) ≤ usedE e + 12 := by
  have e15 : pw 15 = 32768 := by rw [pw_def]; decide
  have e3 : pw 3 = 8 := by rw [pw_def]; decide
  have h1 := D.len_half (x := e.rg) (k := 15) (by decide) (by omega)
  rw [e15] at h1
  have hq : 1 ≤ e.rg / 32768 := by omega
  have h2 := len_scale hq (k := 3) (by decide)
  rw [e3] at h2
  have h3 := len_mono (x := e.rg / 32768 * 8) (y := e.rg / 32768 * w) (Int.mul_le_mul_of_nonneg_left hw (by omega))
  unfold usedE usedS lz32
  omega

def hPutE : HCt := fun ws H K => match ws with
  | [.c (.cp j 0), .c (.ci .i64 s), .c (.ci .i64 w), .c (.ci .i64 t)] => ∃ e : ES, EAt H j e ∧ EOk e 90000000 ∧ cellP s w t ∧ ∀ (H' : List Blk) (e' : ES), EUp H j e H' e' → EOk e' (e.g + 3) → usedE e' = usedS e.g (e.rg / t * w) → K (vi 0) H'
  | _ => False
theorem putE_ct : HCtOk Tryz.prog 135 hPutE := by
  intro ws H K h hr hb ho G σ base w₀ w hw
  unfold hPutE at h
  split at h
  · rename_i j s w' t
    obtain ⟨e, he, ok, hc, hK⟩ := h
    exact heap_lifto FPu_ok Tryz.func135 (n := 0) (ws := [.c (.cp j 0), i64 s, i64 w', i64 t]) ⟨trivial, hr.2.1, hr.2.2.1, hr.2.2.2.1, trivial⟩ (by
      have := he.ptr
      show (decide (j < H.length) && (true && (true && (true && true)))) = true
      simp [this]) ho (put_walk ho he ok hc) (fun x H' hP _ => by
      obtain ⟨rfl, e', up, hl, hn⟩ := hP
      obtain ⟨q1, q2, q3⟩ := put_used ok.r0 ok.r1 hc hn
      exact hK H' e' up ⟨hl.1, hl.2, q1.1, q1.2, q2.2⟩ q3) G σ base w₀ w hw
  · exact h.elim
theorem cells_wide : ∀ c ∈ P.cellsU 24, 8 ≤ c.w := by decide
noncomputable def FLp : Fns := (F0.plus 116 P.ctCellV).over 135 hPutE
theorem FLp_ok : FnsOk Tryz.prog FLp := (F0_ok.plus P.cellV_ct Tryz.func116 (by kernel_rfl) (by kernel_rfl)).over putE_ct Tryz.func135 (by kernel_rfl) (by kernel_rfl)
theorem lp_walk {H : List Blk} {j : Nat} {e : ES} (he : EAt H j e) (ok : EOk e 90000000) {v : Int} (hv : -24 ≤ v ∧ v ≤ 24) : walkr FLp 0 Tryz.f95 [.c (.cp j 0), i64 v] H fun x H' => x = vi 0 ∧ ∃ e', EUp H j e H' e' ∧ EOk e' (e.g + 3) ∧ usedE e' ≤ usedE e + 12 := by
  repeat' ((conv => whnf); first | (refine lenH_is ?_) | fail)
  conv => whnf
  refine ⟨hv, fun c hc h1 h2 => ?_⟩
  have f := P.cells_facts c h1
  have f8 := cells_wide c h1
  repeat' ((conv => whnf); first | (refine lenH_is ?_) | fail)
  conv => whnf
  refine ⟨e, he, ok, by unfold cellP; omega, fun H' e' up ok' hu => ?_⟩
  have hl := used_lapl ok.r0 f8
  repeat' ((conv => whnf); first | fail)
  exact ⟨rfl, e', up, ok', by omega⟩
def hLp : HCt := fun ws H K => match ws with
  | [.c (.cp j 0), .c (.ci .i64 v)] => ∃ e : ES, EAt H j e ∧ EOk e 90000000 ∧ (-24 ≤ v ∧ v ≤ 24) ∧ ∀ (H' : List Blk) (e' : ES), EUp H j e H' e' → EOk e' (e.g + 3) → usedE e' ≤ usedE e + 12 → K (vi 0) H'
  | _ => False
theorem lp_ct : HCtOk Tryz.prog 95 hLp := by
  intro ws H K h hr hb ho G σ base w₀ w hw
  unfold hLp at h
  split at h
  · rename_i j v
    obtain ⟨e, he, ok, hv, hK⟩ := h
    exact heap_lifto FLp_ok Tryz.func95 (n := 0) (ws := [.c (.cp j 0), i64 v]) ⟨trivial, hr.2.1, trivial⟩ (by
      have := he.ptr
      show (decide (j < H.length) && (true && true)) = true
      simp [this]) ho (lp_walk he ok hv) (fun x H' hP _ => by
      obtain ⟨rfl, e', up, ok', hu⟩ := hP
      exact hK H' e' up ok' hu) G σ base w₀ w hw
  · exact h.elim

/-! ### numbers of bits -/
structure BE where
  k : Nat
  H : List Blk
  e : ES
  x : Int
  n : Int
theorem and_mask {x m : Int} (hm : 0 ≤ m ∧ m ≤ 255) : 0 ≤ bitsI .and .i64 x m ∧ bitsI .and .i64 x m ≤ m := by
  obtain ⟨k, rfl⟩ : ∃ k : Nat, m = k := ⟨m.toNat, by omega⟩
  have e1 : (BitVec.ofInt 64 (k : Int)).toNat = k := by
    rw [BitVec.ofInt_natCast, BitVec.toNat_ofNat]; omega
  have h : (BitVec.ofInt 64 x &&& BitVec.ofInt 64 (k : Int)).toNat ≤ k := by
    rw [BitVec.toNat_and]
    exact Nat.le_trans Nat.and_le_right (by omega)
  show 0 ≤ IntKind.i64.wrap (((BitVec.ofInt 64 x &&& BitVec.ofInt 64 (k : Int)).toNat : Nat) : Int) ∧ IntKind.i64.wrap (((BitVec.ofInt 64 x &&& BitVec.ofInt 64 (k : Int)).toNat : Nat) : Int) ≤ k
  rw [wrap_of_in]
  · omega
  · simp only [InK, lowK, highK]; omega
noncomputable def FEb : Fns := (F0.over 135 hPutE).every 135
theorem FEb_ok : FnsOk Tryz.prog FEb := (F0_ok.over putE_ct Tryz.func135 (by kernel_rfl) (by kernel_rfl)).every _
def beJ (H : List Blk) (j : Nat) (e : ES) (n0 : Int) (m : Nat) (s : BE) : Prop := (m = 3 - s.k ∧ s.k ≤ 3) ∧ EUp H j e s.H s.e ∧ EOk s.e (e.g + 3 * s.k) ∧ usedE s.e = usedE e + (n0 - s.n) ∧ (0 ≤ s.n ∧ s.n ≤ n0) ∧ (s.n = 0 ∨ n0 - s.n = 8 * s.k)
theorem ebits_walk {H : List Blk} (hH : HOk H) {j : Nat} {e : ES} (he : EAt H j e) (ok : EOk e 80000000) {x n : Int} (hx : InK .i64 x) (hn : 0 ≤ n ∧ n ≤ 24) : walkr FEb 0 Tryz.f101 [.c (.cp j 0), i64 x, i64 n] H fun y H' => ∃ r, y = vi r ∧ (0 ≤ r ∧ r ≤ 1) ∧ ∃ e', EUp H j e H' e' ∧ EOk e' (e.g + 9) ∧ usedE e' ≤ usedE e + n := by
  have hjl := he.ptr
  have up0 := EUp.refl he hH.bnd
  repeat' ((conv => whnf); first | (refine lenH_is ?_) | (refine ask_true (by omega) ?_) | (refine ask_false (by omega) ?_) | fail)
  conv => whnf
  refine ask_split (fun _ => ?_) (fun hx0 => ?_)
  · repeat' ((conv => whnf); first | fail)
    exact ⟨1, rfl, by decide, e, up0, ⟨ok.l0, ok.l1, ok.r0, ok.r1, Nat.le_add_right _ _⟩, by omega⟩
  repeat' ((conv => whnf); first | (refine And.intro (by omega) (fun r hr => ?_)) | fail)
  conv => whnf
  refine ask_split (fun _ => ?_) (fun hx1 => ?_)
  · repeat' ((conv => whnf); first | fail)
    exact ⟨1, rfl, by decide, e, up0, ⟨ok.l0, ok.l1, ok.r0, ok.r1, Nat.le_add_right _ _⟩, by omega⟩
  repeat' ((conv => whnf); first | fail)
  conv => whnf
  refine loop_up (1 :: 2 :: 7 :: List.range' 28 19) (fun m (s : BE) => beJ H j e n m s) (fun s => [(1, vi s.x), (2, vi s.n)]) (fun s => s.H) 3 ⟨0, H, e, x, n⟩ ⟨⟨rfl, Nat.zero_le _⟩, up0, ⟨ok.l0, ok.l1, ok.r0, ok.r1, Nat.le_add_right _ _⟩, by dsimp only; omega, ⟨hn.1, Int.le_refl _⟩, .inr (by dsimp only; omega)⟩ ?_ ?_ ?_
  · intro _ k hk
    have dj := decide_eq_true (Nat.lt_of_lt_of_le hjl hk)
    repeat' (first | rfl | exact dj | refine and_t ?_ ?_)
  · exact ⟨rfl, ⟨⟨Nat.le_of_ble_eq_true rfl, rfl⟩, ⟨Nat.le_of_ble_eq_true rfl, rfl⟩, trivial⟩, wkH_refl _, bndH_of hH.bnd, Nat.le_refl _⟩
  · rintro m s ⟨⟨rfl, k3⟩, u, ok', hu, hsn, hor⟩
    rcases Int.lt_or_le 0 s.n with g | g
    · have hm : 1 ≤ min s.n 8 ∧ min s.n 8 ≤ 8 := by omega
      have hp1 := pw_mono (a := 1) (b := min s.n 8) hm.1
      have hp2 := pw_mono (a := min s.n 8) (b := 8) hm.2
      rw [show pw 1 = 2 by rw [pw_def]; decide] at hp1
      rw [pw8] at hp2
      have hpo : 1 * pw (min s.n 8) = pw (min s.n 8) := Int.one_mul _
      repeat' ((conv => whnf); first | (refine lenH_is ?_) | (refine ask_true (by omega) ?_) | fail)
      conv => whnf
      refine red_each (by kernel_rfl) ?_
      repeat' ((conv => whnf); first | (refine And.intro (by omega) (shl64 (by omega) (by omega) (by omega) (by omega) ?_)) | (refine ask_wrap64 (by omega) (by omega) ?_) | (refine fun (r : Int) (hr : r = bitsI .and .i64 s.x _) => ?_) | (refine And.intro ?_ trivial) | fail)
      conv => whnf
      have hr2 := and_mask (x := s.x) (m := 1 * pw (min s.n 8) - 1) (by omega)
      rw [← hr] at hr2
      refine ⟨s.e, u.at', ⟨ok'.l0, ok'.l1, ok'.r0, ok'.r1, Nat.le_trans ok'.g (by have := ok.g; omega)⟩, by unfold cellP; omega, fun H' e' up' ok2 hu2 => ?_⟩
      have hb := used_bits ok'.r0 (m := min s.n 8) (by omega)
      rw [hpo, hb] at hu2
      repeat' ((conv => whnf); first | (refine And.intro (by omega) (fun r' hr' => ?_)) | (refine ask_wrap64 (by omega) (by omega) ?_) | fail)
      have hk : s.k ≤ 2 := by omega
      refine ⟨3 - (s.k + 1), ⟨s.k + 1, H', e', r', s.n - min s.n 8⟩, by omega, ⟨⟨rfl, by dsimp only; omega⟩, u.trans up', ⟨ok2.l0, ok2.l1, ok2.r0, ok2.r1, Nat.le_trans ok2.g (by have := ok'.g; dsimp only; omega)⟩, by dsimp only; omega, by dsimp only; omega, by dsimp only; omega⟩, ⟨rfl, ⟨⟨Nat.le_of_ble_eq_true rfl, rfl⟩, ⟨Nat.le_of_ble_eq_true rfl, rfl⟩, trivial⟩, wkH_refl _, bndH_of up'.bnd, Nat.le_trans u.len up'.len⟩⟩
    · repeat' ((conv => whnf); first | (refine ask_false (by omega) ?_) | fail)
      exact ⟨0, rfl, by decide, s.e, u, ⟨ok'.l0, ok'.l1, ok'.r0, ok'.r1, Nat.le_trans ok'.g (by omega)⟩, by omega⟩
def hEb : HCt := fun ws H K => match ws with
  | [.c (.cp j 0), .c (.ci .i64 _), .c (.ci .i64 n)] => ∃ e : ES, EAt H j e ∧ EOk e 80000000 ∧ (0 ≤ n ∧ n ≤ 24) ∧ ∀ (r : Int) (H' : List Blk) (e' : ES), EUp H j e H' e' → EOk e' (e.g + 9) → usedE e' ≤ usedE e + n → K (vi r) H'
  | _ => False
theorem ebits_ct : HCtOk Tryz.prog 101 hEb := by
  intro ws H K h hr hb ho G σ base w₀ w hw
  unfold hEb at h
  split at h
  · rename_i j x n
    obtain ⟨e, he, ok, hn, hK⟩ := h
    exact heap_lifto FEb_ok Tryz.func101 (n := 0) (ws := [.c (.cp j 0), i64 x, i64 n]) ⟨trivial, hr.2.1, hr.2.2.1, trivial⟩ (by
      have := he.ptr
      show (decide (j < H.length) && (true && (true && true))) = true
      simp [this]) ho (ebits_walk ho he ok hr.2.1 hn) (fun y H' hP _ => by
      obtain ⟨r, rfl, _, e', up, ok', hu⟩ := hP
      exact hK r H' e' up ok' hu) G σ base w₀ w hw
  · exact h.elim
end R
end Go.Proofs.YtaficaacogcblaaGreatDoor
