/- Chapter fix: what the functions answer. -/
import Derived.Test.YtcikcejpmjbckaaXs
set_option linter.all false
namespace Go.Proofs.Ytcikcejpmjbckaa
open Go.RowKit (Below)

@[irreducible] noncomputable def cutS : Int → Int → Int := sealed fun x n => if n < 1 ∨ 62 < n then x else max (min x (pw (n - 1) - 1)) (-pw (n - 1))
theorem cutS_def (x n : Int) : cutS x n = if n < 1 ∨ 62 < n then x else max (min x (pw (n - 1) - 1)) (-pw (n - 1)) := by unfold cutS; rw [sealed_eq]
@[irreducible] noncomputable def mulS : Int → Int → Int := sealed fun a b => if a < -2147483648 ∨ 2147483648 < a ∨ b < -2147483648 ∨ 2147483648 < b then 0 else a * b / 32768 + (a * b % 32768 + 16384) / 32768
theorem mulS_def (a b : Int) : mulS a b = if a < -2147483648 ∨ 2147483648 < a ∨ b < -2147483648 ∨ 2147483648 < b then 0 else a * b / 32768 + (a * b % 32768 + 16384) / 32768 := by unfold mulS; rw [sealed_eq]
@[irreducible] noncomputable def shiftS : Int → Int → Int := sealed fun x n => if x < -1099511627776 ∨ 1099511627776 < x ∨ 40 < n ∨ n < -20 then 0 else if n ≤ 0 then x * pw (-n) else (x + pw (n - 1)) / pw n
theorem shiftS_def (x n : Int) : shiftS x n = if x < -1099511627776 ∨ 1099511627776 < x ∨ 40 < n ∨ n < -20 then 0 else if n ≤ 0 then x * pw (-n) else (x + pw (n - 1)) / pw n := by unfold shiftS; rw [sealed_eq]

theorem vi_eq {a b : Int} (h : a = b) : vi a = vi b := by rw [h]
theorem ask_wrap64' {e f : Int} {K : Int → Prop} (h : e = f) (h1 : -9223372036854775808 ≤ f) (h2 : f ≤ 9223372036854775807) (hk : K f) : ∀ r, r = IntKind.i64.wrap e → K r := by
  subst h; exact ask_wrap64 h1 h2 hk

set_option maxRecDepth 100000
set_option maxHeartbeats 8000000
theorem cut_walk (x n : Int) (hx : InK .i64 x) (hn : InK .i64 n) : walk F0 0 Try.f19 [i64 x, i64 n] [] fun y _ => y = vi (cutS x n) := by
  obtain ⟨x1, x2⟩ := hx
  obtain ⟨n1, n2⟩ := hn
  simp only [lowK, highK] at x1 x2 n1 n2
  conv => whnf
  refine ask_split (fun h1 => ?_) (fun h1 => ?_)
  · conv => whnf
    rw [cutS_def]; rw [if_pos (.inl h1)]; rfl
  · conv => whnf
    refine ask_split (fun h2 => ?_) (fun h2 => ?_)
    · conv => whnf
      rw [cutS_def]; rw [if_pos (.inr h2)]; rfl
    · conv => whnf
      refine ask_wrap64 (by omega) (by omega) ?_
      conv => whnf
      refine ⟨by omega, ?_⟩
      have e1 := pw_pos (n - 1)
      have e2 := pw62 (n := n - 1) (by omega)
      refine shl64 (by omega) (by omega) (by omega) (by omega) ?_
      have ec : cutS x n = max (min x (pw (n - 1) - 1)) (-pw (n - 1)) := by
        rw [cutS_def]; rw [if_neg (by omega)]
      rw [ec]
      clear ec
      generalize pw (n - 1) = p at *
      repeat' ((conv => whnf); first | (refine ask_wrap64 (by omega) (by omega) ?_) | (refine ask_true (by omega) ?_) | (refine ask_false (by omega) ?_) | (refine ⟨trivial, ?_⟩) | (refine ⟨by omega, ?_⟩) | (refine ask_wrapu8 (by omega) (by omega) ?_) | (refine ask_wrapu64 (by omega) (by omega) ?_) | (refine ask_true (show (_ : Bool) = _ from rfl) ?_) | (refine ask_false (show ¬ ((_ : Bool) = _) from Bool.noConfusion) ?_) | fail)
      exact vi_eq (by omega)
theorem cut_eq (x : Int) {n : Int} (h1 : 1 ≤ n) (h2 : n ≤ 62) : cutS x n = max (min x (pw (n - 1) - 1)) (-pw (n - 1)) := by
  rw [cutS_def]; rw [if_neg (by omega)]
theorem cut_in {x n : Int} (hx : InK .i64 x) : InK .i64 (cutS x n) := by
  rw [cutS_def]
  split
  · exact hx
  · rename_i h
    have e1 := pw_pos (n - 1)
    have e2 := pw62 (n := n - 1) (by omega)
    simp only [InK, lowK, highK] at hx ⊢
    omega
theorem cut_ct : CtOk Try.prog 19 (ct2 (fun _ _ => True) cutS) := ct2_ok F0_ok Try.func19 (fun a b ha _ _ => cut_in ha) fun a b ha hb _ => cut_walk a b ha hb

theorem prod_bound {a b m n : Int} (h1 : -m ≤ a) (h2 : a ≤ m) (h3 : -n ≤ b) (h4 : b ≤ n) : -(m * n) ≤ a * b ∧ a * b ≤ m * n := by
  have h5 : 0 ≤ (m - a) * (n - b) := Int.mul_nonneg (by omega) (by omega)
  have h6 : 0 ≤ (m + a) * (n + b) := Int.mul_nonneg (by omega) (by omega)
  have h7 : 0 ≤ (m - a) * (n + b) := Int.mul_nonneg (by omega) (by omega)
  have h8 : 0 ≤ (m + a) * (n - b) := Int.mul_nonneg (by omega) (by omega)
  simp only [Int.sub_mul, Int.mul_sub, Int.add_mul, Int.mul_add] at h5 h6 h7 h8
  constructor <;> omega

theorem mul_walk (a b : Int) (ha : InK .i64 a) (hb : InK .i64 b) : walk F0 0 Try.f22 [i64 a, i64 b] [] fun y _ => y = vi (mulS a b) := by
  obtain ⟨x1, x2⟩ := ha
  obtain ⟨n1, n2⟩ := hb
  simp only [lowK, highK] at x1 x2 n1 n2
  by_cases h : a < -2147483648 ∨ 2147483648 < a ∨ b < -2147483648 ∨ 2147483648 < b
  · rw [mulS_def]
    rw [if_pos h]
    repeat' ((conv => whnf); first | (refine ask_true (by omega) ?_) | (refine ask_false (by omega) ?_) | (refine ask_split (fun _ => ?_) (fun _ => ?_)) | rfl)
  · rw [mulS_def]
    rw [if_neg h]
    repeat' ((conv => whnf); first | (refine ask_false (by omega) ?_) | fail)
    conv => whnf
    have hp := prod_bound (a := a) (b := b) (m := 2147483648) (n := 2147483648) (by omega) (by omega) (by omega) (by omega)
    obtain ⟨p, ep⟩ : ∃ p, a * b = p := ⟨_, rfl⟩
    rw [ep] at hp
    refine ask_wrap64' ep (by omega) (by omega) ?_
    conv => whnf
    refine ⟨by omega, ?_⟩
    refine ask_is (f := p / 32768) (fdiv_ediv 15) ?_
    conv => whnf
    refine ask_wrap64' ep (by omega) (by omega) ?_
    conv => whnf
    refine ask_is (f := p % 32768) (and_mask (k := .i64) 15 (by decide) ⟨by decide, by decide⟩) ?_
    conv => whnf
    refine ask_wrap64 (by omega) (by omega) ?_
    conv => whnf
    refine ⟨by omega, ?_⟩
    refine ask_is (f := (p % 32768 + 16384) / 32768) (fdiv_ediv 15) ?_
    repeat' ((conv => whnf); first | (refine ask_wrap64 (by omega) (by omega) ?_) | (refine ask_true (by omega) ?_) | (refine ask_false (by omega) ?_) | (refine ⟨trivial, ?_⟩) | (refine ⟨by omega, ?_⟩) | (refine ask_wrapu8 (by omega) (by omega) ?_) | (refine ask_wrapu64 (by omega) (by omega) ?_) | (refine ask_true (show (_ : Bool) = _ from rfl) ?_) | (refine ask_false (show ¬ ((_ : Bool) = _) from Bool.noConfusion) ?_) | fail)
    exact vi_eq (by omega)
theorem mul_in {a b : Int} : InK .i64 (mulS a b) := by
  rw [mulS_def]
  split
  · exact ⟨by decide, by decide⟩
  · have hp := prod_bound (a := a) (b := b) (m := 2147483648) (n := 2147483648) (by omega) (by omega) (by omega) (by omega)
    generalize a * b = p at *
    simp only [InK, lowK, highK]
    omega
theorem mul_ct : CtOk Try.prog 22 (ct2 (fun _ _ => True) mulS) := ct2_ok F0_ok Try.func22 (fun a b _ _ _ => mul_in) fun a b ha hb _ => mul_walk a b ha hb


theorem shift_up {x n : Int} (hx : -1099511627776 ≤ x) (hx' : x ≤ 1099511627776) (h : -20 ≤ n) (h0 : n ≤ 0) : -1152921504606846976 ≤ x * pw (-n) ∧ x * pw (-n) ≤ 1152921504606846976 := by
  have e1 := pw_pos (-n)
  have e2 := pw_mono (a := -n) (b := 20) (by omega)
  have e : pw 20 = 1048576 := by rw [pw_def]; decide
  have := prod_bound (a := x) (b := pw (-n)) (m := 1099511627776) (n := 1048576) hx hx' (by omega) (by omega)
  omega
theorem shift_in {x n : Int} : InK .i64 (shiftS x n) := by
  rw [shiftS_def]
  split
  · exact ⟨by decide, by decide⟩
  · rename_i h
    split
    · have := shift_up (x := x) (n := n) (by omega) (by omega) (by omega) (by omega)
      simp only [InK, lowK, highK]
      omega
    · have e1 := pw_pos (n - 1)
      have e2 := pw62 (n := n - 1) (by omega)
      have e3 := pw_pos n
      have h1 : (x + pw (n - 1)) / pw n ≤ 4611687117939015680 := by
        refine Int.le_trans (Int.ediv_le_ediv (c := pw n) (b := 4611687117939015680) (by omega) (by omega)) ?_
        exact Int.ediv_le_self _ (by decide)
      have h2 : -1099511627776 ≤ (x + pw (n - 1)) / pw n := by
        refine (Int.le_ediv_iff_mul_le (by omega)).2 ?_
        have : (-1099511627776) * pw n ≤ (-1099511627776) * 1 := Int.mul_le_mul_of_nonpos_left (by decide) (by omega)
        omega
      simp only [InK, lowK, highK]
      omega
theorem shift_walk (x n : Int) (hx : InK .i64 x) (hn : InK .i64 n) : walk F0 0 Try.f25 [i64 x, i64 n] [] fun y _ => y = vi (shiftS x n) := by
  obtain ⟨x1, x2⟩ := hx
  obtain ⟨n1, n2⟩ := hn
  simp only [lowK, highK] at x1 x2 n1 n2
  by_cases h : x < -1099511627776 ∨ 1099511627776 < x ∨ 40 < n ∨ n < -20
  · rw [shiftS_def]
    rw [if_pos h]
    repeat' ((conv => whnf); first | (refine ask_true (by omega) ?_) | (refine ask_false (by omega) ?_) | (refine ask_split (fun _ => ?_) (fun _ => ?_)) | rfl)
  · rw [shiftS_def]
    rw [if_neg h]
    repeat' ((conv => whnf); first | (refine ask_false (by omega) ?_) | fail)
    conv => whnf
    refine ask_split (fun h2 => ?_) (fun h2 => ?_)
    · have hb := shift_up (x := x) (n := n) (by omega) (by omega) (by omega) h2
      rw [if_pos h2]
      conv => whnf
      refine ask_wrap64 (by omega) (by omega) ?_
      conv => whnf
      refine ⟨by omega, ?_⟩
      have e0 : 0 - n = -n := by omega
      first
        | (refine shl64 (n := -n) (by omega) (by omega) (by omega) (by omega) ?_)
        | (rw [e0]; refine shl64 (n := -n) (by omega) (by omega) (by omega) (by omega) ?_)
      rfl
    · rw [if_neg h2]
      have e1 := pw_pos (n - 1)
      have e2 := pw62 (n := n - 1) (by omega)
      conv => whnf
      refine ask_wrap64 (by omega) (by omega) ?_
      conv => whnf
      refine ⟨by omega, ?_⟩
      refine shl64 (by omega) (by omega) (by omega) (by omega) ?_
      conv => whnf
      refine ask_wrap64 (by omega) (by omega) ?_
      conv => whnf
      refine ⟨by omega, ?_⟩
      refine shr64 (by omega) ?_
      conv => whnf
      refine vi_eq ?_
      rw [Int.one_mul]
theorem shift_ct : CtOk Try.prog 25 (ct2 (fun _ _ => True) shiftS) := ct2_ok F0_ok Try.func25 (fun a b _ _ _ => shift_in) fun a b ha hb _ => shift_walk a b ha hb

theorem pow_walk (n : Int) (hn : InK .i64 n) (h62 : n ≤ 62) : walk F0 0 Try.f20 [i64 n] [] fun y _ => y = vi (pw n) := by
  obtain ⟨n1, n2⟩ := hn
  simp only [lowK, highK] at n1 n2
  conv => whnf
  refine loop_at (3 :: List.range' 4 9) (fun m i => 0 ≤ i ∧ (i = 0 ∨ i ≤ n) ∧ m = (n - i).toNat) (fun i => [(3, vi (pw i)), (4, vi i)]) (fun _ => []) (n - 0).toNat (0 : Int) ⟨by omega, by omega, rfl⟩ ?_ ?_
  · exact ⟨rfl, ⟨⟨Nat.le_of_ble_eq_true rfl, vi_eq (pw_zero (Int.le_refl 0)).symm⟩, ⟨Nat.le_of_ble_eq_true rfl, rfl⟩, trivial⟩, trivial, rfl, rfl, Nat.le_refl _⟩
  · rintro m i ⟨h1, h2, rfl⟩
    have e1 := pw_pos i
    have e2 := pw62 (n := i) (by omega)
    conv => whnf
    refine ask_split (fun h3 => ?_) (fun h3 => ?_)
    · have e3 := pw62 (n := i + 1) (by omega)
      have e4 := pw_succ h1
      repeat' ((conv => whnf); first | (refine ask_wrap64 (by omega) (by omega) ?_) | (refine ask_true (by omega) ?_) | (refine ask_false (by omega) ?_) | (refine ⟨trivial, ?_⟩) | (refine ⟨by omega, ?_⟩) | (refine ask_wrapu8 (by omega) (by omega) ?_) | (refine ask_wrapu64 (by omega) (by omega) ?_) | (refine ask_true (show (_ : Bool) = _ from rfl) ?_) | (refine ask_false (show ¬ ((_ : Bool) = _) from Bool.noConfusion) ?_) | fail)
      exact ⟨(n - (i + 1)).toNat, i + 1, by omega, ⟨by omega, by omega, rfl⟩, rfl, ⟨⟨Nat.le_of_ble_eq_true rfl, vi_eq e4.symm⟩, ⟨Nat.le_of_ble_eq_true rfl, rfl⟩, trivial⟩, trivial, rfl, rfl, Nat.le_refl _⟩
    · conv => whnf
      refine vi_eq ?_
      rcases Int.lt_or_le 0 n with h | h
      · rw [show i = n by omega]
      · rw [pw_zero h, pw_zero (n := i) (by omega)]
theorem pow_ct : CtOk Try.prog 20 (ct1 (fun n => n ≤ 62) pw) := ct1_ok F0_ok Try.func20 (fun n _ h => ⟨Int.le_trans (by decide) (pw_pos n), Int.le_trans (pw62 h) (by decide)⟩) fun n hn h => pow_walk n hn h

end Go.Proofs.Ytcikcejpmjbckaa
