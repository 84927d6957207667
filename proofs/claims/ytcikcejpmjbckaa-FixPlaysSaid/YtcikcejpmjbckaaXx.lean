/- Chapter fix: roots; the laws FixRoots, FixPlays and FixOrder, walked. -/
import Derived.Test.YtcikcejpmjbckaaXw
set_option linter.all false
namespace Go.Proofs.Ytcikcejpmjbckaa
open Go.RowKit (Below)
set_option maxRecDepth 100000
set_option maxHeartbeats 16000000

theorem sq_lt {a b : Int} (ha : 0 ≤ a) (h : a < b) : a * a < b * b := by
  have h1 : a * a ≤ a * b := Int.mul_le_mul_of_nonneg_left (by omega) ha
  have h2 : a * b < b * b := Int.mul_lt_mul_of_pos_right h (by omega)
  omega
theorem sq_le {a b : Int} (ha : 0 ≤ a) (h : a ≤ b) : a * a ≤ b * b := by
  rcases Int.lt_or_le a b with h1 | h1
  · have := sq_lt ha h1; omega
  · rw [show a = b by omega]; exact Int.le_refl _
theorem root_ex (x : Int) : ∃ r : Int, (x ≤ 0 → r = 0) ∧ (0 < x → 0 ≤ r ∧ r * r ≤ x ∧ x < (r + 1) * (r + 1)) := by
  have gen : ∀ n : Nat, ∃ r : Int, 0 ≤ r ∧ r * r ≤ n ∧ (n : Int) < (r + 1) * (r + 1) := fun n => by
    induction n with
    | zero => exact ⟨0, by decide, by decide, by decide⟩
    | succ n ih =>
      obtain ⟨r, h1, h2, h3⟩ := ih
      by_cases h : (r + 1) * (r + 1) ≤ (n : Int) + 1
      · refine ⟨r + 1, by omega, by simpa using h, ?_⟩
        have := sq_lt (a := r + 1) (b := r + 1 + 1) (by omega) (by omega)
        have e : (r + 1 + 1) * (r + 1 + 1) = (r + 1) * (r + 1) + 2 * r + 3 := by simp only [Int.add_mul, Int.mul_add]; omega
        have := Int.natCast_succ n
        omega
      · have := Int.natCast_succ n
        exact ⟨r, h1, by omega, by omega⟩
  rcases Int.lt_or_le 0 x with h | h
  · obtain ⟨r, h1, h2, h3⟩ := gen x.toNat
    exact ⟨r, fun h' => by omega, fun _ => ⟨h1, by omega, by omega⟩⟩
  · exact ⟨0, fun _ => rfl, fun h' => by omega⟩
/-- A number's root, rounded down; 0 from 0 down. -/
@[irreducible] noncomputable def rootS (x : Int) : Int := Classical.choose (root_ex x)
theorem root_neg {x : Int} (h : x ≤ 0) : rootS x = 0 := by unfold rootS; exact (Classical.choose_spec (root_ex x)).1 h
theorem root_pos {x : Int} (h : 0 < x) : 0 ≤ rootS x ∧ rootS x * rootS x ≤ x ∧ x < (rootS x + 1) * (rootS x + 1) := by unfold rootS; exact (Classical.choose_spec (root_ex x)).2 h
theorem root_uniq {x r : Int} (h : 0 < x) (h0 : 0 ≤ r) (h1 : r * r ≤ x) (h2 : x < (r + 1) * (r + 1)) : rootS x = r := by
  obtain ⟨g0, g1, g2⟩ := root_pos h
  rcases Int.lt_trichotomy (rootS x) r with hh | hh | hh
  · have := sq_le (a := rootS x + 1) (b := r) (by omega) (by omega); omega
  · exact hh
  · have := sq_le (a := r + 1) (b := rootS x) (by omega) (by omega); omega
theorem root_small {x : Int} (h : x ≤ 9223372036854775807) : 0 ≤ rootS x ∧ rootS x ≤ 3037000499 := by
  rcases Int.lt_or_le 0 x with h0 | h0
  · obtain ⟨g0, g1, g2⟩ := root_pos h0
    refine ⟨g0, ?_⟩
    rcases Int.lt_or_le 3037000499 (rootS x) with hh | hh
    · have := sq_le (a := 3037000500) (b := rootS x) (by decide) (by omega); omega
    · exact hh
  · rw [root_neg h0]; decide
theorem root_mono {x y : Int} (h : x ≤ y) : rootS x ≤ rootS y := by
  rcases Int.lt_or_le 0 x with h0 | h0
  · obtain ⟨g0, g1, g2⟩ := root_pos h0
    obtain ⟨k0, k1, k2⟩ := root_pos (x := y) (by omega)
    rcases Int.lt_or_le (rootS y) (rootS x) with hh | hh
    · have := sq_le (a := rootS y + 1) (b := rootS x) (by omega) (by omega); omega
    · exact hh
  · rw [root_neg h0]
    rcases Int.lt_or_le 0 y with h1 | h1
    · exact (root_pos h1).1
    · rw [root_neg h1]; exact Int.le_refl _

/-- Or with a lower power of two: the sum. -/
theorem or_sum {o k q : Int} (hk : 0 ≤ k) (hk' : k ≤ 31) (hq : 0 ≤ q) (ho : o = q * pw (k + 1)) (hb : o ≤ 4611686018427387904) : bitsI .or .i64 o (pw k) = o + pw k := by
  have p0 := pw_pos k
  have p1 := pw_mono (a := k) (b := 31) hk'
  rw [show pw 31 = 2147483648 by rw [pw_def]; decide] at p1
  have ho0 : 0 ≤ o := by rw [ho]; exact Int.mul_nonneg hq (by have := pw_pos (k + 1); omega)
  unfold bitsI
  simp only
  have n1 : (BitVec.ofInt IntKind.i64.bits o).toNat = o.toNat := by
    have := ofInt_toNat (w := IntKind.i64.bits) o
    rw [Int.emod_eq_of_lt ho0 (by simp [IntKind.bits]; omega)] at this
    omega
  have n2 : (BitVec.ofInt IntKind.i64.bits (pw k)).toNat = (pw k).toNat := by
    have := ofInt_toNat (w := IntKind.i64.bits) (pw k)
    rw [Int.emod_eq_of_lt (by omega) (by simp [IntKind.bits]; omega)] at this
    omega
  have e1 : (pw k).toNat = 2 ^ k.toNat := by
    have : ((2 ^ k.toNat : Nat) : Int) = 2 ^ k.toNat := by simp
    rw [pw_def, ← this, Int.toNat_natCast]
  have e2 : o.toNat = 2 ^ (k.toNat + 1) * q.toNat := by
    have : ((2 ^ (k.toNat + 1) * q.toNat : Nat) : Int) = o := by
      rw [ho, pw_def, Int.natCast_mul, Int.toNat_of_nonneg hq, show (k + 1).toNat = k.toNat + 1 by omega, Int.mul_comm]
      simp
    omega
  have e3 : o.toNat ||| (pw k).toNat = o.toNat + (pw k).toNat := by
    rw [e1, e2]
    exact (Nat.two_pow_add_eq_or_of_lt (Nat.pow_lt_pow_right (by decide) (Nat.lt_succ_self _)) q.toNat).symm
  have e4 : (((BitVec.ofInt IntKind.i64.bits o) ||| (BitVec.ofInt IntKind.i64.bits (pw k))).toNat : Int) = o + pw k := by
    rw [BitVec.toNat_or, n1, n2, e3]; omega
  rw [e4]
  exact wrap_of_in (k := .i64) ⟨by simp only [lowK]; omega, by simp only [highK]; omega⟩

theorem root_walk (x : Int) (hx : InK .i64 x) : walk F0 0 Try.f35 [i64 x] [] fun y _ => y = vi (rootS x) := by
  obtain ⟨x1, x2⟩ := hx
  simp only [lowK, highK] at x1 x2
  have p32 := pw_vals.1
  have p0 : pw 0 = 1 := pw_zero (by decide)
  conv => whnf
  refine loop_at2 (List.range' 3 22) (fun m (i o : Int) => 0 ≤ i ∧ i ≤ 32 ∧ m = (32 - i).toNat ∧ (∃ q, 0 ≤ q ∧ o = q * pw (32 - i)) ∧ (x ≤ 0 → o = 0) ∧ (0 < x → o * o ≤ x ∧ x < (o + pw (32 - i)) * (o + pw (32 - i)))) (fun i o => [(3, vi o), (6, vi i)]) (fun _ _ => []) 32 0 0
    ⟨by decide, by decide, rfl, ⟨0, by decide, by simp⟩, fun _ => rfl, fun h => ⟨by omega, by rw [show (32 : Int) - 0 = 32 by decide, p32]; omega⟩⟩ ?_ ?_
  · exact ⟨rfl, ⟨⟨Nat.le_of_ble_eq_true rfl, rfl⟩, ⟨Nat.le_of_ble_eq_true rfl, rfl⟩, trivial⟩, trivial, rfl, rfl, Nat.le_refl _⟩
  · rintro m i o ⟨h1, h2, rfl, ⟨q, hq, ho⟩, h5, h6⟩
    conv => whnf
    refine ask_split (fun h3 => ?_) (fun h3 => ?_)
    · have pz := pw_pos (31 - i)
      have pm := pw_mono (a := 31 - i) (b := 31) (by omega)
      rw [show pw 31 = 2147483648 by rw [pw_def]; decide] at pm
      have ps : pw (32 - i) = 2 * pw (31 - i) := by rw [← pw_succ (by omega)]; congr 1; omega
      have o0 : 0 ≤ o := by rw [ho]; exact Int.mul_nonneg hq (by omega)
      have o1 : o ≤ 3037000499 := by
        rcases Int.lt_or_le 0 x with hh | hh
        · rcases Int.lt_or_le 3037000499 o with h7 | h7
          · have := sq_le (a := 3037000500) (b := o) (by decide) (by omega); have := h6 hh; omega
          · exact h7
        · rw [h5 hh]; decide
      have e1 := or_sum (o := o) (k := 31 - i) (q := q) (by omega) (by omega) hq (by rw [show 31 - i + 1 = 32 - i by omega]; exact ho) (by omega)
      conv => whnf
      refine ask_wrap64 (by omega) (by omega) ?_
      conv => whnf
      refine ⟨by omega, ?_⟩
      refine shl64 (by omega) (by omega) (by omega) (by omega) ?_
      conv => whnf
      refine ask_is (f := o + pw (31 - i)) (by rw [Int.one_mul]; exact e1) ?_
      conv => whnf
      refine ask_split (fun hp => ?_) (fun hp => ?_)
      · have ed : IntKind.i64.wrap (x.tdiv (o + pw (31 - i))) = x / (o + pw (31 - i)) := by
          rw [Int.tdiv_eq_ediv_of_nonneg (by omega)]
          have := Int.ediv_nonneg (a := x) (b := o + pw (31 - i)) (by omega) (by omega)
          have := Int.ediv_le_self (a := x) (o + pw (31 - i)) (by omega)
          exact wrap_of_in (k := .i64) ⟨by simp only [lowK]; omega, by simp only [highK]; omega⟩
        obtain ⟨g1, g2⟩ := h6 hp
        have key : o + pw (31 - i) ≤ x / (o + pw (31 - i)) ↔ (o + pw (31 - i)) * (o + pw (31 - i)) ≤ x := Int.le_ediv_iff_mul_le (by omega)
        conv => whnf
        refine ⟨by omega, ask_is ed ?_⟩
        conv => whnf
        refine ask_split (fun hy => ?_) (fun hy => ?_)
        · repeat' ((conv => whnf); first | (refine ask_wrap64 (by omega) (by omega) ?_) | (refine ask_true (by omega) ?_) | (refine ask_false (by omega) ?_) | (refine ⟨trivial, ?_⟩) | (refine ⟨by omega, ?_⟩) | (refine ask_wrapu8 (by omega) (by omega) ?_) | (refine ask_wrapu64 (by omega) (by omega) ?_) | (refine ask_true (show (_ : Bool) = _ from rfl) ?_) | (refine ask_false (show ¬ ((_ : Bool) = _) from Bool.noConfusion) ?_) | fail)
          refine ⟨(32 - (i + 1)).toNat, (i + 1, o + pw (31 - i)), by omega, ⟨by simp only; omega, by simp only; omega, rfl, ⟨2 * q + 1, by omega, ?_⟩, fun hh => by omega, fun _ => ⟨key.1 hy, ?_⟩⟩, rfl, ⟨⟨Nat.le_of_ble_eq_true rfl, rfl⟩, ⟨Nat.le_of_ble_eq_true rfl, rfl⟩, trivial⟩, trivial, rfl, rfl, Nat.le_refl _⟩
          · simp only
            rw [show 32 - (i + 1) = 31 - i by omega, ho, ps, Int.add_mul, Int.one_mul, Int.mul_comm 2 q, Int.mul_assoc]
          · simp only
            rw [show 32 - (i + 1) = 31 - i by omega, show o + pw (31 - i) + pw (31 - i) = o + pw (32 - i) by omega]
            exact g2
        · repeat' ((conv => whnf); first | (refine ask_wrap64 (by omega) (by omega) ?_) | (refine ask_true (by omega) ?_) | (refine ask_false (by omega) ?_) | (refine ⟨trivial, ?_⟩) | (refine ⟨by omega, ?_⟩) | (refine ask_wrapu8 (by omega) (by omega) ?_) | (refine ask_wrapu64 (by omega) (by omega) ?_) | (refine ask_true (show (_ : Bool) = _ from rfl) ?_) | (refine ask_false (show ¬ ((_ : Bool) = _) from Bool.noConfusion) ?_) | fail)
          refine ⟨(32 - (i + 1)).toNat, (i + 1, o), by omega, ⟨by simp only; omega, by simp only; omega, rfl, ⟨2 * q, by omega, ?_⟩, fun hh => by omega, fun _ => ⟨g1, ?_⟩⟩, rfl, ⟨⟨Nat.le_of_ble_eq_true rfl, rfl⟩, ⟨Nat.le_of_ble_eq_true rfl, rfl⟩, trivial⟩, trivial, rfl, rfl, Nat.le_refl _⟩
          · simp only
            rw [show 32 - (i + 1) = 31 - i by omega, ho, ps, Int.mul_comm 2 q, Int.mul_assoc]
          · simp only
            rw [show 32 - (i + 1) = 31 - i by omega]
            rcases Int.lt_or_le x ((o + pw (31 - i)) * (o + pw (31 - i))) with h8 | h8
            · exact h8
            · exact absurd (key.2 h8) hy
      · have hz := h5 (by omega)
        repeat' ((conv => whnf); first | (refine ask_wrap64 (by omega) (by omega) ?_) | (refine ask_true (by omega) ?_) | (refine ask_false (by omega) ?_) | (refine ⟨trivial, ?_⟩) | (refine ⟨by omega, ?_⟩) | (refine ask_wrapu8 (by omega) (by omega) ?_) | (refine ask_wrapu64 (by omega) (by omega) ?_) | (refine ask_true (show (_ : Bool) = _ from rfl) ?_) | (refine ask_false (show ¬ ((_ : Bool) = _) from Bool.noConfusion) ?_) | fail)
        refine ⟨(32 - (i + 1)).toNat, (i + 1, o), by omega, ⟨by simp only; omega, by simp only; omega, rfl, ⟨0, by omega, by simp only; rw [hz]; simp⟩, fun hh => by simp only; omega, fun hh => by omega⟩, rfl, ⟨⟨Nat.le_of_ble_eq_true rfl, rfl⟩, ⟨Nat.le_of_ble_eq_true rfl, rfl⟩, trivial⟩, trivial, rfl, rfl, Nat.le_refl _⟩
    · have hi : i = 32 := by omega
      subst hi
      rw [show (32 : Int) - 32 = 0 by decide, p0] at h6 ho
      conv => whnf
      refine vi_eq ?_
      rcases Int.lt_or_le 0 x with hh | hh
      · exact (root_uniq hh (by omega) (h6 hh).1 (h6 hh).2).symm
      · rw [h5 hh, root_neg hh]
theorem root_ct : CtOk Try.prog 35 (ct1 (fun _ => True) rootS) := ct1_ok F0_ok Try.func35 (fun a h _ => by
  have := root_small (x := a) h.2
  simp only [InK, lowK, highK]; omega) fun a ha _ => root_walk a ha

end Go.Proofs.Ytcikcejpmjbckaa
