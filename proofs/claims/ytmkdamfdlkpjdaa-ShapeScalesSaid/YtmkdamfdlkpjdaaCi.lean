/- Chapter shape: the law ShapeFits, walked. -/
import Derived.Test.YtmkdamfdlkpjdaaCh
set_option linter.all false
namespace Go.Proofs.Ytmkdamfdlkpjdaa
open Go.RowKit (Below)
set_option maxRecDepth 100000
set_option maxHeartbeats 32000000

def sumY (y : List Int) : Nat → Int
  | 0 => 0
  | i + 1 => sumY y i + y.getD i 0
theorem sumY_set {y : List Int} {b : Nat} (hb : b < y.length) : ∀ i, sumY (y.set b (y.getD b 0 + 1)) i = sumY y i + if b < i then 1 else 0
  | 0 => by rw [if_neg (Nat.not_lt_zero b)]; rfl
  | i + 1 => by
    show sumY (y.set b (y.getD b 0 + 1)) i + (y.set b (y.getD b 0 + 1)).getD i 0 = sumY y i + y.getD i 0 + _
    rw [sumY_set hb i, set_getD' hb]
    by_cases h : i = b
    · subst h
      rw [if_pos rfl, if_neg (Nat.lt_irrefl i), if_pos (Nat.lt_succ_self i)]; omega
    · rw [if_neg h]
      by_cases h2 : b < i
      · rw [if_pos h2, if_pos (by omega)]; omega
      · rw [if_neg h2, if_neg (by omega)]; omega
theorem sumY_zero (n : Nat) : ∀ i, sumY (List.replicate n 0) i = 0
  | 0 => rfl
  | i + 1 => by
    show sumY (List.replicate n 0) i + (List.replicate n (0 : Int)).getD i 0 = 0
    rw [sumY_zero n i, rep_getD]; rfl
theorem run_sum {c : List Int} {n : Nat} (hn : 0 < n) (hc : ∀ i, -1048576 ≤ c.getD i 0 ∧ c.getD i 0 ≤ 1048576) : ∀ k : Nat, k ≤ 8 → sumY (fdRun c n k).y n = k
  | 0, _ => sumY_zero n n
  | k + 1, hk => by
    show sumY ((fdRun c n k).y.set (bestF c (fdRun c n k) n) ((fdRun c n k).y.getD (bestF c (fdRun c n k) n) 0 + 1)) n = _
    have hb := bestF_lt c (fdRun c n k) n hn
    rw [sumY_set (by rw [(fdRun_ok hn hc k (by omega)).len]; exact hb), run_sum hn hc k (by omega), if_pos hb]; omega
theorem sum_abs {Y y : List Int} {n : Nat} (h : ∀ i, i < n → szV (Y.getD i 0) = y.getD i 0) : ∀ i, i ≤ n → sumA Y i = sumY y i
  | 0, _ => rfl
  | i + 1, hi => by
    show sumA Y i + szV (Y.getD i 0) = sumY y i + y.getD i 0
    rw [sum_abs h i (by omega), h i (by omega)]
theorem dot_nn {xs ys : List Int} {n : Nat} (h : ∀ i, i < n → 0 ≤ xs.getD i 0 * ys.getD i 0) : ∀ i, i ≤ n → 0 ≤ dotA xs ys i
  | 0, _ => Int.le_refl 0
  | i + 1, hi => by
    have h1 := dot_nn h i (by omega)
    have h2 := h i (by omega)
    show 0 ≤ dotA xs ys i + xs.getD i 0 * ys.getD i 0
    omega
theorem sq_between {Y y : List Int} {n : Nat} (h : ∀ i, i < n → (Y.getD i 0 = y.getD i 0 ∨ Y.getD i 0 = 0 - y.getD i 0) ∧ 0 ≤ y.getD i 0) : ∀ i, i ≤ n → 0 ≤ sumY y i ∧ sumY y i ≤ sqA Y i ∧ sqA Y i ≤ sumY y i * sumY y i
  | 0, _ => ⟨Int.le_refl 0, Int.le_refl 0, Int.le_refl 0⟩
  | i + 1, hi => by
    obtain ⟨h0, h1, h2⟩ := sq_between h i (by omega)
    obtain ⟨h3, h4⟩ := h i (by omega)
    have e : Y.getD i 0 * Y.getD i 0 = y.getD i 0 * y.getD i 0 := by
      rcases h3 with h3 | h3 <;> rw [h3]
      rw [Int.zero_sub, Int.neg_mul_neg]
    show 0 ≤ sumY y i + y.getD i 0 ∧ sumY y i + y.getD i 0 ≤ sqA Y i + Y.getD i 0 * Y.getD i 0 ∧ sqA Y i + Y.getD i 0 * Y.getD i 0 ≤ (sumY y i + y.getD i 0) * (sumY y i + y.getD i 0)
    rw [e]
    generalize hs : sumY y i = s at *
    generalize hv : y.getD i 0 = v at *
    have h5 : v ≤ v * v := by
      rcases Int.lt_or_le 0 v with h6 | h6
      · have := Int.mul_le_mul_of_nonneg_left (show (1 : Int) ≤ v by omega) h4
        omega
      · have : v = 0 := by omega
        subst this; decide
    have h6 : 0 ≤ s * v := Int.mul_nonneg h0 h4
    have h7 : (s + v) * (s + v) = s * s + 2 * (s * v) + v * v := by
      rw [Int.add_mul, Int.mul_add, Int.mul_add, Int.mul_comm v s]; omega
    omega
theorem found_sign {c : List Int} {n k i : Nat} (hn : 0 < n) (hk : k ≤ 8) (hc : ∀ i, -1048576 ≤ c.getD i 0 ∧ c.getD i 0 ≤ 1048576) (h : i < n) :
    (c.getD i 0 < 0 → (findZ c n k).getD i 0 ≤ 0) ∧ (0 ≤ c.getD i 0 → 0 ≤ (findZ c n k).getD i 0) ∧ ((findZ c n k).getD i 0 = (fdRun c n k).y.getD i 0 ∨ (findZ c n k).getD i 0 = 0 - (fdRun c n k).y.getD i 0) := by
  have h1 := (fdRun_ok hn hc k hk).y i
  rw [findZ_at h]
  split
  · exact ⟨fun _ => by omega, fun _ => by omega, .inr rfl⟩
  · exact ⟨fun _ => by omega, fun _ => by omega, .inl rfl⟩
/-- What is found fits. -/
structure Fits (xs Y : List Int) (n k : Nat) : Prop where
  pul : pulA Y n = k
  bad : ∀ i, i < n → ¬ bad8 (Y.getD i 0)
  neg : ∀ i, i < n → xs.getD i 0 < 0 → Y.getD i 0 ≤ 0
  pos : ∀ i, i < n → 0 ≤ xs.getD i 0 → 0 ≤ Y.getD i 0
  dot : 0 ≤ dotA xs Y n
  sq : (k : Int) ≤ sqA Y n ∧ sqA Y n ≤ k * k
theorem fits {X rest : List Int} {n k : Nat} (hl : n = X.length) (hn : 0 < n) (h8 : n ≤ 8) (hk : k ≤ 8) (hc : ∀ i, -1048576 ≤ X.getD i 0 ∧ X.getD i 0 ≤ 1048576) : Fits (X ++ rest) (findZ X n k) n k := by
  have hA := fun i (hi : i < n) => found_abs (c := X) (n := n) (k := k) (i := i) hn hk hc hi
  have hS := fun i (hi : i < n) => found_sign (c := X) (n := n) (k := k) (i := i) hn hk hc hi
  have hx : ∀ i, i < n → (X ++ rest).getD i 0 = X.getD i 0 := fun i hi => left_at (by omega)
  have hb : ∀ i, i < n → -8 ≤ (findZ X n k).getD i 0 ∧ (findZ X n k).getD i 0 ≤ 8 := fun i hi => by
    have := hA i hi
    unfold absI at this; omega
  have hsz : ∀ i, i < n → szV ((findZ X n k).getD i 0) = (fdRun X n k).y.getD i 0 := fun i hi => by rw [szV_abs (hb i hi)]; exact (hA i hi).1
  have hsum := run_sum hn hc k hk
  have hsq := sq_between (fun i hi => ⟨(hS i hi).2.2, (hA i hi).2.1⟩) n (Nat.le_refl n)
  rw [hsum] at hsq
  refine ⟨?_, fun i hi h => by have := hb i hi; unfold bad8 at h; omega, fun i hi h => (hS i hi).1 (by rw [← hx i hi]; exact h), fun i hi h => (hS i hi).2.1 (by rw [← hx i hi]; exact h), dot_nn (fun i hi => ?_) n (Nat.le_refl n), hsq.2⟩
  · rw [pulA_def, if_pos h8, sum_abs hsz n (Nat.le_refl n), hsum]; omega
  · rw [hx i hi]
    rcases Int.lt_or_le (X.getD i 0) 0 with h | h
    · have h2 := (hS i hi).1 h
      have := Int.mul_nonneg (show 0 ≤ -X.getD i 0 by omega) (show 0 ≤ -(findZ X n k).getD i 0 by omega)
      rwa [Int.neg_mul_neg] at this
    · exact Int.mul_nonneg h ((hS i hi).2.1 h)

noncomputable def FLf : Fns := (FL.over 19 hPulses).over 18 hGain
theorem FLf_ok : FnsOk Try.prog FLf := (FL_ok.over pulses_ct Try.func19 (by kernel_rfl) (by kernel_rfl)).over gain_ct Try.func18 (by kernel_rfl) (by kernel_rfl)
theorem law_ShapeFits (W0 : World) (v : Value) (w : SlIn .i64 W0 v) (k : Int) (hk : InK .u8 k) : Calls Try.prog 7 #[v, .int .u8 k] W0 fun e w' => e = .returned (.bool true) ∧ Below W0.heap.size W0 w' := by
  obtain ⟨k0, k1⟩ := hk
  simp only [lowK, highK] at k0 k1
  refine law_slice FLf_ok Try.func7 (n := 0) (ws := [u8 k]) w ⟨⟨k0, k1⟩, trivial⟩ rfl ?_ fun zs l hl hc hx => ?_
  · repeat' ((conv => whnf); first | (refine And.intro (fun _ => ?_) (fun h => absurd rfl h)) | (refine And.intro (by omega) fun r hr => ?_) | (refine ask_wrap64 (by omega) (by omega) ?_) | (refine ask_true (by decide) ?_) | (refine ask_false (by decide) ?_) | rfl | fail)
  · repeat' ((conv => whnf); first | (refine And.intro ⟨rfl, rfl⟩ ?_) | (refine And.intro rfl ?_) | fail)
    refine And.intro (fun _ => ?_) fun ne c rest h1 h2 h3 => ?_
    · repeat' ((conv => whnf); first | (refine And.intro (by omega) fun r hr => ?_) | (refine ask_wrap64 (by omega) (by omega) ?_) | (refine ask_true (by decide) ?_) | (refine ask_false (by decide) ?_) | rfl | fail)
    · have n1 := wav_len (zs := zs) (n := min l 8) (by omega)
      have hR0 := fun k hk => wav_right hl (k := k) hk ne
      obtain ⟨X, hX⟩ : ∃ X, X = wav zs (min l 8) := ⟨_, rfl⟩
      rw [← hX] at ne h1 h3 hR0 n1 ⊢
      obtain ⟨n, hn⟩ : ∃ n, n = X.length := ⟨_, rfl⟩
      rw [← hn] at h1 h3 n1 ⊢
      have et : List.take n (X ++ rest) = X := take_all hn
      have hR' := hR0 0 (by decide)
      have hcb := right_in hR'
      rw [rightC_def, ← hn] at hR'
      repeat' ((conv => whnf); first | (refine And.intro ⟨rfl, rfl⟩ ?_) | (refine And.intro rfl ?_) | (refine ask_true (by omega) ?_) | (refine ask_false (by omega) ?_) | (refine And.intro (by omega) fun r hr => ?_) | (refine ask_wrap64 (by omega) (by omega) ?_) | fail)
      have r0 : 0 ≤ r ∧ r ≤ 8 := by rw [hr, Int.tmod_eq_emod_of_nonneg k0]; omega
      have hF := fits (rest := rest) (k := r.toNat) hn (by omega) (by omega) (by omega) hcb
      refine And.intro (fun h => absurd (by rw [et]; exact hR0 r (by omega)) h) fun _ => ?_
      conv => whnf
      rw [et]
      obtain ⟨Y, eY⟩ : ∃ Y, Y = findZ X n r.toNat := ⟨_, rfl⟩
      rw [← eY] at hF ⊢
      obtain ⟨hp, hbad, hneg, hpos, hdot, hsq⟩ := hF
      rw [show ((r.toNat : Nat) : Int) = r by omega] at hp hsq
      have hrr := mul_bound r0.1 r0.2 r0.1 r0.2
      have hgood : goodC (X ++ rest) Y n n := by rw [goodC_def, et]; exact ⟨hR0 0 (by decide), rfl, hbad⟩
      have em : ∀ i : Int, mulN i.toNat (Try.prog.types[3]).size = i.toNat := fun i => mulN1 _
      repeat' ((conv => whnf); first | (refine And.intro ⟨rfl, rfl⟩ ?_) | (refine And.intro rfl ?_) | (refine ask_true (by omega) ?_) | (refine ask_false (by omega) ?_) | (refine ask_true (by decide) ?_) | (refine ask_false (by decide) ?_) | fail)
      conv => whnf
      refine loop_at (9 :: List.range' 50 32) (fun m (i : Int) => 0 ≤ i ∧ i ≤ n ∧ m = (n - i).toNat) (fun i => [(9, vi i)]) (fun _ => [.ro [.ints .i64 zs.length zs], .own 3 [.ints .i64 c (X ++ rest)], .own 3 [.ints .i64 n Y]]) n 0 ⟨by decide, by omega, by omega⟩ ?_ ?_
      · exact ⟨rfl, ⟨⟨Nat.le_of_ble_eq_true rfl, rfl⟩, trivial⟩, ⟨rfl, rfl, rfl, trivial⟩, rfl, rfl, Nat.le_of_ble_eq_true rfl⟩
      · rintro m i ⟨i0, i1, rfl⟩
        have ei := em i
        rcases Int.lt_or_le i n with i2 | i2
        · have hxi := hneg i.toNat (by omega)
          have hyi := hpos i.toNat (by omega)
          have xi : (X ++ rest).getD (0 + mulN i.toNat (Try.prog.types[3]).size) 0 = (X ++ rest).getD i.toNat 0 := by rw [em, Nat.zero_add]
          have yi : Y.getD (0 + mulN i.toNat (Try.prog.types[3]).size) 0 = Y.getD i.toNat 0 := by rw [em, Nat.zero_add]
          rw [← xi, ← yi] at hxi hyi
          rcases Int.lt_or_le ((X ++ rest).getD (0 + mulN i.toNat (Try.prog.types[3]).size) 0) 0 with hs | hs
          · have := hxi hs
            repeat' ((conv => whnf); first | (refine ask_true (by omega) ?_) | (refine ask_false (by omega) ?_) | (refine And.intro (by omega) ?_) | (refine fun (_ : InK _ _) => ?_) | (refine ask_wrap64 (by omega) (by omega) ?_) | (refine ⟨by kernel_rfl, ?_⟩) | fail)
            conv => whnf
            exact ⟨(n - (i + 1)).toNat, i + 1, by omega, ⟨by omega, by omega, rfl⟩, rfl, ⟨⟨Nat.le_of_ble_eq_true rfl, rfl⟩, trivial⟩, ⟨rfl, rfl, rfl, trivial⟩, rfl, rfl, Nat.le_of_ble_eq_true rfl⟩
          · have := hyi hs
            repeat' ((conv => whnf); first | (refine ask_true (by omega) ?_) | (refine ask_false (by omega) ?_) | (refine And.intro (by omega) ?_) | (refine fun (_ : InK _ _) => ?_) | (refine ask_wrap64 (by omega) (by omega) ?_) | (refine ⟨by kernel_rfl, ?_⟩) | fail)
            conv => whnf
            refine ask_split (fun hs2 => ?_) (fun hs2 => ?_)
            all_goals repeat' ((conv => whnf); first | (refine ask_true (by omega) ?_) | (refine ask_false (by omega) ?_) | (refine And.intro (by omega) ?_) | (refine fun (_ : InK _ _) => ?_) | (refine ask_wrap64 (by omega) (by omega) ?_) | (refine ⟨by kernel_rfl, ?_⟩) | fail)
            all_goals (conv => whnf)
            all_goals exact ⟨(n - (i + 1)).toNat, i + 1, by omega, ⟨by omega, by omega, rfl⟩, rfl, ⟨⟨Nat.le_of_ble_eq_true rfl, rfl⟩, trivial⟩, ⟨rfl, rfl, rfl, trivial⟩, rfl, rfl, Nat.le_of_ble_eq_true rfl⟩
        · repeat' ((conv => whnf); first | (refine And.intro ⟨rfl, rfl⟩ ?_) | (refine And.intro rfl ?_) | (refine And.intro (fun _ => ?_) (fun h => absurd hgood h)) | (refine ask_wrap64 (by omega) (by omega) ?_) | (refine ask_true (by omega) ?_) | (refine ask_false (by omega) ?_) | rfl | fail)
end Go.Proofs.Ytmkdamfdlkpjdaa
