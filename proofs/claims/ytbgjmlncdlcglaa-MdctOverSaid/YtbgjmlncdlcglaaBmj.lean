/- Chapter mdct: three frames, there and back, laid over: the middle one, nearly. The plain matter. -/
import Derived.Test.YtbgjmlncdlcglaaBmh
set_option linter.all false
namespace Go.Proofs.Ytbgjmlncdlcglaa
open Go.RowKit (Below)
set_option maxRecDepth 100000
set_option maxHeartbeats 32000000

/-! ### sums -/
theorem sumN_congr {f g : Int → Int} : ∀ {n : Nat}, (∀ i : Nat, i < n → f i = g i) → sumN f n = sumN g n
  | 0, _ => by rw [sumN_zero, sumN_zero]
  | n + 1, h => by rw [sumN_succ, sumN_succ, sumN_congr fun i hi => h i (by omega), h n (by omega)]
theorem sumN_plus (f g : Int → Int) : ∀ n : Nat, sumN (fun i => f i + g i) n = sumN f n + sumN g n
  | 0 => by rw [sumN_zero, sumN_zero, sumN_zero]; rfl
  | n + 1 => by rw [sumN_succ, sumN_succ, sumN_succ, sumN_plus f g n]; omega
theorem sumN_minus (f g : Int → Int) : ∀ n : Nat, sumN (fun i => f i - g i) n = sumN f n - sumN g n
  | 0 => by rw [sumN_zero, sumN_zero, sumN_zero]; rfl
  | n + 1 => by rw [sumN_succ, sumN_succ, sumN_succ, sumN_minus f g n]; omega
theorem sumN_times (c : Int) (f : Int → Int) : ∀ n : Nat, sumN (fun i => c * f i) n = c * sumN f n
  | 0 => by rw [sumN_zero, sumN_zero, Int.mul_zero]
  | n + 1 => by rw [sumN_succ, sumN_succ, sumN_times c f n, Int.mul_add]
theorem sumN_times' (c : Int) (f : Int → Int) (n : Nat) : sumN (fun i => f i * c) n = sumN f n * c := by
  rw [Int.mul_comm, ← sumN_times]
  exact sumN_congr fun i _ => Int.mul_comm _ _
theorem sumN_none : ∀ n : Nat, sumN (fun _ => 0) n = 0
  | 0 => sumN_zero _
  | n + 1 => by rw [sumN_succ, sumN_none n]; rfl
theorem sumN_swap (F : Int → Int → Int) (M : Nat) : ∀ n : Nat, sumN (fun k => sumN (fun i => F i k) M) n = sumN (fun i => sumN (fun k => F i k) n) M
  | 0 => by
    rw [sumN_zero]
    rw [sumN_congr (g := fun _ => 0) fun i _ => sumN_zero _, sumN_none]
  | n + 1 => by
    rw [sumN_succ, sumN_swap F M n, ← sumN_plus]
    exact sumN_congr fun i _ => (sumN_succ _ _).symm
theorem sumN_split (f : Int → Int) (a : Nat) : ∀ b : Nat, sumN f (a + b) = sumN f a + sumN (fun i => f (a + i)) b
  | 0 => by rw [sumN_zero, Int.add_zero]; rfl
  | b + 1 => by
    rw [← Nat.add_assoc, sumN_succ, sumN_split f a b, sumN_succ, Int.add_assoc]
    rw [Int.natCast_add]
theorem sumN_le {f g : Int → Int} : ∀ {n : Nat}, (∀ i : Nat, i < n → -(g i) ≤ f i ∧ f i ≤ g i) → -(sumN g n) ≤ sumN f n ∧ sumN f n ≤ sumN g n
  | 0, _ => by rw [sumN_zero, sumN_zero]; omega
  | n + 1, h => by
    have h1 := sumN_le (n := n) fun i hi => h i (by omega)
    have h2 := h n (by omega)
    rw [sumN_succ, sumN_succ]
    omega
theorem sumN_list (f : Int → Int) (n : Nat) : sumN f n = ((List.range n).map fun (i : Nat) => f (i : Int)).sum := by unfold sumN; rw [sealed_eq]

/-! ### one frame, there and back -/
@[irreducible] noncomputable def gram : Int → Int → Int := sealed fun m n => sumN (fun k => kAt m k * kAt n k) 16
theorem gram_def (m n : Int) : gram m n = sumN (fun k => kAt m k * kAt n k) 16 := by unfold gram; rw [sealed_eq]
theorem gram_bound (m n : Int) : -17179869184 ≤ gram m n ∧ gram m n ≤ 17179869184 := by
  rw [gram_def]
  have := sumN_bound (f := fun k => kAt m k * kAt n k) (b := 1073741824) (m := 16) (fun i _ _ => by
    have h1 := kAt_bound m i
    have h2 := kAt_bound n i
    have := prod_bound h1.1 h1.2 h2.1 h2.2
    omega) 16 (by omega)
  omega
noncomputable def sn (m : Int) : Int := sinS (2 * m + 1)
theorem sn_bound (m : Int) : -32768 ≤ sn m ∧ sn m ≤ 32768 := sin_bound _
noncomputable def mainS (A : List Int) (m : Int) : Int := sumN (fun n => A.getD n.toNat 0 * sn n * gram m n) 32
theorem frame_back {A : List Int} (hA : held A) (hw : held (waveZ A)) (m : Int) : ∃ R, -340000000000000000000 ≤ R ∧ R ≤ 340000000000000000000 ∧ 9223372036854775808 * backS (waveZ A) m = mainS A m * sn m + R := by
  obtain ⟨w, hwd⟩ : ∃ w : Int → Int, w = waveS A := ⟨_, rfl⟩
  have wat : ∀ k : Nat, k < 16 → (waveZ A).getD (k : Int).toNat 0 = w k := fun k hk => by
    rw [Int.toNat_natCast, hwd]; unfold waveZ; rw [getD_range hk]
  -- the waves, and what their rounding leaves
  obtain ⟨e, he⟩ : ∃ e : Int → Int, ∀ k, e k = 131072 * w k - sumN (wTerm A k) 32 := ⟨_, fun _ => rfl⟩
  have eb : ∀ k, -65536 ≤ e k ∧ e k ≤ 65536 := fun k => by
    have b := sum32_bound hA k
    rw [he, hwd]; unfold waveS; rw [shift17 b]
    omega
  obtain ⟨d, hd⟩ : ∃ d : Int → Int, ∀ n, d n = 32768 * wnd A n - A.getD n.toNat 0 * sn n := ⟨_, fun _ => rfl⟩
  have db : ∀ n, -16384 ≤ d n ∧ d n ≤ 16384 := fun n => by
    have h1 := held_at hA n.toNat
    have h2 := sn_bound n
    have h3 := prod_bound h1.1 h1.2 h2.1 h2.2
    rw [hd, wnd_def]
    show -16384 ≤ 32768 * shiftS (A.getD n.toNat 0 * sn n) 15 - _ ∧ 32768 * shiftS (A.getD n.toNat 0 * sn n) 15 - _ ≤ 16384
    rw [shift15 (by omega)]
    omega
  obtain ⟨P, hP⟩ : ∃ P, P = sumN (bTerm (waveZ A) m) 16 := ⟨_, rfl⟩
  obtain ⟨Q, hQ⟩ : ∃ Q, Q = sumN (fun k => sumN (wTerm A k) 32 * kAt m k) 16 := ⟨_, rfl⟩
  obtain ⟨E1, hE1⟩ : ∃ E, E = sumN (fun k => e k * kAt m k) 16 := ⟨_, rfl⟩
  obtain ⟨E2, hE2⟩ : ∃ E, E = sumN (fun n => d n * gram m n) 32 := ⟨_, rfl⟩
  have b1 : -34359738368 ≤ E1 ∧ E1 ≤ 34359738368 := by
    have := sumN_bound (f := fun k => e k * kAt m k) (b := 2147483648) (m := 16) (fun i _ _ => by
      have h1 := eb i
      have h2 := kAt_bound m i
      have := prod_bound h1.1 h1.2 h2.1 h2.2
      omega) 16 (by omega)
    omega
  have b2 : -9007199254740992 ≤ E2 ∧ E2 ≤ 9007199254740992 := by
    have := sumN_bound (f := fun n => d n * gram m n) (b := 281474976710656) (m := 32) (fun i _ _ => by
      have h1 := db i
      have h2 := gram_bound m i
      have := prod_bound h1.1 h1.2 h2.1 h2.2
      omega) 32 (by omega)
    omega
  have f3 : 131072 * P = Q + E1 := by
    rw [hP, hQ, hE1, ← sumN_times, ← sumN_plus]
    refine sumN_congr fun k hk => ?_
    unfold bTerm
    rw [wat k hk, ← Int.add_mul, ← Int.mul_assoc]
    congr 1
    have := he k
    omega
  have f4 : 32768 * Q = mainS A m + E2 := by
    unfold mainS
    rw [hQ, hE2, ← sumN_plus, ← sumN_times]
    have h1 : sumN (fun k => 32768 * (sumN (wTerm A k) 32 * kAt m k)) 16 = sumN (fun k => sumN (fun n => 32768 * wnd A n * (kAt m k * kAt n k)) 32) 16 := sumN_congr fun k _ => by
      rw [← sumN_times', ← sumN_times]
      refine sumN_congr fun n _ => ?_
      unfold wTerm
      ac_rfl
    rw [h1, sumN_swap]
    refine sumN_congr fun n _ => ?_
    rw [sumN_times, ← gram_def, ← Int.add_mul]
    congr 1
    have := hd n
    omega
  obtain ⟨t, ht⟩ : ∃ t, t = shiftS P 15 := ⟨_, rfl⟩
  obtain ⟨B, hB⟩ : ∃ B, B = backS (waveZ A) m := ⟨_, rfl⟩
  have pb := sum16_bound hw m
  rw [← hP] at pb
  have t1 := shift15 (x := P) (by omega)
  rw [← ht] at t1
  obtain ⟨e1, he1⟩ : ∃ x, x = 32768 * t - P := ⟨_, rfl⟩
  have e1b : -16384 ≤ e1 ∧ e1 ≤ 16384 := by omega
  have sb := sn_bound m
  have tb := prod_bound (a := t) (b := sn m) (m := 16777216) (n := 32768) (by omega) (by omega) sb.1 sb.2
  have hB' : B = shiftS (t * sn m) 16 := by rw [hB, ht, hP]; rfl
  rw [shift16 (by omega)] at hB'
  obtain ⟨e2, he2⟩ : ∃ x, x = 65536 * B - t * sn m := ⟨_, rfl⟩
  have e2b : -32768 ≤ e2 ∧ e2 ≤ 32768 := by omega
  have f2 : 32768 * (t * sn m) = P * sn m + e1 * sn m := by
    rw [← Int.mul_assoc, ← Int.add_mul]; congr 1; omega
  have f3' : 131072 * (P * sn m) = Q * sn m + E1 * sn m := by
    rw [← Int.mul_assoc, ← Int.add_mul, f3]
  have f4' : 32768 * (Q * sn m) = mainS A m * sn m + E2 * sn m := by
    rw [← Int.mul_assoc, ← Int.add_mul, f4]
  have g1 := prod_bound e1b.1 e1b.2 sb.1 sb.2
  have g2 := prod_bound b1.1 b1.2 sb.1 sb.2
  have g3 := prod_bound b2.1 b2.2 sb.1 sb.2
  rw [← hB]
  refine ⟨9223372036854775808 * B - mainS A m * sn m, ?_, ?_, by omega⟩
  · omega
  · omega

/-! ### the numbers -/
def rowsK : List (List Int) := [[22006, -26320, -16846, 29622, 11039, -31786, -4808, 32729, -1608, -32413, 7962, 30853, -14010, -28106, 19520, 24279],
  [19520, -30853, -1608, 31786, -16846, -22006, 29622, 4808, -32413, 14010, 24279, -28106, -7962, 32729, -11039, -26320],
  [16846, -32729, 14010, 19520, -32413, 11039, 22006, -31786, 7962, 24279, -30853, 4808, 26320, -29622, 1608, 28106],
  [14010, -31786, 26320, -1608, -24279, 32413, -16846, -11039, 30853, -28106, 4808, 22006, -32729, 19520, 7962, -29622],
  [11039, -28106, 32413, -22006, 1608, 19520, -31786, 29622, -14010, -7962, 26320, -32729, 24279, -4808, -16846, 30853],
  [7962, -22006, 30853, -32413, 26320, -14010, -1608, 16846, -28106, 32729, -29622, 19520, -4808, -11039, 24279, -31786],
  [4808, -14010, 22006, -28106, 31786, -32729, 30853, -26320, 19520, -11039, 1608, 7962, -16846, 24279, -29622, 32413],
  [1608, -4808, 7962, -11039, 14010, -16846, 19520, -22006, 24279, -26320, 28106, -29622, 30853, -31786, 32413, -32729],
  [-1608, 4808, -7962, 11039, -14010, 16846, -19520, 22006, -24279, 26320, -28106, 29622, -30853, 31786, -32413, 32729],
  [-4808, 14010, -22006, 28106, -31786, 32729, -30853, 26320, -19520, 11039, -1608, -7962, 16846, -24279, 29622, -32413],
  [-7962, 22006, -30853, 32413, -26320, 14010, 1608, -16846, 28106, -32729, 29622, -19520, 4808, 11039, -24279, 31786],
  [-11039, 28106, -32413, 22006, -1608, -19520, 31786, -29622, 14010, 7962, -26320, 32729, -24279, 4808, 16846, -30853],
  [-14010, 31786, -26320, 1608, 24279, -32413, 16846, 11039, -30853, 28106, -4808, -22006, 32729, -19520, -7962, 29622],
  [-16846, 32729, -14010, -19520, 32413, -11039, -22006, 31786, -7962, -24279, 30853, -4808, -26320, 29622, -1608, -28106],
  [-19520, 30853, 1608, -31786, 16846, 22006, -29622, -4808, 32413, -14010, -24279, 28106, 7962, -32729, 11039, 26320],
  [-22006, 26320, 16846, -29622, -11039, 31786, 4808, -32729, 1608, 32413, -7962, -30853, 14010, 28106, -19520, -24279],
  [-24279, 19520, 28106, -14010, -30853, 7962, 32413, -1608, -32729, -4808, 31786, 11039, -29622, -16846, 26320, 22006],
  [-26320, 11039, 32729, 7962, -28106, -24279, 14010, 32413, 4808, -29622, -22006, 16846, 31786, 1608, -30853, -19520],
  [-28106, 1608, 29622, 26320, -4808, -30853, -24279, 7962, 31786, 22006, -11039, -32413, -19520, 14010, 32729, 16846],
  [-29622, -7962, 19520, 32729, 22006, -4808, -28106, -30853, -11039, 16846, 32413, 24279, -1608, -26320, -31786, -14010],
  [-30853, -16846, 4808, 24279, 32729, 26320, 7962, -14010, -29622, -31786, -19520, 1608, 22006, 32413, 28106, 11039],
  [-31786, -24279, -11039, 4808, 19520, 29622, 32729, 28106, 16846, 1608, -14010, -26320, -32413, -30853, -22006, -7962],
  [-32413, -29622, -24279, -16846, -7962, 1608, 11039, 19520, 26320, 30853, 32729, 31786, 28106, 22006, 14010, 4808],
  [-32729, -32413, -31786, -30853, -29622, -28106, -26320, -24279, -22006, -19520, -16846, -14010, -11039, -7962, -4808, -1608],
  [-32729, -32413, -31786, -30853, -29622, -28106, -26320, -24279, -22006, -19520, -16846, -14010, -11039, -7962, -4808, -1608],
  [-32413, -29622, -24279, -16846, -7962, 1608, 11039, 19520, 26320, 30853, 32729, 31786, 28106, 22006, 14010, 4808],
  [-31786, -24279, -11039, 4808, 19520, 29622, 32729, 28106, 16846, 1608, -14010, -26320, -32413, -30853, -22006, -7962],
  [-30853, -16846, 4808, 24279, 32729, 26320, 7962, -14010, -29622, -31786, -19520, 1608, 22006, 32413, 28106, 11039],
  [-29622, -7962, 19520, 32729, 22006, -4808, -28106, -30853, -11039, 16846, 32413, 24279, -1608, -26320, -31786, -14010],
  [-28106, 1608, 29622, 26320, -4808, -30853, -24279, 7962, 31786, 22006, -11039, -32413, -19520, 14010, 32729, 16846],
  [-26320, 11039, 32729, 7962, -28106, -24279, 14010, 32413, 4808, -29622, -22006, 16846, 31786, 1608, -30853, -19520],
  [-24279, 19520, 28106, -14010, -30853, 7962, 32413, -1608, -32729, -4808, 31786, 11039, -29622, -16846, 26320, 22006]]
def rowS : List Int := [1608, 4808, 7962, 11039, 14010, 16846, 19520, 22006, 24279, 26320, 28106, 29622, 30853, 31786, 32413, 32729, 32729, 32413, 31786, 30853, 29622, 28106, 26320, 24279, 22006, 19520, 16846, 14010, 11039, 7962, 4808, 1608]
def rk (m k : Nat) : Int := (rowsK.getD m []).getD k 0
def sr (m : Nat) : Int := rowS.getD m 0
theorem rk_all : ((List.range 32).all fun m => (List.range 16).all fun k => decide (cosRound (((2 * (m : Int) + 17) * (2 * (k : Int) + 1)) % 128) = rk m k)) = true := by decide +kernel
theorem sr_all : ((List.range 32).all fun m => decide (cosRound ((2 * (m : Int) + 1 - 32) % 128) = sr m)) = true := by decide +kernel
theorem kAt_rk {m k : Nat} (hm : m < 32) (hk : k < 16) : kAt m k = rk m k := by
  have h1 := List.all_eq_true.1 rk_all m (List.mem_range.2 hm)
  have h2 := List.all_eq_true.1 h1 k (List.mem_range.2 hk)
  rw [kAt_def, cosS_def]
  exact of_decide_eq_true h2
theorem sn_sr {m : Nat} (hm : m < 32) : sn m = sr m := by
  have h1 := List.all_eq_true.1 sr_all m (List.mem_range.2 hm)
  unfold sn
  rw [sinS_def, cosS_def]
  exact of_decide_eq_true h1
def gR (m n : Nat) : Int := ((List.range 16).map fun k => rk m k * rk n k).sum
theorem gram_gR {m n : Nat} (hm : m < 32) (hn : n < 32) : gram m n = gR m n := by
  rw [gram_def, sumN_list]
  unfold gR
  congr 1
  refine List.map_congr_left fun k hk => ?_
  have hk' := List.mem_range.1 hk
  rw [kAt_rk hm hk', kAt_rk hn hk']
noncomputable def cf (m n : Int) : Int := sn m * sn n * gram m n
def cR (m n : Nat) : Int := sr m * sr n * gR m n
theorem cf_cR {m n : Nat} (hm : m < 32) (hn : n < 32) : cf m n = cR m n := by
  unfold cf cR
  rw [sn_sr hm, sn_sr hn, gram_gR hm hn]
def ab (x : Int) : Int := max x (-x)
def devR (i n : Nat) : Int := ab (cR (16 + i) n) + ab (cR (16 + i) (16 + n) + cR i n - (if n = i then 9223372036854775808 else 0)) + ab (cR i (16 + n))
theorem dev_all : ((List.range 16).all fun i => decide (((List.range 16).map fun n => devR i n).sum ≤ 144115188075855872)) = true := by decide +kernel
theorem dev_le {i : Nat} (hi : i < 16) : ((List.range 16).map fun n => devR i n).sum ≤ 144115188075855872 := of_decide_eq_true (List.all_eq_true.1 dev_all i (List.mem_range.2 hi))
theorem ab_mul {a c M : Int} (h : -M ≤ a ∧ a ≤ M) : -(M * ab c) ≤ a * c ∧ a * c ≤ M * ab c := prod_bound h.1 h.2 (by unfold ab; omega) (by unfold ab; omega)
end Go.Proofs.Ytbgjmlncdlcglaa
