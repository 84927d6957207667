/- Chapter lost: what is heard dies away; the pure matter. -/
import Derived.Test.YtbgjmlncdlcglaaBng
set_option linter.all false
namespace Go.Proofs.Ytbgjmlncdlcglaa
open Go.RowKit (Below)
set_option maxRecDepth 100000
set_option maxHeartbeats 32000000

theorem iterS_plus (s : St) (i : Nat) : ∀ j, iterS s (i + j) = iterS (iterS s i) j
  | 0 => rfl
  | j + 1 => by
    show loseSt (iterS s (i + j)) = loseSt (iterS (iterS s i) j)
    rw [iterS_plus s i j]
theorem outsL_plus (s : St) (i : Nat) : ∀ j, outsL s (i + j) = outsL s i ++ outsL (iterS s i) j
  | 0 => (List.append_nil _).symm
  | j + 1 => by
    show outsL s (i + j) ++ loseOut (iterS s (i + j)) = outsL s i ++ (outsL (iterS s i) j ++ loseOut (iterS (iterS s i) j))
    rw [outsL_plus s i j, iterS_plus s i j, List.append_assoc]
theorem row_in (s : St) {n k m : Nat} {rest : List Int} (hk : k < n) (hm : m = k * 16) : ((outsL s n ++ rest).drop m).take 16 = loseOut (iterS s k) := by
  subst hm
  obtain ⟨t, rfl⟩ : ∃ t, n = k + (1 + t) := ⟨n - k - 1, by omega⟩
  have e1 : outsL (iterS s k) (1 + t) = loseOut (iterS s k) ++ outsL (iterS (iterS s k) 1) t := by
    rw [outsL_plus]; rfl
  rw [outsL_plus, e1, List.append_assoc, List.drop_append, List.drop_of_length_le (by rw [outsL_len]; omega), outsL_len, Nat.sub_self, List.drop_zero, List.nil_append, List.append_assoc, List.take_append_of_le_length (by rw [loseOut_len]; omega), List.take_of_length_le (by rw [loseOut_len]; omega)]
noncomputable abbrev ranD (s : St) (k : Int) (c : Nat) (rest : List Int) : Blk := .own 38 [.ints .i64 (c * 16) (outsL s k.toNat ++ rest)]
theorem iter_q {s : St} (h : rightP s) : ∀ n : Nat, (iterS s n).q = min (s.q + n) 255
  | 0 => by
    have hr := h
    rw [rightP_def] at hr
    show s.q = min (s.q + ((0 : Nat) : Int)) 255
    omega
  | n + 1 => by
    have ih := iter_q h n
    show (loseSt (iterS s n)).q = _
    rw [loseSt_eq (iter_right h n)]
    show min ((iterS s n).q + 1) 255 = min (s.q + ((n + 1 : Nat) : Int)) 255
    omega
theorem iter_half {s : St} (h : rightP s) {n : Nat} (hn : 8 ≤ n) : halfZ (iterS s n) = z16 := by
  have hr := h
  rw [rightP_def] at hr
  have := iter_q h n
  exact if_neg (by omega)
theorem iter_w {s : St} (h : rightP s) {n : Nat} (hn : 9 ≤ n) : (iterS s n).w = z16 := by
  obtain ⟨m, rfl⟩ : ∃ m, n = m + 1 := ⟨n - 1, by omega⟩
  show (loseSt (iterS s m)).w = _
  rw [loseSt_eq (iter_right h m)]
  exact iter_half h (by omega)
theorem iter_m {s : St} (h : rightP s) {n : Nat} (hn : 9 ≤ n) : (iterS s n).m = z16 := by
  obtain ⟨m, rfl⟩ : ∃ m, n = m + 1 := ⟨n - 1, by omega⟩
  show (loseSt (iterS s m)).m = _
  rw [loseSt_eq (iter_right h m)]
  show memZ (halfZ (iterS s m)) = z16
  rw [iter_half h (by omega), memZ_none]
theorem iter_v {s : St} (h : rightP s) : ∀ (n : Nat) (b : Nat), (iterS s n).v.getD b 0 = max (s.v.getD b 0 - n) 0
  | 0, b => by
    show s.v.getD b 0 = max (s.v.getD b 0 - ((0 : Nat) : Int)) 0
    rw [rightP_def] at h
    rcases Nat.lt_or_ge b s.v.length with hb | hb
    · have := h.2.1 _ (mem_at hb)
      omega
    · rw [getD_out' hb]; rfl
  | n + 1, b => by
    show (loseSt (iterS s n)).v.getD b 0 = _
    rw [loseSt_eq (iter_right h n)]
    show (lessZ (iterS s n)).getD b 0 = _
    unfold lessZ
    rw [getD_map0 (f := fun x => max (x - 1) 0) rfl, iter_v h n b]
    show max (max (s.v.getD b 0 - (n : Int)) 0 - 1) 0 = max (s.v.getD b 0 - ((n + 1 : Nat) : Int)) 0
    omega
theorem list_zero4 {xs : List Int} (h : xs.length = 4) (hz : ∀ i, xs.getD i 0 = 0) : xs = z4 := by
  match xs, h with
  | [a, b, c, d], _ =>
    have h0 := hz 0
    have h1 := hz 1
    have h2 := hz 2
    have h3 := hz 3
    simp at h0 h1 h2 h3
    subst h0 h1 h2 h3
    rfl
def decB : Nat → Int
  | 0 => 2097152
  | n + 1 => 27853 * decB n / 32768
theorem decB_nonneg : ∀ n, 0 ≤ decB n
  | 0 => by decide
  | n + 1 => by
    have := decB_nonneg n
    show 0 ≤ 27853 * decB n / 32768
    omega
theorem decB_zero : decB 160 = 0 := by decide +kernel
theorem decB_after : ∀ n, decB (160 + n) = 0
  | 0 => decB_zero
  | n + 1 => by
    show 27853 * decB (160 + n) / 32768 = 0
    rw [decB_after n]; rfl
theorem lay1_dec {l b : Int} (hb : 0 ≤ b) (h : -b ≤ l ∧ l ≤ b) : -(27853 * b / 32768) ≤ lay1 l 0 ∧ lay1 l 0 ≤ 27853 * b / 32768 := by
  unfold lay1
  rw [c22_none, Int.zero_add, cut22]
  rcases Int.lt_or_le l 0 with h0 | h0
  · rw [tdiv_neg (by omega)]; omega
  · rw [tdiv_pos (by omega)]; omega
theorem layP_dec {l : Int} {n : Nat} (h : -(decB n) ≤ l ∧ l ≤ decB n) : ∀ j, -(decB (n + j)) ≤ layP l z16 j ∧ layP l z16 j ≤ decB (n + j)
  | 0 => h
  | j + 1 => by
    have ih := layP_dec h j
    show -(decB (n + j + 1)) ≤ lay1 (layP l z16 j) (z16.getD j 0) ∧ lay1 (layP l z16 j) (z16.getD j 0) ≤ decB (n + j + 1)
    rw [z16_at]
    exact lay1_dec (decB_nonneg _) ih
theorem iter_l {s : St} (h : rightP s) : ∀ n : Nat, -(decB (16 * n)) ≤ (iterS s (9 + n)).l ∧ (iterS s (9 + n)).l ≤ decB (16 * n)
  | 0 => by
    have := iter_right h 9
    rw [rightP_def] at this
    show -2097152 ≤ (iterS s 9).l ∧ (iterS s 9).l ≤ 2097152
    omega
  | n + 1 => by
    have ih := iter_l h n
    have hr := iter_right h (9 + n)
    have hrr := hr
    rw [rightP_def] at hrr
    show -(decB (16 * (n + 1))) ≤ (loseSt (iterS s (9 + n))).l ∧ (loseSt (iterS s (9 + n))).l ≤ decB (16 * (n + 1))
    rw [loseSt_eq hr]
    show -(decB (16 * (n + 1))) ≤ laidP (iterS s (9 + n)) (halfZ (iterS s (9 + n))) ∧ laidP (iterS s (9 + n)) (halfZ (iterS s (9 + n))) ≤ decB (16 * (n + 1))
    rw [iter_half h (by omega)]
    unfold laidP
    rw [iter_m h (by omega), back1_none, overZ_zero]
    have ec : c22 (iterS s (9 + n)).l = (iterS s (9 + n)).l := by rw [cut22]; omega
    rw [ec]
    exact layP_dec ih 16
theorem dies_out {x : St} (h : rightP x) : loseOut (iterS x 199) = z16 := by
  have hr := iter_right h 199
  have hl := iter_l h 190
  rw [show 16 * 190 = 160 + 2880 by rfl, decB_after] at hl
  have hl0 : (iterS x 199).l = 0 := by
    have e : 9 + 190 = 199 := rfl
    rw [e] at hl; omega
  rw [loseOut_eq hr, iter_half h (by decide), (laid_none _ (iter_m h (by decide)) hl0).1]
  exact z16_map c16_none
theorem dies_v {x : St} (hx : StOk x) (h : rightP x) : (iterS x 200).v = z4 := by
  refine list_zero4 (iterS_ok hx 200).v.1 fun b => ?_
  rw [iter_v h 200 b]
  have hr := h
  rw [rightP_def] at hr
  rcases Nat.lt_or_ge b x.v.length with hb | hb
  · have := hr.2.1 _ (mem_at hb)
    omega
  · rw [getD_out' hb]; rfl
end Go.Proofs.Ytbgjmlncdlcglaa
