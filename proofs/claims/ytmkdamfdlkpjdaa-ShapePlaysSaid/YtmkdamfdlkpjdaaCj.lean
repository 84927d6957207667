/- Chapter shape: the document's answer, walked. -/
import Derived.Test.YtmkdamfdlkpjdaaCi
set_option linter.all false
namespace Go.Proofs.Ytmkdamfdlkpjdaa
open Go.RowKit (Below)
set_option maxRecDepth 100000
set_option maxHeartbeats 32000000

theorem refSize_ct : CtOk Try.prog 40 (ct1 (fun x => -1099511627776 ≤ x ∧ x ≤ 1099511627776) absI) := ct1_ok F0_ok (n := 0) Try.func40 (fun a _ h => by simp only [InK, lowK, highK, absI]; omega) fun a _ h => by
  rcases Int.lt_or_le a 0 with hn | hn
  · have e : absI a = 0 - a := by unfold absI; omega
    rw [e]
    repeat' ((conv => whnf); first | (refine ask_true (by omega) ?_) | (refine ask_false (by omega) ?_) | (refine ask_wrap64 (by omega) (by omega) ?_) | rfl | fail)
  · have e : absI a = a := by unfold absI; omega
    rw [e]
    repeat' ((conv => whnf); first | (refine ask_true (by omega) ?_) | (refine ask_false (by omega) ?_) | rfl | fail)

/-! ### Both -/
def bothA (xs ys : List Int) : Nat → Int
  | 0 => 0
  | i + 1 => bothA xs ys i + absI (xs.getD i 0) * absI (ys.getD i 0)
noncomputable def FBo : Fns := F0.plus 40 (ct1 (fun x => -1099511627776 ≤ x ∧ x ≤ 1099511627776) absI)
theorem FBo_ok : FnsOk Try.prog FBo := F0_ok.plus refSize_ct Try.func40 (by kernel_rfl) (by kernel_rfl)
structure BothC (xs ys : List Int) (l m : Nat) : Prop where
  l8 : l ≤ 8
  lm : l ≤ m
  x : ∀ i, i < l → -1048576 ≤ xs.getD i 0 ∧ xs.getD i 0 ≤ 1048576
  y : ∀ i, i < l → -16 ≤ ys.getD i 0 ∧ ys.getD i 0 ≤ 16
theorem both_walk (xs ys : List Int) (l m : Nat) (hl : l ≤ xs.length) (hc : xs.length ≤ 9223372036854775807) (hm : m ≤ ys.length) (hc' : ys.length ≤ 9223372036854775807) (h : BothC xs ys l m) :
    walk FBo 0 Try.f35 [.c (.csl 0 0 0 l xs.length), .c (.csl 1 0 0 m ys.length)] [.ro [.ints .i64 xs.length xs], .ro [.ints .i64 ys.length ys]] (Made (twoP (bothA xs ys l) (sqA ys l))) := by
  obtain ⟨l8, lm, hx, hy⟩ := h
  repeat' ((conv => whnf); first | (refine ask_true (by omega) ?_) | fail)
  conv => whnf
  refine loop_at (6 :: 7 :: 8 :: List.range' 9 30) (fun k (i : Int) => 0 ≤ i ∧ i ≤ l ∧ k = (l - i).toNat ∧ (0 ≤ bothA xs ys i.toNat ∧ bothA xs ys i.toNat ≤ 16777216 * i) ∧ 0 ≤ sqA ys i.toNat ∧ sqA ys i.toNat ≤ 256 * i) (fun i => [(6, vi (bothA xs ys i.toNat)), (7, vi (sqA ys i.toNat)), (8, vi i)]) (fun _ => [.ro [.ints .i64 xs.length xs], .ro [.ints .i64 ys.length ys]]) l 0 ⟨by decide, by omega, by omega, by show (0 : Int) ≤ 0 ∧ (0 : Int) ≤ 16777216 * 0; decide, by show (0 : Int) ≤ 0 ∧ (0 : Int) ≤ 256 * 0; decide⟩ ?_ ?_
  · exact ⟨rfl, ⟨⟨Nat.le_of_ble_eq_true rfl, rfl⟩, ⟨Nat.le_of_ble_eq_true rfl, rfl⟩, ⟨Nat.le_of_ble_eq_true rfl, rfl⟩, trivial⟩, ⟨rfl, rfl, trivial⟩, rfl, rfl, Nat.le_of_ble_eq_true rfl⟩
  · rintro k i ⟨p0, p1, rfl, p3, p4⟩
    have em : ∀ i : Int, mulN i.toNat (Try.prog.types[3]).size = i.toNat := fun i => mulN1 _
    have ei := em i
    rcases Int.lt_or_le i l with p2 | p2
    · have xat : xs.getD (0 + mulN i.toNat (Try.prog.types[3]).size) 0 = xs.getD i.toNat 0 := by rw [em, Nat.zero_add]
      have yat : ys.getD (0 + mulN i.toNat (Try.prog.types[3]).size) 0 = ys.getD i.toNat 0 := by rw [em, Nat.zero_add]
      have xb := hx i.toNat (by omega)
      rw [← xat] at xb
      have yb := hy i.toNat (by omega)
      rw [← yat] at yb
      have xa : 0 ≤ absI (xs.getD (0 + mulN i.toNat (Try.prog.types[3]).size) 0) ∧ absI (xs.getD (0 + mulN i.toNat (Try.prog.types[3]).size) 0) ≤ 1048576 := by unfold absI; omega
      have ya : 0 ≤ absI (ys.getD (0 + mulN i.toNat (Try.prog.types[3]).size) 0) ∧ absI (ys.getD (0 + mulN i.toNat (Try.prog.types[3]).size) 0) ≤ 16 := by unfold absI; omega
      have pb := mul_bound xa.1 xa.2 ya.1 ya.2
      have qb := prod_bound yb.1 yb.2 yb.1 yb.2
      have q0 := sq_nn (ys.getD (0 + mulN i.toNat (Try.prog.types[3]).size) 0)
      have hs : bothA xs ys (i + 1).toNat = bothA xs ys i.toNat + absI (xs.getD (0 + mulN i.toNat (Try.prog.types[3]).size) 0) * absI (ys.getD (0 + mulN i.toNat (Try.prog.types[3]).size) 0) := by rw [show (i + 1).toNat = i.toNat + 1 by omega, xat, yat]; rfl
      have ht : sqA ys (i + 1).toNat = sqA ys i.toNat + ys.getD (0 + mulN i.toNat (Try.prog.types[3]).size) 0 * ys.getD (0 + mulN i.toNat (Try.prog.types[3]).size) 0 := by rw [show (i + 1).toNat = i.toNat + 1 by omega, yat]; rfl
      repeat' ((conv => whnf); first | (refine ask_true (by omega) ?_) | (refine And.intro (by omega) ?_) | (refine fun (_ : InK _ _) => ?_) | (refine ask_wrap64 (by omega) (by omega) ?_) | (refine ⟨by kernel_rfl, ?_⟩) | fail)
      conv => whnf
      exact ⟨(l - (i + 1)).toNat, i + 1, by omega, ⟨by omega, by omega, rfl, by rw [hs]; omega, by rw [ht]; omega⟩, rfl, ⟨⟨Nat.le_of_ble_eq_true rfl, congrArg vi hs.symm⟩, ⟨Nat.le_of_ble_eq_true rfl, congrArg vi ht.symm⟩, ⟨Nat.le_of_ble_eq_true rfl, rfl⟩, trivial⟩, ⟨rfl, rfl, trivial⟩, rfl, rfl, Nat.le_of_ble_eq_true rfl⟩
    · repeat' ((conv => whnf); first | (refine ask_true (by omega) ?_) | (refine ask_false (by omega) ?_) | fail)
      conv => whnf
      have e : i.toNat = l := by omega
      rw [e]
      exact made_of (.tup [i64 (bothA xs ys l), i64 (sqA ys l)]) [] id ⟨rfl, rfl⟩ rfl trivial (fun p q hp _ _ => absurd hp (Nat.not_lt_zero p)) rfl rfl (by intro e; cases e)
def hBoth : HCt := fun ws H K => match ws with
  | [.c x, .c y] => slK H x fun _ l xs => slK H y fun _ m ys => BothC xs ys l m ∧ K (.tup [i64 (bothA xs ys l), i64 (sqA ys l)]) H
  | _ => False
theorem both_ct : HCtOk Try.prog 35 hBoth := by
  intro ws H K h hr hb ho G σ base w₀ w hw
  unfold hBoth at h
  split at h
  · rename_i x y
    obtain ⟨j, l, xs, h1, hx, g1, g2, g3, g4⟩ := slK_spec h ho hr.1
    clear h
    obtain ⟨k, m, ys, ⟨hB, h'⟩, hy, f1, f2, f3, f4⟩ := slK_spec h1 ho hr.2.1
    clear h1
    subst hx
    subst hy
    exact walk_lift FBo_ok Try.func35 (n := 0) (ws := [.c (.csl 0 0 0 l xs.length), .c (.csl 1 0 0 m ys.length)]) (R := [.ro [.ints .i64 xs.length xs], .ro [.ints .i64 ys.length ys]]) (ro_ok2 g3 f3) ⟨⟨g1, g2⟩, ⟨f1, f2⟩, trivial⟩ rfl (both_walk xs ys l m g1 g2 f1 f2 hB) two_mine (rho2 j k) (ro_at2 g4 f4) rfl (two_K h') ho G σ base w₀ w hw
  · exact h.elim

/-! ### the document's Find -/
theorem both_set {xs y : List Int} {b : Nat} (hb : b < y.length) (h0 : 0 ≤ y.getD b 0) : ∀ i, bothA xs (y.set b (y.getD b 0 + 1)) i = bothA xs y i + if b < i then absI (xs.getD b 0) else 0
  | 0 => by rw [if_neg (Nat.not_lt_zero b)]; rfl
  | i + 1 => by
    show bothA xs (y.set b (y.getD b 0 + 1)) i + absI (xs.getD i 0) * absI ((y.set b (y.getD b 0 + 1)).getD i 0) = bothA xs y i + absI (xs.getD i 0) * absI (y.getD i 0) + _
    rw [both_set hb h0 i, set_getD' hb]
    by_cases h : i = b
    · subst h
      rw [if_pos rfl, if_neg (Nat.lt_irrefl i), if_pos (Nat.lt_succ_self i), show absI (y.getD i 0 + 1) = absI (y.getD i 0) + 1 by unfold absI; omega, Int.mul_add, Int.mul_one]; omega
    · rw [if_neg h]
      by_cases h2 : b < i
      · rw [if_pos h2, if_pos (by omega)]; omega
      · rw [if_neg h2, if_neg (by omega)]; omega
theorem sq_set {y : List Int} {b : Nat} (hb : b < y.length) : ∀ i, sqA (y.set b (y.getD b 0 + 1)) i = sqA y i + if b < i then 2 * y.getD b 0 + 1 else 0
  | 0 => by rw [if_neg (Nat.not_lt_zero b)]; rfl
  | i + 1 => by
    show sqA (y.set b (y.getD b 0 + 1)) i + (y.set b (y.getD b 0 + 1)).getD i 0 * (y.set b (y.getD b 0 + 1)).getD i 0 = sqA y i + y.getD i 0 * y.getD i 0 + _
    rw [sq_set hb i, set_getD' hb]
    by_cases h : i = b
    · subst h
      rw [if_pos rfl, if_neg (Nat.lt_irrefl i), if_pos (Nat.lt_succ_self i), Int.add_mul, Int.mul_add, Int.mul_one, Int.one_mul]; omega
    · rw [if_neg h]
      by_cases h2 : b < i
      · rw [if_pos h2, if_pos (by omega)]; omega
      · rw [if_neg h2, if_neg (by omega)]; omega
theorem both_zero (xs : List Int) (n : Nat) : ∀ i, bothA xs (List.replicate n 0) i = 0
  | 0 => rfl
  | i + 1 => by
    show bothA xs (List.replicate n 0) i + absI (xs.getD i 0) * absI ((List.replicate n (0 : Int)).getD i 0) = 0
    rw [both_zero xs n i, rep_getD, show absI 0 = 0 from rfl, Int.mul_zero]; rfl
theorem sq_zero (n : Nat) : ∀ i, sqA (List.replicate n 0) i = 0
  | 0 => rfl
  | i + 1 => by
    show sqA (List.replicate n 0) i + (List.replicate n (0 : Int)).getD i 0 * (List.replicate n (0 : Int)).getD i 0 = 0
    rw [sq_zero n i, rep_getD]; rfl
theorem run_both {c : List Int} {n : Nat} (hn : 0 < n) (hc : ∀ i, -1048576 ≤ c.getD i 0 ∧ c.getD i 0 ≤ 1048576) : ∀ k : Nat, k ≤ 8 → bothA c (fdRun c n k).y n = (fdRun c n k).a ∧ sqA (fdRun c n k).y n = (fdRun c n k).q
  | 0, _ => ⟨both_zero c n n, sq_zero n n⟩
  | k + 1, hk => by
    obtain ⟨h1, h2⟩ := run_both hn hc k (by omega)
    have ok := fdRun_ok hn hc k (by omega)
    have hb := bestF_lt c (fdRun c n k) n hn
    show bothA c ((fdRun c n k).y.set (bestF c (fdRun c n k) n) ((fdRun c n k).y.getD (bestF c (fdRun c n k) n) 0 + 1)) n = (fdRun c n k).a + absI (c.getD (bestF c (fdRun c n k) n) 0) ∧ sqA ((fdRun c n k).y.set (bestF c (fdRun c n k) n) ((fdRun c n k).y.getD (bestF c (fdRun c n k) n) 0 + 1)) n = botF (fdRun c n k) (bestF c (fdRun c n k) n)
    rw [both_set (by rw [ok.len]; exact hb) (ok.y _).1, sq_set (by rw [ok.len]; exact hb), h1, h2, if_pos hb, if_pos hb]
    exact ⟨rfl, by unfold botF; omega⟩
theorem both_ext {xs xs' ys : List Int} {n : Nat} (h : ∀ i, i < n → xs.getD i 0 = xs'.getD i 0) : ∀ i, i ≤ n → bothA xs ys i = bothA xs' ys i
  | 0, _ => rfl
  | i + 1, hi => by
    show bothA xs ys i + absI (xs.getD i 0) * _ = bothA xs' ys i + absI (xs'.getD i 0) * _
    rw [both_ext h i (by omega), h i (by omega)]
end Go.Proofs.Ytmkdamfdlkpjdaa
