/- Chapter shape: contracts of vect.Pulses and shape.Gain. -/
import Derived.Test.YtmkdamfdlkpjdaaCg
set_option linter.all false
namespace Go.Proofs.Ytmkdamfdlkpjdaa
open Go.RowKit (Below)
set_option maxRecDepth 100000
set_option maxHeartbeats 32000000

@[irreducible] def szV (x : Int) : Int := if x < -8 ∨ 8 < x then 9 else absI x
theorem szV_def (x : Int) : szV x = if x < -8 ∨ 8 < x then 9 else absI x := by unfold szV; rfl
theorem szV_in (x : Int) : 0 ≤ szV x ∧ szV x ≤ 9 := by rw [szV_def]; unfold absI; split <;> omega
theorem szV_abs {x : Int} (h : -8 ≤ x ∧ x ≤ 8) : szV x = absI x := by rw [szV_def, if_neg (by omega)]
theorem vsize_walk (x : Int) (hx : InK .i64 x) : walk F0 0 Try.f38 [i64 x] [] fun y _ => y = vi (szV x) := by
  conv => whnf
  refine ask_split (fun h1 => ?_) (fun h1 => ?_)
  · rw [show szV x = 9 by rw [szV_def, if_pos (.inl h1)]]
    repeat' ((conv => whnf); first | rfl | fail)
  · conv => whnf
    refine ask_split (fun h2 => ?_) (fun h2 => ?_)
    · rw [show szV x = 9 by rw [szV_def, if_pos (.inr h2)]]
      repeat' ((conv => whnf); first | rfl | fail)
    · rw [szV_abs (by omega)]
      repeat' ((conv => whnf); first | (refine ask_wrap64 (by omega) (by omega) ?_) | rfl | fail)
theorem vsize_ct : CtOk Try.prog 38 (ct1 (fun _ => True) szV) := ct1_ok F0_ok Try.func38 (fun a _ _ => by have := szV_in a; simp only [InK, lowK, highK]; omega) fun a h _ => vsize_walk a h
def sumA (xs : List Int) : Nat → Int
  | 0 => 0
  | i + 1 => sumA xs i + szV (xs.getD i 0)
theorem sumA_in (xs : List Int) : ∀ i : Nat, 0 ≤ sumA xs i ∧ sumA xs i ≤ 9 * i
  | 0 => ⟨Int.le_refl 0, Int.le_refl 0⟩
  | i + 1 => by
    have := sumA_in xs i
    have := szV_in (xs.getD i 0)
    show 0 ≤ sumA xs i + szV (xs.getD i 0) ∧ sumA xs i + szV (xs.getD i 0) ≤ 9 * ((i + 1 : Nat) : Int)
    omega
noncomputable def FP : Fns := F0.plus 38 (ct1 (fun _ => True) szV)
theorem FP_ok : FnsOk Try.prog FP := F0_ok.plus vsize_ct Try.func38 (by kernel_rfl) (by kernel_rfl)
/-- A vector's pulses. -/
@[irreducible] def pulA (xs : List Int) (l : Nat) : Int := if l ≤ 8 then min (sumA xs l) 9 else 9
theorem pulA_def (xs : List Int) (l : Nat) : pulA xs l = if l ≤ 8 then min (sumA xs l) 9 else 9 := by unfold pulA; rfl
theorem pulses_walk (xs : List Int) (l : Nat) (hl : l ≤ xs.length) (hc : xs.length ≤ 9223372036854775807) :
    walk FP 0 Try.f19 [.c (.csl 0 0 0 l xs.length)] [.ro [.ints .i64 xs.length xs]] (Made fun x N => x = vi (pulA xs l) ∧ N = []) := by
  by_cases h8 : l ≤ 8
  · rw [show pulA xs l = min (sumA xs l) 9 by rw [pulA_def, if_pos h8]]
    repeat' ((conv => whnf); first | (refine ask_false (by omega) ?_) | fail)
    conv => whnf
    refine loop_at (3 :: 4 :: 5 :: List.range' 11 9) (fun m (i : Int) => 0 ≤ i ∧ i ≤ l ∧ m = (l - i).toNat) (fun i => [(3, vi (sumA xs i.toNat)), (11, vi i)]) (fun _ => [.ro [.ints .i64 xs.length xs]]) l 0 ⟨by decide, by omega, by omega⟩ ?_ ?_
    · exact ⟨rfl, ⟨⟨Nat.le_of_ble_eq_true rfl, rfl⟩, ⟨Nat.le_of_ble_eq_true rfl, rfl⟩, trivial⟩, ⟨rfl, trivial⟩, rfl, rfl, Nat.le_of_ble_eq_true rfl⟩
    · rintro m i ⟨i0, i1, rfl⟩
      have em : mulN i.toNat (Try.prog.types[3]).size = i.toNat := mulN1 _
      have si := sumA_in xs i.toNat
      rcases Int.lt_or_le i l with i2 | i2
      · have ex : xs.getD (0 + mulN i.toNat (Try.prog.types[3]).size) 0 = xs.getD i.toNat 0 := by rw [em, Nat.zero_add]
        have hs : sumA xs (i + 1).toNat = sumA xs i.toNat + szV (xs.getD i.toNat 0) := by rw [show (i + 1).toNat = i.toNat + 1 by omega]; rfl
        have ha := szV_in (xs.getD i.toNat 0)
        rw [← ex] at hs ha
        repeat' ((conv => whnf); first | (refine ask_true (by omega) ?_) | (refine And.intro (by omega) ?_) | (refine And.intro trivial ?_) | (refine fun (_ : InK _ _) => ?_) | (refine ask_wrap64 (by omega) (by omega) ?_) | fail)
        conv => whnf
        exact ⟨(l - (i + 1)).toNat, i + 1, by omega, ⟨by omega, by omega, rfl⟩, rfl, ⟨⟨Nat.le_of_ble_eq_true rfl, congrArg vi hs.symm⟩, ⟨Nat.le_of_ble_eq_true rfl, rfl⟩, trivial⟩, ⟨rfl, trivial⟩, rfl, rfl, Nat.le_of_ble_eq_true rfl⟩
      · repeat' ((conv => whnf); first | (refine ask_true (by omega) ?_) | (refine ask_false (by omega) ?_) | fail)
        conv => whnf
        have e : i.toNat = l := by omega
        show Made (fun x N => x = vi (min (sumA xs l) 9) ∧ N = []) (vi (min (sumA xs i.toNat) 9)) _
        rw [e]
        exact made_of (vi (min (sumA xs l) 9)) [] id ⟨rfl, rfl⟩ rfl trivial (fun p q hp _ _ => absurd hp (Nat.not_lt_zero p)) rfl rfl (by intro e; cases e)
  · rw [show pulA xs l = 9 by rw [pulA_def, if_neg h8]]
    repeat' ((conv => whnf); first | (refine ask_true (by omega) ?_) | fail)
    conv => whnf
    exact made_of (vi 9) [] id ⟨rfl, rfl⟩ rfl trivial (fun p q hp _ _ => absurd hp (Nat.not_lt_zero p)) rfl rfl (by intro e; cases e)
def hPulses : HCt := fun ws H K => match ws with
  | [.c x] => slK H x fun _ l xs => K (vi (pulA xs l)) H
  | _ => False
theorem val_mine {x0 : V} : ∀ (x : V) (N : List Blk), (x = x0 ∧ N = []) → ∀ b ∈ N, b.mine = true ∨ b = .gone := by
  rintro x N ⟨_, rfl⟩ b hb; cases hb
theorem vi_K {H : List Blk} {K : V → List Blk → Prop} {a : Int} (h : K (vi a) H) : ∀ (x : V) (N : List Blk), (x = vi a ∧ N = []) → K (x.ren (sh H.length)) (H ++ N.map (Blk.ren (sh H.length))) := by
  rintro x N ⟨rfl, rfl⟩
  simpa [V.ren, renW, W.ren, C.ren] using h
theorem pulses_ct : HCtOk Try.prog 19 hPulses := by
  intro ws H K h hr hb ho G σ base w₀ w hw
  unfold hPulses at h
  split at h
  · rename_i x
    obtain ⟨j, l, xs, h', hx, g1, g2, g3, g4⟩ := slK_spec h ho hr.1
    clear h
    subst hx
    exact walk_lift FP_ok Try.func19 (n := 0) (ws := [.c (.csl 0 0 0 l xs.length)]) (R := [.ro [.ints .i64 xs.length xs]]) (ro_ok g3) ⟨⟨g1, g2⟩, trivial⟩ rfl (pulses_walk xs l g1 g2) val_mine (fun _ => j) (ro_at g4) rfl (vi_K h') ho G σ base w₀ w hw
  · exact h.elim

/-! ### Gain -/
theorem sq_nn (x : Int) : 0 ≤ x * x := by
  rcases Int.le_total 0 x with h | h
  · exact Int.mul_nonneg h h
  · have := Int.mul_nonneg (show 0 ≤ -x by omega) (show 0 ≤ -x by omega)
    rwa [Int.neg_mul_neg] at this
def dotA (xs ys : List Int) : Nat → Int
  | 0 => 0
  | i + 1 => dotA xs ys i + xs.getD i 0 * ys.getD i 0
def sqA (ys : List Int) : Nat → Int
  | 0 => 0
  | i + 1 => sqA ys i + ys.getD i 0 * ys.getD i 0
def bad8 (x : Int) : Prop := x < -8 ∨ 8 < x
instance (x : Int) : Decidable (bad8 x) := by unfold bad8; infer_instance
theorem bad8_walk (x : Int) (hx : InK .i64 x) : walk F0 0 Try.f36 [i64 x] [] fun y _ => y = vb (decide (bad8 x)) := by
  conv => whnf
  refine ask_split (fun h => ?_) (fun h => ?_)
  · rw [decide_eq_true (show bad8 x from .inl h)]
    repeat' ((conv => whnf); first | (refine ask_wrap64 (by omega) (by omega) ?_) | (refine ask_true (by omega) ?_) | (refine ask_false (by omega) ?_) | (refine ⟨trivial, ?_⟩) | (refine ⟨by omega, ?_⟩) | (refine fun (_ : InK _ _) => ?_) | (refine ⟨by kernel_rfl, ?_⟩) | (refine ask_wrapu8 (by omega) (by omega) ?_) | (refine ask_wrapu64 (by omega) (by omega) ?_) | (refine ask_true (show (_ : Bool) = _ from rfl) ?_) | (refine ask_false (show ¬ ((_ : Bool) = _) from Bool.noConfusion) ?_) | fail)
    rfl
  · conv => whnf
    refine ask_split (fun h2 => ?_) (fun h2 => ?_)
    · rw [decide_eq_true (show bad8 x from .inr h2)]
      repeat' ((conv => whnf); first | (refine ask_wrap64 (by omega) (by omega) ?_) | (refine ask_true (by omega) ?_) | (refine ask_false (by omega) ?_) | (refine ⟨trivial, ?_⟩) | (refine ⟨by omega, ?_⟩) | (refine fun (_ : InK _ _) => ?_) | (refine ⟨by kernel_rfl, ?_⟩) | (refine ask_wrapu8 (by omega) (by omega) ?_) | (refine ask_wrapu64 (by omega) (by omega) ?_) | (refine ask_true (show (_ : Bool) = _ from rfl) ?_) | (refine ask_false (show ¬ ((_ : Bool) = _) from Bool.noConfusion) ?_) | fail)
      rfl
    · rw [decide_eq_false (show ¬ bad8 x from fun hb => by unfold bad8 at hb; omega)]
      repeat' ((conv => whnf); first | (refine ask_wrap64 (by omega) (by omega) ?_) | (refine ask_true (by omega) ?_) | (refine ask_false (by omega) ?_) | (refine ⟨trivial, ?_⟩) | (refine ⟨by omega, ?_⟩) | (refine fun (_ : InK _ _) => ?_) | (refine ⟨by kernel_rfl, ?_⟩) | (refine ask_wrapu8 (by omega) (by omega) ?_) | (refine ask_wrapu64 (by omega) (by omega) ?_) | (refine ask_true (show (_ : Bool) = _ from rfl) ?_) | (refine ask_false (show ¬ ((_ : Bool) = _) from Bool.noConfusion) ?_) | fail)
      rfl
theorem bad8_ct : CtOk Try.prog 36 (ctP bad8) := ctP_ok F0_ok Try.func36 bad8_walk
noncomputable def FG : Fns := (((F0.over 31 hRight).plus 36 (ctP bad8)).into 37 Try.f37).into 43 Try.f43
theorem FG_ok : FnsOk Try.prog FG := (((F0_ok.over right_ct Try.func31 (by kernel_rfl) (by kernel_rfl)).plus bad8_ct Try.func36 (by kernel_rfl) (by kernel_rfl)).into Try.func37 (by kernel_rfl) (by kernel_rfl)).into Try.func43 (by kernel_rfl) (by kernel_rfl)
def twoP (a b : Int) (x : V) (N : List Blk) : Prop := x = .tup [i64 a, i64 b] ∧ N = []
theorem two_made {a b : Int} {H' : List Blk} : Made (twoP a b) (.tup [i64 a, i64 b]) H' := made_of (.tup [i64 a, i64 b]) [] id ⟨rfl, rfl⟩ rfl trivial (fun p q hp _ _ => absurd hp (Nat.not_lt_zero p)) rfl rfl (by intro e; cases e)
@[irreducible] def goodC (xs ys : List Int) (l m : Nat) : Prop := rightC (xs.take l) 0 ∧ m = l ∧ ∀ i, i < m → ¬ bad8 (ys.getD i 0)
theorem goodC_def (xs ys : List Int) (l m : Nat) : goodC xs ys l m ↔ rightC (xs.take l) 0 ∧ m = l ∧ ∀ i, i < m → ¬ bad8 (ys.getD i 0) := by unfold goodC; exact Iff.rfl
theorem gain_nil2 : walk FG 2 Try.f18 [.c .csn, .c .csn] [] (Made (twoP 0 0)) := by
  repeat' ((conv => whnf); first | (refine ask_true (by omega) ?_) | (refine ask_false (by omega) ?_) | fail)
  conv => whnf
  exact two_made
theorem gain_nilA (ys : List Int) (m : Nat) : walk FG 2 Try.f18 [.c .csn, .c (.csl 0 0 0 m ys.length)] [.ro [.ints .i64 ys.length ys]] (Made (twoP 0 0)) := by
  repeat' ((conv => whnf); first | (refine ask_true (by omega) ?_) | (refine ask_false (by omega) ?_) | fail)
  conv => whnf
  exact two_made
theorem gain_nilB (xs : List Int) (l : Nat) (hl : l ≤ xs.length) (hc : xs.length ≤ 9223372036854775807) (hx : ∀ x ∈ xs, InK .i64 x) : walk FG 2 Try.f18 [.c (.csl 0 0 0 l xs.length), .c .csn] [.ro [.ints .i64 xs.length xs]] (Made (twoP 0 0)) := by
  by_cases hr : rightC (xs.take l) 0
  · have hr' := hr
    rw [rightC_def] at hr'
    have lt : (xs.take l).length = l := by simp; omega
    repeat' ((conv => whnf); first | (refine And.intro ⟨rfl, rfl⟩ ?_) | (refine And.intro rfl ?_) | (refine ask_true hr ?_) | (refine ask_true (by omega) ?_) | (refine ask_false (by omega) ?_) | fail)
    all_goals (conv => whnf)
    exact two_made
  · repeat' ((conv => whnf); first | (refine And.intro ⟨rfl, rfl⟩ ?_) | (refine And.intro rfl ?_) | (refine ask_false hr ?_) | fail)
    conv => whnf
    exact two_made
theorem gain_walk (xs ys : List Int) (l m : Nat) (hl : l ≤ xs.length) (hc : xs.length ≤ 9223372036854775807) (hx : ∀ x ∈ xs, InK .i64 x) (hm : m ≤ ys.length) (hc' : ys.length ≤ 9223372036854775807) (hy : ∀ x ∈ ys, InK .i64 x) :
    walk FG 2 Try.f18 [.c (.csl 0 0 0 l xs.length), .c (.csl 1 0 0 m ys.length)] [.ro [.ints .i64 xs.length xs], .ro [.ints .i64 ys.length ys]] (Made fun x N => (goodC xs ys l m → x = .tup [i64 (dotA xs ys l), i64 (sqA ys l)]) ∧ (¬ goodC xs ys l m → x = .tup [i64 0, i64 0]) ∧ N = []) := by
  have lt : (xs.take l).length = l := by simp; omega
  have no : ∀ H', ¬ goodC xs ys l m → Made (fun x N => (goodC xs ys l m → x = .tup [i64 (dotA xs ys l), i64 (sqA ys l)]) ∧ (¬ goodC xs ys l m → x = .tup [i64 0, i64 0]) ∧ N = []) (.tup [i64 0, i64 0]) H' := fun H' hn =>
    made_of (.tup [i64 0, i64 0]) [] id ⟨fun h => absurd h hn, fun _ => rfl, rfl⟩ rfl trivial (fun p q hp _ _ => absurd hp (Nat.not_lt_zero p)) rfl rfl (by intro e; cases e)
  by_cases hr : rightC (xs.take l) 0
  · have hr' := hr
    rw [rightC_def] at hr'
    by_cases hml : m = l
    · repeat' ((conv => whnf); first | (refine And.intro ⟨rfl, rfl⟩ ?_) | (refine And.intro rfl ?_) | (refine ask_true hr ?_) | (refine ask_true (by omega) ?_) | (refine ask_false (by omega) ?_) | fail)
      conv => whnf
      refine loop_at (4 :: 5 :: List.range' 8 11) (fun k (i : Int) => 0 ≤ i ∧ i ≤ m ∧ k = (m - i).toNat ∧ ∀ k : Nat, (k : Int) < i → ¬ bad8 (ys.getD k 0)) (fun i => [(8, vi i)]) (fun _ => [.ro [.ints .i64 xs.length xs], .ro [.ints .i64 ys.length ys]]) m 0 ⟨by decide, by omega, by omega, fun k hk => by omega⟩ ?_ ?_
      · exact ⟨rfl, ⟨⟨Nat.le_of_ble_eq_true rfl, rfl⟩, trivial⟩, ⟨rfl, rfl, trivial⟩, rfl, rfl, Nat.le_of_ble_eq_true rfl⟩
      · rintro k i ⟨i0, i1, rfl, g3⟩
        have em : ∀ i : Int, mulN i.toNat (Try.prog.types[3]).size = i.toNat := fun i => mulN1 _
        have ei := em i
        rcases Int.lt_or_le i m with i2 | i2
        · have hat : ys.getD (0 + mulN i.toNat (Try.prog.types[3]).size) 0 = ys.getD i.toNat 0 := by rw [em, Nat.zero_add]
          repeat' ((conv => whnf); first | (refine ask_true (by omega) ?_) | (refine And.intro (by omega) ?_) | (refine fun (_ : InK _ _) => ?_) | fail)
          conv => whnf
          refine ask_split (fun hb => ?_) (fun hb => ?_)
          · repeat' ((conv => whnf); first | (refine ask_true (by omega) ?_) | (refine ask_false (by omega) ?_) | fail)
            conv => whnf
            refine no _ fun hg => ?_
            rw [goodC_def] at hg
            rw [hat] at hb
            exact hg.2.2 i.toNat (by omega) hb
          · repeat' ((conv => whnf); first | (refine ask_wrap64 (by omega) (by omega) ?_) | fail)
            conv => whnf
            refine ⟨(m - (i + 1)).toNat, i + 1, by omega, ⟨by omega, by omega, rfl, fun k hk => ?_⟩, rfl, ⟨⟨Nat.le_of_ble_eq_true rfl, rfl⟩, trivial⟩, ⟨rfl, rfl, trivial⟩, rfl, rfl, Nat.le_of_ble_eq_true rfl⟩
            rcases Int.lt_or_le k i with hk2 | hk2
            · exact g3 k hk2
            · rw [hat] at hb
              obtain rfl : k = i.toNat := by omega
              exact hb
        · have hg : goodC xs ys l m := by
            rw [goodC_def]
            exact ⟨hr, hml, fun k hk => g3 k (by omega)⟩
          have hb8 : ∀ k : Nat, k < l → -8 ≤ ys.getD k 0 ∧ ys.getD k 0 ≤ 8 := fun k hk => by
            have := g3 k (by omega)
            unfold bad8 at this; omega
          repeat' ((conv => whnf); first | (refine ask_true (by omega) ?_) | (refine ask_false (by omega) ?_) | fail)
          conv => whnf
          have hcb := right_in hr
          have cat : ∀ i : Nat, i < l → (xs.take l).getD i 0 = xs.getD i 0 := fun i hi => getD_take hi
          refine loop_at (7 :: 8 :: 9 :: 10 :: List.range' 28 25) (fun k (i : Int) => 0 ≤ i ∧ i ≤ l ∧ k = (l - i).toNat ∧ (-8388608 * i ≤ dotA xs ys i.toNat ∧ dotA xs ys i.toNat ≤ 8388608 * i) ∧ 0 ≤ sqA ys i.toNat ∧ sqA ys i.toNat ≤ 64 * i) (fun i => [(7, vi (dotA xs ys i.toNat)), (8, vi (sqA ys i.toNat)), (28, vi i)]) (fun _ => [.ro [.ints .i64 xs.length xs], .ro [.ints .i64 ys.length ys]]) l 0 ⟨by decide, by omega, by omega, by show -8388608 * 0 ≤ (0 : Int) ∧ (0 : Int) ≤ 8388608 * 0; decide, by show (0 : Int) ≤ 0 ∧ (0 : Int) ≤ 64 * 0; decide⟩ ?_ ?_
          · exact ⟨rfl, ⟨⟨Nat.le_of_ble_eq_true rfl, rfl⟩, ⟨Nat.le_of_ble_eq_true rfl, rfl⟩, ⟨Nat.le_of_ble_eq_true rfl, rfl⟩, trivial⟩, ⟨rfl, rfl, trivial⟩, rfl, rfl, Nat.le_of_ble_eq_true rfl⟩
          · rintro k i ⟨p0, p1, rfl, p3, p4⟩
            have ei := em i
            rcases Int.lt_or_le i l with p2 | p2
            · have xat : xs.getD (0 + mulN i.toNat (Try.prog.types[3]).size) 0 = xs.getD i.toNat 0 := by rw [em, Nat.zero_add]
              have yat : ys.getD (0 + mulN i.toNat (Try.prog.types[3]).size) 0 = ys.getD i.toNat 0 := by rw [em, Nat.zero_add]
              have xb := hcb i.toNat
              rw [cat i.toNat (by omega), ← xat] at xb
              have yb := hb8 i.toNat (by omega)
              rw [← yat] at yb
              have pb := prod_bound xb.1 xb.2 yb.1 yb.2
              have qb := prod_bound yb.1 yb.2 yb.1 yb.2
              have q0 := sq_nn (ys.getD (0 + mulN i.toNat (Try.prog.types[3]).size) 0)
              have hs : dotA xs ys (i + 1).toNat = dotA xs ys i.toNat + xs.getD (0 + mulN i.toNat (Try.prog.types[3]).size) 0 * ys.getD (0 + mulN i.toNat (Try.prog.types[3]).size) 0 := by rw [show (i + 1).toNat = i.toNat + 1 by omega, xat, yat]; rfl
              have ht : sqA ys (i + 1).toNat = sqA ys i.toNat + ys.getD (0 + mulN i.toNat (Try.prog.types[3]).size) 0 * ys.getD (0 + mulN i.toNat (Try.prog.types[3]).size) 0 := by rw [show (i + 1).toNat = i.toNat + 1 by omega, yat]; rfl
              repeat' ((conv => whnf); first | (refine ask_true (by omega) ?_) | (refine And.intro (by omega) ?_) | (refine fun (_ : InK _ _) => ?_) | (refine ask_wrap64 (by omega) (by omega) ?_) | (refine ⟨by kernel_rfl, ?_⟩) | fail)
              conv => whnf
              exact ⟨(l - (i + 1)).toNat, i + 1, by omega, ⟨by omega, by omega, rfl, by rw [hs]; omega, by rw [ht]; omega⟩, rfl, ⟨⟨Nat.le_of_ble_eq_true rfl, congrArg vi hs.symm⟩, ⟨Nat.le_of_ble_eq_true rfl, congrArg vi ht.symm⟩, ⟨Nat.le_of_ble_eq_true rfl, rfl⟩, trivial⟩, ⟨rfl, rfl, trivial⟩, rfl, rfl, Nat.le_of_ble_eq_true rfl⟩
            · repeat' ((conv => whnf); first | (refine ask_true (by omega) ?_) | (refine ask_false (by omega) ?_) | fail)
              conv => whnf
              have e : i.toNat = l := by omega
              rw [e]
              exact made_of (.tup [i64 (dotA xs ys l), i64 (sqA ys l)]) [] id ⟨fun _ => rfl, fun h => absurd hg h, rfl⟩ rfl trivial (fun p q hp _ _ => absurd hp (Nat.not_lt_zero p)) rfl rfl (by intro e; cases e)
    · repeat' ((conv => whnf); first | (refine And.intro ⟨rfl, rfl⟩ ?_) | (refine And.intro rfl ?_) | (refine ask_true hr ?_) | (refine ask_true (by omega) ?_) | fail)
      conv => whnf
      exact no _ fun hg => by rw [goodC_def] at hg; exact hml hg.2.1
  · repeat' ((conv => whnf); first | (refine And.intro ⟨rfl, rfl⟩ ?_) | (refine And.intro rfl ?_) | (refine ask_false hr ?_) | fail)
    conv => whnf
    exact no _ fun hg => by rw [goodC_def] at hg; exact hr hg.1
def hGain : HCt := fun ws H K => match ws with
  | [.c .csn, .c .csn] => K (.tup [i64 0, i64 0]) H
  | [.c .csn, .c y] => slK H y fun _ _ _ => K (.tup [i64 0, i64 0]) H
  | [.c x, .c .csn] => slK H x fun _ _ _ => K (.tup [i64 0, i64 0]) H
  | [.c x, .c y] => slK H x fun _ l xs => slK H y fun _ m ys => (goodC xs ys l m → K (.tup [i64 (dotA xs ys l), i64 (sqA ys l)]) H) ∧ (¬ goodC xs ys l m → K (.tup [i64 0, i64 0]) H)
  | _ => False
theorem two_K {H : List Blk} {K : V → List Blk → Prop} {a b : Int} (h : K (.tup [i64 a, i64 b]) H) : ∀ x N, twoP a b x N → K (x.ren (sh H.length)) (H ++ N.map (Blk.ren (sh H.length))) := by
  rintro x N ⟨rfl, rfl⟩
  simpa [V.ren, renW, W.ren, C.ren] using h
theorem two_mine {a b : Int} : ∀ x N, twoP a b x N → ∀ b ∈ N, b.mine = true ∨ b = .gone := by
  rintro x N ⟨_, rfl⟩ b hb; cases hb
theorem ro_ok2 {xs ys : List Int} (hx : ∀ y ∈ xs, InK .i64 y) (hy : ∀ y ∈ ys, InK .i64 y) : HOk [.ro [.ints .i64 xs.length xs], .ro [.ints .i64 ys.length ys]] :=
  ⟨fun b hb => by
    rcases List.mem_cons.1 hb with h | h
    · rw [h]; exact ⟨⟨rfl, hx⟩, trivial⟩
    · rw [List.mem_singleton.1 h]; exact ⟨⟨rfl, hy⟩, trivial⟩, fun b hb => by
    rcases List.mem_cons.1 hb with h | h
    · rw [h]; rfl
    · rw [List.mem_singleton.1 h]; rfl⟩
def rho2 (j k : Nat) (n : Nat) : Nat := if n = 0 then j else k
theorem ro_at2 {H : List Blk} {xs ys : List Int} {j k : Nat} (h : (∃ T, H[j]? = some (.own T [.ints .i64 xs.length xs])) ∨ H[j]? = some (.ro [.ints .i64 xs.length xs])) (h' : (∃ T, H[k]? = some (.own T [.ints .i64 ys.length ys])) ∨ H[k]? = some (.ro [.ints .i64 ys.length ys])) :
    ∀ (n : Nat) (b : Blk), ([.ro [.ints .i64 xs.length xs], .ro [.ints .i64 ys.length ys]] : List Blk)[n]? = some b → b = .gone ∨ ∃ ss, b = .ro ss ∧ ((∃ T, H[rho2 j k n]? = some (.own T (rens (rho2 j k) ss))) ∨ H[rho2 j k n]? = some (.ro (rens (rho2 j k) ss))) := by
  intro n b hn
  match n, hn with
  | 0, hn => simp at hn; subst hn; exact .inr ⟨_, rfl, h⟩
  | 1, hn => simp at hn; subst hn; exact .inr ⟨_, rfl, h'⟩
  | n + 2, hn => simp at hn
theorem gain_ct : HCtOk Try.prog 18 hGain := by
  intro ws H K h hr hb ho G σ base w₀ w hw
  unfold hGain at h
  split at h
  · exact walk_lift FG_ok Try.func18 (n := 2) (ws := [.c .csn, .c .csn]) (R := []) nil_ok ⟨trivial, trivial, trivial⟩ rfl gain_nil2 two_mine id no_ro rfl (two_K h) ho G σ base w₀ w hw
  · rename_i y _
    obtain ⟨j, l, ys, h', hx, g1, g2, g3, g4⟩ := slK_spec h ho hr.2.1
    clear h
    subst hx
    exact walk_lift FG_ok Try.func18 (n := 2) (ws := [.c .csn, .c (.csl 0 0 0 l ys.length)]) (R := [.ro [.ints .i64 ys.length ys]]) (ro_ok g3) ⟨trivial, ⟨g1, g2⟩, trivial⟩ rfl (gain_nilA ys l) two_mine (fun _ => j) (ro_at g4) rfl (two_K h') ho G σ base w₀ w hw
  · rename_i x _
    obtain ⟨j, l, xs, h', hx, g1, g2, g3, g4⟩ := slK_spec h ho hr.1
    clear h
    subst hx
    exact walk_lift FG_ok Try.func18 (n := 2) (ws := [.c (.csl 0 0 0 l xs.length), .c .csn]) (R := [.ro [.ints .i64 xs.length xs]]) (ro_ok g3) ⟨⟨g1, g2⟩, trivial, trivial⟩ rfl (gain_nilB xs l g1 g2 g3) two_mine (fun _ => j) (ro_at g4) rfl (two_K h') ho G σ base w₀ w hw
  · rename_i x y _ _ _
    obtain ⟨j, l, xs, h1, hx, g1, g2, g3, g4⟩ := slK_spec h ho hr.1
    clear h
    obtain ⟨k, m, ys, h', hy, f1, f2, f3, f4⟩ := slK_spec h1 ho hr.2.1
    clear h1
    subst hx
    subst hy
    refine walk_lift FG_ok Try.func18 (n := 2) (ws := [.c (.csl 0 0 0 l xs.length), .c (.csl 1 0 0 m ys.length)]) (R := [.ro [.ints .i64 xs.length xs], .ro [.ints .i64 ys.length ys]]) (ro_ok2 g3 f3) ⟨⟨g1, g2⟩, ⟨f1, f2⟩, trivial⟩ rfl (gain_walk xs ys l m g1 g2 g3 f1 f2 f3) ?_ (rho2 j k) (ro_at2 g4 f4) rfl ?_ ho G σ base w₀ w hw
    · rintro x N ⟨_, _, rfl⟩ b hb; cases hb
    · rintro x N ⟨ha, hb, rfl⟩
      rcases Classical.em (goodC xs ys l m) with hg | hg
      · rw [ha hg]
        have := h'.1 hg
        simpa [V.ren, renW, W.ren, C.ren] using this
      · rw [hb hg]
        have := h'.2 hg
        simpa [V.ren, renW, W.ren, C.ren] using this
  · exact h.elim
end Go.Proofs.Ytmkdamfdlkpjdaa
