/- Chapter level: the law LevelLoud, walked. -/
import Derived.Test.YtmkdamfdlkpjdaaDoorDg
set_option linter.all false
namespace Go.Proofs.YtmkdamfdlkpjdaaDoor
open Go.RowKit (Below)
set_option maxRecDepth 100000
set_option maxHeartbeats 32000000

@[irreducible] noncomputable def r15 : Int → Int := sealed fun x => x.tmod 32768
theorem r15_def (x : Int) : r15 x = x.tmod 32768 := by unfold r15; rw [sealed_eq]
theorem r15_bound (x : Int) : -32767 ≤ r15 x ∧ r15 x ≤ 32767 := by
  have := tmod_bound (a := x) (b := 32768) (by decide)
  rw [r15_def]; omega
noncomputable def sm (xs : List Int) : List Int := xs.map r15
noncomputable def sn (xs : List Int) : List Int := (sm xs).map fun x => 0 - x
noncomputable def st (xs : List Int) : List Int := (sm xs).map fun x => (2 : Int) * x
theorem sm_len {xs : List Int} (h : xs.length = 16) : (sm xs).length = 16 := by simp [sm, h]
theorem sn_len {xs : List Int} (h : xs.length = 16) : (sn xs).length = 16 := by simp [sn, sm, h]
theorem st_len {xs : List Int} (h : xs.length = 16) : (st xs).length = 16 := by simp [st, sm, h]
theorem sm_in {xs : List Int} (i : Nat) : -32767 ≤ (sm xs).getD i 0 ∧ (sm xs).getD i 0 ≤ 32767 := by
  unfold sm
  rcases Nat.lt_or_ge i xs.length with h | h
  · rw [getD_map h]; exact r15_bound _
  · rw [List.getD_eq_getElem?_getD, List.getElem?_eq_none (by simpa using h)]; decide
theorem sn_at {xs : List Int} {i : Nat} (h : i < xs.length) : (sn xs).getD i 0 = 0 - (sm xs).getD i 0 := by
  unfold sn; rw [getD_map (by simpa [sm] using h)]
theorem st_at {xs : List Int} {i : Nat} (h : i < xs.length) : (st xs).getD i 0 = 2 * (sm xs).getD i 0 := by
  unfold st; rw [getD_map (by simpa [sm] using h)]

/-! ### sums of bands -/
/-- The sum of a band's waves without their signs. -/
def bsum (xs : List Int) (b : Int) : Int := sumF (bandZ xs b) (bandZ xs b).length
theorem sumF_rel {xs ys : List Int} {c : Int} : ∀ n : Nat, (∀ i, i < n → szF (ys.getD i 0) = c * szF (xs.getD i 0)) → sumF ys n = c * sumF xs n
  | 0, _ => by show (0 : Int) = c * 0; omega
  | n + 1, h => by
    show sumF ys n + szF (ys.getD n 0) = c * (sumF xs n + szF (xs.getD n 0))
    rw [sumF_rel n fun i hi => h i (by omega), h n (by omega), Int.mul_add]
theorem sumF_none {xs : List Int} : ∀ n : Nat, sumF xs n = 0 ↔ ∀ i, i < n → szF (xs.getD i 0) = 0
  | 0 => ⟨fun _ i hi => by omega, fun _ => rfl⟩
  | n + 1 => by
    have ih := sumF_none (xs := xs) n
    have b1 := sumF_in xs n
    have b2 := szF_in (xs.getD n 0)
    show sumF xs n + szF (xs.getD n 0) = 0 ↔ _
    constructor
    · intro h i hi
      rcases Nat.lt_or_ge i n with h2 | h2
      · exact ih.1 (by omega) i h2
      · obtain rfl : i = n := by omega
        omega
    · intro h
      have := ih.2 fun i hi => h i (by omega)
      have := h n (by omega)
      omega
theorem szF_neg (x : Int) : szF (0 - x) = szF x := by rw [szF_def, szF_def]; omega
theorem szF_zero {x : Int} : szF x = 0 ↔ x = 0 := by rw [szF_def]; omega
theorem szF_two {x : Int} (h : -32767 ≤ x ∧ x ≤ 32767) : szF (2 * x) = 2 * szF x := by rw [szF_def, szF_def]; omega
theorem bsum_bound {xs : List Int} (h : xs.length = 16) {b : Int} (hb : 0 ≤ b ∧ b ≤ 3) : 0 ≤ bsum (sm xs) b ∧ bsum (sm xs) b ≤ 524272 := by
  have bl := bandZ_len (sm_len h) b
  have si := sizeS_in b
  have key : ∀ n : Nat, n ≤ (bandZ (sm xs) b).length → sumF (bandZ (sm xs) b) n ≤ 32767 * n := fun n => by
    induction n with
    | zero => intro _; exact Int.le_refl 0
    | succ n ih =>
      intro hn
      have i1 := ih (by omega)
      have e := bandZ_get (xs := sm xs) hb (j := n) (by omega)
      have i2 := sm_in (xs := xs) ((fst b).toNat + n)
      rw [← e] at i2
      have i3 : szF ((bandZ (sm xs) b).getD n 0) ≤ 32767 := by rw [szF_def]; omega
      show sumF _ n + szF _ ≤ _
      omega
  have k1 := key _ (Nat.le_refl _)
  have k2 := sumF_in (bandZ (sm xs) b) (bandZ (sm xs) b).length
  unfold bsum
  omega
theorem bsum_neg {xs : List Int} (h : xs.length = 16) {b : Int} (hb : 0 ≤ b ∧ b ≤ 3) : bsum (sn xs) b = bsum (sm xs) b := by
  have f := fst_ok hb
  have hs : sizeS b = fst (b + 1) - fst b := by unfold sizeS; rw [if_pos hb]
  unfold bsum
  rw [bandZ_len (sn_len h), bandZ_len (sm_len h)]
  rw [sumF_rel (c := 1) (xs := bandZ (sm xs) b) _ fun i hi => by
    rw [bandZ_get hb (by omega), bandZ_get hb (by omega), sn_at (by omega), szF_neg, Int.one_mul], Int.one_mul]
theorem bsum_two {xs : List Int} (h : xs.length = 16) {b : Int} (hb : 0 ≤ b ∧ b ≤ 3) : bsum (st xs) b = 2 * bsum (sm xs) b := by
  have f := fst_ok hb
  have hs : sizeS b = fst (b + 1) - fst b := by unfold sizeS; rw [if_pos hb]
  unfold bsum
  rw [bandZ_len (st_len h), bandZ_len (sm_len h)]
  rw [sumF_rel (c := 2) (xs := bandZ (sm xs) b) _ fun i hi => by
    rw [bandZ_get hb (by omega), bandZ_get hb (by omega), st_at (by omega), szF_two (sm_in _)]]
theorem bsum_none {xs : List Int} (h : xs.length = 16) {b : Int} (hb : 0 ≤ b ∧ b ≤ 3) : bsum (sm xs) b = 0 ↔ ∀ k : Int, fst b ≤ k → k < fst (b + 1) → (sm xs).getD k.toNat 0 = 0 := by
  have f := fst_ok hb
  have hs : sizeS b = fst (b + 1) - fst b := by unfold sizeS; rw [if_pos hb]
  unfold bsum
  rw [bandZ_len (sm_len h), sumF_none]
  constructor
  · intro hh k k1 k2
    have := hh (k - fst b).toNat (by omega)
    rw [szF_zero, bandZ_get hb (by omega)] at this
    rw [← this]
    congr 1
    omega
  · intro hh i hi
    rw [szF_zero, bandZ_get hb (by omega)]
    have := hh (fst b + i) (by omega) (by omega)
    rw [← this]
    congr 1
    omega
theorem lev_of {xs : List Int} {b s : Int} (h : bsum xs b = s) (h0 : 0 ≤ s) : levS xs b = min (lenS s) 20 := by
  unfold levS
  rw [show sumF (bandZ xs b) (bandZ xs b).length = s from h, lengthS_def, if_neg (by omega)]
theorem loud {xs : List Int} (h : xs.length = 16) {b : Int} (hb : 0 ≤ b ∧ b ≤ 3) : (levS (sm xs) b = 0 ↔ bsum (sm xs) b = 0) ∧ levS (sn xs) b = levS (sm xs) b ∧ (bsum (sm xs) b ≠ 0 → levS (st xs) b = levS (sm xs) b + 1) := by
  obtain ⟨b1, b2⟩ := bsum_bound h hb
  have e1 := lev_of (xs := sm xs) (b := b) rfl b1
  have e2 := lev_of (bsum_neg h hb) b1
  have e3 := lev_of (bsum_two h hb) (by omega)
  rw [e1, e2, e3]
  have l0 := len_nonneg (bsum (sm xs) b)
  have p19 : pw 19 = 524288 := by rw [pw_def]; decide
  have p1 : pw 1 = 2 := by rw [pw_def]; decide
  have l1 : lenS (bsum (sm xs) b) ≤ 19 := len_le (by omega) (by decide)
  refine ⟨⟨fun hz => ?_, fun hz => ?_⟩, rfl, fun hn => ?_⟩
  · rcases Int.lt_or_le 0 (bsum (sm xs) b) with hp | hp
    · have := (len_bounds (x := bsum (sm xs) b) (by omega)).2.2
      omega
    · omega
  · rw [hz, len_zero (Int.le_refl 0)]; decide
  · have hl := len_half (x := 2 * bsum (sm xs) b) (k := 1) (by decide) (by omega)
    rw [p1, Int.mul_ediv_cancel_left _ (by decide)] at hl
    omega
theorem loud_walk (xs : List Int) (h : xs.length = 16) (hx : ∀ x ∈ xs, InK .i64 x) : walkg FE 0 Tryd.f3 [ar16 xs] [] fun y _ => y = vb true := by
  have lm := sm_len h
  have ln := sn_len h
  have lt := st_len h
  repeat' ((conv => whnf); first | fail)
  conv => whnf
  refine loop_at (6 :: List.range' 16 22) (fun m (i : Int) => 0 ≤ i ∧ i ≤ 16 ∧ m = (16 - i).toNat) (fun i => [(6, vi i)]) (fun i => [.own 22 [.ints .i64 16 xs], .own 24 [.ints .i64 16 (stg (sm xs) z16 i)], .own 24 [.ints .i64 16 (stg (sn xs) z16 i)], .own 24 [.ints .i64 16 (stg (st xs) z16 i)]]) 16 0 ⟨by decide, by decide, rfl⟩ ?_ ?_
  · exact ⟨rfl, ⟨⟨Nat.le_of_ble_eq_true rfl, rfl⟩, trivial⟩, ⟨rfl, by rw [stg_zero]; rfl, by rw [stg_zero]; rfl, by rw [stg_zero]; rfl, trivial⟩, rfl, rfl, Nat.zero_le _⟩
  · rintro m i ⟨i0, i1, rfl⟩
    have em : mulN i.toNat (Tryd.prog.types[3]).size = i.toNat := mulN1 _
    rcases Int.lt_or_le i 16 with i2 | i2
    · have hr : (sm xs).getD i.toNat 0 = (xs.getD (mulN i.toNat (Tryd.prog.types[3]).size) 0).tmod 32768 := by
        unfold sm
        rw [getD_map (by omega), r15_def, em]
      have rb := sm_in (xs := xs) i.toNat
      repeat' ((conv => whnf); first | (refine ask_true (by omega) ?_) | (refine And.intro (by omega) fun (_ : InK _ _) => ?_) | (refine And.intro (by omega) ?_) | (refine fun (_ : InK _ _) => ?_) | fail)
      conv => whnf
      intro r hr'
      obtain rfl : r = (sm xs).getD i.toNat 0 := hr'.trans hr.symm
      have sl : (stg (sm xs) z16 i).length = 16 := by unfold stg; simp [lm, z16]; omega
      have hg : ((stg (sm xs) z16 i).set (mulN i.toNat (Tryd.prog.types[3]).size) ((sm xs).getD i.toNat 0)).getD (mulN i.toNat (Tryd.prog.types[3]).size) 0 = (sm xs).getD i.toNat 0 := by
        rw [List.getD_eq_getElem?_getD, List.getElem?_set_self (by omega)]; rfl
      repeat' ((conv => whnf); first | (refine And.intro (by omega) fun (_ : InK _ _) => ?_) | (refine And.intro (by omega) ?_) | (refine fun (_ : InK _ _) => ?_) | (refine ask_wrap64 (by omega) (by omega) ?_) | fail)
      conv => whnf
      refine ⟨(16 - (i + 1)).toNat, i + 1, by omega, ⟨by omega, by omega, rfl⟩, rfl, ⟨⟨Nat.le_of_ble_eq_true rfl, rfl⟩, trivial⟩, ⟨rfl, ?_, ?_, ?_, trivial⟩, rfl, rfl, Nat.zero_le _⟩
      · exact congrArg (fun ys => Blk.own 24 [.ints .i64 16 ys]) (stg_set em (by rw [lm]; rfl) i0 (by rw [lm]; omega) rfl).symm
      · exact congrArg (fun ys => Blk.own 24 [.ints .i64 16 ys]) (stg_set em (by rw [ln]; rfl) i0 (by rw [ln]; omega) (by rw [hg]; exact sn_at (by omega))).symm
      · exact congrArg (fun ys => Blk.own 24 [.ints .i64 16 ys]) (stg_set em (by rw [lt]; rfl) i0 (by rw [lt]; omega) (by rw [hg]; exact st_at (by omega))).symm
    · have hi : i = 16 := by omega
      subst hi
      rw [stg_all (by rw [lm]; rfl) (by rw [lm]; rfl), stg_all (by rw [ln]; rfl) (by rw [ln]; rfl), stg_all (by rw [lt]; rfl) (by rw [lt]; rfl)]
      repeat' ((conv => whnf); first | (refine ask_false (by omega) ?_) | (refine ⟨by kernel_rfl, ?_⟩) | fail)
      conv => whnf
      clear em i0 i1 i2
      refine loop_at (11 :: 12 :: 13 :: List.range' 45 51) (fun m (i : Int) => 0 ≤ i ∧ i ≤ 4 ∧ m = (4 - i).toNat) (fun i => [(11, vi i)]) (fun _ => [.own 22 [.ints .i64 16 xs], .own 24 [.ints .i64 16 (sm xs)], .own 24 [.ints .i64 16 (sn xs)], .own 24 [.ints .i64 16 (st xs)], .own 25 [.ints .i64 4 (levZ (sm xs))], .own 25 [.ints .i64 4 (levZ (sn xs))], .own 25 [.ints .i64 4 (levZ (st xs))], .own 27 [.ints .i64 5 [0, 2, 4, 8, 16]]]) 4 0 ⟨by decide, by decide, rfl⟩ ?_ ?_
      · exact ⟨rfl, ⟨⟨Nat.le_of_ble_eq_true rfl, rfl⟩, trivial⟩, ⟨rfl, rfl, rfl, rfl, rfl, rfl, rfl, rfl, trivial⟩, rfl, rfl, Nat.zero_le _⟩
      · rintro m i ⟨i0, i1, rfl⟩
        have em : mulN i.toNat (Tryd.prog.types[3]).size = i.toNat := mulN1 _
        rcases Int.lt_or_le i 4 with i2 | i2
        · have f := fst_ok (b := i) (by omega)
          have e0 := @fst_at i
          have e1 := @fst_at (i + 1)
          have em1 : mulN (i + 1).toNat (Tryd.prog.types[3]).size = (i + 1).toNat := mulN1 _
          have ld := loud h (b := i) (by omega)
          have bn := bsum_none h (b := i) (by omega)
          have la : (levZ (sm xs)).getD (mulN i.toNat (Tryd.prog.types[3]).size) 0 = levS (sm xs) i := by rw [em, levZ_at _ (by omega), show ((i.toNat : Nat) : Int) = i by omega]
          have lb : (levZ (sn xs)).getD (mulN i.toNat (Tryd.prog.types[3]).size) 0 = levS (sn xs) i := by rw [em, levZ_at _ (by omega), show ((i.toNat : Nat) : Int) = i by omega]
          have lc : (levZ (st xs)).getD (mulN i.toNat (Tryd.prog.types[3]).size) 0 = levS (st xs) i := by rw [em, levZ_at _ (by omega), show ((i.toNat : Nat) : Int) = i by omega]
          have lin := levS_in (sm xs) i
          repeat' ((conv => whnf); first | (refine ask_true (by omega) ?_) | (refine And.intro (by omega) fun (_ : InK _ _) => ?_) | (refine And.intro (by omega) ?_) | (refine fun (_ : InK _ _) => ?_) | fail)
          conv => whnf
          refine loop_at2 (12 :: 13 :: List.range' 52 15) (fun m (k : Int) (t : Bool) => fst i ≤ k ∧ k ≤ fst (i + 1) ∧ m = (fst (i + 1) - k).toNat ∧ (t = true ↔ ∀ j : Int, fst i ≤ j → j < k → (sm xs).getD j.toNat 0 = 0)) (fun k t => [(12, vb t), (13, vi k)]) (fun _ _ => [.own 22 [.ints .i64 16 xs], .own 24 [.ints .i64 16 (sm xs)], .own 24 [.ints .i64 16 (sn xs)], .own 24 [.ints .i64 16 (st xs)], .own 25 [.ints .i64 4 (levZ (sm xs))], .own 25 [.ints .i64 4 (levZ (sn xs))], .own 25 [.ints .i64 4 (levZ (st xs))], .own 27 [.ints .i64 5 [0, 2, 4, 8, 16]]]) (fst (i + 1) - fst i).toNat (fst i) true ⟨by omega, by omega, rfl, ⟨fun _ j h1 h2 => by omega, fun _ => rfl⟩⟩ ?_ ?_
          · refine ⟨rfl, ⟨⟨Nat.le_of_ble_eq_true rfl, rfl⟩, ⟨Nat.le_of_ble_eq_true rfl, congrArg vi e0⟩, trivial⟩, ⟨rfl, rfl, rfl, rfl, rfl, rfl, rfl, rfl, trivial⟩, rfl, rfl, Nat.zero_le _⟩
          · rintro m k t ⟨k0, k1, rfl, ht⟩
            have ek : mulN k.toNat (Tryd.prog.types[3]).size = k.toNat := mulN1 _
            rcases Int.lt_or_le k (fst (i + 1)) with k2 | k2
            · cases t with
              | false =>
                repeat' ((conv => whnf); first | (refine ask_true (by omega) ?_) | (refine And.intro (by omega) ?_) | (refine fun (_ : InK _ _) => ?_) | (refine ask_wrap64 (by omega) (by omega) ?_) | fail)
                conv => whnf
                exact ⟨(fst (i + 1) - (k + 1)).toNat, (k + 1, false), by omega, ⟨by show fst i ≤ k + 1; omega, by show k + 1 ≤ fst (i + 1); omega, rfl, ⟨fun e => (by cases e), fun hh => ht.2 fun j j1 j2 => hh j j1 (by show j < k + 1; omega)⟩⟩, rfl, ⟨⟨Nat.le_of_ble_eq_true rfl, rfl⟩, ⟨Nat.le_of_ble_eq_true rfl, rfl⟩, trivial⟩, ⟨rfl, rfl, rfl, rfl, rfl, rfl, rfl, rfl, trivial⟩, rfl, rfl, Nat.zero_le _⟩
              | true =>
                have hall := ht.1 rfl
                repeat' ((conv => whnf); first | (refine ask_true (by omega) ?_) | (refine And.intro (by omega) ?_) | (refine fun (_ : InK _ _) => ?_) | (refine ask_wrap64 (by omega) (by omega) ?_) | fail)
                conv => whnf
                refine ask_split (fun hz => ?_) (fun hz => ?_)
                · rw [ek] at hz
                  repeat' ((conv => whnf); first | (refine ask_wrap64 (by omega) (by omega) ?_) | fail)
                  conv => whnf
                  refine ⟨(fst (i + 1) - (k + 1)).toNat, (k + 1, true), by omega, ⟨by show fst i ≤ k + 1; omega, by show k + 1 ≤ fst (i + 1); omega, rfl, ⟨fun _ j j1 j2 => ?_, fun _ => rfl⟩⟩, rfl, ⟨⟨Nat.le_of_ble_eq_true rfl, rfl⟩, ⟨Nat.le_of_ble_eq_true rfl, rfl⟩, trivial⟩, ⟨rfl, rfl, rfl, rfl, rfl, rfl, rfl, rfl, trivial⟩, rfl, rfl, Nat.zero_le _⟩
                  rcases Int.lt_or_le j k with j3 | j3
                  · exact hall j j1 j3
                  · obtain rfl : j = k := by have : j < k + 1 := j2; omega
                    exact hz
                · rw [ek] at hz
                  repeat' ((conv => whnf); first | (refine ask_wrap64 (by omega) (by omega) ?_) | fail)
                  conv => whnf
                  exact ⟨(fst (i + 1) - (k + 1)).toNat, (k + 1, false), by omega, ⟨by show fst i ≤ k + 1; omega, by show k + 1 ≤ fst (i + 1); omega, rfl, ⟨fun e => (by cases e), fun hh => absurd (hh k k0 (by show k < k + 1; omega)) hz⟩⟩, rfl, ⟨⟨Nat.le_of_ble_eq_true rfl, rfl⟩, ⟨Nat.le_of_ble_eq_true rfl, rfl⟩, trivial⟩, ⟨rfl, rfl, rfl, rfl, rfl, rfl, rfl, rfl, trivial⟩, rfl, rfl, Nat.zero_le _⟩
            · have hk : k = fst (i + 1) := by omega
              have hab : (levZ (sm xs)).getD (mulN i.toNat (Tryd.prog.types[3]).size) 0 = (levZ (sn xs)).getD (mulN i.toNat (Tryd.prog.types[3]).size) 0 := by rw [la, lb, ld.2.1]
              cases t with
              | false =>
                have hb0 : bsum (sm xs) i ≠ 0 := fun hz => by
                  have := ht.2 fun j j1 j2 => bn.1 hz j j1 (by omega)
                  cases this
                have hl0 : levS (sm xs) i ≠ 0 := fun hz => hb0 (ld.1.1 hz)
                have hl1 := ld.2.2 hb0
                repeat' ((conv => whnf); first | (refine ask_true (by omega) ?_) | (refine ask_false (by omega) ?_) | (refine ask_false (by decide) ?_) | (refine ask_true (by decide) ?_) | (refine And.intro (by omega) ?_) | (refine fun (_ : InK _ _) => ?_) | (refine ask_wrap64 (by omega) (by omega) ?_) | (refine ⟨by kernel_rfl, ?_⟩) | fail)
                conv => whnf
                exact ⟨(4 - (i + 1)).toNat, i + 1, by omega, ⟨by omega, by omega, rfl⟩, rfl, ⟨⟨Nat.le_of_ble_eq_true rfl, rfl⟩, trivial⟩, ⟨rfl, rfl, rfl, rfl, rfl, rfl, rfl, rfl, trivial⟩, rfl, rfl, Nat.zero_le _⟩
              | true =>
                have hb0 : bsum (sm xs) i = 0 := bn.2 fun j j1 j2 => ht.1 rfl j j1 (by omega)
                have hl0 : levS (sm xs) i = 0 := ld.1.2 hb0
                repeat' ((conv => whnf); first | (refine ask_true (by omega) ?_) | (refine ask_false (by omega) ?_) | (refine ask_false (by decide) ?_) | (refine ask_true (by decide) ?_) | (refine And.intro (by omega) ?_) | (refine fun (_ : InK _ _) => ?_) | (refine ask_wrap64 (by omega) (by omega) ?_) | (refine ⟨by kernel_rfl, ?_⟩) | fail)
                conv => whnf
                exact ⟨(4 - (i + 1)).toNat, i + 1, by omega, ⟨by omega, by omega, rfl⟩, rfl, ⟨⟨Nat.le_of_ble_eq_true rfl, rfl⟩, trivial⟩, ⟨rfl, rfl, rfl, rfl, rfl, rfl, rfl, rfl, trivial⟩, rfl, rfl, Nat.zero_le _⟩
        · repeat' ((conv => whnf); first | (refine ask_false (by omega) ?_) | rfl | fail)
theorem law_LevelLoud (xs : List Int) (h : xs.length = 16) (hx : ∀ x ∈ xs, InK .i64 x) (w0 : World) (hg : GW G1 w0) : Calls Tryd.prog 3 #[.agg (xs.map (Value.int .i64)).toArray] w0 fun e w' => e = .returned (.bool true) ∧ Below w0.heap.size w0 w' := by
  have hd1 : (W.den (fun _ => (0, 0)) (ar16 xs)) = Value.agg (xs.map (Value.int .i64)).toArray := by simp [W.den, dens, Seg.den]
  have hd : ([ar16 xs].map (W.den fun _ => (0, 0))).toArray = #[Value.agg (xs.map (Value.int .i64)).toArray] := by rw [← hd1]; rfl
  have := walkg_true FE_ok Tryd.func3 (ws := [ar16 xs]) ⟨ar16_rng h hx, trivial⟩ rfl (n := 0) (loud_walk xs h hx) w0 hg
  rw [hd] at this; exact this
end Go.Proofs.YtmkdamfdlkpjdaaDoor
