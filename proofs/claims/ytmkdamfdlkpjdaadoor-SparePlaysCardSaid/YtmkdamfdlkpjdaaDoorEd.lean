/- Chapter spare: counts and bits. -/
import Derived.Test.YtmkdamfdlkpjdaaDoorEc
set_option linter.all false
namespace Go.Proofs.YtmkdamfdlkpjdaaDoor
open Go.RowKit (Below)
open Go.WideMaps
set_option maxRecDepth 100000
set_option maxHeartbeats 32000000

noncomputable def FC : Fns := F0.over 46 (hOf 8)
theorem FC_ok : FnsOk Tryd.prog FC := F0_ok.over (of_ct 8) Tryd.func46 (by kernel_rfl) (by kernel_rfl)
/-- What Count answers. -/
@[irreducible] noncomputable def cC (n k : Int) : Int := if (0 ≤ n ∧ n ≤ 8) ∧ 0 ≤ k ∧ k ≤ 8 then cN n k else 0
theorem cC_def (n k : Int) : cC n k = if (0 ≤ n ∧ n ≤ 8) ∧ 0 ≤ k ∧ k ≤ 8 then cN n k else 0 := by unfold cC; rfl
theorem cC_in (n k : Int) : 0 ≤ cC n k ∧ cC n k ≤ 4294967296 := by
  rw [cC_def]
  split
  · rename_i h; exact cN_in h.1.2 h.2.2
  · decide
theorem count_walk (n k : Int) (hn : InK .i64 n) (hk : InK .i64 k) : walk FC 0 Tryd.f41 [i64 n, i64 k] [] fun y _ => y = vi (cC n k) := by
  obtain ⟨n1, n2⟩ := hn
  obtain ⟨k1, k2⟩ := hk
  simp only [lowK, highK] at n1 n2 k1 k2
  rw [cC_def]
  rcases Classical.em ((0 ≤ n ∧ n ≤ 8) ∧ 0 ≤ k ∧ k ≤ 8) with h | h
  · rw [if_pos h]
    repeat' ((conv => whnf); first | (refine ask_true (by omega) ?_) | (refine ask_false (by omega) ?_) | (refine And.intro mty ?_) | fail)
    conv => whnf
    refine And.intro ⟨emptyM, rfl, empty_mapI _⟩ (And.intro ⟨by omega, by omega, by omega⟩ fun H' eH => ?_)
    repeat' ((conv => whnf); first | rfl | fail)
  · rw [if_neg h]
    rcases Int.lt_or_le n 0 with h1 | h1
    · repeat' ((conv => whnf); first | (refine ask_true (by omega) ?_) | (refine ask_false (by omega) ?_) | rfl | fail)
    · rcases Int.lt_or_le 8 n with h2 | h2
      · repeat' ((conv => whnf); first | (refine ask_true (by omega) ?_) | (refine ask_false (by omega) ?_) | rfl | fail)
      · rcases Int.lt_or_le k 0 with h3 | h3
        · repeat' ((conv => whnf); first | (refine ask_true (by omega) ?_) | (refine ask_false (by omega) ?_) | rfl | fail)
        · repeat' ((conv => whnf); first | (refine ask_true (by omega) ?_) | (refine ask_false (by omega) ?_) | rfl | fail)
theorem count_ct : CtOk Tryd.prog 41 (ct2 (fun _ _ => True) cC) := ct2_ok FC_ok Tryd.func41 (fun a b _ _ _ => by have := cC_in a b; simp only [InK, lowK, highK]; omega) fun a b ha hb _ => count_walk a b ha hb

/-- How many vectors open with a number less than the one that is s places from the least. -/
noncomputable def rnk (n k : Int) : Nat → Int
  | 0 => 0
  | s + 1 => rnk n k s + cN n (k - szV (s - k))
theorem rnk_next {n k z : Int} (h : 0 ≤ z + k) : rnk n k (z + 1 + k).toNat = rnk n k (z + k).toNat + cN n (k - szV z) := by
  rw [show (z + 1 + k).toNat = (z + k).toNat + 1 by omega]
  show rnk n k (z + k).toNat + cN n (k - szV (((z + k).toNat : Nat) - k)) = _
  rw [show (((z + k).toNat : Nat) : Int) - k = z by omega]
theorem rnk_in {n k : Int} (hn : n ≤ 8) (hk : k ≤ 8) : ∀ s : Nat, 0 ≤ rnk n k s ∧ rnk n k s ≤ 4294967296 * s
  | 0 => ⟨Int.le_refl 0, Int.le_refl 0⟩
  | s + 1 => by
    have h1 := rnk_in hn hk s
    have h2 := szV_in (s - k)
    have h3 := cN_in (n := n) (k := k - szV (s - k)) hn (by omega)
    show 0 ≤ rnk n k s + cN n (k - szV (s - k)) ∧ rnk n k s + cN n (k - szV (s - k)) ≤ _
    omega
def rnkc (row : List Int) (k : Nat) : Nat → Int
  | 0 => 0
  | s + 1 => rnkc row k s + row.getD (k - ((s : Int) - k).natAbs) 0
theorem rnkc_all : (List.range 8).all (fun m => (List.range 9).all fun k => decide (rnkc (crow m) k (2 * k + 1) = (crow (m + 1)).getD k 0)) = true := by kernel_rfl
theorem rnk_c (m k : Nat) (hk : k ≤ 8) : ∀ s : Nat, s ≤ 2 * k + 1 → rnk m k s = rnkc (crow m) k s
  | 0, _ => rfl
  | s + 1, hs => by
    show rnk m k s + cN m (k - szV (s - k)) = rnkc (crow m) k s + (crow m).getD (k - ((s : Int) - k).natAbs) 0
    rw [rnk_c m k hk s (by omega), szV_abs (by omega)]
    have e : (k : Int) - absI (s - k) = ((k - ((s : Int) - k).natAbs : Nat) : Int) := by unfold absI; omega
    rw [e, cN_nat]
theorem rnk_all {m k : Int} (hm : 0 ≤ m ∧ m ≤ 7) (hk : 0 ≤ k ∧ k ≤ 8) : rnk m k (2 * k + 1).toNat = cN (m + 1) k := by
  obtain ⟨m', rfl⟩ : ∃ m' : Nat, m = m' := ⟨m.toNat, by omega⟩
  obtain ⟨k', rfl⟩ : ∃ k' : Nat, k = k' := ⟨k.toNat, by omega⟩
  rw [show (2 * (k' : Int) + 1).toNat = 2 * k' + 1 by omega, rnk_c m' k' (by omega) _ (Nat.le_refl _), show (m' : Int) + 1 = ((m' + 1 : Nat) : Int) by omega, cN_nat]
  have h1 := List.all_eq_true.1 rnkc_all m' (List.mem_range.2 (by omega))
  exact of_decide_eq_true (List.all_eq_true.1 h1 k' (List.mem_range.2 (by omega)))
theorem row_ext {A B : List Int} (hl : A.length = B.length) (h : ∀ j, j < A.length → A.getD j 0 = B.getD j 0) : A = B := by
  refine List.ext_getElem hl fun i h1 h2 => ?_
  have := h i h1
  rwa [List.getD_eq_getElem?_getD, List.getD_eq_getElem?_getD, List.getElem?_eq_getElem h1, List.getElem?_eq_getElem h2] at this
theorem cC_nat {a b : Nat} (ha : a ≤ 8) (hb : b ≤ 8) : cC a b = (crow a).getD b 0 := by rw [cC_def, if_pos (by omega), cN_nat]
noncomputable def FR9 : Fns := F0.plus 36 (ct1 (fun _ => True) szF)
theorem FR9_ok : FnsOk Tryd.prog FR9 := F0_ok.plus rsize_ct Tryd.func36 (by kernel_rfl) (by kernel_rfl)
noncomputable def cRow (m : Int) (K : Nat) : List Int := (List.range K).map fun a : Nat => cN m a
theorem cRow_len (m : Int) (K : Nat) : (cRow m K).length = K := by simp [cRow]
theorem cRow_at (m : Int) {K a : Nat} (h : a < K) : (cRow m K).getD a 0 = cN m a := by unfold cRow; rw [getD_range h]
theorem rep_at (n i : Nat) : (List.replicate n (0 : Int)).getD i 0 = 0 := by
  rw [List.getD_eq_getElem?_getD, List.getElem?_replicate]; split <;> rfl
theorem cRow_zero {K : Nat} (h0 : 0 < K) (h : K ≤ 9) : (List.replicate K (0 : Int)).set 0 1 = cRow 0 K := by
  refine row_ext (by simp [cRow_len]) fun j hj => ?_
  have hj' : j < K := by simpa using hj
  rw [cRow_at 0 hj']
  rcases Nat.eq_zero_or_pos j with rfl | h1
  · rw [List.getD_eq_getElem?_getD, List.getElem?_set]; simp [h0]; exact cN_zero.symm
  · rw [List.getD_eq_getElem?_getD, List.getElem?_set, if_neg (by omega), ← List.getD_eq_getElem?_getD, rep_at, cN_none (by omega) (by omega)]
theorem set_at {xs : List Int} {i : Nat} {v : Int} (h : i < xs.length) : (xs.set i v).getD i 0 = v := by
  rw [List.getD_eq_getElem?_getD, List.getElem?_set]; simp [h]
theorem set_set {xs : List Int} {i : Nat} {v u : Int} : (xs.set i v).set i u = xs.set i u := List.set_set ..
theorem szF_szV {x : Int} (h : -8 ≤ x ∧ x ≤ 8) : szF x = szV x := by
  rw [szV_abs h, szF_abs (by omega)]; unfold absI; omega
def rhoW (j : Nat) : Nat := if j = 1 then 0 else if j = 0 then 1 else j
theorem rhoW_inj {i j : Nat} (h : rhoW i = rhoW j) : i = j := by
  unfold rhoW at h
  split at h <;> split at h <;> (try split at h) <;> (try split at h) <;> omega
theorem rcount_walk (n k : Int) (hn : 0 ≤ n ∧ n ≤ 8) (hk : 0 ≤ k ∧ k ≤ 8) : walk FR9 0 Tryd.f42 [i64 n, i64 k] [] fun y _ => y = vi (cN n k) := by
  have eb : (Tryd.prog.types[3]).bytes = 8 := by kernel_rfl
  have nk : (natI (k + 1)) = (k + 1).toNat := rfl
  have em : ∀ i : Int, mulN i.toNat (Tryd.prog.types[3]).size = i.toNat := fun i => mulN1 _
  have em0 : 0 + mulN (Int.toNat 0) (Tryd.prog.types[3]).size = 0 := em 0
  have hW0 : (List.replicate (natI (k + 1)) (0 : Int)).set (0 + mulN (Int.toNat 0) (Tryd.prog.types[3]).size) 1 = cRow 0 (natI (k + 1)) := by rw [em0]; exact cRow_zero (by omega) (by omega)
  repeat' ((conv => whnf); first | (refine And.intro ⟨by omega, by omega, by omega, by rw [eb]; omega⟩ ?_) | (refine ask_wrap64 (by omega) (by omega) ?_) | (refine And.intro (by omega) ?_) | fail)
  conv => whnf
  refine loop_ren (List.range' 5 46) (fun m (s : Int × List Int) => 0 ≤ s.1 ∧ s.1 ≤ n ∧ m = (n - s.1).toNat ∧ s.2 = cRow s.1 (natI (k + 1))) (fun s => [(5, .w (.c (.csl 0 0 0 (natI (k + 1)) (natI (k + 1))))), (6, vi s.1)]) (fun s => [.own 3 [.ints .i64 (natI (k + 1)) s.2]]) n.toNat (0, (List.replicate (natI (k + 1)) 0).set (0 + mulN (Int.toNat 0) (Tryd.prog.types[3]).size) 1) ⟨Int.le_refl 0, by omega, by omega, hW0⟩ id ?_ ?_
  · refine ⟨?_, ?_, fun _ _ _ _ h => h, fun _ _ => rfl, rfl, rfl, Nat.le_of_ble_eq_true rfl⟩
    · repeat' (first | exact trivial | refine And.intro rfl ?_ | fail)
    · repeat' (first | exact trivial | refine And.intro rfl ?_ | fail)
  · rintro _ ⟨i, W⟩ ⟨i0, i1, rfl, hW⟩
    have i0 : 0 ≤ i := i0
    have i1 : i ≤ n := i1
    have hW : W = cRow i (natI (k + 1)) := hW
    rcases Int.lt_or_le i n with i2 | i2
    · repeat' ((conv => whnf); first | (refine ask_true (by omega) ?_) | (refine And.intro ⟨by omega, by omega, by omega, by rw [eb]; omega⟩ ?_) | (refine ask_wrap64 (by omega) (by omega) ?_) | (refine And.intro (by omega) ?_) | fail)
      conv => whnf
      refine loop_at2 (8 :: 9 :: List.range' 23 27) (fun m (a : Int) (R : List Int) => 0 ≤ a ∧ a ≤ k + 1 ∧ m = (k + 1 - a).toNat ∧ R = stg (cRow (i + 1) (natI (k + 1))) (List.replicate (natI (k + 1)) 0) a) (fun a _ => [(8, vi a)]) (fun _ R => [.own 3 [.ints .i64 (natI (k + 1)) W], .own 3 [.ints .i64 (natI (k + 1)) R]]) (k + 1).toNat 0 (List.replicate (natI (k + 1)) 0) ⟨by decide, by omega, by omega, (stg_zero _ _).symm⟩ ?_ ?_
      · exact ⟨rfl, ⟨⟨Nat.le_of_ble_eq_true rfl, rfl⟩, trivial⟩, ⟨rfl, rfl, trivial⟩, rfl, rfl, Nat.le_of_ble_eq_true rfl⟩
      · rintro _ a R ⟨a0, a1, rfl, hR⟩
        have sl : (stg (cRow (i + 1) (natI (k + 1))) (List.replicate (natI (k + 1)) 0) a).length = (natI (k + 1)) := by unfold stg; rw [List.length_append, List.length_take, List.length_drop, cRow_len, List.length_replicate]; omega
        rcases Int.lt_or_le a (k + 1) with a2 | a2
        · repeat' ((conv => whnf); first | (refine ask_true (by omega) ?_) | (refine ask_wrap64 (by omega) (by omega) ?_) | fail)
          conv => whnf
          have hz : R.getD a.toNat 0 = 0 := by rw [hR, stg_at rfl (by rw [cRow_len, List.length_replicate]) a0 (by rw [List.length_replicate]; omega), rep_at]
          have Rl : R.length = (natI (k + 1)) := by rw [hR, sl]
          refine loop_at2 (9 :: List.range' 30 20) (fun m (x : Int) (S : List Int) => -a ≤ x ∧ x ≤ a + 1 ∧ m = (a + 1 - x).toNat ∧ S = R.set a.toNat (rnk i a (x + a).toNat)) (fun x _ => [(9, vi x)]) (fun _ S => [.own 3 [.ints .i64 (natI (k + 1)) W], .own 3 [.ints .i64 (natI (k + 1)) S]]) (2 * a + 1).toNat (0 - a) R ⟨by omega, by omega, by omega, by rw [show (0 - a + a).toNat = 0 by omega]; exact (set_same hz).symm⟩ ?_ ?_
          · exact ⟨rfl, ⟨⟨Nat.le_of_ble_eq_true rfl, rfl⟩, trivial⟩, ⟨rfl, rfl, trivial⟩, rfl, rfl, Nat.le_of_ble_eq_true rfl⟩
          · rintro _ x S ⟨x0, x1, rfl, hS⟩
            have Sl : S.length = (natI (k + 1)) := by rw [hS, List.length_set, Rl]
            rcases Int.lt_or_le x (a + 1) with x2 | x2
            · have ex : szF x = szV x := szF_szV (by omega)
              have sx := szV_abs (x := x) (by omega)
              have sa : 0 ≤ szF x ∧ szF x ≤ a := by rw [ex, sx]; unfold absI; omega
              have e1 : S.getD (0 + mulN a.toNat (Tryd.prog.types[3]).size) 0 = rnk i a (x + a).toNat := by rw [em, Nat.zero_add, hS, set_at (by omega)]
              have e2 : W.getD (0 + mulN (a - szF x).toNat (Tryd.prog.types[3]).size) 0 = cN i (a - szV x) := by rw [em, Nat.zero_add, hW, cRow_at i (by omega), Int.toNat_of_nonneg (by omega), ex]
              have ea := em a
              have eax := em (a - szF x)
              have rn := rnk_next (n := i) (k := a) (z := x) (by omega)
              have ri := rnk_in (n := i) (k := a) (by omega) (by omega) (x + a).toNat
              have ci := cN_in (n := i) (k := a - szV x) (by omega) (by omega)
              repeat' ((conv => whnf); first | (refine ask_true (by omega) ?_) | (refine And.intro trivial ?_) | (refine And.intro (by omega) ?_) | (refine fun (_ : InK _ _) => ?_) | (refine ask_wrap64 (by omega) (by omega) ?_) | (refine ⟨by kernel_rfl, ?_⟩) | fail)
              conv => whnf
              refine ⟨(a + 1 - (x + 1)).toNat, (x + 1, S.set (0 + mulN a.toNat (Tryd.prog.types[3]).size) (S.getD (0 + mulN a.toNat (Tryd.prog.types[3]).size) 0 + W.getD (0 + mulN (a - szF x).toNat (Tryd.prog.types[3]).size) 0)), by omega, ⟨by show -a ≤ x + 1; omega, by show x + 1 ≤ a + 1; omega, rfl, ?_⟩, rfl, ⟨⟨Nat.le_of_ble_eq_true rfl, rfl⟩, trivial⟩, ⟨rfl, rfl, trivial⟩, rfl, rfl, Nat.le_of_ble_eq_true rfl⟩
              show S.set (0 + mulN a.toNat (Tryd.prog.types[3]).size) (S.getD (0 + mulN a.toNat (Tryd.prog.types[3]).size) 0 + W.getD (0 + mulN (a - szF x).toNat (Tryd.prog.types[3]).size) 0) = R.set a.toNat (rnk i a (x + 1 + a).toNat)
              rw [e1, e2, ← rn, em, Nat.zero_add, hS, set_set]
            · have ra := rnk_all (m := i) (k := a) (by omega) (by omega)
              repeat' ((conv => whnf); first | (refine ask_false (by omega) ?_) | (refine ask_wrap64 (by omega) (by omega) ?_) | fail)
              conv => whnf
              refine ⟨(k + 1 - (a + 1)).toNat, (a + 1, S), by omega, ⟨by show 0 ≤ a + 1; omega, by show a + 1 ≤ k + 1; omega, rfl, ?_⟩, rfl, ⟨⟨Nat.le_of_ble_eq_true rfl, rfl⟩, trivial⟩, ⟨rfl, rfl, trivial⟩, rfl, rfl, Nat.le_of_ble_eq_true rfl⟩
              show S = stg (cRow (i + 1) (natI (k + 1))) (List.replicate (natI (k + 1)) 0) (a + 1)
              rw [hS, show x + a = 2 * a + 1 by omega, ra, hR]
              exact stg_set rfl (by rw [cRow_len, List.length_replicate]) a0 (by rw [cRow_len]; omega) (by rw [cRow_at _ (by omega), Int.toNat_of_nonneg a0])
        · have Rf : R = cRow (i + 1) (natI (k + 1)) := by rw [hR]; exact stg_all (by rw [cRow_len, List.length_replicate]) (by rw [cRow_len]; omega)
          repeat' ((conv => whnf); first | (refine ask_false (by omega) ?_) | (refine ask_wrap64 (by omega) (by omega) ?_) | fail)
          conv => whnf
          refine ⟨(n - (i + 1)).toNat, (i + 1, R), rhoW, by omega, ⟨by show 0 ≤ i + 1; omega, by show i + 1 ≤ n; omega, rfl, Rf⟩, ⟨?_, And.intro rfl trivial, fun _ _ _ _ h => rhoW_inj h, fun p hp => absurd hp (Nat.not_lt_zero p), rfl, rfl, Nat.le_of_ble_eq_true rfl⟩⟩
          repeat' (first | exact trivial | refine And.intro rfl ?_ | fail)
    · have e : W.getD (0 + mulN k.toNat (Tryd.prog.types[3]).size) 0 = cN n k := by rw [em, Nat.zero_add, hW, cRow_at i (by omega), Int.toNat_of_nonneg hk.1, show i = n by omega]
      have ek := em k
      repeat' ((conv => whnf); first | (refine ask_false (by omega) ?_) | (refine And.intro (by omega) ?_) | (refine fun (_ : InK _ _) => ?_) | fail)
      conv => whnf
      exact congrArg vi e
theorem rcount_ct : CtOk Tryd.prog 42 (ct2 (fun n k => (0 ≤ n ∧ n ≤ 8) ∧ 0 ≤ k ∧ k ≤ 8) cN) := ct2_ok FR9_ok Tryd.func42 (fun a b _ _ h => by have := cN_in (n := a) (k := b) (by omega) (by omega); simp only [InK, lowK, highK]; omega) fun a b _ _ h => rcount_walk a b h.1 h.2
noncomputable def FBi : Fns := (F0.plus 41 (ct2 (fun _ _ => True) cC)).plus 32 (ct1 (fun x => -9223372036854775808 < x) lengthS)
theorem FBi_ok : FnsOk Tryd.prog FBi := (F0_ok.plus count_ct Tryd.func41 (by kernel_rfl) (by kernel_rfl)).plus length_ct Tryd.func32 (by kernel_rfl) (by kernel_rfl)
noncomputable def bitS (n k : Int) : Int := lenS (max (cC n k - 1) 0)
theorem len_pos {x : Int} (h : 0 ≤ x) : lengthS x = lenS x := by rw [lengthS_def, if_neg (by omega)]
theorem bits_walk (n k : Int) (hn : InK .i64 n) (hk : InK .i64 k) : walk FBi 0 Tryd.f26 [i64 n, i64 k] [] fun y _ => y = vi (bitS n k) := by
  have c1 := cC_in n k
  repeat' ((conv => whnf); first | (refine And.intro trivial ?_) | (refine ask_wrap64 (by omega) (by omega) ?_) | (refine And.intro (by omega) ?_) | fail)
  conv => whnf
  exact congrArg vi (len_pos (by omega))
theorem bitS_in (n k : Int) : 0 ≤ bitS n k ∧ bitS n k ≤ 64 := by
  have c1 := cC_in n k
  exact len_small (by omega)
theorem bits_ct : CtOk Tryd.prog 26 (ct2 (fun _ _ => True) bitS) := ct2_ok FBi_ok Tryd.func26 (fun a b _ _ _ => by have := bitS_in a b; simp only [InK, lowK, highK]; omega) fun a b ha hb _ => bits_walk a b ha hb
end Go.Proofs.YtmkdamfdlkpjdaaDoor
