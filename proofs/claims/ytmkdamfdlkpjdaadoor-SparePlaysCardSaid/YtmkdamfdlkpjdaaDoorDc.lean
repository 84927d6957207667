/- Chapter level: sums, bands, what is put. -/
import Derived.Test.YtmkdamfdlkpjdaaDoorDb
set_option linter.all false
namespace Go.Proofs.YtmkdamfdlkpjdaaDoor
open Go.RowKit (Below)
set_option maxRecDepth 100000
set_option maxHeartbeats 32000000

/-! ### sums -/
/-- A number without its sign, 2 to the 40 at most. -/
@[irreducible] def szF (x : Int) : Int := max (max (min x 1099511627776) (-1099511627776)) (0 - max (min x 1099511627776) (-1099511627776))
theorem szF_def (x : Int) : szF x = max (max (min x 1099511627776) (-1099511627776)) (0 - max (min x 1099511627776) (-1099511627776)) := by unfold szF; rfl
theorem szF_in (x : Int) : 0 ≤ szF x ∧ szF x ≤ 1099511627776 := by rw [szF_def]; omega
theorem szF_abs {x : Int} (h : -1099511627776 ≤ x ∧ x ≤ 1099511627776) : szF x = if x < 0 then -x else x := by rw [szF_def]; omega
def sumF (xs : List Int) : Nat → Int
  | 0 => 0
  | i + 1 => sumF xs i + szF (xs.getD i 0)
theorem sumF_in (xs : List Int) : ∀ i : Nat, 0 ≤ sumF xs i ∧ sumF xs i ≤ 1099511627776 * i
  | 0 => ⟨Int.le_refl 0, Int.le_refl 0⟩
  | i + 1 => by
    have := sumF_in xs i
    have := szF_in (xs.getD i 0)
    show 0 ≤ sumF xs i + szF (xs.getD i 0) ∧ sumF xs i + szF (xs.getD i 0) ≤ 1099511627776 * ((i + 1 : Nat) : Int)
    omega
theorem sum_walk (xs : List Int) (l : Nat) (hl : l ≤ xs.length) (hc : xs.length ≤ 9223372036854775807) (hx : ∀ x ∈ xs, InK .i64 x) (h10 : l ≤ 1000) :
    walk F0 0 Tryd.f33 [.c (.csl 0 0 0 l xs.length)] [.ro [.ints .i64 xs.length xs]] (Made fun x N => x = vi (sumF xs l) ∧ N = []) := by
  conv => whnf
  refine loop_at (3 :: 4 :: 5 :: List.range' 8 14) (fun m (i : Int) => 0 ≤ i ∧ i ≤ l ∧ m = (l - i).toNat) (fun i => [(3, vi (sumF xs i.toNat)), (8, vi i)]) (fun _ => [.ro [.ints .i64 xs.length xs]]) l 0 ⟨by decide, by omega, by omega⟩ ?_ ?_
  · exact ⟨rfl, ⟨⟨Nat.le_of_ble_eq_true rfl, rfl⟩, ⟨Nat.le_of_ble_eq_true rfl, rfl⟩, trivial⟩, ⟨rfl, trivial⟩, rfl, rfl, Nat.le_of_ble_eq_true rfl⟩
  · rintro m i ⟨i0, i1, rfl⟩
    have em : mulN i.toNat (Tryd.prog.types[3]).size = i.toNat := mulN1 _
    have si := sumF_in xs i.toNat
    rcases Int.lt_or_le i l with i2 | i2
    · have ex : xs.getD (0 + mulN i.toNat (Tryd.prog.types[3]).size) 0 = xs.getD i.toNat 0 := by rw [em, Nat.zero_add]
      have hs : sumF xs (i + 1).toNat = sumF xs i.toNat + szF (xs.getD i.toNat 0) := by rw [show (i + 1).toNat = i.toNat + 1 by omega]; rfl
      rw [szF_def, ← ex] at hs
      repeat' ((conv => whnf); first | (refine ask_true (by omega) ?_) | (refine And.intro (by omega) ?_) | (refine fun (_ : InK _ _) => ?_) | (refine ask_wrap64 (by omega) (by omega) ?_) | fail)
      conv => whnf
      exact ⟨(l - (i + 1)).toNat, i + 1, by omega, ⟨by omega, by omega, rfl⟩, rfl, ⟨⟨Nat.le_of_ble_eq_true rfl, congrArg vi hs.symm⟩, ⟨Nat.le_of_ble_eq_true rfl, rfl⟩, trivial⟩, ⟨rfl, trivial⟩, rfl, rfl, Nat.le_of_ble_eq_true rfl⟩
    · repeat' ((conv => whnf); first | (refine ask_false (by omega) ?_) | fail)
      conv => whnf
      have e : i.toNat = l := by omega
      show Made (fun x N => x = vi (sumF xs l) ∧ N = []) (vi (sumF xs i.toNat)) _
      rw [e]
      exact made_of (vi (sumF xs l)) [] id ⟨rfl, rfl⟩ rfl trivial (fun p q hp _ _ => absurd hp (Nat.not_lt_zero p)) rfl rfl (by intro e; cases e)
theorem sum_nil : walk F0 0 Tryd.f33 [.c .csn] [] (Made fun x N => x = vi 0 ∧ N = []) := by
  conv => whnf
  refine loop_at (3 :: 4 :: 5 :: List.range' 8 14) (fun m (i : Int) => i = 0 ∧ m = 0) (fun i => [(3, vi 0), (8, vi i)]) (fun _ => []) 0 0 ⟨rfl, rfl⟩ ?_ ?_
  · exact ⟨rfl, ⟨⟨Nat.le_of_ble_eq_true rfl, rfl⟩, ⟨Nat.le_of_ble_eq_true rfl, rfl⟩, trivial⟩, trivial, rfl, rfl, Nat.le_of_ble_eq_true rfl⟩
  · rintro m i ⟨rfl, rfl⟩
    repeat' ((conv => whnf); first | (refine ask_false (by decide) ?_) | fail)
    conv => whnf
    exact made_of (vi 0) [] id ⟨rfl, rfl⟩ rfl trivial (fun p q hp _ _ => absurd hp (Nat.not_lt_zero p)) rfl rfl (by intro e; cases e)
def hSum : HCt := fun ws H K => match ws with
  | [.c .csn] => K (vi 0) H
  | [.c x] => slK H x fun _ l xs => l ≤ 1000 ∧ K (vi (sumF xs l)) H
  | _ => False
theorem int_mine {v : Int} : ∀ (x : V) (N : List Blk), (x = vi v ∧ N = []) → ∀ b ∈ N, b.mine = true ∨ b = .gone := by
  rintro x N ⟨_, rfl⟩ b hb; cases hb
theorem int_K {v : Int} {H : List Blk} {K : V → List Blk → Prop} (h : K (vi v) H) : ∀ x N, (x = vi v ∧ N = []) → K (x.ren (sh H.length)) (H ++ N.map (Blk.ren (sh H.length))) := by
  rintro x N ⟨rfl, rfl⟩
  simpa [V.ren, W.ren, C.ren] using h
theorem sum_ct : HCtOk Tryd.prog 33 hSum := by
  intro ws H K h hr hb ho G σ base w₀ w hw
  unfold hSum at h
  split at h
  · exact walk_lift F0_ok Tryd.func33 (n := 0) (ws := [.c .csn]) (R := []) nil_ok ⟨trivial, trivial⟩ rfl sum_nil int_mine id no_ro rfl (int_K h) ho G σ base w₀ w hw
  · rename_i x _
    obtain ⟨j, l, xs, h', hx, g1, g2, g3, g4⟩ := slK_spec h ho hr.1
    clear h
    subst hx
    exact walk_lift F0_ok Tryd.func33 (n := 0) (ws := [.c (.csl 0 0 0 l xs.length)]) (R := [.ro [.ints .i64 xs.length xs]]) (ro_ok g3) ⟨⟨g1, g2⟩, trivial⟩ rfl (sum_walk xs l g1 g2 g3 h'.1) int_mine (fun _ => j) (ro_at g4) rfl (int_K h'.2) ho G σ base w₀ w hw
  · exact h.elim

/-! ### a band -/
def bandZ (xs : List Int) (b : Int) : List Int := if 0 ≤ b ∧ b ≤ 3 then (xs.drop (fst b).toNat).take (sizeS b).toNat else []
theorem bandZ_len {xs : List Int} (h : xs.length = 16) (b : Int) : (bandZ xs b).length = (sizeS b).toNat := by
  unfold bandZ
  split
  · rename_i hb
    have := fst_ok hb
    unfold sizeS
    rw [if_pos hb]
    simp; omega
  · rename_i hb
    unfold sizeS
    rw [if_neg hb]; rfl
theorem band_walk (xs : List Int) (b : Int) (h : xs.length = 16) (hb : InK .i64 b) : walkg FM 1 Tryd.f18 [.agg [.ints .i64 16 xs], i64 b] [] (Made (rowP (bandZ xs b))) := by
  obtain ⟨b1, b2⟩ := hb
  simp only [lowK, highK] at b1 b2
  have hlen := bandZ_len h b
  rcases Classical.em (0 ≤ b ∧ b ≤ 3) with hh | hh
  · have e0 := @fst_at b
    have e1 := @fst_at (b + 1)
    have em0 : mulN b.toNat (Tryd.prog.types[3]).size = b.toNat := mulN1 _
    have em1 : mulN (b + 1).toNat (Tryd.prog.types[3]).size = (b + 1).toNat := mulN1 _
    have f := fst_ok hh
    have hs : sizeS b = fst (b + 1) - fst b := by unfold sizeS; rw [if_pos hh]
    have n0 : natI (([0, 2, 4, 8, 16] : List Int).getD (mulN b.toNat (Tryd.prog.types[3]).size) 0) = (fst b).toNat := by rw [e0]; rfl
    have n1 : natI (([0, 2, 4, 8, 16] : List Int).getD (mulN (b + 1).toNat (Tryd.prog.types[3]).size) 0) = (fst (b + 1)).toNat := by rw [e1]; rfl
    have em2 : mulN (natI (([0, 2, 4, 8, 16] : List Int).getD (mulN b.toNat (Tryd.prog.types[3]).size) 0)) (Tryd.prog.types[3]).size = natI (([0, 2, 4, 8, 16] : List Int).getD (mulN b.toNat (Tryd.prog.types[3]).size) 0) := mulN1 _
    repeat' ((conv => whnf); first | (refine ask_true (by omega) ?_) | (refine ask_false (by omega) ?_) | (refine ask_wrap64 (by omega) (by omega) ?_) | (refine And.intro (by omega) ?_) | (refine fun (_ : InK _ _) => ?_) | (refine ⟨by kernel_rfl, ?_⟩) | fail)
    conv => whnf
    refine And.intro ⟨by omega, by omega, by rw [show (Tryd.prog.types[3]).bytes = 8 by kernel_rfl]; omega⟩ (fresh_as (zs := bandZ xs b) ?_ fun c R h1 h2 h3 => ?_)
    · rw [em2, n0, n1]
      unfold bandZ
      rw [if_pos hh, hs]
      congr 1
      omega
    · have em : natI (([0, 2, 4, 8, 16] : List Int).getD (mulN (b + 1).toNat (Tryd.prog.types[3]).size) 0) - natI (([0, 2, 4, 8, 16] : List Int).getD (mulN b.toNat (Tryd.prog.types[3]).size) 0) = (bandZ xs b).length := by omega
      conv => whnf
      exact made_of (P0 := rowP (bandZ xs b)) (.w (.c (.csl 0 0 0 (natI (([0, 2, 4, 8, 16] : List Int).getD (mulN (b + 1).toNat (Tryd.prog.types[3]).size) 0) - natI (([0, 2, 4, 8, 16] : List Int).getD (mulN b.toNat (Tryd.prog.types[3]).size) 0)) c))) [.own 3 [.ints .i64 c (bandZ xs b ++ R)]] (fun _ => 1) (.inr ⟨fun e => by have e3 := congrArg List.length e; rw [List.length_nil] at e3; omega, c, R, by omega, h2, by omega, by rw [em], rfl⟩) rfl (And.intro rfl trivial) (fun p q hp hq _ => by have hp' : p < 1 := hp; have hq' : q < 1 := hq; omega) rfl rfl (by intro e; cases e)
  · have e : bandZ xs b = [] := by unfold bandZ; rw [if_neg hh]
    rcases Int.lt_or_le b 0 with h2 | h2
    all_goals repeat' ((conv => whnf); first | (refine ask_true (by omega) ?_) | (refine ask_false (by omega) ?_) | fail)
    all_goals (conv => whnf)
    all_goals exact made_of (.w (.c .csn)) [] id (.inl ⟨e, rfl, rfl⟩) rfl trivial (fun p q hp _ _ => absurd hp (Nat.not_lt_zero p)) rfl rfl (by intro e; cases e)
def hBand : HCt := fun ws H K => match ws with
  | [.agg [.ints .i64 16 xs], .c (.ci .i64 b)] => rowK H (bandZ xs b) K
  | _ => False
theorem band_ct : HCtOkG Tryd.prog G1 18 hBand := by
  intro ws H K h hr hb ho σ base w₀ w hw
  unfold hBand at h
  split at h
  · rename_i xs b
    exact walkg_lift FM_ok Tryd.func18 (n := 1) (ws := [.agg [.ints .i64 16 xs], i64 b]) (R := []) nil_ok ⟨hr.1, hr.2.1, trivial⟩ rfl (band_walk xs b hr.1.1.1 hr.2.1) row_mine id no_ro rfl (row_K h) ho σ base w₀ w hw
  · exact h.elim

/-! ### what is put -/
def putZ (xs : List Int) (b : Int) (cs : List Int) : List Int := if (0 ≤ b ∧ b ≤ 3) ∧ (cs.length : Int) = sizeS b then xs.take (fst b).toNat ++ cs ++ xs.drop (fst (b + 1)).toNat else xs
theorem putZ_len {xs : List Int} (h : xs.length = 16) (b : Int) (cs : List Int) : (putZ xs b cs).length = 16 := by
  unfold putZ
  split
  · rename_i hb
    have f := fst_ok hb.1
    have e := hb.2
    unfold sizeS at e
    rw [if_pos hb.1] at e
    simp; omega
  · exact h
noncomputable def FU : Fns := FM.plus 17 (ct1 (fun _ => True) sizeS)
theorem FU_ok : FnsOk Tryd.prog FU G1 := FM_ok.plusG size_ct Tryd.func17 (by kernel_rfl) (by kernel_rfl)
def putP (xs : List Int) (x : V) (N : List Blk) : Prop := x = .w (.agg [.ints .i64 16 xs]) ∧ N = []
theorem put_made {xs : List Int} {H' : List Blk} : Made (putP xs) (.w (.agg [.ints .i64 16 xs])) H' := made_of (.w (.agg [.ints .i64 16 xs])) [] id ⟨rfl, rfl⟩ rfl trivial (fun p q hp _ _ => absurd hp (Nat.not_lt_zero p)) rfl rfl (by intro e; cases e)
theorem put_mine {xs : List Int} : ∀ (x : V) (N : List Blk), putP xs x N → ∀ b ∈ N, b.mine = true ∨ b = .gone := by
  rintro x N ⟨_, rfl⟩ b hb; cases hb
theorem put_K {xs : List Int} {H : List Blk} {K : V → List Blk → Prop} (h : K (.w (.agg [.ints .i64 16 xs])) H) : ∀ x N, putP xs x N → K (x.ren (sh H.length)) (H ++ N.map (Blk.ren (sh H.length))) := by
  rintro x N ⟨rfl, rfl⟩
  simpa [V.ren, W.ren, rens, Seg.ren] using h
theorem put_nil (xs : List Int) (b : Int) (h : xs.length = 16) (hb : InK .i64 b) : walkg FU 1 Tryd.f16 [.agg [.ints .i64 16 xs], i64 b, .c .csn] [] (Made (putP (putZ xs b []))) := by
  obtain ⟨b1, b2⟩ := hb
  simp only [lowK, highK] at b1 b2
  have e : putZ xs b [] = xs := by
    unfold putZ
    refine if_neg fun hh => ?_
    have f := fst_ok hh.1
    have e := hh.2
    unfold sizeS at e
    rw [if_pos hh.1] at e
    simp at e; omega
  rw [e]
  rcases Classical.em (0 ≤ b ∧ b ≤ 3) with hh | hh
  · have f := fst_ok hh
    have hs : sizeS b = fst (b + 1) - fst b := by unfold sizeS; rw [if_pos hh]
    repeat' ((conv => whnf); first | (refine ask_true (by omega) ?_) | (refine ask_false (by omega) ?_) | (refine And.intro trivial ?_) | (refine ⟨by kernel_rfl, ?_⟩) | fail)
    exact put_made
  · rcases Int.lt_or_le b 0 with h2 | h2
    all_goals repeat' ((conv => whnf); first | (refine ask_true (by omega) ?_) | (refine ask_false (by omega) ?_) | fail)
    all_goals exact put_made
theorem put_walk (xs : List Int) (b : Int) (h : xs.length = 16) (hb : InK .i64 b) (ys : List Int) (l : Nat) (hl : l ≤ ys.length) (hc : ys.length ≤ 9223372036854775807) (hy : ∀ y ∈ ys, InK .i64 y) :
    walkg FU 1 Tryd.f16 [.agg [.ints .i64 16 xs], i64 b, .c (.csl 0 0 0 l ys.length)] [.ro [.ints .i64 ys.length ys]] (Made (putP (putZ xs b (ys.take l)))) := by
  obtain ⟨b1, b2⟩ := hb
  simp only [lowK, highK] at b1 b2
  have lt : (ys.take l).length = l := by simp; omega
  rcases Classical.em (0 ≤ b ∧ b ≤ 3) with hh | hh
  · have f := fst_ok hh
    have hs : sizeS b = fst (b + 1) - fst b := by unfold sizeS; rw [if_pos hh]
    rcases Classical.em ((l : Int) = sizeS b) with hz | hz
    · have e : putZ xs b (ys.take l) = xs.take (fst b).toNat ++ ys.take l ++ xs.drop (fst (b + 1)).toNat := by unfold putZ; rw [if_pos ⟨hh, by rw [lt]; exact hz⟩]
      rw [e]
      have e0 := @fst_at b
      have em0 : mulN b.toNat (Tryd.prog.types[3]).size = b.toNat := mulN1 _
      have n0 : natI (([0, 2, 4, 8, 16] : List Int).getD (mulN b.toNat (Tryd.prog.types[3]).size) 0) = (fst b).toNat := by rw [e0]; rfl
      have em2 : mulN (natI (([0, 2, 4, 8, 16] : List Int).getD (mulN b.toNat (Tryd.prog.types[3]).size) 0)) (Tryd.prog.types[3]).size = natI (([0, 2, 4, 8, 16] : List Int).getD (mulN b.toNat (Tryd.prog.types[3]).size) 0) := mulN1 _
      repeat' ((conv => whnf); first | (refine ask_true (by omega) ?_) | (refine ask_false (by omega) ?_) | (refine And.intro trivial ?_) | (refine And.intro (by omega) ?_) | (refine fun (_ : InK _ _) => ?_) | (refine ⟨by kernel_rfl, ?_⟩) | fail)
      have ez : (List.take (mulN (natI (([0, 2, 4, 8, 16] : List Int).getD (mulN b.toNat (Tryd.prog.types[3]).size) 0)) (Tryd.prog.types[3]).size) xs ++ List.take (16 - natI (([0, 2, 4, 8, 16] : List Int).getD (mulN b.toNat (Tryd.prog.types[3]).size) 0)) (List.take l (List.drop 0 ys)) ++ List.drop (mulN (natI (([0, 2, 4, 8, 16] : List Int).getD (mulN b.toNat (Tryd.prog.types[3]).size) 0)) (Tryd.prog.types[3]).size + min l (16 - natI (([0, 2, 4, 8, 16] : List Int).getD (mulN b.toNat (Tryd.prog.types[3]).size) 0))) xs) = xs.take (fst b).toNat ++ ys.take l ++ xs.drop (fst (b + 1)).toNat := by
        rw [em2, n0, List.drop_zero, List.take_of_length_le (l := List.take l ys) (by omega)]
        congr 2
        omega
      rw [ez]
      repeat' ((conv => whnf); first | fail)
      exact put_made
    · have e : putZ xs b (ys.take l) = xs := by unfold putZ; rw [if_neg fun hq => hz (by rw [lt] at hq; exact hq.2)]
      rw [e]
      repeat' ((conv => whnf); first | (refine ask_true (by omega) ?_) | (refine ask_false (by omega) ?_) | (refine And.intro trivial ?_) | (refine ⟨by kernel_rfl, ?_⟩) | fail)
      exact put_made
  · have e : putZ xs b (ys.take l) = xs := by unfold putZ; rw [if_neg fun hq => hh hq.1]
    rw [e]
    rcases Int.lt_or_le b 0 with h2 | h2
    all_goals repeat' ((conv => whnf); first | (refine ask_true (by omega) ?_) | (refine ask_false (by omega) ?_) | fail)
    all_goals exact put_made
def hPut : HCt := fun ws H K => match ws with
  | [.agg [.ints .i64 16 xs], .c (.ci .i64 b), .c .csn] => K (.w (.agg [.ints .i64 16 (putZ xs b [])])) H
  | [.agg [.ints .i64 16 xs], .c (.ci .i64 b), .c x] => slK H x fun _ l ys => K (.w (.agg [.ints .i64 16 (putZ xs b (ys.take l))])) H
  | _ => False
theorem put_ct : HCtOkG Tryd.prog G1 16 hPut := by
  intro ws H K h hr hb ho σ base w₀ w hw
  unfold hPut at h
  split at h
  · rename_i xs b
    exact walkg_lift FU_ok Tryd.func16 (n := 1) (ws := [.agg [.ints .i64 16 xs], i64 b, .c .csn]) (R := []) nil_ok ⟨hr.1, hr.2.1, trivial, trivial⟩ rfl (put_nil xs b hr.1.1.1 hr.2.1) put_mine id no_ro rfl (put_K h) ho σ base w₀ w hw
  · rename_i xs b x _
    obtain ⟨j, l, ys, h', hx, g1, g2, g3, g4⟩ := slK_spec h ho hr.2.2.1
    clear h
    subst hx
    exact walkg_lift FU_ok Tryd.func16 (n := 1) (ws := [.agg [.ints .i64 16 xs], i64 b, .c (.csl 0 0 0 l ys.length)]) (R := [.ro [.ints .i64 ys.length ys]]) (ro_ok g3) ⟨hr.1, hr.2.1, ⟨g1, g2⟩, trivial⟩ rfl (put_walk xs b hr.1.1.1 hr.2.1 ys l g1 g2 g3) put_mine (fun _ => j) (ro_at g4) rfl (put_K h') ho σ base w₀ w hw
  · exact h.elim

/-! ### levels -/
noncomputable def levS (xs : List Int) (b : Int) : Int := min (lengthS (sumF (bandZ xs b) (bandZ xs b).length)) 20
noncomputable def levZ (xs : List Int) : List Int := (List.range 4).map fun (b : Nat) => levS xs (b : Int)
theorem levZ_at (xs : List Int) {b : Nat} (h : b < 4) : (levZ xs).getD b 0 = levS xs b := getD_range h
theorem sumF_left {xs rest : List Int} : ∀ {n : Nat}, n ≤ xs.length → sumF (xs ++ rest) n = sumF xs n
  | 0, _ => rfl
  | n + 1, h => by
    show sumF (xs ++ rest) n + szF ((xs ++ rest).getD n 0) = sumF xs n + szF (xs.getD n 0)
    rw [sumF_left (by omega), left_at (by omega)]
theorem levS_in (xs : List Int) (b : Int) : 0 ≤ levS xs b ∧ levS xs b ≤ 20 := by
  unfold levS
  rw [lengthS_def]
  have := len_nonneg (if sumF (bandZ xs b) (bandZ xs b).length < 0 then -sumF (bandZ xs b) (bandZ xs b).length else sumF (bandZ xs b) (bandZ xs b).length)
  omega
noncomputable def FV : Fns := (((FU.over 18 hBand).over 33 hSum).plus 32 (ct1 (fun x => -9223372036854775808 < x) lengthS))
theorem FV_ok : FnsOk Tryd.prog FV G1 := ((FU_ok.overG band_ct Tryd.func18 (by kernel_rfl) (by kernel_rfl)).over sum_ct Tryd.func33 (by kernel_rfl) (by kernel_rfl)).plus length_ct Tryd.func32 (by kernel_rfl) (by kernel_rfl)
abbrev ar16 (xs : List Int) : W := .agg [.ints .i64 16 xs]
abbrev ar4 (xs : List Int) : W := .agg [.ints .i64 4 xs]
def z4 : List Int := [0, 0, 0, 0]
theorem levels_walk (xs : List Int) (h : xs.length = 16) (hx : ∀ x ∈ xs, InK .i64 x) : walkg FV 0 Tryd.f15 [ar16 xs] [] fun y _ => y = .w (ar4 (levZ xs)) := by
  have ll : (levZ xs).length = 4 := by simp [levZ]
  conv => whnf
  refine loop_at (4 :: 5 :: List.range' 6 12) (fun m (i : Int) => 0 ≤ i ∧ i ≤ 4 ∧ m = (4 - i).toNat) (fun i => [(5, vi i)]) (fun i => [.own 24 [.ints .i64 16 xs], .own 25 [.ints .i64 4 z4], .own 25 [.ints .i64 4 (stg (levZ xs) z4 i)]]) 4 0 ⟨by decide, by decide, rfl⟩ ?_ ?_
  · exact ⟨rfl, ⟨⟨Nat.le_of_ble_eq_true rfl, rfl⟩, trivial⟩, ⟨rfl, rfl, by rw [stg_zero]; rfl, trivial⟩, rfl, rfl, Nat.zero_le _⟩
  · rintro m i ⟨i0, i1, rfl⟩
    have em : mulN i.toNat (Tryd.prog.types[3]).size = i.toNat := mulN1 _
    rcases Int.lt_or_le i 4 with i2 | i2
    · have bl := bandZ_len h i
      have f := fst_ok (b := i) (by omega)
      have hs : sizeS i = fst (i + 1) - fst i := by unfold sizeS; rw [if_pos (by omega)]
      have si := sizeS_in i
      have hne : bandZ xs i ≠ [] := fun e => by have e3 := congrArg List.length e; rw [List.length_nil] at e3; omega
      repeat' ((conv => whnf); first | (refine ask_true (by omega) ?_) | (refine And.intro (by omega) ?_) | fail)
      conv => whnf
      refine And.intro (fun e => absurd e hne) fun _ c rest h1 h2 h3 => ?_
      have es := sumF_left (rest := rest) (Nat.le_refl (bandZ xs i).length)
      have sb := sumF_in (bandZ xs i) (bandZ xs i).length
      have lv : (levZ xs).getD i.toNat 0 = min (lengthS (sumF (bandZ xs i ++ rest) (bandZ xs i).length)) 20 := by
        rw [levZ_at xs (by omega), es]
        unfold levS
        rw [show ((i.toNat : Nat) : Int) = i by omega]
      repeat' ((conv => whnf); first | (refine And.intro ⟨rfl, rfl⟩ ?_) | (refine And.intro rfl ?_) | (refine And.intro (by omega) ?_) | (refine ask_wrap64 (by omega) (by omega) ?_) | (refine ⟨by kernel_rfl, ?_⟩) | fail)
      conv => whnf
      refine ⟨(4 - (i + 1)).toNat, i + 1, by omega, ⟨by omega, by omega, rfl⟩, rfl, ⟨⟨Nat.le_of_ble_eq_true rfl, rfl⟩, trivial⟩, ⟨rfl, rfl, ?_, trivial⟩, rfl, rfl, Nat.zero_le _⟩
      exact congrArg (fun ys => Blk.own 25 [.ints .i64 4 ys]) (stg_set em (by rw [ll]; rfl) i0 (by rw [ll]; omega) lv).symm
    · have hi : i = 4 := by omega
      subst hi
      rw [stg_all (by rw [ll]; rfl) (by rw [ll]; rfl)]
      repeat' ((conv => whnf); first | (refine ask_false (by omega) ?_) | rfl | fail)
def ctL (f : List Int → List Int) : Ct := fun ws K => match ws with
  | [.agg [.ints .i64 16 xs]] => K (.w (ar4 (f xs)))
  | _ => False
theorem levels_ct : CtOkG Tryd.prog G1 15 (ctL levZ) := by
  intro ws K h' hr
  unfold ctL at h'
  split at h'
  · rename_i xs
    exact ⟨_, h', ⟨⟨⟨by simp [levZ], fun x hx => by
      obtain ⟨b, _, rfl⟩ := List.mem_map.1 hx
      have := levS_in xs b
      simp only [InK, lowK, highK]; omega⟩, trivial⟩, rfl⟩, walkg_calls FV_ok Tryd.func15 rfl hr rfl (levels_walk xs hr.1.1.1 hr.1.1.2)⟩
  · exact h'.elim

end Go.Proofs.YtmkdamfdlkpjdaaDoor
