/- Chapter level: the law LevelPuts, walked. -/
import Derived.Test.YtmkdamfdlkpjdaaDoorDf
set_option linter.all false
namespace Go.Proofs.YtmkdamfdlkpjdaaDoor
open Go.RowKit (Below)
set_option maxRecDepth 100000
set_option maxHeartbeats 32000000

theorem fst_mono {a b : Int} (h : 0 ≤ a ∧ a ≤ b ∧ b ≤ 4) : fst a ≤ fst b := by
  obtain rfl | rfl | rfl | rfl | rfl : a = 0 ∨ a = 1 ∨ a = 2 ∨ a = 3 ∨ a = 4 := by omega
  all_goals obtain rfl | rfl | rfl | rfl | rfl : b = 0 ∨ b = 1 ∨ b = 2 ∨ b = 3 ∨ b = 4 := by omega
  all_goals first | decide | (exfalso; omega)
theorem bandZ_get {xs : List Int} {i : Int} (hi : 0 ≤ i ∧ i ≤ 3) {j : Nat} (hj : (j : Int) < sizeS i) : (bandZ xs i).getD j 0 = xs.getD ((fst i).toNat + j) 0 := by
  unfold bandZ
  rw [if_pos hi, List.getD_eq_getElem?_getD, List.getD_eq_getElem?_getD, List.getElem?_take_of_lt (by omega), List.getElem?_drop]
/-- What a band holds behind Put. -/
theorem put_band {xs cs : List Int} (h : xs.length = 16) {b i : Int} (hb : 0 ≤ b ∧ b ≤ 3) (hc : (cs.length : Int) = sizeS b) (hi : 0 ≤ i ∧ i ≤ 3) {j : Nat} (hj : (j : Int) < sizeS i) : (bandZ (putZ xs b cs) i).getD j 0 = if i = b then cs.getD j 0 else (bandZ xs i).getD j 0 := by
  have f := fst_ok hb
  have g := fst_ok hi
  have hs : sizeS b = fst (b + 1) - fst b := by unfold sizeS; rw [if_pos hb]
  have hs' : sizeS i = fst (i + 1) - fst i := by unfold sizeS; rw [if_pos hi]
  have l1 : (xs.take (fst b).toNat).length = (fst b).toNat := by simp; omega
  have e : putZ xs b cs = xs.take (fst b).toNat ++ cs ++ xs.drop (fst (b + 1)).toNat := by unfold putZ; rw [if_pos ⟨hb, hc⟩]
  rw [bandZ_get hi hj, e]
  rcases Int.lt_trichotomy i b with hlt | rfl | hgt
  · rw [if_neg (by omega), bandZ_get hi hj]
    have := fst_mono (a := i + 1) (b := b) (by omega)
    rw [List.append_assoc, left_at (by omega), getD_take (by omega)]
  · rw [if_pos rfl, left_at (by rw [List.length_append]; omega), List.getD_eq_getElem?_getD, List.getElem?_append_right (by omega), l1, Nat.add_sub_cancel_left, List.getD_eq_getElem?_getD]
  · rw [if_neg (by omega), bandZ_get hi hj]
    have := fst_mono (a := b + 1) (b := i) (by omega)
    rw [List.getD_eq_getElem?_getD, List.getElem?_append_right (by rw [List.length_append]; omega), List.getElem?_drop, List.length_append, l1, List.getD_eq_getElem?_getD]
    congr 2
    omega
theorem putZ_no {xs cs : List Int} {b : Int} (h : ¬ ((0 ≤ b ∧ b ≤ 3) ∧ (cs.length : Int) = sizeS b)) : putZ xs b cs = xs := by unfold putZ; rw [if_neg h]
theorem sizeS_out {b : Int} (h : ¬ (0 ≤ b ∧ b ≤ 3)) : sizeS b = 0 := by unfold sizeS; rw [if_neg h]
theorem sizeS_pos {b : Int} (h : 0 ≤ b ∧ b ≤ 3) : 0 < sizeS b := by
  have := fst_ok h
  unfold sizeS; rw [if_pos h]; omega
theorem bandZ_out {xs : List Int} {b : Int} (h : ¬ (0 ≤ b ∧ b ≤ 3)) : bandZ xs b = [] := by unfold bandZ; rw [if_neg h]
theorem puts_nil (xs : List Int) (h : xs.length = 16) (b : Int) (hb : InK .i64 b) : walkg FE 0 Tryd.f4 [ar16 xs, i64 b, .c .csn] [] fun y _ => y = vb true := by
  have e := putZ_no (xs := xs) (cs := []) (b := b) (fun hh => by have := sizeS_pos hh.1; have e2 := hh.2; rw [List.length_nil] at e2; omega)
  rcases Classical.em (0 ≤ b ∧ b ≤ 3) with hh | hh
  · have sp := sizeS_pos hh
    repeat' ((conv => whnf); first | (refine ask_true (by omega) ?_) | (refine ask_false (by omega) ?_) | fail)
    rw [e]
    repeat' ((conv => whnf); first | (refine ask_true (by omega) ?_) | (refine ask_false (by omega) ?_) | (refine And.intro trivial ?_) | (refine ask_same rfl ?_) | rfl | fail)
  · have so := sizeS_out hh
    have bo := bandZ_out (xs := xs) hh
    rcases Int.lt_or_le b 0 with h2 | h2
    all_goals repeat' ((conv => whnf); first | (refine ask_true (by omega) ?_) | (refine ask_false (by omega) ?_) | fail)
    all_goals rw [e]
    all_goals repeat' ((conv => whnf); first | (refine ask_true (by omega) ?_) | (refine ask_false (by omega) ?_) | (refine And.intro trivial ?_) | (refine ask_same rfl ?_) | (refine And.intro (fun _ => ?_) (fun e => absurd bo e)) | rfl | fail)
theorem puts_row (xs : List Int) (h : xs.length = 16) (b : Int) (hb : InK .i64 b) (ys : List Int) (l : Nat) (hl : l ≤ ys.length) (hc : ys.length ≤ 9223372036854775807) : walkg FE 0 Tryd.f4 [ar16 xs, i64 b, .c (.csl 0 0 0 l ys.length)] [.ro [.ints .i64 ys.length ys]] fun y _ => y = vb true := by
  by_cases h100 : 100 < l
  · repeat' ((conv => whnf); first | (refine ask_true (by omega) ?_) | (refine ask_false (by omega) ?_) | rfl | fail)
  · have lt : (ys.take l).length = l := by simp; omega
    rcases Classical.em ((0 ≤ b ∧ b ≤ 3) ∧ (l : Int) = sizeS b) with hh | hh
    · obtain ⟨h1, h2⟩ := hh
      have hP := putZ_len h b (ys.take l)
      have pb := fun (i : Int) hi (j : Nat) hj => put_band (cs := ys.take l) h h1 (by rw [lt]; exact h2) (i := i) hi (j := j) hj
      repeat' ((conv => whnf); first | (refine ask_true (by omega) ?_) | (refine ask_false (by omega) ?_) | (refine And.intro trivial ?_) | (refine And.intro ⟨rfl, rfl⟩ ?_) | (refine And.intro rfl ?_) | fail)
      conv => whnf
      obtain ⟨P, eP⟩ : ∃ P, P = putZ xs b (ys.take l) := ⟨_, rfl⟩
      refine loop_at (8 :: 9 :: 10 :: 11 :: List.range' 60 41) (fun m (i : Int) => 0 ≤ i ∧ i ≤ 4 ∧ m = (4 - i).toNat) (fun i => [(8, vi i)]) (fun i => [.ro [.ints .i64 ys.length ys], .own 22 [.ints .i64 16 xs], .own 24 [.ints .i64 16 P]]) 4 0 ⟨by decide, by decide, rfl⟩ ?_ ?_
      · rw [eP]
        exact ⟨rfl, ⟨⟨Nat.le_of_ble_eq_true rfl, rfl⟩, trivial⟩, ⟨rfl, rfl, rfl, trivial⟩, rfl, rfl, Nat.le_of_ble_eq_true rfl⟩
      · rw [← eP] at hP pb
        rintro m i ⟨i0, i1, rfl⟩
        rcases Int.lt_or_le i 4 with i2 | i2
        · have bl := bandZ_len h i
          have bP := bandZ_len hP i
          have sp := sizeS_pos (b := i) (by omega)
          have n1 : bandZ xs i ≠ [] := fun e => by have e3 := congrArg List.length e; rw [List.length_nil] at e3; omega
          have n2 : bandZ P i ≠ [] := fun e => by have e3 := congrArg List.length e; rw [List.length_nil] at e3; omega
          have pb := pb i (by omega)
          rcases Classical.em (i = b) with hib | hib
          · subst hib
            repeat' ((conv => whnf); first | (refine ask_true (by omega) ?_) | (refine ask_false (by omega) ?_) | (refine And.intro (fun e => absurd e n1) fun _ c1 r1 p1 p2 p3 => ?_) | (refine And.intro (fun e => absurd e n2) fun _ c2 r2 q1 q2 q3 => ?_) | (refine And.intro trivial ?_) | fail)
            conv => whnf
            refine loop_at (11 :: List.range' 86 15) (fun m (k : Int) => 0 ≤ k ∧ k ≤ l ∧ m = (l - k).toNat) (fun k => [(11, vi k)]) (fun k => [.ro [.ints .i64 ys.length ys], .own 22 [.ints .i64 16 xs], .own 24 [.ints .i64 16 P], .own 3 [.ints .i64 c1 (bandZ xs i ++ r1)], .own 3 [.ints .i64 c2 (bandZ P i ++ r2)]]) l 0 ⟨by decide, by omega, by omega⟩ ?_ ?_
            · exact ⟨rfl, ⟨⟨Nat.le_of_ble_eq_true rfl, rfl⟩, trivial⟩, ⟨rfl, rfl, rfl, rfl, rfl, trivial⟩, rfl, rfl, Nat.le_of_ble_eq_true rfl⟩
            · rintro m k ⟨k0, k1, rfl⟩
              have em : mulN k.toNat (Tryd.prog.types[3]).size = k.toNat := mulN1 _
              rcases Int.lt_or_le k l with k2 | k2
              · have hv : (bandZ P i ++ r2).getD (0 + mulN k.toNat (Tryd.prog.types[3]).size) 0 = ys.getD (0 + mulN k.toNat (Tryd.prog.types[3]).size) 0 := by
                  rw [em, Nat.zero_add, left_at (by omega), pb k.toNat (by omega), if_pos rfl, getD_take (by omega)]
                repeat' ((conv => whnf); first | (refine ask_true (by omega) ?_) | (refine And.intro (by omega) ?_) | (refine fun (_ : InK _ _) => ?_) | (refine ask_false (fun hq => hq hv) ?_) | (refine ask_wrap64 (by omega) (by omega) ?_) | (refine ⟨by kernel_rfl, ?_⟩) | fail)
                conv => whnf
                exact ⟨(l - (k + 1)).toNat, k + 1, by omega, ⟨by omega, by omega, rfl⟩, rfl, ⟨⟨Nat.le_of_ble_eq_true rfl, rfl⟩, trivial⟩, ⟨rfl, rfl, rfl, rfl, rfl, trivial⟩, rfl, rfl, Nat.le_of_ble_eq_true rfl⟩
              · repeat' ((conv => whnf); first | (refine ask_false (by omega) ?_) | (refine ask_wrap64 (by omega) (by omega) ?_) | fail)
                conv => whnf
                exact ⟨(4 - (i + 1)).toNat, i + 1, by omega, ⟨by omega, by omega, rfl⟩, rfl, ⟨⟨Nat.le_of_ble_eq_true rfl, rfl⟩, trivial⟩, ⟨rfl, rfl, rfl, trivial⟩, rfl, rfl, Nat.le_of_ble_eq_true rfl⟩
          · repeat' ((conv => whnf); first | (refine ask_true (by omega) ?_) | (refine ask_false (by omega) ?_) | (refine And.intro (fun e => absurd e n1) fun _ c1 r1 p1 p2 p3 => ?_) | (refine And.intro (fun e => absurd e n2) fun _ c2 r2 q1 q2 q3 => ?_) | (refine And.intro trivial ?_) | fail)
            conv => whnf
            refine loop_at (11 :: List.range' 86 15) (fun m (k : Int) => 0 ≤ k ∧ k ≤ sizeS i ∧ m = (sizeS i - k).toNat) (fun k => [(11, vi k)]) (fun k => [.ro [.ints .i64 ys.length ys], .own 22 [.ints .i64 16 xs], .own 24 [.ints .i64 16 P], .own 3 [.ints .i64 c1 (bandZ xs i ++ r1)], .own 3 [.ints .i64 c2 (bandZ P i ++ r2)]]) (sizeS i).toNat 0 ⟨by decide, by omega, by omega⟩ ?_ ?_
            · exact ⟨rfl, ⟨⟨Nat.le_of_ble_eq_true rfl, rfl⟩, trivial⟩, ⟨rfl, rfl, rfl, rfl, rfl, trivial⟩, rfl, rfl, Nat.le_of_ble_eq_true rfl⟩
            · rintro m k ⟨k0, k1, rfl⟩
              have em : mulN k.toNat (Tryd.prog.types[3]).size = k.toNat := mulN1 _
              rcases Int.lt_or_le k (sizeS i) with k2 | k2
              · have hv : (bandZ P i ++ r2).getD (0 + mulN k.toNat (Tryd.prog.types[3]).size) 0 = (bandZ xs i ++ r1).getD (0 + mulN k.toNat (Tryd.prog.types[3]).size) 0 := by
                  rw [em, Nat.zero_add, left_at (by omega), left_at (by omega), pb k.toNat (by omega), if_neg hib]
                repeat' ((conv => whnf); first | (refine ask_true (by omega) ?_) | (refine And.intro (by omega) ?_) | (refine fun (_ : InK _ _) => ?_) | (refine ask_false (fun hq => hq hv) ?_) | (refine ask_wrap64 (by omega) (by omega) ?_) | (refine ⟨by kernel_rfl, ?_⟩) | fail)
                conv => whnf
                exact ⟨(sizeS i - (k + 1)).toNat, k + 1, by omega, ⟨by omega, by omega, rfl⟩, rfl, ⟨⟨Nat.le_of_ble_eq_true rfl, rfl⟩, trivial⟩, ⟨rfl, rfl, rfl, rfl, rfl, trivial⟩, rfl, rfl, Nat.le_of_ble_eq_true rfl⟩
              · repeat' ((conv => whnf); first | (refine ask_false (by omega) ?_) | (refine ask_wrap64 (by omega) (by omega) ?_) | fail)
                conv => whnf
                exact ⟨(4 - (i + 1)).toNat, i + 1, by omega, ⟨by omega, by omega, rfl⟩, rfl, ⟨⟨Nat.le_of_ble_eq_true rfl, rfl⟩, trivial⟩, ⟨rfl, rfl, rfl, trivial⟩, rfl, rfl, Nat.le_of_ble_eq_true rfl⟩
        · repeat' ((conv => whnf); first | (refine ask_false (by omega) ?_) | rfl | fail)
    · have e := putZ_no (xs := xs) (cs := ys.take l) (b := b) (by rw [lt]; exact hh)
      rcases Classical.em (0 ≤ b ∧ b ≤ 3) with hr | hr
      · repeat' ((conv => whnf); first | (refine ask_true (by omega) ?_) | (refine ask_false (by omega) ?_) | (refine And.intro ⟨rfl, rfl⟩ ?_) | (refine And.intro rfl ?_) | fail)
        rw [e]
        repeat' ((conv => whnf); first | (refine ask_true (by omega) ?_) | (refine ask_false (by omega) ?_) | (refine And.intro trivial ?_) | (refine ask_same rfl ?_) | rfl | fail)
      · have so := sizeS_out hr
        have bo := bandZ_out (xs := xs) hr
        rcases Int.lt_or_le b 0 with h2 | h2
        all_goals repeat' ((conv => whnf); first | (refine ask_true (by omega) ?_) | (refine ask_false (by omega) ?_) | (refine And.intro ⟨rfl, rfl⟩ ?_) | (refine And.intro rfl ?_) | fail)
        all_goals rw [e]
        all_goals repeat' ((conv => whnf); first | (refine ask_true (by omega) ?_) | (refine ask_false (by omega) ?_) | (refine And.intro trivial ?_) | (refine ask_same rfl ?_) | (refine And.intro (fun _ => ?_) (fun e => absurd bo e)) | rfl | fail)
theorem law_LevelPuts (W0 : World) (xs : List Int) (h : xs.length = 16) (hx : ∀ x ∈ xs, InK .i64 x) (b : Int) (hb : InK .i64 b) (v : Value) (wv : SlIn .i64 W0 v) (hg : GW G1 W0) : Calls Tryd.prog 4 #[.agg (xs.map (Value.int .i64)).toArray, .int .i64 b, v] W0 fun e w' => e = .returned (.bool true) ∧ Below W0.heap.size W0 w' := by
  have hd1 : ∀ σ, (W.den σ (ar16 xs)) = Value.agg (xs.map (Value.int .i64)).toArray := fun σ => by simp [W.den, dens, Seg.den]
  rcases wv with rfl | ⟨bk, o, len, cap, zs, rfl, hl, hc, hbw, hz, hzx, hcell⟩
  · have hd : ([ar16 xs, i64 b, .c .csn].map (W.den fun _ => (0, 0))).toArray = #[Value.agg (xs.map (Value.int .i64)).toArray, .int .i64 b, .slice none 0 0] := by rw [← hd1 (fun _ => (0, 0))]; rfl
    have := walkg_true FE_ok Tryd.func4 (ws := [ar16 xs, i64 b, .c .csn]) ⟨ar16_rng h hx, hb, trivial, trivial⟩ rfl (n := 0) (puts_nil xs h b hb) W0 hg
    rw [hd] at this; exact this
  · subst hz
    have hd : ([ar16 xs, i64 b, .c (.csl 0 0 0 len zs.length)].map (W.den fun _ => (bk, o))).toArray = #[Value.agg (xs.map (Value.int .i64)).toArray, .int .i64 b, .slice (some ⟨bk, o, none⟩) len zs.length] := by rw [← hd1 (fun _ => (bk, o))]; rfl
    have := walkg_true_ro FE_ok Tryd.func4 (ws := [ar16 xs, i64 b, .c (.csl 0 0 0 len zs.length)]) (R := [.ro [.ints .i64 zs.length zs]]) ⟨ar16_rng h hx, hb, ⟨hl, hc⟩, trivial⟩ rfl (n := 0) (puts_row xs h b hb zs len hl hc) (ro_ok hzx) (fun _ => (bk, o)) W0 (by
      intro j c hj
      match j, hj with
      | 0, hj => simp at hj; subst hj; exact ⟨rfl, ro_of_slIn rfl hbw hcell⟩
      | j + 1, hj => simp at hj) hg
    rw [hd] at this; exact this
end Go.Proofs.YtmkdamfdlkpjdaaDoor
