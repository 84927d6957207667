/- Chapter level: the law LevelPlays, walked. -/
import Derived.Test.YtmkdamfdlkpjdaaDoorDm
set_option linter.all false
namespace Go.Proofs.YtmkdamfdlkpjdaaDoor
open Go.RowKit (Below)
set_option maxRecDepth 100000
set_option maxHeartbeats 64000000

theorem bounds_ct : CtOk Tryd.prog 20 ctB := by
  intro ws K h' hr
  unfold ctB at h'
  split at h'
  · rename_i b
    have f := fst_ok h'.1
    exact ⟨_, h'.2, ⟨⟨⟨by simp only [lowK]; omega, by simp only [highK]; omega⟩, ⟨by simp only [lowK]; omega, by simp only [highK]; omega⟩, trivial⟩, rfl⟩, walk_calls F0_ok Tryd.func20 rfl hr rfl (bounds_walk b h'.1)⟩
  · exact h'.elim
noncomputable def FQ : Fns := ((FFl.over 21 hRLevel).over 22 hRFill).plus 20 ctB
theorem FQ_ok : FnsOk Tryd.prog FQ G1 := ((FFl_ok.over rlevel_ct Tryd.func21 (by kernel_rfl) (by kernel_rfl)).over rfill_ct Tryd.func22 (by kernel_rfl) (by kernel_rfl)).plus bounds_ct Tryd.func20 (by kernel_rfl) (by kernel_rfl)
theorem levS_levR {xs : List Int} {b : Int} (hb : 0 ≤ b ∧ b ≤ 3) : levS xs b = levR ((xs.drop (fst b).toNat).take ((fst (b + 1)).toNat - (fst b).toNat)) := by
  have f := fst_ok hb
  have hs : sizeS b = fst (b + 1) - fst b := by unfold sizeS; rw [if_pos hb]
  have e : bandZ xs b = (xs.drop (fst b).toNat).take ((fst (b + 1)).toNat - (fst b).toNat) := by
    unfold bandZ
    rw [if_pos hb, hs]
    congr 1
    omega
  have p := (sumF_in (bandZ xs b) (bandZ xs b).length).1
  unfold levS levR
  rw [lengthS_def, if_neg (by omega), e]
/-- The levels are compared. -/
theorem plays_row (xs : List Int) (h : xs.length = 16) (lv : Int) (hlv : InK .i64 lv) (ys : List Int) (l : Nat) (hl : l ≤ ys.length) (hc : ys.length ≤ 9223372036854775807) :
    walkg FQ 0 Tryd.f7 [ar16 xs, i64 lv, .c (.csl 0 0 0 l ys.length)] [.ro [.ints .i64 ys.length ys]] fun y _ => y = vb true := by
  by_cases h60 : 60 < l
  · repeat' ((conv => whnf); first | (refine ask_true (by omega) ?_) | (refine ask_false (by omega) ?_) | rfl | fail)
  · repeat' ((conv => whnf); first | (refine ask_true (by omega) ?_) | (refine ask_false (by omega) ?_) | (refine ⟨by kernel_rfl, ?_⟩) | fail)
    conv => whnf
    have lt : (ys.take l).length = l := by simp; omega
    have b3 := bytes3
    have n1 : natI (l : Int) = l := rfl
    have fl := flZ_len lv (ys.take l)
    rw [lt] at fl
    refine loop_at (8 :: 9 :: 10 :: List.range' 26 17) (fun m (i : Int) => 0 ≤ i ∧ i ≤ 4 ∧ m = (4 - i).toNat) (fun i => [(8, vi i)]) (fun _ => [.ro [.ints .i64 ys.length ys], .own 22 [.ints .i64 16 xs], .own 25 [.ints .i64 4 (levZ xs)]]) 4 0 ⟨by decide, by decide, rfl⟩ ?_ ?_
    · exact ⟨rfl, ⟨⟨Nat.le_of_ble_eq_true rfl, rfl⟩, trivial⟩, ⟨rfl, rfl, rfl, trivial⟩, rfl, rfl, Nat.le_of_ble_eq_true rfl⟩
    · rintro m i ⟨i0, i1, rfl⟩
      have em : mulN i.toNat (Tryd.prog.types[3]).size = i.toNat := mulN1 _
      rcases Int.lt_or_le i 4 with i2 | i2
      · have f := fst_ok (b := i) (by omega)
        have n0 : natI (fst i) = (fst i).toNat := rfl
        have n2 : natI (fst (i + 1)) = (fst (i + 1)).toNat := rfl
        have em2 : mulN (natI (fst i)) (Tryd.prog.types[3]).size = natI (fst i) := mulN1 _
        have hv : (levZ xs).getD (mulN i.toNat (Tryd.prog.types[3]).size) 0 = levR ((xs.drop (mulN (natI (fst i)) (Tryd.prog.types[3]).size)).take (natI (fst (i + 1)) - natI (fst i))) := by
          rw [em, em2, levZ_at _ (by omega), show ((i.toNat : Nat) : Int) = i by omega, levS_levR (by omega)]
          rfl
        repeat' ((conv => whnf); first | (refine ask_true (by omega) ?_) | (refine And.intro (by omega) ?_) | (refine fun (_ : InK _ _) => ?_) | fail)
        conv => whnf
        have lr0 := len_nonneg (sumF ((xs.drop (mulN (natI (fst i)) (Tryd.prog.types[3]).size)).take (natI (fst (i + 1)) - natI (fst i))) ((xs.drop (mulN (natI (fst i)) (Tryd.prog.types[3]).size)).take (natI (fst (i + 1)) - natI (fst i))).length)
        refine ⟨[1], vi (levR ((xs.drop (mulN (natI (fst i)) (Tryd.prog.types[3]).size)).take (natI (fst (i + 1)) - natI (fst i)))), rfl, ?_, ?_, ?_⟩
        · repeat' ((conv => whnf); first | (refine And.intro rfl ?_) | (refine And.intro (by omega) ?_) | (refine And.intro (by rw [List.length_take]; omega) ?_) | fail)
          exact rfl
        · show InK .i64 _
          unfold levR
          simp only [InK, lowK, highK]; omega
        · repeat' ((conv => whnf); first | (refine ask_false (fun hq => hq hv) ?_) | (refine ask_wrap64 (by omega) (by omega) ?_) | (refine ⟨by kernel_rfl, ?_⟩) | fail)
          conv => whnf
          exact ⟨(4 - (i + 1)).toNat, i + 1, by omega, ⟨by omega, by omega, rfl⟩, rfl, ⟨⟨Nat.le_of_ble_eq_true rfl, rfl⟩, trivial⟩, ⟨rfl, rfl, rfl, trivial⟩, rfl, rfl, Nat.le_of_ble_eq_true rfl⟩
      · have hi : i = 4 := by omega
        subst hi
        clear em i0 i1 i2
        rcases Classical.em (0 ≤ lv) with g1 | g1
        rcases Classical.em (lv ≤ 20) with g2 | g2
        rcases Classical.em (l ≤ 8) with g3 | g3
        all_goals repeat' ((conv => whnf); first | (refine ask_true (by omega) ?_) | (refine ask_false (by omega) ?_) | fail)
        all_goals (conv => whnf)
        all_goals
          refine loop_at2 (11 :: 12 :: List.range' 43 32) (fun m (i : Int) (t : Bool) => 0 ≤ i ∧ i ≤ l ∧ m = (l - i).toNat ∧ (t = true ↔ ((0 ≤ lv ∧ lv ≤ 20) ∧ l ≤ 8) ∧ ∀ j : Nat, (j : Int) < i → -8 ≤ ys.getD j 0 ∧ ys.getD j 0 ≤ 8)) (fun i t => [(11, vb t), (12, vi i)]) (fun _ _ => [.ro [.ints .i64 ys.length ys], .own 22 [.ints .i64 16 xs], .own 25 [.ints .i64 4 (levZ xs)]]) l 0 (decide ((0 ≤ lv ∧ lv ≤ 20) ∧ l ≤ 8)) ⟨by decide, by omega, by omega, ⟨fun h => ⟨of_decide_eq_true h, fun j hj => by omega⟩, fun h => decide_eq_true h.1⟩⟩ ?_ ?_
          · refine ⟨rfl, ⟨⟨Nat.le_of_ble_eq_true rfl, congrArg vb ?_⟩, ⟨Nat.le_of_ble_eq_true rfl, rfl⟩, trivial⟩, ⟨rfl, rfl, rfl, trivial⟩, rfl, rfl, Nat.le_of_ble_eq_true rfl⟩
            first | exact (decide_eq_true (by omega)).symm | exact (decide_eq_false (by omega)).symm
          · rintro m i t ⟨i0, i1, rfl, ht⟩
            have em : mulN i.toNat (Tryd.prog.types[3]).size = i.toNat := mulN1 _
            rcases Int.lt_or_le i l with i2 | i2
            · have ex : ys.getD (0 + mulN i.toNat (Tryd.prog.types[3]).size) 0 = ys.getD i.toNat 0 := by rw [em, Nat.zero_add]
              cases t with
              | false =>
                repeat' ((conv => whnf); first | (refine ask_true (by omega) ?_) | (refine ask_wrap64 (by omega) (by omega) ?_) | fail)
                conv => whnf
                exact ⟨(l - (i + 1)).toNat, (i + 1, false), by omega, ⟨by show 0 ≤ i + 1; omega, by show i + 1 ≤ (l : Int); omega, rfl, ⟨fun e => (by cases e), fun hh => ht.2 ⟨hh.1, fun j hj => hh.2 j (by show (j : Int) < i + 1; omega)⟩⟩⟩, rfl, ⟨⟨Nat.le_of_ble_eq_true rfl, rfl⟩, ⟨Nat.le_of_ble_eq_true rfl, rfl⟩, trivial⟩, ⟨rfl, rfl, rfl, trivial⟩, rfl, rfl, Nat.le_of_ble_eq_true rfl⟩
              | true =>
                have hall := ht.1 rfl
                first
                | (exfalso; have hC := hall.1; omega)
                | skip
                  have bad : ¬ (-8 ≤ ys.getD i.toNat 0 ∧ ys.getD i.toNat 0 ≤ 8) → (false = true ↔ ((0 ≤ lv ∧ lv ≤ 20) ∧ l ≤ 8) ∧ ∀ j : Nat, (j : Int) < i + 1 → -8 ≤ ys.getD j 0 ∧ ys.getD j 0 ≤ 8) := fun hb => ⟨fun e => (by cases e), fun hh => absurd (hh.2 i.toNat (by omega)) hb⟩
                  rcases Classical.em (-8 ≤ ys.getD (0 + mulN i.toNat (Tryd.prog.types[3]).size) 0) with h1 | h1
                  · rcases Classical.em (ys.getD (0 + mulN i.toNat (Tryd.prog.types[3]).size) 0 ≤ 8) with h2 | h2
                    · repeat' ((conv => whnf); first | (refine ask_true (by omega) ?_) | (refine ask_false (by omega) ?_) | (refine And.intro (by omega) ?_) | (refine fun (_ : InK _ _) => ?_) | (refine ask_wrap64 (by omega) (by omega) ?_) | (refine ⟨by kernel_rfl, ?_⟩) | fail)
                      conv => whnf
                      refine ⟨(l - (i + 1)).toNat, (i + 1, true), by omega, ⟨by show 0 ≤ i + 1; omega, by show i + 1 ≤ (l : Int); omega, rfl, ⟨fun _ => ⟨hall.1, fun j hj => ?_⟩, fun _ => rfl⟩⟩, rfl, ⟨⟨Nat.le_of_ble_eq_true rfl, rfl⟩, ⟨Nat.le_of_ble_eq_true rfl, rfl⟩, trivial⟩, ⟨rfl, rfl, rfl, trivial⟩, rfl, rfl, Nat.le_of_ble_eq_true rfl⟩
                      have hj' : (j : Int) < i + 1 := hj
                      rcases Int.lt_or_le j i with h3 | h3
                      · exact hall.2 j h3
                      · obtain rfl : j = i.toNat := by omega
                        omega
                    · repeat' ((conv => whnf); first | (refine ask_true (by omega) ?_) | (refine ask_false (by omega) ?_) | (refine And.intro (by omega) ?_) | (refine fun (_ : InK _ _) => ?_) | (refine ask_wrap64 (by omega) (by omega) ?_) | (refine ⟨by kernel_rfl, ?_⟩) | fail)
                      conv => whnf
                      exact ⟨(l - (i + 1)).toNat, (i + 1, false), by omega, ⟨by show 0 ≤ i + 1; omega, by show i + 1 ≤ (l : Int); omega, rfl, bad (by omega)⟩, rfl, ⟨⟨Nat.le_of_ble_eq_true rfl, rfl⟩, ⟨Nat.le_of_ble_eq_true rfl, rfl⟩, trivial⟩, ⟨rfl, rfl, rfl, trivial⟩, rfl, rfl, Nat.le_of_ble_eq_true rfl⟩
                  · repeat' ((conv => whnf); first | (refine ask_true (by omega) ?_) | (refine ask_false (by omega) ?_) | (refine And.intro (by omega) ?_) | (refine fun (_ : InK _ _) => ?_) | (refine ask_wrap64 (by omega) (by omega) ?_) | (refine ⟨by kernel_rfl, ?_⟩) | fail)
                    conv => whnf
                    exact ⟨(l - (i + 1)).toNat, (i + 1, false), by omega, ⟨by show 0 ≤ i + 1; omega, by show i + 1 ≤ (l : Int); omega, rfl, bad (by omega)⟩, rfl, ⟨⟨Nat.le_of_ble_eq_true rfl, rfl⟩, ⟨Nat.le_of_ble_eq_true rfl, rfl⟩, trivial⟩, ⟨rfl, rfl, rfl, trivial⟩, rfl, rfl, Nat.le_of_ble_eq_true rfl⟩
            · have hi : i = l := by omega
              have hr : t = true ↔ rightL lv (ys.take l) := by
                rw [ht, rightL_def, lt]
                constructor
                · rintro ⟨⟨a, b⟩, c⟩
                  refine ⟨a, b, all_of_at fun k hk => ?_⟩
                  rw [getD_take (by omega)]
                  exact c k (by omega)
                · rintro ⟨a, b, c⟩
                  refine ⟨⟨a, b⟩, fun j hj => ?_⟩
                  have := c ((ys.take l).getD j 0) (mem_at (by omega))
                  rwa [getD_take (by omega)] at this
              clear ht
              cases t with
              | true =>
                have hR := hr.1 rfl
                repeat' ((conv => whnf); first | (refine ask_false (by omega) ?_) | (refine And.intro ⟨by omega, by omega, by omega, by rw [b3]; omega⟩ ?_) | (refine And.intro ⟨rfl, rfl⟩ ?_) | (refine And.intro rfl ?_) | (refine And.intro hR ?_) | (refine And.intro (by omega) ?_) | fail)
                conv => whnf
                refine loop_at (15 :: List.range' 85 22) (fun m (i : Int) => 0 ≤ i ∧ i ≤ l ∧ m = (l - i).toNat) (fun i => [(15, vi i)]) (fun _ => [.ro [.ints .i64 ys.length ys], .own 22 [.ints .i64 16 xs], .own 25 [.ints .i64 4 (levZ xs)], .own 3 [.ints .i64 l (List.replicate l 0)], .own 3 [.ints .i64 l (flZ lv (ys.take l))], .own 3 [.ints .i64 l (flZ lv (ys.take l))]]) l 0 ⟨by decide, by omega, by omega⟩ ?_ ?_
                · exact ⟨rfl, ⟨⟨Nat.le_of_ble_eq_true rfl, rfl⟩, trivial⟩, ⟨rfl, rfl, rfl, rfl, rfl, rfl, trivial⟩, rfl, rfl, Nat.le_of_ble_eq_true rfl⟩
                · rintro _ i ⟨i0, i1, rfl⟩
                  have em : mulN i.toNat (Tryd.prog.types[3]).size = i.toNat := mulN1 _
                  rcases Int.lt_or_le i l with i2 | i2
                  · repeat' ((conv => whnf); first | (refine ask_true (by omega) ?_) | (refine ask_false (by omega) ?_) | (refine And.intro (by omega) ?_) | (refine fun (_ : InK _ _) => ?_) | (refine ask_wrap64 (by omega) (by omega) ?_) | (refine ⟨by kernel_rfl, ?_⟩) | (refine ask_false (fun hq => hq rfl) ?_) | fail)
                    conv => whnf
                    exact ⟨(l - (i + 1)).toNat, i + 1, by omega, ⟨by omega, by omega, rfl⟩, rfl, ⟨⟨Nat.le_of_ble_eq_true rfl, rfl⟩, trivial⟩, ⟨rfl, rfl, rfl, rfl, rfl, rfl, trivial⟩, rfl, rfl, Nat.le_of_ble_eq_true rfl⟩
                  · repeat' ((conv => whnf); first | (refine ask_false (by omega) ?_) | (refine ask_true rfl ?_) | rfl | fail)
              | false =>
                have z0 : flZ lv (ys.take l) = List.replicate l 0 := by
                  unfold flZ
                  rw [if_neg (fun hh => by have := hr.2 hh.1; cases this), lt]
                repeat' ((conv => whnf); first | (refine ask_false (by omega) ?_) | (refine And.intro ⟨by omega, by omega, by omega, by rw [b3]; omega⟩ ?_) | (refine And.intro ⟨rfl, rfl⟩ ?_) | (refine And.intro rfl ?_) | (refine And.intro (by omega) ?_) | fail)
                rw [z0]
                conv => whnf
                refine loop_at (15 :: List.range' 85 22) (fun m (i : Int) => 0 ≤ i ∧ i ≤ l ∧ m = (l - i).toNat) (fun i => [(15, vi i)]) (fun _ => [.ro [.ints .i64 ys.length ys], .own 22 [.ints .i64 16 xs], .own 25 [.ints .i64 4 (levZ xs)], .own 3 [.ints .i64 l (List.replicate l 0)], .own 3 [.ints .i64 l (List.replicate l 0)]]) l 0 ⟨by decide, by omega, by omega⟩ ?_ ?_
                · exact ⟨rfl, ⟨⟨Nat.le_of_ble_eq_true rfl, rfl⟩, trivial⟩, ⟨rfl, rfl, rfl, rfl, rfl, trivial⟩, rfl, rfl, Nat.le_of_ble_eq_true rfl⟩
                · rintro _ i ⟨i0, i1, rfl⟩
                  have em : mulN i.toNat (Tryd.prog.types[3]).size = i.toNat := mulN1 _
                  rcases Int.lt_or_le i l with i2 | i2
                  · repeat' ((conv => whnf); first | (refine ask_true (by omega) ?_) | (refine ask_false (by omega) ?_) | (refine And.intro (by omega) ?_) | (refine fun (_ : InK _ _) => ?_) | (refine ask_wrap64 (by omega) (by omega) ?_) | (refine ⟨by kernel_rfl, ?_⟩) | (refine ask_false (fun hq => hq rfl) ?_) | fail)
                    conv => whnf
                    exact ⟨(l - (i + 1)).toNat, i + 1, by omega, ⟨by omega, by omega, rfl⟩, rfl, ⟨⟨Nat.le_of_ble_eq_true rfl, rfl⟩, trivial⟩, ⟨rfl, rfl, rfl, rfl, rfl, trivial⟩, rfl, rfl, Nat.le_of_ble_eq_true rfl⟩
                  · repeat' ((conv => whnf); first | (refine ask_false (by omega) ?_) | (refine ask_true rfl ?_) | rfl | fail)
theorem plays_nil (xs : List Int) (h : xs.length = 16) (lv : Int) (hlv : InK .i64 lv) : walkg FQ 0 Tryd.f7 [ar16 xs, i64 lv, .c .csn] [] fun y _ => y = vb true := by
  repeat' ((conv => whnf); first | (refine ask_true (by decide) ?_) | (refine ask_false (by decide) ?_) | (refine ⟨by kernel_rfl, ?_⟩) | fail)
  conv => whnf
  have b3 := bytes3
  refine loop_at (8 :: 9 :: 10 :: List.range' 26 17) (fun m (i : Int) => 0 ≤ i ∧ i ≤ 4 ∧ m = (4 - i).toNat) (fun i => [(8, vi i)]) (fun _ => [.own 22 [.ints .i64 16 xs], .own 25 [.ints .i64 4 (levZ xs)]]) 4 0 ⟨by decide, by decide, rfl⟩ ?_ ?_
  · exact ⟨rfl, ⟨⟨Nat.le_of_ble_eq_true rfl, rfl⟩, trivial⟩, ⟨rfl, rfl, trivial⟩, rfl, rfl, Nat.le_of_ble_eq_true rfl⟩
  · rintro m i ⟨i0, i1, rfl⟩
    have em : mulN i.toNat (Tryd.prog.types[3]).size = i.toNat := mulN1 _
    rcases Int.lt_or_le i 4 with i2 | i2
    · have f := fst_ok (b := i) (by omega)
      have n0 : natI (fst i) = (fst i).toNat := rfl
      have n2 : natI (fst (i + 1)) = (fst (i + 1)).toNat := rfl
      have em2 : mulN (natI (fst i)) (Tryd.prog.types[3]).size = natI (fst i) := mulN1 _
      have hv : (levZ xs).getD (mulN i.toNat (Tryd.prog.types[3]).size) 0 = levR ((xs.drop (mulN (natI (fst i)) (Tryd.prog.types[3]).size)).take (natI (fst (i + 1)) - natI (fst i))) := by
        rw [em, em2, levZ_at _ (by omega), show ((i.toNat : Nat) : Int) = i by omega, levS_levR (by omega)]
        rfl
      repeat' ((conv => whnf); first | (refine ask_true (by omega) ?_) | (refine And.intro (by omega) ?_) | (refine fun (_ : InK _ _) => ?_) | fail)
      conv => whnf
      have lr0 := len_nonneg (sumF ((xs.drop (mulN (natI (fst i)) (Tryd.prog.types[3]).size)).take (natI (fst (i + 1)) - natI (fst i))) ((xs.drop (mulN (natI (fst i)) (Tryd.prog.types[3]).size)).take (natI (fst (i + 1)) - natI (fst i))).length)
      refine ⟨[0], vi (levR ((xs.drop (mulN (natI (fst i)) (Tryd.prog.types[3]).size)).take (natI (fst (i + 1)) - natI (fst i)))), rfl, ?_, ?_, ?_⟩
      · repeat' ((conv => whnf); first | (refine And.intro rfl ?_) | (refine And.intro (by omega) ?_) | (refine And.intro (by rw [List.length_take]; omega) ?_) | fail)
        exact rfl
      · show InK .i64 _
        unfold levR
        simp only [InK, lowK, highK]; omega
      · repeat' ((conv => whnf); first | (refine ask_false (fun hq => hq hv) ?_) | (refine ask_wrap64 (by omega) (by omega) ?_) | (refine ⟨by kernel_rfl, ?_⟩) | fail)
        conv => whnf
        exact ⟨(4 - (i + 1)).toNat, i + 1, by omega, ⟨by omega, by omega, rfl⟩, rfl, ⟨⟨Nat.le_of_ble_eq_true rfl, rfl⟩, trivial⟩, ⟨rfl, rfl, trivial⟩, rfl, rfl, Nat.le_of_ble_eq_true rfl⟩
    · have hi : i = 4 := by omega
      subst hi
      clear em i0 i1 i2
      rcases Classical.em (0 ≤ lv) with g1 | g1
      rcases Classical.em (lv ≤ 20) with g2 | g2
      all_goals repeat' ((conv => whnf); first | (refine ask_true (by omega) ?_) | (refine ask_false (by omega) ?_) | (refine ask_true (by decide) ?_) | fail)
      all_goals (conv => whnf)
      all_goals
        refine loop_at (11 :: 12 :: List.range' 43 32) (fun m (i : Int) => i = 0 ∧ m = 0) (fun i => [(11, vb (decide (0 ≤ lv ∧ lv ≤ 20))), (12, vi i)]) (fun _ => [.own 22 [.ints .i64 16 xs], .own 25 [.ints .i64 4 (levZ xs)]]) 0 0 ⟨rfl, rfl⟩ ?_ ?_
        · refine ⟨rfl, ⟨⟨Nat.le_of_ble_eq_true rfl, congrArg vb ?_⟩, ⟨Nat.le_of_ble_eq_true rfl, rfl⟩, trivial⟩, ⟨rfl, rfl, trivial⟩, rfl, rfl, Nat.le_of_ble_eq_true rfl⟩
          first | exact (decide_eq_true (by omega)).symm | exact (decide_eq_false (by omega)).symm
        · rintro m i ⟨rfl, rfl⟩
          cases decide (0 ≤ lv ∧ lv ≤ 20) with
          | false =>
            repeat' ((conv => whnf); first | (refine ask_false (by decide) ?_) | (refine And.intro rfl ?_) | (refine And.intro ⟨by decide, by decide, by decide, by rw [b3]; decide⟩ ?_) | fail)
            conv => whnf
            refine loop_at (15 :: List.range' 85 22) (fun m (i : Int) => i = 0 ∧ m = 0) (fun i => [(15, vi i)]) (fun _ => [.own 22 [.ints .i64 16 xs], .own 25 [.ints .i64 4 (levZ xs)], .own 3 [.ints .i64 0 []], .own 3 [.ints .i64 0 []]]) 0 0 ⟨rfl, rfl⟩ ?_ ?_
            · exact ⟨rfl, ⟨⟨Nat.le_of_ble_eq_true rfl, rfl⟩, trivial⟩, ⟨rfl, rfl, rfl, rfl, trivial⟩, rfl, rfl, Nat.le_of_ble_eq_true rfl⟩
            · rintro m i ⟨rfl, rfl⟩
              repeat' ((conv => whnf); first | (refine ask_false (by decide) ?_) | (refine ask_true (by decide) ?_) | (refine ask_true rfl ?_) | rfl | fail)
          | true =>
            repeat' ((conv => whnf); first | (refine ask_false (by decide) ?_) | (refine And.intro rfl ?_) | (refine And.intro ⟨by decide, by decide, by decide, by rw [b3]; decide⟩ ?_) | fail)
            conv => whnf
            refine loop_at (15 :: List.range' 85 22) (fun m (i : Int) => i = 0 ∧ m = 0) (fun i => [(15, vi i)]) (fun _ => [.own 22 [.ints .i64 16 xs], .own 25 [.ints .i64 4 (levZ xs)], .own 3 [.ints .i64 0 []], .own 3 [.ints .i64 0 []], .own 3 [.ints .i64 0 []]]) 0 0 ⟨rfl, rfl⟩ ?_ ?_
            · exact ⟨rfl, ⟨⟨Nat.le_of_ble_eq_true rfl, rfl⟩, trivial⟩, ⟨rfl, rfl, rfl, rfl, rfl, trivial⟩, rfl, rfl, Nat.le_of_ble_eq_true rfl⟩
            · rintro m i ⟨rfl, rfl⟩
              repeat' ((conv => whnf); first | (refine ask_false (by decide) ?_) | (refine ask_true (by decide) ?_) | (refine ask_true rfl ?_) | rfl | fail)
theorem law_LevelPlays (W0 : World) (xs : List Int) (h : xs.length = 16) (hx : ∀ x ∈ xs, InK .i64 x) (b : Int) (hb : InK .i64 b) (v : Value) (wv : SlIn .i64 W0 v) (hg : GW G1 W0) : Calls Tryd.prog 7 #[.agg (xs.map (Value.int .i64)).toArray, .int .i64 b, v] W0 fun e w' => e = .returned (.bool true) ∧ Below W0.heap.size W0 w' := by
  have hd1 : ∀ σ, (W.den σ (ar16 xs)) = Value.agg (xs.map (Value.int .i64)).toArray := fun σ => by simp [W.den, dens, Seg.den]
  have hx16 : (ar16 xs).rng := ⟨⟨h, hx⟩, trivial⟩
  rcases wv with rfl | ⟨bk, o, len, cap, zs, rfl, hl, hc, hbw, hz, hzx, hcell⟩
  · have hd : ([ar16 xs, i64 b, .c .csn].map (W.den fun _ => (0, 0))).toArray = #[Value.agg (xs.map (Value.int .i64)).toArray, .int .i64 b, .slice none 0 0] := by rw [← hd1 (fun _ => (0, 0))]; rfl
    have := walkg_true FQ_ok Tryd.func7 (ws := [ar16 xs, i64 b, .c .csn]) ⟨hx16, hb, trivial, trivial⟩ rfl (n := 0) (plays_nil xs h b hb) W0 hg
    rw [hd] at this; exact this
  · subst hz
    have hd : ([ar16 xs, i64 b, .c (.csl 0 0 0 len zs.length)].map (W.den fun _ => (bk, o))).toArray = #[Value.agg (xs.map (Value.int .i64)).toArray, .int .i64 b, .slice (some ⟨bk, o, none⟩) len zs.length] := by rw [← hd1 (fun _ => (bk, o))]; rfl
    have := walkg_true_ro FQ_ok Tryd.func7 (ws := [ar16 xs, i64 b, .c (.csl 0 0 0 len zs.length)]) (R := [.ro [.ints .i64 zs.length zs]]) ⟨hx16, hb, ⟨hl, hc⟩, trivial⟩ rfl (n := 0) (plays_row xs h b hb zs len hl hc) (ro_ok hzx) (fun _ => (bk, o)) W0 (by
      intro j c hj
      match j, hj with
      | 0, hj => simp at hj; subst hj; exact ⟨rfl, ro_of_slIn rfl hbw hcell⟩
      | j + 1, hj => simp at hj) hg
    rw [hd] at this; exact this
end Go.Proofs.YtmkdamfdlkpjdaaDoor
