/- Chapter mdct: the law MdctPlays, walked. -/
import Derived.Test.YtbgjmlncdlcglaaBme
set_option linter.all false
namespace Go.Proofs.Ytbgjmlncdlcglaa
open Go.RowKit (Below)
set_option maxRecDepth 100000
set_option maxHeartbeats 32000000

theorem back1_at (w : List Int) {i : Nat} (h : i < 16) : (back1 w).getD i 0 = (backZ w).getD i 0 := by
  unfold back1
  rw [List.getD_eq_getElem?_getD, List.getD_eq_getElem?_getD, List.getElem?_take_of_lt h]
theorem back2_at (w : List Int) (i : Nat) : (back2 w).getD i 0 = (backZ w).getD (16 + i) 0 := by
  unfold back2
  rw [List.getD_eq_getElem?_getD, List.getD_eq_getElem?_getD, List.getElem?_drop]
theorem law_MdctPlays (xs : List Int) (h : xs.length = 16) (hx : ∀ x ∈ xs, InK .i64 x) (ys : List Int) (h' : ys.length = 16) (hy : ∀ x ∈ ys, InK .i64 x) (w0 : World) : Calls Try.prog 12 #[.agg (xs.map (Value.int .i64)).toArray, .agg (ys.map (Value.int .i64)).toArray] w0 fun e w' => e = .returned (.bool true) ∧ Below w0.heap.size w0 w' := by
  have hd1 : (W.den (fun _ => (0, 0)) (ar 16 xs)) = Value.agg (xs.map (Value.int .i64)).toArray := by simp [W.den, dens, Seg.den]
  have hd2 : (W.den (fun _ => (0, 0)) (ar 16 ys)) = Value.agg (ys.map (Value.int .i64)).toArray := by simp [W.den, dens, Seg.den]
  have hd : ([ar 16 xs, ar 16 ys].map (W.den fun _ => (0, 0))).toArray = #[Value.agg (xs.map (Value.int .i64)).toArray, Value.agg (ys.map (Value.int .i64)).toArray] := by rw [← hd1, ← hd2]; rfl
  have := walk1_true FQ2_ok Try.func12 (ws := [ar 16 xs, ar 16 ys]) ⟨ar_rng h hx, ar_rng h' hy, trivial⟩ rfl (n := 0) ?_ w0
  · rw [hd] at this; exact this
  have wn : ¬ (held xs ∧ held ys) → wavesZ xs ys = z16 := fun hn => if_neg hn
  have bn : ¬ held xs → backZ xs = z32 := fun hn => if_neg hn
  rcases Classical.em (held xs) with ha | ha
  · rcases Classical.em (held ys) with hb | hb
    · have hn : True := trivial
      repeat' ((conv => whnf); first | (refine And.intro ⟨by omega, by omega⟩ ?_) | (refine And.intro ⟨ha, hb⟩ ?_) | (refine And.intro trivial ?_) | (refine And.intro (by omega) ?_) | (refine ask_true ha ?_) | (refine ask_false ha ?_) | (refine ask_true hb ?_) | (refine ask_false hb ?_) | (refine ask_false ((by decide : ¬ (true ≠ true))) ?_) | (refine ask_false ((by decide : ¬ (false ≠ false))) ?_) | (with_reducible refine ask_nother rfl ?_) | (refine ask_nother (wn hn) ?_) | (refine And.intro ha ?_) | (refine ⟨by kernel_rfl, ?_⟩) | fail)
      conv => whnf
      refine loop_at (4 :: 10 :: List.range' 62 37) (fun m (i : Int) => 0 ≤ i ∧ i ≤ 16 ∧ m = (16 - i).toNat) (fun i => [(10, vi i)]) (fun i => [oa xs, oa ys, ob (wavesZ xs ys), ob (back1 xs), ob (back2 xs), o32 (backZ xs), ob (overZ xs ys)]) 16 0 ⟨by decide, by decide, rfl⟩ ?_ ?_
      · exact ⟨rfl, ⟨⟨Nat.le_of_ble_eq_true rfl, rfl⟩, trivial⟩, ⟨rfl, rfl, rfl, rfl, rfl, rfl, rfl, trivial⟩, rfl, rfl, Nat.zero_le _⟩
      · rintro m i ⟨h0, h1, rfl⟩
        have em : mulN i.toNat (Try.prog.types[3]).size = i.toNat := mulN1 i.toNat
        have em' : mulN (16 + i).toNat (Try.prog.types[3]).size = (16 + i).toNat := mulN1 _
        conv => whnf
        refine ask_split (fun h2 => ?_) (fun h2 => ?_)
        · have e1 : (back1 xs).getD (mulN i.toNat (Try.prog.types[3]).size) 0 = (backZ xs).getD (mulN i.toNat (Try.prog.types[3]).size) 0 := back1_at _ (by omega)
          have e2 : (back2 xs).getD (mulN i.toNat (Try.prog.types[3]).size) 0 = (backZ xs).getD (mulN (16 + i).toNat (Try.prog.types[3]).size) 0 := by rw [back2_at, em, em', show (16 + i).toNat = 16 + i.toNat by omega]
          have e3 : (overZ xs ys).getD (mulN i.toNat (Try.prog.types[3]).size) 0 = cutS (cutS (xs.getD (mulN i.toNat (Try.prog.types[3]).size) 0) 32 + cutS (ys.getD (mulN i.toNat (Try.prog.types[3]).size) 0) 32) 32 := overZ_at _ _ (by omega)
          have c1 := cut32_bound (xs.getD (mulN i.toNat (Try.prog.types[3]).size) 0)
          have c2 := cut32_bound (ys.getD (mulN i.toNat (Try.prog.types[3]).size) 0)
          repeat' ((conv => whnf); first | (refine And.intro (by omega) ?_) | (refine And.intro ⟨by omega, by omega⟩ ?_) | (refine fun (_ : InK _ _) => ?_) | (with_reducible refine ask_false (not_not_intro e1) ?_) | (with_reducible refine ask_false (not_not_intro e2) ?_) | (with_reducible refine ask_false (not_not_intro e3) ?_) | (refine ask_wrap64 (by omega) (by omega) ?_) | (refine ⟨by kernel_rfl, ?_⟩) | fail)
          conv => whnf
          exact ⟨(16 - (i + 1)).toNat, i + 1, by omega, ⟨by omega, by omega, rfl⟩, rfl, ⟨⟨Nat.le_of_ble_eq_true rfl, rfl⟩, trivial⟩, ⟨rfl, rfl, rfl, rfl, rfl, rfl, rfl, trivial⟩, rfl, rfl, Nat.zero_le _⟩
        · repeat' ((conv => whnf); first | rfl | fail)
    · have hn : ¬ (held xs ∧ held ys) := fun hh => hb hh.2
      repeat' ((conv => whnf); first | (refine And.intro ⟨by omega, by omega⟩ ?_) | (refine And.intro ⟨ha, hb⟩ ?_) | (refine And.intro trivial ?_) | (refine And.intro (by omega) ?_) | (refine ask_true ha ?_) | (refine ask_false ha ?_) | (refine ask_true hb ?_) | (refine ask_false hb ?_) | (refine ask_false ((by decide : ¬ (true ≠ true))) ?_) | (refine ask_false ((by decide : ¬ (false ≠ false))) ?_) | (with_reducible refine ask_nother rfl ?_) | (refine ask_nother (wn hn) ?_) | (refine And.intro ha ?_) | (refine ⟨by kernel_rfl, ?_⟩) | fail)
      conv => whnf
      refine loop_at (4 :: 10 :: List.range' 62 37) (fun m (i : Int) => 0 ≤ i ∧ i ≤ 16 ∧ m = (16 - i).toNat) (fun i => [(10, vi i)]) (fun i => [oa xs, oa ys, ob (wavesZ xs ys), ob (back1 xs), ob (back2 xs), o32 (backZ xs), ob (overZ xs ys)]) 16 0 ⟨by decide, by decide, rfl⟩ ?_ ?_
      · exact ⟨rfl, ⟨⟨Nat.le_of_ble_eq_true rfl, rfl⟩, trivial⟩, ⟨rfl, rfl, rfl, rfl, rfl, rfl, rfl, trivial⟩, rfl, rfl, Nat.zero_le _⟩
      · rintro m i ⟨h0, h1, rfl⟩
        have em : mulN i.toNat (Try.prog.types[3]).size = i.toNat := mulN1 i.toNat
        have em' : mulN (16 + i).toNat (Try.prog.types[3]).size = (16 + i).toNat := mulN1 _
        conv => whnf
        refine ask_split (fun h2 => ?_) (fun h2 => ?_)
        · have e1 : (back1 xs).getD (mulN i.toNat (Try.prog.types[3]).size) 0 = (backZ xs).getD (mulN i.toNat (Try.prog.types[3]).size) 0 := back1_at _ (by omega)
          have e2 : (back2 xs).getD (mulN i.toNat (Try.prog.types[3]).size) 0 = (backZ xs).getD (mulN (16 + i).toNat (Try.prog.types[3]).size) 0 := by rw [back2_at, em, em', show (16 + i).toNat = 16 + i.toNat by omega]
          have e3 : (overZ xs ys).getD (mulN i.toNat (Try.prog.types[3]).size) 0 = cutS (cutS (xs.getD (mulN i.toNat (Try.prog.types[3]).size) 0) 32 + cutS (ys.getD (mulN i.toNat (Try.prog.types[3]).size) 0) 32) 32 := overZ_at _ _ (by omega)
          have c1 := cut32_bound (xs.getD (mulN i.toNat (Try.prog.types[3]).size) 0)
          have c2 := cut32_bound (ys.getD (mulN i.toNat (Try.prog.types[3]).size) 0)
          repeat' ((conv => whnf); first | (refine And.intro (by omega) ?_) | (refine And.intro ⟨by omega, by omega⟩ ?_) | (refine fun (_ : InK _ _) => ?_) | (with_reducible refine ask_false (not_not_intro e1) ?_) | (with_reducible refine ask_false (not_not_intro e2) ?_) | (with_reducible refine ask_false (not_not_intro e3) ?_) | (refine ask_wrap64 (by omega) (by omega) ?_) | (refine ⟨by kernel_rfl, ?_⟩) | fail)
          conv => whnf
          exact ⟨(16 - (i + 1)).toNat, i + 1, by omega, ⟨by omega, by omega, rfl⟩, rfl, ⟨⟨Nat.le_of_ble_eq_true rfl, rfl⟩, trivial⟩, ⟨rfl, rfl, rfl, rfl, rfl, rfl, rfl, trivial⟩, rfl, rfl, Nat.zero_le _⟩
        · repeat' ((conv => whnf); first | rfl | fail)
  · have hn : ¬ (held xs ∧ held ys) := fun hh => ha hh.1
    have hb : True := trivial
    repeat' ((conv => whnf); first | (refine And.intro ⟨by omega, by omega⟩ ?_) | (refine And.intro ⟨ha, hb⟩ ?_) | (refine And.intro trivial ?_) | (refine And.intro (by omega) ?_) | (refine ask_true ha ?_) | (refine ask_false ha ?_) | (refine ask_true hb ?_) | (refine ask_false hb ?_) | (refine ask_false ((by decide : ¬ (true ≠ true))) ?_) | (refine ask_false ((by decide : ¬ (false ≠ false))) ?_) | (with_reducible refine ask_nother rfl ?_) | (refine ask_nother (wn hn) ?_) | (refine And.intro ha ?_) | (refine ⟨by kernel_rfl, ?_⟩) | fail)
    conv => whnf
    refine loop_at (4 :: 10 :: List.range' 62 37) (fun m (i : Int) => 0 ≤ i ∧ i ≤ 16 ∧ m = (16 - i).toNat) (fun i => [(10, vi i)]) (fun i => [oa xs, oa ys, ob (wavesZ xs ys), ob (back1 xs), ob (back2 xs), o32 (backZ xs), ob (overZ xs ys)]) 16 0 ⟨by decide, by decide, rfl⟩ ?_ ?_
    · exact ⟨rfl, ⟨⟨Nat.le_of_ble_eq_true rfl, rfl⟩, trivial⟩, ⟨rfl, rfl, rfl, rfl, rfl, congrArg o32 (bn ha), rfl, trivial⟩, rfl, rfl, Nat.zero_le _⟩
    · rintro m i ⟨h0, h1, rfl⟩
      have em : mulN i.toNat (Try.prog.types[3]).size = i.toNat := mulN1 i.toNat
      have em' : mulN (16 + i).toNat (Try.prog.types[3]).size = (16 + i).toNat := mulN1 _
      conv => whnf
      refine ask_split (fun h2 => ?_) (fun h2 => ?_)
      · have e1 : (back1 xs).getD (mulN i.toNat (Try.prog.types[3]).size) 0 = (backZ xs).getD (mulN i.toNat (Try.prog.types[3]).size) 0 := back1_at _ (by omega)
        have e2 : (back2 xs).getD (mulN i.toNat (Try.prog.types[3]).size) 0 = (backZ xs).getD (mulN (16 + i).toNat (Try.prog.types[3]).size) 0 := by rw [back2_at, em, em', show (16 + i).toNat = 16 + i.toNat by omega]
        have e3 : (overZ xs ys).getD (mulN i.toNat (Try.prog.types[3]).size) 0 = cutS (cutS (xs.getD (mulN i.toNat (Try.prog.types[3]).size) 0) 32 + cutS (ys.getD (mulN i.toNat (Try.prog.types[3]).size) 0) 32) 32 := overZ_at _ _ (by omega)
        have c1 := cut32_bound (xs.getD (mulN i.toNat (Try.prog.types[3]).size) 0)
        have c2 := cut32_bound (ys.getD (mulN i.toNat (Try.prog.types[3]).size) 0)
        repeat' ((conv => whnf); first | (refine And.intro (by omega) ?_) | (refine And.intro ⟨by omega, by omega⟩ ?_) | (refine fun (_ : InK _ _) => ?_) | (with_reducible refine ask_false (not_not_intro e1) ?_) | (with_reducible refine ask_false (not_not_intro e2) ?_) | (with_reducible refine ask_false (not_not_intro e3) ?_) | (refine ask_wrap64 (by omega) (by omega) ?_) | (refine ⟨by kernel_rfl, ?_⟩) | fail)
        conv => whnf
        exact ⟨(16 - (i + 1)).toNat, i + 1, by omega, ⟨by omega, by omega, rfl⟩, rfl, ⟨⟨Nat.le_of_ble_eq_true rfl, rfl⟩, trivial⟩, ⟨rfl, rfl, rfl, rfl, rfl, rfl, rfl, trivial⟩, rfl, rfl, Nat.zero_le _⟩
      · repeat' ((conv => whnf); first | rfl | fail)
end Go.Proofs.Ytbgjmlncdlcglaa
