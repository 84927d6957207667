/- Chapter tilt: the document's own functions; the law TiltPlays, walked. -/
import Derived.Test.YtcikcejpmjbckaaXtn
set_option linter.all false
namespace Go.Proofs.Ytcikcejpmjbckaa
open Go.RowKit (Below)
set_option maxRecDepth 100000
set_option maxHeartbeats 32000000

noncomputable def FQ : Fns := F0.plus 27 (ct2 (fun _ n => 1 ≤ n ∧ n ≤ 62) cutS)
theorem FQ_ok : FnsOk Try.prog FQ := F0_ok.plus refCut_ct Try.func27 (by kernel_rfl) (by kernel_rfl)

theorem refLift_walk (l : Int) (xs : List Int) (hl : InK .i64 l) (h : xs.length = 16) (hx : ∀ x ∈ xs, InK .i64 x) : walk FQ 0 Try.f29 [i64 l, ar 16 xs] [] fun y _ => y = .tup [ar 16 (liftZ (c22 l) xs), i64 (prevL (c22 l) xs 16)] := by
  have pb := fun i => prev_bound (l := c22 l) (xs := xs) (c22_bound l) i
  conv => whnf
  refine ⟨⟨by decide, by decide⟩, ?_⟩
  rw [← c22_def]
  conv => whnf
  refine loop_at (0 :: List.range' 7 2 ++ List.range' 11 16) (fun m (i : Int) => 0 ≤ i ∧ i ≤ 16 ∧ m = (16 - i).toNat) (fun i => [(0, vi (prevL (c22 l) xs i.toNat)), (7, vi i)]) (fun i => [oa xs, oa z16, oa (stg (liftZ (c22 l) xs) z16 i)]) 16 0 ⟨by decide, by decide, rfl⟩ ?_ ?_
  · exact ⟨rfl, ⟨⟨Nat.le_of_ble_eq_true rfl, rfl⟩, ⟨Nat.le_of_ble_eq_true rfl, rfl⟩, trivial⟩, ⟨rfl, rfl, by rw [stg_zero]; rfl, trivial⟩, rfl, rfl, Nat.le_of_ble_eq_true rfl⟩
  · rintro m i ⟨h0, h1, rfl⟩
    have b1 := pb i.toNat
    have b3 := td28 b1
    have em : mulN i.toNat (Try.prog.types[3]).size = i.toNat := mulN1 i.toNat
    rcases Int.lt_or_le i 16 with h2 | h2
    · have b2 := c22_bound (xs.getD (mulN i.toNat (Try.prog.types[3]).size) 0)
      rw [c22_def] at b2
      repeat' ((conv => whnf); first | (refine ask_true (by omega) ?_) | (refine ask_wrap64 (by omega) (by omega) ?_) | (refine ⟨by omega, ?_⟩) | (refine fun (_ : InK _ _) => ?_) | fail)
      refine ⟨(16 - (i + 1)).toNat, i + 1, by omega, ⟨by omega, by omega, rfl⟩, rfl, ⟨⟨Nat.le_of_ble_eq_true rfl, ?_⟩, ⟨Nat.le_of_ble_eq_true rfl, rfl⟩, trivial⟩, ⟨rfl, rfl, ?_, trivial⟩, rfl, rfl, Nat.le_of_ble_eq_true rfl⟩
      · refine vi_eq ?_
        rw [prev_next _ _ h0, c22_def]
        exact congrArg (fun m => cutS (xs.getD m 0) 22) em
      · refine congrArg oa (stg_set em (by rw [liftZ_len]; rfl) h0 (by rw [liftZ_len]; omega) ?_).symm
        unfold liftZ
        rw [getD_range (by omega)]
        unfold lift1
        rw [c22_def]
        exact congrArg (fun m => cutS (xs.getD m 0) 22 - (27853 * prevL (c22 l) xs i.toNat).tdiv 32768) em.symm
    · have hi : i = 16 := by omega
      subst hi
      rw [stg_all (by rw [liftZ_len]; rfl) (by rw [liftZ_len]; rfl)]
      repeat' ((conv => whnf); first | (refine ask_false (by omega) ?_) | (refine ⟨by kernel_rfl, ?_⟩) | rfl | fail)
theorem refLift_ct : CtOk Try.prog 29 (ctLA (fun l xs => liftZ (c22 l) xs) (fun l xs => prevL (c22 l) xs 16)) := ctLA_ok FQ_ok Try.func29 (fun l xs h _ => ⟨⟨liftZ_len _ _, fun x hx => by
  obtain ⟨i, _, rfl⟩ := List.mem_map.1 hx
  have := td28 (prev_bound (l := c22 l) (xs := xs) (c22_bound l) i)
  have := c22_bound (xs.getD i 0)
  exact small_in (by unfold lift1; omega)⟩, small_in (by have := prev_bound (l := c22 l) (xs := xs) (c22_bound l) 16; omega)⟩) refLift_walk

theorem set_getD {xs : List Int} {m : Nat} {v : Int} (h : m < xs.length) : (xs.set m v).getD m 0 = v := by
  simp [List.getD_eq_getElem?_getD, h]
theorem stg_len {zs xs : List Int} (h : zs.length = xs.length) (i : Int) : (stg zs xs i).length = xs.length := by
  unfold stg; simp; omega
theorem refLay_walk (l : Int) (xs : List Int) (hl : InK .i64 l) (h : xs.length = 16) (hx : ∀ x ∈ xs, InK .i64 x) : walk FQ 0 Try.f30 [i64 l, ar 16 xs] [] fun y _ => y = .tup [ar 16 (layZ (c22 l) xs), i64 (layP (c22 l) xs 16)] := by
  have pb := lay_bound (l := c22 l) (xs := xs) (c22_bound l)
  conv => whnf
  refine ⟨⟨by decide, by decide⟩, ?_⟩
  rw [← c22_def]
  conv => whnf
  refine loop_at (0 :: 7 :: List.range' 10 18) (fun m (i : Int) => 0 ≤ i ∧ i ≤ 16 ∧ m = (16 - i).toNat) (fun i => [(0, vi (layP (c22 l) xs i.toNat)), (7, vi i)]) (fun i => [oa xs, oa z16, oa (stg (layZ (c22 l) xs) z16 i)]) 16 0 ⟨by decide, by decide, rfl⟩ ?_ ?_
  · exact ⟨rfl, ⟨⟨Nat.le_of_ble_eq_true rfl, rfl⟩, ⟨Nat.le_of_ble_eq_true rfl, rfl⟩, trivial⟩, ⟨rfl, rfl, by rw [stg_zero]; rfl, trivial⟩, rfl, rfl, Nat.le_of_ble_eq_true rfl⟩
  · rintro m i ⟨h0, h1, rfl⟩
    have b1 := pb i.toNat
    have b3 := td28 b1
    have em : mulN i.toNat (Try.prog.types[3]).size = i.toNat := mulN1 i.toNat
    rcases Int.lt_or_le i 16 with h2 | h2
    · have b2 := c22_bound (xs.getD (mulN i.toNat (Try.prog.types[3]).size) 0)
      rw [c22_def] at b2
      repeat' ((conv => whnf); first | (refine ask_true (by omega) ?_) | (refine ask_wrap64 (by omega) (by omega) ?_) | (refine ⟨by omega, ?_⟩) | (refine fun (_ : InK _ _) => ?_) | fail)
      have en : layP (c22 l) xs (i + 1).toNat = cutS (cutS (xs.getD i.toNat 0) 22 + (27853 * layP (c22 l) xs i.toNat).tdiv 32768) 22 := by
        rw [show (i + 1).toNat = i.toNat + 1 by omega, layP, lay1, c22_def, c22_def]
      have ev : cutS (cutS (xs.getD (mulN i.toNat (Try.prog.types[3]).size) 0) 22 + (27853 * layP (c22 l) xs i.toNat).tdiv 32768) 22 = layP (c22 l) xs (i + 1).toNat := by
        rw [en, em]
      refine ⟨(16 - (i + 1)).toNat, i + 1, by omega, ⟨by omega, by omega, rfl⟩, rfl, ⟨⟨Nat.le_of_ble_eq_true rfl, ?_⟩, ⟨Nat.le_of_ble_eq_true rfl, rfl⟩, trivial⟩, ⟨rfl, rfl, ?_, trivial⟩, rfl, rfl, Nat.le_of_ble_eq_true rfl⟩
      · refine vi_eq ?_
        refine Eq.trans (set_getD ?_) ev
        rw [stg_len (by rw [layZ_len]; rfl), em]
        show i.toNat < 16
        omega
      · refine congrArg oa (stg_set em (by rw [layZ_len]; rfl) h0 (by rw [layZ_len]; omega) ?_).symm
        rw [ev]
        unfold layZ
        rw [getD_range (by omega), show (i + 1).toNat = i.toNat + 1 by omega]
    · have hi : i = 16 := by omega
      subst hi
      rw [stg_all (by rw [layZ_len]; rfl) (by rw [layZ_len]; rfl)]
      repeat' ((conv => whnf); first | (refine ask_false (by omega) ?_) | (refine ⟨by kernel_rfl, ?_⟩) | rfl | fail)
theorem refLay_ct : CtOk Try.prog 30 (ctLA (fun l xs => layZ (c22 l) xs) (fun l xs => layP (c22 l) xs 16)) := ctLA_ok FQ_ok Try.func30 (fun l xs h _ => ⟨⟨layZ_len _ _, fun x hx => by
  obtain ⟨i, _, rfl⟩ := List.mem_map.1 hx
  have := lay_bound (l := c22 l) (xs := xs) (c22_bound l) (i + 1)
  exact small_in (by omega)⟩, small_in (by have := lay_bound (l := c22 l) (xs := xs) (c22_bound l) 16; omega)⟩) refLay_walk

noncomputable def FV : Fns := ((FZ.plus 27 (ct2 (fun _ n => 1 ≤ n ∧ n ≤ 62) cutS)).plus 29 (ctLA (fun l xs => liftZ (c22 l) xs) (fun l xs => prevL (c22 l) xs 16))).plus 30 (ctLA (fun l xs => layZ (c22 l) xs) (fun l xs => layP (c22 l) xs 16))
theorem FV_ok : FnsOk Try.prog FV := ((FZ_ok.plus refCut_ct Try.func27 (by kernel_rfl) (by kernel_rfl)).plus refLift_ct Try.func29 (by kernel_rfl) (by kernel_rfl)).plus refLay_ct Try.func30 (by kernel_rfl) (by kernel_rfl)
theorem law_TiltPlays (l : Int) (hl : InK .i64 l) (xs : List Int) (h : xs.length = 16) (hx : ∀ x ∈ xs, InK .i64 x) (w0 : World) : Calls Try.prog 10 #[.int .i64 l, .agg (xs.map (Value.int .i64)).toArray] w0 fun e w' => e = .returned (.bool true) ∧ Below w0.heap.size w0 w' := by
  have hden : (W.den (fun _ => (0, 0)) (ar 16 xs)) = Value.agg (xs.map (Value.int .i64)).toArray := by simp [W.den, dens, Seg.den]
  have := walk1_true FV_ok Try.func10 (ws := [i64 l, ar 16 xs]) ⟨hl, ar_rng h hx, trivial⟩ rfl (n := 0) ?_ w0
  · have hd : ([i64 l, ar 16 xs].map (W.den fun _ => (0, 0))).toArray = #[Value.int .i64 l, Value.agg (xs.map (Value.int .i64)).toArray] := by rw [List.map_cons, List.map_cons, List.map_nil, hden]; rfl
    rw [hd] at this; exact this
  repeat' ((conv => whnf); first | (refine ⟨rfl, ?_⟩) | fail)
  refine loop_at (14 :: List.range' 43 12) (fun m (i : Int) => 0 ≤ i ∧ i ≤ 16 ∧ m = (16 - i).toNat) (fun i => [(14, vi i)]) (fun i => [oa xs, ob (liftZ (c22 l) xs), oa (liftZ (c22 l) xs), ob (layZ (c22 l) xs), oa (layZ (c22 l) xs), ob (soundZ xs)]) 16 0 ⟨by decide, by decide, rfl⟩ ?_ ?_
  · exact ⟨rfl, ⟨⟨Nat.le_of_ble_eq_true rfl, rfl⟩, trivial⟩, ⟨rfl, rfl, rfl, rfl, rfl, rfl, trivial⟩, rfl, rfl, Nat.le_of_ble_eq_true rfl⟩
  · rintro m i ⟨h0, h1, rfl⟩
    have em : mulN i.toNat (Try.prog.types[3]).size = i.toNat := mulN1 i.toNat
    rcases Int.lt_or_le i 16 with h2 | h2
    · have e1 : (soundZ xs).getD (mulN i.toNat (Try.prog.types[3]).size) 0 = cutS (xs.getD (mulN i.toNat (Try.prog.types[3]).size) 0) 16 := (getD_map (by omega)).trans (c16_def _)
      repeat' ((conv => whnf); first | (refine ask_true (by omega) ?_) | (refine ask_false (by omega) ?_) | (refine ask_wrap64 (by omega) (by omega) ?_) | (refine ⟨by omega, ?_⟩) | (refine fun (_ : InK _ _) => ?_) | (refine ⟨by kernel_rfl, ?_⟩) | fail)
      exact ⟨(16 - (i + 1)).toNat, i + 1, by omega, ⟨by omega, by omega, rfl⟩, rfl, ⟨⟨Nat.le_of_ble_eq_true rfl, rfl⟩, trivial⟩, ⟨rfl, rfl, rfl, rfl, rfl, rfl, trivial⟩, rfl, rfl, Nat.le_of_ble_eq_true rfl⟩
    · have hi : i = 16 := by omega
      subst hi
      repeat' ((conv => whnf); first | (refine ask_false (by omega) ?_) | (with_reducible refine ask_same rfl ?_) | (with_reducible refine ask_true rfl ?_) | (refine ⟨by kernel_rfl, ?_⟩) | rfl | fail)
end Go.Proofs.Ytcikcejpmjbckaa
