/- Chapter tilt: the law TiltBack, walked. -/
import Derived.Test.YtcikcejpmjbckaaXtm
set_option linter.all false
namespace Go.Proofs.Ytcikcejpmjbckaa
open Go.RowKit (Below)
set_option maxRecDepth 100000
set_option maxHeartbeats 32000000

theorem prev_small {l : Int} {xs : List Int} (hl : -32768 < l ∧ l < 32768) (hx : ∀ i, -32768 < xs.getD i 0 ∧ xs.getD i 0 < 32768) (i : Nat) : -32768 < prevL l xs i ∧ prevL l xs i < 32768 := by
  unfold prevL
  split
  · exact hl
  · have := cut22 (xs.getD (i - 1) 0); have := hx (i - 1); omega
theorem lay_lift {l : Int} {xs : List Int} (hl : -32768 < l ∧ l < 32768) (hx : ∀ i, -32768 < xs.getD i 0 ∧ xs.getD i 0 < 32768) : ∀ n, n ≤ 16 → layP l (liftZ l xs) n = prevL l xs n
  | 0, _ => rfl
  | n + 1, h => by
    rw [layP, lay_lift hl hx n (by omega)]
    have e : (liftZ l xs).getD n 0 = lift1 (prevL l xs n) (xs.getD n 0) := by unfold liftZ; exact getD_range (by omega)
    rw [e]
    have b := prev_small hl hx n
    have t := td28 (a := prevL l xs n) (by omega)
    have e2 : prevL l xs (n + 1) = c22 (xs.getD n 0) := by unfold prevL; rw [if_neg (by omega), Nat.add_sub_cancel]
    rw [e2]
    have := hx n
    have h1 := cut22 (xs.getD n 0)
    unfold lay1 lift1
    rw [h1]
    have h2 := cut22 (max (min (xs.getD n 0) 2097151) (-2097152) - (27853 * prevL l xs n).tdiv 32768)
    rw [h2, cut22]
    omega
theorem c22_small {x : Int} (h : -32768 < x ∧ x < 32768) : c22 x = x := by rw [cut22]; omega
theorem back_all {l : Int} {xs : List Int} (h : xs.length = 16) (hl : -32768 < l ∧ l < 32768) (hx : ∀ i, -32768 < xs.getD i 0 ∧ xs.getD i 0 < 32768) : layZ l (liftZ l xs) = xs := by
  refine List.ext_getElem (by rw [layZ_len, h]) fun i h1 h2 => ?_
  have e1 : (layZ l (liftZ l xs)).getD i 0 = layP l (liftZ l xs) (i + 1) := by unfold layZ; exact getD_range (by omega)
  have e2 : prevL l xs (i + 1) = c22 (xs.getD i 0) := by unfold prevL; rw [if_neg (by omega), Nat.add_sub_cancel]
  rw [lay_lift hl hx (i + 1) (by omega), e2, c22_small (hx i)] at e1
  simpa [List.getD_eq_getElem?_getD, h1, h2] using e1
theorem sound_small {xs : List Int} (hx : ∀ x ∈ xs, -32768 < x ∧ x < 32768) : soundZ xs = xs := by
  unfold soundZ
  conv => rhs; rw [← List.map_id xs]
  refine List.map_congr_left fun x h => ?_
  have := hx x h
  have := cut16 x
  show c16 x = x
  omega

theorem law_TiltBack (l : Int) (hl : InK .i64 l) (xs : List Int) (h : xs.length = 16) (hx : ∀ x ∈ xs, InK .i64 x) (w0 : World) : Calls Try.prog 9 #[.int .i64 l, .agg (xs.map (Value.int .i64)).toArray] w0 fun e w' => e = .returned (.bool true) ∧ Below w0.heap.size w0 w' := by
  have hden : (W.den (fun _ => (0, 0)) (ar 16 xs)) = Value.agg (xs.map (Value.int .i64)).toArray := by simp [W.den, dens, Seg.den]
  have := walk1_true FZ_ok Try.func9 (ws := [i64 l, ar 16 xs]) ⟨hl, ar_rng h hx, trivial⟩ rfl (n := 0) ?_ w0
  · have hd : ([i64 l, ar 16 xs].map (W.den fun _ => (0, 0))).toArray = #[Value.int .i64 l, Value.agg (xs.map (Value.int .i64)).toArray] := by rw [List.map_cons, List.map_cons, List.map_nil, hden]; rfl
    rw [hd] at this; exact this
  conv => whnf
  refine ⟨by omega, fun n hn => ?_⟩
  have n0 := tmod_bound (a := l) (b := 32768) (by decide)
  rw [← hn] at n0
  clear hn
  obtain ⟨zs, ez⟩ : ∃ zs, zs = xs.map fun x => x.tmod 32768 := ⟨_, rfl⟩
  have zl : zs.length = 16 := by rw [ez]; simp [h]
  have z0 : ∀ x ∈ zs, -32768 < x ∧ x < 32768 := fun x hx => by
    rw [ez] at hx
    obtain ⟨y, _, rfl⟩ := List.mem_map.1 hx
    exact tmod_bound (by decide)
  have z1 : ∀ i, -32768 < zs.getD i 0 ∧ zs.getD i 0 < 32768 := fun i => by
    rcases Nat.lt_or_ge i zs.length with hh | hh
    · rw [List.getD_eq_getElem?_getD, List.getElem?_eq_getElem hh]; exact z0 _ (List.getElem_mem hh)
    · rw [List.getD_eq_getElem?_getD, List.getElem?_eq_none hh]; decide
  have cn := c22_small n0
  have b1 : layZ (c22 n) (liftZ (c22 n) zs) = zs := by rw [cn]; exact back_all zl n0 z1
  have b0 : prevL n zs 16 = zs.getD 15 0 := by unfold prevL; rw [if_neg (by decide)]; exact c22_small (z1 15)
  have b2 : prevL (c22 n) zs 16 = zs.getD 15 0 := by rw [cn]; exact b0
  have b3 : layP (c22 n) (liftZ (c22 n) zs) 16 = zs.getD 15 0 := by rw [cn, lay_lift n0 z1 16 (by decide)]; exact b0
  have b4 : soundZ (layZ (c22 n) (liftZ (c22 n) zs)) = zs := by rw [b1]; exact sound_small z0
  conv => whnf
  refine loop_at (7 :: List.range' 16 10) (fun m (i : Int) => 0 ≤ i ∧ i ≤ 16 ∧ m = (16 - i).toNat) (fun i => [(7, vi i)]) (fun i => [oa xs, ob (stg zs z16 i)]) 16 0 ⟨by decide, by decide, rfl⟩ ?_ ?_
  · exact ⟨rfl, ⟨⟨Nat.le_of_ble_eq_true rfl, rfl⟩, trivial⟩, ⟨rfl, by rw [stg_zero]; rfl, trivial⟩, rfl, rfl, Nat.le_of_ble_eq_true rfl⟩
  · rintro m i ⟨h0, h1, rfl⟩
    have em : mulN i.toNat (Try.prog.types[3]).size = i.toNat := mulN1 i.toNat
    rcases Int.lt_or_le i 16 with h2 | h2
    · repeat' ((conv => whnf); first | (refine ask_true (by omega) ?_) | (refine ask_wrap64 (by omega) (by omega) ?_) | (refine ⟨by omega, ?_⟩) | (refine fun (_ : InK _ _) => ?_) | (refine ask_is rfl ?_) | fail)
      refine ⟨(16 - (i + 1)).toNat, i + 1, by omega, ⟨by omega, by omega, rfl⟩, rfl, ⟨⟨Nat.le_of_ble_eq_true rfl, rfl⟩, trivial⟩, ⟨rfl, ?_, trivial⟩, rfl, rfl, Nat.le_of_ble_eq_true rfl⟩
      refine congrArg ob (stg_set em (by rw [zl]; rfl) h0 (by rw [zl]; omega) ?_).symm
      rw [ez, getD_map (by omega)]
      exact congrArg (fun m => (xs.getD m 0).tmod 32768) em.symm
    · have hi : i = 16 := by omega
      subst hi
      have em15 : mulN (Int.toNat 15) (Try.prog.types[3]).size = 15 := mulN1 15
      rw [stg_all (by rw [zl]; rfl) (by rw [zl]; rfl)]
      have b2' := b2
      have b3' := b3
      rw [show (15 : Nat) = mulN (Int.toNat 15) (Try.prog.types[3]).size from em15.symm] at b2' b3'
      repeat' ((conv => whnf); first | (refine ask_false (by omega) ?_) | (with_reducible refine ask_same b1 ?_) | (with_reducible refine ask_same b4 ?_) | (with_reducible refine ask_true b2' ?_) | (with_reducible refine ask_true b3' ?_) | (refine ⟨rfl, ?_⟩) | (refine ⟨by omega, ?_⟩) | (refine fun (_ : InK _ _) => ?_) | (refine ⟨by kernel_rfl, ?_⟩) | rfl | fail)
end Go.Proofs.Ytcikcejpmjbckaa
