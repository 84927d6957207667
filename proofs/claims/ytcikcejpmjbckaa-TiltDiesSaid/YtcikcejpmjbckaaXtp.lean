/- Chapter tilt: the law TiltParts, walked. -/
import Derived.Test.YtcikcejpmjbckaaXto
set_option linter.all false
namespace Go.Proofs.Ytcikcejpmjbckaa
open Go.RowKit (Below)
set_option maxRecDepth 100000
set_option maxHeartbeats 32000000

/-- The samples from the cut on, and zeros. -/
def tailZ (k : Int) (xs : List Int) : List Int := (List.range 16).map fun (j : Nat) => if k.toNat + j < 16 then xs.getD (k.toNat + j) 0 else 0
theorem tail_len (k : Int) (xs : List Int) : (tailZ k xs).length = 16 := by simp [tailZ]
theorem tail_at {k : Int} {xs : List Int} {j : Nat} (h : k.toNat + j < 16) : (tailZ k xs).getD j 0 = xs.getD (k.toNat + j) 0 := by
  unfold tailZ; rw [getD_range (by omega), if_pos h]
theorem z16_getD (j : Nat) : z16.getD j 0 = 0 := by
  rcases Nat.lt_or_ge j 16 with h | h
  · have : ∀ j < 16, z16.getD j 0 = 0 := by decide
    exact this j h
  · rw [List.getD_eq_getElem?_getD, List.getElem?_eq_none (by show 16 ≤ j; exact h)]; rfl
theorem tail_done {k : Int} {xs : List Int} (h0 : 0 ≤ k) (h1 : k ≤ 16) : stg (tailZ k xs) z16 (16 - k) = tailZ k xs := by
  refine List.ext_getElem (by rw [stg_len (by rw [tail_len]; rfl), tail_len]; rfl) fun i g1 g2 => ?_
  unfold stg at g1 ⊢
  rw [tail_len] at g2
  rcases Nat.lt_or_ge i (16 - k).toNat with hh | hh
  · rw [List.getElem_append_left (by simp [tail_len]; omega), List.getElem_take]
  · rw [List.getElem_append_right (by simp; omega)]
    have e : i - ((tailZ k xs).take (16 - k).toNat).length + (16 - k).toNat = i := by simp [tail_len]; omega
    have a : (z16.drop (16 - k).toNat)[i - ((tailZ k xs).take (16 - k).toNat).length]'(by simp [tail_len] at g1 ⊢; show _ < 16 - _; omega) = 0 := by
      rw [List.getElem_drop]
      have z := z16_getD ((16 - k).toNat + (i - ((tailZ k xs).take (16 - k).toNat).length))
      rw [List.getD_eq_getElem?_getD, List.getElem?_eq_getElem (by show _ < 16; omega)] at z
      simpa using z
    rw [a]
    have b : (tailZ k xs).getD i 0 = 0 := by unfold tailZ; rw [getD_range g2, if_neg (by omega)]
    rw [List.getD_eq_getElem?_getD, List.getElem?_eq_getElem (by rw [tail_len]; exact g2)] at b
    simpa using b.symm
theorem tail_in {k : Int} {xs : List Int} (hx : ∀ i, InK .i64 (xs.getD i 0)) : ∀ x ∈ tailZ k xs, InK .i64 x := fun x h => by
  obtain ⟨j, _, rfl⟩ := List.mem_map.1 h
  split
  · exact hx _
  · exact ⟨by decide, by decide⟩
theorem all_in {xs : List Int} (h : ∀ x ∈ xs, InK .i64 x) (i : Nat) : InK .i64 (xs.getD i 0) := by
  rcases Nat.lt_or_ge i xs.length with hh | hh
  · rw [List.getD_eq_getElem?_getD, List.getElem?_eq_getElem hh]; exact h _ (List.getElem_mem hh)
  · rw [List.getD_eq_getElem?_getD, List.getElem?_eq_none hh]; exact ⟨by decide, by decide⟩
/-- The tail's lifted samples are those of the whole. -/
theorem parts_at {k l f : Int} {xs : List Int} (h0 : 0 ≤ k) (h1 : k < 16) (hf : c22 f = prevL (c22 l) xs k.toNat) {i m n : Nat} (hi : k.toNat ≤ i) (hi' : i < 16) (hm : m = i - k.toNat) (hn : n = i) :
    (liftZ (c22 f) (tailZ k xs)).getD m 0 = (liftZ (c22 l) xs).getD n 0 := by
  subst hm hn
  unfold liftZ
  rw [getD_range (by omega), getD_range hi']
  rw [tail_at (by omega), show k.toNat + (n - k.toNat) = n by omega]
  congr 1
  rcases Nat.eq_or_lt_of_le hi with e | e
  · rw [← e, Nat.sub_self]
    unfold prevL at hf ⊢
    rw [if_pos rfl, hf]
  · unfold prevL
    rw [if_neg (by omega), if_neg (by omega), tail_at (by omega)]
    congr 2; omega

theorem law_TiltParts (l : Int) (hl : InK .i64 l) (xs : List Int) (h : xs.length = 16) (hx : ∀ x ∈ xs, InK .i64 x) (c : Int) (hc : InK .u8 c) (w0 : World) : Calls Try.prog 5 #[.int .i64 l, .agg (xs.map (Value.int .i64)).toArray, .int .u8 c] w0 fun e w' => e = .returned (.bool true) ∧ Below w0.heap.size w0 w' := by
  have hden : (W.den (fun _ => (0, 0)) (ar 16 xs)) = Value.agg (xs.map (Value.int .i64)).toArray := by simp [W.den, dens, Seg.den]
  have := walk1_true FZ_ok Try.func5 (ws := [i64 l, ar 16 xs, u8 c]) ⟨hl, ar_rng h hx, hc, trivial⟩ rfl (n := 0) ?_ w0
  · have hd : ([i64 l, ar 16 xs, u8 c].map (W.den fun _ => (0, 0))).toArray = #[Value.int .i64 l, Value.agg (xs.map (Value.int .i64)).toArray, Value.int .u8 c] := by rw [List.map_cons, List.map_cons, List.map_cons, List.map_nil, hden]; rfl
    rw [hd] at this; exact this
  obtain ⟨n1, n2⟩ := hc
  simp only [lowK, highK] at n1 n2
  conv => whnf
  refine ask_wrap64 (by omega) (by omega) ?_
  conv => whnf
  refine ⟨by omega, fun k hk => ?_⟩
  rw [Int.tmod_eq_emod_of_nonneg (by omega)] at hk
  have k0 : 0 ≤ k ∧ k < 16 := by omega
  clear hk
  conv => whnf
  refine ⟨rfl, ?_⟩
  conv => whnf
  refine loop_at (11 :: List.range' 28 11) (fun m (i : Int) => k ≤ i ∧ i ≤ 16 ∧ m = (16 - i).toNat) (fun i => [(11, vi i)]) (fun i => [oa xs, ob (liftZ (c22 l) xs), oa (stg (tailZ k xs) z16 (i - k))]) (16 - k).toNat k ⟨by omega, by omega, rfl⟩ ?_ ?_
  · exact ⟨rfl, ⟨⟨Nat.le_of_ble_eq_true rfl, rfl⟩, trivial⟩, ⟨rfl, rfl, by rw [Int.sub_self, stg_zero]; rfl, trivial⟩, rfl, rfl, Nat.le_of_ble_eq_true rfl⟩
  · rintro m i ⟨h0, h1, rfl⟩
    have em : mulN i.toNat (Try.prog.types[3]).size = i.toNat := mulN1 _
    have em2 : mulN (i - k).toNat (Try.prog.types[3]).size = (i - k).toNat := mulN1 _
    rcases Int.lt_or_le i 16 with h2 | h2
    · repeat' ((conv => whnf); first | (refine ask_true (by omega) ?_) | (refine ask_wrap64 (by omega) (by omega) ?_) | (refine ⟨by omega, ?_⟩) | (refine fun (_ : InK _ _) => ?_) | fail)
      refine ⟨(16 - (i + 1)).toNat, i + 1, by omega, ⟨by omega, by omega, rfl⟩, rfl, ⟨⟨Nat.le_of_ble_eq_true rfl, rfl⟩, trivial⟩, ⟨rfl, rfl, ?_, trivial⟩, rfl, rfl, Nat.le_of_ble_eq_true rfl⟩
      rw [show i + 1 - k = i - k + 1 by omega]
      refine congrArg oa (stg_set em2 (by rw [tail_len]; rfl) (by omega) (by rw [tail_len]; omega) ?_).symm
      rw [tail_at (by omega), show k.toNat + (i - k).toNat = i.toNat by omega]
      exact congrArg (fun m => xs.getD m 0) em.symm
    · have hi : i = 16 := by omega
      subst hi
      rw [tail_done k0.1 (by omega)]
      have fin : ∀ f : Int, c22 f = prevL (c22 l) xs k.toNat → ∀ i : Int, k ≤ i → i < 16 → (liftZ (c22 f) (tailZ k xs)).getD (mulN (i - k).toNat (Try.prog.types[3]).size) 0 = (liftZ (c22 l) xs).getD (mulN i.toNat (Try.prog.types[3]).size) 0 := fun f hf i g1 g2 =>
        parts_at k0.1 k0.2 hf (i := i.toNat) (by omega) (by omega) ((mulN1 _).trans (by omega)) (mulN1 _)
      rcases Int.lt_or_le 0 k with hk | hk
      · have emk : mulN (k - 1).toNat (Try.prog.types[3]).size = (k - 1).toNat := mulN1 _
        have hf : c22 (xs.getD (mulN (k - 1).toNat (Try.prog.types[3]).size) 0) = prevL (c22 l) xs k.toNat := by
          unfold prevL
          rw [if_neg (by omega), emk, show k.toNat - 1 = (k - 1).toNat by omega]
        repeat' ((conv => whnf); first | (refine ask_true (by omega) ?_) | (refine ask_false (by omega) ?_) | (refine ask_wrap64 (by omega) (by omega) ?_) | (refine ⟨rfl, ?_⟩) | (refine ⟨by omega, ?_⟩) | (refine fun (_ : InK _ _) => ?_) | fail)
        refine loop_at (15 :: List.range' 53 13) (fun m (i : Int) => k ≤ i ∧ i ≤ 16 ∧ m = (16 - i).toNat) (fun i => [(15, vi i)]) (fun i => [oa xs, ob (liftZ (c22 l) xs), oa (tailZ k xs), ob (liftZ (c22 (xs.getD (mulN (k - 1).toNat (Try.prog.types[3]).size) 0)) (tailZ k xs))]) (16 - k).toNat k ⟨by omega, by omega, rfl⟩ ?_ ?_
        · exact ⟨rfl, ⟨⟨Nat.le_of_ble_eq_true rfl, rfl⟩, trivial⟩, ⟨rfl, rfl, rfl, rfl, trivial⟩, rfl, rfl, Nat.le_of_ble_eq_true rfl⟩
        · rintro m i ⟨g0, g1, rfl⟩
          have em : mulN i.toNat (Try.prog.types[3]).size = i.toNat := mulN1 _
          have em2 : mulN (i - k).toNat (Try.prog.types[3]).size = (i - k).toNat := mulN1 _
          rcases Int.lt_or_le i 16 with g2 | g2
          · have ef := fin _ hf i g0 g2
            repeat' ((conv => whnf); first | (refine ask_true (by omega) ?_) | (refine ask_false (by omega) ?_) | (refine ask_wrap64 (by omega) (by omega) ?_) | (refine ⟨by omega, ?_⟩) | (refine fun (_ : InK _ _) => ?_) | (refine ⟨by kernel_rfl, ?_⟩) | fail)
            exact ⟨(16 - (i + 1)).toNat, i + 1, by omega, ⟨by omega, by omega, rfl⟩, rfl, ⟨⟨Nat.le_of_ble_eq_true rfl, rfl⟩, trivial⟩, ⟨rfl, rfl, rfl, rfl, trivial⟩, rfl, rfl, Nat.le_of_ble_eq_true rfl⟩
          · repeat' ((conv => whnf); first | (refine ask_false (by omega) ?_) | rfl | fail)
      · have hf : c22 l = prevL (c22 l) xs k.toNat := by
          unfold prevL
          rw [if_pos (by omega)]
        repeat' ((conv => whnf); first | (refine ask_true (by omega) ?_) | (refine ask_false (by omega) ?_) | (refine ask_wrap64 (by omega) (by omega) ?_) | (refine ⟨rfl, ?_⟩) | (refine ⟨by omega, ?_⟩) | (refine fun (_ : InK _ _) => ?_) | fail)
        refine loop_at (15 :: List.range' 53 13) (fun m (i : Int) => k ≤ i ∧ i ≤ 16 ∧ m = (16 - i).toNat) (fun i => [(15, vi i)]) (fun i => [oa xs, ob (liftZ (c22 l) xs), oa (tailZ k xs), ob (liftZ (c22 l) (tailZ k xs))]) (16 - k).toNat k ⟨by omega, by omega, rfl⟩ ?_ ?_
        · exact ⟨rfl, ⟨⟨Nat.le_of_ble_eq_true rfl, rfl⟩, trivial⟩, ⟨rfl, rfl, rfl, rfl, trivial⟩, rfl, rfl, Nat.le_of_ble_eq_true rfl⟩
        · rintro m i ⟨g0, g1, rfl⟩
          have em : mulN i.toNat (Try.prog.types[3]).size = i.toNat := mulN1 _
          have em2 : mulN (i - k).toNat (Try.prog.types[3]).size = (i - k).toNat := mulN1 _
          rcases Int.lt_or_le i 16 with g2 | g2
          · have ef := fin _ hf i g0 g2
            repeat' ((conv => whnf); first | (refine ask_true (by omega) ?_) | (refine ask_false (by omega) ?_) | (refine ask_wrap64 (by omega) (by omega) ?_) | (refine ⟨by omega, ?_⟩) | (refine fun (_ : InK _ _) => ?_) | (refine ⟨by kernel_rfl, ?_⟩) | fail)
            exact ⟨(16 - (i + 1)).toNat, i + 1, by omega, ⟨by omega, by omega, rfl⟩, rfl, ⟨⟨Nat.le_of_ble_eq_true rfl, rfl⟩, trivial⟩, ⟨rfl, rfl, rfl, rfl, trivial⟩, rfl, rfl, Nat.le_of_ble_eq_true rfl⟩
          · repeat' ((conv => whnf); first | (refine ask_false (by omega) ?_) | rfl | fail)
end Go.Proofs.Ytcikcejpmjbckaa
