/- Chapter mdct: the law MdctSizes, walked. -/
import Derived.Test.YtbgjmlncdlcglaaBmg
set_option linter.all false
namespace Go.Proofs.Ytbgjmlncdlcglaa
open Go.RowKit (Below)
set_option maxRecDepth 100000
set_option maxHeartbeats 32000000

theorem getD_most {xs : List Int} {M : Int} (h0 : 0 ≤ M) (h : ∀ x ∈ xs, -M ≤ x ∧ x ≤ M) (i : Nat) : -M ≤ xs.getD i 0 ∧ xs.getD i 0 ≤ M := by
  rw [List.getD_eq_getElem?_getD]
  cases hi : xs[i]? with
  | none => simp; omega
  | some v => exact h v (List.mem_of_getElem? hi)
theorem wnd_most {xs : List Int} {M : Int} (h0 : 0 ≤ M) (hM : M ≤ 1048576) (h : ∀ x ∈ xs, -M ≤ x ∧ x ≤ M) (i : Int) : -M ≤ wnd xs i ∧ wnd xs i ≤ M := by
  have h1 := getD_most h0 h i.toNat
  have h2 := sin_bound (2 * i + 1)
  have h3 := prod_bound h1.1 h1.2 h2.1 h2.2
  rw [wnd_def, shift15 (by omega)]
  omega
theorem waveS_most {xs : List Int} {M : Int} (h0 : 0 ≤ M) (hM : M ≤ 1048576) (h : ∀ x ∈ xs, -M ≤ x ∧ x ≤ M) (k : Int) : -(8 * M) ≤ waveS xs k ∧ waveS xs k ≤ 8 * M := by
  have ht : ∀ i : Int, 0 ≤ i → i < (32 : Nat) → -(M * 32768) ≤ wTerm xs k i ∧ wTerm xs k i ≤ M * 32768 := fun i _ _ => by
    have h1 := wnd_most h0 hM h i
    have h2 := kAt_bound i k
    exact prod_bound h1.1 h1.2 h2.1 h2.2
  have hs := sumN_bound (f := wTerm xs k) (b := M * 32768) (m := 32) ht 32 (by omega)
  unfold waveS
  rw [shift17 (by omega)]
  omega
theorem waveZ_most {xs : List Int} {M : Int} (h0 : 0 ≤ M) (hM : M ≤ 1048576) (h : ∀ x ∈ xs, -M ≤ x ∧ x ≤ M) {x : Int} (hx : x ∈ waveZ xs) : -(8 * M) ≤ x ∧ x ≤ 8 * M := by
  unfold waveZ at hx
  obtain ⟨k, _, rfl⟩ := List.mem_map.1 hx
  exact waveS_most h0 hM h _
theorem z16_held_at (i : Nat) : z16.getD i 0 = 0 := z16_at i
theorem back_none : backZ z16 = z32 := by
  rw [show backZ z16 = backL z16 from if_pos held_z16]
  unfold backL
  have : (fun (n : Nat) => backS z16 (n : Int)) = fun _ => 0 := by
    funext n
    unfold backS
    rw [sumN_zeros fun i => by unfold bTerm; rw [z16_at, Int.zero_mul], shift_zero15, Int.zero_mul, shift_zero16]
  rw [this]; rfl
theorem back1_none : back1 z16 = z16 := by unfold back1; rw [back_none]; rfl
theorem back2_none : back2 z16 = z16 := by unfold back2; rw [back_none]; rfl
theorem two_rows {xs ys : List Int} (h : xs.length = 16) (h' : ys.length = 16) {n : Nat} (hn : n = 32) : List.take (15 + 1) (xs ++ List.drop 16 (List.replicate n 0)) ++ ys ++ List.drop (15 + 1 + 16) (xs ++ List.drop 16 (List.replicate n 0)) = xs ++ ys := by
  subst hn
  rw [List.take_append_of_le_length (by omega), List.take_of_length_le (by omega), List.drop_of_length_le (by simp; omega), List.append_nil]
noncomputable def FQ3 : Fns := FQ2.over 41 hMost
theorem FQ3_ok : FnsOk Try.prog FQ3 := FQ2_ok.over most_ct Try.func41 (by kernel_rfl) (by kernel_rfl)

theorem law_MdctSizes (xs : List Int) (h : xs.length = 16) (hx : ∀ x ∈ xs, InK .i64 x) (ys : List Int) (h' : ys.length = 16) (hy : ∀ x ∈ ys, InK .i64 x) (w0 : World) : Calls Try.prog 9 #[.agg (xs.map (Value.int .i64)).toArray, .agg (ys.map (Value.int .i64)).toArray] w0 fun e w' => e = .returned (.bool true) ∧ Below w0.heap.size w0 w' := by
  have hd1 : (W.den (fun _ => (0, 0)) (ar 16 xs)) = Value.agg (xs.map (Value.int .i64)).toArray := by simp [W.den, dens, Seg.den]
  have hd2 : (W.den (fun _ => (0, 0)) (ar 16 ys)) = Value.agg (ys.map (Value.int .i64)).toArray := by simp [W.den, dens, Seg.den]
  have hd : ([ar 16 xs, ar 16 ys].map (W.den fun _ => (0, 0))).toArray = #[Value.agg (xs.map (Value.int .i64)).toArray, Value.agg (ys.map (Value.int .i64)).toArray] := by rw [← hd1, ← hd2]; rfl
  have := walk1_true FQ3_ok Try.func9 (ws := [ar 16 xs, ar 16 ys]) ⟨ar_rng h hx, ar_rng h' hy, trivial⟩ rfl (n := 0) ?_ w0
  · rw [hd] at this; exact this
  have s1 := small_held xs
  have s2 := small_held ys
  have hxy : ∀ x ∈ smallZ xs ++ smallZ ys, -(mostS (smallZ xs ++ smallZ ys)) ≤ x ∧ x ≤ mostS (smallZ xs ++ smallZ ys) := fun x hx => by
    have := mostS_ge hx
    omega
  have m0 := mostS_nonneg (smallZ xs ++ smallZ ys)
  have m1 : mostS (smallZ xs ++ smallZ ys) ≤ 65536 := mostS_le (by decide) _ fun x hx => by
    rcases List.mem_append.1 hx with h | h
    · exact smallZ_in h
    · exact smallZ_in h
  have ew : wavesZ (smallZ xs) (smallZ ys) = waveZ (smallZ xs ++ smallZ ys) := if_pos ⟨s1, s2⟩
  have wb : ∀ x ∈ wavesZ (smallZ xs) (smallZ ys), -(8 * mostS (smallZ xs ++ smallZ ys)) ≤ x ∧ x ≤ 8 * mostS (smallZ xs ++ smallZ ys) := fun x hx => by
    rw [ew] at hx
    exact waveZ_most m0 (by omega) hxy hx
  have hw : held (wavesZ (smallZ xs) (smallZ ys)) := by
    rw [held_def]
    intro x hx
    have := wb x hx
    omega
  have mw : mostS (wavesZ (smallZ xs) (smallZ ys)) ≤ 8 * mostS (smallZ xs ++ smallZ ys) := mostS_le (by omega) _ wb
  repeat' ((conv => whnf); first | (refine And.intro ⟨by omega, by omega⟩ ?_) | (refine And.intro trivial ?_) | (refine And.intro (by omega) ?_) | (refine ask_true s1 ?_) | (refine ask_true hw ?_) | (refine ask_same back1_none ?_) | (refine ask_same back2_none ?_) | (refine ⟨by kernel_rfl, ?_⟩) | fail)
  conv => whnf
  refine ⟨[7], vi (mostS (wavesZ (smallZ xs) (smallZ ys))), rfl, ?_, ?_, ?_⟩
  · conv => whnf
    refine And.intro ⟨rfl, rfl, rfl, by decide⟩ ?_
    conv => whnf
    exact And.intro ⟨by kernel_rfl, fun x hx => by have := wb x hx; omega⟩ rfl
  · show InK .i64 _
    have := mostS_nonneg (wavesZ (smallZ xs) (smallZ ys))
    simp only [InK, lowK, highK]; omega
  · repeat' ((conv => whnf); first | (refine And.intro rfl ?_) | (refine And.intro (by omega) ?_) | fail)
    conv => whnf
    have es : 2 * (Try.prog.types[38]).size = 32 := by kernel_rfl
    have e2 := two_rows (smallZ_len h) (smallZ_len h') es
    refine ⟨[8], vi (mostS (smallZ xs ++ smallZ ys)), rfl, ?_, ?_, ?_⟩
    · conv => whnf
      refine And.intro ⟨rfl, rfl, rfl, by decide⟩ ?_
      conv => whnf
      rw [e2]
      refine And.intro ⟨by kernel_rfl, fun x hx => ?_⟩ rfl
      have := hxy x hx
      omega
    · show InK .i64 _
      simp only [InK, lowK, highK]; omega
    · repeat' ((conv => whnf); first | (refine And.intro rfl ?_) | (refine And.intro (by omega) ?_) | (refine ask_wrap64 (by omega) (by omega) ?_) | (refine ask_true (by omega) ?_) | (refine ⟨by kernel_rfl, ?_⟩) | rfl | fail)
end Go.Proofs.Ytbgjmlncdlcglaa
