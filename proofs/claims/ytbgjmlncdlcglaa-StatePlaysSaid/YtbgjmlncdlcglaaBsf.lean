/- Chapter state: the law StateNext, walked. -/
import Derived.Test.YtbgjmlncdlcglaaBse
set_option linter.all false
namespace Go.Proofs.Ytbgjmlncdlcglaa
open Go.RowKit (Below)
set_option maxRecDepth 100000
set_option maxHeartbeats 32000000

theorem stN_right {s : St} {lv wv : List Int} {q : Int} : rightP (stN s lv wv q) := by
  rcases Classical.em (okN s lv wv q) with h | h
  · rw [stN_ok h]
    have h2 := h.2
    rw [rightP_def] at h2 ⊢
    exact ⟨fun x hx => memZ_in hx, h2.2.1, laidP_in _ _, h2.2.2.2⟩
  · rw [stN_no h]; exact right_st0
theorem ok0 : okN st0 z4 z16 0 := ⟨right_st0, right_st0⟩
theorem out0 : outN st0 z4 z16 0 = z16 := by
  rw [outN_ok ok0, (laid_none st0 rfl rfl).1]
  exact z16_map c16_none
theorem stN0 : stN st0 z4 z16 0 = st0 := by
  rw [stN_ok ok0, (laid_none st0 rfl rfl).2, memZ_none]; rfl
noncomputable def FSb : Fns := (((FSa.plus 33 (ct0 (vb true))).plus 35 ctS1).plus 60 ctNext).plus 36 (ctSt rightP)
theorem FSb_ok : FnsOk Try.prog FSb := (((FSa_ok.plus awake12_ct Try.func33 (by kernel_rfl) (by kernel_rfl)).plus of_ct Try.func35 (by kernel_rfl) (by kernel_rfl)).plus next_ct Try.func60 (by kernel_rfl) (by kernel_rfl)).plus right_ct Try.func36 (by kernel_rfl) (by kernel_rfl)
theorem next_law (s : St) (lv wv : List Int) (q : Int) (h : StOk s) (hv : lv.length = 4 ∧ ∀ x ∈ lv, InK .i64 x) (hw : wv.length = 16 ∧ ∀ x ∈ wv, InK .i64 x) (hq : InK .i64 q) :
    walk2 FSb 0 Try.f20 [stW s, ar 4 lv, ar 16 wv, i64 q] [] fun y _ => y = vb true := by
  have hr : rightP (stN s lv wv q) := stN_right
  have hin : ∀ k : Nat, k < 16 → -32768 ≤ (outN s lv wv q).getD k 0 ∧ (outN s lv wv q).getD k 0 ≤ 32767 := fun k hk => outN_in (mem_at (by rw [outN_len]; exact hk))
  repeat' ((conv => whnf); first | (refine And.intro ⟨rfl, rfl, rfl⟩ ?_) | (refine And.intro ⟨rfl, rfl, rfl, rfl, rfl⟩ ?_) | (refine And.intro trivial ?_) | (refine ⟨by kernel_rfl, ?_⟩) | fail)
  refine loop_at (11 :: List.range' 25 14) (fun m (i : Int) => 0 ≤ i ∧ i ≤ 16 ∧ m = (16 - i).toNat) (fun i => [(11, vi i)]) (fun _ => [rb s, .own 42 [.ints .i64 4 lv], .own 37 [.ints .i64 16 wv], ob (outN s lv wv q), sb (stN s lv wv q)]) 16 0 ⟨by decide, by decide, rfl⟩ ?_ ?_
  · exact ⟨rfl, ⟨⟨Nat.le_of_ble_eq_true rfl, rfl⟩, trivial⟩, ⟨rfl, rfl, rfl, rfl, rfl, trivial⟩, rfl, rfl, Nat.zero_le _⟩
  · rintro m i ⟨i0, i1, rfl⟩
    have em : mulN i.toNat (Try.prog.types[3]).size = i.toNat := mulN1 i.toNat
    rcases Int.lt_or_le i 16 with i2 | i2
    · have hi := hin (mulN i.toNat (Try.prog.types[3]).size) (by omega)
      repeat' ((conv => whnf); first | (refine ask_true (by omega) ?_) | (refine ask_false (by omega) ?_) | (refine And.intro (by omega) ?_) | (refine fun (_ : InK _ _) => ?_) | (refine ask_wrap64 (by omega) (by omega) ?_) | fail)
      conv => whnf
      exact ⟨(16 - (i + 1)).toNat, i + 1, by omega, ⟨by omega, by omega, rfl⟩, rfl, ⟨⟨Nat.le_of_ble_eq_true rfl, rfl⟩, trivial⟩, ⟨rfl, rfl, rfl, rfl, rfl, trivial⟩, rfl, rfl, Nat.zero_le _⟩
    · have hi : i = 16 := by omega
      subst hi
      repeat' ((conv => whnf); first | (refine ask_false (by omega) ?_) | (refine And.intro ⟨rfl, rfl, rfl, rfl, rfl⟩ ?_) | (refine And.intro ⟨rfl, rfl, rfl⟩ ?_) | (refine ask_true hr ?_) | (refine ask_same out0 ?_) | (refine ask_st _ _ stN0 ?_) | rfl | fail)
theorem law_StateNext (xs : List Int) (h : xs.length = 38) (hx : ∀ x ∈ xs, InK .i64 x) (lv : List Int) (h1 : lv.length = 4) (hv : ∀ x ∈ lv, InK .i64 x) (wv : List Int) (h2 : wv.length = 16) (hw : ∀ x ∈ wv, InK .i64 x) (q : Int) (hq : InK .i64 q) (w0 : World) :
    Calls Try.prog 20 #[.agg (xs.map (Value.int .i64)).toArray, .agg (lv.map (Value.int .i64)).toArray, .agg (wv.map (Value.int .i64)).toArray, .int .i64 q] w0 fun e w' => e = .returned (.bool true) ∧ Below w0.heap.size w0 w' := by
  obtain ⟨s, hs, hd⟩ := st_split xs h hx
  have := walk2_true FSb_ok Try.func20 (ws := [stW s, ar 4 lv, ar 16 wv, i64 q]) ⟨hs.rng, ⟨⟨h1, hv⟩, trivial⟩, ⟨⟨h2, hw⟩, trivial⟩, hq, trivial⟩ rfl (n := 0) (next_law s lv wv q hs ⟨h1, hv⟩ ⟨h2, hw⟩ hq) w0
  have e : ([stW s, ar 4 lv, ar 16 wv, i64 q].map (W.den fun _ => (0, 0))).toArray = #[Value.agg (xs.map (Value.int .i64)).toArray, .agg (lv.map (Value.int .i64)).toArray, .agg (wv.map (Value.int .i64)).toArray, .int .i64 q] := by
    rw [← hd]
    simp [W.den, dens, Seg.den, C.den]
  rw [e] at this; exact this
end Go.Proofs.Ytbgjmlncdlcglaa
