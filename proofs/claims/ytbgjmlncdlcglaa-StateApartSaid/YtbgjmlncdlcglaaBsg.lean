/- Chapter state: the law StateApart, walked. -/
import Derived.Test.YtbgjmlncdlcglaaBsf
set_option linter.all false
namespace Go.Proofs.Ytbgjmlncdlcglaa
open Go.RowKit (Below)
set_option maxRecDepth 100000
set_option maxHeartbeats 32000000

noncomputable def FSc : Fns := FSb.plus 53 (ctSt rightP)
theorem FSc_ok : FnsOk Try.prog FSc := FSb_ok.plus refRight_ct Try.func53 (by kernel_rfl) (by kernel_rfl)
theorem apart {s o : St} {wv : List Int} (h1 : rightP s) (h2 : rightP o) : outN s o.v wv 0 = outN ⟨s.m, s.l, o.v, o.w, o.q⟩ s.v wv o.q ∧ (stN s o.v wv 0).m = (stN ⟨s.m, s.l, o.v, o.w, o.q⟩ s.v wv o.q).m ∧ (stN s o.v wv 0).l = (stN ⟨s.m, s.l, o.v, o.w, o.q⟩ s.v wv o.q).l ∧ (stN s o.v wv 0).w = (stN ⟨s.m, s.l, o.v, o.w, o.q⟩ s.v wv o.q).w := by
  have r1 := h1
  have r2 := h2
  rw [rightP_def] at r1 r2
  have e1 : laidZ s wv = laidZ ⟨s.m, s.l, o.v, o.w, o.q⟩ wv := rfl
  have e2 : laidP s wv = laidP ⟨s.m, s.l, o.v, o.w, o.q⟩ wv := rfl
  have rt : rightP ⟨s.m, s.l, o.v, o.w, o.q⟩ := by rw [rightP_def]; exact ⟨r1.1, r2.2.1, r1.2.2.1, r2.2.2.2⟩
  have z0 := right_st0
  rw [rightP_def] at z0
  rcases Classical.em (held wv) with hw | hw
  · have k1 : okN s o.v wv 0 := ⟨h1, by rw [rightP_def]; exact ⟨z0.1, r2.2.1, z0.2.2.1, hw, by show (0 : Int) ≤ 0; decide, by show (0 : Int) ≤ 255; decide⟩⟩
    have k2 : okN ⟨s.m, s.l, o.v, o.w, o.q⟩ s.v wv o.q := ⟨rt, by rw [rightP_def]; exact ⟨z0.1, r1.2.1, z0.2.2.1, hw, r2.2.2.2.2⟩⟩
    rw [outN_ok k1, outN_ok k2, stN_ok k1, stN_ok k2]
    exact ⟨rfl, rfl, rfl, rfl⟩
  · have k1 : ¬ okN s o.v wv 0 := fun h => by have := h.2; rw [rightP_def] at this; exact hw this.2.2.2.1
    have k2 : ¬ okN ⟨s.m, s.l, o.v, o.w, o.q⟩ s.v wv o.q := fun h => by have := h.2; rw [rightP_def] at this; exact hw this.2.2.2.1
    rw [outN_no k1, outN_no k2, stN_no k1, stN_no k2]
    exact ⟨rfl, rfl, rfl, rfl⟩
theorem apart_law (s o : St) (wv : List Int) : walk2 FSc 0 Try.f22 [stW s, stW o, ar 16 wv] [] fun y _ => y = vb true := by
  rcases Classical.em (rightP s) with h1 | h1
  · rcases Classical.em (rightP o) with h2 | h2
    · obtain ⟨e1, e2, e3, e4⟩ := apart (wv := wv) h1 h2
      repeat' ((conv => whnf); first | (refine And.intro ⟨rfl, rfl, rfl⟩ ?_) | (refine And.intro ⟨rfl, rfl, rfl, rfl, rfl⟩ ?_) | (refine And.intro trivial ?_) | (refine ask_true h1 ?_) | (refine ask_true h2 ?_) | (refine ask_same e1 ?_) | (refine ask_same e2 ?_) | (refine ask_true e3 ?_) | (refine ask_same e4 ?_) | (refine ⟨by kernel_rfl, ?_⟩) | rfl | fail)
    · repeat' ((conv => whnf); first | (refine And.intro ⟨rfl, rfl, rfl⟩ ?_) | (refine ask_true h1 ?_) | (refine ask_false h2 ?_) | rfl | fail)
  · repeat' ((conv => whnf); first | (refine And.intro ⟨rfl, rfl, rfl⟩ ?_) | (refine ask_false h1 ?_) | rfl | fail)
theorem law_StateApart (xs : List Int) (h : xs.length = 38) (hx : ∀ x ∈ xs, InK .i64 x) (ys : List Int) (h' : ys.length = 38) (hy : ∀ x ∈ ys, InK .i64 x) (wv : List Int) (h2 : wv.length = 16) (hw : ∀ x ∈ wv, InK .i64 x) (w0 : World) :
    Calls Try.prog 22 #[.agg (xs.map (Value.int .i64)).toArray, .agg (ys.map (Value.int .i64)).toArray, .agg (wv.map (Value.int .i64)).toArray] w0 fun e w' => e = .returned (.bool true) ∧ Below w0.heap.size w0 w' := by
  obtain ⟨s, hs, hd⟩ := st_split xs h hx
  obtain ⟨o, ho, hd'⟩ := st_split ys h' hy
  have := walk2_true FSc_ok Try.func22 (ws := [stW s, stW o, ar 16 wv]) ⟨hs.rng, ho.rng, ⟨⟨h2, hw⟩, trivial⟩, trivial⟩ rfl (n := 0) (apart_law s o wv) w0
  have e : ([stW s, stW o, ar 16 wv].map (W.den fun _ => (0, 0))).toArray = #[Value.agg (xs.map (Value.int .i64)).toArray, .agg (ys.map (Value.int .i64)).toArray, .agg (wv.map (Value.int .i64)).toArray] := by
    rw [← hd, ← hd']
    simp [W.den, dens, Seg.den]
  rw [e] at this; exact this
end Go.Proofs.Ytbgjmlncdlcglaa
