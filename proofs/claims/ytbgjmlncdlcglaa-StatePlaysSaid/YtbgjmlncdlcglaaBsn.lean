/- Chapter state: the law StatePlays, walked. -/
import Derived.Test.YtbgjmlncdlcglaaBsf
import Derived.Test.YtbgjmlncdlcglaaBsm
set_option linter.all false
namespace Go.Proofs.Ytbgjmlncdlcglaa
open Go.RowKit (Below)
set_option maxRecDepth 100000
set_option maxHeartbeats 32000000

noncomputable def FSf : Fns := (((FSb.plus 58 ctRBytes).plus 38 ctS1).plus 53 (ctSt rightP)).plus 61 ctRNext
theorem FSf_ok : FnsOk Try.prog FSf := (((FSb_ok.plus refBytes_ct Try.func58 (by kernel_rfl) (by kernel_rfl)).plus plain_ct Try.func38 (by kernel_rfl) (by kernel_rfl)).plus refRight_ct Try.func53 (by kernel_rfl) (by kernel_rfl)).plus refNext_ct Try.func61 (by kernel_rfl) (by kernel_rfl)
theorem plays_law (s : St) (lv wv : List Int) (q : Int) (h : StOk s) : walk2 FSf 0 Try.f21 [stW s, ar 4 lv, ar 16 wv, i64 q] [] fun y _ => y = vb true := by
  rcases Classical.em (rightP s) with h1 | h1
  · rcases Classical.em (rightP ⟨z16, 0, lv, wv, q⟩) with h2 | h2
    · have hw : held wv := by have := h2; rw [rightP_def] at this; exact this.2.2.2.1
      have e1 : outN s lv wv q = soundZ (laidZ s wv) := outN_ok ⟨h1, h2⟩
      have e2 : stN s lv wv q = ⟨memZ wv, laidP s wv, lv, wv, q⟩ := stN_ok ⟨h1, h2⟩
      repeat' ((conv => whnf); first | (refine And.intro ⟨rfl, rfl, rfl⟩ (And.intro (fun _ t ht => ?_) (fun hn => absurd h1 hn))) | (refine And.intro ⟨rfl, rfl, rfl⟩ (And.intro h1 fun t' ht' => ?_)) | (refine And.intro ⟨rfl, rfl, rfl, rfl, rfl⟩ (And.intro ⟨h1, hw⟩ ?_)) | (refine And.intro ⟨rfl, rfl, rfl, rfl, rfl⟩ ?_) | (refine And.intro ⟨rfl, rfl, rfl⟩ ?_) | (refine And.intro trivial ?_) | (refine ask_true h1 ?_) | (refine ask_true h2 ?_) | (refine ask_false (by decide) ?_) | (refine ask_false (fun hn => hn (ht.trans ht'.symm)) ?_) | (refine ask_same e1 ?_) | (refine ask_st _ _ e2 ?_) | (refine ⟨by kernel_rfl, ?_⟩) | rfl | fail)
    · have e1 : outN s lv wv q = z16 := outN_no (fun hh => h2 hh.2)
      have e2 : stN s lv wv q = st0 := stN_no (fun hh => h2 hh.2)
      repeat' ((conv => whnf); first | (refine And.intro ⟨rfl, rfl, rfl⟩ (And.intro (fun _ t ht => ?_) (fun hn => absurd h1 hn))) | (refine And.intro ⟨rfl, rfl, rfl⟩ (And.intro h1 fun t' ht' => ?_)) | (refine And.intro ⟨rfl, rfl, rfl, rfl, rfl⟩ ?_) | (refine And.intro ⟨rfl, rfl, rfl⟩ ?_) | (refine And.intro trivial ?_) | (refine ask_true h1 ?_) | (refine ask_false h2 ?_) | (refine ask_false (by decide) ?_) | (refine ask_false (fun hn => hn (ht.trans ht'.symm)) ?_) | (refine ask_same e1 ?_) | (refine ask_st _ _ e2 ?_) | (refine ⟨by kernel_rfl, ?_⟩) | rfl | fail)
  · have e1 : outN s lv wv q = z16 := outN_no (fun hh => h1 hh.1)
    have e2 : stN s lv wv q = st0 := stN_no (fun hh => h1 hh.1)
    repeat' ((conv => whnf); first | (refine And.intro ⟨rfl, rfl, rfl⟩ (And.intro (fun hn => absurd hn h1) (fun _ => ?_))) | (refine And.intro ⟨rfl, rfl, rfl, rfl, rfl⟩ ?_) | (refine And.intro ⟨rfl, rfl, rfl⟩ ?_) | (refine And.intro trivial ?_) | (refine ask_false h1 ?_) | (refine ask_false (by decide) ?_) | (refine ask_false (fun hn => hn rfl) ?_) | (refine ask_same e1 ?_) | (refine ask_st _ _ e2 ?_) | (refine ⟨by kernel_rfl, ?_⟩) | rfl | fail)
theorem law_StatePlays (xs : List Int) (h : xs.length = 38) (hx : ∀ x ∈ xs, InK .i64 x) (lv : List Int) (h1 : lv.length = 4) (hv : ∀ x ∈ lv, InK .i64 x) (wv : List Int) (h2 : wv.length = 16) (hw : ∀ x ∈ wv, InK .i64 x) (q : Int) (hq : InK .i64 q) (w0 : World) :
    Calls Try.prog 21 #[.agg (xs.map (Value.int .i64)).toArray, .agg (lv.map (Value.int .i64)).toArray, .agg (wv.map (Value.int .i64)).toArray, .int .i64 q] w0 fun e w' => e = .returned (.bool true) ∧ Below w0.heap.size w0 w' := by
  obtain ⟨s, hs, hd⟩ := st_split xs h hx
  have := walk2_true FSf_ok Try.func21 (ws := [stW s, ar 4 lv, ar 16 wv, i64 q]) ⟨hs.rng, ⟨⟨h1, hv⟩, trivial⟩, ⟨⟨h2, hw⟩, trivial⟩, hq, trivial⟩ rfl (n := 0) (plays_law s lv wv q hs) w0
  have e : ([stW s, ar 4 lv, ar 16 wv, i64 q].map (W.den fun _ => (0, 0))).toArray = #[Value.agg (xs.map (Value.int .i64)).toArray, .agg (lv.map (Value.int .i64)).toArray, .agg (wv.map (Value.int .i64)).toArray, .int .i64 q] := by
    rw [← hd]
    simp [W.den, dens, Seg.den, C.den]
  rw [e] at this; exact this
end Go.Proofs.Ytbgjmlncdlcglaa
