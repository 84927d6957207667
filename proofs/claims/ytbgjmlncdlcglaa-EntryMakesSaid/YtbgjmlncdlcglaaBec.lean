/- Chapter entry: the law EntryMakes, walked. -/
import Derived.Test.YtbgjmlncdlcglaaBeb
import Derived.Test.YtbgjmlncdlcglaaBsk
import Derived.Test.YtbgjmlncdlcglaaBnc
import Derived.Test.YtbgjmlncdlcglaaBne
set_option linter.all false
namespace Go.Proofs.Ytbgjmlncdlcglaa
open Go.RowKit (Below)
set_option maxRecDepth 100000
set_option maxHeartbeats 32000000

noncomputable def FEm : Fns := (((((F0.plus 24 (ct0 (vb true))).plus 35 ctS1).plus 48 ctPacket).plus 49 ctGap).plus 47 ctCheck).plus 27 (ctEn fun k _ d => rightE k d)
theorem FEm_ok : FnsOk Try.prog FEm := (((((F0_ok.plus awake20_ct Try.func24 (by kernel_rfl) (by kernel_rfl)).plus of_ct Try.func35 (by kernel_rfl) (by kernel_rfl)).plus packet_ct Try.func48 (by kernel_rfl) (by kernel_rfl)).plus gapE_ct Try.func49 (by kernel_rfl) (by kernel_rfl)).plus check_ct Try.func47 (by kernel_rfl) (by kernel_rfl)).plus enRight_ct Try.func27 (by kernel_rfl) (by kernel_rfl)
theorem right_w' {s : St} (h : rightP s) : ∀ x ∈ s.w, -2147483648 ≤ x ∧ x ≤ 2147483647 := fun x hx => by
  rw [rightP_def] at h
  have h4 := h.2.2.2.1
  rw [held_def] at h4
  have := h4 x hx
  omega
theorem right_check {x : St} (h : StOk x) (hr : rightP x) {s : ByteArray} (hs : s = strOfNums (byZ x)) : rightE 3 s := by
  have hb : bytesI s = byZ x := by rw [hs, bytesI_str byZ_in]
  rw [rightE3, hb, back_read h hr (right_w' hr), hs, strOfNums_size]
  exact ⟨byZ_len h, hr⟩
theorem wrong_none : ¬ rightE 0 noS := rightE_other (by decide) (by decide) (by decide)
theorem makes_law (t : Int) (p : ByteArray) (x : St) (h : StOk x) (hp : p.size ≤ 9223372036854775807) : walk FEm 0 Try.f13 [u32 t, .c (.cs p), stW x] [] fun y _ => y = vb true := by
  have hg : rightE 2 noS := (rightE2 _).2 rfl
  rcases Nat.lt_or_ge 500 p.size with hl | hl
  · repeat' ((conv => whnf); first | (refine ask_true (by omega) ?_) | rfl | fail)
  · have hA : (p.size < 10 ∧ ¬ rightE 1 p) ∨ (10 ≤ p.size ∧ p.size ≤ 32 ∧ rightE 1 p) ∨ (32 < p.size ∧ ¬ rightE 1 p) := by
      simp only [rightE1]; omega
    rcases Classical.em (rightP x) with hr | hr
    · rcases hA with ⟨g1, g2⟩ | ⟨g1, g3, g2⟩ | ⟨g1, g2⟩
      all_goals repeat' ((conv => whnf); first | (refine ask_false (by omega) ?_) | (refine And.intro ⟨rfl, rfl, rfl⟩ (And.intro (fun _ s hs => ?_) (fun hn => absurd hr hn))) | (refine And.intro ⟨rfl, rfl, rfl⟩ ?_) | (refine ask_true g2 ?_) | (refine ask_false g2 ?_) | (refine ask_true hg ?_) | (refine ask_true (right_check h hr hs) ?_) | (refine ask_true (by omega) ?_) | (refine ask_true rfl ?_) | (refine ask_true (by decide) ?_) | (refine ask_false (by decide) ?_) | (refine ⟨by kernel_rfl, ?_⟩) | rfl | fail)
    · rcases hA with ⟨g1, g2⟩ | ⟨g1, g3, g2⟩ | ⟨g1, g2⟩
      all_goals repeat' ((conv => whnf); first | (refine ask_false (by omega) ?_) | (refine And.intro ⟨rfl, rfl, rfl⟩ (And.intro (fun hn => absurd hn hr) (fun _ => ?_))) | (refine And.intro ⟨rfl, rfl, rfl⟩ ?_) | (refine ask_true g2 ?_) | (refine ask_false g2 ?_) | (refine ask_true hg ?_) | (refine ask_false wrong_none ?_) | (refine ask_true (by omega) ?_) | (refine ask_true rfl ?_) | (refine ask_true (by decide) ?_) | (refine ask_false (by decide) ?_) | (refine ⟨by kernel_rfl, ?_⟩) | rfl | fail)
theorem law_EntryMakes (t : Int) (ht : InK .u32 t) (p : ByteArray) (hp : p.size ≤ 140737488351232) (xs : List Int) (h : xs.length = 38) (hx : ∀ x ∈ xs, InK .i64 x) (w0 : World) : Calls Try.prog 13 #[.int .u32 t, .string p, .agg (xs.map (Value.int .i64)).toArray] w0 fun e w' => e = .returned (.bool true) ∧ Below w0.heap.size w0 w' := by
  obtain ⟨s, hs, hd⟩ := st_split xs h hx
  have := walk_true FEm_ok Try.func13 (ws := [u32 t, .c (.cs p), stW s]) ⟨ht, (show p.size ≤ 9223372036854775807 by omega), hs.rng, trivial⟩ rfl (n := 0) (makes_law t p s hs (by omega)) w0
  have e : ([u32 t, .c (.cs p), stW s].map (W.den fun _ => (0, 0))).toArray = #[.int .u32 t, .string p, Value.agg (xs.map (Value.int .i64)).toArray] := by rw [← hd]; rfl
  rw [e] at this; exact this
end Go.Proofs.Ytbgjmlncdlcglaa
