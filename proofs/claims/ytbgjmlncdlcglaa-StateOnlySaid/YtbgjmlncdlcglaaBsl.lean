/- Chapter state: the laws StateBack and StateOnly, walked. -/
import Derived.Test.YtbgjmlncdlcglaaBsf
import Derived.Test.YtbgjmlncdlcglaaBsk
set_option linter.all false
namespace Go.Proofs.Ytbgjmlncdlcglaa
open Go.RowKit (Below)
set_option maxRecDepth 100000
set_option maxHeartbeats 32000000

noncomputable def FSe : Fns := (FSb.plus 37 ctRead).plus 38 ctS1
theorem FSe_ok : FnsOk Try.prog FSe := (FSb_ok.plus read_ct Try.func37 (by kernel_rfl) (by kernel_rfl)).plus plain_ct Try.func38 (by kernel_rfl) (by kernel_rfl)
theorem held_32 {xs : List Int} (h : held xs) : ∀ x ∈ xs, -2147483648 ≤ x ∧ x ≤ 2147483647 := fun x hx => by
  rw [held_def] at h
  have := h x hx
  omega
theorem right_w {s : St} (h : rightP s) : ∀ x ∈ s.w, -2147483648 ≤ x ∧ x ≤ 2147483647 := by
  rw [rightP_def] at h
  exact held_32 h.2.2.2.1
theorem back_law (s : St) (h : StOk s) : walk2 FSe 0 Try.f7 [stW s] [] fun y _ => y = vb true := by
  rcases Classical.em (rightP s) with hr | hr
  · repeat' ((conv => whnf); first | (refine And.intro ⟨rfl, rfl, rfl⟩ (And.intro (fun _ t ht => ?_) (fun h => absurd hr h))) | (refine And.intro ⟨rfl, rfl, rfl⟩ ?_) | fail)
    have hb : bytesI t = byZ s := by rw [ht, bytesI_str byZ_in]
    have hs : t.size = 137 := by rw [ht, strOfNums_size]; exact byZ_len h
    have he : rdS (bytesI t) = s := by rw [hb]; exact back_read h hr (right_w hr)
    conv => whnf
    refine ask_false (by decide) ?_
    conv => whnf
    refine ⟨fun _ _ => ?_, fun _ hn => absurd (by rw [he]; exact hr) hn, fun hn => absurd hs hn⟩
    rw [he]
    repeat' ((conv => whnf); first | (refine And.intro ⟨rfl, rfl, rfl⟩ ?_) | (refine ask_true rfl ?_) | (refine ask_st s s rfl ?_) | (refine ask_true (show ((t.size : Nat) : Int) = 137 by rw [hs]; rfl) ?_) | (refine ⟨by kernel_rfl, ?_⟩) | rfl | fail)
  · repeat' ((conv => whnf); first | (refine And.intro ⟨rfl, rfl, rfl⟩ (And.intro (fun hn => absurd hn hr) (fun _ => ?_))) | (refine And.intro ⟨rfl, rfl, rfl⟩ ?_) | (refine ask_true (by decide) ?_) | (refine ask_true rfl ?_) | (refine ask_false hr ?_) | (refine ⟨by kernel_rfl, ?_⟩) | rfl | fail)
theorem only_law (s : ByteArray) (hs0 : s.size ≤ 9223372036854775807) : walk2 FSe 0 Try.f8 [.c (.cs s)] [] fun y _ => y = vb true := by
  have hin := bytesI_in s
  rcases Nat.lt_or_ge 1000 s.size with hl | hl
  · repeat' ((conv => whnf); first | (refine ask_true (by omega) ?_) | rfl | fail)
  · rcases Classical.em (s.size = 137) with hs | hs
    · rcases Classical.em (rightP (rdS (bytesI s))) with hr | hr
      · have hb : strOfNums (byZ (rdS (bytesI s))) = s := by rw [read_back hin (by rw [bytesI_len]; exact hs), str_bytesI]
        repeat' ((conv => whnf); first | (refine ask_false (by omega) ?_) | (refine ⟨fun _ _ => ?_, fun _ hn => absurd hr hn, fun hn => absurd hs hn⟩) | (refine And.intro ⟨rfl, rfl, rfl⟩ (And.intro (fun _ t ht => ?_) (fun hn => absurd hr hn))) | (refine And.intro ⟨rfl, rfl, rfl⟩ ?_) | (refine ask_true rfl ?_) | (refine ask_true hr ?_) | (refine ask_true (ht.trans hb) ?_) | (refine ⟨by kernel_rfl, ?_⟩) | rfl | fail)
      · repeat' ((conv => whnf); first | (refine ask_false (by omega) ?_) | (refine ⟨fun _ hn => absurd hn hr, fun _ _ => ?_, fun hn => absurd hs hn⟩) | (refine ask_true (by omega) ?_) | (refine ask_true (by decide) ?_) | (refine ask_false (by decide) ?_) | (refine ask_false (show ¬ ((s.size : Nat) : Int) ≠ 137 by omega) ?_) | (refine ask_true rfl ?_) | (refine ask_st st0 st0 rfl ?_) | (refine ⟨by kernel_rfl, ?_⟩) | rfl | fail)
    · repeat' ((conv => whnf); first | (refine ask_false (by omega) ?_) | (refine ⟨fun hn => absurd hn hs, fun hn => absurd hn hs, fun _ => ?_⟩) | (refine ask_true (by omega) ?_) | (refine ask_true (by decide) ?_) | (refine ask_true rfl ?_) | (refine ask_st st0 st0 rfl ?_) | (refine ⟨by kernel_rfl, ?_⟩) | rfl | fail)
theorem law_StateBack (xs : List Int) (h : xs.length = 38) (hx : ∀ x ∈ xs, InK .i64 x) (w0 : World) : Calls Try.prog 7 #[.agg (xs.map (Value.int .i64)).toArray] w0 fun e w' => e = .returned (.bool true) ∧ Below w0.heap.size w0 w' := by
  obtain ⟨s, hs, hd⟩ := st_split xs h hx
  have := walk2_true FSe_ok Try.func7 (ws := [stW s]) ⟨hs.rng, trivial⟩ rfl (n := 0) (back_law s hs) w0
  have e : ([stW s].map (W.den fun _ => (0, 0))).toArray = #[Value.agg (xs.map (Value.int .i64)).toArray] := by rw [← hd]; rfl
  rw [e] at this; exact this
theorem law_StateOnly (s : ByteArray) (h : s.size ≤ 140737488351232) (w0 : World) : Calls Try.prog 8 #[.string s] w0 fun e w' => e = .returned (.bool true) ∧ Below w0.heap.size w0 w' :=
  walk2_true FSe_ok Try.func8 (ws := [.c (.cs s)]) ⟨(show s.size ≤ 9223372036854775807 by omega), trivial⟩ rfl (n := 0) (only_law s (by omega)) w0
end Go.Proofs.Ytbgjmlncdlcglaa
