/- Packets, decoded: the sound and the state. -/
import Derived.Test.YtaficaacogcblaaGreatDoorWx
set_option linter.all false
namespace Go.Proofs.YtaficaacogcblaaGreatDoor
namespace R
open Go.RowKit (Below)
set_option maxRecDepth 100000
set_option maxHeartbeats 16000000

noncomputable def FDe : Fns := (((F0.into 38 Tryz.f38).plus 39 (B.ctSt B.rightP)).plus 40 ctParts).plus 41 B.ctNext
theorem FDe_ok : FnsOk Tryz.prog FDe D.G1 := (((D.F0_okg.into Tryz.func38 (by kernel_rfl) (by kernel_rfl)).plus B.right_ct Tryz.func39 (by kernel_rfl) (by kernel_rfl)).plusG parts_ct Tryz.func40 (by kernel_rfl) (by kernel_rfl)).plus B.next_ct Tryz.func41 (by kernel_rfl) (by kernel_rfl)
/-- What is heard of a packet, and the state behind it. -/
noncomputable def outD (s : B.St) (p : ByteArray) : List Int := B.outN s (lvA s.v p) (wvA s.v p) 0
noncomputable def stD (s : B.St) (p : ByteArray) : B.St := B.stN s (lvA s.v p) (wvA s.v p) 0
theorem lv_of {s : B.St} (h : B.StOk s) (hr : B.rightP s) : LvOk s.v := ⟨h.v.1, ((B.rightP_def s).1 hr).2.1⟩
theorem decode_walk {s : B.St} (h : B.StOk s) (hr : B.rightP s) {p : ByteArray} (hp : 10 ≤ p.size ∧ p.size ≤ 32) : walkgr FDe 1 Tryz.f18 [B.stW s, .c (.cs p)] [] fun y _ => y = .tup [.agg [.ints .i64 16 (outD s p)], B.stW (stD s p), i64 0] := by
  have hl := lv_of h hr
  repeat' ((conv => whnf); first | (refine ask_false (by omega) ?_) | (refine ask_true (by omega) ?_) | (refine And.intro (And.intro rfl (And.intro rfl rfl)) (ask_true hr ?_)) | (refine And.intro hl (And.intro hp ?_)) | (refine And.intro (And.intro rfl (And.intro rfl (And.intro rfl (And.intro rfl rfl)))) ?_) | (refine ⟨by kernel_rfl, ?_⟩) | fail)
  rfl
def ctDec : Ct := fun ws K => match ws with
  | [.agg [.ints .i64 n m, .one (.ci .i64 l), .ints .i64 a v, .ints .i64 b w, .one (.ci .i64 q)], .c (.cs p)] => (n = 16 ∧ a = 4 ∧ b = 16) ∧ B.rightP ⟨m, l, v, w, q⟩ ∧ (10 ≤ p.size ∧ p.size ≤ 32) ∧ ∀ (o : List Int) (x : B.St), o = outD ⟨m, l, v, w, q⟩ p → x = stD ⟨m, l, v, w, q⟩ p → K (.tup [.agg [.ints .i64 16 o], B.stW x, i64 0])
  | _ => False
theorem decode_ct : CtOkG Tryz.prog D.G1 18 ctDec := by
  intro ws K h' hr
  unfold ctDec at h'
  split at h'
  · rename_i n m l a v b w q p
    obtain ⟨⟨rfl, rfl, rfl⟩, h1, h2, h'⟩ := h'
    have ok : B.StOk ⟨m, l, v, w, q⟩ := B.stOk_of hr.1
    have hl := lv_of ok h1
    have l4 := (lvF_ok hl p 4).1
    have w4 := wvF_in hl p 4
    refine ⟨_, h' _ _ rfl rfl, ⟨⟨⟨⟨B.outN_len _ _ _ _, fun x hx => ?_⟩, trivial⟩, (B.stN_stok ⟨l4.1, fun x hx => ?_⟩ ⟨w4.1, fun x hx => ?_⟩ (by simp only [InK, lowK, highK]; omega)).rng, by simp only [W.rng, C.rng, InK, lowK, highK]; omega, trivial⟩, rfl⟩, walkgr_calls FDe_ok Tryz.func18 rfl (ws := [B.stW ⟨m, l, v, w, q⟩, .c (.cs p)]) hr rfl (decode_walk ok h1 h2)⟩
    · have := B.outN_in hx
      simp only [InK, lowK, highK]; omega
    · have := l4.2 x hx
      simp only [InK, lowK, highK]; omega
    · have := w4.2 x hx
      simp only [InK, lowK, highK]; omega
  · exact h'.elim
end R
end Go.Proofs.YtaficaacogcblaaGreatDoor
