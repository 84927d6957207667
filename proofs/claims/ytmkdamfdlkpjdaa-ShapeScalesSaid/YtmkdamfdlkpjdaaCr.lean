/- Chapter shape: the law ShapeScales. -/
import Derived.Test.YtmkdamfdlkpjdaaCq
set_option linter.all false
namespace Go.Proofs.Ytmkdamfdlkpjdaa
open Go.RowKit (Below)
set_option maxRecDepth 100000
set_option maxHeartbeats 64000000

theorem scales_none (k : Int) : walk FL 0 Try.f3 [.c .csn, u8 k, .c .csn] [] fun y _ => y = vb true := by
  repeat' ((conv => whnf); first | (refine And.intro (fun _ => ?_) (fun h => absurd rfl h)) | (refine ask_true (by decide) ?_) | (refine ask_false (by decide) ?_) | rfl | fail)
theorem scales_none_row (k : Int) (bs : List Bool) (m : Nat) : walk FL 0 Try.f3 [.c .csn, u8 k, .c (.csl 0 0 0 m bs.length)] [.ro (boolS bs)] fun y _ => y = vb true := by
  repeat' ((conv => whnf); first | (refine And.intro (fun _ => ?_) (fun h => absurd rfl h)) | (refine ask_true (by decide) ?_) | (refine ask_false (by decide) ?_) | rfl | fail)
theorem ok_bools (bs : List Bool) : HOk [.ro (boolS bs)] :=
  ⟨fun b hb => by rw [List.mem_singleton.1 hb]; exact (boolS_ok bs).1, fun b hb => by rw [List.mem_singleton.1 hb]; exact (boolS_ok bs).2.1 _⟩
theorem ok_bools2 {xs : List Int} (hx : ∀ y ∈ xs, InK .i64 y) (bs : List Bool) : HOk [.ro [.ints .i64 xs.length xs], .ro (boolS bs)] :=
  ⟨fun b hb => by
    rcases List.mem_cons.1 hb with h | h
    · rw [h]; exact ⟨⟨rfl, hx⟩, trivial⟩
    · rw [List.mem_singleton.1 h]; exact (boolS_ok bs).1, fun b hb => by
    rcases List.mem_cons.1 hb with h | h
    · rw [h]; rfl
    · rw [List.mem_singleton.1 h]; exact (boolS_ok bs).2.1 _⟩
theorem law_ShapeScales (W0 : World) (v : Value) (wv : SlIn .i64 W0 v) (k : Int) (hk : InK .u8 k) (u : Value) (wu : SlB W0 u) : Calls Try.prog 3 #[v, .int .u8 k, u] W0 fun e w' => e = .returned (.bool true) ∧ Below W0.heap.size W0 w' := by
  have hk' : 0 ≤ k ∧ k ≤ 255 := hk
  rcases wv with rfl | ⟨b, o, len, cap, zs, rfl, hl, hc, hbw, hz, hx, hcell⟩
  · rcases wu with rfl | ⟨b', o', len', cap', bs, rfl, hl', hc', hbw', hz', hcell'⟩
    · exact walk_true (ws := [.c .csn, u8 k, .c .csn]) FL_ok Try.func3 ⟨trivial, hk, trivial, trivial⟩ rfl (scales_none k) W0
    · subst hz'
      exact walk_true_ro (ws := [.c .csn, u8 k, .c (.csl 0 0 0 len' bs.length)]) FL_ok Try.func3 ⟨trivial, hk, ⟨hl', hc'⟩, trivial⟩ rfl (scales_none_row k bs len') (ok_bools bs) (fun _ => (b', o')) W0 (by
        intro j c hj
        match j, hj with
        | 0, hj => simp at hj; subst hj; exact ⟨rfl, ro_of_slB rfl hbw' hcell'⟩
        | j + 1, hj => simp at hj)
  · subst hz
    rcases wu with rfl | ⟨b', o', len', cap', bs, rfl, hl', hc', hbw', hz', hcell'⟩
    · exact walk_true_ro (ws := [.c (.csl 0 0 0 len zs.length), u8 k, .c .csn]) FL_ok Try.func3 ⟨⟨hl, hc⟩, hk, trivial, trivial⟩ rfl (scales_nil zs len hl hc hx k hk') (ro_ok hx) (fun _ => (b, o)) W0 (by
        intro j c hj
        match j, hj with
        | 0, hj => simp at hj; subst hj; exact ⟨rfl, ro_of_slIn rfl hbw hcell⟩
        | j + 1, hj => simp at hj)
    · subst hz'
      exact walk_true_ro (ws := [.c (.csl 0 0 0 len zs.length), u8 k, .c (.csl 1 0 0 len' bs.length)]) FL_ok Try.func3 ⟨⟨hl, hc⟩, hk, ⟨hl', hc'⟩, trivial⟩ rfl (scales_row zs len hl hc hx k hk' bs len' hl' hc') (ok_bools2 hx bs) (fun j => if j = 0 then (b, o) else (b', o')) W0 (by
        intro j c hj
        match j, hj with
        | 0, hj => simp at hj; subst hj; exact ⟨rfl, ro_of_slIn (by rfl) hbw hcell⟩
        | 1, hj => simp at hj; subst hj; exact ⟨rfl, ro_of_slB (by rfl) hbw' hcell'⟩
        | j + 2, hj => simp at hj)
end Go.Proofs.Ytmkdamfdlkpjdaa
