/- The coder of ranges: how many bits were used; a decoder is made; a small number is taken. -/
import Derived.Test.YtaficaacogcblaaGreatDoorWi
import Derived.Test.YtaficaacogcblaaGreatDoorWd
set_option linter.all false
namespace Go.Proofs.YtaficaacogcblaaGreatDoor
namespace R
open Go.RowKit (Below)
set_option maxRecDepth 100000
set_option maxHeartbeats 16000000

theorem len32_walk (x : Int) (hx : InK .u32 x) : walk F0 0 Tryz.f172 [u32 x] [] fun y _ => y = vi (D.lenS x) := by
  obtain ⟨x1, x2⟩ := hx
  simp only [lowK, highK] at x1 x2
  obtain ⟨p32, p16, p8, -⟩ := D.pw_vals
  have h16 := fun y : Int => D.len_half (x := y) (k := 16) (by decide)
  have h8 := fun y : Int => D.len_half (x := y) (k := 8) (by decide)
  rw [p16] at h16
  rw [p8] at h8
  have a2 := h16 x
  have a4 := h8 x
  have a6 := h8 (x / 65536)
  clear h16 h8 p32 p16 p8
  repeat' ((conv => whnf); first | (refine ask_split (fun _ => ?_) (fun _ => ?_)) | (refine D.tab_ask (by omega) (by kernel_rfl) (by kernel_rfl) (fun _ _ => ?_)) | (refine ⟨by omega, ?_⟩) | (refine ask_is (f := _ / 65536) (fdiv_ediv 16) ?_) | (refine ask_is (f := _ / 256) (fdiv_ediv 8) ?_) | (refine ask_wrap64 (by omega) (by omega) ?_) | (refine ask_wrapu8 (by omega) (by omega) ?_) | (exact D.vi_eq (by omega)) | fail)
def ctU32 (pre : Int → Prop) (f : Int → Int) : Ct := fun ws K => match ws with
  | [.c (.ci .u32 a)] => pre a ∧ K (vi (f a))
  | _ => False
theorem ctU32_ok {F : Fns} (hF : FnsOk Tryz.prog F) {n : Nat} {f : FuncId} {fn : Func} (hf : Tryz.prog.funcs[f]? = some fn) {pre : Int → Prop} {g : Int → Int} (hg : ∀ a, InK .u32 a → pre a → InK .i64 (g a))
    (h : ∀ a, InK .u32 a → pre a → walk F n fn [u32 a] [] fun y _ => y = vi (g a)) : CtOk Tryz.prog f (ctU32 pre g) := by
  intro ws K h' hr
  unfold ctU32 at h'
  split at h'
  · rename_i a
    exact ⟨_, h'.2, ⟨hg a hr.1 h'.1, rfl⟩, walk_calls hF hf rfl hr rfl (h a hr.1 h'.1)⟩
  · exact h'.elim
theorem len_32 {x : Int} (h : x ≤ 4294967295) : 0 ≤ D.lenS x ∧ D.lenS x ≤ 32 := ⟨D.len_nonneg x, D.len_le (by have := D.pw_vals.1; omega) (by decide)⟩
theorem len32_ct : CtOk Tryz.prog 172 (ctU32 (fun _ => True) D.lenS) := ctU32_ok F0_ok Tryz.func172 (fun a h _ => by
  have := len_32 h.2
  simp only [InK, lowK, highK]; omega) fun a ha _ => len32_walk a ha
noncomputable def lz32 (x : Int) : Int := 32 - D.lenS x
noncomputable def FL2 : Fns := F0.plus 172 (ctU32 (fun _ => True) D.lenS)
theorem FL2_ok : FnsOk Tryz.prog FL2 := F0_ok.plus len32_ct Tryz.func172 (by kernel_rfl) (by kernel_rfl)
theorem lz_ct : CtOk Tryz.prog 151 (ctU32 (fun _ => True) lz32) := ctU32_ok (n := 0) FL2_ok Tryz.func151 (fun a h _ => by
  have := len_32 h.2
  unfold lz32
  simp only [InK, lowK, highK]; omega) fun a ha _ => by
    have := len_32 ha.2
    repeat' ((conv => whnf); first | (refine And.intro trivial ?_) | (refine ask_wrap64 (by omega) (by omega) ?_) | fail)
    rfl
/-- How many bits were used. -/
noncomputable def usedS (g r : Int) : Int := 8 * g + lz32 r
noncomputable def ctUsed : Ct := fun ws K => match ws with
  | [.c (.ci .i64 g), .c (.ci .u32 r)] => (0 ≤ g ∧ g ≤ 1000000000) ∧ K (vi (usedS g r))
  | _ => False
noncomputable def FL3 : Fns := F0.plus 151 (ctU32 (fun _ => True) lz32)
theorem FL3_ok : FnsOk Tryz.prog FL3 := F0_ok.plus lz_ct Tryz.func151 (by kernel_rfl) (by kernel_rfl)
theorem used_ct : CtOk Tryz.prog 120 ctUsed := by
  intro ws K h' hr
  unfold ctUsed at h'
  split at h'
  · rename_i g r
    have hl := len_32 hr.2.1.2
    have h0 := h'.1
    have hu : -2000000000 ≤ usedS g r ∧ usedS g r ≤ 9000000000 := by unfold usedS lz32; omega
    refine ⟨_, h'.2, ⟨by simp only [V.rng, W.rng, C.rng, InK, lowK, highK]; omega, rfl⟩, walk_calls FL3_ok Tryz.func120 (n := 0) rfl hr rfl ?_⟩
    have e1 : lz32 r = 32 - D.lenS r := rfl
    repeat' ((conv => whnf); first | (refine And.intro trivial ?_) | (refine ask_wrap64 (by omega) (by omega) ?_) | fail)
    rfl
  · exact h'.elim
noncomputable def FL4 : Fns := F0.plus 120 ctUsed
theorem FL4_ok : FnsOk Tryz.prog FL4 := F0_ok.plus used_ct Tryz.func120 (by kernel_rfl) (by kernel_rfl)
abbrev dcR (d : DS) : Blk := .ro [.one (.cs d.s), .one (.ci .i64 d.at'), .one (.ci .u32 d.code), .one (.ci .u32 d.rng), .one (.ci .i64 d.gone)]
theorem dused_walk {H : List Blk} {j : Nat} {d : DS} (hj : H[j]? = some (dcB d) ∨ H[j]? = some (dcR d)) (hd : DIn d 100000000) : walk FL4 0 Tryz.f70 [.c (.cp j 0)] H fun x H' => x = vi (usedS d.gone d.rng) ∧ H' = H := by
  have g0 := hd.g0
  have g1 := hd.g1
  rcases hj with hj | hj
  · repeat' ((conv => whnf); first | (refine lenH_at ?_) | (refine hGet_at hj ?_) | (refine ⟨by kernel_rfl, ?_⟩) | (refine maskB_as fun Hm hl hm => ?_) | (refine hGet_at (hm j _ hj (by simp)) ?_) | (refine And.intro (And.intro (by omega) (by omega)) ?_) | fail)
    rfl
  · repeat' ((conv => whnf); first | (refine lenH_at ?_) | (refine hGet_at hj ?_) | (refine ⟨by kernel_rfl, ?_⟩) | (refine maskB_as fun Hm hl hm => ?_) | (refine hGet_at (hm j _ hj (by simp)) ?_) | (refine And.intro (And.intro (by omega) (by omega)) ?_) | fail)
    rfl
noncomputable def hDUsed : HCt := fun ws H K => match ws with
  | [.c (.cp j 0)] => ∃ d : DS, (H[j]? = some (dcB d) ∨ H[j]? = some (dcR d)) ∧ DIn d 100000000 ∧ ∀ u, u = usedS d.gone d.rng → K (vi u) H
  | _ => False
theorem dused_ct : HCtOk Tryz.prog 70 hDUsed := by
  intro ws H K h hr hb ho G σ base w₀ w hw
  unfold hDUsed at h
  split at h
  · rename_i j
    obtain ⟨d, hj, hd, hK⟩ := h
    exact heap_lift FL4_ok Tryz.func70 (n := 0) (ws := [.c (.cp j 0)]) ⟨trivial, trivial⟩ (by rcases hj with h | h <;> exact ptr_bnd h) ho (dused_walk hj hd) (fun x H' hP => by
      obtain ⟨rfl, rfl⟩ := hP
      exact hK _ rfl) G σ base w₀ w hw
  · exact h.elim
end R
end Go.Proofs.YtaficaacogcblaaGreatDoor
