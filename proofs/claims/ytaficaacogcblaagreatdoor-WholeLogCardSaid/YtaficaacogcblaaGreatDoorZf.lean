/- Wr, Xrd, Ws, Wh, Wi, Wu, Wq, Waa, Wbb: what the law wants of them. -/
import Derived.Test.YtaficaacogcblaaGreatDoorZe
import Derived.RangeFuncNested
import Derived.RangeFuncBound
import Derived.RangeFuncCalls
import Derived.RangeFuncLeaves
import Derived.Shelf.Abstract
import Derived.Shelf.RegionOpen
import Derived.WalkKit
import Derived.OwnWalkIn
import Derived.TacticsInMore
import Derived.LoopNIn
import Derived.LoopIn
import Derived.Shelf.Strings.Trim
import Derived.Shelf.Strings.Repeat
set_option linter.all false
namespace Go.Proofs.YtaficaacogcblaaGreatDoor
namespace R
open Go.RowKit (Below)
set_option maxRecDepth 100000
set_option maxHeartbeats 32000000
open Go.WideMaps
set_option maxRecDepth 100000
set_option maxHeartbeats 32000000
theorem lenH_at {H : List Blk} {n : Nat} {K : Nat → Prop} (h : K (n + H.length)) : lenH H n K := (lenH_iff _ _ _).2 h
theorem pushH_at {H : List Blk} {b : Blk} {K : List Blk → Prop} (h : K (H ++ [b])) : pushH H b K := (pushH_iff _ _ _).2 h
theorem setH_at {H : List Blk} {n : Nat} {b : Blk} {K : List Blk → Prop} (h : K (H.set n b)) : setH H n b K := (setH_iff _ _ _ _).2 h
theorem wkH_refl : ∀ H : List Blk, wkH H H
  | [] => trivial
  | .gone :: H => wkH_refl H
  | .own _ _ :: H => ⟨rfl, wkH_refl H⟩
  | .ro _ :: H => ⟨rfl, wkH_refl H⟩
  | .obj _ :: H => ⟨rfl, wkH_refl H⟩
theorem bndH_of {n : Nat} : ∀ {H : List Blk}, (∀ b ∈ H, b.bnd n = true) → bndH n H = true
  | [], _ => rfl
  | b :: H, h => by
    show (b.bnd n && bndH n H) = true
    rw [h b (by simp), bndH_of fun c hc => h c (by simp [hc])]; rfl
theorem and_t {a b : Bool} (h : a = true) (k : b = true) : (a && b) = true := by rw [h, k]; rfl
theorem Blk.bnd_up {n m : Nat} (h : n ≤ m) : ∀ b : Blk, b.bnd n = true → b.bnd m = true
  | .own _ ss, hb => bnds_mono h ss hb
  | .ro ss, hb => bnds_mono h ss hb
  | .obj _, _ => rfl
  | .gone, _ => rfl
theorem setH_as {H H' : List Blk} {n : Nat} {b : Blk} {K : List Blk → Prop} (h : H.set n b = H') (hk : K H') : setH H n b K := by
  subst h; exact setH_at hk
theorem hGet_at {b : Blk} : ∀ {H : List Blk} {n : Nat} {K : Blk → Prop}, H[n]? = some b → K b → hGet H n K
  | [], _, _, h, _ => by simp at h
  | _ :: _, 0, _, h, hk => by simp at h; subst h; exact hk
  | _ :: H, n + 1, _, h, hk => hGet_at (H := H) (n := n) (by simpa using h) hk
theorem up_get {H N : List Blk} {p : Nat} {b : Blk} (h : H[p]? = some b) : (H ++ N)[p]? = some b := by
  rw [List.getElem?_append_left (List.getElem?_eq_some_iff.1 h).1]; exact h
theorem up_top (H : List Blk) (b : Blk) : (H ++ [b])[H.length]? = some b := by simp
theorem lenH_is {H : List Blk} {K : Nat → Prop} (h : K H.length) : lenH H 0 K := (lenH_iff _ _ _).2 (by rw [Nat.zero_add]; exact h)
end R
namespace R
set_option maxRecDepth 100000
set_option maxHeartbeats 16000000
theorem maskB_as {ft : List Nat} : ∀ {n : Nat} {H : List Blk} {K : List Blk → Prop}, (∀ Hm : List Blk, Hm.length = H.length → (∀ (s : Nat) (b : Blk), H[s]? = some b → n + s ∈ ft → Hm[s]? = some b) → K Hm) → maskB false ft n H K
  | _, [], K, h => h [] rfl fun s b hs => by simp at hs
  | n, b :: H, K, h => by
    have step : ∀ z : Blk, (n ∈ ft → z = b) → maskB false ft (n + 1) H fun r => K (z :: r) := fun z hz => maskB_as fun Hm hl hm => h (z :: Hm) (by simp [hl]) fun s c hs hin => by
      cases s with
      | zero =>
        obtain rfl : b = c := by simpa using hs
        rw [hz hin]; rfl
      | succ s =>
        have hs' : H[s]? = some c := by simpa using hs
        have := hm s c hs' (by rw [show n + 1 + s = n + (s + 1) by omega]; exact hin)
        simpa using this
    unfold maskB
    cases he : ft.elem n with
    | true => exact step b fun _ => rfl
    | false => exact step .gone fun hin => by rw [List.elem_iff.2 hin] at he; cases he
structure DS where
  s : ByteArray
  at' : Int
  code : Int
  rng : Int
  gone : Int
abbrev dcC (s : ByteArray) (at' code rng gone : Int) : Blk := .own 194 [.one (.cs s), .one (.ci .i64 at'), .one (.ci .u32 code), .one (.ci .u32 rng), .one (.ci .i64 gone)]
abbrev dcB (d : DS) : Blk := dcC d.s d.at' d.code d.rng d.gone
def byteD (s : ByteArray) (i : Int) : Int := if i < s.size then ((s.get! i.toNat).toNat : Nat) else 0
theorem byteD_in (s : ByteArray) (i : Int) : 0 ≤ byteD s i ∧ byteD s i ≤ 255 := by
  unfold byteD
  split
  · have := (s.get! i.toNat).toNat_lt; omega
  · omega
theorem heap_lift {F : Fns} (hF : FnsOk Tryz.prog F) {n : Nat} {f : FuncId} {fn : Func} (hf : Tryz.prog.funcs[f]? = some fn) {ws : List W} (hr : rngW ws) {P : V → List Blk → Prop} {H : List Blk} (hb : bndW H.length ws = true) (ho : HOk H)
    (h : walk F n fn ws H P) {K : V → List Blk → Prop} (hK : ∀ x H', P x H' → K x H') (G : Glo) (σ : Sg) (base : Nat) (w₀ w : World) (hw : Rep G σ base w₀ w H) :
    Calls Tryz.prog f (ws.map (W.den σ)).toArray w (LeftG G σ base w₀ H.length K) := by
  have hw0 : Rep E0.G σ base w₀ w H := ⟨hw.below, hw.size, hw.blk, hw.sep, fun g ss hg => by cases hg⟩
  refine (xfun_spec E0_ok (calF_ok E0_ok hF (fun cal hc => drwA_ok E0_ok hF mixed cal hc) n) (drwA_ok E0_ok hF mixed _ (calF_ok E0_ok hF (fun cal hc => drwA_ok E0_ok hF mixed cal hc) n)) hf h hr hb ho σ base w₀ w hw0).mono ?_
  rintro e w' ⟨τ, x, H', v, rfl, h1, h2, h3, h4, h5, h6, h7⟩
  refine ⟨τ, x, H', v, rfl, h1, hK x H' h2, h3, ⟨h4.below, h4.size, h4.blk, h4.sep, fun g ss hg => ?_⟩, h5, h6, h7⟩
  obtain ⟨g1, g2, g3⟩ := hw.glo g ss hg
  refine ⟨g1, g2, fun i u hu => ?_⟩
  have hu' : (dens σ ss)[i]? = some u := by
    rw [dens_agree (n := 0) (τ := τ) (fun j hj => absurd hj (Nat.not_lt_zero j)) ss g2]; exact hu
  have := g3 i u hu'
  rw [cell_eq_of_block (w := w) (w' := w')]
  · exact this
  · show w'.heap[g]? = w.heap[g]?
    rw [h4.below.block g g1, hw.below.block g g1]
theorem ptr_bnd {H : List Blk} {j : Nat} {b : Blk} (hj : H[j]? = some b) : bndW H.length [.c (.cp j 0)] = true := by
  have := (List.getElem?_eq_some_iff.1 hj).1
  show (decide (j < H.length) && true) = true
  simp [this]
def hNext : HCt := fun ws H K => match ws with
  | [.c (.cp j 0)] => ∃ d : DS, H[j]? = some (dcB d) ∧ (0 ≤ d.at' ∧ d.at' ≤ 1000000000) ∧ ∀ v, v = byteD d.s d.at' → K (.w (.c (.ci .u32 v))) (H.set j (dcC d.s (d.at' + 1) d.code d.rng d.gone))
  | _ => False
theorem next_walk {H : List Blk} {j : Nat} {d : DS} (hj : H[j]? = some (dcB d)) (h0 : 0 ≤ d.at' ∧ d.at' ≤ 1000000000) : walk F0 0 Tryz.f113 [.c (.cp j 0)] H fun x H' => x = .w (.c (.ci .u32 (byteD d.s d.at'))) ∧ H' = H.set j (dcC d.s (d.at' + 1) d.code d.rng d.gone) := by
  have hjl := (List.getElem?_eq_some_iff.1 hj).1
  have hset : ∀ b : Blk, (H.set j b)[j]? = some b := fun b => List.getElem?_set_self hjl
  rcases Int.lt_or_le d.at' d.s.size with g | g
  · have e : byteD d.s d.at' = ((d.s.get! d.at'.toNat).toNat : Nat) := by unfold byteD; rw [if_pos g]
    have hb := byteD_in d.s d.at'
    repeat' ((conv => whnf); first | (refine lenH_at ?_) | (refine And.intro rfl ?_) | (refine ask_wrap64 (by omega) (by omega) ?_) | (refine hGet_at hj ?_) | (refine hGet_at (hset _) ?_) | (refine setH_at ?_) | (refine ⟨by kernel_rfl, ?_⟩) | (refine maskB_as fun Hm hl hm => ?_) | (refine hGet_at (hm j _ (hset _) (by simp)) ?_) | (refine ask_false (by omega) ?_) | (refine ask_true (by omega) ?_) | (refine And.intro ⟨by omega, by omega⟩ ?_) | fail)
    conv => whnf
    refine ask_is (f := byteD d.s d.at') (by rw [e, show d.at' + 1 - 1 = d.at' by omega]) ?_
    repeat' ((conv => whnf); first | (refine lenH_at ?_) | (refine And.intro rfl ?_) | (refine ask_wrap64 (by omega) (by omega) ?_) | (refine hGet_at hj ?_) | (refine hGet_at (hset _) ?_) | (refine setH_at ?_) | (refine ⟨by kernel_rfl, ?_⟩) | (refine maskB_as fun Hm hl hm => ?_) | (refine hGet_at (hm j _ (hset _) (by simp)) ?_) | (refine ask_false (by omega) ?_) | (refine ask_true (by omega) ?_) | (refine And.intro ⟨by omega, by omega⟩ ?_) | (refine ask_wrapu32 (by omega) (by omega) ?_) | rfl | fail)
    rfl
  · have e : byteD d.s d.at' = 0 := by unfold byteD; rw [if_neg (by omega)]
    rw [e]
    repeat' ((conv => whnf); first | (refine lenH_at ?_) | (refine And.intro rfl ?_) | (refine ask_wrap64 (by omega) (by omega) ?_) | (refine hGet_at hj ?_) | (refine hGet_at (hset _) ?_) | (refine setH_at ?_) | (refine ⟨by kernel_rfl, ?_⟩) | (refine maskB_as fun Hm hl hm => ?_) | (refine hGet_at (hm j _ (hset _) (by simp)) ?_) | (refine ask_false (by omega) ?_) | (refine ask_true (by omega) ?_) | (refine And.intro ⟨by omega, by omega⟩ ?_) | fail)
    rfl
theorem next_ct : HCtOk Tryz.prog 113 hNext := by
  intro ws H K h hr hb ho G σ base w₀ w hw
  unfold hNext at h
  split at h
  · rename_i j
    obtain ⟨d, hj, h0, hK⟩ := h
    exact heap_lift F0_ok Tryz.func113 (n := 0) (ws := [.c (.cp j 0)]) ⟨trivial, trivial⟩ (ptr_bnd hj) ho (next_walk hj h0) (fun x H' hP => by
      obtain ⟨rfl, rfl⟩ := hP
      exact hK _ rfl) G σ base w₀ w hw
  · exact h.elim
def cellP (s w t : Int) : Prop := (1 ≤ t ∧ t ≤ 32768 ∧ 0 ≤ s) ∧ 1 ≤ w ∧ s < t ∧ w ≤ t - s
instance (s w t : Int) : Decidable (cellP s w t) := by unfold cellP; infer_instance
theorem cell_walk (s w t : Int) : walk F0 0 Tryz.f150 [i64 s, i64 w, i64 t] [] fun y _ => y = vb (decide (cellP s w t)) := by
  rcases Int.lt_or_le t 1 with g1 | g1
  · rw [decide_eq_false (show ¬ cellP s w t by unfold cellP; omega)]
    repeat' ((conv => whnf); first | (refine ask_false (by omega) ?_) | (refine ask_true (by omega) ?_) | (refine ask_wrap64 (by omega) (by omega) ?_) | (refine ⟨by kernel_rfl, ?_⟩) | rfl | fail)
  rcases Int.lt_or_le 32768 t with g2 | g2
  · rw [decide_eq_false (show ¬ cellP s w t by unfold cellP; omega)]
    repeat' ((conv => whnf); first | (refine ask_false (by omega) ?_) | (refine ask_true (by omega) ?_) | (refine ask_wrap64 (by omega) (by omega) ?_) | (refine ⟨by kernel_rfl, ?_⟩) | rfl | fail)
  rcases Int.lt_or_le s 0 with g3 | g3
  · rw [decide_eq_false (show ¬ cellP s w t by unfold cellP; omega)]
    repeat' ((conv => whnf); first | (refine ask_false (by omega) ?_) | (refine ask_true (by omega) ?_) | (refine ask_wrap64 (by omega) (by omega) ?_) | (refine ⟨by kernel_rfl, ?_⟩) | rfl | fail)
  rcases Int.lt_or_le w 1 with g4 | g4
  · rw [decide_eq_false (show ¬ cellP s w t by unfold cellP; omega)]
    repeat' ((conv => whnf); first | (refine ask_false (by omega) ?_) | (refine ask_true (by omega) ?_) | (refine ask_wrap64 (by omega) (by omega) ?_) | (refine ⟨by kernel_rfl, ?_⟩) | rfl | fail)
  rcases Int.lt_or_le s t with g5 | g5
  · rcases Int.lt_or_le (t - s) w with g6 | g6
    · rw [decide_eq_false (show ¬ cellP s w t by unfold cellP; omega)]
      repeat' ((conv => whnf); first | (refine ask_false (by omega) ?_) | (refine ask_true (by omega) ?_) | (refine ask_wrap64 (by omega) (by omega) ?_) | (refine ⟨by kernel_rfl, ?_⟩) | rfl | fail)
    · rw [decide_eq_true (show cellP s w t by unfold cellP; omega)]
      repeat' ((conv => whnf); first | (refine ask_false (by omega) ?_) | (refine ask_true (by omega) ?_) | (refine ask_wrap64 (by omega) (by omega) ?_) | (refine ⟨by kernel_rfl, ?_⟩) | rfl | fail)
  · rw [decide_eq_false (show ¬ cellP s w t by unfold cellP; omega)]
    repeat' ((conv => whnf); first | (refine ask_false (by omega) ?_) | (refine ask_true (by omega) ?_) | (refine ask_wrap64 (by omega) (by omega) ?_) | (refine ⟨by kernel_rfl, ?_⟩) | rfl | fail)
def ctCell : Ct := fun ws K => match ws with
  | [.c (.ci .i64 s), .c (.ci .i64 w), .c (.ci .i64 t)] => ∀ τ, τ = decide (cellP s w t) → K (vb τ)
  | _ => False
theorem cell_ct : CtOk Tryz.prog 150 ctCell := by
  intro ws K h' hr
  unfold ctCell at h'
  split at h'
  · rename_i s w t
    exact ⟨_, h' _ rfl, ⟨trivial, rfl⟩, walk_calls F0_ok Tryz.func150 (n := 0) rfl hr rfl (cell_walk s w t)⟩
  · exact h'.elim
structure DOk (d : DS) : Prop where
  c0 : 0 ≤ d.code
  c1 : d.code ≤ 4294967295
  r0 : 16777216 ≤ d.rng
  r1 : d.rng ≤ 4294967295
def stepS (d : DS) (t : Int) : Int := d.rng / t
def atS (d : DS) (t : Int) : Int := min (d.code / stepS d t) (t - 1)
theorem stepS_in {d : DS} (h : DOk d) {t : Int} (h1 : 1 ≤ t) (h2 : t ≤ 32768) : 512 ≤ stepS d t ∧ stepS d t ≤ 4294967295 ∧ stepS d t * t ≤ d.rng := by
  have h0 := h.r0
  have h3 := h.r1
  unfold stepS
  have e := Int.ediv_mul_le d.rng (show t ≠ 0 by omega)
  refine ⟨?_, ?_, e⟩
  · rw [Int.le_ediv_iff_mul_le (by omega)]; omega
  · exact Int.le_trans (Int.ediv_le_self _ (by omega)) h3
theorem divu32 {a b : Int} (h0 : 0 ≤ a) (h1 : a ≤ 4294967295) (hb : 1 ≤ b) : IntKind.u32.wrap (a.tdiv b) = a / b ∧ 0 ≤ a / b ∧ a / b ≤ 4294967295 := by
  have g0 := Int.ediv_nonneg h0 (show 0 ≤ b by omega)
  have g1 := Int.ediv_le_self b h0
  rw [Int.tdiv_eq_ediv_of_nonneg h0]
  exact ⟨wrap_of_in (by simp only [InK, lowK, highK]; omega), g0, by omega⟩
theorem at_walk {H : List Blk} {j : Nat} {d : DS} (hj : H[j]? = some (dcB d)) (hd : DOk d) {t : Int} (h1 : 1 ≤ t) (h2 : t ≤ 32768) : walk F0 0 Tryz.f114 [.c (.cp j 0), i64 t] H fun x H' => x = .tup [.c (.ci .i64 (atS d t)), .c (.ci .i64 0)] ∧ H' = H := by
  obtain ⟨c0, c1, r0, r1⟩ := hd
  have hs := stepS_in ⟨c0, c1, r0, r1⟩ h1 h2
  have q1 := divu32 (by omega) r1 h1
  have q2 := divu32 c0 c1 (show 1 ≤ stepS d t by omega)
  repeat' ((conv => whnf); first | (refine lenH_at ?_) | (refine ask_true (by omega) ?_) | (refine ask_false (by omega) ?_) | (refine And.intro rfl ?_) | (refine ask_wrap64 (by omega) (by omega) ?_) | (refine hGet_at hj ?_) | (refine ⟨by kernel_rfl, ?_⟩) | (refine maskB_as fun Hm hl hm => ?_) | (refine hGet_at (hm j _ hj (by simp)) ?_) | (refine ask_wrapu32 (by omega) (by omega) ?_) | fail)
  conv => whnf
  refine And.intro (by omega) fun r hr => ?_
  obtain rfl : r = stepS d t := hr.trans q1.1
  repeat' ((conv => whnf); first | (refine lenH_at ?_) | (refine ask_true (by omega) ?_) | (refine ask_false (by omega) ?_) | (refine And.intro rfl ?_) | (refine ask_wrap64 (by omega) (by omega) ?_) | (refine hGet_at hj ?_) | (refine ⟨by kernel_rfl, ?_⟩) | (refine maskB_as fun Hm hl hm => ?_) | (refine hGet_at (hm j _ hj (by simp)) ?_) | (refine ask_wrapu32 (by omega) (by omega) ?_) | fail)
  conv => whnf
  refine And.intro (by omega) fun r hr => ?_
  obtain rfl : r = d.code / stepS d t := hr.trans q2.1
  repeat' ((conv => whnf); first | (refine lenH_at ?_) | (refine ask_true (by omega) ?_) | (refine ask_false (by omega) ?_) | (refine And.intro rfl ?_) | (refine ask_wrap64 (by omega) (by omega) ?_) | (refine hGet_at hj ?_) | (refine ⟨by kernel_rfl, ?_⟩) | (refine maskB_as fun Hm hl hm => ?_) | (refine hGet_at (hm j _ hj (by simp)) ?_) | (refine ask_wrapu32 (by omega) (by omega) ?_) | fail)
  rfl
theorem ptr_bnd2 {H : List Blk} {j : Nat} {b : Blk} (hj : H[j]? = some b) {k : IntKind} {n : Int} : bndW H.length [.c (.cp j 0), .c (.ci k n)] = true := by
  have := (List.getElem?_eq_some_iff.1 hj).1
  show (decide (j < H.length) && (true && true)) = true
  simp [this]
def hAt : HCt := fun ws H K => match ws with
  | [.c (.cp j 0), .c (.ci .i64 t)] => ∃ d : DS, H[j]? = some (dcB d) ∧ DOk d ∧ (1 ≤ t ∧ t ≤ 32768) ∧ ∀ p, p = atS d t → K (.tup [.c (.ci .i64 p), .c (.ci .i64 0)]) H
  | _ => False
theorem at_ct : HCtOk Tryz.prog 114 hAt := by
  intro ws H K h hr hb ho G σ base w₀ w hw
  unfold hAt at h
  split at h
  · rename_i j t
    obtain ⟨d, hj, hd, h0, hK⟩ := h
    exact heap_lift F0_ok Tryz.func114 (n := 0) (ws := [.c (.cp j 0), i64 t]) ⟨trivial, hr.2.1, trivial⟩ (ptr_bnd2 hj) ho (at_walk hj hd h0.1 h0.2) (fun x H' hP => by
      obtain ⟨rfl, rfl⟩ := hP
      exact hK _ rfl) G σ base w₀ w hw
  · exact h.elim
end R
end Go.Proofs.YtaficaacogcblaaGreatDoor
set_option linter.all false
namespace Go.Proofs.YtaficaacogcblaaGreatDoor
open Go.RowKit (Below)
variable {Df : List Deferred}
def stillO (P : Program) (o : Oper) : Bool := match o.op with
  | .move _ => true
  | .assign _ => true
  | .pick _ _ _ => true
  | .nilCheck _ => true
  | .binOp _ _ _ _ _ => true
  | .unOp _ _ _ => true
  | .fieldAddr _ _ _ => true
  | .field _ _ _ => true
  | .indexAddr _ _ _ => true
  | .index _ _ _ => true
  | .extract _ _ => true
  | .makeFunc _ _ _ => true
  | .slice _ _ _ _ _ => true
  | .build _ _ => true
  | .convert _ d _ => match tyOf P d with
    | .str => false
    | _ => true
  | .call c => match c.callee with
    | .builtin .len => true
    | .builtin .cap => true
    | .builtin .max => true
    | .builtin .min => true
    | _ => false
  | _ => false
def Env.bare (E : Env) : Env := ⟨fun _ => none, E.EQ, fun _ => false, noX⟩
theorem Env.bare_ok {P : Program} {E : Env} (h : EnvOk P E) : EnvOk P (Env.bare E) := ⟨⟨by intro g ss hg; exact absurd hg (by simp [Env.bare])⟩, h.eq, noX_ok _ _⟩
theorem still_xpure {P : Program} {E : Env} {o : Oper} (hs : stillO P o = true) {fr : List V} {H H' : List Blk} {K : V → Prop} (h : xpure P E o fr H K) : xpure P (Env.bare E) o fr H' K := by
  obtain ⟨dst, op, ty, pos, after, guard⟩ := o
  cases op
  case convert s d x =>
    simp only [stillO] at hs
    simp only [xpure] at h ⊢
    split at hs
    · cases hs
    · rename_i hne
      have : ∀ c, (match tyOf P d with | .str => kStr P s d H c fun c => K (.w (.c c)) | _ => kConv P s d c fun c => K (.w (.c c))) = kConv P s d c fun c => K (.w (.c c)) := fun c => by
        split
        · rename_i he; exact absurd he hne
        · rfl
      have this' : ∀ c, (match tyOf P d with | .str => kStr P s d H' c fun c => K (.w (.c c)) | _ => kConv P s d c fun c => K (.w (.c c))) = kConv P s d c fun c => K (.w (.c c)) := fun c => by
        split
        · rename_i he; exact absurd he hne
        · rfl
      simp only [this] at h
      simp only [this']
      exact h
  case call c =>
    obtain ⟨callee, args, argTypes⟩ := c
    cases callee with
    | builtin b => cases b <;> first | exact h | cases hs
    | value _ => cases hs
    | invoke _ _ => cases hs
  case makeFunc fn first caps =>
    cases fn with
    | func f => exact h
    | _ => exact h.elim
  all_goals first | exact h | cases hs
def knownV (x : V) (K : Prop) : Prop := match x with
  | .w _ => K
  | .tup _ => K
  | .any => False
theorem gone_rep (σ : Sg) (n : Nat) (w : World) : Rep (fun _ => none) σ w.heap.size w w (List.replicate n .gone) := by
  refine ⟨Below.refl _ _, Nat.le_refl _, fun j b hj => ?_, fun i j b c hi hj hb hc hij => ?_, fun g ss hg => by cases hg⟩
  · rw [(List.mem_replicate.1 (List.mem_of_getElem? hj)).2]; trivial
  · rw [(List.mem_replicate.1 (List.mem_of_getElem? hi)).2] at hb; cases hb
theorem gone_ok (n : Nat) : HOk (List.replicate n .gone) := ⟨fun b hb => by rw [(List.mem_replicate.1 hb).2]; trivial, fun b hb => by rw [(List.mem_replicate.1 hb).2]; rfl⟩
theorem still_yields {P : Program} {E : Env} (hE : EnvOk P E) {ops : Array Oper} {o : Oper} (hs : stillO P o = true) {fr : List V} {H : List Blk} {K : V → Prop} (h : xpure P E o fr H fun x => knownV x (K x)) (hf : FOk H.length fr) {σ : Sg} {a : Act} (hr : FRep Df σ a fr)
    (hw : Region.wanted o (yielded ops a.tmps) = true) : ∃ x v, x.ok H.length ∧ K x ∧ x.rep σ v ∧ Yields P ops o v a := by
  have h' := still_xpure (H' := List.replicate H.length .gone) hs h
  obtain ⟨x, x1, x2, x3⟩ := xpure_spec (E := Env.bare E) (Env.bare_ok hE) h' (by rw [List.length_replicate]; exact hf) (gone_ok _)
  rw [List.length_replicate] at x1
  have x3' := fun w => x3 σ a w.heap.size w w hr (show Rep (Env.bare E).G σ w.heap.size w w _ from gone_rep σ H.length w)
  cases x with
  | any => exact x2.elim
  | w y =>
    refine ⟨.w y, y.den σ, x1, x2, rfl, .inl ⟨hw, fun w => ?_⟩⟩
    obtain ⟨v, rfl, h2⟩ := x3' w
    exact h2
  | tup ws =>
    refine ⟨.tup ws, .tuple (ws.map (W.den σ)).toArray, x1, x2, rfl, .inl ⟨hw, fun w => ?_⟩⟩
    obtain ⟨v, rfl, h2⟩ := x3' w
    exact h2
def stillL (P : Program) (ops : List Oper) : List Nat → Option Nat
  | [] => none
  | i :: is => match ops[i]? with
    | some o => match stillO P o with
      | true => some i
      | false => stillL P ops is
    | none => stillL P ops is
theorem stillL_spec {P : Program} {ops : List Oper} : ∀ {l : List Nat} {i : Nat}, stillL P ops l = some i → i ∈ l ∧ ∃ o, ops[i]? = some o ∧ stillO P o = true
  | [], _, h => by cases h
  | j :: js, i, h => by
    simp only [stillL] at h
    split at h
    · rename_i o ho
      split at h
      · rename_i hs
        cases h
        exact ⟨by simp, o, ho, hs⟩
      · obtain ⟨h1, h2⟩ := stillL_spec h
        exact ⟨List.mem_cons_of_mem _ h1, h2⟩
    · obtain ⟨h1, h2⟩ := stillL_spec h
      exact ⟨List.mem_cons_of_mem _ h1, h2⟩
def xred (P : Program) (E : Env) (cal : Cal) (ops : List Oper) (n : Nat) : List Nat → List V → List Blk → (List V → List Blk → Prop) → Prop :=
  Nat.rec (motive := fun _ => List Nat → List V → List Blk → (List V → List Blk → Prop) → Prop) (fun _ fr H K => K fr H)
    (fun _ ih done fr H K => match rdyL done ops 0 with
      | [] => False
      | i :: is => match stillL P ops (i :: is) with
        | some i => nthL ops i fun o => guardK ops fr o fun wanted => match wanted with
          | true => xpure P E o fr H fun x => knownV x (putK fr o.dst x fun fr' => ih (i :: done) fr' H K)
          | false => putK fr o.dst undefV fun fr' => ih (i :: done) fr' H K
        | none => eachN (i :: is) fun i => nthL ops i fun o => guardK ops fr o fun wanted => match wanted with
          | true => xany P E cal o fr H fun x H' => putK fr o.dst x fun fr' => ih (i :: done) fr' H' K
          | false => putK fr o.dst undefV fun fr' => ih (i :: done) fr' H K) n
theorem xred_succ (P : Program) (E : Env) (cal : Cal) (ops : List Oper) (n : Nat) (done : List Nat) (fr : List V) (H : List Blk) (K : List V → List Blk → Prop) : xred P E cal ops (n + 1) done fr H K = match rdyL done ops 0 with
      | [] => False
      | i :: is => match stillL P ops (i :: is) with
        | some i => nthL ops i fun o => guardK ops fr o fun wanted => match wanted with
          | true => xpure P E o fr H fun x => knownV x (putK fr o.dst x fun fr' => xred P E cal ops n (i :: done) fr' H K)
          | false => putK fr o.dst undefV fun fr' => xred P E cal ops n (i :: done) fr' H K
        | none => eachN (i :: is) fun i => nthL ops i fun o => guardK ops fr o fun wanted => match wanted with
          | true => xany P E cal o fr H fun x H' => putK fr o.dst x fun fr' => xred P E cal ops n (i :: done) fr' H' K
          | false => putK fr o.dst undefV fun fr' => xred P E cal ops n (i :: done) fr' H K := rfl
def waitsB (ops : Array Oper) (j i : Nat) : Bool := match ops[j]? with
  | some oj => oj.after.any fun e => Region.binds .any e && e.on == i
  | none => false
def ssaB (ops : Array Oper) : Bool := Region.noSelect ops && (List.range ops.size).all fun i => (List.range ops.size).all fun j => i == j || waitsB ops j i || waitsB ops i j || match ops[i]?, ops[j]? with
  | some oi, some oj => oi.apart ops oj
  | _, _ => true
theorem waitsB_spec {ops : Array Oper} {j i : Nat} (h : waitsB ops j i = true) : ∃ oj, ops[j]? = some oj ∧ ∃ e ∈ oj.after, Region.binds .any e = true ∧ e.on = i := by
  unfold waitsB at h
  split at h
  · rename_i oj hj
    obtain ⟨e, he, hb⟩ := Array.any_eq_true'.1 h
    simp only [Bool.and_eq_true, beq_iff_eq] at hb
    exact ⟨oj, hj, e, he, hb.1, hb.2⟩
  · cases h
theorem ready_rdyL {ops : Array Oper} {listed : Array Bool} {done : List Nat} (hs : listed.size = ops.size) (hd : ∀ p, listed.getD p false = done.elem p) (i : Nat) : i ∈ Region.ready .any ops listed ↔ i ∈ rdyL done ops.toList 0 := by
  rw [mem_ready, mem_rdyL]
  constructor
  · rintro ⟨h1, o, h2, h3⟩
    have hlt : i < listed.size := by have := (Array.getElem?_eq_some_iff.1 h2).1; omega
    refine ⟨i, o, by omega, by simpa using h2, ?_, ?_⟩
    · rw [← hd]; simp [hlt] at h1 ⊢; exact h1
    · unfold rdyO
      rw [List.all_eq_true]
      intro e he
      cases hb : Region.binds .any e with
      | false => rfl
      | true =>
        have := h3 e (by simpa using he) hb
        rw [hd] at this
        simpa using this
  · rintro ⟨m, o, h1, h2, h3, h4⟩
    obtain rfl : i = m := by omega
    have h2' : ops[i]? = some o := by simpa using h2
    have hlt : i < listed.size := by have := (Array.getElem?_eq_some_iff.1 h2').1; omega
    refine ⟨?_, o, h2', fun e he hb => ?_⟩
    · rw [← hd] at h3; simp [hlt] at h3 ⊢; exact h3
    · unfold rdyO at h4
      rw [List.all_eq_true] at h4
      have := h4 e (by simpa using he)
      rw [hb] at this
      rw [hd]
      simpa using this
theorem xred_spec {P : Program} {E : Env} (hE : EnvOk P E) {cal : Cal} (hc : CalOk P E cal) (ops : Array Oper) (hssa : ssaB ops = true) {base : Nat} {w₀ : World} {lo : Nat} {Q : Exit → Act → World → Prop} {σ₀ : Sg} {K : List V → List Blk → Prop}
    (hQ : ∀ c a w, ¬ Q (.panic c) a w)
    (fin : ∀ τ fr H a w, K fr H → Sg.agree lo σ₀ τ → Rep E.G τ base w₀ w H → HOk H → FRep Df τ a fr → FOk H.length fr → lo ≤ H.length → Q .normal a w) :
    ∀ (fuel : Nat) (listed : Array Bool) (done : List Nat), listed.size = ops.size → listed.toList.count false = fuel → (∀ p, listed.getD p false = done.elem p) →
      ∀ {fr : List V} {H : List Blk} {σ : Sg} {a : Act} {w : World}, xred P E cal ops.toList fuel done fr H K → FOk H.length fr → HOk H → lo ≤ H.length → Sg.agree lo σ₀ σ → FRep Df σ a fr → Rep E.G σ base w₀ w H → wpAny P .any ops Q fuel listed a w
  | 0, listed, done, hs, hcnt, hd, fr, H, σ, a, w, h, hf, ho, hlo, hσ, hr, hw => by
    refine ⟨?_, fin σ fr H a w h hσ hw ho hr hf hlo⟩
    have hall : ∀ i, i < ops.size → listed.getD i false = true := fun i hi => by
      have hlt : i < listed.size := by omega
      have h0 := List.count_eq_zero.1 hcnt
      have : listed[i] ≠ false := fun e => h0 (by rw [← e]; exact Array.getElem_mem_toList hlt)
      simp [hlt]
      simpa using this
    unfold Region.ready
    rw [List.filter_eq_nil_iff]
    intro i hi
    have hi' : i < ops.size := by simpa using hi
    have := hall i hi'
    have hlt : i < listed.size := by omega
    simp [hlt] at this ⊢
    simp [this]
  | fuel + 1, listed, done, hs, hcnt, hd, fr, H, σ, a, w, h, hf, ho, hlo, hσ, hr, hw => by
    have mem := ready_rdyL hs hd
    have hset : ∀ i, i < listed.size → ∀ p, (listed.setIfInBounds i true).getD p false = (i :: done).elem p := fun i hlt p => by
      rw [List.elem_cons]
      by_cases hpi : p = i
      · subst hpi; simp [hlt]
      · have : (p == i) = false := by simpa using hpi
        rw [this, getD_set_ne false (Ne.symm hpi), hd]
    have hcnt' : ∀ i, i < listed.size → listed.getD i false = false → (listed.setIfInBounds i true).toList.count false = fuel := fun i hlt hfalse => by
      have e1 : (listed.setIfInBounds i true).toList = listed.toList.set i true := by simp
      have hl : listed.toList[i]? = some false := by
        have : listed[i] = false := by simpa [hlt] using hfalse
        simp [hlt, this]
      have hlt' : i < listed.toList.length := by simpa using hlt
      have hget : listed.toList[i] = false := by rw [List.getElem?_eq_getElem hlt'] at hl; simpa using hl
      rw [e1, List.count_set hlt', hget]
      have e2 : (true == false) = false := rfl
      simp only [beq_self_eq_true, if_true, e2, Bool.false_eq_true, if_false]
      omega
    have look : ∀ i, i ∈ Region.ready .any ops listed → ∃ o, ops[i]? = some o ∧ ops.toList[i]? = some o ∧ i < listed.size ∧ listed.getD i false = false := fun i hi => by
      obtain ⟨h1, o, h2, h3⟩ := mem_ready.1 hi
      have hilt : i < ops.size := (Array.getElem?_eq_some_iff.1 h2).1
      have hlt : i < listed.size := by omega
      exact ⟨o, h2, by simpa using h2, hlt, by simp [hlt] at h1 ⊢; exact h1⟩
    rw [xred_succ] at h
    cases hl : rdyL done ops.toList 0 with
    | nil => rw [hl] at h; exact h.elim
    | cons i0 is0 =>
      rw [hl] at h
      simp only at h
      cases hst : stillL P ops.toList (i0 :: is0) with
      | some i =>
        rw [hst] at h
        simp only at h
        obtain ⟨hin, o2, ho2, hso⟩ := stillL_spec hst
        have hi : i ∈ Region.ready .any ops listed := (mem i).2 (by rw [hl]; exact hin)
        obtain ⟨o, h2, h2', hlt, hfalse⟩ := look i hi
        obtain rfl : o = o2 := by rw [h2'] at ho2; exact Option.some.inj ho2
        obtain ⟨o', ho', h⟩ := nthL_spec h
        obtain rfl : o = o' := by rw [h2'] at ho'; exact Option.some.inj ho'
        have h := guardK_spec h hr
        have free : ∀ j oj, ops[j]? = some oj → j ≠ i → listed.getD j true = false → (∀ e ∈ oj.after, Region.binds .any e = true → e.on ≠ i) → o.apart ops oj = true := fun j oj hj hji hun hno => by
          unfold ssaB at hssa
          rw [Bool.and_eq_true] at hssa
          have hjlt := (Array.getElem?_eq_some_iff.1 hj).1
          have hilt := (Array.getElem?_eq_some_iff.1 h2).1
          have := List.all_eq_true.1 (List.all_eq_true.1 hssa.2 i (List.mem_range.2 hilt)) j (List.mem_range.2 hjlt)
          have e1 : (i == j) = false := by simpa using Ne.symm hji
          have e2 : waitsB ops j i = false := by
            cases hb : waitsB ops j i with
            | false => rfl
            | true =>
              obtain ⟨oj', q1, e, q2, q3, q4⟩ := waitsB_spec hb
              rw [hj] at q1
              cases q1
              exact absurd q4 (hno e q2 q3)
          have e3 : waitsB ops i j = false := by
            cases hb : waitsB ops i j with
            | false => rfl
            | true =>
              obtain ⟨oi', q1, e, q2, q3, q4⟩ := waitsB_spec hb
              rw [h2] at q1
              cases q1
              obtain ⟨_, o3, r1, r2⟩ := mem_ready.1 hi
              rw [h2] at r1
              cases r1
              have := r2 e q2 q3
              rw [q4] at this
              have hjl : j < listed.size := by omega
              simp [hjl] at this hun
              rw [this] at hun; cases hun
          simpa [e1, e2, e3, h2, hj] using this
        have hsel := Region.noSelect_spec (ops := ops) (by unfold ssaB at hssa; rw [Bool.and_eq_true] at hssa; exact hssa.1)
        cases hwant : Region.wanted o (yielded ops a.tmps) with
        | true =>
          rw [hwant] at h
          obtain ⟨x, v, x1, x2, x3, x4⟩ := still_yields hE hso h hf hr hwant
          rw [putK_iff] at x2
          exact wpAny_first h2 hsel (fun c a w h => (hQ c _ w h).elim) fuel listed a w free hi x4
            (xred_spec hE hc ops hssa hQ fin fuel _ (i :: done) (by simpa using hs) (hcnt' i hlt hfalse) (hset i hlt) x2 (FOk.put hf x1) ho hlo hσ (hr.put x3) hw)
        | false =>
          rw [hwant] at h
          simp only at h
          rw [putK_iff] at h
          exact wpAny_first (v := undef) h2 hsel (fun c a w h => (hQ c _ w h).elim) fuel listed a w free hi (.inr ⟨hwant, rfl⟩)
            (xred_spec hE hc ops hssa hQ fin fuel _ (i :: done) (by simpa using hs) (hcnt' i hlt hfalse) (hset i hlt) h (FOk.put hf ⟨trivial, rfl⟩) ho hlo hσ (hr.put (undefV_rep σ)) hw)
      | none =>
        rw [hst] at h
        simp only at h
        refine ⟨fun hn => ?_, fun i hi => ?_⟩
        · have := (mem i0).2 (by rw [hl]; simp)
          rw [hn] at this
          cases this
        · have hil := (mem i).1 hi
          rw [hl] at hil
          obtain ⟨o, h2, h2', hlt, hfalse⟩ := look i hi
          obtain ⟨o', ho', h⟩ := nthL_spec (eachN_mem h i hil)
          obtain rfl : o = o' := by rw [h2'] at ho'; exact Option.some.inj ho'
          have h := guardK_spec h hr
          cases hwant : Region.wanted o (yielded ops a.tmps) with
          | true =>
            refine guard_wp h2 hwant ?_
            rw [hwant] at h
            refine xany_spec hE hc h hf ho hr hw fun τ x H' v w' k1 k2 k3 k4 k5 k6 k7 => ?_
            rw [putK_iff] at k1
            exact xred_spec hE hc ops hssa hQ fin fuel _ (i :: done) (by simpa using hs) (hcnt' i hlt hfalse) (hset i hlt) k1 (FOk.put (hf.mono k7) k6) k5 (Nat.le_trans hlo k7) (hσ.trans (k2.mono hlo)) ((hr.agree k2 hf).put k3) k4
          | false =>
            refine guard_wp h2 hwant ?_
            rw [hwant] at h
            simp only at h
            rw [putK_iff] at h
            exact xred_spec hE hc ops hssa hQ fin fuel _ (i :: done) (by simpa using hs) (hcnt' i hlt hfalse) (hset i hlt) h (FOk.put hf ⟨trivial, rfl⟩) ho hlo hσ (hr.put (undefV_rep σ)) hw
@[irreducible] def XRed (P : Program) (E : Env) (cal : Cal) (ops : Array Oper) (lo : Nat) (fr : List V) (H : List Blk) (K : List V → List Blk → Prop) : Prop :=
  ssaB ops = true ∧ ∃ S L : List V → List Blk → Prop, (∀ frc Hc, S frc Hc → K frc Hc) ∧ (∀ fr' H', L fr' H' → ∃ frc Hc ρ, (FOk H'.length fr' → HOk H' → lo ≤ H'.length → Seen ρ lo frc Hc fr' H') ∧ S frc Hc) ∧ xred P E cal ops.toList ops.size [] fr H L
def isRed (F : Fns) (ops : List Oper) : Bool := ops.any fun o => match o.op with
  | .call c => match c.callee with
    | .builtin .append => true
    | .value (.func g) => F.all g
    | .value _ => F.all 999999
    | _ => false
  | _ => false
def drwR (P : Program) (E : Env) (F : Fns) (cal : Cal) : Drw := fun ops lo fr H K => match isRed F ops.toList with
  | true => XRed P E cal ops lo fr H K
  | false => drwF P E F cal ops lo fr H K
theorem drwR_ok {P : Program} {E : Env} (hE : EnvOk P E) {F : Fns} (hF : FnsOk P F E.G) (hm : P.follows .mixedOrders = true) (cal : Cal) (hc : CalOk P E cal) : DrwOk P E (drwR P E F cal) := by
  intro Df id ops lo fr H K h hf ho hlo σ base w₀ w a hr hw
  unfold drwR at h
  split at h
  · unfold XRed at h
    obtain ⟨hssa, S, L, h1, hL, h2⟩ := h
    refine wp_region_any hm ?_
    have hw' : Rep E.G σ base w₀ { w with drawn := w.drawn + 1 } H := hw.later ⟨rfl, rfl, rfl, Nat.le_refl _, fun _ _ => rfl⟩
    refine xred_spec hE hc ops hssa (σ₀ := σ) (base := base) (w₀ := w₀) (lo := lo) ?_ ?_ ops.size (Array.replicate ops.size false) [] (by simp) (by simp) (fun p => ?_) h2 hf ho hlo (Sg.agree.refl _ _) hr hw'
    · rintro c a w ⟨_, _, _, ex, he, _⟩
      cases ex <;> cases he
    · rintro τ fr' H' a' w' k0 k3 k4 k5 k6 k7 k8
      obtain ⟨frc, Hc, ρ, k2, k1⟩ := hL _ _ k0
      replace k2 := k2 k7 k5 k8
      obtain ⟨q1, q2⟩ := k2.ok k7 k5
      exact ⟨τ.ren ρ, frc, Hc, .normal, rfl, ⟨rfl, h1 _ _ k1⟩, k3.trans (fun j hj => by simp only [Sg.ren, k2.low j hj]), k4.ren k2.blk k2.inj, q2, k6.ren k2.len k2.fr, q1, k2.lo⟩
    · rcases Nat.lt_or_ge p ops.size with hlt | hge
      · simp [hlt]
      · simp [Array.getElem?_eq_none (xs := Array.replicate ops.size false) (i := p) (by simpa using hge)]
  · exact drwF_ok hE hF hm cal hc Df id ops lo fr H K h hf ho hlo σ base w₀ w a hr hw
theorem wkF_refl : ∀ F : List V, wkF F F
  | [] => trivial
  | .any :: F => wkF_refl F
  | .w _ :: F => ⟨rfl, wkF_refl F⟩
  | .tup _ :: F => ⟨rfl, wkF_refl F⟩
theorem wkH_self : ∀ H : List Blk, wkH H H
  | [] => trivial
  | .gone :: H => wkH_self H
  | .own _ _ :: H => ⟨rfl, wkH_self H⟩
  | .ro _ :: H => ⟨rfl, wkH_self H⟩
  | .obj _ :: H => ⟨rfl, wkH_self H⟩
theorem bndF_of {n : Nat} : ∀ {F : List V}, (∀ x ∈ F, x.bnd n = true) → bndF n F = true
  | [], _ => rfl
  | x :: F, h => by simp only [bndF, h x (by simp), bndF_of fun y hy => h y (List.mem_cons_of_mem _ hy), Bool.and_self]
theorem bndH_of' {n : Nat} : ∀ {F : List Blk}, (∀ x ∈ F, x.bnd n = true) → bndH n F = true
  | [], _ => rfl
  | x :: F, h => by simp only [bndH, h x (by simp), bndH_of' fun y hy => h y (List.mem_cons_of_mem _ hy), Bool.and_self]
theorem red_each {P : Program} {E : Env} {cal : Cal} {ops : Array Oper} {lo : Nat} {fr : List V} {H : List Blk} {K : List V → List Blk → Prop} (hssa : ssaB ops = true) (walk : xred P E cal ops.toList ops.size [] fr H K) : XRed P E cal ops lo fr H K := by
  unfold XRed
  refine ⟨hssa, K, K, fun _ _ h => h, fun fr' H' h => ⟨fr', H', id, fun hF hH hl => Seen.of_wk rfl (wkF_refl _) (wkH_self _) (bndF_of fun x hx => (hF.ok x hx).2) (bndH_of' fun b hb => hH.bnd b hb) hl, h⟩, walk⟩
abbrev walkr (F : Fns) (n : Nat) (fn : Func) (ws : List W) (H : List Blk) (K : V → List Blk → Prop) : Prop := xfun Tryz.prog E0 (calF Tryz.prog E0 F (drwR Tryz.prog E0 F) n) (drwR Tryz.prog E0 F (calF Tryz.prog E0 F (drwR Tryz.prog E0 F) n)) fn ws H K
theorem heap_liftr {F : Fns} (hF : FnsOk Tryz.prog F) {n : Nat} {f : FuncId} {fn : Func} (hf : Tryz.prog.funcs[f]? = some fn) {ws : List W} (hr : rngW ws) {P : V → List Blk → Prop} {H : List Blk} (hb : bndW H.length ws = true) (ho : HOk H)
    (h : walkr F n fn ws H P) {K : V → List Blk → Prop} (hK : ∀ x H', P x H' → K x H') (G : Glo) (σ : Sg) (base : Nat) (w₀ w : World) (hw : Rep G σ base w₀ w H) :
    Calls Tryz.prog f (ws.map (W.den σ)).toArray w (LeftG G σ base w₀ H.length K) := by
  have hw0 : Rep E0.G σ base w₀ w H := ⟨hw.below, hw.size, hw.blk, hw.sep, fun g ss hg => by cases hg⟩
  refine (xfun_spec E0_ok (calF_ok E0_ok hF (fun cal hc => drwR_ok E0_ok hF mixed cal hc) n) (drwR_ok E0_ok hF mixed _ (calF_ok E0_ok hF (fun cal hc => drwR_ok E0_ok hF mixed cal hc) n)) hf h hr hb ho σ base w₀ w hw0).mono ?_
  rintro e w' ⟨τ, x, H', v, rfl, h1, h2, h3, h4, h5, h6, h7⟩
  refine ⟨τ, x, H', v, rfl, h1, hK x H' h2, h3, ⟨h4.below, h4.size, h4.blk, h4.sep, fun g ss hg => ?_⟩, h5, h6, h7⟩
  obtain ⟨g1, g2, g3⟩ := hw.glo g ss hg
  refine ⟨g1, g2, fun i u hu => ?_⟩
  have hu' : (dens σ ss)[i]? = some u := by
    rw [dens_agree (n := 0) (τ := τ) (fun j hj => absurd hj (Nat.not_lt_zero j)) ss g2]; exact hu
  have := g3 i u hu'
  rw [cell_eq_of_block (w := w) (w' := w')]
  · exact this
  · show w'.heap[g]? = w.heap[g]?
    rw [h4.below.block g g1, hw.below.block g g1]
end Go.Proofs.YtaficaacogcblaaGreatDoor
set_option linter.all false
namespace Go.Proofs.YtaficaacogcblaaGreatDoor
namespace R
open Go.RowKit (Below)
set_option maxRecDepth 100000
set_option maxHeartbeats 16000000
def dnorm : Nat → DS → DS
  | 0, d => d
  | n + 1, d => if d.rng < 16777216 then dnorm n ⟨d.s, d.at' + 1, (d.code * 256) % 4294967296 + byteD d.s d.at', d.rng * 256, d.gone + 1⟩ else d
def takeS (d : DS) (s w t : Int) : DS := dnorm 3 ⟨d.s, d.at', IntKind.u32.wrap (d.code - stepS d t * s), stepS d t * w, d.gone⟩
theorem shl8_nat (x : Int) : x * 2 ^ (min (Int.toNat 8) IntKind.u32.bits) = x * 256 := by
  rw [show min (Int.toNat 8) IntKind.u32.bits = 8 from rfl]; rfl
theorem ask_shl8 {x : Int} {K : Int → Prop} (h0 : 0 ≤ x) (h1 : x < 16777216) (hk : K (x * 256)) : ∀ r, r = IntKind.u32.wrap (x * 2 ^ (min (Int.toNat 8) IntKind.u32.bits)) → K r := by
  rintro r rfl
  rw [shl8_nat, wrap_of_in (by simp only [InK, lowK, highK]; omega)]
  exact hk
theorem or_byte {c b : Int} (hc : 0 ≤ c ∧ c ≤ 4294967295) (hb : 0 ≤ b ∧ b ≤ 255) : bitsI .or .u32 (IntKind.u32.wrap (c * 256)) b = (c * 256) % 4294967296 + b := by
  have e0 : IntKind.u32.wrap (c * 256) = (c * 256) % 4294967296 := by
    simp [IntKind.wrap, IntKind.bits, IntKind.signed]
  rw [e0]
  obtain ⟨x, hx⟩ : ∃ x : Nat, (c * 256) % 4294967296 = ((256 * x : Nat) : Int) := ⟨(c % 16777216).toNat, by omega⟩
  have hx1 : x < 16777216 := by omega
  obtain ⟨y, rfl⟩ : ∃ y : Nat, b = y := ⟨b.toNat, by omega⟩
  rw [hx]
  have o1 : (BitVec.ofInt 32 ((256 * x : Nat) : Int)).toNat = 256 * x := by
    rw [BitVec.ofInt_natCast, BitVec.toNat_ofNat]; omega
  have o2 : (BitVec.ofInt 32 (y : Int)).toNat = y := by
    rw [BitVec.ofInt_natCast, BitVec.toNat_ofNat]; omega
  have o3 : 256 * x ||| y = 256 * x + y := by
    rw [show 256 * x = 2 ^ 8 * x from rfl, ← Nat.two_pow_add_eq_or_of_lt (show y < 2 ^ 8 by omega)]
  show IntKind.u32.wrap (((BitVec.ofInt 32 ((256 * x : Nat) : Int) ||| BitVec.ofInt 32 (y : Int)).toNat : Nat) : Int) = _
  rw [BitVec.toNat_or, o1, o2, o3, wrap_of_in]
  · omega
  · simp only [InK, lowK, highK]; omega
theorem ask_or {c b r v : Int} {K : Int → Prop} (hr : r = IntKind.u32.wrap (c * 2 ^ (min (Int.toNat 8) IntKind.u32.bits))) (hv : v = b) (hc : 0 ≤ c ∧ c ≤ 4294967295) (hb : 0 ≤ b ∧ b ≤ 255) (hk : K ((c * 256) % 4294967296 + b)) : ∀ x, x = bitsI .or .u32 r v → K x := by
  rintro x rfl
  rw [hv, hr, shl8_nat, or_byte hc hb]
  exact hk
noncomputable def FT : Fns := ((F0.plus 150 ctCell).over 113 hNext).every 113
theorem FT_ok : FnsOk Tryz.prog FT := (F0_ok.plus cell_ct Tryz.func150 (by kernel_rfl) (by kernel_rfl)).over next_ct Tryz.func113 (by kernel_rfl) (by kernel_rfl) |>.every _
theorem take_walk {H : List Blk} (hH : HOk H) {j : Nat} {d : DS} (hj : H[j]? = some (dcB d)) (hd : DOk d) (ha : 0 ≤ d.at' ∧ d.at' ≤ 100000000) (hg : 0 ≤ d.gone ∧ d.gone ≤ 100000000) {s w t : Int} (hc : cellP s w t) :
    walkr FT 0 Tryz.f117 [.c (.cp j 0), i64 s, i64 w, i64 t] H fun x H' => x = .w (.c (.ci .i64 0)) ∧ H' = H.set j (dcB (takeS d s w t)) := by
  obtain ⟨c0, c1, r0, r1⟩ := hd
  have hjl := (List.getElem?_eq_some_iff.1 hj).1
  have hset : ∀ b : Blk, (H.set j b)[j]? = some b := fun b => List.getElem?_set_self hjl
  have hcc := hc
  unfold cellP at hcc
  have hs := stepS_in ⟨c0, c1, r0, r1⟩ (t := t) (by omega) (by omega)
  have q1 := divu32 (by omega) r1 (show 1 ≤ t by omega)
  repeat' ((conv => whnf); first | (refine lenH_is ?_) | (refine ask_true (by omega) ?_) | (refine ask_false (by omega) ?_) | (refine ask_true hc ?_) | (refine And.intro rfl ?_) | (refine ask_wrap64 (by omega) (by omega) ?_) | (refine hGet_at hj ?_) | (refine ⟨by kernel_rfl, ?_⟩) | (refine maskB_as fun Hm hl hm => ?_) | (refine hGet_at (hm j _ hj (by simp)) ?_) | (refine ask_wrapu32 (by omega) (by omega) ?_) | fail)
  conv => whnf
  have m1 : 0 ≤ stepS d t * s ∧ stepS d t * s ≤ 4294967295 := by
    have := Int.mul_le_mul_of_nonneg_left (show s ≤ t by omega) (show 0 ≤ stepS d t by omega)
    exact ⟨Int.mul_nonneg (by omega) (by omega), by omega⟩
  have m2 : 512 ≤ stepS d t * w ∧ stepS d t * w ≤ 4294967295 := by
    have h1 := Int.mul_le_mul_of_nonneg_left (show w ≤ t by omega) (show 0 ≤ stepS d t by omega)
    have h2 := Int.mul_le_mul_of_nonneg_left (show 1 ≤ w by omega) (show 0 ≤ stepS d t by omega)
    omega
  refine And.intro (by omega) fun r hr => ?_
  obtain rfl : r = stepS d t := hr.trans q1.1
  repeat' ((conv => whnf); first | (refine lenH_is ?_) | (refine ask_true (by omega) ?_) | (refine ask_false (by omega) ?_) | (refine ask_true hc ?_) | (refine And.intro rfl ?_) | (refine ask_wrap64 (by omega) (by omega) ?_) | (refine hGet_at hj ?_) | (refine ⟨by kernel_rfl, ?_⟩) | (refine maskB_as fun Hm hl hm => ?_) | (refine hGet_at (hm j _ hj (by simp)) ?_) | (refine ask_wrapu32 (by omega) (by omega) ?_) | (refine hGet_at (hset _) ?_) | (refine hGet_at (hm j _ (hset _) (by simp)) ?_) | (refine setH_at ?_) | fail)
  conv => whnf
  refine fun c hc' => ?_
  repeat' ((conv => whnf); first | (refine lenH_is ?_) | (refine ask_true (by omega) ?_) | (refine ask_false (by omega) ?_) | (refine ask_true hc ?_) | (refine And.intro rfl ?_) | (refine ask_wrap64 (by omega) (by omega) ?_) | (refine hGet_at hj ?_) | (refine ⟨by kernel_rfl, ?_⟩) | (refine maskB_as fun Hm hl hm => ?_) | (refine hGet_at (hm j _ hj (by simp)) ?_) | (refine ask_wrapu32 (by omega) (by omega) ?_) | (refine hGet_at (hset _) ?_) | (refine hGet_at (hm j _ (hset _) (by simp)) ?_) | (refine setH_at ?_) | fail)
  conv => whnf
  have hcr : 0 ≤ c ∧ c ≤ 4294967295 := by
    have := inK_wrap .u32 (d.code - stepS d t * s)
    rw [← hc'] at this
    simp only [InK, lowK, highK] at this
    exact this
  have hbH : ∀ d' : DS, bndH (H.set j (dcB d')).length (H.set j (dcB d')) = true := fun d' => bndH_of fun b hb => by
    rw [List.length_set]
    rcases List.mem_or_eq_of_mem_set hb with h | h
    · exact hH.bnd b h
    · rw [h]; rfl
  have hlo : ∀ d' : DS, H.length ≤ (H.set j (dcB d')).length := fun d' => by rw [List.length_set]; exact Nat.le_refl _
  have d1 : ∀ d' : DS, decide (j < (H.set j (dcB d')).length) = true := fun d' => by simp [hjl]
  refine loop_at (List.range' 44 30) (fun m (e : DS) => (0 ≤ e.code ∧ e.code ≤ 4294967295) ∧ (1 ≤ e.rng ∧ e.rng ≤ 4294967295) ∧ 16777216 ≤ e.rng * 256 ^ m ∧ (0 ≤ e.at' ∧ e.at' ≤ 100000003 - m) ∧ (0 ≤ e.gone ∧ e.gone ≤ 100000003 - m) ∧ m ≤ 3 ∧ dnorm m e = takeS d s w t) (fun _ => []) (fun e => H.set j (dcB e)) 3 ⟨d.s, d.at', c, stepS d t * w, d.gone⟩ ⟨hcr, ⟨by show 1 ≤ stepS d t * w; omega, m2.2⟩, by show 16777216 ≤ stepS d t * w * 256 ^ 3; omega, by show 0 ≤ d.at' ∧ d.at' ≤ _; omega, by show 0 ≤ d.gone ∧ d.gone ≤ _; omega, Nat.le_refl _, by rw [takeS, ← hc']⟩ ?_ ?_
  · refine ⟨rfl, trivial, by rw [List.set_set]; exact wkH_refl _, ?_, hbH _, hlo _⟩
    repeat' (first | rfl | exact d1 _ | refine and_t ?_ ?_)
  · rintro m e ⟨e1, e2, e3, e4, e5, e6, e7⟩
    rcases Int.lt_or_le e.rng 16777216 with g | g
    · repeat' ((conv => whnf); first | (refine lenH_is ?_) | (refine ask_true (by omega) ?_) | (refine ask_false (by omega) ?_) | (refine ask_true hc ?_) | (refine And.intro rfl ?_) | (refine ask_wrap64 (by omega) (by omega) ?_) | (refine hGet_at hj ?_) | (refine ⟨by kernel_rfl, ?_⟩) | (refine maskB_as fun Hm hl hm => ?_) | (refine hGet_at (hm j _ hj (by simp)) ?_) | (refine ask_wrapu32 (by omega) (by omega) ?_) | (refine hGet_at (hset _) ?_) | (refine hGet_at (hm j _ (hset _) (by simp)) ?_) | (refine setH_at ?_) | fail)
      conv => whnf
      refine red_each (by kernel_rfl) ?_
      repeat' ((conv => whnf); first | (refine lenH_is ?_) | (refine ask_true (by omega) ?_) | (refine ask_false (by omega) ?_) | (refine And.intro rfl ?_) | (refine ask_wrap64 (by omega) (by omega) ?_) | (refine hGet_at (hset _) ?_) | fail)
      conv => whnf
      have hsl : ∀ b : Blk, (H.set j b).length = H.length := fun b => List.length_set
      refine ⟨?_, ?_, trivial⟩
      all_goals repeat' ((conv => whnf); first | (refine lenH_is ?_) | (refine And.intro (show (0 : Int) ≤ 8 by decide) (ask_shl8 (by omega) (by omega) ?_)) | (refine And.intro (show (0 : Int) ≤ 8 by decide) fun r hr => ?_) | (refine ask_or hr hv e1 (byteD_in _ _) ?_) | (refine ask_wrap64 (by omega) (by omega) ?_) | (refine ask_true (by omega) ?_) | (refine Exists.intro e (And.intro (hset _) (And.intro ⟨by omega, by omega⟩ fun v hv => ?_))) | (refine hGet_at (List.getElem?_set_self (by first | exact hjl | (simp only [List.length_set]; exact hjl))) ?_) | (refine setH_at ?_) | (refine And.intro ?_ trivial) | fail)
      all_goals
        have hb := byteD_in e.s e.at'
        cases m with
        | zero => exact absurd e3 (by rw [Int.pow_zero]; omega)
        | succ m =>
          refine ⟨m, ⟨e.s, e.at' + 1, (e.code * 256) % 4294967296 + byteD e.s e.at', e.rng * 256, e.gone + 1⟩, Nat.lt_succ_self _, ⟨by dsimp only; omega, by dsimp only; omega, ?_, by dsimp only; omega, by dsimp only; omega, by omega, ?_⟩, ⟨rfl, trivial, ?_, ?_, hbH _, hlo _⟩⟩
          · dsimp only
            rw [Int.pow_succ, Int.mul_comm (256 ^ m) 256, ← Int.mul_assoc] at e3
            exact e3
          · rw [← e7]
            simp only [dnorm]
            rw [if_pos g]
          · simp only [List.set_set]
            exact wkH_refl _
          · repeat' (first | rfl | exact d1 _ | refine and_t ?_ ?_)
    · repeat' ((conv => whnf); first | (refine lenH_is ?_) | (refine ask_true (by omega) ?_) | (refine ask_false (by omega) ?_) | (refine ask_true hc ?_) | (refine And.intro rfl ?_) | (refine ask_wrap64 (by omega) (by omega) ?_) | (refine hGet_at hj ?_) | (refine ⟨by kernel_rfl, ?_⟩) | (refine maskB_as fun Hm hl hm => ?_) | (refine hGet_at (hm j _ hj (by simp)) ?_) | (refine ask_wrapu32 (by omega) (by omega) ?_) | (refine hGet_at (hset _) ?_) | (refine hGet_at (hm j _ (hset _) (by simp)) ?_) | (refine setH_at ?_) | fail)
      have ee : dnorm m e = e := by
        cases m with
        | zero => rfl
        | succ m => simp only [dnorm]; rw [if_neg (by omega)]
      rw [← e7, ee]
theorem dnorm_ok : ∀ (m : Nat) (e : DS), (0 ≤ e.code ∧ e.code ≤ 4294967295) → (1 ≤ e.rng ∧ e.rng ≤ 4294967295) → 16777216 ≤ e.rng * 256 ^ m →
    DOk (dnorm m e) ∧ (e.at' ≤ (dnorm m e).at' ∧ (dnorm m e).at' ≤ e.at' + m) ∧ (e.gone ≤ (dnorm m e).gone ∧ (dnorm m e).gone ≤ e.gone + m) ∧ (dnorm m e).s = e.s
  | 0, e, h1, h2, h3 => by
    rw [Int.pow_zero] at h3
    exact ⟨⟨h1.1, h1.2, by show 16777216 ≤ e.rng; omega, h2.2⟩, ⟨by simp [dnorm], by simp [dnorm]⟩, ⟨by simp [dnorm], by simp [dnorm]⟩, rfl⟩
  | m + 1, e, h1, h2, h3 => by
    simp only [dnorm]
    split
    · rename_i g
      have hb := byteD_in e.s e.at'
      have h3' : 16777216 ≤ e.rng * 256 * 256 ^ m := by
        rw [Int.pow_succ, Int.mul_comm (256 ^ m) 256, ← Int.mul_assoc] at h3
        exact h3
      obtain ⟨q1, q2, q3, q4⟩ := dnorm_ok m ⟨e.s, e.at' + 1, (e.code * 256) % 4294967296 + byteD e.s e.at', e.rng * 256, e.gone + 1⟩ (by dsimp only; omega) (by dsimp only; omega) h3'
      simp only at q2 q3 q4
      exact ⟨q1, by omega, by omega, q4⟩
    · rename_i g
      exact ⟨⟨h1.1, h1.2, by omega, h2.2⟩, by omega, by omega, rfl⟩
theorem takeS_ok {d : DS} (hd : DOk d) {s w t : Int} (hc : cellP s w t) : DOk (takeS d s w t) ∧ (d.at' ≤ (takeS d s w t).at' ∧ (takeS d s w t).at' ≤ d.at' + 3) ∧ (d.gone ≤ (takeS d s w t).gone ∧ (takeS d s w t).gone ≤ d.gone + 3) ∧ (takeS d s w t).s = d.s := by
  unfold cellP at hc
  have hs := stepS_in hd (t := t) (by omega) (by omega)
  have r1 := hd.r1
  have hcr := inK_wrap .u32 (d.code - stepS d t * s)
  simp only [InK, lowK, highK] at hcr
  have m2 : 512 ≤ stepS d t * w ∧ stepS d t * w ≤ 4294967295 := by
    have h1 := Int.mul_le_mul_of_nonneg_left (show w ≤ t by omega) (show 0 ≤ stepS d t by omega)
    have h2 := Int.mul_le_mul_of_nonneg_left (show 1 ≤ w by omega) (show 0 ≤ stepS d t by omega)
    omega
  exact dnorm_ok 3 _ hcr ⟨by show 1 ≤ stepS d t * w; omega, m2.2⟩ (by show 16777216 ≤ stepS d t * w * 256 ^ 3; omega)
@[irreducible] noncomputable def tkS (d : DS) (s w t : Int) : DS := sealed takeS d s w t
theorem tkS_def (d : DS) (s w t : Int) : tkS d s w t = takeS d s w t := by unfold tkS; rw [sealed_eq]
structure TkOk (d d' : DS) (n : Int) : Prop where
  ok : DOk d'
  at0 : d.at' ≤ d'.at'
  at1 : d'.at' ≤ d.at' + n
  g0 : d.gone ≤ d'.gone
  g1 : d'.gone ≤ d.gone + n
  s : d'.s = d.s
theorem tkS_ok {d : DS} (hd : DOk d) {s w t : Int} (hc : cellP s w t) : TkOk d (tkS d s w t) 3 := by
  rw [tkS_def]
  obtain ⟨h1, h2, h3, h4⟩ := takeS_ok hd hc
  exact ⟨h1, h2.1, h2.2, h3.1, h3.2, h4⟩
structure DIn (d : DS) (n : Int) : Prop where
  ok : DOk d
  a0 : 0 ≤ d.at'
  a1 : d.at' ≤ n
  g0 : 0 ≤ d.gone
  g1 : d.gone ≤ n
theorem DIn.take {d d' : DS} {n m : Int} (h : DIn d n) (k : TkOk d d' m) : DIn d' (n + m) := ⟨k.ok, Int.le_trans h.a0 k.at0, by have := k.at1; have := h.a1; omega, Int.le_trans h.g0 k.g0, by have := k.g1; have := h.g1; omega⟩
theorem DIn.mono {d : DS} {n m : Int} (h : DIn d n) (k : n ≤ m) : DIn d m := ⟨h.ok, h.a0, Int.le_trans h.a1 k, h.g0, Int.le_trans h.g1 k⟩
def hTake : HCt := fun ws H K => match ws with
  | [.c (.cp j 0), .c (.ci .i64 s), .c (.ci .i64 w), .c (.ci .i64 t)] => ∃ d : DS, H[j]? = some (dcB d) ∧ DIn d 100000000 ∧ cellP s w t ∧ ∀ d' : DS, d' = tkS d s w t → K (.w (.c (.ci .i64 0))) (H.set j (dcB d'))
  | _ => False
theorem take_ct : HCtOk Tryz.prog 117 hTake := by
  intro ws H K h hr hb ho G σ base w₀ w hw
  unfold hTake at h
  split at h
  · rename_i j s w' t
    obtain ⟨d, hj, hd, hc, hK⟩ := h
    exact heap_liftr FT_ok Tryz.func117 (n := 0) (ws := [.c (.cp j 0), i64 s, i64 w', i64 t]) ⟨trivial, hr.2.1, hr.2.2.1, hr.2.2.2.1, trivial⟩ (by
      have := (List.getElem?_eq_some_iff.1 hj).1
      show (decide (j < H.length) && (true && (true && (true && true)))) = true
      simp [this]) ho (take_walk ho hj hd.ok ⟨hd.a0, hd.a1⟩ ⟨hd.g0, hd.g1⟩ hc) (fun x H' hP => by
      obtain ⟨rfl, rfl⟩ := hP
      exact hK _ (tkS_def _ _ _ _).symm) G σ base w₀ w hw
  · exact h.elim
end R
end Go.Proofs.YtaficaacogcblaaGreatDoor
set_option linter.all false
namespace Go.Proofs.YtaficaacogcblaaGreatDoor
namespace P
open Go.RowKit Go.Shelf
set_option maxRecDepth 100000
set_option maxHeartbeats 16000000
def widS (k : Int) : Int := max ((5000 : Int).fdiv (2 ^ (min (k - 1).toNat 64))) 8
def widN (n : Nat) : Int := widS ((n : Int) + 1)
theorem widN_in : ∀ n : Fin 24, 8 ≤ widN n.1 ∧ widN n.1 ≤ 5000 := by decide
theorem widS_in {k : Int} (h1 : 1 ≤ k) (h2 : k ≤ 24) : 8 ≤ widS k ∧ widS k ≤ 5000 := by
  have := widN_in ⟨(k - 1).toNat, by omega⟩
  unfold widN at this
  rwa [show (((k - 1).toNat : Nat) : Int) + 1 = k by omega] at this
theorem width_walk {k : Int} (h1 : 1 ≤ k) (h2 : k ≤ 24) : walk F0 0 Tryz.f171 [i64 k] [] fun y _ => y = vi (widS k) := by
  conv => whnf
  refine ask_wrap64 (by omega) (by omega) ?_
  conv => whnf
  refine And.intro (by omega) fun r hr => ?_
  conv => whnf
  rw [hr]
  rfl
def ctW : Ct := ct1 (fun k => 1 ≤ k ∧ k ≤ 24) widS
theorem width_ct : CtOk Tryz.prog 171 ctW := ct1_ok F0_ok Tryz.func171 (fun k _ h => by
  have := widS_in h.1 h.2
  simp only [InK, lowK, highK]; omega) fun k _ h => width_walk h.1 h.2
noncomputable def FZ : Fns := F0.plus 171 ctW
theorem FZ_ok : FnsOk Tryz.prog FZ := F0_ok.plus width_ct Tryz.func171 (by kernel_rfl) (by kernel_rfl)
def zN : Nat → Int
  | 0 => 32768
  | n + 1 => zN n - 2 * widN n
theorem zN_in : ∀ n : Fin 25, 0 ≤ zN n.1 ∧ zN n.1 ≤ 32768 := by decide
theorem zero_walk : walk FZ 0 Tryz.f170 [] [] fun y _ => y = vi 12568 := by
  conv => whnf
  refine loop_at (List.range' 1 12) (fun m (n : Nat) => n ≤ 24 ∧ m = 24 - n) (fun n => [(1, vi (zN n)), (3, vi (n : Int))]) (fun _ => []) 24 (0 : Nat) ⟨by omega, rfl⟩ ?_ ?_
  · exact ⟨rfl, ⟨⟨Nat.le_of_ble_eq_true rfl, rfl⟩, ⟨Nat.le_of_ble_eq_true rfl, rfl⟩, trivial⟩, trivial, rfl, rfl, Nat.le_refl _⟩
  · rintro m n ⟨h1, rfl⟩
    have z0 := zN_in ⟨n, by omega⟩
    rcases Nat.lt_or_ge n 24 with g | g
    · have z1 := zN_in ⟨n + 1, by omega⟩
      have w0 := widN_in ⟨n, g⟩
      have e1 : zN (n + 1) = zN n - 2 * widN n := rfl
      have e2 : widS ((n : Int) + 1) = widN n := rfl
      simp only at z0 z1 w0
      repeat' ((conv => whnf); first | (refine ask_wrap64 (by omega) (by omega) ?_) | (refine ask_true (by omega) ?_) | (refine ask_false (by omega) ?_) | (refine And.intro (And.intro (by omega) (by omega)) ?_) | fail)
      refine ⟨24 - (n + 1), n + 1, by omega, ⟨by omega, rfl⟩, rfl, ⟨⟨Nat.le_of_ble_eq_true rfl, rfl⟩, ⟨Nat.le_of_ble_eq_true rfl, rfl⟩, trivial⟩, trivial, rfl, rfl, Nat.le_refl _⟩
    · obtain rfl : n = 24 := by omega
      repeat' ((conv => whnf); first | (refine ask_false (by omega) ?_) | fail)
      rfl
theorem zero_ct : CtOk Tryz.prog 170 (ct0 (vi 12568)) := ct0_ok FZ_ok Tryz.func170 ⟨by simp only [V.rng, W.rng, C.rng, InK, lowK, highK]; omega, rfl⟩ zero_walk
structure CL where
  v : Int
  s : Int
  w : Int
  deriving DecidableEq
def atN : Nat → Int
  | 0 => 12568
  | n + 1 => atN n + 2 * widN n
theorem atN_in : ∀ n : Fin 25, 12568 ≤ atN n.1 ∧ atN n.1 ≤ 32768 := by decide
def cellsU : Nat → List CL
  | 0 => [⟨0, 0, 12568⟩]
  | n + 1 => cellsU n ++ [⟨(n : Int) + 1, atN n, widN n⟩, ⟨-((n : Int) + 1), atN n + widN n, widN n⟩]
theorem cellsU_len : ∀ n, (cellsU n).length = 2 * n + 1
  | 0 => rfl
  | n + 1 => by rw [cellsU, List.length_append, cellsU_len n]; simp; omega
theorem cellsU_pre : ∀ (m n : Nat), cellsU n <+: cellsU (n + m)
  | 0, n => List.prefix_refl _
  | m + 1, n => (cellsU_pre m n).trans ⟨_, rfl⟩
theorem cellsU_up (m : Nat) (h : m ≤ 24) : cellsU m <+: cellsU 24 := by
  have := cellsU_pre (24 - m) m
  rwa [show m + (24 - m) = 24 by omega] at this
theorem cellsU_half (m : Nat) (h : m < 24) : cellsU m ++ [⟨(m : Int) + 1, atN m, widN m⟩] <+: cellsU 24 :=
  List.IsPrefix.trans ⟨[⟨-((m : Int) + 1), atN m + widN m, widN m⟩], by simp [cellsU]⟩ (cellsU_up (m + 1) h)
def CL.enc (c : CL) : Value := .agg #[.int .i64 c.v, .int .i64 c.s, .int .i64 c.w]
theorem grown_of {w w' : World} (h : Below w.heap.size w w') : w.grownBy w' none := ⟨h.os, h.tape, h.output, h.size, fun k hk _ => h.block k hk⟩
theorem zero_calls (w : World) : Calls Tryz.prog 170 #[] w fun e w' => e = .returned (.int .i64 12568) ∧ Below w.heap.size w w' := by
  obtain ⟨x, h1, h2, h3⟩ := zero_ct [] (fun x => x = vi 12568) rfl trivial
  refine (h3 (fun _ => (0, 0)) w).mono ?_
  rintro e w' ⟨v, rfl, h4, h5⟩
  subst h1
  exact ⟨by rw [show v = _ from h4]; rfl, h5⟩
theorem width_calls {k : Int} (h1 : 1 ≤ k) (h2 : k ≤ 24) (w : World) : Calls Tryz.prog 171 #[.int .i64 k] w fun e w' => e = .returned (.int .i64 (widS k)) ∧ Below w.heap.size w w' := by
  obtain ⟨x, g1, g2, g3⟩ := width_ct [i64 k] (fun x => x = vi (widS k)) ⟨⟨h1, h2⟩, rfl⟩ ⟨by simp only [W.rng, C.rng, InK, lowK, highK]; omega, trivial⟩
  refine (g3 (fun _ => (0, 0)) w).mono ?_
  rintro e w' ⟨v, rfl, h4, h5⟩
  subst g1
  exact ⟨by rw [show v = _ from h4]; rfl, h5⟩
theorem cells_stops (n : Nat) (hn : 1 ≤ n) (w : World) :
    SeqStopsK Fence.wide n Tryz.prog 169 #[] (fun c : CL => #[c.enc]) (fun _ _ => True) (fun xs => xs = cellsU 24) (fun pre => pre <+: cellsU 24) 49 w := fun l J Jx W hW hJ hJx hY h0 => by
  refine callsIn_of_wp Tryz.func169 rfl trivial ?_ rfl
  simp only [Tryz.ntmps169, List.size_toArray, List.length_cons, List.length_nil, Nat.reduceAdd, Nat.reduceSub, Array.replicate_succ, Array.replicate_zero, List.push_toArray, List.append_toArray, List.nil_append, List.cons_append]
  gi_wp2_with (refine ⟨trivial, ?_⟩; gi_at_call 170; refine (callsIn_wide.2 (zero_calls _)).mono ?_; rintro e w1 ⟨rfl, hb⟩; have hJ1 : J [] w1 := hJ _ _ _ none h0 (grown_of hb) (fun r e => by cases e); obtain ⟨f1, t1, a1, b1, hy1, hR1⟩ := hY [] ⟨0, 0, 12568⟩ w1 hJ1 (by simp); dsimp only [CL.enc] at hy1; have hs1 : W.heap.size ≤ w1.heap.size := hb.size)
  refine hR1.mono ?_
  rintro e w2 (⟨rfl, hJ2, _⟩ | ⟨rfl, hJx2⟩)
  case inr =>
    gi_wp2
    refine bodyPost_ret (results_none rfl _ _ _) rfl ?_
    exact ⟨⟨_, rfl⟩, .inr ⟨[⟨0, 0, 12568⟩], cellsU_pre 24 0, hJx2⟩⟩
  gi_wp2
  gi_loopw [2, 3] (fun at' k wr => ∃ m : Nat, m ≤ 24 ∧ at' = .int .i64 (atN m) ∧ k = .int .i64 ((m : Int) + 1) ∧ J (cellsU m) wr) (fun _ k _ => 25 - (intOf k).toNat)
  case atStart =>
    exact ⟨0, by omega, rfl, rfl, hJ2⟩
  case round =>
    obtain ⟨m, hm, rfl, rfl, hJs⟩ := hrel
    have hmm : (m : Int) ≤ 24 := by omega
    rcases Nat.lt_or_ge m 24 with g | g
    · have hg : ((m : Int) + 1) ≤ 24 := by omega
      have hlen := cellsU_len m
      have hat : 12568 ≤ atN m ∧ atN m ≤ 32768 := atN_in ⟨m, by omega⟩
      have hwd := widS_in (k := (m : Int) + 1) (by omega) (by omega)
      gi_wp2_with (refine ⟨trivial, ?_⟩; gi_at_call 171; refine (callsIn_wide.2 (width_calls (by omega) (by omega) _)).mono ?_; rintro e w3 ⟨rfl, hb3⟩; have hJ3 : J (cellsU m) w3 := hJ _ _ _ none hJs (grown_of hb3) (fun r e => by cases e); obtain ⟨f3, t3, a3, b3, hy3, hR3⟩ := hY (cellsU m) ⟨(m : Int) + 1, atN m, widS ((m : Int) + 1)⟩ w3 hJ3 (by omega); dsimp only [CL.enc] at hy3)
      refine hR3.mono ?_
      rintro e w4 (⟨rfl, hJ4, _⟩ | ⟨rfl, hJx4⟩)
      case inr =>
        gi_wp2
        refine And.intro (by simp) ?_
        gi_wp2
        refine bodyPost_ret (results_none rfl _ _ _) rfl ?_
        exact ⟨⟨_, rfl⟩, .inr ⟨_, cellsU_half m g, hJx4⟩⟩
      obtain ⟨f5, t5, a5, b5, hy5, hR5⟩ := hY _ ⟨-((m : Int) + 1), atN m + widS ((m : Int) + 1), widS ((m : Int) + 1)⟩ w4 hJ4 (by rw [List.length_append]; simp; omega)
      dsimp only [CL.enc] at hy5
      gi_wp2
      refine hR5.mono ?_
      have hl2 : cellsU m ++ [⟨(m : Int) + 1, atN m, widS ((m : Int) + 1)⟩] ++ [⟨-((m : Int) + 1), atN m + widS ((m : Int) + 1), widS ((m : Int) + 1)⟩] = cellsU (m + 1) := by
        rw [cellsU, List.append_assoc]; rfl
      rintro e w6 (⟨rfl, hJ6, _⟩ | ⟨rfl, hJx6⟩)
      case inr =>
        gi_wp2
        refine bodyPost_ret (results_none rfl _ _ _) rfl ?_
        rw [hl2] at hJx6
        exact ⟨⟨_, rfl⟩, .inr ⟨_, cellsU_up (m + 1) g, hJx6⟩⟩
      rw [hl2] at hJ6
      gi_wp2
      go_roundw
      case rel => exact ⟨m + 1, by omega, by rw [atN]; rfl, by simp, hJ6⟩
      case measure => simp [intOf]; omega
    · obtain rfl : m = 24 := by omega
      gi_wp2
      go_end0
      exact ⟨⟨_, rfl⟩, .inl ⟨_, rfl, hJs⟩⟩
end P
namespace P
open Go.RowKit Go.Shelf
set_option maxRecDepth 100000
set_option maxHeartbeats 16000000
attribute [local go_sem] Oper.semAt_some
theorem cells_calls (n : Nat) (w : World) : CallsIn Fence.wide n Tryz.prog 149 #[] w fun e w' => e = .returned (.func (.func 169) #[] #[]) ∧ w' = w := by
  refine callsIn_of_wp Tryz.func149 rfl trivial ?_ rfl
  simp only [Tryz.ntmps149, List.size_toArray, List.length_nil, Nat.reduceAdd, Nat.reduceSub, Array.replicate_succ, Array.replicate_zero, List.push_toArray, List.append_toArray, List.nil_append, List.cons_append]
  gi_wp2
  go_ret
  exact ⟨rfl, rfl⟩
def Box3 (W : World) (B : Nat) (c : CL) : Prop := W.cell? ⟨B, 0, none⟩ = some (.int .i64 c.v) ∧ W.cell? ⟨B, 1, none⟩ = some (.int .i64 c.s) ∧ W.cell? ⟨B, 2, none⟩ = some (.int .i64 c.w)
theorem box3_new (W : World) (c : CL) : Box3 (W.alloc (.cells #[.int .i64 c.v, .int .i64 c.s, .int .i64 c.w] 231)) W.heap.size c := by
  have h := World.alloc_heap_new W (.cells #[.int .i64 c.v, .int .i64 c.s, .int .i64 c.w] 231)
  refine ⟨?_, ?_, ?_⟩ <;> simp only [World.cell?, h] <;> rfl
theorem cell_calls (v : Int) (w : World) : Calls Tryz.prog 116 #[.int .i64 v] w fun e w' => Below w.heap.size w w' ∧
    ((∃ c, c ∈ cellsU 24 ∧ c.v = v ∧ e = .returned (.tuple #[.int .i64 c.s, .int .i64 c.w, .bool true])) ∨ ((∀ c ∈ cellsU 24, c.v ≠ v) ∧ e = .returned (.tuple #[.int .i64 0, .int .i64 0, .bool false]))) := by
  refine (callsIn_wide (n := 3)).1 ?_
  refine callsIn_of_wp_marks Tryz.func116 rfl trivial ?_ rfl
  simp only [Tryz.ntmps116, List.size_toArray, List.length_nil, List.length_cons, Nat.reduceAdd, Nat.reduceSub, Array.replicate_succ, Array.replicate_zero, List.push_toArray, List.append_toArray, List.nil_append, List.cons_append]
  gi_wp2_with (refine ⟨trivial, ?_⟩; gi_at_call 149; refine (cells_calls _ _).mono ?_; rintro e w' ⟨rfl, rfl⟩)
  have bV := (((Boxed.new w 3 (.int .i64 v)).alloc (.cells #[.int .i64 0] 3)).alloc (.cells #[.int .i64 0] 3)).alloc (.cells #[.bool false] 4)
  have bS := ((Boxed.new (w.alloc (.cells #[.int .i64 v] 3)) 3 (.int .i64 0)).alloc (.cells #[.int .i64 0] 3)).alloc (.cells #[.bool false] 4)
  have bW := (Boxed.new ((w.alloc (.cells #[.int .i64 v] 3)).alloc (.cells #[.int .i64 0] 3)) 3 (.int .i64 0)).alloc (.cells #[.bool false] 4)
  have bO := Boxed.new (((w.alloc (.cells #[.int .i64 v] 3)).alloc (.cells #[.int .i64 0] 3)).alloc (.cells #[.int .i64 0] 3)) 4 (.bool false)
  simp only [World.size_alloc] at bS bW bO
  have hB0 : Below w.heap.size w ((((w.alloc (.cells #[.int .i64 v] 3)).alloc (.cells #[.int .i64 0] 3)).alloc (.cells #[.int .i64 0] 3)).alloc (.cells #[.bool false] 4)) := ((((Below.refl _ w).alloc (Nat.le_refl _) _).alloc (by simp) _).alloc (by simp; omega) _).alloc (by simp; omega) _
  have hsz : ((((w.alloc (.cells #[.int .i64 v] 3)).alloc (.cells #[.int .i64 0] 3)).alloc (.cells #[.int .i64 0] 3)).alloc (.cells #[.bool false] 4)).heap.size = w.heap.size + 4 := by simp
  obtain ⟨W0, hW0⟩ : ∃ W0, (((w.alloc (.cells #[.int .i64 v] 3)).alloc (.cells #[.int .i64 0] 3)).alloc (.cells #[.int .i64 0] 3)).alloc (.cells #[.bool false] 4) = W0 := ⟨_, rfl⟩
  rw [hW0] at bV bS bW bO hB0 hsz ⊢
  clear hW0
  refine wpIn_rangeFunc_ownH rfl (by omega) (gf := 169) (lb := #[]) rfl trivial (enters_of Tryz.func169 (by kernel_rfl) rfl)
    (cells_stops (3 - 1) (by omega) W0) (fun _ _ => trivial) (fun _ _ _ _ _ _ _ _ => trivial) (Below.refl _ _) (fun _ => rfl)
    (fun pre W => ((((Boxed W w.heap.size 3 (.int .i64 v) ∧ Boxed W (w.heap.size + 1) 3 (.int .i64 0)) ∧ Boxed W (w.heap.size + 1 + 1) 3 (.int .i64 0)) ∧ Boxed W (w.heap.size + 1 + 1 + 1) 4 (.bool false)) ∧ (∀ c ∈ pre, c.v ≠ v)) ∧ Below w.heap.size w W)
    (fun q pre W => (q = .ret ∧ ∃ c, c ∈ pre ∧ c.v = v ∧ (Boxed W (w.heap.size + 1) 3 (.int .i64 c.s) ∧ Boxed W (w.heap.size + 1 + 1) 3 (.int .i64 c.w)) ∧ Boxed W (w.heap.size + 1 + 1 + 1) 4 (.bool true)) ∧ Below w.heap.size w W)
    (OwnFrom.and (OwnFrom.and (OwnFrom.and (OwnFrom.and (OwnFrom.and (Own.from (boxed_own _ _ _) _) (Own.from (boxed_own _ _ _) _)) (Own.from (boxed_own _ _ _) _)) (Own.from (boxed_own _ _ _) _)) (ownFrom_pure _ _)) (ownFrom_below (Nat.le_refl _) (by omega)))
    (fun q => OwnFrom.and (fun s X Y row hs hg hr => by
      obtain ⟨h0, c, h1, h2, ⟨h3, h4⟩, h5⟩ := hs
      exact ⟨h0, c, h1, h2, ⟨boxed_own _ 3 (fun (_ : Unit) => Value.int .i64 c.s) () X Y row h3 hg (fun r e => (hr r e).2), boxed_own _ 3 (fun (_ : Unit) => Value.int .i64 c.w) () X Y row h4 hg (fun r e => (hr r e).2)⟩, boxed_own _ 4 (fun (_ : Unit) => Value.bool true) () X Y row h5 hg (fun r e => (hr r e).2)⟩) (ownFrom_below (Nat.le_refl _) (by omega)))
    ⟨⟨⟨⟨⟨bV, bS⟩, bW⟩, bO⟩, fun c hc => by cases hc⟩, hB0⟩
    (fun x a' W => ∃ Bx, w.heap.size + 4 ≤ Bx ∧ Box3 W Bx x ∧ a' = { tmps := #[.int .i64 v, .pointer (some ⟨w.heap.size, 0, none⟩), .pointer (some ⟨w.heap.size + 1, 0, none⟩), .pointer (some ⟨w.heap.size + 1 + 1, 0, none⟩), .pointer (some ⟨w.heap.size + 1 + 1 + 1, 0, none⟩), .pointer (some ⟨Bx, 0, none⟩), .func (.func 169) #[] #[], x.enc, undef, undef, undef, undef, undef, undef, undef, undef], defers := [] })
    (fun x a' _ X Y row hs hg hr => by
      obtain ⟨Bx, h1, ⟨h2, h3, h4⟩, h5⟩ := hs
      exact ⟨Bx, h1, ⟨cell_kept h2 hg (fun r e => (hr r e).2), cell_kept h3 hg (fun r e => (hr r e).2), cell_kept h4 hg (fun r e => (hr r e).2)⟩, h5⟩)
    ?assign ?body ?done ?stop
  case assign =>
    rintro l pre x W K ⟨⟨⟨⟨⟨bV1, bS1⟩, bW1⟩, bO1⟩, hp⟩, hB1⟩ hK
    dsimp only [CL.enc]
    gi_wp2
    exact hK _ _ ((KeepsOthers.alloc _ _).from _) trivial ⟨⟨⟨⟨⟨bV1.alloc _, bS1.alloc _⟩, bW1.alloc _⟩, bO1.alloc _⟩, hp⟩, hB1.alloc hB1.size _⟩ ⟨W.heap.size, bO1.lt, box3_new W x, rfl⟩
  case body =>
    rintro l pre x a' W hl hr ⟨⟨⟨⟨⟨bV1, bS1⟩, bW1⟩, bO1⟩, hp⟩, hB1⟩ ⟨Bx, hBx, ⟨x1, x2, x3⟩, rfl⟩ hlt
    have cV := bV1.cell
    have cS := bS1.cell
    have cW := bW1.cell
    have cO := bO1.cell
    have fS := bS1.frozen
    have fW := bW1.frozen
    have fO := bO1.frozen
    gi_wp2
    · have hmx := mixed
      gi_region_o
      all_goals gi_wp2
      all_goals
        have hxv : x.v = v := eq_of_beq (by assumption)
        refine ⟨(((KeepsOthers.setCell _ _ _).trans (KeepsOthers.setCell _ _ _)).trans (KeepsOthers.setCell _ _ _)).trans (KeepsOthers.drew _) |>.from _, ⟨rfl, x, by simp, hxv, ⟨?_, ?_⟩, ?_⟩, ?_⟩
        · exact ((bS1.set _).other (by omega) _).other (by omega) _
        · exact ((bW1.other (by omega) _).set _).other (by omega) _
        · exact ((bO1.other (by omega) _).other (by omega) _).set _
        · exact (((hB1.setCell (p := ⟨w.heap.size + 1, 0, none⟩) (by simp) _).setCell (p := ⟨w.heap.size + 1 + 1, 0, none⟩) (by simp; omega) _).setCell (p := ⟨w.heap.size + 1 + 1 + 1, 0, none⟩) (by simp; omega) _).drew
    · have hxv : x.v ≠ v := by rename_i hneg; intro e; rw [e] at hneg; simp at hneg
      exact ⟨KeepsFrom.refl _ _, trivial, ⟨⟨⟨⟨bV1, bS1⟩, bW1⟩, bO1⟩, fun c hc => by
        rcases List.mem_append.1 hc with h | h
        · exact hp c h
        · rw [List.mem_singleton.1 h]; exact hxv⟩, hB1⟩
  case done =>
    rintro D xs W hD rfl ⟨⟨⟨⟨⟨bV1, bS1⟩, bW1⟩, bO1⟩, hp⟩, hB1⟩ hK
    have cS := bS1.cell
    have cW := bW1.cell
    have cO := bO1.cell
    have fS := bS1.frozen
    have fW := bW1.frozen
    have fO := bO1.frozen
    gi_wp2
    refine ⟨by simp, .inl ⟨_, _, rfl, run_takeDeferred (((KeepsOthers.setCell _ _ _).trans (KeepsOthers.setCell _ _ _)).trans (KeepsOthers.setCell _ _ _) |>.same D _ hK rfl), ?_⟩⟩
    have k1 := ((((bS1.set (.int .i64 0)).other (B' := w.heap.size + 1 + 1) (by omega) (.int .i64 0)).other (B' := w.heap.size + 1 + 1 + 1) (by omega) (.bool false)).kept (grownBy_putObj' _ D (.deferred none)) (fun e => by injection e; omega)).cell
    have k2 := ((((bW1.other (B' := w.heap.size + 1) (by omega) (.int .i64 0)).set (.int .i64 0)).other (B' := w.heap.size + 1 + 1 + 1) (by omega) (.bool false)).kept (grownBy_putObj' _ D (.deferred none)) (fun e => by injection e; omega)).cell
    have k3 := ((((bO1.other (B' := w.heap.size + 1) (by omega) (.int .i64 0)).other (B' := w.heap.size + 1 + 1) (by omega) (.int .i64 0)).set (.bool false)).kept (grownBy_putObj' _ D (.deferred none)) (fun e => by injection e; omega)).cell
    have hB2 := (((hB1.setCell (p := ⟨w.heap.size + 1, 0, none⟩) (by simp) (.int .i64 0)).setCell (p := ⟨w.heap.size + 1 + 1, 0, none⟩) (by simp; omega) (.int .i64 0)).setCell (p := ⟨w.heap.size + 1 + 1 + 1, 0, none⟩) (by simp; omega) (.bool false))
    have hK2 := ((KeepsOthers.setCell W ⟨w.heap.size + 1, 0, none⟩ (.int .i64 0)).trans (KeepsOthers.setCell _ ⟨w.heap.size + 1 + 1, 0, none⟩ (.int .i64 0))).trans (KeepsOthers.setCell _ ⟨w.heap.size + 1 + 1 + 1, 0, none⟩ (.bool false)) |>.same D _ hK rfl
    exact ⟨.tuple #[.int .i64 0, .int .i64 0, .bool false], by simp [results, Tryz.f116, go_sem, k1, k2, k3], hB2.trans (belowK_b (w := w) (Nat.le_refl _) _ D _ _ (by omega) hK2 rfl rfl), .inr ⟨hp, rfl⟩⟩
  case stop =>
    rintro D q pre W hD hpre ⟨⟨rfl, c, h1, h2, ⟨bS1, bW1⟩, bO1⟩, hB1⟩ hK
    have cS := bS1.cell
    have cW := bW1.cell
    have cO := bO1.cell
    gi_wp2
    refine ⟨by simp, .inl ⟨_, _, rfl, run_takeDeferred hK, ?_⟩⟩
    have k1 := (bS1.kept (grownBy_putObj' _ D (.deferred none)) (fun e => by injection e; omega)).cell
    have k2 := (bW1.kept (grownBy_putObj' _ D (.deferred none)) (fun e => by injection e; omega)).cell
    have k3 := (bO1.kept (grownBy_putObj' _ D (.deferred none)) (fun e => by injection e; omega)).cell
    exact ⟨.tuple #[.int .i64 c.s, .int .i64 c.w, .bool true], by simp [results, Tryz.f116, go_sem, k1, k2, k3], hB1.trans (belowK_b (w := w) (Nat.le_refl _) _ D _ _ (by omega) hK rfl rfl), .inl ⟨c, hpre.subset h1, h2, rfl⟩⟩
theorem find_calls (v : Int) (w : World) : Calls Tryz.prog 115 #[.int .i64 v] w fun e w' => Below w.heap.size w w' ∧
    ((∃ c, c ∈ cellsU 24 ∧ (c.s ≤ v ∧ v < wrap64 (c.s + c.w)) ∧ e = .returned (.tuple #[.int .i64 c.v, .bool true])) ∨ ((∀ c ∈ cellsU 24, ¬ (c.s ≤ v ∧ v < wrap64 (c.s + c.w))) ∧ e = .returned (.tuple #[.int .i64 0, .bool false]))) := by
  refine (callsIn_wide (n := 3)).1 ?_
  refine callsIn_of_wp_marks Tryz.func115 rfl trivial ?_ rfl
  simp only [Tryz.ntmps115, List.size_toArray, List.length_nil, List.length_cons, Nat.reduceAdd, Nat.reduceSub, Array.replicate_succ, Array.replicate_zero, List.push_toArray, List.append_toArray, List.nil_append, List.cons_append]
  gi_wp2_with (refine ⟨trivial, ?_⟩; gi_at_call 149; refine (cells_calls _ _).mono ?_; rintro e w' ⟨rfl, rfl⟩)
  have bV := ((Boxed.new w 3 (.int .i64 v)).alloc (.cells #[.int .i64 0] 3)).alloc (.cells #[.bool false] 4)
  have bS := (Boxed.new (w.alloc (.cells #[.int .i64 v] 3)) 3 (.int .i64 0)).alloc (.cells #[.bool false] 4)
  have bO := Boxed.new ((w.alloc (.cells #[.int .i64 v] 3)).alloc (.cells #[.int .i64 0] 3)) 4 (.bool false)
  simp only [World.size_alloc] at bS bO
  have hB0 : Below w.heap.size w (((w.alloc (.cells #[.int .i64 v] 3)).alloc (.cells #[.int .i64 0] 3)).alloc (.cells #[.bool false] 4)) := (((Below.refl _ w).alloc (Nat.le_refl _) _).alloc (by simp) _).alloc (by simp; omega) _
  have hsz : (((w.alloc (.cells #[.int .i64 v] 3)).alloc (.cells #[.int .i64 0] 3)).alloc (.cells #[.bool false] 4)).heap.size = w.heap.size + 3 := by simp
  obtain ⟨W0, hW0⟩ : ∃ W0, ((w.alloc (.cells #[.int .i64 v] 3)).alloc (.cells #[.int .i64 0] 3)).alloc (.cells #[.bool false] 4) = W0 := ⟨_, rfl⟩
  rw [hW0] at bV bS bO hB0 hsz ⊢
  clear hW0
  refine wpIn_rangeFunc_ownH rfl (by omega) (gf := 169) (lb := #[]) rfl trivial (enters_of Tryz.func169 (by kernel_rfl) rfl)
    (cells_stops (3 - 1) (by omega) W0) (fun _ _ => trivial) (fun _ _ _ _ _ _ _ _ => trivial) (Below.refl _ _) (fun _ => rfl)
    (fun pre W => (((Boxed W w.heap.size 3 (.int .i64 v) ∧ Boxed W (w.heap.size + 1) 3 (.int .i64 0)) ∧ Boxed W (w.heap.size + 1 + 1) 4 (.bool false)) ∧ (∀ c ∈ pre, ¬ (c.s ≤ v ∧ v < wrap64 (c.s + c.w)))) ∧ Below w.heap.size w W)
    (fun q pre W => (q = .ret ∧ ∃ c, c ∈ pre ∧ (c.s ≤ v ∧ v < wrap64 (c.s + c.w)) ∧ Boxed W (w.heap.size + 1) 3 (.int .i64 c.v) ∧ Boxed W (w.heap.size + 1 + 1) 4 (.bool true)) ∧ Below w.heap.size w W)
    (OwnFrom.and (OwnFrom.and (OwnFrom.and (OwnFrom.and (Own.from (boxed_own _ _ _) _) (Own.from (boxed_own _ _ _) _)) (Own.from (boxed_own _ _ _) _)) (ownFrom_pure _ _)) (ownFrom_below (Nat.le_refl _) (by omega)))
    (fun q => OwnFrom.and (fun s X Y row hs hg hr => by
      obtain ⟨h0, c, h1, h2, h3, h5⟩ := hs
      exact ⟨h0, c, h1, h2, boxed_own _ 3 (fun (_ : Unit) => Value.int .i64 c.v) () X Y row h3 hg (fun r e => (hr r e).2), boxed_own _ 4 (fun (_ : Unit) => Value.bool true) () X Y row h5 hg (fun r e => (hr r e).2)⟩) (ownFrom_below (Nat.le_refl _) (by omega)))
    ⟨⟨⟨⟨bV, bS⟩, bO⟩, fun c hc => by cases hc⟩, hB0⟩
    (fun x a' W => ∃ Bx, w.heap.size + 3 ≤ Bx ∧ Box3 W Bx x ∧ a' = { tmps := #[.int .i64 v, .pointer (some ⟨w.heap.size, 0, none⟩), .pointer (some ⟨w.heap.size + 1, 0, none⟩), .pointer (some ⟨w.heap.size + 1 + 1, 0, none⟩), .pointer (some ⟨Bx, 0, none⟩), .func (.func 169) #[] #[], x.enc, undef, undef, undef, undef, undef, undef, undef, undef, undef, undef, undef, undef, undef, undef, undef], defers := [] })
    (fun x a' _ X Y row hs hg hr => by
      obtain ⟨Bx, h1, ⟨h2, h3, h4⟩, h5⟩ := hs
      exact ⟨Bx, h1, ⟨cell_kept h2 hg (fun r e => (hr r e).2), cell_kept h3 hg (fun r e => (hr r e).2), cell_kept h4 hg (fun r e => (hr r e).2)⟩, h5⟩)
    ?assign ?body ?done ?stop
  case assign =>
    rintro l pre x W K ⟨⟨⟨⟨bV1, bS1⟩, bO1⟩, hp⟩, hB1⟩ hK
    dsimp only [CL.enc]
    gi_wp2
    exact hK _ _ ((KeepsOthers.alloc _ _).from _) trivial ⟨⟨⟨⟨bV1.alloc _, bS1.alloc _⟩, bO1.alloc _⟩, hp⟩, hB1.alloc hB1.size _⟩ ⟨W.heap.size, bO1.lt, box3_new W x, rfl⟩
  case body =>
    rintro l pre x a' W hl hr ⟨⟨⟨⟨bV1, bS1⟩, bO1⟩, hp⟩, hB1⟩ ⟨Bx, hBx, ⟨x1, x2, x3⟩, rfl⟩ hlt
    have cV := bV1.cell
    have cS := bS1.cell
    have cO := bO1.cell
    have fS := bS1.frozen
    have fO := bO1.frozen
    gi_wp2
    · have h1 : x.s ≤ v := by assumption
      have h2 : v < wrap64 (x.s + x.w) := by assumption
      refine ⟨((KeepsOthers.setCell _ _ _).trans (KeepsOthers.setCell _ _ _)).from _, ⟨rfl, x, by simp, ⟨h1, h2⟩, ?_, ?_⟩, ?_⟩
      · exact (bS1.set _).other (by omega) _
      · exact (bO1.other (by omega) _).set _
      · exact (hB1.setCell (p := ⟨w.heap.size + 1, 0, none⟩) (by simp) _).setCell (p := ⟨w.heap.size + 1 + 1, 0, none⟩) (by simp; omega) _
    all_goals
      exact ⟨KeepsFrom.refl _ _, trivial, ⟨⟨⟨bV1, bS1⟩, bO1⟩, fun c hc => by
        rcases List.mem_append.1 hc with h | h
        · have := hp c h
          intro a
          omega
        · rw [List.mem_singleton.1 h]
          intro hh
          omega⟩, hB1⟩
  case done =>
    rintro D xs W hD rfl ⟨⟨⟨⟨bV1, bS1⟩, bO1⟩, hp⟩, hB1⟩ hK
    have cS := bS1.cell
    have cO := bO1.cell
    have fS := bS1.frozen
    have fO := bO1.frozen
    gi_wp2
    have hK2 := (KeepsOthers.setCell W ⟨w.heap.size + 1, 0, none⟩ (.int .i64 0)).trans (KeepsOthers.setCell _ ⟨w.heap.size + 1 + 1, 0, none⟩ (.bool false)) |>.same D _ hK rfl
    refine ⟨by simp, .inl ⟨_, _, rfl, run_takeDeferred hK2, ?_⟩⟩
    have k1 := (((bS1.set (.int .i64 0)).other (B' := w.heap.size + 1 + 1) (by omega) (.bool false)).kept (grownBy_putObj' _ D (.deferred none)) (fun e => by injection e; omega)).cell
    have k3 := (((bO1.other (B' := w.heap.size + 1) (by omega) (.int .i64 0)).set (.bool false)).kept (grownBy_putObj' _ D (.deferred none)) (fun e => by injection e; omega)).cell
    have hB2 := ((hB1.setCell (p := ⟨w.heap.size + 1, 0, none⟩) (by simp) (.int .i64 0)).setCell (p := ⟨w.heap.size + 1 + 1, 0, none⟩) (by simp; omega) (.bool false))
    exact ⟨.tuple #[.int .i64 0, .bool false], by simp [results, Tryz.f115, go_sem, k1, k3], hB2.trans (belowK_b (w := w) (Nat.le_refl _) _ D _ _ (by omega) hK2 rfl rfl), .inr ⟨hp, rfl⟩⟩
  case stop =>
    rintro D q pre W hD hpre ⟨⟨rfl, c, h1, h2, bS1, bO1⟩, hB1⟩ hK
    have cS := bS1.cell
    have cO := bO1.cell
    gi_wp2
    refine ⟨by simp, .inl ⟨_, _, rfl, run_takeDeferred hK, ?_⟩⟩
    have k1 := (bS1.kept (grownBy_putObj' _ D (.deferred none)) (fun e => by injection e; omega)).cell
    have k3 := (bO1.kept (grownBy_putObj' _ D (.deferred none)) (fun e => by injection e; omega)).cell
    exact ⟨.tuple #[.int .i64 c.v, .bool true], by simp [results, Tryz.f115, go_sem, k1, k3], hB1.trans (belowK_b (w := w) (Nat.le_refl _) _ D _ _ (by omega) hK rfl rfl), .inl ⟨c, hpre.subset h1, h2, rfl⟩⟩
theorem cells_facts : ∀ c ∈ cellsU 24, (-24 ≤ c.v ∧ c.v ≤ 24) ∧ (0 ≤ c.s ∧ 1 ≤ c.w ∧ c.s + c.w ≤ 32768) := by decide
theorem cells_apart : ∀ c ∈ cellsU 24, ∀ d ∈ cellsU 24, c.v = d.v → c = d := by decide
theorem cells_one : ∀ c ∈ cellsU 24, ∀ d ∈ cellsU 24, c ≠ d → c.s + c.w ≤ d.s ∨ d.s + d.w ≤ c.s := by decide
theorem cells_each : ∀ v : Fin 49, ∃ c ∈ cellsU 24, c.v = (v.1 : Int) - 24 := by decide
end P
namespace P
open Go.RowKit Go.Shelf
set_option maxRecDepth 100000
set_option maxHeartbeats 16000000
theorem cover : ∀ (n : Nat), n ≤ 24 → ∀ p : Int, 0 ≤ p → p < atN n → ∃ c ∈ cellsU n, c.s ≤ p ∧ p < c.s + c.w
  | 0, _, p, h0, h1 => ⟨⟨0, 0, 12568⟩, by simp [cellsU], h0, by simpa [atN] using h1⟩
  | n + 1, hn, p, h0, h1 => by
    rcases Int.lt_or_le p (atN n) with g | g
    · obtain ⟨c, h2, h3⟩ := cover n (by omega) p h0 g
      exact ⟨c, List.mem_append_left _ h2, h3⟩
    · rw [atN] at h1
      rcases Int.lt_or_le p (atN n + widN n) with g2 | g2
      · exact ⟨⟨(n : Int) + 1, atN n, widN n⟩, by simp [cellsU], g, g2⟩
      · exact ⟨⟨-((n : Int) + 1), atN n + widN n, widN n⟩, by simp [cellsU], g2, by simp only; omega⟩
theorem at24 : atN 24 = 32768 := by decide
open Classical in
noncomputable def placeS (p : Int) : CL := if h : ∃ c ∈ cellsU 24, c.s ≤ p ∧ p < c.s + c.w then Classical.choose h else ⟨0, 0, 12568⟩
theorem placeS_spec {p : Int} (h0 : 0 ≤ p) (h1 : p < 32768) : placeS p ∈ cellsU 24 ∧ (placeS p).s ≤ p ∧ p < (placeS p).s + (placeS p).w := by
  have h := cover 24 (Nat.le_refl _) p h0 (by rw [at24]; exact h1)
  unfold placeS
  rw [dif_pos h]
  exact Classical.choose_spec h
theorem placeS_eq {p : Int} {c : CL} (hc : c ∈ cellsU 24) (h0 : c.s ≤ p) (h1 : p < c.s + c.w) : c = placeS p := by
  have f := cells_facts c hc
  obtain ⟨g1, g2, g3⟩ := placeS_spec (p := p) (by omega) (by omega)
  by_cases e : c = placeS p
  · exact e
  · have := cells_one c hc _ g1 e
    omega
open Classical in
noncomputable def cellV (v : Int) : CL := if h : ∃ c ∈ cellsU 24, c.v = v then Classical.choose h else ⟨0, 0, 12568⟩
theorem cellV_spec {v : Int} (h0 : -24 ≤ v) (h1 : v ≤ 24) : cellV v ∈ cellsU 24 ∧ (cellV v).v = v := by
  have h : ∃ c ∈ cellsU 24, c.v = v := by
    obtain ⟨c, h2, h3⟩ := cells_each ⟨(v + 24).toNat, by omega⟩
    exact ⟨c, h2, by rw [h3]; simp only; omega⟩
  unfold cellV
  rw [dif_pos h]
  exact Classical.choose_spec h
theorem cellV_of {c : CL} (hc : c ∈ cellsU 24) : cellV c.v = c := by
  have f := (cells_facts c hc).1
  obtain ⟨h1, h2⟩ := cellV_spec f.1 f.2
  exact cells_apart _ h1 _ hc h2
def ctFind : Ct := fun ws K => match ws with
  | [.c (.ci .i64 p)] => (0 ≤ p ∧ p < 32768) ∧ ∀ c : CL, c = placeS p → c ∈ cellsU 24 → c.s ≤ p → p < c.s + c.w → K (.tup [.c (.ci .i64 c.v), .c (.cb true)])
  | _ => False
theorem find_ct : CtOk Tryz.prog 115 ctFind := by
  intro ws K h' hr
  unfold ctFind at h'
  split at h'
  · rename_i p
    obtain ⟨⟨h0, h1⟩, hK⟩ := h'
    obtain ⟨g1, g2, g3⟩ := placeS_spec h0 h1
    have f := cells_facts _ g1
    refine ⟨_, hK _ rfl g1 g2 g3, ⟨⟨by simp only [W.rng, C.rng, InK, lowK, highK]; omega, trivial, trivial⟩, rfl⟩, fun σ w => ?_⟩
    refine (find_calls p w).mono ?_
    rintro e w' ⟨hb, ⟨c, h2, ⟨h3, h4⟩, rfl⟩ | ⟨h2, rfl⟩⟩
    · have fc := cells_facts c h2
      have e1 : wrap64 (c.s + c.w) = c.s + c.w := by unfold wrap64; omega
      rw [e1] at h4
      obtain rfl := placeS_eq h2 h3 h4
      exact ⟨_, rfl, rfl, hb⟩
    · have e1 : wrap64 ((placeS p).s + (placeS p).w) = (placeS p).s + (placeS p).w := by unfold wrap64; omega
      exact absurd ⟨g2, by rw [e1]; exact g3⟩ (h2 _ g1)
  · exact h'.elim
def ctCellV : Ct := fun ws K => match ws with
  | [.c (.ci .i64 v)] => (-24 ≤ v ∧ v ≤ 24) ∧ ∀ c : CL, c = cellV v → c ∈ cellsU 24 → c.v = v → K (.tup [.c (.ci .i64 c.s), .c (.ci .i64 c.w), .c (.cb true)])
  | _ => False
theorem cellV_ct : CtOk Tryz.prog 116 ctCellV := by
  intro ws K h' hr
  unfold ctCellV at h'
  split at h'
  · rename_i v
    obtain ⟨⟨h0, h1⟩, hK⟩ := h'
    obtain ⟨g1, g2⟩ := cellV_spec h0 h1
    have f := cells_facts _ g1
    refine ⟨_, hK _ rfl g1 g2, ⟨⟨by simp only [W.rng, C.rng, InK, lowK, highK]; omega, by simp only [W.rng, C.rng, InK, lowK, highK]; omega, trivial, trivial⟩, rfl⟩, fun σ w => ?_⟩
    refine (cell_calls v w).mono ?_
    rintro e w' ⟨hb, ⟨c, h2, h3, rfl⟩ | ⟨h2, rfl⟩⟩
    · obtain rfl : c = cellV v := cells_apart _ h2 _ g1 (h3.trans g2.symm)
      exact ⟨_, rfl, rfl, hb⟩
    · exact absurd g2 (h2 _ g1)
  · exact h'.elim
end P
end Go.Proofs.YtaficaacogcblaaGreatDoor
set_option linter.all false
namespace Go.Proofs.YtaficaacogcblaaGreatDoor
namespace R
open Go.RowKit (Below)
set_option maxRecDepth 100000
set_option maxHeartbeats 16000000
theorem or64 {x p a : Int} (ha : 0 ≤ a) (ha' : a ≤ 40) (hx : 0 ≤ x ∧ x < pw a) (hp : 0 ≤ p ∧ p ≤ 1048576) : bitsI .or .i64 x (p * pw a) = x + p * pw a := by
  obtain ⟨n, rfl⟩ : ∃ n : Nat, a = n := ⟨a.toNat, by omega⟩
  obtain ⟨y, rfl⟩ : ∃ y : Nat, x = y := ⟨x.toNat, by omega⟩
  obtain ⟨q, rfl⟩ : ∃ q : Nat, p = q := ⟨p.toNat, by omega⟩
  have e0 : pw (n : Int) = ((2 ^ n : Nat) : Int) := by rw [pw_def]; simp
  rw [e0] at hx ⊢
  have hp2 : 2 ^ n ≤ 2 ^ 40 := Nat.pow_le_pow_right (by decide) (by omega)
  have hq : q * 2 ^ n ≤ 1048576 * 2 ^ 40 := Nat.mul_le_mul (by omega) hp2
  have hy : y < 2 ^ n := by omega
  have e2 : ((q : Int) * ((2 ^ n : Nat) : Int)) = ((q * 2 ^ n : Nat) : Int) := by simp
  have o1 : (BitVec.ofInt 64 (y : Int)).toNat = y := by
    rw [BitVec.ofInt_natCast, BitVec.toNat_ofNat]; omega
  have o2 : (BitVec.ofInt 64 ((q : Int) * ((2 ^ n : Nat) : Int))).toNat = q * 2 ^ n := by
    rw [e2, BitVec.ofInt_natCast, BitVec.toNat_ofNat]; omega
  have o3 : y ||| q * 2 ^ n = y + q * 2 ^ n := by
    rw [Nat.or_comm, Nat.mul_comm, ← Nat.two_pow_add_eq_or_of_lt hy]; omega
  show IntKind.i64.wrap (((BitVec.ofInt 64 (y : Int) ||| BitVec.ofInt 64 ((q : Int) * ((2 ^ n : Nat) : Int))).toNat : Nat) : Int) = _
  rw [BitVec.toNat_or, o1, o2, o3, e2, wrap_of_in]
  · omega
  · simp only [InK, lowK, highK]; omega
theorem atS_in {d : DS} (h : DOk d) {t : Int} (h1 : 1 ≤ t) (h2 : t ≤ 32768) : 0 ≤ atS d t ∧ atS d t < t := by
  have hs := stepS_in h h1 h2
  have := Int.ediv_nonneg h.c0 (show 0 ≤ stepS d t by omega)
  unfold atS
  omega
theorem set_same {α : Type} {H : List α} {j : Nat} {b : α} (h : H[j]? = some b) : H.set j b = H := by
  have h1 := (List.getElem?_eq_some_iff.1 h)
  obtain ⟨h2, rfl⟩ := h1
  exact List.set_getElem_self h2
noncomputable def bitsF : Nat → Int → Int → Int → DS → Int × DS
  | 0, _, _, x, d => (x, d)
  | k + 1, n, a, x, d => if a < n then bitsF k n (a + 8) (x + atS d (pw (min (n - a) 8)) * pw a) (tkS d (atS d (pw (min (n - a) 8))) 1 (pw (min (n - a) 8))) else (x, d)
@[irreducible] noncomputable def btS (n : Int) (d : DS) : Int × DS := sealed (fun n d => bitsF 3 n 0 0 d) n d
theorem btS_def (n : Int) (d : DS) : btS n d = bitsF 3 n 0 0 d := by unfold btS; rw [sealed_eq]
structure BS where
  k : Nat
  x : Int
  d : DS
noncomputable def FB : Fns := (F0.over 114 hAt).over 117 hTake
theorem FB_ok : FnsOk Tryz.prog FB := (F0_ok.over at_ct Tryz.func114 (by kernel_rfl) (by kernel_rfl)).over take_ct Tryz.func117 (by kernel_rfl) (by kernel_rfl)
theorem pwm {n a : Int} (h : 1 ≤ min (n - a) 8) : 2 ≤ pw (min (n - a) 8) ∧ pw (min (n - a) 8) ≤ 256 := by
  have h1 := pw_mono (a := 1) (b := min (n - a) 8) h
  have h2 := pw_mono (a := min (n - a) 8) (b := 8) (by omega)
  have e1 : pw 1 = 2 := by rw [pw_def]; decide
  have e2 : pw 8 = 256 := by rw [pw_def]; decide
  omega
theorem bits_walk {H : List Blk} (hH : HOk H) {j : Nat} {d : DS} (hj : H[j]? = some (dcB d)) (hd : DIn d 90000000) {n : Int} (h0 : 0 ≤ n) (h24 : n ≤ 24) :
    walk FB 0 Tryz.f71 [.c (.cp j 0), i64 n] H fun x H' => x = .tup [.c (.ci .i64 (btS n d).1), .c (.ci .i64 0)] ∧ H' = H.set j (dcB (btS n d).2) := by
  have hjl := (List.getElem?_eq_some_iff.1 hj).1
  have hset : ∀ b : Blk, (H.set j b)[j]? = some b := fun b => List.getElem?_set_self hjl
  have hbH : ∀ d' : DS, bndH (H.set j (dcB d')).length (H.set j (dcB d')) = true := fun d' => bndH_of fun b hb => by
    rw [List.length_set]
    rcases List.mem_or_eq_of_mem_set hb with h | h
    · exact hH.bnd b h
    · rw [h]; rfl
  have hlo : ∀ d' : DS, H.length ≤ (H.set j (dcB d')).length := fun d' => by rw [List.length_set]; exact Nat.le_refl _
  have d1 : ∀ d' : DS, decide (j < (H.set j (dcB d')).length) = true := fun d' => by simp [hjl]
  repeat' ((conv => whnf); first | (refine lenH_is ?_) | (refine ask_true (by omega) ?_) | (refine ask_false (by omega) ?_) | fail)
  conv => whnf
  refine loop_at (List.range' 6 41) (fun m (s : BS) => s.k ≤ 3 ∧ m = 3 - s.k ∧ (0 ≤ s.x ∧ s.x < pw (8 * s.k)) ∧ DIn s.d (90000000 + 3 * s.k) ∧ bitsF (3 - s.k) n (8 * s.k) s.x s.d = btS n d) (fun s => [(6, vi s.x), (7, vi (8 * s.k))]) (fun s => H.set j (dcB s.d)) 3 ⟨0, 0, d⟩ ⟨Nat.zero_le _, rfl, ⟨Int.le_refl _, by have := pw_pos (8 * ((0 : Nat) : Int)); dsimp only; omega⟩, hd.mono (by dsimp only; omega), (btS_def _ _).symm⟩ ?_ ?_
  · refine ⟨rfl, ⟨⟨Nat.le_of_ble_eq_true rfl, rfl⟩, ⟨Nat.le_of_ble_eq_true rfl, rfl⟩, trivial⟩, ?_, ?_, hbH _, hlo _⟩
    · rw [set_same hj]; exact wkH_refl _
    · repeat' (first | rfl | exact d1 _ | refine and_t ?_ ?_)
  · rintro m s ⟨e1, rfl, e2, e3, e4⟩
    rcases Int.lt_or_le (8 * (s.k : Int)) n with g | g
    · have hm : 1 ≤ min (n - 8 * (s.k : Int)) 8 := by omega
      have hm8 : min (n - 8 * (s.k : Int)) 8 ≤ 8 := by omega
      have hp := pwm hm
      have hp1 : 1 * pw (min (n - 8 * (s.k : Int)) 8) = pw (min (n - 8 * (s.k : Int)) 8) := Int.one_mul _
      have ha := atS_in e3.ok (t := pw (min (n - 8 * (s.k : Int)) 8)) (by omega) (by omega)
      repeat' ((conv => whnf); first | (refine lenH_is ?_) | (refine ask_true (by omega) ?_) | (refine ask_false (by omega) ?_) | (refine ask_wrap64 (by omega) (by omega) ?_) | (refine And.intro (by omega) (shl64 (by omega) (by omega) (by omega) (by omega) ?_)) | (refine Exists.intro s.d (And.intro (hset _) (And.intro e3.ok (And.intro (And.intro (by omega) (by omega)) fun p hp' => ?_)))) | (refine And.intro (by omega) (shl64 (by omega) (by omega) ?_ ?_ ?_)) | fail)
      conv => whnf
      have hpp : 0 ≤ p ∧ p < pw (min (n - 8 * (s.k : Int)) 8) := by rw [hp', hp1]; exact ha
      have hk2 : s.k ≤ 2 := by omega
      have p16 := pw_mono (a := 8 * (s.k : Int)) (b := 16) (by omega)
      rw [show pw 16 = 65536 by rw [pw_def]; decide] at p16
      have p8 := pw_pos (8 * (s.k : Int))
      have hpm : p * pw (8 * (s.k : Int)) ≤ 256 * 65536 := Int.mul_le_mul (by omega) p16 (by omega) (by omega)
      have hp0 : 0 ≤ p * pw (8 * (s.k : Int)) := Int.mul_nonneg (by omega) (by omega)
      have hc : cellP p 1 (1 * pw (min (n - 8 * (s.k : Int)) 8)) := by unfold cellP; omega
      have hor := or64 (x := s.x) (p := p) (a := 8 * (s.k : Int)) (by omega) (by omega) e2 (by omega)
      have hadd : pw (8 * (s.k : Int) + 8) = pw (8 * (s.k : Int)) * 256 := by rw [pw_add (by omega) (by omega), show pw 8 = 256 by rw [pw_def]; decide]
      have hpx : p * pw (8 * (s.k : Int)) ≤ 255 * pw (8 * (s.k : Int)) := Int.mul_le_mul_of_nonneg_right (by omega) (by omega)
      have e5 : pw (8 * (s.k : Int)) ≤ 65536 := p16
      have hin : InK .i64 (s.x + p * pw (8 * (s.k : Int))) := by simp only [InK, lowK, highK]; omega
      refine ⟨s.d, hset _, e3.mono (by omega), hc, fun d2 hd2 => ?_⟩
      repeat' ((conv => whnf); first | (refine lenH_is ?_) | (refine ask_wrap64 (by omega) (by omega) ?_) | (refine And.intro (by omega) (shl64 (by omega) (by omega) (by omega) (by omega) ?_)) | (refine ask_is hor ?_) | fail)
      rw [hp1] at hd2 hp'
      have hd2' : DIn d2 (90000000 + 3 * (((s.k + 1 : Nat)) : Int)) := by
        have := e3.take (tkS_ok e3.ok (s := p) (w := 1) (t := pw (min (n - 8 * (s.k : Int)) 8)) (by rw [← hp1]; exact hc))
        rw [← hd2] at this
        exact this.mono (by omega)
      refine ⟨3 - (s.k + 1), ⟨s.k + 1, s.x + p * pw (8 * (s.k : Int)), d2⟩, by omega, ⟨by dsimp only; omega, rfl, ⟨by dsimp only; omega, ?_⟩, hd2', ?_⟩, ⟨rfl, ⟨⟨Nat.le_of_ble_eq_true rfl, rfl⟩, ⟨Nat.le_of_ble_eq_true rfl, ?_⟩, trivial⟩, ?_, ?_, hbH _, hlo _⟩⟩
      · dsimp only
        rw [show 8 * (((s.k + 1 : Nat)) : Int) = 8 * (s.k : Int) + 8 by omega, hadd]
        omega
      · dsimp only
        rw [← e4, show 3 - s.k = (3 - (s.k + 1)) + 1 by omega]
        simp only [bitsF]
        rw [if_pos g, ← hp', ← hd2, show 8 * (((s.k + 1 : Nat)) : Int) = 8 * (s.k : Int) + 8 by omega]
      · show vi (8 * (s.k : Int) + 8) = vi (8 * (((s.k + 1 : Nat)) : Int))
        rw [show 8 * (((s.k + 1 : Nat)) : Int) = 8 * (s.k : Int) + 8 by omega]
      · rw [List.set_set]; exact wkH_refl _
      · repeat' (first | rfl | exact d1 _ | refine and_t ?_ ?_)
    · repeat' ((conv => whnf); first | (refine lenH_is ?_) | (refine ask_false (by omega) ?_) | fail)
      have ee : bitsF (3 - s.k) n (8 * (s.k : Int)) s.x s.d = (s.x, s.d) := by
        cases h3 : 3 - s.k with
        | zero => rfl
        | succ m => simp only [bitsF]; rw [if_neg (by omega)]
      rw [← e4, ee]
      exact ⟨rfl, rfl⟩
theorem TkOk.refl {d : DS} (h : DOk d) : TkOk d d 0 := ⟨h, Int.le_refl _, by omega, Int.le_refl _, by omega, rfl⟩
theorem TkOk.trans {a b c : DS} {n m : Int} (h : TkOk a b n) (k : TkOk b c m) : TkOk a c (n + m) :=
  ⟨k.ok, Int.le_trans h.at0 k.at0, by have := h.at1; have := k.at1; omega, Int.le_trans h.g0 k.g0, by have := h.g1; have := k.g1; omega, k.s.trans h.s⟩
theorem TkOk.mono {a b : DS} {n m : Int} (h : TkOk a b n) (k : n ≤ m) : TkOk a b m := ⟨h.ok, h.at0, Int.le_trans h.at1 (by omega), h.g0, Int.le_trans h.g1 (by omega), h.s⟩
theorem bitsF_ok : ∀ (k : Nat) (n a x : Int) (d : DS), DOk d → 0 ≤ a → (0 ≤ x ∧ x < pw a) → (0 ≤ (bitsF k n a x d).1 ∧ (bitsF k n a x d).1 < pw (a + 8 * k)) ∧ TkOk d (bitsF k n a x d).2 (3 * k)
  | 0, n, a, x, d, h, ha, hx => by
    simp only [bitsF]
    exact ⟨⟨hx.1, by rw [show a + 8 * ((0 : Nat) : Int) = a by omega]; exact hx.2⟩, (TkOk.refl h).mono (by omega)⟩
  | k + 1, n, a, x, d, h, ha, hx => by
    simp only [bitsF]
    split
    · rename_i g
      have hp := pwm (n := n) (a := a) (by omega)
      have hat := atS_in h (t := pw (min (n - a) 8)) (by omega) (by omega)
      have pa := pw_pos a
      have hadd : pw (a + 8) = pw a * 256 := by rw [pw_add ha (by omega), show pw 8 = 256 by rw [pw_def]; decide]
      have h0 : 0 ≤ atS d (pw (min (n - a) 8)) * pw a := Int.mul_nonneg (by omega) (by omega)
      have h1 : atS d (pw (min (n - a) 8)) * pw a ≤ 255 * pw a := Int.mul_le_mul_of_nonneg_right (by omega) (by omega)
      have tk := tkS_ok h (s := atS d (pw (min (n - a) 8))) (w := 1) (t := pw (min (n - a) 8)) (by unfold cellP; omega)
      obtain ⟨q1, q2⟩ := bitsF_ok k n (a + 8) (x + atS d (pw (min (n - a) 8)) * pw a) _ tk.ok (by omega) (by omega)
      refine ⟨⟨q1.1, by rw [show a + 8 * ((k + 1 : Nat) : Int) = a + 8 + 8 * (k : Int) by omega]; exact q1.2⟩, (tk.trans q2).mono (by omega)⟩
    · have := pw_mono (a := a) (b := a + 8 * ((k + 1 : Nat) : Int)) (by omega)
      exact ⟨⟨hx.1, by dsimp only; omega⟩, (TkOk.refl h).mono (by omega)⟩
theorem btS_ok {d : DS} (h : DOk d) (n : Int) : (0 ≤ (btS n d).1 ∧ (btS n d).1 < 16777216) ∧ TkOk d (btS n d).2 9 := by
  rw [btS_def]
  obtain ⟨h1, h2⟩ := bitsF_ok 3 n 0 0 d h (by decide) ⟨by decide, by have := pw_pos 0; omega⟩
  rw [show (0 : Int) + 8 * ((3 : Nat) : Int) = 24 from rfl, show pw 24 = 16777216 by rw [pw_def]; decide] at h1
  exact ⟨h1, h2⟩
def hBits : HCt := fun ws H K => match ws with
  | [.c (.cp j 0), .c (.ci .i64 n)] => ∃ d : DS, H[j]? = some (dcB d) ∧ DIn d 90000000 ∧ (0 ≤ n ∧ n ≤ 24) ∧ ∀ (x : Int) (d' : DS), x = (btS n d).1 → d' = (btS n d).2 → (0 ≤ x ∧ x < 16777216) → TkOk d d' 9 → K (.tup [.c (.ci .i64 x), .c (.ci .i64 0)]) (H.set j (dcB d'))
  | _ => False
theorem bits_ct : HCtOk Tryz.prog 71 hBits := by
  intro ws H K h hr hb ho G σ base w₀ w hw
  unfold hBits at h
  split at h
  · rename_i j n
    obtain ⟨d, hj, hd, h0, hK⟩ := h
    have ok := btS_ok hd.ok n
    exact heap_lift FB_ok Tryz.func71 (n := 0) (ws := [.c (.cp j 0), i64 n]) ⟨trivial, hr.2.1, trivial⟩ (ptr_bnd2 hj) ho (bits_walk ho hj hd h0.1 h0.2) (fun x H' hP => by
      obtain ⟨rfl, rfl⟩ := hP
      exact hK _ _ rfl rfl ok.1 ok.2) G σ base w₀ w hw
  · exact h.elim
end R
end Go.Proofs.YtaficaacogcblaaGreatDoor
set_option linter.all false
namespace Go.Proofs.YtaficaacogcblaaGreatDoor
namespace R
open Go.RowKit (Below)
set_option maxRecDepth 100000
set_option maxHeartbeats 16000000
theorem len32_walk (x : Int) (hx : InK .u32 x) : walk F0 0 Tryz.f172 [u32 x] [] fun y _ => y = vi (D.lenS x) := by
  obtain ⟨x1, x2⟩ := hx
  simp only [lowK, highK] at x1 x2
  obtain ⟨p32, p16, p8, -⟩ := D.pw_vals
  have h16 := fun y : Int => D.len_half (x := y) (k := 16) (by decide)
  have h8 := fun y : Int => D.len_half (x := y) (k := 8) (by decide)
  rw [p16] at h16
  rw [p8] at h8
  have a2 := h16 x
  have a4 := h8 x
  have a6 := h8 (x / 65536)
  clear h16 h8 p32 p16 p8
  repeat' ((conv => whnf); first | (refine ask_split (fun _ => ?_) (fun _ => ?_)) | (refine D.tab_ask (by omega) (by kernel_rfl) (by kernel_rfl) (fun _ _ => ?_)) | (refine ⟨by omega, ?_⟩) | (refine ask_is (f := _ / 65536) (fdiv_ediv 16) ?_) | (refine ask_is (f := _ / 256) (fdiv_ediv 8) ?_) | (refine ask_wrap64 (by omega) (by omega) ?_) | (refine ask_wrapu8 (by omega) (by omega) ?_) | (exact D.vi_eq (by omega)) | fail)
def ctU32 (pre : Int → Prop) (f : Int → Int) : Ct := fun ws K => match ws with
  | [.c (.ci .u32 a)] => pre a ∧ K (vi (f a))
  | _ => False
theorem ctU32_ok {F : Fns} (hF : FnsOk Tryz.prog F) {n : Nat} {f : FuncId} {fn : Func} (hf : Tryz.prog.funcs[f]? = some fn) {pre : Int → Prop} {g : Int → Int} (hg : ∀ a, InK .u32 a → pre a → InK .i64 (g a))
    (h : ∀ a, InK .u32 a → pre a → walk F n fn [u32 a] [] fun y _ => y = vi (g a)) : CtOk Tryz.prog f (ctU32 pre g) := by
  intro ws K h' hr
  unfold ctU32 at h'
  split at h'
  · rename_i a
    exact ⟨_, h'.2, ⟨hg a hr.1 h'.1, rfl⟩, walk_calls hF hf rfl hr rfl (h a hr.1 h'.1)⟩
  · exact h'.elim
theorem len_32 {x : Int} (h : x ≤ 4294967295) : 0 ≤ D.lenS x ∧ D.lenS x ≤ 32 := ⟨D.len_nonneg x, D.len_le (by have := D.pw_vals.1; omega) (by decide)⟩
theorem len32_ct : CtOk Tryz.prog 172 (ctU32 (fun _ => True) D.lenS) := ctU32_ok F0_ok Tryz.func172 (fun a h _ => by
  have := len_32 h.2
  simp only [InK, lowK, highK]; omega) fun a ha _ => len32_walk a ha
noncomputable def lz32 (x : Int) : Int := 32 - D.lenS x
noncomputable def FL2 : Fns := F0.plus 172 (ctU32 (fun _ => True) D.lenS)
theorem FL2_ok : FnsOk Tryz.prog FL2 := F0_ok.plus len32_ct Tryz.func172 (by kernel_rfl) (by kernel_rfl)
theorem lz_ct : CtOk Tryz.prog 151 (ctU32 (fun _ => True) lz32) := ctU32_ok (n := 0) FL2_ok Tryz.func151 (fun a h _ => by
  have := len_32 h.2
  unfold lz32
  simp only [InK, lowK, highK]; omega) fun a ha _ => by
    have := len_32 ha.2
    repeat' ((conv => whnf); first | (refine And.intro trivial ?_) | (refine ask_wrap64 (by omega) (by omega) ?_) | fail)
    rfl
noncomputable def usedS (g r : Int) : Int := 8 * g + lz32 r
noncomputable def ctUsed : Ct := fun ws K => match ws with
  | [.c (.ci .i64 g), .c (.ci .u32 r)] => (0 ≤ g ∧ g ≤ 1000000000) ∧ K (vi (usedS g r))
  | _ => False
noncomputable def FL3 : Fns := F0.plus 151 (ctU32 (fun _ => True) lz32)
theorem FL3_ok : FnsOk Tryz.prog FL3 := F0_ok.plus lz_ct Tryz.func151 (by kernel_rfl) (by kernel_rfl)
theorem used_ct : CtOk Tryz.prog 120 ctUsed := by
  intro ws K h' hr
  unfold ctUsed at h'
  split at h'
  · rename_i g r
    have hl := len_32 hr.2.1.2
    have h0 := h'.1
    have hu : -2000000000 ≤ usedS g r ∧ usedS g r ≤ 9000000000 := by unfold usedS lz32; omega
    refine ⟨_, h'.2, ⟨by simp only [V.rng, W.rng, C.rng, InK, lowK, highK]; omega, rfl⟩, walk_calls FL3_ok Tryz.func120 (n := 0) rfl hr rfl ?_⟩
    have e1 : lz32 r = 32 - D.lenS r := rfl
    repeat' ((conv => whnf); first | (refine And.intro trivial ?_) | (refine ask_wrap64 (by omega) (by omega) ?_) | fail)
    rfl
  · exact h'.elim
noncomputable def FL4 : Fns := F0.plus 120 ctUsed
theorem FL4_ok : FnsOk Tryz.prog FL4 := F0_ok.plus used_ct Tryz.func120 (by kernel_rfl) (by kernel_rfl)
abbrev dcR (d : DS) : Blk := .ro [.one (.cs d.s), .one (.ci .i64 d.at'), .one (.ci .u32 d.code), .one (.ci .u32 d.rng), .one (.ci .i64 d.gone)]
theorem dused_walk {H : List Blk} {j : Nat} {d : DS} (hj : H[j]? = some (dcB d) ∨ H[j]? = some (dcR d)) (hd : DIn d 100000000) : walk FL4 0 Tryz.f70 [.c (.cp j 0)] H fun x H' => x = vi (usedS d.gone d.rng) ∧ H' = H := by
  have g0 := hd.g0
  have g1 := hd.g1
  rcases hj with hj | hj
  · repeat' ((conv => whnf); first | (refine lenH_at ?_) | (refine hGet_at hj ?_) | (refine ⟨by kernel_rfl, ?_⟩) | (refine maskB_as fun Hm hl hm => ?_) | (refine hGet_at (hm j _ hj (by simp)) ?_) | (refine And.intro (And.intro (by omega) (by omega)) ?_) | fail)
    rfl
  · repeat' ((conv => whnf); first | (refine lenH_at ?_) | (refine hGet_at hj ?_) | (refine ⟨by kernel_rfl, ?_⟩) | (refine maskB_as fun Hm hl hm => ?_) | (refine hGet_at (hm j _ hj (by simp)) ?_) | (refine And.intro (And.intro (by omega) (by omega)) ?_) | fail)
    rfl
noncomputable def hDUsed : HCt := fun ws H K => match ws with
  | [.c (.cp j 0)] => ∃ d : DS, (H[j]? = some (dcB d) ∨ H[j]? = some (dcR d)) ∧ DIn d 100000000 ∧ ∀ u, u = usedS d.gone d.rng → K (vi u) H
  | _ => False
theorem dused_ct : HCtOk Tryz.prog 70 hDUsed := by
  intro ws H K h hr hb ho G σ base w₀ w hw
  unfold hDUsed at h
  split at h
  · rename_i j
    obtain ⟨d, hj, hd, hK⟩ := h
    exact heap_lift FL4_ok Tryz.func70 (n := 0) (ws := [.c (.cp j 0)]) ⟨trivial, trivial⟩ (by rcases hj with h | h <;> exact ptr_bnd h) ho (dused_walk hj hd) (fun x H' hP => by
      obtain ⟨rfl, rfl⟩ := hP
      exact hK _ rfl) G σ base w₀ w hw
  · exact h.elim
end R
end Go.Proofs.YtaficaacogcblaaGreatDoor
set_option linter.all false
namespace Go.Proofs.YtaficaacogcblaaGreatDoor
namespace R
open Go.RowKit (Below)
set_option maxRecDepth 100000
set_option maxHeartbeats 16000000
structure NextU (ds : List Nat) (lo : Nat) (fr : List V) (sel : List (Nat × V)) (Hs : List Blk) (fr' : List V) (H' : List Blk) : Prop where
  same : hav ds 0 fr' = hav ds 0 fr
  hold : selOk sel fr'
  heap : wkH Hs H'
  bh : bndH Hs.length Hs = true
  lo : lo ≤ Hs.length
end R
namespace R
set_option maxRecDepth 100000
set_option maxHeartbeats 16000000
end R
end Go.Proofs.YtaficaacogcblaaGreatDoor
set_option linter.all false
namespace Go.Proofs.YtaficaacogcblaaGreatDoor
namespace R
open Go.RowKit (Below)
set_option maxRecDepth 100000
set_option maxHeartbeats 16000000
end R
end Go.Proofs.YtaficaacogcblaaGreatDoor
set_option linter.all false
namespace Go.Proofs.YtaficaacogcblaaGreatDoor
namespace S
open Go.Shelf Go.RowKit
end S
namespace R
open Go.RowKit (Below)
set_option maxRecDepth 100000
set_option maxHeartbeats 16000000
end R
end Go.Proofs.YtaficaacogcblaaGreatDoor
