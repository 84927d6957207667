/- R: what is needed here of the texts XVc XVo. (Printed by fam.py.) -/
import Derived.Test.YtaficaacogcblaaGreatDoorXs
import Derived.Test.YtaficaacogcblaaGreatDoorXrs
import Derived.Test.YtaficaacogcblaaGreatDoorXr
import Derived.Test.YtaficaacogcblaaGreatDoorWt
set_option linter.all false
namespace Go.Proofs.YtaficaacogcblaaGreatDoor
namespace R
open Go.RowKit (Below)
set_option maxRecDepth 100000
set_option maxHeartbeats 32000000

open Go.WideMaps
set_option maxRecDepth 100000
set_option maxHeartbeats 32000000
theorem lenH_at {H : List Blk} {n : Nat} {K : Nat → Prop} (h : K (n + H.length)) : lenH H n K := (lenH_iff _ _ _).2 h
theorem pushH_at {H : List Blk} {b : Blk} {K : List Blk → Prop} (h : K (H ++ [b])) : pushH H b K := (pushH_iff _ _ _).2 h
theorem setH_at {H : List Blk} {n : Nat} {b : Blk} {K : List Blk → Prop} (h : K (H.set n b)) : setH H n b K := (setH_iff _ _ _ _).2 h
theorem wkH_refl : ∀ H : List Blk, wkH H H
  | [] => trivial
  | .gone :: H => wkH_refl H
  | .own _ _ :: H => ⟨rfl, wkH_refl H⟩
  | .ro _ :: H => ⟨rfl, wkH_refl H⟩
  | .obj _ :: H => ⟨rfl, wkH_refl H⟩
theorem bndH_of {n : Nat} : ∀ {H : List Blk}, (∀ b ∈ H, b.bnd n = true) → bndH n H = true
  | [], _ => rfl
  | b :: H, h => by
    show (b.bnd n && bndH n H) = true
    rw [h b (by simp), bndH_of fun c hc => h c (by simp [hc])]; rfl
theorem and_t {a b : Bool} (h : a = true) (k : b = true) : (a && b) = true := by rw [h, k]; rfl
theorem Blk.bnd_up {n m : Nat} (h : n ≤ m) : ∀ b : Blk, b.bnd n = true → b.bnd m = true
  | .own _ ss, hb => bnds_mono h ss hb
  | .ro ss, hb => bnds_mono h ss hb
  | .obj _, _ => rfl
  | .gone, _ => rfl
theorem setH_as {H H' : List Blk} {n : Nat} {b : Blk} {K : List Blk → Prop} (h : H.set n b = H') (hk : K H') : setH H n b K := by
  subst h; exact setH_at hk
theorem hGet_at {b : Blk} : ∀ {H : List Blk} {n : Nat} {K : Blk → Prop}, H[n]? = some b → K b → hGet H n K
  | [], _, _, h, _ => by simp at h
  | _ :: _, 0, _, h, hk => by simp at h; subst h; exact hk
  | _ :: H, n + 1, _, h, hk => hGet_at (H := H) (n := n) (by simpa using h) hk
/-- c is a slice that reads y, in a block of its own. -/
def RowAt (ok : Nat → Prop) (H : List Blk) (c : C) (y : List Int) : Prop :=
  ∃ p zs, c = .csl p 0 0 y.length zs.length ∧ ok p ∧ zs.take y.length = y ∧ zs.length ≤ 9223372036854775807 ∧ H[p]? = some (.own 3 [.ints .i64 zs.length zs])
/-- c is a slice of slices that read L. -/
def RowsAt (ok : Nat → Prop) (H : List Blk) (c : C) (L : List (List Int)) : Prop :=
  (L = [] ∧ c = .csn) ∨ ∃ b cs, c = .csl b 0 0 L.length cs.length ∧ ok b ∧ L.length ≤ cs.length ∧ cs.length ≤ 9223372036854775807 ∧ H[b]? = some (.own 143 (ones cs)) ∧ ∀ (i : Nat) (y : List Int), L[i]? = some y → ∃ d, cs[i]? = some d ∧ RowAt (fun p => ok p ∧ p ≠ b) H d y
theorem RowAt.mono {ok ok' : Nat → Prop} {H H' : List Blk} {c : C} {y : List Int} (h : RowAt ok H c y) (hk : ∀ p b, ok p → H[p]? = some b → ok' p ∧ H'[p]? = some b) : RowAt ok' H' c y := by
  obtain ⟨p, zs, h1, h2, h3, h4, h5⟩ := h
  obtain ⟨g1, g2⟩ := hk p _ h2 h5
  exact ⟨p, zs, h1, g1, h3, h4, g2⟩
theorem RowsAt.mono {ok ok' : Nat → Prop} {H H' : List Blk} {c : C} {L : List (List Int)} (h : RowsAt ok H c L) (hk : ∀ p b, ok p → H[p]? = some b → ok' p ∧ H'[p]? = some b) : RowsAt ok' H' c L := by
  rcases h with h | ⟨b, cs, h1, h2, h3, h4, h5, h6⟩
  · exact .inl h
  · obtain ⟨g1, g2⟩ := hk b _ h2 h5
    refine .inr ⟨b, cs, h1, g1, h3, h4, g2, fun i y hi => ?_⟩
    obtain ⟨d, q1, q2⟩ := h6 i y hi
    exact ⟨d, q1, q2.mono fun p b' hp hb => ⟨⟨(hk p b' hp.1 hb).1, hp.2⟩, (hk p b' hp.1 hb).2⟩⟩
theorem up_get {H N : List Blk} {p : Nat} {b : Blk} (h : H[p]? = some b) : (H ++ N)[p]? = some b := by
  rw [List.getElem?_append_left (List.getElem?_eq_some_iff.1 h).1]; exact h
theorem up_top (H : List Blk) (b : Blk) : (H ++ [b])[H.length]? = some b := by simp
theorem pushH_as {H : List Blk} {b b' : Blk} {K : List Blk → Prop} (h : b = b') (k : K (H ++ [b'])) : pushH H b K := by subst h; exact pushH_at k
theorem lenH_is {H : List Blk} {K : Nat → Prop} (h : K H.length) : lenH H 0 K := (lenH_iff _ _ _).2 (by rw [Nat.zero_add]; exact h)
theorem HOk.ones {H : List Blk} (ho : HOk H) {T : TypeId} {cs : List C} (h : ∀ c ∈ cs, c.rng ∧ c.bnd H.length = true) : HOk (H ++ [.own T (ones cs)]) :=
  ho.push (rngs_ones.2 fun c hc => (h c hc).1) (bnds_ones.2 fun c hc => (h c hc).2)
theorem any_lift {F : Fns} (hF : FnsOk Tryz.prog F) {n : Nat} {f : FuncId} {fn : Func} (hf : Tryz.prog.funcs[f]? = some fn) {ws : List W} (hr : rngW ws) (hb : bndW 0 ws = true) {P : V → List Blk → Prop} {H : List Blk} (ho : HOk H)
    (h : walk F n fn ws H P) {K : V → List Blk → Prop} (hK : ∀ x H', P x H' → K x H') (G : Glo) (σ : Sg) (base : Nat) (w₀ w : World) (hw : Rep G σ base w₀ w H) :
    Calls Tryz.prog f (ws.map (W.den σ)).toArray w (LeftG G σ base w₀ H.length K) := by
  have hw0 : Rep E0.G σ base w₀ w H := ⟨hw.below, hw.size, hw.blk, hw.sep, fun g ss hg => by cases hg⟩
  refine (xfun_spec E0_ok (calF_ok E0_ok hF (fun cal hc => drwA_ok E0_ok hF mixed cal hc) n) (drwA_ok E0_ok hF mixed _ (calF_ok E0_ok hF (fun cal hc => drwA_ok E0_ok hF mixed cal hc) n)) hf h hr (bndW_mono (Nat.zero_le _) ws hb) ho σ base w₀ w hw0).mono ?_
  rintro e w' ⟨τ, x, H', v, rfl, h1, h2, h3, h4, h5, h6, h7⟩
  refine ⟨τ, x, H', v, rfl, h1, hK x H' h2, h3, ⟨h4.below, h4.size, h4.blk, h4.sep, fun g ss hg => ?_⟩, h5, h6, h7⟩
  obtain ⟨g1, g2, g3⟩ := hw.glo g ss hg
  refine ⟨g1, g2, fun i u hu => ?_⟩
  have hu' : (dens σ ss)[i]? = some u := by
    rw [dens_agree (n := 0) (τ := τ) (fun j hj => absurd hj (Nat.not_lt_zero j)) ss g2]; exact hu
  have := g3 i u hu'
  rw [cell_eq_of_block (w := w) (w' := w')]
  · exact this
  · show w'.heap[g]? = w.heap[g]?
    rw [h4.below.block g g1, hw.below.block g g1]
theorem loop_at3 {body : List V → List Blk → XQ → Prop} {lo : Nat} {fr : List V} {H : List Blk} {Q : XQ} {α β γ : Type} (ds : List Nat) (J : Nat → α → β → γ → Prop) (sel : α → β → γ → List (Nat × V)) (Hs : α → β → γ → List Blk) (m₀ : Nat) (a₀ : α) (b₀ : β) (c₀ : γ) (h₀ : J m₀ a₀ b₀ c₀)
    (start : Next' ds lo fr (sel a₀ b₀ c₀) (Hs a₀ b₀ c₀) fr H)
    (round : ∀ m a b c, J m a b c → havK ds 0 fr fun f₁ => setLK (sel a b c) f₁ fun f₂ => body f₂ (Hs a b c) fun ex fr' H' => match ex with
      | .normal => ∃ m' s', m' < m ∧ J m' (Prod.fst s') (Prod.fst (Prod.snd s')) (Prod.snd (Prod.snd s')) ∧ Next' ds lo fr (sel (Prod.fst s') (Prod.fst (Prod.snd s')) (Prod.snd (Prod.snd s'))) (Hs (Prod.fst s') (Prod.fst (Prod.snd s')) (Prod.snd (Prod.snd s'))) fr' H'
      | .exit id => Q (.exit id) fr' H'
      | .ret => Q .ret fr' H') : XLoop body lo fr H Q :=
  loop_at ds (fun m s => J m s.1 s.2.1 s.2.2) (fun s => sel s.1 s.2.1 s.2.2) (fun s => Hs s.1 s.2.1 s.2.2) m₀ (a₀, b₀, c₀) h₀ start fun m s h => round m s.1 s.2.1 s.2.2 h
end R

/- The coder of ranges: a decoder's steps. -/
namespace R
set_option maxRecDepth 100000
set_option maxHeartbeats 16000000

/-- What an open region sees of blocks that are not told one by one. -/
theorem maskB_as {ft : List Nat} : ∀ {n : Nat} {H : List Blk} {K : List Blk → Prop}, (∀ Hm : List Blk, Hm.length = H.length → (∀ (s : Nat) (b : Blk), H[s]? = some b → n + s ∈ ft → Hm[s]? = some b) → K Hm) → maskB false ft n H K
  | _, [], K, h => h [] rfl fun s b hs => by simp at hs
  | n, b :: H, K, h => by
    have step : ∀ z : Blk, (n ∈ ft → z = b) → maskB false ft (n + 1) H fun r => K (z :: r) := fun z hz => maskB_as fun Hm hl hm => h (z :: Hm) (by simp [hl]) fun s c hs hin => by
      cases s with
      | zero =>
        obtain rfl : b = c := by simpa using hs
        rw [hz hin]; rfl
      | succ s =>
        have hs' : H[s]? = some c := by simpa using hs
        have := hm s c hs' (by rw [show n + 1 + s = n + (s + 1) by omega]; exact hin)
        simpa using this
    unfold maskB
    cases he : ft.elem n with
    | true => exact step b fun _ => rfl
    | false => exact step .gone fun hin => by rw [List.elem_iff.2 hin] at he; cases he
/-- A decoder. -/
structure DS where
  s : ByteArray
  at' : Int
  code : Int
  rng : Int
  gone : Int
abbrev dcC (s : ByteArray) (at' code rng gone : Int) : Blk := .own 194 [.one (.cs s), .one (.ci .i64 at'), .one (.ci .u32 code), .one (.ci .u32 rng), .one (.ci .i64 gone)]
abbrev dcB (d : DS) : Blk := dcC d.s d.at' d.code d.rng d.gone
/-- The byte at a place; 0 behind the end. -/
def byteD (s : ByteArray) (i : Int) : Int := if i < s.size then ((s.get! i.toNat).toNat : Nat) else 0
theorem byteD_in (s : ByteArray) (i : Int) : 0 ≤ byteD s i ∧ byteD s i ≤ 255 := by
  unfold byteD
  split
  · have := (s.get! i.toNat).toNat_lt; omega
  · omega
/-- A walk over these blocks, as what a call leaves. -/
theorem heap_lift {F : Fns} (hF : FnsOk Tryz.prog F) {n : Nat} {f : FuncId} {fn : Func} (hf : Tryz.prog.funcs[f]? = some fn) {ws : List W} (hr : rngW ws) {P : V → List Blk → Prop} {H : List Blk} (hb : bndW H.length ws = true) (ho : HOk H)
    (h : walk F n fn ws H P) {K : V → List Blk → Prop} (hK : ∀ x H', P x H' → K x H') (G : Glo) (σ : Sg) (base : Nat) (w₀ w : World) (hw : Rep G σ base w₀ w H) :
    Calls Tryz.prog f (ws.map (W.den σ)).toArray w (LeftG G σ base w₀ H.length K) := by
  have hw0 : Rep E0.G σ base w₀ w H := ⟨hw.below, hw.size, hw.blk, hw.sep, fun g ss hg => by cases hg⟩
  refine (xfun_spec E0_ok (calF_ok E0_ok hF (fun cal hc => drwA_ok E0_ok hF mixed cal hc) n) (drwA_ok E0_ok hF mixed _ (calF_ok E0_ok hF (fun cal hc => drwA_ok E0_ok hF mixed cal hc) n)) hf h hr hb ho σ base w₀ w hw0).mono ?_
  rintro e w' ⟨τ, x, H', v, rfl, h1, h2, h3, h4, h5, h6, h7⟩
  refine ⟨τ, x, H', v, rfl, h1, hK x H' h2, h3, ⟨h4.below, h4.size, h4.blk, h4.sep, fun g ss hg => ?_⟩, h5, h6, h7⟩
  obtain ⟨g1, g2, g3⟩ := hw.glo g ss hg
  refine ⟨g1, g2, fun i u hu => ?_⟩
  have hu' : (dens σ ss)[i]? = some u := by
    rw [dens_agree (n := 0) (τ := τ) (fun j hj => absurd hj (Nat.not_lt_zero j)) ss g2]; exact hu
  have := g3 i u hu'
  rw [cell_eq_of_block (w := w) (w' := w')]
  · exact this
  · show w'.heap[g]? = w.heap[g]?
    rw [h4.below.block g g1, hw.below.block g g1]
theorem ptr_bnd {H : List Blk} {j : Nat} {b : Blk} (hj : H[j]? = some b) : bndW H.length [.c (.cp j 0)] = true := by
  have := (List.getElem?_eq_some_iff.1 hj).1
  show (decide (j < H.length) && true) = true
  simp [this]
def hNext : HCt := fun ws H K => match ws with
  | [.c (.cp j 0)] => ∃ d : DS, H[j]? = some (dcB d) ∧ (0 ≤ d.at' ∧ d.at' ≤ 1000000000) ∧ ∀ v, v = byteD d.s d.at' → K (.w (.c (.ci .u32 v))) (H.set j (dcC d.s (d.at' + 1) d.code d.rng d.gone))
  | _ => False
theorem next_walk {H : List Blk} {j : Nat} {d : DS} (hj : H[j]? = some (dcB d)) (h0 : 0 ≤ d.at' ∧ d.at' ≤ 1000000000) : walk F0 0 Tryz.f113 [.c (.cp j 0)] H fun x H' => x = .w (.c (.ci .u32 (byteD d.s d.at'))) ∧ H' = H.set j (dcC d.s (d.at' + 1) d.code d.rng d.gone) := by
  have hjl := (List.getElem?_eq_some_iff.1 hj).1
  have hset : ∀ b : Blk, (H.set j b)[j]? = some b := fun b => List.getElem?_set_self hjl
  rcases Int.lt_or_le d.at' d.s.size with g | g
  · have e : byteD d.s d.at' = ((d.s.get! d.at'.toNat).toNat : Nat) := by unfold byteD; rw [if_pos g]
    have hb := byteD_in d.s d.at'
    repeat' ((conv => whnf); first | (refine lenH_at ?_) | (refine And.intro rfl ?_) | (refine ask_wrap64 (by omega) (by omega) ?_) | (refine hGet_at hj ?_) | (refine hGet_at (hset _) ?_) | (refine setH_at ?_) | (refine ⟨by kernel_rfl, ?_⟩) | (refine maskB_as fun Hm hl hm => ?_) | (refine hGet_at (hm j _ (hset _) (by simp)) ?_) | (refine ask_false (by omega) ?_) | (refine ask_true (by omega) ?_) | (refine And.intro ⟨by omega, by omega⟩ ?_) | fail)
    conv => whnf
    refine ask_is (f := byteD d.s d.at') (by rw [e, show d.at' + 1 - 1 = d.at' by omega]) ?_
    repeat' ((conv => whnf); first | (refine lenH_at ?_) | (refine And.intro rfl ?_) | (refine ask_wrap64 (by omega) (by omega) ?_) | (refine hGet_at hj ?_) | (refine hGet_at (hset _) ?_) | (refine setH_at ?_) | (refine ⟨by kernel_rfl, ?_⟩) | (refine maskB_as fun Hm hl hm => ?_) | (refine hGet_at (hm j _ (hset _) (by simp)) ?_) | (refine ask_false (by omega) ?_) | (refine ask_true (by omega) ?_) | (refine And.intro ⟨by omega, by omega⟩ ?_) | (refine ask_wrapu32 (by omega) (by omega) ?_) | rfl | fail)
    rfl
  · have e : byteD d.s d.at' = 0 := by unfold byteD; rw [if_neg (by omega)]
    rw [e]
    repeat' ((conv => whnf); first | (refine lenH_at ?_) | (refine And.intro rfl ?_) | (refine ask_wrap64 (by omega) (by omega) ?_) | (refine hGet_at hj ?_) | (refine hGet_at (hset _) ?_) | (refine setH_at ?_) | (refine ⟨by kernel_rfl, ?_⟩) | (refine maskB_as fun Hm hl hm => ?_) | (refine hGet_at (hm j _ (hset _) (by simp)) ?_) | (refine ask_false (by omega) ?_) | (refine ask_true (by omega) ?_) | (refine And.intro ⟨by omega, by omega⟩ ?_) | fail)
    rfl
theorem next_ct : HCtOk Tryz.prog 113 hNext := by
  intro ws H K h hr hb ho G σ base w₀ w hw
  unfold hNext at h
  split at h
  · rename_i j
    obtain ⟨d, hj, h0, hK⟩ := h
    exact heap_lift F0_ok Tryz.func113 (n := 0) (ws := [.c (.cp j 0)]) ⟨trivial, trivial⟩ (ptr_bnd hj) ho (next_walk hj h0) (fun x H' hP => by
      obtain ⟨rfl, rfl⟩ := hP
      exact hK _ rfl) G σ base w₀ w hw
  · exact h.elim

/-! ### cells -/
def cellP (s w t : Int) : Prop := (1 ≤ t ∧ t ≤ 32768 ∧ 0 ≤ s) ∧ 1 ≤ w ∧ s < t ∧ w ≤ t - s
instance (s w t : Int) : Decidable (cellP s w t) := by unfold cellP; infer_instance
theorem cell_walk (s w t : Int) : walk F0 0 Tryz.f150 [i64 s, i64 w, i64 t] [] fun y _ => y = vb (decide (cellP s w t)) := by
  rcases Int.lt_or_le t 1 with g1 | g1
  · rw [decide_eq_false (show ¬ cellP s w t by unfold cellP; omega)]
    repeat' ((conv => whnf); first | (refine ask_false (by omega) ?_) | (refine ask_true (by omega) ?_) | (refine ask_wrap64 (by omega) (by omega) ?_) | (refine ⟨by kernel_rfl, ?_⟩) | rfl | fail)
  rcases Int.lt_or_le 32768 t with g2 | g2
  · rw [decide_eq_false (show ¬ cellP s w t by unfold cellP; omega)]
    repeat' ((conv => whnf); first | (refine ask_false (by omega) ?_) | (refine ask_true (by omega) ?_) | (refine ask_wrap64 (by omega) (by omega) ?_) | (refine ⟨by kernel_rfl, ?_⟩) | rfl | fail)
  rcases Int.lt_or_le s 0 with g3 | g3
  · rw [decide_eq_false (show ¬ cellP s w t by unfold cellP; omega)]
    repeat' ((conv => whnf); first | (refine ask_false (by omega) ?_) | (refine ask_true (by omega) ?_) | (refine ask_wrap64 (by omega) (by omega) ?_) | (refine ⟨by kernel_rfl, ?_⟩) | rfl | fail)
  rcases Int.lt_or_le w 1 with g4 | g4
  · rw [decide_eq_false (show ¬ cellP s w t by unfold cellP; omega)]
    repeat' ((conv => whnf); first | (refine ask_false (by omega) ?_) | (refine ask_true (by omega) ?_) | (refine ask_wrap64 (by omega) (by omega) ?_) | (refine ⟨by kernel_rfl, ?_⟩) | rfl | fail)
  rcases Int.lt_or_le s t with g5 | g5
  · rcases Int.lt_or_le (t - s) w with g6 | g6
    · rw [decide_eq_false (show ¬ cellP s w t by unfold cellP; omega)]
      repeat' ((conv => whnf); first | (refine ask_false (by omega) ?_) | (refine ask_true (by omega) ?_) | (refine ask_wrap64 (by omega) (by omega) ?_) | (refine ⟨by kernel_rfl, ?_⟩) | rfl | fail)
    · rw [decide_eq_true (show cellP s w t by unfold cellP; omega)]
      repeat' ((conv => whnf); first | (refine ask_false (by omega) ?_) | (refine ask_true (by omega) ?_) | (refine ask_wrap64 (by omega) (by omega) ?_) | (refine ⟨by kernel_rfl, ?_⟩) | rfl | fail)
  · rw [decide_eq_false (show ¬ cellP s w t by unfold cellP; omega)]
    repeat' ((conv => whnf); first | (refine ask_false (by omega) ?_) | (refine ask_true (by omega) ?_) | (refine ask_wrap64 (by omega) (by omega) ?_) | (refine ⟨by kernel_rfl, ?_⟩) | rfl | fail)
def ctCell : Ct := fun ws K => match ws with
  | [.c (.ci .i64 s), .c (.ci .i64 w), .c (.ci .i64 t)] => ∀ τ, τ = decide (cellP s w t) → K (vb τ)
  | _ => False
theorem cell_ct : CtOk Tryz.prog 150 ctCell := by
  intro ws K h' hr
  unfold ctCell at h'
  split at h'
  · rename_i s w t
    exact ⟨_, h' _ rfl, ⟨trivial, rfl⟩, walk_calls F0_ok Tryz.func150 (n := 0) rfl hr rfl (cell_walk s w t)⟩
  · exact h'.elim

/-! ### places -/
/-- A decoder is as it should be. -/
structure DOk (d : DS) : Prop where
  c0 : 0 ≤ d.code
  c1 : d.code ≤ 4294967295
  r0 : 16777216 ≤ d.rng
  r1 : d.rng ≤ 4294967295
def stepS (d : DS) (t : Int) : Int := d.rng / t
def atS (d : DS) (t : Int) : Int := min (d.code / stepS d t) (t - 1)
theorem stepS_in {d : DS} (h : DOk d) {t : Int} (h1 : 1 ≤ t) (h2 : t ≤ 32768) : 512 ≤ stepS d t ∧ stepS d t ≤ 4294967295 ∧ stepS d t * t ≤ d.rng := by
  have h0 := h.r0
  have h3 := h.r1
  unfold stepS
  have e := Int.ediv_mul_le d.rng (show t ≠ 0 by omega)
  refine ⟨?_, ?_, e⟩
  · rw [Int.le_ediv_iff_mul_le (by omega)]; omega
  · exact Int.le_trans (Int.ediv_le_self _ (by omega)) h3
theorem divu32 {a b : Int} (h0 : 0 ≤ a) (h1 : a ≤ 4294967295) (hb : 1 ≤ b) : IntKind.u32.wrap (a.tdiv b) = a / b ∧ 0 ≤ a / b ∧ a / b ≤ 4294967295 := by
  have g0 := Int.ediv_nonneg h0 (show 0 ≤ b by omega)
  have g1 := Int.ediv_le_self b h0
  rw [Int.tdiv_eq_ediv_of_nonneg h0]
  exact ⟨wrap_of_in (by simp only [InK, lowK, highK]; omega), g0, by omega⟩
theorem at_walk {H : List Blk} {j : Nat} {d : DS} (hj : H[j]? = some (dcB d)) (hd : DOk d) {t : Int} (h1 : 1 ≤ t) (h2 : t ≤ 32768) : walk F0 0 Tryz.f114 [.c (.cp j 0), i64 t] H fun x H' => x = .tup [.c (.ci .i64 (atS d t)), .c (.ci .i64 0)] ∧ H' = H := by
  obtain ⟨c0, c1, r0, r1⟩ := hd
  have hs := stepS_in ⟨c0, c1, r0, r1⟩ h1 h2
  have q1 := divu32 (by omega) r1 h1
  have q2 := divu32 c0 c1 (show 1 ≤ stepS d t by omega)
  repeat' ((conv => whnf); first | (refine lenH_at ?_) | (refine ask_true (by omega) ?_) | (refine ask_false (by omega) ?_) | (refine And.intro rfl ?_) | (refine ask_wrap64 (by omega) (by omega) ?_) | (refine hGet_at hj ?_) | (refine ⟨by kernel_rfl, ?_⟩) | (refine maskB_as fun Hm hl hm => ?_) | (refine hGet_at (hm j _ hj (by simp)) ?_) | (refine ask_wrapu32 (by omega) (by omega) ?_) | fail)
  conv => whnf
  refine And.intro (by omega) fun r hr => ?_
  obtain rfl : r = stepS d t := hr.trans q1.1
  repeat' ((conv => whnf); first | (refine lenH_at ?_) | (refine ask_true (by omega) ?_) | (refine ask_false (by omega) ?_) | (refine And.intro rfl ?_) | (refine ask_wrap64 (by omega) (by omega) ?_) | (refine hGet_at hj ?_) | (refine ⟨by kernel_rfl, ?_⟩) | (refine maskB_as fun Hm hl hm => ?_) | (refine hGet_at (hm j _ hj (by simp)) ?_) | (refine ask_wrapu32 (by omega) (by omega) ?_) | fail)
  conv => whnf
  refine And.intro (by omega) fun r hr => ?_
  obtain rfl : r = d.code / stepS d t := hr.trans q2.1
  repeat' ((conv => whnf); first | (refine lenH_at ?_) | (refine ask_true (by omega) ?_) | (refine ask_false (by omega) ?_) | (refine And.intro rfl ?_) | (refine ask_wrap64 (by omega) (by omega) ?_) | (refine hGet_at hj ?_) | (refine ⟨by kernel_rfl, ?_⟩) | (refine maskB_as fun Hm hl hm => ?_) | (refine hGet_at (hm j _ hj (by simp)) ?_) | (refine ask_wrapu32 (by omega) (by omega) ?_) | fail)
  rfl
theorem ptr_bnd2 {H : List Blk} {j : Nat} {b : Blk} (hj : H[j]? = some b) {k : IntKind} {n : Int} : bndW H.length [.c (.cp j 0), .c (.ci k n)] = true := by
  have := (List.getElem?_eq_some_iff.1 hj).1
  show (decide (j < H.length) && (true && true)) = true
  simp [this]
def hAt : HCt := fun ws H K => match ws with
  | [.c (.cp j 0), .c (.ci .i64 t)] => ∃ d : DS, H[j]? = some (dcB d) ∧ DOk d ∧ (1 ≤ t ∧ t ≤ 32768) ∧ ∀ p, p = atS d t → K (.tup [.c (.ci .i64 p), .c (.ci .i64 0)]) H
  | _ => False
theorem at_ct : HCtOk Tryz.prog 114 hAt := by
  intro ws H K h hr hb ho G σ base w₀ w hw
  unfold hAt at h
  split at h
  · rename_i j t
    obtain ⟨d, hj, hd, h0, hK⟩ := h
    exact heap_lift F0_ok Tryz.func114 (n := 0) (ws := [.c (.cp j 0), i64 t]) ⟨trivial, hr.2.1, trivial⟩ (ptr_bnd2 hj) ho (at_walk hj hd h0.1 h0.2) (fun x H' hP => by
      obtain ⟨rfl, rfl⟩ := hP
      exact hK _ rfl) G σ base w₀ w hw
  · exact h.elim
end R
end Go.Proofs.YtaficaacogcblaaGreatDoor
