/- Yh, Yi, Yj, Yk: what the law wants of them. -/
import Derived.Test.YtaficaacogcblaaGreatDoorZl
set_option linter.all false
namespace Go.Proofs.YtaficaacogcblaaGreatDoor
namespace R
open Go.RowKit (Below)
set_option maxRecDepth 100000
set_option maxHeartbeats 16000000
abbrev logB (D : Nat) (n : Int) : Blk := .own 117 [.one (.cp D 0), .one (.ci .u32 1), .one (.ci .i64 n), .one (.cb false)]
abbrev TW : List Nat := [77, 131, 117]
theorem mDk : ∀ t, List.elem t [77, 131] = true → List.elem t TW = true := fun t h => by
  simp at h ⊢
  rcases h with h | h
  · exact .inl h
  · exact .inr (.inl h)
theorem mLg : ∀ t, List.elem t [117] = true → List.elem t TW = true := fun t h => by simp at h ⊢; exact .inr (.inr h)
def LogAt (H : List Blk) (L D : Nat) (ws : List (List Int)) : Prop := H[L]? = some (logB D ws.length) ∧ DskAt H D ws
theorem LogAt.up {Ts : List Nat} {H H' : List Blk} {L D : Nat} {ws : List (List Int)} (h : LogAt H L D ws) (u : UpT Ts H H') (h1 : Ts.elem 77 = false) (h2 : Ts.elem 131 = false) (h3 : Ts.elem 117 = false) : LogAt H' L D ws :=
  ⟨u.keep _ _ h.1 (by simp only [freeB, h3]; rfl), h.2.up u h1 h2⟩
noncomputable def FWr : Fns := ((F0.plus 130 ctLayP).over 131 hDWrite).every 777777 |>.every 131
theorem FWr_ok : FnsOk Tryz.prog FWr D.G1 := (((D.F0_okg.plusG play_ct Tryz.func130 (by kernel_rfl) (by kernel_rfl)).overG dwrite_ct Tryz.func131 (by kernel_rfl) (by kernel_rfl)).every _).every _
theorem write_walk {H : List Blk} (hH : HOk H) {L D : Nat} {ws : List (List Int)} (h : LogAt H L D ws) (hn : ws.length < 96) {e n k : Int} {f l : Bool} {d : ByteArray} (hp : pgR k f l d) :
    walk6 FWr 0 Tryz.f82 [.c (.cp L 0), pqW e n k f l d] H fun y H' => y = vi 0 ∧ UpT TW H H' ∧ LogAt H' L D (ws ++ [layP 1 ws.length k f l d]) := by
  obtain ⟨hL, hd⟩ := h
  have hLl := (List.getElem?_eq_some_iff.1 hL).1
  have hDl : D < H.length := by obtain ⟨_, _, _, g, _⟩ := hd.ex; exact (List.getElem?_eq_some_iff.1 g).1
  have u1 : UpT TW H (H ++ [.own 127 (pq 1 ws.length k f l d)]) := (UpT.refl hH.bnd).app rfl
  repeat' ((conv => whnf); first | (refine lenH_is ?_) | (refine pushH_at ?_) | (refine setH_as (set_top _ _ _) ?_) | (refine setH_as (set_low _ _ _ _) ?_) | (refine setH_as (set_top' _ _ _ _ _) ?_) | (refine hGet_at (up_get hL) ?_) | (refine And.intro ?_ trivial) | (refine And.intro rfl ?_) | (refine And.intro (And.intro (by decide) (by decide)) ?_) | (refine And.intro (And.intro (by decide) (And.intro (by decide) (by decide))) ?_) | (refine And.intro (Nat.le_of_ble_eq_true rfl) (And.intro (Nat.le_of_ble_eq_true rfl) ?_)) | (refine And.intro (Nat.le_of_ble_eq_true rfl) ?_) | (refine ask_false (by omega) ?_) | (refine ask_true (by omega) ?_) | (refine ask_wrap64 (by omega) (by omega) ?_) | (refine And.intro (And.intro (by omega) (by omega)) ?_) | (refine fun (_ : InK _ _) => ?_) | (refine ⟨by kernel_rfl, ?_⟩) | fail)
  conv => whnf
  refine red_up (α := Unit) (List.range' 7 11) (fun _ => True) (fun _ => []) (fun _ => H ++ [.own 127 (pq 1 ws.length k f l d)]) (by kernel_rfl) ?_ ?_ ?_
  · intro _ _
    have d1 := get_blt (up_get (N := [.own 127 (pq 1 ws.length k f l d)]) hL)
    have d2 := get_blt (up_top H (.own 127 (pq 1 ws.length k f l d)))
    repeat' (first | rfl | exact d1 | exact d2 | refine and_t ?_ ?_)
  · intro _ _
    repeat' ((conv => whnf); first | (refine lenH_is ?_) | (refine pushH_at ?_) | (refine setH_as (set_top _ _ _) ?_) | (refine setH_as (set_low _ _ _ _) ?_) | (refine setH_as (set_top' _ _ _ _ _) ?_) | (refine hGet_at (up_get hL) ?_) | (refine hGet_at (up_top _ _) ?_) | (refine And.intro ?_ trivial) | (refine And.intro rfl ?_) | (refine And.intro (And.intro (by decide) (by decide)) ?_) | (refine And.intro (And.intro (by decide) (And.intro (by decide) (by decide))) ?_) | (refine And.intro (Nat.le_of_ble_eq_true rfl) (And.intro (Nat.le_of_ble_eq_true rfl) ?_)) | (refine And.intro (Nat.le_of_ble_eq_true rfl) ?_) | (refine ask_false (by omega) ?_) | (refine ask_true (by omega) ?_) | (refine ask_wrap64 (by omega) (by omega) ?_) | (refine And.intro (And.intro (by omega) (by omega)) ?_) | (refine fun (_ : InK _ _) => ?_) | (refine ⟨by kernel_rfl, ?_⟩) | fail)
    refine And.intro hp fun bs hbs => ?_
    repeat' ((conv => whnf); first | (refine lenH_is ?_) | (refine pushH_at ?_) | (refine setH_as (set_top _ _ _) ?_) | (refine setH_as (set_low _ _ _ _) ?_) | (refine setH_as (set_top' _ _ _ _ _) ?_) | (refine hGet_at (up_get hL) ?_) | (refine hGet_at (up_top _ _) ?_) | (refine And.intro ?_ trivial) | (refine And.intro rfl ?_) | (refine And.intro (And.intro (by decide) (by decide)) ?_) | (refine And.intro (And.intro (by decide) (And.intro (by decide) (by decide))) ?_) | (refine And.intro (Nat.le_of_ble_eq_true rfl) (And.intro (Nat.le_of_ble_eq_true rfl) ?_)) | (refine And.intro (Nat.le_of_ble_eq_true rfl) ?_) | (refine ask_false (by omega) ?_) | (refine ask_true (by omega) ?_) | (refine ask_wrap64 (by omega) (by omega) ?_) | (refine And.intro (And.intro (by omega) (by omega)) ?_) | (refine fun (_ : InK _ _) => ?_) | (refine ⟨by kernel_rfl, ?_⟩) | fail)
    conv => whnf
    have hl64 : bs.length = 64 := by rw [hbs]; exact layP_len hp.2.2
    have u2 : UpT TW H (H ++ [.own 127 (pq 1 ws.length k f l d)] ++ [.own 98 [.ints .u8 64 bs]]) := u1.app rfl
    have v2 : UpT [] H (H ++ [.own 127 (pq 1 ws.length k f l d)] ++ [.own 98 [.ints .u8 64 bs]]) := ((UpT.refl hH.bnd).app rfl).app rfl
    obtain ⟨B2, hB2⟩ : ∃ B2, B2 = H ++ [.own 127 (pq 1 ws.length k f l d)] ++ [.own 98 [.ints .u8 64 bs]] := ⟨_, rfl⟩
    have hl2 : B2.length = H.length + 2 := by rw [hB2]; simp
    have hl1 : (H ++ [Blk.own 127 (pq 1 ws.length k f l d)]).length = H.length + 1 := by simp
    rw [← hB2] at u2 v2
    refine red_up (α := List Blk) (6 :: List.range' 25 10) (fun G => UpT TW B2 G ∧ G[L]? = some (logB D ws.length) ∧ DskAt G D (ws ++ [bs])) (fun _ => [(6, vi 0)]) (fun G => G) (by kernel_rfl) ?_ ?_ ?_
    · rintro G ⟨u, g, dk⟩
      have hul := u.len
      have d1 := get_blt g
      have d2 : decide (H.length < G.length) = true := decide_eq_true (by omega)
      have d3 : decide ((H ++ [Blk.own 127 (pq 1 ws.length k f l d)]).length < G.length) = true := decide_eq_true (by omega)
      repeat' (first | rfl | exact d1 | exact d2 | exact d3 | refine and_t ?_ ?_)
    · rintro G ⟨u, g, dk⟩
      have hbG := u.bnd _ (List.mem_of_getElem? g)
      repeat' ((conv => whnf); first | (refine lenH_is ?_) | (refine pushH_at ?_) | (refine setH_as (set_top _ _ _) ?_) | (refine setH_as (set_low _ _ _ _) ?_) | (refine setH_as (set_top' _ _ _ _ _) ?_) | (refine hGet_at (g) ?_) | (refine And.intro ?_ trivial) | (refine And.intro rfl ?_) | (refine And.intro (And.intro (by decide) (by decide)) ?_) | (refine And.intro (And.intro (by decide) (And.intro (by decide) (by decide))) ?_) | (refine And.intro (Nat.le_of_ble_eq_true rfl) (And.intro (Nat.le_of_ble_eq_true rfl) ?_)) | (refine And.intro (Nat.le_of_ble_eq_true rfl) ?_) | (refine ask_false (by omega) ?_) | (refine ask_true (by omega) ?_) | (refine ask_wrap64 (by omega) (by omega) ?_) | (refine And.intro (And.intro (by omega) (by omega)) ?_) | (refine fun (_ : InK _ _) => ?_) | (refine ⟨by kernel_rfl, ?_⟩) | fail)
      refine setH_up g u.bnd hbG fun G2 _ w2 g2 => ?_
      repeat' ((conv => whnf); first | (refine lenH_is ?_) | (refine pushH_at ?_) | (refine setH_as (set_top _ _ _) ?_) | (refine setH_as (set_low _ _ _ _) ?_) | (refine setH_as (set_top' _ _ _ _ _) ?_) | (refine hGet_at (g2) ?_) | (refine And.intro ?_ trivial) | (refine And.intro rfl ?_) | (refine And.intro (And.intro (by decide) (by decide)) ?_) | (refine And.intro (And.intro (by decide) (And.intro (by decide) (by decide))) ?_) | (refine And.intro (Nat.le_of_ble_eq_true rfl) (And.intro (Nat.le_of_ble_eq_true rfl) ?_)) | (refine And.intro (Nat.le_of_ble_eq_true rfl) ?_) | (refine ask_false (by omega) ?_) | (refine ask_true (by omega) ?_) | (refine ask_wrap64 (by omega) (by omega) ?_) | (refine And.intro (And.intro (by omega) (by omega)) ?_) | (refine fun (_ : InK _ _) => ?_) | (refine ⟨by kernel_rfl, ?_⟩) | fail)
      have e1 : ((ws ++ [layP 1 ws.length k f l d]).length : Int) = ws.length + 1 := by simp
      refine ⟨(u2.trans u).trans (w2.mono mLg), ?_, ?_⟩
      · rw [e1]; exact g2
      · rw [← hbs]; exact dk.up w2 rfl rfl
    · rw [← hB2]
      have gL := v2.keep _ _ hL rfl
      have gP : B2[(H ++ [Blk.own 127 (pq 1 ws.length k f l d)]).length]? = some (.own 98 [.ints .u8 64 bs]) := by rw [hB2]; exact up_top _ _
      repeat' ((conv => whnf); first | (refine hGet_at gL ?_) | (refine hGet_at gP ?_) | (refine And.intro ?_ (And.intro ?_ (And.intro ?_ trivial))) | (refine And.intro ?_ (And.intro ?_ trivial)) | (refine And.intro ?_ trivial) | (refine ⟨ws, hd.up v2 rfl rfl, ⟨hn, rfl, rfl⟩, fun G u dk => ?_⟩) | fail)
      all_goals
        have g' := u.keep _ _ gL rfl
        exact ⟨G, ⟨u.mono mDk, g', dk⟩, ⟨rfl, ⟨⟨Nat.le_of_ble_eq_true rfl, rfl⟩, trivial⟩, wkH_refl _, bndH_of u.bnd, by have := u.len; omega⟩⟩
  · repeat' ((conv => whnf); first | (refine hGet_at (up_get hL) ?_) | (refine hGet_at (up_top _ _) ?_) | (refine setH_as (set_top _ _ _) ?_) | (refine ask_wrapu32 (by omega) (by omega) ?_) | (refine And.intro ?_ (And.intro ?_ trivial)) | (refine And.intro ?_ trivial) | fail)
    all_goals exact ⟨(), trivial, ⟨rfl, trivial, wkH_refl _, bndH_of u1.bnd, u1.len⟩⟩
def hWr : HCt := fun ws' H K => match ws' with
  | [.c (.cp L 0), .agg [.one (.ci .u32 _), .one (.ci .u32 _), .one (.ci .i64 k), .one (.cb f), .one (.cb l), .one (.cs d)]] => ∃ (D : Nat) (ws : List (List Int)), LogAt H L D ws ∧ (ws.length < 96 ∧ pgR k f l d) ∧ ∀ H', UpT TW H H' → LogAt H' L D (ws ++ [layP 1 ws.length k f l d]) → K (vi 0) H'
  | _ => False
theorem wr_ct : HCtOkG Tryz.prog D.G1 82 hWr := by
  intro ws' H K h hr hb ho σ base w₀ w hw
  unfold hWr at h
  split at h
  · rename_i L e n k f l d
    obtain ⟨D, ws, hl, ⟨hn, hp⟩, hK⟩ := h
    exact heap_lift6 FWr_ok Tryz.func82 (n := 0) (ws := [.c (.cp L 0), pqW e n k f l d]) hr hb ho (write_walk ho hl hn hp) (fun x H' hP => by
      obtain ⟨rfl, u, s⟩ := hP
      exact hK H' u s) σ base w₀ w hw
  · exact h.elim
structure Pc where
  f : Bool
  l : Bool
  d : ByteArray
noncomputable def putP : Nat → List Pc → List (List Int)
  | _, [] => []
  | i, p :: ps => if i % 16 = 0 then layP 1 i 1 false false (numB i) :: layP 1 ((i + 1 : Nat) : Int) 2 p.f p.l p.d :: putP (i + 2) ps else layP 1 i 2 p.f p.l p.d :: putP (i + 1) ps
def needN : Nat → Nat → Nat
  | _, 0 => 0
  | i, c + 1 => if i % 16 = 0 then needN (i + 2) c + 2 else needN (i + 1) c + 1
theorem putP_len : ∀ (i : Nat) (ps : List Pc), (putP i ps).length = needN i ps.length
  | _, [] => rfl
  | i, p :: ps => by
    rw [putP, List.length_cons, needN]
    split
    · rw [List.length_cons, List.length_cons, putP_len (i + 2) ps]
    · rw [List.length_cons, putP_len (i + 1) ps]
theorem putP_app : ∀ (i : Nat) (a b : List Pc), putP i (a ++ b) = putP i a ++ putP (i + (putP i a).length) b
  | i, [], b => by simp [putP]
  | i, p :: a, b => by
    rw [List.cons_append, putP, putP]
    split
    · rw [putP_app (i + 2) a b]; simp only [List.cons_append, List.length_cons]; rw [show i + 2 + (putP (i + 2) a).length = i + ((putP (i + 2) a).length + 1 + 1) by omega]
    · rw [putP_app (i + 1) a b]; simp only [List.cons_append, List.length_cons]; rw [show i + 1 + (putP (i + 1) a).length = i + ((putP (i + 1) a).length + 1) by omega]
theorem need_head {i c : Nat} (h : i % 16 = 0) : needN i (c + 1) = 1 + needN (i + 1) (c + 1) := by
  rw [needN, if_pos h, needN, if_neg (by omega), show i + 1 + 1 = i + 2 from rfl]; omega
theorem need_data {i c : Nat} (h : ¬ i % 16 = 0) : needN i (c + 1) = 1 + needN (i + 1) c := by
  rw [needN, if_neg h]; omega
noncomputable def FPut : Fns := ((F0.plus 49 ctHeads).plus 83 ctNumber).over 82 hWr
theorem FPut_ok : FnsOk Tryz.prog FPut D.G1 := ((D.F0_okg.plusG heads_ct Tryz.func49 (by kernel_rfl) (by kernel_rfl)).plusG number_ct Tryz.func83 (by kernel_rfl) (by kernel_rfl)).overG wr_ct Tryz.func82 (by kernel_rfl) (by kernel_rfl)
theorem lput_walk {H : List Blk} (hH : HOk H) {L D : Nat} {ws : List (List Int)} (h : LogAt H L D ws) {e n : Int} {f l : Bool} {d : ByteArray} (hn : ws.length + (putP ws.length [⟨f, l, d⟩]).length ≤ 96) (hp : pgR 2 f l d) :
    walk6 FPut 0 Tryz.f50 [.c (.cp L 0), pqW e n 2 f l d] H fun y H' => y = vi 0 ∧ UpT TW H H' ∧ LogAt H' L D (ws ++ putP ws.length [⟨f, l, d⟩]) := by
  have hL := h.1
  have hLl := (List.getElem?_eq_some_iff.1 hL).1
  have u1 : UpT [] H (H ++ [.own 127 (pq e n 2 f l d)]) := (UpT.refl hH.bnd).app rfl
  have g1 := h.up u1 rfl rfl rfl
  rw [putP_len] at hn
  repeat' ((conv => whnf); first | (refine lenH_is ?_) | (refine pushH_at ?_) | (refine setH_as (set_top _ _ _) ?_) | (refine setH_as (set_low _ _ _ _) ?_) | (refine setH_as (set_top' _ _ _ _ _) ?_) | (refine hGet_at (up_get hL) ?_) | (refine And.intro ?_ trivial) | (refine And.intro rfl ?_) | (refine And.intro (And.intro (by decide) (by decide)) ?_) | (refine And.intro (And.intro (by decide) (And.intro (by decide) (by decide))) ?_) | (refine And.intro (Nat.le_of_ble_eq_true rfl) (And.intro (Nat.le_of_ble_eq_true rfl) ?_)) | (refine And.intro (Nat.le_of_ble_eq_true rfl) ?_) | (refine ask_false (by omega) ?_) | (refine ask_true (by omega) ?_) | (refine ask_wrap64 (by omega) (by omega) ?_) | (refine And.intro (And.intro (by omega) (by omega)) ?_) | (refine fun (_ : InK _ _) => ?_) | (refine ⟨by kernel_rfl, ?_⟩) | fail)
  refine And.intro (by omega) fun b hb => ?_
  rcases Nat.eq_zero_or_pos (ws.length % 16) with g | g
  · obtain rfl : b = true := by rw [hb]; exact decide_eq_true (by omega)
    have e2 : putP ws.length [⟨f, l, d⟩] = [layP 1 ws.length 1 false false (numB ws.length), layP 1 ((ws.length + 1 : Nat) : Int) 2 f l d] := by rw [putP, if_pos g]; rfl
    have e3 : needN ws.length 1 = 2 := by rw [needN, if_pos g]; rfl
    have hR : pgR 1 false false (numB ws.length) := ⟨.inr ⟨rfl, rfl, rfl⟩, by unfold numB; rw [strOfNums_size]; exact ⟨Nat.le_of_ble_eq_true rfl, Nat.le_of_ble_eq_true rfl⟩⟩
    rw [show List.length [(⟨f, l, d⟩ : Pc)] = 1 from rfl, e3] at hn
    repeat' ((conv => whnf); first | (refine lenH_is ?_) | (refine pushH_at ?_) | (refine setH_as (set_top _ _ _) ?_) | (refine setH_as (set_low _ _ _ _) ?_) | (refine setH_as (set_top' _ _ _ _ _) ?_) | (refine hGet_at (up_get hL) ?_) | (refine And.intro ?_ trivial) | (refine And.intro rfl ?_) | (refine And.intro (And.intro (by decide) (by decide)) ?_) | (refine And.intro (And.intro (by decide) (And.intro (by decide) (by decide))) ?_) | (refine And.intro (Nat.le_of_ble_eq_true rfl) (And.intro (Nat.le_of_ble_eq_true rfl) ?_)) | (refine And.intro (Nat.le_of_ble_eq_true rfl) ?_) | (refine ask_false (by omega) ?_) | (refine ask_true (by omega) ?_) | (refine ask_wrap64 (by omega) (by omega) ?_) | (refine And.intro (And.intro (by omega) (by omega)) ?_) | (refine fun (_ : InK _ _) => ?_) | (refine ⟨by kernel_rfl, ?_⟩) | fail)
    refine ⟨ws.length, ⟨rfl, by omega⟩, fun s hs => ?_⟩
    subst hs
    repeat' ((conv => whnf); first | (refine lenH_is ?_) | (refine pushH_at ?_) | (refine setH_as (set_top _ _ _) ?_) | (refine setH_as (set_low _ _ _ _) ?_) | (refine setH_as (set_top' _ _ _ _ _) ?_) | (refine And.intro ?_ trivial) | (refine And.intro rfl ?_) | (refine And.intro (And.intro (by decide) (by decide)) ?_) | (refine And.intro (And.intro (by decide) (And.intro (by decide) (by decide))) ?_) | (refine And.intro (Nat.le_of_ble_eq_true rfl) (And.intro (Nat.le_of_ble_eq_true rfl) ?_)) | (refine And.intro (Nat.le_of_ble_eq_true rfl) ?_) | (refine ask_false (by omega) ?_) | (refine ask_true (by omega) ?_) | (refine ask_wrap64 (by omega) (by omega) ?_) | (refine And.intro (And.intro (by omega) (by omega)) ?_) | (refine fun (_ : InK _ _) => ?_) | (refine ⟨by kernel_rfl, ?_⟩) | fail)
    refine ⟨D, ws, g1, ⟨by omega, hR⟩, fun H2 u2 g2 => ?_⟩
    have gb := u2.keep _ _ (up_top H (.own 127 (pq e n 2 f l d))) rfl
    repeat' ((conv => whnf); first | (refine lenH_is ?_) | (refine pushH_at ?_) | (refine setH_as (set_top _ _ _) ?_) | (refine setH_as (set_low _ _ _ _) ?_) | (refine setH_as (set_top' _ _ _ _ _) ?_) | (refine hGet_at (gb) ?_) | (refine And.intro ?_ trivial) | (refine And.intro rfl ?_) | (refine And.intro (And.intro (by decide) (by decide)) ?_) | (refine And.intro (And.intro (by decide) (And.intro (by decide) (by decide))) ?_) | (refine And.intro (Nat.le_of_ble_eq_true rfl) (And.intro (Nat.le_of_ble_eq_true rfl) ?_)) | (refine And.intro (Nat.le_of_ble_eq_true rfl) ?_) | (refine ask_false (by omega) ?_) | (refine ask_true (by omega) ?_) | (refine ask_wrap64 (by omega) (by omega) ?_) | (refine And.intro (And.intro (by omega) (by omega)) ?_) | (refine fun (_ : InK _ _) => ?_) | (refine ⟨by kernel_rfl, ?_⟩) | fail)
    refine ⟨D, ws ++ [layP 1 ws.length 1 false false (numB ws.length)], g2, ⟨by simp; omega, hp⟩, fun H3 u3 g3 => ?_⟩
    repeat' ((conv => whnf); first | (refine lenH_is ?_) | (refine pushH_at ?_) | (refine setH_as (set_top _ _ _) ?_) | (refine setH_as (set_low _ _ _ _) ?_) | (refine setH_as (set_top' _ _ _ _ _) ?_) | (refine And.intro ?_ trivial) | (refine And.intro rfl ?_) | (refine And.intro (And.intro (by decide) (by decide)) ?_) | (refine And.intro (And.intro (by decide) (And.intro (by decide) (by decide))) ?_) | (refine And.intro (Nat.le_of_ble_eq_true rfl) (And.intro (Nat.le_of_ble_eq_true rfl) ?_)) | (refine And.intro (Nat.le_of_ble_eq_true rfl) ?_) | (refine ask_false (by omega) ?_) | (refine ask_true (by omega) ?_) | (refine ask_wrap64 (by omega) (by omega) ?_) | (refine And.intro (And.intro (by omega) (by omega)) ?_) | (refine fun (_ : InK _ _) => ?_) | (refine ⟨by kernel_rfl, ?_⟩) | fail)
    refine ⟨(u1.any.trans u2).trans u3, ?_⟩
    rw [e2]
    have e4 : ((ws ++ [layP 1 ws.length 1 false false (numB ws.length)]).length : Int) = ((ws.length + 1 : Nat) : Int) := by simp
    rw [e4, List.append_assoc] at g3
    exact g3
  · obtain rfl : b = false := by rw [hb]; exact decide_eq_false (by omega)
    have e2 : putP ws.length [⟨f, l, d⟩] = [layP 1 ws.length 2 f l d] := by rw [putP, if_neg (by omega)]; rfl
    have e3 : needN ws.length 1 = 1 := by rw [needN, if_neg (by omega)]; rfl
    rw [show List.length [(⟨f, l, d⟩ : Pc)] = 1 from rfl, e3] at hn
    repeat' ((conv => whnf); first | (refine lenH_is ?_) | (refine pushH_at ?_) | (refine setH_as (set_top _ _ _) ?_) | (refine setH_as (set_low _ _ _ _) ?_) | (refine setH_as (set_top' _ _ _ _ _) ?_) | (refine hGet_at (up_get hL) ?_) | (refine hGet_at (up_top _ _) ?_) | (refine And.intro ?_ trivial) | (refine And.intro rfl ?_) | (refine And.intro (And.intro (by decide) (by decide)) ?_) | (refine And.intro (And.intro (by decide) (And.intro (by decide) (by decide))) ?_) | (refine And.intro (Nat.le_of_ble_eq_true rfl) (And.intro (Nat.le_of_ble_eq_true rfl) ?_)) | (refine And.intro (Nat.le_of_ble_eq_true rfl) ?_) | (refine ask_false (by omega) ?_) | (refine ask_true (by omega) ?_) | (refine ask_wrap64 (by omega) (by omega) ?_) | (refine And.intro (And.intro (by omega) (by omega)) ?_) | (refine fun (_ : InK _ _) => ?_) | (refine ⟨by kernel_rfl, ?_⟩) | fail)
    refine ⟨D, ws, g1, ⟨by omega, hp⟩, fun H3 u3 g3 => ?_⟩
    repeat' ((conv => whnf); first | (refine lenH_is ?_) | (refine pushH_at ?_) | (refine setH_as (set_top _ _ _) ?_) | (refine setH_as (set_low _ _ _ _) ?_) | (refine setH_as (set_top' _ _ _ _ _) ?_) | (refine And.intro ?_ trivial) | (refine And.intro rfl ?_) | (refine And.intro (And.intro (by decide) (by decide)) ?_) | (refine And.intro (And.intro (by decide) (And.intro (by decide) (by decide))) ?_) | (refine And.intro (Nat.le_of_ble_eq_true rfl) (And.intro (Nat.le_of_ble_eq_true rfl) ?_)) | (refine And.intro (Nat.le_of_ble_eq_true rfl) ?_) | (refine ask_false (by omega) ?_) | (refine ask_true (by omega) ?_) | (refine ask_wrap64 (by omega) (by omega) ?_) | (refine And.intro (And.intro (by omega) (by omega)) ?_) | (refine fun (_ : InK _ _) => ?_) | (refine ⟨by kernel_rfl, ?_⟩) | fail)
    refine ⟨u1.any.trans u3, ?_⟩
    rw [e2]
    exact g3
def hPut : HCt := fun ws' H K => match ws' with
  | [.c (.cp L 0), .agg [.one (.ci .u32 _), .one (.ci .u32 _), .one (.ci .i64 k), .one (.cb f), .one (.cb l), .one (.cs d)]] => k = 2 ∧ ∃ (D : Nat) (ws : List (List Int)), LogAt H L D ws ∧ (ws.length + (putP ws.length [⟨f, l, d⟩]).length ≤ 96 ∧ pgR 2 f l d) ∧ ∀ H', UpT TW H H' → LogAt H' L D (ws ++ putP ws.length [⟨f, l, d⟩]) → K (vi 0) H'
  | _ => False
theorem lput_ct : HCtOkG Tryz.prog D.G1 50 hPut := by
  intro ws' H K h hr hb ho σ base w₀ w hw
  unfold hPut at h
  split at h
  · rename_i L e n k f l d
    obtain ⟨rfl, D, ws, hl, ⟨hn, hp⟩, hK⟩ := h
    exact heap_lift6 FPut_ok Tryz.func50 (n := 0) (ws := [.c (.cp L 0), pqW e n 2 f l d]) hr hb ho (lput_walk ho hl hn hp) (fun x H' hP => by
      obtain ⟨rfl, u, s⟩ := hP
      exact hK H' u s) σ base w₀ w hw
  · exact h.elim
def ctPages : Ct := fun ws K => match ws with
  | [.c (.ci .i64 n)] => (1 ≤ n ∧ n ≤ 4096) ∧ K (vi ((n + 48) / 49))
  | _ => False
theorem pages_walk {n : Int} (h : 1 ≤ n ∧ n ≤ 4096) : walk6 F0 0 Tryz.f80 [i64 n] [] fun y _ => y = vi ((n + 48) / 49) := by
  repeat' ((conv => whnf); first | (refine lenH_is ?_) | (refine pushH_at ?_) | (refine setH_as (set_top _ _ _) ?_) | (refine setH_as (set_low _ _ _ _) ?_) | (refine setH_as (set_top' _ _ _ _ _) ?_) | (refine And.intro ?_ trivial) | (refine And.intro rfl ?_) | (refine And.intro (And.intro (by decide) (by decide)) ?_) | (refine And.intro (And.intro (by decide) (And.intro (by decide) (by decide))) ?_) | (refine And.intro (Nat.le_of_ble_eq_true rfl) (And.intro (Nat.le_of_ble_eq_true rfl) ?_)) | (refine And.intro (Nat.le_of_ble_eq_true rfl) ?_) | (refine ask_false (by omega) ?_) | (refine ask_true (by omega) ?_) | (refine ask_wrap64 (by omega) (by omega) ?_) | (refine And.intro (And.intro (by omega) (by omega)) ?_) | (refine fun (_ : InK _ _) => ?_) | (refine ⟨by kernel_rfl, ?_⟩) | fail)
  refine And.intro (by decide) fun r hr => ?_
  rw [tdiv_pos (by omega), wrap_of_in (k := .i64) ⟨by simp only [lowK]; omega, by simp only [highK]; omega⟩] at hr
  repeat' ((conv => whnf); first | (refine lenH_is ?_) | (refine pushH_at ?_) | (refine setH_as (set_top _ _ _) ?_) | (refine setH_as (set_low _ _ _ _) ?_) | (refine setH_as (set_top' _ _ _ _ _) ?_) | (refine And.intro ?_ trivial) | (refine And.intro rfl ?_) | (refine And.intro (And.intro (by decide) (by decide)) ?_) | (refine And.intro (And.intro (by decide) (And.intro (by decide) (by decide))) ?_) | (refine And.intro (Nat.le_of_ble_eq_true rfl) (And.intro (Nat.le_of_ble_eq_true rfl) ?_)) | (refine And.intro (Nat.le_of_ble_eq_true rfl) ?_) | (refine ask_false (by omega) ?_) | (refine ask_true (by omega) ?_) | (refine ask_wrap64 (by omega) (by omega) ?_) | (refine And.intro (And.intro (by omega) (by omega)) ?_) | (refine fun (_ : InK _ _) => ?_) | (refine ⟨by kernel_rfl, ?_⟩) | fail)
  rw [hr]
  show vi ((n + 49 - 1) / 49) = _
  rw [show n + 49 - 1 = n + 48 by omega]
theorem pages_ct : CtOkG Tryz.prog D.G1 80 ctPages := by
  intro ws K h hr
  unfold ctPages at h
  split at h
  · rename_i n
    obtain ⟨h1, hK⟩ := h
    refine ⟨_, hK, ⟨?_, rfl⟩, fun σ w hg => val_lift6 D.F0_okg Tryz.func80 (n := 0) rfl hr rfl (pages_walk h1) σ w hg⟩
    show InK .i64 _
    simp only [InK, lowK, highK]; omega
  · exact h.elim
def ctNeed : Ct := fun ws K => match ws with
  | [.c (.ci .i64 x), .c (.ci .i64 n)] => ∃ (i c : Nat), (x = i ∧ i ≤ 96 ∧ (1 ≤ n ∧ n ≤ 4096) ∧ (c : Int) = (n + 48) / 49) ∧ K (vi (needN i c))
  | _ => False
noncomputable def FNd : Fns := (F0.plus 80 ctPages).plus 49 ctHeads
theorem FNd_ok : FnsOk Tryz.prog FNd D.G1 := (D.F0_okg.plusG pages_ct Tryz.func80 (by kernel_rfl) (by kernel_rfl)).plusG heads_ct Tryz.func49 (by kernel_rfl) (by kernel_rfl)
theorem need_le : ∀ (i c : Nat), needN i c ≤ 2 * c
  | _, 0 => Nat.le_refl _
  | i, c + 1 => by
    rw [needN]
    split
    · have := need_le (i + 2) c; omega
    · have := need_le (i + 1) c; omega
structure N3 where
  i : Nat
  c : Nat
  o : Nat
theorem need_walk {i c : Nat} {n : Int} (hi : i ≤ 96) (hn : 1 ≤ n ∧ n ≤ 4096) (hc : (c : Int) = (n + 48) / 49) : walk6 FNd 0 Tryz.f48 [i64 i, i64 n] [] fun y _ => y = vi (needN i c) := by
  have hle := need_le i c
  repeat' ((conv => whnf); first | (refine lenH_is ?_) | (refine pushH_at ?_) | (refine setH_as (set_top _ _ _) ?_) | (refine setH_as (set_low _ _ _ _) ?_) | (refine setH_as (set_top' _ _ _ _ _) ?_) | (refine And.intro ?_ trivial) | (refine And.intro rfl ?_) | (refine And.intro (And.intro (by decide) (by decide)) ?_) | (refine And.intro (And.intro (by decide) (And.intro (by decide) (by decide))) ?_) | (refine And.intro (Nat.le_of_ble_eq_true rfl) (And.intro (Nat.le_of_ble_eq_true rfl) ?_)) | (refine And.intro (Nat.le_of_ble_eq_true rfl) ?_) | (refine ask_false (by omega) ?_) | (refine ask_true (by omega) ?_) | (refine ask_wrap64 (by omega) (by omega) ?_) | (refine And.intro (And.intro (by omega) (by omega)) ?_) | (refine fun (_ : InK _ _) => ?_) | (refine ⟨by kernel_rfl, ?_⟩) | fail)
  conv => whnf
  refine loop_at (5 :: 6 :: 7 :: List.range' 17 11) (fun m (z : N3) => m = needN z.i z.c ∧ z.o + needN z.i z.c = needN i c ∧ z.i + needN z.i z.c = i + needN i c ∧ z.c ≤ c) (fun z => [(5, vi z.c), (6, vi z.o), (7, vi z.i)]) (fun _ => []) (needN i c) ⟨i, c, 0⟩ ⟨rfl, Nat.zero_add _, rfl, Nat.le_refl _⟩ ?_ ?_
  · refine ⟨rfl, ⟨⟨Nat.le_of_ble_eq_true rfl, ?_⟩, ⟨Nat.le_of_ble_eq_true rfl, rfl⟩, ⟨Nat.le_of_ble_eq_true rfl, rfl⟩, trivial⟩, trivial, rfl, rfl, Nat.le_refl _⟩
    show vi ((n + 48) / 49) = vi (c : Int)
    rw [hc]
  · rintro m z ⟨rfl, h1, h2, h3⟩
    rcases Nat.eq_zero_or_pos z.c with g | g
    · repeat' ((conv => whnf); first | (refine lenH_is ?_) | (refine pushH_at ?_) | (refine setH_as (set_top _ _ _) ?_) | (refine setH_as (set_low _ _ _ _) ?_) | (refine setH_as (set_top' _ _ _ _ _) ?_) | (refine And.intro ?_ trivial) | (refine And.intro rfl ?_) | (refine And.intro (And.intro (by decide) (by decide)) ?_) | (refine And.intro (And.intro (by decide) (And.intro (by decide) (by decide))) ?_) | (refine And.intro (Nat.le_of_ble_eq_true rfl) (And.intro (Nat.le_of_ble_eq_true rfl) ?_)) | (refine And.intro (Nat.le_of_ble_eq_true rfl) ?_) | (refine ask_false (by omega) ?_) | (refine ask_true (by omega) ?_) | (refine ask_wrap64 (by omega) (by omega) ?_) | (refine And.intro (And.intro (by omega) (by omega)) ?_) | (refine fun (_ : InK _ _) => ?_) | (refine ⟨by kernel_rfl, ?_⟩) | fail)
      have e0 : needN z.i z.c = 0 := by rw [g]; rfl
      show vi (z.o : Int) = vi (needN i c : Int)
      rw [← h1, e0, Nat.add_zero]
    · obtain ⟨c', hc'⟩ : ∃ c', z.c = c' + 1 := ⟨z.c - 1, by omega⟩
      have hpos : 1 ≤ needN z.i z.c := by
        rw [hc', needN]; split <;> omega
      rcases Nat.eq_zero_or_pos (z.i % 16) with q | q
      · have e1 := need_head (c := c') q
        rw [← hc'] at e1
        repeat' ((conv => whnf); first | (refine lenH_is ?_) | (refine pushH_at ?_) | (refine setH_as (set_top _ _ _) ?_) | (refine setH_as (set_low _ _ _ _) ?_) | (refine setH_as (set_top' _ _ _ _ _) ?_) | (refine And.intro ?_ trivial) | (refine And.intro rfl ?_) | (refine And.intro (And.intro (by decide) (by decide)) ?_) | (refine And.intro (And.intro (by decide) (And.intro (by decide) (by decide))) ?_) | (refine And.intro (Nat.le_of_ble_eq_true rfl) (And.intro (Nat.le_of_ble_eq_true rfl) ?_)) | (refine And.intro (Nat.le_of_ble_eq_true rfl) ?_) | (refine ask_false (by omega) ?_) | (refine ask_true (by omega) ?_) | (refine ask_wrap64 (by omega) (by omega) ?_) | (refine And.intro (And.intro (by omega) (by omega)) ?_) | (refine fun (_ : InK _ _) => ?_) | (refine ⟨by kernel_rfl, ?_⟩) | fail)
        refine And.intro (by omega) fun b hb => ?_
        obtain rfl : b = true := by rw [hb]; exact decide_eq_true (by omega)
        repeat' ((conv => whnf); first | (refine lenH_is ?_) | (refine pushH_at ?_) | (refine setH_as (set_top _ _ _) ?_) | (refine setH_as (set_low _ _ _ _) ?_) | (refine setH_as (set_top' _ _ _ _ _) ?_) | (refine And.intro ?_ trivial) | (refine And.intro rfl ?_) | (refine And.intro (And.intro (by decide) (by decide)) ?_) | (refine And.intro (And.intro (by decide) (And.intro (by decide) (by decide))) ?_) | (refine And.intro (Nat.le_of_ble_eq_true rfl) (And.intro (Nat.le_of_ble_eq_true rfl) ?_)) | (refine And.intro (Nat.le_of_ble_eq_true rfl) ?_) | (refine ask_false (by omega) ?_) | (refine ask_true (by omega) ?_) | (refine ask_wrap64 (by omega) (by omega) ?_) | (refine And.intro (And.intro (by omega) (by omega)) ?_) | (refine fun (_ : InK _ _) => ?_) | (refine ⟨by kernel_rfl, ?_⟩) | fail)
        exact ⟨needN (z.i + 1) z.c, ⟨z.i + 1, z.c, z.o + 1⟩, by omega, ⟨rfl, by show z.o + 1 + needN (z.i + 1) z.c = _; omega, by show z.i + 1 + needN (z.i + 1) z.c = _; omega, h3⟩, ⟨rfl, ⟨⟨Nat.le_of_ble_eq_true rfl, rfl⟩, ⟨Nat.le_of_ble_eq_true rfl, rfl⟩, ⟨Nat.le_of_ble_eq_true rfl, rfl⟩, trivial⟩, trivial, rfl, rfl, Nat.le_refl _⟩⟩
      · have e1 := need_data (i := z.i) (c := c') (by omega)
        rw [← hc'] at e1
        repeat' ((conv => whnf); first | (refine lenH_is ?_) | (refine pushH_at ?_) | (refine setH_as (set_top _ _ _) ?_) | (refine setH_as (set_low _ _ _ _) ?_) | (refine setH_as (set_top' _ _ _ _ _) ?_) | (refine And.intro ?_ trivial) | (refine And.intro rfl ?_) | (refine And.intro (And.intro (by decide) (by decide)) ?_) | (refine And.intro (And.intro (by decide) (And.intro (by decide) (by decide))) ?_) | (refine And.intro (Nat.le_of_ble_eq_true rfl) (And.intro (Nat.le_of_ble_eq_true rfl) ?_)) | (refine And.intro (Nat.le_of_ble_eq_true rfl) ?_) | (refine ask_false (by omega) ?_) | (refine ask_true (by omega) ?_) | (refine ask_wrap64 (by omega) (by omega) ?_) | (refine And.intro (And.intro (by omega) (by omega)) ?_) | (refine fun (_ : InK _ _) => ?_) | (refine ⟨by kernel_rfl, ?_⟩) | fail)
        refine And.intro (by omega) fun b hb => ?_
        obtain rfl : b = false := by rw [hb]; exact decide_eq_false (by omega)
        repeat' ((conv => whnf); first | (refine lenH_is ?_) | (refine pushH_at ?_) | (refine setH_as (set_top _ _ _) ?_) | (refine setH_as (set_low _ _ _ _) ?_) | (refine setH_as (set_top' _ _ _ _ _) ?_) | (refine And.intro ?_ trivial) | (refine And.intro rfl ?_) | (refine And.intro (And.intro (by decide) (by decide)) ?_) | (refine And.intro (And.intro (by decide) (And.intro (by decide) (by decide))) ?_) | (refine And.intro (Nat.le_of_ble_eq_true rfl) (And.intro (Nat.le_of_ble_eq_true rfl) ?_)) | (refine And.intro (Nat.le_of_ble_eq_true rfl) ?_) | (refine ask_false (by omega) ?_) | (refine ask_true (by omega) ?_) | (refine ask_wrap64 (by omega) (by omega) ?_) | (refine And.intro (And.intro (by omega) (by omega)) ?_) | (refine fun (_ : InK _ _) => ?_) | (refine ⟨by kernel_rfl, ?_⟩) | fail)
        refine ⟨needN (z.i + 1) c', ⟨z.i + 1, c', z.o + 1⟩, by omega, ⟨rfl, by show z.o + 1 + needN (z.i + 1) c' = _; omega, by show z.i + 1 + needN (z.i + 1) c' = _; omega, by show c' ≤ c; omega⟩, ⟨rfl, ⟨⟨Nat.le_of_ble_eq_true rfl, ?_⟩, ⟨Nat.le_of_ble_eq_true rfl, rfl⟩, ⟨Nat.le_of_ble_eq_true rfl, rfl⟩, trivial⟩, trivial, rfl, rfl, Nat.le_refl _⟩⟩
        show vi ((z.c : Int) - 1) = vi (c' : Int)
        rw [hc']
        congr 3
        omega
theorem need_ct : CtOkG Tryz.prog D.G1 48 ctNeed := by
  intro ws K h hr
  unfold ctNeed at h
  split at h
  · rename_i x n
    obtain ⟨i, c, ⟨rfl, h1, h2, h3⟩, hK⟩ := h
    refine ⟨_, hK, ⟨?_, rfl⟩, fun σ w hg => val_lift6 FNd_ok Tryz.func48 (n := 0) (ws := [i64 i, i64 n]) rfl hr rfl (need_walk h1 h2 h3) σ w hg⟩
    have := need_le i c
    show InK .i64 _
    simp only [InK, lowK, highK]; omega
  · exact h.elim
end R
end Go.Proofs.YtaficaacogcblaaGreatDoor
set_option linter.all false
namespace Go.Proofs.YtaficaacogcblaaGreatDoor
namespace R
open Go.RowKit (Below)
set_option maxRecDepth 100000
set_option maxHeartbeats 16000000
def npc (rec : ByteArray) : Nat := (rec.size + 48) / 49
def pcAt (rec : ByteArray) (k : Nat) : Pc := ⟨decide (k = 0), decide (k + 1 = npc rec), rec.extract (49 * k) (49 * k + 49)⟩
def pcs (rec : ByteArray) : List Pc := (List.range (npc rec)).map (pcAt rec)
abbrev cutRow (e : Int) (p : Pc) : List Seg := pq e 0 2 p.f p.l p.d
def cutRows (e : Int) (rec : ByteArray) : List (List Seg) := (pcs rec).map (cutRow e)
def hCut : HCt := fun ws H K => match ws with
  | [.c (.ci .u32 e), .c (.cs rec)] => (1 ≤ rec.size ∧ rec.size ≤ 4096) ∧ ∀ H' v, UpT [] H H' → SlAt 127 6 H' v (cutRows e rec) → K (.tup [.c v, i64 0]) H'
  | _ => False
theorem pcs_len (rec : ByteArray) : (pcs rec).length = npc rec := by simp [pcs]
theorem pcs_get {rec : ByteArray} {k : Nat} (h : k < npc rec) : (pcs rec)[k]? = some (pcAt rec k) := by simp [pcs, h]
theorem pcAt_ok {rec : ByteArray} {k : Nat} (h : k < npc rec) : pgR 2 (pcAt rec k).f (pcAt rec k).l (pcAt rec k).d := by
  refine ⟨.inl rfl, ?_⟩
  unfold npc at h
  show 1 ≤ (rec.extract (49 * k) (49 * k + 49)).size ∧ (rec.extract (49 * k) (49 * k + 49)).size ≤ 49
  rw [ByteArray.size_extract]
  omega
theorem take_pc {rec : ByteArray} {k : Nat} (h : k < npc rec) : (pcs rec).take (k + 1) = (pcs rec).take k ++ [pcAt rec k] := by
  have hl : k < (pcs rec).length := by rw [pcs_len]; exact h
  have := pcs_get h
  rw [List.getElem?_eq_getElem hl] at this
  rw [List.take_succ_eq_append_getElem hl, Option.some.inj this]
theorem rec_pgs (rec : ByteArray) (h1 : 1 ≤ rec.size) (h2 : rec.size ≤ 4096) (t : List ByteArray) : ∀ (m k i : Nat), k + m = npc rec → 0 < m → Pgs i ⟨!decide (k = 0), rec.extract 0 (49 * k), t⟩ (putP i ((pcs rec).drop k)) ⟨false, ⟨#[]⟩, t ++ [rec]⟩ := by
  intro m
  induction m with
  | zero => intro k i _ h; exact absurd h (Nat.lt_irrefl _)
  | succ m ih =>
    intro k i hk _
    have hkn : k < npc rec := by omega
    have hl : k < (pcs rec).length := by rw [pcs_len]; exact hkn
    have hg := pcs_get hkn
    rw [List.getElem?_eq_getElem hl] at hg
    rw [List.drop_eq_getElem_cons hl, Option.some.inj hg]
    have hR := pcAt_ok hkn
    have hsz : (rec.extract 0 (49 * k)).size + (pcAt rec k).d.size ≤ 4096 := by
      show (rec.extract 0 (49 * k)).size + (rec.extract (49 * k) (49 * k + 49)).size ≤ 4096
      rw [ByteArray.size_extract, ByteArray.size_extract]
      omega
    have hcat : rec.extract 0 (49 * k) ++ (pcAt rec k).d = rec.extract 0 (49 * (k + 1)) := by
      show rec.extract 0 (49 * k) ++ rec.extract (49 * k) (49 * k + 49) = _
      rw [ByteArray.extract_append_extract]
      congr 1 <;> omega
    have hf : (pcAt rec k).f = !(!decide (k = 0)) := by simp [pcAt]
    -- what stands behind the piece's own page
    have step : ∀ q : Nat, ¬ q % 16 = 0 → Pgs q ⟨!decide (k = 0), rec.extract 0 (49 * k), t⟩ (layP 1 q 2 (pcAt rec k).f (pcAt rec k).l (pcAt rec k).d :: putP (q + 1) ((pcs rec).drop (k + 1))) ⟨false, ⟨#[]⟩, t ++ [rec]⟩ := by
      intro q hq
      rcases Nat.eq_zero_or_pos m with hm | hm
      · have hlast : (pcAt rec k).l = true := by
          show decide (k + 1 = npc rec) = true
          exact decide_eq_true (by omega)
        have hall : rec.extract 0 (49 * (k + 1)) = rec := by
          have : rec.size ≤ 49 * (k + 1) := by unfold npc at hk; omega
          rw [← str_bytesI (rec.extract 0 (49 * (k + 1))), B.bytesI_ext, List.drop_zero, List.take_of_length_le (by rw [len_bytesI]; omega), str_bytesI]
        have hd : (pcs rec).drop (k + 1) = [] := List.drop_of_length_le (by rw [pcs_len]; omega)
        rw [hd, hlast, hf]
        refine .cons (.last _ _ _ _ hq ?_ hsz) ?_
        · rw [← hf, ← hlast]; exact hR
        · rw [hcat, hall]; exact .nil _ _
      · have hmore : (pcAt rec k).l = false := by
          show decide (k + 1 = npc rec) = false
          exact decide_eq_false (by omega)
        rw [hmore, hf]
        refine .cons (.data _ _ _ _ hq ?_ hsz) ?_
        · rw [← hf, ← hmore]; exact hR
        · rw [hcat]
          have := ih (k + 1) (q + 1) (by omega) hm
          rwa [show (!decide (k + 1 = 0)) = true by simp] at this
    rw [putP]
    split
    · rename_i h16
      exact .cons (.head _ h16) (step (i + 1) (by omega))
    · rename_i h16
      exact step i h16
theorem load_whole {P : Program} {T : TypeId} {n : Nat} {rs : List (List Seg)} {K : W → Prop} (ht : isAg (tyOf P T) = some true) {inf : TypeInfo} (hinf : P.info? T = some inf) (hsz : inf.size = n) (h : ∀ r ∈ rs, rowOk n r) (h0 : oneAt rs.flatten 0 = true) {i p : Nat} {r : List Seg} (hi : rs[i]? = some r) (hp : p = i * n) (hK : K (.agg r)) : kLoad P T rs.flatten 0 (some p) K := by
  subst hp hsz
  unfold kLoad
  simp only [h0]
  unfold kLoad0
  rw [ht, Nat.zero_add]
  simp only [hinf]
  exact segRd_whole h hi hK
theorem maskB_aw {ft : List Nat} {n : Nat} {H : List Blk} {K : List Blk → Prop} (h : ∀ Hm : List Blk, (∀ (s : Nat) (b : Blk), H[s]? = some b → n + s ∈ ft → Hm[s]? = some b) → K Hm) : maskB false ft n H K := maskB_as fun Hm _ hm => h Hm hm
theorem maskR_as {ft : List Nat} : ∀ {n : Nat} {H : List Blk} {K : List Blk → Prop}, (∀ Hm : List Blk, Hm.length = H.length → (∀ (s : Nat) (b : Blk), H[s]? = some b → n + s ∈ ft → Hm[s]? = some (roB b)) → K Hm) → maskB true ft n H K
  | _, [], K, h => h [] rfl fun s b hs => by simp at hs
  | n, b :: H, K, h => by
    have step : ∀ z : Blk, (n ∈ ft → z = roB b) → maskB true ft (n + 1) H fun r => K (z :: r) := fun z hz => maskR_as fun Hm hl hm => h (z :: Hm) (by simp [hl]) fun s c hs hin => by
      cases s with
      | zero =>
        obtain rfl : b = c := by simpa using hs
        rw [hz hin]; rfl
      | succ s =>
        have hs' : H[s]? = some c := by simpa using hs
        have := hm s c hs' (by rw [show n + 1 + s = n + (s + 1) by omega]; exact hin)
        simpa using this
    unfold maskB
    cases he : ft.elem n with
    | true => exact step (roB b) fun _ => rfl
    | false => exact step .gone fun hin => by rw [List.elem_iff.2 hin] at he; cases he
noncomputable def FAp : Fns := ((((((F0.over 47 hCut).plus 48 ctNeed).plus 49 ctHeads).into 32 Tryz.f32).into 29 Tryz.f29).over 50 hPut)
theorem FAp_ok (hcut : HCtOkG Tryz.prog D.G1 47 hCut) : FnsOk Tryz.prog FAp D.G1 := ((((((D.F0_okg.overG hcut Tryz.func47 (by kernel_rfl) (by kernel_rfl)).plusG need_ct Tryz.func48 (by kernel_rfl) (by kernel_rfl)).plusG heads_ct Tryz.func49 (by kernel_rfl) (by kernel_rfl)).into Tryz.func32 (by kernel_rfl) (by kernel_rfl)).into Tryz.func29 (by kernel_rfl) (by kernel_rfl)).overG lput_ct Tryz.func50 (by kernel_rfl) (by kernel_rfl))
theorem app_walk {H : List Blk} (hH : HOk H) {L D : Nat} {ws : List (List Int)} (h : LogAt H L D ws) {rec : ByteArray} (h1 : 1 ≤ rec.size) (h2 : rec.size ≤ 4096) :
    walk6 FAp 2 Tryz.f28 [.c (.cp L 0), .c (.cs rec)] H fun y H' => (96 < ws.length + (putP ws.length (pcs rec)).length → y = .tup [i64 0, i64 5] ∧ UpT [] H H') ∧ (ws.length + (putP ws.length (pcs rec)).length ≤ 96 → ∃ a, y = .tup [i64 a, i64 0] ∧ UpT TW H H' ∧ LogAt H' L D (ws ++ putP ws.length (pcs rec))) := by
  rw [putP_len, pcs_len]
  have hlen := h.2.len
  repeat' ((conv => whnf); first | (refine lenH_is ?_) | (refine pushH_at ?_) | (refine setH_as (set_top _ _ _) ?_) | (refine setH_as (set_low _ _ _ _) ?_) | (refine setH_as (set_top' _ _ _ _ _) ?_) | (refine And.intro ?_ trivial) | (refine And.intro rfl ?_) | (refine And.intro (And.intro (by decide) (by decide)) ?_) | (refine And.intro (And.intro (by decide) (And.intro (by decide) (by decide))) ?_) | (refine And.intro (Nat.le_of_ble_eq_true rfl) (And.intro (Nat.le_of_ble_eq_true rfl) ?_)) | (refine And.intro (Nat.le_of_ble_eq_true rfl) ?_) | (refine ask_false (by omega) ?_) | (refine ask_true (by omega) ?_) | (refine ask_wrap64 (by omega) (by omega) ?_) | (refine And.intro (And.intro (by omega) (by omega)) ?_) | (refine fun (_ : InK _ _) => ?_) | (refine ⟨by kernel_rfl, ?_⟩) | fail)
  refine fun H1 v u1 hv => ?_
  obtain ⟨g1, dk⟩ := h.up u1 rfl rfl rfl
  obtain ⟨m1, v1, m2, gd, _⟩ := dk.ex
  repeat' ((conv => whnf); first | (refine lenH_is ?_) | (refine maskB_aw fun Hm hm => ?_) | (refine hGet_at g1 ?_) | (refine hGet_at (hm _ _ g1 (by simp)) ?_) | (refine hGet_at (hm _ _ gd (by simp)) ?_) | (refine ⟨by kernel_rfl, ?_⟩) | (refine ask_false (by omega) ?_) | fail)
  conv => whnf
  refine ⟨ws.length, npc rec, ⟨rfl, hlen, ⟨by omega, by omega⟩, by unfold npc; omega⟩, ?_⟩
  repeat' ((conv => whnf); first | (refine lenH_is ?_) | (refine maskB_aw fun Hm hm => ?_) | (refine hGet_at (hm _ _ g1 (by simp)) ?_) | (refine hGet_at (hm _ _ gd (by simp)) ?_) | (refine ⟨by kernel_rfl, ?_⟩) | (refine And.intro (by decide) (ask_is (f := 6) (by decide) ?_)) | (refine ask_wrap64 (by omega) (by omega) ?_) | fail)
  conv => whnf
  refine ⟨[D], vi 96, rfl, maskR_as fun Hr hlr hmr => ?_, ⟨by decide, by decide⟩, ?_⟩
  · have gr := hmr _ _ gd (by simp)
    repeat' ((conv => whnf); first | (refine lenH_is ?_) | (refine hGet_at gr ?_) | (refine And.intro (by decide) (ask_is (f := 6) (by decide) ?_)) | (refine ask_wrap64 (by omega) (by omega) ?_) | fail)
    rfl
  repeat' ((conv => whnf); first | (refine lenH_is ?_) | (refine maskB_aw fun Hm hm => ?_) | (refine hGet_at (hm _ _ g1 (by simp)) ?_) | (refine ⟨by kernel_rfl, ?_⟩) | (refine ask_wrap64 (by omega) (by omega) ?_) | fail)
  conv => whnf
  have hle := need_le ws.length (npc rec)
  have hn1 : 1 ≤ npc rec := by unfold npc; omega
  rcases Nat.lt_or_ge 96 (ws.length + needN ws.length (npc rec)) with hfull | hroom
  · repeat' ((conv => whnf); first | (refine ask_true (by omega) ?_) | (refine lenH_is ?_) | (refine maskB_aw fun Hm hm => ?_) | (refine ⟨by kernel_rfl, ?_⟩) | fail)
    exact ⟨fun _ => ⟨rfl, u1⟩, fun h => absurd h (by omega)⟩
  rcases hv with ⟨h0, _⟩ | ⟨h0, q, rest, rfl, hcap, hrows, hq⟩
  · have := congrArg List.length h0
    simp [cutRows, pcs_len] at this
    omega
  have hrl : (cutRows 0 rec).length = npc rec := by simp [cutRows, pcs_len]
  have hgetr : ∀ k, k < npc rec → (cutRows 0 rec ++ rest)[k]? = some (cutRow 0 (pcAt rec k)) := fun k hk => by
    rw [List.getElem?_append_left (by omega)]
    unfold cutRows
    rw [List.getElem?_map, pcs_get hk]
    rfl
  have hone : oneAt (cutRows 0 rec ++ rest).flatten 0 = true := oneAt_rows (hgetr 0 (by omega))
  repeat' ((conv => whnf); first | (refine ask_false (by omega) ?_) | (refine lenH_is ?_) | (refine maskB_aw fun Hm hm => ?_) | (refine ⟨by kernel_rfl, ?_⟩) | (refine hGet_at g1 ?_) | fail)
  conv => whnf
  refine And.intro (by omega) fun b hb => ?_
  cases b
  all_goals
    repeat' ((conv => whnf); first | (refine lenH_is ?_) | (refine pushH_at ?_) | (refine setH_as (set_top _ _ _) ?_) | (refine setH_as (set_low _ _ _ _) ?_) | (refine setH_as (set_top' _ _ _ _ _) ?_) | (refine And.intro ?_ trivial) | (refine And.intro rfl ?_) | (refine And.intro (And.intro (by decide) (by decide)) ?_) | (refine And.intro (And.intro (by decide) (And.intro (by decide) (by decide))) ?_) | (refine And.intro (Nat.le_of_ble_eq_true rfl) (And.intro (Nat.le_of_ble_eq_true rfl) ?_)) | (refine And.intro (Nat.le_of_ble_eq_true rfl) ?_) | (refine ask_false (by omega) ?_) | (refine ask_true (by omega) ?_) | (refine ask_wrap64 (by omega) (by omega) ?_) | (refine And.intro (And.intro (by omega) (by omega)) ?_) | (refine fun (_ : InK _ _) => ?_) | (refine ⟨by kernel_rfl, ?_⟩) | fail)
    conv => whnf
    refine loop_upJ (10 :: 11 :: List.range' 59 12) (fun m (z : KH) => (m = npc rec - z.k ∧ z.k ≤ npc rec) ∧ UpT TW H z.H ∧ LogAt z.H L D (ws ++ putP ws.length ((pcs rec).take z.k)) ∧ z.H[q]? = some (.own 127 (cutRows 0 rec ++ rest).flatten)) (fun z => [(59, vi z.k)]) (fun z => z.H) (npc rec) ⟨0, H1⟩ ⟨⟨rfl, Nat.zero_le _⟩, u1.any, (by rw [List.take_zero]; simpa [putP] using h.up u1 rfl rfl rfl), hq⟩ ?_ ?_ ?_
    · rintro m z ⟨_, u, lg, gq⟩
      have d1 := get_blt lg.1
      have d2 := get_blt gq
      obtain ⟨_, _, _, gd', _⟩ := lg.2.ex
      have d3 := get_blt gd'
      repeat' (first | rfl | exact d1 | exact d2 | exact d3 | refine and_t ?_ ?_)
    · exact ⟨rfl, ⟨⟨Nat.le_of_ble_eq_true rfl, rfl⟩, trivial⟩, wkH_refl _, bndH_of u1.bnd, u1.len⟩
    · rintro m z ⟨⟨rfl, k1⟩, u, lg, gq⟩
      rcases Nat.lt_or_ge z.k (npc rec) with hk | hk
      · have em : mulN (z.k : Int).toNat (Tryz.prog.types[127]).size = z.k * 6 := by
          rw [show (Tryz.prog.types[127]).size = 6 by kernel_rfl, mulN_eq, Int.toNat_natCast]
        have hrow := hgetr z.k hk
        repeat' ((conv => whnf); first | (refine lenH_is ?_) | (refine pushH_at ?_) | (refine setH_as (set_top _ _ _) ?_) | (refine setH_as (set_low _ _ _ _) ?_) | (refine setH_as (set_top' _ _ _ _ _) ?_) | (refine And.intro ?_ trivial) | (refine And.intro rfl ?_) | (refine And.intro (And.intro (by decide) (by decide)) ?_) | (refine And.intro (And.intro (by decide) (And.intro (by decide) (by decide))) ?_) | (refine And.intro (Nat.le_of_ble_eq_true rfl) (And.intro (Nat.le_of_ble_eq_true rfl) ?_)) | (refine And.intro (Nat.le_of_ble_eq_true rfl) ?_) | (refine ask_false (by omega) ?_) | (refine ask_true (by omega) ?_) | (refine ask_wrap64 (by omega) (by omega) ?_) | (refine And.intro (And.intro (by omega) (by omega)) ?_) | (refine fun (_ : InK _ _) => ?_) | (refine ⟨by kernel_rfl, ?_⟩) | fail)
        refine hGet_at gq ?_
        refine load_whole (by kernel_rfl) (inf := Tryz.prog.types[127]) (by kernel_rfl) (by kernel_rfl) hrows hone hrow (by rw [em]; omega) ?_
        have u2 : UpT [] z.H (z.H ++ [.own 127 (cutRow 0 (pcAt rec z.k))]) := (UpT.refl u.bnd).app rfl
        repeat' ((conv => whnf); first | (refine lenH_is ?_) | (refine pushH_at ?_) | (refine setH_as (set_top _ _ _) ?_) | (refine setH_as (set_low _ _ _ _) ?_) | (refine setH_as (set_top' _ _ _ _ _) ?_) | (refine hGet_at (up_top _ _) ?_) | (refine And.intro ?_ trivial) | (refine And.intro rfl ?_) | (refine And.intro (And.intro (by decide) (by decide)) ?_) | (refine And.intro (And.intro (by decide) (And.intro (by decide) (by decide))) ?_) | (refine And.intro (Nat.le_of_ble_eq_true rfl) (And.intro (Nat.le_of_ble_eq_true rfl) ?_)) | (refine And.intro (Nat.le_of_ble_eq_true rfl) ?_) | (refine ask_false (by omega) ?_) | (refine ask_true (by omega) ?_) | (refine ask_wrap64 (by omega) (by omega) ?_) | (refine And.intro (And.intro (by omega) (by omega)) ?_) | (refine fun (_ : InK _ _) => ?_) | (refine ⟨by kernel_rfl, ?_⟩) | fail)
        have e1 : putP ws.length ((pcs rec).take (z.k + 1)) = putP ws.length ((pcs rec).take z.k) ++ putP (ws ++ putP ws.length ((pcs rec).take z.k)).length [pcAt rec z.k] := by
          rw [take_pc hk, putP_app, List.length_append]
        have e2 : (putP ws.length ((pcs rec).take (z.k + 1))).length ≤ needN ws.length (npc rec) := by
          rw [← pcs_len rec, ← putP_len]
          conv => rhs; rw [← List.take_append_drop (z.k + 1) (pcs rec), putP_app, List.length_append]
          omega
        refine ⟨D, ws ++ putP ws.length ((pcs rec).take z.k), lg.up u2 rfl rfl rfl, ⟨?_, pcAt_ok hk⟩, fun H3 u3 g3 => ?_⟩
        · have e3 := congrArg List.length e1
          rw [List.length_append] at e3
          rw [List.length_append] at *
          show ws.length + _ + (putP _ [pcAt rec z.k]).length ≤ 96
          omega
        repeat' ((conv => whnf); first | (refine lenH_is ?_) | (refine pushH_at ?_) | (refine setH_as (set_top _ _ _) ?_) | (refine setH_as (set_low _ _ _ _) ?_) | (refine setH_as (set_top' _ _ _ _ _) ?_) | (refine And.intro ?_ trivial) | (refine And.intro rfl ?_) | (refine And.intro (And.intro (by decide) (by decide)) ?_) | (refine And.intro (And.intro (by decide) (And.intro (by decide) (by decide))) ?_) | (refine And.intro (Nat.le_of_ble_eq_true rfl) (And.intro (Nat.le_of_ble_eq_true rfl) ?_)) | (refine And.intro (Nat.le_of_ble_eq_true rfl) ?_) | (refine ask_false (by omega) ?_) | (refine ask_true (by omega) ?_) | (refine ask_wrap64 (by omega) (by omega) ?_) | (refine And.intro (And.intro (by omega) (by omega)) ?_) | (refine fun (_ : InK _ _) => ?_) | (refine ⟨by kernel_rfl, ?_⟩) | fail)
        have g4 : LogAt H3 L D (ws ++ putP ws.length ((pcs rec).take (z.k + 1))) := by
          rw [e1, ← List.append_assoc]; exact g3
        exact ⟨npc rec - (z.k + 1), ⟨z.k + 1, H3⟩, by omega, ⟨⟨rfl, hk⟩, (u.trans u2.any).trans u3, g4, u3.keep _ _ (u2.keep _ _ gq rfl) rfl⟩, ⟨rfl, ⟨⟨Nat.le_of_ble_eq_true rfl, rfl⟩, trivial⟩, wkH_refl _, bndH_of u3.bnd, ((u.trans u2.any).trans u3).len⟩⟩
      · repeat' ((conv => whnf); first | (refine lenH_is ?_) | (refine pushH_at ?_) | (refine setH_as (set_top _ _ _) ?_) | (refine setH_as (set_low _ _ _ _) ?_) | (refine setH_as (set_top' _ _ _ _ _) ?_) | (refine And.intro ?_ trivial) | (refine And.intro rfl ?_) | (refine And.intro (And.intro (by decide) (by decide)) ?_) | (refine And.intro (And.intro (by decide) (And.intro (by decide) (by decide))) ?_) | (refine And.intro (Nat.le_of_ble_eq_true rfl) (And.intro (Nat.le_of_ble_eq_true rfl) ?_)) | (refine And.intro (Nat.le_of_ble_eq_true rfl) ?_) | (refine ask_false (by omega) ?_) | (refine ask_true (by omega) ?_) | (refine ask_wrap64 (by omega) (by omega) ?_) | (refine And.intro (And.intro (by omega) (by omega)) ?_) | (refine fun (_ : InK _ _) => ?_) | (refine ⟨by kernel_rfl, ?_⟩) | fail)
        rw [List.take_of_length_le (by rw [pcs_len]; omega)] at lg
        exact ⟨fun h => absurd h (by omega), fun _ => ⟨_, rfl, u, lg⟩⟩
def hApp : HCt := fun ws' H K => match ws' with
  | [.c (.cp L 0), .c (.cs rec)] => ∃ (D : Nat) (ws : List (List Int)), LogAt H L D ws ∧ (1 ≤ rec.size ∧ rec.size ≤ 4096) ∧ (96 < ws.length + (putP ws.length (pcs rec)).length → ∀ H', UpT [] H H' → K (.tup [i64 0, i64 5]) H') ∧
      (ws.length + (putP ws.length (pcs rec)).length ≤ 96 → ∀ H' a, UpT TW H H' → LogAt H' L D (ws ++ putP ws.length (pcs rec)) → K (.tup [i64 a, i64 0]) H')
  | _ => False
theorem app_ct (hcut : HCtOkG Tryz.prog D.G1 47 hCut) : HCtOkG Tryz.prog D.G1 28 hApp := by
  intro ws' H K h hr hb ho σ base w₀ w hw
  unfold hApp at h
  split at h
  · rename_i L rec
    obtain ⟨D, ws, hl, ⟨h1, h2⟩, hK1, hK2⟩ := h
    exact heap_lift6 (FAp_ok hcut) Tryz.func28 (n := 2) (ws := [.c (.cp L 0), .c (.cs rec)]) hr hb ho (app_walk ho hl h1 h2) (fun x H' hP => by
      rcases Nat.lt_or_ge 96 (ws.length + (putP ws.length (pcs rec)).length) with g | g
      · obtain ⟨rfl, u⟩ := hP.1 g
        exact hK1 g H' u
      · obtain ⟨a, rfl, u, s⟩ := hP.2 g
        exact hK2 g H' a u s) σ base w₀ w hw
  · exact h.elim
theorem LogOk.app {ws : List (List Int)} {txs : List ByteArray} (h : LogOk ws txs) {rec : ByteArray} (h1 : 1 ≤ rec.size) (h2 : rec.size ≤ 4096) (hn : txs.length < 200) : LogOk (ws ++ putP ws.length (pcs rec)) (txs ++ [rec]) := by
  refine ⟨h.pgs.app ?_, by simp; omega⟩
  rw [Nat.zero_add]
  have := rec_pgs rec h1 h2 txs (npc rec) 0 ws.length (Nat.zero_add _) (by unfold npc; omega)
  rw [List.drop_zero] at this
  have e : rec.extract 0 (49 * 0) = ⟨#[]⟩ := by
    rw [← str_bytesI (rec.extract 0 (49 * 0)), B.bytesI_ext]
    rfl
  rw [e] at this
  exact this
end R
end Go.Proofs.YtaficaacogcblaaGreatDoor
set_option linter.all false
namespace Go.Proofs.YtaficaacogcblaaGreatDoor
namespace R
open Go.RowKit (Below)
set_option maxRecDepth 100000
set_option maxHeartbeats 16000000
noncomputable def FGa : Fns := F0.plus 20 (B.ctSS (fun _ => True) B.loseOut B.loseSt)
theorem FGa_ok : FnsOk Tryz.prog FGa D.G1 := D.F0_okg.plus B.lose_ct Tryz.func20 (by kernel_rfl) (by kernel_rfl)
theorem gap_walk (s : B.St) : walk6 FGa 0 Tryz.f57 [B.stW s] [] fun y _ => y = .tup [.agg [.ints .i64 16 (B.loseOut s)], B.stW B.st0] := by
  repeat' ((conv => whnf); first | (refine lenH_is ?_) | (refine pushH_at ?_) | (refine setH_as (set_top _ _ _) ?_) | (refine setH_as (set_low _ _ _ _) ?_) | (refine setH_as (set_top' _ _ _ _ _) ?_) | (refine And.intro ?_ trivial) | (refine And.intro rfl ?_) | (refine And.intro (And.intro (by decide) (by decide)) ?_) | (refine And.intro (And.intro (by decide) (And.intro (by decide) (by decide))) ?_) | (refine And.intro (Nat.le_of_ble_eq_true rfl) (And.intro (Nat.le_of_ble_eq_true rfl) ?_)) | (refine And.intro (Nat.le_of_ble_eq_true rfl) ?_) | (refine ask_false (by omega) ?_) | (refine ask_true (by omega) ?_) | (refine ask_wrap64 (by omega) (by omega) ?_) | (refine And.intro (And.intro (by omega) (by omega)) ?_) | (refine fun (_ : InK _ _) => ?_) | (refine ⟨by kernel_rfl, ?_⟩) | fail)
  refine And.intro trivial ?_
  repeat' ((conv => whnf); first | (refine lenH_is ?_) | (refine pushH_at ?_) | (refine setH_as (set_top _ _ _) ?_) | (refine setH_as (set_low _ _ _ _) ?_) | (refine setH_as (set_top' _ _ _ _ _) ?_) | (refine And.intro ?_ trivial) | (refine And.intro rfl ?_) | (refine And.intro (And.intro (by decide) (by decide)) ?_) | (refine And.intro (And.intro (by decide) (And.intro (by decide) (by decide))) ?_) | (refine And.intro (Nat.le_of_ble_eq_true rfl) (And.intro (Nat.le_of_ble_eq_true rfl) ?_)) | (refine And.intro (Nat.le_of_ble_eq_true rfl) ?_) | (refine ask_false (by omega) ?_) | (refine ask_true (by omega) ?_) | (refine ask_wrap64 (by omega) (by omega) ?_) | (refine And.intro (And.intro (by omega) (by omega)) ?_) | (refine fun (_ : InK _ _) => ?_) | (refine ⟨by kernel_rfl, ?_⟩) | fail)
  rfl
def ctGap : Ct := fun ws K => match ws with
  | [.agg [.ints .i64 n m, .one (.ci .i64 l), .ints .i64 a v, .ints .i64 b w, .one (.ci .i64 q)]] => (n = 16 ∧ a = 4 ∧ b = 16) ∧ ∀ o, o = B.loseOut ⟨m, l, v, w, q⟩ → K (.tup [.agg [.ints .i64 16 o], B.stW B.st0])
  | _ => False
theorem gap_ct : CtOkG Tryz.prog D.G1 57 ctGap := by
  intro ws K h hr
  unfold ctGap at h
  split at h
  · rename_i n m l a v b w q
    obtain ⟨⟨rfl, rfl, rfl⟩, hK⟩ := h
    exact ⟨_, hK _ rfl, ⟨⟨⟨⟨B.loseOut_len _, B.loseOut_in _⟩, trivial⟩, st0_ok.ok.rng, trivial⟩, rfl⟩, fun σ w' hg => val_lift6 FGa_ok Tryz.func57 (n := 0) (ws := [B.stW ⟨m, l, v, w, q⟩]) rfl hr rfl (gap_walk _) σ w' hg⟩
  · exact h.elim
noncomputable def toldS (d : ByteArray) : B.St := open Classical in if d.size = 137 ∧ B.rightP (B.rdS (bytesI d)) then B.rdS (bytesI d) else B.st0
theorem toldS_ok (d : ByteArray) : B.StOk (toldS d) := by
  unfold toldS
  split
  · exact B.rdS_ok (bytesI_in d)
  · exact B.st0_ok
noncomputable def FTo : Fns := F0.plus 56 B.ctRead
theorem FTo_ok : FnsOk Tryz.prog FTo D.G1 := D.F0_okg.plus B.read_ct Tryz.func56 (by kernel_rfl) (by kernel_rfl)
theorem told_walk (k t : Int) (d : ByteArray) : walk6 FTo 0 Tryz.f46 [B.enW k t d] [] fun y _ => y = .w (B.stW (toldS d)) := by
  repeat' ((conv => whnf); first | (refine lenH_is ?_) | (refine pushH_at ?_) | (refine setH_as (set_top _ _ _) ?_) | (refine setH_as (set_low _ _ _ _) ?_) | (refine setH_as (set_top' _ _ _ _ _) ?_) | (refine And.intro ?_ trivial) | (refine And.intro rfl ?_) | (refine And.intro (And.intro (by decide) (by decide)) ?_) | (refine And.intro (And.intro (by decide) (And.intro (by decide) (by decide))) ?_) | (refine And.intro (Nat.le_of_ble_eq_true rfl) (And.intro (Nat.le_of_ble_eq_true rfl) ?_)) | (refine And.intro (Nat.le_of_ble_eq_true rfl) ?_) | (refine ask_false (by omega) ?_) | (refine ask_true (by omega) ?_) | (refine ask_wrap64 (by omega) (by omega) ?_) | (refine And.intro (And.intro (by omega) (by omega)) ?_) | (refine fun (_ : InK _ _) => ?_) | (refine ⟨by kernel_rfl, ?_⟩) | fail)
  conv => whnf
  refine ⟨fun h1 h2 => ?_, fun h1 h2 => ?_, fun h1 => ?_⟩
  · have e : toldS d = B.rdS (bytesI d) := by unfold toldS; rw [if_pos ⟨h1, h2⟩]
    rw [e]
    repeat' ((conv => whnf); first | (refine lenH_is ?_) | (refine pushH_at ?_) | (refine setH_as (set_top _ _ _) ?_) | (refine setH_as (set_low _ _ _ _) ?_) | (refine setH_as (set_top' _ _ _ _ _) ?_) | (refine And.intro ?_ trivial) | (refine And.intro rfl ?_) | (refine And.intro (And.intro (by decide) (by decide)) ?_) | (refine And.intro (And.intro (by decide) (And.intro (by decide) (by decide))) ?_) | (refine And.intro (Nat.le_of_ble_eq_true rfl) (And.intro (Nat.le_of_ble_eq_true rfl) ?_)) | (refine And.intro (Nat.le_of_ble_eq_true rfl) ?_) | (refine ask_false (by omega) ?_) | (refine ask_true (by omega) ?_) | (refine ask_wrap64 (by omega) (by omega) ?_) | (refine And.intro (And.intro (by omega) (by omega)) ?_) | (refine fun (_ : InK _ _) => ?_) | (refine ⟨by kernel_rfl, ?_⟩) | fail)
    rfl
  · have e : toldS d = B.st0 := by unfold toldS; rw [if_neg fun h => h2 h.2]
    rw [e]
    repeat' ((conv => whnf); first | (refine lenH_is ?_) | (refine pushH_at ?_) | (refine setH_as (set_top _ _ _) ?_) | (refine setH_as (set_low _ _ _ _) ?_) | (refine setH_as (set_top' _ _ _ _ _) ?_) | (refine And.intro ?_ trivial) | (refine And.intro rfl ?_) | (refine And.intro (And.intro (by decide) (by decide)) ?_) | (refine And.intro (And.intro (by decide) (And.intro (by decide) (by decide))) ?_) | (refine And.intro (Nat.le_of_ble_eq_true rfl) (And.intro (Nat.le_of_ble_eq_true rfl) ?_)) | (refine And.intro (Nat.le_of_ble_eq_true rfl) ?_) | (refine ask_false (by omega) ?_) | (refine ask_true (by omega) ?_) | (refine ask_wrap64 (by omega) (by omega) ?_) | (refine And.intro (And.intro (by omega) (by omega)) ?_) | (refine fun (_ : InK _ _) => ?_) | (refine ⟨by kernel_rfl, ?_⟩) | fail)
    rfl
  · have e : toldS d = B.st0 := by unfold toldS; rw [if_neg fun h => h1 h.1]
    rw [e]
    repeat' ((conv => whnf); first | (refine lenH_is ?_) | (refine pushH_at ?_) | (refine setH_as (set_top _ _ _) ?_) | (refine setH_as (set_low _ _ _ _) ?_) | (refine setH_as (set_top' _ _ _ _ _) ?_) | (refine And.intro ?_ trivial) | (refine And.intro rfl ?_) | (refine And.intro (And.intro (by decide) (by decide)) ?_) | (refine And.intro (And.intro (by decide) (And.intro (by decide) (by decide))) ?_) | (refine And.intro (Nat.le_of_ble_eq_true rfl) (And.intro (Nat.le_of_ble_eq_true rfl) ?_)) | (refine And.intro (Nat.le_of_ble_eq_true rfl) ?_) | (refine ask_false (by omega) ?_) | (refine ask_true (by omega) ?_) | (refine ask_wrap64 (by omega) (by omega) ?_) | (refine And.intro (And.intro (by omega) (by omega)) ?_) | (refine fun (_ : InK _ _) => ?_) | (refine ⟨by kernel_rfl, ?_⟩) | fail)
    rfl
def ctTold : Ct := fun ws K => match ws with
  | [.agg [.one (.ci .i64 _), .one (.ci .u32 _), .one (.cs d)]] => ∀ x, x = toldS d → K (.w (B.stW x))
  | _ => False
theorem told_ct : CtOkG Tryz.prog D.G1 46 ctTold := by
  intro ws K h hr
  unfold ctTold at h
  split at h
  · rename_i k t d
    exact ⟨_, h _ rfl, ⟨(toldS_ok d).rng, rfl⟩, fun σ w' hg => val_lift6 FTo_ok Tryz.func46 (n := 0) (ws := [B.enW k t d]) rfl hr rfl (told_walk k t d) σ w' hg⟩
  · exact h.elim
noncomputable def FTr : Fns := ((F0.plus 39 (B.ctSt B.rightP)).plus 34 (B.ctEn fun k _ d => B.rightE k d)).plus 46 ctTold
theorem FTr_ok : FnsOk Tryz.prog FTr D.G1 := ((D.F0_okg.plus B.right_ct Tryz.func39 (by kernel_rfl) (by kernel_rfl)).plus B.enRight_ct Tryz.func34 (by kernel_rfl) (by kernel_rfl)).plusG told_ct Tryz.func46 (by kernel_rfl) (by kernel_rfl)
theorem true_walk {H : List Blk} (hH : HOk H) {s : B.St} (hs : B.rightP s) (k t : Int) (d : ByteArray) : walk6 FTr 0 Tryz.f26 [B.stW s, B.enW k t d] H fun y H' => ∃ b, y = vb b ∧ (b = true → B.rightE k d) ∧ UpT [] H H' := by
  have u1 : UpT [] H (H ++ [.own 51 (B.stW s).segs] ++ [.own 35 (B.enW k t d).segs]) := ((UpT.refl hH.bnd).app rfl).app rfl
  repeat' ((conv => whnf); first | (refine lenH_is ?_) | (refine pushH_at ?_) | (refine maskB_aw fun Hm hm => ?_) | (refine hGet_at (hm _ _ (up_get (up_top _ _)) (by simp)) ?_) | (refine hGet_at (hm _ _ (up_top _ _) (by simp)) ?_) | (refine And.intro ⟨rfl, rfl, rfl⟩ (ask_true hs ?_)) | (refine ⟨by kernel_rfl, ?_⟩) | fail)
  conv => whnf
  rcases Classical.em (B.rightE k d) with hr | hr
  · refine ask_true hr ?_
    rcases Classical.em (k = 3) with h3 | h3
    · repeat' ((conv => whnf); first | (refine lenH_is ?_) | (refine maskB_aw fun Hm hm => ?_) | (refine hGet_at (hm _ _ (up_get (up_top _ _)) (by simp)) ?_) | (refine hGet_at (hm _ _ (up_top _ _) (by simp)) ?_) | (refine And.intro ⟨rfl, rfl, rfl⟩ (ask_true hs ?_)) | (refine ⟨by kernel_rfl, ?_⟩) | (refine ask_true (by omega) ?_) | (refine ask_false (by omega) ?_) | fail)
      conv => whnf
      refine fun x hx => ?_
      repeat' ((conv => whnf); first | (refine lenH_is ?_) | (refine maskB_aw fun Hm hm => ?_) | (refine hGet_at (hm _ _ (up_get (up_top _ _)) (by simp)) ?_) | (refine hGet_at (hm _ _ (up_top _ _) (by simp)) ?_) | (refine And.intro ⟨rfl, rfl, rfl⟩ (ask_true hs ?_)) | (refine ⟨by kernel_rfl, ?_⟩) | (refine ask_true (by omega) ?_) | (refine ask_false (by omega) ?_) | fail)
      conv => whnf
      refine fun τ _ => ?_
      repeat' ((conv => whnf); first | (refine lenH_is ?_) | (refine maskB_aw fun Hm hm => ?_) | (refine hGet_at (hm _ _ (up_get (up_top _ _)) (by simp)) ?_) | (refine hGet_at (hm _ _ (up_top _ _) (by simp)) ?_) | (refine And.intro ⟨rfl, rfl, rfl⟩ (ask_true hs ?_)) | (refine ⟨by kernel_rfl, ?_⟩) | (refine ask_true (by omega) ?_) | (refine ask_false (by omega) ?_) | fail)
      exact ⟨_, rfl, fun _ => hr, u1⟩
    · repeat' ((conv => whnf); first | (refine lenH_is ?_) | (refine maskB_aw fun Hm hm => ?_) | (refine hGet_at (hm _ _ (up_get (up_top _ _)) (by simp)) ?_) | (refine hGet_at (hm _ _ (up_top _ _) (by simp)) ?_) | (refine And.intro ⟨rfl, rfl, rfl⟩ (ask_true hs ?_)) | (refine ⟨by kernel_rfl, ?_⟩) | (refine ask_true (by omega) ?_) | (refine ask_false (by omega) ?_) | fail)
      exact ⟨_, rfl, fun _ => hr, u1⟩
  · refine ask_false hr ?_
    repeat' ((conv => whnf); first | (refine lenH_is ?_) | (refine maskB_aw fun Hm hm => ?_) | (refine hGet_at (hm _ _ (up_get (up_top _ _)) (by simp)) ?_) | (refine hGet_at (hm _ _ (up_top _ _) (by simp)) ?_) | (refine And.intro ⟨rfl, rfl, rfl⟩ (ask_true hs ?_)) | (refine ⟨by kernel_rfl, ?_⟩) | (refine ask_true (by omega) ?_) | (refine ask_false (by omega) ?_) | fail)
    exact ⟨_, rfl, fun h => (by cases h), u1⟩
def hTrue : HCt := fun ws H K => match ws with
  | [.agg [.ints .i64 n m, .one (.ci .i64 l), .ints .i64 a v, .ints .i64 b w, .one (.ci .i64 q)], .agg [.one (.ci .i64 k), .one (.ci .u32 _), .one (.cs d)]] => (n = 16 ∧ a = 4 ∧ b = 16) ∧ B.rightP ⟨m, l, v, w, q⟩ ∧ ∀ H' r, (r = true → B.rightE k d) → UpT [] H H' → K (vb r) H'
  | _ => False
theorem true_ct : HCtOkG Tryz.prog D.G1 26 hTrue := by
  intro ws' H K h hr hb ho σ base w₀ w' hw
  unfold hTrue at h
  split at h
  · rename_i n m l a v b w q k t d
    obtain ⟨⟨rfl, rfl, rfl⟩, hs, hK⟩ := h
    exact heap_lift6 FTr_ok Tryz.func26 (n := 0) (ws := [B.stW ⟨m, l, v, w, q⟩, B.enW k t d]) hr hb ho (true_walk ho hs k t d) (fun x H' hP => by
      obtain ⟨r, rfl, h1, u⟩ := hP
      exact hK H' r h1 u) σ base w₀ w' hw
  · exact h.elim
noncomputable def spB (s : B.St) (k : Int) (d : ByteArray) : List (List Int) := if k = 1 then [outD s d] else if k = 2 then [B.loseOut s] else []
noncomputable def spS (s : B.St) (k : Int) (d : ByteArray) : B.St := if k = 1 then stD s d else if k = 2 then B.st0 else s
def blkRows (l : List (List Int)) : List (List Seg) := l.map fun o => [.ints .i64 16 o]
theorem spS_ok {s : B.St} (h : StR s) (k : Int) (d : ByteArray) : StR (spS s k d) := by
  unfold spS
  split
  · exact stD_ok h.ok h.right
  · split
    · exact st0_ok
    · exact h
noncomputable def FSp : Fns := (((F0.plus 34 (B.ctEn fun k _ d => B.rightE k d)).plus 39 (B.ctSt B.rightP)).plus 18 ctDec).plus 57 ctGap |>.every 777777
theorem FSp_ok : FnsOk Tryz.prog FSp D.G1 := ((((D.F0_okg.plus B.enRight_ct Tryz.func34 (by kernel_rfl) (by kernel_rfl)).plus B.right_ct Tryz.func39 (by kernel_rfl) (by kernel_rfl)).plusG decode_ct Tryz.func18 (by kernel_rfl) (by kernel_rfl)).plusG gap_ct Tryz.func57 (by kernel_rfl) (by kernel_rfl)).every _
theorem sp_walk {H : List Blk} (hH : HOk H) {s : B.St} (hs : StR s) {k t : Int} {d : ByteArray} (hr : B.rightE k d) : walk6 FSp 0 Tryz.f36 [B.stW s, B.enW k t d] H fun y H' => ∃ v, y = .tup [.c v, B.stW (spS s k d)] ∧ UpT [] H H' ∧ SlAt 48 16 H' v (blkRows (spB s k d)) := by
  have h3 := (B.rightE_def k d).1 hr
  rcases Classical.em (k = 1) with k1 | k1
  · have e1 : spS s k d = stD s d := by unfold spS; rw [if_pos k1]
    have e2 : spB s k d = [outD s d] := by unfold spB; rw [if_pos k1]
    have hd : 10 ≤ d.size ∧ d.size ≤ 32 := by
      rcases h3 with h | h | h
      · exact h.2
      · omega
      · omega
    rw [e1, e2]
    repeat' ((conv => whnf); first | (refine lenH_is ?_) | (refine pushH_at ?_) | (refine setH_as (set_top _ _ _) ?_) | (refine setH_as (set_low _ _ _ _) ?_) | (refine setH_as (set_top' _ _ _ _ _) ?_) | (refine hGet_at (up_top _ _) ?_) | (refine hGet_at (up_top' _ _ _ _) ?_) | (refine hGet_at (up_get (up_top _ _)) ?_) | (refine hGet_at (up_get (up_get (up_top _ _))) ?_) | (refine hGet_at (up_get (up_get (up_get (up_top _ _)))) ?_) | (refine hGet_at (up_get (up_get (up_get (up_get (up_top _ _))))) ?_) | (refine And.intro ?_ trivial) | (refine And.intro rfl ?_) | (refine And.intro (And.intro (by decide) (by decide)) ?_) | (refine And.intro (And.intro (by decide) (And.intro (by decide) (by decide))) ?_) | (refine And.intro (Nat.le_of_ble_eq_true rfl) (And.intro (Nat.le_of_ble_eq_true rfl) ?_)) | (refine And.intro (Nat.le_of_ble_eq_true rfl) ?_) | (refine ask_false (by omega) ?_) | (refine ask_true (by omega) ?_) | (refine ask_wrap64 (by omega) (by omega) ?_) | (refine And.intro (And.intro (by omega) (by omega)) ?_) | (refine fun (_ : InK _ _) => ?_) | (refine ⟨by kernel_rfl, ?_⟩) | fail)
    refine ask_true hs.right ?_
    repeat' ((conv => whnf); first | (refine lenH_is ?_) | (refine pushH_at ?_) | (refine setH_as (set_top _ _ _) ?_) | (refine setH_as (set_low _ _ _ _) ?_) | (refine setH_as (set_top' _ _ _ _ _) ?_) | (refine hGet_at (up_top _ _) ?_) | (refine hGet_at (up_top' _ _ _ _) ?_) | (refine hGet_at (up_get (up_top _ _)) ?_) | (refine hGet_at (up_get (up_get (up_top _ _))) ?_) | (refine hGet_at (up_get (up_get (up_get (up_top _ _)))) ?_) | (refine hGet_at (up_get (up_get (up_get (up_get (up_top _ _))))) ?_) | (refine And.intro ?_ trivial) | (refine And.intro rfl ?_) | (refine And.intro (And.intro (by decide) (by decide)) ?_) | (refine And.intro (And.intro (by decide) (And.intro (by decide) (by decide))) ?_) | (refine And.intro (Nat.le_of_ble_eq_true rfl) (And.intro (Nat.le_of_ble_eq_true rfl) ?_)) | (refine And.intro (Nat.le_of_ble_eq_true rfl) ?_) | (refine ask_false (by omega) ?_) | (refine ask_true (by omega) ?_) | (refine ask_wrap64 (by omega) (by omega) ?_) | (refine And.intro (And.intro (by omega) (by omega)) ?_) | (refine fun (_ : InK _ _) => ?_) | (refine ⟨by kernel_rfl, ?_⟩) | fail)
    refine And.intro hs.right (And.intro hd fun o x ho hx => ?_)
    repeat' ((conv => whnf); first | (refine lenH_is ?_) | (refine pushH_at ?_) | (refine setH_as (set_top _ _ _) ?_) | (refine setH_as (set_low _ _ _ _) ?_) | (refine setH_as (set_top' _ _ _ _ _) ?_) | (refine hGet_at (up_top _ _) ?_) | (refine hGet_at (up_top' _ _ _ _) ?_) | (refine hGet_at (up_get (up_top _ _)) ?_) | (refine hGet_at (up_get (up_get (up_top _ _))) ?_) | (refine hGet_at (up_get (up_get (up_get (up_top _ _)))) ?_) | (refine hGet_at (up_get (up_get (up_get (up_get (up_top _ _))))) ?_) | (refine And.intro ?_ trivial) | (refine And.intro rfl ?_) | (refine And.intro (And.intro (by decide) (by decide)) ?_) | (refine And.intro (And.intro (by decide) (And.intro (by decide) (by decide))) ?_) | (refine And.intro (Nat.le_of_ble_eq_true rfl) (And.intro (Nat.le_of_ble_eq_true rfl) ?_)) | (refine And.intro (Nat.le_of_ble_eq_true rfl) ?_) | (refine ask_false (by omega) ?_) | (refine ask_true (by omega) ?_) | (refine ask_wrap64 (by omega) (by omega) ?_) | (refine And.intro (And.intro (by omega) (by omega)) ?_) | (refine fun (_ : InK _ _) => ?_) | (refine ⟨by kernel_rfl, ?_⟩) | fail)
    refine red_each (by kernel_rfl) ?_
    repeat' ((conv => whnf); first | (refine lenH_is ?_) | (refine pushH_at ?_) | (refine hGet_at (up_top _ _) ?_) | (refine hGet_at (up_top' _ _ _ _) ?_) | (refine hGet_at (up_get (up_top' _ _ _ _)) ?_) | (refine hGet_at (up_get (up_top _ _)) ?_) | (refine hGet_at (up_get (up_get (up_top _ _))) ?_) | (refine hGet_at (up_get (up_get (up_get (up_top _ _)))) ?_) | (refine hGet_at (set_get (up_get (up_get (up_get (up_top _ _))))) ?_) | (refine setH_at ?_) | (refine And.intro ⟨rfl, (by kernel_rfl), Nat.le_of_ble_eq_true (by kernel_rfl), Nat.le_of_ble_eq_true (by kernel_rfl)⟩ ?_) | (refine And.intro (by kernel_rfl) ?_) | (refine And.intro ?_ (And.intro ?_ trivial)) | (refine And.intro ?_ trivial) | fail)
    all_goals
      subst ho hx
      refine ⟨_, rfl, (((((((UpT.refl hH.bnd).app rfl).app rfl).app rfl).app rfl).app rfl).app rfl).set (by simp <;> omega) rfl, .inr ⟨by simp [blkRows], _, [], rfl, Nat.le_of_ble_eq_true rfl, fun r hr => ?_, ?_⟩⟩
      · simp [blkRows] at hr
        subst hr
        exact ⟨rfl, rfl⟩
      · rw [List.getElem?_set_ne (by simp <;> omega)]
        exact up_top _ _
  · rcases Classical.em (k = 2) with k2 | k2
    · have e1 : spS s k d = B.st0 := by unfold spS; rw [if_neg k1, if_pos k2]
      have e2 : spB s k d = [B.loseOut s] := by unfold spB; rw [if_neg k1, if_pos k2]
      rw [e1, e2]
      repeat' ((conv => whnf); first | (refine lenH_is ?_) | (refine pushH_at ?_) | (refine setH_as (set_top _ _ _) ?_) | (refine setH_as (set_low _ _ _ _) ?_) | (refine setH_as (set_top' _ _ _ _ _) ?_) | (refine hGet_at (up_top _ _) ?_) | (refine hGet_at (up_top' _ _ _ _) ?_) | (refine hGet_at (up_get (up_top _ _)) ?_) | (refine hGet_at (up_get (up_get (up_top _ _))) ?_) | (refine hGet_at (up_get (up_get (up_get (up_top _ _)))) ?_) | (refine hGet_at (up_get (up_get (up_get (up_get (up_top _ _))))) ?_) | (refine And.intro ?_ trivial) | (refine And.intro rfl ?_) | (refine And.intro (And.intro (by decide) (by decide)) ?_) | (refine And.intro (And.intro (by decide) (And.intro (by decide) (by decide))) ?_) | (refine And.intro (Nat.le_of_ble_eq_true rfl) (And.intro (Nat.le_of_ble_eq_true rfl) ?_)) | (refine And.intro (Nat.le_of_ble_eq_true rfl) ?_) | (refine ask_false (by omega) ?_) | (refine ask_true (by omega) ?_) | (refine ask_wrap64 (by omega) (by omega) ?_) | (refine And.intro (And.intro (by omega) (by omega)) ?_) | (refine fun (_ : InK _ _) => ?_) | (refine ⟨by kernel_rfl, ?_⟩) | fail)
      refine ask_true hs.right ?_
      repeat' ((conv => whnf); first | (refine lenH_is ?_) | (refine pushH_at ?_) | (refine setH_as (set_top _ _ _) ?_) | (refine setH_as (set_low _ _ _ _) ?_) | (refine setH_as (set_top' _ _ _ _ _) ?_) | (refine hGet_at (up_top _ _) ?_) | (refine hGet_at (up_top' _ _ _ _) ?_) | (refine hGet_at (up_get (up_top _ _)) ?_) | (refine hGet_at (up_get (up_get (up_top _ _))) ?_) | (refine hGet_at (up_get (up_get (up_get (up_top _ _)))) ?_) | (refine hGet_at (up_get (up_get (up_get (up_get (up_top _ _))))) ?_) | (refine And.intro ?_ trivial) | (refine And.intro rfl ?_) | (refine And.intro (And.intro (by decide) (by decide)) ?_) | (refine And.intro (And.intro (by decide) (And.intro (by decide) (by decide))) ?_) | (refine And.intro (Nat.le_of_ble_eq_true rfl) (And.intro (Nat.le_of_ble_eq_true rfl) ?_)) | (refine And.intro (Nat.le_of_ble_eq_true rfl) ?_) | (refine ask_false (by omega) ?_) | (refine ask_true (by omega) ?_) | (refine ask_wrap64 (by omega) (by omega) ?_) | (refine And.intro (And.intro (by omega) (by omega)) ?_) | (refine fun (_ : InK _ _) => ?_) | (refine ⟨by kernel_rfl, ?_⟩) | fail)
      refine fun o ho => ?_
      repeat' ((conv => whnf); first | (refine lenH_is ?_) | (refine pushH_at ?_) | (refine setH_as (set_top _ _ _) ?_) | (refine setH_as (set_low _ _ _ _) ?_) | (refine setH_as (set_top' _ _ _ _ _) ?_) | (refine hGet_at (up_top _ _) ?_) | (refine hGet_at (up_top' _ _ _ _) ?_) | (refine hGet_at (up_get (up_top _ _)) ?_) | (refine hGet_at (up_get (up_get (up_top _ _))) ?_) | (refine hGet_at (up_get (up_get (up_get (up_top _ _)))) ?_) | (refine hGet_at (up_get (up_get (up_get (up_get (up_top _ _))))) ?_) | (refine And.intro ?_ trivial) | (refine And.intro rfl ?_) | (refine And.intro (And.intro (by decide) (by decide)) ?_) | (refine And.intro (And.intro (by decide) (And.intro (by decide) (by decide))) ?_) | (refine And.intro (Nat.le_of_ble_eq_true rfl) (And.intro (Nat.le_of_ble_eq_true rfl) ?_)) | (refine And.intro (Nat.le_of_ble_eq_true rfl) ?_) | (refine ask_false (by omega) ?_) | (refine ask_true (by omega) ?_) | (refine ask_wrap64 (by omega) (by omega) ?_) | (refine And.intro (And.intro (by omega) (by omega)) ?_) | (refine fun (_ : InK _ _) => ?_) | (refine ⟨by kernel_rfl, ?_⟩) | fail)
      refine red_each (by kernel_rfl) ?_
      repeat' ((conv => whnf); first | (refine lenH_is ?_) | (refine pushH_at ?_) | (refine hGet_at (up_top _ _) ?_) | (refine hGet_at (up_top' _ _ _ _) ?_) | (refine hGet_at (up_get (up_top' _ _ _ _)) ?_) | (refine hGet_at (up_get (up_top _ _)) ?_) | (refine hGet_at (up_get (up_get (up_top _ _))) ?_) | (refine hGet_at (up_get (up_get (up_get (up_top _ _)))) ?_) | (refine hGet_at (set_get (up_get (up_get (up_get (up_top _ _))))) ?_) | (refine setH_at ?_) | (refine And.intro ⟨rfl, (by kernel_rfl), Nat.le_of_ble_eq_true (by kernel_rfl), Nat.le_of_ble_eq_true (by kernel_rfl)⟩ ?_) | (refine And.intro (by kernel_rfl) ?_) | (refine And.intro ?_ (And.intro ?_ trivial)) | (refine And.intro ?_ trivial) | fail)
      all_goals
        subst ho
        refine ⟨_, rfl, (((((((UpT.refl hH.bnd).app rfl).app rfl).app rfl).app rfl).app rfl).app rfl).set (by simp <;> omega) rfl, .inr ⟨by simp [blkRows], _, [], rfl, Nat.le_of_ble_eq_true rfl, fun r hr => ?_, ?_⟩⟩
        · simp [blkRows] at hr
          subst hr
          exact ⟨rfl, rfl⟩
        · rw [List.getElem?_set_ne (by simp <;> omega)]
          exact up_top _ _
    · have e1 : spS s k d = s := by unfold spS; rw [if_neg k1, if_neg k2]
      have e2 : spB s k d = [] := by unfold spB; rw [if_neg k1, if_neg k2]
      rw [e1, e2]
      repeat' ((conv => whnf); first | (refine lenH_is ?_) | (refine pushH_at ?_) | (refine setH_as (set_top _ _ _) ?_) | (refine setH_as (set_low _ _ _ _) ?_) | (refine setH_as (set_top' _ _ _ _ _) ?_) | (refine hGet_at (up_top _ _) ?_) | (refine hGet_at (up_top' _ _ _ _) ?_) | (refine hGet_at (up_get (up_top _ _)) ?_) | (refine hGet_at (up_get (up_get (up_top _ _))) ?_) | (refine hGet_at (up_get (up_get (up_get (up_top _ _)))) ?_) | (refine hGet_at (up_get (up_get (up_get (up_get (up_top _ _))))) ?_) | (refine And.intro ?_ trivial) | (refine And.intro rfl ?_) | (refine And.intro (And.intro (by decide) (by decide)) ?_) | (refine And.intro (And.intro (by decide) (And.intro (by decide) (by decide))) ?_) | (refine And.intro (Nat.le_of_ble_eq_true rfl) (And.intro (Nat.le_of_ble_eq_true rfl) ?_)) | (refine And.intro (Nat.le_of_ble_eq_true rfl) ?_) | (refine ask_false (by omega) ?_) | (refine ask_true (by omega) ?_) | (refine ask_wrap64 (by omega) (by omega) ?_) | (refine And.intro (And.intro (by omega) (by omega)) ?_) | (refine fun (_ : InK _ _) => ?_) | (refine ⟨by kernel_rfl, ?_⟩) | fail)
      refine ask_true hs.right ?_
      repeat' ((conv => whnf); first | (refine lenH_is ?_) | (refine pushH_at ?_) | (refine setH_as (set_top _ _ _) ?_) | (refine setH_as (set_low _ _ _ _) ?_) | (refine setH_as (set_top' _ _ _ _ _) ?_) | (refine hGet_at (up_top _ _) ?_) | (refine hGet_at (up_top' _ _ _ _) ?_) | (refine hGet_at (up_get (up_top _ _)) ?_) | (refine hGet_at (up_get (up_get (up_top _ _))) ?_) | (refine hGet_at (up_get (up_get (up_get (up_top _ _)))) ?_) | (refine hGet_at (up_get (up_get (up_get (up_get (up_top _ _))))) ?_) | (refine And.intro ?_ trivial) | (refine And.intro rfl ?_) | (refine And.intro (And.intro (by decide) (by decide)) ?_) | (refine And.intro (And.intro (by decide) (And.intro (by decide) (by decide))) ?_) | (refine And.intro (Nat.le_of_ble_eq_true rfl) (And.intro (Nat.le_of_ble_eq_true rfl) ?_)) | (refine And.intro (Nat.le_of_ble_eq_true rfl) ?_) | (refine ask_false (by omega) ?_) | (refine ask_true (by omega) ?_) | (refine ask_wrap64 (by omega) (by omega) ?_) | (refine And.intro (And.intro (by omega) (by omega)) ?_) | (refine fun (_ : InK _ _) => ?_) | (refine ⟨by kernel_rfl, ?_⟩) | fail)
      refine red_each (by kernel_rfl) ?_
      repeat' ((conv => whnf); first | (refine lenH_is ?_) | (refine pushH_at ?_) | (refine setH_as (set_top _ _ _) ?_) | (refine setH_as (set_low _ _ _ _) ?_) | (refine setH_as (set_top' _ _ _ _ _) ?_) | (refine hGet_at (up_top _ _) ?_) | (refine hGet_at (up_top' _ _ _ _) ?_) | (refine hGet_at (up_get (up_top _ _)) ?_) | (refine hGet_at (up_get (up_get (up_top _ _))) ?_) | (refine hGet_at (up_get (up_get (up_get (up_top _ _)))) ?_) | (refine hGet_at (up_get (up_get (up_get (up_get (up_top _ _))))) ?_) | (refine And.intro ?_ trivial) | (refine And.intro rfl ?_) | (refine And.intro (And.intro (by decide) (by decide)) ?_) | (refine And.intro (And.intro (by decide) (And.intro (by decide) (by decide))) ?_) | (refine And.intro (Nat.le_of_ble_eq_true rfl) (And.intro (Nat.le_of_ble_eq_true rfl) ?_)) | (refine And.intro (Nat.le_of_ble_eq_true rfl) ?_) | (refine ask_false (by omega) ?_) | (refine ask_true (by omega) ?_) | (refine ask_wrap64 (by omega) (by omega) ?_) | (refine And.intro (And.intro (by omega) (by omega)) ?_) | (refine fun (_ : InK _ _) => ?_) | (refine ⟨by kernel_rfl, ?_⟩) | fail)
      exact ⟨.csn, rfl, ((UpT.refl hH.bnd).app rfl).app rfl |>.app rfl, .nil⟩
def hStep : HCt := fun ws H K => match ws with
  | [.agg [.ints .i64 n m, .one (.ci .i64 l), .ints .i64 a v, .ints .i64 b w, .one (.ci .i64 q)], .agg [.one (.ci .i64 k), .one (.ci .u32 _), .one (.cs d)]] => (n = 16 ∧ a = 4 ∧ b = 16) ∧ (StR ⟨m, l, v, w, q⟩ ∧ B.rightE k d) ∧ ∀ H' v' x, x = spS ⟨m, l, v, w, q⟩ k d → UpT [] H H' → SlAt 48 16 H' v' (blkRows (spB ⟨m, l, v, w, q⟩ k d)) → K (.tup [.c v', B.stW x]) H'
  | _ => False
theorem sp_ct : HCtOkG Tryz.prog D.G1 36 hStep := by
  intro ws' H K h hr hb ho σ base w₀ w' hw
  unfold hStep at h
  split at h
  · rename_i n m l a v b w q k t d
    obtain ⟨⟨rfl, rfl, rfl⟩, ⟨hs, he⟩, hK⟩ := h
    exact heap_lift6 FSp_ok Tryz.func36 (n := 0) (ws := [B.stW ⟨m, l, v, w, q⟩, B.enW k t d]) hr hb ho (sp_walk ho hs he) (fun x H' hP => by
      obtain ⟨v', rfl, u, s⟩ := hP
      exact hK H' v' _ rfl u s) σ base w₀ w' hw
  · exact h.elim
end R
end Go.Proofs.YtaficaacogcblaaGreatDoor
set_option linter.all false
namespace Go.Proofs.YtaficaacogcblaaGreatDoor
namespace R
open Go.RowKit (Below)
set_option maxRecDepth 100000
set_option maxHeartbeats 16000000
structure UpL (p : Nat → Prop) (H H' : List Blk) : Prop where
  len : H.length ≤ H'.length
  keep : ∀ (i : Nat) (b : Blk), ¬ p i → H[i]? = some b → H'[i]? = some b
  bnd : ∀ b ∈ H', b.bnd H'.length = true
theorem UpL.refl {p : Nat → Prop} {H : List Blk} (h : ∀ b ∈ H, b.bnd H.length = true) : UpL p H H := ⟨Nat.le_refl _, fun _ _ _ h => h, h⟩
theorem UpL.trans {p : Nat → Prop} {A B C : List Blk} (h : UpL p A B) (k : UpL p B C) : UpL p A C := ⟨Nat.le_trans h.len k.len, fun i b hi hb => k.keep i b hi (h.keep i b hi hb), k.bnd⟩
theorem UpL.mono {p q : Nat → Prop} {A B : List Blk} (h : UpL p A B) (k : ∀ i, p i → q i) : UpL q A B := ⟨h.len, fun i b hi hb => h.keep i b (fun e => hi (k i e)) hb, h.bnd⟩
theorem UpT.low {p : Nat → Prop} {H H' : List Blk} (h : UpT [] H H') : UpL p H H' := ⟨h.len, fun i b _ hb => h.keep i b hb (by cases b <;> rfl), h.bnd⟩
theorem UpL.all {p : Nat → Prop} {H H' : List Blk} (h : UpL p H H') (hp : ∀ i, i < H.length → ¬ p i) : UpT [] H H' := ⟨h.len, fun i b hb _ => h.keep i b (hp i (List.getElem?_eq_some_iff.1 hb).1) hb, h.bnd⟩
theorem UpL.set {p : Nat → Prop} {A H : List Blk} (h : UpL p A H) {q : Nat} (hq : p q) {b : Blk} (hb : b.bnd H.length = true) : UpL p A (H.set q b) :=
  ⟨by rw [List.length_set]; exact h.len, fun i x hi hx => by
    rw [List.getElem?_set_ne (fun e => hi (by rw [← e]; exact hq))]
    exact h.keep i x hi hx, fun c hc => by
    rw [List.length_set]
    rcases List.mem_or_eq_of_mem_set hc with h1 | h1
    · exact h.bnd c h1
    · exact h1 ▸ hb⟩
theorem UpA.low {p : Nat → Prop} {cs v : C} {H H' : List Blk} (h : UpA cs v H H') (u : ∀ b ∈ H', b.bnd H'.length = true) (hl : H.length ≤ H'.length) (hc : ∀ q, bufOf cs = some q → p q) : UpL p H H' :=
  ⟨hl, fun i b hi hb => h.keep i b hb fun e => hi (hc i e), u⟩
abbrev outB (v : C) : Blk := .own 46 [.one v]
abbrev stBl (s : B.St) : Blk := .own 51 (B.stW s).segs
theorem zero_block : ∃ zs, zeroS Tryz.prog 48 (fun q => q = zs) ∧ rowOk (Tryz.prog.types[48]).size zs := ⟨[.ints .i64 16 (List.replicate 16 0)], by (conv => whnf); rfl, by kernel_rfl, rfl⟩
theorem blk_few {a b : Nat} (h : a + b ≤ 3000) : (a + b ≤ 9223372036854775807 ∧ (a + b) * (Tryz.prog.types[48]).bytes ≤ 140737488355328) := by
  have e : (Tryz.prog.types[48]).bytes ≤ 1000 := Nat.le_of_ble_eq_true (by kernel_rfl)
  refine ⟨by omega, Nat.le_trans (Nat.mul_le_mul h e) (by decide)⟩
theorem bnd_long {c : C} {n m : Nat} (hc : c.bnd n = true) (h : n ≤ m) : c.bnd m = true := C.bnd_mono h c hc
noncomputable def FHe : Fns := F0.over 36 hStep
theorem FHe_ok : FnsOk Tryz.prog FHe D.G1 := D.F0_okg.overG sp_ct Tryz.func36 (by kernel_rfl) (by kernel_rfl)
theorem spB_len (s : B.St) (k : Int) (d : ByteArray) : (blkRows (spB s k d)).length ≤ 1 := by
  unfold spB
  split
  · simp [blkRows]
  · split <;> simp [blkRows]
theorem hear_walk {H : List Blk} (hH : HOk H) {lo : Nat → Prop} {js jo : Nat} {s : B.St} {v : C} {rows : List (List Seg)} (h1 : lo js) (h2 : lo jo) (hlo : ∀ i, H.length ≤ i → lo i) (hs : H[js]? = some (stBl s)) (ho : H[jo]? = some (outB v)) (hv : SlAt 48 16 H v rows) (hb : ∀ q, bufOf v = some q → lo q)
    (hr : StR s) {k t : Int} {d : ByteArray} (he : B.rightE k d) (hn : rows.length ≤ 200) :
    walk6 FHe 0 Tryz.f35 [B.enW k t d, .c (.cp js 0), .c (.cp jo 0)] H fun y H' => y = undefV ∧ ∃ v', UpL lo H H' ∧ H'[js]? = some (stBl (spS s k d)) ∧ H'[jo]? = some (outB v') ∧ SlAt 48 16 H' v' (rows ++ blkRows (spB s k d)) ∧ ∀ q, bufOf v' = some q → lo q := by
  have hjs := (List.getElem?_eq_some_iff.1 hs).1
  repeat' ((conv => whnf); first | (refine lenH_is ?_) | (refine pushH_at ?_) | (refine setH_as (set_top _ _ _) ?_) | (refine setH_as (set_low _ _ _ _) ?_) | (refine setH_as (set_top' _ _ _ _ _) ?_) | (refine hGet_at (up_get hs) ?_) | (refine hGet_at (up_top _ _) ?_) | (refine And.intro ?_ trivial) | (refine And.intro rfl ?_) | (refine And.intro (And.intro (by decide) (by decide)) ?_) | (refine And.intro (And.intro (by decide) (And.intro (by decide) (by decide))) ?_) | (refine And.intro (Nat.le_of_ble_eq_true rfl) (And.intro (Nat.le_of_ble_eq_true rfl) ?_)) | (refine And.intro (Nat.le_of_ble_eq_true rfl) ?_) | (refine ask_false (by omega) ?_) | (refine ask_true (by omega) ?_) | (refine ask_wrap64 (by omega) (by omega) ?_) | (refine And.intro (And.intro (by omega) (by omega)) ?_) | (refine fun (_ : InK _ _) => ?_) | (refine ⟨by kernel_rfl, ?_⟩) | fail)
  conv => whnf
  refine fun H1 w1 x hx u1 hw1 => ?_
  have ub := ((UpT.refl hH.bnd).app (Ts := []) (b := .own 35 (B.enW k t d).segs) rfl).trans u1
  have hs1 := ub.keep _ _ hs rfl
  have ho1 := ub.keep _ _ ho rfl
  have hv1 := hv.up ub rfl
  repeat' ((conv => whnf); first | (refine lenH_is ?_) | (refine pushH_at ?_) | (refine setH_as (set_top _ _ _) ?_) | (refine setH_as (set_low _ _ _ _) ?_) | (refine setH_as (set_top' _ _ _ _ _) ?_) | (refine hGet_at (hs1) ?_) | (refine hGet_at (up_top _ _) ?_) | (refine And.intro ?_ trivial) | (refine And.intro rfl ?_) | (refine And.intro (And.intro (by decide) (by decide)) ?_) | (refine And.intro (And.intro (by decide) (And.intro (by decide) (by decide))) ?_) | (refine And.intro (Nat.le_of_ble_eq_true rfl) (And.intro (Nat.le_of_ble_eq_true rfl) ?_)) | (refine And.intro (Nat.le_of_ble_eq_true rfl) ?_) | (refine ask_false (by omega) ?_) | (refine ask_true (by omega) ?_) | (refine ask_wrap64 (by omega) (by omega) ?_) | (refine And.intro (And.intro (by omega) (by omega)) ?_) | (refine fun (_ : InK _ _) => ?_) | (refine ⟨by kernel_rfl, ?_⟩) | fail)
  conv => whnf
  obtain ⟨B, hB⟩ : ∃ B, B = H1 ++ [stBl x] := ⟨_, rfl⟩
  have u2 : UpT [] H B := by rw [hB]; exact ub.app rfl
  have g5 : B[H1.length]? = some (stBl x) := by rw [hB]; exact up_top _ _
  have hs2 : B[js]? = some (stBl s) := u2.keep _ _ hs rfl
  have ho2 : B[jo]? = some (outB v) := u2.keep _ _ ho rfl
  have hv2 : SlAt 48 16 B v rows := hv.up u2 rfl
  have hw2 : SlAt 48 16 B w1 (blkRows (spB s k d)) := by rw [hB]; exact hw1.up ((UpT.refl u1.bnd).app (Ts := []) rfl) rfl
  have hlen2 := u2.len
  have hsp := spB_len s k d
  have hx' : x = spS s k d := hx
  show XRed _ _ _ _ _ _ (H1 ++ [stBl x]) _
  rw [← hB, ← hx']
  refine red_up (α := List Blk × C) (List.range' 12 4) (fun a => UpL lo H a.1 ∧ B.length ≤ a.1.length ∧ a.1[js]? = some (stBl x) ∧ a.1[jo]? = some (outB a.2) ∧ SlAt 48 16 a.1 a.2 (rows ++ blkRows (spB s k d)) ∧ ∀ q, bufOf a.2 = some q → lo q) (fun _ => []) (fun a => a.1) (by kernel_rfl) ?_ ?_ ?_
  · rintro ⟨A, c⟩ ⟨u, hl, g1, g2, _⟩
    have d1 := get_blt g1
    have d2 := get_blt g2
    have d3 := bnd_long hw2.bnd hl
    have d4 : decide (H.length < A.length) = true := decide_eq_true (by rw [hB] at hl; simp at hl; have := ub.len; omega)
    have d5 : decide (H1.length < A.length) = true := decide_eq_true (by rw [hB] at hl; simp at hl; omega)
    repeat' (first | rfl | exact d1 | exact d2 | exact d3 | exact d4 | exact d5 | refine and_t ?_ ?_)
  · rintro ⟨A, c⟩ ⟨u, hl, g1, g2, g3, g4⟩
    repeat' ((conv => whnf); first | (refine lenH_is ?_) | (refine pushH_at ?_) | (refine setH_as (set_top _ _ _) ?_) | (refine setH_as (set_low _ _ _ _) ?_) | (refine setH_as (set_top' _ _ _ _ _) ?_) | (refine And.intro ?_ trivial) | (refine And.intro rfl ?_) | (refine And.intro (And.intro (by decide) (by decide)) ?_) | (refine And.intro (And.intro (by decide) (And.intro (by decide) (by decide))) ?_) | (refine And.intro (Nat.le_of_ble_eq_true rfl) (And.intro (Nat.le_of_ble_eq_true rfl) ?_)) | (refine And.intro (Nat.le_of_ble_eq_true rfl) ?_) | (refine ask_false (by omega) ?_) | (refine ask_true (by omega) ?_) | (refine ask_wrap64 (by omega) (by omega) ?_) | (refine And.intro (And.intro (by omega) (by omega)) ?_) | (refine fun (_ : InK _ _) => ?_) | (refine ⟨by kernel_rfl, ?_⟩) | fail)
    exact ⟨c, u, hx' ▸ g1, g2, g3, g4⟩
  · repeat' ((conv => whnf); first | (refine hGet_at ho2 ?_) | (refine hGet_at g5 ?_) | (refine And.intro ?_ (And.intro ?_ trivial)) | (refine And.intro ?_ trivial) | (refine ⟨⟨rfl, zero_block⟩, _, hw2.new, .inl ⟨rows, hv2, blk_few (by omega), fun v' G u s' ua => ?_⟩⟩) | fail)
    all_goals
      have k1 := u.keep _ _ hs2 rfl
      have k2 := u.keep _ _ ho2 rfl
      have k3 := u.keep _ _ g5 rfl
      have kb : ∀ q, bufOf v' = some q → lo q := fun q e => (ua.buf q e).elim (hb q) fun h => hlo q (Nat.le_trans hlen2 h)
      have ul : UpL lo H G := UpL.trans (UpT.low u2) (UpA.low ua u.bnd u.len hb)
      repeat' ((conv => whnf); first | (refine hGet_at k2 ?_) | (refine hGet_at k3 ?_) | (refine And.intro ?_ (And.intro ?_ trivial)) | (refine And.intro ?_ trivial) | fail)
    all_goals
      conv => whnf
      refine setH_up k2 u.bnd (and_t s'.bnd rfl) fun G2 e2 w2 q2 => ?_
      have k1' := w2.keep _ _ k1 rfl
      have k3' := w2.keep _ _ k3 rfl
      have bx := w2.bnd _ (List.mem_of_getElem? k3')
      have ul2 : UpL lo H G2 := e2 ▸ ul.set h2 (and_t s'.bnd rfl)
      repeat' ((conv => whnf); first | (refine hGet_at k3' ?_) | (refine hGet_at k1' ?_) | (refine And.intro ?_ (And.intro ?_ trivial)) | (refine And.intro ?_ trivial) | fail)
      conv => whnf
      refine setH_up k1' w2.bnd bx fun G3 e3 w3 q3 => ?_
      have ul3 : UpL lo H G3 := e3 ▸ ul2.set h1 bx
      have hlB : B.length ≤ G3.length := Nat.le_trans u.len (Nat.le_trans w2.len w3.len)
      refine ⟨(G3, v'), ⟨ul3, hlB, q3, w3.keep _ _ q2 rfl, (s'.up w2 rfl).up w3 rfl, kb⟩, ⟨rfl, trivial, wkH_refl _, bndH_of w3.bnd, ?_⟩⟩
      first | exact ul3.len | (have := w3.len; have := w2.len; have := u.len; have := hlen2; omega)
def hHear : HCt := fun ws H K => match ws with
  | [.agg [.one (.ci .i64 k), .one (.ci .u32 _), .one (.cs d)], .c (.cp js 0), .c (.cp jo 0)] => ∃ (lo : Nat → Prop) (s : B.St) (v : C) (rows : List (List Seg)), (lo js ∧ lo jo ∧ ∀ i, H.length ≤ i → lo i) ∧ (H[js]? = some (stBl s) ∧ H[jo]? = some (outB v) ∧ SlAt 48 16 H v rows ∧ ∀ q, bufOf v = some q → lo q) ∧ (StR s ∧ B.rightE k d ∧ rows.length ≤ 200) ∧
    ∀ H' v', UpL lo H H' → H'[js]? = some (stBl (spS s k d)) → H'[jo]? = some (outB v') → SlAt 48 16 H' v' (rows ++ blkRows (spB s k d)) → (∀ q, bufOf v' = some q → lo q) → K undefV H'
  | _ => False
theorem hear_ct : HCtOkG Tryz.prog D.G1 35 hHear := by
  intro ws' H K h hr hb ho σ base w₀ w' hw
  unfold hHear at h
  split at h
  · rename_i k t d js jo
    obtain ⟨lo, s, v, rows, ⟨h1, h2, h3⟩, ⟨h4, h5, h6, h7⟩, ⟨h8, h9, h10⟩, hK⟩ := h
    exact heap_lift6 FHe_ok Tryz.func35 (n := 0) (ws := [B.enW k t d, .c (.cp js 0), .c (.cp jo 0)]) hr hb ho (hear_walk ho h1 h2 h3 h4 h5 h6 h7 h8 h9 h10) (fun x H' hP => by
      obtain ⟨rfl, v', a1, a2, a3, a4, a5⟩ := hP
      exact hK H' v' a1 a2 a3 a4 a5) σ base w₀ w' hw
  · exact h.elim
abbrev E3 := Int × Int × ByteArray
def enRows (es : List E3) : List (List Seg) := es.map fun e => (B.enW e.1 e.2.1 e.2.2).segs
noncomputable def foldP (s : B.St) (es : List E3) : B.St × List (List Int) := es.foldl (fun a e => (spS a.1 e.1 e.2.2, a.2 ++ spB a.1 e.1 e.2.2)) (s, [])
theorem foldP_app (s : B.St) (es : List E3) (e : E3) : foldP s (es ++ [e]) = (spS (foldP s es).1 e.1 e.2.2, (foldP s es).2 ++ spB (foldP s es).1 e.1 e.2.2) := by
  unfold foldP; rw [List.foldl_append]; rfl
theorem back_ind {α : Type} {P : List α → Prop} (h0 : P []) (h1 : ∀ l a, P l → P (l ++ [a])) (l : List α) : P l := by
  have : ∀ k : List α, P k.reverse := fun k => by
    induction k with
    | nil => exact h0
    | cons a k ih => rw [List.reverse_cons]; exact h1 _ _ ih
  simpa using this l.reverse
theorem foldP_ok {s : B.St} (h : StR s) (es : List E3) : StR (foldP s es).1 :=
  back_ind (P := fun es => StR (foldP s es).1) h (fun l e ih => by rw [foldP_app]; exact spS_ok ih _ _) es
theorem foldP_len (s : B.St) (es : List E3) : (foldP s es).2.length ≤ es.length :=
  back_ind (P := fun es => (foldP s es).2.length ≤ es.length) (Nat.le_refl _) (fun l e ih => by
    rw [foldP_app]
    have := spB_len (foldP s l).1 e.1 e.2.2
    simp [blkRows] at this
    simp; omega) es
theorem take_next {es : List E3} {k : Nat} {e : E3} (h : es[k]? = some e) : es.take (k + 1) = es.take k ++ [e] := by
  rw [List.take_add_one, h]; rfl
abbrev zSt : Blk := .own 51 [.ints .i64 16 [0, 0, 0, 0, 0, 0, 0, 0, 0, 0, 0, 0, 0, 0, 0, 0], .one (.ci .i64 0), .ints .i64 4 [0, 0, 0, 0], .ints .i64 16 [0, 0, 0, 0, 0, 0, 0, 0, 0, 0, 0, 0, 0, 0, 0, 0], .one (.ci .i64 0)]
theorem blkRows_len (l : List (List Int)) : (blkRows l).length = l.length := by simp [blkRows]
theorem enRows_get {es : List E3} {k : Nat} {e : E3} (h : es[k]? = some e) : (enRows es)[k]? = some (B.enW e.1 e.2.1 e.2.2).segs := by simp [enRows, h]
structure FoldS where
  k : Nat
  v : C
  H : List Blk
noncomputable def FFo : Fns := F0.over 35 hHear |>.every 777777
theorem FFo_ok : FnsOk Tryz.prog FFo D.G1 := (D.F0_okg.overG hear_ct Tryz.func35 (by kernel_rfl) (by kernel_rfl)).every _
theorem fold_walk {H : List Blk} (hH : HOk H) {s : B.St} (hr : StR s) {v : C} {es : List E3} (hv : SlAt 35 3 H v (enRows es)) (he : ∀ e ∈ es, B.rightE e.1 e.2.2) (hn : es.length ≤ 200) :
    walk6 FFo 1 Tryz.f13 [B.stW s, .c v] H fun y H' => ∃ v', y = .tup [.c v', B.stW (foldP s es).1] ∧ UpT [] H H' ∧ SlAt 48 16 H' v' (blkRows (foldP s es).2) := by
  have uB : UpT [] H (H ++ [stBl s] ++ [zSt] ++ [outB .csn]) := (((UpT.refl hH.bnd).app rfl).app rfl).app rfl
  rcases hv with ⟨h0, rfl⟩ | ⟨h0, q, rest, rfl, hcap, hrows, hq⟩
  · obtain rfl : es = [] := by simpa [enRows] using h0
    repeat' ((conv => whnf); first | (refine lenH_is ?_) | (refine pushH_at ?_) | (refine setH_as (set_top _ _ _) ?_) | (refine setH_as (set_low _ _ _ _) ?_) | (refine setH_as (set_top' _ _ _ _ _) ?_) | (refine hGet_at (up_top _ _) ?_) | (refine hGet_at (up_get (up_top _ _)) ?_) | (refine hGet_at (up_get (up_get (up_top _ _))) ?_) | (refine And.intro ?_ trivial) | (refine And.intro rfl ?_) | (refine And.intro (And.intro (by decide) (by decide)) ?_) | (refine And.intro (And.intro (by decide) (And.intro (by decide) (by decide))) ?_) | (refine And.intro (Nat.le_of_ble_eq_true rfl) (And.intro (Nat.le_of_ble_eq_true rfl) ?_)) | (refine And.intro (Nat.le_of_ble_eq_true rfl) ?_) | (refine ask_false (by omega) ?_) | (refine ask_true (by omega) ?_) | (refine ask_wrap64 (by omega) (by omega) ?_) | (refine And.intro (And.intro (by omega) (by omega)) ?_) | (refine fun (_ : InK _ _) => ?_) | (refine ⟨by kernel_rfl, ?_⟩) | fail)
    conv => whnf
    refine loop_upJ (9 :: List.range' 13 8) (fun m (_ : Unit) => m = 0) (fun _ => [(13, vi 0)]) (fun _ => H ++ [stBl s] ++ [zSt] ++ [outB .csn]) 0 () rfl ?_ ?_ ?_
    · rintro m _ rfl
      have d0 : decide (H.length < (H ++ [stBl s] ++ [zSt] ++ [outB .csn]).length) = true := decide_eq_true (by simp)
      have d1 : decide ((H ++ [stBl s]).length < (H ++ [stBl s] ++ [zSt] ++ [outB .csn]).length) = true := decide_eq_true (by simp)
      have d2 : decide ((H ++ [stBl s] ++ [zSt]).length < (H ++ [stBl s] ++ [zSt] ++ [outB .csn]).length) = true := decide_eq_true (by simp)
      repeat' (first | rfl | exact d0 | exact d1 | exact d2 | refine and_t ?_ ?_)
    · exact ⟨rfl, ⟨⟨Nat.le_of_ble_eq_true rfl, rfl⟩, trivial⟩, wkH_refl _, bndH_of uB.bnd, uB.len⟩
    · rintro m _ rfl
      repeat' ((conv => whnf); first | (refine lenH_is ?_) | (refine pushH_at ?_) | (refine setH_as (set_top _ _ _) ?_) | (refine setH_as (set_low _ _ _ _) ?_) | (refine setH_as (set_top' _ _ _ _ _) ?_) | (refine hGet_at (up_top _ _) ?_) | (refine hGet_at (up_get (up_top _ _)) ?_) | (refine hGet_at (up_get (up_get (up_top _ _))) ?_) | (refine And.intro ?_ trivial) | (refine And.intro rfl ?_) | (refine And.intro (And.intro (by decide) (by decide)) ?_) | (refine And.intro (And.intro (by decide) (And.intro (by decide) (by decide))) ?_) | (refine And.intro (Nat.le_of_ble_eq_true rfl) (And.intro (Nat.le_of_ble_eq_true rfl) ?_)) | (refine And.intro (Nat.le_of_ble_eq_true rfl) ?_) | (refine ask_false (by omega) ?_) | (refine ask_true (by omega) ?_) | (refine ask_wrap64 (by omega) (by omega) ?_) | (refine And.intro (And.intro (by omega) (by omega)) ?_) | (refine fun (_ : InK _ _) => ?_) | (refine ⟨by kernel_rfl, ?_⟩) | fail)
      have gb := uB.bnd
      have g0 : (H ++ [stBl s] ++ [zSt] ++ [outB .csn])[H.length]? = some (stBl s) := up_get (up_get (up_top _ _))
      have g5 : (H ++ [stBl s] ++ [zSt] ++ [outB .csn])[(H ++ [stBl s]).length]? = some zSt := up_get (up_top _ _)
      have g2 : (H ++ [stBl s] ++ [zSt] ++ [outB .csn])[(H ++ [stBl s] ++ [zSt]).length]? = some (outB .csn) := up_top _ _
      have eN := uB.len
      refine red_each (by kernel_rfl) ?_
      repeat' ((conv => whnf); first | (refine hGet_at g0 ?_) | (refine hGet_at g2 ?_) | (refine hGet_at g5 ?_) | (refine And.intro ?_ (And.intro ?_ trivial)) | (refine And.intro ?_ trivial) | (refine setH_up g5 gb (gb _ (List.mem_of_getElem? g0)) fun G3 e3 w3 q3 => ?_) | (refine hGet_at q3 ?_) | fail)
      all_goals
        exact ⟨.csn, rfl, by rw [e3]; exact uB.set (by simp) (gb _ (List.mem_of_getElem? g0)), .nil⟩
  have hrl : (enRows es).length = es.length := by simp [enRows]
  have hone : oneAt (enRows es ++ rest).flatten 0 = true := by
    cases es with
    | nil => exact absurd rfl h0
    | cons e es => rfl
  rw [hrl]
  repeat' ((conv => whnf); first | (refine lenH_is ?_) | (refine pushH_at ?_) | (refine setH_as (set_top _ _ _) ?_) | (refine setH_as (set_low _ _ _ _) ?_) | (refine setH_as (set_top' _ _ _ _ _) ?_) | (refine hGet_at (up_top _ _) ?_) | (refine hGet_at (up_get (up_top _ _)) ?_) | (refine hGet_at (up_get (up_get (up_top _ _))) ?_) | (refine And.intro ?_ trivial) | (refine And.intro rfl ?_) | (refine And.intro (And.intro (by decide) (by decide)) ?_) | (refine And.intro (And.intro (by decide) (And.intro (by decide) (by decide))) ?_) | (refine And.intro (Nat.le_of_ble_eq_true rfl) (And.intro (Nat.le_of_ble_eq_true rfl) ?_)) | (refine And.intro (Nat.le_of_ble_eq_true rfl) ?_) | (refine ask_false (by omega) ?_) | (refine ask_true (by omega) ?_) | (refine ask_wrap64 (by omega) (by omega) ?_) | (refine And.intro (And.intro (by omega) (by omega)) ?_) | (refine fun (_ : InK _ _) => ?_) | (refine ⟨by kernel_rfl, ?_⟩) | fail)
  conv => whnf
  refine loop_upJ (9 :: List.range' 13 8) (fun m (z : FoldS) => (m = es.length - z.k ∧ z.k ≤ es.length) ∧ UpL (fun i => i = H.length ∨ i = (H ++ [stBl s] ++ [zSt]).length ∨ (H ++ [stBl s] ++ [zSt] ++ [outB .csn]).length ≤ i) (H ++ [stBl s] ++ [zSt] ++ [outB .csn]) z.H ∧ z.H[H.length]? = some (stBl (foldP s (es.take z.k)).1) ∧ z.H[(H ++ [stBl s] ++ [zSt]).length]? = some (outB z.v) ∧ SlAt 48 16 z.H z.v (blkRows (foldP s (es.take z.k)).2) ∧ ∀ i, bufOf z.v = some i → (i = H.length ∨ i = (H ++ [stBl s] ++ [zSt]).length ∨ (H ++ [stBl s] ++ [zSt] ++ [outB .csn]).length ≤ i)) (fun z => [(13, vi z.k)]) (fun z => z.H) es.length ⟨0, .csn, H ++ [stBl s] ++ [zSt] ++ [outB .csn]⟩ ⟨⟨rfl, Nat.zero_le _⟩, UpL.refl uB.bnd, up_get (up_get (up_top _ _)), up_top _ _, .nil, fun q h => by cases h⟩ ?_ ?_ ?_
  · rintro m z ⟨_, u, g1, g2, _⟩
    have hl := u.len
    have gq := u.keep q _ (fun h => by have := (List.getElem?_eq_some_iff.1 hq).1; simp at h; omega) (uB.keep _ _ hq rfl)
    simp at hl
    have d0 := get_blt g1
    have d1 : decide ((H ++ [stBl s]).length < z.H.length) = true := decide_eq_true (by simp; omega)
    have d2 := get_blt g2
    have d3 := get_blt gq
    repeat' (first | rfl | exact d0 | exact d1 | exact d2 | exact d3 | refine and_t ?_ ?_)
  · exact ⟨rfl, ⟨⟨Nat.le_of_ble_eq_true rfl, rfl⟩, trivial⟩, wkH_refl _, bndH_of uB.bnd, uB.len⟩
  · rintro m z ⟨⟨rfl, k1⟩, u, g1, g2, sl, kb⟩
    have hl := u.len
    simp at hl
    rcases Nat.lt_or_ge z.k es.length with hk | hk
    · obtain ⟨e, hek⟩ : ∃ e, es[z.k]? = some e := ⟨_, List.getElem?_eq_getElem hk⟩
      have hrow : (enRows es ++ rest)[z.k]? = some (B.enW e.1 e.2.1 e.2.2).segs := by rw [List.getElem?_append_left (by omega)]; exact enRows_get hek
      have em : mulN (z.k : Int).toNat (Tryz.prog.types[35]).size = z.k * 3 := by
        rw [show (Tryz.prog.types[35]).size = 3 by kernel_rfl, mulN_eq, Int.toNat_natCast]
      have gq := u.keep q _ (fun h => by have := (List.getElem?_eq_some_iff.1 hq).1; simp at h; omega) (uB.keep _ _ hq rfl)
      repeat' ((conv => whnf); first | (refine lenH_is ?_) | (refine pushH_at ?_) | (refine setH_as (set_top _ _ _) ?_) | (refine setH_as (set_low _ _ _ _) ?_) | (refine setH_as (set_top' _ _ _ _ _) ?_) | (refine And.intro ?_ trivial) | (refine And.intro rfl ?_) | (refine And.intro (And.intro (by decide) (by decide)) ?_) | (refine And.intro (And.intro (by decide) (And.intro (by decide) (by decide))) ?_) | (refine And.intro (Nat.le_of_ble_eq_true rfl) (And.intro (Nat.le_of_ble_eq_true rfl) ?_)) | (refine And.intro (Nat.le_of_ble_eq_true rfl) ?_) | (refine ask_false (by omega) ?_) | (refine ask_true (by omega) ?_) | (refine ask_wrap64 (by omega) (by omega) ?_) | (refine And.intro (And.intro (by omega) (by omega)) ?_) | (refine fun (_ : InK _ _) => ?_) | (refine ⟨by kernel_rfl, ?_⟩) | fail)
      refine hGet_at gq ?_
      refine load_whole (by kernel_rfl) (inf := Tryz.prog.types[35]) (by kernel_rfl) (by kernel_rfl) hrows hone hrow (by rw [em]; omega) ?_
      have u2 : UpT [] z.H (z.H ++ [.own 35 (B.enW e.1 e.2.1 e.2.2).segs]) := (UpT.refl u.bnd).app rfl
      repeat' ((conv => whnf); first | (refine lenH_is ?_) | (refine pushH_at ?_) | (refine setH_as (set_top _ _ _) ?_) | (refine setH_as (set_low _ _ _ _) ?_) | (refine setH_as (set_top' _ _ _ _ _) ?_) | (refine hGet_at (up_top _ _) ?_) | (refine And.intro ?_ trivial) | (refine And.intro rfl ?_) | (refine And.intro (And.intro (by decide) (by decide)) ?_) | (refine And.intro (And.intro (by decide) (And.intro (by decide) (by decide))) ?_) | (refine And.intro (Nat.le_of_ble_eq_true rfl) (And.intro (Nat.le_of_ble_eq_true rfl) ?_)) | (refine And.intro (Nat.le_of_ble_eq_true rfl) ?_) | (refine ask_false (by omega) ?_) | (refine ask_true (by omega) ?_) | (refine ask_wrap64 (by omega) (by omega) ?_) | (refine And.intro (And.intro (by omega) (by omega)) ?_) | (refine fun (_ : InK _ _) => ?_) | (refine ⟨by kernel_rfl, ?_⟩) | fail)
      conv => whnf
      have k0 := u2.keep _ _ g1 rfl
      have k2 := u2.keep _ _ g2 rfl
      have hlt := blkRows_len (foldP s (es.take z.k)).2
      have hfl := foldP_len s (es.take z.k)
      have htl : (es.take z.k).length ≤ es.length := by simp; omega
      refine ⟨fun i => i = H.length ∨ i = (H ++ [stBl s] ++ [zSt]).length ∨ (H ++ [stBl s] ++ [zSt] ++ [outB .csn]).length ≤ i, (foldP s (es.take z.k)).1, z.v, blkRows (foldP s (es.take z.k)).2, ⟨.inl rfl, .inr (.inl rfl), fun i hi => .inr (.inr (Nat.le_trans u.len (Nat.le_trans u2.len hi)))⟩, ⟨k0, k2, sl.up u2 rfl, kb⟩, ⟨foldP_ok hr _, he e (List.mem_of_getElem? hek), by omega⟩, fun H3 v3 u3 a1 a2 a3 a4 => ?_⟩
      repeat' ((conv => whnf); first | (refine lenH_is ?_) | (refine pushH_at ?_) | (refine setH_as (set_top _ _ _) ?_) | (refine setH_as (set_low _ _ _ _) ?_) | (refine setH_as (set_top' _ _ _ _ _) ?_) | (refine And.intro ?_ trivial) | (refine And.intro rfl ?_) | (refine And.intro (And.intro (by decide) (by decide)) ?_) | (refine And.intro (And.intro (by decide) (And.intro (by decide) (by decide))) ?_) | (refine And.intro (Nat.le_of_ble_eq_true rfl) (And.intro (Nat.le_of_ble_eq_true rfl) ?_)) | (refine And.intro (Nat.le_of_ble_eq_true rfl) ?_) | (refine ask_false (by omega) ?_) | (refine ask_true (by omega) ?_) | (refine ask_wrap64 (by omega) (by omega) ?_) | (refine And.intro (And.intro (by omega) (by omega)) ?_) | (refine fun (_ : InK _ _) => ?_) | (refine ⟨by kernel_rfl, ?_⟩) | fail)
      have e1 := take_next hek
      have e2 := foldP_app s (es.take z.k) e
      rw [← e1] at e2
      have hb3 : blkRows (foldP s (es.take z.k)).2 ++ blkRows (spB (foldP s (es.take z.k)).1 e.1 e.2.2) = blkRows (foldP s (es.take (z.k + 1))).2 := by rw [e2]; simp [blkRows]
      refine ⟨es.length - (z.k + 1), ⟨z.k + 1, v3, H3⟩, by omega, ⟨⟨rfl, hk⟩, (UpL.trans u (UpT.low u2)).trans u3, ?_, a2, hb3 ▸ a3, a4⟩, ⟨rfl, ⟨⟨Nat.le_of_ble_eq_true rfl, rfl⟩, trivial⟩, wkH_refl _, bndH_of u3.bnd, ?_⟩⟩
      · show H3[H.length]? = some (stBl (foldP s (es.take (z.k + 1))).1)
        rw [e2]; exact a1
      · have h3 : (z.H ++ [Blk.own 35 (B.enW e.1 e.2.1 e.2.2).segs]).length ≤ H3.length := u3.len
        have h2 := u2.len
        show H.length ≤ H3.length; omega
    · repeat' ((conv => whnf); first | (refine lenH_is ?_) | (refine pushH_at ?_) | (refine setH_as (set_top _ _ _) ?_) | (refine setH_as (set_low _ _ _ _) ?_) | (refine setH_as (set_top' _ _ _ _ _) ?_) | (refine And.intro ?_ trivial) | (refine And.intro rfl ?_) | (refine And.intro (And.intro (by decide) (by decide)) ?_) | (refine And.intro (And.intro (by decide) (And.intro (by decide) (by decide))) ?_) | (refine And.intro (Nat.le_of_ble_eq_true rfl) (And.intro (Nat.le_of_ble_eq_true rfl) ?_)) | (refine And.intro (Nat.le_of_ble_eq_true rfl) ?_) | (refine ask_false (by omega) ?_) | (refine ask_true (by omega) ?_) | (refine ask_wrap64 (by omega) (by omega) ?_) | (refine And.intro (And.intro (by omega) (by omega)) ?_) | (refine fun (_ : InK _ _) => ?_) | (refine ⟨by kernel_rfl, ?_⟩) | fail)
      have gb := u.bnd
      have g5 := u.keep (H ++ [stBl s]).length _ (fun h => by simp at h) (up_get (up_top _ _))
      rw [List.take_of_length_le hk] at g1 sl
      refine red_each (by kernel_rfl) ?_
      repeat' ((conv => whnf); first | (refine hGet_at g1 ?_) | (refine hGet_at g2 ?_) | (refine hGet_at g5 ?_) | (refine And.intro ?_ (And.intro ?_ trivial)) | (refine And.intro ?_ trivial) | (refine setH_up g5 gb (gb _ (List.mem_of_getElem? g1)) fun G3 e3 w3 q3 => ?_) | (refine hGet_at q3 ?_) | fail)
      all_goals
        exact ⟨z.v, rfl, by rw [e3]; exact UpL.all (UpL.set (p := fun i => H.length ≤ i) ((UpT.low uB).trans (u.mono fun i h => by simp at h; omega)) (by simp) (gb _ (List.mem_of_getElem? g1))) fun i hi h => by omega, sl.up w3 rfl⟩
def hFold : HCt := fun ws H K => match ws with
  | [.agg [.ints .i64 n m, .one (.ci .i64 l), .ints .i64 a v, .ints .i64 b w, .one (.ci .i64 q)], .c c] => (n = 16 ∧ a = 4 ∧ b = 16) ∧ ∃ es : List E3, SlAt 35 3 H c (enRows es) ∧ (StR ⟨m, l, v, w, q⟩ ∧ (∀ e ∈ es, B.rightE e.1 e.2.2) ∧ es.length ≤ 200) ∧
    ∀ H' v' x, x = (foldP ⟨m, l, v, w, q⟩ es).1 → UpT [] H H' → SlAt 48 16 H' v' (blkRows (foldP ⟨m, l, v, w, q⟩ es).2) → K (.tup [.c v', B.stW x]) H'
  | _ => False
theorem fold_ct : HCtOkG Tryz.prog D.G1 13 hFold := by
  intro ws' H K h hr hb ho σ base w₀ w' hw
  unfold hFold at h
  split at h
  · rename_i n m l a v b w q c
    obtain ⟨⟨rfl, rfl, rfl⟩, es, hs, ⟨h1, h2, h3⟩, hK⟩ := h
    exact heap_lift6 FFo_ok Tryz.func13 (n := 1) (ws := [B.stW ⟨m, l, v, w, q⟩, .c c]) hr hb ho (fold_walk ho h1 hs h2 h3) (fun x H' hP => by
      obtain ⟨v', rfl, u, s⟩ := hP
      exact hK H' v' _ rfl u s) σ base w₀ w' hw
  · exact h.elim
end R
end Go.Proofs.YtaficaacogcblaaGreatDoor
