/- Yf, Yg: what the law wants of them. -/
import Derived.Test.YtaficaacogcblaaGreatDoorZk
set_option linter.all false
namespace Go.Proofs.YtaficaacogcblaaGreatDoor
namespace R
open Go.RowKit (Below)
set_option maxRecDepth 100000
set_option maxHeartbeats 16000000
def ctHeads : Ct := fun ws K => match ws with
  | [.c (.ci .i64 i)] => 0 ≤ i ∧ ∀ b, b = decide (i % 16 = 0) → K (vb b)
  | _ => False
theorem heads_walk {i : Int} (h : 0 ≤ i) : walk6 F0 0 Tryz.f49 [i64 i] [] fun y _ => y = vb (decide (i % 16 = 0)) := by
  repeat' ((conv => whnf); first | (refine lenH_is ?_) | (refine pushH_at ?_) | (refine setH_as (set_top _ _ _) ?_) | (refine setH_as (set_low _ _ _ _) ?_) | (refine setH_as (set_top' _ _ _ _ _) ?_) | (refine And.intro ?_ trivial) | (refine And.intro rfl ?_) | (refine And.intro (And.intro (by decide) (by decide)) ?_) | (refine And.intro (And.intro (by decide) (And.intro (by decide) (by decide))) ?_) | (refine And.intro (Nat.le_of_ble_eq_true rfl) (And.intro (Nat.le_of_ble_eq_true rfl) ?_)) | (refine And.intro (Nat.le_of_ble_eq_true rfl) ?_) | (refine ask_false (by omega) ?_) | (refine ask_true (by omega) ?_) | (refine ask_wrap64 (by omega) (by omega) ?_) | (refine And.intro (And.intro (by omega) (by omega)) ?_) | (refine fun (_ : InK _ _) => ?_) | (refine ⟨by kernel_rfl, ?_⟩) | fail)
  refine And.intro (by decide) fun r hr => ?_
  rw [Int.tmod_eq_emod_of_nonneg h] at hr
  repeat' ((conv => whnf); first | (refine lenH_is ?_) | (refine pushH_at ?_) | (refine setH_as (set_top _ _ _) ?_) | (refine setH_as (set_low _ _ _ _) ?_) | (refine setH_as (set_top' _ _ _ _ _) ?_) | (refine And.intro ?_ trivial) | (refine And.intro rfl ?_) | (refine And.intro (And.intro (by decide) (by decide)) ?_) | (refine And.intro (And.intro (by decide) (And.intro (by decide) (by decide))) ?_) | (refine And.intro (Nat.le_of_ble_eq_true rfl) (And.intro (Nat.le_of_ble_eq_true rfl) ?_)) | (refine And.intro (Nat.le_of_ble_eq_true rfl) ?_) | (refine ask_false (by omega) ?_) | (refine ask_true (by omega) ?_) | (refine ask_wrap64 (by omega) (by omega) ?_) | (refine And.intro (And.intro (by omega) (by omega)) ?_) | (refine fun (_ : InK _ _) => ?_) | (refine ⟨by kernel_rfl, ?_⟩) | fail)
  refine ask_is (f := decide (i % 16 = 0)) (by rw [hr]) ?_
  repeat' ((conv => whnf); first | (refine lenH_is ?_) | (refine pushH_at ?_) | (refine setH_as (set_top _ _ _) ?_) | (refine setH_as (set_low _ _ _ _) ?_) | (refine setH_as (set_top' _ _ _ _ _) ?_) | (refine And.intro ?_ trivial) | (refine And.intro rfl ?_) | (refine And.intro (And.intro (by decide) (by decide)) ?_) | (refine And.intro (And.intro (by decide) (And.intro (by decide) (by decide))) ?_) | (refine And.intro (Nat.le_of_ble_eq_true rfl) (And.intro (Nat.le_of_ble_eq_true rfl) ?_)) | (refine And.intro (Nat.le_of_ble_eq_true rfl) ?_) | (refine ask_false (by omega) ?_) | (refine ask_true (by omega) ?_) | (refine ask_wrap64 (by omega) (by omega) ?_) | (refine And.intro (And.intro (by omega) (by omega)) ?_) | (refine fun (_ : InK _ _) => ?_) | (refine ⟨by kernel_rfl, ?_⟩) | fail)
  rfl
theorem heads_ct : CtOkG Tryz.prog D.G1 49 ctHeads := by
  intro ws K h hr
  unfold ctHeads at h
  split at h
  · obtain ⟨h1, hK⟩ := h
    exact ⟨_, hK _ rfl, ⟨trivial, rfl⟩, fun σ w hg => val_lift6 D.F0_okg Tryz.func49 (n := 0) rfl hr rfl (heads_walk h1) σ w hg⟩
  · exact h.elim
noncomputable def numB (i : Nat) : ByteArray := strOfNums (Q.four ((i : Int) / 16))
def ctNumber : Ct := fun ws K => match ws with
  | [.c (.ci .i64 i)] => ∃ n : Nat, (i = n ∧ n < 1024) ∧ ∀ s, s = numB n → K (.w (.c (.cs s)))
  | _ => False
noncomputable def FNb : Fns := F0.plus 22 Q.ctFour
theorem FNb_ok : FnsOk Tryz.prog FNb D.G1 := D.F0_okg.plus Q.four_ct Tryz.func22 (by kernel_rfl) (by kernel_rfl)
theorem number_walk {n : Nat} (h : n < 1024) : walk6 FNb 0 Tryz.f83 [i64 n] [] fun y _ => y = .w (.c (.cs (numB n))) := by
  repeat' ((conv => whnf); first | (refine lenH_is ?_) | (refine pushH_at ?_) | (refine setH_as (set_top _ _ _) ?_) | (refine setH_as (set_low _ _ _ _) ?_) | (refine setH_as (set_top' _ _ _ _ _) ?_) | (refine And.intro ?_ trivial) | (refine And.intro rfl ?_) | (refine And.intro (And.intro (by decide) (by decide)) ?_) | (refine And.intro (And.intro (by decide) (And.intro (by decide) (by decide))) ?_) | (refine And.intro (Nat.le_of_ble_eq_true rfl) (And.intro (Nat.le_of_ble_eq_true rfl) ?_)) | (refine And.intro (Nat.le_of_ble_eq_true rfl) ?_) | (refine ask_false (by omega) ?_) | (refine ask_true (by omega) ?_) | (refine ask_wrap64 (by omega) (by omega) ?_) | (refine And.intro (And.intro (by omega) (by omega)) ?_) | (refine fun (_ : InK _ _) => ?_) | (refine ⟨by kernel_rfl, ?_⟩) | fail)
  refine And.intro (by decide) fun r hr => ?_
  rw [tdiv_pos (by omega)] at hr
  rw [wrap_of_in (k := .i64) ⟨by simp only [lowK]; omega, by simp only [highK]; omega⟩] at hr
  subst hr
  repeat' ((conv => whnf); first | (refine lenH_is ?_) | (refine pushH_at ?_) | (refine setH_as (set_top _ _ _) ?_) | (refine setH_as (set_low _ _ _ _) ?_) | (refine setH_as (set_top' _ _ _ _ _) ?_) | (refine And.intro ?_ trivial) | (refine And.intro rfl ?_) | (refine And.intro (And.intro (by decide) (by decide)) ?_) | (refine And.intro (And.intro (by decide) (And.intro (by decide) (by decide))) ?_) | (refine And.intro (Nat.le_of_ble_eq_true rfl) (And.intro (Nat.le_of_ble_eq_true rfl) ?_)) | (refine And.intro (Nat.le_of_ble_eq_true rfl) ?_) | (refine ask_false (by omega) ?_) | (refine ask_true (by omega) ?_) | (refine ask_wrap64 (by omega) (by omega) ?_) | (refine And.intro (And.intro (by omega) (by omega)) ?_) | (refine fun (_ : InK _ _) => ?_) | (refine ⟨by kernel_rfl, ?_⟩) | fail)
  refine ask_wrapu32 (by omega) (by omega) ?_
  repeat' ((conv => whnf); first | (refine lenH_is ?_) | (refine pushH_at ?_) | (refine setH_as (set_top _ _ _) ?_) | (refine setH_as (set_low _ _ _ _) ?_) | (refine setH_as (set_top' _ _ _ _ _) ?_) | (refine And.intro ?_ trivial) | (refine And.intro rfl ?_) | (refine And.intro (And.intro (by decide) (by decide)) ?_) | (refine And.intro (And.intro (by decide) (And.intro (by decide) (by decide))) ?_) | (refine And.intro (Nat.le_of_ble_eq_true rfl) (And.intro (Nat.le_of_ble_eq_true rfl) ?_)) | (refine And.intro (Nat.le_of_ble_eq_true rfl) ?_) | (refine ask_false (by omega) ?_) | (refine ask_true (by omega) ?_) | (refine ask_wrap64 (by omega) (by omega) ?_) | (refine And.intro (And.intro (by omega) (by omega)) ?_) | (refine fun (_ : InK _ _) => ?_) | (refine ⟨by kernel_rfl, ?_⟩) | fail)
  refine fun s hs => ?_
  repeat' ((conv => whnf); first | (refine lenH_is ?_) | (refine pushH_at ?_) | (refine setH_as (set_top _ _ _) ?_) | (refine setH_as (set_low _ _ _ _) ?_) | (refine setH_as (set_top' _ _ _ _ _) ?_) | (refine And.intro ?_ trivial) | (refine And.intro rfl ?_) | (refine And.intro (And.intro (by decide) (by decide)) ?_) | (refine And.intro (And.intro (by decide) (And.intro (by decide) (by decide))) ?_) | (refine And.intro (Nat.le_of_ble_eq_true rfl) (And.intro (Nat.le_of_ble_eq_true rfl) ?_)) | (refine And.intro (Nat.le_of_ble_eq_true rfl) ?_) | (refine ask_false (by omega) ?_) | (refine ask_true (by omega) ?_) | (refine ask_wrap64 (by omega) (by omega) ?_) | (refine And.intro (And.intro (by omega) (by omega)) ?_) | (refine fun (_ : InK _ _) => ?_) | (refine ⟨by kernel_rfl, ?_⟩) | fail)
  rw [hs]; rfl
theorem number_ct : CtOkG Tryz.prog D.G1 83 ctNumber := by
  intro ws K h hr
  unfold ctNumber at h
  split at h
  · obtain ⟨n, ⟨rfl, h1⟩, hK⟩ := h
    refine ⟨_, hK _ rfl, ⟨?_, rfl⟩, fun σ w hg => val_lift6 FNb_ok Tryz.func83 (ws := [i64 n]) (n := 0) rfl hr rfl (number_walk h1) σ w hg⟩
    show (strOfNums _).size ≤ _
    rw [strOfNums_size]; exact Nat.le_of_ble_eq_true rfl
  · exact h.elim
noncomputable def FSt : Fns := ((F0.plus 49 ctHeads).plus 83 ctNumber).every 83
theorem FSt_ok : FnsOk Tryz.prog FSt D.G1 := ((D.F0_okg.plusG heads_ct Tryz.func49 (by kernel_rfl) (by kernel_rfl)).plusG number_ct Tryz.func83 (by kernel_rfl) (by kernel_rfl)).every _
def stOk (i : Nat) (n k : Int) (d : ByteArray) : Prop := n = i ∧ i < 1024 ∧ (i % 16 = 0 → k = 1 ∧ d = numB i) ∧ (i % 16 ≠ 0 → k = 2)
theorem stands_walk {H : List Blk} (hH : HOk H) {j : Nat} {b : Bool} {e0 : Int} {r : ByteArray} {v : C} {a nx ep ms : Int} {br : Bool} (hj : H[j]? = some (scB b e0 r v a nx ep ms br)) {i : Nat} {e n k : Int} {f l : Bool} {d : ByteArray} (h : stOk i n k d) (he : ep ≤ e) (hn : InK .u32 n) :
    walk6 FSt 0 Tryz.f53 [.c (.cp j 0), i64 i, pqW e n k f l d] H fun y H' => y = vb true ∧ UpT [] H H' := by
  obtain ⟨rfl, hi, h1, h2⟩ := h
  have u1 : UpT [] H (H ++ [.own 127 (pq e i k f l d)]) := (UpT.refl hH.bnd).app rfl
  have hcast : ((i : Int) % 16 = 0) ↔ i % 16 = 0 := by omega
  repeat' ((conv => whnf); first | (refine lenH_is ?_) | (refine pushH_at ?_) | (refine maskB_as fun Hm hl hm => ?_) | (refine hGet_at (hm j _ (up_get hj) (by simp)) ?_) | (refine hGet_at (hm _ _ (up_top _ _) (by simp)) ?_) | (refine ⟨by kernel_rfl, ?_⟩) | (refine ask_true (by omega) ?_) | (refine ask_wrap64 (by omega) (by omega) ?_) | (refine ask_false (by omega) ?_) | fail)
  refine And.intro (by omega) fun bb hbb => ?_
  rcases Nat.eq_zero_or_pos (i % 16) with g | g
  · obtain rfl : bb = true := by rw [hbb]; exact decide_eq_true (by omega)
    obtain ⟨rfl, hd⟩ := h1 g
    repeat' ((conv => whnf); first | (refine lenH_is ?_) | (refine pushH_at ?_) | (refine setH_as (set_top _ _ _) ?_) | (refine setH_as (set_low _ _ _ _) ?_) | (refine setH_as (set_top' _ _ _ _ _) ?_) | (refine hGet_at (up_top _ _) ?_) | (refine And.intro ?_ trivial) | (refine And.intro rfl ?_) | (refine And.intro (And.intro (by decide) (by decide)) ?_) | (refine And.intro (And.intro (by decide) (And.intro (by decide) (by decide))) ?_) | (refine And.intro (Nat.le_of_ble_eq_true rfl) (And.intro (Nat.le_of_ble_eq_true rfl) ?_)) | (refine And.intro (Nat.le_of_ble_eq_true rfl) ?_) | (refine ask_false (by omega) ?_) | (refine ask_true (by omega) ?_) | (refine ask_wrap64 (by omega) (by omega) ?_) | (refine And.intro (And.intro (by omega) (by omega)) ?_) | (refine fun (_ : InK _ _) => ?_) | (refine ⟨by kernel_rfl, ?_⟩) | fail)
    refine red_each (by kernel_rfl) ?_
    repeat' ((conv => whnf); first | (refine hGet_at (up_top _ _) ?_) | (refine ⟨i, ⟨rfl, hi⟩, fun s hs => ?_⟩) | (refine ask_true rfl ?_) | (refine ask_true (hd.trans hs.symm) ?_) | (refine ask_true (by omega) ?_) | (refine And.intro ?_ (And.intro ?_ trivial)) | (refine And.intro ?_ trivial) | fail)
    all_goals exact ⟨rfl, u1⟩
  · obtain rfl : bb = false := by rw [hbb]; exact decide_eq_false (by omega)
    obtain rfl := h2 (by omega)
    repeat' ((conv => whnf); first | (refine lenH_is ?_) | (refine pushH_at ?_) | (refine setH_as (set_top _ _ _) ?_) | (refine setH_as (set_low _ _ _ _) ?_) | (refine setH_as (set_top' _ _ _ _ _) ?_) | (refine hGet_at (up_top _ _) ?_) | (refine And.intro ?_ trivial) | (refine And.intro rfl ?_) | (refine And.intro (And.intro (by decide) (by decide)) ?_) | (refine And.intro (And.intro (by decide) (And.intro (by decide) (by decide))) ?_) | (refine And.intro (Nat.le_of_ble_eq_true rfl) (And.intro (Nat.le_of_ble_eq_true rfl) ?_)) | (refine And.intro (Nat.le_of_ble_eq_true rfl) ?_) | (refine ask_false (by omega) ?_) | (refine ask_true (by omega) ?_) | (refine ask_wrap64 (by omega) (by omega) ?_) | (refine And.intro (And.intro (by omega) (by omega)) ?_) | (refine fun (_ : InK _ _) => ?_) | (refine ⟨by kernel_rfl, ?_⟩) | fail)
    exact u1
def hStands : HCt := fun ws H K => match ws with
  | [.c (.cp j 0), .c (.ci .i64 i'), .agg [.one (.ci .u32 e), .one (.ci .u32 n), .one (.ci .i64 k), .one (.cb f), .one (.cb l), .one (.cs d)]] => ∃ (b : Bool) (e0 : Int) (r : ByteArray) (v : C) (a nx ep ms : Int) (br : Bool) (i : Nat), H[j]? = some (scB b e0 r v a nx ep ms br) ∧ (i' = i ∧ stOk i n k d ∧ ep ≤ e) ∧ ∀ H', UpT [] H H' → K (vb true) H'
  | _ => False
theorem stands_ct : HCtOkG Tryz.prog D.G1 53 hStands := by
  intro ws H K h hr hb ho σ base w₀ w hw
  unfold hStands at h
  split at h
  · rename_i j i' e n k f l d
    obtain ⟨b, e0, r, v, a, nx, ep, ms, br, i, hj, ⟨rfl, h1, h2⟩, hK⟩ := h
    exact heap_lift6 FSt_ok Tryz.func53 (n := 0) (ws := [.c (.cp j 0), i64 i, pqW e n k f l d]) hr hb ho (stands_walk ho hj h1 h2 hr.2.2.1.2.1) (fun x H' hP => by
      obtain ⟨rfl, u⟩ := hP
      exact hK H' u) σ base w₀ w hw
  · exact h.elim
def txOk (rs : List (List Seg)) (txs : List ByteArray) : Prop := rs.length = txs.length ∧ ∀ (i : Nat) (t : ByteArray), txs[i]? = some t → ∃ a : Int, rs[i]? = some [.one (.ci .i64 a), .one (.cs t)]
theorem txOk.app {rs : List (List Seg)} {txs : List ByteArray} (h : txOk rs txs) (a : Int) (t : ByteArray) : txOk (rs ++ [[.one (.ci .i64 a), .one (.cs t)]]) (txs ++ [t]) := by
  refine ⟨by simp [h.1], fun i s hs => ?_⟩
  rcases Nat.lt_or_ge i txs.length with g | g
  · rw [List.getElem?_append_left g] at hs
    obtain ⟨a', ha⟩ := h.2 i s hs
    exact ⟨a', by rw [List.getElem?_append_left (by rw [h.1]; exact g)]; exact ha⟩
  · rw [List.getElem?_append_right g] at hs
    have h0 : i - txs.length = 0 := by
      have := (List.getElem?_eq_some_iff.1 hs).1
      simp at this
      omega
    rw [h0] at hs
    obtain rfl : t = s := by simpa using hs
    refine ⟨a, ?_⟩
    rw [List.getElem?_append_right (by rw [h.1]; exact g), h.1, h0]; rfl
def ScAt (H : List Blk) (j : Nat) (b : Bool) (e : Int) (r : ByteArray) (nx ms : Int) (br : Bool) (txs : List ByteArray) : Prop :=
  ∃ v a ep rs, H[j]? = some (scB b e r v a nx ep ms br) ∧ ep ≤ 1 ∧ SlAt 45 2 H v rs ∧ txOk rs txs
theorem ScAt.up {Ts : List Nat} {H H' : List Blk} {j : Nat} {b : Bool} {e : Int} {r : ByteArray} {nx ms : Int} {br : Bool} {txs : List ByteArray} (h : ScAt H j b e r nx ms br txs) (u : UpT Ts H H') (h1 : Ts.elem 96 = false) (h2 : Ts.elem 45 = false) : ScAt H' j b e r nx ms br txs := by
  obtain ⟨v, a, ep, rs, g1, g2, g3, g4⟩ := h
  exact ⟨v, a, ep, rs, u.keep _ _ g1 (by simp only [freeB, h1]; rfl), g2, g3.up u h2, g4⟩
noncomputable def FOn : Fns := (((((F0.plus 52 ctPRead).over 53 hStands).over 55 hJTake).into 54 Tryz.f54).every 55).every 777777
theorem FOn_ok : FnsOk Tryz.prog FOn D.G1 := (((((D.F0_okg.plusG pread_ct Tryz.func52 (by kernel_rfl) (by kernel_rfl)).overG stands_ct Tryz.func53 (by kernel_rfl) (by kernel_rfl)).overG jtake_ct Tryz.func55 (by kernel_rfl) (by kernel_rfl)).into Tryz.func54 (by kernel_rfl) (by kernel_rfl)).every _).every _
theorem one_bad {H : List Blk} (hH : HOk H) {j : Nat} {b : Bool} {e : Int} {r : ByteArray} {nx ms : Int} {br : Bool} {txs : List ByteArray} (h : ScAt H j b e r nx ms br txs) {i : Int} {bs : List Int} (hbs : B.le4 bs ≠ Q.sumS (strOfNums (bs.drop 4))) :
    walk6 FOn 1 Tryz.f31 [.c (.cp j 0), i64 i, pgW bs] H fun y H' => y = undefV ∧ UpT [96] H H' ∧ ScAt H' j b e r nx ms true txs := by
  obtain ⟨v, a, ep, rs, hj, hep, hv, htx⟩ := h
  have hjl := (List.getElem?_eq_some_iff.1 hj).1
  have u1 : UpT [96] H (H ++ [.own 98 (pgW bs).segs] ++ [.own 127 (pq 0 0 0 false false ⟨#[]⟩)]) := ((UpT.refl hH.bnd).app rfl).app rfl
  have g1 := up_get (N := [.own 127 (pq 0 0 0 false false ⟨#[]⟩)]) (up_get (N := [.own 98 (pgW bs).segs]) hj)
  have hb1 := u1.bnd _ (List.mem_of_getElem? g1)
  repeat' ((conv => whnf); first | (refine lenH_is ?_) | (refine pushH_at ?_) | (refine setH_as (set_top _ _ _) ?_) | (refine setH_as (set_low _ _ _ _) ?_) | (refine setH_as (set_top' _ _ _ _ _) ?_) | (refine hGet_at (up_top _ _) ?_) | (refine And.intro ?_ trivial) | (refine And.intro rfl ?_) | (refine And.intro (And.intro (by decide) (by decide)) ?_) | (refine And.intro (And.intro (by decide) (And.intro (by decide) (by decide))) ?_) | (refine And.intro (Nat.le_of_ble_eq_true rfl) (And.intro (Nat.le_of_ble_eq_true rfl) ?_)) | (refine And.intro (Nat.le_of_ble_eq_true rfl) ?_) | (refine ask_false (by omega) ?_) | (refine ask_true (by omega) ?_) | (refine ask_wrap64 (by omega) (by omega) ?_) | (refine And.intro (And.intro (by omega) (by omega)) ?_) | (refine fun (_ : InK _ _) => ?_) | (refine ⟨by kernel_rfl, ?_⟩) | fail)
  refine Or.inr ⟨hbs, ?_⟩
  cases br
  all_goals
    repeat' ((conv => whnf); first | (refine lenH_is ?_) | (refine pushH_at ?_) | (refine setH_as (set_top _ _ _) ?_) | (refine setH_as (set_low _ _ _ _) ?_) | (refine setH_as (set_top' _ _ _ _ _) ?_) | (refine hGet_at (up_top _ _) ?_) | (refine hGet_at (g1) ?_) | (refine And.intro ?_ trivial) | (refine And.intro rfl ?_) | (refine And.intro (And.intro (by decide) (by decide)) ?_) | (refine And.intro (And.intro (by decide) (And.intro (by decide) (by decide))) ?_) | (refine And.intro (Nat.le_of_ble_eq_true rfl) (And.intro (Nat.le_of_ble_eq_true rfl) ?_)) | (refine And.intro (Nat.le_of_ble_eq_true rfl) ?_) | (refine ask_false (by omega) ?_) | (refine ask_true (by omega) ?_) | (refine ask_wrap64 (by omega) (by omega) ?_) | (refine And.intro (And.intro (by omega) (by omega)) ?_) | (refine fun (_ : InK _ _) => ?_) | (refine ⟨by kernel_rfl, ?_⟩) | fail)
    refine setH_up g1 u1.bnd hb1 fun H2 _ u2 g2 => ?_
    repeat' ((conv => whnf); first | (refine lenH_is ?_) | (refine pushH_at ?_) | (refine setH_as (set_top _ _ _) ?_) | (refine setH_as (set_low _ _ _ _) ?_) | (refine setH_as (set_top' _ _ _ _ _) ?_) | (refine And.intro ?_ trivial) | (refine And.intro rfl ?_) | (refine And.intro (And.intro (by decide) (by decide)) ?_) | (refine And.intro (And.intro (by decide) (And.intro (by decide) (by decide))) ?_) | (refine And.intro (Nat.le_of_ble_eq_true rfl) (And.intro (Nat.le_of_ble_eq_true rfl) ?_)) | (refine And.intro (Nat.le_of_ble_eq_true rfl) ?_) | (refine ask_false (by omega) ?_) | (refine ask_true (by omega) ?_) | (refine ask_wrap64 (by omega) (by omega) ?_) | (refine And.intro (And.intro (by omega) (by omega)) ?_) | (refine fun (_ : InK _ _) => ?_) | (refine ⟨by kernel_rfl, ?_⟩) | fail)
    exact ⟨u1.trans u2, v, a, ep, rs, g2, hep, (hv.up u1 rfl).up u2 rfl, htx⟩
theorem pg_box {H : List Blk} (hH : HOk H) {j : Nat} {B : Blk} (hj : H[j]? = some B) (bs : List Int) (e n k : Int) (f l : Bool) (d : ByteArray) : ∀ G, G = H ++ [.own 98 (pgW bs).segs] ++ [.own 127 (pq e n k f l d)] →
    UpT [96] H G ∧ G[j]? = some B ∧ G[(H ++ [Blk.own 98 (pgW bs).segs]).length]? = some (.own 127 (pq e n k f l d)) := fun G h => by
  subst h
  exact ⟨((UpT.refl hH.bnd).app rfl).app rfl, up_get (up_get hj), up_top _ _⟩
theorem one_head {H : List Blk} (hH : HOk H) {j : Nat} {b : Bool} {e : Int} {r : ByteArray} {nx ms : Int} {txs : List ByteArray} (h : ScAt H j b e r nx ms false txs) {i : Nat} (hi : i < 1024) (h16 : i % 16 = 0) {bs : List Int} (hbs : bs = layP 1 i 1 false false (numB i)) :
    walk6 FOn 1 Tryz.f31 [.c (.cp j 0), i64 i, pgW bs] H fun y H' => y = undefV ∧ UpT [96] H H' ∧ ∃ nx' ms', ScAt H' j b e r nx' ms' false txs := by
  obtain ⟨v, a, ep, rs, hj, hep, hv, htx⟩ := h
  have hjl := (List.getElem?_eq_some_iff.1 hj).1
  have hR : pgR 1 false false (numB i) := ⟨.inr ⟨rfl, rfl, rfl⟩, by unfold numB; rw [strOfNums_size]; exact ⟨Nat.le_of_ble_eq_true rfl, Nat.le_of_ble_eq_true rfl⟩⟩
  have hin : InK .u32 (i : Int) := by simp only [InK, lowK, highK]; omega
  have h1 : InK .u32 (1 : Int) := ⟨by decide, by decide⟩
  obtain ⟨u1, g1, g6⟩ := pg_box hH hj bs 1 i 1 false false (numB i) _ rfl
  have hb1 := u1.bnd _ (List.mem_of_getElem? g1)
  repeat' ((conv => whnf); first | (refine lenH_is ?_) | (refine pushH_at ?_) | (refine setH_as (set_top _ _ _) ?_) | (refine setH_as (set_low _ _ _ _) ?_) | (refine setH_as (set_top' _ _ _ _ _) ?_) | (refine hGet_at (up_top _ _) ?_) | (refine And.intro ?_ trivial) | (refine And.intro rfl ?_) | (refine And.intro (And.intro (by decide) (by decide)) ?_) | (refine And.intro (And.intro (by decide) (And.intro (by decide) (by decide))) ?_) | (refine And.intro (Nat.le_of_ble_eq_true rfl) (And.intro (Nat.le_of_ble_eq_true rfl) ?_)) | (refine And.intro (Nat.le_of_ble_eq_true rfl) ?_) | (refine ask_false (by omega) ?_) | (refine ask_true (by omega) ?_) | (refine ask_wrap64 (by omega) (by omega) ?_) | (refine And.intro (And.intro (by omega) (by omega)) ?_) | (refine fun (_ : InK _ _) => ?_) | (refine ⟨by kernel_rfl, ?_⟩) | fail)
  refine Or.inl ⟨1, i, 1, false, false, numB i, ⟨h1, hin, hR⟩, hbs, ?_⟩
  repeat' ((conv => whnf); first | (refine lenH_is ?_) | (refine pushH_at ?_) | (refine setH_as (set_top _ _ _) ?_) | (refine setH_as (set_low _ _ _ _) ?_) | (refine setH_as (set_top' _ _ _ _ _) ?_) | (refine hGet_at (up_top _ _) ?_) | (refine And.intro ?_ trivial) | (refine And.intro rfl ?_) | (refine And.intro (And.intro (by decide) (by decide)) ?_) | (refine And.intro (And.intro (by decide) (And.intro (by decide) (by decide))) ?_) | (refine And.intro (Nat.le_of_ble_eq_true rfl) (And.intro (Nat.le_of_ble_eq_true rfl) ?_)) | (refine And.intro (Nat.le_of_ble_eq_true rfl) ?_) | (refine ask_false (by omega) ?_) | (refine ask_true (by omega) ?_) | (refine ask_wrap64 (by omega) (by omega) ?_) | (refine And.intro (And.intro (by omega) (by omega)) ?_) | (refine fun (_ : InK _ _) => ?_) | (refine ⟨by kernel_rfl, ?_⟩) | fail)
  refine red_each (by kernel_rfl) ?_
  repeat' ((conv => whnf); first | (refine hGet_at g1 ?_) | (refine hGet_at g6 ?_) | (refine And.intro ?_ (And.intro ?_ trivial)) | (refine And.intro ?_ trivial) | (refine setH_up g1 u1.bnd hb1 fun H2 _ u2 g2 => ?_) | fail)
  all_goals
    have g62 := u2.keep _ _ g6 rfl
    repeat' ((conv => whnf); first | (refine lenH_is ?_) | (refine pushH_at ?_) | (refine setH_as (set_top _ _ _) ?_) | (refine setH_as (set_low _ _ _ _) ?_) | (refine setH_as (set_top' _ _ _ _ _) ?_) | (refine hGet_at (g2) ?_) | (refine hGet_at (g62) ?_) | (refine And.intro ?_ trivial) | (refine And.intro rfl ?_) | (refine And.intro (And.intro (by decide) (by decide)) ?_) | (refine And.intro (And.intro (by decide) (And.intro (by decide) (by decide))) ?_) | (refine And.intro (Nat.le_of_ble_eq_true rfl) (And.intro (Nat.le_of_ble_eq_true rfl) ?_)) | (refine And.intro (Nat.le_of_ble_eq_true rfl) ?_) | (refine ask_false (by omega) ?_) | (refine ask_true (by omega) ?_) | (refine ask_wrap64 (by omega) (by omega) ?_) | (refine And.intro (And.intro (by omega) (by omega)) ?_) | (refine fun (_ : InK _ _) => ?_) | (refine ⟨by kernel_rfl, ?_⟩) | fail)
    refine ⟨b, e, r, v, a, nx, ep, max ms 1, false, i, g2, ⟨rfl, ⟨rfl, hi, fun _ => ⟨rfl, rfl⟩, fun h => absurd h16 h⟩, hep⟩, fun H3 u3 => ?_⟩
    have g3 := u3.keep _ _ g2 rfl
    have g63 := u3.keep _ _ g62 rfl
    cases b
    · repeat' ((conv => whnf); first | (refine lenH_is ?_) | (refine pushH_at ?_) | (refine setH_as (set_top _ _ _) ?_) | (refine setH_as (set_low _ _ _ _) ?_) | (refine setH_as (set_top' _ _ _ _ _) ?_) | (refine hGet_at (g3) ?_) | (refine hGet_at (g63) ?_) | (refine And.intro ?_ trivial) | (refine And.intro rfl ?_) | (refine And.intro (And.intro (by decide) (by decide)) ?_) | (refine And.intro (And.intro (by decide) (And.intro (by decide) (by decide))) ?_) | (refine And.intro (Nat.le_of_ble_eq_true rfl) (And.intro (Nat.le_of_ble_eq_true rfl) ?_)) | (refine And.intro (Nat.le_of_ble_eq_true rfl) ?_) | (refine ask_false (by omega) ?_) | (refine ask_true (by omega) ?_) | (refine ask_wrap64 (by omega) (by omega) ?_) | (refine And.intro (And.intro (by omega) (by omega)) ?_) | (refine fun (_ : InK _ _) => ?_) | (refine ⟨by kernel_rfl, ?_⟩) | fail)
      refine red_each (by kernel_rfl) ?_
      repeat' ((conv => whnf); first | (refine lenH_is ?_) | (refine pushH_at ?_) | (refine setH_as (set_top _ _ _) ?_) | (refine setH_as (set_low _ _ _ _) ?_) | (refine setH_as (set_top' _ _ _ _ _) ?_) | (refine hGet_at (g3) ?_) | (refine hGet_at (g63) ?_) | (refine And.intro ?_ trivial) | (refine And.intro rfl ?_) | (refine And.intro (And.intro (by decide) (by decide)) ?_) | (refine And.intro (And.intro (by decide) (And.intro (by decide) (by decide))) ?_) | (refine And.intro (Nat.le_of_ble_eq_true rfl) (And.intro (Nat.le_of_ble_eq_true rfl) ?_)) | (refine And.intro (Nat.le_of_ble_eq_true rfl) ?_) | (refine ask_false (by omega) ?_) | (refine ask_true (by omega) ?_) | (refine ask_wrap64 (by omega) (by omega) ?_) | (refine And.intro (And.intro (by omega) (by omega)) ?_) | (refine fun (_ : InK _ _) => ?_) | (refine ⟨by kernel_rfl, ?_⟩) | fail)
      refine And.intro hR (.inl ⟨by decide, fun H4 u4 => ?_⟩)
      have g4 := u4.keep _ _ g3 rfl
      have g64 := u4.keep _ _ g63 rfl
      have hb4 := u4.bnd _ (List.mem_of_getElem? g4)
      repeat' ((conv => whnf); first | (refine lenH_is ?_) | (refine pushH_at ?_) | (refine setH_as (set_top _ _ _) ?_) | (refine setH_as (set_low _ _ _ _) ?_) | (refine setH_as (set_top' _ _ _ _ _) ?_) | (refine hGet_at (g4) ?_) | (refine hGet_at (g64) ?_) | (refine And.intro ?_ trivial) | (refine And.intro rfl ?_) | (refine And.intro (And.intro (by decide) (by decide)) ?_) | (refine And.intro (And.intro (by decide) (And.intro (by decide) (by decide))) ?_) | (refine And.intro (Nat.le_of_ble_eq_true rfl) (And.intro (Nat.le_of_ble_eq_true rfl) ?_)) | (refine And.intro (Nat.le_of_ble_eq_true rfl) ?_) | (refine ask_false (by omega) ?_) | (refine ask_true (by omega) ?_) | (refine ask_wrap64 (by omega) (by omega) ?_) | (refine And.intro (And.intro (by omega) (by omega)) ?_) | (refine fun (_ : InK _ _) => ?_) | (refine ⟨by kernel_rfl, ?_⟩) | fail)
      refine setH_up g4 u4.bnd hb4 fun H5 _ u5 g5 => ?_
      have hb5 := u5.bnd _ (List.mem_of_getElem? g5)
      repeat' ((conv => whnf); first | (refine lenH_is ?_) | (refine pushH_at ?_) | (refine setH_as (set_top _ _ _) ?_) | (refine setH_as (set_low _ _ _ _) ?_) | (refine setH_as (set_top' _ _ _ _ _) ?_) | (refine hGet_at (g5) ?_) | (refine And.intro ?_ trivial) | (refine And.intro rfl ?_) | (refine And.intro (And.intro (by decide) (by decide)) ?_) | (refine And.intro (And.intro (by decide) (And.intro (by decide) (by decide))) ?_) | (refine And.intro (Nat.le_of_ble_eq_true rfl) (And.intro (Nat.le_of_ble_eq_true rfl) ?_)) | (refine And.intro (Nat.le_of_ble_eq_true rfl) ?_) | (refine ask_false (by omega) ?_) | (refine ask_true (by omega) ?_) | (refine ask_wrap64 (by omega) (by omega) ?_) | (refine And.intro (And.intro (by omega) (by omega)) ?_) | (refine fun (_ : InK _ _) => ?_) | (refine ⟨by kernel_rfl, ?_⟩) | fail)
      refine setH_up g5 u5.bnd hb5 fun H6 _ u6 g6' => ?_
      repeat' ((conv => whnf); first | (refine lenH_is ?_) | (refine pushH_at ?_) | (refine setH_as (set_top _ _ _) ?_) | (refine setH_as (set_low _ _ _ _) ?_) | (refine setH_as (set_top' _ _ _ _ _) ?_) | (refine hGet_at (g6') ?_) | (refine And.intro ?_ trivial) | (refine And.intro rfl ?_) | (refine And.intro (And.intro (by decide) (by decide)) ?_) | (refine And.intro (And.intro (by decide) (And.intro (by decide) (by decide))) ?_) | (refine And.intro (Nat.le_of_ble_eq_true rfl) (And.intro (Nat.le_of_ble_eq_true rfl) ?_)) | (refine And.intro (Nat.le_of_ble_eq_true rfl) ?_) | (refine ask_false (by omega) ?_) | (refine ask_true (by omega) ?_) | (refine ask_wrap64 (by omega) (by omega) ?_) | (refine And.intro (And.intro (by omega) (by omega)) ?_) | (refine fun (_ : InK _ _) => ?_) | (refine ⟨by kernel_rfl, ?_⟩) | fail)
      exact ⟨((((u1.trans u2).trans u3.any).trans u4.any).trans u5).trans u6, _, _, v, a, 1, rs, g6', by decide, (((((hv.up u1 rfl).up u2 rfl).up u3 rfl).up u4 rfl).up u5 rfl).up u6 rfl, htx⟩
    · repeat' ((conv => whnf); first | (refine lenH_is ?_) | (refine pushH_at ?_) | (refine setH_as (set_top _ _ _) ?_) | (refine setH_as (set_low _ _ _ _) ?_) | (refine setH_as (set_top' _ _ _ _ _) ?_) | (refine hGet_at (g3) ?_) | (refine hGet_at (g63) ?_) | (refine And.intro ?_ trivial) | (refine And.intro rfl ?_) | (refine And.intro (And.intro (by decide) (by decide)) ?_) | (refine And.intro (And.intro (by decide) (And.intro (by decide) (by decide))) ?_) | (refine And.intro (Nat.le_of_ble_eq_true rfl) (And.intro (Nat.le_of_ble_eq_true rfl) ?_)) | (refine And.intro (Nat.le_of_ble_eq_true rfl) ?_) | (refine ask_false (by omega) ?_) | (refine ask_true (by omega) ?_) | (refine ask_wrap64 (by omega) (by omega) ?_) | (refine And.intro (And.intro (by omega) (by omega)) ?_) | (refine fun (_ : InK _ _) => ?_) | (refine ⟨by kernel_rfl, ?_⟩) | fail)
      refine red_each (by kernel_rfl) ?_
      repeat' ((conv => whnf); first | (refine lenH_is ?_) | (refine pushH_at ?_) | (refine setH_as (set_top _ _ _) ?_) | (refine setH_as (set_low _ _ _ _) ?_) | (refine setH_as (set_top' _ _ _ _ _) ?_) | (refine hGet_at (g3) ?_) | (refine hGet_at (g63) ?_) | (refine And.intro ?_ trivial) | (refine And.intro rfl ?_) | (refine And.intro (And.intro (by decide) (by decide)) ?_) | (refine And.intro (And.intro (by decide) (And.intro (by decide) (by decide))) ?_) | (refine And.intro (Nat.le_of_ble_eq_true rfl) (And.intro (Nat.le_of_ble_eq_true rfl) ?_)) | (refine And.intro (Nat.le_of_ble_eq_true rfl) ?_) | (refine ask_false (by omega) ?_) | (refine ask_true (by omega) ?_) | (refine ask_wrap64 (by omega) (by omega) ?_) | (refine And.intro (And.intro (by omega) (by omega)) ?_) | (refine fun (_ : InK _ _) => ?_) | (refine ⟨by kernel_rfl, ?_⟩) | fail)
      refine And.intro hR (.inl ⟨by decide, fun H4 u4 => ?_⟩)
      have g4 := u4.keep _ _ g3 rfl
      have g64 := u4.keep _ _ g63 rfl
      have hb4 := u4.bnd _ (List.mem_of_getElem? g4)
      repeat' ((conv => whnf); first | (refine lenH_is ?_) | (refine pushH_at ?_) | (refine setH_as (set_top _ _ _) ?_) | (refine setH_as (set_low _ _ _ _) ?_) | (refine setH_as (set_top' _ _ _ _ _) ?_) | (refine hGet_at (g4) ?_) | (refine hGet_at (g64) ?_) | (refine And.intro ?_ trivial) | (refine And.intro rfl ?_) | (refine And.intro (And.intro (by decide) (by decide)) ?_) | (refine And.intro (And.intro (by decide) (And.intro (by decide) (by decide))) ?_) | (refine And.intro (Nat.le_of_ble_eq_true rfl) (And.intro (Nat.le_of_ble_eq_true rfl) ?_)) | (refine And.intro (Nat.le_of_ble_eq_true rfl) ?_) | (refine ask_false (by omega) ?_) | (refine ask_true (by omega) ?_) | (refine ask_wrap64 (by omega) (by omega) ?_) | (refine And.intro (And.intro (by omega) (by omega)) ?_) | (refine fun (_ : InK _ _) => ?_) | (refine ⟨by kernel_rfl, ?_⟩) | fail)
      refine setH_up g4 u4.bnd hb4 fun H5 _ u5 g5 => ?_
      have hb5 := u5.bnd _ (List.mem_of_getElem? g5)
      repeat' ((conv => whnf); first | (refine lenH_is ?_) | (refine pushH_at ?_) | (refine setH_as (set_top _ _ _) ?_) | (refine setH_as (set_low _ _ _ _) ?_) | (refine setH_as (set_top' _ _ _ _ _) ?_) | (refine hGet_at (g5) ?_) | (refine And.intro ?_ trivial) | (refine And.intro rfl ?_) | (refine And.intro (And.intro (by decide) (by decide)) ?_) | (refine And.intro (And.intro (by decide) (And.intro (by decide) (by decide))) ?_) | (refine And.intro (Nat.le_of_ble_eq_true rfl) (And.intro (Nat.le_of_ble_eq_true rfl) ?_)) | (refine And.intro (Nat.le_of_ble_eq_true rfl) ?_) | (refine ask_false (by omega) ?_) | (refine ask_true (by omega) ?_) | (refine ask_wrap64 (by omega) (by omega) ?_) | (refine And.intro (And.intro (by omega) (by omega)) ?_) | (refine fun (_ : InK _ _) => ?_) | (refine ⟨by kernel_rfl, ?_⟩) | fail)
      refine setH_up g5 u5.bnd hb5 fun H6 _ u6 g6' => ?_
      have hb6 := u6.bnd _ (List.mem_of_getElem? g6')
      repeat' ((conv => whnf); first | (refine lenH_is ?_) | (refine pushH_at ?_) | (refine setH_as (set_top _ _ _) ?_) | (refine setH_as (set_low _ _ _ _) ?_) | (refine setH_as (set_top' _ _ _ _ _) ?_) | (refine hGet_at (g6') ?_) | (refine And.intro ?_ trivial) | (refine And.intro rfl ?_) | (refine And.intro (And.intro (by decide) (by decide)) ?_) | (refine And.intro (And.intro (by decide) (And.intro (by decide) (by decide))) ?_) | (refine And.intro (Nat.le_of_ble_eq_true rfl) (And.intro (Nat.le_of_ble_eq_true rfl) ?_)) | (refine And.intro (Nat.le_of_ble_eq_true rfl) ?_) | (refine ask_false (by omega) ?_) | (refine ask_true (by omega) ?_) | (refine ask_wrap64 (by omega) (by omega) ?_) | (refine And.intro (And.intro (by omega) (by omega)) ?_) | (refine fun (_ : InK _ _) => ?_) | (refine ⟨by kernel_rfl, ?_⟩) | fail)
      refine setH_up g6' u6.bnd hb6 fun H7 _ u7 g7 => ?_
      repeat' ((conv => whnf); first | (refine lenH_is ?_) | (refine pushH_at ?_) | (refine setH_as (set_top _ _ _) ?_) | (refine setH_as (set_low _ _ _ _) ?_) | (refine setH_as (set_top' _ _ _ _ _) ?_) | (refine hGet_at (g7) ?_) | (refine And.intro ?_ trivial) | (refine And.intro rfl ?_) | (refine And.intro (And.intro (by decide) (by decide)) ?_) | (refine And.intro (And.intro (by decide) (And.intro (by decide) (by decide))) ?_) | (refine And.intro (Nat.le_of_ble_eq_true rfl) (And.intro (Nat.le_of_ble_eq_true rfl) ?_)) | (refine And.intro (Nat.le_of_ble_eq_true rfl) ?_) | (refine ask_false (by omega) ?_) | (refine ask_true (by omega) ?_) | (refine ask_wrap64 (by omega) (by omega) ?_) | (refine And.intro (And.intro (by omega) (by omega)) ?_) | (refine fun (_ : InK _ _) => ?_) | (refine ⟨by kernel_rfl, ?_⟩) | fail)
      exact ⟨(((((u1.trans u2).trans u3.any).trans u4.any).trans u5).trans u6).trans u7, _, _, v, a, 1, rs, g7, by decide, ((((((hv.up u1 rfl).up u2 rfl).up u3 rfl).up u4 rfl).up u5 rfl).up u6 rfl).up u7 rfl, htx⟩
theorem zero_rec : ∃ zs, zeroS Tryz.prog 45 (fun q => q = zs) ∧ rowOk (Tryz.prog.types[45]).size zs := ⟨[.one (.ci .i64 0), .one (.cs ⟨#[]⟩)], by (conv => whnf); rfl, by kernel_rfl, rfl⟩
theorem sc_bnd {n : Nat} {b : Bool} {e : Int} {r : ByteArray} {v v' : C} {a nx ep ms : Int} {br : Bool} (h : (scB b e r v a nx ep ms br).bnd n = true) (hv : v'.bnd n = true) : (scB b e r v' a nx ep ms br).bnd n = true := by
  simp only [Blk.bnd, bnds, Seg.bnd, C.bnd, Bool.and_eq_true] at h ⊢
  exact ⟨h.1, h.2.1, h.2.2.1, hv, h.2.2.2.2⟩
theorem mSc : ∀ t, List.elem t [96] = true → List.elem t [96, 45] = true := fun t h => by simp at h ⊢; exact .inl h
theorem mRec : ∀ t, List.elem t [45] = true → List.elem t [96, 45] = true := fun t h => by simp at h ⊢; exact .inr h
theorem one_data {H : List Blk} (hH : HOk H) {j : Nat} {b : Bool} {e : Int} {r : ByteArray} {nx ms : Int} {txs : List ByteArray} (h : ScAt H j b e r nx ms false txs) {i : Nat} (hi : i < 1024) (h16 : ¬ i % 16 = 0) {f l : Bool} {d : ByteArray} (hR : pgR 2 f l d) {bs : List Int} (hbs : bs = layP 1 i 2 f l d)
    (hf : f = !b) (he : b = false ∨ 1 = e) (hsz : r.size + d.size ≤ 4096) (hn : txs.length ≤ 200) :
    walk6 FOn 1 Tryz.f31 [.c (.cp j 0), i64 i, pgW bs] H fun y H' => y = undefV ∧ UpT [96, 45] H H' ∧ (l = true → ∃ nx' ms', ScAt H' j false 0 ⟨#[]⟩ nx' ms' false (txs ++ [r ++ d])) ∧ (l = false → ∃ nx' ms', ScAt H' j true 1 (r ++ d) nx' ms' false txs) := by
  obtain ⟨v, a, ep, rs, hj, hep, hv, htx⟩ := h
  have hjl := (List.getElem?_eq_some_iff.1 hj).1
  have hin : InK .u32 (i : Int) := by simp only [InK, lowK, highK]; omega
  have h1 : InK .u32 (1 : Int) := ⟨by decide, by decide⟩
  obtain ⟨u1, g1, g6⟩ := pg_box hH hj bs 1 i 2 f l d _ rfl
  have hb1 := u1.bnd _ (List.mem_of_getElem? g1)
  repeat' ((conv => whnf); first | (refine lenH_is ?_) | (refine pushH_at ?_) | (refine setH_as (set_top _ _ _) ?_) | (refine setH_as (set_low _ _ _ _) ?_) | (refine setH_as (set_top' _ _ _ _ _) ?_) | (refine hGet_at (up_top _ _) ?_) | (refine And.intro ?_ trivial) | (refine And.intro rfl ?_) | (refine And.intro (And.intro (by decide) (by decide)) ?_) | (refine And.intro (And.intro (by decide) (And.intro (by decide) (by decide))) ?_) | (refine And.intro (Nat.le_of_ble_eq_true rfl) (And.intro (Nat.le_of_ble_eq_true rfl) ?_)) | (refine And.intro (Nat.le_of_ble_eq_true rfl) ?_) | (refine ask_false (by omega) ?_) | (refine ask_true (by omega) ?_) | (refine ask_wrap64 (by omega) (by omega) ?_) | (refine And.intro (And.intro (by omega) (by omega)) ?_) | (refine fun (_ : InK _ _) => ?_) | (refine ⟨by kernel_rfl, ?_⟩) | fail)
  refine Or.inl ⟨1, i, 2, f, l, d, ⟨h1, hin, hR⟩, hbs, ?_⟩
  repeat' ((conv => whnf); first | (refine lenH_is ?_) | (refine pushH_at ?_) | (refine setH_as (set_top _ _ _) ?_) | (refine setH_as (set_low _ _ _ _) ?_) | (refine setH_as (set_top' _ _ _ _ _) ?_) | (refine hGet_at (up_top _ _) ?_) | (refine And.intro ?_ trivial) | (refine And.intro rfl ?_) | (refine And.intro (And.intro (by decide) (by decide)) ?_) | (refine And.intro (And.intro (by decide) (And.intro (by decide) (by decide))) ?_) | (refine And.intro (Nat.le_of_ble_eq_true rfl) (And.intro (Nat.le_of_ble_eq_true rfl) ?_)) | (refine And.intro (Nat.le_of_ble_eq_true rfl) ?_) | (refine ask_false (by omega) ?_) | (refine ask_true (by omega) ?_) | (refine ask_wrap64 (by omega) (by omega) ?_) | (refine And.intro (And.intro (by omega) (by omega)) ?_) | (refine fun (_ : InK _ _) => ?_) | (refine ⟨by kernel_rfl, ?_⟩) | fail)
  refine red_each (by kernel_rfl) ?_
  repeat' ((conv => whnf); first | (refine hGet_at g1 ?_) | (refine hGet_at g6 ?_) | (refine And.intro ?_ (And.intro ?_ trivial)) | (refine And.intro ?_ trivial) | (refine setH_up g1 u1.bnd hb1 fun H2 _ u2 g2 => ?_) | fail)
  all_goals
    have g62 := u2.keep _ _ g6 rfl
    repeat' ((conv => whnf); first | (refine lenH_is ?_) | (refine pushH_at ?_) | (refine setH_as (set_top _ _ _) ?_) | (refine setH_as (set_low _ _ _ _) ?_) | (refine setH_as (set_top' _ _ _ _ _) ?_) | (refine hGet_at (g2) ?_) | (refine hGet_at (g62) ?_) | (refine And.intro ?_ trivial) | (refine And.intro rfl ?_) | (refine And.intro (And.intro (by decide) (by decide)) ?_) | (refine And.intro (And.intro (by decide) (And.intro (by decide) (by decide))) ?_) | (refine And.intro (Nat.le_of_ble_eq_true rfl) (And.intro (Nat.le_of_ble_eq_true rfl) ?_)) | (refine And.intro (Nat.le_of_ble_eq_true rfl) ?_) | (refine ask_false (by omega) ?_) | (refine ask_true (by omega) ?_) | (refine ask_wrap64 (by omega) (by omega) ?_) | (refine And.intro (And.intro (by omega) (by omega)) ?_) | (refine fun (_ : InK _ _) => ?_) | (refine ⟨by kernel_rfl, ?_⟩) | fail)
    refine ⟨b, e, r, v, a, nx, ep, max ms 1, false, i, g2, ⟨rfl, ⟨rfl, hi, fun h => absurd h h16, fun _ => rfl⟩, hep⟩, fun H3 u3 => ?_⟩
    have g3 := u3.keep _ _ g2 rfl
    have g63 := u3.keep _ _ g62 rfl
    have hb3 := u3.bnd _ (List.mem_of_getElem? g3)
    have uA := (u1.trans u2).trans u3.any
    have hrl := htx.1
    have vA := ((hv.up u1 rfl).up u2 rfl).up u3 rfl
    cases b
    · repeat' ((conv => whnf); first | (refine lenH_is ?_) | (refine pushH_at ?_) | (refine setH_as (set_top _ _ _) ?_) | (refine setH_as (set_low _ _ _ _) ?_) | (refine setH_as (set_top' _ _ _ _ _) ?_) | (refine hGet_at (g3) ?_) | (refine hGet_at (g63) ?_) | (refine And.intro ?_ trivial) | (refine And.intro rfl ?_) | (refine And.intro (And.intro (by decide) (by decide)) ?_) | (refine And.intro (And.intro (by decide) (And.intro (by decide) (by decide))) ?_) | (refine And.intro (Nat.le_of_ble_eq_true rfl) (And.intro (Nat.le_of_ble_eq_true rfl) ?_)) | (refine And.intro (Nat.le_of_ble_eq_true rfl) ?_) | (refine ask_false (by omega) ?_) | (refine ask_true (by omega) ?_) | (refine ask_wrap64 (by omega) (by omega) ?_) | (refine And.intro (And.intro (by omega) (by omega)) ?_) | (refine fun (_ : InK _ _) => ?_) | (refine ⟨by kernel_rfl, ?_⟩) | fail)
      refine setH_up g3 u3.bnd hb3 fun H3' _ u3' g3' => ?_
      have g63' := u3'.keep _ _ g63 rfl
      have uB := uA.trans u3'
      have vB := vA.up u3' rfl
      repeat' ((conv => whnf); first | (refine lenH_is ?_) | (refine pushH_at ?_) | (refine setH_as (set_top _ _ _) ?_) | (refine setH_as (set_low _ _ _ _) ?_) | (refine setH_as (set_top' _ _ _ _ _) ?_) | (refine hGet_at (g3') ?_) | (refine hGet_at (g63') ?_) | (refine And.intro ?_ trivial) | (refine And.intro rfl ?_) | (refine And.intro (And.intro (by decide) (by decide)) ?_) | (refine And.intro (And.intro (by decide) (And.intro (by decide) (by decide))) ?_) | (refine And.intro (Nat.le_of_ble_eq_true rfl) (And.intro (Nat.le_of_ble_eq_true rfl) ?_)) | (refine And.intro (Nat.le_of_ble_eq_true rfl) ?_) | (refine ask_false (by omega) ?_) | (refine ask_true (by omega) ?_) | (refine ask_wrap64 (by omega) (by omega) ?_) | (refine And.intro (And.intro (by omega) (by omega)) ?_) | (refine fun (_ : InK _ _) => ?_) | (refine ⟨by kernel_rfl, ?_⟩) | fail)
      refine red_each (by kernel_rfl) ?_
      repeat' ((conv => whnf); first | (refine lenH_is ?_) | (refine pushH_at ?_) | (refine setH_as (set_top _ _ _) ?_) | (refine setH_as (set_low _ _ _ _) ?_) | (refine setH_as (set_top' _ _ _ _ _) ?_) | (refine hGet_at (g3') ?_) | (refine hGet_at (g63') ?_) | (refine And.intro ?_ trivial) | (refine And.intro rfl ?_) | (refine And.intro (And.intro (by decide) (by decide)) ?_) | (refine And.intro (And.intro (by decide) (And.intro (by decide) (by decide))) ?_) | (refine And.intro (Nat.le_of_ble_eq_true rfl) (And.intro (Nat.le_of_ble_eq_true rfl) ?_)) | (refine And.intro (Nat.le_of_ble_eq_true rfl) ?_) | (refine ask_false (by omega) ?_) | (refine ask_true (by omega) ?_) | (refine ask_wrap64 (by omega) (by omega) ?_) | (refine And.intro (And.intro (by omega) (by omega)) ?_) | (refine fun (_ : InK _ _) => ?_) | (refine ⟨by kernel_rfl, ?_⟩) | fail)
      refine And.intro hR (.inr ⟨false, e, r, _, g3', ⟨rfl, hf, he, hsz⟩, fun H4 u4 => ?_⟩)
      have uC := uB.trans u4
      have vC := vB.up u4 rfl
      have g64 := u4.keep _ _ g63' rfl
      cases l
      · refine ⟨(fun h => by cases h), fun _ g4 => ?_⟩
        have hb4 := u4.bnd _ (List.mem_of_getElem? g4)
        repeat' ((conv => whnf); first | (refine lenH_is ?_) | (refine pushH_at ?_) | (refine setH_as (set_top _ _ _) ?_) | (refine setH_as (set_low _ _ _ _) ?_) | (refine setH_as (set_top' _ _ _ _ _) ?_) | (refine hGet_at (g4) ?_) | (refine hGet_at (g64) ?_) | (refine And.intro ?_ trivial) | (refine And.intro rfl ?_) | (refine And.intro (And.intro (by decide) (by decide)) ?_) | (refine And.intro (And.intro (by decide) (And.intro (by decide) (by decide))) ?_) | (refine And.intro (Nat.le_of_ble_eq_true rfl) (And.intro (Nat.le_of_ble_eq_true rfl) ?_)) | (refine And.intro (Nat.le_of_ble_eq_true rfl) ?_) | (refine ask_false (by omega) ?_) | (refine ask_true (by omega) ?_) | (refine ask_wrap64 (by omega) (by omega) ?_) | (refine And.intro (And.intro (by omega) (by omega)) ?_) | (refine fun (_ : InK _ _) => ?_) | (refine ⟨by kernel_rfl, ?_⟩) | fail)
        refine setH_up g4 u4.bnd hb4 fun H5 _ u5 g5 => ?_
        have hb5 := u5.bnd _ (List.mem_of_getElem? g5)
        repeat' ((conv => whnf); first | (refine lenH_is ?_) | (refine pushH_at ?_) | (refine setH_as (set_top _ _ _) ?_) | (refine setH_as (set_low _ _ _ _) ?_) | (refine setH_as (set_top' _ _ _ _ _) ?_) | (refine hGet_at (g5) ?_) | (refine And.intro ?_ trivial) | (refine And.intro rfl ?_) | (refine And.intro (And.intro (by decide) (by decide)) ?_) | (refine And.intro (And.intro (by decide) (And.intro (by decide) (by decide))) ?_) | (refine And.intro (Nat.le_of_ble_eq_true rfl) (And.intro (Nat.le_of_ble_eq_true rfl) ?_)) | (refine And.intro (Nat.le_of_ble_eq_true rfl) ?_) | (refine ask_false (by omega) ?_) | (refine ask_true (by omega) ?_) | (refine ask_wrap64 (by omega) (by omega) ?_) | (refine And.intro (And.intro (by omega) (by omega)) ?_) | (refine fun (_ : InK _ _) => ?_) | (refine ⟨by kernel_rfl, ?_⟩) | fail)
        refine setH_up g5 u5.bnd hb5 fun H6 _ u6 gx => ?_
        have hb6 := u6.bnd _ (List.mem_of_getElem? gx)
        repeat' ((conv => whnf); first | (refine lenH_is ?_) | (refine pushH_at ?_) | (refine setH_as (set_top _ _ _) ?_) | (refine setH_as (set_low _ _ _ _) ?_) | (refine setH_as (set_top' _ _ _ _ _) ?_) | (refine hGet_at (gx) ?_) | (refine And.intro ?_ trivial) | (refine And.intro rfl ?_) | (refine And.intro (And.intro (by decide) (by decide)) ?_) | (refine And.intro (And.intro (by decide) (And.intro (by decide) (by decide))) ?_) | (refine And.intro (Nat.le_of_ble_eq_true rfl) (And.intro (Nat.le_of_ble_eq_true rfl) ?_)) | (refine And.intro (Nat.le_of_ble_eq_true rfl) ?_) | (refine ask_false (by omega) ?_) | (refine ask_true (by omega) ?_) | (refine ask_wrap64 (by omega) (by omega) ?_) | (refine And.intro (And.intro (by omega) (by omega)) ?_) | (refine fun (_ : InK _ _) => ?_) | (refine ⟨by kernel_rfl, ?_⟩) | fail)
        refine setH_up gx u6.bnd hb6 fun H7 _ u7 g7 => ?_
        repeat' ((conv => whnf); first | (refine lenH_is ?_) | (refine pushH_at ?_) | (refine setH_as (set_top _ _ _) ?_) | (refine setH_as (set_low _ _ _ _) ?_) | (refine setH_as (set_top' _ _ _ _ _) ?_) | (refine hGet_at (g7) ?_) | (refine And.intro ?_ trivial) | (refine And.intro rfl ?_) | (refine And.intro (And.intro (by decide) (by decide)) ?_) | (refine And.intro (And.intro (by decide) (And.intro (by decide) (by decide))) ?_) | (refine And.intro (Nat.le_of_ble_eq_true rfl) (And.intro (Nat.le_of_ble_eq_true rfl) ?_)) | (refine And.intro (Nat.le_of_ble_eq_true rfl) ?_) | (refine ask_false (by omega) ?_) | (refine ask_true (by omega) ?_) | (refine ask_wrap64 (by omega) (by omega) ?_) | (refine And.intro (And.intro (by omega) (by omega)) ?_) | (refine fun (_ : InK _ _) => ?_) | (refine ⟨by kernel_rfl, ?_⟩) | fail)
        exact ⟨(((uC.trans u5).trans u6).trans u7).mono mSc, (fun h => by cases h), fun _ => ⟨_, _, v, _, 1, rs, g7, by decide, ((vC.up u5 rfl).up u6 rfl).up u7 rfl, htx⟩⟩
      · refine ⟨fun _ g4 => ?_, (fun h => by cases h)⟩
        have hb4 := u4.bnd _ (List.mem_of_getElem? g4)
        repeat' ((conv => whnf); first | (refine lenH_is ?_) | (refine pushH_at ?_) | (refine setH_as (set_top _ _ _) ?_) | (refine setH_as (set_low _ _ _ _) ?_) | (refine setH_as (set_top' _ _ _ _ _) ?_) | (refine hGet_at (g4) ?_) | (refine hGet_at (g64) ?_) | (refine And.intro ?_ trivial) | (refine And.intro rfl ?_) | (refine And.intro (And.intro (by decide) (by decide)) ?_) | (refine And.intro (And.intro (by decide) (And.intro (by decide) (by decide))) ?_) | (refine And.intro (Nat.le_of_ble_eq_true rfl) (And.intro (Nat.le_of_ble_eq_true rfl) ?_)) | (refine And.intro (Nat.le_of_ble_eq_true rfl) ?_) | (refine ask_false (by omega) ?_) | (refine ask_true (by omega) ?_) | (refine ask_wrap64 (by omega) (by omega) ?_) | (refine And.intro (And.intro (by omega) (by omega)) ?_) | (refine fun (_ : InK _ _) => ?_) | (refine ⟨by kernel_rfl, ?_⟩) | fail)
        refine setH_up g4 u4.bnd hb4 fun H5 _ u5 g5 => ?_
        have v5 := vC.up u5 rfl
        repeat' ((conv => whnf); first | (refine lenH_is ?_) | (refine pushH_at ?_) | (refine setH_as (set_top _ _ _) ?_) | (refine setH_as (set_low _ _ _ _) ?_) | (refine setH_as (set_top' _ _ _ _ _) ?_) | (refine hGet_at (g5) ?_) | (refine And.intro ?_ trivial) | (refine And.intro rfl ?_) | (refine And.intro (And.intro (by decide) (by decide)) ?_) | (refine And.intro (And.intro (by decide) (And.intro (by decide) (by decide))) ?_) | (refine And.intro (Nat.le_of_ble_eq_true rfl) (And.intro (Nat.le_of_ble_eq_true rfl) ?_)) | (refine And.intro (Nat.le_of_ble_eq_true rfl) ?_) | (refine ask_false (by omega) ?_) | (refine ask_true (by omega) ?_) | (refine ask_wrap64 (by omega) (by omega) ?_) | (refine And.intro (And.intro (by omega) (by omega)) ?_) | (refine fun (_ : InK _ _) => ?_) | (refine ⟨by kernel_rfl, ?_⟩) | fail)
        refine red_each (by kernel_rfl) ?_
        repeat' ((conv => whnf); first | (refine lenH_is ?_) | (refine pushH_at ?_) | (refine hGet_at g5 ?_) | (refine hGet_at (up_get g5) ?_) | (refine And.intro ⟨rfl, (by kernel_rfl), Nat.le_of_ble_eq_true (by kernel_rfl), Nat.le_of_ble_eq_true (by kernel_rfl)⟩ ?_) | (refine And.intro (by kernel_rfl) ?_) | (refine And.intro ⟨rfl, zero_rec⟩ ⟨[[.one (.ci .i64 i), .one (.cs (r ++ d))]], NewAt.one (up_top _ _) ⟨(by kernel_rfl), rfl⟩, .inl ⟨rs, v5.up ((UpT.refl (Ts := []) u5.bnd).app rfl) rfl, ⟨(by simp only [List.length_singleton]; omega), Nat.le_trans (Nat.mul_le_mul_right _ (show _ ≤ 300 by simp only [List.length_singleton]; omega)) (Nat.le_of_ble_eq_true (by kernel_rfl))⟩, fun v' H8 uu s8 _ => ?_⟩⟩) | (refine And.intro ?_ (And.intro ?_ trivial)) | (refine And.intro ?_ trivial) | fail)
        all_goals
          have g8 := uu.keep _ _ (up_get g5) rfl
          have hb8 := sc_bnd (v' := v') (uu.bnd _ (List.mem_of_getElem? g8)) s8.bnd
          have uD := (((uC.trans u5).mono mSc).trans ((UpT.refl (Ts := []) u5.bnd).app (b := .own 45 [.one (.ci .i64 i), .one (.cs (r ++ d))]) rfl).any).trans (uu.mono mRec)
          repeat' ((conv => whnf); first | (refine hGet_at g8 ?_) | (refine setH_up g8 uu.bnd hb8 fun H9 _ u9 g9 => ?_) | (refine And.intro ?_ trivial) | fail)
          have hb9 := u9.bnd _ (List.mem_of_getElem? g9)
          repeat' ((conv => whnf); first | (refine lenH_is ?_) | (refine pushH_at ?_) | (refine setH_as (set_top _ _ _) ?_) | (refine setH_as (set_low _ _ _ _) ?_) | (refine setH_as (set_top' _ _ _ _ _) ?_) | (refine hGet_at (g9) ?_) | (refine And.intro ?_ trivial) | (refine And.intro rfl ?_) | (refine And.intro (And.intro (by decide) (by decide)) ?_) | (refine And.intro (And.intro (by decide) (And.intro (by decide) (by decide))) ?_) | (refine And.intro (Nat.le_of_ble_eq_true rfl) (And.intro (Nat.le_of_ble_eq_true rfl) ?_)) | (refine And.intro (Nat.le_of_ble_eq_true rfl) ?_) | (refine ask_false (by omega) ?_) | (refine ask_true (by omega) ?_) | (refine ask_wrap64 (by omega) (by omega) ?_) | (refine And.intro (And.intro (by omega) (by omega)) ?_) | (refine fun (_ : InK _ _) => ?_) | (refine ⟨by kernel_rfl, ?_⟩) | fail)
          refine setH_up g9 u9.bnd hb9 fun H10 _ u10 g10 => ?_
          repeat' ((conv => whnf); first | (refine lenH_is ?_) | (refine pushH_at ?_) | (refine setH_as (set_top _ _ _) ?_) | (refine setH_as (set_low _ _ _ _) ?_) | (refine setH_as (set_top' _ _ _ _ _) ?_) | (refine hGet_at (g10) ?_) | (refine And.intro ?_ trivial) | (refine And.intro rfl ?_) | (refine And.intro (And.intro (by decide) (by decide)) ?_) | (refine And.intro (And.intro (by decide) (And.intro (by decide) (by decide))) ?_) | (refine And.intro (Nat.le_of_ble_eq_true rfl) (And.intro (Nat.le_of_ble_eq_true rfl) ?_)) | (refine And.intro (Nat.le_of_ble_eq_true rfl) ?_) | (refine ask_false (by omega) ?_) | (refine ask_true (by omega) ?_) | (refine ask_wrap64 (by omega) (by omega) ?_) | (refine And.intro (And.intro (by omega) (by omega)) ?_) | (refine fun (_ : InK _ _) => ?_) | (refine ⟨by kernel_rfl, ?_⟩) | fail)
          exact ⟨(uD.trans (u9.mono mSc)).trans (u10.mono mSc), fun _ => ⟨_, _, v', _, 1, _, g10, by decide, (s8.up u9 rfl).up u10 rfl, htx.app _ _⟩, (fun h => by cases h)⟩
    · repeat' ((conv => whnf); first | (refine lenH_is ?_) | (refine pushH_at ?_) | (refine setH_as (set_top _ _ _) ?_) | (refine setH_as (set_low _ _ _ _) ?_) | (refine setH_as (set_top' _ _ _ _ _) ?_) | (refine hGet_at (g3) ?_) | (refine hGet_at (g63) ?_) | (refine And.intro ?_ trivial) | (refine And.intro rfl ?_) | (refine And.intro (And.intro (by decide) (by decide)) ?_) | (refine And.intro (And.intro (by decide) (And.intro (by decide) (by decide))) ?_) | (refine And.intro (Nat.le_of_ble_eq_true rfl) (And.intro (Nat.le_of_ble_eq_true rfl) ?_)) | (refine And.intro (Nat.le_of_ble_eq_true rfl) ?_) | (refine ask_false (by omega) ?_) | (refine ask_true (by omega) ?_) | (refine ask_wrap64 (by omega) (by omega) ?_) | (refine And.intro (And.intro (by omega) (by omega)) ?_) | (refine fun (_ : InK _ _) => ?_) | (refine ⟨by kernel_rfl, ?_⟩) | fail)
      refine red_each (by kernel_rfl) ?_
      repeat' ((conv => whnf); first | (refine lenH_is ?_) | (refine pushH_at ?_) | (refine setH_as (set_top _ _ _) ?_) | (refine setH_as (set_low _ _ _ _) ?_) | (refine setH_as (set_top' _ _ _ _ _) ?_) | (refine hGet_at (g3) ?_) | (refine hGet_at (g63) ?_) | (refine And.intro ?_ trivial) | (refine And.intro rfl ?_) | (refine And.intro (And.intro (by decide) (by decide)) ?_) | (refine And.intro (And.intro (by decide) (And.intro (by decide) (by decide))) ?_) | (refine And.intro (Nat.le_of_ble_eq_true rfl) (And.intro (Nat.le_of_ble_eq_true rfl) ?_)) | (refine And.intro (Nat.le_of_ble_eq_true rfl) ?_) | (refine ask_false (by omega) ?_) | (refine ask_true (by omega) ?_) | (refine ask_wrap64 (by omega) (by omega) ?_) | (refine And.intro (And.intro (by omega) (by omega)) ?_) | (refine fun (_ : InK _ _) => ?_) | (refine ⟨by kernel_rfl, ?_⟩) | fail)
      refine And.intro hR (.inr ⟨true, e, r, _, g3, ⟨rfl, hf, he, hsz⟩, fun H4 u4 => ?_⟩)
      have uC := uA.trans u4
      have vC := vA.up u4 rfl
      have g64 := u4.keep _ _ g63 rfl
      cases l
      · refine ⟨(fun h => by cases h), fun _ g4 => ?_⟩
        have hb4 := u4.bnd _ (List.mem_of_getElem? g4)
        repeat' ((conv => whnf); first | (refine lenH_is ?_) | (refine pushH_at ?_) | (refine setH_as (set_top _ _ _) ?_) | (refine setH_as (set_low _ _ _ _) ?_) | (refine setH_as (set_top' _ _ _ _ _) ?_) | (refine hGet_at (g4) ?_) | (refine hGet_at (g64) ?_) | (refine And.intro ?_ trivial) | (refine And.intro rfl ?_) | (refine And.intro (And.intro (by decide) (by decide)) ?_) | (refine And.intro (And.intro (by decide) (And.intro (by decide) (by decide))) ?_) | (refine And.intro (Nat.le_of_ble_eq_true rfl) (And.intro (Nat.le_of_ble_eq_true rfl) ?_)) | (refine And.intro (Nat.le_of_ble_eq_true rfl) ?_) | (refine ask_false (by omega) ?_) | (refine ask_true (by omega) ?_) | (refine ask_wrap64 (by omega) (by omega) ?_) | (refine And.intro (And.intro (by omega) (by omega)) ?_) | (refine fun (_ : InK _ _) => ?_) | (refine ⟨by kernel_rfl, ?_⟩) | fail)
        refine setH_up g4 u4.bnd hb4 fun H5 _ u5 g5 => ?_
        have hb5 := u5.bnd _ (List.mem_of_getElem? g5)
        repeat' ((conv => whnf); first | (refine lenH_is ?_) | (refine pushH_at ?_) | (refine setH_as (set_top _ _ _) ?_) | (refine setH_as (set_low _ _ _ _) ?_) | (refine setH_as (set_top' _ _ _ _ _) ?_) | (refine hGet_at (g5) ?_) | (refine And.intro ?_ trivial) | (refine And.intro rfl ?_) | (refine And.intro (And.intro (by decide) (by decide)) ?_) | (refine And.intro (And.intro (by decide) (And.intro (by decide) (by decide))) ?_) | (refine And.intro (Nat.le_of_ble_eq_true rfl) (And.intro (Nat.le_of_ble_eq_true rfl) ?_)) | (refine And.intro (Nat.le_of_ble_eq_true rfl) ?_) | (refine ask_false (by omega) ?_) | (refine ask_true (by omega) ?_) | (refine ask_wrap64 (by omega) (by omega) ?_) | (refine And.intro (And.intro (by omega) (by omega)) ?_) | (refine fun (_ : InK _ _) => ?_) | (refine ⟨by kernel_rfl, ?_⟩) | fail)
        refine setH_up g5 u5.bnd hb5 fun H6 _ u6 gx => ?_
        have hb6 := u6.bnd _ (List.mem_of_getElem? gx)
        repeat' ((conv => whnf); first | (refine lenH_is ?_) | (refine pushH_at ?_) | (refine setH_as (set_top _ _ _) ?_) | (refine setH_as (set_low _ _ _ _) ?_) | (refine setH_as (set_top' _ _ _ _ _) ?_) | (refine hGet_at (gx) ?_) | (refine And.intro ?_ trivial) | (refine And.intro rfl ?_) | (refine And.intro (And.intro (by decide) (by decide)) ?_) | (refine And.intro (And.intro (by decide) (And.intro (by decide) (by decide))) ?_) | (refine And.intro (Nat.le_of_ble_eq_true rfl) (And.intro (Nat.le_of_ble_eq_true rfl) ?_)) | (refine And.intro (Nat.le_of_ble_eq_true rfl) ?_) | (refine ask_false (by omega) ?_) | (refine ask_true (by omega) ?_) | (refine ask_wrap64 (by omega) (by omega) ?_) | (refine And.intro (And.intro (by omega) (by omega)) ?_) | (refine fun (_ : InK _ _) => ?_) | (refine ⟨by kernel_rfl, ?_⟩) | fail)
        refine setH_up gx u6.bnd hb6 fun H7 _ u7 g7 => ?_
        repeat' ((conv => whnf); first | (refine lenH_is ?_) | (refine pushH_at ?_) | (refine setH_as (set_top _ _ _) ?_) | (refine setH_as (set_low _ _ _ _) ?_) | (refine setH_as (set_top' _ _ _ _ _) ?_) | (refine hGet_at (g7) ?_) | (refine And.intro ?_ trivial) | (refine And.intro rfl ?_) | (refine And.intro (And.intro (by decide) (by decide)) ?_) | (refine And.intro (And.intro (by decide) (And.intro (by decide) (by decide))) ?_) | (refine And.intro (Nat.le_of_ble_eq_true rfl) (And.intro (Nat.le_of_ble_eq_true rfl) ?_)) | (refine And.intro (Nat.le_of_ble_eq_true rfl) ?_) | (refine ask_false (by omega) ?_) | (refine ask_true (by omega) ?_) | (refine ask_wrap64 (by omega) (by omega) ?_) | (refine And.intro (And.intro (by omega) (by omega)) ?_) | (refine fun (_ : InK _ _) => ?_) | (refine ⟨by kernel_rfl, ?_⟩) | fail)
        exact ⟨(((uC.trans u5).trans u6).trans u7).mono mSc, (fun h => by cases h), fun _ => ⟨_, _, v, _, 1, rs, g7, by decide, ((vC.up u5 rfl).up u6 rfl).up u7 rfl, htx⟩⟩
      · refine ⟨fun _ g4 => ?_, (fun h => by cases h)⟩
        have hb4 := u4.bnd _ (List.mem_of_getElem? g4)
        repeat' ((conv => whnf); first | (refine lenH_is ?_) | (refine pushH_at ?_) | (refine setH_as (set_top _ _ _) ?_) | (refine setH_as (set_low _ _ _ _) ?_) | (refine setH_as (set_top' _ _ _ _ _) ?_) | (refine hGet_at (g4) ?_) | (refine hGet_at (g64) ?_) | (refine And.intro ?_ trivial) | (refine And.intro rfl ?_) | (refine And.intro (And.intro (by decide) (by decide)) ?_) | (refine And.intro (And.intro (by decide) (And.intro (by decide) (by decide))) ?_) | (refine And.intro (Nat.le_of_ble_eq_true rfl) (And.intro (Nat.le_of_ble_eq_true rfl) ?_)) | (refine And.intro (Nat.le_of_ble_eq_true rfl) ?_) | (refine ask_false (by omega) ?_) | (refine ask_true (by omega) ?_) | (refine ask_wrap64 (by omega) (by omega) ?_) | (refine And.intro (And.intro (by omega) (by omega)) ?_) | (refine fun (_ : InK _ _) => ?_) | (refine ⟨by kernel_rfl, ?_⟩) | fail)
        refine setH_up g4 u4.bnd hb4 fun H5 _ u5 g5 => ?_
        have v5 := vC.up u5 rfl
        repeat' ((conv => whnf); first | (refine lenH_is ?_) | (refine pushH_at ?_) | (refine setH_as (set_top _ _ _) ?_) | (refine setH_as (set_low _ _ _ _) ?_) | (refine setH_as (set_top' _ _ _ _ _) ?_) | (refine hGet_at (g5) ?_) | (refine And.intro ?_ trivial) | (refine And.intro rfl ?_) | (refine And.intro (And.intro (by decide) (by decide)) ?_) | (refine And.intro (And.intro (by decide) (And.intro (by decide) (by decide))) ?_) | (refine And.intro (Nat.le_of_ble_eq_true rfl) (And.intro (Nat.le_of_ble_eq_true rfl) ?_)) | (refine And.intro (Nat.le_of_ble_eq_true rfl) ?_) | (refine ask_false (by omega) ?_) | (refine ask_true (by omega) ?_) | (refine ask_wrap64 (by omega) (by omega) ?_) | (refine And.intro (And.intro (by omega) (by omega)) ?_) | (refine fun (_ : InK _ _) => ?_) | (refine ⟨by kernel_rfl, ?_⟩) | fail)
        refine red_each (by kernel_rfl) ?_
        repeat' ((conv => whnf); first | (refine lenH_is ?_) | (refine pushH_at ?_) | (refine hGet_at g5 ?_) | (refine hGet_at (up_get g5) ?_) | (refine And.intro ⟨rfl, (by kernel_rfl), Nat.le_of_ble_eq_true (by kernel_rfl), Nat.le_of_ble_eq_true (by kernel_rfl)⟩ ?_) | (refine And.intro (by kernel_rfl) ?_) | (refine And.intro ⟨rfl, zero_rec⟩ ⟨[[.one (.ci .i64 a), .one (.cs (r ++ d))]], NewAt.one (up_top _ _) ⟨(by kernel_rfl), rfl⟩, .inl ⟨rs, v5.up ((UpT.refl (Ts := []) u5.bnd).app rfl) rfl, ⟨(by simp only [List.length_singleton]; omega), Nat.le_trans (Nat.mul_le_mul_right _ (show _ ≤ 300 by simp only [List.length_singleton]; omega)) (Nat.le_of_ble_eq_true (by kernel_rfl))⟩, fun v' H8 uu s8 _ => ?_⟩⟩) | (refine And.intro ?_ (And.intro ?_ trivial)) | (refine And.intro ?_ trivial) | fail)
        all_goals
          have g8 := uu.keep _ _ (up_get g5) rfl
          have hb8 := sc_bnd (v' := v') (uu.bnd _ (List.mem_of_getElem? g8)) s8.bnd
          have uD := (((uC.trans u5).mono mSc).trans ((UpT.refl (Ts := []) u5.bnd).app (b := .own 45 [.one (.ci .i64 a), .one (.cs (r ++ d))]) rfl).any).trans (uu.mono mRec)
          repeat' ((conv => whnf); first | (refine hGet_at g8 ?_) | (refine setH_up g8 uu.bnd hb8 fun H9 _ u9 g9 => ?_) | (refine And.intro ?_ trivial) | fail)
          have hb9 := u9.bnd _ (List.mem_of_getElem? g9)
          repeat' ((conv => whnf); first | (refine lenH_is ?_) | (refine pushH_at ?_) | (refine setH_as (set_top _ _ _) ?_) | (refine setH_as (set_low _ _ _ _) ?_) | (refine setH_as (set_top' _ _ _ _ _) ?_) | (refine hGet_at (g9) ?_) | (refine And.intro ?_ trivial) | (refine And.intro rfl ?_) | (refine And.intro (And.intro (by decide) (by decide)) ?_) | (refine And.intro (And.intro (by decide) (And.intro (by decide) (by decide))) ?_) | (refine And.intro (Nat.le_of_ble_eq_true rfl) (And.intro (Nat.le_of_ble_eq_true rfl) ?_)) | (refine And.intro (Nat.le_of_ble_eq_true rfl) ?_) | (refine ask_false (by omega) ?_) | (refine ask_true (by omega) ?_) | (refine ask_wrap64 (by omega) (by omega) ?_) | (refine And.intro (And.intro (by omega) (by omega)) ?_) | (refine fun (_ : InK _ _) => ?_) | (refine ⟨by kernel_rfl, ?_⟩) | fail)
          refine setH_up g9 u9.bnd hb9 fun H10 _ u10 g10 => ?_
          repeat' ((conv => whnf); first | (refine lenH_is ?_) | (refine pushH_at ?_) | (refine setH_as (set_top _ _ _) ?_) | (refine setH_as (set_low _ _ _ _) ?_) | (refine setH_as (set_top' _ _ _ _ _) ?_) | (refine hGet_at (g10) ?_) | (refine And.intro ?_ trivial) | (refine And.intro rfl ?_) | (refine And.intro (And.intro (by decide) (by decide)) ?_) | (refine And.intro (And.intro (by decide) (And.intro (by decide) (by decide))) ?_) | (refine And.intro (Nat.le_of_ble_eq_true rfl) (And.intro (Nat.le_of_ble_eq_true rfl) ?_)) | (refine And.intro (Nat.le_of_ble_eq_true rfl) ?_) | (refine ask_false (by omega) ?_) | (refine ask_true (by omega) ?_) | (refine ask_wrap64 (by omega) (by omega) ?_) | (refine And.intro (And.intro (by omega) (by omega)) ?_) | (refine fun (_ : InK _ _) => ?_) | (refine ⟨by kernel_rfl, ?_⟩) | fail)
          exact ⟨(uD.trans (u9.mono mSc)).trans (u10.mono mSc), fun _ => ⟨_, _, v', _, 1, _, g10, by decide, (s8.up u9 rfl).up u10 rfl, htx.app _ _⟩, (fun h => by cases h)⟩
noncomputable def hOne : HCt := fun ws H K => match ws with
  | [.c (.cp j 0), .c (.ci .i64 i'), .agg [.ints .u8 m bs]] => ∃ (b : Bool) (e : Int) (r : ByteArray) (nx ms : Int) (br : Bool) (txs : List ByteArray), ScAt H j b e r nx ms br txs ∧ m = 64 ∧
      ((B.le4 bs ≠ Q.sumS (strOfNums (bs.drop 4)) ∧ ∀ H', UpT [96, 45] H H' → ScAt H' j b e r nx ms true txs → K undefV H') ∨
       (∃ i : Nat, (i' = i ∧ i < 1024 ∧ i % 16 = 0 ∧ br = false ∧ bs = layP 1 i 1 false false (numB i)) ∧ ∀ H' nx' ms', UpT [96, 45] H H' → ScAt H' j b e r nx' ms' false txs → K undefV H') ∨
       (∃ (i : Nat) (l : Bool) (d : ByteArray), (i' = i ∧ i < 1024 ∧ ¬ i % 16 = 0 ∧ br = false ∧ pgR 2 (!b) l d ∧ bs = layP 1 i 2 (!b) l d) ∧ (b = false ∨ 1 = e) ∧ (r.size + d.size ≤ 4096 ∧ txs.length ≤ 200) ∧ ∀ H' nx' ms', UpT [96, 45] H H' →
          (l = true → ScAt H' j false 0 ⟨#[]⟩ nx' ms' false (txs ++ [r ++ d]) → K undefV H') ∧ (l = false → ScAt H' j true 1 (r ++ d) nx' ms' false txs → K undefV H')))
  | _ => False
theorem one_ct : HCtOkG Tryz.prog D.G1 31 hOne := by
  intro ws H K h hr hb ho σ base w₀ w hw
  unfold hOne at h
  split at h
  · rename_i j i' m bs
    obtain ⟨b, e, r, nx, ms, br, txs, hsc, rfl, ⟨hbs, hK⟩ | ⟨i, ⟨rfl, hi, h16, rfl, hbs⟩, hK⟩ | ⟨i, l, d, ⟨rfl, hi, h16, rfl, hR, hbs⟩, he, ⟨hsz, hn⟩, hK⟩⟩ := h
    · exact heap_lift6 FOn_ok Tryz.func31 (n := 1) (ws := [.c (.cp j 0), i64 i', pgW bs]) hr hb ho (one_bad ho hsc hbs) (fun x H' hP => by
        obtain ⟨rfl, u, s⟩ := hP
        exact hK H' (u.mono mSc) s) σ base w₀ w hw
    · exact heap_lift6 FOn_ok Tryz.func31 (n := 1) (ws := [.c (.cp j 0), i64 i, pgW bs]) hr hb ho (one_head ho hsc hi h16 hbs) (fun x H' hP => by
        obtain ⟨rfl, u, nx', ms', s⟩ := hP
        exact hK H' nx' ms' (u.mono mSc) s) σ base w₀ w hw
    · exact heap_lift6 FOn_ok Tryz.func31 (n := 1) (ws := [.c (.cp j 0), i64 i, pgW bs]) hr hb ho (one_data ho hsc hi h16 hR hbs rfl he hsz hn) (fun x H' hP => by
        obtain ⟨rfl, u, s1, s2⟩ := hP
        cases hl : l with
        | true =>
          obtain ⟨nx', ms', s⟩ := s1 hl
          exact (hK H' nx' ms' u).1 hl s
        | false =>
          obtain ⟨nx', ms', s⟩ := s2 hl
          exact (hK H' nx' ms' u).2 hl s) σ base w₀ w hw
  · exact h.elim
end R
end Go.Proofs.YtaficaacogcblaaGreatDoor
set_option linter.all false
namespace Go.Proofs.YtaficaacogcblaaGreatDoor
namespace R
open Go.RowKit (Below)
set_option maxRecDepth 100000
set_option maxHeartbeats 16000000
structure SS where
  b : Bool
  r : ByteArray
  t : List ByteArray
inductive PgStep (i : Nat) : List Int → SS → SS → Prop
  | head (s : SS) : i % 16 = 0 → PgStep i (layP 1 i 1 false false (numB i)) s s
  | data (b : Bool) (r d : ByteArray) (t : List ByteArray) : ¬ i % 16 = 0 → pgR 2 (!b) false d → r.size + d.size ≤ 4096 → PgStep i (layP 1 i 2 (!b) false d) ⟨b, r, t⟩ ⟨true, r ++ d, t⟩
  | last (b : Bool) (r d : ByteArray) (t : List ByteArray) : ¬ i % 16 = 0 → pgR 2 (!b) true d → r.size + d.size ≤ 4096 → PgStep i (layP 1 i 2 (!b) true d) ⟨b, r, t⟩ ⟨false, ⟨#[]⟩, t ++ [r ++ d]⟩
inductive Pgs : Nat → SS → List (List Int) → SS → Prop
  | nil (i : Nat) (s : SS) : Pgs i s [] s
  | cons {i : Nat} {bs : List Int} {bss : List (List Int)} {s s1 s2 : SS} : PgStep i bs s s1 → Pgs (i + 1) s1 bss s2 → Pgs i s (bs :: bss) s2
theorem Pgs.app {i : Nat} {s s1 s2 : SS} {a b : List (List Int)} (h : Pgs i s a s1) (k : Pgs (i + a.length) s1 b s2) : Pgs i s (a ++ b) s2 := by
  induction h with
  | nil i s => simpa using k
  | cons h1 h2 ih => exact .cons h1 (ih (by rw [List.length_cons] at k; rwa [Nat.add_assoc, Nat.add_comm 1]))
abbrev s0 : SS := ⟨false, ⟨#[]⟩, []⟩
structure LogOk (ws : List (List Int)) (txs : List ByteArray) : Prop where
  pgs : Pgs 0 s0 ws ⟨false, ⟨#[]⟩, txs⟩
  few : txs.length ≤ 200
theorem PgStep.grow {i : Nat} {bs : List Int} {s s' : SS} (h : PgStep i bs s s') : s.t.length ≤ s'.t.length := by
  cases h <;> simp
theorem Pgs.grow {i : Nat} {s s' : SS} {a : List (List Int)} (h : Pgs i s a s') : s.t.length ≤ s'.t.length := by
  induction h with
  | nil => exact Nat.le_refl _
  | cons h1 _ ih => exact Nat.le_trans h1.grow ih
section
variable {ws : List (List Int)} {txs : List ByteArray}
def ScInv (ws : List (List Int)) (txs : List ByteArray) (G : List Blk) (j k : Nat) : Prop := ∃ (b : Bool) (e : Int) (r : ByteArray) (nx ms : Int) (br : Bool) (t : List ByteArray), ScAt G j b e r nx ms br t ∧ (ws = [] → nx = 0 ∧ ms = 0) ∧
  ((br = false ∧ k ≤ ws.length ∧ k < 96 ∧ (b = false ∨ 1 = e) ∧ Pgs k ⟨b, r, t⟩ (ws.drop k) ⟨false, ⟨#[]⟩, txs⟩) ∨ (br = true ∧ t = txs ∧ ws.length ≤ k))
def ScMid (ws : List (List Int)) (txs : List ByteArray) (G : List Blk) (j k : Nat) : Prop := ∃ (b : Bool) (e : Int) (r : ByteArray) (nx ms : Int) (br : Bool) (t : List ByteArray), ScAt G j b e r nx ms br t ∧ (ws = [] → nx = 0 ∧ ms = 0) ∧
  ((br = false ∧ k + 1 ≤ ws.length ∧ (b = false ∨ 1 = e) ∧ Pgs (k + 1) ⟨b, r, t⟩ (ws.drop (k + 1)) ⟨false, ⟨#[]⟩, txs⟩) ∨ (br = true ∧ t = txs ∧ ws.length ≤ k))
theorem ScInv.up {Ts : List Nat} {G G' : List Blk} {j k : Nat} (h : ScInv ws txs G j k) (u : UpT Ts G G') (h1 : Ts.elem 96 = false) (h2 : Ts.elem 45 = false) : ScInv ws txs G' j k := by
  obtain ⟨b, e, r, nx, ms, br, t, hsc, h⟩ := h
  exact ⟨b, e, r, nx, ms, br, t, hsc.up u h1 h2, h⟩
theorem one_step {G : List Blk} {j k : Nat} (h : ScInv ws txs G j k) (hl : txs.length ≤ 200) (hk : k < 96) {K : V → List Blk → Prop} (hK : ∀ H', UpT [96, 45] G H' → ScMid ws txs H' j k → K undefV H') :
    hOne [.c (.cp j 0), i64 k, pgW (rdW ws k)] G K := by
  obtain ⟨b, e, r, nx, ms, br, t, hsc, hz, h⟩ := h
  have bad : rdW ws k = pgZ → (t = txs ∧ ws.length ≤ k) → hOne [.c (.cp j 0), i64 k, pgW (rdW ws k)] G K := fun e1 h2 => by
    rw [e1]
    exact ⟨b, e, r, nx, ms, br, t, hsc, rfl, .inl ⟨zero_bad, fun H' u s => hK H' u ⟨b, e, r, nx, ms, true, t, s, hz, .inr ⟨rfl, h2⟩⟩⟩⟩
  have out : ws.length ≤ k → rdW ws k = pgZ := fun h => by unfold rdW; rw [List.getElem?_eq_none h]; rfl
  rcases h with ⟨rfl, h1, h2, he, hp⟩ | ⟨rfl, h1, h2⟩
  · rcases Nat.lt_or_ge k ws.length with g | g
    · have hne : ws ≠ [] := fun e => by rw [e] at g; exact absurd g (Nat.not_lt_zero _)
      have hw : rdW ws k = ws[k] := by unfold rdW; rw [List.getElem?_eq_getElem g]; rfl
      rw [List.drop_eq_getElem_cons g] at hp
      rw [hw]
      generalize ws[k] = bs at hp
      cases hp with
      | cons hs hp =>
        have hgr := hp.grow
        cases hs with
        | head _ h16 =>
          exact ⟨b, e, r, nx, ms, false, t, hsc, rfl, .inr (.inl ⟨k, ⟨rfl, by omega, h16, rfl, rfl⟩, fun H' nx' ms' u s => hK H' u ⟨b, e, r, nx', ms', false, t, s, fun h => absurd h hne, .inl ⟨rfl, g, he, hp⟩⟩⟩)⟩
        | data _ _ d _ h16 hR hsz =>
          refine ⟨b, e, r, nx, ms, false, t, hsc, rfl, .inr (.inr ⟨k, false, d, ⟨rfl, by omega, h16, rfl, hR, rfl⟩, he, ⟨hsz, Nat.le_trans hgr hl⟩, fun H' nx' ms' u => ⟨fun h => (by cases h), fun _ s => hK H' u ⟨true, 1, r ++ d, nx', ms', false, t, s, fun h => absurd h hne, .inl ⟨rfl, g, .inr rfl, hp⟩⟩⟩⟩)⟩
        | last _ _ d _ h16 hR hsz =>
          refine ⟨b, e, r, nx, ms, false, t, hsc, rfl, .inr (.inr ⟨k, true, d, ⟨rfl, by omega, h16, rfl, hR, rfl⟩, he, ⟨hsz, ?_⟩, fun H' nx' ms' u => ⟨fun _ s => hK H' u ⟨false, 0, ⟨#[]⟩, nx', ms', false, t ++ [r ++ d], s, fun h => absurd h hne, .inl ⟨rfl, g, .inl rfl, hp⟩⟩, fun h => (by cases h)⟩⟩)⟩
          have : (t ++ [r ++ d]).length ≤ txs.length := hgr
          simp at this
          omega
    · rw [List.drop_of_length_le g] at hp
      cases hp
      exact bad (out g) ⟨rfl, g⟩
  · exact bad (out h2) ⟨h1, h2⟩
end
def hOne2 (ws : List (List Int)) (txs : List ByteArray) : HCt := fun ws' H K => match ws' with
  | [.c (.cp j 0), .c (.ci .i64 i'), .agg [.ints .u8 m bs]] => ∃ k : Nat, (i' = k ∧ m = 64 ∧ bs = rdW ws k ∧ k < 96 ∧ txs.length ≤ 200) ∧ ScInv ws txs H j k ∧ ∀ H', UpT [96, 45] H H' → ScMid ws txs H' j k → K undefV H'
  | _ => False
theorem one2_ct (ws : List (List Int)) (txs : List ByteArray) : HCtOkG Tryz.prog D.G1 31 (hOne2 ws txs) := by
  intro ws' H K h hr hb ho σ base w₀ w hw
  unfold hOne2 at h
  split at h
  · obtain ⟨k, ⟨rfl, rfl, rfl, hk, hl⟩, inv, hK⟩ := h
    exact one_ct _ H K (one_step inv hl hk hK) hr hb ho σ base w₀ w hw
  · exact h.elim
noncomputable def FSc (ws : List (List Int)) (txs : List ByteArray) : Fns := (((F0.into 29 Tryz.f29).into 32 Tryz.f32).over 30 hDRead).over 31 (hOne2 ws txs)
theorem FSc_ok (ws : List (List Int)) (txs : List ByteArray) : FnsOk Tryz.prog (FSc ws txs) D.G1 := (((D.F0_okg.into Tryz.func29 (by kernel_rfl) (by kernel_rfl)).into Tryz.func32 (by kernel_rfl) (by kernel_rfl)).overG dread_ct Tryz.func30 (by kernel_rfl) (by kernel_rfl)).overG (one2_ct ws txs) Tryz.func31 (by kernel_rfl) (by kernel_rfl)
abbrev TS : List Nat := [96, 45]
structure KH where
  k : Nat
  H : List Blk
theorem scan_walk {H : List Blk} (hH : HOk H) {j : Nat} {ws : List (List Int)} {txs : List ByteArray} (hd : DskAt H j ws) (hl : LogOk ws txs) :
    walk6 (FSc ws txs) 2 Tryz.f10 [.c (.cp j 0)] H fun y H' => ∃ v nx ms rs, y = .tup [.c v, i64 nx, u32 ms, i64 0] ∧ UpT TS H H' ∧ SlAt 45 2 H' v rs ∧ txOk rs txs ∧ (ws = [] → nx = 0 ∧ ms = 0) := by
  obtain ⟨m1, v, m2, hj, h1, h2, hs⟩ := hd.ex
  have hjl := (List.getElem?_eq_some_iff.1 hj).1
  have u1 : UpT TS H (H ++ [scB false 0 ⟨#[]⟩ .csn 0 0 0 0 false]) := (UpT.refl hH.bnd).app rfl
  repeat' ((conv => whnf); first | (refine lenH_is ?_) | (refine pushH_at ?_) | (refine setH_as (set_top _ _ _) ?_) | (refine setH_as (set_low _ _ _ _) ?_) | (refine setH_as (set_top' _ _ _ _ _) ?_) | (refine hGet_at (hj) ?_) | (refine hGet_at (up_get hj) ?_) | (refine And.intro ?_ trivial) | (refine And.intro rfl ?_) | (refine And.intro (And.intro (by decide) (by decide)) ?_) | (refine And.intro (And.intro (by decide) (And.intro (by decide) (by decide))) ?_) | (refine And.intro (Nat.le_of_ble_eq_true rfl) (And.intro (Nat.le_of_ble_eq_true rfl) ?_)) | (refine And.intro (Nat.le_of_ble_eq_true rfl) ?_) | (refine ask_false (by omega) ?_) | (refine ask_true (by omega) ?_) | (refine ask_wrap64 (by omega) (by omega) ?_) | (refine And.intro (And.intro (by omega) (by omega)) ?_) | (refine fun (_ : InK _ _) => ?_) | (refine ⟨by kernel_rfl, ?_⟩) | fail)
  conv => whnf
  refine loop_upJ (7 :: 8 :: 9 :: List.range' 17 42) (fun m (z : KH) => (m = 96 - z.k ∧ z.k ≤ 96) ∧ UpT TS H z.H ∧ ScInv ws txs z.H H.length z.k) (fun z => [(17, vi z.k)]) (fun z => z.H) 96 ⟨0, _⟩ ⟨⟨rfl, Nat.le_of_ble_eq_true rfl⟩, u1, false, 0, ⟨#[]⟩, 0, 0, false, [], ⟨.csn, 0, 0, [], up_top _ _, by decide, .nil, rfl, fun i t h => by simp at h⟩, fun _ => ⟨rfl, rfl⟩, .inl ⟨rfl, Nat.zero_le _, Nat.le_of_ble_eq_true rfl, .inl rfl, hl.pgs⟩⟩ ?_ ?_ ?_
  · rintro m z ⟨_, u, b, e, r, nx, ms, br, t, ⟨v', a, ep, rs, g, _⟩, _⟩
    have dj := decide_eq_true (Nat.lt_of_lt_of_le hjl u.len)
    have dH := get_blt g
    repeat' (first | rfl | exact dj | exact dH | refine and_t ?_ ?_)
  · exact ⟨rfl, ⟨⟨Nat.le_of_ble_eq_true rfl, rfl⟩, trivial⟩, wkH_refl _, bndH_of u1.bnd, u1.len⟩
  · rintro m z ⟨⟨rfl, k1⟩, u, inv⟩
    rcases Nat.lt_or_ge z.k 96 with hk | hk
    · repeat' ((conv => whnf); first | (refine lenH_is ?_) | (refine pushH_at ?_) | (refine setH_as (set_top _ _ _) ?_) | (refine setH_as (set_low _ _ _ _) ?_) | (refine setH_as (set_top' _ _ _ _ _) ?_) | (refine And.intro ?_ trivial) | (refine And.intro rfl ?_) | (refine And.intro (And.intro (by decide) (by decide)) ?_) | (refine And.intro (And.intro (by decide) (And.intro (by decide) (by decide))) ?_) | (refine And.intro (Nat.le_of_ble_eq_true rfl) (And.intro (Nat.le_of_ble_eq_true rfl) ?_)) | (refine And.intro (Nat.le_of_ble_eq_true rfl) ?_) | (refine ask_false (by omega) ?_) | (refine ask_true (by omega) ?_) | (refine ask_wrap64 (by omega) (by omega) ?_) | (refine And.intro (And.intro (by omega) (by omega)) ?_) | (refine fun (_ : InK _ _) => ?_) | (refine ⟨by kernel_rfl, ?_⟩) | fail)
      conv => whnf
      refine ⟨ws, z.k, hd.up u rfl rfl, ⟨hk, rfl⟩, fun H1 v1 => ?_⟩
      have v2 : UpT [] z.H (H1 ++ [.own 98 [.ints .u8 64 (rdW ws z.k)]]) := v1.app rfl
      repeat' ((conv => whnf); first | (refine lenH_is ?_) | (refine pushH_at ?_) | (refine setH_as (set_top _ _ _) ?_) | (refine setH_as (set_low _ _ _ _) ?_) | (refine setH_as (set_top' _ _ _ _ _) ?_) | (refine hGet_at (up_top _ _) ?_) | (refine And.intro ?_ trivial) | (refine And.intro rfl ?_) | (refine And.intro (And.intro (by decide) (by decide)) ?_) | (refine And.intro (And.intro (by decide) (And.intro (by decide) (by decide))) ?_) | (refine And.intro (Nat.le_of_ble_eq_true rfl) (And.intro (Nat.le_of_ble_eq_true rfl) ?_)) | (refine And.intro (Nat.le_of_ble_eq_true rfl) ?_) | (refine ask_false (by omega) ?_) | (refine ask_true (by omega) ?_) | (refine ask_wrap64 (by omega) (by omega) ?_) | (refine And.intro (And.intro (by omega) (by omega)) ?_) | (refine fun (_ : InK _ _) => ?_) | (refine ⟨by kernel_rfl, ?_⟩) | fail)
      conv => whnf
      refine ⟨z.k, ⟨rfl, rfl, rfl, hk, hl.few⟩, inv.up v2 rfl rfl, fun H2 w2 hm => ?_⟩
      have uA := (u.trans v2.any).trans w2
      obtain ⟨b, e, r, nx, ms, br, t, ⟨v', a, ep, rs, g, hep, hv, htx⟩, hz, hc⟩ := hm
      have hj2 := uA.keep _ _ hj rfl
      have hb2 := uA.bnd _ (List.mem_of_getElem? g)
      have fin : ∀ (br' : Bool) (Hx : List Blk), Hx[H.length]? = some (scB b e r v' a nx ep ms br') → UpT TS H Hx → SlAt 45 2 Hx v' rs → (br' = false → br = false ∧ z.k + 1 < 96) → (br = true → br' = true) → (br' = true → br = true ∨ z.k + 1 = 96) → ScInv ws txs Hx H.length (z.k + 1) := fun br' Hx gx ux vx q1 q2 q3 => by
        refine ⟨b, e, r, nx, ms, br', t, ⟨v', a, ep, rs, gx, hep, vx, htx⟩, hz, ?_⟩
        rcases hc with ⟨c1, c2, c3, c4⟩ | ⟨c1, c2, c3⟩
        · cases br' with
          | false => exact .inl ⟨rfl, c2, (q1 rfl).2, c3, c4⟩
          | true =>
            rcases q3 rfl with q | q
            · rw [c1] at q; cases q
            · have hw := hd.len
              rw [List.drop_of_length_le (by omega)] at c4
              cases c4
              exact .inr ⟨rfl, rfl, by omega⟩
        · exact .inr ⟨q2 c1, c2, by omega⟩
      cases br
      · repeat' ((conv => whnf); first | (refine lenH_is ?_) | (refine pushH_at ?_) | (refine setH_as (set_top _ _ _) ?_) | (refine setH_as (set_low _ _ _ _) ?_) | (refine setH_as (set_top' _ _ _ _ _) ?_) | (refine hGet_at (g) ?_) | (refine hGet_at (hj2) ?_) | (refine And.intro ?_ trivial) | (refine And.intro rfl ?_) | (refine And.intro (And.intro (by decide) (by decide)) ?_) | (refine And.intro (And.intro (by decide) (And.intro (by decide) (by decide))) ?_) | (refine And.intro (Nat.le_of_ble_eq_true rfl) (And.intro (Nat.le_of_ble_eq_true rfl) ?_)) | (refine And.intro (Nat.le_of_ble_eq_true rfl) ?_) | (refine ask_false (by omega) ?_) | (refine ask_true (by omega) ?_) | (refine ask_wrap64 (by omega) (by omega) ?_) | (refine And.intro (And.intro (by omega) (by omega)) ?_) | (refine fun (_ : InK _ _) => ?_) | (refine ⟨by kernel_rfl, ?_⟩) | fail)
        refine And.intro (by decide) (ask_is (f := 6) (by decide) ?_)
        repeat' ((conv => whnf); first | (refine lenH_is ?_) | (refine pushH_at ?_) | (refine setH_as (set_top _ _ _) ?_) | (refine setH_as (set_low _ _ _ _) ?_) | (refine setH_as (set_top' _ _ _ _ _) ?_) | (refine And.intro ?_ trivial) | (refine And.intro rfl ?_) | (refine And.intro (And.intro (by decide) (by decide)) ?_) | (refine And.intro (And.intro (by decide) (And.intro (by decide) (by decide))) ?_) | (refine And.intro (Nat.le_of_ble_eq_true rfl) (And.intro (Nat.le_of_ble_eq_true rfl) ?_)) | (refine And.intro (Nat.le_of_ble_eq_true rfl) ?_) | (refine ask_false (by omega) ?_) | (refine ask_true (by omega) ?_) | (refine ask_wrap64 (by omega) (by omega) ?_) | (refine And.intro (And.intro (by omega) (by omega)) ?_) | (refine fun (_ : InK _ _) => ?_) | (refine ⟨by kernel_rfl, ?_⟩) | fail)
        rcases Nat.lt_or_ge z.k 95 with g95 | g95
        · repeat' ((conv => whnf); first | (refine lenH_is ?_) | (refine pushH_at ?_) | (refine setH_as (set_top _ _ _) ?_) | (refine setH_as (set_low _ _ _ _) ?_) | (refine setH_as (set_top' _ _ _ _ _) ?_) | (refine hGet_at (g) ?_) | (refine And.intro ?_ trivial) | (refine And.intro rfl ?_) | (refine And.intro (And.intro (by decide) (by decide)) ?_) | (refine And.intro (And.intro (by decide) (And.intro (by decide) (by decide))) ?_) | (refine And.intro (Nat.le_of_ble_eq_true rfl) (And.intro (Nat.le_of_ble_eq_true rfl) ?_)) | (refine And.intro (Nat.le_of_ble_eq_true rfl) ?_) | (refine ask_false (by omega) ?_) | (refine ask_true (by omega) ?_) | (refine ask_wrap64 (by omega) (by omega) ?_) | (refine And.intro (And.intro (by omega) (by omega)) ?_) | (refine fun (_ : InK _ _) => ?_) | (refine ⟨by kernel_rfl, ?_⟩) | fail)
          refine setH_up g uA.bnd hb2 fun H3 _ w3 g3 => ?_
          repeat' ((conv => whnf); first | (refine lenH_is ?_) | (refine pushH_at ?_) | (refine setH_as (set_top _ _ _) ?_) | (refine setH_as (set_low _ _ _ _) ?_) | (refine setH_as (set_top' _ _ _ _ _) ?_) | (refine And.intro ?_ trivial) | (refine And.intro rfl ?_) | (refine And.intro (And.intro (by decide) (by decide)) ?_) | (refine And.intro (And.intro (by decide) (And.intro (by decide) (by decide))) ?_) | (refine And.intro (Nat.le_of_ble_eq_true rfl) (And.intro (Nat.le_of_ble_eq_true rfl) ?_)) | (refine And.intro (Nat.le_of_ble_eq_true rfl) ?_) | (refine ask_false (by omega) ?_) | (refine ask_true (by omega) ?_) | (refine ask_wrap64 (by omega) (by omega) ?_) | (refine And.intro (And.intro (by omega) (by omega)) ?_) | (refine fun (_ : InK _ _) => ?_) | (refine ⟨by kernel_rfl, ?_⟩) | fail)
          exact ⟨96 - (z.k + 1), ⟨z.k + 1, H3⟩, by omega, ⟨⟨rfl, hk⟩, uA.trans (w3.mono mSc), fin _ _ g3 (uA.trans (w3.mono mSc)) (hv.up w3 rfl) (fun _ => ⟨rfl, by omega⟩) (fun h => by cases h) (fun h => by cases h)⟩, ⟨rfl, ⟨⟨Nat.le_of_ble_eq_true rfl, rfl⟩, trivial⟩, wkH_refl _, bndH_of w3.bnd, (uA.trans (w3.mono mSc)).len⟩⟩
        · repeat' ((conv => whnf); first | (refine lenH_is ?_) | (refine pushH_at ?_) | (refine setH_as (set_top _ _ _) ?_) | (refine setH_as (set_low _ _ _ _) ?_) | (refine setH_as (set_top' _ _ _ _ _) ?_) | (refine hGet_at (g) ?_) | (refine And.intro ?_ trivial) | (refine And.intro rfl ?_) | (refine And.intro (And.intro (by decide) (by decide)) ?_) | (refine And.intro (And.intro (by decide) (And.intro (by decide) (by decide))) ?_) | (refine And.intro (Nat.le_of_ble_eq_true rfl) (And.intro (Nat.le_of_ble_eq_true rfl) ?_)) | (refine And.intro (Nat.le_of_ble_eq_true rfl) ?_) | (refine ask_false (by omega) ?_) | (refine ask_true (by omega) ?_) | (refine ask_wrap64 (by omega) (by omega) ?_) | (refine And.intro (And.intro (by omega) (by omega)) ?_) | (refine fun (_ : InK _ _) => ?_) | (refine ⟨by kernel_rfl, ?_⟩) | fail)
          refine setH_up g uA.bnd hb2 fun H3 _ w3 g3 => ?_
          repeat' ((conv => whnf); first | (refine lenH_is ?_) | (refine pushH_at ?_) | (refine setH_as (set_top _ _ _) ?_) | (refine setH_as (set_low _ _ _ _) ?_) | (refine setH_as (set_top' _ _ _ _ _) ?_) | (refine And.intro ?_ trivial) | (refine And.intro rfl ?_) | (refine And.intro (And.intro (by decide) (by decide)) ?_) | (refine And.intro (And.intro (by decide) (And.intro (by decide) (by decide))) ?_) | (refine And.intro (Nat.le_of_ble_eq_true rfl) (And.intro (Nat.le_of_ble_eq_true rfl) ?_)) | (refine And.intro (Nat.le_of_ble_eq_true rfl) ?_) | (refine ask_false (by omega) ?_) | (refine ask_true (by omega) ?_) | (refine ask_wrap64 (by omega) (by omega) ?_) | (refine And.intro (And.intro (by omega) (by omega)) ?_) | (refine fun (_ : InK _ _) => ?_) | (refine ⟨by kernel_rfl, ?_⟩) | fail)
          exact ⟨96 - (z.k + 1), ⟨z.k + 1, H3⟩, by omega, ⟨⟨rfl, hk⟩, uA.trans (w3.mono mSc), fin _ _ g3 (uA.trans (w3.mono mSc)) (hv.up w3 rfl) (fun h => by cases h) (fun h => by cases h) (fun _ => .inr (by omega))⟩, ⟨rfl, ⟨⟨Nat.le_of_ble_eq_true rfl, rfl⟩, trivial⟩, wkH_refl _, bndH_of w3.bnd, (uA.trans (w3.mono mSc)).len⟩⟩
      · repeat' ((conv => whnf); first | (refine lenH_is ?_) | (refine pushH_at ?_) | (refine setH_as (set_top _ _ _) ?_) | (refine setH_as (set_low _ _ _ _) ?_) | (refine setH_as (set_top' _ _ _ _ _) ?_) | (refine hGet_at (g) ?_) | (refine And.intro ?_ trivial) | (refine And.intro rfl ?_) | (refine And.intro (And.intro (by decide) (by decide)) ?_) | (refine And.intro (And.intro (by decide) (And.intro (by decide) (by decide))) ?_) | (refine And.intro (Nat.le_of_ble_eq_true rfl) (And.intro (Nat.le_of_ble_eq_true rfl) ?_)) | (refine And.intro (Nat.le_of_ble_eq_true rfl) ?_) | (refine ask_false (by omega) ?_) | (refine ask_true (by omega) ?_) | (refine ask_wrap64 (by omega) (by omega) ?_) | (refine And.intro (And.intro (by omega) (by omega)) ?_) | (refine fun (_ : InK _ _) => ?_) | (refine ⟨by kernel_rfl, ?_⟩) | fail)
        refine setH_up g uA.bnd hb2 fun H3 _ w3 g3 => ?_
        repeat' ((conv => whnf); first | (refine lenH_is ?_) | (refine pushH_at ?_) | (refine setH_as (set_top _ _ _) ?_) | (refine setH_as (set_low _ _ _ _) ?_) | (refine setH_as (set_top' _ _ _ _ _) ?_) | (refine And.intro ?_ trivial) | (refine And.intro rfl ?_) | (refine And.intro (And.intro (by decide) (by decide)) ?_) | (refine And.intro (And.intro (by decide) (And.intro (by decide) (by decide))) ?_) | (refine And.intro (Nat.le_of_ble_eq_true rfl) (And.intro (Nat.le_of_ble_eq_true rfl) ?_)) | (refine And.intro (Nat.le_of_ble_eq_true rfl) ?_) | (refine ask_false (by omega) ?_) | (refine ask_true (by omega) ?_) | (refine ask_wrap64 (by omega) (by omega) ?_) | (refine And.intro (And.intro (by omega) (by omega)) ?_) | (refine fun (_ : InK _ _) => ?_) | (refine ⟨by kernel_rfl, ?_⟩) | fail)
        exact ⟨96 - (z.k + 1), ⟨z.k + 1, H3⟩, by omega, ⟨⟨rfl, hk⟩, uA.trans (w3.mono mSc), fin _ _ g3 (uA.trans (w3.mono mSc)) (hv.up w3 rfl) (fun h => by cases h) (fun _ => rfl) (fun _ => .inl rfl)⟩, ⟨rfl, ⟨⟨Nat.le_of_ble_eq_true rfl, rfl⟩, trivial⟩, wkH_refl _, bndH_of w3.bnd, (uA.trans (w3.mono mSc)).len⟩⟩
    · obtain ⟨b, e, r, nx, ms, br, t, ⟨v', a, ep, rs, g, hep, hv, htx⟩, hz, hc⟩ := inv
      have ht : t = txs := by
        rcases hc with ⟨_, _, c, _⟩ | ⟨_, c, _⟩
        · omega
        · exact c
      subst ht
      repeat' ((conv => whnf); first | (refine lenH_is ?_) | (refine ask_false (by omega) ?_) | (refine maskB_as fun Hm hl hm => ?_) | (refine hGet_at (hm _ _ g (by simp)) ?_) | (refine ⟨by kernel_rfl, ?_⟩) | fail)
      exact ⟨v', nx, ms, rs, rfl, u, hv, htx, hz⟩
def hScan : HCt := fun ws' H K => match ws' with
  | [.c (.cp j 0)] => ∃ ws txs, DskAt H j ws ∧ LogOk ws txs ∧ ∀ H' v nx ms rs, UpT TS H H' → SlAt 45 2 H' v rs → txOk rs txs → (ws = [] → nx = 0 ∧ ms = 0) → K (.tup [.c v, i64 nx, u32 ms, i64 0]) H'
  | _ => False
theorem scan_ct : HCtOkG Tryz.prog D.G1 10 hScan := by
  intro ws' H K h hr hb ho σ base w₀ w hw
  unfold hScan at h
  split at h
  · rename_i j
    obtain ⟨ws, txs, hd, hl, hK⟩ := h
    exact heap_lift6 (FSc_ok ws txs) Tryz.func10 (n := 2) (ws := [.c (.cp j 0)]) hr hb ho (scan_walk ho hd hl) (fun x H' hP => by
      obtain ⟨v, nx, ms, rs, rfl, u, s, t, z⟩ := hP
      exact hK H' v nx ms rs u s t z) σ base w₀ w hw
  · exact h.elim
end R
end Go.Proofs.YtaficaacogcblaaGreatDoor
