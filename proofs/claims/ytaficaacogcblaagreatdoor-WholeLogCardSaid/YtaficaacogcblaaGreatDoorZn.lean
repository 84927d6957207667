/- Yl, Ym: what the law wants of them. -/
import Derived.Test.YtaficaacogcblaaGreatDoorZm
set_option linter.all false
namespace Go.Proofs.YtaficaacogcblaaGreatDoor
namespace R
open Go.RowKit (Below)
set_option maxRecDepth 100000
set_option maxHeartbeats 16000000
theorem LogOk.none : LogOk [] [] := ⟨.nil _ _, Nat.zero_le _⟩
noncomputable def FSo : Fns := F0.over 10 hScan
theorem FSo_ok : FnsOk Tryz.prog FSo D.G1 := D.F0_okg.overG scan_ct Tryz.func10 (by kernel_rfl) (by kernel_rfl)
theorem sopen_walk {H : List Blk} (hH : HOk H) {d : Nat} (hd : DskAt H d []) : walk6 FSo 0 Tryz.f23 [.c (.cp d 0)] H fun y H' => ∃ L, y = .tup [.c (.cp L 0), .c .csn, i64 0] ∧ UpT TS H H' ∧ LogAt H' L d [] := by
  repeat' ((conv => whnf); first | (refine lenH_is ?_) | (refine pushH_at ?_) | (refine setH_as (set_top _ _ _) ?_) | (refine setH_as (set_low _ _ _ _) ?_) | (refine setH_as (set_top' _ _ _ _ _) ?_) | (refine And.intro ?_ trivial) | (refine And.intro rfl ?_) | (refine And.intro (And.intro (by decide) (by decide)) ?_) | (refine And.intro (And.intro (by decide) (And.intro (by decide) (by decide))) ?_) | (refine And.intro (Nat.le_of_ble_eq_true rfl) (And.intro (Nat.le_of_ble_eq_true rfl) ?_)) | (refine And.intro (Nat.le_of_ble_eq_true rfl) ?_) | (refine ask_false (by omega) ?_) | (refine ask_true (by omega) ?_) | (refine ask_wrap64 (by omega) (by omega) ?_) | (refine And.intro (And.intro (by omega) (by omega)) ?_) | (refine fun (_ : InK _ _) => ?_) | (refine ⟨by kernel_rfl, ?_⟩) | fail)
  refine ⟨[], [], hd, LogOk.none, fun H1 v nx ms rs u hs ht h0 => ?_⟩
  obtain ⟨rfl, rfl⟩ := h0 rfl
  obtain rfl : rs = [] := List.eq_nil_of_length_eq_zero ht.1
  obtain rfl : v = .csn := by
    rcases hs with h | h
    · exact h.2
    · exact absurd rfl h.1
  have d1 := hd.up u rfl rfl
  repeat' ((conv => whnf); first | (refine lenH_is ?_) | (refine pushH_at ?_) | (refine setH_as (set_top _ _ _) ?_) | (refine setH_as (set_low _ _ _ _) ?_) | (refine setH_as (set_top' _ _ _ _ _) ?_) | (refine And.intro ?_ trivial) | (refine And.intro rfl ?_) | (refine And.intro (And.intro (by decide) (by decide)) ?_) | (refine And.intro (And.intro (by decide) (And.intro (by decide) (by decide))) ?_) | (refine And.intro (Nat.le_of_ble_eq_true rfl) (And.intro (Nat.le_of_ble_eq_true rfl) ?_)) | (refine And.intro (Nat.le_of_ble_eq_true rfl) ?_) | (refine ask_false (by omega) ?_) | (refine ask_true (by omega) ?_) | (refine ask_wrap64 (by omega) (by omega) ?_) | (refine And.intro (And.intro (by omega) (by omega)) ?_) | (refine fun (_ : InK _ _) => ?_) | (refine ⟨by kernel_rfl, ?_⟩) | fail)
  conv => whnf
  refine fun r hr => ?_
  obtain rfl : r = 1 := hr
  repeat' ((conv => whnf); first | (refine lenH_is ?_) | (refine pushH_at ?_) | (refine setH_as (set_top _ _ _) ?_) | (refine setH_as (set_low _ _ _ _) ?_) | (refine setH_as (set_top' _ _ _ _ _) ?_) | (refine And.intro ?_ trivial) | (refine And.intro rfl ?_) | (refine And.intro (And.intro (by decide) (by decide)) ?_) | (refine And.intro (And.intro (by decide) (And.intro (by decide) (by decide))) ?_) | (refine And.intro (Nat.le_of_ble_eq_true rfl) (And.intro (Nat.le_of_ble_eq_true rfl) ?_)) | (refine And.intro (Nat.le_of_ble_eq_true rfl) ?_) | (refine ask_false (by omega) ?_) | (refine ask_true (by omega) ?_) | (refine ask_wrap64 (by omega) (by omega) ?_) | (refine And.intro (And.intro (by omega) (by omega)) ?_) | (refine fun (_ : InK _ _) => ?_) | (refine ⟨by kernel_rfl, ?_⟩) | fail)
  obtain ⟨_, _, _, gd, _⟩ := d1.ex
  have hd1 : decide (d < H1.length + 1) = true := decide_eq_true (Nat.lt_succ_of_lt (List.getElem?_eq_some_iff.1 gd).1)
  have hb1 : (logB d 0).bnd (H1.length + 1) = true := and_t hd1 rfl
  exact ⟨H1.length, rfl, u.app hb1, up_top _ _, d1.up ((UpT.refl u.bnd).app (Ts := []) hb1) rfl rfl⟩
def hSOpen : HCt := fun ws H K => match ws with
  | [.c (.cp d 0)] => DskAt H d [] ∧ ∀ H' L, UpT TS H H' → LogAt H' L d [] → K (.tup [.c (.cp L 0), .c .csn, i64 0]) H'
  | _ => False
theorem sopen_ct : HCtOkG Tryz.prog D.G1 23 hSOpen := by
  intro ws' H K h hr hb ho σ base w₀ w' hw
  unfold hSOpen at h
  split at h
  · rename_i d
    obtain ⟨hd, hK⟩ := h
    exact heap_lift6 FSo_ok Tryz.func23 (n := 0) (ws := [.c (.cp d 0)]) hr hb ho (sopen_walk ho hd) (fun x H' hP => by
      obtain ⟨L, rfl, u, l⟩ := hP
      exact hK H' L u l) σ base w₀ w' hw
  · exact h.elim
abbrev arB (v : C) (x : B.St) (n : Int) (fr : Bool) (L : Nat) : Blk := .own 84 [.one v, .ints .i64 16 x.m, .one (.ci .i64 x.l), .ints .i64 4 x.v, .ints .i64 16 x.w, .one (.ci .i64 x.q), .one (.ci .i64 n), .one (.cb fr), .one (.cp L 0)]
noncomputable def layT (e : E3) : ByteArray := strOfNums (B.layE e.1 e.2.1 e.2.2)
structure ArAt (H : List Blk) (A d : Nat) (es : List E3) : Prop where
  ex : ∃ v n fr L ws, H[A]? = some (arB v (foldP B.st0 es).1 n fr L) ∧ SlAt 35 3 H v (enRows es) ∧ LogAt H L d ws ∧ LogOk ws (es.map layT)
  right : ∀ e ∈ es, B.rightE e.1 e.2.2
abbrev TA : List Nat := [77, 131, 117, 84, 35]
theorem ArAt.up {Ts : List Nat} {H H' : List Blk} {A d : Nat} {es : List E3} (h : ArAt H A d es) (u : UpT Ts H H') (h1 : (Ts.all fun t => !TA.elem t) = true) : ArAt H' A d es := by
  have k : ∀ t, TA.elem t = true → Ts.elem t = false := fun t ht => by
    cases e : Ts.elem t with
    | false => rfl
    | true => exact absurd (List.all_eq_true.1 h1 t (List.elem_iff.1 e)) (by rw [ht]; decide)
  obtain ⟨v, n, fr, L, ws, a1, a2, a3, a4⟩ := h.ex
  exact ⟨⟨v, n, fr, L, ws, u.keep _ _ a1 (by simp only [freeB, k 84 rfl]; rfl), a2.up u (k _ rfl), a3.up u (k _ rfl) (k _ rfl) (k _ rfl), a4⟩, h.right⟩
noncomputable def FAo : Fns := (F0.over 23 hSOpen).into 24 Tryz.f24
theorem FAo_ok : FnsOk Tryz.prog FAo D.G1 := (D.F0_okg.overG sopen_ct Tryz.func23 (by kernel_rfl) (by kernel_rfl)).into Tryz.func24 (by kernel_rfl) (by kernel_rfl)
theorem aopen_walk {H : List Blk} (hH : HOk H) {d : Nat} (hd : DskAt H d []) : walk6 FAo 2 Tryz.f7 [.c (.cp d 0)] H fun y H' => ∃ A, y = .tup [.c (.cp A 0), i64 0] ∧ UpT TS H H' ∧ ArAt H' A d [] := by
  repeat' ((conv => whnf); first | (refine lenH_is ?_) | (refine pushH_at ?_) | (refine setH_as (set_top _ _ _) ?_) | (refine setH_as (set_low _ _ _ _) ?_) | (refine setH_as (set_top' _ _ _ _ _) ?_) | (refine And.intro ?_ trivial) | (refine And.intro rfl ?_) | (refine And.intro (And.intro (by decide) (by decide)) ?_) | (refine And.intro (And.intro (by decide) (And.intro (by decide) (by decide))) ?_) | (refine And.intro (Nat.le_of_ble_eq_true rfl) (And.intro (Nat.le_of_ble_eq_true rfl) ?_)) | (refine And.intro (Nat.le_of_ble_eq_true rfl) ?_) | (refine ask_false (by omega) ?_) | (refine ask_true (by omega) ?_) | (refine ask_wrap64 (by omega) (by omega) ?_) | (refine And.intro (And.intro (by omega) (by omega)) ?_) | (refine fun (_ : InK _ _) => ?_) | (refine ⟨by kernel_rfl, ?_⟩) | fail)
  refine ⟨hd, fun H1 L u lg => ?_⟩
  repeat' ((conv => whnf); first | (refine lenH_is ?_) | (refine pushH_at ?_) | (refine setH_as (set_top _ _ _) ?_) | (refine setH_as (set_low _ _ _ _) ?_) | (refine setH_as (set_top' _ _ _ _ _) ?_) | (refine hGet_at (lg.1) ?_) | (refine hGet_at (up_top _ _) ?_) | (refine hGet_at (up_get lg.1) ?_) | (refine And.intro ?_ trivial) | (refine And.intro rfl ?_) | (refine And.intro (And.intro (by decide) (by decide)) ?_) | (refine And.intro (And.intro (by decide) (And.intro (by decide) (by decide))) ?_) | (refine And.intro (Nat.le_of_ble_eq_true rfl) (And.intro (Nat.le_of_ble_eq_true rfl) ?_)) | (refine And.intro (Nat.le_of_ble_eq_true rfl) ?_) | (refine ask_false (by omega) ?_) | (refine ask_true (by omega) ?_) | (refine ask_wrap64 (by omega) (by omega) ?_) | (refine And.intro (And.intro (by omega) (by omega)) ?_) | (refine fun (_ : InK _ _) => ?_) | (refine ⟨by kernel_rfl, ?_⟩) | fail)
  conv => whnf
  have hL : decide (L < H1.length + 1) = true := decide_eq_true (Nat.lt_succ_of_lt (List.getElem?_eq_some_iff.1 lg.1).1)
  have hb1 : (arB .csn B.st0 0 false L).bnd (H1.length + 1) = true := by
    have : (arB .csn B.st0 0 false L).bnd (H1.length + 1) = (decide (L < H1.length + 1) && true) := rfl
    rw [this, hL]; rfl
  have uB : UpT TS H (H1 ++ [arB .csn B.st0 0 false L]) := u.app hb1
  have vB : UpT [] H1 (H1 ++ [arB .csn B.st0 0 false L]) := (UpT.refl u.bnd).app hb1
  refine loop_upJ (9 :: 10 :: 11 :: List.range' 32 32) (fun m (_ : Unit) => m = 0) (fun _ => [(32, vi 0)]) (fun _ => H1 ++ [arB .csn B.st0 0 false L]) 0 () rfl ?_ ?_ ?_
  · rintro m _ rfl
    have d0 := get_blt (up_get (N := [arB .csn B.st0 0 false L]) lg.1)
    have d1 := get_blt (up_top H1 (arB .csn B.st0 0 false L))
    obtain ⟨_, _, _, gd, _⟩ := (lg.2.up vB rfl rfl).ex
    have d2 := get_blt gd
    repeat' (first | rfl | exact d0 | exact d1 | exact d2 | refine and_t ?_ ?_)
  · exact ⟨rfl, ⟨⟨Nat.le_of_ble_eq_true rfl, rfl⟩, trivial⟩, wkH_refl _, bndH_of uB.bnd, uB.len⟩
  · rintro m _ rfl
    repeat' ((conv => whnf); first | (refine lenH_is ?_) | (refine pushH_at ?_) | (refine setH_as (set_top _ _ _) ?_) | (refine setH_as (set_low _ _ _ _) ?_) | (refine setH_as (set_top' _ _ _ _ _) ?_) | (refine hGet_at (up_top _ _) ?_) | (refine And.intro ?_ trivial) | (refine And.intro rfl ?_) | (refine And.intro (And.intro (by decide) (by decide)) ?_) | (refine And.intro (And.intro (by decide) (And.intro (by decide) (by decide))) ?_) | (refine And.intro (Nat.le_of_ble_eq_true rfl) (And.intro (Nat.le_of_ble_eq_true rfl) ?_)) | (refine And.intro (Nat.le_of_ble_eq_true rfl) ?_) | (refine ask_false (by omega) ?_) | (refine ask_true (by omega) ?_) | (refine ask_wrap64 (by omega) (by omega) ?_) | (refine And.intro (And.intro (by omega) (by omega)) ?_) | (refine fun (_ : InK _ _) => ?_) | (refine ⟨by kernel_rfl, ?_⟩) | fail)
    exact ⟨H1.length, rfl, uB, ⟨.csn, 0, false, L, [], up_top _ _, .nil, lg.up vB rfl rfl rfl, LogOk.none⟩, fun e h => by cases h⟩
def hAOpen : HCt := fun ws H K => match ws with
  | [.c (.cp d 0)] => DskAt H d [] ∧ ∀ H' A, UpT TS H H' → ArAt H' A d [] → K (.tup [.c (.cp A 0), i64 0]) H'
  | _ => False
theorem aopen_ct : HCtOkG Tryz.prog D.G1 7 hAOpen := by
  intro ws' H K h hr hb ho σ base w₀ w' hw
  unfold hAOpen at h
  split at h
  · rename_i d
    obtain ⟨hd, hK⟩ := h
    exact heap_lift6 FAo_ok Tryz.func7 (n := 2) (ws := [.c (.cp d 0)]) hr hb ho (aopen_walk ho hd) (fun x H' hP => by
      obtain ⟨A, rfl, u, l⟩ := hP
      exact hK H' A u l) σ base w₀ w' hw
  · exact h.elim
theorem arB_bnd {v : C} {x : B.St} {n : Int} {fr : Bool} {L : Nat} {m : Nat} (h1 : v.bnd m = true) (h2 : L < m) : (arB v x n fr L).bnd m = true := by
  have : (arB v x n fr L).bnd m = (v.bnd m && (decide (L < m) && true)) := rfl
  rw [this, h1, decide_eq_true h2]; rfl
theorem zero_entry : ∃ zs, zeroS Tryz.prog 35 (fun q => q = zs) ∧ rowOk (Tryz.prog.types[35]).size zs := ⟨[.one (.ci .i64 0), .one (.ci .u32 0), .one (.cs ⟨#[]⟩)], by (conv => whnf); rfl, by kernel_rfl, rfl⟩
theorem ent_few {a b : Nat} (h : a + b ≤ 3000) : (a + b ≤ 9223372036854775807 ∧ (a + b) * (Tryz.prog.types[35]).bytes ≤ 140737488355328) := by
  have e : (Tryz.prog.types[35]).bytes ≤ 1000 := Nat.le_of_ble_eq_true (by kernel_rfl)
  refine ⟨by omega, Nat.le_trans (Nat.mul_le_mul h e) (by decide)⟩
noncomputable def FTa : Fns := (F0.over 36 hStep).every 36 |>.every 777777
theorem FTa_ok : FnsOk Tryz.prog FTa D.G1 := ((D.F0_okg.overG sp_ct Tryz.func36 (by kernel_rfl) (by kernel_rfl)).every _).every _
abbrev TK : List Nat := [84, 35]
theorem UpT.mTK {A B : List Blk} (h : UpT [84] A B) : UpT TK A B := h.mono fun t e => by simp at e ⊢; exact .inl e
theorem UpT.mTK2 {A B : List Blk} (h : UpT [35] A B) : UpT TK A B := h.mono fun t e => by simp at e ⊢; exact .inr e
theorem UpT.mTA1 {A B : List Blk} (h : UpT [84] A B) : UpT TA A B := h.mono fun t e => by simp at e ⊢; exact .inr (.inr (.inr (.inl e)))
theorem UpT.mTA2 {A B : List Blk} (h : UpT TW A B) : UpT TA A B := h.mono fun t e => by
  simp at e ⊢
  rcases e with e | e | e
  · exact .inl e
  · exact .inr (.inl e)
  · exact .inr (.inr (.inl e))
theorem UpT.mTA3 {A B : List Blk} (h : UpT TK A B) : UpT TA A B := h.mono fun t e => by
  simp at e ⊢
  rcases e with e | e
  · exact .inr (.inr (.inr (.inl e)))
  · exact .inr (.inr (.inr (.inr e)))
theorem atake_walk {H : List Blk} (hH : HOk H) {A L : Nat} {v : C} {x : B.St} {n : Int} {fr : Bool} {rows : List (List Seg)} (ha : H[A]? = some (arB v x n fr L)) (hL : L < H.length) (hv : SlAt 35 3 H v rows) (hx : StR x) {k t : Int} {d : ByteArray} (he : B.rightE k d) (hn : rows.length ≤ 200) :
    walk6 FTa 0 Tryz.f27 [.c (.cp A 0), B.enW k t d] H fun y H' => y = undefV ∧ ∃ v', UpT TK H H' ∧ H'[A]? = some (arB v' (spS x k d) n fr L) ∧ SlAt 35 3 H' v' (rows ++ [(B.enW k t d).segs]) := by
  have u1 : UpT [] H (H ++ [.own 35 (B.enW k t d).segs]) := (UpT.refl hH.bnd).app rfl
  have g1 := u1.keep _ _ ha rfl
  have gt := up_top H (.own 35 (B.enW k t d).segs)
  have hv1 := hv.up u1 rfl
  have hl1 := u1.len
  obtain ⟨G0, hB⟩ : ∃ G0, G0 = H ++ [.own 35 (B.enW k t d).segs] := ⟨_, rfl⟩
  rw [← hB] at u1 g1 gt hv1 hl1
  repeat' ((conv => whnf); first | (refine lenH_is ?_) | (refine pushH_at ?_) | (refine setH_as (set_top _ _ _) ?_) | (refine setH_as (set_low _ _ _ _) ?_) | (refine setH_as (set_top' _ _ _ _ _) ?_) | (refine And.intro ?_ trivial) | (refine And.intro rfl ?_) | (refine And.intro (And.intro (by decide) (by decide)) ?_) | (refine And.intro (And.intro (by decide) (And.intro (by decide) (by decide))) ?_) | (refine And.intro (Nat.le_of_ble_eq_true rfl) (And.intro (Nat.le_of_ble_eq_true rfl) ?_)) | (refine And.intro (Nat.le_of_ble_eq_true rfl) ?_) | (refine ask_false (by omega) ?_) | (refine ask_true (by omega) ?_) | (refine ask_wrap64 (by omega) (by omega) ?_) | (refine And.intro (And.intro (by omega) (by omega)) ?_) | (refine fun (_ : InK _ _) => ?_) | (refine ⟨by kernel_rfl, ?_⟩) | fail)
  show XRed _ _ _ _ _ _ (H ++ [.own 35 (B.enW k t d).segs]) _
  rw [← hB]
  refine red_up (α := List Blk) (List.range' 4 12) (fun G => UpT [84] G0 G ∧ G[A]? = some (arB v (spS x k d) n fr L)) (fun _ => []) (fun G => G) (by kernel_rfl) ?_ ?_ ?_
  · rintro G ⟨u, g⟩
    have d0 := get_blt g
    have d1 := get_blt (u.keep _ _ gt rfl)
    repeat' (first | rfl | exact d0 | exact d1 | refine and_t ?_ ?_)
  · rintro G ⟨u, g⟩
    repeat' ((conv => whnf); first | (refine lenH_is ?_) | (refine pushH_at ?_) | (refine setH_as (set_top _ _ _) ?_) | (refine setH_as (set_low _ _ _ _) ?_) | (refine setH_as (set_top' _ _ _ _ _) ?_) | (refine And.intro ?_ trivial) | (refine And.intro rfl ?_) | (refine And.intro (And.intro (by decide) (by decide)) ?_) | (refine And.intro (And.intro (by decide) (And.intro (by decide) (by decide))) ?_) | (refine And.intro (Nat.le_of_ble_eq_true rfl) (And.intro (Nat.le_of_ble_eq_true rfl) ?_)) | (refine And.intro (Nat.le_of_ble_eq_true rfl) ?_) | (refine ask_false (by omega) ?_) | (refine ask_true (by omega) ?_) | (refine ask_wrap64 (by omega) (by omega) ?_) | (refine And.intro (And.intro (by omega) (by omega)) ?_) | (refine fun (_ : InK _ _) => ?_) | (refine ⟨by kernel_rfl, ?_⟩) | fail)
    conv => whnf
    have gT := u.keep _ _ gt rfl
    have hvG := hv1.up u rfl
    have hul := u.len
    have hbT := u.bnd _ (List.mem_of_getElem? gT)
    have hbT' : Blk.bnd (G.length + 1) (.own 35 (B.enW k t d).segs) = true := rfl
    have uT : UpT [] G (G ++ [.own 35 (B.enW k t d).segs]) := (UpT.refl u.bnd).app hbT'
    refine red_up (α := List Blk × C) (List.range' 16 10) (fun a => UpT TK G a.1 ∧ a.1[A]? = some (arB a.2 (spS x k d) n fr L) ∧ SlAt 35 3 a.1 a.2 (rows ++ [(B.enW k t d).segs])) (fun _ => []) (fun a => a.1) (by kernel_rfl) ?_ ?_ ?_
    · rintro ⟨X, c⟩ ⟨w, g', _⟩
      have d0 := get_blt g'
      have d1 : decide (H.length < X.length) = true := decide_eq_true (by have := w.len; have := (List.getElem?_eq_some_iff.1 gT).1; show H.length < X.length; have hw : G.length ≤ X.length := w.len; omega)
      repeat' (first | rfl | exact d0 | exact d1 | refine and_t ?_ ?_)
    · rintro ⟨X, c⟩ ⟨w, g', s'⟩
      repeat' ((conv => whnf); first | (refine lenH_is ?_) | (refine pushH_at ?_) | (refine setH_as (set_top _ _ _) ?_) | (refine setH_as (set_low _ _ _ _) ?_) | (refine setH_as (set_top' _ _ _ _ _) ?_) | (refine And.intro ?_ trivial) | (refine And.intro rfl ?_) | (refine And.intro (And.intro (by decide) (by decide)) ?_) | (refine And.intro (And.intro (by decide) (And.intro (by decide) (by decide))) ?_) | (refine And.intro (Nat.le_of_ble_eq_true rfl) (And.intro (Nat.le_of_ble_eq_true rfl) ?_)) | (refine And.intro (Nat.le_of_ble_eq_true rfl) ?_) | (refine ask_false (by omega) ?_) | (refine ask_true (by omega) ?_) | (refine ask_wrap64 (by omega) (by omega) ?_) | (refine And.intro (And.intro (by omega) (by omega)) ?_) | (refine fun (_ : InK _ _) => ?_) | (refine ⟨by kernel_rfl, ?_⟩) | fail)
      exact ⟨c, ((u1.any.trans (UpT.mTK u)).trans w), g', s'⟩
    · repeat' ((conv => whnf); first | (refine lenH_is ?_) | (refine pushH_at ?_) | (refine hGet_at g ?_) | (refine hGet_at (up_get g) ?_) | (refine hGet_at gT ?_) | (refine And.intro ⟨rfl, (by kernel_rfl), Nat.le_of_ble_eq_true (by kernel_rfl), Nat.le_of_ble_eq_true (by kernel_rfl)⟩ ?_) | (refine And.intro (by kernel_rfl) ?_) | (refine And.intro ?_ (And.intro ?_ trivial)) | (refine And.intro ?_ trivial) | (refine ⟨⟨rfl, zero_entry⟩, _, NewAt.one (up_top _ _) (by exact ⟨rfl, rfl⟩), .inl ⟨rows, hvG.up uT rfl, ent_few (by simp; omega), fun v' X u' s' _ => ?_⟩⟩) | fail)
      all_goals
        have gA := u'.keep _ _ (uT.keep _ _ g rfl) rfl
        repeat' ((conv => whnf); first | (refine hGet_at gA ?_) | (refine And.intro ?_ (And.intro ?_ trivial)) | (refine And.intro ?_ trivial) | fail)
        conv => whnf
        have hlX : (G ++ [Blk.own 35 (B.enW k t d).segs]).length ≤ X.length := u'.len
        have hlT := uT.len
        refine setH_up gA u'.bnd (arB_bnd s'.bnd (by omega)) fun Y e w q => ?_
        refine ⟨(Y, v'), ⟨(uT.any.trans (UpT.mTK2 u')).trans (UpT.mTK w), q, s'.up w rfl⟩, ⟨rfl, trivial, wkH_refl _, bndH_of w.bnd, ?_⟩⟩
        have := w.len
        show H.length ≤ Y.length
        omega
  · repeat' ((conv => whnf); first | (refine hGet_at g1 ?_) | (refine hGet_at gt ?_) | (refine And.intro ?_ (And.intro ?_ trivial)) | (refine And.intro ?_ trivial) | (refine And.intro ⟨rfl, rfl, rfl⟩ (And.intro ⟨hx, he⟩ fun H3 w3 x3 hx3 u3 hw3 => ?_)) | (refine hGet_at (u3.keep _ _ g1 rfl) ?_) | fail)
    all_goals
      conv => whnf
      have hx3' : x3 = spS x k d := hx3
      have hl3 := u3.len
      refine setH_up (u3.keep _ _ g1 rfl) u3.bnd (arB_bnd (hv1.up u3 rfl).bnd (by omega)) fun G e w q => ?_
      exact ⟨G, ⟨u3.any.trans w, by rw [← hx3']; exact q⟩, ⟨rfl, trivial, wkH_refl _, bndH_of w.bnd, by have := w.len; omega⟩⟩
def hATake : HCt := fun ws H K => match ws with
  | [.c (.cp A 0), .agg [.one (.ci .i64 k), .one (.ci .u32 t), .one (.cs d)]] => ∃ (v : C) (x : B.St) (n : Int) (fr : Bool) (L : Nat) (rows : List (List Seg)), (H[A]? = some (arB v x n fr L) ∧ L < H.length ∧ SlAt 35 3 H v rows) ∧ (StR x ∧ B.rightE k d ∧ rows.length ≤ 200) ∧
    ∀ H' v', UpT TK H H' → H'[A]? = some (arB v' (spS x k d) n fr L) → SlAt 35 3 H' v' (rows ++ [(B.enW k t d).segs]) → K undefV H'
  | _ => False
theorem atake_ct : HCtOkG Tryz.prog D.G1 27 hATake := by
  intro ws' H K h hr hb ho σ base w₀ w' hw
  unfold hATake at h
  split at h
  · rename_i A k t d
    obtain ⟨v, x, n, fr, L, rows, ⟨h1, h2, h3⟩, ⟨h4, h5, h6⟩, hK⟩ := h
    exact heap_lift6 FTa_ok Tryz.func27 (n := 0) (ws := [.c (.cp A 0), B.enW k t d]) hr hb ho (atake_walk ho h1 h2 h3 h4 h5 h6) (fun x H' hP => by
      obtain ⟨rfl, v', u, a, b⟩ := hP
      exact hK H' v' u a b) σ base w₀ w' hw
  · exact h.elim
noncomputable def FAd : Fns := ((((F0.over 26 hTrue).plus 12 B.ctLayE).over 28 hApp).over 27 hATake).every 26 |>.every 27
theorem FAd_ok (hcut : HCtOkG Tryz.prog D.G1 47 hCut) : FnsOk Tryz.prog FAd D.G1 := (((((D.F0_okg.overG true_ct Tryz.func26 (by kernel_rfl) (by kernel_rfl)).plus B.enLay_ct Tryz.func12 (by kernel_rfl) (by kernel_rfl)).overG (app_ct hcut) Tryz.func28 (by kernel_rfl) (by kernel_rfl)).overG atake_ct Tryz.func27 (by kernel_rfl) (by kernel_rfl)).every _).every _
theorem enRows_app (es : List E3) (e : E3) : enRows (es ++ [e]) = enRows es ++ [(B.enW e.1 e.2.1 e.2.2).segs] := by simp [enRows]
theorem enRows_len (es : List E3) : (enRows es).length = es.length := by simp [enRows]
theorem st0_StR : StR B.st0 := st0_ok
theorem add_walk {H : List Blk} (hH : HOk H) {A dk : Nat} {es : List E3} (ha : ArAt H A dk es) (hn : es.length < 100) (k t : Int) (d : ByteArray) :
    walk6 FAd 0 Tryz.f8 [.c (.cp A 0), B.enW k t d] H fun y H' => ∃ r es', y = vi r ∧ UpT TA H H' ∧ ArAt H' A dk es' ∧ es'.length ≤ es.length + 1 := by
  obtain ⟨v, n, fr, L, ws, g, sl, lg, lo⟩ := ha.ex
  have hx := foldP_ok st0_StR es
  have u1 : UpT [] H (H ++ [.own 35 (B.enW k t d).segs]) := (UpT.refl hH.bnd).app rfl
  have g1 := u1.keep _ _ g rfl
  have gt := up_top H (.own 35 (B.enW k t d).segs)
  have a1 := ha.up u1 rfl
  repeat' ((conv => whnf); first | (refine lenH_is ?_) | (refine pushH_at ?_) | (refine setH_as (set_top _ _ _) ?_) | (refine setH_as (set_low _ _ _ _) ?_) | (refine setH_as (set_top' _ _ _ _ _) ?_) | (refine And.intro ?_ trivial) | (refine And.intro rfl ?_) | (refine And.intro (And.intro (by decide) (by decide)) ?_) | (refine And.intro (And.intro (by decide) (And.intro (by decide) (by decide))) ?_) | (refine And.intro (Nat.le_of_ble_eq_true rfl) (And.intro (Nat.le_of_ble_eq_true rfl) ?_)) | (refine And.intro (Nat.le_of_ble_eq_true rfl) ?_) | (refine ask_false (by omega) ?_) | (refine ask_true (by omega) ?_) | (refine ask_wrap64 (by omega) (by omega) ?_) | (refine And.intro (And.intro (by omega) (by omega)) ?_) | (refine fun (_ : InK _ _) => ?_) | (refine ⟨by kernel_rfl, ?_⟩) | fail)
  conv => whnf
  obtain ⟨G0, hB⟩ : ∃ G0, G0 = H ++ [.own 35 (B.enW k t d).segs] := ⟨_, rfl⟩
  show XRed _ _ _ _ _ _ (H ++ [.own 35 (B.enW k t d).segs]) _
  rw [← hB] at u1 g1 gt a1 ⊢
  refine red_up (α := Bool × List Blk) (List.range' 10 9) (fun a => UpT [] G0 a.2 ∧ (a.1 = true → B.rightE k d)) (fun a => [(10, vb (!a.1))]) (fun a => a.2) (by kernel_rfl) ?_ ?_ ?_
  · rintro ⟨r, G⟩ ⟨u, _⟩
    have d0 := get_blt (u.keep _ _ g1 rfl)
    have d1 := get_blt (u.keep _ _ gt rfl)
    repeat' (first | rfl | exact d0 | exact d1 | refine and_t ?_ ?_)
  · rintro ⟨r, G⟩ ⟨u, hr⟩
    cases r
    · repeat' ((conv => whnf); first | (refine lenH_is ?_) | (refine pushH_at ?_) | (refine setH_as (set_top _ _ _) ?_) | (refine setH_as (set_low _ _ _ _) ?_) | (refine setH_as (set_top' _ _ _ _ _) ?_) | (refine And.intro ?_ trivial) | (refine And.intro rfl ?_) | (refine And.intro (And.intro (by decide) (by decide)) ?_) | (refine And.intro (And.intro (by decide) (And.intro (by decide) (by decide))) ?_) | (refine And.intro (Nat.le_of_ble_eq_true rfl) (And.intro (Nat.le_of_ble_eq_true rfl) ?_)) | (refine And.intro (Nat.le_of_ble_eq_true rfl) ?_) | (refine ask_false (by omega) ?_) | (refine ask_true (by omega) ?_) | (refine ask_wrap64 (by omega) (by omega) ?_) | (refine And.intro (And.intro (by omega) (by omega)) ?_) | (refine fun (_ : InK _ _) => ?_) | (refine ⟨by kernel_rfl, ?_⟩) | fail)
      exact ⟨1, es, rfl, (u1.trans u).any, a1.up u rfl, by omega⟩
    have he := hr rfl
    have g2 := u.keep _ _ g1 rfl
    have gt2 := u.keep _ _ gt rfl
    have a2 := a1.up u rfl
    have lg2 := lg.up (u1.trans u) rfl rfl rfl
    have hz := B.rightE_size he
    have hs1 : (layT (k, t, d)).size = 5 + d.size := by unfold layT; rw [strOfNums_size, B.layE_len]
    repeat' ((conv => whnf); first | (refine lenH_is ?_) | (refine pushH_at ?_) | (refine setH_as (set_top _ _ _) ?_) | (refine setH_as (set_low _ _ _ _) ?_) | (refine setH_as (set_top' _ _ _ _ _) ?_) | (refine hGet_at (g2) ?_) | (refine And.intro ?_ trivial) | (refine And.intro rfl ?_) | (refine And.intro (And.intro (by decide) (by decide)) ?_) | (refine And.intro (And.intro (by decide) (And.intro (by decide) (by decide))) ?_) | (refine And.intro (Nat.le_of_ble_eq_true rfl) (And.intro (Nat.le_of_ble_eq_true rfl) ?_)) | (refine And.intro (Nat.le_of_ble_eq_true rfl) ?_) | (refine ask_false (by omega) ?_) | (refine ask_true (by omega) ?_) | (refine ask_wrap64 (by omega) (by omega) ?_) | (refine And.intro (And.intro (by omega) (by omega)) ?_) | (refine fun (_ : InK _ _) => ?_) | (refine ⟨by kernel_rfl, ?_⟩) | fail)
    cases fr
    · repeat' ((conv => whnf); first | (refine lenH_is ?_) | (refine pushH_at ?_) | (refine setH_as (set_top _ _ _) ?_) | (refine setH_as (set_low _ _ _ _) ?_) | (refine setH_as (set_top' _ _ _ _ _) ?_) | (refine hGet_at (gt2) ?_) | (refine And.intro ?_ trivial) | (refine And.intro rfl ?_) | (refine And.intro (And.intro (by decide) (by decide)) ?_) | (refine And.intro (And.intro (by decide) (And.intro (by decide) (by decide))) ?_) | (refine And.intro (Nat.le_of_ble_eq_true rfl) (And.intro (Nat.le_of_ble_eq_true rfl) ?_)) | (refine And.intro (Nat.le_of_ble_eq_true rfl) ?_) | (refine ask_false (by omega) ?_) | (refine ask_true (by omega) ?_) | (refine ask_wrap64 (by omega) (by omega) ?_) | (refine And.intro (And.intro (by omega) (by omega)) ?_) | (refine fun (_ : InK _ _) => ?_) | (refine ⟨by kernel_rfl, ?_⟩) | fail)
      conv => whnf
      refine ⟨fun _ s hs => ?_, fun h => absurd he h⟩
      have hs' : s = layT (k, t, d) := hs
      subst hs'
      repeat' ((conv => whnf); first | (refine lenH_is ?_) | (refine pushH_at ?_) | (refine setH_as (set_top _ _ _) ?_) | (refine setH_as (set_low _ _ _ _) ?_) | (refine setH_as (set_top' _ _ _ _ _) ?_) | (refine hGet_at (g2) ?_) | (refine And.intro ?_ trivial) | (refine And.intro rfl ?_) | (refine And.intro (And.intro (by decide) (by decide)) ?_) | (refine And.intro (And.intro (by decide) (And.intro (by decide) (by decide))) ?_) | (refine And.intro (Nat.le_of_ble_eq_true rfl) (And.intro (Nat.le_of_ble_eq_true rfl) ?_)) | (refine And.intro (Nat.le_of_ble_eq_true rfl) ?_) | (refine ask_false (by omega) ?_) | (refine ask_true (by omega) ?_) | (refine ask_wrap64 (by omega) (by omega) ?_) | (refine And.intro (And.intro (by omega) (by omega)) ?_) | (refine fun (_ : InK _ _) => ?_) | (refine ⟨by kernel_rfl, ?_⟩) | fail)
      refine ⟨dk, ws, lg2, ⟨by rw [hs1]; omega, by rw [hs1]; omega⟩, fun hf G3 u3 => ?_, fun hf G3 a u3 lg3 => ?_⟩
      · repeat' ((conv => whnf); first | (refine lenH_is ?_) | (refine pushH_at ?_) | (refine setH_as (set_top _ _ _) ?_) | (refine setH_as (set_low _ _ _ _) ?_) | (refine setH_as (set_top' _ _ _ _ _) ?_) | (refine hGet_at (u3.keep _ _ g2 rfl) ?_) | (refine And.intro ?_ trivial) | (refine And.intro rfl ?_) | (refine And.intro (And.intro (by decide) (by decide)) ?_) | (refine And.intro (And.intro (by decide) (And.intro (by decide) (by decide))) ?_) | (refine And.intro (Nat.le_of_ble_eq_true rfl) (And.intro (Nat.le_of_ble_eq_true rfl) ?_)) | (refine And.intro (Nat.le_of_ble_eq_true rfl) ?_) | (refine ask_false (by omega) ?_) | (refine ask_true (by omega) ?_) | (refine ask_wrap64 (by omega) (by omega) ?_) | (refine And.intro (And.intro (by omega) (by omega)) ?_) | (refine fun (_ : InK _ _) => ?_) | (refine ⟨by kernel_rfl, ?_⟩) | fail)
        conv => whnf
        have g3 := u3.keep _ _ g2 rfl
        have hLl := (List.getElem?_eq_some_iff.1 (u3.keep _ _ lg2.1 rfl)).1
        have sl3 := ((sl.up u1 rfl).up u rfl).up u3 rfl
        refine setH_up g3 u3.bnd (arB_bnd sl3.bnd hLl) fun G4 e w q => ?_
        repeat' ((conv => whnf); first | (refine lenH_is ?_) | (refine pushH_at ?_) | (refine setH_as (set_top _ _ _) ?_) | (refine setH_as (set_low _ _ _ _) ?_) | (refine setH_as (set_top' _ _ _ _ _) ?_) | (refine And.intro ?_ trivial) | (refine And.intro rfl ?_) | (refine And.intro (And.intro (by decide) (by decide)) ?_) | (refine And.intro (And.intro (by decide) (And.intro (by decide) (by decide))) ?_) | (refine And.intro (Nat.le_of_ble_eq_true rfl) (And.intro (Nat.le_of_ble_eq_true rfl) ?_)) | (refine And.intro (Nat.le_of_ble_eq_true rfl) ?_) | (refine ask_false (by omega) ?_) | (refine ask_true (by omega) ?_) | (refine ask_wrap64 (by omega) (by omega) ?_) | (refine And.intro (And.intro (by omega) (by omega)) ?_) | (refine fun (_ : InK _ _) => ?_) | (refine ⟨by kernel_rfl, ?_⟩) | fail)
        exact ⟨5, es, rfl, ((u1.trans u).any.trans u3.any).trans (UpT.mTA1 w), ⟨⟨v, n, true, L, ws, q, sl3.up w rfl, (lg2.up u3 rfl rfl rfl).up w rfl rfl rfl, lo⟩, ha.right⟩, by omega⟩
      · repeat' ((conv => whnf); first | (refine lenH_is ?_) | (refine pushH_at ?_) | (refine setH_as (set_top _ _ _) ?_) | (refine setH_as (set_low _ _ _ _) ?_) | (refine setH_as (set_top' _ _ _ _ _) ?_) | (refine And.intro ?_ trivial) | (refine And.intro rfl ?_) | (refine And.intro (And.intro (by decide) (by decide)) ?_) | (refine And.intro (And.intro (by decide) (And.intro (by decide) (by decide))) ?_) | (refine And.intro (Nat.le_of_ble_eq_true rfl) (And.intro (Nat.le_of_ble_eq_true rfl) ?_)) | (refine And.intro (Nat.le_of_ble_eq_true rfl) ?_) | (refine ask_false (by omega) ?_) | (refine ask_true (by omega) ?_) | (refine ask_wrap64 (by omega) (by omega) ?_) | (refine And.intro (And.intro (by omega) (by omega)) ?_) | (refine fun (_ : InK _ _) => ?_) | (refine ⟨by kernel_rfl, ?_⟩) | fail)
        conv => whnf
        have g3 := u3.keep _ _ g2 rfl
        have gt3 := u3.keep _ _ gt2 rfl
        have hLl := (List.getElem?_eq_some_iff.1 lg3.1).1
        have sl3 := ((sl.up u1 rfl).up u rfl).up u3 rfl
        have hel := enRows_len es
        refine red_each (by kernel_rfl) ?_
        repeat' ((conv => whnf); first | (refine hGet_at gt3 ?_) | (refine And.intro ?_ (And.intro ?_ trivial)) | (refine And.intro ?_ trivial) | (refine ⟨v, (foldP B.st0 es).1, n, false, L, enRows es, ⟨g3, hLl, sl3⟩, ⟨hx, he, by omega⟩, fun G5 v5 u5 a5 b5 => ?_⟩) | fail)
        all_goals
          have e1 := foldP_app B.st0 es (k, t, d)
          have e2 := enRows_app es (k, t, d)
          refine ⟨0, es ++ [(k, t, d)], rfl, (((u1.trans u).any.trans (UpT.mTA2 u3)).trans (UpT.mTA3 u5)), ⟨⟨v5, n, false, L, _, ?_, ?_, lg3.up u5 rfl rfl rfl, ?_⟩, ?_⟩, by simp⟩
          · rw [e1]; exact a5
          · rw [e2]; exact b5
          · rw [List.map_append]
            exact lo.app (by rw [hs1]; omega) (by rw [hs1]; omega) (by simp; omega)
          · intro e h
            rcases List.mem_append.1 h with h | h
            · exact ha.right e h
            · rw [List.mem_singleton.1 h]; exact he
    · repeat' ((conv => whnf); first | (refine lenH_is ?_) | (refine pushH_at ?_) | (refine setH_as (set_top _ _ _) ?_) | (refine setH_as (set_low _ _ _ _) ?_) | (refine setH_as (set_top' _ _ _ _ _) ?_) | (refine And.intro ?_ trivial) | (refine And.intro rfl ?_) | (refine And.intro (And.intro (by decide) (by decide)) ?_) | (refine And.intro (And.intro (by decide) (And.intro (by decide) (by decide))) ?_) | (refine And.intro (Nat.le_of_ble_eq_true rfl) (And.intro (Nat.le_of_ble_eq_true rfl) ?_)) | (refine And.intro (Nat.le_of_ble_eq_true rfl) ?_) | (refine ask_false (by omega) ?_) | (refine ask_true (by omega) ?_) | (refine ask_wrap64 (by omega) (by omega) ?_) | (refine And.intro (And.intro (by omega) (by omega)) ?_) | (refine fun (_ : InK _ _) => ?_) | (refine ⟨by kernel_rfl, ?_⟩) | fail)
      exact ⟨8, es, rfl, (u1.trans u).any, a2, by omega⟩
  · repeat' ((conv => whnf); first | (refine hGet_at g1 ?_) | (refine hGet_at gt ?_) | (refine And.intro ?_ (And.intro ?_ trivial)) | (refine And.intro ?_ trivial) | (refine And.intro ⟨rfl, rfl, rfl⟩ (And.intro hx.right fun H3 r hr u3 => ?_)) | fail)
    all_goals exact ⟨(r, H3), ⟨u3, hr⟩, ⟨rfl, ⟨⟨Nat.le_of_ble_eq_true rfl, rfl⟩, trivial⟩, wkH_refl _, bndH_of u3.bnd, Nat.le_trans u1.len u3.len⟩⟩
def hAdd : HCt := fun ws H K => match ws with
  | [.c (.cp A 0), .agg [.one (.ci .i64 _), .one (.ci .u32 _), .one (.cs _)]] => ∃ (dk : Nat) (es : List E3), ArAt H A dk es ∧ es.length < 100 ∧ ∀ H' r es', UpT TA H H' → ArAt H' A dk es' → es'.length ≤ es.length + 1 → K (vi r) H'
  | _ => False
theorem add_ct (hcut : HCtOkG Tryz.prog D.G1 47 hCut) : HCtOkG Tryz.prog D.G1 8 hAdd := by
  intro ws' H K h hr hb ho σ base w₀ w' hw
  unfold hAdd at h
  split at h
  · rename_i A k t d
    obtain ⟨dk, es, h1, h2, hK⟩ := h
    exact heap_lift6 (FAd_ok hcut) Tryz.func8 (n := 0) (ws := [.c (.cp A 0), B.enW k t d]) hr hb ho (add_walk ho h1 h2 k t d) (fun x H' hP => by
      obtain ⟨r, es', rfl, u, a, b⟩ := hP
      exact hK H' r es' u a b) σ base w₀ w' hw
  · exact h.elim
theorem clone_walk {H : List Blk} (hH : HOk H) {v : C} {rows : List (List Seg)} (hv : SlAt 35 3 H v rows) (hn : rows.length ≤ 200) :
    walk6 F0 0 Tryz.f33 [.c v] H fun y H' => ∃ v', y = .w (.c v') ∧ UpT [] H H' ∧ SlAt 35 3 H' v' rows := by
  rcases hv with ⟨rfl, rfl⟩ | ⟨h0, q, rest, rfl, hcap, hrows, hq⟩
  · repeat' ((conv => whnf); first | (refine lenH_is ?_) | (refine pushH_at ?_) | (refine setH_as (set_top _ _ _) ?_) | (refine setH_as (set_low _ _ _ _) ?_) | (refine setH_as (set_top' _ _ _ _ _) ?_) | (refine And.intro ?_ trivial) | (refine And.intro rfl ?_) | (refine And.intro (And.intro (by decide) (by decide)) ?_) | (refine And.intro (And.intro (by decide) (And.intro (by decide) (by decide))) ?_) | (refine And.intro (Nat.le_of_ble_eq_true rfl) (And.intro (Nat.le_of_ble_eq_true rfl) ?_)) | (refine And.intro (Nat.le_of_ble_eq_true rfl) ?_) | (refine ask_false (by omega) ?_) | (refine ask_true (by omega) ?_) | (refine ask_wrap64 (by omega) (by omega) ?_) | (refine And.intro (And.intro (by omega) (by omega)) ?_) | (refine fun (_ : InK _ _) => ?_) | (refine ⟨by kernel_rfl, ?_⟩) | fail)
    conv => whnf
    exact ⟨.csn, rfl, UpT.refl hH.bnd, .nil⟩
  · have hv' : SlAt 35 3 H (.csl q 0 0 rows.length (rows.length + rest.length)) rows := .inr ⟨h0, q, rest, rfl, hcap, hrows, hq⟩
    repeat' ((conv => whnf); first | (refine lenH_is ?_) | (refine pushH_at ?_) | (refine setH_as (set_top _ _ _) ?_) | (refine setH_as (set_low _ _ _ _) ?_) | (refine setH_as (set_top' _ _ _ _ _) ?_) | (refine And.intro ?_ trivial) | (refine And.intro rfl ?_) | (refine And.intro (And.intro (by decide) (by decide)) ?_) | (refine And.intro (And.intro (by decide) (And.intro (by decide) (by decide))) ?_) | (refine And.intro (Nat.le_of_ble_eq_true rfl) (And.intro (Nat.le_of_ble_eq_true rfl) ?_)) | (refine And.intro (Nat.le_of_ble_eq_true rfl) ?_) | (refine ask_false (by omega) ?_) | (refine ask_true (by omega) ?_) | (refine ask_wrap64 (by omega) (by omega) ?_) | (refine And.intro (And.intro (by omega) (by omega)) ?_) | (refine fun (_ : InK _ _) => ?_) | (refine ⟨by kernel_rfl, ?_⟩) | fail)
    conv => whnf
    have u1 : UpT [] H (H ++ [.own 35 []]) := (UpT.refl hH.bnd).app rfl
    refine ⟨⟨rfl, zero_entry⟩, rows, (hv'.up u1 rfl).new, .inr ⟨⟨_, _, rfl⟩, h0, ?_, fun v' H' u s => ?_⟩⟩
    · have := ent_few (a := 0) (b := rows.length) (by omega)
      rw [Nat.zero_add] at this; exact this
    · repeat' ((conv => whnf); first | (refine lenH_is ?_) | (refine pushH_at ?_) | (refine setH_as (set_top _ _ _) ?_) | (refine setH_as (set_low _ _ _ _) ?_) | (refine setH_as (set_top' _ _ _ _ _) ?_) | (refine And.intro ?_ trivial) | (refine And.intro rfl ?_) | (refine And.intro (And.intro (by decide) (by decide)) ?_) | (refine And.intro (And.intro (by decide) (And.intro (by decide) (by decide))) ?_) | (refine And.intro (Nat.le_of_ble_eq_true rfl) (And.intro (Nat.le_of_ble_eq_true rfl) ?_)) | (refine And.intro (Nat.le_of_ble_eq_true rfl) ?_) | (refine ask_false (by omega) ?_) | (refine ask_true (by omega) ?_) | (refine ask_wrap64 (by omega) (by omega) ?_) | (refine And.intro (And.intro (by omega) (by omega)) ?_) | (refine fun (_ : InK _ _) => ?_) | (refine ⟨by kernel_rfl, ?_⟩) | fail)
      exact ⟨v', rfl, u1.trans u, s⟩
def hClone : HCt := fun ws H K => match ws with
  | [.c v] => ∃ rows, SlAt 35 3 H v rows ∧ rows.length ≤ 200 ∧ ∀ H' v', UpT [] H H' → SlAt 35 3 H' v' rows → K (.w (.c v')) H'
  | _ => False
theorem clone_ct : HCtOkG Tryz.prog D.G1 33 hClone := by
  intro ws' H K h hr hb ho σ base w₀ w' hw
  unfold hClone at h
  split at h
  · rename_i v
    obtain ⟨rows, h1, h2, hK⟩ := h
    exact heap_lift6 D.F0_okg Tryz.func33 (n := 0) (ws := [.c v]) hr hb ho (clone_walk ho h1 h2) (fun x H' hP => by
      obtain ⟨v', rfl, u, a⟩ := hP
      exact hK H' v' u a) σ base w₀ w' hw
  · exact h.elim
noncomputable def FEnt : Fns := F0.over 33 hClone
theorem FEnt_ok : FnsOk Tryz.prog FEnt D.G1 := D.F0_okg.overG clone_ct Tryz.func33 (by kernel_rfl) (by kernel_rfl)
theorem entries_walk {H : List Blk} (hH : HOk H) {A dk : Nat} {es : List E3} (ha : ArAt H A dk es) (hn : es.length ≤ 100) :
    walk6 FEnt 0 Tryz.f11 [.c (.cp A 0)] H fun y H' => ∃ v', y = .w (.c v') ∧ UpT [] H H' ∧ SlAt 35 3 H' v' (enRows es) := by
  obtain ⟨v, n, fr, L, ws, g, sl, lg, lo⟩ := ha.ex
  have hel := enRows_len es
  repeat' ((conv => whnf); first | (refine lenH_is ?_) | (refine pushH_at ?_) | (refine setH_as (set_top _ _ _) ?_) | (refine setH_as (set_low _ _ _ _) ?_) | (refine setH_as (set_top' _ _ _ _ _) ?_) | (refine hGet_at (g) ?_) | (refine And.intro ?_ trivial) | (refine And.intro rfl ?_) | (refine And.intro (And.intro (by decide) (by decide)) ?_) | (refine And.intro (And.intro (by decide) (And.intro (by decide) (by decide))) ?_) | (refine And.intro (Nat.le_of_ble_eq_true rfl) (And.intro (Nat.le_of_ble_eq_true rfl) ?_)) | (refine And.intro (Nat.le_of_ble_eq_true rfl) ?_) | (refine ask_false (by omega) ?_) | (refine ask_true (by omega) ?_) | (refine ask_wrap64 (by omega) (by omega) ?_) | (refine And.intro (And.intro (by omega) (by omega)) ?_) | (refine fun (_ : InK _ _) => ?_) | (refine ⟨by kernel_rfl, ?_⟩) | fail)
  refine ⟨enRows es, sl, by omega, fun H' v' u s => ?_⟩
  repeat' ((conv => whnf); first | (refine lenH_is ?_) | (refine pushH_at ?_) | (refine setH_as (set_top _ _ _) ?_) | (refine setH_as (set_low _ _ _ _) ?_) | (refine setH_as (set_top' _ _ _ _ _) ?_) | (refine And.intro ?_ trivial) | (refine And.intro rfl ?_) | (refine And.intro (And.intro (by decide) (by decide)) ?_) | (refine And.intro (And.intro (by decide) (And.intro (by decide) (by decide))) ?_) | (refine And.intro (Nat.le_of_ble_eq_true rfl) (And.intro (Nat.le_of_ble_eq_true rfl) ?_)) | (refine And.intro (Nat.le_of_ble_eq_true rfl) ?_) | (refine ask_false (by omega) ?_) | (refine ask_true (by omega) ?_) | (refine ask_wrap64 (by omega) (by omega) ?_) | (refine And.intro (And.intro (by omega) (by omega)) ?_) | (refine fun (_ : InK _ _) => ?_) | (refine ⟨by kernel_rfl, ?_⟩) | fail)
  exact ⟨v', rfl, u, s⟩
def hEntries : HCt := fun ws H K => match ws with
  | [.c (.cp A 0)] => ∃ (dk : Nat) (es : List E3), ArAt H A dk es ∧ es.length ≤ 100 ∧ ∀ H' v', UpT [] H H' → SlAt 35 3 H' v' (enRows es) → K (.w (.c v')) H'
  | _ => False
theorem entries_ct : HCtOkG Tryz.prog D.G1 11 hEntries := by
  intro ws' H K h hr hb ho σ base w₀ w' hw
  unfold hEntries at h
  split at h
  · rename_i A
    obtain ⟨dk, es, h1, h2, hK⟩ := h
    exact heap_lift6 FEnt_ok Tryz.func11 (n := 0) (ws := [.c (.cp A 0)]) hr hb ho (entries_walk ho h1 h2) (fun x H' hP => by
      obtain ⟨v', rfl, u, a⟩ := hP
      exact hK H' v' u a) σ base w₀ w' hw
  · exact h.elim
noncomputable def FPl : Fns := F0.over 13 hFold
theorem FPl_ok : FnsOk Tryz.prog FPl D.G1 := D.F0_okg.overG fold_ct Tryz.func13 (by kernel_rfl) (by kernel_rfl)
theorem aplay_walk {H : List Blk} (hH : HOk H) {A dk : Nat} {es : List E3} (ha : ArAt H A dk es) (hn : es.length ≤ 100) :
    walk6 FPl 0 Tryz.f15 [.c (.cp A 0)] H fun y H' => ∃ v', y = .w (.c v') ∧ UpT [] H H' ∧ SlAt 48 16 H' v' (blkRows (foldP B.st0 es).2) := by
  obtain ⟨v, n, fr, L, ws, g, sl, lg, lo⟩ := ha.ex
  repeat' ((conv => whnf); first | (refine lenH_is ?_) | (refine pushH_at ?_) | (refine setH_as (set_top _ _ _) ?_) | (refine setH_as (set_low _ _ _ _) ?_) | (refine setH_as (set_top' _ _ _ _ _) ?_) | (refine hGet_at (g) ?_) | (refine And.intro ?_ trivial) | (refine And.intro rfl ?_) | (refine And.intro (And.intro (by decide) (by decide)) ?_) | (refine And.intro (And.intro (by decide) (And.intro (by decide) (by decide))) ?_) | (refine And.intro (Nat.le_of_ble_eq_true rfl) (And.intro (Nat.le_of_ble_eq_true rfl) ?_)) | (refine And.intro (Nat.le_of_ble_eq_true rfl) ?_) | (refine ask_false (by omega) ?_) | (refine ask_true (by omega) ?_) | (refine ask_wrap64 (by omega) (by omega) ?_) | (refine And.intro (And.intro (by omega) (by omega)) ?_) | (refine fun (_ : InK _ _) => ?_) | (refine ⟨by kernel_rfl, ?_⟩) | fail)
  conv => whnf
  refine ⟨es, sl, ⟨st0_StR, ha.right, by omega⟩, fun H' v' x hx u s => ?_⟩
  repeat' ((conv => whnf); first | (refine lenH_is ?_) | (refine pushH_at ?_) | (refine setH_as (set_top _ _ _) ?_) | (refine setH_as (set_low _ _ _ _) ?_) | (refine setH_as (set_top' _ _ _ _ _) ?_) | (refine hGet_at (up_top _ _) ?_) | (refine And.intro ?_ trivial) | (refine And.intro rfl ?_) | (refine And.intro (And.intro (by decide) (by decide)) ?_) | (refine And.intro (And.intro (by decide) (And.intro (by decide) (by decide))) ?_) | (refine And.intro (Nat.le_of_ble_eq_true rfl) (And.intro (Nat.le_of_ble_eq_true rfl) ?_)) | (refine And.intro (Nat.le_of_ble_eq_true rfl) ?_) | (refine ask_false (by omega) ?_) | (refine ask_true (by omega) ?_) | (refine ask_wrap64 (by omega) (by omega) ?_) | (refine And.intro (And.intro (by omega) (by omega)) ?_) | (refine fun (_ : InK _ _) => ?_) | (refine ⟨by kernel_rfl, ?_⟩) | fail)
  exact ⟨v', rfl, u.app rfl, s.up ((UpT.refl u.bnd).app (Ts := []) rfl) rfl⟩
def hAPlay : HCt := fun ws H K => match ws with
  | [.c (.cp A 0)] => ∃ (dk : Nat) (es : List E3), ArAt H A dk es ∧ es.length ≤ 100 ∧ ∀ H' v', UpT [] H H' → SlAt 48 16 H' v' (blkRows (foldP B.st0 es).2) → K (.w (.c v')) H'
  | _ => False
theorem aplay_ct : HCtOkG Tryz.prog D.G1 15 hAPlay := by
  intro ws' H K h hr hb ho σ base w₀ w' hw
  unfold hAPlay at h
  split at h
  · rename_i A
    obtain ⟨dk, es, h1, h2, hK⟩ := h
    exact heap_lift6 FPl_ok Tryz.func15 (n := 0) (ws := [.c (.cp A 0)]) hr hb ho (aplay_walk ho h1 h2) (fun x H' hP => by
      obtain ⟨v', rfl, u, a⟩ := hP
      exact hK H' v' u a) σ base w₀ w' hw
  · exact h.elim
end R
end Go.Proofs.YtaficaacogcblaaGreatDoor
set_option linter.all false
namespace Go.Proofs.YtaficaacogcblaaGreatDoor
namespace R
open Go.RowKit (Below)
set_option maxRecDepth 100000
set_option maxHeartbeats 16000000
theorem blkRows_get {l : List (List Int)} {k : Nat} (h : k < l.length) : ∃ o, (blkRows l)[k]? = some [.ints .i64 16 o] := ⟨l[k], by simp [blkRows, h]⟩
theorem segRd_at {n m p : Nat} {rs : List (List Seg)} {K : List Seg → Prop} (h : ∀ r ∈ rs, rowOk n r) {i : Nat} {r : List Seg} (hi : rs[i]? = some r) (hp : p = i * n) (hm : m = n) (hK : K r) : segRd rs.flatten p m K := by
  subst hp hm
  exact segRd_whole h hi hK
noncomputable def FSm : Fns := F0.every 888888
theorem FSm_ok : FnsOk Tryz.prog FSm D.G1 := D.F0_okg.every _
theorem same_walk {H : List Blk} (hH : HOk H) {v u : C} {l : List (List Int)} (hv : SlAt 48 16 H v (blkRows l)) (hu : SlAt 48 16 H u (blkRows l)) (hn : l.length ≤ 1000) :
    walk6 FSm 1 Tryz.f14 [.c v, .c u] H fun y H' => y = vi 1 ∧ UpT [] H H' := by
  have uH : UpT [] H H := UpT.refl hH.bnd
  rcases hv with ⟨h0, rfl⟩ | ⟨h0, q, rest, rfl, hcap, hrows, hq⟩
  · rcases hu with ⟨_, rfl⟩ | ⟨h1, _⟩
    · repeat' ((conv => whnf); first | (refine lenH_is ?_) | (refine pushH_at ?_) | (refine setH_as (set_top _ _ _) ?_) | (refine setH_as (set_low _ _ _ _) ?_) | (refine setH_as (set_top' _ _ _ _ _) ?_) | (refine And.intro ?_ trivial) | (refine And.intro rfl ?_) | (refine And.intro (And.intro (by decide) (by decide)) ?_) | (refine And.intro (And.intro (by decide) (And.intro (by decide) (by decide))) ?_) | (refine And.intro (Nat.le_of_ble_eq_true rfl) (And.intro (Nat.le_of_ble_eq_true rfl) ?_)) | (refine And.intro (Nat.le_of_ble_eq_true rfl) ?_) | (refine ask_false (by omega) ?_) | (refine ask_true (by omega) ?_) | (refine ask_wrap64 (by omega) (by omega) ?_) | (refine And.intro (And.intro (by omega) (by omega)) ?_) | (refine fun (_ : InK _ _) => ?_) | (refine ⟨by kernel_rfl, ?_⟩) | fail)
      conv => whnf
      refine loop_at (5 :: List.range' 11 15) (fun m (_ : Unit) => m = 0) (fun _ => [(5, vi 0)]) (fun _ => H) 0 () rfl ?_ ?_
      · exact ⟨rfl, ⟨⟨Nat.le_of_ble_eq_true rfl, rfl⟩, trivial⟩, wkH_refl _, rfl, bndH_of hH.bnd, Nat.le_refl _⟩
      · rintro m _ rfl
        repeat' ((conv => whnf); first | (refine lenH_is ?_) | (refine pushH_at ?_) | (refine setH_as (set_top _ _ _) ?_) | (refine setH_as (set_low _ _ _ _) ?_) | (refine setH_as (set_top' _ _ _ _ _) ?_) | (refine And.intro ?_ trivial) | (refine And.intro rfl ?_) | (refine And.intro (And.intro (by decide) (by decide)) ?_) | (refine And.intro (And.intro (by decide) (And.intro (by decide) (by decide))) ?_) | (refine And.intro (Nat.le_of_ble_eq_true rfl) (And.intro (Nat.le_of_ble_eq_true rfl) ?_)) | (refine And.intro (Nat.le_of_ble_eq_true rfl) ?_) | (refine ask_false (by omega) ?_) | (refine ask_true (by omega) ?_) | (refine ask_wrap64 (by omega) (by omega) ?_) | (refine And.intro (And.intro (by omega) (by omega)) ?_) | (refine fun (_ : InK _ _) => ?_) | (refine ⟨by kernel_rfl, ?_⟩) | fail)
        exact uH
    · exact absurd h0 h1
  · rcases hu with ⟨h1, _⟩ | ⟨h1, q', rest', rfl, hcap', hrows', hq'⟩
    · exact absurd h1 h0
    have hel := blkRows_len l
    rw [hel]
    repeat' ((conv => whnf); first | (refine lenH_is ?_) | (refine pushH_at ?_) | (refine setH_as (set_top _ _ _) ?_) | (refine setH_as (set_low _ _ _ _) ?_) | (refine setH_as (set_top' _ _ _ _ _) ?_) | (refine And.intro ?_ trivial) | (refine And.intro rfl ?_) | (refine And.intro (And.intro (by decide) (by decide)) ?_) | (refine And.intro (And.intro (by decide) (And.intro (by decide) (by decide))) ?_) | (refine And.intro (Nat.le_of_ble_eq_true rfl) (And.intro (Nat.le_of_ble_eq_true rfl) ?_)) | (refine And.intro (Nat.le_of_ble_eq_true rfl) ?_) | (refine ask_false (by omega) ?_) | (refine ask_true (by omega) ?_) | (refine ask_wrap64 (by omega) (by omega) ?_) | (refine And.intro (And.intro (by omega) (by omega)) ?_) | (refine fun (_ : InK _ _) => ?_) | (refine ⟨by kernel_rfl, ?_⟩) | fail)
    conv => whnf
    have dq := get_blt hq
    have dq' := get_blt hq'
    refine loop_at (5 :: List.range' 11 15) (fun m (k : Nat) => m = l.length - k ∧ k ≤ l.length) (fun k => [(5, vi k)]) (fun _ => H) l.length 0 ⟨rfl, Nat.zero_le _⟩ ?_ ?_
    · refine ⟨rfl, ⟨⟨Nat.le_of_ble_eq_true rfl, rfl⟩, trivial⟩, wkH_refl _, ?_, bndH_of hH.bnd, Nat.le_refl _⟩
      repeat' (first | rfl | exact dq | exact dq' | refine and_t ?_ ?_)
    · rintro m k ⟨rfl, hk⟩
      rcases Nat.lt_or_ge k l.length with g | g
      · obtain ⟨o, hrow⟩ := blkRows_get g
        have hrow1 : (blkRows l ++ rest)[k]? = some [.ints .i64 16 o] := by rw [List.getElem?_append_left (by omega)]; exact hrow
        have hrow2 : (blkRows l ++ rest')[k]? = some [.ints .i64 16 o] := by rw [List.getElem?_append_left (by omega)]; exact hrow
        have em : 0 + (some (0 + mulN (k : Int).toNat (Tryz.prog.types[48]).size)).getD 0 = k * 16 := by
          rw [show (Tryz.prog.types[48]).size = 16 by kernel_rfl, mulN_eq, Int.toNat_natCast]; simp
        repeat' ((conv => whnf); first | (refine lenH_is ?_) | (refine pushH_at ?_) | (refine setH_as (set_top _ _ _) ?_) | (refine setH_as (set_low _ _ _ _) ?_) | (refine setH_as (set_top' _ _ _ _ _) ?_) | (refine And.intro ?_ trivial) | (refine And.intro rfl ?_) | (refine And.intro (And.intro (by decide) (by decide)) ?_) | (refine And.intro (And.intro (by decide) (And.intro (by decide) (by decide))) ?_) | (refine And.intro (Nat.le_of_ble_eq_true rfl) (And.intro (Nat.le_of_ble_eq_true rfl) ?_)) | (refine And.intro (Nat.le_of_ble_eq_true rfl) ?_) | (refine ask_false (by omega) ?_) | (refine ask_true (by omega) ?_) | (refine ask_wrap64 (by omega) (by omega) ?_) | (refine And.intro (And.intro (by omega) (by omega)) ?_) | (refine fun (_ : InK _ _) => ?_) | (refine ⟨by kernel_rfl, ?_⟩) | fail)
        conv => whnf
        refine red_each (by kernel_rfl) ?_
        repeat' ((conv => whnf); first | (refine hGet_at hq ?_) | (refine hGet_at hq' ?_) | (refine segRd_at hrows hrow1 em (by kernel_rfl) ?_) | (refine segRd_at hrows' hrow2 em (by kernel_rfl) ?_) | (refine ask_true (by omega) ?_) | (refine And.intro (And.intro (by omega) (by omega)) ?_) | (refine And.intro (by omega) ?_) | (refine ask_neq rfl ?_) | (refine And.intro ?_ (And.intro ?_ trivial)) | (refine And.intro ?_ trivial) | fail)
        all_goals
          conv => whnf
          refine ask_wrap64 (by omega) (by omega) ?_
          repeat' ((conv => whnf); first | (refine lenH_is ?_) | (refine pushH_at ?_) | (refine setH_as (set_top _ _ _) ?_) | (refine setH_as (set_low _ _ _ _) ?_) | (refine setH_as (set_top' _ _ _ _ _) ?_) | (refine And.intro ?_ trivial) | (refine And.intro rfl ?_) | (refine And.intro (And.intro (by decide) (by decide)) ?_) | (refine And.intro (And.intro (by decide) (And.intro (by decide) (by decide))) ?_) | (refine And.intro (Nat.le_of_ble_eq_true rfl) (And.intro (Nat.le_of_ble_eq_true rfl) ?_)) | (refine And.intro (Nat.le_of_ble_eq_true rfl) ?_) | (refine ask_false (by omega) ?_) | (refine ask_true (by omega) ?_) | (refine ask_wrap64 (by omega) (by omega) ?_) | (refine And.intro (And.intro (by omega) (by omega)) ?_) | (refine fun (_ : InK _ _) => ?_) | (refine ⟨by kernel_rfl, ?_⟩) | fail)
          refine ⟨l.length - (k + 1), k + 1, by omega, ⟨rfl, g⟩, ⟨rfl, ⟨⟨Nat.le_of_ble_eq_true rfl, rfl⟩, trivial⟩, wkH_refl _, ?_, bndH_of hH.bnd, Nat.le_refl _⟩⟩
          repeat' (first | rfl | exact dq | exact dq' | refine and_t ?_ ?_)
      · repeat' ((conv => whnf); first | (refine lenH_is ?_) | (refine pushH_at ?_) | (refine setH_as (set_top _ _ _) ?_) | (refine setH_as (set_low _ _ _ _) ?_) | (refine setH_as (set_top' _ _ _ _ _) ?_) | (refine And.intro ?_ trivial) | (refine And.intro rfl ?_) | (refine And.intro (And.intro (by decide) (by decide)) ?_) | (refine And.intro (And.intro (by decide) (And.intro (by decide) (by decide))) ?_) | (refine And.intro (Nat.le_of_ble_eq_true rfl) (And.intro (Nat.le_of_ble_eq_true rfl) ?_)) | (refine And.intro (Nat.le_of_ble_eq_true rfl) ?_) | (refine ask_false (by omega) ?_) | (refine ask_true (by omega) ?_) | (refine ask_wrap64 (by omega) (by omega) ?_) | (refine And.intro (And.intro (by omega) (by omega)) ?_) | (refine fun (_ : InK _ _) => ?_) | (refine ⟨by kernel_rfl, ?_⟩) | fail)
        exact uH
def hSame : HCt := fun ws H K => match ws with
  | [.c v, .c u] => ∃ l : List (List Int), (SlAt 48 16 H v (blkRows l) ∧ SlAt 48 16 H u (blkRows l)) ∧ l.length ≤ 1000 ∧ ∀ H', UpT [] H H' → K (vi 1) H'
  | _ => False
theorem same_ct : HCtOkG Tryz.prog D.G1 14 hSame := by
  intro ws' H K h hr hb ho σ base w₀ w' hw
  unfold hSame at h
  split at h
  · rename_i v u
    obtain ⟨l, ⟨h1, h2⟩, h3, hK⟩ := h
    exact heap_lift6 FSm_ok Tryz.func14 (n := 1) (ws := [.c v, .c u]) hr hb ho (same_walk ho h1 h2 h3) (fun x H' hP => by
      obtain ⟨rfl, u⟩ := hP
      exact hK H' u) σ base w₀ w' hw
  · exact h.elim
noncomputable def FWl : Fns := (((((((((((F0.plus 5 (ct0 (vb true))).over 6 hDNew).over 7 hAOpen).plus 9 B.ctEnId).over 8 hAdd).over 10 hScan).over 11 hEntries).plus 12 B.ctLayE).over 13 hFold).over 15 hAPlay).over 14 hSame)
theorem FWl_ok (hcut : HCtOkG Tryz.prog D.G1 47 hCut) : FnsOk Tryz.prog FWl D.G1 := (((((((((((D.F0_okg.plus Q.goes_ct Tryz.func5 (by kernel_rfl) (by kernel_rfl)).overG dnew_ct Tryz.func6 (by kernel_rfl) (by kernel_rfl)).overG aopen_ct Tryz.func7 (by kernel_rfl) (by kernel_rfl)).plus B.enOf_ct Tryz.func9 (by kernel_rfl) (by kernel_rfl)).overG (add_ct hcut) Tryz.func8 (by kernel_rfl) (by kernel_rfl)).overG scan_ct Tryz.func10 (by kernel_rfl) (by kernel_rfl)).overG entries_ct Tryz.func11 (by kernel_rfl) (by kernel_rfl)).plus B.enLay_ct Tryz.func12 (by kernel_rfl) (by kernel_rfl)).overG fold_ct Tryz.func13 (by kernel_rfl) (by kernel_rfl)).overG aplay_ct Tryz.func15 (by kernel_rfl) (by kernel_rfl)).overG same_ct Tryz.func14 (by kernel_rfl) (by kernel_rfl))
def EnIn (H : List Blk) (v : C) (es : List E3) : Prop := (es = [] ∧ v = .csn) ∨ ∃ (q len cap : Nat) (all : List E3), es = all.take len ∧ v = .csl q 0 0 len cap ∧ all.length = cap ∧ len ≤ cap ∧ cap ≤ 9223372036854775807 ∧ H[q]? = some (.ro (enRows all).flatten)
abbrev TX : List Nat := [96, 45, 77, 131, 117, 84, 35]
theorem UpT.mTX {A B : List Blk} (h : UpT TS A B) : UpT TX A B := h.mono fun t e => by
  simp at e ⊢
  rcases e with e | e
  · exact .inl e
  · exact .inr (.inl e)
theorem UpT.mTX2 {A B : List Blk} (h : UpT TA A B) : UpT TX A B := h.mono fun t e => by simp at e ⊢; exact .inr (.inr e)
theorem log_walk {H : List Blk} (hH : HOk H) {v : C} {es : List E3} (hv : EnIn H v es) : walk6 FWl 2 Tryz.f3 [.c v] H fun y _ => y = vb true := by
  rcases hv with ⟨h0, rfl⟩ | ⟨q, len, cap, all, he, rfl, ha, hl, hc, hq⟩
  · repeat' ((conv => whnf); first | (refine lenH_is ?_) | (refine pushH_at ?_) | (refine setH_as (set_top _ _ _) ?_) | (refine setH_as (set_low _ _ _ _) ?_) | (refine setH_as (set_top' _ _ _ _ _) ?_) | (refine And.intro ?_ trivial) | (refine And.intro rfl ?_) | (refine And.intro (And.intro (by decide) (by decide)) ?_) | (refine And.intro (And.intro (by decide) (And.intro (by decide) (by decide))) ?_) | (refine And.intro (Nat.le_of_ble_eq_true rfl) (And.intro (Nat.le_of_ble_eq_true rfl) ?_)) | (refine And.intro (Nat.le_of_ble_eq_true rfl) ?_) | (refine ask_false (by omega) ?_) | (refine ask_true (by omega) ?_) | (refine ask_wrap64 (by omega) (by omega) ?_) | (refine And.intro (And.intro (by omega) (by omega)) ?_) | (refine fun (_ : InK _ _) => ?_) | (refine ⟨by kernel_rfl, ?_⟩) | fail)
    conv => whnf
    refine fun D H1 u1 dk => ?_
    repeat' ((conv => whnf); first | (refine lenH_is ?_) | (refine pushH_at ?_) | (refine setH_as (set_top _ _ _) ?_) | (refine setH_as (set_low _ _ _ _) ?_) | (refine setH_as (set_top' _ _ _ _ _) ?_) | (refine And.intro ?_ trivial) | (refine And.intro rfl ?_) | (refine And.intro (And.intro (by decide) (by decide)) ?_) | (refine And.intro (And.intro (by decide) (And.intro (by decide) (by decide))) ?_) | (refine And.intro (Nat.le_of_ble_eq_true rfl) (And.intro (Nat.le_of_ble_eq_true rfl) ?_)) | (refine And.intro (Nat.le_of_ble_eq_true rfl) ?_) | (refine ask_false (by omega) ?_) | (refine ask_true (by omega) ?_) | (refine ask_wrap64 (by omega) (by omega) ?_) | (refine And.intro (And.intro (by omega) (by omega)) ?_) | (refine fun (_ : InK _ _) => ?_) | (refine ⟨by kernel_rfl, ?_⟩) | fail)
    refine ⟨dk, fun H2 A u2 ar2 => ?_⟩
    repeat' ((conv => whnf); first | (refine lenH_is ?_) | (refine pushH_at ?_) | (refine setH_as (set_top _ _ _) ?_) | (refine setH_as (set_low _ _ _ _) ?_) | (refine setH_as (set_top' _ _ _ _ _) ?_) | (refine And.intro ?_ trivial) | (refine And.intro rfl ?_) | (refine And.intro (And.intro (by decide) (by decide)) ?_) | (refine And.intro (And.intro (by decide) (And.intro (by decide) (by decide))) ?_) | (refine And.intro (Nat.le_of_ble_eq_true rfl) (And.intro (Nat.le_of_ble_eq_true rfl) ?_)) | (refine And.intro (Nat.le_of_ble_eq_true rfl) ?_) | (refine ask_false (by omega) ?_) | (refine ask_true (by omega) ?_) | (refine ask_wrap64 (by omega) (by omega) ?_) | (refine And.intro (And.intro (by omega) (by omega)) ?_) | (refine fun (_ : InK _ _) => ?_) | (refine ⟨by kernel_rfl, ?_⟩) | fail)
    conv => whnf
    have uX : UpT TX H H2 := u1.any.trans (UpT.mTX u2)
    refine loop_upJ (7 :: List.range' 41 20) (fun m (_ : Unit) => m = 0) (fun _ => [(7, vi 0)]) (fun _ => H2) 0 () rfl ?_ ?_ ?_
    · rintro m _ rfl
      obtain ⟨_, _, _, _, _, gA, _, lg, _⟩ := ar2.ex
      have dA := get_blt gA
      obtain ⟨_, _, _, gd, _⟩ := lg.2.ex
      have dD := get_blt gd
      repeat' (first | rfl | exact dA | exact dD | refine and_t ?_ ?_)
    · exact ⟨rfl, ⟨⟨Nat.le_of_ble_eq_true rfl, rfl⟩, trivial⟩, wkH_refl _, bndH_of u2.bnd, uX.len⟩
    · rintro m _ rfl
      repeat' ((conv => whnf); first | (refine lenH_is ?_) | (refine pushH_at ?_) | (refine setH_as (set_top _ _ _) ?_) | (refine setH_as (set_low _ _ _ _) ?_) | (refine setH_as (set_top' _ _ _ _ _) ?_) | (refine And.intro ?_ trivial) | (refine And.intro rfl ?_) | (refine And.intro (And.intro (by decide) (by decide)) ?_) | (refine And.intro (And.intro (by decide) (And.intro (by decide) (by decide))) ?_) | (refine And.intro (Nat.le_of_ble_eq_true rfl) (And.intro (Nat.le_of_ble_eq_true rfl) ?_)) | (refine And.intro (Nat.le_of_ble_eq_true rfl) ?_) | (refine ask_false (by omega) ?_) | (refine ask_true (by omega) ?_) | (refine ask_wrap64 (by omega) (by omega) ?_) | (refine And.intro (And.intro (by omega) (by omega)) ?_) | (refine fun (_ : InK _ _) => ?_) | (refine ⟨by kernel_rfl, ?_⟩) | fail)
      obtain ⟨l, ar, hlen⟩ : ∃ l, ArAt H2 A D l ∧ l.length ≤ 25 := ⟨[], ar2, by decide⟩
      obtain ⟨v, n, fr, L, ws, g, sl, lg, lo⟩ := ar.ex
      refine ⟨ws, l.map layT, lg.2, lo, fun H4 v4 nx ms rs u4 s4 t4 _ => ?_⟩
      repeat' ((conv => whnf); first | (refine lenH_is ?_) | (refine pushH_at ?_) | (refine setH_as (set_top _ _ _) ?_) | (refine setH_as (set_low _ _ _ _) ?_) | (refine setH_as (set_top' _ _ _ _ _) ?_) | (refine And.intro ?_ trivial) | (refine And.intro rfl ?_) | (refine And.intro (And.intro (by decide) (by decide)) ?_) | (refine And.intro (And.intro (by decide) (And.intro (by decide) (by decide))) ?_) | (refine And.intro (Nat.le_of_ble_eq_true rfl) (And.intro (Nat.le_of_ble_eq_true rfl) ?_)) | (refine And.intro (Nat.le_of_ble_eq_true rfl) ?_) | (refine ask_false (by omega) ?_) | (refine ask_true (by omega) ?_) | (refine ask_wrap64 (by omega) (by omega) ?_) | (refine And.intro (And.intro (by omega) (by omega)) ?_) | (refine fun (_ : InK _ _) => ?_) | (refine ⟨by kernel_rfl, ?_⟩) | fail)
      refine ⟨D, l, ar.up u4 rfl, by omega, fun H5 v5 u5 s5 => ?_⟩
      have ar5 := (ar.up u4 rfl).up u5 rfl
      have s45 := s4.up u5 rfl
      have hrl : rs.length = l.length := by rw [t4.1]; simp
      have hs5 := s5
      rcases s5 with ⟨e0, rfl⟩ | ⟨e0, q5, rest5, rfl, hcap5, hrows5, hq5⟩
      · have hl0 : l = [] := by simpa [enRows] using e0
        obtain rfl : v4 = .csn := by
          rcases s45 with h | h
          · exact h.2
          · exact absurd (List.eq_nil_of_length_eq_zero (by rw [hrl, hl0]; rfl)) h.1
        repeat' ((conv => whnf); first | (refine lenH_is ?_) | (refine pushH_at ?_) | (refine setH_as (set_top _ _ _) ?_) | (refine setH_as (set_low _ _ _ _) ?_) | (refine setH_as (set_top' _ _ _ _ _) ?_) | (refine And.intro ?_ trivial) | (refine And.intro rfl ?_) | (refine And.intro (And.intro (by decide) (by decide)) ?_) | (refine And.intro (And.intro (by decide) (And.intro (by decide) (by decide))) ?_) | (refine And.intro (Nat.le_of_ble_eq_true rfl) (And.intro (Nat.le_of_ble_eq_true rfl) ?_)) | (refine And.intro (Nat.le_of_ble_eq_true rfl) ?_) | (refine ask_false (by omega) ?_) | (refine ask_true (by omega) ?_) | (refine ask_wrap64 (by omega) (by omega) ?_) | (refine And.intro (And.intro (by omega) (by omega)) ?_) | (refine fun (_ : InK _ _) => ?_) | (refine ⟨by kernel_rfl, ?_⟩) | fail)
        conv => whnf
        refine loop_upJ (13 :: 14 :: 15 :: List.range' 79 25) (fun m (_ : Unit) => m = 0) (fun _ => [(13, vi 0)]) (fun _ => H5) 0 () rfl ?_ ?_ ?_
        · rintro m _ rfl
          obtain ⟨_, _, _, _, _, gA, _, lg9, _⟩ := ar5.ex
          have dA := get_blt gA
          obtain ⟨_, _, _, gd, _⟩ := lg9.2.ex
          have dD := get_blt gd
          have dq := dA
          repeat' (first | rfl | exact dA | exact dD | exact dq | refine and_t ?_ ?_)
        · exact ⟨rfl, ⟨⟨Nat.le_of_ble_eq_true rfl, rfl⟩, trivial⟩, wkH_refl _, bndH_of u5.bnd, Nat.le_trans uX.len (Nat.le_trans (Nat.le_refl _) (Nat.le_trans u4.len u5.len))⟩
        · rintro m _ rfl
          repeat' ((conv => whnf); first | (refine lenH_is ?_) | (refine pushH_at ?_) | (refine setH_as (set_top _ _ _) ?_) | (refine setH_as (set_low _ _ _ _) ?_) | (refine setH_as (set_top' _ _ _ _ _) ?_) | (refine And.intro ?_ trivial) | (refine And.intro rfl ?_) | (refine And.intro (And.intro (by decide) (by decide)) ?_) | (refine And.intro (And.intro (by decide) (And.intro (by decide) (by decide))) ?_) | (refine And.intro (Nat.le_of_ble_eq_true rfl) (And.intro (Nat.le_of_ble_eq_true rfl) ?_)) | (refine And.intro (Nat.le_of_ble_eq_true rfl) ?_) | (refine ask_false (by omega) ?_) | (refine ask_true (by omega) ?_) | (refine ask_wrap64 (by omega) (by omega) ?_) | (refine And.intro (And.intro (by omega) (by omega)) ?_) | (refine fun (_ : InK _ _) => ?_) | (refine ⟨by kernel_rfl, ?_⟩) | fail)
          refine ⟨l, hs5, ⟨st0_StR, ar5.right, by omega⟩, fun H6 v6 x hx6 u6 s6 => ?_⟩
          repeat' ((conv => whnf); first | (refine lenH_is ?_) | (refine pushH_at ?_) | (refine setH_as (set_top _ _ _) ?_) | (refine setH_as (set_low _ _ _ _) ?_) | (refine setH_as (set_top' _ _ _ _ _) ?_) | (refine hGet_at (up_top _ _) ?_) | (refine And.intro ?_ trivial) | (refine And.intro rfl ?_) | (refine And.intro (And.intro (by decide) (by decide)) ?_) | (refine And.intro (And.intro (by decide) (And.intro (by decide) (by decide))) ?_) | (refine And.intro (Nat.le_of_ble_eq_true rfl) (And.intro (Nat.le_of_ble_eq_true rfl) ?_)) | (refine And.intro (Nat.le_of_ble_eq_true rfl) ?_) | (refine ask_false (by omega) ?_) | (refine ask_true (by omega) ?_) | (refine ask_wrap64 (by omega) (by omega) ?_) | (refine And.intro (And.intro (by omega) (by omega)) ?_) | (refine fun (_ : InK _ _) => ?_) | (refine ⟨by kernel_rfl, ?_⟩) | fail)
          have u7 : UpT [] H6 (H6 ++ [stBl x]) := (UpT.refl u6.bnd).app rfl
          refine ⟨D, l, (ar5.up u6 rfl).up u7 rfl, by omega, fun H8 v8 u8 s8 => ?_⟩
          repeat' ((conv => whnf); first | (refine lenH_is ?_) | (refine pushH_at ?_) | (refine setH_as (set_top _ _ _) ?_) | (refine setH_as (set_low _ _ _ _) ?_) | (refine setH_as (set_top' _ _ _ _ _) ?_) | (refine And.intro ?_ trivial) | (refine And.intro rfl ?_) | (refine And.intro (And.intro (by decide) (by decide)) ?_) | (refine And.intro (And.intro (by decide) (And.intro (by decide) (by decide))) ?_) | (refine And.intro (Nat.le_of_ble_eq_true rfl) (And.intro (Nat.le_of_ble_eq_true rfl) ?_)) | (refine And.intro (Nat.le_of_ble_eq_true rfl) ?_) | (refine ask_false (by omega) ?_) | (refine ask_true (by omega) ?_) | (refine ask_wrap64 (by omega) (by omega) ?_) | (refine And.intro (And.intro (by omega) (by omega)) ?_) | (refine fun (_ : InK _ _) => ?_) | (refine ⟨by kernel_rfl, ?_⟩) | fail)
          refine ⟨(foldP B.st0 l).2, ⟨(s6.up u7 rfl).up u8 rfl, s8⟩, by have := foldP_len B.st0 l; omega, fun H9 u9 => ?_⟩
          repeat' ((conv => whnf); first | (refine lenH_is ?_) | (refine pushH_at ?_) | (refine setH_as (set_top _ _ _) ?_) | (refine setH_as (set_low _ _ _ _) ?_) | (refine setH_as (set_top' _ _ _ _ _) ?_) | (refine And.intro ?_ trivial) | (refine And.intro rfl ?_) | (refine And.intro (And.intro (by decide) (by decide)) ?_) | (refine And.intro (And.intro (by decide) (And.intro (by decide) (by decide))) ?_) | (refine And.intro (Nat.le_of_ble_eq_true rfl) (And.intro (Nat.le_of_ble_eq_true rfl) ?_)) | (refine And.intro (Nat.le_of_ble_eq_true rfl) ?_) | (refine ask_false (by omega) ?_) | (refine ask_true (by omega) ?_) | (refine ask_wrap64 (by omega) (by omega) ?_) | (refine And.intro (And.intro (by omega) (by omega)) ?_) | (refine fun (_ : InK _ _) => ?_) | (refine ⟨by kernel_rfl, ?_⟩) | fail)
          rfl
      · have hne : l ≠ [] := fun h => e0 (by rw [h]; rfl)
        have hs45 := s45
        rcases s45 with h | ⟨e4, q4, rest4, rfl, hcap4, hrows4, hq4⟩
        · exact absurd (List.eq_nil_of_length_eq_zero (by rw [← hrl, h.1]; rfl)) hne
        have hel := enRows_len l
        rw [hel] at hs5 ⊢
        rw [hrl] at hs45 ⊢
        have hone5 : oneAt (enRows l ++ rest5).flatten 0 = true := by
          cases l with
          | nil => exact absurd rfl hne
          | cons e es => rfl
        have hone4 : oneAt (rs ++ rest4).flatten 0 = true := by
          obtain ⟨e, he⟩ : ∃ e, l[0]? = some e := ⟨_, List.getElem?_eq_getElem (List.length_pos_iff.2 hne)⟩
          obtain ⟨a, ha⟩ := t4.2 0 (layT e) (by simp [he])
          exact oneAt_rows (by rw [List.getElem?_append_left (List.getElem?_eq_some_iff.1 ha).1]; exact ha)
        repeat' ((conv => whnf); first | (refine lenH_is ?_) | (refine pushH_at ?_) | (refine setH_as (set_top _ _ _) ?_) | (refine setH_as (set_low _ _ _ _) ?_) | (refine setH_as (set_top' _ _ _ _ _) ?_) | (refine And.intro ?_ trivial) | (refine And.intro rfl ?_) | (refine And.intro (And.intro (by decide) (by decide)) ?_) | (refine And.intro (And.intro (by decide) (And.intro (by decide) (by decide))) ?_) | (refine And.intro (Nat.le_of_ble_eq_true rfl) (And.intro (Nat.le_of_ble_eq_true rfl) ?_)) | (refine And.intro (Nat.le_of_ble_eq_true rfl) ?_) | (refine ask_false (by omega) ?_) | (refine ask_true (by omega) ?_) | (refine ask_wrap64 (by omega) (by omega) ?_) | (refine And.intro (And.intro (by omega) (by omega)) ?_) | (refine fun (_ : InK _ _) => ?_) | (refine ⟨by kernel_rfl, ?_⟩) | fail)
        conv => whnf
        refine loop_upJ (13 :: 14 :: 15 :: List.range' 79 25) (fun m (k : Nat) => m = l.length - k ∧ k ≤ l.length) (fun k => [(13, vi k)]) (fun _ => H5) l.length 0 ⟨rfl, Nat.zero_le _⟩ ?_ ?_ ?_
        · rintro m k ⟨rfl, hk⟩
          obtain ⟨_, _, _, _, _, gA, _, lg9, _⟩ := ar5.ex
          have dA := get_blt gA
          obtain ⟨_, _, _, gd, _⟩ := lg9.2.ex
          have dD := get_blt gd
          have d5 := get_blt hq5
          have d4 := get_blt hq4
          have dq := dA
          repeat' (first | rfl | exact dA | exact dD | exact d5 | exact d4 | exact dq | refine and_t ?_ ?_)
        · exact ⟨rfl, ⟨⟨Nat.le_of_ble_eq_true rfl, rfl⟩, trivial⟩, wkH_refl _, bndH_of u5.bnd, Nat.le_trans uX.len (Nat.le_trans (Nat.le_refl _) (Nat.le_trans u4.len u5.len))⟩
        · rintro m k ⟨rfl, hk⟩
          rcases Nat.lt_or_ge k l.length with hlt | hge
          · obtain ⟨e, hek⟩ : ∃ e, l[k]? = some e := ⟨_, List.getElem?_eq_getElem hlt⟩
            have he' := ar5.right e (List.mem_of_getElem? hek)
            have hrow5 : (enRows l ++ rest5)[k]? = some (B.enW e.1 e.2.1 e.2.2).segs := by rw [List.getElem?_append_left (by omega)]; exact enRows_get hek
            obtain ⟨a, ha⟩ := t4.2 k (layT e) (by simp [hek])
            have hrow4 : (rs ++ rest4)[k]? = some [.one (.ci .i64 a), .one (.cs (layT e))] := by rw [List.getElem?_append_left (by omega)]; exact ha
            have em5 : mulN (k : Int).toNat (Tryz.prog.types[35]).size = k * 3 := by
              rw [show (Tryz.prog.types[35]).size = 3 by kernel_rfl, mulN_eq, Int.toNat_natCast]
            have em4 : mulN (k : Int).toNat (Tryz.prog.types[45]).size = k * 2 := by
              rw [show (Tryz.prog.types[45]).size = 2 by kernel_rfl, mulN_eq, Int.toNat_natCast]
            repeat' ((conv => whnf); first | (refine lenH_is ?_) | (refine pushH_at ?_) | (refine setH_as (set_top _ _ _) ?_) | (refine setH_as (set_low _ _ _ _) ?_) | (refine setH_as (set_top' _ _ _ _ _) ?_) | (refine And.intro ?_ trivial) | (refine And.intro rfl ?_) | (refine And.intro (And.intro (by decide) (by decide)) ?_) | (refine And.intro (And.intro (by decide) (And.intro (by decide) (by decide))) ?_) | (refine And.intro (Nat.le_of_ble_eq_true rfl) (And.intro (Nat.le_of_ble_eq_true rfl) ?_)) | (refine And.intro (Nat.le_of_ble_eq_true rfl) ?_) | (refine ask_false (by omega) ?_) | (refine ask_true (by omega) ?_) | (refine ask_wrap64 (by omega) (by omega) ?_) | (refine And.intro (And.intro (by omega) (by omega)) ?_) | (refine fun (_ : InK _ _) => ?_) | (refine ⟨by kernel_rfl, ?_⟩) | fail)
            refine hGet_at hq5 ?_
            refine load_whole (by kernel_rfl) (inf := Tryz.prog.types[35]) (by kernel_rfl) (by kernel_rfl) hrows5 hone5 hrow5 (by rw [em5]; omega) ?_
            repeat' ((conv => whnf); first | (refine lenH_is ?_) | (refine pushH_at ?_) | (refine setH_as (set_top _ _ _) ?_) | (refine setH_as (set_low _ _ _ _) ?_) | (refine setH_as (set_top' _ _ _ _ _) ?_) | (refine And.intro ?_ trivial) | (refine And.intro rfl ?_) | (refine And.intro (And.intro (by decide) (by decide)) ?_) | (refine And.intro (And.intro (by decide) (And.intro (by decide) (by decide))) ?_) | (refine And.intro (Nat.le_of_ble_eq_true rfl) (And.intro (Nat.le_of_ble_eq_true rfl) ?_)) | (refine And.intro (Nat.le_of_ble_eq_true rfl) ?_) | (refine ask_false (by omega) ?_) | (refine ask_true (by omega) ?_) | (refine ask_wrap64 (by omega) (by omega) ?_) | (refine And.intro (And.intro (by omega) (by omega)) ?_) | (refine fun (_ : InK _ _) => ?_) | (refine ⟨by kernel_rfl, ?_⟩) | fail)
            refine ⟨fun _ s hs => ?_, fun h => absurd he' h⟩
            repeat' ((conv => whnf); first | (refine lenH_is ?_) | (refine pushH_at ?_) | (refine setH_as (set_top _ _ _) ?_) | (refine setH_as (set_low _ _ _ _) ?_) | (refine setH_as (set_top' _ _ _ _ _) ?_) | (refine And.intro ?_ trivial) | (refine And.intro rfl ?_) | (refine And.intro (And.intro (by decide) (by decide)) ?_) | (refine And.intro (And.intro (by decide) (And.intro (by decide) (by decide))) ?_) | (refine And.intro (Nat.le_of_ble_eq_true rfl) (And.intro (Nat.le_of_ble_eq_true rfl) ?_)) | (refine And.intro (Nat.le_of_ble_eq_true rfl) ?_) | (refine ask_false (by omega) ?_) | (refine ask_true (by omega) ?_) | (refine ask_wrap64 (by omega) (by omega) ?_) | (refine And.intro (And.intro (by omega) (by omega)) ?_) | (refine fun (_ : InK _ _) => ?_) | (refine ⟨by kernel_rfl, ?_⟩) | fail)
            refine hGet_at hq4 ?_
            refine load_row (by kernel_rfl) hrows4 hone4 hrow4 (f := 1) (by rw [em4]; simp) fun b => ?_
            subst hs
            repeat' ((conv => whnf); first | (refine lenH_is ?_) | (refine pushH_at ?_) | (refine setH_as (set_top _ _ _) ?_) | (refine setH_as (set_low _ _ _ _) ?_) | (refine setH_as (set_top' _ _ _ _ _) ?_) | (refine And.intro ?_ trivial) | (refine And.intro rfl ?_) | (refine And.intro (And.intro (by decide) (by decide)) ?_) | (refine And.intro (And.intro (by decide) (And.intro (by decide) (by decide))) ?_) | (refine And.intro (Nat.le_of_ble_eq_true rfl) (And.intro (Nat.le_of_ble_eq_true rfl) ?_)) | (refine And.intro (Nat.le_of_ble_eq_true rfl) ?_) | (refine ask_false (by omega) ?_) | (refine ask_true (by omega) ?_) | (refine ask_wrap64 (by omega) (by omega) ?_) | (refine And.intro (And.intro (by omega) (by omega)) ?_) | (refine fun (_ : InK _ _) => ?_) | (refine ⟨by kernel_rfl, ?_⟩) | fail)
            refine ask_false (fun h => h rfl) ?_
            repeat' ((conv => whnf); first | (refine lenH_is ?_) | (refine pushH_at ?_) | (refine setH_as (set_top _ _ _) ?_) | (refine setH_as (set_low _ _ _ _) ?_) | (refine setH_as (set_top' _ _ _ _ _) ?_) | (refine And.intro ?_ trivial) | (refine And.intro rfl ?_) | (refine And.intro (And.intro (by decide) (by decide)) ?_) | (refine And.intro (And.intro (by decide) (And.intro (by decide) (by decide))) ?_) | (refine And.intro (Nat.le_of_ble_eq_true rfl) (And.intro (Nat.le_of_ble_eq_true rfl) ?_)) | (refine And.intro (Nat.le_of_ble_eq_true rfl) ?_) | (refine ask_false (by omega) ?_) | (refine ask_true (by omega) ?_) | (refine ask_wrap64 (by omega) (by omega) ?_) | (refine And.intro (And.intro (by omega) (by omega)) ?_) | (refine fun (_ : InK _ _) => ?_) | (refine ⟨by kernel_rfl, ?_⟩) | fail)
            exact ⟨l.length - (k + 1), k + 1, by omega, ⟨rfl, hlt⟩, ⟨rfl, ⟨⟨Nat.le_of_ble_eq_true rfl, rfl⟩, trivial⟩, wkH_refl _, bndH_of u5.bnd, Nat.le_trans uX.len (Nat.le_trans (Nat.le_refl _) (Nat.le_trans u4.len u5.len))⟩⟩
          · rw [show k = l.length by omega]
            repeat' ((conv => whnf); first | (refine lenH_is ?_) | (refine pushH_at ?_) | (refine setH_as (set_top _ _ _) ?_) | (refine setH_as (set_low _ _ _ _) ?_) | (refine setH_as (set_top' _ _ _ _ _) ?_) | (refine And.intro ?_ trivial) | (refine And.intro rfl ?_) | (refine And.intro (And.intro (by decide) (by decide)) ?_) | (refine And.intro (And.intro (by decide) (And.intro (by decide) (by decide))) ?_) | (refine And.intro (Nat.le_of_ble_eq_true rfl) (And.intro (Nat.le_of_ble_eq_true rfl) ?_)) | (refine And.intro (Nat.le_of_ble_eq_true rfl) ?_) | (refine ask_false (by omega) ?_) | (refine ask_true (by omega) ?_) | (refine ask_wrap64 (by omega) (by omega) ?_) | (refine And.intro (And.intro (by omega) (by omega)) ?_) | (refine fun (_ : InK _ _) => ?_) | (refine ⟨by kernel_rfl, ?_⟩) | fail)
            refine ⟨l, hs5, ⟨st0_StR, ar5.right, by omega⟩, fun H6 v6 x hx6 u6 s6 => ?_⟩
            repeat' ((conv => whnf); first | (refine lenH_is ?_) | (refine pushH_at ?_) | (refine setH_as (set_top _ _ _) ?_) | (refine setH_as (set_low _ _ _ _) ?_) | (refine setH_as (set_top' _ _ _ _ _) ?_) | (refine hGet_at (up_top _ _) ?_) | (refine And.intro ?_ trivial) | (refine And.intro rfl ?_) | (refine And.intro (And.intro (by decide) (by decide)) ?_) | (refine And.intro (And.intro (by decide) (And.intro (by decide) (by decide))) ?_) | (refine And.intro (Nat.le_of_ble_eq_true rfl) (And.intro (Nat.le_of_ble_eq_true rfl) ?_)) | (refine And.intro (Nat.le_of_ble_eq_true rfl) ?_) | (refine ask_false (by omega) ?_) | (refine ask_true (by omega) ?_) | (refine ask_wrap64 (by omega) (by omega) ?_) | (refine And.intro (And.intro (by omega) (by omega)) ?_) | (refine fun (_ : InK _ _) => ?_) | (refine ⟨by kernel_rfl, ?_⟩) | fail)
            have u7 : UpT [] H6 (H6 ++ [stBl x]) := (UpT.refl u6.bnd).app rfl
            refine ⟨D, l, (ar5.up u6 rfl).up u7 rfl, by omega, fun H8 v8 u8 s8 => ?_⟩
            repeat' ((conv => whnf); first | (refine lenH_is ?_) | (refine pushH_at ?_) | (refine setH_as (set_top _ _ _) ?_) | (refine setH_as (set_low _ _ _ _) ?_) | (refine setH_as (set_top' _ _ _ _ _) ?_) | (refine And.intro ?_ trivial) | (refine And.intro rfl ?_) | (refine And.intro (And.intro (by decide) (by decide)) ?_) | (refine And.intro (And.intro (by decide) (And.intro (by decide) (by decide))) ?_) | (refine And.intro (Nat.le_of_ble_eq_true rfl) (And.intro (Nat.le_of_ble_eq_true rfl) ?_)) | (refine And.intro (Nat.le_of_ble_eq_true rfl) ?_) | (refine ask_false (by omega) ?_) | (refine ask_true (by omega) ?_) | (refine ask_wrap64 (by omega) (by omega) ?_) | (refine And.intro (And.intro (by omega) (by omega)) ?_) | (refine fun (_ : InK _ _) => ?_) | (refine ⟨by kernel_rfl, ?_⟩) | fail)
            refine ⟨(foldP B.st0 l).2, ⟨(s6.up u7 rfl).up u8 rfl, s8⟩, by have := foldP_len B.st0 l; omega, fun H9 u9 => ?_⟩
            repeat' ((conv => whnf); first | (refine lenH_is ?_) | (refine pushH_at ?_) | (refine setH_as (set_top _ _ _) ?_) | (refine setH_as (set_low _ _ _ _) ?_) | (refine setH_as (set_top' _ _ _ _ _) ?_) | (refine And.intro ?_ trivial) | (refine And.intro rfl ?_) | (refine And.intro (And.intro (by decide) (by decide)) ?_) | (refine And.intro (And.intro (by decide) (And.intro (by decide) (by decide))) ?_) | (refine And.intro (Nat.le_of_ble_eq_true rfl) (And.intro (Nat.le_of_ble_eq_true rfl) ?_)) | (refine And.intro (Nat.le_of_ble_eq_true rfl) ?_) | (refine ask_false (by omega) ?_) | (refine ask_true (by omega) ?_) | (refine ask_wrap64 (by omega) (by omega) ?_) | (refine And.intro (And.intro (by omega) (by omega)) ?_) | (refine fun (_ : InK _ _) => ?_) | (refine ⟨by kernel_rfl, ?_⟩) | fail)
            rfl
  · repeat' ((conv => whnf); first | (refine lenH_is ?_) | (refine pushH_at ?_) | (refine setH_as (set_top _ _ _) ?_) | (refine setH_as (set_low _ _ _ _) ?_) | (refine setH_as (set_top' _ _ _ _ _) ?_) | (refine And.intro ?_ trivial) | (refine And.intro rfl ?_) | (refine And.intro (And.intro (by decide) (by decide)) ?_) | (refine And.intro (And.intro (by decide) (And.intro (by decide) (by decide))) ?_) | (refine And.intro (Nat.le_of_ble_eq_true rfl) (And.intro (Nat.le_of_ble_eq_true rfl) ?_)) | (refine And.intro (Nat.le_of_ble_eq_true rfl) ?_) | (refine ask_false (by omega) ?_) | (refine ask_true (by omega) ?_) | (refine ask_wrap64 (by omega) (by omega) ?_) | (refine And.intro (And.intro (by omega) (by omega)) ?_) | (refine fun (_ : InK _ _) => ?_) | (refine ⟨by kernel_rfl, ?_⟩) | fail)
    conv => whnf
    refine ask_split (fun hbig => ?_) (fun hsm => ?_)
    · repeat' ((conv => whnf); first | (refine lenH_is ?_) | (refine pushH_at ?_) | (refine setH_as (set_top _ _ _) ?_) | (refine setH_as (set_low _ _ _ _) ?_) | (refine setH_as (set_top' _ _ _ _ _) ?_) | (refine And.intro ?_ trivial) | (refine And.intro rfl ?_) | (refine And.intro (And.intro (by decide) (by decide)) ?_) | (refine And.intro (And.intro (by decide) (And.intro (by decide) (by decide))) ?_) | (refine And.intro (Nat.le_of_ble_eq_true rfl) (And.intro (Nat.le_of_ble_eq_true rfl) ?_)) | (refine And.intro (Nat.le_of_ble_eq_true rfl) ?_) | (refine ask_false (by omega) ?_) | (refine ask_true (by omega) ?_) | (refine ask_wrap64 (by omega) (by omega) ?_) | (refine And.intro (And.intro (by omega) (by omega)) ?_) | (refine fun (_ : InK _ _) => ?_) | (refine ⟨by kernel_rfl, ?_⟩) | fail)
      rfl
    repeat' ((conv => whnf); first | (refine lenH_is ?_) | (refine pushH_at ?_) | (refine setH_as (set_top _ _ _) ?_) | (refine setH_as (set_low _ _ _ _) ?_) | (refine setH_as (set_top' _ _ _ _ _) ?_) | (refine And.intro ?_ trivial) | (refine And.intro rfl ?_) | (refine And.intro (And.intro (by decide) (by decide)) ?_) | (refine And.intro (And.intro (by decide) (And.intro (by decide) (by decide))) ?_) | (refine And.intro (Nat.le_of_ble_eq_true rfl) (And.intro (Nat.le_of_ble_eq_true rfl) ?_)) | (refine And.intro (Nat.le_of_ble_eq_true rfl) ?_) | (refine ask_false (by omega) ?_) | (refine ask_true (by omega) ?_) | (refine ask_wrap64 (by omega) (by omega) ?_) | (refine And.intro (And.intro (by omega) (by omega)) ?_) | (refine fun (_ : InK _ _) => ?_) | (refine ⟨by kernel_rfl, ?_⟩) | fail)
    conv => whnf
    refine fun D H1 u1 dk => ?_
    repeat' ((conv => whnf); first | (refine lenH_is ?_) | (refine pushH_at ?_) | (refine setH_as (set_top _ _ _) ?_) | (refine setH_as (set_low _ _ _ _) ?_) | (refine setH_as (set_top' _ _ _ _ _) ?_) | (refine And.intro ?_ trivial) | (refine And.intro rfl ?_) | (refine And.intro (And.intro (by decide) (by decide)) ?_) | (refine And.intro (And.intro (by decide) (And.intro (by decide) (by decide))) ?_) | (refine And.intro (Nat.le_of_ble_eq_true rfl) (And.intro (Nat.le_of_ble_eq_true rfl) ?_)) | (refine And.intro (Nat.le_of_ble_eq_true rfl) ?_) | (refine ask_false (by omega) ?_) | (refine ask_true (by omega) ?_) | (refine ask_wrap64 (by omega) (by omega) ?_) | (refine And.intro (And.intro (by omega) (by omega)) ?_) | (refine fun (_ : InK _ _) => ?_) | (refine ⟨by kernel_rfl, ?_⟩) | fail)
    refine ⟨dk, fun H2 A u2 ar2 => ?_⟩
    repeat' ((conv => whnf); first | (refine lenH_is ?_) | (refine pushH_at ?_) | (refine setH_as (set_top _ _ _) ?_) | (refine setH_as (set_low _ _ _ _) ?_) | (refine setH_as (set_top' _ _ _ _ _) ?_) | (refine And.intro ?_ trivial) | (refine And.intro rfl ?_) | (refine And.intro (And.intro (by decide) (by decide)) ?_) | (refine And.intro (And.intro (by decide) (And.intro (by decide) (by decide))) ?_) | (refine And.intro (Nat.le_of_ble_eq_true rfl) (And.intro (Nat.le_of_ble_eq_true rfl) ?_)) | (refine And.intro (Nat.le_of_ble_eq_true rfl) ?_) | (refine ask_false (by omega) ?_) | (refine ask_true (by omega) ?_) | (refine ask_wrap64 (by omega) (by omega) ?_) | (refine And.intro (And.intro (by omega) (by omega)) ?_) | (refine fun (_ : InK _ _) => ?_) | (refine ⟨by kernel_rfl, ?_⟩) | fail)
    conv => whnf
    have uX : UpT TX H H2 := u1.any.trans (UpT.mTX u2)
    have hcl : all.length = cap := ha
    have hrows : ∀ r ∈ enRows all, rowOk 3 r := fun r hr => by
      obtain ⟨e, _, rfl⟩ := List.mem_map.1 hr
      exact ⟨rfl, rfl⟩
    refine loop_upJ (7 :: List.range' 41 20) (fun m (z : KH) => (m = len - z.k ∧ z.k ≤ len) ∧ UpT TX H z.H ∧ ∃ l, ArAt z.H A D l ∧ l.length ≤ z.k) (fun z => [(7, vi z.k)]) (fun z => z.H) len ⟨0, H2⟩ ⟨⟨rfl, Nat.zero_le _⟩, uX, [], ar2, Nat.le_refl _⟩ ?_ ?_ ?_
    · rintro m z ⟨_, u, l, ar, _⟩
      obtain ⟨_, _, _, _, _, gA, _, lg, _⟩ := ar.ex
      have dA := get_blt gA
      obtain ⟨_, _, _, gd, _⟩ := lg.2.ex
      have dD := get_blt gd
      have dq := get_blt (u.keep _ _ hq rfl)
      repeat' (first | rfl | exact dA | exact dD | exact dq | refine and_t ?_ ?_)
    · exact ⟨rfl, ⟨⟨Nat.le_of_ble_eq_true rfl, rfl⟩, trivial⟩, wkH_refl _, bndH_of u2.bnd, uX.len⟩
    · rintro m z ⟨⟨rfl, hk⟩, uX, l, ar, hlen⟩
      rcases Nat.lt_or_ge z.k len with hlt | hge
      · obtain ⟨e, hek⟩ : ∃ e, all[z.k]? = some e := ⟨_, List.getElem?_eq_getElem (by omega)⟩
        have gq := uX.keep _ _ hq rfl
        have hone : oneAt (enRows all).flatten 0 = true := by
          cases all with
          | nil => simp at hek
          | cons e es => rfl
        have hrow := enRows_get hek
        have em : mulN (z.k : Int).toNat (Tryz.prog.types[33]).size = z.k * 3 := by
          rw [show (Tryz.prog.types[33]).size = 3 by kernel_rfl, mulN_eq, Int.toNat_natCast]
        repeat' ((conv => whnf); first | (refine lenH_is ?_) | (refine pushH_at ?_) | (refine setH_as (set_top _ _ _) ?_) | (refine setH_as (set_low _ _ _ _) ?_) | (refine setH_as (set_top' _ _ _ _ _) ?_) | (refine And.intro ?_ trivial) | (refine And.intro rfl ?_) | (refine And.intro (And.intro (by decide) (by decide)) ?_) | (refine And.intro (And.intro (by decide) (And.intro (by decide) (by decide))) ?_) | (refine And.intro (Nat.le_of_ble_eq_true rfl) (And.intro (Nat.le_of_ble_eq_true rfl) ?_)) | (refine And.intro (Nat.le_of_ble_eq_true rfl) ?_) | (refine ask_false (by omega) ?_) | (refine ask_true (by omega) ?_) | (refine ask_wrap64 (by omega) (by omega) ?_) | (refine And.intro (And.intro (by omega) (by omega)) ?_) | (refine fun (_ : InK _ _) => ?_) | (refine ⟨by kernel_rfl, ?_⟩) | fail)
        refine hGet_at gq ?_
        refine load_row (by kernel_rfl) hrows hone hrow (f := 2) (by rw [em]; simp) fun b => ?_
        repeat' ((conv => whnf); first | (refine lenH_is ?_) | (refine pushH_at ?_) | (refine setH_as (set_top _ _ _) ?_) | (refine setH_as (set_low _ _ _ _) ?_) | (refine setH_as (set_top' _ _ _ _ _) ?_) | (refine And.intro ?_ trivial) | (refine And.intro rfl ?_) | (refine And.intro (And.intro (by decide) (by decide)) ?_) | (refine And.intro (And.intro (by decide) (And.intro (by decide) (by decide))) ?_) | (refine And.intro (Nat.le_of_ble_eq_true rfl) (And.intro (Nat.le_of_ble_eq_true rfl) ?_)) | (refine And.intro (Nat.le_of_ble_eq_true rfl) ?_) | (refine ask_false (by omega) ?_) | (refine ask_true (by omega) ?_) | (refine ask_wrap64 (by omega) (by omega) ?_) | (refine And.intro (And.intro (by omega) (by omega)) ?_) | (refine fun (_ : InK _ _) => ?_) | (refine ⟨by kernel_rfl, ?_⟩) | fail)
        refine ask_split (fun _ => ?_) (fun _ => ?_)
        · repeat' ((conv => whnf); first | (refine lenH_is ?_) | (refine pushH_at ?_) | (refine setH_as (set_top _ _ _) ?_) | (refine setH_as (set_low _ _ _ _) ?_) | (refine setH_as (set_top' _ _ _ _ _) ?_) | (refine And.intro ?_ trivial) | (refine And.intro rfl ?_) | (refine And.intro (And.intro (by decide) (by decide)) ?_) | (refine And.intro (And.intro (by decide) (And.intro (by decide) (by decide))) ?_) | (refine And.intro (Nat.le_of_ble_eq_true rfl) (And.intro (Nat.le_of_ble_eq_true rfl) ?_)) | (refine And.intro (Nat.le_of_ble_eq_true rfl) ?_) | (refine ask_false (by omega) ?_) | (refine ask_true (by omega) ?_) | (refine ask_wrap64 (by omega) (by omega) ?_) | (refine And.intro (And.intro (by omega) (by omega)) ?_) | (refine fun (_ : InK _ _) => ?_) | (refine ⟨by kernel_rfl, ?_⟩) | fail)
          rfl
        repeat' ((conv => whnf); first | (refine lenH_is ?_) | (refine pushH_at ?_) | (refine setH_as (set_top _ _ _) ?_) | (refine setH_as (set_low _ _ _ _) ?_) | (refine setH_as (set_top' _ _ _ _ _) ?_) | (refine And.intro ?_ trivial) | (refine And.intro rfl ?_) | (refine And.intro (And.intro (by decide) (by decide)) ?_) | (refine And.intro (And.intro (by decide) (And.intro (by decide) (by decide))) ?_) | (refine And.intro (Nat.le_of_ble_eq_true rfl) (And.intro (Nat.le_of_ble_eq_true rfl) ?_)) | (refine And.intro (Nat.le_of_ble_eq_true rfl) ?_) | (refine ask_false (by omega) ?_) | (refine ask_true (by omega) ?_) | (refine ask_wrap64 (by omega) (by omega) ?_) | (refine And.intro (And.intro (by omega) (by omega)) ?_) | (refine fun (_ : InK _ _) => ?_) | (refine ⟨by kernel_rfl, ?_⟩) | fail)
        refine hGet_at gq ?_
        refine load_whole (by kernel_rfl) (inf := Tryz.prog.types[33]) (by kernel_rfl) (by kernel_rfl) hrows hone hrow (by rw [em]; simp) ?_
        repeat' ((conv => whnf); first | (refine lenH_is ?_) | (refine pushH_at ?_) | (refine setH_as (set_top _ _ _) ?_) | (refine setH_as (set_low _ _ _ _) ?_) | (refine setH_as (set_top' _ _ _ _ _) ?_) | (refine And.intro ?_ trivial) | (refine And.intro rfl ?_) | (refine And.intro (And.intro (by decide) (by decide)) ?_) | (refine And.intro (And.intro (by decide) (And.intro (by decide) (by decide))) ?_) | (refine And.intro (Nat.le_of_ble_eq_true rfl) (And.intro (Nat.le_of_ble_eq_true rfl) ?_)) | (refine And.intro (Nat.le_of_ble_eq_true rfl) ?_) | (refine ask_false (by omega) ?_) | (refine ask_true (by omega) ?_) | (refine ask_wrap64 (by omega) (by omega) ?_) | (refine And.intro (And.intro (by omega) (by omega)) ?_) | (refine fun (_ : InK _ _) => ?_) | (refine ⟨by kernel_rfl, ?_⟩) | fail)
        refine ⟨D, l, ar, by omega, fun H3 r l' u3 ar3 hl3 => ?_⟩
        repeat' ((conv => whnf); first | (refine lenH_is ?_) | (refine pushH_at ?_) | (refine setH_as (set_top _ _ _) ?_) | (refine setH_as (set_low _ _ _ _) ?_) | (refine setH_as (set_top' _ _ _ _ _) ?_) | (refine And.intro ?_ trivial) | (refine And.intro rfl ?_) | (refine And.intro (And.intro (by decide) (by decide)) ?_) | (refine And.intro (And.intro (by decide) (And.intro (by decide) (by decide))) ?_) | (refine And.intro (Nat.le_of_ble_eq_true rfl) (And.intro (Nat.le_of_ble_eq_true rfl) ?_)) | (refine And.intro (Nat.le_of_ble_eq_true rfl) ?_) | (refine ask_false (by omega) ?_) | (refine ask_true (by omega) ?_) | (refine ask_wrap64 (by omega) (by omega) ?_) | (refine And.intro (And.intro (by omega) (by omega)) ?_) | (refine fun (_ : InK _ _) => ?_) | (refine ⟨by kernel_rfl, ?_⟩) | fail)
        exact ⟨len - (z.k + 1), ⟨z.k + 1, H3⟩, by omega, ⟨⟨rfl, hlt⟩, uX.trans (UpT.mTX2 u3), l', ar3, by show l'.length ≤ z.k + 1; omega⟩, ⟨rfl, ⟨⟨Nat.le_of_ble_eq_true rfl, rfl⟩, trivial⟩, wkH_refl _, bndH_of u3.bnd, Nat.le_trans uX.len u3.len⟩⟩
      · repeat' ((conv => whnf); first | (refine lenH_is ?_) | (refine pushH_at ?_) | (refine setH_as (set_top _ _ _) ?_) | (refine setH_as (set_low _ _ _ _) ?_) | (refine setH_as (set_top' _ _ _ _ _) ?_) | (refine And.intro ?_ trivial) | (refine And.intro rfl ?_) | (refine And.intro (And.intro (by decide) (by decide)) ?_) | (refine And.intro (And.intro (by decide) (And.intro (by decide) (by decide))) ?_) | (refine And.intro (Nat.le_of_ble_eq_true rfl) (And.intro (Nat.le_of_ble_eq_true rfl) ?_)) | (refine And.intro (Nat.le_of_ble_eq_true rfl) ?_) | (refine ask_false (by omega) ?_) | (refine ask_true (by omega) ?_) | (refine ask_wrap64 (by omega) (by omega) ?_) | (refine And.intro (And.intro (by omega) (by omega)) ?_) | (refine fun (_ : InK _ _) => ?_) | (refine ⟨by kernel_rfl, ?_⟩) | fail)
        have hlen : l.length ≤ 25 := by omega
        obtain ⟨v, n, fr, L, ws, g, sl, lg, lo⟩ := ar.ex
        refine ⟨ws, l.map layT, lg.2, lo, fun H4 v4 nx ms rs u4 s4 t4 _ => ?_⟩
        repeat' ((conv => whnf); first | (refine lenH_is ?_) | (refine pushH_at ?_) | (refine setH_as (set_top _ _ _) ?_) | (refine setH_as (set_low _ _ _ _) ?_) | (refine setH_as (set_top' _ _ _ _ _) ?_) | (refine And.intro ?_ trivial) | (refine And.intro rfl ?_) | (refine And.intro (And.intro (by decide) (by decide)) ?_) | (refine And.intro (And.intro (by decide) (And.intro (by decide) (by decide))) ?_) | (refine And.intro (Nat.le_of_ble_eq_true rfl) (And.intro (Nat.le_of_ble_eq_true rfl) ?_)) | (refine And.intro (Nat.le_of_ble_eq_true rfl) ?_) | (refine ask_false (by omega) ?_) | (refine ask_true (by omega) ?_) | (refine ask_wrap64 (by omega) (by omega) ?_) | (refine And.intro (And.intro (by omega) (by omega)) ?_) | (refine fun (_ : InK _ _) => ?_) | (refine ⟨by kernel_rfl, ?_⟩) | fail)
        refine ⟨D, l, ar.up u4 rfl, by omega, fun H5 v5 u5 s5 => ?_⟩
        have ar5 := (ar.up u4 rfl).up u5 rfl
        have s45 := s4.up u5 rfl
        have hrl : rs.length = l.length := by rw [t4.1]; simp
        have hs5 := s5
        rcases s5 with ⟨e0, rfl⟩ | ⟨e0, q5, rest5, rfl, hcap5, hrows5, hq5⟩
        · have hl0 : l = [] := by simpa [enRows] using e0
          obtain rfl : v4 = .csn := by
            rcases s45 with h | h
            · exact h.2
            · exact absurd (List.eq_nil_of_length_eq_zero (by rw [hrl, hl0]; rfl)) h.1
          repeat' ((conv => whnf); first | (refine lenH_is ?_) | (refine pushH_at ?_) | (refine setH_as (set_top _ _ _) ?_) | (refine setH_as (set_low _ _ _ _) ?_) | (refine setH_as (set_top' _ _ _ _ _) ?_) | (refine And.intro ?_ trivial) | (refine And.intro rfl ?_) | (refine And.intro (And.intro (by decide) (by decide)) ?_) | (refine And.intro (And.intro (by decide) (And.intro (by decide) (by decide))) ?_) | (refine And.intro (Nat.le_of_ble_eq_true rfl) (And.intro (Nat.le_of_ble_eq_true rfl) ?_)) | (refine And.intro (Nat.le_of_ble_eq_true rfl) ?_) | (refine ask_false (by omega) ?_) | (refine ask_true (by omega) ?_) | (refine ask_wrap64 (by omega) (by omega) ?_) | (refine And.intro (And.intro (by omega) (by omega)) ?_) | (refine fun (_ : InK _ _) => ?_) | (refine ⟨by kernel_rfl, ?_⟩) | fail)
          conv => whnf
          refine loop_upJ (13 :: 14 :: 15 :: List.range' 79 25) (fun m (_ : Unit) => m = 0) (fun _ => [(13, vi 0)]) (fun _ => H5) 0 () rfl ?_ ?_ ?_
          · rintro m _ rfl
            obtain ⟨_, _, _, _, _, gA, _, lg9, _⟩ := ar5.ex
            have dA := get_blt gA
            obtain ⟨_, _, _, gd, _⟩ := lg9.2.ex
            have dD := get_blt gd
            have dq := get_blt (u5.keep _ _ (u4.keep _ _ (uX.keep _ _ hq rfl) rfl) rfl)
            repeat' (first | rfl | exact dA | exact dD | exact dq | refine and_t ?_ ?_)
          · exact ⟨rfl, ⟨⟨Nat.le_of_ble_eq_true rfl, rfl⟩, trivial⟩, wkH_refl _, bndH_of u5.bnd, Nat.le_trans uX.len (Nat.le_trans (Nat.le_refl _) (Nat.le_trans u4.len u5.len))⟩
          · rintro m _ rfl
            repeat' ((conv => whnf); first | (refine lenH_is ?_) | (refine pushH_at ?_) | (refine setH_as (set_top _ _ _) ?_) | (refine setH_as (set_low _ _ _ _) ?_) | (refine setH_as (set_top' _ _ _ _ _) ?_) | (refine And.intro ?_ trivial) | (refine And.intro rfl ?_) | (refine And.intro (And.intro (by decide) (by decide)) ?_) | (refine And.intro (And.intro (by decide) (And.intro (by decide) (by decide))) ?_) | (refine And.intro (Nat.le_of_ble_eq_true rfl) (And.intro (Nat.le_of_ble_eq_true rfl) ?_)) | (refine And.intro (Nat.le_of_ble_eq_true rfl) ?_) | (refine ask_false (by omega) ?_) | (refine ask_true (by omega) ?_) | (refine ask_wrap64 (by omega) (by omega) ?_) | (refine And.intro (And.intro (by omega) (by omega)) ?_) | (refine fun (_ : InK _ _) => ?_) | (refine ⟨by kernel_rfl, ?_⟩) | fail)
            refine ⟨l, hs5, ⟨st0_StR, ar5.right, by omega⟩, fun H6 v6 x hx6 u6 s6 => ?_⟩
            repeat' ((conv => whnf); first | (refine lenH_is ?_) | (refine pushH_at ?_) | (refine setH_as (set_top _ _ _) ?_) | (refine setH_as (set_low _ _ _ _) ?_) | (refine setH_as (set_top' _ _ _ _ _) ?_) | (refine hGet_at (up_top _ _) ?_) | (refine And.intro ?_ trivial) | (refine And.intro rfl ?_) | (refine And.intro (And.intro (by decide) (by decide)) ?_) | (refine And.intro (And.intro (by decide) (And.intro (by decide) (by decide))) ?_) | (refine And.intro (Nat.le_of_ble_eq_true rfl) (And.intro (Nat.le_of_ble_eq_true rfl) ?_)) | (refine And.intro (Nat.le_of_ble_eq_true rfl) ?_) | (refine ask_false (by omega) ?_) | (refine ask_true (by omega) ?_) | (refine ask_wrap64 (by omega) (by omega) ?_) | (refine And.intro (And.intro (by omega) (by omega)) ?_) | (refine fun (_ : InK _ _) => ?_) | (refine ⟨by kernel_rfl, ?_⟩) | fail)
            have u7 : UpT [] H6 (H6 ++ [stBl x]) := (UpT.refl u6.bnd).app rfl
            refine ⟨D, l, (ar5.up u6 rfl).up u7 rfl, by omega, fun H8 v8 u8 s8 => ?_⟩
            repeat' ((conv => whnf); first | (refine lenH_is ?_) | (refine pushH_at ?_) | (refine setH_as (set_top _ _ _) ?_) | (refine setH_as (set_low _ _ _ _) ?_) | (refine setH_as (set_top' _ _ _ _ _) ?_) | (refine And.intro ?_ trivial) | (refine And.intro rfl ?_) | (refine And.intro (And.intro (by decide) (by decide)) ?_) | (refine And.intro (And.intro (by decide) (And.intro (by decide) (by decide))) ?_) | (refine And.intro (Nat.le_of_ble_eq_true rfl) (And.intro (Nat.le_of_ble_eq_true rfl) ?_)) | (refine And.intro (Nat.le_of_ble_eq_true rfl) ?_) | (refine ask_false (by omega) ?_) | (refine ask_true (by omega) ?_) | (refine ask_wrap64 (by omega) (by omega) ?_) | (refine And.intro (And.intro (by omega) (by omega)) ?_) | (refine fun (_ : InK _ _) => ?_) | (refine ⟨by kernel_rfl, ?_⟩) | fail)
            refine ⟨(foldP B.st0 l).2, ⟨(s6.up u7 rfl).up u8 rfl, s8⟩, by have := foldP_len B.st0 l; omega, fun H9 u9 => ?_⟩
            repeat' ((conv => whnf); first | (refine lenH_is ?_) | (refine pushH_at ?_) | (refine setH_as (set_top _ _ _) ?_) | (refine setH_as (set_low _ _ _ _) ?_) | (refine setH_as (set_top' _ _ _ _ _) ?_) | (refine And.intro ?_ trivial) | (refine And.intro rfl ?_) | (refine And.intro (And.intro (by decide) (by decide)) ?_) | (refine And.intro (And.intro (by decide) (And.intro (by decide) (by decide))) ?_) | (refine And.intro (Nat.le_of_ble_eq_true rfl) (And.intro (Nat.le_of_ble_eq_true rfl) ?_)) | (refine And.intro (Nat.le_of_ble_eq_true rfl) ?_) | (refine ask_false (by omega) ?_) | (refine ask_true (by omega) ?_) | (refine ask_wrap64 (by omega) (by omega) ?_) | (refine And.intro (And.intro (by omega) (by omega)) ?_) | (refine fun (_ : InK _ _) => ?_) | (refine ⟨by kernel_rfl, ?_⟩) | fail)
            rfl
        · have hne : l ≠ [] := fun h => e0 (by rw [h]; rfl)
          have hs45 := s45
          rcases s45 with h | ⟨e4, q4, rest4, rfl, hcap4, hrows4, hq4⟩
          · exact absurd (List.eq_nil_of_length_eq_zero (by rw [← hrl, h.1]; rfl)) hne
          have hel := enRows_len l
          rw [hel] at hs5 ⊢
          rw [hrl] at hs45 ⊢
          have hone5 : oneAt (enRows l ++ rest5).flatten 0 = true := by
            cases l with
            | nil => exact absurd rfl hne
            | cons e es => rfl
          have hone4 : oneAt (rs ++ rest4).flatten 0 = true := by
            obtain ⟨e, he⟩ : ∃ e, l[0]? = some e := ⟨_, List.getElem?_eq_getElem (List.length_pos_iff.2 hne)⟩
            obtain ⟨a, ha⟩ := t4.2 0 (layT e) (by simp [he])
            exact oneAt_rows (by rw [List.getElem?_append_left (List.getElem?_eq_some_iff.1 ha).1]; exact ha)
          repeat' ((conv => whnf); first | (refine lenH_is ?_) | (refine pushH_at ?_) | (refine setH_as (set_top _ _ _) ?_) | (refine setH_as (set_low _ _ _ _) ?_) | (refine setH_as (set_top' _ _ _ _ _) ?_) | (refine And.intro ?_ trivial) | (refine And.intro rfl ?_) | (refine And.intro (And.intro (by decide) (by decide)) ?_) | (refine And.intro (And.intro (by decide) (And.intro (by decide) (by decide))) ?_) | (refine And.intro (Nat.le_of_ble_eq_true rfl) (And.intro (Nat.le_of_ble_eq_true rfl) ?_)) | (refine And.intro (Nat.le_of_ble_eq_true rfl) ?_) | (refine ask_false (by omega) ?_) | (refine ask_true (by omega) ?_) | (refine ask_wrap64 (by omega) (by omega) ?_) | (refine And.intro (And.intro (by omega) (by omega)) ?_) | (refine fun (_ : InK _ _) => ?_) | (refine ⟨by kernel_rfl, ?_⟩) | fail)
          conv => whnf
          refine loop_upJ (13 :: 14 :: 15 :: List.range' 79 25) (fun m (k : Nat) => m = l.length - k ∧ k ≤ l.length) (fun k => [(13, vi k)]) (fun _ => H5) l.length 0 ⟨rfl, Nat.zero_le _⟩ ?_ ?_ ?_
          · rintro m k ⟨rfl, hk⟩
            obtain ⟨_, _, _, _, _, gA, _, lg9, _⟩ := ar5.ex
            have dA := get_blt gA
            obtain ⟨_, _, _, gd, _⟩ := lg9.2.ex
            have dD := get_blt gd
            have d5 := get_blt hq5
            have d4 := get_blt hq4
            have dq := get_blt (u5.keep _ _ (u4.keep _ _ (uX.keep _ _ hq rfl) rfl) rfl)
            repeat' (first | rfl | exact dA | exact dD | exact d5 | exact d4 | exact dq | refine and_t ?_ ?_)
          · exact ⟨rfl, ⟨⟨Nat.le_of_ble_eq_true rfl, rfl⟩, trivial⟩, wkH_refl _, bndH_of u5.bnd, Nat.le_trans uX.len (Nat.le_trans (Nat.le_refl _) (Nat.le_trans u4.len u5.len))⟩
          · rintro m k ⟨rfl, hk⟩
            rcases Nat.lt_or_ge k l.length with hlt | hge
            · obtain ⟨e, hek⟩ : ∃ e, l[k]? = some e := ⟨_, List.getElem?_eq_getElem hlt⟩
              have he' := ar5.right e (List.mem_of_getElem? hek)
              have hrow5 : (enRows l ++ rest5)[k]? = some (B.enW e.1 e.2.1 e.2.2).segs := by rw [List.getElem?_append_left (by omega)]; exact enRows_get hek
              obtain ⟨a, ha⟩ := t4.2 k (layT e) (by simp [hek])
              have hrow4 : (rs ++ rest4)[k]? = some [.one (.ci .i64 a), .one (.cs (layT e))] := by rw [List.getElem?_append_left (by omega)]; exact ha
              have em5 : mulN (k : Int).toNat (Tryz.prog.types[35]).size = k * 3 := by
                rw [show (Tryz.prog.types[35]).size = 3 by kernel_rfl, mulN_eq, Int.toNat_natCast]
              have em4 : mulN (k : Int).toNat (Tryz.prog.types[45]).size = k * 2 := by
                rw [show (Tryz.prog.types[45]).size = 2 by kernel_rfl, mulN_eq, Int.toNat_natCast]
              repeat' ((conv => whnf); first | (refine lenH_is ?_) | (refine pushH_at ?_) | (refine setH_as (set_top _ _ _) ?_) | (refine setH_as (set_low _ _ _ _) ?_) | (refine setH_as (set_top' _ _ _ _ _) ?_) | (refine And.intro ?_ trivial) | (refine And.intro rfl ?_) | (refine And.intro (And.intro (by decide) (by decide)) ?_) | (refine And.intro (And.intro (by decide) (And.intro (by decide) (by decide))) ?_) | (refine And.intro (Nat.le_of_ble_eq_true rfl) (And.intro (Nat.le_of_ble_eq_true rfl) ?_)) | (refine And.intro (Nat.le_of_ble_eq_true rfl) ?_) | (refine ask_false (by omega) ?_) | (refine ask_true (by omega) ?_) | (refine ask_wrap64 (by omega) (by omega) ?_) | (refine And.intro (And.intro (by omega) (by omega)) ?_) | (refine fun (_ : InK _ _) => ?_) | (refine ⟨by kernel_rfl, ?_⟩) | fail)
              refine hGet_at hq5 ?_
              refine load_whole (by kernel_rfl) (inf := Tryz.prog.types[35]) (by kernel_rfl) (by kernel_rfl) hrows5 hone5 hrow5 (by rw [em5]; omega) ?_
              repeat' ((conv => whnf); first | (refine lenH_is ?_) | (refine pushH_at ?_) | (refine setH_as (set_top _ _ _) ?_) | (refine setH_as (set_low _ _ _ _) ?_) | (refine setH_as (set_top' _ _ _ _ _) ?_) | (refine And.intro ?_ trivial) | (refine And.intro rfl ?_) | (refine And.intro (And.intro (by decide) (by decide)) ?_) | (refine And.intro (And.intro (by decide) (And.intro (by decide) (by decide))) ?_) | (refine And.intro (Nat.le_of_ble_eq_true rfl) (And.intro (Nat.le_of_ble_eq_true rfl) ?_)) | (refine And.intro (Nat.le_of_ble_eq_true rfl) ?_) | (refine ask_false (by omega) ?_) | (refine ask_true (by omega) ?_) | (refine ask_wrap64 (by omega) (by omega) ?_) | (refine And.intro (And.intro (by omega) (by omega)) ?_) | (refine fun (_ : InK _ _) => ?_) | (refine ⟨by kernel_rfl, ?_⟩) | fail)
              refine ⟨fun _ s hs => ?_, fun h => absurd he' h⟩
              repeat' ((conv => whnf); first | (refine lenH_is ?_) | (refine pushH_at ?_) | (refine setH_as (set_top _ _ _) ?_) | (refine setH_as (set_low _ _ _ _) ?_) | (refine setH_as (set_top' _ _ _ _ _) ?_) | (refine And.intro ?_ trivial) | (refine And.intro rfl ?_) | (refine And.intro (And.intro (by decide) (by decide)) ?_) | (refine And.intro (And.intro (by decide) (And.intro (by decide) (by decide))) ?_) | (refine And.intro (Nat.le_of_ble_eq_true rfl) (And.intro (Nat.le_of_ble_eq_true rfl) ?_)) | (refine And.intro (Nat.le_of_ble_eq_true rfl) ?_) | (refine ask_false (by omega) ?_) | (refine ask_true (by omega) ?_) | (refine ask_wrap64 (by omega) (by omega) ?_) | (refine And.intro (And.intro (by omega) (by omega)) ?_) | (refine fun (_ : InK _ _) => ?_) | (refine ⟨by kernel_rfl, ?_⟩) | fail)
              refine hGet_at hq4 ?_
              refine load_row (by kernel_rfl) hrows4 hone4 hrow4 (f := 1) (by rw [em4]; simp) fun b => ?_
              subst hs
              repeat' ((conv => whnf); first | (refine lenH_is ?_) | (refine pushH_at ?_) | (refine setH_as (set_top _ _ _) ?_) | (refine setH_as (set_low _ _ _ _) ?_) | (refine setH_as (set_top' _ _ _ _ _) ?_) | (refine And.intro ?_ trivial) | (refine And.intro rfl ?_) | (refine And.intro (And.intro (by decide) (by decide)) ?_) | (refine And.intro (And.intro (by decide) (And.intro (by decide) (by decide))) ?_) | (refine And.intro (Nat.le_of_ble_eq_true rfl) (And.intro (Nat.le_of_ble_eq_true rfl) ?_)) | (refine And.intro (Nat.le_of_ble_eq_true rfl) ?_) | (refine ask_false (by omega) ?_) | (refine ask_true (by omega) ?_) | (refine ask_wrap64 (by omega) (by omega) ?_) | (refine And.intro (And.intro (by omega) (by omega)) ?_) | (refine fun (_ : InK _ _) => ?_) | (refine ⟨by kernel_rfl, ?_⟩) | fail)
              refine ask_false (fun h => h rfl) ?_
              repeat' ((conv => whnf); first | (refine lenH_is ?_) | (refine pushH_at ?_) | (refine setH_as (set_top _ _ _) ?_) | (refine setH_as (set_low _ _ _ _) ?_) | (refine setH_as (set_top' _ _ _ _ _) ?_) | (refine And.intro ?_ trivial) | (refine And.intro rfl ?_) | (refine And.intro (And.intro (by decide) (by decide)) ?_) | (refine And.intro (And.intro (by decide) (And.intro (by decide) (by decide))) ?_) | (refine And.intro (Nat.le_of_ble_eq_true rfl) (And.intro (Nat.le_of_ble_eq_true rfl) ?_)) | (refine And.intro (Nat.le_of_ble_eq_true rfl) ?_) | (refine ask_false (by omega) ?_) | (refine ask_true (by omega) ?_) | (refine ask_wrap64 (by omega) (by omega) ?_) | (refine And.intro (And.intro (by omega) (by omega)) ?_) | (refine fun (_ : InK _ _) => ?_) | (refine ⟨by kernel_rfl, ?_⟩) | fail)
              exact ⟨l.length - (k + 1), k + 1, by omega, ⟨rfl, hlt⟩, ⟨rfl, ⟨⟨Nat.le_of_ble_eq_true rfl, rfl⟩, trivial⟩, wkH_refl _, bndH_of u5.bnd, Nat.le_trans uX.len (Nat.le_trans (Nat.le_refl _) (Nat.le_trans u4.len u5.len))⟩⟩
            · rw [show k = l.length by omega]
              repeat' ((conv => whnf); first | (refine lenH_is ?_) | (refine pushH_at ?_) | (refine setH_as (set_top _ _ _) ?_) | (refine setH_as (set_low _ _ _ _) ?_) | (refine setH_as (set_top' _ _ _ _ _) ?_) | (refine And.intro ?_ trivial) | (refine And.intro rfl ?_) | (refine And.intro (And.intro (by decide) (by decide)) ?_) | (refine And.intro (And.intro (by decide) (And.intro (by decide) (by decide))) ?_) | (refine And.intro (Nat.le_of_ble_eq_true rfl) (And.intro (Nat.le_of_ble_eq_true rfl) ?_)) | (refine And.intro (Nat.le_of_ble_eq_true rfl) ?_) | (refine ask_false (by omega) ?_) | (refine ask_true (by omega) ?_) | (refine ask_wrap64 (by omega) (by omega) ?_) | (refine And.intro (And.intro (by omega) (by omega)) ?_) | (refine fun (_ : InK _ _) => ?_) | (refine ⟨by kernel_rfl, ?_⟩) | fail)
              refine ⟨l, hs5, ⟨st0_StR, ar5.right, by omega⟩, fun H6 v6 x hx6 u6 s6 => ?_⟩
              repeat' ((conv => whnf); first | (refine lenH_is ?_) | (refine pushH_at ?_) | (refine setH_as (set_top _ _ _) ?_) | (refine setH_as (set_low _ _ _ _) ?_) | (refine setH_as (set_top' _ _ _ _ _) ?_) | (refine hGet_at (up_top _ _) ?_) | (refine And.intro ?_ trivial) | (refine And.intro rfl ?_) | (refine And.intro (And.intro (by decide) (by decide)) ?_) | (refine And.intro (And.intro (by decide) (And.intro (by decide) (by decide))) ?_) | (refine And.intro (Nat.le_of_ble_eq_true rfl) (And.intro (Nat.le_of_ble_eq_true rfl) ?_)) | (refine And.intro (Nat.le_of_ble_eq_true rfl) ?_) | (refine ask_false (by omega) ?_) | (refine ask_true (by omega) ?_) | (refine ask_wrap64 (by omega) (by omega) ?_) | (refine And.intro (And.intro (by omega) (by omega)) ?_) | (refine fun (_ : InK _ _) => ?_) | (refine ⟨by kernel_rfl, ?_⟩) | fail)
              have u7 : UpT [] H6 (H6 ++ [stBl x]) := (UpT.refl u6.bnd).app rfl
              refine ⟨D, l, (ar5.up u6 rfl).up u7 rfl, by omega, fun H8 v8 u8 s8 => ?_⟩
              repeat' ((conv => whnf); first | (refine lenH_is ?_) | (refine pushH_at ?_) | (refine setH_as (set_top _ _ _) ?_) | (refine setH_as (set_low _ _ _ _) ?_) | (refine setH_as (set_top' _ _ _ _ _) ?_) | (refine And.intro ?_ trivial) | (refine And.intro rfl ?_) | (refine And.intro (And.intro (by decide) (by decide)) ?_) | (refine And.intro (And.intro (by decide) (And.intro (by decide) (by decide))) ?_) | (refine And.intro (Nat.le_of_ble_eq_true rfl) (And.intro (Nat.le_of_ble_eq_true rfl) ?_)) | (refine And.intro (Nat.le_of_ble_eq_true rfl) ?_) | (refine ask_false (by omega) ?_) | (refine ask_true (by omega) ?_) | (refine ask_wrap64 (by omega) (by omega) ?_) | (refine And.intro (And.intro (by omega) (by omega)) ?_) | (refine fun (_ : InK _ _) => ?_) | (refine ⟨by kernel_rfl, ?_⟩) | fail)
              refine ⟨(foldP B.st0 l).2, ⟨(s6.up u7 rfl).up u8 rfl, s8⟩, by have := foldP_len B.st0 l; omega, fun H9 u9 => ?_⟩
              repeat' ((conv => whnf); first | (refine lenH_is ?_) | (refine pushH_at ?_) | (refine setH_as (set_top _ _ _) ?_) | (refine setH_as (set_low _ _ _ _) ?_) | (refine setH_as (set_top' _ _ _ _ _) ?_) | (refine And.intro ?_ trivial) | (refine And.intro rfl ?_) | (refine And.intro (And.intro (by decide) (by decide)) ?_) | (refine And.intro (And.intro (by decide) (And.intro (by decide) (by decide))) ?_) | (refine And.intro (Nat.le_of_ble_eq_true rfl) (And.intro (Nat.le_of_ble_eq_true rfl) ?_)) | (refine And.intro (Nat.le_of_ble_eq_true rfl) ?_) | (refine ask_false (by omega) ?_) | (refine ask_true (by omega) ?_) | (refine ask_wrap64 (by omega) (by omega) ?_) | (refine And.intro (And.intro (by omega) (by omega)) ?_) | (refine fun (_ : InK _ _) => ?_) | (refine ⟨by kernel_rfl, ?_⟩) | fail)
              rfl
end R
end Go.Proofs.YtaficaacogcblaaGreatDoor
