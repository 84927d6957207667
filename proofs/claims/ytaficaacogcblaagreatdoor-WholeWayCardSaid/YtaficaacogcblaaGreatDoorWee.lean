/- D: what is needed here of the texts XDa XDb XDc XDd XDe XDf XEa XEb XEc XEd XEe XEf XEg XEh XEi. (Printed by fam.py.) -/
import Derived.Test.YtaficaacogcblaaGreatDoorWd
import Derived.Test.YtaficaacogcblaaGreatDoorWbb
import Derived.Test.YtaficaacogcblaaGreatDoorWy
import Derived.Test.YtaficaacogcblaaGreatDoorWc
set_option linter.all false
namespace Go.Proofs.YtaficaacogcblaaGreatDoor
namespace D
open Go.RowKit (Below)
set_option maxRecDepth 100000
set_option maxHeartbeats 64000000
theorem cost_none {b : Int} (hb : 0 ≤ b ∧ b ≤ 3) : costS b 0 = 0 := by
  rw [costS_tab hb (by decide)]
  obtain rfl | rfl | rfl | rfl : b = 0 ∨ b = 1 ∨ b = 2 ∨ b = 3 := by omega
  all_goals kernel_rfl
theorem costs_in (ks : List Int) (n : Nat) : 0 ≤ costs ks n ∧ costs ks n ≤ 64 * n := by
  induction n with
  | zero => exact ⟨Int.le_refl _, Int.le_refl _⟩
  | succ n ih =>
    have := costS_in n (ks.getD n 0)
    show 0 ≤ costs ks n + costS n (ks.getD n 0) ∧ costs ks n + costS n (ks.getD n 0) ≤ 64 * ((n + 1 : Nat) : Int)
    omega
/-- No band can have one more. -/
theorem best_none (ls ks : List Int) (bits : Int) : ∀ i : Nat, bestS ls ks bits i < 0 → ∀ j : Nat, j < i → ls.getD j 0 = 0 ∨ ks.getD j 0 = 8 ∨ bits < prS ks j
  | 0, _, j, hj => absurd hj (Nat.not_lt_zero j)
  | i + 1, h, j, hj => by
    have e : bestS ls ks bits (i + 1) = if takes ls ks bits (bestS ls ks bits i) i then (i : Int) else bestS ls ks bits i := rfl
    rw [e] at h
    split at h
    · omega
    · rename_i ht
      rcases Nat.lt_or_ge j i with h1 | h1
      · exact best_none ls ks bits i h j h1
      · obtain rfl : j = i := by omega
        rcases Classical.em (ls.getD j 0 = 0) with a | a
        · exact .inl a
        · rcases Classical.em (ks.getD j 0 = 8) with b | b
          · exact .inr (.inl b)
          · refine .inr (.inr (Classical.byContradiction fun hp => ht ⟨?_, ?_⟩))
            · rintro (h2 | h2 | h2)
              · exact a h2
              · exact b h2
              · omega
            · have : ¬ bits < prS ks (j : Int) := hp
              omega
theorem costs_set {ks : List Int} (h : ks.length = 4) {b : Int} (hb : 0 ≤ b ∧ b ≤ 3) : costs (ks.set b.toNat (ks.getD b.toNat 0 + 1)) 4 = costs ks 4 + prS ks b := by
  match ks, h with
  | [x, y, z, w], _ =>
    obtain rfl | rfl | rfl | rfl : b = 0 ∨ b = 1 ∨ b = 2 ∨ b = 3 := by omega
    · show 0 + costS 0 (x + 1) + costS 1 y + costS 2 z + costS 3 w = 0 + costS 0 x + costS 1 y + costS 2 z + costS 3 w + (costS 0 (x + 1) - costS 0 x); omega
    · show 0 + costS 0 x + costS 1 (y + 1) + costS 2 z + costS 3 w = 0 + costS 0 x + costS 1 y + costS 2 z + costS 3 w + (costS 1 (y + 1) - costS 1 y); omega
    · show 0 + costS 0 x + costS 1 y + costS 2 (z + 1) + costS 3 w = 0 + costS 0 x + costS 1 y + costS 2 z + costS 3 w + (costS 2 (z + 1) - costS 2 z); omega
    · show 0 + costS 0 x + costS 1 y + costS 2 z + costS 3 (w + 1) = 0 + costS 0 x + costS 1 y + costS 2 z + costS 3 w + (costS 3 (w + 1) - costS 3 w); omega
structure Given (ls ks : List Int) (lf : Int) : Prop where
  pos : 0 ≤ lf
  none : ∀ i : Nat, i < 4 → ls.getD i 0 = 0 → ks.getD i 0 = 0
  full : ∀ i : Nat, i < 4 → ls.getD i 0 = 0 ∨ ks.getD i 0 = 8 ∨ lf < prS ks i
theorem go_given (ls : List Int) : ∀ (n : Nat) (ks : List Int) (t : Int), KOk ks → 0 ≤ t → 33 - sumK ks ≤ n → (∀ i : Nat, i < 4 → ls.getD i 0 = 0 → ks.getD i 0 = 0) → Given ls (goP ls n ks t) (t + costs ks 4 - costs (goP ls n ks t) 4)
  | 0, ks, t, hk, _, hs, _ => by have := hk.sum; omega
  | n + 1, ks, t, hk, ht, hs, hz => by
    have b1 := best_in ls ks t 4
    rw [goP_next]
    split
    · rename_i hb
      exact ⟨by omega, hz, fun i hi => by
        have := best_none ls ks t 4 hb i hi
        omega⟩
    · rename_i hb
      have b2 := best_pays ls ks t 4 (by omega)
      have hk' := hk.next (b := bestS ls ks t 4) (by omega) b2.2.1
      have cs := costs_set hk.len (b := bestS ls ks t 4) (by omega)
      have ss := sumK_set hk.len (b := bestS ls ks t 4) (by omega)
      have ih := go_given ls n _ (t - prS ks (bestS ls ks t 4)) hk' (by omega) (by rw [ss]; omega) fun i hi h0 => by
        rw [getD_set]
        split
        · rename_i he
          exact absurd (by rw [he.1]; exact h0) b2.1
        · exact hz i hi h0
      rw [cs] at ih
      refine ⟨?_, ih.none, fun i hi => ?_⟩
      · have := ih.pos; omega
      · have := ih.full i hi
        omega
theorem costs_z4 : costs z4 4 = 0 := by
  show 0 + costS 0 0 + costS 1 0 + costS 2 0 + costS 3 0 = 0
  rw [cost_none (by decide), cost_none (by decide), cost_none (by decide), cost_none (by decide)]; rfl
theorem pul_given {ls : List Int} {t : Int} (h : rightP ls t) : Given ls (pulS ls t) (t - costs (pulS ls t) 4) := by
  rw [pulS_def]
  unfold pulF
  rw [if_pos h]
  have := go_given ls 33 z4 t z4_ok ((rightP_def ls t).1 h).2.1 (by decide) fun i hi _ => by
    match i, hi with
    | 0, _ | 1, _ | 2, _ | 3, _ => rfl
  rw [costs_z4] at this
  rwa [show t + 0 - costs (goP ls 33 z4 t) 4 = t - costs (goP ls 33 z4 t) 4 by omega] at this

end D

/- enc: waves brought into their range. -/
namespace R
set_option maxRecDepth 100000
set_option maxHeartbeats 16000000

structure HS where
  k : Nat
  ys : List Int
  H : List Blk
abbrev rB (c : Nat) (ys : List Int) : Blk := .own 3 [.ints .i64 c ys]
def heJ (H : List Blk) (j l c : Nat) (m : Nat) (s : HS) : Prop := (m = l - s.k ∧ s.k ≤ l) ∧ s.ys.length = c ∧ (∀ y ∈ s.ys, InK .i64 y) ∧ s.H = H.set j (rB c s.ys)
set_option pp.deepTerms.threshold 12 in
theorem held_walk {H : List Blk} (hH : HOk H) {j l c : Nat} {xs : List Int} (hj : H[j]? = some (rB c xs)) (hl : l ≤ c) (hc : c ≤ 9223372036854775807) : walkr F0 0 Tryz.f98 [.c (.csl j 0 0 l c)] H fun y H' => y = .w (.c (.csl j 0 0 l c)) ∧ ∃ ys, ys.length = c ∧ (∀ y ∈ ys, InK .i64 y) ∧ H' = H.set j (rB c ys) := by
  have hjl := (List.getElem?_eq_some_iff.1 hj).1
  obtain ⟨⟨hx1, hx2⟩, _⟩ := hH.rng _ (List.mem_of_getElem? hj)
  have hset : H.set j (rB c xs) = H := by
    rw [← (List.getElem?_eq_some_iff.1 hj).2]; exact List.set_getElem_self hjl
  repeat' ((conv => whnf); first | (refine lenH_is ?_) | fail)
  conv => whnf
  refine loop_up (3 :: 4 :: List.range' 7 12) (fun m (s : HS) => heJ H j l c m s) (fun s => [(7, vi s.k)]) (fun s => s.H) l ⟨0, xs, H⟩ ⟨⟨rfl, Nat.zero_le _⟩, hx1, hx2, hset.symm⟩ ?_ ?_ ?_
  · intro _ k hk
    have dj := decide_eq_true (Nat.lt_of_lt_of_le hjl hk)
    repeat' (first | rfl | exact dj | refine and_t ?_ ?_)
  · exact ⟨rfl, ⟨⟨Nat.le_of_ble_eq_true rfl, rfl⟩, trivial⟩, wkH_refl _, bndH_of hH.bnd, Nat.le_refl _⟩
  · rintro m s ⟨⟨rfl, k2⟩, y1, y2, hG⟩
    have gj : s.H[j]? = some (rB c s.ys) := by rw [hG]; exact List.getElem?_set_self hjl
    have gl : s.H.length = H.length := by rw [hG, List.length_set]
    rcases Nat.lt_or_ge s.k l with g | g
    · have em : mulN (s.k : Int).toNat (Tryz.prog.types[3]).size = s.k := (D.mulN1 _).trans (Int.toNat_natCast s.k)
      repeat' ((conv => whnf); first | (refine ask_true (by omega) ?_) | (refine And.intro (And.intro (by omega) (by omega)) ?_) | (refine hGet_at gj ?_) | fail)
      conv => whnf
      refine And.intro (by omega) fun hq => ?_
      obtain ⟨v, ev⟩ : ∃ v, v = s.ys.getD (0 + mulN (s.k : Int).toNat (Tryz.prog.types[3]).size) 0 := ⟨_, rfl⟩
      rw [← ev] at hq ⊢
      obtain ⟨v1, v2⟩ := hq
      simp only [lowK, highK] at v1 v2
      repeat' ((conv => whnf); first | (refine ask_wrap64 (by omega) (by omega) ?_) | (refine ask_split (fun _ => ?_) (fun _ => ?_)) | (refine And.intro (And.intro (by omega) (by omega)) ?_) | (refine hGet_at gj ?_) | (refine And.intro (show 0 + mulN (s.k : Int).toNat (Tryz.prog.types[3]).size < c by omega) ?_) | (refine setH_at ?_) | fail)
      refine ⟨l - (s.k + 1), ⟨s.k + 1, s.ys.set (0 + mulN (s.k : Int).toNat (Tryz.prog.types[3]).size) (max (min v 1048576) (-1048576)), _⟩, by omega, ⟨⟨rfl, g⟩, ?_, ?_, ?_⟩, ⟨rfl, ⟨⟨Nat.le_of_ble_eq_true rfl, rfl⟩, trivial⟩, wkH_refl _, ?_, ?_⟩⟩
      · exact (List.length_set ..).trans y1
      · intro y hy
        rcases List.mem_or_eq_of_mem_set hy with hy | rfl
        · exact y2 y hy
        · simp only [InK, lowK, highK]; omega
      · show s.H.set j _ = _
        rw [hG, List.set_set]
      · exact bndH_of (bnd_set (by rw [hG]; exact bnd_set hH.bnd rfl) rfl)
      · show H.length ≤ (s.H.set j _).length
        rw [List.length_set, gl]; exact Nat.le_refl _
    · repeat' ((conv => whnf); first | (refine ask_false (by omega) ?_) | fail)
      exact ⟨rfl, s.ys, y1, y2, hG⟩
def hHeld : HCt := fun ws H K => match ws with
  | [.c .csn] => K (.w (.c .csn)) H
  | [.c (.csl j 0 0 l c)] => ∃ xs, H[j]? = some (rB c xs) ∧ (l ≤ c ∧ c ≤ 9223372036854775807) ∧ ∀ ys : List Int, ys.length = c → (∀ y ∈ ys, InK .i64 y) → K (.w (.c (.csl j 0 0 l c))) (H.set j (rB c ys))
  | _ => False
theorem held_nil {H : List Blk} (hH : HOk H) : walkr F0 0 Tryz.f98 [.c .csn] H fun y H' => y = .w (.c .csn) ∧ H' = H := by
  repeat' ((conv => whnf); first | (refine lenH_is ?_) | fail)
  conv => whnf
  refine loop_at (3 :: 4 :: List.range' 7 12) (fun m (k : Nat) => m = 0 ∧ k = 0) (fun k => [(7, vi 0)]) (fun _ => H) 0 (0 : Nat) ⟨rfl, rfl⟩ ?_ ?_
  · exact ⟨rfl, ⟨⟨Nat.le_of_ble_eq_true rfl, rfl⟩, trivial⟩, wkH_refl _, rfl, bndH_of hH.bnd, Nat.le_refl _⟩
  · rintro m k ⟨rfl, rfl⟩
    repeat' ((conv => whnf); first | (refine ask_false (by omega) ?_) | fail)
    exact ⟨rfl, rfl⟩
theorem held_ct : HCtOk Tryz.prog 98 hHeld := by
  intro ws H K h hr hb ho G σ base w₀ w hw
  unfold hHeld at h
  split at h
  · exact heap_lifto F0_ok Tryz.func98 (n := 0) (ws := [.c .csn]) ⟨trivial, trivial⟩ rfl ho (held_nil ho) (fun x H' hP _ => by
      obtain ⟨rfl, rfl⟩ := hP
      exact h) G σ base w₀ w hw
  · rename_i j l c
    obtain ⟨xs, hj, hl, hK⟩ := h
    exact heap_lifto F0_ok Tryz.func98 (n := 0) (ws := [.c (.csl j 0 0 l c)]) ⟨hr.1, trivial⟩ (by
      have := (List.getElem?_eq_some_iff.1 hj).1
      show (decide (j < H.length) && true) = true
      simp [this]) ho (held_walk ho hj hl.1 hl.2) (fun x H' hP _ => by
      obtain ⟨rfl, ys, y1, y2, rfl⟩ := hP
      exact hK ys y1 y2) G σ base w₀ w hw
  · exact h.elim
end R

/- enc: packets, by their size. -/
namespace R
set_option maxRecDepth 100000
set_option maxHeartbeats 16000000

/-- As loop_up; the frame's names are told for the states that there are. -/
theorem loop_upJ {body : List V → List Blk → XQ → Prop} {lo : Nat} {fr : List V} {H : List Blk} {Q : XQ} {α : Type} (ds : List Nat) (J : Nat → α → Prop) (sel : α → List (Nat × V)) (Hs : α → List Blk) (m₀ : Nat) (s₀ : α) (h₀ : J m₀ s₀)
    (hbs : ∀ (m : Nat) (s : α), J m s → bndF (Hs s).length (setL (sel s) (hav ds 0 fr)) = true)
    (start : NextU ds lo fr (sel s₀) (Hs s₀) fr H)
    (round : ∀ m s, J m s → havK ds 0 fr fun f₁ => setLK (sel s) f₁ fun f₂ => body f₂ (Hs s) fun ex fr' H' => match ex with
      | .normal => ∃ m' s', m' < m ∧ J m' s' ∧ NextU ds lo fr (sel s') (Hs s') fr' H'
      | .exit id => Q (.exit id) fr' H'
      | .ret => Q .ret fr' H') : XLoop body lo fr H Q := by
  have up : ∀ m s fr' H', J m s → NextU ds lo fr (sel s) (Hs s) fr' H' → Next' ds lo fr (sel s) (Hs s) fr' H' := fun m s fr' H' hj h => ⟨h.same, h.hold, h.heap, hbs m s hj, h.bh, h.lo⟩
  unfold XLoop
  refine ⟨fun m f h => ∃ s, J m s ∧ f = setL (sel s) (hav ds 0 fr) ∧ h = Hs s, fun m fr' H' => ∃ m' s', m' < m ∧ J m' s' ∧ NextU ds lo fr (sel s') (Hs s') fr' H', ?_, ?_, ?_⟩
  · have st := up _ _ _ _ h₀ start
    exact ⟨m₀, _, _, id, ⟨s₀, h₀, rfl, rfl⟩, Seen.of_wk (wkF_len (wkF_sel st.same _ st.hold)) (wkF_sel st.same _ st.hold) st.heap st.bf st.bh st.lo⟩
  · rintro m f h ⟨s, hs, rfl, rfl⟩ _ _ _
    have := round m s hs
    rw [havK_iff, setLK_iff] at this
    exact this
  · rintro m fr' H' ⟨m', s', h1, h2, h3⟩
    have st := up _ _ _ _ h2 h3
    exact ⟨m', _, _, id, h1, ⟨s', h2, rfl, rfl⟩, Seen.of_wk (wkF_len (wkF_sel st.same _ st.hold)) (wkF_sel st.same _ st.hold) st.heap st.bf st.bh st.lo⟩
/-- A new block beside the coder. -/
theorem EUp.app {H : List Blk} {j : Nat} {e : ES} (h : EAt H j e) (hb : ∀ b ∈ H, b.bnd H.length = true) {b : Blk} (hbb : b.bnd (H.length + 1) = true) : EUp H j e (H ++ [b]) e := by
  refine ⟨?_, by rw [List.length_append]; exact Nat.le_add_right _ _, fun i x hx _ _ => up_get hx, ?_, rfl, bnd_app hb hbb⟩
  · rcases h with ⟨h1, h2, h3⟩ | ⟨h1, h2, h3, h4⟩
    · exact .inl ⟨h1, h2, up_get h3⟩
    · exact .inr ⟨h1, h2, up_get h3, up_get h4⟩
  · rcases h with h | h
    · exact .inl h.1
    · exact .inr (.inl ⟨h.1.1, rfl⟩)
theorem EUp.app1 {A H : List Blk} {j : Nat} {a e : ES} (u : EUp A j a H e) {b : Blk} (hbb : b.bnd (H.length + 1) = true) : EUp A j a (H ++ [b]) e := u.trans (EUp.app u.at' u.bnd hbb)
theorem set_top (H : List Blk) (a b : Blk) : (H ++ [a]).set H.length b = H ++ [b] := by
  rw [List.set_append_right _ _ (Nat.le_refl _), Nat.sub_self]; rfl
theorem EAt.q_lt {H : List Blk} {j : Nat} {e : ES} (h : EAt H j e) : e.cap = 0 ∨ e.q < H.length := by
  rcases h with h | h
  · exact .inl h.1
  · exact .inr (List.getElem?_eq_some_iff.1 h.2.2.2).1

noncomputable def FPk : Fns := (((((((((((((F0.into 93 Tryz.f93).plus 94 (D.ctL D.levZ)).over 95 hLp).over 96 hEUsed).plus 69 (ct2 (fun _ _ => True) D.roomS)).plus 68 (D.ctP4 D.pulS)).over 99 D.hBand).over 98 hHeld).over 97 C.hFind).over 100 V.hNumber).plus 103 (ct1 (fun _ => True) D.sizeS)).plus 102 (ct2 (fun _ _ => True) D.bitS)).over 101 hEb).over 104 hDone
noncomputable def FPx : Fns := ((FPk.every 96).every 98).every 101
theorem FPk_ok : FnsOk Tryz.prog FPk D.G1 := (((((((((((((D.F0_okg.into Tryz.func93 (by kernel_rfl) (by kernel_rfl)).plusG D.levels_ct Tryz.func94 (by kernel_rfl) (by kernel_rfl)).over lp_ct Tryz.func95 (by kernel_rfl) (by kernel_rfl)).over eused_ct Tryz.func96 (by kernel_rfl) (by kernel_rfl)).plus D.room_ct Tryz.func69 (by kernel_rfl) (by kernel_rfl)).plusG D.pulsesS_ct Tryz.func68 (by kernel_rfl) (by kernel_rfl)).overG D.band_ct Tryz.func99 (by kernel_rfl) (by kernel_rfl)).over held_ct Tryz.func98 (by kernel_rfl) (by kernel_rfl)).over C.find_ct Tryz.func97 (by kernel_rfl) (by kernel_rfl)).over V.number_ct Tryz.func100 (by kernel_rfl) (by kernel_rfl)).plusG D.size_ct Tryz.func103 (by kernel_rfl) (by kernel_rfl)).plus D.bits_ct Tryz.func102 (by kernel_rfl) (by kernel_rfl)).over ebits_ct Tryz.func101 (by kernel_rfl) (by kernel_rfl)).over done_ct Tryz.func104 (by kernel_rfl) (by kernel_rfl)
theorem FPx_ok : FnsOk Tryz.prog FPx D.G1 := ((FPk_ok.every _).every _).every _

theorem size_pos {b : Int} (h : 0 ≤ b ∧ b ≤ 3) : 1 ≤ D.sizeS b := by
  obtain rfl | rfl | rfl | rfl : b = 0 ∨ b = 1 ∨ b = 2 ∨ b = 3 := by omega
  all_goals decide
structure PK where
  k : Nat
  H : List Blk
  e : ES
def p1J (H : List Blk) (e : ES) (m : Nat) (s : PK) : Prop := (m = 4 - s.k ∧ s.k ≤ 4) ∧ EUp H 2 e s.H s.e ∧ EOk s.e (3 * s.k) ∧ usedE s.e ≤ 12 * s.k
def p2J (H : List Blk) (e : ES) (ks : List Int) (m : Nat) (s : PK) : Prop := (m = 4 - s.k ∧ s.k ≤ 4) ∧ EUp H 2 e s.H s.e ∧ EOk s.e (12 + 9 * s.k) ∧ usedE s.e ≤ usedE e + D.costs ks s.k
abbrev eNew (n : Int) : ES := ⟨n, 0, 4294967295, 0, 0, 0, []⟩
theorem packet_walk {was : List Int} (hw : LvOk was) {wv : List Int} (hv : wv.length = 16) {n : Int} (hn : 10 ≤ n ∧ n ≤ 32) : walkgr FPx 1 Tryz.f62 [.agg [.ints .i64 4 was], .agg [.ints .i64 16 wv], i64 n] [] (Made (doneP n)) := by
  have hwl := hw.1
  repeat' ((conv => whnf); first | (refine ask_false (by omega) ?_) | (refine ask_true (by omega) ?_) | fail)
  conv => whnf
  obtain ⟨lv, elv⟩ : ∃ lv, lv = D.levZ wv := ⟨_, rfl⟩
  have lvi : ∀ i : Nat, i < 4 → 0 ≤ lv.getD i 0 ∧ lv.getD i 0 ≤ 20 := fun i hi => by rw [elv, D.levZ_at wv hi]; exact D.levS_in _ _
  rw [← elv]
  have hb0 : ∀ b ∈ ([iB 49 4 was, iB 48 16 wv, eN n 0 4294967295, iB 49 4 lv] : List Blk), b.bnd ([iB 49 4 was, iB 48 16 wv, eN n 0 4294967295, iB 49 4 lv] : List Blk).length = true := by
    intro b hb
    simp only [List.mem_cons, List.not_mem_nil, or_false] at hb
    rcases hb with rfl | rfl | rfl | rfl <;> rfl
  have up0 : EUp [iB 49 4 was, iB 48 16 wv, eN n 0 4294967295, iB 49 4 lv] 2 (eNew n) [iB 49 4 was, iB 48 16 wv, eN n 0 4294967295, iB 49 4 lv] (eNew n) := EUp.refl (.inl ⟨rfl, rfl, rfl⟩) hb0
  have us0 : usedE (eNew n) = 0 := by
    show usedS 0 4294967295 = 0
    unfold usedS lz32
    have e31 : pw 31 = 2147483648 := by rw [pw_def]; decide
    have h1 := D.len_half (x := 4294967295) (k := 31) (by decide) (by rw [e31]; decide)
    rw [e31, show (4294967295 : Int) / 2147483648 = 1 from by decide] at h1
    have h2 := (D.len_bounds (x := 1) (by decide)).2.2
    have h3 := len_32 (x := 4294967295) (by decide)
    omega
  have ok0 : EOk (eNew n) (3 * 0) := ⟨show (0 : Int) ≤ 0 by decide, show (0 : Int) ≤ 4294967295 by decide, show (16777216 : Int) ≤ 4294967295 by decide, show (4294967295 : Int) ≤ 4294967295 by decide, Nat.le_refl _⟩
  refine loop_upJ (11 :: 12 :: List.range' 30 12) (fun m (s : PK) => p1J [iB 49 4 was, iB 48 16 wv, eN n 0 4294967295, iB 49 4 lv] (eNew n) m s) (fun s => [(30, vi s.k)]) (fun s => s.H) 4 ⟨0, _, eNew n⟩ ⟨⟨rfl, Nat.zero_le _⟩, up0, ok0, by show usedE (eNew n) ≤ 12 * ((0 : Nat) : Int); rw [us0]; decide⟩ ?_ ?_ ?_
  · rintro m s ⟨_, u, _, _⟩
    have hl : 4 ≤ s.H.length := u.len
    have d0 := decide_eq_true (show 0 < s.H.length by omega)
    have d1 := decide_eq_true (show 1 < s.H.length by omega)
    have d2 := decide_eq_true (show 2 < s.H.length by omega)
    have d3 := decide_eq_true (show 3 < s.H.length by omega)
    repeat' (first | rfl | exact d0 | exact d1 | exact d2 | exact d3 | refine and_t ?_ ?_)
  · exact ⟨rfl, ⟨⟨Nat.le_of_ble_eq_true rfl, rfl⟩, trivial⟩, wkH_refl _, rfl, Nat.zero_le _⟩
  · rintro m s ⟨⟨rfl, k4⟩, u, ok, hu⟩
    have c0 : (eNew n).cap = 0 := rfl
    have hl : 4 ≤ s.H.length := u.len
    have h0 : s.H[0]? = some (iB 49 4 was) := u.keep 0 _ rfl (by decide) (.inl c0)
    have h1 : s.H[1]? = some (iB 48 16 wv) := u.keep 1 _ rfl (by decide) (.inl c0)
    have h3 : s.H[3]? = some (iB 49 4 lv) := u.keep 3 _ rfl (by decide) (.inl c0)
    rcases Nat.lt_or_ge s.k 4 with g | g
    · have em : mulN (s.k : Int).toNat (Tryz.prog.types[3]).size = s.k := (D.mulN1 _).trans (Int.toNat_natCast s.k)
      have a1 := hw.at (mulN (s.k : Int).toNat (Tryz.prog.types[3]).size)
      have a2 := lvi (mulN (s.k : Int).toNat (Tryz.prog.types[3]).size) (by omega)
      repeat' ((conv => whnf); first | (refine ask_true (by omega) ?_) | (refine hGet_at h0 ?_) | (refine And.intro (And.intro (by omega) (by omega)) ?_) | (refine And.intro (show mulN (s.k : Int).toNat (Tryz.prog.types[3]).size < 4 by omega) ?_) | (refine fun (_ : InK _ _) => ?_) | fail)
      refine ask_wrap64 (by omega) (by omega) ?_
      repeat' ((conv => whnf); first | fail)
      conv => whnf
      refine ⟨s.e, u.at', ⟨ok.l0, ok.l1, ok.r0, ok.r1, Nat.le_trans ok.g (by omega)⟩, by omega, fun H' e' up' ok' hu' => ?_⟩
      repeat' ((conv => whnf); first | (refine ask_wrap64 (by omega) (by omega) ?_) | fail)
      have oe := ok'.g
      refine ⟨4 - (s.k + 1), ⟨s.k + 1, H', e'⟩, by omega, ⟨⟨rfl, g⟩, u.trans up', ⟨ok'.l0, ok'.l1, ok'.r0, ok'.r1, Nat.le_trans oe (by have := ok.g; dsimp only; omega)⟩, by dsimp only; omega⟩, ⟨rfl, ⟨⟨Nat.le_of_ble_eq_true rfl, rfl⟩, trivial⟩, wkH_refl _, bndH_of up'.bnd, Nat.zero_le _⟩⟩
    · obtain ⟨kk, ekk⟩ : ∃ kk, kk = s.k := ⟨_, rfl⟩
      repeat' ((conv => whnf); first | (refine ask_false (by omega) ?_) | fail)
      conv => whnf
      refine red_each (by kernel_rfl) ?_
      have g100 : s.e.g ≤ 100000000 := Nat.le_trans ok.g (by omega)
      refine (fun (hrest : ?P) => ?walk) ?rest
      case walk =>
        repeat' ((conv => whnf); first | (refine And.intro ?_ (And.intro ?_ (And.intro ?_ trivial))) | (refine And.intro ?_ (And.intro ?_ trivial)) | (refine And.intro ?_ trivial) | (refine hGet_at h3 ?_) | (refine hGet_at (up_get h3) ?_) | (refine lenH_is ?_) | (refine pushH_at ?_) | (refine Exists.intro s.e (And.intro u.at' (And.intro g100 fun uu huu => ?_)); subst huu) | (refine Exists.intro s.e (And.intro (EUp.app u.at' u.bnd rfl).at' (And.intro g100 fun uu huu => ?_)); subst huu) | (refine And.intro trivial ?_) | (refine hGet_at (up_top s.H _) ?_) | (refine setH_as (set_top s.H _ _) ?_) | exact trivial | fail)
        all_goals (conv => whnf)
        all_goals exact hrest
      obtain ⟨ks, eks⟩ : ∃ ks, ks = D.pulS lv (D.roomS n (usedE s.e)) := ⟨_, rfl⟩
      have kok : D.KOk ks := by rw [eks]; exact D.pulS_ok _ _
      rw [← eks]
      have hq : s.e.cap = 0 ∨ 4 ≤ s.e.q := by
        rcases u.new with h | ⟨h, _⟩ | h
        · exact .inl h
        · exact absurd c0 h
        · exact .inr h
      have hql := u.at'.q_lt
      have uB := EUp.app u.at' u.bnd (b := iB 49 4 ks) rfl
      have hlB : (s.H ++ [iB 49 4 ks]).length = s.H.length + 1 := by simp
      refine loop_upJ (List.range' 14 5 ++ List.range' 48 33) (fun m (t : PK) => p2J (s.H ++ [iB 49 4 ks]) s.e ks m t) (fun t => [(48, vi t.k)]) (fun t => t.H) 4 ⟨0, _, s.e⟩ ⟨⟨rfl, Nat.zero_le _⟩, EUp.refl uB.at' uB.bnd, ⟨ok.l0, ok.l1, ok.r0, ok.r1, Nat.le_trans ok.g (by omega)⟩, by show usedE s.e ≤ usedE s.e + 0; omega⟩ ?_ ?_ ?_
      · rintro m t ⟨_, uu, _, _⟩
        have hl' : s.H.length + 1 ≤ t.H.length := by rw [← hlB]; exact uu.len
        have d0 := decide_eq_true (show 0 < t.H.length by omega)
        have d1 := decide_eq_true (show 1 < t.H.length by omega)
        have d2 := decide_eq_true (show 2 < t.H.length by omega)
        have d3 := decide_eq_true (show 3 < t.H.length by omega)
        have d4 := decide_eq_true (show s.H.length < t.H.length by omega)
        repeat' (first | rfl | exact d0 | exact d1 | exact d2 | exact d3 | exact d4 | refine and_t ?_ ?_)
      · exact ⟨rfl, ⟨⟨Nat.le_of_ble_eq_true rfl, rfl⟩, trivial⟩, wkH_refl _, bndH_of uB.bnd, Nat.zero_le _⟩
      · rintro m t ⟨⟨rfl, t4⟩, uu, okk, huu⟩
        have hl' : s.H.length + 1 ≤ t.H.length := by rw [← hlB]; exact uu.len
        have g1 : t.H[1]? = some (iB 48 16 wv) := uu.keep 1 _ (up_get h1) (by decide) (hq.imp_right fun h => by omega)
        have gk : t.H[s.H.length]? = some (iB 49 4 ks) := uu.keep _ _ (up_top _ _) (by omega) (hql.imp_right fun h => by omega)
        rcases Nat.lt_or_ge t.k 4 with gt | gt
        · have em : mulN (t.k : Int).toNat (Tryz.prog.types[3]).size = t.k := (D.mulN1 _).trans (Int.toNat_natCast t.k)
          have a3 := kok.at' (mulN (t.k : Int).toNat (Tryz.prog.types[3]).size)
          have hcs : D.costs ks (t.k + 1) = D.costs ks t.k + D.costS t.k (ks.getD t.k 0) := rfl
          have hcp := D.costS_in t.k (ks.getD t.k 0)
          repeat' ((conv => whnf); first | (refine ask_true (by omega) ?_) | (refine hGet_at gk ?_) | (refine And.intro (And.intro (by omega) (by omega)) ?_) | (refine And.intro (show mulN (t.k : Int).toNat (Tryz.prog.types[3]).size < 4 by omega) ?_) | (refine fun (_ : InK _ _) => ?_) | fail)
          conv => whnf
          refine ask_split (fun kz => ?_) (fun kz => ?_)
          · repeat' ((conv => whnf); first | (refine ask_wrap64 (by omega) (by omega) ?_) | fail)
            exact ⟨4 - (t.k + 1), ⟨t.k + 1, t.H, t.e⟩, by omega, ⟨⟨rfl, gt⟩, uu, ⟨okk.l0, okk.l1, okk.r0, okk.r1, Nat.le_trans okk.g (by dsimp only; omega)⟩, by dsimp only; omega⟩, ⟨rfl, ⟨⟨Nat.le_of_ble_eq_true rfl, rfl⟩, trivial⟩, wkH_refl _, bndH_of uu.bnd, Nat.zero_le _⟩⟩
          · have bl := D.bandZ_len hv (t.k : Int)
            have hne : D.bandZ wv (t.k : Int) ≠ [] := fun e => by
              rw [e] at bl
              have hs : 1 ≤ D.sizeS (t.k : Int) := size_pos (by omega)
              simp at bl
              omega
            have hbits := bitS24 (b := (t.k : Int)) (by omega) a3
            have okE : EOk t.e 80000000 := ⟨okk.l0, okk.l1, okk.r0, okk.r1, Nat.le_trans okk.g (by omega)⟩
            repeat' ((conv => whnf); first | fail)
            conv => whnf
            refine red_each (by kernel_rfl) ?_
            repeat' ((conv => whnf); first | (refine hGet_at g1 ?_) | (refine hGet_at gk ?_) | (refine hGet_at (up_get gk) ?_) | (refine hGet_at (up_get (up_get gk)) ?_) | (refine hGet_at (up_top _ _) ?_) | (refine And.intro (And.intro (by omega) (by omega)) ?_) | (refine And.intro (show mulN (t.k : Int).toNat (Tryz.prog.types[3]).size < 4 by omega) ?_) | (refine fun (_ : InK _ _) => ?_) | (refine And.intro (fun e => absurd e hne) (fun _ c rest hc1 hc2 hc3 => ?_)) | (refine Exists.intro _ (And.intro (up_top _ _) (And.intro (And.intro hc1 hc2) fun ys y1 y2 => ?_)); rw [set_top]) | (refine And.intro (And.intro rfl rfl) ?_) | (refine And.intro rfl (And.intro (fun _ => ?_) (fun _ => ?_))) | (refine And.intro (fun _ => ?_) (fun _ => ?_)) | (refine And.intro ?_ (And.intro ?_ (And.intro ?_ trivial))) | (refine And.intro ?_ (And.intro ?_ trivial)) | (refine And.intro ?_ trivial) | fail)
            all_goals (conv => whnf)
            all_goals (refine red_each (by kernel_rfl) ?_)
            all_goals (repeat' ((conv => whnf); first | (refine hGet_at (up_get gk) ?_) | (refine hGet_at (up_get (up_get gk)) ?_) | (refine And.intro (And.intro (by omega) (by omega)) ?_) | (refine And.intro (show mulN (t.k : Int).toNat (Tryz.prog.types[3]).size < 4 by omega) ?_) | (refine fun (_ : InK _ _) => ?_) | (refine And.intro trivial ?_) | (refine Exists.intro t.e (And.intro (uu.app1 (by rfl)).at' (And.intro okE (And.intro hbits fun r H' e' up' ok' hu' => ?_)))) | (refine Exists.intro t.e (And.intro ((uu.app1 (by rfl)).app1 (by rfl)).at' (And.intro okE (And.intro hbits fun r H' e' up' ok' hu' => ?_)))) | (refine And.intro ?_ (And.intro ?_ (And.intro ?_ trivial))) | (refine And.intro ?_ (And.intro ?_ trivial)) | (refine And.intro ?_ trivial) | (refine ask_wrap64 (by omega) (by omega) ?_) | fail))
            all_goals (conv => whnf)
            all_goals rw [em] at hu'
            all_goals rw [D.costS_def] at hcs hcp
            all_goals (have oe := ok'.g; have og := okk.g)
            all_goals (refine ⟨4 - (t.k + 1), ⟨t.k + 1, H', e'⟩, by omega, ⟨⟨rfl, gt⟩, ?_, ⟨ok'.l0, ok'.l1, ok'.r0, ok'.r1, Nat.le_trans oe (by dsimp only; omega)⟩, by dsimp only; omega⟩, ⟨rfl, ⟨⟨Nat.le_of_ble_eq_true rfl, rfl⟩, trivial⟩, wkH_refl _, bndH_of up'.bnd, Nat.zero_le _⟩⟩)
            all_goals first | exact (uu.app1 (by rfl)).trans up' | exact ((uu.app1 (by rfl)).app1 (by rfl)).trans up'
        · obtain ⟨tt, ett⟩ : ∃ tt, tt = t.k := ⟨_, rfl⟩
          have e4 : t.k = 4 := by omega
          have s4 : s.k = 4 := by omega
          have l1 := len_32 (x := t.e.rg) okk.r1
          have l2 := len_32 (x := s.e.rg) ok.r1
          have room : D.rightP lv (D.roomS n (usedE s.e)) := (D.rightP_def _ _).2 ⟨lvi, by unfold D.roomS; split <;> omega, by unfold D.roomS; split <;> omega⟩
          have gv := (D.pul_given room).pos
          rw [← eks] at gv
          have ur : D.roomS n (usedE s.e) = max (8 * n - 40 - usedE s.e) 0 := by
            have : 0 ≤ usedE s.e := by unfold usedE usedS lz32; omega
            unfold D.roomS
            rw [if_neg (by omega)]
          have ug : 8 * (t.e.g : Int) ≤ usedE t.e := by unfold usedE usedS lz32; omega
          rw [s4] at hu
          rw [e4] at huu
          have esz : t.e.sz = n := uu.sz.trans u.sz
          repeat' ((conv => whnf); first | (refine ask_false (by omega) ?_) | fail)
          conv => whnf
          refine ⟨t.e, uu.at', ⟨by rw [esz]; omega, by rw [esz]; omega⟩, fun p hp => ?_⟩
          rw [esz] at hp
          repeat' ((conv => whnf); first | fail)
          exact done_made hp
def hPack : HCt := fun ws H K => match ws with
  | [.agg [.ints .i64 4 was], .agg [.ints .i64 16 _], .c (.ci .i64 n)] => LvOk was ∧ (10 ≤ n ∧ n ≤ 32) ∧ ∀ p : ByteArray, (p.size : Int) = n → K (.tup [.c (.cs p), i64 0]) H
  | _ => False
theorem packet_ct : HCtOkG Tryz.prog D.G1 62 hPack := by
  intro ws H K h hr hb ho σ base w₀ w hw
  unfold hPack at h
  split at h
  · rename_i was wv n
    obtain ⟨h1, h2, hK⟩ := h
    exact call_liftG D.E1_ok (G := D.G1) (fun g ss hg => hg) (calgr_ok FPx_ok 1) (drwR_ok D.E1_ok FPx_ok mixed _ (calgr_ok FPx_ok 1)) (ws := [.agg [.ints .i64 4 was], .agg [.ints .i64 16 wv], i64 n]) (R := []) (P0 := doneP n) Tryz.func62 C.nil_ok hr rfl (packet_walk h1 hr.2.1.1.1 h2) (fun x N hP b hb => by rw [hP.2] at hb; cases hb) (ρ := id) C.no_ro (fun x N hP => by
      obtain ⟨⟨p, rfl, hp⟩, rfl⟩ := hP
      rw [List.map_nil, List.append_nil]
      exact hK p hp) ho σ base w₀ w hw
  · exact h.elim
end R
end Go.Proofs.YtaficaacogcblaaGreatDoor
