/- Chapters state and lost: the document's next state, and its lost frame. -/
import Derived.Test.YtbgjmlncdlcglaaBnc
set_option linter.all false
namespace Go.Proofs.Ytbgjmlncdlcglaa
open Go.RowKit (Below)
set_option maxRecDepth 100000
set_option maxHeartbeats 32000000

noncomputable def FRn : Fns := (F0.plus 46 (ctA32 held backZ)).plus 43 (ct2 (fun _ n => 1 ≤ n ∧ n ≤ 62) cutS) |>.plus 92 (ctLA (fun l xs => layZ (c22 l) xs) (fun l xs => layP (c22 l) xs 16))
theorem FRn_ok : FnsOk Try.prog FRn := ((F0_ok.plus refBack_ct Try.func46 (by kernel_rfl) (by kernel_rfl)).plus refCut_ct Try.func43 (by kernel_rfl) (by kernel_rfl)).plus refLay_ct Try.func92 (by kernel_rfl) (by kernel_rfl)
abbrev o4 (xs : List Int) : Blk := .own 42 [.ints .i64 4 xs]
theorem soundZ_len (xs : List Int) : (soundZ xs).length = xs.length := by simp [soundZ]
theorem laidZ_len (s : St) (wv : List Int) : (laidZ s wv).length = 16 := layZ_len _ _
theorem refNext_walk (s : St) (lv wv : List Int) (q : Int) (h : StOk s) (hv : lv.length = 4 ∧ ∀ x ∈ lv, InK .i64 x) (hw : wv.length = 16 ∧ ∀ x ∈ wv, InK .i64 x) (hq : InK .i64 q) (h1 : rightP s) (h2 : held wv) :
    walk FRn 0 Try.f61 [stW s, ar 4 lv, ar 16 wv, i64 q] [] fun y _ => y = .tup [ar 16 (soundZ (laidZ s wv)), stW ⟨memZ wv, laidP s wv, lv, wv, q⟩] := by
  have hr := h1
  rw [rightP_def] at hr
  have hml := h.m.1
  repeat' ((conv => whnf); first | (refine And.intro rfl ?_) | (refine And.intro h2 ?_) | (refine ⟨by kernel_rfl, ?_⟩) | fail)
  refine loop_at (12 :: List.range' 19 16) (fun m (i : Int) => 0 ≤ i ∧ i ≤ 16 ∧ m = (16 - i).toNat) (fun i => [(12, vi i)]) (fun i => [rb s, o4 lv, oa wv, oa z16, rb st0, o32 (backZ wv), oa (stg (overZ s.m (back1 wv)) z16 i)]) 16 0 ⟨by decide, by decide, rfl⟩ ?_ ?_
  · exact ⟨rfl, ⟨⟨Nat.le_of_ble_eq_true rfl, rfl⟩, trivial⟩, ⟨rfl, rfl, rfl, rfl, rfl, rfl, by (rw [stg_zero]; try rfl), trivial⟩, rfl, rfl, Nat.zero_le _⟩
  · rintro m i ⟨i0, i1, rfl⟩
    have em : mulN i.toNat (Try.prog.types[3]).size = i.toNat := mulN1 i.toNat
    rcases Int.lt_or_le i 16 with i2 | i2
    · have b1 := hr.1 _ (mem_at (i := mulN i.toNat (Try.prog.types[3]).size) (by omega))
      have b2 := cut32_bound ((backZ wv).getD (mulN i.toNat (Try.prog.types[3]).size) 0)
      have b3 := cut32 (s.m.getD (mulN i.toNat (Try.prog.types[3]).size) 0)
      repeat' ((conv => whnf); first | (refine ask_true (by omega) ?_) | (refine And.intro (by omega) ?_) | (refine And.intro ⟨by omega, by omega⟩ ?_) | (refine fun (_ : InK _ _) => ?_) | (refine ask_wrap64 (by omega) (by omega) ?_) | (refine ⟨by kernel_rfl, ?_⟩) | fail)
      conv => whnf
      refine ⟨(16 - (i + 1)).toNat, i + 1, by omega, ⟨by omega, by omega, rfl⟩, rfl, ⟨⟨Nat.le_of_ble_eq_true rfl, rfl⟩, trivial⟩, ⟨rfl, rfl, rfl, rfl, rfl, rfl, ?_, trivial⟩, rfl, rfl, Nat.zero_le _⟩
      refine congrArg oa (stg_set em (by rw [overZ_len]; rfl) i0 (by rw [overZ_len]; omega) ?_).symm
      rw [overZ_at _ _ (by omega)]
      unfold over1
      have e5 : cutS (s.m.getD i.toNat 0) 32 = s.m.getD (mulN i.toNat (Try.prog.types[3]).size) 0 := by rw [em] at b3 b1 ⊢; omega
      have e6 : (back1 wv).getD i.toNat 0 = (backZ wv).getD (mulN i.toNat (Try.prog.types[3]).size) 0 := by
        rw [em]; unfold back1
        rw [List.getD_eq_getElem?_getD, List.getD_eq_getElem?_getD, List.getElem?_take_of_lt (by omega)]
      rw [e5, e6]
    · have hi : i = 16 := by omega
      subst hi
      rw [stg_all (by rw [overZ_len]; rfl) (by rw [overZ_len]; rfl)]
      repeat' ((conv => whnf); first | (refine ask_false (by omega) ?_) | (refine And.intro rfl ?_) | (refine ⟨by kernel_rfl, ?_⟩) | fail)
      conv => whnf
      refine loop_at (16 :: List.range' 47 18) (fun m (i : Int) => 0 ≤ i ∧ i ≤ 16 ∧ m = (16 - i).toNat) (fun i => [(16, vi i)]) (fun i => [rb s, o4 lv, oa wv, oa z16, rb st0, o32 (backZ wv), oa (overZ s.m (back1 wv)), oa (stg (soundZ (laidZ s wv)) (laidZ s wv) i), rb ⟨stg (memZ wv) z16 i, laidP s wv, lv, wv, q⟩]) 16 0 ⟨by decide, by decide, rfl⟩ ?_ ?_
      · exact ⟨rfl, ⟨⟨Nat.le_of_ble_eq_true rfl, rfl⟩, trivial⟩, ⟨rfl, rfl, rfl, rfl, rfl, rfl, rfl, by (rw [stg_zero]; try rfl), by (rw [stg_zero]; try rfl), trivial⟩, rfl, rfl, Nat.zero_le _⟩
      · rintro m i ⟨i0, i1, rfl⟩
        have em : mulN i.toNat (Try.prog.types[3]).size = i.toNat := mulN1 i.toNat
        have em' : mulN (16 + i).toNat (Try.prog.types[3]).size = (16 + i).toNat := mulN1 _
        rcases Int.lt_or_le i 16 with i2 | i2
        · have e1 := stg_at (zs := soundZ (laidZ s wv)) (xs := laidZ s wv) em (soundZ_len _) i0 (by rw [laidZ_len]; exact i2)
          repeat' ((conv => whnf); first | (refine ask_true (by omega) ?_) | (refine And.intro (by omega) ?_) | (refine And.intro ⟨by omega, by omega⟩ ?_) | (refine fun (_ : InK _ _) => ?_) | (refine ask_wrap64 (by omega) (by omega) ?_) | (refine ⟨by kernel_rfl, ?_⟩) | fail)
          conv => whnf
          refine ⟨(16 - (i + 1)).toNat, i + 1, by omega, ⟨by omega, by omega, rfl⟩, rfl, ⟨⟨Nat.le_of_ble_eq_true rfl, rfl⟩, trivial⟩, ⟨rfl, rfl, rfl, rfl, rfl, rfl, rfl, ?_, ?_, trivial⟩, rfl, rfl, Nat.zero_le _⟩
          · refine congrArg oa (stg_set em (soundZ_len _) i0 (by rw [soundZ_len, laidZ_len]; omega) ?_).symm
            rw [e1, em]
            unfold soundZ
            rw [getD_map (by rw [laidZ_len]; omega), c16_def]
          · refine congrArg (fun zs => rb ⟨zs, laidP s wv, lv, wv, q⟩) (stg_set em (by rw [memZ_len]; rfl) i0 (by rw [memZ_len]; omega) ?_).symm
            unfold memZ
            rw [getD_map (by rw [back2_len]; omega), em']
            congr 1
            unfold back2
            rw [List.getD_eq_getElem?_getD, List.getD_eq_getElem?_getD, List.getElem?_drop, show (16 + i).toNat = 16 + i.toNat by omega]
        · have hi : i = 16 := by omega
          subst hi
          rw [stg_all (soundZ_len _) (by rw [soundZ_len, laidZ_len]; rfl), stg_all (by rw [memZ_len]; rfl) (by rw [memZ_len]; rfl)]
          repeat' ((conv => whnf); first | (refine ask_false (by omega) ?_) | (refine ⟨by kernel_rfl, ?_⟩) | rfl | fail)
def ctRNext : Ct := fun ws K => match ws with
  | [.agg [.ints .i64 n m, .one (.ci .i64 l), .ints .i64 a v, .ints .i64 b w, .one (.ci .i64 q)], .agg [.ints .i64 c lv], .agg [.ints .i64 d wv], .c (.ci .i64 lo)] => (n = 16 ∧ a = 4 ∧ b = 16 ∧ c = 4 ∧ d = 16) ∧ (rightP ⟨m, l, v, w, q⟩ ∧ held wv) ∧ K (.tup [ar 16 (soundZ (laidZ ⟨m, l, v, w, q⟩ wv)), stW ⟨memZ wv, laidP ⟨m, l, v, w, q⟩ wv, lv, wv, lo⟩])
  | _ => False
theorem refNext_ct : CtOk Try.prog 61 ctRNext := by
  intro ws K h' hr
  unfold ctRNext at h'
  split at h'
  · rename_i n m l a v b w q c lv d wv lo
    obtain ⟨⟨rfl, rfl, rfl, rfl, rfl⟩, hp, h'⟩ := h'
    obtain ⟨r1, r2, r3, r4, _⟩ := hr
    have ok : StOk ⟨m, l, v, w, q⟩ := stOk_of r1
    have ok2 : StOk ⟨memZ wv, laidP ⟨m, l, v, w, q⟩ wv, lv, wv, lo⟩ := ⟨⟨memZ_len wv, fun x hx => in_of (memZ_in hx)⟩, in_of (by have := laidP_in ⟨m, l, v, w, q⟩ wv; show -2147483648 ≤ laidP ⟨m, l, v, w, q⟩ wv ∧ laidP ⟨m, l, v, w, q⟩ wv ≤ 2147483647; omega), r2.1, r3.1, r4⟩
    refine ⟨_, h', ⟨⟨ar_rng (by rw [soundZ_len, laidZ_len]) fun x hx => in_of (by have := soundZ_in hx; omega), ok2.rng, trivial⟩, rfl⟩, walk_calls FRn_ok Try.func61 rfl (ws := [stW ⟨m, l, v, w, q⟩, ar 4 lv, ar 16 wv, i64 lo]) ⟨ok.rng, r2, r3, r4, trivial⟩ rfl (refNext_walk _ lv wv lo ok r2.1 r3.1 r4 hp.1 hp.2)⟩
  · exact h'.elim

noncomputable def FRl : Fns := F0.plus 61 ctRNext
theorem FRl_ok : FnsOk Try.prog FRl := F0_ok.plus refNext_ct Try.func61 (by kernel_rfl) (by kernel_rfl)
theorem set_same {xs : List Int} {m : Nat} {v : Int} (h : xs.getD m 0 = v) : xs.set m v = xs := by
  apply List.ext_getElem?
  intro k
  rcases Nat.lt_or_ge m xs.length with hm | hm
  · by_cases hk : m = k
    · subst hk
      rw [List.getElem?_set_self hm, List.getElem?_eq_getElem hm, ← h, List.getD_eq_getElem?_getD, List.getElem?_eq_getElem hm]; rfl
    · rw [List.getElem?_set_ne hk]
  · rw [List.set_eq_of_length_le hm]
theorem refLose_walk (s : St) (h : StOk s) (h1 : rightP s) : walk FRl 0 Try.f54 [stW s] [] fun y _ => y = .tup [ar 16 (loseOut s), stW (loseSt s)] := by
  rw [loseOut_eq h1, loseSt_eq h1]
  have hr := h1
  rw [rightP_def] at hr
  have hh := halfZ_held h1
  have hwl := h.w.1
  have hvl := h.v.1
  rcases Int.lt_or_le s.q 8 with hq | hq
  · have hz : halfZ s = s.w.map fun x => x.tdiv 2 := if_pos hq
    repeat' ((conv => whnf); first | fail)
    conv => whnf
    refine loop_at (6 :: List.range' 9 16) (fun m (i : Int) => 0 ≤ i ∧ i ≤ 16 ∧ m = (16 - i).toNat) (fun i => [(6, vi i)]) (fun i => [rb s, oa z16, rb st0, oa (stg (halfZ s) z16 i), o4 z4]) 16 0 ⟨by decide, by decide, rfl⟩ ?_ ?_
    · exact ⟨rfl, ⟨⟨Nat.le_of_ble_eq_true rfl, rfl⟩, trivial⟩, ⟨rfl, rfl, rfl, by (rw [stg_zero]; try rfl), rfl, trivial⟩, rfl, rfl, Nat.zero_le _⟩
    · rintro m i ⟨i0, i1, rfl⟩
      have em : mulN i.toNat (Try.prog.types[3]).size = i.toNat := mulN1 i.toNat
      rcases Int.lt_or_le i 16 with i2 | i2
      · repeat' ((conv => whnf); first | (refine ask_true (by omega) ?_) | (refine And.intro (by omega) ?_) | (refine ask_in64 fun b1 b2 => ?_) | (refine ask_wrap64 (half_bound (by assumption) (by assumption)).1 (half_bound (by assumption) (by assumption)).2 ?_) | (refine ask_wrap64 (by omega) (by omega) ?_) | fail)
        conv => whnf
        refine ⟨(16 - (i + 1)).toNat, i + 1, by omega, ⟨by omega, by omega, rfl⟩, rfl, ⟨⟨Nat.le_of_ble_eq_true rfl, rfl⟩, trivial⟩, ⟨rfl, rfl, rfl, ?_, rfl, trivial⟩, rfl, rfl, Nat.zero_le _⟩
        refine congrArg oa (stg_set em (by rw [halfZ_len h]; rfl) i0 (by rw [halfZ_len h]; omega) ?_).symm
        rw [hz, getD_map (by omega), em]
      · have hi : i = 16 := by omega
        subst hi
        rw [stg_all (by rw [halfZ_len h]; rfl) (by rw [halfZ_len h]; rfl)]
        repeat' ((conv => whnf); first | (refine ask_false (by omega) ?_) | fail)
        conv => whnf
        refine loop_at (7 :: List.range' 25 16) (fun m (i : Int) => 0 ≤ i ∧ i ≤ 4 ∧ m = (4 - i).toNat) (fun i => [(7, vi i)]) (fun i => [rb s, oa z16, rb st0, oa (halfZ s), o4 (stg (lessZ s) z4 i)]) 4 0 ⟨by decide, by decide, rfl⟩ ?_ ?_
        · exact ⟨rfl, ⟨⟨Nat.le_of_ble_eq_true rfl, rfl⟩, trivial⟩, ⟨rfl, rfl, rfl, rfl, by (rw [stg_zero]; try rfl), trivial⟩, rfl, rfl, Nat.zero_le _⟩
        · rintro m i ⟨i0, i1, rfl⟩
          have em : mulN i.toNat (Try.prog.types[3]).size = i.toNat := mulN1 i.toNat
          rcases Int.lt_or_le i 4 with i2 | i2
          · have e2 := hr.2.1 _ (mem_at (i := mulN i.toNat (Try.prog.types[3]).size) (by omega))
            have e3 : (lessZ s).getD i.toNat 0 = max (s.v.getD (mulN i.toNat (Try.prog.types[3]).size) 0 - 1) 0 := by unfold lessZ; rw [getD_map (by omega), em]
            have e4 := stg_at (zs := lessZ s) (xs := z4) em (by rw [lessZ_len h]; rfl) i0 i2
            repeat' ((conv => whnf); first | (refine ask_true (by omega) ?_) | (refine And.intro (by omega) ?_) | (refine fun (_ : InK _ _) => ?_) | fail)
            refine ask_split (fun g1 => ?_) (fun g1 => ?_)
            · repeat' ((conv => whnf); first | (refine And.intro (by omega) ?_) | (refine fun (_ : InK _ _) => ?_) | (refine ask_wrap64 (by omega) (by omega) ?_) | fail)
              conv => whnf
              refine ⟨(4 - (i + 1)).toNat, i + 1, by omega, ⟨by omega, by omega, rfl⟩, rfl, ⟨⟨Nat.le_of_ble_eq_true rfl, rfl⟩, trivial⟩, ⟨rfl, rfl, rfl, rfl, ?_, trivial⟩, rfl, rfl, Nat.zero_le _⟩
              exact congrArg o4 (stg_set em (by rw [lessZ_len h]; rfl) i0 (by rw [lessZ_len h]; omega) (by rw [e3]; omega)).symm
            · repeat' ((conv => whnf); first | (refine ask_wrap64 (by omega) (by omega) ?_) | fail)
              conv => whnf
              refine ⟨(4 - (i + 1)).toNat, i + 1, by omega, ⟨by omega, by omega, rfl⟩, rfl, ⟨⟨Nat.le_of_ble_eq_true rfl, rfl⟩, trivial⟩, ⟨rfl, rfl, rfl, rfl, ?_, trivial⟩, rfl, rfl, Nat.zero_le _⟩
              have e5 := stg_set (zs := lessZ s) (xs := z4) (v := 0) em (by rw [lessZ_len h]; rfl) i0 (by rw [lessZ_len h]; omega) (by rw [e3]; omega)
              rw [← e5]
              refine congrArg o4 ?_
              have hz4 : z4.getD (mulN i.toNat (Try.prog.types[3]).size) 0 = 0 := by
                rw [em, List.getD_eq_getElem?_getD]
                cases hx : z4[i.toNat]? with
                | none => rfl
                | some v =>
                  have := List.mem_of_getElem? hx
                  simp only [z4, List.mem_cons, List.not_mem_nil, or_false, or_self] at this
                  rw [this]; rfl
              rw [hz4] at e4
              exact set_same e4
          · have hi : i = 4 := by omega
            subst hi
            rw [stg_all (by rw [lessZ_len h]; rfl) (by rw [lessZ_len h]; rfl)]
            repeat' ((conv => whnf); first | (refine ask_false (by omega) ?_) | (refine ask_wrap64 (by omega) (by omega) ?_) | fail)
            rw [show min (s.q + 1) 255 = s.q + 1 by omega]
            repeat' ((conv => whnf); first | (refine And.intro ⟨rfl, rfl, rfl, rfl, rfl⟩ ?_) | (refine And.intro ⟨h1, hh⟩ ?_) | (refine ⟨by kernel_rfl, ?_⟩) | rfl | fail)
  · have hz : halfZ s = z16 := if_neg (by omega)
    rw [hz] at hh ⊢
    repeat' ((conv => whnf); first | fail)
    conv => whnf
    refine loop_at (6 :: List.range' 9 16) (fun m (i : Int) => i = 0 ∧ m = 0) (fun i => [(6, vi i)]) (fun i => [rb s, oa z16, rb st0, oa z16, o4 z4]) 0 0 ⟨rfl, rfl⟩ ?_ ?_
    · exact ⟨rfl, ⟨⟨Nat.le_of_ble_eq_true rfl, rfl⟩, trivial⟩, ⟨rfl, rfl, rfl, rfl, rfl, trivial⟩, rfl, rfl, Nat.zero_le _⟩
    · rintro m i ⟨rfl, rfl⟩
      repeat' ((conv => whnf); first | (refine ask_true (by omega) ?_) | (refine ask_false (by omega) ?_) | fail)
      conv => whnf
      refine loop_at (7 :: List.range' 25 16) (fun m (i : Int) => 0 ≤ i ∧ i ≤ 4 ∧ m = (4 - i).toNat) (fun i => [(7, vi i)]) (fun i => [rb s, oa z16, rb st0, oa z16, o4 (stg (lessZ s) z4 i)]) 4 0 ⟨by decide, by decide, rfl⟩ ?_ ?_
      · exact ⟨rfl, ⟨⟨Nat.le_of_ble_eq_true rfl, rfl⟩, trivial⟩, ⟨rfl, rfl, rfl, rfl, by (rw [stg_zero]; try rfl), trivial⟩, rfl, rfl, Nat.zero_le _⟩
      · rintro m i ⟨i0, i1, rfl⟩
        have em : mulN i.toNat (Try.prog.types[3]).size = i.toNat := mulN1 i.toNat
        rcases Int.lt_or_le i 4 with i2 | i2
        · have e2 := hr.2.1 _ (mem_at (i := mulN i.toNat (Try.prog.types[3]).size) (by omega))
          have e3 : (lessZ s).getD i.toNat 0 = max (s.v.getD (mulN i.toNat (Try.prog.types[3]).size) 0 - 1) 0 := by unfold lessZ; rw [getD_map (by omega), em]
          have e4 := stg_at (zs := lessZ s) (xs := z4) em (by rw [lessZ_len h]; rfl) i0 i2
          repeat' ((conv => whnf); first | (refine ask_true (by omega) ?_) | (refine And.intro (by omega) ?_) | (refine fun (_ : InK _ _) => ?_) | fail)
          refine ask_split (fun g1 => ?_) (fun g1 => ?_)
          · repeat' ((conv => whnf); first | (refine And.intro (by omega) ?_) | (refine fun (_ : InK _ _) => ?_) | (refine ask_wrap64 (by omega) (by omega) ?_) | fail)
            conv => whnf
            refine ⟨(4 - (i + 1)).toNat, i + 1, by omega, ⟨by omega, by omega, rfl⟩, rfl, ⟨⟨Nat.le_of_ble_eq_true rfl, rfl⟩, trivial⟩, ⟨rfl, rfl, rfl, rfl, ?_, trivial⟩, rfl, rfl, Nat.zero_le _⟩
            exact congrArg o4 (stg_set em (by rw [lessZ_len h]; rfl) i0 (by rw [lessZ_len h]; omega) (by rw [e3]; omega)).symm
          · repeat' ((conv => whnf); first | (refine ask_wrap64 (by omega) (by omega) ?_) | fail)
            conv => whnf
            refine ⟨(4 - (i + 1)).toNat, i + 1, by omega, ⟨by omega, by omega, rfl⟩, rfl, ⟨⟨Nat.le_of_ble_eq_true rfl, rfl⟩, trivial⟩, ⟨rfl, rfl, rfl, rfl, ?_, trivial⟩, rfl, rfl, Nat.zero_le _⟩
            have e5 := stg_set (zs := lessZ s) (xs := z4) (v := 0) em (by rw [lessZ_len h]; rfl) i0 (by rw [lessZ_len h]; omega) (by rw [e3]; omega)
            rw [← e5]
            refine congrArg o4 ?_
            have hz4 : z4.getD (mulN i.toNat (Try.prog.types[3]).size) 0 = 0 := by
              rw [em, List.getD_eq_getElem?_getD]
              cases hx : z4[i.toNat]? with
              | none => rfl
              | some v =>
                have := List.mem_of_getElem? hx
                simp only [z4, List.mem_cons, List.not_mem_nil, or_false, or_self] at this
                rw [this]; rfl
            rw [hz4] at e4
            exact set_same e4
        · have hi : i = 4 := by omega
          subst hi
          rw [stg_all (by rw [lessZ_len h]; rfl) (by rw [lessZ_len h]; rfl)]
          repeat' ((conv => whnf); first | (refine ask_false (by omega) ?_) | (refine ask_wrap64 (by omega) (by omega) ?_) | fail)
          conv => whnf
          refine ask_split (fun g1 => ?_) (fun g1 => ?_)
          · rw [show min (s.q + 1) 255 = 255 by omega]
            repeat' ((conv => whnf); first | (refine And.intro ⟨rfl, rfl, rfl, rfl, rfl⟩ ?_) | (refine And.intro ⟨h1, hh⟩ ?_) | (refine ⟨by kernel_rfl, ?_⟩) | rfl | fail)
          · rw [show min (s.q + 1) 255 = s.q + 1 by omega]
            repeat' ((conv => whnf); first | (refine And.intro ⟨rfl, rfl, rfl, rfl, rfl⟩ ?_) | (refine And.intro ⟨h1, hh⟩ ?_) | (refine ⟨by kernel_rfl, ?_⟩) | rfl | fail)
end Go.Proofs.Ytbgjmlncdlcglaa
