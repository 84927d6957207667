/- Chapters state and lost: the document's next state, and its lost frame. -/
import Derived.Test.YtbgjmlncdlcglaaBnc
import Derived.Test.YtbgjmlncdlcglaaBmh
set_option linter.all false
namespace Go.Proofs.Ytbgjmlncdlcglaa
open Go.RowKit (Below)
set_option maxRecDepth 100000
set_option maxHeartbeats 32000000

noncomputable def FRn : Fns := (F0.plus 46 (ctA32 held backZ)).plus 43 (ct2 (fun _ n => 1 ≤ n ∧ n ≤ 62) cutS) |>.plus 92 (ctLA (fun l xs => layZ (c22 l) xs) (fun l xs => layP (c22 l) xs 16))
theorem FRn_ok : FnsOk Try.prog FRn := ((F0_ok.plus refBack_ct Try.func46 (by kernel_rfl) (by kernel_rfl)).plus refCut_ct Try.func43 (by kernel_rfl) (by kernel_rfl)).plus refLay_ct Try.func92 (by kernel_rfl) (by kernel_rfl)
abbrev o4 (xs : List Int) : Blk := .own 42 [.ints .i64 4 xs]
theorem soundZ_len (xs : List Int) : (soundZ xs).length = xs.length := by simp [soundZ]
theorem laidZ_len (s : St) (wv : List Int) : (laidZ s wv).length = 16 := layZ_len _ _
theorem refNext_walk (s : St) (lv wv : List Int) (q : Int) (h : StOk s) (hv : lv.length = 4 ∧ ∀ x ∈ lv, InK .i64 x) (hw : wv.length = 16 ∧ ∀ x ∈ wv, InK .i64 x) (hq : InK .i64 q) (h1 : rightP s) (h2 : held wv) :
    walk FRn 0 Try.f61 [stW s, ar 4 lv, ar 16 wv, i64 q] [] fun y _ => y = .tup [ar 16 (soundZ (laidZ s wv)), stW ⟨memZ wv, laidP s wv, lv, wv, q⟩] := by
  have hr := h1
  rw [rightP_def] at hr
  have hml := h.m.1
  repeat' ((conv => whnf); first | (refine And.intro rfl ?_) | (refine And.intro h2 ?_) | (refine ⟨by kernel_rfl, ?_⟩) | fail)
  refine loop_at (12 :: List.range' 19 16) (fun m (i : Int) => 0 ≤ i ∧ i ≤ 16 ∧ m = (16 - i).toNat) (fun i => [(12, vi i)]) (fun i => [rb s, o4 lv, oa wv, oa z16, rb st0, o32 (backZ wv), oa (stg (overZ s.m (back1 wv)) z16 i)]) 16 0 ⟨by decide, by decide, rfl⟩ ?_ ?_
  · exact ⟨rfl, ⟨⟨Nat.le_of_ble_eq_true rfl, rfl⟩, trivial⟩, ⟨rfl, rfl, rfl, rfl, rfl, rfl, by (rw [stg_zero]; try rfl), trivial⟩, rfl, rfl, Nat.zero_le _⟩
  · rintro m i ⟨i0, i1, rfl⟩
    have em : mulN i.toNat (Try.prog.types[3]).size = i.toNat := mulN1 i.toNat
    rcases Int.lt_or_le i 16 with i2 | i2
    · have b1 := hr.1 _ (mem_at (i := mulN i.toNat (Try.prog.types[3]).size) (by omega))
      have b2 := cut32_bound ((backZ wv).getD (mulN i.toNat (Try.prog.types[3]).size) 0)
      have b3 := cut32 (s.m.getD (mulN i.toNat (Try.prog.types[3]).size) 0)
      repeat' ((conv => whnf); first | (refine ask_true (by omega) ?_) | (refine And.intro (by omega) ?_) | (refine And.intro ⟨by omega, by omega⟩ ?_) | (refine fun (_ : InK _ _) => ?_) | (refine ask_wrap64 (by omega) (by omega) ?_) | (refine ⟨by kernel_rfl, ?_⟩) | fail)
      conv => whnf
      refine ⟨(16 - (i + 1)).toNat, i + 1, by omega, ⟨by omega, by omega, rfl⟩, rfl, ⟨⟨Nat.le_of_ble_eq_true rfl, rfl⟩, trivial⟩, ⟨rfl, rfl, rfl, rfl, rfl, rfl, ?_, trivial⟩, rfl, rfl, Nat.zero_le _⟩
      refine congrArg oa (stg_set em (by rw [overZ_len]; rfl) i0 (by rw [overZ_len]; omega) ?_).symm
      rw [overZ_at _ _ (by omega)]
      unfold over1
      have e5 : cutS (s.m.getD i.toNat 0) 32 = s.m.getD (mulN i.toNat (Try.prog.types[3]).size) 0 := by rw [em] at b3 b1 ⊢; omega
      have e6 : (back1 wv).getD i.toNat 0 = (backZ wv).getD (mulN i.toNat (Try.prog.types[3]).size) 0 := by
        rw [em]; unfold back1
        rw [List.getD_eq_getElem?_getD, List.getD_eq_getElem?_getD, List.getElem?_take_of_lt (by omega)]
      rw [e5, e6]
    · have hi : i = 16 := by omega
      subst hi
      rw [stg_all (by rw [overZ_len]; rfl) (by rw [overZ_len]; rfl)]
      repeat' ((conv => whnf); first | (refine ask_false (by omega) ?_) | (refine And.intro rfl ?_) | (refine ⟨by kernel_rfl, ?_⟩) | fail)
      conv => whnf
      refine loop_at (16 :: List.range' 47 18) (fun m (i : Int) => 0 ≤ i ∧ i ≤ 16 ∧ m = (16 - i).toNat) (fun i => [(16, vi i)]) (fun i => [rb s, o4 lv, oa wv, oa z16, rb st0, o32 (backZ wv), oa (overZ s.m (back1 wv)), oa (stg (soundZ (laidZ s wv)) (laidZ s wv) i), rb ⟨stg (memZ wv) z16 i, laidP s wv, lv, wv, q⟩]) 16 0 ⟨by decide, by decide, rfl⟩ ?_ ?_
      · exact ⟨rfl, ⟨⟨Nat.le_of_ble_eq_true rfl, rfl⟩, trivial⟩, ⟨rfl, rfl, rfl, rfl, rfl, rfl, rfl, by (rw [stg_zero]; try rfl), by (rw [stg_zero]; try rfl), trivial⟩, rfl, rfl, Nat.zero_le _⟩
      · rintro m i ⟨i0, i1, rfl⟩
        have em : mulN i.toNat (Try.prog.types[3]).size = i.toNat := mulN1 i.toNat
        have em' : mulN (16 + i).toNat (Try.prog.types[3]).size = (16 + i).toNat := mulN1 _
        rcases Int.lt_or_le i 16 with i2 | i2
        · have e1 := stg_at (zs := soundZ (laidZ s wv)) (xs := laidZ s wv) em (soundZ_len _) i0 (by rw [laidZ_len]; exact i2)
          repeat' ((conv => whnf); first | (refine ask_true (by omega) ?_) | (refine And.intro (by omega) ?_) | (refine And.intro ⟨by omega, by omega⟩ ?_) | (refine fun (_ : InK _ _) => ?_) | (refine ask_wrap64 (by omega) (by omega) ?_) | (refine ⟨by kernel_rfl, ?_⟩) | fail)
          conv => whnf
          refine ⟨(16 - (i + 1)).toNat, i + 1, by omega, ⟨by omega, by omega, rfl⟩, rfl, ⟨⟨Nat.le_of_ble_eq_true rfl, rfl⟩, trivial⟩, ⟨rfl, rfl, rfl, rfl, rfl, rfl, rfl, ?_, ?_, trivial⟩, rfl, rfl, Nat.zero_le _⟩
          · refine congrArg oa (stg_set em (soundZ_len _) i0 (by rw [soundZ_len, laidZ_len]; omega) ?_).symm
            rw [e1, em]
            unfold soundZ
            rw [getD_map (by rw [laidZ_len]; omega), c16_def]
          · refine congrArg (fun zs => rb ⟨zs, laidP s wv, lv, wv, q⟩) (stg_set em (by rw [memZ_len]; rfl) i0 (by rw [memZ_len]; omega) ?_).symm
            unfold memZ
            rw [getD_map (by rw [back2_len]; omega), em']
            congr 1
            unfold back2
            rw [List.getD_eq_getElem?_getD, List.getD_eq_getElem?_getD, List.getElem?_drop, show (16 + i).toNat = 16 + i.toNat by omega]
        · have hi : i = 16 := by omega
          subst hi
          rw [stg_all (soundZ_len _) (by rw [soundZ_len, laidZ_len]; rfl), stg_all (by rw [memZ_len]; rfl) (by rw [memZ_len]; rfl)]
          repeat' ((conv => whnf); first | (refine ask_false (by omega) ?_) | (refine ⟨by kernel_rfl, ?_⟩) | rfl | fail)
def ctRNext : Ct := fun ws K => match ws with
  | [.agg [.ints .i64 n m, .one (.ci .i64 l), .ints .i64 a v, .ints .i64 b w, .one (.ci .i64 q)], .agg [.ints .i64 c lv], .agg [.ints .i64 d wv], .c (.ci .i64 lo)] => (n = 16 ∧ a = 4 ∧ b = 16 ∧ c = 4 ∧ d = 16) ∧ (rightP ⟨m, l, v, w, q⟩ ∧ held wv) ∧ K (.tup [ar 16 (soundZ (laidZ ⟨m, l, v, w, q⟩ wv)), stW ⟨memZ wv, laidP ⟨m, l, v, w, q⟩ wv, lv, wv, lo⟩])
  | _ => False
theorem refNext_ct : CtOk Try.prog 61 ctRNext := by
  intro ws K h' hr
  unfold ctRNext at h'
  split at h'
  · rename_i n m l a v b w q c lv d wv lo
    obtain ⟨⟨rfl, rfl, rfl, rfl, rfl⟩, hp, h'⟩ := h'
    obtain ⟨r1, r2, r3, r4, _⟩ := hr
    have ok : StOk ⟨m, l, v, w, q⟩ := stOk_of r1
    have ok2 : StOk ⟨memZ wv, laidP ⟨m, l, v, w, q⟩ wv, lv, wv, lo⟩ := ⟨⟨memZ_len wv, fun x hx => in_of (memZ_in hx)⟩, in_of (by have := laidP_in ⟨m, l, v, w, q⟩ wv; show -2147483648 ≤ laidP ⟨m, l, v, w, q⟩ wv ∧ laidP ⟨m, l, v, w, q⟩ wv ≤ 2147483647; omega), r2.1, r3.1, r4⟩
    refine ⟨_, h', ⟨⟨ar_rng (by rw [soundZ_len, laidZ_len]) fun x hx => in_of (by have := soundZ_in hx; omega), ok2.rng, trivial⟩, rfl⟩, walk_calls FRn_ok Try.func61 rfl (ws := [stW ⟨m, l, v, w, q⟩, ar 4 lv, ar 16 wv, i64 lo]) ⟨ok.rng, r2, r3, r4, trivial⟩ rfl (refNext_walk _ lv wv lo ok r2.1 r3.1 r4 hp.1 hp.2)⟩
  · exact h'.elim

noncomputable def FRl : Fns := F0.plus 61 ctRNext
theorem FRl_ok : FnsOk Try.prog FRl := F0_ok.plus refNext_ct Try.func61 (by kernel_rfl) (by kernel_rfl)
theorem set_same {xs : List Int} {m : Nat} {v : Int} (h : xs.getD m 0 = v) : xs.set m v = xs := by
  apply List.ext_getElem?
  intro k
  rcases Nat.lt_or_ge m xs.length with hm | hm
  · by_cases hk : m = k
    · subst hk
      rw [List.getElem?_set_self hm, List.getElem?_eq_getElem hm, ← h, List.getD_eq_getElem?_getD, List.getElem?_eq_getElem hm]; rfl
    · rw [List.getElem?_set_ne hk]
  · rw [List.set_eq_of_length_le hm]
theorem refLose_walk (s : St) (h : StOk s) (h1 : rightP s) : walk FRl 0 Try.f54 [stW s] [] fun y _ => y = .tup [ar 16 (loseOut s), stW (loseSt s)] := by
  rw [loseOut_eq h1, loseSt_eq h1]
  have hr := h1
  rw [rightP_def] at hr
  have hh := halfZ_held h1
  have hwl := h.w.1
  have hvl := h.v.1
  rcases Int.lt_or_le s.q 8 with hq | hq
  · have hz : halfZ s = s.w.map fun x => x.tdiv 2 := if_pos hq
    repeat' ((conv => whnf); first | fail)
    conv => whnf
    refine loop_at (6 :: List.range' 9 16) (fun m (i : Int) => 0 ≤ i ∧ i ≤ 16 ∧ m = (16 - i).toNat) (fun i => [(6, vi i)]) (fun i => [rb s, oa z16, rb st0, oa (stg (halfZ s) z16 i), o4 z4]) 16 0 ⟨by decide, by decide, rfl⟩ ?_ ?_
    · exact ⟨rfl, ⟨⟨Nat.le_of_ble_eq_true rfl, rfl⟩, trivial⟩, ⟨rfl, rfl, rfl, by (rw [stg_zero]; try rfl), rfl, trivial⟩, rfl, rfl, Nat.zero_le _⟩
    · rintro m i ⟨i0, i1, rfl⟩
      have em : mulN i.toNat (Try.prog.types[3]).size = i.toNat := mulN1 i.toNat
      rcases Int.lt_or_le i 16 with i2 | i2
      · repeat' ((conv => whnf); first | (refine ask_true (by omega) ?_) | (refine And.intro (by omega) ?_) | (refine ask_in64 fun b1 b2 => ?_) | (refine ask_wrap64 (half_bound (by assumption) (by assumption)).1 (half_bound (by assumption) (by assumption)).2 ?_) | (refine ask_wrap64 (by omega) (by omega) ?_) | fail)
        conv => whnf
        refine ⟨(16 - (i + 1)).toNat, i + 1, by omega, ⟨by omega, by omega, rfl⟩, rfl, ⟨⟨Nat.le_of_ble_eq_true rfl, rfl⟩, trivial⟩, ⟨rfl, rfl, rfl, ?_, rfl, trivial⟩, rfl, rfl, Nat.zero_le _⟩
        refine congrArg oa (stg_set em (by rw [halfZ_len h]; rfl) i0 (by rw [halfZ_len h]; omega) ?_).symm
        rw [hz, getD_map (by omega), em]
      · have hi : i = 16 := by omega
        subst hi
        rw [stg_all (by rw [halfZ_len h]; rfl) (by rw [halfZ_len h]; rfl)]
        repeat' ((conv => whnf); first | (refine ask_false (by omega) ?_) | fail)
        conv => whnf
        refine loop_at (7 :: List.range' 25 16) (fun m (i : Int) => 0 ≤ i ∧ i ≤ 4 ∧ m = (4 - i).toNat) (fun i => [(7, vi i)]) (fun i => [rb s, oa z16, rb st0, oa (halfZ s), o4 (stg (lessZ s) z4 i)]) 4 0 ⟨by decide, by decide, rfl⟩ ?_ ?_
        · exact ⟨rfl, ⟨⟨Nat.le_of_ble_eq_true rfl, rfl⟩, trivial⟩, ⟨rfl, rfl, rfl, rfl, by (rw [stg_zero]; try rfl), trivial⟩, rfl, rfl, Nat.zero_le _⟩
        · rintro m i ⟨i0, i1, rfl⟩
          have em : mulN i.toNat (Try.prog.types[3]).size = i.toNat := mulN1 i.toNat
          rcases Int.lt_or_le i 4 with i2 | i2
          · have e2 := hr.2.1 _ (mem_at (i := mulN i.toNat (Try.prog.types[3]).size) (by omega))
            have e3 : (lessZ s).getD i.toNat 0 = max (s.v.getD (mulN i.toNat (Try.prog.types[3]).size) 0 - 1) 0 := by unfold lessZ; rw [getD_map (by omega), em]
            have e4 := stg_at (zs := lessZ s) (xs := z4) em (by rw [lessZ_len h]; rfl) i0 i2
            repeat' ((conv => whnf); first | (refine ask_true (by omega) ?_) | (refine And.intro (by omega) ?_) | (refine fun (_ : InK _ _) => ?_) | fail)
            refine ask_split (fun g1 => ?_) (fun g1 => ?_)
            · repeat' ((conv => whnf); first | (refine And.intro (by omega) ?_) | (refine fun (_ : InK _ _) => ?_) | (refine ask_wrap64 (by omega) (by omega) ?_) | fail)
              conv => whnf
              refine ⟨(4 - (i + 1)).toNat, i + 1, by omega, ⟨by omega, by omega, rfl⟩, rfl, ⟨⟨Nat.le_of_ble_eq_true rfl, rfl⟩, trivial⟩, ⟨rfl, rfl, rfl, rfl, ?_, trivial⟩, rfl, rfl, Nat.zero_le _⟩
              exact congrArg o4 (stg_set em (by rw [lessZ_len h]; rfl) i0 (by rw [lessZ_len h]; omega) (by rw [e3]; omega)).symm
            · repeat' ((conv => whnf); first | (refine ask_wrap64 (by omega) (by omega) ?_) | fail)
              conv => whnf
              refine ⟨(4 - (i + 1)).toNat, i + 1, by omega, ⟨by omega, by omega, rfl⟩, rfl, ⟨⟨Nat.le_of_ble_eq_true rfl, rfl⟩, trivial⟩, ⟨rfl, rfl, rfl, rfl, ?_, trivial⟩, rfl, rfl, Nat.zero_le _⟩
              have e5 := stg_set (zs := lessZ s) (xs := z4) (v := 0) em (by rw [lessZ_len h]; rfl) i0 (by rw [lessZ_len h]; omega) (by rw [e3]; omega)
              rw [← e5]
              refine congrArg o4 ?_
              have hz4 : z4.getD (mulN i.toNat (Try.prog.types[3]).size) 0 = 0 := by
                rw [em, List.getD_eq_getElem?_getD]
                cases hx : z4[i.toNat]? with
                | none => rfl
                | some v =>
                  have := List.mem_of_getElem? hx
                  simp only [z4, List.mem_cons, List.not_mem_nil, or_false, or_self] at this
                  rw [this]; rfl
              rw [hz4] at e4
              exact set_same e4
          · have hi : i = 4 := by omega
            subst hi
            rw [stg_all (by rw [lessZ_len h]; rfl) (by rw [lessZ_len h]; rfl)]
            repeat' ((conv => whnf); first | (refine ask_false (by omega) ?_) | (refine ask_wrap64 (by omega) (by omega) ?_) | fail)
            rw [show min (s.q + 1) 255 = s.q + 1 by omega]
            repeat' ((conv => whnf); first | (refine And.intro ⟨rfl, rfl, rfl, rfl, rfl⟩ ?_) | (refine And.intro ⟨h1, hh⟩ ?_) | (refine ⟨by kernel_rfl, ?_⟩) | rfl | fail)
  · have hz : halfZ s = z16 := if_neg (by omega)
    rw [hz] at hh ⊢
    repeat' ((conv => whnf); first | fail)
    conv => whnf
    refine loop_at (6 :: List.range' 9 16) (fun m (i : Int) => i = 0 ∧ m = 0) (fun i => [(6, vi i)]) (fun i => [rb s, oa z16, rb st0, oa z16, o4 z4]) 0 0 ⟨rfl, rfl⟩ ?_ ?_
    · exact ⟨rfl, ⟨⟨Nat.le_of_ble_eq_true rfl, rfl⟩, trivial⟩, ⟨rfl, rfl, rfl, rfl, rfl, trivial⟩, rfl, rfl, Nat.zero_le _⟩
    · rintro m i ⟨rfl, rfl⟩
      repeat' ((conv => whnf); first | (refine ask_true (by omega) ?_) | (refine ask_false (by omega) ?_) | fail)
      conv => whnf
      refine loop_at (7 :: List.range' 25 16) (fun m (i : Int) => 0 ≤ i ∧ i ≤ 4 ∧ m = (4 - i).toNat) (fun i => [(7, vi i)]) (fun i => [rb s, oa z16, rb st0, oa z16, o4 (stg (lessZ s) z4 i)]) 4 0 ⟨by decide, by decide, rfl⟩ ?_ ?_
      · exact ⟨rfl, ⟨⟨Nat.le_of_ble_eq_true rfl, rfl⟩, trivial⟩, ⟨rfl, rfl, rfl, rfl, by (rw [stg_zero]; try rfl), trivial⟩, rfl, rfl, Nat.zero_le _⟩
      · rintro m i ⟨i0, i1, rfl⟩
        have em : mulN i.toNat (Try.prog.types[3]).size = i.toNat := mulN1 i.toNat
        rcases Int.lt_or_le i 4 with i2 | i2
        · have e2 := hr.2.1 _ (mem_at (i := mulN i.toNat (Try.prog.types[3]).size) (by omega))
          have e3 : (lessZ s).getD i.toNat 0 = max (s.v.getD (mulN i.toNat (Try.prog.types[3]).size) 0 - 1) 0 := by unfold lessZ; rw [getD_map (by omega), em]
          have e4 := stg_at (zs := lessZ s) (xs := z4) em (by rw [lessZ_len h]; rfl) i0 i2
          repeat' ((conv => whnf); first | (refine ask_true (by omega) ?_) | (refine And.intro (by omega) ?_) | (refine fun (_ : InK _ _) => ?_) | fail)
          refine ask_split (fun g1 => ?_) (fun g1 => ?_)
          · repeat' ((conv => whnf); first | (refine And.intro (by omega) ?_) | (refine fun (_ : InK _ _) => ?_) | (refine ask_wrap64 (by omega) (by omega) ?_) | fail)
            conv => whnf
            refine ⟨(4 - (i + 1)).toNat, i + 1, by omega, ⟨by omega, by omega, rfl⟩, rfl, ⟨⟨Nat.le_of_ble_eq_true rfl, rfl⟩, trivial⟩, ⟨rfl, rfl, rfl, rfl, ?_, trivial⟩, rfl, rfl, Nat.zero_le _⟩
            exact congrArg o4 (stg_set em (by rw [lessZ_len h]; rfl) i0 (by rw [lessZ_len h]; omega) (by rw [e3]; omega)).symm
          · repeat' ((conv => whnf); first | (refine ask_wrap64 (by omega) (by omega) ?_) | fail)
            conv => whnf
            refine ⟨(4 - (i + 1)).toNat, i + 1, by omega, ⟨by omega, by omega, rfl⟩, rfl, ⟨⟨Nat.le_of_ble_eq_true rfl, rfl⟩, trivial⟩, ⟨rfl, rfl, rfl, rfl, ?_, trivial⟩, rfl, rfl, Nat.zero_le _⟩
            have e5 := stg_set (zs := lessZ s) (xs := z4) (v := 0) em (by rw [lessZ_len h]; rfl) i0 (by rw [lessZ_len h]; omega) (by rw [e3]; omega)
            rw [← e5]
            refine congrArg o4 ?_
            have hz4 : z4.getD (mulN i.toNat (Try.prog.types[3]).size) 0 = 0 := by
              rw [em, List.getD_eq_getElem?_getD]
              cases hx : z4[i.toNat]? with
              | none => rfl
              | some v =>
                have := List.mem_of_getElem? hx
                simp only [z4, List.mem_cons, List.not_mem_nil, or_false, or_self] at this
                rw [this]; rfl
            rw [hz4] at e4
            exact set_same e4
        · have hi : i = 4 := by omega
          subst hi
          rw [stg_all (by rw [lessZ_len h]; rfl) (by rw [lessZ_len h]; rfl)]
          repeat' ((conv => whnf); first | (refine ask_false (by omega) ?_) | (refine ask_wrap64 (by omega) (by omega) ?_) | fail)
          conv => whnf
          refine ask_split (fun g1 => ?_) (fun g1 => ?_)
          · rw [show min (s.q + 1) 255 = 255 by omega]
            repeat' ((conv => whnf); first | (refine And.intro ⟨rfl, rfl, rfl, rfl, rfl⟩ ?_) | (refine And.intro ⟨h1, hh⟩ ?_) | (refine ⟨by kernel_rfl, ?_⟩) | rfl | fail)
          · rw [show min (s.q + 1) 255 = s.q + 1 by omega]
            repeat' ((conv => whnf); first | (refine And.intro ⟨rfl, rfl, rfl, rfl, rfl⟩ ?_) | (refine And.intro ⟨h1, hh⟩ ?_) | (refine ⟨by kernel_rfl, ?_⟩) | rfl | fail)

/- Chapter lost: the law LostPlays, walked. -/
set_option maxRecDepth 100000
set_option maxHeartbeats 32000000

theorem flds_state : FldsOk Try.prog .i64 (Try.prog.fieldsOf 47).toList 0 38 := by
  have e : (Try.prog.fieldsOf 47).toList = (Try.prog.fieldsOf 47).toList := rfl
  conv => whnf
  refine ⟨16, by kernel_rfl, fld_arr (e := 3) (by decide) (by kernel_rfl) rfl (by kernel_rfl) (by kernel_rfl) (by kernel_rfl) rfl (by kernel_rfl) (by kernel_rfl), ?_⟩
  conv => whnf
  refine ⟨1, by kernel_rfl, fld_int (by decide) (by kernel_rfl) (by kernel_rfl), ?_⟩
  conv => whnf
  refine ⟨4, by kernel_rfl, fld_arr (e := 3) (by decide) (by kernel_rfl) rfl (by kernel_rfl) (by kernel_rfl) (by kernel_rfl) rfl (by kernel_rfl) (by kernel_rfl), ?_⟩
  conv => whnf
  refine ⟨16, by kernel_rfl, fld_arr (e := 3) (by decide) (by kernel_rfl) rfl (by kernel_rfl) (by kernel_rfl) (by kernel_rfl) rfl (by kernel_rfl) (by kernel_rfl), ?_⟩
  conv => whnf
  refine ⟨1, by kernel_rfl, fld_int (by decide) (by kernel_rfl) (by kernel_rfl), ?_⟩
  exact (rfl : (38 : Nat) = 38)
theorem flds_plain : FldsOk Try.prog .i64 (Try.prog.fieldsOf 44).toList 0 38 := by
  conv => whnf
  refine ⟨16, by kernel_rfl, fld_arr (e := 3) (by decide) (by kernel_rfl) rfl (by kernel_rfl) (by kernel_rfl) (by kernel_rfl) rfl (by kernel_rfl) (by kernel_rfl), ?_⟩
  conv => whnf
  refine ⟨1, by kernel_rfl, fld_int (by decide) (by kernel_rfl) (by kernel_rfl), ?_⟩
  conv => whnf
  refine ⟨4, by kernel_rfl, fld_arr (e := 3) (by decide) (by kernel_rfl) rfl (by kernel_rfl) (by kernel_rfl) (by kernel_rfl) rfl (by kernel_rfl) (by kernel_rfl), ?_⟩
  conv => whnf
  refine ⟨16, by kernel_rfl, fld_arr (e := 3) (by decide) (by kernel_rfl) rfl (by kernel_rfl) (by kernel_rfl) (by kernel_rfl) rfl (by kernel_rfl) (by kernel_rfl), ?_⟩
  conv => whnf
  refine ⟨1, by kernel_rfl, fld_int (by decide) (by kernel_rfl) (by kernel_rfl), ?_⟩
  exact (rfl : (38 : Nat) = 38)
def E2 : Env := ⟨fun _ => none, fun t => match Nat.beq t 47 with
  | true => some (List.replicate 38 (.i .i64))
  | false => match Nat.beq t 44 with
    | true => some (List.replicate 38 (.i .i64))
    | false => E1.EQ t⟩
theorem E2_ok : EnvOk Try.prog E2 := by
  refine ⟨⟨fun _ _ h => (by cases h)⟩, fun t ks h => ?_⟩
  simp only [E2] at h
  split at h
  · rename_i hb
    obtain rfl := Nat.eq_of_beq_eq_true hb
    cases h
    exact eqok_struct (by kernel_rfl) (by kernel_rfl) flds_state (by kernel_rfl)
  · split at h
    · rename_i hb
      obtain rfl := Nat.eq_of_beq_eq_true hb
      cases h
      exact eqok_struct (by kernel_rfl) (by kernel_rfl) flds_plain (by kernel_rfl)
    · exact E1_ok.eq t ks h
abbrev walk2 (F : Fns) (n : Nat) (fn : Func) (ws : List W) (H : List Blk) (K : V → List Blk → Prop) : Prop := xfun Try.prog E2 (calF Try.prog E2 F (drwA Try.prog E2 F) n) (drwA Try.prog E2 F (calF Try.prog E2 F (drwA Try.prog E2 F) n)) fn ws H K
theorem walk2_calls {F : Fns} (hF : FnsOk Try.prog F) {n : Nat} {f : FuncId} {fn : Func} (hf : Try.prog.funcs[f]? = some fn) {ws : List W} {x : V} (hx : x.bnd 0 = true) (hr : rngW ws) (hb : bndW 0 ws = true)
    (h : walk2 F n fn ws [] fun y _ => y = x) (σ : Sg) (w : World) : Calls Try.prog f (ws.map (W.den σ)).toArray w fun e w' => ∃ v, e = .returned v ∧ x.rep σ v ∧ Below w.heap.size w w' :=
  call_of E2_ok (fun _ => rfl) (calF_ok E2_ok hF (fun cal hc => drwA_ok E2_ok hF mixed cal hc) n) (drwA_ok E2_ok hF mixed _ (calF_ok E2_ok hF (fun cal hc => drwA_ok E2_ok hF mixed cal hc) n)) hf hx hr hb h σ w
theorem walk2_true {F : Fns} (hF : FnsOk Try.prog F) {n : Nat} {f : FuncId} {fn : Func} (hf : Try.prog.funcs[f]? = some fn) {ws : List W} (hr : rngW ws) (hb : bndW 0 ws = true)
    (h : walk2 F n fn ws [] fun y _ => y = .w (.c (.cb true))) (w : World) : Calls Try.prog f (ws.map (W.den fun _ => (0, 0))).toArray w fun e w' => e = .returned (.bool true) ∧ Below w.heap.size w w' := by
  refine (walk2_calls hF hf rfl hr hb h (fun _ => (0, 0)) w).mono ?_
  rintro e w' ⟨v, rfl, h1, h2⟩
  exact ⟨by rw [show v = _ from h1]; rfl, h2⟩
theorem ask_st (s t : St) {K : Bool → Prop} (h : s = t) (hk : K true) : ∀ τ, τ = (false ^^ (decide (s.m = t.m) && (decide (s.l = t.l) && (decide (s.v = t.v) && (decide (s.w = t.w) && (decide (s.q = t.q) && true)))))) → K τ := by
  rintro τ rfl
  subst h
  simpa using hk
/-- A state's cells. -/
theorem st_split (xs : List Int) (h : xs.length = 38) (hx : ∀ x ∈ xs, InK .i64 x) : ∃ s : St, StOk s ∧ W.den (fun _ => (0, 0)) (stW s) = Value.agg (xs.map (Value.int .i64)).toArray := by
  have i16 : 16 < xs.length := by omega
  have i37 : 37 < xs.length := by omega
  have e : xs = xs.take 16 ++ (xs[16] :: ((xs.drop 17).take 4 ++ ((xs.drop 21).take 16 ++ [xs[37]]))) := by
    have e1 : (xs.drop 21).drop 16 = [xs[37]] := by
      rw [List.drop_drop, List.drop_eq_getElem_cons i37, List.drop_of_length_le (by omega)]
    have e2 : (xs.drop 17).drop 4 = (xs.drop 21).take 16 ++ [xs[37]] := by
      rw [List.drop_drop, ← e1, List.take_append_drop]
    have e3 : xs.drop 16 = xs[16] :: ((xs.drop 17).take 4 ++ ((xs.drop 21).take 16 ++ [xs[37]])) := by
      rw [List.drop_eq_getElem_cons i16, ← e2, List.take_append_drop]
    rw [← e3, List.take_append_drop]
  refine ⟨⟨xs.take 16, xs[16], (xs.drop 17).take 4, (xs.drop 21).take 16, xs[37]⟩, ⟨⟨by simp; omega, fun x hm => hx x (List.mem_of_mem_take hm)⟩, hx _ (List.getElem_mem _), ⟨by simp; omega, fun x hm => hx x (List.mem_of_mem_drop (List.mem_of_mem_take hm))⟩, ⟨by simp; omega, fun x hm => hx x (List.mem_of_mem_drop (List.mem_of_mem_take hm))⟩, hx _ (List.getElem_mem _)⟩, ?_⟩
  conv => rhs; rw [e]
  simp [W.den, dens, Seg.den, C.den]

/-! ### the document's example -/
theorem cut_none (n : Int) (h : n = 22 ∨ n = 16 ∨ n = 32) : cutS 0 n = 0 := by
  rcases h with rfl | rfl | rfl
  · rw [c22_le]; rfl
  · rw [← c16_def, cut16]; rfl
  · rw [cut32]; rfl
theorem c22_none : c22 0 = 0 := by rw [c22_def, cut_none 22 (.inl rfl)]
theorem c16_none : c16 0 = 0 := by rw [c16_def, cut_none 16 (.inr (.inl rfl))]
theorem z16_map {f : Int → Int} (h : f 0 = 0) : z16.map f = z16 := by
  show [f 0, f 0, f 0, f 0, f 0, f 0, f 0, f 0, f 0, f 0, f 0, f 0, f 0, f 0, f 0, f 0] = _
  rw [h]; rfl
theorem overZ_zero : overZ z16 z16 = z16 := by
  unfold overZ
  refine map_range_const fun i => ?_
  unfold over1
  rw [z16_at, cut_none 32 (.inr (.inr rfl)), Int.add_zero, cut_none 32 (.inr (.inr rfl))]
theorem lay1_none : lay1 0 0 = 0 := by
  unfold lay1
  rw [c22_none]
  show c22 0 = 0
  exact c22_none
theorem layP_none : ∀ n, layP 0 z16 n = 0
  | 0 => rfl
  | n + 1 => by
    show lay1 (layP 0 z16 n) (z16.getD n 0) = 0
    rw [layP_none n, z16_at, lay1_none]
theorem laid_none (s : St) (hm : s.m = z16) (hl : s.l = 0) : laidZ s z16 = z16 ∧ laidP s z16 = 0 := by
  unfold laidZ laidP
  rw [hm, hl, c22_none, back1_none, overZ_zero]
  refine ⟨?_, layP_none 16⟩
  unfold layZ
  exact map_range_const fun i => layP_none _
theorem memZ_none : memZ z16 = z16 := by
  unfold memZ
  rw [back2_none]
  exact z16_map (cut_none 32 (.inr (.inr rfl)))
theorem right_st0 : rightP st0 := by
  rw [rightP_def]
  exact ⟨by decide, by decide, by decide, held_z16, by decide, by decide⟩
theorem lose_out0 : loseOut st0 = z16 := by
  rw [loseOut_eq right_st0]
  have e : halfZ st0 = z16 := (show halfZ st0 = z16.map (fun x => x.tdiv 2) from if_pos (show (0 : Int) < 8 by decide)).trans (z16_map (f := fun x => x.tdiv 2) rfl)
  rw [e, (laid_none st0 rfl rfl).1]
  exact z16_map c16_none
theorem lose_st0 : loseSt st0 = ⟨z16, 0, z4, z16, 1⟩ := by
  rw [loseSt_eq right_st0]
  have e : halfZ st0 = z16 := (show halfZ st0 = z16.map (fun x => x.tdiv 2) from if_pos (show (0 : Int) < 8 by decide)).trans (z16_map (f := fun x => x.tdiv 2) rfl)
  rw [e, (laid_none st0 rfl rfl).2, memZ_none]
  rfl
noncomputable def FLa : Fns := F0.plus 51 (ctSS (fun _ => True) loseOut loseSt)
theorem FLa_ok : FnsOk Try.prog FLa := F0_ok.plus lose_ct Try.func51 (by kernel_rfl) (by kernel_rfl)
theorem awake14_walk : walk2 FLa 0 Try.f50 [] [] fun y _ => y = vb true := by
  repeat' ((conv => whnf); first | (refine And.intro ⟨rfl, rfl, rfl⟩ ?_) | (refine And.intro trivial ?_) | (refine ask_same lose_out0 ?_) | (refine ask_st _ _ lose_st0 ?_) | (refine ⟨by kernel_rfl, ?_⟩) | rfl | fail)
theorem awake14_ct : CtOk Try.prog 50 (ct0 (vb true)) := by
  intro ws K h' hr
  unfold ct0 at h'
  split at h'
  · exact ⟨_, h', ⟨trivial, rfl⟩, walk2_calls FLa_ok Try.func50 rfl trivial rfl awake14_walk⟩
  · exact h'.elim
noncomputable def FLb : Fns := (((((FLa.plus 50 (ct0 (vb true))).plus 52 (ctSS (fun _ => True) loseOut (fun _ => st0))).plus 35 ctS1).plus 38 ctS1).plus 53 (ctSt rightP)).plus 54 (ctSS rightP loseOut loseSt)
theorem refLose_ct : CtOk Try.prog 54 (ctSS rightP loseOut loseSt) := ctSS_ok FRl_ok Try.func54 (fun s _ _ => ⟨outN_len _ _ _ _, loseOut_in s⟩) (fun s h _ => loseSt_ok h) fun s h h1 => refLose_walk s h h1
theorem FLb_ok : FnsOk Try.prog FLb := (((((FLa_ok.plus awake14_ct Try.func50 (by kernel_rfl) (by kernel_rfl)).plus gap_ct Try.func52 (by kernel_rfl) (by kernel_rfl)).plus of_ct Try.func35 (by kernel_rfl) (by kernel_rfl)).plus plain_ct Try.func38 (by kernel_rfl) (by kernel_rfl)).plus refRight_ct Try.func53 (by kernel_rfl) (by kernel_rfl)).plus refLose_ct Try.func54 (by kernel_rfl) (by kernel_rfl)
theorem law_LostPlays (xs : List Int) (h : xs.length = 38) (hx : ∀ x ∈ xs, InK .i64 x) (w0 : World) : Calls Try.prog 14 #[.agg (xs.map (Value.int .i64)).toArray] w0 fun e w' => e = .returned (.bool true) ∧ Below w0.heap.size w0 w' := by
  obtain ⟨s, hs, hd⟩ := st_split xs h hx
  have := walk2_true FLb_ok Try.func14 (ws := [stW s]) ⟨hs.rng, trivial⟩ rfl (n := 0) ?_ w0
  · have e : ([stW s].map (W.den fun _ => (0, 0))).toArray = #[Value.agg (xs.map (Value.int .i64)).toArray] := by rw [← hd]; rfl
    rw [e] at this; exact this
  rcases Classical.em (rightP s) with h1 | h1
  · repeat' ((conv => whnf); first | (refine And.intro ⟨rfl, rfl, rfl⟩ ?_) | (refine And.intro trivial ?_) | (refine And.intro h1 ?_) | (refine ask_true h1 ?_) | (with_reducible refine ask_same rfl ?_) | (refine ask_st (loseSt s) (loseSt s) rfl ?_) | (refine ask_st st0 st0 rfl ?_) | (refine ⟨by kernel_rfl, ?_⟩) | rfl | fail)
  · have e1 := loseOut_no h1
    have e2 := loseSt_no h1
    repeat' ((conv => whnf); first | (refine And.intro ⟨rfl, rfl, rfl⟩ ?_) | (refine And.intro trivial ?_) | (refine ask_false h1 ?_) | (with_reducible refine ask_same rfl ?_) | (refine ask_same e1 ?_) | (refine ask_st (loseSt s) st0 e2 ?_) | (refine ask_st st0 (loseSt s) e2.symm ?_) | (refine ask_st st0 st0 rfl ?_) | (refine ⟨by kernel_rfl, ?_⟩) | rfl | fail)
end Go.Proofs.Ytbgjmlncdlcglaa
