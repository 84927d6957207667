/- Chapter entry: the document's number, state, right, record, reading. -/
import Derived.Test.YtbgjmlncdlcglaaBeg
import Derived.Test.YtbgjmlncdlcglaaBsm
set_option linter.all false
namespace Go.Proofs.Ytbgjmlncdlcglaa
open Go.RowKit (Below)
set_option maxRecDepth 100000
set_option maxHeartbeats 32000000

theorem byte_at {s : ByteArray} {i : Int} {j : Nat} (hi : i = j) (hj : j < s.size) : (((s.get! i.toNat).toNat : Nat) : Int) = (bytesI s).getD j 0 := by
  subst hi
  rw [Int.toNat_natCast, get_bytesI hj]
theorem nb_le (bs : List Int) (k : Nat) : le4 (bs.drop k) = bs.getD k 0 + 256 * bs.getD (k + 1) 0 + 65536 * bs.getD (k + 2) 0 + 16777216 * bs.getD (k + 3) 0 := by
  simp only [le4, List.getD_eq_getElem?_getD, List.getElem?_drop, Nat.add_zero]
theorem number_walk (s : ByteArray) (k : Nat) (hk : k + 4 ≤ s.size) (hs : s.size ≤ 9223372036854775807) : walk F0 0 Try.f100 [.c (.cs s), i64 k] [] fun y _ => y = .w (i64 (nb (bytesI s) k)) := by
  have hin := bytesI_in s
  obtain ⟨l0, u0⟩ := u8_at hin k
  obtain ⟨l1, u1⟩ := u8_at hin (k + 1)
  obtain ⟨l2, u2⟩ := u8_at hin (k + 2)
  obtain ⟨l3, u3⟩ := u8_at hin (k + 3)
  have e0 : ∀ i : Int, i = (k : Nat) → (((s.get! i.toNat).toNat : Nat) : Int) = (bytesI s).getD k 0 := fun i hi => byte_at hi (by omega)
  have e1 : ∀ i : Int, i = ((k + 1 : Nat) : Int) → (((s.get! i.toNat).toNat : Nat) : Int) = (bytesI s).getD (k + 1) 0 := fun i hi => byte_at hi (by omega)
  have e2 : ∀ i : Int, i = ((k + 2 : Nat) : Int) → (((s.get! i.toNat).toNat : Nat) : Int) = (bytesI s).getD (k + 2) 0 := fun i hi => byte_at hi (by omega)
  have e3 : ∀ i : Int, i = ((k + 3 : Nat) : Int) → (((s.get! i.toNat).toNat : Nat) : Int) = (bytesI s).getD (k + 3) 0 := fun i hi => byte_at hi (by omega)
  have hn : nb (bytesI s) k = s32 ((bytesI s).getD k 0 + 256 * (bytesI s).getD (k + 1) 0 + 65536 * (bytesI s).getD (k + 2) 0 + 16777216 * (bytesI s).getD (k + 3) 0) := by rw [nb, nb_le]
  generalize (bytesI s).getD k 0 = b0 at *
  generalize (bytesI s).getD (k + 1) 0 = b1 at *
  generalize (bytesI s).getD (k + 2) 0 = b2 at *
  generalize (bytesI s).getD (k + 3) 0 = b3 at *
  rw [hn]
  conv => whnf
  refine And.intro ⟨by omega, by omega⟩ ?_
  conv => whnf
  refine ask_is (e0 _ rfl) ?_
  repeat' ((conv => whnf); first | (refine ask_wrap64 (by omega) (by omega) ?_) | (refine And.intro ⟨by omega, by omega⟩ ?_) | (refine ask_is (e1 _ (by omega)) ?_) | (refine ask_is (e2 _ (by omega)) ?_) | (refine ask_is (e3 _ (by omega)) ?_) | fail)
  rcases Int.lt_or_le (b0 + 256 * b1 + 65536 * b2 + 16777216 * b3) 2147483648 with g | g
  · rw [show s32 (b0 + 256 * b1 + 65536 * b2 + 16777216 * b3) = b0 + 256 * b1 + 65536 * b2 + 16777216 * b3 by unfold s32; rw [if_pos g]]
    repeat' ((conv => whnf); first | (refine ask_false (by omega) ?_) | (refine ⟨by kernel_rfl, ?_⟩) | rfl | fail)
  · rw [show s32 (b0 + 256 * b1 + 65536 * b2 + 16777216 * b3) = b0 + 256 * b1 + 65536 * b2 + 16777216 * b3 - 4294967296 by unfold s32; rw [if_neg (by omega)]]
    repeat' ((conv => whnf); first | (refine ask_true (by omega) ?_) | (refine ask_wrap64 (by omega) (by omega) ?_) | (refine ⟨by kernel_rfl, ?_⟩) | rfl | fail)
def ctRNum : Ct := fun ws K => match ws with
  | [.c (.cs s), .c (.ci .i64 a)] => (0 ≤ a ∧ a + 4 ≤ s.size) ∧ ∀ v, v = nb (bytesI s) a.toNat → -2147483648 ≤ v → v ≤ 2147483647 → K (.w (i64 v))
  | _ => False
theorem number_ct : CtOk Try.prog 100 ctRNum := by
  intro ws K h' hr
  unfold ctRNum at h'
  split at h'
  · rename_i s a
    obtain ⟨⟨h0, h1⟩, h2⟩ := h'
    have hb := nb_in (bytesI_in s) a.toNat
    have hw := number_walk s a.toNat (by omega) hr.1
    rw [Int.toNat_of_nonneg h0] at hw
    exact ⟨_, h2 _ rfl hb.1 hb.2, ⟨in_of hb, rfl⟩, walk_calls F0_ok Try.func100 (n := 0) rfl hr rfl hw⟩
  · exact h'.elim

/-! ### the document's state of 137 bytes -/
noncomputable def FRs : Fns := (F0.plus 100 ctRNum).plus 53 (ctSt rightP)
theorem FRs_ok : FnsOk Try.prog FRs := (F0_ok.plus number_ct Try.func100 (by kernel_rfl) (by kernel_rfl)).plus refRight_ct Try.func53 (by kernel_rfl) (by kernel_rfl)
theorem refState_walk (s : ByteArray) (hz : s.size = 137) : walk FRs 0 Try.f87 [.c (.cs s)] [] fun y _ => y = .tup [stW (rdS (bytesI s)), .c (.cb (decide (rightP (rdS (bytesI s)))))] := by
  have hin := bytesI_in s
  conv => whnf
  refine ask_false (by omega) ?_
  conv => whnf
  refine loop_at (5 :: List.range' 11 19) (fun m (i : Int) => 0 ≤ i ∧ i ≤ 16 ∧ m = (16 - i).toNat) (fun i => [(5, vi i)]) (fun i => [rb st0, rb ⟨stg (mS (bytesI s)) z16 i, 0, z4, stg (wS (bytesI s)) z16 i, 0⟩]) 16 0 ⟨by decide, by decide, rfl⟩ ?_ ?_
  · exact ⟨rfl, ⟨⟨Nat.le_of_ble_eq_true rfl, rfl⟩, trivial⟩, ⟨rfl, (by (rw [stg_zero, stg_zero]; try rfl)), trivial⟩, rfl, rfl, Nat.zero_le _⟩
  · rintro m i ⟨i0, i1, rfl⟩
    have em : mulN i.toNat (Try.prog.types[3]).size = i.toNat := mulN1 i.toNat
    rcases Int.lt_or_le i 16 with i2 | i2
    · conv => whnf
      refine ask_true (by omega) ?_
      conv => whnf
      refine ask_wrap64 (by omega) (by omega) ?_
      conv => whnf
      refine And.intro ⟨by omega, by omega⟩ fun v hv v0 v1 => ?_
      repeat' ((conv => whnf); first | (refine And.intro (by omega) ?_) | (refine ask_wrap64 (by omega) (by omega) ?_) | fail)
      conv => whnf
      refine fun u hu u0 u1 => ?_
      repeat' ((conv => whnf); first | (refine And.intro (by omega) ?_) | (refine ask_wrap64 (by omega) (by omega) ?_) | fail)
      conv => whnf
      refine ⟨(16 - (i + 1)).toNat, i + 1, by omega, ⟨by omega, by omega, rfl⟩, rfl, ⟨⟨Nat.le_of_ble_eq_true rfl, rfl⟩, trivial⟩, ⟨rfl, ?_, trivial⟩, rfl, rfl, Nat.zero_le _⟩
      have h1 : (stg (mS (bytesI s)) z16 i).set (mulN i.toNat (Try.prog.types[3]).size) v = stg (mS (bytesI s)) z16 (i + 1) := by
        refine stg_set em (by simp [mS, z16]) i0 (by simp [mS]; omega) ?_
        unfold mS; rw [getD_range (by omega), hv]
        congr 1; omega
      have h2 : (stg (wS (bytesI s)) z16 i).set (mulN i.toNat (Try.prog.types[3]).size) u = stg (wS (bytesI s)) z16 (i + 1) := by
        refine stg_set em (by simp [wS, z16]) i0 (by simp [wS]; omega) ?_
        unfold wS; rw [getD_range (by omega), hu]
        congr 1; omega
      rw [← h1, ← h2]
      rfl
    · have hi : i = 16 := by omega
      subst hi
      rw [stg_all (by simp [mS, z16]) (by simp [mS, z16]), stg_all (by simp [wS, z16]) (by simp [wS, z16])]
      clear i0 i1 i2 em
      conv => whnf
      refine ask_false (by omega) ?_
      conv => whnf
      refine And.intro ⟨by decide, by omega⟩ fun v hv v0 v1 => ?_
      obtain rfl : v = nb (bytesI s) 64 := hv
      conv => whnf
      refine loop_at (6 :: List.range' 33 12) (fun m (i : Int) => 0 ≤ i ∧ i ≤ 4 ∧ m = (4 - i).toNat) (fun i => [(6, vi i)]) (fun i => [rb st0, rb ⟨mS (bytesI s), nb (bytesI s) 64, stg (vS (bytesI s)) z4 i, wS (bytesI s), 0⟩]) 4 0 ⟨by decide, by decide, rfl⟩ ?_ ?_
      · exact ⟨rfl, ⟨⟨Nat.le_of_ble_eq_true rfl, rfl⟩, trivial⟩, ⟨rfl, (by (rw [stg_zero]; try rfl)), trivial⟩, rfl, rfl, Nat.zero_le _⟩
      · rintro m i ⟨i0, i1, rfl⟩
        have em : mulN i.toNat (Try.prog.types[3]).size = i.toNat := mulN1 i.toNat
        rcases Int.lt_or_le i 4 with i2 | i2
        · have hb := u8_at hin (68 + i.toNat)
          conv => whnf
          refine ask_true (by omega) ?_
          conv => whnf
          refine ask_wrap64 (by omega) (by omega) ?_
          conv => whnf
          refine And.intro ⟨by omega, by omega⟩ ?_
          conv => whnf
          refine ask_is (byte_at (j := 68 + i.toNat) (by omega) (by omega)) ?_
          repeat' ((conv => whnf); first | (refine ask_wrap64 (by omega) (by omega) ?_) | (refine And.intro (by omega) ?_) | fail)
          conv => whnf
          refine ⟨(4 - (i + 1)).toNat, i + 1, by omega, ⟨by omega, by omega, rfl⟩, rfl, ⟨⟨Nat.le_of_ble_eq_true rfl, rfl⟩, trivial⟩, ⟨rfl, ?_, trivial⟩, rfl, rfl, Nat.zero_le _⟩
          refine congrArg (fun zs => rb ⟨mS (bytesI s), nb (bytesI s) 64, zs, wS (bytesI s), 0⟩) (stg_set em (by simp [vS, z4]) i0 (by simp [vS]; omega) ?_).symm
          unfold vS; rw [getD_range (by omega)]
        · have hi : i = 4 := by omega
          subst hi
          rw [stg_all (by simp [vS, z4]) (by simp [vS, z4])]
          clear i0 i1 i2 em
          have hb := u8_at hin 136
          conv => whnf
          refine ask_false (by omega) ?_
          conv => whnf
          refine And.intro ⟨by decide, by omega⟩ ?_
          conv => whnf
          refine ask_is (byte_at (j := 136) rfl (by omega)) ?_
          conv => whnf
          refine ask_wrap64 (by omega) (by omega) ?_
          conv => whnf
          refine And.intro ⟨rfl, rfl, rfl⟩ fun τ hτ => ?_
          subst hτ
          repeat' ((conv => whnf); first | (refine ⟨by kernel_rfl, ?_⟩) | rfl | fail)
theorem refState_no_walk (s : ByteArray) (h : s.size ≠ 137) : walk FRs 0 Try.f87 [.c (.cs s)] [] fun y _ => y = .tup [stW st0, .c (.cb false)] := by
  conv => whnf
  refine ask_true (by omega) ?_
  repeat' ((conv => whnf); first | (refine ⟨by kernel_rfl, ?_⟩) | rfl | fail)
def ctRState : Ct := fun ws K => match ws with
  | [.c (.cs s)] => (s.size = 137 → ∀ τ, τ = decide (rightP (rdS (bytesI s))) → K (.tup [stW (rdS (bytesI s)), .c (.cb τ)])) ∧ (s.size ≠ 137 → K (.tup [stW st0, .c (.cb false)]))
  | _ => False
theorem refState_ct : CtOk Try.prog 87 ctRState := by
  intro ws K h' hr
  unfold ctRState at h'
  split at h'
  · rename_i s
    obtain ⟨h1, h2⟩ := h'
    rcases Classical.em (s.size = 137) with hs | hs
    · exact ⟨_, h1 hs _ rfl, ⟨⟨(rdS_ok (bytesI_in s)).rng, trivial, trivial⟩, rfl⟩, walk_calls FRs_ok Try.func87 rfl hr rfl (refState_walk s hs)⟩
    · exact ⟨_, h2 hs, ⟨⟨st0_ok.rng, trivial, trivial⟩, rfl⟩, walk_calls FRs_ok Try.func87 rfl hr rfl (refState_no_walk s hs)⟩
  · exact h'.elim

/-! ### the document's right, record, reading -/
noncomputable def FRq : Fns := F0.plus 87 ctRState
theorem FRq_ok : FnsOk Try.prog FRq := F0_ok.plus refState_ct Try.func87 (by kernel_rfl) (by kernel_rfl)
theorem refRightE_walk (k t : Int) (d : ByteArray) : walk FRq 0 Try.f55 [enW k t d] [] fun y _ => y = vb (decide (rightE k d)) := by
  rcases Classical.em (k = 1) with h1 | h1
  · subst h1
    conv => whnf
    refine ask_true rfl ?_
    rcases Nat.lt_or_ge d.size 10 with g1 | g1
    · rw [decide_eq_false (show ¬ rightE 1 d by rw [rightE1]; omega)]
      repeat' ((conv => whnf); first | (refine ask_false (by omega) ?_) | rfl | fail)
    · rcases Nat.lt_or_ge 32 d.size with g2 | g2
      · rw [decide_eq_false (show ¬ rightE 1 d by rw [rightE1]; omega)]
        repeat' ((conv => whnf); first | (refine ask_true (by omega) ?_) | (refine ask_false (by omega) ?_) | rfl | fail)
      · rw [decide_eq_true (show rightE 1 d by rw [rightE1]; omega)]
        repeat' ((conv => whnf); first | (refine ask_true (by omega) ?_) | rfl | fail)
  · rcases Classical.em (k = 2) with h2 | h2
    · subst h2
      rcases Classical.em (d = noS) with g | g
      · rw [decide_eq_true (show rightE 2 d by rw [rightE2]; exact g)]
        repeat' ((conv => whnf); first | (refine ask_false (by decide) ?_) | (refine ask_true (by decide) ?_) | (refine ask_true g ?_) | rfl | fail)
      · rw [decide_eq_false (show ¬ rightE 2 d by rw [rightE2]; exact g)]
        repeat' ((conv => whnf); first | (refine ask_false (by decide) ?_) | (refine ask_true (by decide) ?_) | (refine ask_false g ?_) | rfl | fail)
    · rcases Classical.em (k = 3) with h3 | h3
      · subst h3
        rcases Classical.em (d.size = 137) with g | g
        · have e : decide (rightE 3 d) = decide (rightP (rdS (bytesI d))) := by
            rcases Classical.em (rightP (rdS (bytesI d))) with g2 | g2
            · rw [decide_eq_true g2, decide_eq_true ((rightE3 d).2 ⟨g, g2⟩)]
            · rw [decide_eq_false g2, decide_eq_false (fun h => g2 ((rightE3 d).1 h).2)]
          rw [e]
          repeat' ((conv => whnf); first | (refine ask_false (by decide) ?_) | (refine ask_true (by decide) ?_) | (refine And.intro (fun _ τ hτ => ?_) (fun hn => absurd g hn)) | fail)
          subst hτ
          repeat' ((conv => whnf); first | (refine ⟨by kernel_rfl, ?_⟩) | rfl | fail)
        · rw [decide_eq_false (show ¬ rightE 3 d by rw [rightE3]; exact fun h => g h.1)]
          repeat' ((conv => whnf); first | (refine ask_false (by decide) ?_) | (refine ask_true (by decide) ?_) | (refine And.intro (fun hn => absurd hn g) (fun _ => ?_)) | (refine ⟨by kernel_rfl, ?_⟩) | rfl | fail)
      · rw [decide_eq_false (rightE_other h1 h2 h3)]
        repeat' ((conv => whnf); first | (refine ask_false (by omega) ?_) | rfl | fail)
theorem refRightE_ct : CtOk Try.prog 55 (ctEn fun k _ d => rightE k d) := ctEn_ok FRq_ok Try.func55 refRightE_walk
noncomputable def FRl20 : Fns := F0.plus 88 ctRFour
theorem FRl20_ok : FnsOk Try.prog FRl20 := F0_ok.plus refFour_ct Try.func88 (by kernel_rfl) (by kernel_rfl)
theorem refLayE_walk (k t : Int) (d : ByteArray) (hd : d.size ≤ 1000) : walk FRl20 0 Try.f56 [enW k t d] [] fun y _ => y = .w (.c (.cs (strOfNums (layE k t d)))) := by
  have e := lay_eq k t d
  conv => whnf
  refine ask_is (wrap8 _) ?_
  conv => whnf
  refine And.intro rfl ?_
  conv => whnf
  refine And.intro (by decide) ?_
  conv => whnf
  refine And.intro (by decide) ?_
  conv => whnf
  refine fun s hs => ?_
  subst hs
  conv => whnf
  refine And.intro (by rw [strOfNums_size, strOfNums_size]; exact (by decide : 1 + 4 ≤ 9223372036854775807)) ?_
  conv => whnf
  refine And.intro (by rw [ByteArray.size_append, strOfNums_size, strOfNums_size]; show 1 + 4 + d.size ≤ _; omega) ?_
  conv => whnf
  refine ⟨by kernel_rfl, ?_⟩
  conv => whnf
  exact congrArg (fun s => V.w (.c (.cs s))) e
def ctRLay : Ct := fun ws K => match ws with
  | [.agg [.one (.ci .i64 k), .one (.ci .u32 t), .one (.cs d)]] => d.size ≤ 1000 ∧ ∀ s, s = strOfNums (layE k t d) → K (.w (.c (.cs s)))
  | _ => False
theorem refLayE_ct : CtOk Try.prog 56 ctRLay := by
  intro ws K h' hr
  unfold ctRLay at h'
  split at h'
  · rename_i k t d
    exact ⟨_, h'.2 _ rfl, ⟨by show (strOfNums _).size ≤ _; rw [strOfNums_size, layE_len]; have := h'.1; omega, rfl⟩, walk_calls FRl20_ok Try.func56 (n := 0) rfl (ws := [enW k t d]) hr rfl (refLayE_walk k t d h'.1)⟩
  · exact h'.elim
noncomputable def FRr20 : Fns := F0.plus 55 (ctEn fun k _ d => rightE k d)
theorem FRr20_ok : FnsOk Try.prog FRr20 := F0_ok.plus refRightE_ct Try.func55 (by kernel_rfl) (by kernel_rfl)
theorem refReadE_short (s : ByteArray) (h5 : s.size < 5) : walk FRr20 0 Try.f57 [.c (.cs s)] [] fun y _ => y = .tup [enW 0 0 noS, i64 2] := by
  repeat' ((conv => whnf); first | (refine ask_true (by omega) ?_) | (refine ⟨by kernel_rfl, ?_⟩) | rfl | fail)
theorem refReadE_long (s : ByteArray) (h5 : 5 ≤ s.size) : walk FRr20 0 Try.f57 [.c (.cs s)] [] fun y _ => y = if rightE (kE s) (dE s) then .tup [enW (kE s) (tE s) (dE s), i64 0] else .tup [enW 0 0 noS, i64 4] := by
  have hin := bytesI_in s
  obtain ⟨l0, u0⟩ := u8_at hin 0
  obtain ⟨l1, u1⟩ := u8_at hin 1
  obtain ⟨l2, u2⟩ := u8_at hin 2
  obtain ⟨l3, u3⟩ := u8_at hin 3
  obtain ⟨l4, u4⟩ := u8_at hin 4
  have e0 : (((s.get! (Int.toNat 0)).toNat : Nat) : Int) = (bytesI s).getD 0 0 := byte_at rfl (by omega)
  have e1 : (((s.get! (Int.toNat 1)).toNat : Nat) : Int) = (bytesI s).getD 1 0 := byte_at rfl (by omega)
  have e2 : (((s.get! (Int.toNat 2)).toNat : Nat) : Int) = (bytesI s).getD 2 0 := byte_at rfl (by omega)
  have e3 : (((s.get! (Int.toNat 3)).toNat : Nat) : Int) = (bytesI s).getD 3 0 := byte_at rfl (by omega)
  have e4 : (((s.get! (Int.toNat 4)).toNat : Nat) : Int) = (bytesI s).getD 4 0 := byte_at rfl (by omega)
  have hk : kE s = (bytesI s).getD 0 0 := e0
  have ht : tE s = (bytesI s).getD 1 0 + 256 * (bytesI s).getD 2 0 + 65536 * (bytesI s).getD 3 0 + 16777216 * (bytesI s).getD 4 0 := by
    unfold tE
    rw [bytesI_ext, nb_le]
    have g : ∀ j, j < 5 → ((bytesI s).take 5).getD j 0 = (bytesI s).getD j 0 := fun j hj => by
      rw [List.getD_eq_getElem?_getD, List.getElem?_take, if_pos hj, ← List.getD_eq_getElem?_getD]
    rw [g 1 (by decide), g 2 (by decide), g 3 (by decide), g 4 (by decide)]
  rw [hk, ht]
  generalize (bytesI s).getD 0 0 = b0 at *
  generalize (bytesI s).getD 1 0 = b1 at *
  generalize (bytesI s).getD 2 0 = b2 at *
  generalize (bytesI s).getD 3 0 = b3 at *
  generalize (bytesI s).getD 4 0 = b4 at *
  clear hk ht
  have go : ∀ (b : Bool), b = decide (rightE b0 (dE s)) → ∀ y : V, y = (match b with | true => .tup [enW b0 (b1 + 256 * b2 + 65536 * b3 + 16777216 * b4) (dE s), i64 0] | false => .tup [enW 0 0 noS, i64 4]) → y = if rightE b0 (dE s) then .tup [enW b0 (b1 + 256 * b2 + 65536 * b3 + 16777216 * b4) (dE s), i64 0] else .tup [enW 0 0 noS, i64 4] := fun b hb y hy => by
    rcases Classical.em (rightE b0 (dE s)) with hp | hp
    · rw [if_pos hp, hy, hb, decide_eq_true hp]
    · rw [if_neg hp, hy, hb, decide_eq_false hp]
  rcases Classical.em (rightE b0 (dE s)) with hp | hp
  · rw [if_pos hp]
    repeat' ((conv => whnf); first | (refine ask_false (by omega) ?_) | (refine And.intro ⟨by omega, by omega⟩ ?_) | (refine ask_is e0 ?_) | (refine ask_is e1 ?_) | (refine ask_is e2 ?_) | (refine ask_is e3 ?_) | (refine ask_is e4 ?_) | (refine ask_wrap64 (by omega) (by omega) ?_) | (refine ask_wrapu32 (by omega) (by omega) ?_) | (refine And.intro (by omega) ?_) | (refine ⟨by kernel_rfl, ?_⟩) | (refine ask_true hp ?_) | (refine ask_false (by decide) ?_) | rfl | fail)
  · rw [if_neg hp]
    repeat' ((conv => whnf); first | (refine ask_false (by omega) ?_) | (refine And.intro ⟨by omega, by omega⟩ ?_) | (refine ask_is e0 ?_) | (refine ask_is e1 ?_) | (refine ask_is e2 ?_) | (refine ask_is e3 ?_) | (refine ask_is e4 ?_) | (refine ask_wrap64 (by omega) (by omega) ?_) | (refine ask_wrapu32 (by omega) (by omega) ?_) | (refine And.intro (by omega) ?_) | (refine ⟨by kernel_rfl, ?_⟩) | (refine ask_false hp ?_) | (refine ask_true (by decide) ?_) | rfl | fail)
theorem refReadE_ct : CtOk Try.prog 57 ctReadE := by
  intro ws K h' hr
  unfold ctReadE at h'
  split at h'
  · rename_i s
    obtain ⟨h1, h2, h3⟩ := h'
    have hs : s.size ≤ 9223372036854775807 := hr.1
    have small : ∀ n : Int, 0 ≤ n → n ≤ 255 → InK .i64 n := fun n _ _ => by simp only [InK, lowK, highK]; omega
    have small' : InK .u32 0 := by simp only [InK, lowK, highK]; omega
    rcases Nat.lt_or_ge s.size 5 with h5 | h5
    · exact ⟨_, h1 h5, ⟨⟨⟨small 0 (by decide) (by decide), small', Nat.zero_le _, trivial⟩, small 2 (by decide) (by decide), trivial⟩, rfl⟩, walk_calls FRr20_ok Try.func57 rfl hr rfl (refReadE_short s h5)⟩
    · have hw := refReadE_long s h5
      rcases Classical.em (rightE (kE s) (dE s)) with hp | hp
      · have hk := kE_in s
        have hd : (dE s).size ≤ 9223372036854775807 := by rw [dE, ByteArray.size_extract]; omega
        rw [if_pos hp] at hw
        exact ⟨_, h2 h5 hp _ _ _ rfl rfl rfl, ⟨⟨⟨small _ hk.1 hk.2, tE_in s, hd, trivial⟩, small 0 (by decide) (by decide), trivial⟩, rfl⟩, walk_calls FRr20_ok Try.func57 rfl hr rfl hw⟩
      · rw [if_neg hp] at hw
        exact ⟨_, h3 h5 hp, ⟨⟨⟨small 0 (by decide) (by decide), small', Nat.zero_le _, trivial⟩, small 4 (by decide) (by decide), trivial⟩, rfl⟩, walk_calls FRr20_ok Try.func57 rfl hr rfl hw⟩
  · exact h'.elim
end Go.Proofs.Ytbgjmlncdlcglaa
