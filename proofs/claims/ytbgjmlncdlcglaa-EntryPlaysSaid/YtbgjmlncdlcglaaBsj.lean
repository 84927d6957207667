/- Chapter state: a state read off its bytes, walked. -/
import Derived.Test.YtbgjmlncdlcglaaBsi
set_option linter.all false
namespace Go.Proofs.Ytbgjmlncdlcglaa
open Go.RowKit (Below)
set_option maxRecDepth 100000
set_option maxHeartbeats 32000000

/-- A number with its sign. -/
def s32 (v : Int) : Int := if v < 2147483648 then v else v - 4294967296
theorem s32_in {v : Int} (h : 0 ≤ v ∧ v ≤ 4294967295) : -2147483648 ≤ s32 v ∧ s32 v ≤ 2147483647 := by unfold s32; split <;> omega
theorem wrap_s32 {v : Int} (h0 : 0 ≤ v) (h1 : v ≤ 4294967295) : IntKind.i32.wrap v = s32 v := by
  unfold s32
  simp only [IntKind.wrap, IntKind.bits, IntKind.signed]
  simp
  split <;> omega
def nb (bs : List Int) (k : Nat) : Int := s32 (le4 (bs.drop k))
def mS (bs : List Int) : List Int := (List.range 16).map fun i => nb bs (4 * i)
def wS (bs : List Int) : List Int := (List.range 16).map fun i => nb bs (72 + 4 * i)
def vS (bs : List Int) : List Int := (List.range 4).map fun b => bs.getD (68 + b) 0
/-- The state of these bytes. -/
def rdS (bs : List Int) : St := ⟨mS bs, nb bs 64, vS bs, wS bs, bs.getD 136 0⟩
theorem drop_in {bs : List Int} (h : ∀ x ∈ bs, InK .u8 x) (k : Nat) : ∀ x ∈ bs.drop k, InK .u8 x := fun x hx => h x (List.mem_of_mem_drop hx)
theorem nb_in {bs : List Int} (h : ∀ x ∈ bs, InK .u8 x) (k : Nat) : -2147483648 ≤ nb bs k ∧ nb bs k ≤ 2147483647 := s32_in (le4_in (drop_in h k))
theorem rdS_ok {bs : List Int} (h : ∀ x ∈ bs, InK .u8 x) : StOk (rdS bs) := by
  refine ⟨⟨by simp [rdS, mS], fun x hx => ?_⟩, in_of (nb_in h _), ⟨by simp [rdS, vS], fun x hx => ?_⟩, ⟨by simp [rdS, wS], fun x hx => ?_⟩, in_of (by have := u8_at h 136; show -2147483648 ≤ bs.getD 136 0 ∧ bs.getD 136 0 ≤ 2147483647; omega)⟩
  · obtain ⟨i, _, rfl⟩ := List.mem_map.1 hx
    exact in_of (nb_in h _)
  · obtain ⟨i, _, rfl⟩ := List.mem_map.1 hx
    exact in_of (by have := u8_at h (68 + i); omega)
  · obtain ⟨i, _, rfl⟩ := List.mem_map.1 hx
    exact in_of (nb_in h _)
abbrev rdr (xs : List Int) : Blk := .own 115 [.one (.cs (strOfNums xs))]
theorem rdr_next {bs : List Int} (h : ∀ x ∈ bs, InK .u8 x) {k l m : Nat} (hm : m = k + l) : Blk.own 115 [.one (.cs ((strOfNums (bs.drop k)).extract l (strOfNums (bs.drop k)).size))] = rdr (bs.drop m) := by
  rw [str_drop _ (drop_in h k), List.drop_drop, hm]
theorem sz_drop (bs : List Int) (k : Nat) : (strOfNums (bs.drop k)).size = bs.length - k := by rw [strOfNums_size, List.length_drop]
theorem le_drop {bs : List Int} (h : ∀ x ∈ bs, InK .u8 x) {k : Nat} {v : Int} (hv : v = le4 (bytesI (strOfNums (bs.drop k)))) : s32 v = nb bs k := by
  rw [hv, bytesI_str (drop_in h k)]; rfl
noncomputable def FRd : Fns := (((F0.plus 65 ctNum).plus 36 (ctSt rightP)).into 77 Try.f77).into 78 Try.f78
theorem FRd_ok : FnsOk Try.prog FRd := (((F0_ok.plus num_ct Try.func65 (by kernel_rfl) (by kernel_rfl)).plus right_ct Try.func36 (by kernel_rfl) (by kernel_rfl)).into Try.func77 (by kernel_rfl) (by kernel_rfl)).into Try.func78 (by kernel_rfl) (by kernel_rfl)
theorem read_walk (bs : List Int) (hl : bs.length = 137) (hin : ∀ x ∈ bs, InK .u8 x) : walk FRd 1 Try.f37 [.c (.cs (strOfNums bs))] [] fun y _ => y = open Classical in if rightP (rdS bs) then .tup [stW (rdS bs), i64 0] else .tup [stW st0, i64 4] := by
  have hz : (strOfNums bs).size = 137 := by rw [strOfNums_size, hl]
  conv => whnf
  refine ask_false (by rw [hz]; decide) ?_
  conv => whnf
  refine loop_at (6 :: List.range' 16 9) (fun m (i : Int) => 0 ≤ i ∧ i ≤ 16 ∧ m = (16 - i).toNat) (fun i => [(16, vi i)]) (fun i => [sb st0, rdr (bs.drop (0 + 4 * i.toNat)), sb ⟨(stg (mS bs) z16 i), 0, z4, z16, 0⟩]) 16 0 ⟨by decide, by decide, rfl⟩ ?_ ?_
  · exact ⟨rfl, ⟨⟨Nat.le_of_ble_eq_true rfl, rfl⟩, trivial⟩, ⟨rfl, rfl, (by (rw [stg_zero]; try rfl)), trivial⟩, rfl, rfl, Nat.zero_le _⟩
  · rintro m i ⟨i0, i1, rfl⟩
    have em : mulN i.toNat (Try.prog.types[3]).size = i.toNat := mulN1 i.toNat
    rcases Int.lt_or_le i 16 with i2 | i2
    · conv => whnf
      refine ask_true (by omega) ?_
      conv => whnf
      refine And.intro (by rw [sz_drop, hl]; omega) fun v hv v0 v1 => ?_
      have hn := le_drop hin hv
      have hb := s32_in ⟨v0, v1⟩
      conv => whnf
      refine ask_is (wrap_s32 v0 v1) ?_
      conv => whnf
      refine ask_wrap64 (by omega) (by omega) ?_
      conv => whnf
      refine And.intro ⟨by decide, by rw [sz_drop, hl]; omega⟩ ?_
      repeat' ((conv => whnf); first | (refine And.intro (by omega) ?_) | (refine ask_wrap64 (by omega) (by omega) ?_) | fail)
      conv => whnf
      refine ⟨(16 - (i + 1)).toNat, i + 1, by omega, ⟨by omega, by omega, rfl⟩, rfl, ⟨⟨Nat.le_of_ble_eq_true rfl, rfl⟩, trivial⟩, ⟨rfl, ?_, ?_, trivial⟩, rfl, rfl, Nat.zero_le _⟩
      · exact (rdr_next hin (k := 0 + 4 * i.toNat) (l := 4) (by omega)).symm
      · refine congrArg (fun zs => sb ⟨zs, 0, z4, z16, 0⟩) (stg_set em (by simp [mS, z16]) i0 (by simp [mS, z16]; omega) ?_).symm
        unfold mS; rw [getD_range (by omega)]; rw [Nat.zero_add] at hn; exact hn.symm
    · have hi : i = 16 := by omega
      subst hi
      rw [stg_all (by simp [mS, z16]) (by simp [mS, z16])]
      clear i0 i1 i2 em
      conv => whnf
      refine ask_false (by omega) ?_
      conv => whnf
      refine And.intro (by rw [sz_drop, hl]; omega) fun v hv v0 v1 => ?_
      have hn := le_drop hin hv
      have hb := s32_in ⟨v0, v1⟩
      conv => whnf
      refine ask_is (wrap_s32 v0 v1) ?_
      conv => whnf
      refine ask_wrap64 (by omega) (by omega) ?_
      conv => whnf
      refine And.intro ⟨by decide, by rw [sz_drop, hl]; omega⟩ ?_
      conv => whnf
      refine loop_at (7 :: List.range' 28 9) (fun m (i : Int) => 0 ≤ i ∧ i ≤ 4 ∧ m = (4 - i).toNat) (fun i => [(28, vi i)]) (fun i => [sb st0, rdr (bs.drop (68 + i.toNat)), sb ⟨mS bs, nb bs (0 + 4 * Int.toNat 16), (stg (vS bs) z4 i), z16, 0⟩]) 4 0 ⟨by decide, by decide, rfl⟩ ?_ ?_
      · exact ⟨rfl, ⟨⟨Nat.le_of_ble_eq_true rfl, rfl⟩, trivial⟩, ⟨rfl, (rdr_next hin (k := 0 + 4 * Int.toNat 16) (l := 4) rfl).symm, (by (rw [stg_zero, ← hn]; try rfl)), trivial⟩, rfl, rfl, Nat.zero_le _⟩
      · rintro m i ⟨i0, i1, rfl⟩
        have em : mulN i.toNat (Try.prog.types[3]).size = i.toNat := mulN1 i.toNat
        rcases Int.lt_or_le i 4 with i2 | i2
        · conv => whnf
          refine ask_true (by omega) ?_
          conv => whnf
          refine And.intro ⟨by decide, by rw [sz_drop, hl]; omega⟩ ?_
          conv => whnf
          refine ask_is (f := bs.getD (68 + i.toNat) 0) (by
            rw [show Int.toNat 0 = 0 from rfl, get_bytesI (by rw [sz_drop, hl]; omega), bytesI_str (drop_in hin _), List.getD_eq_getElem?_getD, List.getElem?_drop, ← List.getD_eq_getElem?_getD]; rfl) ?_
          have hb := u8_at hin (68 + i.toNat)
          conv => whnf
          refine ask_wrap64 (by omega) (by omega) ?_
          conv => whnf
          refine And.intro ⟨by decide, by rw [sz_drop, hl]; omega⟩ ?_
          repeat' ((conv => whnf); first | (refine And.intro (by omega) ?_) | (refine ask_wrap64 (by omega) (by omega) ?_) | fail)
          conv => whnf
          refine ⟨(4 - (i + 1)).toNat, i + 1, by omega, ⟨by omega, by omega, rfl⟩, rfl, ⟨⟨Nat.le_of_ble_eq_true rfl, rfl⟩, trivial⟩, ⟨rfl, ?_, ?_, trivial⟩, rfl, rfl, Nat.zero_le _⟩
          · exact (rdr_next hin (k := 68 + i.toNat) (l := 1) (by omega)).symm
          · refine congrArg (fun zs => sb ⟨mS bs, nb bs (0 + 4 * Int.toNat 16), zs, z16, 0⟩) (stg_set em (by simp [vS, z4]) i0 (by simp [vS, z4]; omega) ?_).symm
            unfold vS; rw [getD_range (by omega)]
        · have hi : i = 4 := by omega
          subst hi
          rw [stg_all (by simp [vS, z4]) (by simp [vS, z4])]
          clear i0 i1 i2 em
          conv => whnf
          refine ask_false (by omega) ?_
          conv => whnf
          refine loop_at (8 :: List.range' 37 9) (fun m (i : Int) => 0 ≤ i ∧ i ≤ 16 ∧ m = (16 - i).toNat) (fun i => [(37, vi i)]) (fun i => [sb st0, rdr (bs.drop (72 + 4 * i.toNat)), sb ⟨mS bs, nb bs (0 + 4 * Int.toNat 16), vS bs, (stg (wS bs) z16 i), 0⟩]) 16 0 ⟨by decide, by decide, rfl⟩ ?_ ?_
          · exact ⟨rfl, ⟨⟨Nat.le_of_ble_eq_true rfl, rfl⟩, trivial⟩, ⟨rfl, rfl, (by (rw [stg_zero]; try rfl)), trivial⟩, rfl, rfl, Nat.zero_le _⟩
          · rintro m i ⟨i0, i1, rfl⟩
            have em : mulN i.toNat (Try.prog.types[3]).size = i.toNat := mulN1 i.toNat
            rcases Int.lt_or_le i 16 with i2 | i2
            · conv => whnf
              refine ask_true (by omega) ?_
              conv => whnf
              refine And.intro (by rw [sz_drop, hl]; omega) fun v hv v0 v1 => ?_
              have hn := le_drop hin hv
              have hb := s32_in ⟨v0, v1⟩
              conv => whnf
              refine ask_is (wrap_s32 v0 v1) ?_
              conv => whnf
              refine ask_wrap64 (by omega) (by omega) ?_
              conv => whnf
              refine And.intro ⟨by decide, by rw [sz_drop, hl]; omega⟩ ?_
              repeat' ((conv => whnf); first | (refine And.intro (by omega) ?_) | (refine ask_wrap64 (by omega) (by omega) ?_) | fail)
              conv => whnf
              refine ⟨(16 - (i + 1)).toNat, i + 1, by omega, ⟨by omega, by omega, rfl⟩, rfl, ⟨⟨Nat.le_of_ble_eq_true rfl, rfl⟩, trivial⟩, ⟨rfl, ?_, ?_, trivial⟩, rfl, rfl, Nat.zero_le _⟩
              · exact (rdr_next hin (k := 72 + 4 * i.toNat) (l := 4) (by omega)).symm
              · refine congrArg (fun zs => sb ⟨mS bs, nb bs (0 + 4 * Int.toNat 16), vS bs, zs, 0⟩) (stg_set em (by simp [wS, z16]) i0 (by simp [wS, z16]; omega) ?_).symm
                unfold wS; rw [getD_range (by omega)]; exact hn.symm
            · have hi : i = 16 := by omega
              subst hi
              rw [stg_all (by simp [wS, z16]) (by simp [wS, z16])]
              clear i0 i1 i2 em
              conv => whnf
              refine ask_false (by omega) ?_
              conv => whnf
              refine And.intro ⟨by decide, by rw [sz_drop, hl]; omega⟩ ?_
              conv => whnf
              refine ask_is (f := bs.getD (72 + 4 * Int.toNat 16) 0) (by
                rw [show Int.toNat 0 = 0 from rfl, get_bytesI (by rw [sz_drop, hl]; omega), bytesI_str (drop_in hin _), List.getD_eq_getElem?_getD, List.getElem?_drop, ← List.getD_eq_getElem?_getD]; rfl) ?_
              have hb := u8_at hin (72 + 4 * Int.toNat 16)
              conv => whnf
              refine ask_wrap64 (by omega) (by omega) ?_
              conv => whnf
              refine And.intro ⟨by decide, by rw [sz_drop, hl]; omega⟩ ?_
              conv => whnf
              refine And.intro ⟨rfl, rfl, rfl⟩ ?_
              rcases Classical.em (rightP (rdS bs)) with hr | hr
              · rw [if_pos hr]
                refine ask_true hr ?_
                repeat' ((conv => whnf); first | (refine ⟨by kernel_rfl, ?_⟩) | rfl | fail)
              · rw [if_neg hr]
                refine ask_false hr ?_
                repeat' ((conv => whnf); first | (refine ⟨by kernel_rfl, ?_⟩) | rfl | fail)
theorem read_no_walk (s : ByteArray) (h : s.size ≠ 137) : walk FRd 1 Try.f37 [.c (.cs s)] [] fun y _ => y = .tup [stW st0, i64 10] := by
  conv => whnf
  refine ask_true (by omega) ?_
  repeat' ((conv => whnf); first | (refine ⟨by kernel_rfl, ?_⟩) | rfl | fail)
def ctRead : Ct := fun ws K => match ws with
  | [.c (.cs s)] => (s.size = 137 → rightP (rdS (bytesI s)) → K (.tup [stW (rdS (bytesI s)), i64 0])) ∧ (s.size = 137 → ¬ rightP (rdS (bytesI s)) → K (.tup [stW st0, i64 4])) ∧ (s.size ≠ 137 → K (.tup [stW st0, i64 10]))
  | _ => False
theorem read_ct : CtOk Try.prog 37 ctRead := by
  intro ws K h' hr
  unfold ctRead at h'
  split at h'
  · rename_i s
    obtain ⟨h1, h2, h3⟩ := h'
    have small : ∀ n : Int, 0 ≤ n → n ≤ 10 → InK .i64 n := fun n _ _ => by simp only [InK, lowK, highK]; omega
    have hin := bytesI_in s
    rcases Classical.em (s.size = 137) with hs | hs
    · have hw := read_walk (bytesI s) (by rw [bytesI_len]; exact hs) hin
      rw [str_bytesI] at hw
      rcases Classical.em (rightP (rdS (bytesI s))) with hp | hp
      · rw [if_pos hp] at hw
        exact ⟨_, h1 hs hp, ⟨⟨(rdS_ok hin).rng, small 0 (by decide) (by decide), trivial⟩, rfl⟩, walk_calls FRd_ok Try.func37 rfl hr rfl hw⟩
      · rw [if_neg hp] at hw
        exact ⟨_, h2 hs hp, ⟨⟨st0_ok.rng, small 4 (by decide) (by decide), trivial⟩, rfl⟩, walk_calls FRd_ok Try.func37 rfl hr rfl hw⟩
    · exact ⟨_, h3 hs, ⟨⟨st0_ok.rng, small 10 (by decide) (by decide), trivial⟩, rfl⟩, walk_calls FRd_ok Try.func37 rfl hr rfl (read_no_walk s hs)⟩
  · exact h'.elim
end Go.Proofs.Ytbgjmlncdlcglaa
