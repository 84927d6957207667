/- Q: what is needed here of the texts XBt XBsd. (Printed by fam.py.) -/
import Derived.Test.YtaficaacogcblaaGreatDoorXs
import Derived.Test.YtaficaacogcblaaGreatDoorXrs
import Derived.Test.YtaficaacogcblaaGreatDoorXr
import Derived.Deep.Grids
import Derived.Test.YtaficaacogcblaaGreatDoorWjj
set_option linter.all false
namespace Go.Proofs.YtaficaacogcblaaGreatDoor
namespace Q
open Go.RowKit (Below)
set_option maxRecDepth 100000
set_option maxHeartbeats 32000000

theorem wrap8 (x : Int) : IntKind.u8.wrap x = x % 256 := by simp [IntKind.wrap, IntKind.bits, IntKind.signed]
theorem shrK {x : Int} {k : IntKind} (m : Nat) (h : m ≤ k.bits) : x.fdiv (2 ^ (min ((m : Int)).toNat k.bits)) = x / 2 ^ m := by
  rw [Int.toNat_natCast, Nat.min_eq_left h, Int.fdiv_eq_ediv_of_nonneg _ (Int.le_of_lt (Int.pow_pos (by decide)))]
/-- A number's four bytes. -/
def four (x : Int) : List Int := [x % 256, x / 256 % 256, x / 65536 % 256, x / 16777216 % 256]
def ctFour : Ct := fun ws K => match ws with
  | [.c (.ci .u32 x)] => ∀ s, s = strOfNums (four x) → K (.w (.c (.cs s)))
  | _ => False
theorem four_walk (x : Int) : walk F0 0 Tryz.f22 [u32 x] [] fun y _ => y = .w (.c (.cs (strOfNums (four x)))) := by
  conv => whnf
  refine ask_is (wrap8 x) ?_
  conv => whnf
  refine ⟨by decide, ask_is (shrK 8 (by decide)) ?_⟩
  conv => whnf
  refine ask_is (wrap8 _) ?_
  conv => whnf
  refine ⟨by decide, ask_is (shrK 16 (by decide)) ?_⟩
  conv => whnf
  refine ask_is (wrap8 _) ?_
  conv => whnf
  refine ⟨by decide, ask_is (shrK 24 (by decide)) ?_⟩
  conv => whnf
  refine ask_is (wrap8 _) ?_
  conv => whnf
  refine And.intro rfl ?_
  conv => whnf
  refine And.intro (by decide) ?_
  conv => whnf
  refine And.intro (by decide) ?_
  conv => whnf
  rfl
theorem four_ct : CtOk Tryz.prog 22 ctFour := by
  intro ws K h' hr
  unfold ctFour at h'
  split at h'
  · rename_i x
    exact ⟨_, h' _ rfl, ⟨by show (strOfNums (four x)).size ≤ _; rw [strOfNums_size]; exact (by decide : 4 ≤ 9223372036854775807), rfl⟩, walk_calls F0_ok Tryz.func22 (n := 0) rfl hr rfl (four_walk x)⟩
  · exact h'.elim
end Q

/- crc: sums, as functions; goes. -/
namespace Q
set_option maxRecDepth 100000
set_option maxHeartbeats 32000000

theorem mulN_u (n : Nat) : mulN n 1 = n := (mulN_eq n 1).trans (Nat.mul_one n)
def turnF (r : Int) : Int := if bitsI .and .u32 r 1 = 1 then bitsI .xor .u32 (r.fdiv (2 ^ (min ((1 : Int)).toNat IntKind.u32.bits))) 2197175160 else r.fdiv (2 ^ (min ((1 : Int)).toNat IntKind.u32.bits))
@[irreducible] noncomputable def turnS : Int → Int := sealed turnF
theorem turnS_def : turnS = turnF := by unfold turnS; rw [sealed_eq]
theorem bits_in (op : BinOp) (k : IntKind) (x y : Int) : InK k (bitsI op k x y) := by
  unfold bitsI
  split <;> exact inK_wrap _ _
theorem turn_in {r : Int} (h : InK .u32 r) : InK .u32 (turnF r) := by
  unfold turnF
  split
  · exact bits_in _ _ _ _
  · obtain ⟨h1, h2⟩ := h
    simp only [InK, lowK, highK] at h1 h2 ⊢
    show 0 ≤ r.fdiv 2 ∧ r.fdiv 2 ≤ 4294967295
    rw [Int.fdiv_eq_ediv_of_nonneg _ (by decide)]
    omega
def ctTurn : Ct := fun ws K => match ws with
  | [.c (.ci .u32 r)] => ∀ y, y = turnS r → InK .u32 y → K (.w (.c (.ci .u32 y)))
  | _ => False
theorem turn_walk (r : Int) : walk F0 0 Tryz.f128 [u32 r] [] fun y _ => y = .w (.c (.ci .u32 (turnF r))) := by
  repeat' ((conv => whnf); first | fail)
  conv => whnf
  intro a ha
  conv => whnf
  unfold turnF
  rw [← ha]
  refine ask_split (fun h => ?_) (fun h => ?_)
  · rw [if_pos h]
    repeat' ((conv => whnf); first | (refine And.intro (by decide) fun b hb => ?_) | fail)
    conv => whnf
    intro c hc
    rw [hc, hb]
    repeat' ((conv => whnf); first | fail)
    rfl
  · rw [if_neg h]
    repeat' ((conv => whnf); first | (refine And.intro (by decide) fun b hb => ?_) | fail)
    rw [hb]
    repeat' ((conv => whnf); first | fail)
    rfl
theorem turn_ct : CtOk Tryz.prog 128 ctTurn := by
  intro ws K h' hr
  unfold ctTurn at h'
  split at h'
  · rename_i r
    have hi := turn_in hr.1
    exact ⟨_, h' _ (by rw [turnS_def]) hi, ⟨hi, rfl⟩, walk_calls F0_ok Tryz.func128 (n := 0) rfl hr rfl (turn_walk r)⟩
  · exact h'.elim
/-- A byte's eight turns. -/
def turnN (f : Int → Int) (x : Int) : Nat → Int
  | 0 => x
  | n + 1 => f (turnN f x n)
noncomputable def tabL : Nat → List Int
  | 0 => List.replicate 256 0
  | i + 1 => (tabL i).set i (turnN turnS i 8)
theorem tabL_len : ∀ i, (tabL i).length = 256
  | 0 => rfl
  | i + 1 => by show ((tabL i).set i _).length = 256; rw [List.length_set]; exact tabL_len i
theorem tabL_at {k : Nat} : ∀ {i : Nat}, i ≤ 256 → k < i → (tabL i).getD k 0 = turnN turnS k 8
  | 0, _, h => absurd h (Nat.not_lt_zero k)
  | i + 1, hi, h => by
    show ((tabL i).set i _).getD k 0 = _
    rw [List.getD_eq_getElem?_getD, List.getElem?_set]
    split
    · rename_i e
      subst e
      rw [if_pos (by rw [tabL_len]; omega)]; rfl
    · rw [← List.getD_eq_getElem?_getD]
      exact tabL_at (by omega) (by omega)
theorem turnN_in {x : Int} (h : InK .u32 x) : ∀ n, InK .u32 (turnN turnS x n)
  | 0 => h
  | n + 1 => by
    show InK .u32 (turnS (turnN turnS x n))
    rw [turnS_def]
    have := turnN_in h n
    rw [turnS_def] at this
    exact turn_in this
theorem tabL_in : ∀ {i : Nat}, i ≤ 256 → ∀ x ∈ tabL i, InK .u32 x
  | 0, _, x, hx => by
    rw [(List.mem_replicate.1 hx).2]
    exact ⟨by decide, by decide⟩
  | i + 1, hi, x, hx => by
    rcases List.mem_or_eq_of_mem_set hx with h | rfl
    · exact tabL_in (by omega) x h
    · exact turnN_in ⟨by show (0 : Int) ≤ (i : Int); omega, by show (i : Int) ≤ 4294967295; omega⟩ 8
abbrev tB (xs : List Int) : Blk := .own 207 [.ints .u32 256 xs]
noncomputable def FTu : Fns := F0.plus 128 ctTurn
theorem FTu_ok : FnsOk Tryz.prog FTu := F0_ok.plus turn_ct Tryz.func128 (by kernel_rfl) (by kernel_rfl)
def madeP (x : V) (N : List Blk) : Prop := x = .w (.c (.cp 0 0)) ∧ N = [tB (tabL 256)]
theorem made_walk : walk FTu 0 Tryz.f79 [] [] (Made madeP) := by
  repeat' ((conv => whnf); first | fail)
  conv => whnf
  refine loop_at (List.range' 3 19) (fun m (i : Nat) => i ≤ 256 ∧ m = 256 - i) (fun i => [(4, vi i)]) (fun i => [tB (tabL i)]) 256 (0 : Nat) ⟨by omega, rfl⟩ ?_ ?_
  · exact ⟨rfl, ⟨⟨Nat.le_of_ble_eq_true rfl, rfl⟩, trivial⟩, ⟨rfl, trivial⟩, rfl, rfl, Nat.zero_le _⟩
  · rintro m i ⟨i1, rfl⟩
    have em : mulN (i : Int).toNat (Tryz.prog.types[31]).size = i := (mulN_u _).trans (Int.toNat_natCast i)
    have hll := tabL_len i
    rcases Nat.lt_or_ge i 256 with g | g
    · repeat' ((conv => whnf); first | (refine ask_true (by omega) ?_) | (refine And.intro (And.intro (by omega) (by omega)) ?_) | (refine ask_is (wrap_of_in (k := .u32) (n := (i : Int)) ⟨by simp only [lowK]; omega, by simp only [highK]; omega⟩) ?_) | (refine And.intro (show mulN (i : Int).toNat (Tryz.prog.types[31]).size < 256 by omega) ?_) | fail)
      conv => whnf
      rw [em]
      refine loop_at (List.range' 11 10) (fun m (n : Nat) => n ≤ 8 ∧ m = 8 - n) (fun n => [(11, vi n)]) (fun n => [tB ((tabL i).set i (turnN turnS i n))]) 8 (0 : Nat) ⟨by omega, rfl⟩ ?_ ?_
      · exact ⟨rfl, ⟨⟨Nat.le_of_ble_eq_true rfl, rfl⟩, trivial⟩, ⟨rfl, trivial⟩, rfl, rfl, Nat.zero_le _⟩
      · rintro m n ⟨n1, rfl⟩
        have ei : ((tabL i).set i (turnN turnS i n)).getD i 0 = turnN turnS i n := by
          rw [List.getD_eq_getElem?_getD, List.getElem?_set_self (by omega)]; rfl
        rcases Nat.lt_or_ge n 8 with gn | gn
        · repeat' ((conv => whnf); first | (refine ask_true (by omega) ?_) | (refine And.intro (And.intro (by omega) (by omega)) ?_) | (refine And.intro (show mulN (i : Int).toNat (Tryz.prog.types[31]).size < 256 by omega) ?_) | (refine fun (_ : InK _ _) => ?_) | (refine fun y hy hyi => ?_) | (refine ask_wrap64 (by omega) (by omega) ?_) | fail)
          conv => whnf
          rw [em, ei] at hy
          refine ⟨8 - (n + 1), n + 1, by omega, ⟨by omega, rfl⟩, ⟨rfl, ⟨⟨Nat.le_of_ble_eq_true rfl, rfl⟩, trivial⟩, ⟨?_, trivial⟩, rfl, rfl, Nat.zero_le _⟩⟩
          show tB ((tabL i).set i (turnN turnS i (n + 1))) = _
          rw [em, List.set_set, hy]; rfl
        · obtain rfl : n = 8 := by omega
          repeat' ((conv => whnf); first | (refine ask_false (by omega) ?_) | (refine ask_wrap64 (by omega) (by omega) ?_) | fail)
          exact ⟨256 - (i + 1), i + 1, by omega, ⟨by omega, rfl⟩, ⟨rfl, ⟨⟨Nat.le_of_ble_eq_true rfl, rfl⟩, trivial⟩, ⟨rfl, trivial⟩, rfl, rfl, Nat.zero_le _⟩⟩
    · obtain rfl : i = 256 := by omega
      repeat' ((conv => whnf); first | (refine ask_false (by omega) ?_) | fail)
      conv => whnf
      exact made_of (.w (.c (.cp 0 0))) [tB (tabL 256)] id ⟨rfl, rfl⟩ rfl ⟨rfl, trivial⟩ (fun a b _ _ h => h) rfl rfl (by intro e; cases e)
def hMade : HCt := fun ws H K => match ws with
  | [] => lenH H 0 fun j => pushH H (tB (tabL 256)) fun H' => K (.w (.c (.cp j 0))) H'
  | _ => False
theorem made_ct : HCtOk Tryz.prog 79 hMade := by
  intro ws H K h hr hb ho G σ base w₀ w hw
  unfold hMade at h
  split at h
  · refine walk_lift FTu_ok Tryz.func79 (n := 0) (ws := []) (R := []) (P0 := madeP) ⟨fun b hb => (by cases hb), fun b hb => (by cases hb)⟩ trivial rfl made_walk (fun x N hP b hb => ?_) id (fun j b hj => by simp at hj) rfl (fun x N hP => ?_) ho G σ base w₀ w hw
    · rw [hP.2] at hb
      rw [List.mem_singleton.1 hb]; exact .inl rfl
    · obtain ⟨rfl, rfl⟩ := hP
      rw [lenH_iff, pushH_iff, Nat.zero_add] at h
      simpa [V.ren, renW, W.ren, C.ren, sh, Blk.ren, rens, Seg.ren] using h
  · exact h.elim
/-- A text's bytes, one behind the other. -/
noncomputable def sumN (f : Int → Int) (x : Int) (s : List Int) : Nat → Int
  | 0 => bitsI .xor .u32 x 4294967295
  | n + 1 => bitsI .xor .u32 ((sumN f x s n).fdiv (2 ^ (min ((8 : Int)).toNat IntKind.u32.bits))) (turnN f (bitsI .xor .u8 (IntKind.u8.wrap (sumN f x s n)) (s.getD n 0)) 8)
noncomputable def FMo : Fns := F0.over 79 hMade
theorem FMo_ok : FnsOk Tryz.prog FMo := F0_ok.over made_ct Tryz.func79 (by kernel_rfl) (by kernel_rfl)
theorem get_bytesI {s : ByteArray} {i : Nat} (h : i < s.size) : (((s.get! i).toNat : Nat) : Int) = (bytesI s).getD i 0 := by
  have hl : i < (bytesI s).length := by rw [bytesI_len]; exact h
  rw [List.getD_eq_getElem?_getD, List.getElem?_eq_getElem hl]
  cases s with
  | mk d =>
    have hd : i < d.size := h
    simp only [bytesI, List.getElem_map, Option.getD_some, Array.getElem_toList]
    congr 1
    show (d[i]!).toNat = _
    rw [getElem!_pos d i hd]
theorem more_walk (x : Int) (s : ByteArray) (hs : s.size ≤ 9223372036854775807) : walk FMo 0 Tryz.f42 [u32 x, .c (.cs s)] [] fun y _ => y = .w (.c (.ci .u32 (bitsI .xor .u32 (sumN turnS x (bytesI s) s.size) 4294967295))) := by
  repeat' ((conv => whnf); first | (refine ask_is (show _ = sumN turnS x (bytesI s) 0 from rfl) ?_) | fail)
  conv => whnf
  refine loop_at (6 :: 7 :: List.range' 13 17) (fun m (i : Nat) => i ≤ s.size ∧ m = s.size - i) (fun i => [(6, .w (u32 (sumN turnS x (bytesI s) i))), (13, vi i)]) (fun i => [tB (tabL 256)]) s.size (0 : Nat) ⟨by omega, rfl⟩ ?_ ?_
  · exact ⟨rfl, ⟨⟨Nat.le_of_ble_eq_true rfl, rfl⟩, ⟨Nat.le_of_ble_eq_true rfl, rfl⟩, trivial⟩, ⟨rfl, trivial⟩, rfl, rfl, Nat.zero_le _⟩
  · rintro m i ⟨i1, rfl⟩
    rcases Nat.lt_or_ge i s.size with g | g
    · repeat' ((conv => whnf); first | (refine ask_true (by omega) ?_) | (refine And.intro (And.intro (by omega) (by omega)) ?_) | (refine ⟨by kernel_rfl, ?_⟩) | (refine And.intro (by decide) fun b hb => ?_) | fail)
      conv => whnf
      refine fun r1 hr1 => ?_
      repeat' ((conv => whnf); first | (refine And.intro (And.intro (by omega) (by omega)) ?_) | fail)
      conv => whnf
      refine fun c hc => ?_
      conv => whnf
      refine fun r2 hr2 => ?_
      have b2 := bits_in .xor .u8 r1 c
      rw [← hr2] at b2
      obtain ⟨b3, b4⟩ := b2
      simp only [lowK, highK] at b3 b4
      have em : mulN r2.toNat (Tryz.prog.types[31]).size = r2.toNat := mulN_u _
      have ht := tabL_at (k := r2.toNat) (i := 256) (Nat.le_refl _) (by omega)
      rw [Int.toNat_of_nonneg b3] at ht
      have hg := get_bytesI (s := s) (i := i) (by omega)
      repeat' ((conv => whnf); first | (refine And.intro (And.intro (by omega) (by omega)) ?_) | (refine And.intro (show mulN r2.toNat (Tryz.prog.types[31]).size < 256 by omega) ?_) | (refine fun (_ : InK _ _) => ?_) | fail)
      conv => whnf
      refine fun r3 hr3 => ?_
      rw [em, ht] at hr3
      rw [Int.toNat_natCast, hg] at hc
      have er : r3 = sumN turnS x (bytesI s) (i + 1) := by rw [hr3, hr2, hr1, hc, hb]; rfl
      repeat' ((conv => whnf); first | (refine ⟨by kernel_rfl, ?_⟩) | (refine ask_wrap64 (by omega) (by omega) ?_) | fail)
      refine ⟨s.size - (i + 1), i + 1, by omega, ⟨by omega, rfl⟩, ⟨rfl, ⟨⟨Nat.le_of_ble_eq_true rfl, ?_⟩, ⟨Nat.le_of_ble_eq_true rfl, rfl⟩, trivial⟩, ⟨rfl, trivial⟩, rfl, rfl, Nat.zero_le _⟩⟩
      show V.w (u32 r3) = V.w (u32 (sumN turnS x (bytesI s) (i + 1)))
      rw [er]
    · obtain rfl : i = s.size := by omega
      repeat' ((conv => whnf); first | (refine ask_false (by omega) ?_) | (refine ask_is rfl ?_) | fail)
      rfl
noncomputable def sumS (s : ByteArray) : Int := bitsI .xor .u32 (sumN turnS 0 (bytesI s) s.size) 4294967295
def ctMore : Ct := fun ws K => match ws with
  | [.c (.ci .u32 x), .c (.cs s)] => ∀ y, y = bitsI .xor .u32 (sumN turnS x (bytesI s) s.size) 4294967295 → K (.w (.c (.ci .u32 y)))
  | _ => False
theorem more_ct : CtOk Tryz.prog 42 ctMore := by
  intro ws K h' hr
  unfold ctMore at h'
  split at h'
  · rename_i x s
    exact ⟨_, h' _ rfl, ⟨bits_in _ _ _ _, rfl⟩, walk_calls FMo_ok Tryz.func42 (n := 0) rfl hr rfl (more_walk x s hr.2.1)⟩
  · exact h'.elim
def ctSum : Ct := fun ws K => match ws with
  | [.c (.cs s)] => ∀ y, y = sumS s → K (.w (.c (.ci .u32 y)))
  | _ => False
noncomputable def FSu : Fns := F0.plus 42 ctMore
theorem FSu_ok : FnsOk Tryz.prog FSu := F0_ok.plus more_ct Tryz.func42 (by kernel_rfl) (by kernel_rfl)
theorem sum_ct : CtOk Tryz.prog 21 ctSum := by
  intro ws K h' hr
  unfold ctSum at h'
  split at h'
  · rename_i s
    refine ⟨_, h' _ rfl, ⟨bits_in _ _ _ _, rfl⟩, walk_calls FSu_ok Tryz.func21 (n := 0) rfl hr rfl ?_⟩
    repeat' ((conv => whnf); first | (refine ask_is (show _ = sumS s from rfl) ?_) | fail)
    rfl
  · exact h'.elim
abbrev nine : ByteArray := ⟨#[49, 50, 51, 52, 53, 54, 55, 56, 57]⟩
theorem sum_nine : sumS nine = 3808858755 := by
  unfold sumS
  rw [turnS_def]
  kernel_rfl
noncomputable def FGo : Fns := (F0.plus 21 ctSum).plus 22 ctFour
theorem FGo_ok : FnsOk Tryz.prog FGo := (F0_ok.plus sum_ct Tryz.func21 (by kernel_rfl) (by kernel_rfl)).plus four_ct Tryz.func22 (by kernel_rfl) (by kernel_rfl)
theorem goes_ct : CtOk Tryz.prog 5 (ct0 (vb true)) := ct0_ok (n := 0) FGo_ok Tryz.func5 ⟨trivial, rfl⟩ (by
  repeat' ((conv => whnf); first | (refine ask_is sum_nine ?_) | (refine ask_true (by decide) ?_) | (refine ask_true rfl ?_) | (refine ask_is rfl ?_) | fail)
  rfl)
end Q

/- W2: what is needed here of the texts XCo. (Printed by fam.py.) -/
namespace W2
set_option maxRecDepth 100000
set_option maxHeartbeats 32000000

def SlB (w : World) (v : Value) : Prop :=
  v = .slice none 0 0 ∨ ∃ (b o len cap : Nat) (bs : List Bool), v = .slice (some ⟨b, o, none⟩) len cap ∧ len ≤ cap ∧ cap ≤ 9223372036854775807 ∧ b < w.heap.size ∧ bs.length = cap ∧
    ∀ (i : Nat) (u : Value), (bs.map Value.bool)[i]? = some u → w.cell? ⟨b, o + i, none⟩ = some u
theorem slB_of {H : Type} {enc : TypeId × Value → H} {P : Program} {w : World} {r : Reach} {base base' : Nat} {held : Bool} {t e : TypeId} {fuel : Nat} {v : Value} {x : DataW H × List MemPlace} (ht : P.underlying t = some (.slice e)) (he : P.underlying e = some .bool) (hc : P.cellsOf e = 1)
    (hv : Value.okWide P w r base t v) (h : DataW.trod enc P w base' (fun _ => true) held fuel t v.cells.toList = some x) : SlB w v := by
  rcases Go.Deep.open_bools ht he hc h with ⟨hcs, _⟩ | ⟨a, len, cap, B, hcs, _, hl, hm, _, hcell⟩
  · left
    obtain ⟨p, l, c, rfl⟩ := Go.WideShapes.okWide_slice ht hv
    simp [Value.cells] at hcs
    obtain ⟨rfl, rfl, rfl⟩ := hcs
    rfl
  · right
    obtain ⟨p, l, c, rfl⟩ := Go.WideShapes.okWide_slice ht hv
    simp [Value.cells] at hcs
    obtain ⟨rfl, rfl, rfl⟩ := hcs
    have hok : w.has P r base a e c := by
      have := hv
      simp only [Value.okWide, ht, Cell.okWide, Cell.ok] at this
      exact this.2.2
    obtain ⟨_, hspot, row, cells, hsh, _⟩ := hok
    have hblk : a.block < w.heap.size := by
      rcases Nat.lt_or_ge a.block w.heap.size with h | h
      · exact h
      · simp [World.shape?, Array.getElem?_eq_none h] at hsh
    obtain ⟨b, o, sp⟩ := a
    simp only at hspot hblk
    subst hspot
    refine ⟨b, o, l, c, (List.range c).map B, rfl, hl, by simpa only [maxLen] using hm, hblk, by simp, fun i u hu => ?_⟩
    have hi := (List.getElem?_eq_some_iff.1 hu).1
    simp at hi
    have := hcell i hi
    rw [add_ne rfl] at this
    rw [this]
    simp [hi] at hu
    rw [← hu]
/-- Its cells. -/
def boolS (bs : List Bool) : List Seg := bs.map fun b => .one (.cb b)
theorem boolS_ok : ∀ bs : List Bool, rngs (boolS bs) ∧ (∀ n, bnds n (boolS bs) = true) ∧ ∀ σ, dens σ (boolS bs) = bs.map Value.bool
  | [] => ⟨trivial, fun _ => rfl, fun _ => rfl⟩
  | b :: bs => by
    obtain ⟨h1, h2, h3⟩ := boolS_ok bs
    exact ⟨⟨trivial, h1⟩, fun n => h2 n, fun σ => by show _ :: dens σ (boolS bs) = _; rw [h3]; rfl⟩
theorem ro_of_slB {w : World} {σ : Sg} {j b o : Nat} {bs : List Bool} (hσ : σ j = (b, o)) (hb : b < w.heap.size) (hcell : ∀ (i : Nat) (u : Value), (bs.map Value.bool)[i]? = some u → w.cell? ⟨b, o + i, none⟩ = some u) : (Blk.ro (boolS bs)).rep σ w.heap.size w j := by
  refine ⟨by rw [hσ]; exact hb, fun i v hv => ?_⟩
  simp only [Sg.at, hσ]
  rw [(boolS_ok bs).2.2] at hv
  exact hcell i v hv
theorem segAt_bools {K : C → Prop} : ∀ {bs : List Bool} {i : Nat}, i < bs.length → K (.cb (bs.getD i false)) → segAt (boolS bs) i K
  | [], i, h, _ => absurd h (Nat.not_lt_zero i)
  | b :: bs, 0, _, hk => hk
  | b :: bs, i + 1, h, hk => segAt_bools (bs := bs) (i := i) (by simpa using h) hk
theorem kLoad_bools {P : Program} {T : TypeId} {bs : List Bool} {i : Nat} {b : Bool} {K : W → Prop} (hT : isAg (tyOf P T) = some false) (hi : i < bs.length) (hb : bs.getD i false = b) (hk : K (.c (.cb b))) : kLoad P T (boolS bs) 0 (some i) K := by
  have e : oneAt (boolS bs) 0 = true := by
    cases bs with
    | nil => exact absurd hi (Nat.not_lt_zero i)
    | cons => rfl
  unfold kLoad kLoad0
  simp only [e, hT, Nat.zero_add]
  exact segAt_bools hi (by rw [hb]; exact hk)
end W2

/- W2: what is needed here of the texts XBmc XBne. (Printed by fam.py.) -/
namespace W2
set_option maxRecDepth 100000
set_option maxHeartbeats 32000000

def bad20 (x : Int) : Prop := x < -1048576 ∨ 1048576 < x
instance (x : Int) : Decidable (bad20 x) := by unfold bad20; infer_instance
@[irreducible] def held (xs : List Int) : Prop := ∀ x ∈ xs, -1048576 ≤ x ∧ x ≤ 1048576
noncomputable instance (xs : List Int) : Decidable (held xs) := Classical.propDecidable _
theorem flds_state : FldsOk Tryz.prog .i64 (Tryz.prog.fieldsOf 51).toList 0 38 := by
  have e : (Tryz.prog.fieldsOf 51).toList = (Tryz.prog.fieldsOf 51).toList := rfl
  conv => whnf
  refine ⟨16, by kernel_rfl, fld_arr (e := 3) (by decide) (by kernel_rfl) rfl (by kernel_rfl) (by kernel_rfl) (by kernel_rfl) rfl (by kernel_rfl) (by kernel_rfl), ?_⟩
  conv => whnf
  refine ⟨1, by kernel_rfl, fld_int (by decide) (by kernel_rfl) (by kernel_rfl), ?_⟩
  conv => whnf
  refine ⟨4, by kernel_rfl, fld_arr (e := 3) (by decide) (by kernel_rfl) rfl (by kernel_rfl) (by kernel_rfl) (by kernel_rfl) rfl (by kernel_rfl) (by kernel_rfl), ?_⟩
  conv => whnf
  refine ⟨16, by kernel_rfl, fld_arr (e := 3) (by decide) (by kernel_rfl) rfl (by kernel_rfl) (by kernel_rfl) (by kernel_rfl) rfl (by kernel_rfl) (by kernel_rfl), ?_⟩
  conv => whnf
  refine ⟨1, by kernel_rfl, fld_int (by decide) (by kernel_rfl) (by kernel_rfl), ?_⟩
  exact (rfl : (38 : Nat) = 38)
end W2

/- Blocks and states compared. -/
namespace R
set_option maxRecDepth 100000
set_option maxHeartbeats 16000000

def E5 : Env := ⟨D.G1, fun t => match Nat.beq t 51 with
  | true => some (List.replicate 38 (.i .i64))
  | false => D.E1.EQ t⟩
theorem E5_ok : EnvOk Tryz.prog E5 := by
  refine ⟨D.E1_ok.glo, fun t ks h => ?_⟩
  simp only [E5] at h
  split at h
  · rename_i hb
    obtain rfl := Nat.eq_of_beq_eq_true hb
    cases h
    exact eqok_struct (by kernel_rfl) (by kernel_rfl) W2.flds_state (by kernel_rfl)
  · exact D.E1_ok.eq t ks h
abbrev walk5 (F : Fns) (n : Nat) (fn : Func) (ws : List W) (H : List Blk) (K : V → List Blk → Prop) : Prop := xfun Tryz.prog E5 (calF Tryz.prog E5 F (drwX Tryz.prog E5) n) (drwX Tryz.prog E5 (calF Tryz.prog E5 F (drwX Tryz.prog E5) n)) fn ws H K
theorem cal5_ok {F : Fns} (hF : FnsOk Tryz.prog F D.G1) (n : Nat) : CalOk Tryz.prog E5 (calF Tryz.prog E5 F (drwX Tryz.prog E5) n) := calF_ok E5_ok hF (fun cal hc => drwX_ok E5_ok mixed cal hc) n
theorem load_ones {P : Program} {T : TypeId} {cs : List C} {d : C} {j i : Nat} {K : W → Prop} (ht : isAg (tyOf P T) = some false) (hj : j = i) (hd : cs[i]? = some d) (hK : K (.c d)) : kLoad P T (ones cs) 0 (some j) K := by
  subst hj
  match cs, hd with
  | c :: cs, hd =>
    show kLoad0 P T (ones (c :: cs)) (0 + j) none K
    unfold kLoad0
    rw [ht, Nat.zero_add]
    exact segAt_ones hd hK
/-- Frames that are handed in. -/
def FrIn (H : List Blk) (v : C) : Prop := v = .csn ∨ ∃ j l c xs, v = .csl j 0 0 l c ∧ H[j]? = some (.ro [.ints .i64 (c * 16) xs]) ∧ l ≤ c ∧ c ≤ 9223372036854775807
def hFr2 : HCt := fun ws H K => match ws with
  | [.c v] => FrIn H v ∧ ∀ (v' : C) (k : Nat) (H' : List Blk), k ≤ 30 → UpH H H' → FrAt H.length H' v' k → K (.w (.c v')) H'
  | _ => False
theorem frames2_ct : HCtOkG Tryz.prog D.G1 17 hFr2 := by
  intro ws H K h hr hb ho σ base w₀ w hw
  unfold hFr2 at h
  split at h
  · rename_i v
    obtain ⟨hf, hK⟩ := h
    rcases hf with rfl | ⟨j, l, c, xs, rfl, h1, h2, h3⟩
    · exact frames_ct [.c .csn] H K (hK .csn 0 H (by decide) (UpH.refl ho.bnd) (.inl ⟨rfl, rfl⟩)) hr hb ho σ base w₀ w hw
    · exact frames_ct [.c (.csl j 0 0 l c)] H K ⟨⟨xs, h1⟩, ⟨h2, h3⟩, hK⟩ hr hb ho σ base w₀ w hw
  · exact h.elim
abbrev stB (s : B.St) : Blk := .own 51 (B.stW s).segs
/-- A region whose orders are walked, by what may stand behind it; the blocks bear their own names. -/
theorem red_up {P : Program} {E : Env} {cal : Cal} {ops : Array Oper} {lo : Nat} {fr : List V} {H : List Blk} {K : List V → List Blk → Prop} {α : Type} (ds : List Nat) (J : α → Prop) (sel : α → List (Nat × V)) (Hs : α → List Blk) (hssa : ssaB ops = true)
    (hbs : ∀ s, J s → bndF (Hs s).length (setL (sel s) (hav ds 0 fr)) = true)
    (rest : ∀ s, J s → havK ds 0 fr fun f₁ => setLK (sel s) f₁ fun f₂ => K f₂ (Hs s))
    (walk : xred P E cal ops.toList ops.size [] fr H fun fr' H' => ∃ s, J s ∧ NextU ds lo fr (sel s) (Hs s) fr' H') : XRed P E cal ops lo fr H K := by
  unfold XRed
  refine ⟨hssa, fun frc Hc => ∃ s, J s ∧ frc = setL (sel s) (hav ds 0 fr) ∧ Hc = Hs s, _, ?_, ?_, walk⟩
  · rintro frc Hc ⟨s, hs, rfl, rfl⟩
    have := rest s hs
    rw [havK_iff, setLK_iff] at this
    exact this
  · rintro fr' H' ⟨s, h1, st⟩
    exact ⟨_, _, id, fun _ _ _ => Seen.of_wk (wkF_len (wkF_sel st.same _ st.hold)) (wkF_sel st.same _ st.hold) st.heap (hbs s h1) st.bh st.lo, s, h1, rfl, rfl⟩
theorem set_low (H : List Blk) (a b x : Blk) : (H ++ [a] ++ [b]).set H.length x = H ++ [x] ++ [b] := by
  rw [List.set_append_left _ _ (by simp), set_top]
theorem len_one (H : List Blk) (a x : Blk) : (H ++ [a]).length = (H ++ [x]).length := by simp
theorem up_top' (H : List Blk) (a x b : Blk) : (H ++ [x] ++ [b])[(H ++ [a]).length]? = some b := by rw [len_one H a x]; exact up_top _ _
theorem set_top' (H : List Blk) (a x b y : Blk) : (H ++ [x] ++ [b]).set (H ++ [a]).length y = H ++ [x] ++ [y] := by rw [len_one H a x]; exact set_top _ _ _
theorem ask_neq {xs ys : List Int} {K : Bool → Prop} (h : xs = ys) (hk : K false) : ∀ τ, τ = (true ^^ (decide (xs = ys) && true)) → K τ := by
  rintro τ rfl; rw [decide_eq_true h]; exact hk
theorem ask_neq5 {a a' : List Int} {b b' : Int} {c c' : List Int} {d d' : List Int} {e e' : Int} {K : Bool → Prop} (h1 : a = a') (h2 : b = b') (h3 : c = c') (h4 : d = d') (h5 : e = e') (hk : K false) :
    ∀ τ, τ = (true ^^ (decide (a = a') && (decide (b = b') && (decide (c = c') && (decide (d = d') && (decide (e = e') && true)))))) → K τ := by
  rintro τ rfl; rw [decide_eq_true h1, decide_eq_true h2, decide_eq_true h3, decide_eq_true h4, decide_eq_true h5]; exact hk
structure DS2 where
  a : Nat
  b : Nat
  H : List Blk
def ds2J (H : List Blk) (o : List Int) (x : B.St) (s : DS2) : Prop := UpH H s.H ∧ (H.length ≤ s.a ∧ H.length ≤ s.b) ∧ s.H[s.a]? = some (iB 48 16 o) ∧ s.H[s.b]? = some (stB x)
def w25J (B0 : List Blk) (j1 j2 a bn : Nat) (oa ob : List Int) (s t : B.St) (G : List Blk) : Prop := UpH B0 G ∧ G[j1]? = some (stB s) ∧ G[j2]? = some (stB t) ∧ G[a]? = some (iB 48 16 oa) ∧ G[bn]? = some (iB 48 16 ob)
/-- The state of the rounds. -/
structure WS where
  k : Nat
  f : Bool
  s : B.St
  t : B.St
  H : List Blk
def wsJ (H : List Blk) (K m : Nat) (z : WS) : Prop := (m = K - z.k ∧ z.k ≤ K) ∧ UpH H z.H ∧ z.H[H.length]? = some (stB z.s) ∧ z.H[H.length + 1]? = some (stB z.t) ∧ StR z.s ∧ StR z.t ∧ (z.f = true → z.s = z.t)
noncomputable def FWw : Fns := ((((((F0.plus 5 (ct0 (vb true))).over 17 hFr2).over 16 hAll).plus 18 ctDec).over 19 B.hRun).plus 20 (B.ctSS (fun _ => True) B.loseOut B.loseSt))
theorem FWw_ok : FnsOk Tryz.prog FWw D.G1 := ((((((D.F0_okg.plus Q.goes_ct Tryz.func5 (by kernel_rfl) (by kernel_rfl)).overG frames2_ct Tryz.func17 (by kernel_rfl) (by kernel_rfl)).overG all_ct Tryz.func16 (by kernel_rfl) (by kernel_rfl)).plusG decode_ct Tryz.func18 (by kernel_rfl) (by kernel_rfl)).over B.run_ct Tryz.func19 (by kernel_rfl) (by kernel_rfl)).plus B.lose_ct Tryz.func20 (by kernel_rfl) (by kernel_rfl))
theorem st0_ok : StR B.st0 := ⟨⟨zero_ok.st.m, zero_ok.st.l, zero_ok.st.v, zero_ok.st.w, zero_ok.st.q⟩, right_st0⟩
end R
end Go.Proofs.YtaficaacogcblaaGreatDoor
