/- Chapter state: a number's bytes; a state's bytes. -/
import Derived.Test.YtbgjmlncdlcglaaBsc
set_option linter.all false
namespace Go.Proofs.Ytbgjmlncdlcglaa
open Go.RowKit (Below)
set_option maxRecDepth 100000
set_option maxHeartbeats 32000000

theorem wrap8 (x : Int) : IntKind.u8.wrap x = x % 256 := by simp [IntKind.wrap, IntKind.bits, IntKind.signed]
theorem wrapu32 (x : Int) : IntKind.u32.wrap x = x % 4294967296 := by simp [IntKind.wrap, IntKind.bits, IntKind.signed]
theorem wrap3232 (x : Int) : IntKind.u32.wrap (IntKind.i32.wrap x) = x % 4294967296 := by
  rw [wrapu32]
  simp only [IntKind.wrap, IntKind.bits, IntKind.signed]
  simp
  split <;> omega
theorem shrK {x : Int} {k : IntKind} (m : Nat) (h : m ≤ k.bits) : x.fdiv (2 ^ (min ((m : Int)).toNat k.bits)) = x / 2 ^ m := by
  rw [Int.toNat_natCast, Nat.min_eq_left h, Int.fdiv_eq_ediv_of_nonneg _ (Int.le_of_lt (Int.pow_pos (by decide)))]
/-- A number's four bytes. -/
def four (x : Int) : List Int := [x % 256, x / 256 % 256, x / 65536 % 256, x / 16777216 % 256]
theorem four_in {x : Int} : ∀ y ∈ four x, InK .u8 y := by
  intro y hy
  simp only [four, List.mem_cons, List.not_mem_nil, or_false] at hy
  simp only [InK, lowK, highK]
  omega
def ctFour : Ct := fun ws K => match ws with
  | [.c (.ci .u32 x)] => ∀ s, s = strOfNums (four x) → K (.w (.c (.cs s)))
  | _ => False
theorem four_walk (x : Int) : walk F0 0 Try.f62 [u32 x] [] fun y _ => y = .w (.c (.cs (strOfNums (four x)))) := by
  conv => whnf
  refine ask_is (wrap8 x) ?_
  conv => whnf
  refine ⟨by decide, ask_is (shrK 8 (by decide)) ?_⟩
  conv => whnf
  refine ask_is (wrap8 _) ?_
  conv => whnf
  refine ⟨by decide, ask_is (shrK 16 (by decide)) ?_⟩
  conv => whnf
  refine ask_is (wrap8 _) ?_
  conv => whnf
  refine ⟨by decide, ask_is (shrK 24 (by decide)) ?_⟩
  conv => whnf
  refine ask_is (wrap8 _) ?_
  conv => whnf
  refine And.intro rfl ?_
  conv => whnf
  refine And.intro (by decide) ?_
  conv => whnf
  refine And.intro (by decide) ?_
  conv => whnf
  rfl
theorem four_ct : CtOk Try.prog 62 ctFour := by
  intro ws K h' hr
  unfold ctFour at h'
  split at h'
  · rename_i x
    exact ⟨_, h' _ rfl, ⟨by show (strOfNums (four x)).size ≤ _; rw [strOfNums_size]; exact (by decide : 4 ≤ 9223372036854775807), rfl⟩, walk_calls F0_ok Try.func62 (n := 0) rfl hr rfl (four_walk x)⟩
  · exact h'.elim

def fourI (x : Int) : List Int := four (x % 4294967296)
theorem fourI_in {x : Int} : ∀ y ∈ fourI x, InK .u8 y := four_in
theorem bytesI_four (x : Int) : bytesI (strOfNums (four x)) = four x := bytesI_str four_in
def words (xs : List Int) : List Int := xs.flatMap fourI
theorem words_len (xs : List Int) : (words xs).length = 4 * xs.length := by
  induction xs with
  | nil => rfl
  | cons x xs ih => simp only [words, List.flatMap_cons, List.length_append, List.length_cons] at ih ⊢; rw [ih]; show 4 + _ = _; omega
theorem words_snoc {xs : List Int} {i : Nat} (h : i < xs.length) : words (xs.take (i + 1)) = words (xs.take i) ++ fourI (xs.getD i 0) := by
  rw [List.take_succ_eq_append_getElem h, words, List.flatMap_append, List.getD_eq_getElem?_getD, List.getElem?_eq_getElem h]
  simp [words]
theorem words_next {xs : List Int} {i : Int} {k : Nat} (hk : k = i.toNat) (h0 : 0 ≤ i) (h1 : i < xs.length) : words (xs.take (i + 1).toNat) = words (xs.take i.toNat) ++ four (xs.getD k 0 % 4294967296) := by
  rw [show (i + 1).toNat = i.toNat + 1 by omega, words_snoc (by omega), hk]; rfl
theorem four_len (x : Int) : (four x).length = 4 := rfl
theorem bytesI_four_len (x : Int) : (bytesI (strOfNums (four x))).length = 4 := by rw [bytesI_four]; rfl
def mv (a b : Nat) (j : Nat) : Nat := if j = a then b else j
/-- A state's bytes. -/
def byZ (s : St) : List Int := words s.m ++ fourI s.l ++ s.v.map (fun x => x % 256) ++ words s.w ++ [s.q % 256]
/-- The first words are in: the builder's state. -/
def inO (xs : List Int) (i : Int) (o : Option (Nat × List Int)) : Prop := match o with
  | none => i = 0
  | some (c, ys) => 0 < i ∧ 4 * i.toNat ≤ c ∧ ys.take (4 * i.toNat) = words (xs.take i.toNat)
def hO1 (s : St) (i : Int) (o : Option (Nat × List Int)) : List Blk := match o with
  | none => [sb s, bld0 .csn]
  | some (c, ys) => [sb s, bldr 1 (.csl 2 0 0 (4 * i.toNat) c), buf c ys]
noncomputable def FBy : Fns := (((((F0.plus 36 (ctSt rightP)).plus 62 ctFour).over 73 hWS).over 74 hWB).over 75 hSt).into 72 Try.f72
theorem FBy_ok : FnsOk Try.prog FBy := (((((F0_ok.plus right_ct Try.func36 (by kernel_rfl) (by kernel_rfl)).plus four_ct Try.func62 (by kernel_rfl) (by kernel_rfl)).over ws_hct Try.func73 (by kernel_rfl) (by kernel_rfl)).over wb_hct Try.func74 (by kernel_rfl) (by kernel_rfl)).over st_hct Try.func75 (by kernel_rfl) (by kernel_rfl)).into Try.func72 (by kernel_rfl) (by kernel_rfl)
theorem bytes_walk (s : St) (h : StOk s) (hr : rightP s) : walk FBy 1 Try.f34 [stW s] [] fun y _ => y = .tup [.c (.cs (strOfNums (byZ s))), i64 0] := by
  have hm := h.m.1
  have hv := h.v.1
  have hw := h.w.1
  repeat' ((conv => whnf); first | (refine And.intro ⟨rfl, rfl, rfl⟩ ?_) | (refine ask_true hr ?_) | (refine ⟨by kernel_rfl, ?_⟩) | fail)
  conv => whnf
  refine ⟨by decide, by decide, ?_⟩
  conv => whnf
  refine loop_mv (4 :: List.range' 7 10) (fun m (i : Int) (o : Option (Nat × List Int)) (_ : Unit) => 0 ≤ i ∧ i ≤ 16 ∧ m = (16 - i).toNat ∧ inO s.m i o) (fun i _ _ => [(7, vi i)]) (fun i o _ => hO1 s i o) 16 0 none () ⟨by decide, by decide, rfl, rfl⟩ id ?_ ?_
  · refine ⟨?_, ?_, rfl, fun _ _ => rfl, rfl, rfl, Nat.le_of_ble_eq_true rfl⟩
    · repeat' (first | exact trivial | refine And.intro rfl ?_ | fail)
    · repeat' (first | exact trivial | refine And.intro rfl ?_ | fail)
  · rintro m i o _ ⟨i0, i1, rfl, ho⟩
    have em : mulN i.toNat (Try.prog.types[3]).size = i.toNat := mulN1 i.toNat
    have em0 : mulN 0 (Try.prog.types[3]).size = 0 := mulN1 0
    rcases Int.lt_or_le i 16 with i2 | i2
    · have ws := words_snoc (xs := s.m) (i := i.toNat) (by omega)
      rcases o with _ | ⟨c, ys⟩
      · obtain rfl : i = 0 := ho
        repeat' ((conv => whnf); first | (refine ask_true (by omega) ?_) | (refine And.intro (by omega) ?_) | (refine fun (_ : InK _ _) => ?_) | fail)
        rintro r rfl
        conv => whnf
        refine ask_is (wrap3232 _) ?_
        conv => whnf
        rintro t rfl
        conv => whnf
        refine ⟨1, _, rfl, .inl ⟨rfl, ⟨by rw [bytesI_four_len]; decide, by rw [bytesI_four_len]; decide⟩, fun c ys q hq q1 q2 q3 q4 q5 => ?_⟩⟩
        rw [bytesI_four_len] at hq
        rw [bytesI_four] at q5
        obtain rfl := hq
        repeat' ((conv => whnf); first | (refine ask_wrap64 (by omega) (by omega) ?_) | fail)
        conv => whnf
        refine ⟨15, 1, some (c, ys), (), id, by decide, ⟨by decide, by decide, by decide, by decide, q1, q5.trans (words_next (xs := s.m) (i := 0) (by omega) (by omega) (by omega)).symm⟩, ⟨?_, ?_, rfl, fun _ _ => rfl, rfl, rfl, Nat.le_of_ble_eq_true rfl⟩⟩
        · repeat' (first | exact trivial | refine And.intro rfl ?_ | fail)
        · repeat' (first | exact trivial | refine And.intro rfl ?_ | fail)
      · obtain ⟨o1, o2, o3⟩ := ho
        repeat' ((conv => whnf); first | (refine ask_true (by omega) ?_) | (refine And.intro (by omega) ?_) | (refine fun (_ : InK _ _) => ?_) | fail)
        conv => whnf
        rintro r rfl
        conv => whnf
        refine ask_is (wrap3232 _) ?_
        conv => whnf
        rintro t rfl
        conv => whnf
        refine ⟨1, _, rfl, .inr ⟨2, _, _, _, by decide, rfl, rfl, ⟨o2, by rw [bytesI_four_len]; omega⟩, fun c' ys' q hq q1 q2 q3 q4 q5 => ?_⟩⟩
        rw [bytesI_four_len] at hq
        rw [bytesI_four] at q5
        obtain rfl : q = 4 * (i + 1).toNat := by omega
        repeat' ((conv => whnf); first | (refine ask_wrap64 (by omega) (by omega) ?_) | fail)
        conv => whnf
        refine ⟨(16 - (i + 1)).toNat, i + 1, some (c', ys'), (), mv 2 3, by omega, ⟨by omega, by omega, rfl, by omega, q1, ?_⟩, ⟨?_, ?_, rfl, fun j hj => if_neg (by omega), rfl, rfl, Nat.le_of_ble_eq_true rfl⟩⟩
        · rw [q5, o3]
          exact (words_next (xs := s.m) (by omega) (by omega) (by omega)).symm
        · repeat' (first | exact trivial | refine And.intro rfl ?_ | fail)
        · repeat' (first | exact trivial | refine And.intro rfl ?_ | fail)
    · have hi : i = 16 := by omega
      subst hi
      rcases o with _ | ⟨c, ys⟩
      · exact absurd (show (16 : Int) = 0 from ho) (by decide)
      · obtain ⟨o1, o2, o3⟩ := ho
        have htk : s.m.take (Int.toNat 16) = s.m := List.take_of_length_le (by rw [hm]; decide)
        rw [htk] at o3
        clear i0 i1 i2 htk em o1
        conv => whnf
        refine ask_false (by omega) ?_
        conv => whnf
        refine And.intro rfl ?_
        conv => whnf
        refine loop_mv (4 :: List.range' 7 10) (fun m (i : Int) (c : Nat) (ys : List Int) => 0 ≤ i ∧ i ≤ 1 ∧ m = (1 - i).toNat ∧ 4 * Int.toNat 16 + 4 * i.toNat ≤ c ∧ ys.take (4 * Int.toNat 16 + 4 * i.toNat) = words s.m ++ words (([s.l]).take i.toNat)) (fun i _ _ => [(7, vi i)]) (fun i c ys => [sb s, bldr 1 (.csl 4 0 0 (4 * Int.toNat 16 + 4 * i.toNat) c), .gone, .own 3 [.ints .i64 1 [s.l]], buf c ys]) 1 0 c ys ⟨by decide, by decide, rfl, by omega, by
          rw [show ([s.l]).take (Int.toNat 0) = [] from rfl, show words [] = [] from rfl, List.append_nil]; exact o3⟩ (mv 4 2) ?_ ?_
        · refine ⟨?_, ?_, rfl, fun j hj => if_neg (by omega), rfl, rfl, Nat.le_of_ble_eq_true rfl⟩
          · repeat' (first | exact trivial | refine And.intro rfl ?_ | fail)
          · repeat' (first | exact trivial | refine And.intro rfl ?_ | fail)
        · clear o2 o3 c ys
          rintro m i c ys ⟨i0, i1, rfl, o2, o3⟩
          have em : mulN i.toNat (Try.prog.types[3]).size = i.toNat := mulN1 i.toNat
          rcases Int.lt_or_le i 1 with i2 | i2
          · repeat' ((conv => whnf); first | (refine ask_true (by omega) ?_) | (refine And.intro (by omega) ?_) | (refine fun (_ : InK _ _) => ?_) | fail)
            conv => whnf
            rintro r rfl
            conv => whnf
            refine ask_is (wrap3232 _) ?_
            conv => whnf
            rintro t rfl
            conv => whnf
            refine ⟨1, _, rfl, .inr ⟨4, _, _, _, by decide, rfl, rfl, ⟨o2, by rw [bytesI_four_len]; omega⟩, fun c' ys' q hq q1 q2 q3 q4 q5 => ?_⟩⟩
            rw [bytesI_four_len] at hq
            rw [bytesI_four] at q5
            obtain rfl : q = 4 * Int.toNat 16 + 4 * (i + 1).toNat := by omega
            repeat' ((conv => whnf); first | (refine ask_wrap64 (by omega) (by omega) ?_) | fail)
            conv => whnf
            refine ⟨(1 - (i + 1)).toNat, i + 1, c', ys', mv 4 5, by omega, ⟨by omega, by omega, rfl, by omega, ?_⟩, ⟨?_, ?_, rfl, fun j hj => if_neg (by omega), rfl, rfl, Nat.le_of_ble_eq_true rfl⟩⟩
            · rw [q5, o3, List.append_assoc]
              exact congrArg _ (words_next (xs := [s.l]) (by omega) (by omega) (by show i < (1 : Int); omega)).symm
            · repeat' (first | exact trivial | refine And.intro rfl ?_ | fail)
            · repeat' (first | exact trivial | refine And.intro rfl ?_ | fail)
          · have hi : i = 1 := by omega
            subst hi
            have htk : ([s.l]).take (Int.toNat 1) = [s.l] := rfl
            rw [htk] at o3
            clear i0 i1 i2 htk em
            conv => whnf
            refine ask_false (by omega) ?_
            conv => whnf
            refine loop_mv (7 :: List.range' 23 7) (fun m (i : Int) (c : Nat) (ys : List Int) => 0 ≤ i ∧ i ≤ 4 ∧ m = (4 - i).toNat ∧ (4 * Int.toNat 16 + 4 * Int.toNat 1) + i.toNat ≤ c ∧ ys.take ((4 * Int.toNat 16 + 4 * Int.toNat 1) + i.toNat) = (words s.m ++ words [s.l]) ++ (s.v.take i.toNat).map (fun x => x % 256)) (fun i _ _ => [(23, vi i)]) (fun i c ys => [sb s, bldr 1 (.csl 4 0 0 ((4 * Int.toNat 16 + 4 * Int.toNat 1) + i.toNat) c), .gone, .own 3 [.ints .i64 1 [s.l]], buf c ys]) 4 0 c ys ⟨by decide, by decide, rfl, by omega, by
              rw [show s.v.take (Int.toNat 0) = [] from rfl, List.map_nil, List.append_nil]; exact o3⟩ id ?_ ?_
            · refine ⟨?_, ?_, rfl, fun _ _ => rfl, rfl, rfl, Nat.le_of_ble_eq_true rfl⟩
              · repeat' (first | exact trivial | refine And.intro rfl ?_ | fail)
              · repeat' (first | exact trivial | refine And.intro rfl ?_ | fail)
            · clear o2 o3 c ys
              rintro m i c ys ⟨i0, i1, rfl, o2, o3⟩
              have em : mulN i.toNat (Try.prog.types[3]).size = i.toNat := mulN1 i.toNat
              rcases Int.lt_or_le i 4 with i2 | i2
              · repeat' ((conv => whnf); first | (refine ask_true (by omega) ?_) | (refine And.intro (by omega) ?_) | (refine fun (_ : InK _ _) => ?_) | fail)
                conv => whnf
                refine ask_is (wrap8 _) ?_
                conv => whnf
                refine ⟨1, _, rfl, .inr ⟨4, _, _, _, by decide, rfl, rfl, ⟨o2, by show _ + 1 ≤ _; omega⟩, fun c' ys' q hq q1 q2 q3 q4 q5 => ?_⟩⟩
                replace hq : q = (4 * Int.toNat 16 + 4 * Int.toNat 1) + i.toNat + 1 := hq
                obtain rfl : q = (4 * Int.toNat 16 + 4 * Int.toNat 1) + (i + 1).toNat := by omega
                repeat' ((conv => whnf); first | (refine ask_wrap64 (by omega) (by omega) ?_) | fail)
                conv => whnf
                refine ⟨(4 - (i + 1)).toNat, i + 1, c', ys', mv 4 5, by omega, ⟨by omega, by omega, rfl, by omega, ?_⟩, ⟨?_, ?_, rfl, fun j hj => if_neg (by omega), rfl, rfl, Nat.le_of_ble_eq_true rfl⟩⟩
                · rw [q5, o3, List.append_assoc]
                  refine congrArg _ ?_
                  rw [show (i + 1).toNat = i.toNat + 1 by omega, List.take_succ_eq_append_getElem (by omega), List.map_append, em]
                  simp [List.getD_eq_getElem?_getD, List.getElem?_eq_getElem (show i.toNat < s.v.length by omega)]
                · repeat' (first | exact trivial | refine And.intro rfl ?_ | fail)
                · repeat' (first | exact trivial | refine And.intro rfl ?_ | fail)
              · have hi : i = 4 := by omega
                subst hi
                have htk : s.v.take (Int.toNat 4) = s.v := List.take_of_length_le (by rw [hv]; decide)
                rw [htk] at o3
                clear i0 i1 i2 htk em
                conv => whnf
                refine ask_false (by omega) ?_
                conv => whnf
                refine ⟨by decide, by decide, ?_⟩
                conv => whnf
                refine loop_mv (4 :: List.range' 7 10) (fun m (i : Int) (c : Nat) (ys : List Int) => 0 ≤ i ∧ i ≤ 16 ∧ m = (16 - i).toNat ∧ ((4 * Int.toNat 16 + 4 * Int.toNat 1) + Int.toNat 4) + 4 * i.toNat ≤ c ∧ ys.take (((4 * Int.toNat 16 + 4 * Int.toNat 1) + Int.toNat 4) + 4 * i.toNat) = ((words s.m ++ words [s.l]) ++ s.v.map (fun x => x % 256)) ++ words ((s.w).take i.toNat)) (fun i _ _ => [(7, vi i)]) (fun i c ys => [sb s, bldr 1 (.csl 5 0 0 (((4 * Int.toNat 16 + 4 * Int.toNat 1) + Int.toNat 4) + 4 * i.toNat) c), .gone, .gone, .gone, buf c ys]) 16 0 c ys ⟨by decide, by decide, rfl, by omega, by
                  rw [show (s.w).take (Int.toNat 0) = [] from rfl, show words [] = [] from rfl, List.append_nil]; exact o3⟩ (mv 5 4) ?_ ?_
                · refine ⟨?_, ?_, rfl, fun j hj => if_neg (by omega), rfl, rfl, Nat.le_of_ble_eq_true rfl⟩
                  · repeat' (first | exact trivial | refine And.intro rfl ?_ | fail)
                  · repeat' (first | exact trivial | refine And.intro rfl ?_ | fail)
                · clear o2 o3 c ys
                  rintro m i c ys ⟨i0, i1, rfl, o2, o3⟩
                  have em : mulN i.toNat (Try.prog.types[3]).size = i.toNat := mulN1 i.toNat
                  rcases Int.lt_or_le i 16 with i2 | i2
                  · repeat' ((conv => whnf); first | (refine ask_true (by omega) ?_) | (refine And.intro (by omega) ?_) | (refine fun (_ : InK _ _) => ?_) | fail)
                    conv => whnf
                    rintro r rfl
                    conv => whnf
                    refine ask_is (wrap3232 _) ?_
                    conv => whnf
                    rintro t rfl
                    conv => whnf
                    refine ⟨1, _, rfl, .inr ⟨5, _, _, _, by decide, rfl, rfl, ⟨o2, by rw [bytesI_four_len]; omega⟩, fun c' ys' q hq q1 q2 q3 q4 q5 => ?_⟩⟩
                    rw [bytesI_four_len] at hq
                    rw [bytesI_four] at q5
                    obtain rfl : q = ((4 * Int.toNat 16 + 4 * Int.toNat 1) + Int.toNat 4) + 4 * (i + 1).toNat := by omega
                    repeat' ((conv => whnf); first | (refine ask_wrap64 (by omega) (by omega) ?_) | fail)
                    conv => whnf
                    refine ⟨(16 - (i + 1)).toNat, i + 1, c', ys', mv 5 6, by omega, ⟨by omega, by omega, rfl, by omega, ?_⟩, ⟨?_, ?_, rfl, fun j hj => if_neg (by omega), rfl, rfl, Nat.le_of_ble_eq_true rfl⟩⟩
                    · rw [q5, o3, List.append_assoc]
                      exact congrArg _ (words_next (xs := s.w) (by omega) (by omega) (by omega)).symm
                    · repeat' (first | exact trivial | refine And.intro rfl ?_ | fail)
                    · repeat' (first | exact trivial | refine And.intro rfl ?_ | fail)
                  · have hi : i = 16 := by omega
                    subst hi
                    have htk : (s.w).take (Int.toNat 16) = s.w := List.take_of_length_le (by rw [hw]; decide)
                    rw [htk] at o3
                    clear i0 i1 i2 htk em
                    conv => whnf
                    refine ask_false (by omega) ?_
                    conv => whnf
                    refine ask_is (wrap8 _) ?_
                    conv => whnf
                    refine ⟨1, _, rfl, .inr ⟨5, _, _, _, by decide, rfl, rfl, ⟨o2, by show _ + 1 ≤ _; omega⟩, fun c' ys' q hq q1 q2 q3 q4 q5 => ?_⟩⟩
                    conv => whnf
                    replace hq : q = 4 * Int.toNat 16 + 4 * Int.toNat 1 + Int.toNat 4 + 4 * Int.toNat 16 + 1 := hq
                    refine ⟨1, 6, q, c', ys', rfl, rfl, rfl, by omega, by omega, q1, ?_⟩
                    rintro H' rfl
                    conv => whnf
                    rw [q5, o3]
                    have e : words s.m ++ words [s.l] ++ s.v.map (fun x => x % 256) ++ words s.w ++ [s.q % 256] = byZ s := by simp [byZ, words]
                    rw [e]
                    rfl

theorem bytes_no_walk (s : St) (hr : ¬ rightP s) : walk FBy 1 Try.f34 [stW s] [] fun y _ => y = .tup [.c (.cs ⟨#[]⟩), i64 1] := by
  repeat' ((conv => whnf); first | (refine And.intro ⟨rfl, rfl, rfl⟩ ?_) | (refine ask_false hr ?_) | rfl | fail)
theorem byZ_in {s : St} : ∀ y ∈ byZ s, InK .u8 y := by
  intro y hy
  have hw : ∀ xs : List Int, y ∈ words xs → InK .u8 y := fun xs h => by
    obtain ⟨x, _, hx⟩ := List.mem_flatMap.1 h
    exact fourI_in y hx
  have h8 : ∀ x : Int, y = x % 256 → InK .u8 y := fun x h => by simp only [InK, lowK, highK]; omega
  simp only [byZ, List.mem_append, List.mem_map, List.mem_singleton] at hy
  rcases hy with (((h | h) | ⟨x, _, h⟩) | h) | h
  · exact hw _ h
  · exact fourI_in y h
  · exact h8 x h.symm
  · exact hw _ h
  · exact h8 _ h
theorem byZ_len {s : St} (h : StOk s) : (byZ s).length = 137 := by
  have h1 := h.m.1
  have h2 := h.v.1
  have h3 := h.w.1
  simp only [byZ, List.length_append, words_len, List.length_map, h1, h2, h3, List.length_singleton]
  show 4 * 16 + 4 + 4 + 4 * 16 + 1 = 137
  rfl
def ctBytes : Ct := fun ws K => match ws with
  | [.agg [.ints .i64 n m, .one (.ci .i64 l), .ints .i64 a v, .ints .i64 b w, .one (.ci .i64 q)]] => (n = 16 ∧ a = 4 ∧ b = 16) ∧ (rightP ⟨m, l, v, w, q⟩ → ∀ t, t = strOfNums (byZ ⟨m, l, v, w, q⟩) → K (.tup [.c (.cs t), i64 0])) ∧ (¬ rightP ⟨m, l, v, w, q⟩ → K (.tup [.c (.cs ⟨#[]⟩), i64 1]))
  | _ => False
theorem bytes_ct : CtOk Try.prog 34 ctBytes := by
  intro ws K h' hr
  unfold ctBytes at h'
  split at h'
  · rename_i n m l a v b w q
    obtain ⟨⟨rfl, rfl, rfl⟩, h1, h2⟩ := h'
    have ok : StOk ⟨m, l, v, w, q⟩ := stOk_of hr.1
    rcases Classical.em (rightP ⟨m, l, v, w, q⟩) with hp | hp
    · refine ⟨_, h1 hp _ rfl, ⟨⟨?_, by simp only [W.rng, C.rng, InK, lowK, highK]; omega, trivial⟩, rfl⟩, walk_calls FBy_ok Try.func34 rfl (ws := [stW ⟨m, l, v, w, q⟩]) ⟨ok.rng, trivial⟩ rfl (bytes_walk _ ok hp)⟩
      show (strOfNums _).size ≤ _
      rw [strOfNums_size, byZ_len ok]; decide
    · exact ⟨_, h2 hp, ⟨⟨Nat.zero_le _, by simp only [W.rng, C.rng, InK, lowK, highK]; omega, trivial⟩, rfl⟩, walk_calls FBy_ok Try.func34 rfl (ws := [stW ⟨m, l, v, w, q⟩]) ⟨ok.rng, trivial⟩ rfl (bytes_no_walk _ hp)⟩
  · exact h'.elim
end Go.Proofs.Ytbgjmlncdlcglaa
