/- Chapter state: a number of four bytes; a state read. -/
import Derived.Test.YtbgjmlncdlcglaaBsd
set_option linter.all false
namespace Go.Proofs.Ytbgjmlncdlcglaa
open Go.RowKit (Below)
set_option maxRecDepth 100000
set_option maxHeartbeats 32000000

/-! ### strings as lists of bytes -/
theorem get_bytesI {s : ByteArray} {i : Nat} (h : i < s.size) : (((s.get! i).toNat : Nat) : Int) = (bytesI s).getD i 0 := by
  have hl : i < (bytesI s).length := by rw [bytesI_len]; exact h
  rw [List.getD_eq_getElem?_getD, List.getElem?_eq_getElem hl]
  cases s with
  | mk d =>
    have hd : i < d.size := h
    simp only [bytesI, List.getElem_map, Option.getD_some, Array.getElem_toList]
    congr 1
    show (d[i]!).toNat = _
    rw [getElem!_pos d i hd]
theorem bytesI_ext (s : ByteArray) (l u : Nat) : bytesI (s.extract l u) = ((bytesI s).take u).drop l := by
  simp only [bytesI, ByteArray.data_extract, Array.toList_extract, List.map_take, List.map_drop]
  rw [List.drop_take]
theorem str_drop (xs : List Int) (h : ∀ x ∈ xs, InK .u8 x) (l : Nat) : (strOfNums xs).extract l (strOfNums xs).size = strOfNums (xs.drop l) := by
  rw [← str_bytesI ((strOfNums xs).extract l _), bytesI_ext, bytesI_str h, strOfNums_size, List.take_length]

/-! ### four bytes as a number -/
def le4 (xs : List Int) : Int := xs.getD 0 0 + 256 * xs.getD 1 0 + 65536 * xs.getD 2 0 + 16777216 * xs.getD 3 0
theorem u8_at {xs : List Int} (h : ∀ x ∈ xs, InK .u8 x) (i : Nat) : 0 ≤ xs.getD i 0 ∧ xs.getD i 0 ≤ 255 := by
  rw [List.getD_eq_getElem?_getD]
  rcases Nat.lt_or_ge i xs.length with hi | hi
  · rw [List.getElem?_eq_getElem hi]
    exact h _ (List.getElem_mem hi)
  · rw [List.getElem?_eq_none hi]; decide
theorem le4_in {xs : List Int} (h : ∀ x ∈ xs, InK .u8 x) : 0 ≤ le4 xs ∧ le4 xs ≤ 4294967295 := by
  have h0 := u8_at h 0
  have h1 := u8_at h 1
  have h2 := u8_at h 2
  have h3 := u8_at h 3
  unfold le4; omega
theorem le4_four {v : Int} (h0 : 0 ≤ v) (h1 : v ≤ 4294967295) (r : List Int) : le4 (four v ++ r) = v := by
  show v % 256 + 256 * (v / 256 % 256) + 65536 * (v / 65536 % 256) + 16777216 * (v / 16777216 % 256) = v
  omega
theorem or_add {a b : Int} {k : Nat} (hk : k ≤ 24) (ha : 0 ≤ a ∧ a < 2 ^ k) (hb : 0 ≤ b ∧ b ≤ 255) : bitsI .or .u32 a (b * 2 ^ k) = a + b * 2 ^ k := by
  obtain ⟨x, rfl⟩ : ∃ x : Nat, a = x := ⟨a.toNat, by omega⟩
  obtain ⟨y, rfl⟩ : ∃ y : Nat, b = y := ⟨b.toNat, by omega⟩
  have hp : 2 ^ k ≤ 2 ^ 24 := Nat.pow_le_pow_right (by decide) hk
  have e1 : ((2 : Int) ^ k) = ((2 ^ k : Nat) : Int) := by simp
  have hx : x < 2 ^ k := by have := ha.2; rw [e1] at this; omega
  have hy : y * 2 ^ k ≤ 255 * 2 ^ k := Nat.mul_le_mul_right _ (by omega)
  have e2 : ((y : Int) * 2 ^ k) = ((y * 2 ^ k : Nat) : Int) := by simp
  have o1 : (BitVec.ofInt 32 (x : Int)).toNat = x := by
    rw [BitVec.ofInt_natCast, BitVec.toNat_ofNat]; omega
  have o2 : (BitVec.ofInt 32 ((y : Int) * 2 ^ k)).toNat = y * 2 ^ k := by
    rw [e2, BitVec.ofInt_natCast, BitVec.toNat_ofNat]; omega
  have o3 : x ||| y * 2 ^ k = x + y * 2 ^ k := by
    rw [Nat.or_comm, Nat.mul_comm, ← Nat.two_pow_add_eq_or_of_lt hx]; omega
  show IntKind.u32.wrap (((BitVec.ofInt 32 (x : Int) ||| BitVec.ofInt 32 ((y : Int) * 2 ^ k)).toNat : Nat) : Int) = _
  rw [BitVec.toNat_or, o1, o2, o3, e2, wrap_of_in]
  · omega
  · simp only [InK, lowK, highK]; omega
def ctNum : Ct := fun ws K => match ws with
  | [.c (.cs s)] => 4 ≤ s.size ∧ ∀ v, v = le4 (bytesI s) → 0 ≤ v → v ≤ 4294967295 → K (.w (.c (.ci .u32 v)))
  | _ => False
theorem shlu32 {x : Int} (m : Nat) (h : m ≤ 24) (h0 : 0 ≤ x) (h1 : x ≤ 255) : IntKind.u32.wrap (x * 2 ^ (min ((m : Int)).toNat IntKind.u32.bits)) = x * 2 ^ m := by
  rw [Int.toNat_natCast, Nat.min_eq_left (by simp only [IntKind.bits]; omega)]
  have hp : 2 ^ m ≤ 2 ^ 24 := Nat.pow_le_pow_right (by decide) h
  have e1 : ((2 : Int) ^ m) = ((2 ^ m : Nat) : Int) := by simp
  obtain ⟨y, rfl⟩ : ∃ y : Nat, x = y := ⟨x.toNat, by omega⟩
  have hy : y * 2 ^ m ≤ 255 * 2 ^ m := Nat.mul_le_mul_right _ (by omega)
  have e2 : ((y : Int) * 2 ^ m) = ((y * 2 ^ m : Nat) : Int) := by simp
  rw [wrap_of_in]
  rw [e2]; simp only [InK, lowK, highK]; omega
/-- The first bytes' number. -/
def leN (xs : List Int) : Nat → Int
  | 0 => 0
  | n + 1 => leN xs n + xs.getD n 0 * 2 ^ (8 * n)
theorem leN_in {xs : List Int} (h : ∀ x ∈ xs, InK .u8 x) : ∀ n, 0 ≤ leN xs n ∧ leN xs n < 2 ^ (8 * n)
  | 0 => by show (0 : Int) ≤ 0 ∧ (0 : Int) < 1; decide
  | n + 1 => by
    have ih := leN_in h n
    have hb := u8_at h n
    have e : (2 : Int) ^ (8 * (n + 1)) = 256 * 2 ^ (8 * n) := by rw [show 8 * (n + 1) = 8 * n + 8 by omega, Int.pow_add, Int.mul_comm]; rfl
    have hp : (0 : Int) < 2 ^ (8 * n) := Int.pow_pos (by decide)
    have h1 : 0 ≤ xs.getD n 0 * 2 ^ (8 * n) := Int.mul_nonneg hb.1 (Int.le_of_lt hp)
    have h2 : xs.getD n 0 * 2 ^ (8 * n) ≤ 255 * 2 ^ (8 * n) := Int.mul_le_mul_of_nonneg_right hb.2 (Int.le_of_lt hp)
    show 0 ≤ leN xs n + _ ∧ leN xs n + _ < _
    rw [e]
    generalize xs.getD n 0 * 2 ^ (8 * n) = A at h1 h2 ⊢
    generalize (2 : Int) ^ (8 * n) = B at *
    omega
theorem leN4 (xs : List Int) : leN xs 4 = le4 xs := by
  show 0 + xs.getD 0 0 * 2 ^ 0 + xs.getD 1 0 * 2 ^ 8 + xs.getD 2 0 * 2 ^ 16 + xs.getD 3 0 * 2 ^ 24 = _
  unfold le4; omega
theorem num_walk (s : ByteArray) (h : 4 ≤ s.size) (hs : s.size ≤ 9223372036854775807) : walk F0 0 Try.f65 [.c (.cs s)] [] fun y _ => y = .w (.c (.ci .u32 (le4 (bytesI s)))) := by
  have hin := bytesI_in s
  conv => whnf
  refine loop_at (3 :: 4 :: List.range' 8 13) (fun m (i : Int) => 0 ≤ i ∧ i ≤ 4 ∧ m = (4 - i).toNat) (fun i => [(3, .w (u32 (leN (bytesI s) i.toNat))), (8, vi i)]) (fun _ => []) 4 0 ⟨by decide, by decide, rfl⟩ ?_ ?_
  · exact ⟨rfl, ⟨⟨Nat.le_of_ble_eq_true rfl, rfl⟩, ⟨Nat.le_of_ble_eq_true rfl, rfl⟩, trivial⟩, trivial, rfl, rfl, Nat.zero_le _⟩
  · rintro m i ⟨i0, i1, rfl⟩
    rcases Int.lt_or_le i 4 with i2 | i2
    · have hb := u8_at hin i.toNat
      have hg := get_bytesI (s := s) (i := i.toNat) (by omega)
      have hl := leN_in hin i.toNat
      obtain ⟨k, rfl⟩ : ∃ k : Nat, i = k := ⟨i.toNat, by omega⟩
      rw [Int.toNat_natCast] at hb hg hl ⊢
      conv => whnf
      refine ask_true (by omega) ?_
      conv => whnf
      refine And.intro (by omega) ?_
      conv => whnf
      refine ask_is (f := (bytesI s).getD k 0) (by rw [Int.toNat_natCast]; exact hg) ?_
      conv => whnf
      refine ask_is (wrap_of_in (k := .u32) ⟨by simp only [lowK]; omega, by simp only [highK]; omega⟩) ?_
      conv => whnf
      refine ask_wrap64 (by omega) (by omega) ?_
      rw [show (8 : Int) * (k : Int) = ((8 * k : Nat) : Int) by omega]
      conv => whnf
      refine And.intro (by omega) (ask_is (shlu32 (8 * k) (by omega) hb.1 hb.2) ?_)
      conv => whnf
      refine ask_is (or_add (by omega) hl hb) ?_
      conv => whnf
      refine ask_wrap64 (by omega) (by omega) ?_
      conv => whnf
      refine ⟨(4 - ((k : Int) + 1)).toNat, (k : Int) + 1, by omega, ⟨by omega, by omega, rfl⟩, rfl, ⟨⟨Nat.le_of_ble_eq_true rfl, ?_⟩, ⟨Nat.le_of_ble_eq_true rfl, rfl⟩, trivial⟩, trivial, rfl, rfl, Nat.zero_le _⟩
      show V.w (u32 _) = V.w (u32 (leN (bytesI s) ((k : Int) + 1).toNat))
      rw [show ((k : Int) + 1).toNat = k + 1 by omega]
      rfl
    · have hi : i = 4 := by omega
      subst hi
      conv => whnf
      refine ask_false (by omega) ?_
      conv => whnf
      exact congrArg (fun x => V.w (u32 x)) (leN4 (bytesI s))
theorem num_ct : CtOk Try.prog 65 ctNum := by
  intro ws K h' hr
  unfold ctNum at h'
  split at h'
  · rename_i s
    have hv := le4_in (bytesI_in s)
    exact ⟨_, h'.2 _ rfl hv.1 hv.2, ⟨by simp only [V.rng, W.rng, C.rng, InK, lowK, highK]; omega, rfl⟩, walk_calls F0_ok Try.func65 (n := 0) rfl hr rfl (num_walk s h'.1 hr.1)⟩
  · exact h'.elim
end Go.Proofs.Ytbgjmlncdlcglaa
