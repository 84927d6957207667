/- Strings: their bytes; bytes of memory as a string. -/
import Derived.Test.YtaficaacogcblaaGreatDoorXg
import Derived.Lib.AppendStr
import Derived.Laws.BytesArg
set_option linter.all false
namespace Go.Proofs.YtaficaacogcblaaGreatDoor
open Go.RowKit (Below)

/-- A string's bytes, as numbers. -/
def bytesI (s : ByteArray) : List Int := s.data.toList.map fun b => (b.toNat : Int)
theorem bytesI_len (s : ByteArray) : (bytesI s).length = s.size := by
  rw [bytesI, List.length_map, Array.length_toList]; rfl
theorem bytesI_in (s : ByteArray) : ∀ y ∈ bytesI s, InK .u8 y := by
  intro y hy
  obtain ⟨b, _, rfl⟩ := List.mem_map.1 hy
  have := b.toNat_lt
  simp only [InK, lowK, highK]; omega
theorem strCells_eq (s : ByteArray) : Lib.strCells s = (bytesI s).map (Value.int .u8) := by
  simp [Lib.strCells, bytesI]
theorem bytesI_str {xs : List Int} (h : ∀ x ∈ xs, InK .u8 x) : bytesI (strOfNums xs) = xs := by
  simp only [bytesI, strOfNums_data, List.map_map]
  conv => rhs; rw [← List.map_id xs]
  refine List.map_congr_left fun x hx => ?_
  have := h x hx
  simp only [InK, lowK, highK] at this
  have hx' : (UInt8.ofNat x.toNat).toNat = x.toNat := by
    rw [UInt8.toNat_ofNat']; omega
  simp only [Function.comp_apply, hx', id]
  omega
theorem str_bytesI (s : ByteArray) : strOfNums (bytesI s) = s := by
  cases s with
  | mk d =>
    simp only [strOfNums, bytesI, List.map_map]
    congr 1
    apply Array.ext'
    rw [List.toList_toArray]
    conv => rhs; rw [← List.map_id d.toList]
    refine List.map_congr_left fun b _ => ?_
    simp
theorem str_append (xs ys : List Int) : strOfNums xs ++ strOfNums ys = strOfNums (xs ++ ys) := by
  apply ByteArray.ext
  simp [strOfNums, ByteArray.data_append]
theorem str_inj {xs ys : List Int} (hx : ∀ x ∈ xs, InK .u8 x) (hy : ∀ x ∈ ys, InK .u8 x) (h : strOfNums xs = strOfNums ys) : xs = ys := by
  rw [← bytesI_str hx, ← bytesI_str hy, h]

def newsK (H : List Blk) (k : IntKind) (x : C) (K : Nat → List Int → Prop) : Prop :=
  match x with
  | .csl j o i len _ => match o with
    | 0 => hGet H j fun b => match b with
      | .own _ [.ints k' n xs] => match sameK k k' with
        | true => i + len ≤ n ∧ K len ((xs.drop i).take len)
        | false => False
      | .ro [.ints k' n xs] => match sameK k k' with
        | true => i + len ≤ n ∧ K len ((xs.drop i).take len)
        | false => False
      | _ => False
    | _ + 1 => False
  | _ => False

theorem newsK_spec {H : List Blk} {k : IntKind} {x : C} {K : Nat → List Int → Prop} (h : newsK H k x K) (ho : HOk H) : ∃ m ys, K m ys ∧ ys.length = m ∧ (∀ y ∈ ys, InK k y) ∧
    ∀ G σ base w₀ w, Rep G σ base w₀ w H → ∃ a c, x.den σ = .slice (some a) m c ∧ ∀ (j : Nat) (u : Value), (ys.map (Value.int k))[j]? = some u → w.cell? (a.add j) = some u := by
  unfold newsK at h
  split at h
  · rename_i j o i len cap
    split at h
    · obtain ⟨b, hb, h⟩ := hGet_spec h
      have main : ∀ (k' : IntKind) (n : Nat) (xs : List Int), ((∃ T, H[j]? = some (.own T [.ints k' n xs])) ∨ H[j]? = some (.ro [.ints k' n xs])) → sameK k k' = true → i + len ≤ n → K len ((xs.drop i).take len) → rngs [.ints k' n xs] → ∃ m ys, K m ys ∧ ys.length = m ∧ (∀ y ∈ ys, InK k y) ∧
    ∀ G σ base w₀ w, Rep G σ base w₀ w H → ∃ a c, (C.csl j 0 i len cap).den σ = .slice (some a) m c ∧ ∀ (j : Nat) (u : Value), (ys.map (Value.int k))[j]? = some u → w.cell? (a.add j) = some u := fun k' n xs hj hk hn hK hr => by
        obtain rfl := sameK_eq hk
        have hl : xs.length = n := hr.1.1
        refine ⟨len, (xs.drop i).take len, hK, by simp; omega, fun y hy => hr.1.2 y (List.mem_of_mem_drop (List.mem_of_mem_take hy)), fun G σ base w₀ w hw => ⟨_, _, rfl, fun q u hu => ?_⟩⟩
        have hrd := (rep_reads hw hj 0).cell (i + q) u (by
          have hq : q < len := by have := (List.getElem?_eq_some_iff.1 hu).1; simp at this; omega
          simp only [List.map_take, List.map_drop] at hu
          rw [List.getElem?_take_of_lt hq, List.getElem?_drop] at hu
          simpa [dens, Seg.den] using hu)
        rw [add_ne rfl]
        simpa [Sg.at, Nat.add_assoc] using hrd
      have hrng := ho.rng _ (List.mem_of_getElem? hb)
      split at h
      · split at h
        · rename_i hk; exact main _ _ _ (.inl ⟨_, hb⟩) hk h.1 h.2 hrng
        · exact h.elim
      · split at h
        · rename_i hk; exact main _ _ _ (.inr hb) hk h.1 h.2 hrng
        · exact h.elim
      · exact h.elim
    · exact h.elim
  · exact h.elim

/-- Bytes as a string. -/
def kStr (P : Program) (s d : TypeId) (H : List Blk) (x : C) (K : C → Prop) : Prop :=
  match tyOf P d, tyOf P s with
  | .str, .slice e => match tyOf P e with
    | .int .u8 => match x with
      | .csn => K (.cs ByteArray.empty)
      | x => newsK H .u8 x fun m ys => m ≤ 9223372036854775807 ∧ K (.cs (strOfNums ys))
    | _ => False
  | _, _ => False
theorem kStr_spec {P : Program} {G : Glo} {s d : TypeId} {H : List Blk} {x : C} {K : C → Prop} (h : kStr P s d H x K) (ho : HOk H) :
    ∃ c : C, c.rng ∧ c.bnd 0 = true ∧ K c ∧ ∀ σ base w₀ w, Rep G σ base w₀ w H → (convert s d (x.den σ)).run P w = .ok (c.den σ) w := by
  unfold kStr at h
  split at h
  · rename_i e hd hs
    have hd' := tyOf_str hd
    have hs' := tyOf_slice hs
    split at h
    · rename_i he
      have he' := tyOf_int he
      split at h
      · exact ⟨.cs ByteArray.empty, Nat.zero_le _, rfl, h, fun σ base w₀ w hw => by simp only [C.den]; exact run_convert_bytes_nil w s e hs' he' 0 0 d hd'⟩
      · obtain ⟨m, ys, ⟨hm, h⟩, hl, hy, hx⟩ := newsK_spec h ho
        refine ⟨.cs (strOfNums ys), ?_, rfl, h, fun σ base w₀ w hw => ?_⟩
        · show (strOfNums ys).size ≤ _
          rw [strOfNums_size, hl]; exact hm
        · obtain ⟨a, c, hxd, hnews⟩ := hx G σ base w₀ w hw
          have hload : (loadCells a m).run P w = .ok (ys.map (Value.int .u8)).toArray w := by
            have := run_loadCells_list (P := P) w a (ys.map (Value.int .u8)) hnews
            simpa [hl] using this
          rw [hxd, run_convert_bytes_string w s d e _ m c hs' he' hd', run_bytesToString w a m c ys hload, foldl_push_bytes]
          simp [strOfNums, ByteArray.empty, ByteArray.emptyWithCapacity, C.den]
          rfl
    · exact h.elim
  · exact h.elim
end Go.Proofs.YtaficaacogcblaaGreatDoor
