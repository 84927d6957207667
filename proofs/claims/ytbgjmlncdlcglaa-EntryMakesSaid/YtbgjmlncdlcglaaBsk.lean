/- Chapter state: bytes and states undo each other (plain). -/
import Derived.Test.YtbgjmlncdlcglaaBsj
set_option linter.all false
namespace Go.Proofs.Ytbgjmlncdlcglaa
open Go.RowKit (Below)
set_option maxRecDepth 100000
set_option maxHeartbeats 4000000

theorem le4_four {v : Int} (h0 : 0 ≤ v) (h1 : v ≤ 4294967295) (r : List Int) : le4 (four v ++ r) = v := by
  show v % 256 + 256 * (v / 256 % 256) + 65536 * (v / 65536 % 256) + 16777216 * (v / 16777216 % 256) = v
  omega
theorem s32_mod {x : Int} (h : -2147483648 ≤ x ∧ x ≤ 2147483647) : s32 (x % 4294967296) = x := by unfold s32; split <;> omega
theorem s32_four {x : Int} (h : -2147483648 ≤ x ∧ x ≤ 2147483647) (r : List Int) : s32 (le4 (fourI x ++ r)) = x := by
  unfold fourI
  rw [le4_four (by omega) (by omega), s32_mod h]
theorem drop_behind {α : Type} (a b : List α) (n : Nat) : (a ++ b).drop (a.length + n) = b.drop n := by
  rw [List.drop_append]; simp
theorem words_drop {xs : List Int} {i : Nat} (h : i < xs.length) (r : List Int) : (words xs ++ r).drop (4 * i) = fourI (xs.getD i 0) ++ (words (xs.drop (i + 1)) ++ r) := by
  induction xs generalizing i with
  | nil => simp at h
  | cons x xs ih =>
    cases i with
    | zero => simp [words]
    | succ i =>
      have := ih (i := i) (by simpa using h)
      have e : words (x :: xs) ++ r = fourI x ++ (words xs ++ r) := by simp [words]
      rw [e, show 4 * (i + 1) = (fourI x).length + 4 * i by rw [show (fourI x).length = 4 from rfl]; omega, drop_behind, this]
      simp
theorem nb_words {xs : List Int} (hx : ∀ x ∈ xs, -2147483648 ≤ x ∧ x ≤ 2147483647) {i : Nat} (h : i < xs.length) (p r : List Int) {k : Nat} (hk : k = p.length + 4 * i) : nb (p ++ (words xs ++ r)) k = xs.getD i 0 := by
  unfold nb
  rw [hk, drop_behind, words_drop h]
  exact s32_four (hx _ (mem_at h)) _
theorem map_range_at {xs : List Int} {n : Nat} (h : xs.length = n) {f : Nat → Int} (hf : ∀ i, i < n → f i = xs.getD i 0) : (List.range n).map f = xs := by
  apply List.ext_getElem
  · simp [h]
  · intro i h1 h2
    simp at h1
    rw [List.getElem_map, List.getElem_range, hf i h1, List.getD_eq_getElem?_getD, List.getElem?_eq_getElem h2]; rfl
theorem back_read {s : St} (h : StOk s) (hr : rightP s) (hw : ∀ x ∈ s.w, -2147483648 ≤ x ∧ x ≤ 2147483647) : rdS (byZ s) = s := by
  have hr' := hr
  rw [rightP_def] at hr'
  obtain ⟨r1, r2, r3, r4, r5⟩ := hr'
  have l1 := h.m.1
  have l2 := h.v.1
  have l3 := h.w.1
  have w1 : (words s.m).length = 64 := by rw [words_len, l1]
  have w3 : (words s.w).length = 64 := by rw [words_len, l3]
  have f1 : (fourI s.l).length = 4 := rfl
  have v1 : (s.v.map fun x => x % 256).length = 4 := by simp [l2]
  have e1 : byZ s = [] ++ (words s.m ++ (fourI s.l ++ s.v.map (fun x => x % 256) ++ words s.w ++ [s.q % 256])) := by simp [byZ]
  have e2 : byZ s = words s.m ++ (words [s.l] ++ (s.v.map (fun x => x % 256) ++ words s.w ++ [s.q % 256])) := by simp [byZ, words]
  have e3 : byZ s = (words s.m ++ fourI s.l) ++ (s.v.map (fun x => x % 256) ++ (words s.w ++ [s.q % 256])) := by simp [byZ]
  have e4 : byZ s = (words s.m ++ fourI s.l ++ s.v.map (fun x => x % 256)) ++ (words s.w ++ [s.q % 256]) := by simp [byZ]
  have a1 : mS (byZ s) = s.m := by
    refine map_range_at l1 fun i hi => ?_
    rw [e1]
    exact nb_words r1 (by omega) [] _ (by simp)
  have a2 : nb (byZ s) 64 = s.l := by
    rw [e2]
    exact nb_words (xs := [s.l]) (fun x hx => by rw [List.mem_singleton.1 hx]; omega) (i := 0) (by simp) _ _ (by rw [w1])
  have a3 : vS (byZ s) = s.v := by
    refine map_range_at l2 fun i hi => ?_
    rw [e3, List.getD_eq_getElem?_getD, List.getElem?_append_right (by rw [List.length_append, w1, f1]; omega), List.getElem?_append_left (by rw [List.length_append, w1, f1, v1]; omega)]
    have hv := r2 _ (mem_at (xs := s.v) (i := i) (by omega))
    rw [← List.getD_eq_getElem?_getD, show 68 + i - (words s.m ++ fourI s.l).length = i by rw [List.length_append, w1, f1]; omega, getD_map (by omega)]
    omega
  have a4 : wS (byZ s) = s.w := by
    refine map_range_at l3 fun i hi => ?_
    rw [e4]
    exact nb_words hw (by omega) _ _ (by rw [List.length_append, List.length_append, w1, f1, v1])
  have a5 : (byZ s).getD 136 0 = s.q := by
    have hl : (words s.m ++ fourI s.l ++ s.v.map (fun x => x % 256) ++ words s.w).length = 136 := by
      rw [List.length_append, List.length_append, List.length_append, w1, f1, v1, w3]
    rw [e4, ← List.append_assoc, List.getD_eq_getElem?_getD, List.getElem?_append_right (by rw [hl]; exact Nat.le_refl _), hl]
    show s.q % 256 = s.q
    omega
  show (⟨mS (byZ s), nb (byZ s) 64, vS (byZ s), wS (byZ s), (byZ s).getD 136 0⟩ : St) = s
  rw [a1, a2, a3, a4, a5]
theorem four_le4 {xs : List Int} (h : ∀ x ∈ xs, InK .u8 x) (hl : 4 ≤ xs.length) : fourI (s32 (le4 xs)) = xs.take 4 := by
  have h0 := u8_at h 0
  have h1 := u8_at h 1
  have h2 := u8_at h 2
  have h3 := u8_at h 3
  have hv := le4_in h
  have e : s32 (le4 xs) % 4294967296 = le4 xs := by unfold s32; split <;> omega
  unfold fourI
  rw [e]
  match xs, hl with
  | a :: b :: c :: d :: r, _ =>
    simp only [List.getD_cons_zero, List.getD_cons_succ] at h0 h1 h2 h3
    show [_, _, _, _] = [a, b, c, d]
    have el : le4 (a :: b :: c :: d :: r) = a + 256 * b + 65536 * c + 16777216 * d := rfl
    rw [el]
    congr 1
    · omega
    · congr 1
      · omega
      · congr 1
        · omega
        · congr 1
          omega
theorem words_nb {bs : List Int} (h : ∀ x ∈ bs, InK .u8 x) (k : Nat) : ∀ n, k + 4 * n ≤ bs.length → words ((List.range n).map fun i => nb bs (k + 4 * i)) = (bs.drop k).take (4 * n)
  | 0, _ => by simp [words]
  | n + 1, hn => by
    have ih := words_nb h k n (by omega)
    rw [List.range_succ, List.map_append, words, List.flatMap_append]
    have e : (List.map (fun i => nb bs (k + 4 * i)) [n]).flatMap fourI = fourI (nb bs (k + 4 * n)) := by simp
    rw [e]
    change words ((List.range n).map fun i => nb bs (k + 4 * i)) ++ _ = _
    rw [ih]
    unfold nb
    rw [four_le4 (drop_in h _) (by rw [List.length_drop]; omega), show 4 * (n + 1) = 4 * n + 4 by omega, List.take_add, List.drop_drop]
theorem read_back {bs : List Int} (h : ∀ x ∈ bs, InK .u8 x) (hl : bs.length = 137) : byZ (rdS bs) = bs := by
  have a1 : words (mS bs) = (bs.drop 0).take 64 := by
    have := words_nb h 0 16 (by omega)
    simpa [mS] using this
  have a2 : fourI (nb bs 64) = (bs.drop 64).take 4 := four_le4 (drop_in h _) (by rw [List.length_drop]; omega)
  have a3 : (vS bs).map (fun x => x % 256) = (bs.drop 68).take 4 := by
    apply List.ext_getElem
    · simp [vS]; omega
    · intro i h1 h2
      have hi : i < 4 := by simpa [vS] using h1
      have hb := u8_at h (68 + i)
      have hg : (bs.drop 68)[i]? = some (bs.getD (68 + i) 0) := by
        rw [List.getElem?_drop, List.getD_eq_getElem?_getD, List.getElem?_eq_getElem (by omega)]; rfl
      have e : ((bs.drop 68).take 4)[i]? = some (bs.getD (68 + i) 0) := by rw [List.getElem?_take_of_lt hi, hg]
      rw [List.getElem?_eq_getElem h2] at e
      rw [Option.some.inj e]
      simp only [vS, List.getElem_map, List.getElem_range]
      omega
  have a4 : words (wS bs) = (bs.drop 72).take 64 := by
    have := words_nb h 72 16 (by omega)
    simpa [wS] using this
  have a5 : [bs.getD 136 0 % 256] = bs.drop 136 := by
    have hb := u8_at h 136
    rw [List.drop_eq_getElem_cons (by omega), List.drop_of_length_le (by omega)]
    congr 1
    rw [List.getD_eq_getElem?_getD, List.getElem?_eq_getElem (by omega)] at hb ⊢
    simp only [Option.getD_some] at hb ⊢
    omega
  show words (mS bs) ++ fourI (nb bs 64) ++ (vS bs).map (fun x => x % 256) ++ words (wS bs) ++ [bs.getD 136 0 % 256] = bs
  rw [a1, a2, a3, a4, a5]
  have s1 : bs.drop 72 = (bs.drop 72).take 64 ++ bs.drop 136 := by
    have := (List.take_append_drop 64 (bs.drop 72)).symm
    rwa [List.drop_drop] at this
  have s2 : bs.drop 68 = (bs.drop 68).take 4 ++ bs.drop 72 := by
    have := (List.take_append_drop 4 (bs.drop 68)).symm
    rwa [List.drop_drop] at this
  have s3 : bs.drop 64 = (bs.drop 64).take 4 ++ bs.drop 68 := by
    have := (List.take_append_drop 4 (bs.drop 64)).symm
    rwa [List.drop_drop] at this
  have s4 : bs = (bs.drop 0).take 64 ++ bs.drop 64 := by
    have := (List.take_append_drop 64 bs).symm
    simpa using this
  conv => rhs; rw [s4, s3, s2, s1]
  simp only [List.append_assoc]
end Go.Proofs.Ytbgjmlncdlcglaa
