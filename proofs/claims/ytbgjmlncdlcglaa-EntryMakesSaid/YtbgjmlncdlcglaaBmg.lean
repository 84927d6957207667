/- Chapter mdct: the greatest of numbers; the law MdctSizes, walked. -/
import Derived.Test.YtbgjmlncdlcglaaBme
set_option linter.all false
namespace Go.Proofs.Ytbgjmlncdlcglaa
open Go.RowKit (Below)
set_option maxRecDepth 100000
set_option maxHeartbeats 32000000

/-- The greatest number without its sign. -/
@[irreducible] noncomputable def mostS : List Int → Int := sealed fun xs => xs.foldl (fun m x => max (max m x) (-x)) 0
theorem mostS_def (xs : List Int) : mostS xs = xs.foldl (fun m x => max (max m x) (-x)) 0 := by unfold mostS; rw [sealed_eq]
theorem mostS_nil : mostS [] = 0 := by rw [mostS_def]; rfl
theorem mostS_snoc (xs : List Int) (x : Int) : mostS (xs ++ [x]) = max (max (mostS xs) x) (-x) := by rw [mostS_def, mostS_def, List.foldl_append]; rfl
theorem mostS_take {xs : List Int} {n : Nat} (h : n < xs.length) : mostS (xs.take (n + 1)) = max (max (mostS (xs.take n)) (xs.getD n 0)) (-(xs.getD n 0)) := by
  rw [List.take_succ_eq_append_getElem h, mostS_snoc, List.getD_eq_getElem?_getD, List.getElem?_eq_getElem h]; rfl
theorem mostS_le {b : Int} (hb : 0 ≤ b) : ∀ (xs : List Int), (∀ x ∈ xs, -b ≤ x ∧ x ≤ b) → mostS xs ≤ b := fun xs => by
  have key : ∀ (n : Nat), n ≤ xs.length → (∀ x ∈ xs, -b ≤ x ∧ x ≤ b) → mostS (xs.take n) ≤ b := fun n => by
    induction n with
    | zero => intro _ _; rw [List.take_zero, mostS_nil]; exact hb
    | succ n ih =>
      intro hn hx
      have h1 := ih (by omega) hx
      rw [mostS_take (by omega)]
      have h2 : xs.getD n 0 ∈ xs := by
        rw [List.getD_eq_getElem?_getD, List.getElem?_eq_getElem (by omega)]
        exact List.getElem_mem _
      have := hx _ h2
      omega
  intro hx
  have := key xs.length (Nat.le_refl _) hx
  rwa [List.take_length] at this
theorem mostS_ge {xs : List Int} {x : Int} (hx : x ∈ xs) : x ≤ mostS xs ∧ -x ≤ mostS xs := by
  have key : ∀ (n : Nat), n ≤ xs.length → ∀ m, m < n → xs.getD m 0 ≤ mostS (xs.take n) ∧ -(xs.getD m 0) ≤ mostS (xs.take n) := fun n => by
    induction n with
    | zero => intro _ m hm; omega
    | succ n ih =>
      intro hn m hm
      rw [mostS_take (by omega)]
      rcases Nat.lt_or_ge m n with h | h
      · have := ih (by omega) m h
        omega
      · obtain rfl : m = n := by omega
        omega
  obtain ⟨k, hk, rfl⟩ := List.getElem_of_mem hx
  have := key xs.length (Nat.le_refl _) k hk
  rw [List.take_length, List.getD_eq_getElem?_getD, List.getElem?_eq_getElem hk] at this
  exact this
theorem mostS_nonneg (xs : List Int) : 0 ≤ mostS xs := by
  have key : ∀ (n : Nat), n ≤ xs.length → 0 ≤ mostS (xs.take n) := fun n => by
    induction n with
    | zero => intro _; rw [List.take_zero, mostS_nil]; decide
    | succ n ih =>
      intro hn
      have := ih (by omega)
      rw [mostS_take (by omega)]
      omega
  have := key xs.length (Nat.le_refl _)
  rwa [List.take_length] at this

theorem most_walk (xs : List Int) (l : Nat) (hl : l ≤ 8) (h : xs.length = 16 * l) (hx : ∀ x ∈ xs, -1073741824 ≤ x ∧ x ≤ 1073741824) : walk F0 0 Try.f41 [.c (.csl 0 0 0 l l)] [.ro [.ints .i64 (16 * l) xs]] (Made fun x N => x = vi (mostS xs) ∧ N = []) := by
  conv => whnf
  refine loop_at2 (3 :: 4 :: 5 :: List.range' 6 25) (fun m (i s : Int) => 0 ≤ i ∧ i ≤ l ∧ s = mostS (xs.take (16 * i).toNat) ∧ m = (l - i).toNat) (fun i s => [(3, vi s), (4, vi i)]) (fun _ _ => [.ro [.ints .i64 (16 * l) xs]]) l 0 0 ⟨by decide, by omega, mostS_nil.symm, by omega⟩ ?_ ?_
  · exact ⟨rfl, ⟨⟨Nat.le_of_ble_eq_true rfl, rfl⟩, ⟨Nat.le_of_ble_eq_true rfl, rfl⟩, trivial⟩, ⟨rfl, trivial⟩, rfl, rfl, Nat.le_of_ble_eq_true rfl⟩
  · rintro m i s ⟨i0, i1, hs, rfl⟩
    rcases Int.lt_or_le i l with i2 | i2
    · conv => whnf
      refine ask_true (by omega) ?_
      conv => whnf
      refine loop_at2 (3 :: 5 :: List.range' 12 19) (fun m (k s : Int) => 0 ≤ k ∧ k ≤ 16 ∧ s = mostS (xs.take (16 * i + k).toNat) ∧ m = (16 - k).toNat) (fun k s => [(3, vi s), (5, vi k)]) (fun _ _ => [.ro [.ints .i64 (16 * l) xs]]) 16 0 s ⟨by decide, by decide, by rw [hs]; congr 2; omega, rfl⟩ ?_ ?_
      · exact ⟨rfl, ⟨⟨Nat.le_of_ble_eq_true rfl, rfl⟩, ⟨Nat.le_of_ble_eq_true rfl, rfl⟩, trivial⟩, ⟨rfl, trivial⟩, rfl, rfl, Nat.le_of_ble_eq_true rfl⟩
      · rintro m k s ⟨k0, k1, hs, rfl⟩
        have ek : mulN k.toNat (Try.prog.types[3]).size = k.toNat := mulN1 _
        have ei : mulN i.toNat (Try.prog.types[38]).size = 16 * i.toNat := (mulN_eq _ _).trans (by show i.toNat * 16 = _; omega)
        rcases Int.lt_or_le k 16 with k2 | k2
        · conv => whnf
          refine ask_true (by omega) ?_
          conv => whnf
          have hlt : 16 * i.toNat + k.toNat < xs.length := by rw [h]; omega
          have hidx : 0 + mulN i.toNat (Try.prog.types[38]).size + mulN k.toNat (Try.prog.types[3]).size = 16 * i.toNat + k.toNat := by rw [ei, ek, Nat.zero_add]
          have hm : xs.getD (0 + mulN i.toNat (Try.prog.types[38]).size + mulN k.toNat (Try.prog.types[3]).size) 0 ∈ xs := by
            rw [hidx, List.getD_eq_getElem?_getD, List.getElem?_eq_getElem hlt]
            exact List.getElem_mem _
          have hb := hx _ hm
          have hfin : max (max s (xs.getD (0 + mulN i.toNat (Try.prog.types[38]).size + mulN k.toNat (Try.prog.types[3]).size) 0)) ((0 : Int) - (xs.getD (0 + mulN i.toNat (Try.prog.types[38]).size + mulN k.toNat (Try.prog.types[3]).size) 0)) = mostS (xs.take (16 * i + (k + 1)).toNat) := by
            rw [Int.zero_sub, show (16 * i + (k + 1)).toNat = (16 * i.toNat + k.toNat) + 1 by omega, mostS_take hlt, hidx, hs, show (16 * i + k).toNat = 16 * i.toNat + k.toNat by omega]
          repeat' ((conv => whnf); first | (refine And.intro (by omega) ?_) | (refine fun (_ : InK _ _) => ?_) | (refine ask_wrap64 (by omega) (by omega) ?_) | (refine ⟨by kernel_rfl, ?_⟩) | fail)
          conv => whnf
          refine ⟨(16 - (k + 1)).toNat, (k + 1, _), by show (16 - (k + 1)).toNat < (16 - k).toNat; omega, ⟨by show 0 ≤ k + 1; omega, by show k + 1 ≤ 16; omega, ?_, rfl⟩, rfl, ⟨⟨Nat.le_of_ble_eq_true rfl, rfl⟩, ⟨Nat.le_of_ble_eq_true rfl, rfl⟩, trivial⟩, ⟨rfl, trivial⟩, rfl, rfl, Nat.le_of_ble_eq_true rfl⟩
          exact hfin
        · have hk : k = 16 := by omega
          subst hk
          repeat' ((conv => whnf); first | (refine ask_false (by omega) ?_) | (refine ask_wrap64 (by omega) (by omega) ?_) | fail)
          conv => whnf
          refine ⟨(l - (i + 1)).toNat, (i + 1, s), by show (l - (i + 1)).toNat < (l - i).toNat; omega, ⟨by show 0 ≤ i + 1; omega, by show i + 1 ≤ (l : Int); omega, ?_, rfl⟩, rfl, ⟨⟨Nat.le_of_ble_eq_true rfl, rfl⟩, ⟨Nat.le_of_ble_eq_true rfl, rfl⟩, trivial⟩, ⟨rfl, trivial⟩, rfl, rfl, Nat.le_of_ble_eq_true rfl⟩
          show s = mostS (xs.take (16 * (i + 1)).toNat)
          rw [hs, show (16 * i + 16).toNat = (16 * (i + 1)).toNat by omega]
    · have hi : i = l := by omega
      subst hi
      repeat' ((conv => whnf); first | (refine ask_false (by omega) ?_) | fail)
      conv => whnf
      refine made_of (vi (mostS xs)) [] id ⟨rfl, rfl⟩ ?_ trivial (fun p q hp _ _ => absurd hp (Nat.not_lt_zero p)) rfl rfl (by intro e; cases e)
      show V.w (.c (.ci .i64 s)) = vi (mostS xs)
      rw [hs, show (16 * (l : Int)).toNat = xs.length by omega, List.take_length]
def hMost : HCt := fun ws H K => match ws with
  | [.c (.csl j o i l c)] => (o = 0 ∧ i = 0 ∧ c = l ∧ l ≤ 8) ∧ hGet H j fun b => match b with
    | .own _ [.ints .i64 n xs] => (n = 16 * l ∧ ∀ x ∈ xs, -1073741824 ≤ x ∧ x ≤ 1073741824) ∧ K (vi (mostS xs)) H
    | .ro [.ints .i64 n xs] => (n = 16 * l ∧ ∀ x ∈ xs, -1073741824 ≤ x ∧ x ≤ 1073741824) ∧ K (vi (mostS xs)) H
    | _ => False
  | _ => False
theorem most_ct : HCtOk Try.prog 41 hMost := by
  intro ws H K h hr hb ho G σ base w₀ w hw
  unfold hMost at h
  split at h
  · rename_i j o i l0 l
    obtain ⟨⟨rfl, rfl, rfl, hl⟩, h⟩ := h
    obtain ⟨b, hj, h⟩ := hGet_spec h
    have hrb := ho.rng b (List.mem_of_getElem? hj)
    have main : ∀ (n : Nat) (xs : List Int), ((∃ T, H[j]? = some (.own T [.ints .i64 n xs])) ∨ H[j]? = some (.ro [.ints .i64 n xs])) → (n = 16 * l ∧ ∀ x ∈ xs, -1073741824 ≤ x ∧ x ≤ 1073741824) → xs.length = n → (∀ x ∈ xs, InK .i64 x) → K (vi (mostS xs)) H →
        Calls Try.prog 41 (([.c (.csl j 0 0 l l)] : List W).map (W.den σ)).toArray w (LeftG G σ base w₀ H.length K) := fun n xs hjj hn hlen hin hk => by
      obtain ⟨rfl, hx⟩ := hn
      refine walk_lift F0_ok Try.func41 (n := 0) (ws := [.c (.csl 0 0 0 l l)]) (R := [.ro [.ints .i64 (16 * l) xs]]) (P0 := fun x N => x = vi (mostS xs) ∧ N = []) ⟨fun b hb => ?_, fun b hb => ?_⟩ ⟨⟨Nat.le_refl _, by omega⟩, trivial⟩ rfl (most_walk xs l hl hlen hx) ?_ (fun _ => j) ?_ rfl ?_ ho G σ base w₀ w hw
      · rw [List.mem_singleton.1 hb]; exact ⟨⟨hlen, hin⟩, trivial⟩
      · rw [List.mem_singleton.1 hb]; rfl
      · rintro x N ⟨_, rfl⟩ b hb
        simp at hb
      · intro k b hk
        match k, hk with
        | 0, hk => simp at hk; subst hk; exact .inr ⟨_, rfl, hjj⟩
        | k + 1, hk => simp at hk
      · rintro x N ⟨rfl, rfl⟩
        simpa [V.ren, W.ren, C.ren] using hk
    split at h
    · exact main _ _ (.inl ⟨_, hj⟩) h.1 hrb.1.1 hrb.1.2 h.2
    · exact main _ _ (.inr hj) h.1 hrb.1.1 hrb.1.2 h.2
    · exact h.elim
  · exact h.elim
end Go.Proofs.Ytbgjmlncdlcglaa
