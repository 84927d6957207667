/- Base of chapter vect: sizes, pulses. -/
import Derived.Test.YtmkdamfdlkpjdaaCa
set_option linter.all false
namespace Go.Proofs.Ytmkdamfdlkpjdaa
open Go.RowKit (Below)
set_option maxRecDepth 100000
set_option maxHeartbeats 32000000

/-- A row of so many numbers, or none. -/
def rowP (xs : List Int) (x : V) (N : List Blk) : Prop := (xs = [] ∧ x = .w (.c .csn) ∧ N = []) ∨ (xs ≠ [] ∧ ∃ (c : Nat) (rest : List Int), xs.length ≤ c ∧ c ≤ 9223372036854775807 ∧ rest.length = c - xs.length ∧ x = .w (.c (.csl 0 0 0 xs.length c)) ∧ N = [.own 3 [.ints .i64 c (xs ++ rest)]])
theorem take_one {y : Int} : List.take 1 (List.drop 0 [y]) = [y] := rfl
/-- The row that a slice reads: its cells, all of them. -/
def slK (H : List Blk) (x : C) (K : Nat → Nat → List Int → Prop) : Prop :=
  match x with
  | .csl j o i l c => (o = 0 ∧ i = 0) ∧ hGet H j fun b => match b with
    | .own _ [.ints .i64 n xs] => n = c ∧ K j l xs
    | .ro [.ints .i64 n xs] => n = c ∧ K j l xs
    | _ => False
  | _ => False
theorem slK_spec {H : List Blk} {x : C} {K : Nat → Nat → List Int → Prop} (h : slK H x K) (ho : HOk H) (hx : x.rng) : ∃ j l xs, K j l xs ∧ x = .csl j 0 0 l xs.length ∧ l ≤ xs.length ∧ xs.length ≤ 9223372036854775807 ∧ (∀ y ∈ xs, InK .i64 y) ∧ ((∃ T, H[j]? = some (.own T [.ints .i64 xs.length xs])) ∨ H[j]? = some (.ro [.ints .i64 xs.length xs])) := by
  unfold slK at h
  split at h
  · rename_i j o i l c
    obtain ⟨⟨rfl, rfl⟩, h0⟩ := h
    obtain ⟨b, hb, h⟩ := hGet_spec h0
    clear h0
    have hr := ho.rng b (List.mem_of_getElem? hb)
    obtain ⟨h1, h2⟩ : l ≤ c ∧ c ≤ 9223372036854775807 := hx
    split at h
    · rename_i T n xs
      obtain ⟨hn, hK⟩ := h
      subst hn
      have hl : xs.length = n := hr.1.1
      subst hl
      exact ⟨j, l, xs, hK, rfl, h1, h2, hr.1.2, .inl ⟨_, hb⟩⟩
    · rename_i n xs
      obtain ⟨hn, hK⟩ := h
      subst hn
      have hl : xs.length = n := hr.1.1
      subst hl
      exact ⟨j, l, xs, hK, rfl, h1, h2, hr.1.2, .inr hb⟩
    · exact h.elim
  · exact h.elim
theorem ro_ok {xs : List Int} (hx : ∀ y ∈ xs, InK .i64 y) : HOk [.ro [.ints .i64 xs.length xs]] := ⟨fun b hb => by rw [List.mem_singleton.1 hb]; exact ⟨⟨rfl, hx⟩, trivial⟩, fun b hb => by rw [List.mem_singleton.1 hb]; rfl⟩
theorem ro_at {H : List Blk} {xs : List Int} {j : Nat} (h : (∃ T, H[j]? = some (.own T [.ints .i64 xs.length xs])) ∨ H[j]? = some (.ro [.ints .i64 xs.length xs])) : ∀ (k : Nat) (b : Blk), ([.ro [.ints .i64 xs.length xs]] : List Blk)[k]? = some b → b = .gone ∨ ∃ ss, b = .ro ss ∧ ((∃ T, H[(fun _ => j) k]? = some (.own T (rens (fun _ => j) ss))) ∨ H[(fun _ => j) k]? = some (.ro (rens (fun _ => j) ss))) := by
  intro k b hk
  match k, hk with
  | 0, hk => simp at hk; subst hk; exact .inr ⟨_, rfl, h⟩
  | k + 1, hk => simp at hk

theorem getD_take {xs : List Int} {n i : Nat} (h : i < n) : (xs.take n).getD i 0 = xs.getD i 0 := by
  rw [List.getD_eq_getElem?_getD, List.getD_eq_getElem?_getD, List.getElem?_take_of_lt h]
theorem no_ro {H : List Blk} {ρ : Nat → Nat} : ∀ (k : Nat) (b : Blk), ([] : List Blk)[k]? = some b → b = .gone ∨ ∃ ss, b = .ro ss ∧ ((∃ T, H[ρ k]? = some (.own T (rens ρ ss))) ∨ H[ρ k]? = some (.ro (rens ρ ss))) := fun k b hb => by simp at hb
theorem nil_ok : HOk [] := ⟨fun b hb => (by cases hb), fun b hb => (by cases hb)⟩
def absI (x : Int) : Int := max x (0 - x)
@[irreducible] def szV (x : Int) : Int := if x < -8 ∨ 8 < x then 9 else absI x
theorem szV_def (x : Int) : szV x = if x < -8 ∨ 8 < x then 9 else absI x := by unfold szV; rfl
theorem szV_in (x : Int) : 0 ≤ szV x ∧ szV x ≤ 9 := by rw [szV_def]; unfold absI; split <;> omega
theorem szV_abs {x : Int} (h : -8 ≤ x ∧ x ≤ 8) : szV x = absI x := by rw [szV_def, if_neg (by omega)]
theorem vsize_walk (x : Int) (hx : InK .i64 x) : walk F0 0 Try.f38 [i64 x] [] fun y _ => y = vi (szV x) := by
  conv => whnf
  refine ask_split (fun h1 => ?_) (fun h1 => ?_)
  · rw [show szV x = 9 by rw [szV_def, if_pos (.inl h1)]]
    repeat' ((conv => whnf); first | rfl | fail)
  · conv => whnf
    refine ask_split (fun h2 => ?_) (fun h2 => ?_)
    · rw [show szV x = 9 by rw [szV_def, if_pos (.inr h2)]]
      repeat' ((conv => whnf); first | rfl | fail)
    · rw [szV_abs (by omega)]
      repeat' ((conv => whnf); first | (refine ask_wrap64 (by omega) (by omega) ?_) | rfl | fail)
theorem vsize_ct : CtOk Try.prog 38 (ct1 (fun _ => True) szV) := ct1_ok F0_ok Try.func38 (fun a _ _ => by have := szV_in a; simp only [InK, lowK, highK]; omega) fun a h _ => vsize_walk a h
def sumA (xs : List Int) : Nat → Int
  | 0 => 0
  | i + 1 => sumA xs i + szV (xs.getD i 0)
theorem sumA_in (xs : List Int) : ∀ i : Nat, 0 ≤ sumA xs i ∧ sumA xs i ≤ 9 * i
  | 0 => ⟨Int.le_refl 0, Int.le_refl 0⟩
  | i + 1 => by
    have := sumA_in xs i
    have := szV_in (xs.getD i 0)
    show 0 ≤ sumA xs i + szV (xs.getD i 0) ∧ sumA xs i + szV (xs.getD i 0) ≤ 9 * ((i + 1 : Nat) : Int)
    omega
noncomputable def FP : Fns := F0.plus 38 (ct1 (fun _ => True) szV)
theorem FP_ok : FnsOk Try.prog FP := F0_ok.plus vsize_ct Try.func38 (by kernel_rfl) (by kernel_rfl)
/-- A vector's pulses. -/
@[irreducible] def pulA (xs : List Int) (l : Nat) : Int := if l ≤ 8 then min (sumA xs l) 9 else 9
theorem pulA_def (xs : List Int) (l : Nat) : pulA xs l = if l ≤ 8 then min (sumA xs l) 9 else 9 := by unfold pulA; rfl
theorem pulses_walk (xs : List Int) (l : Nat) (hl : l ≤ xs.length) (hc : xs.length ≤ 9223372036854775807) :
    walk FP 0 Try.f19 [.c (.csl 0 0 0 l xs.length)] [.ro [.ints .i64 xs.length xs]] (Made fun x N => x = vi (pulA xs l) ∧ N = []) := by
  by_cases h8 : l ≤ 8
  · rw [show pulA xs l = min (sumA xs l) 9 by rw [pulA_def, if_pos h8]]
    repeat' ((conv => whnf); first | (refine ask_false (by omega) ?_) | fail)
    conv => whnf
    refine loop_at (3 :: 4 :: 5 :: List.range' 11 9) (fun m (i : Int) => 0 ≤ i ∧ i ≤ l ∧ m = (l - i).toNat) (fun i => [(3, vi (sumA xs i.toNat)), (11, vi i)]) (fun _ => [.ro [.ints .i64 xs.length xs]]) l 0 ⟨by decide, by omega, by omega⟩ ?_ ?_
    · exact ⟨rfl, ⟨⟨Nat.le_of_ble_eq_true rfl, rfl⟩, ⟨Nat.le_of_ble_eq_true rfl, rfl⟩, trivial⟩, ⟨rfl, trivial⟩, rfl, rfl, Nat.le_of_ble_eq_true rfl⟩
    · rintro m i ⟨i0, i1, rfl⟩
      have em : mulN i.toNat (Try.prog.types[3]).size = i.toNat := mulN1 _
      have si := sumA_in xs i.toNat
      rcases Int.lt_or_le i l with i2 | i2
      · have ex : xs.getD (0 + mulN i.toNat (Try.prog.types[3]).size) 0 = xs.getD i.toNat 0 := by rw [em, Nat.zero_add]
        have hs : sumA xs (i + 1).toNat = sumA xs i.toNat + szV (xs.getD i.toNat 0) := by rw [show (i + 1).toNat = i.toNat + 1 by omega]; rfl
        have ha := szV_in (xs.getD i.toNat 0)
        rw [← ex] at hs ha
        repeat' ((conv => whnf); first | (refine ask_true (by omega) ?_) | (refine And.intro (by omega) ?_) | (refine And.intro trivial ?_) | (refine fun (_ : InK _ _) => ?_) | (refine ask_wrap64 (by omega) (by omega) ?_) | fail)
        conv => whnf
        exact ⟨(l - (i + 1)).toNat, i + 1, by omega, ⟨by omega, by omega, rfl⟩, rfl, ⟨⟨Nat.le_of_ble_eq_true rfl, congrArg vi hs.symm⟩, ⟨Nat.le_of_ble_eq_true rfl, rfl⟩, trivial⟩, ⟨rfl, trivial⟩, rfl, rfl, Nat.le_of_ble_eq_true rfl⟩
      · repeat' ((conv => whnf); first | (refine ask_true (by omega) ?_) | (refine ask_false (by omega) ?_) | fail)
        conv => whnf
        have e : i.toNat = l := by omega
        show Made (fun x N => x = vi (min (sumA xs l) 9) ∧ N = []) (vi (min (sumA xs i.toNat) 9)) _
        rw [e]
        exact made_of (vi (min (sumA xs l) 9)) [] id ⟨rfl, rfl⟩ rfl trivial (fun p q hp _ _ => absurd hp (Nat.not_lt_zero p)) rfl rfl (by intro e; cases e)
  · rw [show pulA xs l = 9 by rw [pulA_def, if_neg h8]]
    repeat' ((conv => whnf); first | (refine ask_true (by omega) ?_) | fail)
    conv => whnf
    exact made_of (vi 9) [] id ⟨rfl, rfl⟩ rfl trivial (fun p q hp _ _ => absurd hp (Nat.not_lt_zero p)) rfl rfl (by intro e; cases e)
def hPulses : HCt := fun ws H K => match ws with
  | [.c x] => slK H x fun _ l xs => K (vi (pulA xs l)) H
  | _ => False
theorem val_mine {x0 : V} : ∀ (x : V) (N : List Blk), (x = x0 ∧ N = []) → ∀ b ∈ N, b.mine = true ∨ b = .gone := by
  rintro x N ⟨_, rfl⟩ b hb; cases hb
theorem vi_K {H : List Blk} {K : V → List Blk → Prop} {a : Int} (h : K (vi a) H) : ∀ (x : V) (N : List Blk), (x = vi a ∧ N = []) → K (x.ren (sh H.length)) (H ++ N.map (Blk.ren (sh H.length))) := by
  rintro x N ⟨rfl, rfl⟩
  simpa [V.ren, renW, W.ren, C.ren] using h
theorem pulses_ct : HCtOk Try.prog 19 hPulses := by
  intro ws H K h hr hb ho G σ base w₀ w hw
  unfold hPulses at h
  split at h
  · rename_i x
    obtain ⟨j, l, xs, h', hx, g1, g2, g3, g4⟩ := slK_spec h ho hr.1
    clear h
    subst hx
    exact walk_lift FP_ok Try.func19 (n := 0) (ws := [.c (.csl 0 0 0 l xs.length)]) (R := [.ro [.ints .i64 xs.length xs]]) (ro_ok g3) ⟨⟨g1, g2⟩, trivial⟩ rfl (pulses_walk xs l g1 g2) val_mine (fun _ => j) (ro_at g4) rfl (vi_K h') ho G σ base w₀ w hw
  · exact h.elim

def rowS (j : Nat) (xs : List Int) (v : V) (b : Blk) : Prop :=
  (xs = [] ∧ v = .w (.c .csn) ∧ b = .gone) ∨ (xs ≠ [] ∧ ∃ (c : Nat) (rest : List Int), xs.length ≤ c ∧ c ≤ 9223372036854775807 ∧ rest.length = c - xs.length ∧ v = .w (.c (.csl j 0 0 xs.length c)) ∧ b = .own 3 [.ints .i64 c (xs ++ rest)])
theorem rowS_next {j c m : Nat} {A rest : List Int} {v : Int} (hm : m = A.length) (h : m + 1 ≤ c) (hc : c ≤ 9223372036854775807) (hr : rest.length = c - (m + 1)) : rowS j (A ++ [v]) (.w (.c (.csl j 0 0 (m + 1) c))) (.own 3 [.ints .i64 c (A ++ [v] ++ rest)]) := by
  have e : (A ++ [v]).length = m + 1 := by simp [hm]
  exact .inr ⟨by simp, c, rest, by omega, hc, by omega, by rw [e], rfl⟩
theorem room_eq {A rest : List Int} {v : Int} {m : Nat} (hm : m = A.length) : List.take m (A ++ rest) ++ List.take 1 (List.drop 0 [v]) ++ List.drop (m + 1) (A ++ rest) = A ++ [v] ++ rest.drop 1 := by
  subst hm
  have e : List.drop (A.length + 1) (A ++ rest) = rest.drop 1 := by
    rw [List.drop_append, List.drop_of_length_le (show A.length ≤ A.length + 1 by omega), List.nil_append, show A.length + 1 - A.length = 1 by omega]
  rw [List.take_append_of_le_length (Nat.le_refl _), List.take_length, e]
  rfl
theorem grow_eq {A rest : List Int} {v : Int} {m : Nat} (hm : m = A.length) : List.take m (A ++ rest) ++ List.take 1 (List.drop 0 [v]) = A ++ [v] := by
  subst hm
  rw [List.take_append_of_le_length (Nat.le_refl _), List.take_length]
  rfl
theorem fresh_as {e : TypeId} {k : IntKind} {H : List Blk} {m : Nat} {ys zs : List Int} {K : C → List Blk → Prop} (hy : ys = zs) (h : ∀ (c : Nat) (R : List Int), m ≤ c → c ≤ 9223372036854775807 → R.length = c - m → lenH H 0 fun n => pushH H (.own e [.ints k c (zs ++ R)]) fun H' => K (.csl n 0 0 m c) H') : freshK e k H m ys K := by
  subst hy
  exact fun c h1 h2 => h c _ h1 h2 (List.length_replicate ..)
/-- Two blocks take the place of two. -/
def rhoS (p q a b j : Nat) : Nat := if j = p then a else if j = q then b else j
theorem rhoS_inj {p q a b n : Nat} (ha : a = p ∨ n ≤ a) (hb : b = q ∨ n ≤ b) (hab : a ≠ b) (hpq : p ≠ q) (hp : p < n) (hq : q < n) {i j : Nat} (hi : i < n) (hj : j < n) (h : rhoS p q a b i = rhoS p q a b j) : i = j := by
  unfold rhoS at h
  split at h <;> split at h <;> (try split at h) <;> (try split at h) <;> omega
theorem rhoS_low {p q a b lo j : Nat} (hp : lo ≤ p) (hq : lo ≤ q) (h : j < lo) : rhoS p q a b j = j := by
  unfold rhoS; rw [if_neg (by omega), if_neg (by omega)]

theorem take_all {xs rest : List Int} {n : Nat} (h : n = xs.length) : (xs ++ rest).take n = xs := by
  subst h; rw [List.take_append_of_le_length (Nat.le_refl _), List.take_length]
theorem left_at {xs rest : List Int} {i : Nat} (h : i < xs.length) : (xs ++ rest).getD i 0 = xs.getD i 0 := by
  rw [List.getD_eq_getElem?_getD, List.getD_eq_getElem?_getD, List.getElem?_append_left h]

/-- What is done with a row that was made. -/
def rowK (H : List Blk) (xs : List Int) (K : V → List Blk → Prop) : Prop :=
  (xs = [] → K (.w (.c .csn)) H) ∧ (xs ≠ [] → ∀ (c : Nat) (rest : List Int), xs.length ≤ c → c ≤ 9223372036854775807 → rest.length = c - xs.length → K (.w (.c (.csl H.length 0 0 xs.length c))) (H ++ [.own 3 [.ints .i64 c (xs ++ rest)]]))
theorem row_mine {xs : List Int} : ∀ x N, rowP xs x N → ∀ b ∈ N, b.mine = true ∨ b = .gone := by
  rintro x N (⟨_, _, rfl⟩ | ⟨_, c, rest, _, _, _, _, rfl⟩) b hb
  · cases hb
  · rw [List.mem_singleton.1 hb]; exact .inl rfl
theorem row_K {xs : List Int} {H : List Blk} {K : V → List Blk → Prop} (h : rowK H xs K) : ∀ x N, rowP xs x N → K (x.ren (sh H.length)) (H ++ N.map (Blk.ren (sh H.length))) := by
  rintro x N (⟨e, rfl, rfl⟩ | ⟨e, c, rest, h1, h2, h3, rfl, rfl⟩)
  · simpa [V.ren, W.ren, C.ren] using h.1 e
  · have := h.2 e c rest h1 h2 h3
    simpa [V.ren, W.ren, C.ren, Blk.ren, rens, Seg.ren, sh] using this

def noneP (e : Int) (x : V) (N : List Blk) : Prop := x = .tup [.c .csn, i64 e] ∧ N = []
theorem none_K {H : List Blk} {K : V → List Blk → Prop} {e : Int} (h : K (.tup [.c .csn, i64 e]) H) : ∀ x N, noneP e x N → K (x.ren (sh H.length)) (H ++ N.map (Blk.ren (sh H.length))) := by
  rintro x N ⟨rfl, rfl⟩
  simpa [V.ren, renW, W.ren, C.ren] using h
theorem none_mine {e : Int} : ∀ x N, noneP e x N → ∀ b ∈ N, b.mine = true ∨ b = .gone := by
  rintro x N ⟨_, rfl⟩ b hb; cases hb
end Go.Proofs.Ytmkdamfdlkpjdaa
