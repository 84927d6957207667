/- Chapter mdct: the greatest of numbers; the law MdctSizes, walked. -/
import Derived.Test.YtbgjmlncdlcglaaBme
set_option linter.all false
namespace Go.Proofs.Ytbgjmlncdlcglaa
open Go.RowKit (Below)
set_option maxRecDepth 100000
set_option maxHeartbeats 32000000

/-- The greatest number without its sign. -/
@[irreducible] noncomputable def mostS : List Int → Int := sealed fun xs => xs.foldl (fun m x => max (max m x) (-x)) 0
theorem mostS_def (xs : List Int) : mostS xs = xs.foldl (fun m x => max (max m x) (-x)) 0 := by unfold mostS; rw [sealed_eq]
theorem mostS_nil : mostS [] = 0 := by rw [mostS_def]; rfl
theorem mostS_snoc (xs : List Int) (x : Int) : mostS (xs ++ [x]) = max (max (mostS xs) x) (-x) := by rw [mostS_def, mostS_def, List.foldl_append]; rfl
theorem mostS_take {xs : List Int} {n : Nat} (h : n < xs.length) : mostS (xs.take (n + 1)) = max (max (mostS (xs.take n)) (xs.getD n 0)) (-(xs.getD n 0)) := by
  rw [List.take_succ_eq_append_getElem h, mostS_snoc, List.getD_eq_getElem?_getD, List.getElem?_eq_getElem h]; rfl
theorem mostS_le {b : Int} (hb : 0 ≤ b) : ∀ (xs : List Int), (∀ x ∈ xs, -b ≤ x ∧ x ≤ b) → mostS xs ≤ b := fun xs => by
  have key : ∀ (n : Nat), n ≤ xs.length → (∀ x ∈ xs, -b ≤ x ∧ x ≤ b) → mostS (xs.take n) ≤ b := fun n => by
    induction n with
    | zero => intro _ _; rw [List.take_zero, mostS_nil]; exact hb
    | succ n ih =>
      intro hn hx
      have h1 := ih (by omega) hx
      rw [mostS_take (by omega)]
      have h2 : xs.getD n 0 ∈ xs := by
        rw [List.getD_eq_getElem?_getD, List.getElem?_eq_getElem (by omega)]
        exact List.getElem_mem _
      have := hx _ h2
      omega
  intro hx
  have := key xs.length (Nat.le_refl _) hx
  rwa [List.take_length] at this
theorem mostS_ge {xs : List Int} {x : Int} (hx : x ∈ xs) : x ≤ mostS xs ∧ -x ≤ mostS xs := by
  have key : ∀ (n : Nat), n ≤ xs.length → ∀ m, m < n → xs.getD m 0 ≤ mostS (xs.take n) ∧ -(xs.getD m 0) ≤ mostS (xs.take n) := fun n => by
    induction n with
    | zero => intro _ m hm; omega
    | succ n ih =>
      intro hn m hm
      rw [mostS_take (by omega)]
      rcases Nat.lt_or_ge m n with h | h
      · have := ih (by omega) m h
        omega
      · obtain rfl : m = n := by omega
        omega
  obtain ⟨k, hk, rfl⟩ := List.getElem_of_mem hx
  have := key xs.length (Nat.le_refl _) k hk
  rw [List.take_length, List.getD_eq_getElem?_getD, List.getElem?_eq_getElem hk] at this
  exact this
theorem mostS_nonneg (xs : List Int) : 0 ≤ mostS xs := by
  have key : ∀ (n : Nat), n ≤ xs.length → 0 ≤ mostS (xs.take n) := fun n => by
    induction n with
    | zero => intro _; rw [List.take_zero, mostS_nil]; decide
    | succ n ih =>
      intro hn
      have := ih (by omega)
      rw [mostS_take (by omega)]
      omega
  have := key xs.length (Nat.le_refl _)
  rwa [List.take_length] at this

theorem most_walk (xs : List Int) (l : Nat) (hl : l ≤ 8) (h : xs.length = 16 * l) (hx : ∀ x ∈ xs, -1073741824 ≤ x ∧ x ≤ 1073741824) : walk F0 0 Try.f41 [.c (.csl 0 0 0 l l)] [.ro [.ints .i64 (16 * l) xs]] (Made fun x N => x = vi (mostS xs) ∧ N = []) := by
  conv => whnf
  refine loop_at2 (3 :: 4 :: 5 :: List.range' 6 25) (fun m (i s : Int) => 0 ≤ i ∧ i ≤ l ∧ s = mostS (xs.take (16 * i).toNat) ∧ m = (l - i).toNat) (fun i s => [(3, vi s), (4, vi i)]) (fun _ _ => [.ro [.ints .i64 (16 * l) xs]]) l 0 0 ⟨by decide, by omega, mostS_nil.symm, by omega⟩ ?_ ?_
  · exact ⟨rfl, ⟨⟨Nat.le_of_ble_eq_true rfl, rfl⟩, ⟨Nat.le_of_ble_eq_true rfl, rfl⟩, trivial⟩, ⟨rfl, trivial⟩, rfl, rfl, Nat.le_of_ble_eq_true rfl⟩
  · rintro m i s ⟨i0, i1, hs, rfl⟩
    rcases Int.lt_or_le i l with i2 | i2
    · conv => whnf
      refine ask_true (by omega) ?_
      conv => whnf
      refine loop_at2 (3 :: 5 :: List.range' 12 19) (fun m (k s : Int) => 0 ≤ k ∧ k ≤ 16 ∧ s = mostS (xs.take (16 * i + k).toNat) ∧ m = (16 - k).toNat) (fun k s => [(3, vi s), (5, vi k)]) (fun _ _ => [.ro [.ints .i64 (16 * l) xs]]) 16 0 s ⟨by decide, by decide, by rw [hs]; congr 2; omega, rfl⟩ ?_ ?_
      · exact ⟨rfl, ⟨⟨Nat.le_of_ble_eq_true rfl, rfl⟩, ⟨Nat.le_of_ble_eq_true rfl, rfl⟩, trivial⟩, ⟨rfl, trivial⟩, rfl, rfl, Nat.le_of_ble_eq_true rfl⟩
      · rintro m k s ⟨k0, k1, hs, rfl⟩
        have ek : mulN k.toNat (Try.prog.types[3]).size = k.toNat := mulN1 _
        have ei : mulN i.toNat (Try.prog.types[38]).size = 16 * i.toNat := (mulN_eq _ _).trans (by show i.toNat * 16 = _; omega)
        rcases Int.lt_or_le k 16 with k2 | k2
        · conv => whnf
          refine ask_true (by omega) ?_
          conv => whnf
          have hlt : 16 * i.toNat + k.toNat < xs.length := by rw [h]; omega
          have hidx : 0 + mulN i.toNat (Try.prog.types[38]).size + mulN k.toNat (Try.prog.types[3]).size = 16 * i.toNat + k.toNat := by rw [ei, ek, Nat.zero_add]
          have hm : xs.getD (0 + mulN i.toNat (Try.prog.types[38]).size + mulN k.toNat (Try.prog.types[3]).size) 0 ∈ xs := by
            rw [hidx, List.getD_eq_getElem?_getD, List.getElem?_eq_getElem hlt]
            exact List.getElem_mem _
          have hb := hx _ hm
          have hfin : max (max s (xs.getD (0 + mulN i.toNat (Try.prog.types[38]).size + mulN k.toNat (Try.prog.types[3]).size) 0)) ((0 : Int) - (xs.getD (0 + mulN i.toNat (Try.prog.types[38]).size + mulN k.toNat (Try.prog.types[3]).size) 0)) = mostS (xs.take (16 * i + (k + 1)).toNat) := by
            rw [Int.zero_sub, show (16 * i + (k + 1)).toNat = (16 * i.toNat + k.toNat) + 1 by omega, mostS_take hlt, hidx, hs, show (16 * i + k).toNat = 16 * i.toNat + k.toNat by omega]
          repeat' ((conv => whnf); first | (refine And.intro (by omega) ?_) | (refine fun (_ : InK _ _) => ?_) | (refine ask_wrap64 (by omega) (by omega) ?_) | (refine ⟨by kernel_rfl, ?_⟩) | fail)
          conv => whnf
          refine ⟨(16 - (k + 1)).toNat, (k + 1, _), by show (16 - (k + 1)).toNat < (16 - k).toNat; omega, ⟨by show 0 ≤ k + 1; omega, by show k + 1 ≤ 16; omega, ?_, rfl⟩, rfl, ⟨⟨Nat.le_of_ble_eq_true rfl, rfl⟩, ⟨Nat.le_of_ble_eq_true rfl, rfl⟩, trivial⟩, ⟨rfl, trivial⟩, rfl, rfl, Nat.le_of_ble_eq_true rfl⟩
          exact hfin
        · have hk : k = 16 := by omega
          subst hk
          repeat' ((conv => whnf); first | (refine ask_false (by omega) ?_) | (refine ask_wrap64 (by omega) (by omega) ?_) | fail)
          conv => whnf
          refine ⟨(l - (i + 1)).toNat, (i + 1, s), by show (l - (i + 1)).toNat < (l - i).toNat; omega, ⟨by show 0 ≤ i + 1; omega, by show i + 1 ≤ (l : Int); omega, ?_, rfl⟩, rfl, ⟨⟨Nat.le_of_ble_eq_true rfl, rfl⟩, ⟨Nat.le_of_ble_eq_true rfl, rfl⟩, trivial⟩, ⟨rfl, trivial⟩, rfl, rfl, Nat.le_of_ble_eq_true rfl⟩
          show s = mostS (xs.take (16 * (i + 1)).toNat)
          rw [hs, show (16 * i + 16).toNat = (16 * (i + 1)).toNat by omega]
    · have hi : i = l := by omega
      subst hi
      repeat' ((conv => whnf); first | (refine ask_false (by omega) ?_) | fail)
      conv => whnf
      refine made_of (vi (mostS xs)) [] id ⟨rfl, rfl⟩ ?_ trivial (fun p q hp _ _ => absurd hp (Nat.not_lt_zero p)) rfl rfl (by intro e; cases e)
      show V.w (.c (.ci .i64 s)) = vi (mostS xs)
      rw [hs, show (16 * (l : Int)).toNat = xs.length by omega, List.take_length]
def hMost : HCt := fun ws H K => match ws with
  | [.c (.csl j o i l c)] => (o = 0 ∧ i = 0 ∧ c = l ∧ l ≤ 8) ∧ hGet H j fun b => match b with
    | .own _ [.ints .i64 n xs] => (n = 16 * l ∧ ∀ x ∈ xs, -1073741824 ≤ x ∧ x ≤ 1073741824) ∧ K (vi (mostS xs)) H
    | .ro [.ints .i64 n xs] => (n = 16 * l ∧ ∀ x ∈ xs, -1073741824 ≤ x ∧ x ≤ 1073741824) ∧ K (vi (mostS xs)) H
    | _ => False
  | _ => False
theorem most_ct : HCtOk Try.prog 41 hMost := by
  intro ws H K h hr hb ho G σ base w₀ w hw
  unfold hMost at h
  split at h
  · rename_i j o i l0 l
    obtain ⟨⟨rfl, rfl, rfl, hl⟩, h⟩ := h
    obtain ⟨b, hj, h⟩ := hGet_spec h
    have hrb := ho.rng b (List.mem_of_getElem? hj)
    have main : ∀ (n : Nat) (xs : List Int), ((∃ T, H[j]? = some (.own T [.ints .i64 n xs])) ∨ H[j]? = some (.ro [.ints .i64 n xs])) → (n = 16 * l ∧ ∀ x ∈ xs, -1073741824 ≤ x ∧ x ≤ 1073741824) → xs.length = n → (∀ x ∈ xs, InK .i64 x) → K (vi (mostS xs)) H →
        Calls Try.prog 41 (([.c (.csl j 0 0 l l)] : List W).map (W.den σ)).toArray w (LeftG G σ base w₀ H.length K) := fun n xs hjj hn hlen hin hk => by
      obtain ⟨rfl, hx⟩ := hn
      refine walk_lift F0_ok Try.func41 (n := 0) (ws := [.c (.csl 0 0 0 l l)]) (R := [.ro [.ints .i64 (16 * l) xs]]) (P0 := fun x N => x = vi (mostS xs) ∧ N = []) ⟨fun b hb => ?_, fun b hb => ?_⟩ ⟨⟨Nat.le_refl _, by omega⟩, trivial⟩ rfl (most_walk xs l hl hlen hx) ?_ (fun _ => j) ?_ rfl ?_ ho G σ base w₀ w hw
      · rw [List.mem_singleton.1 hb]; exact ⟨⟨hlen, hin⟩, trivial⟩
      · rw [List.mem_singleton.1 hb]; rfl
      · rintro x N ⟨_, rfl⟩ b hb
        simp at hb
      · intro k b hk
        match k, hk with
        | 0, hk => simp at hk; subst hk; exact .inr ⟨_, rfl, hjj⟩
        | k + 1, hk => simp at hk
      · rintro x N ⟨rfl, rfl⟩
        simpa [V.ren, W.ren, C.ren] using hk
    split at h
    · exact main _ _ (.inl ⟨_, hj⟩) h.1 hrb.1.1 hrb.1.2 h.2
    · exact main _ _ (.inr hj) h.1 hrb.1.1 hrb.1.2 h.2
    · exact h.elim
  · exact h.elim

/- Chapter mdct: the law MdctSizes, walked. -/
set_option maxRecDepth 100000
set_option maxHeartbeats 32000000

theorem getD_most {xs : List Int} {M : Int} (h0 : 0 ≤ M) (h : ∀ x ∈ xs, -M ≤ x ∧ x ≤ M) (i : Nat) : -M ≤ xs.getD i 0 ∧ xs.getD i 0 ≤ M := by
  rw [List.getD_eq_getElem?_getD]
  cases hi : xs[i]? with
  | none => simp; omega
  | some v => exact h v (List.mem_of_getElem? hi)
theorem wnd_most {xs : List Int} {M : Int} (h0 : 0 ≤ M) (hM : M ≤ 1048576) (h : ∀ x ∈ xs, -M ≤ x ∧ x ≤ M) (i : Int) : -M ≤ wnd xs i ∧ wnd xs i ≤ M := by
  have h1 := getD_most h0 h i.toNat
  have h2 := sin_bound (2 * i + 1)
  have h3 := prod_bound h1.1 h1.2 h2.1 h2.2
  rw [wnd_def, shift15 (by omega)]
  omega
theorem waveS_most {xs : List Int} {M : Int} (h0 : 0 ≤ M) (hM : M ≤ 1048576) (h : ∀ x ∈ xs, -M ≤ x ∧ x ≤ M) (k : Int) : -(8 * M) ≤ waveS xs k ∧ waveS xs k ≤ 8 * M := by
  have ht : ∀ i : Int, 0 ≤ i → i < (32 : Nat) → -(M * 32768) ≤ wTerm xs k i ∧ wTerm xs k i ≤ M * 32768 := fun i _ _ => by
    have h1 := wnd_most h0 hM h i
    have h2 := kAt_bound i k
    exact prod_bound h1.1 h1.2 h2.1 h2.2
  have hs := sumN_bound (f := wTerm xs k) (b := M * 32768) (m := 32) ht 32 (by omega)
  unfold waveS
  rw [shift17 (by omega)]
  omega
theorem waveZ_most {xs : List Int} {M : Int} (h0 : 0 ≤ M) (hM : M ≤ 1048576) (h : ∀ x ∈ xs, -M ≤ x ∧ x ≤ M) {x : Int} (hx : x ∈ waveZ xs) : -(8 * M) ≤ x ∧ x ≤ 8 * M := by
  unfold waveZ at hx
  obtain ⟨k, _, rfl⟩ := List.mem_map.1 hx
  exact waveS_most h0 hM h _
theorem z16_held_at (i : Nat) : z16.getD i 0 = 0 := z16_at i
theorem back_none : backZ z16 = z32 := by
  rw [show backZ z16 = backL z16 from if_pos held_z16]
  unfold backL
  have : (fun (n : Nat) => backS z16 (n : Int)) = fun _ => 0 := by
    funext n
    unfold backS
    rw [sumN_zeros fun i => by unfold bTerm; rw [z16_at, Int.zero_mul], shift_zero15, Int.zero_mul, shift_zero16]
  rw [this]; rfl
theorem back1_none : back1 z16 = z16 := by unfold back1; rw [back_none]; rfl
theorem back2_none : back2 z16 = z16 := by unfold back2; rw [back_none]; rfl
theorem two_rows {xs ys : List Int} (h : xs.length = 16) (h' : ys.length = 16) {n : Nat} (hn : n = 32) : List.take (15 + 1) (xs ++ List.drop 16 (List.replicate n 0)) ++ ys ++ List.drop (15 + 1 + 16) (xs ++ List.drop 16 (List.replicate n 0)) = xs ++ ys := by
  subst hn
  rw [List.take_append_of_le_length (by omega), List.take_of_length_le (by omega), List.drop_of_length_le (by simp; omega), List.append_nil]
noncomputable def FQ3 : Fns := FQ2.over 41 hMost
theorem FQ3_ok : FnsOk Try.prog FQ3 := FQ2_ok.over most_ct Try.func41 (by kernel_rfl) (by kernel_rfl)

theorem law_MdctSizes (xs : List Int) (h : xs.length = 16) (hx : ∀ x ∈ xs, InK .i64 x) (ys : List Int) (h' : ys.length = 16) (hy : ∀ x ∈ ys, InK .i64 x) (w0 : World) : Calls Try.prog 9 #[.agg (xs.map (Value.int .i64)).toArray, .agg (ys.map (Value.int .i64)).toArray] w0 fun e w' => e = .returned (.bool true) ∧ Below w0.heap.size w0 w' := by
  have hd1 : (W.den (fun _ => (0, 0)) (ar 16 xs)) = Value.agg (xs.map (Value.int .i64)).toArray := by simp [W.den, dens, Seg.den]
  have hd2 : (W.den (fun _ => (0, 0)) (ar 16 ys)) = Value.agg (ys.map (Value.int .i64)).toArray := by simp [W.den, dens, Seg.den]
  have hd : ([ar 16 xs, ar 16 ys].map (W.den fun _ => (0, 0))).toArray = #[Value.agg (xs.map (Value.int .i64)).toArray, Value.agg (ys.map (Value.int .i64)).toArray] := by rw [← hd1, ← hd2]; rfl
  have := walk1_true FQ3_ok Try.func9 (ws := [ar 16 xs, ar 16 ys]) ⟨ar_rng h hx, ar_rng h' hy, trivial⟩ rfl (n := 0) ?_ w0
  · rw [hd] at this; exact this
  have s1 := small_held xs
  have s2 := small_held ys
  have hxy : ∀ x ∈ smallZ xs ++ smallZ ys, -(mostS (smallZ xs ++ smallZ ys)) ≤ x ∧ x ≤ mostS (smallZ xs ++ smallZ ys) := fun x hx => by
    have := mostS_ge hx
    omega
  have m0 := mostS_nonneg (smallZ xs ++ smallZ ys)
  have m1 : mostS (smallZ xs ++ smallZ ys) ≤ 65536 := mostS_le (by decide) _ fun x hx => by
    rcases List.mem_append.1 hx with h | h
    · exact smallZ_in h
    · exact smallZ_in h
  have ew : wavesZ (smallZ xs) (smallZ ys) = waveZ (smallZ xs ++ smallZ ys) := if_pos ⟨s1, s2⟩
  have wb : ∀ x ∈ wavesZ (smallZ xs) (smallZ ys), -(8 * mostS (smallZ xs ++ smallZ ys)) ≤ x ∧ x ≤ 8 * mostS (smallZ xs ++ smallZ ys) := fun x hx => by
    rw [ew] at hx
    exact waveZ_most m0 (by omega) hxy hx
  have hw : held (wavesZ (smallZ xs) (smallZ ys)) := by
    rw [held_def]
    intro x hx
    have := wb x hx
    omega
  have mw : mostS (wavesZ (smallZ xs) (smallZ ys)) ≤ 8 * mostS (smallZ xs ++ smallZ ys) := mostS_le (by omega) _ wb
  repeat' ((conv => whnf); first | (refine And.intro ⟨by omega, by omega⟩ ?_) | (refine And.intro trivial ?_) | (refine And.intro (by omega) ?_) | (refine ask_true s1 ?_) | (refine ask_true hw ?_) | (refine ask_same back1_none ?_) | (refine ask_same back2_none ?_) | (refine ⟨by kernel_rfl, ?_⟩) | fail)
  conv => whnf
  refine ⟨[7], vi (mostS (wavesZ (smallZ xs) (smallZ ys))), rfl, ?_, ?_, ?_⟩
  · conv => whnf
    refine And.intro ⟨rfl, rfl, rfl, by decide⟩ ?_
    conv => whnf
    exact And.intro ⟨by kernel_rfl, fun x hx => by have := wb x hx; omega⟩ rfl
  · show InK .i64 _
    have := mostS_nonneg (wavesZ (smallZ xs) (smallZ ys))
    simp only [InK, lowK, highK]; omega
  · repeat' ((conv => whnf); first | (refine And.intro rfl ?_) | (refine And.intro (by omega) ?_) | fail)
    conv => whnf
    have es : 2 * (Try.prog.types[38]).size = 32 := by kernel_rfl
    have e2 := two_rows (smallZ_len h) (smallZ_len h') es
    refine ⟨[8], vi (mostS (smallZ xs ++ smallZ ys)), rfl, ?_, ?_, ?_⟩
    · conv => whnf
      refine And.intro ⟨rfl, rfl, rfl, by decide⟩ ?_
      conv => whnf
      rw [e2]
      refine And.intro ⟨by kernel_rfl, fun x hx => ?_⟩ rfl
      have := hxy x hx
      omega
    · show InK .i64 _
      simp only [InK, lowK, highK]; omega
    · repeat' ((conv => whnf); first | (refine And.intro rfl ?_) | (refine And.intro (by omega) ?_) | (refine ask_wrap64 (by omega) (by omega) ?_) | (refine ask_true (by omega) ?_) | (refine ⟨by kernel_rfl, ?_⟩) | rfl | fail)
end Go.Proofs.Ytbgjmlncdlcglaa
