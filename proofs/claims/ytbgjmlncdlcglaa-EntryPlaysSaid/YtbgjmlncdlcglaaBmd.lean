/- Chapter mdct: contracts, and the document's own functions. -/
import Derived.Test.YtbgjmlncdlcglaaBmc
set_option linter.all false
namespace Go.Proofs.Ytbgjmlncdlcglaa
open Go.RowKit (Below)
set_option maxRecDepth 100000
set_option maxHeartbeats 32000000

/-! ### contracts -/
def ctAA (p : List Int → List Int → Prop) (f : List Int → List Int → List Int) : Ct := fun ws K => match ws with
  | [.agg [.ints .i64 n xs], .agg [.ints .i64 m ys]] => (n = 16 ∧ m = 16) ∧ p xs ys ∧ K (.w (ar 16 (f xs ys)))
  | _ => False
theorem ctAA_ok {F : Fns} (hF : FnsOk Try.prog F) {n : Nat} {f : FuncId} {fn : Func} (hf : Try.prog.funcs[f]? = some fn) {p : List Int → List Int → Prop} {g : List Int → List Int → List Int}
    (hg : ∀ xs ys : List Int, xs.length = 16 → ys.length = 16 → p xs ys → (g xs ys).length = 16 ∧ ∀ x ∈ g xs ys, InK .i64 x)
    (h : ∀ xs ys : List Int, xs.length = 16 → ys.length = 16 → (∀ x ∈ xs, InK .i64 x) → (∀ x ∈ ys, InK .i64 x) → p xs ys → walk F n fn [ar 16 xs, ar 16 ys] [] fun y _ => y = .w (ar 16 (g xs ys))) : CtOk Try.prog f (ctAA p g) := by
  intro ws K h' hr
  unfold ctAA at h'
  split at h'
  · rename_i n xs m ys
    obtain ⟨⟨rfl, rfl⟩, hp, h'⟩ := h'
    obtain ⟨⟨⟨h1, h2⟩, _⟩, ⟨⟨h3, h4⟩, _⟩, _⟩ := hr
    have := hg xs ys h1 h3 hp
    exact ⟨_, h', ⟨ar_rng this.1 this.2, rfl⟩, walk_calls hF hf rfl ⟨ar_rng h1 h2, ar_rng h3 h4, trivial⟩ rfl (h xs ys h1 h3 h2 h4 hp)⟩
  · exact h'.elim
def ctAD (f g : List Int → List Int) : Ct := fun ws K => match ws with
  | [.agg [.ints .i64 n xs]] => n = 16 ∧ K (.tup [ar 16 (f xs), ar 16 (g xs)])
  | _ => False
theorem ctAD_ok {F : Fns} (hF : FnsOk Try.prog F) {n : Nat} {f : FuncId} {fn : Func} (hf : Try.prog.funcs[f]? = some fn) {g k : List Int → List Int} (hg : ∀ xs : List Int, xs.length = 16 → (∀ x ∈ xs, InK .i64 x) → ((g xs).length = 16 ∧ ∀ x ∈ g xs, InK .i64 x) ∧ ((k xs).length = 16 ∧ ∀ x ∈ k xs, InK .i64 x))
    (h : ∀ xs : List Int, xs.length = 16 → (∀ x ∈ xs, InK .i64 x) → walk F n fn [ar 16 xs] [] fun y _ => y = .tup [ar 16 (g xs), ar 16 (k xs)]) : CtOk Try.prog f (ctAD g k) := by
  intro ws K h' hr
  unfold ctAD at h'
  split at h'
  · rename_i n xs
    obtain ⟨rfl, h'⟩ := h'
    obtain ⟨⟨⟨h1, h2⟩, _⟩, _⟩ := hr
    have := hg xs h1 h2
    exact ⟨_, h', ⟨⟨ar_rng this.1.1 this.1.2, ar_rng this.2.1 this.2.2, trivial⟩, rfl⟩, walk_calls hF hf rfl ⟨ar_rng h1 h2, trivial⟩ rfl (h xs h1 h2)⟩
  · exact h'.elim
def ctA32 (p : List Int → Prop) (f : List Int → List Int) : Ct := fun ws K => match ws with
  | [.agg [.ints .i64 n xs]] => n = 16 ∧ p xs ∧ K (.w (ar 32 (f xs)))
  | _ => False
theorem ctA32_ok {F : Fns} (hF : FnsOk Try.prog F) {n : Nat} {f : FuncId} {fn : Func} (hf : Try.prog.funcs[f]? = some fn) {p : List Int → Prop} {g : List Int → List Int} (hg : ∀ xs : List Int, xs.length = 16 → p xs → (g xs).length = 32 ∧ ∀ x ∈ g xs, InK .i64 x)
    (h : ∀ xs : List Int, xs.length = 16 → (∀ x ∈ xs, InK .i64 x) → p xs → walk F n fn [ar 16 xs] [] fun y _ => y = .w (ar 32 (g xs))) : CtOk Try.prog f (ctA32 p g) := by
  intro ws K h' hr
  unfold ctA32 at h'
  split at h'
  · rename_i n xs
    obtain ⟨rfl, hp, h'⟩ := h'
    obtain ⟨⟨⟨h1, h2⟩, _⟩, _⟩ := hr
    have := hg xs h1 hp
    exact ⟨_, h', ⟨⟨⟨this.1, this.2⟩, trivial⟩, rfl⟩, walk_calls hF hf rfl ⟨ar_rng h1 h2, trivial⟩ rfl (h xs h1 h2 hp)⟩
  · exact h'.elim

theorem sum32_bound {zs : List Int} (h : held zs) (k : Int) : -1099511627776 ≤ sumN (wTerm zs k) 32 ∧ sumN (wTerm zs k) 32 ≤ 1099511627776 := by
  have := sumN_bound (f := wTerm zs k) (b := 34359738368) (m := 32) (fun i _ _ => wTerm_bound h k i) 32 (by omega)
  omega
theorem waveS_bound {zs : List Int} (h : held zs) (k : Int) : -8388608 ≤ waveS zs k ∧ waveS zs k ≤ 8388608 := by
  have := sum32_bound h k
  unfold waveS
  rw [shift17 this]
  omega
theorem waveZ_len (zs : List Int) : (waveZ zs).length = 16 := by simp [waveZ]
theorem waveZ_bound {zs : List Int} (h : held zs) {x : Int} (hx : x ∈ waveZ zs) : -8388608 ≤ x ∧ x ≤ 8388608 := by
  unfold waveZ at hx
  obtain ⟨k, _, rfl⟩ := List.mem_map.1 hx
  exact waveS_bound h _
theorem wavesZ_bound (xs ys : List Int) {x : Int} (hx : x ∈ wavesZ xs ys) : -8388608 ≤ x ∧ x ≤ 8388608 := by
  unfold wavesZ at hx
  split at hx
  · rename_i hh
    exact waveZ_bound (held_append hh.1 hh.2) hx
  · simp only [z16, List.mem_cons, List.not_mem_nil, or_false, or_self] at hx
    omega
theorem wavesZ_len (xs ys : List Int) : (wavesZ xs ys).length = 16 := by unfold wavesZ; split; exact waveZ_len _; rfl
theorem waves_ct : CtOk Try.prog 32 (ctAA (fun _ _ => True) wavesZ) := ctAA_ok FM_ok Try.func32 (fun xs ys _ _ _ => ⟨wavesZ_len xs ys, fun x hx => by
  have := wavesZ_bound xs ys hx
  simp only [InK, lowK, highK]; omega⟩) fun xs ys h1 h2 h3 h4 _ => waves_walk xs ys h1 h2 h3 h4
theorem backS_bound {w : List Int} (h : held w) (n : Int) : -8388608 ≤ backS w n ∧ backS w n ≤ 8388608 := by
  have b1 := sum16_bound h n
  have b2 := shift15 (x := sumN (bTerm w n) 16) (by omega)
  have b3 := sin_bound (2 * n + 1)
  have b4 := prod_bound (a := shiftS (sumN (bTerm w n) 16) 15) (b := sinS (2 * n + 1)) (m := 16777216) (n := 32768) (by omega) (by omega) b3.1 b3.2
  unfold backS
  rw [shift16 (by omega)]
  omega
theorem backL_bound {w : List Int} (h : held w) {x : Int} (hx : x ∈ backL w) : -8388608 ≤ x ∧ x ≤ 8388608 := by
  unfold backL at hx
  obtain ⟨k, _, rfl⟩ := List.mem_map.1 hx
  exact backS_bound h _
theorem backZ_bound (w : List Int) {x : Int} (hx : x ∈ backZ w) : -8388608 ≤ x ∧ x ≤ 8388608 := by
  unfold backZ at hx
  split at hx
  · rename_i hh
    exact backL_bound hh hx
  · simp only [z32, List.mem_cons, List.not_mem_nil, or_false, or_self] at hx
    omega
theorem small_k {x : Int} (h : -8388608 ≤ x ∧ x ≤ 8388608) : InK .i64 x := by simp only [InK, lowK, highK]; omega
theorem back1_len (w : List Int) : (back1 w).length = 16 := by unfold back1; rw [List.length_take, backZ_len]; rfl
theorem back2_len (w : List Int) : (back2 w).length = 16 := by unfold back2; rw [List.length_drop, backZ_len]
theorem back_ct : CtOk Try.prog 39 (ctAD back1 back2) := ctAD_ok FM_ok Try.func39 (fun xs _ _ => ⟨⟨back1_len xs, fun x hx => small_k (backZ_bound xs (List.mem_of_mem_take hx))⟩, back2_len xs, fun x hx => small_k (backZ_bound xs (List.mem_of_mem_drop hx))⟩) fun xs h1 h2 => back_walk xs h1 h2
theorem overZ_in (xs ys : List Int) {x : Int} (hx : x ∈ overZ xs ys) : -2147483648 ≤ x ∧ x ≤ 2147483647 := by
  unfold overZ at hx
  obtain ⟨k, _, rfl⟩ := List.mem_map.1 hx
  exact cut32_bound _
theorem over_ct : CtOk Try.prog 42 (ctAA (fun _ _ => True) overZ) := ctAA_ok FCut_ok Try.func42 (fun xs ys _ _ _ => ⟨overZ_len xs ys, fun x hx => by
  have := overZ_in xs ys hx
  simp only [InK, lowK, highK]; omega⟩) fun xs ys h1 h2 h3 h4 _ => over_walk xs ys h1 h2 h3 h4

/-! ### the document's -/
abbrev oa (xs : List Int) : Blk := .own 37 [.ints .i64 16 xs]
noncomputable def FT1 : Fns := F0.plus 98 (ct1 (fun _ => True) cosS)
theorem FT1_ok : FnsOk Try.prog FT1 := F0_ok.plus refCos_ct Try.func98 (by kernel_rfl) (by kernel_rfl)
theorem refTable_walk : walk FT1 0 Try.f84 [] [] fun y _ => y = .w (ar 128 tabZ) := by
  conv => whnf
  refine loop_at (2 :: List.range' 3 8) (fun m (i : Int) => 0 ≤ i ∧ i ≤ 128 ∧ m = (128 - i).toNat) (fun i => [(2, vi i)]) (fun i => [o128 z128, o128 (stg tabZ z128 i)]) 128 0 ⟨by decide, by decide, rfl⟩ ?_ ?_
  · exact ⟨rfl, ⟨⟨Nat.le_of_ble_eq_true rfl, rfl⟩, trivial⟩, ⟨rfl, by rw [stg_zero]; rfl, trivial⟩, rfl, rfl, Nat.zero_le _⟩
  · rintro m i ⟨h0, h1, rfl⟩
    have em : mulN i.toNat (Try.prog.types[3]).size = i.toNat := mulN1 i.toNat
    rcases Int.lt_or_le i 128 with h2 | h2
    · repeat' ((conv => whnf); first | (refine ask_true (by omega) ?_) | (refine ask_wrap64 (by omega) (by omega) ?_) | (refine And.intro trivial ?_) | (refine And.intro (by omega) ?_) | fail)
      conv => whnf
      refine ⟨(128 - (i + 1)).toNat, i + 1, by omega, ⟨by omega, by omega, rfl⟩, rfl, ⟨⟨Nat.le_of_ble_eq_true rfl, rfl⟩, trivial⟩, ⟨rfl, ?_, trivial⟩, rfl, rfl, Nat.zero_le _⟩
      refine congrArg o128 (stg_set em (by rw [tabZ_len]; rfl) h0 (by rw [tabZ_len]; omega) ?_).symm
      unfold tabZ
      rw [getD_range (by omega), Int.toNat_of_nonneg h0]
    · have hi : i = 128 := by omega
      subst hi
      rw [stg_all (by rw [tabZ_len]; rfl) (by rw [tabZ_len]; rfl)]
      repeat' ((conv => whnf); first | (refine ask_false (by omega) ?_) | rfl | fail)
theorem refTable_ct : CtOk Try.prog 84 (ct0 (.w (ar 128 tabZ))) := ct0_ok FT1_ok Try.func84 ⟨⟨⟨tabZ_len, fun x hx => by
  obtain ⟨i, _, rfl⟩ := List.mem_map.1 hx
  exact cosS_in _⟩, trivial⟩, rfl⟩ refTable_walk
theorem refHeld_walk (xs : List Int) (h : xs.length = 16) (hx : ∀ x ∈ xs, InK .i64 x) : walk F0 0 Try.f44 [ar 16 xs] [] fun y _ => y = vb (decide (held xs)) := by
  conv => whnf
  refine loop_at (2 :: 3 :: List.range' 4 14) (fun m (i : Int) => 0 ≤ i ∧ i ≤ 16 ∧ m = (16 - i).toNat ∧ ∀ k : Nat, (k : Int) < i → -1048576 ≤ xs.getD k 0 ∧ xs.getD k 0 ≤ 1048576) (fun i => [(3, vi i)]) (fun _ => [oa xs]) 16 0 ⟨by decide, by decide, rfl, fun k hk => by omega⟩ ?_ ?_
  · exact ⟨rfl, ⟨⟨Nat.le_of_ble_eq_true rfl, rfl⟩, trivial⟩, ⟨rfl, trivial⟩, rfl, rfl, Nat.zero_le _⟩
  · rintro m i ⟨h0, h1, rfl, h3⟩
    have em : mulN i.toNat (Try.prog.types[3]).size = i.toNat := mulN1 i.toNat
    have not : ∀ v : Int, v = xs.getD (mulN i.toNat (Try.prog.types[3]).size) 0 → i < 16 → (v < -1048576 ∨ 1048576 < v) → decide (held xs) = false := fun v hv hi hb => by
      refine decide_eq_false fun hh => ?_
      have := held_at hh i.toNat
      rw [hv, em] at hb
      omega
    rcases Int.lt_or_le i 16 with h2 | h2
    · repeat' ((conv => whnf); first | (refine ask_true (by omega) ?_) | (refine And.intro (by omega) ?_) | (refine fun (_ : InK _ _) => ?_) | fail)
      refine ask_split (fun hb => ?_) (fun hb => ?_)
      · rw [not _ rfl h2 (.inl hb)]
        repeat' ((conv => whnf); first | rfl | fail)
      · repeat' ((conv => whnf); first | (refine And.intro (by omega) ?_) | (refine fun (_ : InK _ _) => ?_) | fail)
        refine ask_split (fun hb2 => ?_) (fun hb2 => ?_)
        · rw [not _ rfl h2 (.inr hb2)]
          repeat' ((conv => whnf); first | rfl | fail)
        · repeat' ((conv => whnf); first | (refine ask_wrap64 (by omega) (by omega) ?_) | fail)
          conv => whnf
          refine ⟨(16 - (i + 1)).toNat, i + 1, by omega, ⟨by omega, by omega, rfl, fun k hk => ?_⟩, rfl, ⟨⟨Nat.le_of_ble_eq_true rfl, rfl⟩, trivial⟩, ⟨rfl, trivial⟩, rfl, rfl, Nat.zero_le _⟩
          rcases Int.lt_or_le k i with hk2 | hk2
          · exact h3 k hk2
          · obtain rfl : k = i.toNat := by omega
            rw [em] at hb hb2
            omega
    · have hh : held xs := by
        rw [held_def]
        intro x hxm
        obtain ⟨k, hk, rfl⟩ := List.getElem_of_mem hxm
        have := h3 k (by omega)
        rw [List.getD_eq_getElem?_getD, List.getElem?_eq_getElem hk] at this
        exact this
      rw [decide_eq_true hh]
      repeat' ((conv => whnf); first | (refine ask_false (by omega) ?_) | rfl | fail)
theorem refHeld_ct : CtOk Try.prog 44 ctHeld := ctHeld_ok F0_ok Try.func44 refHeld_walk
noncomputable def FRm : Fns := ((F0.plus 85 (ct2 (fun x n => -1099511627776 ≤ x ∧ x ≤ 1099511627776 ∧ 1 ≤ n ∧ n ≤ 40) shiftS)).plus 86 (ct1 (fun _ => True) sinS)).plus 84 (ct0 (.w (ar 128 tabZ)))
theorem FRm_ok : FnsOk Try.prog FRm := ((F0_ok.plus refShift_ct Try.func85 (by kernel_rfl) (by kernel_rfl)).plus refSin_ct Try.func86 (by kernel_rfl) (by kernel_rfl)).plus refTable_ct Try.func84 (by kernel_rfl) (by kernel_rfl)
theorem kAt_mod' {n k r : Int} (h : r = ((2 * n + 17) * (2 * k + 1)).tmod 128) (hp : 0 ≤ (2 * n + 17) * (2 * k + 1)) : cosS r = kAt n k := by
  rw [kAt_def, cosS_mod ((2 * n + 17) * (2 * k + 1)), h, Int.tmod_eq_emod_of_nonneg hp]

theorem refWaves_walk (xs ys : List Int) (h : xs.length = 16) (h' : ys.length = 16) (hx : ∀ x ∈ xs, InK .i64 x) (hy : ∀ x ∈ ys, InK .i64 x) (hh : held xs ∧ held ys) : walk FRm 0 Try.f45 [ar 16 xs, ar 16 ys] [] fun y _ => y = .w (ar 16 (wavesZ xs ys)) := by
  have hz := held_append hh.1 hh.2
  rw [show wavesZ xs ys = waveZ (xs ++ ys) from if_pos hh]
  conv => whnf
  refine loop_at (7 :: 8 :: 9 :: 10 :: List.range' 12 42) (fun m (k : Int) => 0 ≤ k ∧ k ≤ 16 ∧ m = (16 - k).toNat) (fun k => [(7, vi k)]) (fun k => [oa xs, oa ys, oa z16, o128 tabZ, oa (stg (waveZ (xs ++ ys)) z16 k)]) 16 0 ⟨by decide, by decide, rfl⟩ ?_ ?_
  · exact ⟨rfl, ⟨⟨Nat.le_of_ble_eq_true rfl, rfl⟩, trivial⟩, ⟨rfl, rfl, rfl, rfl, by rw [stg_zero]; rfl, trivial⟩, rfl, rfl, Nat.zero_le _⟩
  · rintro m k ⟨k0, k1, rfl⟩
    have ek : mulN k.toNat (Try.prog.types[3]).size = k.toNat := mulN1 _
    rcases Int.lt_or_le k 16 with k2 | k2
    · conv => whnf
      refine ask_true (by omega) ?_
      conv => whnf
      refine loop_at2 (8 :: 9 :: 10 :: List.range' 16 34) (fun m (i s : Int) => 0 ≤ i ∧ i ≤ 32 ∧ s = sumN (wTerm (xs ++ ys) k) i.toNat ∧ m = (32 - i).toNat) (fun i s => [(8, vi s), (9, vi i)]) (fun _ _ => [oa xs, oa ys, oa z16, o128 tabZ, oa (stg (waveZ (xs ++ ys)) z16 k)]) 32 0 0 ⟨by decide, by decide, (sumN_zero _).symm, rfl⟩ ?_ ?_
      · exact ⟨rfl, ⟨⟨Nat.le_of_ble_eq_true rfl, rfl⟩, ⟨Nat.le_of_ble_eq_true rfl, rfl⟩, trivial⟩, ⟨rfl, rfl, rfl, rfl, rfl, trivial⟩, rfl, rfl, Nat.zero_le _⟩
      · rintro m i s ⟨i0, i1, hs, rfl⟩
        have ei : mulN i.toNat (Try.prog.types[3]).size = i.toNat := mulN1 _
        have ei' : mulN (i - 16).toNat (Try.prog.types[3]).size = (i - 16).toNat := mulN1 _
        have q4 := mul_bound (a := 2 * i + 17) (b := 2 * k + 1) (m := 81) (n := 31)
        have q6 := wTerm_bound hz k i
        have q7 := sumN_bound (f := wTerm (xs ++ ys) k) (b := 34359738368) (m := 32) (fun i _ _ => wTerm_bound hz k i) i.toNat (by omega)
        rw [← hs] at q7
        have step : ∀ X : Int, X = (xs ++ ys).getD i.toNat 0 → (-(1048576 * 32768) ≤ X * sinS (2 * i + 1) ∧ X * sinS (2 * i + 1) ≤ 1048576 * 32768) ∧ shiftS (X * sinS (2 * i + 1)) 15 = wnd (xs ++ ys) i := fun X hX => by
          have q1 := held_at hz i.toNat
          rw [← hX] at q1
          have q2 := sin_bound (2 * i + 1)
          exact ⟨prod_bound q1.1 q1.2 q2.1 q2.2, by rw [hX, wnd_def]⟩
        have q9 : ∀ r : Int, r = ((2 * i + 17) * (2 * k + 1)).tmod 128 → i < 32 → (0 ≤ r ∧ r < 128) ∧ tabZ.getD (mulN r.toNat (Try.prog.types[3]).size) 0 = kAt i k := fun r hr hi => by
          have q4 := q4 (by omega) (by omega) (by omega) (by omega)
          have r0 : 0 ≤ r ∧ r < 128 := by rw [hr, Int.tmod_eq_emod_of_nonneg (by omega)]; omega
          exact ⟨r0, (tab_at (mulN1 _) r0.1 r0.2).trans (kAt_mod' hr q4.1)⟩
        rcases Int.lt_or_le i 32 with i2 | i2
        · have q4 := q4 (by omega) (by omega) (by omega) (by omega)
          rcases Int.lt_or_le i 16 with i3 | i3
          · have hX : xs.getD (mulN i.toNat (Try.prog.types[3]).size) 0 = (xs ++ ys).getD i.toNat 0 := by rw [ei, getD_append' (by omega)]
            have st := step _ hX
            repeat' ((conv => whnf); first | (refine ask_true (by omega) ?_) | (refine ask_false (by omega) ?_) | (refine And.intro trivial ?_) | (refine And.intro (by omega) ?_) | (refine fun (_ : InK _ _) => ?_) | (refine ask_wrap64 (by omega) (by omega) ?_) | (refine And.intro ⟨by omega, by omega, by omega, by omega⟩ ?_) | fail)
            conv => whnf
            rw [st.2]
            intro r hr
            have q := q9 r hr i2
            have er : mulN r.toNat (Try.prog.types[3]).size = r.toNat := mulN1 _
            have q8 : wnd (xs ++ ys) i * tabZ.getD (mulN r.toNat (Try.prog.types[3]).size) 0 = wTerm (xs ++ ys) k i := by rw [q.2]; rfl
            rw [← q8] at q6
            repeat' ((conv => whnf); first | (refine ask_wrap64 (by omega) (by omega) ?_) | (refine And.intro q.1 ?_) | (refine And.intro (by omega) ?_) | (refine fun (_ : InK _ _) => ?_) | fail)
            conv => whnf
            refine ⟨(32 - (i + 1)).toNat, (i + 1, _), by show (32 - (i + 1)).toNat < (32 - i).toNat; omega, ⟨by show 0 ≤ i + 1; omega, by show i + 1 ≤ 32; omega, ?_, rfl⟩, rfl, ⟨⟨Nat.le_of_ble_eq_true rfl, rfl⟩, ⟨Nat.le_of_ble_eq_true rfl, rfl⟩, trivial⟩, ⟨rfl, rfl, rfl, rfl, rfl, trivial⟩, rfl, rfl, Nat.zero_le _⟩
            show s + _ = sumN (wTerm (xs ++ ys) k) (i + 1).toNat
            rw [sumN_int _ i0, ← hs, q8]
          · have hX : ys.getD (mulN (i - 16).toNat (Try.prog.types[3]).size) 0 = (xs ++ ys).getD i.toNat 0 := by
              rw [ei', List.getD_eq_getElem?_getD, List.getD_eq_getElem?_getD, List.getElem?_append_right (by omega), show i.toNat - xs.length = (i - 16).toNat by omega]
            have st := step _ hX
            repeat' ((conv => whnf); first | (refine ask_true (by omega) ?_) | (refine ask_false (by omega) ?_) | (refine And.intro trivial ?_) | (refine And.intro (by omega) ?_) | (refine fun (_ : InK _ _) => ?_) | (refine ask_wrap64 (by omega) (by omega) ?_) | (refine And.intro ⟨by omega, by omega, by omega, by omega⟩ ?_) | fail)
            conv => whnf
            rw [st.2]
            intro r hr
            have q := q9 r hr i2
            have er : mulN r.toNat (Try.prog.types[3]).size = r.toNat := mulN1 _
            have q8 : wnd (xs ++ ys) i * tabZ.getD (mulN r.toNat (Try.prog.types[3]).size) 0 = wTerm (xs ++ ys) k i := by rw [q.2]; rfl
            rw [← q8] at q6
            repeat' ((conv => whnf); first | (refine ask_wrap64 (by omega) (by omega) ?_) | (refine And.intro q.1 ?_) | (refine And.intro (by omega) ?_) | (refine fun (_ : InK _ _) => ?_) | fail)
            conv => whnf
            refine ⟨(32 - (i + 1)).toNat, (i + 1, _), by show (32 - (i + 1)).toNat < (32 - i).toNat; omega, ⟨by show 0 ≤ i + 1; omega, by show i + 1 ≤ 32; omega, ?_, rfl⟩, rfl, ⟨⟨Nat.le_of_ble_eq_true rfl, rfl⟩, ⟨Nat.le_of_ble_eq_true rfl, rfl⟩, trivial⟩, ⟨rfl, rfl, rfl, rfl, rfl, trivial⟩, rfl, rfl, Nat.zero_le _⟩
            show s + _ = sumN (wTerm (xs ++ ys) k) (i + 1).toNat
            rw [sumN_int _ i0, ← hs, q8]
        · have hi : i = 32 := by omega
          subst hi
          have hs' : s = sumN (wTerm (xs ++ ys) k) 32 := hs
          have b1 := sum32_bound hz k
          rw [← hs'] at b1
          repeat' ((conv => whnf); first | (refine ask_false (by omega) ?_) | (refine And.intro (by omega) ?_) | (refine ask_wrap64 (by omega) (by omega) ?_) | (refine And.intro ⟨by omega, by omega, by omega, by omega⟩ ?_) | (refine ⟨by kernel_rfl, ?_⟩) | fail)
          conv => whnf
          refine ⟨(16 - (k + 1)).toNat, k + 1, by omega, ⟨by omega, by omega, rfl⟩, rfl, ⟨⟨Nat.le_of_ble_eq_true rfl, rfl⟩, trivial⟩, ⟨rfl, rfl, rfl, rfl, ?_, trivial⟩, rfl, rfl, Nat.zero_le _⟩
          refine congrArg oa (stg_set ek (by rw [waveZ_len]; rfl) k0 (by rw [waveZ_len]; omega) ?_).symm
          unfold waveZ
          rw [getD_range (by omega), Int.toNat_of_nonneg k0, hs']
          rfl
    · have hk : k = 16 := by omega
      subst hk
      rw [stg_all (by rw [waveZ_len]; rfl) (by rw [waveZ_len]; rfl)]
      repeat' ((conv => whnf); first | (refine ask_false (by omega) ?_) | rfl | fail)
theorem refWaves_ct : CtOk Try.prog 45 (ctAA (fun xs ys => held xs ∧ held ys) wavesZ) := ctAA_ok FRm_ok Try.func45 (fun xs ys _ _ _ => ⟨wavesZ_len xs ys, fun x hx => by
  have := wavesZ_bound xs ys hx
  simp only [InK, lowK, highK]; omega⟩) fun xs ys h1 h2 h3 h4 h => refWaves_walk xs ys h1 h2 h3 h4 h

theorem refBack_walk (w : List Int) (h : w.length = 16) (hx : ∀ x ∈ w, InK .i64 x) (hh : held w) : walk FRm 0 Try.f46 [ar 16 w] [] fun y _ => y = .w (ar 32 (backZ w)) := by
  rw [show backZ w = backL w from if_pos hh]
  conv => whnf
  refine loop_at (5 :: 6 :: 7 :: List.range' 9 34) (fun m (n : Int) => 0 ≤ n ∧ n ≤ 32 ∧ m = (32 - n).toNat) (fun n => [(5, vi n)]) (fun n => [oa w, o32 z32, o128 tabZ, o32 (stg (backL w) z32 n)]) 32 0 ⟨by decide, by decide, rfl⟩ ?_ ?_
  · exact ⟨rfl, ⟨⟨Nat.le_of_ble_eq_true rfl, rfl⟩, trivial⟩, ⟨rfl, rfl, rfl, by rw [stg_zero]; rfl, trivial⟩, rfl, rfl, Nat.zero_le _⟩
  · rintro m n ⟨n0, n1, rfl⟩
    have en : mulN n.toNat (Try.prog.types[3]).size = n.toNat := mulN1 _
    rcases Int.lt_or_le n 32 with n2 | n2
    · conv => whnf
      refine ask_true (by omega) ?_
      conv => whnf
      refine loop_at2 (6 :: 7 :: List.range' 13 20) (fun m (k s : Int) => 0 ≤ k ∧ k ≤ 16 ∧ s = sumN (bTerm w n) k.toNat ∧ m = (16 - k).toNat) (fun k s => [(6, vi s), (7, vi k)]) (fun _ _ => [oa w, o32 z32, o128 tabZ, o32 (stg (backL w) z32 n)]) 16 0 0 ⟨by decide, by decide, (sumN_zero _).symm, rfl⟩ ?_ ?_
      · exact ⟨rfl, ⟨⟨Nat.le_of_ble_eq_true rfl, rfl⟩, ⟨Nat.le_of_ble_eq_true rfl, rfl⟩, trivial⟩, ⟨rfl, rfl, rfl, rfl, trivial⟩, rfl, rfl, Nat.zero_le _⟩
      · rintro m k s ⟨k0, k1, hs, rfl⟩
        have ek : mulN k.toNat (Try.prog.types[3]).size = k.toNat := mulN1 _
        rcases Int.lt_or_le k 16 with k2 | k2
        · have q1 := held_at hh (mulN k.toNat (Try.prog.types[3]).size)
          have q4 := mul_bound (a := 2 * n + 17) (b := 2 * k + 1) (m := 81) (n := 31) (by omega) (by omega) (by omega) (by omega)
          have q6 := bTerm_bound hh n k
          have q7 := sumN_bound (f := bTerm w n) (b := 34359738368) (m := 16) (fun i _ _ => bTerm_bound hh n i) k.toNat (by omega)
          rw [← hs] at q7
          repeat' ((conv => whnf); first | (refine ask_true (by omega) ?_) | (refine And.intro (by omega) ?_) | (refine fun (_ : InK _ _) => ?_) | (refine ask_wrap64 (by omega) (by omega) ?_) | fail)
          conv => whnf
          intro r hr
          have r0 : 0 ≤ r ∧ r < 128 := by rw [hr, Int.tmod_eq_emod_of_nonneg (by omega)]; omega
          have er : mulN r.toNat (Try.prog.types[3]).size = r.toNat := mulN1 _
          have q9 : tabZ.getD (mulN r.toNat (Try.prog.types[3]).size) 0 = kAt n k := (tab_at (mulN1 _) r0.1 r0.2).trans (kAt_mod' hr q4.1)
          have q8 : w.getD (mulN k.toNat (Try.prog.types[3]).size) 0 * tabZ.getD (mulN r.toNat (Try.prog.types[3]).size) 0 = bTerm w n k := by rw [q9, ek]; rfl
          rw [← q8] at q6
          repeat' ((conv => whnf); first | (refine ask_wrap64 (by omega) (by omega) ?_) | (refine And.intro r0 ?_) | (refine And.intro (by omega) ?_) | (refine fun (_ : InK _ _) => ?_) | (refine ⟨by kernel_rfl, ?_⟩) | fail)
          conv => whnf
          refine ⟨(16 - (k + 1)).toNat, (k + 1, _), by show (16 - (k + 1)).toNat < (16 - k).toNat; omega, ⟨by show 0 ≤ k + 1; omega, by show k + 1 ≤ 16; omega, ?_, rfl⟩, rfl, ⟨⟨Nat.le_of_ble_eq_true rfl, rfl⟩, ⟨Nat.le_of_ble_eq_true rfl, rfl⟩, trivial⟩, ⟨rfl, rfl, rfl, rfl, trivial⟩, rfl, rfl, Nat.zero_le _⟩
          show s + _ = sumN (bTerm w n) (k + 1).toNat
          rw [sumN_int _ k0, ← hs, q8]
        · have hk : k = 16 := by omega
          subst hk
          have hs' : s = sumN (bTerm w n) 16 := hs
          have b1 := sum16_bound hh n
          rw [← hs'] at b1
          have b2 := shift15 (x := s) (by omega)
          have b3 := sin_bound (2 * n + 1)
          have b4 := prod_bound (a := shiftS s 15) (b := sinS (2 * n + 1)) (m := 16777216) (n := 32768) (by omega) (by omega) b3.1 b3.2
          repeat' ((conv => whnf); first | (refine ask_false (by omega) ?_) | (refine And.intro trivial ?_) | (refine And.intro (by omega) ?_) | (refine fun (_ : InK _ _) => ?_) | (refine And.intro ⟨by omega, by omega, by omega, by omega⟩ ?_) | (refine ⟨by kernel_rfl, ?_⟩) | (refine ask_wrap64 (by omega) (by omega) ?_) | fail)
          conv => whnf
          refine ⟨(32 - (n + 1)).toNat, n + 1, by omega, ⟨by omega, by omega, rfl⟩, rfl, ⟨⟨Nat.le_of_ble_eq_true rfl, rfl⟩, trivial⟩, ⟨rfl, rfl, rfl, ?_, trivial⟩, rfl, rfl, Nat.zero_le _⟩
          refine congrArg o32 (stg_set en (by rw [backL_len]; rfl) n0 (by rw [backL_len]; omega) ?_).symm
          unfold backL
          rw [getD_range (by omega), Int.toNat_of_nonneg n0, hs']
          rfl
    · have hn : n = 32 := by omega
      subst hn
      rw [stg_all (by rw [backL_len]; rfl) (by rw [backL_len]; rfl)]
      repeat' ((conv => whnf); first | (refine ask_false (by omega) ?_) | rfl | fail)
theorem refBack_ct : CtOk Try.prog 46 (ctA32 held backZ) := ctA32_ok FRm_ok Try.func46 (fun xs _ _ => ⟨backZ_len xs, fun x hx => small_k (backZ_bound xs hx)⟩) fun xs h1 h2 h => refBack_walk xs h1 h2 h
end Go.Proofs.Ytbgjmlncdlcglaa
