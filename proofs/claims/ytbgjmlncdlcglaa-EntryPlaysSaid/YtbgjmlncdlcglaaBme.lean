/- Chapter mdct: the laws' own functions; the law MdctLays, walked. -/
import Derived.Test.YtbgjmlncdlcglaaBmd
import Derived.Test.YtbgjmlncdlcglaaXr
set_option linter.all false
namespace Go.Proofs.Ytbgjmlncdlcglaa
open Go.RowKit (Below)
set_option maxRecDepth 100000
set_option maxHeartbeats 32000000

def E1 : Env := ⟨fun _ => none, fun t => match Nat.beq t 38 with
  | true => some (List.replicate 16 (.i .i64))
  | false => match Nat.beq t 37 with
    | true => some (List.replicate 16 (.i .i64))
    | false => match Nat.beq t 42 with
      | true => some (List.replicate 4 (.i .i64))
      | false => none⟩
theorem E1_ok : EnvOk Try.prog E1 := by
  refine ⟨⟨fun _ _ h => (by cases h)⟩, fun t ks h => ?_⟩
  simp only [E1] at h
  split at h
  · rename_i hb
    obtain rfl := Nat.eq_of_beq_eq_true hb
    cases h
    exact eqok_ints (e := 3) (by kernel_rfl) (by kernel_rfl) rfl (by kernel_rfl) (by kernel_rfl) (by kernel_rfl)
  · split at h
    · rename_i hb
      obtain rfl := Nat.eq_of_beq_eq_true hb
      cases h
      exact eqok_ints (e := 3) (by kernel_rfl) (by kernel_rfl) rfl (by kernel_rfl) (by kernel_rfl) (by kernel_rfl)
    · split at h
      · rename_i hb
        obtain rfl := Nat.eq_of_beq_eq_true hb
        cases h
        exact eqok_ints (e := 3) (by kernel_rfl) (by kernel_rfl) rfl (by kernel_rfl) (by kernel_rfl) (by kernel_rfl)
      · cases h
abbrev walk1 (F : Fns) (n : Nat) (fn : Func) (ws : List W) (H : List Blk) (K : V → List Blk → Prop) : Prop := xfun Try.prog E1 (calF Try.prog E1 F (drwA Try.prog E1 F) n) (drwA Try.prog E1 F (calF Try.prog E1 F (drwA Try.prog E1 F) n)) fn ws H K
theorem walk1_calls {F : Fns} (hF : FnsOk Try.prog F) {n : Nat} {f : FuncId} {fn : Func} (hf : Try.prog.funcs[f]? = some fn) {ws : List W} {x : V} (hx : x.bnd 0 = true) (hr : rngW ws) (hb : bndW 0 ws = true)
    (h : walk1 F n fn ws [] fun y _ => y = x) (σ : Sg) (w : World) : Calls Try.prog f (ws.map (W.den σ)).toArray w fun e w' => ∃ v, e = .returned v ∧ x.rep σ v ∧ Below w.heap.size w w' :=
  call_of E1_ok (fun _ => rfl) (calF_ok E1_ok hF (fun cal hc => drwA_ok E1_ok hF mixed cal hc) n) (drwA_ok E1_ok hF mixed _ (calF_ok E1_ok hF (fun cal hc => drwA_ok E1_ok hF mixed cal hc) n)) hf hx hr hb h σ w
theorem walk1_true {F : Fns} (hF : FnsOk Try.prog F) {n : Nat} {f : FuncId} {fn : Func} (hf : Try.prog.funcs[f]? = some fn) {ws : List W} (hr : rngW ws) (hb : bndW 0 ws = true)
    (h : walk1 F n fn ws [] fun y _ => y = .w (.c (.cb true))) (w : World) : Calls Try.prog f (ws.map (W.den fun _ => (0, 0))).toArray w fun e w' => e = .returned (.bool true) ∧ Below w.heap.size w w' := by
  refine (walk1_calls hF hf rfl hr hb h (fun _ => (0, 0)) w).mono ?_
  rintro e w' ⟨v, rfl, h1, h2⟩
  exact ⟨by rw [show v = _ from h1]; rfl, h2⟩
theorem ask_same {xs ys : List Int} {K : Bool → Prop} (h : xs = ys) (hk : K true) : ∀ τ, τ = (false ^^ (decide (xs = ys) && true)) → K τ := by
  rintro τ rfl; rw [decide_eq_true h]; exact hk
theorem ask_other {xs ys : List Int} {K : Bool → Prop} (h : xs ≠ ys) (hk : K true) : ∀ τ, τ = (true ^^ (decide (xs = ys) && true)) → K τ := by
  rintro τ rfl; rw [decide_eq_false h]; exact hk
theorem ask_nother {xs ys : List Int} {K : Bool → Prop} (h : xs = ys) (hk : K false) : ∀ τ, τ = (true ^^ (decide (xs = ys) && true)) → K τ := by
  rintro τ rfl; rw [decide_eq_true h]; exact hk

/-! ### small frames -/
@[irreducible] noncomputable def r17 : Int → Int := sealed fun x => x.tmod 65537
theorem r17_def (x : Int) : r17 x = x.tmod 65537 := by unfold r17; rw [sealed_eq]
theorem r17_bound (x : Int) : -65536 ≤ r17 x ∧ r17 x ≤ 65536 := by
  have := tmod_bound (a := x) (b := 65537) (by decide)
  rw [r17_def]; omega
noncomputable def smallZ (xs : List Int) : List Int := xs.map r17
theorem small_walk (xs : List Int) (h : xs.length = 16) (hx : ∀ x ∈ xs, InK .i64 x) : walk F0 0 Try.f31 [ar 16 xs] [] fun y _ => y = .w (ar 16 (smallZ xs)) := by
  conv => whnf
  refine loop_at (4 :: List.range' 5 10) (fun m (i : Int) => 0 ≤ i ∧ i ≤ 16 ∧ m = (16 - i).toNat) (fun i => [(4, vi i)]) (fun i => [oa xs, ob z16, ob (stg (smallZ xs) z16 i)]) 16 0 ⟨by decide, by decide, rfl⟩ ?_ ?_
  · exact ⟨rfl, ⟨⟨Nat.le_of_ble_eq_true rfl, rfl⟩, trivial⟩, ⟨rfl, rfl, by rw [stg_zero]; rfl, trivial⟩, rfl, rfl, Nat.zero_le _⟩
  · rintro m i ⟨h0, h1, rfl⟩
    have em : mulN i.toNat (Try.prog.types[3]).size = i.toNat := mulN1 i.toNat
    rcases Int.lt_or_le i 16 with h2 | h2
    · repeat' ((conv => whnf); first | (refine ask_true (by omega) ?_) | (refine And.intro (by omega) ?_) | (refine fun (_ : InK _ _) => ?_) | fail)
      conv => whnf
      intro r hr
      repeat' ((conv => whnf); first | (refine ask_wrap64 (by omega) (by omega) ?_) | (refine And.intro (by omega) ?_) | (refine ⟨by kernel_rfl, ?_⟩) | fail)
      conv => whnf
      refine ⟨(16 - (i + 1)).toNat, i + 1, by omega, ⟨by omega, by omega, rfl⟩, rfl, ⟨⟨Nat.le_of_ble_eq_true rfl, rfl⟩, trivial⟩, ⟨rfl, rfl, ?_, trivial⟩, rfl, rfl, Nat.zero_le _⟩
      refine congrArg ob (stg_set em (by simp [smallZ, h, z16]) h0 (by simp [smallZ, h]; omega) ?_).symm
      unfold smallZ
      rw [getD_map (by omega), r17_def, hr, em]
    · have hi : i = 16 := by omega
      subst hi
      rw [stg_all (by simp [smallZ, h, z16]) (by simp [smallZ, h])]
      repeat' ((conv => whnf); first | (refine ask_false (by omega) ?_) | rfl | fail)
theorem smallZ_in {xs : List Int} {x : Int} (hx : x ∈ smallZ xs) : -65536 ≤ x ∧ x ≤ 65536 := by
  unfold smallZ at hx
  obtain ⟨y, _, rfl⟩ := List.mem_map.1 hx
  exact r17_bound y
theorem smallZ_len {xs : List Int} (h : xs.length = 16) : (smallZ xs).length = 16 := by simp [smallZ, h]
theorem small_ct : CtOk Try.prog 31 (ctA smallZ) := ctA_ok F0_ok Try.func31 (fun xs h _ => ⟨smallZ_len h, fun x hx => by
  have := smallZ_in hx
  simp only [InK, lowK, highK]; omega⟩) fun xs h hx => small_walk xs h hx
theorem small_held (xs : List Int) : held (smallZ xs) := by
  rw [held_def]
  intro x hx
  have := smallZ_in hx
  omega

/-! ### the document's example -/
theorem sumN_one {f : Int → Int} {j : Nat} (h : ∀ i : Nat, i ≠ j → f i = 0) : ∀ n : Nat, sumN f n = if j < n then f j else 0
  | 0 => by rw [sumN_zero]; rfl
  | n + 1 => by
    rw [sumN_succ, sumN_one h n]
    by_cases hn : n = j
    · subst hn
      rw [if_neg (Nat.lt_irrefl _), if_pos (Nat.lt_succ_self _), Int.zero_add]
    · rw [h n hn, Int.add_zero]
      by_cases h1 : j < n
      · rw [if_pos h1, if_pos (by omega)]
      · rw [if_neg h1, if_neg (by omega)]
theorem sumN_zeros {f : Int → Int} (h : ∀ i : Nat, f i = 0) : ∀ n : Nat, sumN f n = 0
  | 0 => sumN_zero f
  | n + 1 => by rw [sumN_succ, sumN_zeros h n, h n]; rfl
theorem shift_zero15 : shiftS 0 15 = 0 := by rw [shift15 (by omega)]; rfl
theorem shift_zero16 : shiftS 0 16 = 0 := by rw [shift16 (by omega)]; rfl
theorem shift_zero17 : shiftS 0 17 = 0 := by rw [shift17 (by omega)]; rfl
theorem wnd_none {zs : List Int} {i : Int} (h : zs.getD i.toNat 0 = 0) : wnd zs i = 0 := by rw [wnd_def, h, Int.zero_mul, shift_zero15]
theorem z16_at (i : Nat) : z16.getD i 0 = 0 := by
  rw [List.getD_eq_getElem?_getD]
  cases hi : z16[i]? with
  | none => rfl
  | some v =>
    have := List.mem_of_getElem? hi
    simp only [z16, List.mem_cons, List.not_mem_nil, or_false, or_self] at this
    rw [this]; rfl
theorem held_z16 : held z16 := by
  rw [held_def]; decide
theorem z32_at (i : Nat) : (z16 ++ z16).getD i 0 = 0 := by
  rw [List.getD_eq_getElem?_getD]
  cases hi : (z16 ++ z16)[i]? with
  | none => rfl
  | some v =>
    have := List.mem_of_getElem? hi
    simp only [z16, List.mem_append, List.mem_cons, List.not_mem_nil, or_false, or_self] at this
    rw [this]; rfl
theorem map_range_const {f : Nat → Int} (h : ∀ k, f k = 0) : ((List.range 16).map f) = z16 := by
  have : f = fun _ => 0 := funext h
  rw [this]; rfl
theorem waves_none : wavesZ z16 z16 = z16 := by
  rw [show wavesZ z16 z16 = waveZ (z16 ++ z16) from if_pos ⟨held_z16, held_z16⟩]
  unfold waveZ
  refine map_range_const fun k => ?_
  unfold waveS
  rw [sumN_zeros fun i => by unfold wTerm; rw [wnd_none (z32_at _), Int.zero_mul], shift_zero17]
def k1000 : List Int := [0, 0, 0, 0, 0, 1000, 0, 0, 0, 0, 0, 0, 0, 0, 0, 0]
theorem waves_1000 : wavesZ k1000 z16 ≠ z16 := by
  have hk : held k1000 := by rw [held_def]; decide
  rw [show wavesZ k1000 z16 = waveZ (k1000 ++ z16) from if_pos ⟨hk, held_z16⟩]
  intro he
  have h0 : (waveZ (k1000 ++ z16)).getD 0 0 = 0 := by rw [he]; rfl
  unfold waveZ at h0
  rw [getD_range (by decide)] at h0
  unfold waveS at h0
  have one : ∀ i : Nat, i ≠ 5 → wTerm (k1000 ++ z16) ((0 : Nat) : Int) i = 0 := fun i hi => by
    unfold wTerm
    rw [wnd_none, Int.zero_mul]
    rw [Int.toNat_natCast, List.getD_eq_getElem?_getD]
    cases hx : (k1000 ++ z16)[i]? with
    | none => rfl
    | some v =>
      have hlt := (List.getElem?_eq_some_iff.1 hx).1
      have hlt' : i < 32 := hlt
      have all : ∀ m < 32, m ≠ 5 → (k1000 ++ z16)[m]? = some 0 := by decide
      rw [all i hlt' hi] at hx
      cases hx; rfl
  rw [sumN_one one 32, if_pos (by decide)] at h0
  have e1 : wnd (k1000 ++ z16) ((5 : Nat) : Int) = (1000 * sinS 11 + 16384) / 32768 := by
    rw [wnd_def]
    have b := sin_bound 11
    show shiftS (1000 * sinS 11) 15 = _
    rw [shift15 (by omega)]
  have e2 : kAt ((5 : Nat) : Int) ((0 : Nat) : Int) = cosS 27 := by rw [kAt_def]; rfl
  have e3 : sinS 11 = cosRound 107 := by rw [sinS_def, cosS_def]; rfl
  have e4 : cosS 27 = cosRound 27 := by rw [cosS_def]; rfl
  unfold wTerm at h0
  rw [e1, e2, e3, e4] at h0
  have c1 : cosRound 107 = 16846 ∨ True := .inr trivial
  have c2 : (1000 * cosRound 107 + 16384) / 32768 * cosRound 27 ≤ 1099511627776 ∧ 65536 ≤ (1000 * cosRound 107 + 16384) / 32768 * cosRound 27 := by decide +kernel
  rw [shift17 (by omega)] at h0
  omega

noncomputable def FQ1 : Fns := F0.plus 32 (ctAA (fun _ _ => True) wavesZ)
theorem FQ1_ok : FnsOk Try.prog FQ1 := F0_ok.plus waves_ct Try.func32 (by kernel_rfl) (by kernel_rfl)
theorem awake04_walk : walk1 FQ1 0 Try.f30 [] [] fun y _ => y = vb true := by
  repeat' ((conv => whnf); first | (refine And.intro (by omega) ?_) | (refine And.intro trivial ?_) | fail)
  conv => whnf
  refine ask_same waves_none ?_
  conv => whnf
  refine ask_other waves_1000 ?_
  conv => whnf
  rfl
theorem awake04_ct : CtOk Try.prog 30 (ct0 (vb true)) := by
  intro ws K h' hr
  unfold ct0 at h'
  split at h'
  · exact ⟨_, h', ⟨trivial, rfl⟩, walk1_calls FQ1_ok Try.func30 rfl trivial rfl awake04_walk⟩
  · exact h'.elim
noncomputable def FQ2 : Fns := ((((((((FQ1.plus 30 (ct0 (vb true))).plus 39 (ctAD back1 back2)).plus 42 (ctAA (fun _ _ => True) overZ)).plus 40 ctHeld).plus 31 (ctA smallZ)).plus 43 (ct2 (fun _ n => 1 ≤ n ∧ n ≤ 62) cutS)).plus 44 ctHeld).plus 45 (ctAA (fun xs ys => held xs ∧ held ys) wavesZ)).plus 46 (ctA32 held backZ)
theorem FQ2_ok : FnsOk Try.prog FQ2 := ((((((((FQ1_ok.plus awake04_ct Try.func30 (by kernel_rfl) (by kernel_rfl)).plus back_ct Try.func39 (by kernel_rfl) (by kernel_rfl)).plus over_ct Try.func42 (by kernel_rfl) (by kernel_rfl)).plus held_ct Try.func40 (by kernel_rfl) (by kernel_rfl)).plus small_ct Try.func31 (by kernel_rfl) (by kernel_rfl)).plus refCut_ct Try.func43 (by kernel_rfl) (by kernel_rfl)).plus refHeld_ct Try.func44 (by kernel_rfl) (by kernel_rfl)).plus refWaves_ct Try.func45 (by kernel_rfl) (by kernel_rfl)).plus refBack_ct Try.func46 (by kernel_rfl) (by kernel_rfl)

/-! ### what is laid over -/
theorem over1_comm (x y : Int) : over1 x y = over1 y x := by unfold over1; rw [Int.add_comm]
theorem cut32_none : cutS 0 32 = 0 := by rw [cut32]; rfl
theorem over1_none (x : Int) : over1 x 0 = cutS x 32 := by
  unfold over1
  rw [cut32_none, Int.add_zero]
  have := cut32 x
  rw [cut32 (cutS x 32)]
  omega
theorem overZ_comm (xs ys : List Int) : overZ xs ys = overZ ys xs := by
  unfold overZ
  refine List.map_congr_left fun i _ => over1_comm _ _
theorem overZ_at (xs ys : List Int) {i : Nat} (h : i < 16) : (overZ xs ys).getD i 0 = over1 (xs.getD i 0) (ys.getD i 0) := by
  unfold overZ; rw [getD_range h]
theorem overZ_none (xs : List Int) : overZ (overZ xs z16) z16 = overZ xs z16 := by
  have : ∀ i ∈ List.range 16, over1 ((overZ xs z16).getD i 0) (z16.getD i 0) = over1 (xs.getD i 0) (z16.getD i 0) := fun i hi => by
    have hi' := List.mem_range.1 hi
    rw [overZ_at _ _ hi', z16_at, over1_none, over1_none]
    have := cut32 (xs.getD i 0)
    rw [cut32 (cutS _ 32)]
    omega
  show (List.range 16).map _ = (List.range 16).map _
  exact List.map_congr_left this
theorem law_MdctLays (xs : List Int) (h : xs.length = 16) (hx : ∀ x ∈ xs, InK .i64 x) (ys : List Int) (h' : ys.length = 16) (hy : ∀ x ∈ ys, InK .i64 x) (w0 : World) : Calls Try.prog 10 #[.agg (xs.map (Value.int .i64)).toArray, .agg (ys.map (Value.int .i64)).toArray] w0 fun e w' => e = .returned (.bool true) ∧ Below w0.heap.size w0 w' := by
  have hd1 : (W.den (fun _ => (0, 0)) (ar 16 xs)) = Value.agg (xs.map (Value.int .i64)).toArray := by simp [W.den, dens, Seg.den]
  have hd2 : (W.den (fun _ => (0, 0)) (ar 16 ys)) = Value.agg (ys.map (Value.int .i64)).toArray := by simp [W.den, dens, Seg.den]
  have hd : ([ar 16 xs, ar 16 ys].map (W.den fun _ => (0, 0))).toArray = #[Value.agg (xs.map (Value.int .i64)).toArray, Value.agg (ys.map (Value.int .i64)).toArray] := by rw [← hd1, ← hd2]; rfl
  have := walk1_true FQ2_ok Try.func10 (ws := [ar 16 xs, ar 16 ys]) ⟨ar_rng h hx, ar_rng h' hy, trivial⟩ rfl (n := 0) ?_ w0
  · rw [hd] at this; exact this
  repeat' ((conv => whnf); first | (refine And.intro ⟨by omega, by omega⟩ ?_) | (refine And.intro trivial ?_) | fail)
  refine loop_at (4 :: 6 :: List.range' 12 12) (fun m (i : Int) => 0 ≤ i ∧ i ≤ 16 ∧ m = (16 - i).toNat) (fun i => [(6, vi i)]) (fun i => [oa xs, oa ys, ob (overZ xs z16)]) 16 0 ⟨by decide, by decide, rfl⟩ ?_ ?_
  · exact ⟨rfl, ⟨⟨Nat.le_of_ble_eq_true rfl, rfl⟩, trivial⟩, ⟨rfl, rfl, rfl, trivial⟩, rfl, rfl, Nat.zero_le _⟩
  · rintro m i ⟨h0, h1, rfl⟩
    have em : mulN i.toNat (Try.prog.types[3]).size = i.toNat := mulN1 i.toNat
    conv => whnf
    refine ask_split (fun h2 => ?_) (fun h2 => ?_)
    · have e1 : (overZ xs z16).getD (mulN i.toNat (Try.prog.types[3]).size) 0 = cutS (xs.getD (mulN i.toNat (Try.prog.types[3]).size) 0) 32 := by rw [overZ_at _ _ (by omega), z16_at, over1_none]
      repeat' ((conv => whnf); first | (refine And.intro (by omega) ?_) | (refine And.intro ⟨by omega, by omega⟩ ?_) | (refine fun (_ : InK _ _) => ?_) | (refine ⟨by kernel_rfl, ?_⟩) | (with_reducible refine ask_false (not_not_intro e1) ?_) | (refine ask_wrap64 (by omega) (by omega) ?_) | fail)
      conv => whnf
      exact ⟨(16 - (i + 1)).toNat, i + 1, by omega, ⟨by omega, by omega, rfl⟩, rfl, ⟨⟨Nat.le_of_ble_eq_true rfl, rfl⟩, trivial⟩, ⟨rfl, rfl, rfl, trivial⟩, rfl, rfl, Nat.zero_le _⟩
    · repeat' ((conv => whnf); first | (refine And.intro ⟨by omega, by omega⟩ ?_) | (refine And.intro trivial ?_) | (with_reducible refine ask_same (overZ_comm xs ys) ?_) | (refine ask_same (overZ_none xs) ?_) | (refine ⟨by kernel_rfl, ?_⟩) | fail)
      rfl
end Go.Proofs.Ytbgjmlncdlcglaa
