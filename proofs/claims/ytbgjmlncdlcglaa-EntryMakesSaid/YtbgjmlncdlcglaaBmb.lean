/- Chapter mdct: the waves of two frames. -/
import Derived.Test.YtbgjmlncdlcglaaBma
set_option linter.all false
namespace Go.Proofs.Ytbgjmlncdlcglaa
open Go.RowKit (Below)
set_option maxRecDepth 100000
set_option maxHeartbeats 32000000

/-- The cosine of a number's place, and a wave's. -/
@[irreducible] noncomputable def kAt : Int → Int → Int := sealed fun n k => cosS ((2 * n + 17) * (2 * k + 1))
theorem kAt_def (n k : Int) : kAt n k = cosS ((2 * n + 17) * (2 * k + 1)) := by unfold kAt; rw [sealed_eq]
theorem kAt_bound (n k : Int) : -32768 ≤ kAt n k ∧ kAt n k ≤ 32768 := by rw [kAt_def]; exact cosS_bound _
/-- A number under the window. -/
@[irreducible] noncomputable def wnd : List Int → Int → Int := sealed fun xs i => shiftS (xs.getD i.toNat 0 * sinS (2 * i + 1)) 15
theorem wnd_def (xs : List Int) (i : Int) : wnd xs i = shiftS (xs.getD i.toNat 0 * sinS (2 * i + 1)) 15 := by unfold wnd; rw [sealed_eq]
/-- The sum of what is told of so many. -/
@[irreducible] noncomputable def sumN (f : Int → Int) : Nat → Int := sealed fun n => ((List.range n).map fun (i : Nat) => f (i : Int)).sum
theorem sumN_zero (f : Int → Int) : sumN f 0 = 0 := by unfold sumN; rw [sealed_eq]; rfl
theorem sumN_succ (f : Int → Int) (n : Nat) : sumN f (n + 1) = sumN f n + f n := by
  unfold sumN; rw [sealed_eq, List.range_succ]; simp
theorem sumN_int (f : Int → Int) {i : Int} (h : 0 ≤ i) : sumN f (i + 1).toNat = sumN f i.toNat + f i := by
  rw [show (i + 1).toNat = i.toNat + 1 by omega, sumN_succ, Int.toNat_of_nonneg h]
theorem sumN_bound {f : Int → Int} {b : Int} {m : Nat} (h : ∀ i : Int, 0 ≤ i → i < m → -b ≤ f i ∧ f i ≤ b) : ∀ n : Nat, n ≤ m → -(b * n) ≤ sumN f n ∧ sumN f n ≤ b * n
  | 0, _ => by rw [sumN_zero]; simp
  | n + 1, hn => by
    have h1 := sumN_bound h n (by omega)
    have h2 := h n (by omega) (by omega)
    rw [sumN_succ]
    have : b * ((n + 1 : Nat) : Int) = b * n + b := by rw [Int.natCast_add, Int.mul_add]; simp
    omega
theorem shift_eq {x n : Int} (h : -1099511627776 ≤ x ∧ x ≤ 1099511627776) (h1 : 1 ≤ n) (h2 : n ≤ 40) : shiftS x n = (x + pw (n - 1)) / pw n := by
  rw [shiftS_def, if_neg (by omega), if_neg (by omega)]
theorem p14 : pw 14 = 16384 := by rw [pw_def]; decide
theorem p15' : pw 15 = 32768 := by rw [pw_def]; decide
theorem p16'' : pw 16 = 65536 := by rw [pw_def]; decide
theorem p17 : pw 17 = 131072 := by rw [pw_def]; decide
theorem shift15 {x : Int} (h : -1099511627776 ≤ x ∧ x ≤ 1099511627776) : shiftS x 15 = (x + 16384) / 32768 := by
  rw [shift_eq h (by decide) (by decide)]
  show (x + pw 14) / pw 15 = _
  rw [p14, p15']
theorem shift16 {x : Int} (h : -1099511627776 ≤ x ∧ x ≤ 1099511627776) : shiftS x 16 = (x + 32768) / 65536 := by
  rw [shift_eq h (by decide) (by decide)]
  show (x + pw 15) / pw 16 = _
  rw [p15', p16'']
theorem shift17 {x : Int} (h : -1099511627776 ≤ x ∧ x ≤ 1099511627776) : shiftS x 17 = (x + 65536) / 131072 := by
  rw [shift_eq h (by decide) (by decide)]
  show (x + pw 16) / pw 17 = _
  rw [p16'', p17]
theorem held_at {xs : List Int} (h : held xs) (i : Nat) : -1048576 ≤ xs.getD i 0 ∧ xs.getD i 0 ≤ 1048576 := by
  rw [held_def] at h
  rw [List.getD_eq_getElem?_getD]
  cases hi : xs[i]? with
  | none => simp
  | some v => exact h v (List.mem_of_getElem? hi)
theorem wnd_bound {xs : List Int} (h : held xs) (i : Int) : -1048576 ≤ wnd xs i ∧ wnd xs i ≤ 1048576 := by
  have h1 := held_at h i.toNat
  have h2 := sin_bound (2 * i + 1)
  have h3 := prod_bound h1.1 h1.2 h2.1 h2.2
  rw [wnd_def, shift15 (by omega)]
  omega
noncomputable def wTerm (xs : List Int) (k i : Int) : Int := wnd xs i * kAt i k
theorem wTerm_bound {xs : List Int} (h : held xs) (k i : Int) : -34359738368 ≤ wTerm xs k i ∧ wTerm xs k i ≤ 34359738368 := by
  have h1 := wnd_bound h i
  have h2 := kAt_bound i k
  have h3 := prod_bound h1.1 h1.2 h2.1 h2.2
  unfold wTerm
  omega
noncomputable def waveS (xs : List Int) (k : Int) : Int := shiftS (sumN (wTerm xs k) 32) 17
noncomputable def waveZ (xs : List Int) : List Int := (List.range 16).map fun (k : Nat) => waveS xs (k : Int)
noncomputable def wavesZ (a b : List Int) : List Int := if held a ∧ held b then waveZ (a ++ b) else z16
theorem held_append {a b : List Int} (ha : held a) (hb : held b) : held (a ++ b) := by
  rw [held_def] at *
  intro x hx
  rcases List.mem_append.1 hx with h | h
  · exact ha x h
  · exact hb x h

noncomputable def FM : Fns := ((((((((((F0.plus 40 ctHeld).plus 70 (ct2 (fun _ _ => True) shiftS)).plus 94 (ct0 (.w (ar 32 winZ)))).plus 93 (ct0 (.w (ar 128 tabZ)))).over 67 hConcat).every 67).into 66 Try.f66).into 68 Try.f68).into 69 Try.f69).into 79 Try.f79).into 71 Try.f71
theorem FM_ok : FnsOk Try.prog FM := ((((((((((F0_ok.plus held_ct Try.func40 (by kernel_rfl) (by kernel_rfl)).plus shift_ct Try.func70 (by kernel_rfl) (by kernel_rfl)).plus window_ct Try.func94 (by kernel_rfl) (by kernel_rfl)).plus table_ct Try.func93 (by kernel_rfl) (by kernel_rfl)).over concat_ct Try.func67 (by kernel_rfl) (by kernel_rfl)).every 67).into Try.func66 (by kernel_rfl) (by kernel_rfl)).into Try.func68 (by kernel_rfl) (by kernel_rfl)).into Try.func69 (by kernel_rfl) (by kernel_rfl)).into Try.func79 (by kernel_rfl) (by kernel_rfl)).into Try.func71 (by kernel_rfl) (by kernel_rfl)

theorem tab_at {r : Int} {m : Nat} (hm : m = r.toNat) (h0 : 0 ≤ r) (h1 : r < 128) : tabZ.getD m 0 = cosS r := by
  subst hm
  unfold tabZ
  rw [getD_range (by omega), Int.toNat_of_nonneg h0]
theorem win_of {i : Int} {m : Nat} (hm : m = i.toNat) (h0 : 0 ≤ i) (h1 : i < 32) : winZ.getD m 0 = sinS (2 * i + 1) := by
  subst hm
  unfold winZ
  rw [getD_range (by omega), Int.toNat_of_nonneg h0]
theorem getD_append' {xs ys : List Int} {i : Nat} (h : i < xs.length) : (xs ++ ys).getD i 0 = xs.getD i 0 := by
  simp [List.getD_eq_getElem?_getD, List.getElem?_append_left h]
theorem kAt_mod {n k r : Int} (h0 : 0 ≤ n) (h1 : 0 ≤ k) (h : r = ((2 * n + 1 + 16) * (2 * k + 1)).tmod 128) (hp : 0 ≤ (2 * n + 1 + 16) * (2 * k + 1)) : cosS r = kAt n k := by
  rw [kAt_def, cosS_mod ((2 * n + 17) * (2 * k + 1)), h, Int.tmod_eq_emod_of_nonneg hp]
  congr 3
  omega
noncomputable abbrev mH (xs ys : List Int) (c : Nat) (out : List Int) : List Blk := [.gone, .gone, .own 38 [.ints .i64 16 z16], .own 38 [.ints .i64 16 out], .own 100 [.ints .i64 128 tabZ, .ints .i64 32 winZ], .own 93 [.one (.cp 4 0)],
  .own 3 [.ints .i64 c (xs ++ ys ++ List.replicate (c - 32) 0)], .own 95 [.one (.csl 6 0 0 32 c)]]
def rhoA (j : Nat) : Nat := if j = 6 then 7 else if j = 7 then 8 else j
def rhoB (j : Nat) : Nat := if j = 6 then 8 else if j = 7 then 6 else j
def rhoC (j : Nat) : Nat := if j = 6 then 8 else j
theorem rhoA_inj {i j : Nat} (hi : i < 8) (hj : j < 8) (h : rhoA i = rhoA j) : i = j := by unfold rhoA at h; split at h <;> split at h <;> (try split at h) <;> (try split at h) <;> omega
theorem rhoB_inj {i j : Nat} (hi : i < 8) (hj : j < 8) (h : rhoB i = rhoB j) : i = j := by unfold rhoB at h; split at h <;> split at h <;> (try split at h) <;> (try split at h) <;> omega
theorem rhoC_inj {i j : Nat} (hi : i < 8) (hj : j < 8) (h : rhoC i = rhoC j) : i = j := by unfold rhoC at h; split at h <;> split at h <;> omega
theorem waves_walk (xs ys : List Int) (h : xs.length = 16) (h' : ys.length = 16) (hx : ∀ x ∈ xs, InK .i64 x) (hy : ∀ x ∈ ys, InK .i64 x) : walk FM 3 Try.f32 [ar 16 xs, ar 16 ys] [] fun y _ => y = .w (ar 16 (wavesZ xs ys)) := by
  conv => whnf
  refine And.intro rfl ?_
  conv => whnf
  refine ask_split (fun h1 => ?_) (fun h1 => ?_)
  · repeat' ((conv => whnf); first | (refine And.intro rfl ?_) | fail)
    refine ask_split (fun h2 => ?_) (fun h2 => ?_)
    · conv => whnf
      have e0 : mulN 0 (Try.prog.types[3]).size = 0 := mulN1 0
      refine all_at [7, 20, 21, 22, 23] (fun c : Nat => 32 ≤ c ∧ c ≤ 9223372036854775807) (fun _ => [(7, .w (.c (.cp 7 0)))]) (fun c => mH xs ys c z16) ?_ ?_
      · rintro c ⟨hc, hc'⟩
        conv => whnf
        refine loop_at (8 :: 9 :: List.range' 24 10) (fun m (k : Int) => 0 ≤ k ∧ k ≤ 16 ∧ m = (16 - k).toNat) (fun k => [(24, vi k)]) (fun k => mH xs ys c (stg (waveZ (xs ++ ys)) z16 k)) 16 0 ⟨by decide, by decide, rfl⟩ ?_ ?_
        · exact ⟨rfl, ⟨⟨Nat.le_of_ble_eq_true rfl, rfl⟩, trivial⟩, ⟨rfl, by rw [stg_zero], rfl, rfl, rfl, rfl, trivial⟩, rfl, rfl, Nat.zero_le _⟩
        · rintro m k ⟨k0, k1, rfl⟩
          have ek : mulN k.toNat (Try.prog.types[3]).size = k.toNat := mulN1 _
          rcases Int.lt_or_le k 16 with k2 | k2
          · conv => whnf
            refine ask_true (by omega) ?_
            conv => whnf
            refine loop_at2 (5 :: 6 :: List.range' 8 9) (fun m (i s : Int) => 0 ≤ i ∧ i ≤ 32 ∧ s = sumN (wTerm (xs ++ ys) k) i.toNat ∧ m = (32 - i).toNat) (fun i s => [(5, vi s), (8, vi i)]) (fun _ _ => mH xs ys c (stg (waveZ (xs ++ ys)) z16 k) ++ [.own 3 [.one (.ci .i64 k)]]) 32 0 0 ⟨by decide, by decide, (sumN_zero _).symm, rfl⟩ ?_ ?_
            · exact ⟨rfl, ⟨⟨Nat.le_of_ble_eq_true rfl, rfl⟩, ⟨Nat.le_of_ble_eq_true rfl, rfl⟩, trivial⟩, ⟨rfl, rfl, rfl, rfl, rfl, rfl, rfl, trivial⟩, rfl, rfl, Nat.le_of_ble_eq_true rfl⟩
            · rintro m i s ⟨i0, i1, hs, rfl⟩
              have ei : mulN i.toNat (Try.prog.types[3]).size = i.toNat := mulN1 _
              rcases Int.lt_or_le i 32 with i2 | i2
              · have hz := held_append h1 h2
                have hX : (xs ++ ys ++ List.replicate (c - 32) 0).getD (0 + mulN i.toNat (Try.prog.types[3]).size) 0 = (xs ++ ys).getD i.toNat 0 := by rw [ei, Nat.zero_add, getD_append' (by simp; omega)]
                have hW : winZ.getD (mulN i.toNat (Try.prog.types[3]).size) 0 = sinS (2 * i + 1) := win_of ei i0 i2
                have q1 := held_at hz i.toNat
                have q2 := sin_bound (2 * i + 1)
                have q3 := prod_bound q1.1 q1.2 q2.1 q2.2
                rw [← hX, ← hW] at q3
                have q4 := mul_bound (a := 2 * i + 1 + 16) (b := 2 * k + 1) (m := 79) (n := 31) (by omega) (by omega) (by omega) (by omega)
                have q5 : shiftS ((xs ++ ys ++ List.replicate (c - 32) 0).getD (0 + mulN i.toNat (Try.prog.types[3]).size) 0 * winZ.getD (mulN i.toNat (Try.prog.types[3]).size) 0) 15 = wnd (xs ++ ys) i := by rw [hX, hW, wnd_def]
                have q6 := wTerm_bound hz k i
                have q7 := sumN_bound (f := wTerm (xs ++ ys) k) (b := 34359738368) (m := 32) (fun i _ _ => wTerm_bound hz k i) i.toNat (by omega)
                rw [← hs] at q7
                have q8 : shiftS ((xs ++ ys ++ List.replicate (c - 32) 0).getD (0 + mulN i.toNat (Try.prog.types[3]).size) 0 * winZ.getD (mulN i.toNat (Try.prog.types[3]).size) 0) 15 * kAt i k = wTerm (xs ++ ys) k i := by rw [q5]; rfl
                repeat' ((conv => whnf); first | (refine ask_true (by omega) ?_) | (refine And.intro (by omega) ?_) | (refine fun (_ : InK _ _) => ?_) | (refine ask_wrap64 (by omega) (by omega) ?_) | fail)
                refine And.intro trivial ?_
                conv => whnf
                refine ⟨[4], vi (kAt i k), rfl, ?_, ?_, ?_⟩
                · repeat' ((conv => whnf); first | (refine ask_wrap64 (by omega) (by omega) ?_) | (refine And.intro (by omega) fun r hr => ?_) | fail)
                  have r0 : 0 ≤ r ∧ r < 128 := by
                    rw [hr, Int.tmod_eq_emod_of_nonneg (by omega)]; omega
                  have er : mulN r.toNat (Try.prog.types[3]).size = r.toNat := mulN1 _
                  repeat' ((conv => whnf); first | (refine And.intro (by omega) ?_) | (refine fun (_ : InK _ _) => ?_) | fail)
                  conv => whnf
                  exact vi_eq ((tab_at er r0.1 r0.2).trans (kAt_mod i0 k0 hr q4.1))
                · have := kAt_bound i k
                  show InK .i64 _
                  simp only [InK, lowK, highK]; omega
                · repeat' ((conv => whnf); first | (refine ask_wrap64 (by omega) (by omega) ?_) | (refine ⟨by kernel_rfl, ?_⟩) | fail)
                  conv => whnf
                  refine ⟨(32 - (i + 1)).toNat, (i + 1, _), by show (32 - (i + 1)).toNat < (32 - i).toNat; omega, ⟨by show 0 ≤ i + 1; omega, by show i + 1 ≤ 32; omega, ?_, rfl⟩, rfl, ⟨⟨Nat.le_of_ble_eq_true rfl, rfl⟩, ⟨Nat.le_of_ble_eq_true rfl, rfl⟩, trivial⟩, ⟨rfl, rfl, rfl, rfl, rfl, rfl, rfl, trivial⟩, rfl, rfl, Nat.le_of_ble_eq_true rfl⟩
                  show s + _ = sumN (wTerm (xs ++ ys) k) (i + 1).toNat
                  rw [sumN_int _ i0, ← hs, q8]
              · have hi : i = 32 := by omega
                subst hi
                repeat' ((conv => whnf); first | (refine ask_false (by omega) ?_) | (refine And.intro trivial ?_) | (refine And.intro (by omega) ?_) | (refine ⟨by kernel_rfl, ?_⟩) | (refine ask_wrap64 (by omega) (by omega) ?_) | fail)
                conv => whnf
                refine ⟨(16 - (k + 1)).toNat, k + 1, by omega, ⟨by omega, by omega, rfl⟩, rfl, ⟨⟨Nat.le_of_ble_eq_true rfl, rfl⟩, trivial⟩, ⟨rfl, ?_, rfl, rfl, rfl, rfl, trivial⟩, rfl, rfl, Nat.zero_le _⟩
                refine congrArg (fun zs => Blk.own 38 [.ints .i64 16 zs]) (stg_set ek (by simp [waveZ, z16]) k0 (by simp [waveZ]; omega) ?_).symm
                unfold waveZ
                rw [getD_range (by omega), Int.toNat_of_nonneg k0, hs]
                rfl
          · have hk : k = 16 := by omega
            subst hk
            rw [stg_all (by simp [waveZ, z16]) (by simp [waveZ])]
            repeat' ((conv => whnf); first | (refine ask_false (by omega) ?_) | fail)
            conv => whnf
            rw [show wavesZ xs ys = waveZ (xs ++ ys) from if_pos ⟨h1, h2⟩]
            rfl
      · repeat' ((conv => whnf); first | exact trivial | (refine And.intro (by omega) ?_) | (refine fun (c : Nat) (_ : _ ≤ _) (_ : _ ≤ _) => ?_) | (refine And.intro ?_ ?_) | fail)
        all_goals (conv => whnf)
        all_goals rename_i hc hc'
        all_goals first | (refine ⟨c, rhoA, ⟨hc, hc'⟩, ⟨?_, And.intro rfl (And.intro rfl (And.intro rfl (And.intro rfl (And.intro rfl (And.intro rfl trivial))))), fun _ _ hi hj => rhoA_inj hi hj, fun j hj => absurd hj (Nat.not_lt_zero j), rfl, rfl, Nat.zero_le _⟩⟩; repeat' (first | exact trivial | refine And.intro rfl ?_ | fail)) | (refine ⟨c, rhoB, ⟨hc, hc'⟩, ⟨?_, And.intro rfl (And.intro rfl (And.intro rfl (And.intro rfl (And.intro rfl (And.intro rfl trivial))))), fun _ _ hi hj => rhoB_inj hi hj, fun j hj => absurd hj (Nat.not_lt_zero j), rfl, rfl, Nat.zero_le _⟩⟩; repeat' (first | exact trivial | refine And.intro rfl ?_ | fail)) | (refine ⟨c, rhoC, ⟨hc, hc'⟩, ⟨?_, And.intro rfl (And.intro rfl (And.intro rfl (And.intro rfl (And.intro rfl (And.intro rfl trivial))))), fun _ _ hi hj => rhoC_inj hi hj, fun j hj => absurd hj (Nat.not_lt_zero j), rfl, rfl, Nat.zero_le _⟩⟩; repeat' (first | exact trivial | refine And.intro rfl ?_ | fail)) | fail
    · repeat' ((conv => whnf); first | fail)
      conv => whnf
      rw [show wavesZ xs ys = z16 from if_neg (fun hh => h2 hh.2)]
      rfl
  · repeat' ((conv => whnf); first | fail)
    conv => whnf
    rw [show wavesZ xs ys = z16 from if_neg (fun hh => h1 hh.1)]
    rfl
end Go.Proofs.Ytbgjmlncdlcglaa
