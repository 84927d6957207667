/- Chapter spare: what pulses cost, what is right, room. -/
import Derived.Test.YtmkdamfdlkpjdaaDoorEd
set_option linter.all false
namespace Go.Proofs.YtmkdamfdlkpjdaaDoor
open Go.RowKit (Below)
open Go.WideMaps
set_option maxRecDepth 100000
set_option maxHeartbeats 32000000

theorem ctq2_ok {F : Fns} (hF : FnsOk Tryd.prog F G1) {n : Nat} {f : FuncId} {fn : Func} (hf : Tryd.prog.funcs[f]? = some fn) {pre : Int → Int → Prop} {g : Int → Int → Int} (hg : ∀ a b, InK .i64 a → InK .i64 b → pre a b → InK .i64 (g a b))
    (h : ∀ a b, InK .i64 a → InK .i64 b → pre a b → walkq F n fn [i64 a, i64 b] [] fun y _ => y = vi (g a b)) : CtOkG Tryd.prog G1 f (ct2 pre g) := by
  intro ws K h' hr
  unfold ct2 at h'
  split at h'
  · rename_i a b
    exact ⟨_, h'.2, ⟨hg a b hr.1 hr.2.1 h'.1, rfl⟩, walkq_calls hF hf rfl hr rfl (h a b hr.1 hr.2.1 h'.1)⟩
  · exact h'.elim

/-! ### what pulses cost -/
@[irreducible] noncomputable def costS : Int → Int → Int := sealed fun b k => bitS (sizeS b) k
theorem costS_def (b k : Int) : costS b k = bitS (sizeS b) k := by unfold costS; rw [sealed_eq]
theorem costS_in (b k : Int) : 0 ≤ costS b k ∧ costS b k ≤ 64 := by rw [costS_def]; exact bitS_in _ _
noncomputable def FCo : Fns := (F0.plus 17 (ct1 (fun _ => True) sizeS)).plus 26 (ct2 (fun _ _ => True) bitS)
theorem FCo_ok : FnsOk Tryd.prog FCo G1 := (F0_okg.plusG size_ct Tryd.func17 (by kernel_rfl) (by kernel_rfl)).plus bits_ct Tryd.func26 (by kernel_rfl) (by kernel_rfl)
theorem cost_walk (b k : Int) (hb : InK .i64 b) (hk : InK .i64 k) : walkq FCo 0 Tryd.f40 [i64 b, i64 k] [] fun y _ => y = vi (costS b k) := by
  rw [costS_def]
  repeat' ((conv => whnf); first | (refine And.intro trivial ?_) | rfl | fail)
theorem cost_ct : CtOkG Tryd.prog G1 40 (ct2 (fun _ _ => True) costS) := ctq2_ok FCo_ok Tryd.func40 (fun a b _ _ _ => by have := costS_in a b; simp only [InK, lowK, highK]; omega) fun a b ha hb _ => cost_walk a b ha hb
/-- The table of costs. -/
def lenC (x : Int) : Int := if x ≤ 0 then 0 else (Nat.log2 x.toNat : Int) + 1
def costC (b k : Nat) : Int := lenC (max ((crow ([2, 2, 4, 8].getD b 0)).getD k 0 - 1) 0)
theorem costS_tab {b k : Int} (hb : 0 ≤ b ∧ b ≤ 3) (hk : 0 ≤ k ∧ k ≤ 8) : costS b k = costC b.toNat k.toNat := by
  have hs : sizeS b = (([2, 2, 4, 8].getD b.toNat 0 : Nat) : Int) := by
    obtain rfl | rfl | rfl | rfl : b = 0 ∨ b = 1 ∨ b = 2 ∨ b = 3 := by omega
    all_goals decide
  have h8 : ([2, 2, 4, 8].getD b.toNat 0 : Nat) ≤ 8 := by
    obtain rfl | rfl | rfl | rfl : b = 0 ∨ b = 1 ∨ b = 2 ∨ b = 3 := by omega
    all_goals decide
  rw [costS_def]
  unfold bitS costC lenC
  rw [lenS_def, hs, show k = ((k.toNat : Nat) : Int) by omega, cC_nat h8 (by omega), Int.toNat_natCast]
theorem cost_up : (List.range 4).all (fun b => (List.range 8).all fun k => decide (costC b k ≤ costC b (k + 1))) = true := by kernel_rfl
theorem cost_mono {b k : Int} (hb : 0 ≤ b ∧ b ≤ 3) (hk : 0 ≤ k ∧ k ≤ 7) : costS b k ≤ costS b (k + 1) := by
  rw [costS_tab hb (by omega), costS_tab hb (by omega), show (k + 1).toNat = k.toNat + 1 by omega]
  have h1 := List.all_eq_true.1 cost_up b.toNat (List.mem_range.2 (by omega))
  exact of_decide_eq_true (List.all_eq_true.1 h1 k.toNat (List.mem_range.2 (by omega)))
theorem cost_none {b : Int} (hb : 0 ≤ b ∧ b ≤ 3) : costS b 0 = 0 := by
  rw [costS_tab hb (by decide)]
  obtain rfl | rfl | rfl | rfl : b = 0 ∨ b = 1 ∨ b = 2 ∨ b = 3 := by omega
  all_goals kernel_rfl
/-- What the first bands' pulses cost. -/
noncomputable def costs (ks : List Int) : Nat → Int
  | 0 => 0
  | i + 1 => costs ks i + costS i (ks.getD i 0)
theorem costs_in (ks : List Int) (n : Nat) : 0 ≤ costs ks n ∧ costs ks n ≤ 64 * n := by
  induction n with
  | zero => exact ⟨Int.le_refl _, Int.le_refl _⟩
  | succ n ih =>
    have := costS_in n (ks.getD n 0)
    show 0 ≤ costs ks n + costS n (ks.getD n 0) ∧ costs ks n + costS n (ks.getD n 0) ≤ 64 * ((n + 1 : Nat) : Int)
    omega
noncomputable def FCs : Fns := F0.plus 40 (ct2 (fun _ _ => True) costS)
theorem FCs_ok : FnsOk Tryd.prog FCs G1 := F0_okg.plusG cost_ct Tryd.func40 (by kernel_rfl) (by kernel_rfl)
theorem costs_walk (ks : List Int) (h : ks.length = 4) (hx : ∀ x ∈ ks, InK .i64 x) : walkq FCs 0 Tryd.f28 [ar4 ks] [] fun y _ => y = vi (costs ks 4) := by
  conv => whnf
  refine loop_at (3 :: 4 :: 5 :: List.range' 7 10) (fun m (i : Int) => 0 ≤ i ∧ i ≤ 4 ∧ m = (4 - i).toNat) (fun i => [(3, vi (costs ks i.toNat)), (7, vi i)]) (fun _ => [.own 25 [.ints .i64 4 ks]]) 4 0 ⟨by decide, by decide, rfl⟩ ?_ ?_
  · exact ⟨rfl, ⟨⟨Nat.le_of_ble_eq_true rfl, rfl⟩, ⟨Nat.le_of_ble_eq_true rfl, rfl⟩, trivial⟩, ⟨rfl, trivial⟩, rfl, rfl, Nat.zero_le _⟩
  · rintro m i ⟨i0, i1, rfl⟩
    have em : mulN i.toNat (Tryd.prog.types[3]).size = i.toNat := mulN1 _
    have ci := costs_in ks i.toNat
    rcases Int.lt_or_le i 4 with i2 | i2
    · have e : ks.getD (mulN i.toNat (Tryd.prog.types[3]).size) 0 = ks.getD i.toNat 0 := by rw [em]
      have hs : costs ks (i + 1).toNat = costs ks i.toNat + costS i (ks.getD (mulN i.toNat (Tryd.prog.types[3]).size) 0) := by
        rw [e, show (i + 1).toNat = i.toNat + 1 by omega]
        show costs ks i.toNat + costS (i.toNat : Int) _ = _
        rw [show ((i.toNat : Nat) : Int) = i by omega]
      have cs := costS_in i (ks.getD (mulN i.toNat (Tryd.prog.types[3]).size) 0)
      repeat' ((conv => whnf); first | (refine ask_true (by omega) ?_) | (refine And.intro trivial ?_) | (refine And.intro (by omega) ?_) | (refine fun (_ : InK _ _) => ?_) | (refine ask_wrap64 (by omega) (by omega) ?_) | fail)
      conv => whnf
      exact ⟨(4 - (i + 1)).toNat, i + 1, by omega, ⟨by omega, by omega, rfl⟩, rfl, ⟨⟨Nat.le_of_ble_eq_true rfl, congrArg vi hs.symm⟩, ⟨Nat.le_of_ble_eq_true rfl, rfl⟩, trivial⟩, ⟨rfl, trivial⟩, rfl, rfl, Nat.zero_le _⟩
    · have hi : i = 4 := by omega
      subst hi
      repeat' ((conv => whnf); first | (refine ask_false (by omega) ?_) | rfl | fail)
def ctA (f : List Int → Int) : Ct := fun ws K => match ws with
  | [.agg [.ints .i64 4 xs]] => K (vi (f xs))
  | _ => False
noncomputable def costs4 (ks : List Int) : Int := costs ks 4
theorem costs_ct : CtOkG Tryd.prog G1 28 (ctA costs4) := by
  intro ws K h' hr
  unfold ctA at h'
  split at h'
  · rename_i xs
    exact ⟨_, h', ⟨(by have := costs_in xs 4; show InK .i64 (costs xs 4); simp only [InK, lowK, highK]; omega), rfl⟩, walkq_calls FCs_ok Tryd.func28 rfl hr rfl (costs_walk xs hr.1.1.1 hr.1.1.2)⟩
  · exact h'.elim

/-! ### what is right -/
@[irreducible] def rightP (ls : List Int) (bits : Int) : Prop := (∀ i : Nat, i < 4 → 0 ≤ ls.getD i 0 ∧ ls.getD i 0 ≤ 20) ∧ 0 ≤ bits ∧ bits ≤ 1048576
theorem rightP_def (ls : List Int) (bits : Int) : rightP ls bits ↔ (∀ i : Nat, i < 4 → 0 ≤ ls.getD i 0 ∧ ls.getD i 0 ≤ 20) ∧ 0 ≤ bits ∧ bits ≤ 1048576 := by unfold rightP; exact Iff.rfl
noncomputable instance (ls : List Int) (bits : Int) : Decidable (rightP ls bits) := Classical.propDecidable _
theorem right_walk (ls : List Int) (h : ls.length = 4) (bits : Int) (hb : InK .i64 bits) : walk F0 0 Tryd.f39 [ar4 ls, i64 bits] [] fun y _ => y = vb (decide (rightP ls bits)) := by
  conv => whnf
  refine loop_at (6 :: List.range' 8 10) (fun m (i : Int) => 0 ≤ i ∧ i ≤ 4 ∧ m = (4 - i).toNat ∧ ∀ j : Nat, (j : Int) < i → 0 ≤ ls.getD j 0 ∧ ls.getD j 0 ≤ 20) (fun i => [(8, vi i)]) (fun _ => [.own 25 [.ints .i64 4 ls]]) 4 0 ⟨by decide, by decide, rfl, fun j hj => by omega⟩ ?_ ?_
  · exact ⟨rfl, ⟨⟨Nat.le_of_ble_eq_true rfl, rfl⟩, trivial⟩, ⟨rfl, trivial⟩, rfl, rfl, Nat.zero_le _⟩
  · rintro m i ⟨i0, i1, rfl, hj⟩
    have em : mulN i.toNat (Tryd.prog.types[3]).size = i.toNat := mulN1 _
    rcases Int.lt_or_le i 4 with i2 | i2
    · have e : ls.getD (mulN i.toNat (Tryd.prog.types[3]).size) 0 = ls.getD i.toNat 0 := by rw [em]
      rcases Classical.em (0 ≤ ls.getD i.toNat 0 ∧ ls.getD i.toNat 0 ≤ 20) with hr | hr
      · repeat' ((conv => whnf); first | (refine ask_true (by omega) ?_) | (refine ask_false (by omega) ?_) | (refine And.intro (by omega) ?_) | (refine fun (_ : InK _ _) => ?_) | (refine ask_wrap64 (by omega) (by omega) ?_) | fail)
        conv => whnf
        refine ⟨(4 - (i + 1)).toNat, i + 1, by omega, ⟨by omega, by omega, rfl, fun j hj' => ?_⟩, rfl, ⟨⟨Nat.le_of_ble_eq_true rfl, rfl⟩, trivial⟩, ⟨rfl, trivial⟩, rfl, rfl, Nat.zero_le _⟩
        rcases Int.lt_or_le (j : Int) i with h1 | h1
        · exact hj j h1
        · have : j = i.toNat := by omega
          rw [this]; exact hr
      · have no : ¬ rightP ls bits := fun hp => hr ((rightP_def ls bits).1 hp |>.1 i.toNat (by omega))
        rw [decide_eq_false no]
        rcases Int.lt_or_le (ls.getD i.toNat 0) 0 with h1 | h1
        all_goals repeat' ((conv => whnf); first | (refine ask_true (by omega) ?_) | (refine ask_false (by omega) ?_) | (refine And.intro (by omega) ?_) | (refine fun (_ : InK _ _) => ?_) | rfl | fail)
    · rcases Classical.em (0 ≤ bits ∧ bits ≤ 1048576) with hr | hr
      · have yes : rightP ls bits := (rightP_def ls bits).2 ⟨fun j h4 => hj j (by omega), hr⟩
        rw [decide_eq_true yes]
        repeat' ((conv => whnf); first | (refine ask_true (by omega) ?_) | (refine ask_false (by omega) ?_) | rfl | fail)
      · have no : ¬ rightP ls bits := fun hp => hr ((rightP_def ls bits).1 hp).2
        rw [decide_eq_false no]
        rcases Int.lt_or_le bits 0 with h1 | h1
        all_goals repeat' ((conv => whnf); first | (refine ask_true (by omega) ?_) | (refine ask_false (by omega) ?_) | rfl | fail)
def ctR (f : List Int → Int → Prop) [∀ a b, Decidable (f a b)] : Ct := fun ws K => match ws with
  | [.agg [.ints .i64 4 xs], .c (.ci .i64 b)] => ∀ τ, τ = decide (f xs b) → K (vb τ)
  | _ => False
theorem right_ct : CtOk Tryd.prog 39 (ctR rightP) := by
  intro ws K h' hr
  unfold ctR at h'
  split at h'
  · rename_i xs b
    exact ⟨_, h' _ rfl, ⟨trivial, rfl⟩, walk_calls F0_ok Tryd.func39 (n := 0) rfl hr rfl (right_walk xs hr.1.1.1 b hr.2.1)⟩
  · exact h'.elim

/-! ### room -/
def roomS (s u : Int) : Int := if s < 10 ∨ s > 32 ∨ u < 0 then 0 else max (8 * s - 40 - u) 0
theorem room_walk (s u : Int) (hs : InK .i64 s) (hu : InK .i64 u) : walk F0 0 Tryd.f27 [i64 s, i64 u] [] fun y _ => y = vi (roomS s u) := by
  obtain ⟨u1, u2⟩ := hu
  simp only [lowK, highK] at u1 u2
  unfold roomS
  rcases Classical.em (s < 10 ∨ s > 32 ∨ u < 0) with h | h
  · rw [if_pos h]
    rcases Int.lt_or_le s 10 with h1 | h1
    · repeat' ((conv => whnf); first | (refine ask_true (by omega) ?_) | (refine ask_false (by omega) ?_) | rfl | fail)
    · rcases Int.lt_or_le 32 s with h2 | h2
      all_goals repeat' ((conv => whnf); first | (refine ask_true (by omega) ?_) | (refine ask_false (by omega) ?_) | rfl | fail)
  · rw [if_neg h]
    repeat' ((conv => whnf); first | (refine ask_true (by omega) ?_) | (refine ask_false (by omega) ?_) | (refine ask_wrap64 (by omega) (by omega) ?_) | rfl | fail)
theorem room_ct : CtOk Tryd.prog 27 (ct2 (fun _ _ => True) roomS) := ct2_ok F0_ok Tryd.func27 (fun a b _ _ _ => by unfold roomS; simp only [InK, lowK, highK]; split <;> omega) fun a b ha hb _ => room_walk a b ha hb
end Go.Proofs.YtmkdamfdlkpjdaaDoor
