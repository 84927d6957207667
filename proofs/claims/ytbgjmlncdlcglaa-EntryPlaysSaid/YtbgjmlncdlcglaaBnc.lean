/- Chapters state and lost: contracts, and the document's own functions. -/
import Derived.Test.YtbgjmlncdlcglaaBnb
import Derived.Test.YtbgjmlncdlcglaaBto
import Derived.Test.YtbgjmlncdlcglaaBme
set_option linter.all false
namespace Go.Proofs.Ytbgjmlncdlcglaa
open Go.RowKit (Below)
set_option maxRecDepth 100000
set_option maxHeartbeats 32000000

def ctSS (p : St → Prop) (f : St → List Int) (g : St → St) : Ct := fun ws K => match ws with
  | [.agg [.ints .i64 n m, .one (.ci .i64 l), .ints .i64 a v, .ints .i64 b w, .one (.ci .i64 q)]] => (n = 16 ∧ a = 4 ∧ b = 16) ∧ p ⟨m, l, v, w, q⟩ ∧ K (.tup [ar 16 (f ⟨m, l, v, w, q⟩), stW (g ⟨m, l, v, w, q⟩)])
  | _ => False
theorem ctSS_ok {F : Fns} (hF : FnsOk Try.prog F) {n : Nat} {f : FuncId} {fn : Func} (hf : Try.prog.funcs[f]? = some fn) {p : St → Prop} {k : St → List Int} {g : St → St} (hk : ∀ s, StOk s → p s → (k s).length = 16 ∧ ∀ x ∈ k s, InK .i64 x) (hg : ∀ s, StOk s → p s → StOk (g s))
    (h : ∀ s, StOk s → p s → walk F n fn [stW s] [] fun y _ => y = .tup [ar 16 (k s), stW (g s)]) : CtOk Try.prog f (ctSS p k g) := by
  intro ws K h' hr
  unfold ctSS at h'
  split at h'
  · rename_i n m l a v b w q
    obtain ⟨⟨rfl, rfl, rfl⟩, hp, h'⟩ := h'
    have ok : StOk ⟨m, l, v, w, q⟩ := stOk_of hr.1
    have h1 := hk _ ok hp
    exact ⟨_, h', ⟨⟨ar_rng h1.1 h1.2, (hg _ ok hp).rng, trivial⟩, rfl⟩, walk_calls hF hf rfl (ws := [stW ⟨m, l, v, w, q⟩]) ⟨ok.rng, trivial⟩ rfl (h _ ok hp)⟩
  · exact h'.elim
def ctS1 : Ct := fun ws K => match ws with
  | [.agg [.ints .i64 n m, .one (.ci .i64 l), .ints .i64 a v, .ints .i64 b w, .one (.ci .i64 q)]] => (n = 16 ∧ a = 4 ∧ b = 16) ∧ K (.w (stW ⟨m, l, v, w, q⟩))
  | _ => False
theorem ctS1_ok {F : Fns} (hF : FnsOk Try.prog F) {n : Nat} {f : FuncId} {fn : Func} (hf : Try.prog.funcs[f]? = some fn) (h : ∀ s, StOk s → walk F n fn [stW s] [] fun y _ => y = .w (stW s)) : CtOk Try.prog f ctS1 := by
  intro ws K h' hr
  unfold ctS1 at h'
  split at h'
  · rename_i n m l a v b w q
    obtain ⟨⟨rfl, rfl, rfl⟩, h'⟩ := h'
    have ok : StOk ⟨m, l, v, w, q⟩ := stOk_of hr.1
    exact ⟨_, h', ⟨ok.rng, rfl⟩, walk_calls hF hf rfl (ws := [stW ⟨m, l, v, w, q⟩]) ⟨ok.rng, trivial⟩ rfl (h _ ok)⟩
  · exact h'.elim
theorem of_ct : CtOk Try.prog 35 ctS1 := ctS1_ok (n := 0) F0_ok Try.func35 fun s h => by
  repeat' ((conv => whnf); first | (refine ⟨by kernel_rfl, ?_⟩) | rfl | fail)
theorem plain_ct : CtOk Try.prog 38 ctS1 := ctS1_ok (n := 0) F0_ok Try.func38 fun s h => by
  repeat' ((conv => whnf); first | (refine ⟨by kernel_rfl, ?_⟩) | rfl | fail)

theorem held_half {xs : List Int} (h : held xs) : held (xs.map fun x => x.tdiv 2) := by
  rw [held_def] at *
  intro x hx
  obtain ⟨y, hy, rfl⟩ := List.mem_map.1 hx
  have := h y hy
  rcases Int.lt_or_le y 0 with h0 | h0
  · rw [tdiv_neg (by omega)]; omega
  · rw [tdiv_pos h0]; omega
theorem halfZ_held {s : St} (h : rightP s) : held (halfZ s) := by
  rw [rightP_def] at h
  unfold halfZ
  split
  · exact held_half h.2.2.2.1
  · exact held_z16
theorem halfZ_len {s : St} (h : StOk s) : (halfZ s).length = 16 := by
  unfold halfZ
  split
  · simp [h.w.1]
  · rfl
theorem held_in {xs : List Int} (h : held xs) : ∀ x ∈ xs, InK .i64 x := fun x hx => by
  rw [held_def] at h
  have := h x hx
  exact in_of (by omega)
theorem lessZ_len {s : St} (h : StOk s) : (lessZ s).length = 4 := by simp [lessZ, h.v.1]
theorem lessZ_in {s : St} (h : rightP s) : ∀ x ∈ lessZ s, 0 ≤ x ∧ x ≤ 20 := fun x hx => by
  rw [rightP_def] at h
  unfold lessZ at hx
  obtain ⟨y, hy, rfl⟩ := List.mem_map.1 hx
  have := h.2.1 y hy
  omega
theorem lose_right {s : St} (h : rightP s) : okN s (lessZ s) (halfZ s) (min (s.q + 1) 255) := by
  refine ⟨h, ?_⟩
  have hr := h
  rw [rightP_def] at hr ⊢
  refine ⟨fun x hx => ?_, lessZ_in h, ⟨show (-2097152 : Int) ≤ 0 by decide, show (0 : Int) ≤ 2097151 by decide⟩, halfZ_held h, ?_, ?_⟩
  · have hx : x ∈ z16 := hx
    simp only [z16, List.mem_cons, List.not_mem_nil, or_false, or_self] at hx
    omega
  · show 0 ≤ min (s.q + 1) 255; omega
  · show min (s.q + 1) 255 ≤ 255; omega
theorem loseOut_eq {s : St} (h : rightP s) : loseOut s = soundZ (laidZ s (halfZ s)) := outN_ok (lose_right h)
theorem loseSt_eq {s : St} (h : rightP s) : loseSt s = ⟨memZ (halfZ s), laidP s (halfZ s), lessZ s, halfZ s, min (s.q + 1) 255⟩ := stN_ok (lose_right h)
theorem loseOut_no {s : St} (h : ¬ rightP s) : loseOut s = z16 := outN_no fun hh => h hh.1
theorem loseSt_no {s : St} (h : ¬ rightP s) : loseSt s = st0 := stN_no fun hh => h hh.1
theorem loseOut_in (s : St) : ∀ x ∈ loseOut s, InK .i64 x := fun x hx => in_of (by have := outN_in hx; omega)
theorem loseSt_ok {s : St} (h : StOk s) : StOk (loseSt s) := by
  rcases Classical.em (rightP s) with h1 | h1
  · rw [loseSt_eq h1]
    rw [rightP_def] at h1
    refine ⟨⟨memZ_len _, fun x hx => in_of (memZ_in hx)⟩, in_of (by have := laidP_in s (halfZ s); show -2147483648 ≤ laidP s (halfZ s) ∧ laidP s (halfZ s) ≤ 2147483647; omega), ⟨lessZ_len h, fun x hx => in_of (by have := lessZ_in (by rw [rightP_def]; exact h1) x hx; omega)⟩, ⟨halfZ_len h, held_in (halfZ_held (by rw [rightP_def]; exact h1))⟩, in_of ?_⟩
    show -2147483648 ≤ min (s.q + 1) 255 ∧ min (s.q + 1) 255 ≤ 2147483647
    omega
  · rw [loseSt_no h1]; exact st0_ok
theorem lose_ct : CtOk Try.prog 51 (ctSS (fun _ => True) loseOut loseSt) := ctSS_ok FLo_ok Try.func51 (fun s _ _ => ⟨outN_len _ _ _ _, loseOut_in s⟩) (fun s h _ => loseSt_ok h) fun s h _ => lose_walk s h
noncomputable def FGp : Fns := F0.plus 51 (ctSS (fun _ => True) loseOut loseSt)
theorem FGp_ok : FnsOk Try.prog FGp := F0_ok.plus lose_ct Try.func51 (by kernel_rfl) (by kernel_rfl)
theorem gap_ct : CtOk Try.prog 52 (ctSS (fun _ => True) loseOut (fun _ => st0)) := ctSS_ok FGp_ok (n := 0) Try.func52 (fun s _ _ => ⟨outN_len _ _ _ _, loseOut_in s⟩) (fun s h _ => st0_ok) fun s h _ => by
  repeat' ((conv => whnf); first | (refine And.intro ⟨rfl, rfl, rfl⟩ ?_) | (refine And.intro trivial ?_) | (refine ⟨by kernel_rfl, ?_⟩) | rfl | fail)

/-! ### the document's -/
noncomputable def FRr : Fns := F0.plus 44 ctHeld
theorem FRr_ok : FnsOk Try.prog FRr := F0_ok.plus refHeld_ct Try.func44 (by kernel_rfl) (by kernel_rfl)
theorem refRight_walk (s : St) (h : StOk s) : walk FRr 0 Try.f53 [stW s] [] fun y _ => y = vb (decide (rightP s)) := by
  have wrong : ¬ rightP s → decide (rightP s) = false := fun h => decide_eq_false h
  have hm := h.m.1
  have hv := h.v.1
  conv => whnf
  refine loop_at (2 :: 3 :: List.range' 5 16) (fun m (i : Int) => 0 ≤ i ∧ i ≤ 16 ∧ m = (16 - i).toNat ∧ ∀ k : Nat, (k : Int) < i → -2147483648 ≤ s.m.getD k 0 ∧ s.m.getD k 0 ≤ 2147483647) (fun i => [(3, vi i)]) (fun _ => [rb s]) 16 0 ⟨by decide, by decide, rfl, fun k hk => by omega⟩ ?_ ?_
  · exact ⟨rfl, ⟨⟨Nat.le_of_ble_eq_true rfl, rfl⟩, trivial⟩, ⟨rfl, trivial⟩, rfl, rfl, Nat.zero_le _⟩
  · rintro m i ⟨h0, h1, rfl, h3⟩
    have em : mulN i.toNat (Try.prog.types[3]).size = i.toNat := mulN1 i.toNat
    have bad : i < 16 → ∀ y, y = s.m.getD (mulN i.toNat (Try.prog.types[3]).size) 0 → (y < -2147483648 ∨ 2147483647 < y) → decide (rightP s) = false := fun hi y hy hb => wrong fun hr => by
      rw [rightP_def] at hr
      have := hr.1 _ (mem_at (i := i.toNat) (by omega))
      rw [hy, em] at hb
      omega
    rcases Int.lt_or_le i 16 with h2 | h2
    · repeat' ((conv => whnf); first | (refine ask_true (by omega) ?_) | (refine And.intro (by omega) ?_) | (refine fun (_ : InK _ _) => ?_) | fail)
      refine ask_split (fun hb => ?_) (fun hb => ?_)
      · rw [bad h2 _ rfl (.inl hb)]
        repeat' ((conv => whnf); first | rfl | fail)
      · repeat' ((conv => whnf); first | (refine And.intro (by omega) ?_) | (refine fun (_ : InK _ _) => ?_) | fail)
        refine ask_split (fun hb2 => ?_) (fun hb2 => ?_)
        · rw [bad h2 _ rfl (.inr hb2)]
          repeat' ((conv => whnf); first | rfl | fail)
        · repeat' ((conv => whnf); first | (refine ask_wrap64 (by omega) (by omega) ?_) | fail)
          conv => whnf
          refine ⟨(16 - (i + 1)).toNat, i + 1, by omega, ⟨by omega, by omega, rfl, fun k hk => ?_⟩, rfl, ⟨⟨Nat.le_of_ble_eq_true rfl, rfl⟩, trivial⟩, ⟨rfl, trivial⟩, rfl, rfl, Nat.zero_le _⟩
          rcases Int.lt_or_le k i with hk2 | hk2
          · exact h3 k hk2
          · obtain rfl : k = i.toNat := by omega
            rw [em] at hb hb2
            omega
    · have hi : i = 16 := by omega
      subst hi
      repeat' ((conv => whnf); first | (refine ask_false (by omega) ?_) | fail)
      conv => whnf
      refine loop_at (2 :: 4 :: List.range' 21 16) (fun m (i : Int) => 0 ≤ i ∧ i ≤ 4 ∧ m = (4 - i).toNat ∧ ∀ k : Nat, (k : Int) < i → 0 ≤ s.v.getD k 0 ∧ s.v.getD k 0 ≤ 20) (fun i => [(4, vi i)]) (fun _ => [rb s]) 4 0 ⟨by decide, by decide, rfl, fun k hk => by omega⟩ ?_ ?_
      · exact ⟨rfl, ⟨⟨Nat.le_of_ble_eq_true rfl, rfl⟩, trivial⟩, ⟨rfl, trivial⟩, rfl, rfl, Nat.zero_le _⟩
      · rintro m i ⟨g0, g1, rfl, g3⟩
        have em : mulN i.toNat (Try.prog.types[3]).size = i.toNat := mulN1 i.toNat
        have bad : i < 4 → ∀ y, y = s.v.getD (mulN i.toNat (Try.prog.types[3]).size) 0 → (y < 0 ∨ 20 < y) → decide (rightP s) = false := fun hi y hy hb => wrong fun hr => by
          rw [rightP_def] at hr
          have := hr.2.1 _ (mem_at (i := i.toNat) (by omega))
          rw [hy, em] at hb
          omega
        rcases Int.lt_or_le i 4 with g2 | g2
        · repeat' ((conv => whnf); first | (refine ask_true (by omega) ?_) | (refine And.intro (by omega) ?_) | (refine fun (_ : InK _ _) => ?_) | fail)
          refine ask_split (fun hb => ?_) (fun hb => ?_)
          · rw [bad g2 _ rfl (.inl hb)]
            repeat' ((conv => whnf); first | rfl | fail)
          · repeat' ((conv => whnf); first | (refine And.intro (by omega) ?_) | (refine fun (_ : InK _ _) => ?_) | fail)
            refine ask_split (fun hb2 => ?_) (fun hb2 => ?_)
            · rw [bad g2 _ rfl (.inr hb2)]
              repeat' ((conv => whnf); first | rfl | fail)
            · repeat' ((conv => whnf); first | (refine ask_wrap64 (by omega) (by omega) ?_) | fail)
              conv => whnf
              refine ⟨(4 - (i + 1)).toNat, i + 1, by omega, ⟨by omega, by omega, rfl, fun k hk => ?_⟩, rfl, ⟨⟨Nat.le_of_ble_eq_true rfl, rfl⟩, trivial⟩, ⟨rfl, trivial⟩, rfl, rfl, Nat.zero_le _⟩
              rcases Int.lt_or_le k i with hk2 | hk2
              · exact g3 k hk2
              · obtain rfl : k = i.toNat := by omega
                rw [em] at hb hb2
                omega
        · have hi : i = 4 := by omega
          subst hi
          have a1 : ∀ x ∈ s.m, -2147483648 ≤ x ∧ x ≤ 2147483647 := all_of_at fun k hk => h3 k (by omega)
          have a2 : ∀ x ∈ s.v, 0 ≤ x ∧ x ≤ 20 := all_of_at fun k hk => g3 k (by omega)
          repeat' ((conv => whnf); first | (refine ask_false (by omega) ?_) | fail)
          refine ask_split (fun b0 => ?_) (fun b0 => ?_)
          · conv => whnf
            refine ask_split (fun b1 => ?_) (fun b1 => ?_)
            · conv => whnf
              refine And.intro rfl ?_
              conv => whnf
              refine ask_split (fun b2 => ?_) (fun b2 => ?_)
              · conv => whnf
                refine ask_split (fun b3 => ?_) (fun b3 => ?_)
                · conv => whnf
                  refine ask_split (fun b4 => ?_) (fun b4 => ?_)
                  · rw [decide_eq_true (show rightP s from by rw [rightP_def]; exact ⟨a1, a2, by omega, b2, by omega, by omega⟩)]
                    repeat' ((conv => whnf); first | rfl | fail)
                  · rw [wrong (fun hr => by rw [rightP_def] at hr; omega)]
                    repeat' ((conv => whnf); first | rfl | fail)
                · rw [wrong (fun hr => by rw [rightP_def] at hr; omega)]
                  repeat' ((conv => whnf); first | rfl | fail)
              · rw [wrong (fun hr => by rw [rightP_def] at hr; exact b2 hr.2.2.2.1)]
                repeat' ((conv => whnf); first | rfl | fail)
            · rw [wrong (fun hr => by rw [rightP_def] at hr; omega)]
              repeat' ((conv => whnf); first | rfl | fail)
          · rw [wrong (fun hr => by rw [rightP_def] at hr; omega)]
            repeat' ((conv => whnf); first | rfl | fail)
theorem refRight_ct : CtOk Try.prog 53 (ctSt rightP) := ctSt_ok FRr_ok Try.func53 refRight_walk
end Go.Proofs.Ytbgjmlncdlcglaa
