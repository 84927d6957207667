/- Chapter state: what is right. -/
import Derived.Test.YtbgjmlncdlcglaaBmd
import Derived.Test.YtbgjmlncdlcglaaXrs
set_option linter.all false
namespace Go.Proofs.Ytbgjmlncdlcglaa
open Go.RowKit (Below)
set_option maxRecDepth 100000
set_option maxHeartbeats 32000000

structure St where
  m : List Int
  l : Int
  v : List Int
  w : List Int
  q : Int
abbrev stW (s : St) : W := .agg [.ints .i64 16 s.m, .one (.ci .i64 s.l), .ints .i64 4 s.v, .ints .i64 16 s.w, .one (.ci .i64 s.q)]
structure StOk (s : St) : Prop where
  m : s.m.length = 16 ∧ ∀ x ∈ s.m, InK .i64 x
  l : InK .i64 s.l
  v : s.v.length = 4 ∧ ∀ x ∈ s.v, InK .i64 x
  w : s.w.length = 16 ∧ ∀ x ∈ s.w, InK .i64 x
  q : InK .i64 s.q
theorem StOk.rng {s : St} (h : StOk s) : (stW s).rng := ⟨h.m, h.l, h.v, h.w, h.q, trivial⟩
theorem stOk_of {s : St} (h : (stW s).rng) : StOk s := ⟨h.1, h.2.1, h.2.2.1, h.2.2.2.1, h.2.2.2.2.1⟩
@[irreducible] def rightP (s : St) : Prop := (∀ x ∈ s.m, -2147483648 ≤ x ∧ x ≤ 2147483647) ∧ (∀ x ∈ s.v, 0 ≤ x ∧ x ≤ 20) ∧ (-2097152 ≤ s.l ∧ s.l ≤ 2097151) ∧ held s.w ∧ 0 ≤ s.q ∧ s.q ≤ 255
theorem rightP_def (s : St) : rightP s ↔ (∀ x ∈ s.m, -2147483648 ≤ x ∧ x ≤ 2147483647) ∧ (∀ x ∈ s.v, 0 ≤ x ∧ x ≤ 20) ∧ (-2097152 ≤ s.l ∧ s.l ≤ 2097151) ∧ held s.w ∧ 0 ≤ s.q ∧ s.q ≤ 255 := by unfold rightP; exact Iff.rfl
noncomputable instance (s : St) : Decidable (rightP s) := Classical.propDecidable _
def ctSt (p : St → Prop) [DecidablePred p] : Ct := fun ws K => match ws with
  | [.agg [.ints .i64 n m, .one (.ci .i64 l), .ints .i64 a v, .ints .i64 b w, .one (.ci .i64 q)]] => (n = 16 ∧ a = 4 ∧ b = 16) ∧ ∀ τ, τ = decide (p ⟨m, l, v, w, q⟩) → K (vb τ)
  | _ => False
theorem ctSt_ok {F : Fns} (hF : FnsOk Try.prog F) {n : Nat} {f : FuncId} {fn : Func} (hf : Try.prog.funcs[f]? = some fn) {p : St → Prop} [DecidablePred p]
    (h : ∀ s, StOk s → walk F n fn [stW s] [] fun y _ => y = vb (decide (p s))) : CtOk Try.prog f (ctSt p) := by
  intro ws K h' hr
  unfold ctSt at h'
  split at h'
  · rename_i n m l a v b w q
    obtain ⟨⟨rfl, rfl, rfl⟩, h'⟩ := h'
    have ok : StOk ⟨m, l, v, w, q⟩ := stOk_of hr.1
    exact ⟨_, h' _ rfl, ⟨trivial, rfl⟩, walk_calls hF hf rfl (ws := [stW ⟨m, l, v, w, q⟩]) ⟨ok.rng, trivial⟩ rfl (h _ ok)⟩
  · exact h'.elim
def ctFits : Ct := fun ws K => match ws with
  | [.c (.ci .i64 x), .c (.ci .i64 n)] => ∀ τ, τ = decide (cutS x n = x) → K (vb τ)
  | _ => False
theorem fits_ct : CtOk Try.prog 76 ctFits := by
  intro ws K h' hr
  unfold ctFits at h'
  split at h'
  · rename_i x n
    refine ⟨_, h' _ rfl, ⟨trivial, rfl⟩, walk_calls FCut_ok Try.func76 (n := 0) rfl hr rfl ?_⟩
    conv => whnf
    refine And.intro trivial ?_
    conv => whnf
    rintro τ rfl
    rfl
  · exact h'.elim
theorem c22_le (x : Int) : cutS x 22 = max (min x 2097151) (-2097152) := by rw [← c22_def, cut22]
abbrev sb (s : St) : Blk := .own 47 (stW s).segs
abbrev rb (s : St) : Blk := .own 44 (stW s).segs
noncomputable def FRi : Fns := (F0.plus 76 ctFits).plus 40 ctHeld
theorem FRi_ok : FnsOk Try.prog FRi := (F0_ok.plus fits_ct Try.func76 (by kernel_rfl) (by kernel_rfl)).plus held_ct Try.func40 (by kernel_rfl) (by kernel_rfl)
theorem mem_at {xs : List Int} {i : Nat} (h : i < xs.length) : xs.getD i 0 ∈ xs := by
  rw [List.getD_eq_getElem?_getD, List.getElem?_eq_getElem h]
  exact List.getElem_mem _
theorem all_of_at {xs : List Int} {p : Int → Prop} (h : ∀ k : Nat, k < xs.length → p (xs.getD k 0)) : ∀ x ∈ xs, p x := by
  intro x hx
  obtain ⟨k, hk, rfl⟩ := List.getElem_of_mem hx
  have := h k hk
  rwa [List.getD_eq_getElem?_getD, List.getElem?_eq_getElem hk] at this
theorem right_walk (s : St) (h : StOk s) : walk FRi 0 Try.f36 [stW s] [] fun y _ => y = vb (decide (rightP s)) := by
  have wrong : ¬ rightP s → decide (rightP s) = false := fun h => decide_eq_false h
  have hm := h.m.1
  have hv := h.v.1
  conv => whnf
  refine loop_at (2 :: 4 :: List.range' 9 7) (fun m (i : Int) => 0 ≤ i ∧ i ≤ 16 ∧ m = (16 - i).toNat ∧ ∀ k : Nat, (k : Int) < i → -2147483648 ≤ s.m.getD k 0 ∧ s.m.getD k 0 ≤ 2147483647) (fun i => [(9, vi i)]) (fun _ => [sb s]) 16 0 ⟨by decide, by decide, rfl, fun k hk => by omega⟩ ?_ ?_
  · exact ⟨rfl, ⟨⟨Nat.le_of_ble_eq_true rfl, rfl⟩, trivial⟩, ⟨rfl, trivial⟩, rfl, rfl, Nat.zero_le _⟩
  · rintro m i ⟨h0, h1, rfl, h3⟩
    have em : mulN i.toNat (Try.prog.types[3]).size = i.toNat := mulN1 i.toNat
    rcases Int.lt_or_le i 16 with h2 | h2
    · have c := cut32 (s.m.getD (mulN i.toNat (Try.prog.types[3]).size) 0)
      repeat' ((conv => whnf); first | (refine ask_true (by omega) ?_) | (refine And.intro (by omega) ?_) | (refine fun (_ : InK _ _) => ?_) | fail)
      refine ask_split (fun hb => ?_) (fun hb => ?_)
      · repeat' ((conv => whnf); first | (refine ask_wrap64 (by omega) (by omega) ?_) | fail)
        conv => whnf
        refine ⟨(16 - (i + 1)).toNat, i + 1, by omega, ⟨by omega, by omega, rfl, fun k hk => ?_⟩, rfl, ⟨⟨Nat.le_of_ble_eq_true rfl, rfl⟩, trivial⟩, ⟨rfl, trivial⟩, rfl, rfl, Nat.zero_le _⟩
        rcases Int.lt_or_le k i with hk2 | hk2
        · exact h3 k hk2
        · obtain rfl : k = i.toNat := by omega
          rw [em] at hb c
          omega
      · rw [wrong (fun hr => by
          rw [rightP_def] at hr
          have := hr.1 _ (mem_at (i := i.toNat) (by omega))
          rw [em] at hb c
          omega)]
        repeat' ((conv => whnf); first | rfl | fail)
    · have hi : i = 16 := by omega
      subst hi
      repeat' ((conv => whnf); first | (refine ask_false (by omega) ?_) | fail)
      conv => whnf
      refine loop_at (2 :: 6 :: List.range' 18 10) (fun m (i : Int) => 0 ≤ i ∧ i ≤ 4 ∧ m = (4 - i).toNat ∧ ∀ k : Nat, (k : Int) < i → 0 ≤ s.v.getD k 0 ∧ s.v.getD k 0 ≤ 20) (fun i => [(18, vi i)]) (fun _ => [sb s]) 4 0 ⟨by decide, by decide, rfl, fun k hk => by omega⟩ ?_ ?_
      · exact ⟨rfl, ⟨⟨Nat.le_of_ble_eq_true rfl, rfl⟩, trivial⟩, ⟨rfl, trivial⟩, rfl, rfl, Nat.zero_le _⟩
      · rintro m i ⟨g0, g1, rfl, g3⟩
        have em : mulN i.toNat (Try.prog.types[3]).size = i.toNat := mulN1 i.toNat
        have bad : i < 4 → ∀ y, y = s.v.getD (mulN i.toNat (Try.prog.types[3]).size) 0 → (y < 0 ∨ 20 < y) → decide (rightP s) = false := fun hi y hy hb => wrong fun hr => by
          rw [rightP_def] at hr
          have := hr.2.1 _ (mem_at (i := i.toNat) (by omega))
          rw [hy, em] at hb
          omega
        rcases Int.lt_or_le i 4 with g2 | g2
        · repeat' ((conv => whnf); first | (refine ask_true (by omega) ?_) | (refine And.intro (by omega) ?_) | (refine fun (_ : InK _ _) => ?_) | fail)
          refine ask_split (fun hb => ?_) (fun hb => ?_)
          · rw [bad g2 _ rfl (.inl hb)]
            repeat' ((conv => whnf); first | rfl | fail)
          · conv => whnf
            refine ask_split (fun hb2 => ?_) (fun hb2 => ?_)
            · rw [bad g2 _ rfl (.inr hb2)]
              repeat' ((conv => whnf); first | rfl | fail)
            · repeat' ((conv => whnf); first | (refine ask_wrap64 (by omega) (by omega) ?_) | fail)
              conv => whnf
              refine ⟨(4 - (i + 1)).toNat, i + 1, by omega, ⟨by omega, by omega, rfl, fun k hk => ?_⟩, rfl, ⟨⟨Nat.le_of_ble_eq_true rfl, rfl⟩, trivial⟩, ⟨rfl, trivial⟩, rfl, rfl, Nat.zero_le _⟩
              rcases Int.lt_or_le k i with hk2 | hk2
              · exact g3 k hk2
              · obtain rfl : k = i.toNat := by omega
                rw [em] at hb hb2
                omega
        · have hi : i = 4 := by omega
          subst hi
          have c := c22_le s.l
          have a1 : ∀ x ∈ s.m, -2147483648 ≤ x ∧ x ≤ 2147483647 := all_of_at fun k hk => h3 k (by omega)
          have a2 : ∀ x ∈ s.v, 0 ≤ x ∧ x ≤ 20 := all_of_at fun k hk => g3 k (by omega)
          repeat' ((conv => whnf); first | (refine ask_false (by omega) ?_) | fail)
          refine ask_split (fun b1 => ?_) (fun b1 => ?_)
          · conv => whnf
            refine And.intro rfl ?_
            conv => whnf
            refine ask_split (fun b2 => ?_) (fun b2 => ?_)
            · conv => whnf
              refine ask_split (fun b3 => ?_) (fun b3 => ?_)
              · conv => whnf
                refine ask_split (fun b4 => ?_) (fun b4 => ?_)
                · rw [decide_eq_true (show rightP s from by rw [rightP_def]; exact ⟨a1, a2, by omega, b2, by omega, by omega⟩)]
                  repeat' ((conv => whnf); first | rfl | fail)
                · rw [wrong (fun hr => by rw [rightP_def] at hr; omega)]
                  repeat' ((conv => whnf); first | rfl | fail)
              · rw [wrong (fun hr => by rw [rightP_def] at hr; omega)]
                repeat' ((conv => whnf); first | rfl | fail)
            · rw [wrong (fun hr => by rw [rightP_def] at hr; exact b2 hr.2.2.2.1)]
              repeat' ((conv => whnf); first | rfl | fail)
          · rw [wrong (fun hr => by rw [rightP_def] at hr; omega)]
            repeat' ((conv => whnf); first | rfl | fail)
theorem right_ct : CtOk Try.prog 36 (ctSt rightP) := ctSt_ok FRi_ok Try.func36 right_walk
end Go.Proofs.Ytbgjmlncdlcglaa
