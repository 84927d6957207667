/- Chapter shape: contracts over rows; what is right. -/
import Derived.Test.YtmkdamfdlkpjdaaCb
set_option linter.all false
namespace Go.Proofs.Ytmkdamfdlkpjdaa
open Go.RowKit (Below)
set_option maxRecDepth 100000
set_option maxHeartbeats 32000000

/-- The row that a slice reads: its cells, all of them. -/
def slK (H : List Blk) (x : C) (K : Nat → Nat → List Int → Prop) : Prop :=
  match x with
  | .csl j o i l c => (o = 0 ∧ i = 0) ∧ hGet H j fun b => match b with
    | .own _ [.ints .i64 n xs] => n = c ∧ K j l xs
    | .ro [.ints .i64 n xs] => n = c ∧ K j l xs
    | _ => False
  | _ => False
theorem slK_spec {H : List Blk} {x : C} {K : Nat → Nat → List Int → Prop} (h : slK H x K) (ho : HOk H) (hx : x.rng) : ∃ j l xs, K j l xs ∧ x = .csl j 0 0 l xs.length ∧ l ≤ xs.length ∧ xs.length ≤ 9223372036854775807 ∧ (∀ y ∈ xs, InK .i64 y) ∧ ((∃ T, H[j]? = some (.own T [.ints .i64 xs.length xs])) ∨ H[j]? = some (.ro [.ints .i64 xs.length xs])) := by
  unfold slK at h
  split at h
  · rename_i j o i l c
    obtain ⟨⟨rfl, rfl⟩, h0⟩ := h
    obtain ⟨b, hb, h⟩ := hGet_spec h0
    clear h0
    have hr := ho.rng b (List.mem_of_getElem? hb)
    obtain ⟨h1, h2⟩ : l ≤ c ∧ c ≤ 9223372036854775807 := hx
    split at h
    · rename_i T n xs
      obtain ⟨hn, hK⟩ := h
      subst hn
      have hl : xs.length = n := hr.1.1
      subst hl
      exact ⟨j, l, xs, hK, rfl, h1, h2, hr.1.2, .inl ⟨_, hb⟩⟩
    · rename_i n xs
      obtain ⟨hn, hK⟩ := h
      subst hn
      have hl : xs.length = n := hr.1.1
      subst hl
      exact ⟨j, l, xs, hK, rfl, h1, h2, hr.1.2, .inr hb⟩
    · exact h.elim
  · exact h.elim
theorem ro_ok {xs : List Int} (hx : ∀ y ∈ xs, InK .i64 y) : HOk [.ro [.ints .i64 xs.length xs]] := ⟨fun b hb => by rw [List.mem_singleton.1 hb]; exact ⟨⟨rfl, hx⟩, trivial⟩, fun b hb => by rw [List.mem_singleton.1 hb]; rfl⟩
theorem ro_at {H : List Blk} {xs : List Int} {j : Nat} (h : (∃ T, H[j]? = some (.own T [.ints .i64 xs.length xs])) ∨ H[j]? = some (.ro [.ints .i64 xs.length xs])) : ∀ (k : Nat) (b : Blk), ([.ro [.ints .i64 xs.length xs]] : List Blk)[k]? = some b → b = .gone ∨ ∃ ss, b = .ro ss ∧ ((∃ T, H[(fun _ => j) k]? = some (.own T (rens (fun _ => j) ss))) ∨ H[(fun _ => j) k]? = some (.ro (rens (fun _ => j) ss))) := by
  intro k b hk
  match k, hk with
  | 0, hk => simp at hk; subst hk; exact .inr ⟨_, rfl, h⟩
  | k + 1, hk => simp at hk

/-! ### right -/
@[irreducible] def rightC (cs : List Int) (k : Int) : Prop := (1 ≤ cs.length ∧ cs.length ≤ 8) ∧ (0 ≤ k ∧ k ≤ 8) ∧ ∀ x ∈ cs, -1048576 ≤ x ∧ x ≤ 1048576
theorem rightC_def (cs : List Int) (k : Int) : rightC cs k ↔ (1 ≤ cs.length ∧ cs.length ≤ 8) ∧ (0 ≤ k ∧ k ≤ 8) ∧ ∀ x ∈ cs, -1048576 ≤ x ∧ x ≤ 1048576 := by unfold rightC; exact Iff.rfl
noncomputable instance (cs : List Int) (k : Int) : Decidable (rightC cs k) := Classical.propDecidable _
theorem bad_walk (x : Int) (hx : InK .i64 x) : walk F0 0 Try.f42 [i64 x] [] fun y _ => y = vb (decide (bad20 x)) := by
  conv => whnf
  refine ask_split (fun h => ?_) (fun h => ?_)
  · rw [decide_eq_true (show bad20 x from .inl h)]
    repeat' ((conv => whnf); first | (refine ask_wrap64 (by omega) (by omega) ?_) | (refine ask_true (by omega) ?_) | (refine ask_false (by omega) ?_) | (refine ⟨trivial, ?_⟩) | (refine ⟨by omega, ?_⟩) | (refine fun (_ : InK _ _) => ?_) | (refine ⟨by kernel_rfl, ?_⟩) | (refine ask_wrapu8 (by omega) (by omega) ?_) | (refine ask_wrapu64 (by omega) (by omega) ?_) | (refine ask_true (show (_ : Bool) = _ from rfl) ?_) | (refine ask_false (show ¬ ((_ : Bool) = _) from Bool.noConfusion) ?_) | fail)
    rfl
  · conv => whnf
    refine ask_split (fun h2 => ?_) (fun h2 => ?_)
    · rw [decide_eq_true (show bad20 x from .inr h2)]
      repeat' ((conv => whnf); first | (refine ask_wrap64 (by omega) (by omega) ?_) | (refine ask_true (by omega) ?_) | (refine ask_false (by omega) ?_) | (refine ⟨trivial, ?_⟩) | (refine ⟨by omega, ?_⟩) | (refine fun (_ : InK _ _) => ?_) | (refine ⟨by kernel_rfl, ?_⟩) | (refine ask_wrapu8 (by omega) (by omega) ?_) | (refine ask_wrapu64 (by omega) (by omega) ?_) | (refine ask_true (show (_ : Bool) = _ from rfl) ?_) | (refine ask_false (show ¬ ((_ : Bool) = _) from Bool.noConfusion) ?_) | fail)
      rfl
    · rw [decide_eq_false (show ¬ bad20 x from fun hb => by unfold bad20 at hb; omega)]
      repeat' ((conv => whnf); first | (refine ask_wrap64 (by omega) (by omega) ?_) | (refine ask_true (by omega) ?_) | (refine ask_false (by omega) ?_) | (refine ⟨trivial, ?_⟩) | (refine ⟨by omega, ?_⟩) | (refine fun (_ : InK _ _) => ?_) | (refine ⟨by kernel_rfl, ?_⟩) | (refine ask_wrapu8 (by omega) (by omega) ?_) | (refine ask_wrapu64 (by omega) (by omega) ?_) | (refine ask_true (show (_ : Bool) = _ from rfl) ?_) | (refine ask_false (show ¬ ((_ : Bool) = _) from Bool.noConfusion) ?_) | fail)
      rfl
theorem bad_ct : CtOk Try.prog 42 (ctP bad20) := ctP_ok F0_ok Try.func42 bad_walk
noncomputable def FH : Fns := ((F0.plus 42 (ctP bad20)).into 37 Try.f37).into 43 Try.f43
theorem FH_ok : FnsOk Try.prog FH := ((F0_ok.plus bad_ct Try.func42 (by kernel_rfl) (by kernel_rfl)).into Try.func37 (by kernel_rfl) (by kernel_rfl)).into Try.func43 (by kernel_rfl) (by kernel_rfl)
theorem getD_take {xs : List Int} {n i : Nat} (h : i < n) : (xs.take n).getD i 0 = xs.getD i 0 := by
  rw [List.getD_eq_getElem?_getD, List.getD_eq_getElem?_getD, List.getElem?_take_of_lt h]
theorem right_walk (xs : List Int) (l : Nat) (k : Int) (hl : l ≤ xs.length) (hc : xs.length ≤ 9223372036854775807) (hx : ∀ x ∈ xs, InK .i64 x) (hk : InK .i64 k) :
    walk FH 2 Try.f31 [.c (.csl 0 0 0 l xs.length), i64 k] [.ro [.ints .i64 xs.length xs]] (Made fun x N => x = vb (decide (rightC (xs.take l) k)) ∧ N = []) := by
  have lt : (xs.take l).length = l := by simp; omega
  have out : ∀ (t : Bool) (H' : List Blk), t = decide (rightC (xs.take l) k) → Made (fun x N => x = vb (decide (rightC (xs.take l) k)) ∧ N = []) (vb t) H' := fun t H' ht =>
    made_of (vb t) [] id ⟨by rw [ht], rfl⟩ rfl trivial (fun p q hp _ _ => absurd hp (Nat.not_lt_zero p)) rfl rfl (by intro e; cases e)
  have no : ¬ rightC (xs.take l) k → false = decide (rightC (xs.take l) k) := fun h => (decide_eq_false h).symm
  by_cases h1 : 1 ≤ l
  · by_cases h2 : l ≤ 8
    · by_cases h3 : 0 ≤ k
      · by_cases h4 : k ≤ 8
        · repeat' ((conv => whnf); first | (refine ask_true (by omega) ?_) | fail)
          conv => whnf
          refine loop_at (4 :: 5 :: List.range' 8 11) (fun m (i : Int) => 0 ≤ i ∧ i ≤ l ∧ m = (l - i).toNat ∧ ∀ k : Nat, (k : Int) < i → ¬ bad20 (xs.getD k 0)) (fun i => [(8, vi i)]) (fun _ => [.ro [.ints .i64 xs.length xs]]) l 0 ⟨by decide, by omega, by omega, fun k hk => by omega⟩ ?_ ?_
          · exact ⟨rfl, ⟨⟨Nat.le_of_ble_eq_true rfl, rfl⟩, trivial⟩, ⟨rfl, trivial⟩, rfl, rfl, Nat.le_of_ble_eq_true rfl⟩
          · rintro m i ⟨i0, i1, rfl, g3⟩
            have em : mulN i.toNat (Try.prog.types[3]).size = i.toNat := mulN1 i.toNat
            rcases Int.lt_or_le i l with i2 | i2
            · have hat : xs.getD (0 + mulN i.toNat (Try.prog.types[3]).size) 0 = xs.getD i.toNat 0 := by rw [em, Nat.zero_add]
              repeat' ((conv => whnf); first | (refine ask_true (by omega) ?_) | (refine And.intro (by omega) ?_) | (refine fun (_ : InK _ _) => ?_) | fail)
              conv => whnf
              refine ask_split (fun hb => ?_) (fun hb => ?_)
              · repeat' ((conv => whnf); first | (refine ask_true (by omega) ?_) | (refine ask_false (by omega) ?_) | fail)
                conv => whnf
                refine out _ _ (no fun hr => ?_)
                rw [rightC_def] at hr
                rw [hat] at hb
                have := hr.2.2 (xs.getD i.toNat 0) (by
                  rw [← getD_take (n := l) (by omega)]
                  exact mem_at (by omega))
                unfold bad20 at hb
                omega
              · repeat' ((conv => whnf); first | (refine ask_wrap64 (by omega) (by omega) ?_) | fail)
                conv => whnf
                refine ⟨(l - (i + 1)).toNat, i + 1, by omega, ⟨by omega, by omega, rfl, fun k hk => ?_⟩, rfl, ⟨⟨Nat.le_of_ble_eq_true rfl, rfl⟩, trivial⟩, ⟨rfl, trivial⟩, rfl, rfl, Nat.le_of_ble_eq_true rfl⟩
                rcases Int.lt_or_le k i with hk2 | hk2
                · exact g3 k hk2
                · rw [hat] at hb
                  obtain rfl : k = i.toNat := by omega
                  exact hb
            · repeat' ((conv => whnf); first | (refine ask_true (by omega) ?_) | (refine ask_false (by omega) ?_) | fail)
              conv => whnf
              refine out _ _ ((decide_eq_true ?_).symm)
              rw [rightC_def]
              refine ⟨by omega, ⟨h3, h4⟩, all_of_at fun k hk => ?_⟩
              have := g3 k (by omega)
              rw [getD_take (by omega)]
              unfold bad20 at this
              omega
        · repeat' ((conv => whnf); first | (refine ask_true (by omega) ?_) | (refine ask_false (by omega) ?_) | fail)
          conv => whnf
          exact out _ _ (no fun hr => by rw [rightC_def] at hr; omega)
      · repeat' ((conv => whnf); first | (refine ask_true (by omega) ?_) | (refine ask_false (by omega) ?_) | fail)
        conv => whnf
        exact out _ _ (no fun hr => by rw [rightC_def] at hr; omega)
    · repeat' ((conv => whnf); first | (refine ask_true (by omega) ?_) | (refine ask_false (by omega) ?_) | fail)
      conv => whnf
      exact out _ _ (no fun hr => by rw [rightC_def] at hr; omega)
  · repeat' ((conv => whnf); first | (refine ask_true (by omega) ?_) | (refine ask_false (by omega) ?_) | fail)
    conv => whnf
    exact out _ _ (no fun hr => by rw [rightC_def] at hr; omega)
theorem right_nil (k : Int) (hk : InK .i64 k) : walk FH 2 Try.f31 [.c .csn, i64 k] [] (Made fun x N => x = vb false ∧ N = []) := by
  repeat' ((conv => whnf); first | (refine ask_true (by omega) ?_) | (refine ask_false (by omega) ?_) | fail)
  conv => whnf
  exact made_of (vb false) [] id ⟨rfl, rfl⟩ rfl trivial (fun p q hp _ _ => absurd hp (Nat.not_lt_zero p)) rfl rfl (by intro e; cases e)
theorem no_ro {H : List Blk} {ρ : Nat → Nat} : ∀ (k : Nat) (b : Blk), ([] : List Blk)[k]? = some b → b = .gone ∨ ∃ ss, b = .ro ss ∧ ((∃ T, H[ρ k]? = some (.own T (rens ρ ss))) ∨ H[ρ k]? = some (.ro (rens ρ ss))) := fun k b hb => by simp at hb
theorem nil_ok : HOk [] := ⟨fun b hb => (by cases hb), fun b hb => (by cases hb)⟩
def hRight : HCt := fun ws H K => match ws with
  | [.c .csn, .c (.ci .i64 _)] => K (vb false) H
  | [.c x, .c (.ci .i64 k)] => slK H x fun _ l xs => ∀ τ, τ = decide (rightC (xs.take l) k) → K (vb τ) H
  | _ => False
theorem right_ct : HCtOk Try.prog 31 hRight := by
  intro ws H K h hr hb ho G σ base w₀ w hw
  unfold hRight at h
  split at h
  · rename_i k
    refine walk_lift FH_ok Try.func31 (n := 2) (ws := [.c .csn, i64 k]) (R := []) (P0 := fun x N => x = vb false ∧ N = []) nil_ok ⟨trivial, hr.2.1, trivial⟩ rfl (right_nil k hr.2.1) ?_ id no_ro rfl ?_ ho G σ base w₀ w hw
    · rintro x N ⟨_, rfl⟩ b hb
      cases hb
    · rintro x N ⟨rfl, rfl⟩
      simpa [V.ren, W.ren, C.ren] using h
  · rename_i x k _
    obtain ⟨j, l, xs, h', hx, g1, g2, g3, g4⟩ := slK_spec h ho hr.1
    clear h
    subst hx
    refine walk_lift FH_ok Try.func31 (n := 2) (ws := [.c (.csl 0 0 0 l xs.length), i64 k]) (R := [.ro [.ints .i64 xs.length xs]]) (P0 := fun x N => x = vb (decide (rightC (xs.take l) k)) ∧ N = []) (ro_ok g3) ⟨⟨g1, g2⟩, hr.2.1, trivial⟩ rfl (right_walk xs l k g1 g2 g3 hr.2.1) ?_ (fun _ => j) (ro_at g4) rfl ?_ ho G σ base w₀ w hw
    · rintro x N ⟨_, rfl⟩ b hb
      cases hb
    · rintro x N ⟨rfl, rfl⟩
      have := h' _ rfl
      simpa [V.ren, W.ren, C.ren] using this
  · exact h.elim
end Go.Proofs.Ytmkdamfdlkpjdaa
