/- C: what is needed here of the texts XCa XCb XCc XCd XCe. (Printed by fam.py.) -/
import Derived.Test.YtaficaacogcblaaGreatDoorXs
import Derived.Test.YtaficaacogcblaaGreatDoorXrs
import Derived.Test.YtaficaacogcblaaGreatDoorXr
set_option linter.all false
namespace Go.Proofs.YtaficaacogcblaaGreatDoor
namespace C
open Go.RowKit (Below)
set_option maxRecDepth 100000
set_option maxHeartbeats 32000000

theorem prod_bound {a b m n : Int} (h1 : -m ≤ a) (h2 : a ≤ m) (h3 : -n ≤ b) (h4 : b ≤ n) : -(m * n) ≤ a * b ∧ a * b ≤ m * n := by
  have h5 : 0 ≤ (m - a) * (n - b) := Int.mul_nonneg (by omega) (by omega)
  have h6 : 0 ≤ (m + a) * (n + b) := Int.mul_nonneg (by omega) (by omega)
  have h7 : 0 ≤ (m - a) * (n + b) := Int.mul_nonneg (by omega) (by omega)
  have h8 : 0 ≤ (m + a) * (n - b) := Int.mul_nonneg (by omega) (by omega)
  simp only [Int.sub_mul, Int.mul_sub, Int.add_mul, Int.mul_add] at h5 h6 h7 h8
  constructor <;> omega
theorem mul_bound {a b m n : Int} (h1 : 0 ≤ a) (h2 : a ≤ m) (h3 : 0 ≤ b) (h4 : b ≤ n) : 0 ≤ a * b ∧ a * b ≤ m * n := by
  have := prod_bound (a := a) (b := b) (m := m) (n := n) (by omega) h2 (by omega) h4
  exact ⟨Int.mul_nonneg h1 h3, this.2⟩
/-- Some of a list's places have their new values. -/
def stg (zs xs : List Int) (i : Int) : List Int := zs.take i.toNat ++ xs.drop i.toNat
theorem stg_set {zs xs : List Int} {i : Int} {m : Nat} (hm : m = i.toNat) {v : Int} (h : zs.length = xs.length) (h0 : 0 ≤ i) (h1 : i < zs.length) (hv : zs.getD i.toNat 0 = v) : (stg zs xs i).set m v = stg zs xs (i + 1) := by
  subst hm hv
  have hlt : i.toNat < zs.length := by omega
  have hlt' : i.toNat < xs.length := by omega
  unfold stg
  rw [show (i + 1).toNat = i.toNat + 1 by omega]
  rw [List.set_append_right _ _ (by simp; omega)]
  have e : i.toNat - (zs.take i.toNat).length = 0 := by simp; omega
  rw [e, List.drop_eq_getElem_cons hlt', List.set_cons_zero, List.take_succ_eq_append_getElem hlt, List.append_assoc, List.singleton_append]
  congr 2
  rw [List.getD_eq_getElem?_getD, List.getElem?_eq_getElem hlt]; rfl
theorem stg_zero (zs xs : List Int) : stg zs xs 0 = xs := by simp [stg]
theorem stg_all {zs xs : List Int} (h : zs.length = xs.length) {i : Int} (hi : i = zs.length) : stg zs xs i = zs := by
  subst hi
  unfold stg
  rw [Int.toNat_natCast, List.take_length, List.drop_of_length_le (by omega), List.append_nil]
theorem mulN1 (n : Nat) : mulN n 1 = n := (mulN_eq n 1).trans (Nat.mul_one n)
theorem getD_range {f : Nat → Int} {m i : Nat} (h : i < m) : ((List.range m).map f).getD i 0 = f i := by
  simp [List.getD_eq_getElem?_getD, h]
def bad20 (x : Int) : Prop := x < -1048576 ∨ 1048576 < x
instance (x : Int) : Decidable (bad20 x) := by unfold bad20; infer_instance
instance (x : Int) : Decidable (bad20 x) := by unfold bad20; infer_instance
def ctP (p : Int → Prop) [DecidablePred p] : Ct := fun ws K => match ws with
  | [.c (.ci .i64 a)] => ∀ τ, τ = decide (p a) → K (vb τ)
  | _ => False
theorem ctP_ok {F : Fns} (hF : FnsOk Tryz.prog F) {n : Nat} {f : FuncId} {fn : Func} (hf : Tryz.prog.funcs[f]? = some fn) {p : Int → Prop} [DecidablePred p]
    (h : ∀ a, InK .i64 a → walk F n fn [i64 a] [] fun y _ => y = vb (decide (p a))) : CtOk Tryz.prog f (ctP p) := by
  intro ws K h' hr
  unfold ctP at h'
  split at h'
  · rename_i a
    exact ⟨_, h' _ rfl, ⟨trivial, rfl⟩, walk_calls hF hf rfl hr rfl (h a hr.1)⟩
  · exact h'.elim
theorem mem_at {xs : List Int} {i : Nat} (h : i < xs.length) : xs.getD i 0 ∈ xs := by
  rw [List.getD_eq_getElem?_getD, List.getElem?_eq_getElem h]
  exact List.getElem_mem _
theorem all_of_at {xs : List Int} {p : Int → Prop} (h : ∀ k : Nat, k < xs.length → p (xs.getD k 0)) : ∀ x ∈ xs, p x := by
  intro x hx
  obtain ⟨k, hk, rfl⟩ := List.getElem_of_mem hx
  have := h k hk
  rwa [List.getD_eq_getElem?_getD, List.getElem?_eq_getElem hk] at this
theorem stg_at {zs xs : List Int} {i : Int} {m : Nat} (hm : m = i.toNat) (h : zs.length = xs.length) (h0 : 0 ≤ i) (h1 : i < xs.length) : (stg zs xs i).getD m 0 = xs.getD m 0 := by
  subst hm
  unfold stg
  rw [List.getD_eq_getElem?_getD, List.getD_eq_getElem?_getD, List.getElem?_append_right (by simp; omega), List.getElem?_drop]
  congr 2
  simp
  omega
theorem set_same {xs : List Int} {m : Nat} {v : Int} (h : xs.getD m 0 = v) : xs.set m v = xs := by
  apply List.ext_getElem?
  intro k
  rcases Nat.lt_or_ge m xs.length with hm | hm
  · by_cases hk : m = k
    · subst hk
      rw [List.getElem?_set_self hm, List.getElem?_eq_getElem hm, ← h, List.getD_eq_getElem?_getD, List.getElem?_eq_getElem hm]; rfl
    · rw [List.getElem?_set_ne hk]
  · rw [List.set_eq_of_length_le hm]
/-- The row that a slice reads: its cells, all of them. -/
def slK (H : List Blk) (x : C) (K : Nat → Nat → List Int → Prop) : Prop :=
  match x with
  | .csl j o i l c => (o = 0 ∧ i = 0) ∧ hGet H j fun b => match b with
    | .own _ [.ints .i64 n xs] => n = c ∧ K j l xs
    | .ro [.ints .i64 n xs] => n = c ∧ K j l xs
    | _ => False
  | _ => False
theorem slK_spec {H : List Blk} {x : C} {K : Nat → Nat → List Int → Prop} (h : slK H x K) (ho : HOk H) (hx : x.rng) : ∃ j l xs, K j l xs ∧ x = .csl j 0 0 l xs.length ∧ l ≤ xs.length ∧ xs.length ≤ 9223372036854775807 ∧ (∀ y ∈ xs, InK .i64 y) ∧ ((∃ T, H[j]? = some (.own T [.ints .i64 xs.length xs])) ∨ H[j]? = some (.ro [.ints .i64 xs.length xs])) := by
  unfold slK at h
  split at h
  · rename_i j o i l c
    obtain ⟨⟨rfl, rfl⟩, h0⟩ := h
    obtain ⟨b, hb, h⟩ := hGet_spec h0
    clear h0
    have hr := ho.rng b (List.mem_of_getElem? hb)
    obtain ⟨h1, h2⟩ : l ≤ c ∧ c ≤ 9223372036854775807 := hx
    split at h
    · rename_i T n xs
      obtain ⟨hn, hK⟩ := h
      subst hn
      have hl : xs.length = n := hr.1.1
      subst hl
      exact ⟨j, l, xs, hK, rfl, h1, h2, hr.1.2, .inl ⟨_, hb⟩⟩
    · rename_i n xs
      obtain ⟨hn, hK⟩ := h
      subst hn
      have hl : xs.length = n := hr.1.1
      subst hl
      exact ⟨j, l, xs, hK, rfl, h1, h2, hr.1.2, .inr hb⟩
    · exact h.elim
  · exact h.elim
theorem ro_ok {xs : List Int} (hx : ∀ y ∈ xs, InK .i64 y) : HOk [.ro [.ints .i64 xs.length xs]] := ⟨fun b hb => by rw [List.mem_singleton.1 hb]; exact ⟨⟨rfl, hx⟩, trivial⟩, fun b hb => by rw [List.mem_singleton.1 hb]; rfl⟩
theorem ro_at {H : List Blk} {xs : List Int} {j : Nat} (h : (∃ T, H[j]? = some (.own T [.ints .i64 xs.length xs])) ∨ H[j]? = some (.ro [.ints .i64 xs.length xs])) : ∀ (k : Nat) (b : Blk), ([.ro [.ints .i64 xs.length xs]] : List Blk)[k]? = some b → b = .gone ∨ ∃ ss, b = .ro ss ∧ ((∃ T, H[(fun _ => j) k]? = some (.own T (rens (fun _ => j) ss))) ∨ H[(fun _ => j) k]? = some (.ro (rens (fun _ => j) ss))) := by
  intro k b hk
  match k, hk with
  | 0, hk => simp at hk; subst hk; exact .inr ⟨_, rfl, h⟩
  | k + 1, hk => simp at hk
@[irreducible] def rightC (cs : List Int) (k : Int) : Prop := (1 ≤ cs.length ∧ cs.length ≤ 8) ∧ (0 ≤ k ∧ k ≤ 8) ∧ ∀ x ∈ cs, -1048576 ≤ x ∧ x ≤ 1048576
theorem rightC_def (cs : List Int) (k : Int) : rightC cs k ↔ (1 ≤ cs.length ∧ cs.length ≤ 8) ∧ (0 ≤ k ∧ k ≤ 8) ∧ ∀ x ∈ cs, -1048576 ≤ x ∧ x ≤ 1048576 := by unfold rightC; exact Iff.rfl
noncomputable instance (cs : List Int) (k : Int) : Decidable (rightC cs k) := Classical.propDecidable _
theorem bad_walk (x : Int) (hx : InK .i64 x) : walk F0 0 Tryz.f156 [i64 x] [] fun y _ => y = vb (decide (bad20 x)) := by
  conv => whnf
  refine ask_split (fun h => ?_) (fun h => ?_)
  · rw [decide_eq_true (show bad20 x from .inl h)]
    repeat' ((conv => whnf); first | (refine ask_wrap64 (by omega) (by omega) ?_) | (refine ask_true (by omega) ?_) | (refine ask_false (by omega) ?_) | (refine ⟨trivial, ?_⟩) | (refine ⟨by omega, ?_⟩) | (refine fun (_ : InK _ _) => ?_) | (refine ⟨by kernel_rfl, ?_⟩) | (refine ask_wrapu8 (by omega) (by omega) ?_) | (refine ask_wrapu64 (by omega) (by omega) ?_) | (refine ask_true (show (_ : Bool) = _ from rfl) ?_) | (refine ask_false (show ¬ ((_ : Bool) = _) from Bool.noConfusion) ?_) | fail)
    rfl
  · conv => whnf
    refine ask_split (fun h2 => ?_) (fun h2 => ?_)
    · rw [decide_eq_true (show bad20 x from .inr h2)]
      repeat' ((conv => whnf); first | (refine ask_wrap64 (by omega) (by omega) ?_) | (refine ask_true (by omega) ?_) | (refine ask_false (by omega) ?_) | (refine ⟨trivial, ?_⟩) | (refine ⟨by omega, ?_⟩) | (refine fun (_ : InK _ _) => ?_) | (refine ⟨by kernel_rfl, ?_⟩) | (refine ask_wrapu8 (by omega) (by omega) ?_) | (refine ask_wrapu64 (by omega) (by omega) ?_) | (refine ask_true (show (_ : Bool) = _ from rfl) ?_) | (refine ask_false (show ¬ ((_ : Bool) = _) from Bool.noConfusion) ?_) | fail)
      rfl
    · rw [decide_eq_false (show ¬ bad20 x from fun hb => by unfold bad20 at hb; omega)]
      repeat' ((conv => whnf); first | (refine ask_wrap64 (by omega) (by omega) ?_) | (refine ask_true (by omega) ?_) | (refine ask_false (by omega) ?_) | (refine ⟨trivial, ?_⟩) | (refine ⟨by omega, ?_⟩) | (refine fun (_ : InK _ _) => ?_) | (refine ⟨by kernel_rfl, ?_⟩) | (refine ask_wrapu8 (by omega) (by omega) ?_) | (refine ask_wrapu64 (by omega) (by omega) ?_) | (refine ask_true (show (_ : Bool) = _ from rfl) ?_) | (refine ask_false (show ¬ ((_ : Bool) = _) from Bool.noConfusion) ?_) | fail)
      rfl
theorem bad_ct : CtOk Tryz.prog 156 (ctP bad20) := ctP_ok F0_ok Tryz.func156 bad_walk
noncomputable def FH : Fns := ((F0.plus 156 (ctP bad20)).into 111 Tryz.f111).into 148 Tryz.f148
theorem FH_ok : FnsOk Tryz.prog FH := ((F0_ok.plus bad_ct Tryz.func156 (by kernel_rfl) (by kernel_rfl)).into Tryz.func111 (by kernel_rfl) (by kernel_rfl)).into Tryz.func148 (by kernel_rfl) (by kernel_rfl)
theorem getD_take {xs : List Int} {n i : Nat} (h : i < n) : (xs.take n).getD i 0 = xs.getD i 0 := by
  rw [List.getD_eq_getElem?_getD, List.getD_eq_getElem?_getD, List.getElem?_take_of_lt h]
theorem right_walk (xs : List Int) (l : Nat) (k : Int) (hl : l ≤ xs.length) (hc : xs.length ≤ 9223372036854775807) (hx : ∀ x ∈ xs, InK .i64 x) (hk : InK .i64 k) :
    walk FH 2 Tryz.f136 [.c (.csl 0 0 0 l xs.length), i64 k] [.ro [.ints .i64 xs.length xs]] (Made fun x N => x = vb (decide (rightC (xs.take l) k)) ∧ N = []) := by
  have lt : (xs.take l).length = l := by simp; omega
  have out : ∀ (t : Bool) (H' : List Blk), t = decide (rightC (xs.take l) k) → Made (fun x N => x = vb (decide (rightC (xs.take l) k)) ∧ N = []) (vb t) H' := fun t H' ht =>
    made_of (vb t) [] id ⟨by rw [ht], rfl⟩ rfl trivial (fun p q hp _ _ => absurd hp (Nat.not_lt_zero p)) rfl rfl (by intro e; cases e)
  have no : ¬ rightC (xs.take l) k → false = decide (rightC (xs.take l) k) := fun h => (decide_eq_false h).symm
  by_cases h1 : 1 ≤ l
  · by_cases h2 : l ≤ 8
    · by_cases h3 : 0 ≤ k
      · by_cases h4 : k ≤ 8
        · repeat' ((conv => whnf); first | (refine ask_true (by omega) ?_) | fail)
          conv => whnf
          refine loop_at (4 :: 5 :: List.range' 8 11) (fun m (i : Int) => 0 ≤ i ∧ i ≤ l ∧ m = (l - i).toNat ∧ ∀ k : Nat, (k : Int) < i → ¬ bad20 (xs.getD k 0)) (fun i => [(8, vi i)]) (fun _ => [.ro [.ints .i64 xs.length xs]]) l 0 ⟨by decide, by omega, by omega, fun k hk => by omega⟩ ?_ ?_
          · exact ⟨rfl, ⟨⟨Nat.le_of_ble_eq_true rfl, rfl⟩, trivial⟩, ⟨rfl, trivial⟩, rfl, rfl, Nat.le_of_ble_eq_true rfl⟩
          · rintro m i ⟨i0, i1, rfl, g3⟩
            have em : mulN i.toNat (Tryz.prog.types[3]).size = i.toNat := mulN1 i.toNat
            rcases Int.lt_or_le i l with i2 | i2
            · have hat : xs.getD (0 + mulN i.toNat (Tryz.prog.types[3]).size) 0 = xs.getD i.toNat 0 := by rw [em, Nat.zero_add]
              repeat' ((conv => whnf); first | (refine ask_true (by omega) ?_) | (refine And.intro (by omega) ?_) | (refine fun (_ : InK _ _) => ?_) | fail)
              conv => whnf
              refine ask_split (fun hb => ?_) (fun hb => ?_)
              · repeat' ((conv => whnf); first | (refine ask_true (by omega) ?_) | (refine ask_false (by omega) ?_) | fail)
                conv => whnf
                refine out _ _ (no fun hr => ?_)
                rw [rightC_def] at hr
                rw [hat] at hb
                have := hr.2.2 (xs.getD i.toNat 0) (by
                  rw [← getD_take (n := l) (by omega)]
                  exact mem_at (by omega))
                unfold bad20 at hb
                omega
              · repeat' ((conv => whnf); first | (refine ask_wrap64 (by omega) (by omega) ?_) | fail)
                conv => whnf
                refine ⟨(l - (i + 1)).toNat, i + 1, by omega, ⟨by omega, by omega, rfl, fun k hk => ?_⟩, rfl, ⟨⟨Nat.le_of_ble_eq_true rfl, rfl⟩, trivial⟩, ⟨rfl, trivial⟩, rfl, rfl, Nat.le_of_ble_eq_true rfl⟩
                rcases Int.lt_or_le k i with hk2 | hk2
                · exact g3 k hk2
                · rw [hat] at hb
                  obtain rfl : k = i.toNat := by omega
                  exact hb
            · repeat' ((conv => whnf); first | (refine ask_true (by omega) ?_) | (refine ask_false (by omega) ?_) | fail)
              conv => whnf
              refine out _ _ ((decide_eq_true ?_).symm)
              rw [rightC_def]
              refine ⟨by omega, ⟨h3, h4⟩, all_of_at fun k hk => ?_⟩
              have := g3 k (by omega)
              rw [getD_take (by omega)]
              unfold bad20 at this
              omega
        · repeat' ((conv => whnf); first | (refine ask_true (by omega) ?_) | (refine ask_false (by omega) ?_) | fail)
          conv => whnf
          exact out _ _ (no fun hr => by rw [rightC_def] at hr; omega)
      · repeat' ((conv => whnf); first | (refine ask_true (by omega) ?_) | (refine ask_false (by omega) ?_) | fail)
        conv => whnf
        exact out _ _ (no fun hr => by rw [rightC_def] at hr; omega)
    · repeat' ((conv => whnf); first | (refine ask_true (by omega) ?_) | (refine ask_false (by omega) ?_) | fail)
      conv => whnf
      exact out _ _ (no fun hr => by rw [rightC_def] at hr; omega)
  · repeat' ((conv => whnf); first | (refine ask_true (by omega) ?_) | (refine ask_false (by omega) ?_) | fail)
    conv => whnf
    exact out _ _ (no fun hr => by rw [rightC_def] at hr; omega)
theorem right_nil (k : Int) (hk : InK .i64 k) : walk FH 2 Tryz.f136 [.c .csn, i64 k] [] (Made fun x N => x = vb false ∧ N = []) := by
  repeat' ((conv => whnf); first | (refine ask_true (by omega) ?_) | (refine ask_false (by omega) ?_) | fail)
  conv => whnf
  exact made_of (vb false) [] id ⟨rfl, rfl⟩ rfl trivial (fun p q hp _ _ => absurd hp (Nat.not_lt_zero p)) rfl rfl (by intro e; cases e)
theorem no_ro {H : List Blk} {ρ : Nat → Nat} : ∀ (k : Nat) (b : Blk), ([] : List Blk)[k]? = some b → b = .gone ∨ ∃ ss, b = .ro ss ∧ ((∃ T, H[ρ k]? = some (.own T (rens ρ ss))) ∨ H[ρ k]? = some (.ro (rens ρ ss))) := fun k b hb => by simp at hb
theorem nil_ok : HOk [] := ⟨fun b hb => (by cases hb), fun b hb => (by cases hb)⟩
def hRight : HCt := fun ws H K => match ws with
  | [.c .csn, .c (.ci .i64 _)] => K (vb false) H
  | [.c x, .c (.ci .i64 k)] => slK H x fun _ l xs => ∀ τ, τ = decide (rightC (xs.take l) k) → K (vb τ) H
  | _ => False
theorem right_ct : HCtOk Tryz.prog 136 hRight := by
  intro ws H K h hr hb ho G σ base w₀ w hw
  unfold hRight at h
  split at h
  · rename_i k
    refine walk_lift FH_ok Tryz.func136 (n := 2) (ws := [.c .csn, i64 k]) (R := []) (P0 := fun x N => x = vb false ∧ N = []) nil_ok ⟨trivial, hr.2.1, trivial⟩ rfl (right_nil k hr.2.1) ?_ id no_ro rfl ?_ ho G σ base w₀ w hw
    · rintro x N ⟨_, rfl⟩ b hb
      cases hb
    · rintro x N ⟨rfl, rfl⟩
      simpa [V.ren, W.ren, C.ren] using h
  · rename_i x k _
    obtain ⟨j, l, xs, h', hx, g1, g2, g3, g4⟩ := slK_spec h ho hr.1
    clear h
    subst hx
    refine walk_lift FH_ok Tryz.func136 (n := 2) (ws := [.c (.csl 0 0 0 l xs.length), i64 k]) (R := [.ro [.ints .i64 xs.length xs]]) (P0 := fun x N => x = vb (decide (rightC (xs.take l) k)) ∧ N = []) (ro_ok g3) ⟨⟨g1, g2⟩, hr.2.1, trivial⟩ rfl (right_walk xs l k g1 g2 g3 hr.2.1) ?_ (fun _ => j) (ro_at g4) rfl ?_ ho G σ base w₀ w hw
    · rintro x N ⟨_, rfl⟩ b hb
      cases hb
    · rintro x N ⟨rfl, rfl⟩
      have := h' _ rfl
      simpa [V.ren, W.ren, C.ren] using this
  · exact h.elim
def absI (x : Int) : Int := max x (0 - x)
structure Fd where
  a : Int
  q : Int
  y : List Int
noncomputable def topF (c : List Int) (s : Fd) (i : Nat) : Int := (s.a + absI (c.getD i 0)) * (s.a + absI (c.getD i 0))
noncomputable def botF (s : Fd) (i : Nat) : Int := s.q + (2 : Int) * s.y.getD i 0 + 1
noncomputable def bestF (c : List Int) (s : Fd) : Nat → Nat
  | 0 => 0
  | i + 1 => if topF c s i * botF s (bestF c s i) > topF c s (bestF c s i) * botF s i then i else bestF c s i
noncomputable def stepF (c : List Int) (n : Nat) (s : Fd) : Fd := ⟨s.a + absI (c.getD (bestF c s n) 0), botF s (bestF c s n), s.y.set (bestF c s n) (s.y.getD (bestF c s n) 0 + 1)⟩
noncomputable def fdRun (c : List Int) (n : Nat) : Nat → Fd
  | 0 => ⟨0, 0, List.replicate n 0⟩
  | j + 1 => stepF c n (fdRun c n j)
noncomputable def signF (c y : List Int) (n : Nat) : List Int := (List.range n).map fun i => if c.getD i 0 < 0 then 0 - y.getD i 0 else y.getD i 0
noncomputable def findZ (c : List Int) (n k : Nat) : List Int := signF c (fdRun c n k).y n
theorem bestF_lt (c : List Int) (s : Fd) : ∀ i, 0 < i → bestF c s i < i
  | 0, h => absurd h (Nat.lt_irrefl 0)
  | i + 1, _ => by
    show (if _ then i else bestF c s i) < i + 1
    split
    · omega
    · rcases Nat.eq_zero_or_pos i with h | h
      · subst h; exact Nat.lt_succ_self 0
      · have := bestF_lt c s i h; omega
structure FdOk (n : Nat) (j : Int) (s : Fd) : Prop where
  len : s.y.length = n
  a : 0 ≤ s.a ∧ s.a ≤ 1048576 * j
  q : 0 ≤ s.q ∧ s.q ≤ 17 * j
  y : ∀ i, 0 ≤ s.y.getD i 0 ∧ s.y.getD i 0 ≤ j
theorem abs_le {x : Int} (h : -1048576 ≤ x ∧ x ≤ 1048576) : 0 ≤ absI x ∧ absI x ≤ 1048576 := by unfold absI; omega
theorem set_getD' {xs : List Int} {b i : Nat} {v : Int} (hb : b < xs.length) : (xs.set b v).getD i 0 = if i = b then v else xs.getD i 0 := by
  rw [List.getD_eq_getElem?_getD, List.getD_eq_getElem?_getD]
  by_cases h : i = b
  · subst h; rw [List.getElem?_set_self hb, if_pos rfl]; rfl
  · rw [List.getElem?_set_ne (Ne.symm h), if_neg h]
theorem FdOk.step {c : List Int} {n : Nat} {j : Int} {s : Fd} (h : FdOk n j s) (hn : 0 < n) (hj : 0 ≤ j ∧ j < 8) (hc : ∀ i, -1048576 ≤ c.getD i 0 ∧ c.getD i 0 ≤ 1048576) : FdOk n (j + 1) (stepF c n s) := by
  have hb := bestF_lt c s n hn
  have h1 := abs_le (hc (bestF c s n))
  have h2 := h.y (bestF c s n)
  have ha := h.a
  have hq := h.q
  refine ⟨by show (s.y.set _ _).length = n; rw [List.length_set]; exact h.len, ?_, ?_, fun i => ?_⟩
  · show 0 ≤ s.a + absI _ ∧ s.a + absI _ ≤ 1048576 * (j + 1); omega
  · show 0 ≤ botF s _ ∧ botF s _ ≤ 17 * (j + 1)
    unfold botF; omega
  · show 0 ≤ (s.y.set _ _).getD i 0 ∧ (s.y.set _ _).getD i 0 ≤ j + 1
    rw [set_getD' (by rw [h.len]; exact hb)]
    have := h.y i
    split <;> omega
theorem FdOk.zero (n : Nat) : FdOk n 0 ⟨0, 0, List.replicate n 0⟩ := ⟨by simp, ⟨Int.le_refl 0, Int.le_refl 0⟩, ⟨Int.le_refl 0, Int.le_refl 0⟩, fun i => by
  rw [List.getD_eq_getElem?_getD]
  cases hi : (List.replicate n (0 : Int))[i]? with
  | none => decide
  | some v =>
    have := List.mem_of_getElem? hi
    rw [(List.mem_replicate.1 this).2]; decide⟩
theorem fdRun_ok {c : List Int} {n : Nat} (hn : 0 < n) (hc : ∀ i, -1048576 ≤ c.getD i 0 ∧ c.getD i 0 ≤ 1048576) : ∀ j : Nat, j ≤ 8 → FdOk n j (fdRun c n j)
  | 0, _ => FdOk.zero n
  | j + 1, h => (fdRun_ok hn hc j (by omega)).step hn (by omega) hc
theorem top_bound {c : List Int} {n : Nat} {j : Int} {s : Fd} (h : FdOk n j s) (hj : 0 ≤ j ∧ j < 8) (hc : ∀ i, -1048576 ≤ c.getD i 0 ∧ c.getD i 0 ≤ 1048576) (i : Nat) : 0 ≤ topF c s i ∧ topF c s i ≤ 70368744177664 := by
  have h1 := abs_le (hc i)
  have ha := h.a
  have := mul_bound (a := s.a + absI (c.getD i 0)) (b := s.a + absI (c.getD i 0)) (m := 8388608) (n := 8388608) (by omega) (by omega) (by omega) (by omega)
  unfold topF; omega
theorem bot_bound {n : Nat} {j : Int} {s : Fd} (h : FdOk n j s) (hj : 0 ≤ j ∧ j < 8) (i : Nat) : 1 ≤ botF s i ∧ botF s i ≤ 134 := by
  have := h.y i
  have := h.q
  unfold botF; omega
def ctAbs : Ct := fun ws K => match ws with
  | [.c (.ci .i64 x)] => -9223372036854775808 < x ∧ K (vi (absI x))
  | _ => False
theorem size_ct : CtOk Tryz.prog 138 ctAbs := by
  intro ws K h' hr
  unfold ctAbs at h'
  split at h'
  · rename_i x
    obtain ⟨hx, h'⟩ := h'
    obtain ⟨x1, x2⟩ := hr.1
    simp only [lowK, highK] at x1 x2
    refine ⟨_, h', ⟨show InK .i64 _ from by simp only [InK, lowK, highK, absI]; omega, rfl⟩, walk_calls F0_ok Tryz.func138 (n := 0) rfl hr rfl ?_⟩
    repeat' ((conv => whnf); first | (refine ask_wrap64 (by omega) (by omega) ?_) | rfl | fail)
  · exact h'.elim
noncomputable def FF : Fns := (((F0.over 136 hRight).plus 138 ctAbs).into 137 Tryz.f137).into 139 Tryz.f139
theorem FF_ok : FnsOk Tryz.prog FF := (((F0_ok.over right_ct Tryz.func136 (by kernel_rfl) (by kernel_rfl)).plus size_ct Tryz.func138 (by kernel_rfl) (by kernel_rfl)).into Tryz.func137 (by kernel_rfl) (by kernel_rfl)).into Tryz.func139 (by kernel_rfl) (by kernel_rfl)
noncomputable abbrev fdH (zs : List Int) (l : Nat) (s : Fd) : List Blk := [.ro [.ints .i64 zs.length zs], .own 143 [.one (.csl 0 0 0 l zs.length)], .own 3 [.ints .i64 l s.y], .own 143 [.one (.csl 2 0 0 l l)], .own 3 [.one (.ci .i64 s.a)], .own 3 [.one (.ci .i64 s.q)]]
def foundP (xs : List Int) (x : V) (N : List Blk) : Prop := x = .tup [.c (.csl 0 0 0 xs.length xs.length), i64 0] ∧ N = [.own 3 [.ints .i64 xs.length xs]]
theorem signF_len (c y : List Int) (n : Nat) : (signF c y n).length = n := by simp [signF]
theorem find_walk (zs : List Int) (l k : Nat) (hl : l ≤ zs.length) (hc : zs.length ≤ 9223372036854775807) (hx : ∀ x ∈ zs, InK .i64 x) (hr : rightC (zs.take l) k) :
    walk FF 2 Tryz.f97 [.c (.csl 0 0 0 l zs.length), i64 k] [.ro [.ints .i64 zs.length zs]] (Made (foundP (findZ (zs.take l) l k))) := by
  have hr' := hr
  rw [rightC_def] at hr'
  have lt : (zs.take l).length = l := by simp; omega
  have hcb : ∀ i, -1048576 ≤ (zs.take l).getD i 0 ∧ (zs.take l).getD i 0 ≤ 1048576 := fun i => by
    rcases Nat.lt_or_ge i l with h | h
    · exact hr'.2.2 _ (mem_at (by omega))
    · rw [List.getD_eq_getElem?_getD, List.getElem?_eq_none (by omega)]; decide
  have n0 : 0 < l := by omega
  obtain ⟨C, hC⟩ : ∃ C, C = zs.take l := ⟨_, rfl⟩
  have cat : ∀ i, i < l → zs.getD i 0 = C.getD i 0 := fun i hi => by rw [hC, getD_take hi]
  have eb : (Tryz.prog.types[3]).bytes = 8 := by kernel_rfl
  rw [← hC] at hcb
  have ok := fdRun_ok (c := C) n0 hcb
  repeat' ((conv => whnf); first | (refine And.intro ⟨rfl, rfl⟩ ?_) | (refine And.intro rfl ?_) | (refine ask_true hr ?_) | (refine And.intro ⟨by omega, by omega, by omega, by rw [eb]; omega⟩ ?_) | fail)
  conv => whnf
  rw [← hC]
  refine loop_at2 (11 :: 12 :: List.range' 25 41) (fun m (j : Int) (s : Fd) => 0 ≤ j ∧ j ≤ k ∧ s = fdRun C l j.toNat ∧ m = (k - j).toNat) (fun j _ => [(25, vi j)]) (fun _ s => fdH zs l s) k 0 ⟨0, 0, List.replicate l 0⟩ ⟨by decide, by omega, rfl, by omega⟩ ?_ ?_
  · exact ⟨rfl, ⟨⟨Nat.le_of_ble_eq_true rfl, rfl⟩, trivial⟩, ⟨rfl, rfl, rfl, rfl, rfl, rfl, trivial⟩, rfl, rfl, Nat.le_of_ble_eq_true rfl⟩
  · rintro m j s ⟨j0, j1, hs, rfl⟩
    rcases Int.lt_or_le j k with j2 | j2
    · have so := ok j.toNat (by omega)
      rw [← hs, Int.toNat_of_nonneg j0] at so
      have hj8 : 0 ≤ j ∧ j < 8 := by omega
      conv => whnf
      refine ask_true (by omega) ?_
      conv => whnf
      refine loop_at2 (11 :: 12 :: List.range' 29 20) (fun m (i b : Int) => 0 ≤ i ∧ i ≤ l ∧ b = (bestF C s i.toNat : Nat) ∧ m = (l - i).toNat) (fun i b => [(11, vi b), (29, vi i)]) (fun _ _ => fdH zs l s) l 0 0 ⟨by decide, by omega, rfl, by omega⟩ ?_ ?_
      · exact ⟨rfl, ⟨⟨Nat.le_of_ble_eq_true rfl, rfl⟩, ⟨Nat.le_of_ble_eq_true rfl, rfl⟩, trivial⟩, ⟨rfl, rfl, rfl, rfl, rfl, rfl, trivial⟩, rfl, rfl, Nat.le_of_ble_eq_true rfl⟩
      · rintro m i b ⟨i0, i1, hb, rfl⟩
        have blt : 0 ≤ b ∧ b < l := by
          rcases Nat.eq_zero_or_pos i.toNat with h | h
          · rw [h] at hb
            have hb : b = 0 := hb
            omega
          · have := bestF_lt C s i.toNat h
            omega
        have bt : b.toNat = bestF C s i.toNat := by omega
        have em : ∀ i : Int, mulN i.toNat (Tryz.prog.types[3]).size = i.toNat := fun i => mulN1 _
        have ei := em i
        have eb' := em b
        have xb : zs.getD (0 + mulN b.toNat (Tryz.prog.types[3]).size) 0 = C.getD b.toNat 0 := by rw [em, Nat.zero_add]; exact cat _ (by omega)
        have cb := hcb b.toNat
        have cbb := abs_le cb
        rw [← xb] at cb cbb
        have yb : s.y.getD (0 + mulN b.toNat (Tryz.prog.types[3]).size) 0 = s.y.getD b.toNat 0 := by rw [em, Nat.zero_add]
        have Tb : (s.a + absI (zs.getD (0 + mulN b.toNat (Tryz.prog.types[3]).size) 0)) * (s.a + absI (zs.getD (0 + mulN b.toNat (Tryz.prog.types[3]).size) 0)) = topF C s b.toNat := by rw [xb]; rfl
        have Bb : s.q + (2 : Int) * s.y.getD (0 + mulN b.toNat (Tryz.prog.types[3]).size) 0 + 1 = botF s b.toNat := by rw [yb]; rfl
        have tb := top_bound so hj8 hcb b.toNat
        have bb := bot_bound so hj8 b.toNat
        rw [← Tb] at tb
        rw [← Bb] at bb
        have ybb := so.y b.toNat
        rw [← yb] at ybb
        have sa := so.a
        have sq := so.q
        have slen := so.len
        rcases Int.lt_or_le i l with i2 | i2
        · have xi : zs.getD (0 + mulN i.toNat (Tryz.prog.types[3]).size) 0 = C.getD i.toNat 0 := by rw [em, Nat.zero_add]; exact cat _ (by omega)
          have ci := hcb i.toNat
          have cib := abs_le ci
          rw [← xi] at ci cib
          have yi : s.y.getD (0 + mulN i.toNat (Tryz.prog.types[3]).size) 0 = s.y.getD i.toNat 0 := by rw [em, Nat.zero_add]
          have Ti : (s.a + absI (zs.getD (0 + mulN i.toNat (Tryz.prog.types[3]).size) 0)) * (s.a + absI (zs.getD (0 + mulN i.toNat (Tryz.prog.types[3]).size) 0)) = topF C s i.toNat := by rw [xi]; rfl
          have Bi : s.q + (2 : Int) * s.y.getD (0 + mulN i.toNat (Tryz.prog.types[3]).size) 0 + 1 = botF s i.toNat := by rw [yi]; rfl
          have ti := top_bound so hj8 hcb i.toNat
          have bi := bot_bound so hj8 i.toNat
          rw [← Ti] at ti
          rw [← Bi] at bi
          have ybi := so.y i.toNat
          rw [← yi] at ybi
          have p1 := mul_bound ti.1 ti.2 (by omega : (0 : Int) ≤ s.q + (2 : Int) * s.y.getD (0 + mulN b.toNat (Tryz.prog.types[3]).size) 0 + 1) bb.2
          have p2 := mul_bound tb.1 tb.2 (by omega : (0 : Int) ≤ s.q + (2 : Int) * s.y.getD (0 + mulN i.toNat (Tryz.prog.types[3]).size) 0 + 1) bi.2
          repeat' ((conv => whnf); first | (refine ask_true (by omega) ?_) | (refine And.intro (by omega) ?_) | (refine fun (_ : InK _ _) => ?_) | (refine ask_wrap64 (by omega) (by omega) ?_) | (refine ⟨by kernel_rfl, ?_⟩) | fail)
          conv => whnf
          refine ask_split (fun hg => ?_) (fun hg => ?_)
          · repeat' ((conv => whnf); first | (refine ask_wrap64 (by omega) (by omega) ?_) | fail)
            conv => whnf
            refine ⟨(l - (i + 1)).toNat, (i + 1, i), by omega, ⟨by show 0 ≤ i + 1; omega, by show i + 1 ≤ (l : Int); omega, ?_, rfl⟩, rfl, ⟨⟨Nat.le_of_ble_eq_true rfl, rfl⟩, ⟨Nat.le_of_ble_eq_true rfl, rfl⟩, trivial⟩, ⟨rfl, rfl, rfl, rfl, rfl, rfl, trivial⟩, rfl, rfl, Nat.le_of_ble_eq_true rfl⟩
            show i = ((bestF C s (i + 1).toNat : Nat) : Int)
            rw [Ti, Bb, Tb, Bi, bt] at hg
            rw [show (i + 1).toNat = i.toNat + 1 by omega]
            show i = ((if topF C s i.toNat * botF s (bestF C s i.toNat) > topF C s (bestF C s i.toNat) * botF s i.toNat then i.toNat else bestF C s i.toNat : Nat) : Int)
            rw [if_pos hg]; omega
          · repeat' ((conv => whnf); first | (refine ask_wrap64 (by omega) (by omega) ?_) | fail)
            conv => whnf
            refine ⟨(l - (i + 1)).toNat, (i + 1, b), by omega, ⟨by show 0 ≤ i + 1; omega, by show i + 1 ≤ (l : Int); omega, ?_, rfl⟩, rfl, ⟨⟨Nat.le_of_ble_eq_true rfl, rfl⟩, ⟨Nat.le_of_ble_eq_true rfl, rfl⟩, trivial⟩, ⟨rfl, rfl, rfl, rfl, rfl, rfl, trivial⟩, rfl, rfl, Nat.le_of_ble_eq_true rfl⟩
            show b = ((bestF C s (i + 1).toNat : Nat) : Int)
            rw [Ti, Bb, Tb, Bi, bt] at hg
            rw [show (i + 1).toNat = i.toNat + 1 by omega]
            show b = ((if topF C s i.toNat * botF s (bestF C s i.toNat) > topF C s (bestF C s i.toNat) * botF s i.toNat then i.toNat else bestF C s i.toNat : Nat) : Int)
            rw [if_neg hg]; omega
        · repeat' ((conv => whnf); first | (refine ask_true (by omega) ?_) | (refine ask_false (by omega) ?_) | (refine And.intro (by omega) ?_) | (refine fun (_ : InK _ _) => ?_) | (refine ask_wrap64 (by omega) (by omega) ?_) | (refine ⟨by kernel_rfl, ?_⟩) | fail)
          conv => whnf
          have il : i.toNat = l := by omega
          rw [il] at bt
          refine ⟨(k - (j + 1)).toNat, (j + 1, ⟨s.a + absI (zs.getD (0 + mulN b.toNat (Tryz.prog.types[3]).size) 0), s.q + (2 : Int) * s.y.getD (0 + mulN b.toNat (Tryz.prog.types[3]).size) 0 + 1, s.y.set (0 + mulN b.toNat (Tryz.prog.types[3]).size) (s.y.getD (0 + mulN b.toNat (Tryz.prog.types[3]).size) 0 + 1)⟩), by omega, ⟨by show 0 ≤ j + 1; omega, by show j + 1 ≤ (k : Int); omega, ?_, rfl⟩, rfl, ⟨⟨Nat.le_of_ble_eq_true rfl, rfl⟩, trivial⟩, ⟨rfl, rfl, rfl, rfl, rfl, rfl, trivial⟩, rfl, rfl, Nat.le_of_ble_eq_true rfl⟩
          show _ = fdRun C l (j + 1).toNat
          rw [show (j + 1).toNat = j.toNat + 1 by omega]
          show _ = stepF C l (fdRun C l j.toNat)
          rw [← hs, xb, yb, em, Nat.zero_add, bt]
          rfl
    · have jk : j.toNat = k := by omega
      rw [jk] at hs
      have so := ok k (by omega)
      rw [← hs] at so
      have slen := so.len
      repeat' ((conv => whnf); first | (refine ask_true (by omega) ?_) | (refine ask_false (by omega) ?_) | fail)
      conv => whnf
      refine loop_at (13 :: 14 :: List.range' 68 16) (fun m (i : Int) => 0 ≤ i ∧ i ≤ l ∧ m = (l - i).toNat) (fun i => [(68, vi i)]) (fun i => [.ro [.ints .i64 zs.length zs], .own 143 [.one (.csl 0 0 0 l zs.length)], .own 3 [.ints .i64 l (stg (signF C s.y l) s.y i)], .own 143 [.one (.csl 2 0 0 l l)], .own 3 [.one (.ci .i64 s.a)], .own 3 [.one (.ci .i64 s.q)]]) l 0 ⟨by decide, by omega, by omega⟩ ?_ ?_
      · rw [stg_zero]
        exact ⟨rfl, ⟨⟨Nat.le_of_ble_eq_true rfl, rfl⟩, trivial⟩, ⟨rfl, rfl, rfl, rfl, rfl, rfl, trivial⟩, rfl, rfl, Nat.le_of_ble_eq_true rfl⟩
      · rintro m i ⟨i0, i1, rfl⟩
        have em : mulN i.toNat (Tryz.prog.types[3]).size = i.toNat := mulN1 _
        rcases Int.lt_or_le i l with i2 | i2
        · have xi : zs.getD (0 + mulN i.toNat (Tryz.prog.types[3]).size) 0 = C.getD i.toNat 0 := by rw [em, Nat.zero_add]; exact cat _ (by omega)
          have yi := so.y i.toNat
          have zi : (stg (signF C s.y l) s.y i).getD (0 + mulN i.toNat (Tryz.prog.types[3]).size) 0 = s.y.getD i.toNat 0 := by
            rw [em, Nat.zero_add]
            exact stg_at rfl (by rw [signF_len]; exact slen.symm) i0 (by rw [slen]; omega)
          rw [← zi] at yi
          have sg : (signF C s.y l).getD i.toNat 0 = if C.getD i.toNat 0 < 0 then 0 - s.y.getD i.toNat 0 else s.y.getD i.toNat 0 := getD_range (by omega)
          repeat' ((conv => whnf); first | (refine ask_true (by omega) ?_) | (refine And.intro (by omega) ?_) | (refine fun (_ : InK _ _) => ?_) | (refine ⟨by kernel_rfl, ?_⟩) | fail)
          conv => whnf
          refine ask_split (fun hg => ?_) (fun hg => ?_)
          · repeat' ((conv => whnf); first | (refine ask_true (by omega) ?_) | (refine And.intro (by omega) ?_) | (refine fun (_ : InK _ _) => ?_) | (refine ask_wrap64 (by omega) (by omega) ?_) | (refine ⟨by kernel_rfl, ?_⟩) | fail)
            conv => whnf
            refine ⟨(l - (i + 1)).toNat, i + 1, by omega, ⟨by omega, by omega, rfl⟩, rfl, ⟨⟨Nat.le_of_ble_eq_true rfl, rfl⟩, trivial⟩, ⟨rfl, rfl, ?_, rfl, rfl, rfl, trivial⟩, rfl, rfl, Nat.le_of_ble_eq_true rfl⟩
            refine congrArg (fun ys => Blk.own 3 [.ints .i64 l ys]) (Eq.symm ?_)
            rw [xi] at hg
            refine stg_set (by omega) (by rw [signF_len]; exact slen.symm) i0 (by rw [signF_len]; exact i2) ?_
            rw [sg, if_pos hg, zi]
            first | done | omega
          · repeat' ((conv => whnf); first | (refine ask_wrap64 (by omega) (by omega) ?_) | fail)
            conv => whnf
            refine ⟨(l - (i + 1)).toNat, i + 1, by omega, ⟨by omega, by omega, rfl⟩, rfl, ⟨⟨Nat.le_of_ble_eq_true rfl, rfl⟩, trivial⟩, ⟨rfl, rfl, ?_, rfl, rfl, rfl, trivial⟩, rfl, rfl, Nat.le_of_ble_eq_true rfl⟩
            refine congrArg (fun ys => Blk.own 3 [.ints .i64 l ys]) (Eq.symm ?_)
            rw [xi] at hg
            have e := stg_set (zs := signF C s.y l) (xs := s.y) (i := i) rfl (by rw [signF_len]; exact slen.symm) i0 (by rw [signF_len]; exact i2) rfl
            rw [set_same] at e
            · exact e
            · rw [stg_at rfl (by rw [signF_len]; exact slen.symm) i0 (by rw [slen]; exact i2), sg, if_neg hg]
        · repeat' ((conv => whnf); first | (refine ask_true (by omega) ?_) | (refine ask_false (by omega) ?_) | fail)
          conv => whnf
          have il : i = l := by omega
          have e : stg (signF C s.y l) s.y i = findZ C l k := by
            rw [stg_all (by rw [signF_len]; exact slen.symm) (by rw [signF_len]; exact il), hs]; rfl
          have fl : (findZ C l k).length = l := signF_len _ _ _
          rw [e]
          show Made (foundP (findZ C l k)) _ _
          refine made_of (.tup [.c (.csl 0 0 0 l l), i64 0]) [.own 3 [.ints .i64 l (findZ C l k)]] (fun _ => 2) ⟨by rw [fl], by rw [fl]⟩ rfl (And.intro rfl trivial) (fun p q hp hq _ => by have hp' : p < 1 := hp; have hq' : q < 1 := hq; omega) rfl rfl (by intro e; cases e)
def noneP (e : Int) (x : V) (N : List Blk) : Prop := x = .tup [.c .csn, i64 e] ∧ N = []
def hFind : HCt := fun ws H K => match ws with
  | [.c .csn, .c (.ci .i64 _)] => K (.tup [.c .csn, i64 1]) H
  | [.c x, .c (.ci .i64 k)] => slK H x fun _ l xs => (¬ rightC (xs.take l) k → K (.tup [.c .csn, i64 1]) H) ∧ (rightC (xs.take l) k → K (.tup [.c (.csl H.length 0 0 l l), i64 0]) (H ++ [.own 3 [.ints .i64 l (findZ (xs.take l) l k.toNat)]]))
  | _ => False
theorem find_nil (k : Int) (hk : InK .i64 k) : walk FF 2 Tryz.f97 [.c .csn, i64 k] [] (Made (noneP 1)) := by
  repeat' ((conv => whnf); first | (refine And.intro ⟨rfl, rfl⟩ ?_) | (refine And.intro rfl ?_) | (refine ask_true (by omega) ?_) | (refine ask_false (by omega) ?_) | fail)
  conv => whnf
  exact made_of (.tup [.c .csn, i64 1]) [] id ⟨rfl, rfl⟩ rfl trivial (fun p q hp _ _ => absurd hp (Nat.not_lt_zero p)) rfl rfl (by intro e; cases e)
theorem find_not (zs : List Int) (l : Nat) (k : Int) (hl : l ≤ zs.length) (hc : zs.length ≤ 9223372036854775807) (hx : ∀ x ∈ zs, InK .i64 x) (hr : ¬ rightC (zs.take l) k) :
    walk FF 2 Tryz.f97 [.c (.csl 0 0 0 l zs.length), i64 k] [.ro [.ints .i64 zs.length zs]] (Made (noneP 1)) := by
  repeat' ((conv => whnf); first | (refine And.intro ⟨rfl, rfl⟩ ?_) | (refine And.intro rfl ?_) | (refine ask_false hr ?_) | fail)
  conv => whnf
  exact made_of (.tup [.c .csn, i64 1]) [] id ⟨rfl, rfl⟩ rfl trivial (fun p q hp _ _ => absurd hp (Nat.not_lt_zero p)) rfl rfl (by intro e; cases e)
theorem none_K {H : List Blk} {K : V → List Blk → Prop} {e : Int} (h : K (.tup [.c .csn, i64 e]) H) : ∀ x N, noneP e x N → K (x.ren (sh H.length)) (H ++ N.map (Blk.ren (sh H.length))) := by
  rintro x N ⟨rfl, rfl⟩
  simpa [V.ren, renW, W.ren, C.ren] using h
theorem none_mine {e : Int} : ∀ x N, noneP e x N → ∀ b ∈ N, b.mine = true ∨ b = .gone := by
  rintro x N ⟨_, rfl⟩ b hb; cases hb
theorem find_ct : HCtOk Tryz.prog 97 hFind := by
  intro ws H K h hr hb ho G σ base w₀ w hw
  unfold hFind at h
  split at h
  · rename_i k
    exact walk_lift FF_ok Tryz.func97 (n := 2) (ws := [.c .csn, i64 k]) (R := []) nil_ok ⟨trivial, hr.2.1, trivial⟩ rfl (find_nil k hr.2.1) none_mine id no_ro rfl (none_K h) ho G σ base w₀ w hw
  · rename_i x k _
    obtain ⟨j, l, xs, h', hx, g1, g2, g3, g4⟩ := slK_spec h ho hr.1
    clear h
    subst hx
    rcases Classical.em (rightC (xs.take l) k) with hk | hk
    · have hk0 := hk
      rw [rightC_def] at hk0
      have e : ((k.toNat : Nat) : Int) = k := by omega
      have fw := find_walk xs l k.toNat g1 g2 g3 (by rw [e]; exact hk)
      rw [e] at fw
      have fl : (findZ (xs.take l) l k.toNat).length = l := signF_len _ _ _
      refine walk_lift FF_ok Tryz.func97 (n := 2) (ws := [.c (.csl 0 0 0 l xs.length), i64 k]) (R := [.ro [.ints .i64 xs.length xs]]) (ro_ok g3) ⟨⟨g1, g2⟩, hr.2.1, trivial⟩ rfl fw ?_ (fun _ => j) (ro_at g4) rfl ?_ ho G σ base w₀ w hw
      · rintro x N ⟨_, rfl⟩ b hb
        rw [List.mem_singleton.1 hb]; exact .inl rfl
      · rintro x N ⟨rfl, rfl⟩
        have := h'.2 hk
        rw [fl]
        simpa [V.ren, renW, W.ren, C.ren, Blk.ren, rens, Seg.ren, sh] using this
    · exact walk_lift FF_ok Tryz.func97 (n := 2) (ws := [.c (.csl 0 0 0 l xs.length), i64 k]) (R := [.ro [.ints .i64 xs.length xs]]) (ro_ok g3) ⟨⟨g1, g2⟩, hr.2.1, trivial⟩ rfl (find_not xs l k g1 g2 g3 hk) none_mine (fun _ => j) (ro_at g4) rfl (none_K (h'.1 hk)) ho G σ base w₀ w hw
  · exact h.elim
end C
end Go.Proofs.YtaficaacogcblaaGreatDoor
