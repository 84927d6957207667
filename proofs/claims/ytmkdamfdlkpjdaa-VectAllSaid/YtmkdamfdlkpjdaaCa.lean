/- Base of the chapters shape and vect. -/
import Derived.Test.YtmkdamfdlkpjdaaXs
set_option linter.all false
namespace Go.Proofs.Ytmkdamfdlkpjdaa
open Go.RowKit (Below)
set_option maxRecDepth 100000
set_option maxHeartbeats 32000000

theorem vi_eq {a b : Int} (h : a = b) : vi a = vi b := by rw [h]
theorem ask_wrap64' {e f : Int} {K : Int → Prop} (h : e = f) (h1 : -9223372036854775808 ≤ f) (h2 : f ≤ 9223372036854775807) (hk : K f) : ∀ r, r = IntKind.i64.wrap e → K r := by
  subst h; exact ask_wrap64 h1 h2 hk

theorem prod_bound {a b m n : Int} (h1 : -m ≤ a) (h2 : a ≤ m) (h3 : -n ≤ b) (h4 : b ≤ n) : -(m * n) ≤ a * b ∧ a * b ≤ m * n := by
  have h5 : 0 ≤ (m - a) * (n - b) := Int.mul_nonneg (by omega) (by omega)
  have h6 : 0 ≤ (m + a) * (n + b) := Int.mul_nonneg (by omega) (by omega)
  have h7 : 0 ≤ (m - a) * (n + b) := Int.mul_nonneg (by omega) (by omega)
  have h8 : 0 ≤ (m + a) * (n - b) := Int.mul_nonneg (by omega) (by omega)
  simp only [Int.sub_mul, Int.mul_sub, Int.add_mul, Int.mul_add] at h5 h6 h7 h8
  constructor <;> omega

theorem mul_bound {a b m n : Int} (h1 : 0 ≤ a) (h2 : a ≤ m) (h3 : 0 ≤ b) (h4 : b ≤ n) : 0 ≤ a * b ∧ a * b ≤ m * n := by
  have := prod_bound (a := a) (b := b) (m := m) (n := n) (by omega) h2 (by omega) h4
  exact ⟨Int.mul_nonneg h1 h3, this.2⟩
/-- Some of a list's places have their new values. -/
def stg (zs xs : List Int) (i : Int) : List Int := zs.take i.toNat ++ xs.drop i.toNat
theorem stg_set {zs xs : List Int} {i : Int} {m : Nat} (hm : m = i.toNat) {v : Int} (h : zs.length = xs.length) (h0 : 0 ≤ i) (h1 : i < zs.length) (hv : zs.getD i.toNat 0 = v) : (stg zs xs i).set m v = stg zs xs (i + 1) := by
  subst hm hv
  have hlt : i.toNat < zs.length := by omega
  have hlt' : i.toNat < xs.length := by omega
  unfold stg
  rw [show (i + 1).toNat = i.toNat + 1 by omega]
  rw [List.set_append_right _ _ (by simp; omega)]
  have e : i.toNat - (zs.take i.toNat).length = 0 := by simp; omega
  rw [e, List.drop_eq_getElem_cons hlt', List.set_cons_zero, List.take_succ_eq_append_getElem hlt, List.append_assoc, List.singleton_append]
  congr 2
  rw [List.getD_eq_getElem?_getD, List.getElem?_eq_getElem hlt]; rfl
theorem stg_zero (zs xs : List Int) : stg zs xs 0 = xs := by simp [stg]
theorem stg_all {zs xs : List Int} (h : zs.length = xs.length) {i : Int} (hi : i = zs.length) : stg zs xs i = zs := by
  subst hi
  unfold stg
  rw [Int.toNat_natCast, List.take_length, List.drop_of_length_le (by omega), List.append_nil]
theorem getD_map {xs : List Int} {f : Int → Int} {i : Nat} (h : i < xs.length) : (xs.map f).getD i 0 = f (xs.getD i 0) := by
  simp [List.getD_eq_getElem?_getD, List.getElem?_eq_getElem h]
theorem mulN1 (n : Nat) : mulN n 1 = n := (mulN_eq n 1).trans (Nat.mul_one n)
theorem getD_range {f : Nat → Int} {m i : Nat} (h : i < m) : ((List.range m).map f).getD i 0 = f i := by
  simp [List.getD_eq_getElem?_getD, h]
def bad20 (x : Int) : Prop := x < -1048576 ∨ 1048576 < x
instance (x : Int) : Decidable (bad20 x) := by unfold bad20; infer_instance
instance (x : Int) : Decidable (bad20 x) := by unfold bad20; infer_instance
def ctP (p : Int → Prop) [DecidablePred p] : Ct := fun ws K => match ws with
  | [.c (.ci .i64 a)] => ∀ τ, τ = decide (p a) → K (vb τ)
  | _ => False
theorem ctP_ok {F : Fns} (hF : FnsOk Try.prog F) {n : Nat} {f : FuncId} {fn : Func} (hf : Try.prog.funcs[f]? = some fn) {p : Int → Prop} [DecidablePred p]
    (h : ∀ a, InK .i64 a → walk F n fn [i64 a] [] fun y _ => y = vb (decide (p a))) : CtOk Try.prog f (ctP p) := by
  intro ws K h' hr
  unfold ctP at h'
  split at h'
  · rename_i a
    exact ⟨_, h' _ rfl, ⟨trivial, rfl⟩, walk_calls hF hf rfl hr rfl (h a hr.1)⟩
  · exact h'.elim
theorem ask_vb {p : Prop} [Decidable p] {t : Bool} (h : t = decide p) : vb t = vb (decide p) := by rw [h]
theorem mem_at {xs : List Int} {i : Nat} (h : i < xs.length) : xs.getD i 0 ∈ xs := by
  rw [List.getD_eq_getElem?_getD, List.getElem?_eq_getElem h]
  exact List.getElem_mem _
theorem all_of_at {xs : List Int} {p : Int → Prop} (h : ∀ k : Nat, k < xs.length → p (xs.getD k 0)) : ∀ x ∈ xs, p x := by
  intro x hx
  obtain ⟨k, hk, rfl⟩ := List.getElem_of_mem hx
  have := h k hk
  rwa [List.getD_eq_getElem?_getD, List.getElem?_eq_getElem hk] at this
theorem stg_at {zs xs : List Int} {i : Int} {m : Nat} (hm : m = i.toNat) (h : zs.length = xs.length) (h0 : 0 ≤ i) (h1 : i < xs.length) : (stg zs xs i).getD m 0 = xs.getD m 0 := by
  subst hm
  unfold stg
  rw [List.getD_eq_getElem?_getD, List.getD_eq_getElem?_getD, List.getElem?_append_right (by simp; omega), List.getElem?_drop]
  congr 2
  simp
  omega
theorem set_same {xs : List Int} {m : Nat} {v : Int} (h : xs.getD m 0 = v) : xs.set m v = xs := by
  apply List.ext_getElem?
  intro k
  rcases Nat.lt_or_ge m xs.length with hm | hm
  · by_cases hk : m = k
    · subst hk
      rw [List.getElem?_set_self hm, List.getElem?_eq_getElem hm, ← h, List.getD_eq_getElem?_getD, List.getElem?_eq_getElem hm]; rfl
    · rw [List.getElem?_set_ne hk]
  · rw [List.set_eq_of_length_le hm]
end Go.Proofs.Ytmkdamfdlkpjdaa
