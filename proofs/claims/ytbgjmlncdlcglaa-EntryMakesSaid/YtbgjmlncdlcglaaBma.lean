/- Chapter mdct: what is held; two rows, one behind the other. -/
import Derived.Test.YtbgjmlncdlcglaaBani
set_option linter.all false
namespace Go.Proofs.Ytbgjmlncdlcglaa
open Go.RowKit (Below)
set_option maxRecDepth 100000
set_option maxHeartbeats 32000000

/-! ### what is held -/
def bad20 (x : Int) : Prop := x < -1048576 ∨ 1048576 < x
instance (x : Int) : Decidable (bad20 x) := by unfold bad20; infer_instance
@[irreducible] def held (xs : List Int) : Prop := ∀ x ∈ xs, -1048576 ≤ x ∧ x ≤ 1048576
theorem held_def (xs : List Int) : held xs ↔ ∀ x ∈ xs, -1048576 ≤ x ∧ x ≤ 1048576 := by unfold held; exact Iff.rfl
noncomputable instance (xs : List Int) : Decidable (held xs) := Classical.propDecidable _
def ctP (p : Int → Prop) [DecidablePred p] : Ct := fun ws K => match ws with
  | [.c (.ci .i64 a)] => ∀ τ, τ = decide (p a) → K (vb τ)
  | _ => False
theorem ctP_ok {F : Fns} (hF : FnsOk Try.prog F) {n : Nat} {f : FuncId} {fn : Func} (hf : Try.prog.funcs[f]? = some fn) {p : Int → Prop} [DecidablePred p]
    (h : ∀ a, InK .i64 a → walk F n fn [i64 a] [] fun y _ => y = vb (decide (p a))) : CtOk Try.prog f (ctP p) := by
  intro ws K h' hr
  unfold ctP at h'
  split at h'
  · rename_i a
    exact ⟨_, h' _ rfl, ⟨trivial, rfl⟩, walk_calls hF hf rfl hr rfl (h a hr.1)⟩
  · exact h'.elim
theorem ask_vb {p : Prop} [Decidable p] {t : Bool} (h : t = decide p) : vb t = vb (decide p) := by rw [h]
theorem bad_walk (x : Int) (hx : InK .i64 x) : walk F0 0 Try.f81 [i64 x] [] fun y _ => y = vb (decide (bad20 x)) := by
  conv => whnf
  refine ask_split (fun h => ?_) (fun h => ?_)
  · rw [decide_eq_true (show bad20 x from .inl h)]
    repeat' ((conv => whnf); first | (refine ask_wrap64 (by omega) (by omega) ?_) | (refine ask_true (by omega) ?_) | (refine ask_false (by omega) ?_) | (refine ⟨trivial, ?_⟩) | (refine ⟨by omega, ?_⟩) | (refine fun (_ : InK _ _) => ?_) | (refine ⟨by kernel_rfl, ?_⟩) | (refine ask_wrapu8 (by omega) (by omega) ?_) | (refine ask_wrapu64 (by omega) (by omega) ?_) | (refine ask_true (show (_ : Bool) = _ from rfl) ?_) | (refine ask_false (show ¬ ((_ : Bool) = _) from Bool.noConfusion) ?_) | fail)
    rfl
  · conv => whnf
    refine ask_split (fun h2 => ?_) (fun h2 => ?_)
    · rw [decide_eq_true (show bad20 x from .inr h2)]
      repeat' ((conv => whnf); first | (refine ask_wrap64 (by omega) (by omega) ?_) | (refine ask_true (by omega) ?_) | (refine ask_false (by omega) ?_) | (refine ⟨trivial, ?_⟩) | (refine ⟨by omega, ?_⟩) | (refine fun (_ : InK _ _) => ?_) | (refine ⟨by kernel_rfl, ?_⟩) | (refine ask_wrapu8 (by omega) (by omega) ?_) | (refine ask_wrapu64 (by omega) (by omega) ?_) | (refine ask_true (show (_ : Bool) = _ from rfl) ?_) | (refine ask_false (show ¬ ((_ : Bool) = _) from Bool.noConfusion) ?_) | fail)
      rfl
    · rw [decide_eq_false (show ¬ bad20 x from fun hb => by unfold bad20 at hb; omega)]
      repeat' ((conv => whnf); first | (refine ask_wrap64 (by omega) (by omega) ?_) | (refine ask_true (by omega) ?_) | (refine ask_false (by omega) ?_) | (refine ⟨trivial, ?_⟩) | (refine ⟨by omega, ?_⟩) | (refine fun (_ : InK _ _) => ?_) | (refine ⟨by kernel_rfl, ?_⟩) | (refine ask_wrapu8 (by omega) (by omega) ?_) | (refine ask_wrapu64 (by omega) (by omega) ?_) | (refine ask_true (show (_ : Bool) = _ from rfl) ?_) | (refine ask_false (show ¬ ((_ : Bool) = _) from Bool.noConfusion) ?_) | fail)
      rfl
theorem bad_ct : CtOk Try.prog 81 (ctP bad20) := ctP_ok F0_ok Try.func81 bad_walk
noncomputable def FH : Fns := ((F0.plus 81 (ctP bad20)).into 80 Try.f80).into 97 Try.f97
theorem FH_ok : FnsOk Try.prog FH := ((F0_ok.plus bad_ct Try.func81 (by kernel_rfl) (by kernel_rfl)).into Try.func80 (by kernel_rfl) (by kernel_rfl)).into Try.func97 (by kernel_rfl) (by kernel_rfl)

theorem held_walk (xs : List Int) (h : xs.length = 16) (hx : ∀ x ∈ xs, InK .i64 x) : walk FH 2 Try.f40 [ar 16 xs] [] fun y _ => y = vb (decide (held xs)) := by
  conv => whnf
  refine ⟨by decide, by decide, ?_⟩
  conv => whnf
  refine loop_at (4 :: 5 :: List.range' 8 11) (fun m (i : Int) => 0 ≤ i ∧ i ≤ 16 ∧ m = (16 - i).toNat ∧ ∀ k : Nat, (k : Int) < i → ¬ bad20 (xs.getD k 0)) (fun i => [(8, vi i)]) (fun _ => [ob xs]) 16 0 ⟨by decide, by decide, rfl, fun k hk => by omega⟩ ?_ ?_
  · exact ⟨rfl, ⟨⟨Nat.le_of_ble_eq_true rfl, rfl⟩, trivial⟩, ⟨rfl, trivial⟩, rfl, rfl, Nat.le_of_ble_eq_true rfl⟩
  · rintro m i ⟨h0, h1, rfl, h3⟩
    have em : mulN i.toNat (Try.prog.types[3]).size = i.toNat := mulN1 i.toNat
    have e0 : mulN 0 (Try.prog.types[3]).size = 0 := mulN1 0
    rcases Int.lt_or_le i 16 with h2 | h2
    · conv => whnf
      refine ask_true (by omega) ?_
      conv => whnf
      refine And.intro (by omega) ?_
      conv => whnf
      refine And.intro (by omega) fun hin => ?_
      conv => whnf
      have hat : xs.getD (mulN 0 (Try.prog.types[3]).size + mulN i.toNat (Try.prog.types[3]).size) 0 = xs.getD i.toNat 0 := by rw [e0, em, Nat.zero_add]
      refine ask_split (fun hb => ?_) (fun hb => ?_)
      · repeat' ((conv => whnf); first | (refine ask_true (by omega) ?_) | (refine ask_false (by omega) ?_) | fail)
        conv => whnf
        refine (ask_vb ?_)
        symm
        refine decide_eq_false fun hh => ?_
        rw [held_def] at hh
        rw [hat] at hb
        have hm : xs.getD i.toNat 0 ∈ xs := by
          rw [List.getD_eq_getElem?_getD, List.getElem?_eq_getElem (by omega)]
          exact List.getElem_mem _
        have := hh _ hm
        unfold bad20 at hb
        omega
      · repeat' ((conv => whnf); first | (refine ask_wrap64 (by omega) (by omega) ?_) | fail)
        refine ⟨(16 - (i + 1)).toNat, i + 1, by omega, ⟨by omega, by omega, rfl, fun k hk => ?_⟩, rfl, ⟨⟨Nat.le_of_ble_eq_true rfl, rfl⟩, trivial⟩, ⟨rfl, trivial⟩, rfl, rfl, Nat.le_of_ble_eq_true rfl⟩
        rcases Int.lt_or_le k i with hk2 | hk2
        · exact h3 k hk2
        · rw [hat] at hb
          obtain rfl : k = i.toNat := by omega
          exact hb
    · have hh : held xs := by
        rw [held_def]
        intro x hxm
        obtain ⟨k, hk, rfl⟩ := List.getElem_of_mem hxm
        have := h3 k (by omega)
        rw [List.getD_eq_getElem?_getD, List.getElem?_eq_getElem hk] at this
        unfold bad20 at this
        simp only [Option.getD_some] at this
        omega
      rw [decide_eq_true hh]
      repeat' ((conv => whnf); first | (refine ask_true (by omega) ?_) | (refine ask_false (by omega) ?_) | rfl | fail)
def ctHeld : Ct := fun ws K => match ws with
  | [.agg [.ints .i64 n xs]] => n = 16 ∧ ∀ τ, τ = decide (held xs) → K (vb τ)
  | _ => False
theorem ctHeld_ok {F : Fns} (hF : FnsOk Try.prog F) {n : Nat} {f : FuncId} {fn : Func} (hf : Try.prog.funcs[f]? = some fn)
    (h : ∀ xs : List Int, xs.length = 16 → (∀ x ∈ xs, InK .i64 x) → walk F n fn [ar 16 xs] [] fun y _ => y = vb (decide (held xs))) : CtOk Try.prog f ctHeld := by
  intro ws K h' hr
  unfold ctHeld at h'
  split at h'
  · rename_i m xs
    obtain ⟨rfl, h'⟩ := h'
    exact ⟨_, h' _ rfl, ⟨trivial, rfl⟩, walk_calls hF hf rfl hr rfl (h xs hr.1.1.1 hr.1.1.2)⟩
  · exact h'.elim
theorem held_ct : CtOk Try.prog 40 ctHeld := ctHeld_ok FH_ok Try.func40 held_walk

/-! ### two rows, one behind the other -/
noncomputable def FCc : Fns := F0.into 95 Try.f95
theorem FCc_ok : FnsOk Try.prog FCc := F0_ok.into Try.func95 (by kernel_rfl) (by kernel_rfl)
abbrev rowsR (xs ys : List Int) : List Blk := [.ro [.ints .i64 16 xs], .ro [.ints .i64 16 ys], .ro [.one (.csl 0 0 0 16 16), .one (.csl 1 0 0 16 16)]]
def joined (xs ys : List Int) (x : V) (N : List Blk) : Prop := ∃ c : Nat, 32 ≤ c ∧ c ≤ 9223372036854775807 ∧ x = .w (.c (.csl 0 0 0 32 c)) ∧ N = [.own 3 [.ints .i64 c (xs ++ ys ++ List.replicate (c - 32) 0)]]
def cat2 (xs ys : List Int) (i : Int) : List Int := if i = 0 then [] else if i = 1 then xs else xs ++ ys
abbrev catB (xs ys : List Int) (i : Int) (c : Nat) : Blk := .own 3 [.ints .i64 c (cat2 xs ys i ++ List.replicate (c - (16 * i).toNat) 0)]
theorem cat_step0 {xs ys : List Int} (h : xs.length = 16) {c : Nat} (hc : 32 ≤ c) : List.take (16 * 0 : Int).toNat (cat2 xs ys 0 ++ List.replicate (c - (16 * 0 : Int).toNat) 0) ++ List.take 16 (List.drop 0 xs) ++ List.drop ((16 * 0 : Int).toNat + 16) (cat2 xs ys 0 ++ List.replicate (c - (16 * 0 : Int).toNat) 0) =
    cat2 xs ys 1 ++ List.replicate (c - (16 * 1 : Int).toNat) 0 := by
  have e0 : cat2 xs ys 0 = [] := rfl
  have e1 : cat2 xs ys 1 = xs := rfl
  have e2 : (16 * 0 : Int).toNat = 0 := rfl
  have e3 : (16 * 1 : Int).toNat = 16 := rfl
  rw [e0, e1, e2, e3, List.take_zero, List.drop_zero, List.take_of_length_le (by omega)]
  simp [List.drop_replicate]
theorem cat_step1 {xs ys : List Int} (h : xs.length = 16) (h' : ys.length = 16) {c : Nat} (hc : 32 ≤ c) : List.take (16 * 1 : Int).toNat (cat2 xs ys 1 ++ List.replicate (c - (16 * 1 : Int).toNat) 0) ++ List.take 16 (List.drop 0 ys) ++ List.drop ((16 * 1 : Int).toNat + 16) (cat2 xs ys 1 ++ List.replicate (c - (16 * 1 : Int).toNat) 0) =
    cat2 xs ys 2 ++ List.replicate (c - (16 * 2 : Int).toNat) 0 := by
  have e1 : cat2 xs ys 1 = xs := rfl
  have e2 : cat2 xs ys 2 = xs ++ ys := rfl
  have e3 : (16 * 1 : Int).toNat = 16 := rfl
  have e4 : (16 * 2 : Int).toNat = 32 := rfl
  rw [e1, e2, e3, e4, List.drop_zero, List.take_of_length_le (l := ys) (by omega), List.take_append_of_le_length (by omega), List.take_of_length_le (by omega)]
  have e5 : List.drop (16 + 16) xs = [] := List.drop_of_length_le (by omega)
  rw [List.drop_append, e5]
  simp [List.drop_replicate, h]
  omega
theorem concat_walk (xs ys : List Int) (h : xs.length = 16) (h' : ys.length = 16) (hx : ∀ x ∈ xs, InK .i64 x) (hy : ∀ x ∈ ys, InK .i64 x) :
    walk FCc 1 Try.f67 [.c (.csl 2 0 0 2 2)] (rowsR xs ys) (Made (joined xs ys)) := by
  conv => whnf
  refine loop_at (3 :: 5 :: List.range' 11 12) (fun m (i : Int) => (i = 0 ∨ i = 1 ∨ i = 2) ∧ m = (2 - i).toNat) (fun i => [(3, vi (16 * i)), (11, vi i)]) (fun _ => rowsR xs ys) 2 0 ⟨.inl rfl, rfl⟩ ?_ ?_
  · exact ⟨rfl, ⟨⟨Nat.le_of_ble_eq_true rfl, rfl⟩, ⟨Nat.le_of_ble_eq_true rfl, rfl⟩, trivial⟩, ⟨rfl, rfl, rfl, trivial⟩, rfl, rfl, Nat.le_of_ble_eq_true rfl⟩
  · rintro m i ⟨hi, rfl⟩
    rcases hi with rfl | rfl | rfl
    · repeat' ((conv => whnf); first | (refine ask_true (by omega) ?_) | (refine ask_false (by omega) ?_) | (refine ask_wrap64 (by omega) (by omega) ?_) | (refine And.intro (by omega) ?_) | fail)
      conv => whnf
      exact ⟨1, 1, by decide, ⟨.inr (.inl rfl), rfl⟩, rfl, ⟨⟨Nat.le_of_ble_eq_true rfl, rfl⟩, ⟨Nat.le_of_ble_eq_true rfl, rfl⟩, trivial⟩, ⟨rfl, rfl, rfl, trivial⟩, rfl, rfl, Nat.le_of_ble_eq_true rfl⟩
    · repeat' ((conv => whnf); first | (refine ask_true (by omega) ?_) | (refine ask_false (by omega) ?_) | (refine ask_wrap64 (by omega) (by omega) ?_) | (refine And.intro (by omega) ?_) | fail)
      conv => whnf
      exact ⟨0, 2, by decide, ⟨.inr (.inr rfl), rfl⟩, rfl, ⟨⟨Nat.le_of_ble_eq_true rfl, rfl⟩, ⟨Nat.le_of_ble_eq_true rfl, rfl⟩, trivial⟩, ⟨rfl, rfl, rfl, trivial⟩, rfl, rfl, Nat.le_of_ble_eq_true rfl⟩
    · repeat' ((conv => whnf); first | (refine ask_true (by omega) ?_) | (refine ask_false (by omega) ?_) | (refine ask_wrap64 (by omega) (by omega) ?_) | (refine And.intro (by omega) ?_) | fail)
      refine And.intro ⟨rfl, by omega, by omega, Nat.le_of_ble_eq_true (by kernel_rfl)⟩ fun c (hc : 32 ≤ c) (hc' : c ≤ 9223372036854775807) => ?_
      repeat' ((conv => whnf); first | (refine ask_true (by omega) ?_) | (refine ask_false (by omega) ?_) | (refine ask_wrap64 (by omega) (by omega) ?_) | (refine And.intro (by omega) ?_) | fail)
      conv => whnf
      refine loop_at (6 :: 8 :: List.range' 27 8) (fun m (i : Int) => (i = 0 ∨ i = 1 ∨ i = 2) ∧ m = (2 - i).toNat) (fun i => [(6, .w (.c (.csl 3 0 0 (16 * i).toNat c))), (27, vi i)]) (fun i => rowsR xs ys ++ [catB xs ys i c]) 2 0 ⟨.inl rfl, rfl⟩ ?_ ?_
      · refine ⟨rfl, ⟨⟨Nat.le_of_ble_eq_true rfl, ?_⟩, ⟨Nat.le_of_ble_eq_true rfl, rfl⟩, trivial⟩, ⟨rfl, rfl, rfl, ?_, trivial⟩, rfl, rfl, Nat.le_of_ble_eq_true rfl⟩
        · rfl
        · show catB xs ys 0 c = .own 3 [.ints .i64 c (List.replicate 32 0 ++ List.replicate (c - 32) 0)]
          have e : cat2 xs ys 0 = [] := rfl
          rw [List.replicate_append_replicate, show 32 + (c - 32) = c by omega]
          show Blk.own 3 [.ints .i64 c (cat2 xs ys 0 ++ List.replicate (c - 0) 0)] = _
          rw [e]
          rfl
      · rintro m i ⟨hi, rfl⟩
        rcases hi with rfl | rfl | rfl
        · repeat' ((conv => whnf); first | (refine ask_true (by omega) ?_) | (refine ask_false (by omega) ?_) | (refine ask_wrap64 (by omega) (by omega) ?_) | (refine And.intro (by omega) ?_) | fail)
          conv => whnf
          refine And.intro ⟨rfl, by omega, Nat.le_of_ble_eq_true (by kernel_rfl)⟩ (And.intro (fun _ => ?_) fun hg => absurd hg (by omega))
          repeat' ((conv => whnf); first | (refine ask_wrap64 (by omega) (by omega) ?_) | fail)
          conv => whnf
          refine ⟨1, 1, by decide, ⟨.inr (.inl rfl), rfl⟩, rfl, ⟨⟨Nat.le_of_ble_eq_true rfl, rfl⟩, ⟨Nat.le_of_ble_eq_true rfl, rfl⟩, trivial⟩, ⟨rfl, rfl, rfl, ?_, trivial⟩, rfl, rfl, Nat.le_of_ble_eq_true rfl⟩
          exact congrArg (fun zs => Blk.own 3 [.ints .i64 c zs]) (cat_step0 h hc).symm
        · repeat' ((conv => whnf); first | (refine ask_true (by omega) ?_) | (refine ask_false (by omega) ?_) | (refine ask_wrap64 (by omega) (by omega) ?_) | (refine And.intro (by omega) ?_) | fail)
          conv => whnf
          refine And.intro ⟨rfl, by omega, Nat.le_of_ble_eq_true (by kernel_rfl)⟩ (And.intro (fun _ => ?_) fun hg => absurd hg (by omega))
          repeat' ((conv => whnf); first | (refine ask_wrap64 (by omega) (by omega) ?_) | fail)
          conv => whnf
          refine ⟨0, 2, by decide, ⟨.inr (.inr rfl), rfl⟩, rfl, ⟨⟨Nat.le_of_ble_eq_true rfl, rfl⟩, ⟨Nat.le_of_ble_eq_true rfl, rfl⟩, trivial⟩, ⟨rfl, rfl, rfl, ?_, trivial⟩, rfl, rfl, Nat.le_of_ble_eq_true rfl⟩
          exact congrArg (fun zs => Blk.own 3 [.ints .i64 c zs]) (cat_step1 h h' hc).symm
        · repeat' ((conv => whnf); first | (refine ask_true (by omega) ?_) | (refine ask_false (by omega) ?_) | (refine ask_wrap64 (by omega) (by omega) ?_) | (refine And.intro (by omega) ?_) | fail)
          conv => whnf
          refine made_of (.w (.c (.csl 0 0 0 32 c))) [.own 3 [.ints .i64 c (xs ++ ys ++ List.replicate (c - 32) 0)]] (fun _ => 3) ⟨c, hc, hc', rfl, rfl⟩ rfl (And.intro rfl trivial) (fun p q hp hq _ => ?_) rfl rfl (by intro e; cases e)
          have hp' : p < 1 := hp
          have hq' : q < 1 := hq
          omega

/-- The row that a block holds. -/
def rowK (H : List Blk) (j : Nat) (K : List Int → Prop) : Prop := hGet H j fun b => match b with
  | .own _ [.ints .i64 n xs] => n = 16 ∧ K xs
  | .ro [.ints .i64 n xs] => n = 16 ∧ K xs
  | _ => False
theorem rowK_spec {H : List Blk} {j : Nat} {K : List Int → Prop} (h : rowK H j K) (ho : HOk H) : ∃ xs, K xs ∧ xs.length = 16 ∧ (∀ x ∈ xs, InK .i64 x) ∧ ((∃ T, H[j]? = some (.own T [.ints .i64 16 xs])) ∨ H[j]? = some (.ro [.ints .i64 16 xs])) := by
  obtain ⟨b, hb, h⟩ := hGet_spec h
  have hr := ho.rng b (List.mem_of_getElem? hb)
  split at h
  · obtain ⟨rfl, h⟩ := h; exact ⟨_, h, hr.1.1, hr.1.2, .inl ⟨_, hb⟩⟩
  · obtain ⟨rfl, h⟩ := h; exact ⟨_, h, hr.1.1, hr.1.2, .inr hb⟩
  · exact h.elim
def hConcat : HCt := fun ws H K => match ws with
  | [.c (.csl j o i l c)] => (o = 0 ∧ i = 0 ∧ l = 2 ∧ c = 2) ∧ hGet H j fun b => match b with
    | .own _ [.one (.csl j1 o1 i1 l1 c1), .one (.csl j2 o2 i2 l2 c2)] => (o1 = 0 ∧ i1 = 0 ∧ l1 = 16 ∧ c1 = 16 ∧ o2 = 0 ∧ i2 = 0 ∧ l2 = 16 ∧ c2 = 16) ∧ rowK H j1 fun xs => rowK H j2 fun ys =>
      ∀ c : Nat, 32 ≤ c → c ≤ 9223372036854775807 → lenH H 0 fun n => pushH H (.own 3 [.ints .i64 c (xs ++ ys ++ List.replicate (c - 32) 0)]) fun H' => K (.w (.c (.csl n 0 0 32 c))) H'
    | _ => False
  | _ => False
theorem concat_ct : HCtOk Try.prog 67 hConcat := by
  intro ws H K h hr hb ho G σ base w₀ w hw
  unfold hConcat at h
  split at h
  · rename_i j o i l cap
    obtain ⟨⟨rfl, rfl, rfl, rfl⟩, h⟩ := h
    obtain ⟨b, hj, h⟩ := hGet_spec h
    split at h
    · rename_i T j1 o1 i1 l1 c1 j2 o2 i2 l2 c2
      obtain ⟨⟨rfl, rfl, rfl, rfl, rfl, rfl, rfl, rfl⟩, h⟩ := h
      obtain ⟨xs, h, x1, x2, x3⟩ := rowK_spec h ho
      obtain ⟨ys, h, y1, y2, y3⟩ := rowK_spec h ho
      refine walk_lift FCc_ok Try.func67 (n := 1) (ws := [.c (.csl 2 0 0 2 2)]) (R := rowsR xs ys) (P0 := joined xs ys) ⟨fun b hb => ?_, fun b hb => ?_⟩ ⟨⟨by decide, by decide⟩, trivial⟩ rfl (concat_walk xs ys x1 y1 x2 y2) ?_ (fun k => if k = 0 then j1 else if k = 1 then j2 else j) ?_ rfl ?_ ho G σ base w₀ w hw
      · simp only [List.mem_cons, List.not_mem_nil, or_false] at hb
        rcases hb with rfl | rfl | rfl
        · exact ⟨⟨x1, x2⟩, trivial⟩
        · exact ⟨⟨y1, y2⟩, trivial⟩
        · exact ⟨⟨by decide, by decide⟩, ⟨by decide, by decide⟩, trivial⟩
      · simp only [List.mem_cons, List.not_mem_nil, or_false] at hb
        rcases hb with rfl | rfl | rfl <;> rfl
      · rintro x N ⟨c, _, _, _, rfl⟩ b hb
        simp only [List.mem_cons, List.not_mem_nil, or_false] at hb
        subst hb
        exact .inl rfl
      · intro k b hk
        match k, hk with
        | 0, hk => simp at hk; subst hk; exact .inr ⟨_, rfl, x3⟩
        | 1, hk => simp at hk; subst hk; exact .inr ⟨_, rfl, y3⟩
        | 2, hk => simp at hk; subst hk; exact .inr ⟨_, rfl, .inl ⟨_, hj⟩⟩
        | k + 3, hk => simp at hk
      · rintro x N ⟨c, c1, c2, rfl, rfl⟩
        have := h c c1 c2
        rw [lenH_iff, pushH_iff, Nat.zero_add] at this
        simpa [V.ren, W.ren, C.ren, sh, Blk.ren, rens, Seg.ren] using this
    · exact h.elim
  · exact h.elim
end Go.Proofs.Ytbgjmlncdlcglaa
