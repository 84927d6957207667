/- Chapter mdct: what is held; two rows, one behind the other. -/
import Derived.Test.YtbgjmlncdlcglaaBani
set_option linter.all false
namespace Go.Proofs.Ytbgjmlncdlcglaa
open Go.RowKit (Below)
set_option maxRecDepth 100000
set_option maxHeartbeats 32000000

/-! ### what is held -/
def bad20 (x : Int) : Prop := x < -1048576 ∨ 1048576 < x
instance (x : Int) : Decidable (bad20 x) := by unfold bad20; infer_instance
@[irreducible] def held (xs : List Int) : Prop := ∀ x ∈ xs, -1048576 ≤ x ∧ x ≤ 1048576
theorem held_def (xs : List Int) : held xs ↔ ∀ x ∈ xs, -1048576 ≤ x ∧ x ≤ 1048576 := by unfold held; exact Iff.rfl
noncomputable instance (xs : List Int) : Decidable (held xs) := Classical.propDecidable _
def ctP (p : Int → Prop) [DecidablePred p] : Ct := fun ws K => match ws with
  | [.c (.ci .i64 a)] => ∀ τ, τ = decide (p a) → K (vb τ)
  | _ => False
theorem ctP_ok {F : Fns} (hF : FnsOk Try.prog F) {n : Nat} {f : FuncId} {fn : Func} (hf : Try.prog.funcs[f]? = some fn) {p : Int → Prop} [DecidablePred p]
    (h : ∀ a, InK .i64 a → walk F n fn [i64 a] [] fun y _ => y = vb (decide (p a))) : CtOk Try.prog f (ctP p) := by
  intro ws K h' hr
  unfold ctP at h'
  split at h'
  · rename_i a
    exact ⟨_, h' _ rfl, ⟨trivial, rfl⟩, walk_calls hF hf rfl hr rfl (h a hr.1)⟩
  · exact h'.elim
theorem ask_vb {p : Prop} [Decidable p] {t : Bool} (h : t = decide p) : vb t = vb (decide p) := by rw [h]
theorem bad_walk (x : Int) (hx : InK .i64 x) : walk F0 0 Try.f81 [i64 x] [] fun y _ => y = vb (decide (bad20 x)) := by
  conv => whnf
  refine ask_split (fun h => ?_) (fun h => ?_)
  · rw [decide_eq_true (show bad20 x from .inl h)]
    repeat' ((conv => whnf); first | (refine ask_wrap64 (by omega) (by omega) ?_) | (refine ask_true (by omega) ?_) | (refine ask_false (by omega) ?_) | (refine ⟨trivial, ?_⟩) | (refine ⟨by omega, ?_⟩) | (refine fun (_ : InK _ _) => ?_) | (refine ⟨by kernel_rfl, ?_⟩) | (refine ask_wrapu8 (by omega) (by omega) ?_) | (refine ask_wrapu64 (by omega) (by omega) ?_) | (refine ask_true (show (_ : Bool) = _ from rfl) ?_) | (refine ask_false (show ¬ ((_ : Bool) = _) from Bool.noConfusion) ?_) | fail)
    rfl
  · conv => whnf
    refine ask_split (fun h2 => ?_) (fun h2 => ?_)
    · rw [decide_eq_true (show bad20 x from .inr h2)]
      repeat' ((conv => whnf); first | (refine ask_wrap64 (by omega) (by omega) ?_) | (refine ask_true (by omega) ?_) | (refine ask_false (by omega) ?_) | (refine ⟨trivial, ?_⟩) | (refine ⟨by omega, ?_⟩) | (refine fun (_ : InK _ _) => ?_) | (refine ⟨by kernel_rfl, ?_⟩) | (refine ask_wrapu8 (by omega) (by omega) ?_) | (refine ask_wrapu64 (by omega) (by omega) ?_) | (refine ask_true (show (_ : Bool) = _ from rfl) ?_) | (refine ask_false (show ¬ ((_ : Bool) = _) from Bool.noConfusion) ?_) | fail)
      rfl
    · rw [decide_eq_false (show ¬ bad20 x from fun hb => by unfold bad20 at hb; omega)]
      repeat' ((conv => whnf); first | (refine ask_wrap64 (by omega) (by omega) ?_) | (refine ask_true (by omega) ?_) | (refine ask_false (by omega) ?_) | (refine ⟨trivial, ?_⟩) | (refine ⟨by omega, ?_⟩) | (refine fun (_ : InK _ _) => ?_) | (refine ⟨by kernel_rfl, ?_⟩) | (refine ask_wrapu8 (by omega) (by omega) ?_) | (refine ask_wrapu64 (by omega) (by omega) ?_) | (refine ask_true (show (_ : Bool) = _ from rfl) ?_) | (refine ask_false (show ¬ ((_ : Bool) = _) from Bool.noConfusion) ?_) | fail)
      rfl
theorem bad_ct : CtOk Try.prog 81 (ctP bad20) := ctP_ok F0_ok Try.func81 bad_walk
noncomputable def FH : Fns := ((F0.plus 81 (ctP bad20)).into 80 Try.f80).into 97 Try.f97
theorem FH_ok : FnsOk Try.prog FH := ((F0_ok.plus bad_ct Try.func81 (by kernel_rfl) (by kernel_rfl)).into Try.func80 (by kernel_rfl) (by kernel_rfl)).into Try.func97 (by kernel_rfl) (by kernel_rfl)

theorem held_walk (xs : List Int) (h : xs.length = 16) (hx : ∀ x ∈ xs, InK .i64 x) : walk FH 2 Try.f40 [ar 16 xs] [] fun y _ => y = vb (decide (held xs)) := by
  conv => whnf
  refine ⟨by decide, by decide, ?_⟩
  conv => whnf
  refine loop_at (4 :: 5 :: List.range' 8 11) (fun m (i : Int) => 0 ≤ i ∧ i ≤ 16 ∧ m = (16 - i).toNat ∧ ∀ k : Nat, (k : Int) < i → ¬ bad20 (xs.getD k 0)) (fun i => [(8, vi i)]) (fun _ => [ob xs]) 16 0 ⟨by decide, by decide, rfl, fun k hk => by omega⟩ ?_ ?_
  · exact ⟨rfl, ⟨⟨Nat.le_of_ble_eq_true rfl, rfl⟩, trivial⟩, ⟨rfl, trivial⟩, rfl, rfl, Nat.le_of_ble_eq_true rfl⟩
  · rintro m i ⟨h0, h1, rfl, h3⟩
    have em : mulN i.toNat (Try.prog.types[3]).size = i.toNat := mulN1 i.toNat
    have e0 : mulN 0 (Try.prog.types[3]).size = 0 := mulN1 0
    rcases Int.lt_or_le i 16 with h2 | h2
    · conv => whnf
      refine ask_true (by omega) ?_
      conv => whnf
      refine And.intro (by omega) ?_
      conv => whnf
      refine And.intro (by omega) fun hin => ?_
      conv => whnf
      have hat : xs.getD (mulN 0 (Try.prog.types[3]).size + mulN i.toNat (Try.prog.types[3]).size) 0 = xs.getD i.toNat 0 := by rw [e0, em, Nat.zero_add]
      refine ask_split (fun hb => ?_) (fun hb => ?_)
      · repeat' ((conv => whnf); first | (refine ask_true (by omega) ?_) | (refine ask_false (by omega) ?_) | fail)
        conv => whnf
        refine (ask_vb ?_)
        symm
        refine decide_eq_false fun hh => ?_
        rw [held_def] at hh
        rw [hat] at hb
        have hm : xs.getD i.toNat 0 ∈ xs := by
          rw [List.getD_eq_getElem?_getD, List.getElem?_eq_getElem (by omega)]
          exact List.getElem_mem _
        have := hh _ hm
        unfold bad20 at hb
        omega
      · repeat' ((conv => whnf); first | (refine ask_wrap64 (by omega) (by omega) ?_) | fail)
        refine ⟨(16 - (i + 1)).toNat, i + 1, by omega, ⟨by omega, by omega, rfl, fun k hk => ?_⟩, rfl, ⟨⟨Nat.le_of_ble_eq_true rfl, rfl⟩, trivial⟩, ⟨rfl, trivial⟩, rfl, rfl, Nat.le_of_ble_eq_true rfl⟩
        rcases Int.lt_or_le k i with hk2 | hk2
        · exact h3 k hk2
        · rw [hat] at hb
          obtain rfl : k = i.toNat := by omega
          exact hb
    · have hh : held xs := by
        rw [held_def]
        intro x hxm
        obtain ⟨k, hk, rfl⟩ := List.getElem_of_mem hxm
        have := h3 k (by omega)
        rw [List.getD_eq_getElem?_getD, List.getElem?_eq_getElem hk] at this
        unfold bad20 at this
        simp only [Option.getD_some] at this
        omega
      rw [decide_eq_true hh]
      repeat' ((conv => whnf); first | (refine ask_true (by omega) ?_) | (refine ask_false (by omega) ?_) | rfl | fail)
def ctHeld : Ct := fun ws K => match ws with
  | [.agg [.ints .i64 n xs]] => n = 16 ∧ ∀ τ, τ = decide (held xs) → K (vb τ)
  | _ => False
theorem ctHeld_ok {F : Fns} (hF : FnsOk Try.prog F) {n : Nat} {f : FuncId} {fn : Func} (hf : Try.prog.funcs[f]? = some fn)
    (h : ∀ xs : List Int, xs.length = 16 → (∀ x ∈ xs, InK .i64 x) → walk F n fn [ar 16 xs] [] fun y _ => y = vb (decide (held xs))) : CtOk Try.prog f ctHeld := by
  intro ws K h' hr
  unfold ctHeld at h'
  split at h'
  · rename_i m xs
    obtain ⟨rfl, h'⟩ := h'
    exact ⟨_, h' _ rfl, ⟨trivial, rfl⟩, walk_calls hF hf rfl hr rfl (h xs hr.1.1.1 hr.1.1.2)⟩
  · exact h'.elim
theorem held_ct : CtOk Try.prog 40 ctHeld := ctHeld_ok FH_ok Try.func40 held_walk

/-! ### two rows, one behind the other -/
noncomputable def FCc : Fns := F0.into 95 Try.f95
theorem FCc_ok : FnsOk Try.prog FCc := F0_ok.into Try.func95 (by kernel_rfl) (by kernel_rfl)
abbrev rowsR (xs ys : List Int) : List Blk := [.ro [.ints .i64 16 xs], .ro [.ints .i64 16 ys], .ro [.one (.csl 0 0 0 16 16), .one (.csl 1 0 0 16 16)]]
def joined (xs ys : List Int) (x : V) (N : List Blk) : Prop := ∃ c : Nat, 32 ≤ c ∧ c ≤ 9223372036854775807 ∧ x = .w (.c (.csl 0 0 0 32 c)) ∧ N = [.own 3 [.ints .i64 c (xs ++ ys ++ List.replicate (c - 32) 0)]]
def cat2 (xs ys : List Int) (i : Int) : List Int := if i = 0 then [] else if i = 1 then xs else xs ++ ys
abbrev catB (xs ys : List Int) (i : Int) (c : Nat) : Blk := .own 3 [.ints .i64 c (cat2 xs ys i ++ List.replicate (c - (16 * i).toNat) 0)]
theorem cat_step0 {xs ys : List Int} (h : xs.length = 16) {c : Nat} (hc : 32 ≤ c) : List.take (16 * 0 : Int).toNat (cat2 xs ys 0 ++ List.replicate (c - (16 * 0 : Int).toNat) 0) ++ List.take 16 (List.drop 0 xs) ++ List.drop ((16 * 0 : Int).toNat + 16) (cat2 xs ys 0 ++ List.replicate (c - (16 * 0 : Int).toNat) 0) =
    cat2 xs ys 1 ++ List.replicate (c - (16 * 1 : Int).toNat) 0 := by
  have e0 : cat2 xs ys 0 = [] := rfl
  have e1 : cat2 xs ys 1 = xs := rfl
  have e2 : (16 * 0 : Int).toNat = 0 := rfl
  have e3 : (16 * 1 : Int).toNat = 16 := rfl
  rw [e0, e1, e2, e3, List.take_zero, List.drop_zero, List.take_of_length_le (by omega)]
  simp [List.drop_replicate]
theorem cat_step1 {xs ys : List Int} (h : xs.length = 16) (h' : ys.length = 16) {c : Nat} (hc : 32 ≤ c) : List.take (16 * 1 : Int).toNat (cat2 xs ys 1 ++ List.replicate (c - (16 * 1 : Int).toNat) 0) ++ List.take 16 (List.drop 0 ys) ++ List.drop ((16 * 1 : Int).toNat + 16) (cat2 xs ys 1 ++ List.replicate (c - (16 * 1 : Int).toNat) 0) =
    cat2 xs ys 2 ++ List.replicate (c - (16 * 2 : Int).toNat) 0 := by
  have e1 : cat2 xs ys 1 = xs := rfl
  have e2 : cat2 xs ys 2 = xs ++ ys := rfl
  have e3 : (16 * 1 : Int).toNat = 16 := rfl
  have e4 : (16 * 2 : Int).toNat = 32 := rfl
  rw [e1, e2, e3, e4, List.drop_zero, List.take_of_length_le (l := ys) (by omega), List.take_append_of_le_length (by omega), List.take_of_length_le (by omega)]
  have e5 : List.drop (16 + 16) xs = [] := List.drop_of_length_le (by omega)
  rw [List.drop_append, e5]
  simp [List.drop_replicate, h]
  omega
theorem concat_walk (xs ys : List Int) (h : xs.length = 16) (h' : ys.length = 16) (hx : ∀ x ∈ xs, InK .i64 x) (hy : ∀ x ∈ ys, InK .i64 x) :
    walk FCc 1 Try.f67 [.c (.csl 2 0 0 2 2)] (rowsR xs ys) (Made (joined xs ys)) := by
  conv => whnf
  refine loop_at (3 :: 5 :: List.range' 11 12) (fun m (i : Int) => (i = 0 ∨ i = 1 ∨ i = 2) ∧ m = (2 - i).toNat) (fun i => [(3, vi (16 * i)), (11, vi i)]) (fun _ => rowsR xs ys) 2 0 ⟨.inl rfl, rfl⟩ ?_ ?_
  · exact ⟨rfl, ⟨⟨Nat.le_of_ble_eq_true rfl, rfl⟩, ⟨Nat.le_of_ble_eq_true rfl, rfl⟩, trivial⟩, ⟨rfl, rfl, rfl, trivial⟩, rfl, rfl, Nat.le_of_ble_eq_true rfl⟩
  · rintro m i ⟨hi, rfl⟩
    rcases hi with rfl | rfl | rfl
    · repeat' ((conv => whnf); first | (refine ask_true (by omega) ?_) | (refine ask_false (by omega) ?_) | (refine ask_wrap64 (by omega) (by omega) ?_) | (refine And.intro (by omega) ?_) | fail)
      conv => whnf
      exact ⟨1, 1, by decide, ⟨.inr (.inl rfl), rfl⟩, rfl, ⟨⟨Nat.le_of_ble_eq_true rfl, rfl⟩, ⟨Nat.le_of_ble_eq_true rfl, rfl⟩, trivial⟩, ⟨rfl, rfl, rfl, trivial⟩, rfl, rfl, Nat.le_of_ble_eq_true rfl⟩
    · repeat' ((conv => whnf); first | (refine ask_true (by omega) ?_) | (refine ask_false (by omega) ?_) | (refine ask_wrap64 (by omega) (by omega) ?_) | (refine And.intro (by omega) ?_) | fail)
      conv => whnf
      exact ⟨0, 2, by decide, ⟨.inr (.inr rfl), rfl⟩, rfl, ⟨⟨Nat.le_of_ble_eq_true rfl, rfl⟩, ⟨Nat.le_of_ble_eq_true rfl, rfl⟩, trivial⟩, ⟨rfl, rfl, rfl, trivial⟩, rfl, rfl, Nat.le_of_ble_eq_true rfl⟩
    · repeat' ((conv => whnf); first | (refine ask_true (by omega) ?_) | (refine ask_false (by omega) ?_) | (refine ask_wrap64 (by omega) (by omega) ?_) | (refine And.intro (by omega) ?_) | fail)
      refine And.intro ⟨rfl, by omega, by omega, Nat.le_of_ble_eq_true (by kernel_rfl)⟩ fun c (hc : 32 ≤ c) (hc' : c ≤ 9223372036854775807) => ?_
      repeat' ((conv => whnf); first | (refine ask_true (by omega) ?_) | (refine ask_false (by omega) ?_) | (refine ask_wrap64 (by omega) (by omega) ?_) | (refine And.intro (by omega) ?_) | fail)
      conv => whnf
      refine loop_at (6 :: 8 :: List.range' 27 8) (fun m (i : Int) => (i = 0 ∨ i = 1 ∨ i = 2) ∧ m = (2 - i).toNat) (fun i => [(6, .w (.c (.csl 3 0 0 (16 * i).toNat c))), (27, vi i)]) (fun i => rowsR xs ys ++ [catB xs ys i c]) 2 0 ⟨.inl rfl, rfl⟩ ?_ ?_
      · refine ⟨rfl, ⟨⟨Nat.le_of_ble_eq_true rfl, ?_⟩, ⟨Nat.le_of_ble_eq_true rfl, rfl⟩, trivial⟩, ⟨rfl, rfl, rfl, ?_, trivial⟩, rfl, rfl, Nat.le_of_ble_eq_true rfl⟩
        · rfl
        · show catB xs ys 0 c = .own 3 [.ints .i64 c (List.replicate 32 0 ++ List.replicate (c - 32) 0)]
          have e : cat2 xs ys 0 = [] := rfl
          rw [List.replicate_append_replicate, show 32 + (c - 32) = c by omega]
          show Blk.own 3 [.ints .i64 c (cat2 xs ys 0 ++ List.replicate (c - 0) 0)] = _
          rw [e]
          rfl
      · rintro m i ⟨hi, rfl⟩
        rcases hi with rfl | rfl | rfl
        · repeat' ((conv => whnf); first | (refine ask_true (by omega) ?_) | (refine ask_false (by omega) ?_) | (refine ask_wrap64 (by omega) (by omega) ?_) | (refine And.intro (by omega) ?_) | fail)
          conv => whnf
          refine And.intro ⟨rfl, by omega, Nat.le_of_ble_eq_true (by kernel_rfl)⟩ (And.intro (fun _ => ?_) fun hg => absurd hg (by omega))
          repeat' ((conv => whnf); first | (refine ask_wrap64 (by omega) (by omega) ?_) | fail)
          conv => whnf
          refine ⟨1, 1, by decide, ⟨.inr (.inl rfl), rfl⟩, rfl, ⟨⟨Nat.le_of_ble_eq_true rfl, rfl⟩, ⟨Nat.le_of_ble_eq_true rfl, rfl⟩, trivial⟩, ⟨rfl, rfl, rfl, ?_, trivial⟩, rfl, rfl, Nat.le_of_ble_eq_true rfl⟩
          exact congrArg (fun zs => Blk.own 3 [.ints .i64 c zs]) (cat_step0 h hc).symm
        · repeat' ((conv => whnf); first | (refine ask_true (by omega) ?_) | (refine ask_false (by omega) ?_) | (refine ask_wrap64 (by omega) (by omega) ?_) | (refine And.intro (by omega) ?_) | fail)
          conv => whnf
          refine And.intro ⟨rfl, by omega, Nat.le_of_ble_eq_true (by kernel_rfl)⟩ (And.intro (fun _ => ?_) fun hg => absurd hg (by omega))
          repeat' ((conv => whnf); first | (refine ask_wrap64 (by omega) (by omega) ?_) | fail)
          conv => whnf
          refine ⟨0, 2, by decide, ⟨.inr (.inr rfl), rfl⟩, rfl, ⟨⟨Nat.le_of_ble_eq_true rfl, rfl⟩, ⟨Nat.le_of_ble_eq_true rfl, rfl⟩, trivial⟩, ⟨rfl, rfl, rfl, ?_, trivial⟩, rfl, rfl, Nat.le_of_ble_eq_true rfl⟩
          exact congrArg (fun zs => Blk.own 3 [.ints .i64 c zs]) (cat_step1 h h' hc).symm
        · repeat' ((conv => whnf); first | (refine ask_true (by omega) ?_) | (refine ask_false (by omega) ?_) | (refine ask_wrap64 (by omega) (by omega) ?_) | (refine And.intro (by omega) ?_) | fail)
          conv => whnf
          refine made_of (.w (.c (.csl 0 0 0 32 c))) [.own 3 [.ints .i64 c (xs ++ ys ++ List.replicate (c - 32) 0)]] (fun _ => 3) ⟨c, hc, hc', rfl, rfl⟩ rfl (And.intro rfl trivial) (fun p q hp hq _ => ?_) rfl rfl (by intro e; cases e)
          have hp' : p < 1 := hp
          have hq' : q < 1 := hq
          omega

/-- The row that a block holds. -/
def rowK (H : List Blk) (j : Nat) (K : List Int → Prop) : Prop := hGet H j fun b => match b with
  | .own _ [.ints .i64 n xs] => n = 16 ∧ K xs
  | .ro [.ints .i64 n xs] => n = 16 ∧ K xs
  | _ => False
theorem rowK_spec {H : List Blk} {j : Nat} {K : List Int → Prop} (h : rowK H j K) (ho : HOk H) : ∃ xs, K xs ∧ xs.length = 16 ∧ (∀ x ∈ xs, InK .i64 x) ∧ ((∃ T, H[j]? = some (.own T [.ints .i64 16 xs])) ∨ H[j]? = some (.ro [.ints .i64 16 xs])) := by
  obtain ⟨b, hb, h⟩ := hGet_spec h
  have hr := ho.rng b (List.mem_of_getElem? hb)
  split at h
  · obtain ⟨rfl, h⟩ := h; exact ⟨_, h, hr.1.1, hr.1.2, .inl ⟨_, hb⟩⟩
  · obtain ⟨rfl, h⟩ := h; exact ⟨_, h, hr.1.1, hr.1.2, .inr hb⟩
  · exact h.elim
def hConcat : HCt := fun ws H K => match ws with
  | [.c (.csl j o i l c)] => (o = 0 ∧ i = 0 ∧ l = 2 ∧ c = 2) ∧ hGet H j fun b => match b with
    | .own _ [.one (.csl j1 o1 i1 l1 c1), .one (.csl j2 o2 i2 l2 c2)] => (o1 = 0 ∧ i1 = 0 ∧ l1 = 16 ∧ c1 = 16 ∧ o2 = 0 ∧ i2 = 0 ∧ l2 = 16 ∧ c2 = 16) ∧ rowK H j1 fun xs => rowK H j2 fun ys =>
      ∀ c : Nat, 32 ≤ c → c ≤ 9223372036854775807 → lenH H 0 fun n => pushH H (.own 3 [.ints .i64 c (xs ++ ys ++ List.replicate (c - 32) 0)]) fun H' => K (.w (.c (.csl n 0 0 32 c))) H'
    | _ => False
  | _ => False
theorem concat_ct : HCtOk Try.prog 67 hConcat := by
  intro ws H K h hr hb ho G σ base w₀ w hw
  unfold hConcat at h
  split at h
  · rename_i j o i l cap
    obtain ⟨⟨rfl, rfl, rfl, rfl⟩, h⟩ := h
    obtain ⟨b, hj, h⟩ := hGet_spec h
    split at h
    · rename_i T j1 o1 i1 l1 c1 j2 o2 i2 l2 c2
      obtain ⟨⟨rfl, rfl, rfl, rfl, rfl, rfl, rfl, rfl⟩, h⟩ := h
      obtain ⟨xs, h, x1, x2, x3⟩ := rowK_spec h ho
      obtain ⟨ys, h, y1, y2, y3⟩ := rowK_spec h ho
      refine walk_lift FCc_ok Try.func67 (n := 1) (ws := [.c (.csl 2 0 0 2 2)]) (R := rowsR xs ys) (P0 := joined xs ys) ⟨fun b hb => ?_, fun b hb => ?_⟩ ⟨⟨by decide, by decide⟩, trivial⟩ rfl (concat_walk xs ys x1 y1 x2 y2) ?_ (fun k => if k = 0 then j1 else if k = 1 then j2 else j) ?_ rfl ?_ ho G σ base w₀ w hw
      · simp only [List.mem_cons, List.not_mem_nil, or_false] at hb
        rcases hb with rfl | rfl | rfl
        · exact ⟨⟨x1, x2⟩, trivial⟩
        · exact ⟨⟨y1, y2⟩, trivial⟩
        · exact ⟨⟨by decide, by decide⟩, ⟨by decide, by decide⟩, trivial⟩
      · simp only [List.mem_cons, List.not_mem_nil, or_false] at hb
        rcases hb with rfl | rfl | rfl <;> rfl
      · rintro x N ⟨c, _, _, _, rfl⟩ b hb
        simp only [List.mem_cons, List.not_mem_nil, or_false] at hb
        subst hb
        exact .inl rfl
      · intro k b hk
        match k, hk with
        | 0, hk => simp at hk; subst hk; exact .inr ⟨_, rfl, x3⟩
        | 1, hk => simp at hk; subst hk; exact .inr ⟨_, rfl, y3⟩
        | 2, hk => simp at hk; subst hk; exact .inr ⟨_, rfl, .inl ⟨_, hj⟩⟩
        | k + 3, hk => simp at hk
      · rintro x N ⟨c, c1, c2, rfl, rfl⟩
        have := h c c1 c2
        rw [lenH_iff, pushH_iff, Nat.zero_add] at this
        simpa [V.ren, W.ren, C.ren, sh, Blk.ren, rens, Seg.ren] using this
    · exact h.elim
  · exact h.elim

/- Chapter mdct: the waves of two frames. -/
set_option maxRecDepth 100000
set_option maxHeartbeats 32000000

/-- The cosine of a number's place, and a wave's. -/
@[irreducible] noncomputable def kAt : Int → Int → Int := sealed fun n k => cosS ((2 * n + 17) * (2 * k + 1))
theorem kAt_def (n k : Int) : kAt n k = cosS ((2 * n + 17) * (2 * k + 1)) := by unfold kAt; rw [sealed_eq]
theorem kAt_bound (n k : Int) : -32768 ≤ kAt n k ∧ kAt n k ≤ 32768 := by rw [kAt_def]; exact cosS_bound _
/-- A number under the window. -/
@[irreducible] noncomputable def wnd : List Int → Int → Int := sealed fun xs i => shiftS (xs.getD i.toNat 0 * sinS (2 * i + 1)) 15
theorem wnd_def (xs : List Int) (i : Int) : wnd xs i = shiftS (xs.getD i.toNat 0 * sinS (2 * i + 1)) 15 := by unfold wnd; rw [sealed_eq]
/-- The sum of what is told of so many. -/
@[irreducible] noncomputable def sumN (f : Int → Int) : Nat → Int := sealed fun n => ((List.range n).map fun (i : Nat) => f (i : Int)).sum
theorem sumN_zero (f : Int → Int) : sumN f 0 = 0 := by unfold sumN; rw [sealed_eq]; rfl
theorem sumN_succ (f : Int → Int) (n : Nat) : sumN f (n + 1) = sumN f n + f n := by
  unfold sumN; rw [sealed_eq, List.range_succ]; simp
theorem sumN_int (f : Int → Int) {i : Int} (h : 0 ≤ i) : sumN f (i + 1).toNat = sumN f i.toNat + f i := by
  rw [show (i + 1).toNat = i.toNat + 1 by omega, sumN_succ, Int.toNat_of_nonneg h]
theorem sumN_bound {f : Int → Int} {b : Int} {m : Nat} (h : ∀ i : Int, 0 ≤ i → i < m → -b ≤ f i ∧ f i ≤ b) : ∀ n : Nat, n ≤ m → -(b * n) ≤ sumN f n ∧ sumN f n ≤ b * n
  | 0, _ => by rw [sumN_zero]; simp
  | n + 1, hn => by
    have h1 := sumN_bound h n (by omega)
    have h2 := h n (by omega) (by omega)
    rw [sumN_succ]
    have : b * ((n + 1 : Nat) : Int) = b * n + b := by rw [Int.natCast_add, Int.mul_add]; simp
    omega
theorem shift_eq {x n : Int} (h : -1099511627776 ≤ x ∧ x ≤ 1099511627776) (h1 : 1 ≤ n) (h2 : n ≤ 40) : shiftS x n = (x + pw (n - 1)) / pw n := by
  rw [shiftS_def, if_neg (by omega), if_neg (by omega)]
theorem p14 : pw 14 = 16384 := by rw [pw_def]; decide
theorem p15' : pw 15 = 32768 := by rw [pw_def]; decide
theorem p16'' : pw 16 = 65536 := by rw [pw_def]; decide
theorem p17 : pw 17 = 131072 := by rw [pw_def]; decide
theorem shift15 {x : Int} (h : -1099511627776 ≤ x ∧ x ≤ 1099511627776) : shiftS x 15 = (x + 16384) / 32768 := by
  rw [shift_eq h (by decide) (by decide)]
  show (x + pw 14) / pw 15 = _
  rw [p14, p15']
theorem shift16 {x : Int} (h : -1099511627776 ≤ x ∧ x ≤ 1099511627776) : shiftS x 16 = (x + 32768) / 65536 := by
  rw [shift_eq h (by decide) (by decide)]
  show (x + pw 15) / pw 16 = _
  rw [p15', p16'']
theorem shift17 {x : Int} (h : -1099511627776 ≤ x ∧ x ≤ 1099511627776) : shiftS x 17 = (x + 65536) / 131072 := by
  rw [shift_eq h (by decide) (by decide)]
  show (x + pw 16) / pw 17 = _
  rw [p16'', p17]
theorem held_at {xs : List Int} (h : held xs) (i : Nat) : -1048576 ≤ xs.getD i 0 ∧ xs.getD i 0 ≤ 1048576 := by
  rw [held_def] at h
  rw [List.getD_eq_getElem?_getD]
  cases hi : xs[i]? with
  | none => simp
  | some v => exact h v (List.mem_of_getElem? hi)
theorem wnd_bound {xs : List Int} (h : held xs) (i : Int) : -1048576 ≤ wnd xs i ∧ wnd xs i ≤ 1048576 := by
  have h1 := held_at h i.toNat
  have h2 := sin_bound (2 * i + 1)
  have h3 := prod_bound h1.1 h1.2 h2.1 h2.2
  rw [wnd_def, shift15 (by omega)]
  omega
noncomputable def wTerm (xs : List Int) (k i : Int) : Int := wnd xs i * kAt i k
theorem wTerm_bound {xs : List Int} (h : held xs) (k i : Int) : -34359738368 ≤ wTerm xs k i ∧ wTerm xs k i ≤ 34359738368 := by
  have h1 := wnd_bound h i
  have h2 := kAt_bound i k
  have h3 := prod_bound h1.1 h1.2 h2.1 h2.2
  unfold wTerm
  omega
noncomputable def waveS (xs : List Int) (k : Int) : Int := shiftS (sumN (wTerm xs k) 32) 17
noncomputable def waveZ (xs : List Int) : List Int := (List.range 16).map fun (k : Nat) => waveS xs (k : Int)
noncomputable def wavesZ (a b : List Int) : List Int := if held a ∧ held b then waveZ (a ++ b) else z16
theorem held_append {a b : List Int} (ha : held a) (hb : held b) : held (a ++ b) := by
  rw [held_def] at *
  intro x hx
  rcases List.mem_append.1 hx with h | h
  · exact ha x h
  · exact hb x h

noncomputable def FM : Fns := ((((((((((F0.plus 40 ctHeld).plus 70 (ct2 (fun _ _ => True) shiftS)).plus 94 (ct0 (.w (ar 32 winZ)))).plus 93 (ct0 (.w (ar 128 tabZ)))).over 67 hConcat).every 67).into 66 Try.f66).into 68 Try.f68).into 69 Try.f69).into 79 Try.f79).into 71 Try.f71
theorem FM_ok : FnsOk Try.prog FM := ((((((((((F0_ok.plus held_ct Try.func40 (by kernel_rfl) (by kernel_rfl)).plus shift_ct Try.func70 (by kernel_rfl) (by kernel_rfl)).plus window_ct Try.func94 (by kernel_rfl) (by kernel_rfl)).plus table_ct Try.func93 (by kernel_rfl) (by kernel_rfl)).over concat_ct Try.func67 (by kernel_rfl) (by kernel_rfl)).every 67).into Try.func66 (by kernel_rfl) (by kernel_rfl)).into Try.func68 (by kernel_rfl) (by kernel_rfl)).into Try.func69 (by kernel_rfl) (by kernel_rfl)).into Try.func79 (by kernel_rfl) (by kernel_rfl)).into Try.func71 (by kernel_rfl) (by kernel_rfl)

theorem tab_at {r : Int} {m : Nat} (hm : m = r.toNat) (h0 : 0 ≤ r) (h1 : r < 128) : tabZ.getD m 0 = cosS r := by
  subst hm
  unfold tabZ
  rw [getD_range (by omega), Int.toNat_of_nonneg h0]
theorem win_of {i : Int} {m : Nat} (hm : m = i.toNat) (h0 : 0 ≤ i) (h1 : i < 32) : winZ.getD m 0 = sinS (2 * i + 1) := by
  subst hm
  unfold winZ
  rw [getD_range (by omega), Int.toNat_of_nonneg h0]
theorem getD_append' {xs ys : List Int} {i : Nat} (h : i < xs.length) : (xs ++ ys).getD i 0 = xs.getD i 0 := by
  simp [List.getD_eq_getElem?_getD, List.getElem?_append_left h]
theorem kAt_mod {n k r : Int} (h0 : 0 ≤ n) (h1 : 0 ≤ k) (h : r = ((2 * n + 1 + 16) * (2 * k + 1)).tmod 128) (hp : 0 ≤ (2 * n + 1 + 16) * (2 * k + 1)) : cosS r = kAt n k := by
  rw [kAt_def, cosS_mod ((2 * n + 17) * (2 * k + 1)), h, Int.tmod_eq_emod_of_nonneg hp]
  congr 3
  omega
noncomputable abbrev mH (xs ys : List Int) (c : Nat) (out : List Int) : List Blk := [.gone, .gone, .own 38 [.ints .i64 16 z16], .own 38 [.ints .i64 16 out], .own 100 [.ints .i64 128 tabZ, .ints .i64 32 winZ], .own 93 [.one (.cp 4 0)],
  .own 3 [.ints .i64 c (xs ++ ys ++ List.replicate (c - 32) 0)], .own 95 [.one (.csl 6 0 0 32 c)]]
def rhoA (j : Nat) : Nat := if j = 6 then 7 else if j = 7 then 8 else j
def rhoB (j : Nat) : Nat := if j = 6 then 8 else if j = 7 then 6 else j
def rhoC (j : Nat) : Nat := if j = 6 then 8 else j
theorem rhoA_inj {i j : Nat} (hi : i < 8) (hj : j < 8) (h : rhoA i = rhoA j) : i = j := by unfold rhoA at h; split at h <;> split at h <;> (try split at h) <;> (try split at h) <;> omega
theorem rhoB_inj {i j : Nat} (hi : i < 8) (hj : j < 8) (h : rhoB i = rhoB j) : i = j := by unfold rhoB at h; split at h <;> split at h <;> (try split at h) <;> (try split at h) <;> omega
theorem rhoC_inj {i j : Nat} (hi : i < 8) (hj : j < 8) (h : rhoC i = rhoC j) : i = j := by unfold rhoC at h; split at h <;> split at h <;> omega
theorem waves_walk (xs ys : List Int) (h : xs.length = 16) (h' : ys.length = 16) (hx : ∀ x ∈ xs, InK .i64 x) (hy : ∀ x ∈ ys, InK .i64 x) : walk FM 3 Try.f32 [ar 16 xs, ar 16 ys] [] fun y _ => y = .w (ar 16 (wavesZ xs ys)) := by
  conv => whnf
  refine And.intro rfl ?_
  conv => whnf
  refine ask_split (fun h1 => ?_) (fun h1 => ?_)
  · repeat' ((conv => whnf); first | (refine And.intro rfl ?_) | fail)
    refine ask_split (fun h2 => ?_) (fun h2 => ?_)
    · conv => whnf
      have e0 : mulN 0 (Try.prog.types[3]).size = 0 := mulN1 0
      refine all_at [7, 20, 21, 22, 23] (fun c : Nat => 32 ≤ c ∧ c ≤ 9223372036854775807) (fun _ => [(7, .w (.c (.cp 7 0)))]) (fun c => mH xs ys c z16) ?_ ?_
      · rintro c ⟨hc, hc'⟩
        conv => whnf
        refine loop_at (8 :: 9 :: List.range' 24 10) (fun m (k : Int) => 0 ≤ k ∧ k ≤ 16 ∧ m = (16 - k).toNat) (fun k => [(24, vi k)]) (fun k => mH xs ys c (stg (waveZ (xs ++ ys)) z16 k)) 16 0 ⟨by decide, by decide, rfl⟩ ?_ ?_
        · exact ⟨rfl, ⟨⟨Nat.le_of_ble_eq_true rfl, rfl⟩, trivial⟩, ⟨rfl, by rw [stg_zero], rfl, rfl, rfl, rfl, trivial⟩, rfl, rfl, Nat.zero_le _⟩
        · rintro m k ⟨k0, k1, rfl⟩
          have ek : mulN k.toNat (Try.prog.types[3]).size = k.toNat := mulN1 _
          rcases Int.lt_or_le k 16 with k2 | k2
          · conv => whnf
            refine ask_true (by omega) ?_
            conv => whnf
            refine loop_at2 (5 :: 6 :: List.range' 8 9) (fun m (i s : Int) => 0 ≤ i ∧ i ≤ 32 ∧ s = sumN (wTerm (xs ++ ys) k) i.toNat ∧ m = (32 - i).toNat) (fun i s => [(5, vi s), (8, vi i)]) (fun _ _ => mH xs ys c (stg (waveZ (xs ++ ys)) z16 k) ++ [.own 3 [.one (.ci .i64 k)]]) 32 0 0 ⟨by decide, by decide, (sumN_zero _).symm, rfl⟩ ?_ ?_
            · exact ⟨rfl, ⟨⟨Nat.le_of_ble_eq_true rfl, rfl⟩, ⟨Nat.le_of_ble_eq_true rfl, rfl⟩, trivial⟩, ⟨rfl, rfl, rfl, rfl, rfl, rfl, rfl, trivial⟩, rfl, rfl, Nat.le_of_ble_eq_true rfl⟩
            · rintro m i s ⟨i0, i1, hs, rfl⟩
              have ei : mulN i.toNat (Try.prog.types[3]).size = i.toNat := mulN1 _
              rcases Int.lt_or_le i 32 with i2 | i2
              · have hz := held_append h1 h2
                have hX : (xs ++ ys ++ List.replicate (c - 32) 0).getD (0 + mulN i.toNat (Try.prog.types[3]).size) 0 = (xs ++ ys).getD i.toNat 0 := by rw [ei, Nat.zero_add, getD_append' (by simp; omega)]
                have hW : winZ.getD (mulN i.toNat (Try.prog.types[3]).size) 0 = sinS (2 * i + 1) := win_of ei i0 i2
                have q1 := held_at hz i.toNat
                have q2 := sin_bound (2 * i + 1)
                have q3 := prod_bound q1.1 q1.2 q2.1 q2.2
                rw [← hX, ← hW] at q3
                have q4 := mul_bound (a := 2 * i + 1 + 16) (b := 2 * k + 1) (m := 79) (n := 31) (by omega) (by omega) (by omega) (by omega)
                have q5 : shiftS ((xs ++ ys ++ List.replicate (c - 32) 0).getD (0 + mulN i.toNat (Try.prog.types[3]).size) 0 * winZ.getD (mulN i.toNat (Try.prog.types[3]).size) 0) 15 = wnd (xs ++ ys) i := by rw [hX, hW, wnd_def]
                have q6 := wTerm_bound hz k i
                have q7 := sumN_bound (f := wTerm (xs ++ ys) k) (b := 34359738368) (m := 32) (fun i _ _ => wTerm_bound hz k i) i.toNat (by omega)
                rw [← hs] at q7
                have q8 : shiftS ((xs ++ ys ++ List.replicate (c - 32) 0).getD (0 + mulN i.toNat (Try.prog.types[3]).size) 0 * winZ.getD (mulN i.toNat (Try.prog.types[3]).size) 0) 15 * kAt i k = wTerm (xs ++ ys) k i := by rw [q5]; rfl
                repeat' ((conv => whnf); first | (refine ask_true (by omega) ?_) | (refine And.intro (by omega) ?_) | (refine fun (_ : InK _ _) => ?_) | (refine ask_wrap64 (by omega) (by omega) ?_) | fail)
                refine And.intro trivial ?_
                conv => whnf
                refine ⟨[4], vi (kAt i k), rfl, ?_, ?_, ?_⟩
                · repeat' ((conv => whnf); first | (refine ask_wrap64 (by omega) (by omega) ?_) | (refine And.intro (by omega) fun r hr => ?_) | fail)
                  have r0 : 0 ≤ r ∧ r < 128 := by
                    rw [hr, Int.tmod_eq_emod_of_nonneg (by omega)]; omega
                  have er : mulN r.toNat (Try.prog.types[3]).size = r.toNat := mulN1 _
                  repeat' ((conv => whnf); first | (refine And.intro (by omega) ?_) | (refine fun (_ : InK _ _) => ?_) | fail)
                  conv => whnf
                  exact vi_eq ((tab_at er r0.1 r0.2).trans (kAt_mod i0 k0 hr q4.1))
                · have := kAt_bound i k
                  show InK .i64 _
                  simp only [InK, lowK, highK]; omega
                · repeat' ((conv => whnf); first | (refine ask_wrap64 (by omega) (by omega) ?_) | (refine ⟨by kernel_rfl, ?_⟩) | fail)
                  conv => whnf
                  refine ⟨(32 - (i + 1)).toNat, (i + 1, _), by show (32 - (i + 1)).toNat < (32 - i).toNat; omega, ⟨by show 0 ≤ i + 1; omega, by show i + 1 ≤ 32; omega, ?_, rfl⟩, rfl, ⟨⟨Nat.le_of_ble_eq_true rfl, rfl⟩, ⟨Nat.le_of_ble_eq_true rfl, rfl⟩, trivial⟩, ⟨rfl, rfl, rfl, rfl, rfl, rfl, rfl, trivial⟩, rfl, rfl, Nat.le_of_ble_eq_true rfl⟩
                  show s + _ = sumN (wTerm (xs ++ ys) k) (i + 1).toNat
                  rw [sumN_int _ i0, ← hs, q8]
              · have hi : i = 32 := by omega
                subst hi
                repeat' ((conv => whnf); first | (refine ask_false (by omega) ?_) | (refine And.intro trivial ?_) | (refine And.intro (by omega) ?_) | (refine ⟨by kernel_rfl, ?_⟩) | (refine ask_wrap64 (by omega) (by omega) ?_) | fail)
                conv => whnf
                refine ⟨(16 - (k + 1)).toNat, k + 1, by omega, ⟨by omega, by omega, rfl⟩, rfl, ⟨⟨Nat.le_of_ble_eq_true rfl, rfl⟩, trivial⟩, ⟨rfl, ?_, rfl, rfl, rfl, rfl, trivial⟩, rfl, rfl, Nat.zero_le _⟩
                refine congrArg (fun zs => Blk.own 38 [.ints .i64 16 zs]) (stg_set ek (by simp [waveZ, z16]) k0 (by simp [waveZ]; omega) ?_).symm
                unfold waveZ
                rw [getD_range (by omega), Int.toNat_of_nonneg k0, hs]
                rfl
          · have hk : k = 16 := by omega
            subst hk
            rw [stg_all (by simp [waveZ, z16]) (by simp [waveZ])]
            repeat' ((conv => whnf); first | (refine ask_false (by omega) ?_) | fail)
            conv => whnf
            rw [show wavesZ xs ys = waveZ (xs ++ ys) from if_pos ⟨h1, h2⟩]
            rfl
      · repeat' ((conv => whnf); first | exact trivial | (refine And.intro (by omega) ?_) | (refine fun (c : Nat) (_ : _ ≤ _) (_ : _ ≤ _) => ?_) | (refine And.intro ?_ ?_) | fail)
        all_goals (conv => whnf)
        all_goals rename_i hc hc'
        all_goals first | (refine ⟨c, rhoA, ⟨hc, hc'⟩, ⟨?_, And.intro rfl (And.intro rfl (And.intro rfl (And.intro rfl (And.intro rfl (And.intro rfl trivial))))), fun _ _ hi hj => rhoA_inj hi hj, fun j hj => absurd hj (Nat.not_lt_zero j), rfl, rfl, Nat.zero_le _⟩⟩; repeat' (first | exact trivial | refine And.intro rfl ?_ | fail)) | (refine ⟨c, rhoB, ⟨hc, hc'⟩, ⟨?_, And.intro rfl (And.intro rfl (And.intro rfl (And.intro rfl (And.intro rfl (And.intro rfl trivial))))), fun _ _ hi hj => rhoB_inj hi hj, fun j hj => absurd hj (Nat.not_lt_zero j), rfl, rfl, Nat.zero_le _⟩⟩; repeat' (first | exact trivial | refine And.intro rfl ?_ | fail)) | (refine ⟨c, rhoC, ⟨hc, hc'⟩, ⟨?_, And.intro rfl (And.intro rfl (And.intro rfl (And.intro rfl (And.intro rfl (And.intro rfl trivial))))), fun _ _ hi hj => rhoC_inj hi hj, fun j hj => absurd hj (Nat.not_lt_zero j), rfl, rfl, Nat.zero_le _⟩⟩; repeat' (first | exact trivial | refine And.intro rfl ?_ | fail)) | fail
    · repeat' ((conv => whnf); first | fail)
      conv => whnf
      rw [show wavesZ xs ys = z16 from if_neg (fun hh => h2 hh.2)]
      rfl
  · repeat' ((conv => whnf); first | fail)
    conv => whnf
    rw [show wavesZ xs ys = z16 from if_neg (fun hh => h1 hh.1)]
    rfl

/- Chapter mdct: the way back, what is laid over; contracts. -/
set_option maxRecDepth 100000
set_option maxHeartbeats 32000000

/-! ### over -/
theorem p31 : pw 31 = 2147483648 := by rw [pw_def]; decide
theorem cut32 (x : Int) : cutS x 32 = max (min x 2147483647) (-2147483648) := by
  rw [cut_eq x (by decide) (by decide)]
  show max (min x (pw 31 - 1)) (-pw 31) = _
  rw [p31]; rfl
theorem cut32_bound (x : Int) : -2147483648 ≤ cutS x 32 ∧ cutS x 32 ≤ 2147483647 := by rw [cut32]; omega
noncomputable def over1 (x y : Int) : Int := cutS (cutS x 32 + cutS y 32) 32
noncomputable def overZ (xs ys : List Int) : List Int := (List.range 16).map fun i => over1 (xs.getD i 0) (ys.getD i 0)
theorem overZ_len (xs ys : List Int) : (overZ xs ys).length = 16 := by simp [overZ]
theorem over_walk (xs ys : List Int) (h : xs.length = 16) (h' : ys.length = 16) (hx : ∀ x ∈ xs, InK .i64 x) (hy : ∀ x ∈ ys, InK .i64 x) : walk FCut 0 Try.f42 [ar 16 xs, ar 16 ys] [] fun y _ => y = .w (ar 16 (overZ xs ys)) := by
  conv => whnf
  refine loop_at (6 :: List.range' 7 16) (fun m (i : Int) => 0 ≤ i ∧ i ≤ 16 ∧ m = (16 - i).toNat) (fun i => [(7, vi i)]) (fun i => [ob xs, ob ys, ob z16, ob (stg (overZ xs ys) z16 i)]) 16 0 ⟨by decide, by decide, rfl⟩ ?_ ?_
  · exact ⟨rfl, ⟨⟨Nat.le_of_ble_eq_true rfl, rfl⟩, trivial⟩, ⟨rfl, rfl, rfl, by rw [stg_zero]; rfl, trivial⟩, rfl, rfl, Nat.zero_le _⟩
  · rintro m i ⟨h0, h1, rfl⟩
    have em : mulN i.toNat (Try.prog.types[3]).size = i.toNat := mulN1 i.toNat
    rcases Int.lt_or_le i 16 with h2 | h2
    · have c1 := cut32_bound (xs.getD (mulN i.toNat (Try.prog.types[3]).size) 0)
      have c2 := cut32_bound (ys.getD (mulN i.toNat (Try.prog.types[3]).size) 0)
      repeat' ((conv => whnf); first | (refine ask_true (by omega) ?_) | (refine And.intro trivial ?_) | (refine And.intro (by omega) ?_) | (refine fun (_ : InK _ _) => ?_) | (refine ask_wrap64 (by omega) (by omega) ?_) | (refine ⟨by kernel_rfl, ?_⟩) | fail)
      conv => whnf
      refine ⟨(16 - (i + 1)).toNat, i + 1, by omega, ⟨by omega, by omega, rfl⟩, rfl, ⟨⟨Nat.le_of_ble_eq_true rfl, rfl⟩, trivial⟩, ⟨rfl, rfl, rfl, ?_, trivial⟩, rfl, rfl, Nat.zero_le _⟩
      refine congrArg ob (stg_set em (by rw [overZ_len]; rfl) h0 (by rw [overZ_len]; omega) ?_).symm
      unfold overZ
      rw [getD_range (by omega), em]
      rfl
    · have hi : i = 16 := by omega
      subst hi
      rw [stg_all (by rw [overZ_len]; rfl) (by rw [overZ_len]; rfl)]
      repeat' ((conv => whnf); first | (refine ask_false (by omega) ?_) | rfl | fail)

/-! ### back -/
noncomputable def bTerm (w : List Int) (n k : Int) : Int := w.getD k.toNat 0 * kAt n k
theorem bTerm_bound {w : List Int} (h : held w) (n k : Int) : -34359738368 ≤ bTerm w n k ∧ bTerm w n k ≤ 34359738368 := by
  have h1 := held_at h k.toNat
  have h2 := kAt_bound n k
  have h3 := prod_bound h1.1 h1.2 h2.1 h2.2
  unfold bTerm
  omega
noncomputable def backS (w : List Int) (n : Int) : Int := shiftS (shiftS (sumN (bTerm w n) 16) 15 * sinS (2 * n + 1)) 16
noncomputable def backL (w : List Int) : List Int := (List.range 32).map fun (n : Nat) => backS w (n : Int)
theorem backL_len (w : List Int) : (backL w).length = 32 := by simp [backL]
noncomputable def backZ (w : List Int) : List Int := if held w then backL w else z32
theorem backZ_len (w : List Int) : (backZ w).length = 32 := by unfold backZ; split; exact backL_len w; rfl
noncomputable def back1 (w : List Int) : List Int := (backZ w).take 16
noncomputable def back2 (w : List Int) : List Int := (backZ w).drop 16
noncomputable abbrev bH (w out : List Int) : List Blk := [ob w, ob z16, ob z16, o32 out, .own 100 [.ints .i64 128 tabZ, .ints .i64 32 winZ], .own 93 [.one (.cp 4 0)]]
theorem sum16_bound {w : List Int} (h : held w) (n : Int) : -549755813888 ≤ sumN (bTerm w n) 16 ∧ sumN (bTerm w n) 16 ≤ 549755813888 := by
  have := sumN_bound (f := bTerm w n) (b := 34359738368) (m := 16) (fun i _ _ => bTerm_bound h n i) 16 (by omega)
  omega
theorem back_walk (w : List Int) (h : w.length = 16) (hx : ∀ x ∈ w, InK .i64 x) : walk FM 3 Try.f39 [ar 16 w] [] fun y _ => y = .tup [ar 16 (back1 w), ar 16 (back2 w)] := by
  have e0 : mulN (natI 16) (Try.prog.types[3]).size = 16 := mulN1 _
  have e00 : mulN 0 (Try.prog.types[3]).size = 0 := mulN1 _
  have fin : ∀ L : List Int, L.length = 32 → V.tup [W.agg [.ints .i64 16 ((L.drop (mulN 0 (Try.prog.types[3]).size)).take 16)], W.agg [.ints .i64 16 ((L.drop (mulN (natI 16) (Try.prog.types[3]).size)).take 16)]] = .tup [ar 16 (L.take 16), ar 16 (L.drop 16)] := fun L hL => by
    rw [e0, e00, List.drop_zero, List.take_of_length_le (l := L.drop 16) (by simp; omega)]
  conv => whnf
  refine And.intro rfl ?_
  conv => whnf
  refine ask_split (fun h1 => ?_) (fun h1 => ?_)
  · conv => whnf
    refine loop_at (6 :: 7 :: List.range' 11 18) (fun m (n : Int) => 0 ≤ n ∧ n ≤ 32 ∧ m = (32 - n).toNat) (fun n => [(11, vi n)]) (fun n => bH w (stg (backL w) z32 n)) 32 0 ⟨by decide, by decide, rfl⟩ ?_ ?_
    · exact ⟨rfl, ⟨⟨Nat.le_of_ble_eq_true rfl, rfl⟩, trivial⟩, ⟨rfl, rfl, rfl, by rw [stg_zero]; rfl, rfl, rfl, trivial⟩, rfl, rfl, Nat.zero_le _⟩
    · rintro m n ⟨n0, n1, rfl⟩
      have en : mulN n.toNat (Try.prog.types[3]).size = n.toNat := mulN1 _
      rcases Int.lt_or_le n 32 with n2 | n2
      · conv => whnf
        refine ask_true (by omega) ?_
        conv => whnf
        refine loop_at2 (5 :: 6 :: List.range' 8 9) (fun m (k s : Int) => 0 ≤ k ∧ k ≤ 16 ∧ s = sumN (bTerm w n) k.toNat ∧ m = (16 - k).toNat) (fun k s => [(5, vi s), (8, vi k)]) (fun _ _ => bH w (stg (backL w) z32 n) ++ [.own 3 [.one (.ci .i64 n)]]) 16 0 0 ⟨by decide, by decide, (sumN_zero _).symm, rfl⟩ ?_ ?_
        · exact ⟨rfl, ⟨⟨Nat.le_of_ble_eq_true rfl, rfl⟩, ⟨Nat.le_of_ble_eq_true rfl, rfl⟩, trivial⟩, ⟨rfl, rfl, rfl, rfl, rfl, rfl, rfl, trivial⟩, rfl, rfl, Nat.le_of_ble_eq_true rfl⟩
        · rintro m k s ⟨k0, k1, hs, rfl⟩
          have ek : mulN k.toNat (Try.prog.types[3]).size = k.toNat := mulN1 _
          rcases Int.lt_or_le k 16 with k2 | k2
          · have q1 := held_at h1 (mulN k.toNat (Try.prog.types[3]).size)
            have q2 := kAt_bound n k
            have q3 := prod_bound q1.1 q1.2 q2.1 q2.2
            have q4 := mul_bound (a := 2 * n + 1 + 16) (b := 2 * k + 1) (m := 79) (n := 31) (by omega) (by omega) (by omega) (by omega)
            have q7 := sumN_bound (f := bTerm w n) (b := 34359738368) (m := 16) (fun i _ _ => bTerm_bound h1 n i) k.toNat (by omega)
            rw [← hs] at q7
            have q8 : w.getD (mulN k.toNat (Try.prog.types[3]).size) 0 * kAt n k = bTerm w n k := by rw [ek]; rfl
            repeat' ((conv => whnf); first | (refine ask_true (by omega) ?_) | (refine And.intro (by omega) ?_) | (refine fun (_ : InK _ _) => ?_) | (refine ask_wrap64 (by omega) (by omega) ?_) | fail)
            conv => whnf
            refine ⟨[4], vi (kAt n k), rfl, ?_, ?_, ?_⟩
            · repeat' ((conv => whnf); first | (refine ask_wrap64 (by omega) (by omega) ?_) | (refine And.intro (by omega) fun r hr => ?_) | fail)
              have r0 : 0 ≤ r ∧ r < 128 := by
                rw [hr, Int.tmod_eq_emod_of_nonneg (by omega)]; omega
              have er : mulN r.toNat (Try.prog.types[3]).size = r.toNat := mulN1 _
              repeat' ((conv => whnf); first | (refine And.intro (by omega) ?_) | (refine fun (_ : InK _ _) => ?_) | fail)
              conv => whnf
              exact vi_eq ((tab_at er r0.1 r0.2).trans (kAt_mod n0 k0 hr q4.1))
            · show InK .i64 _
              simp only [InK, lowK, highK]; omega
            · repeat' ((conv => whnf); first | (refine ask_wrap64 (by omega) (by omega) ?_) | (refine ⟨by kernel_rfl, ?_⟩) | fail)
              conv => whnf
              refine ⟨(16 - (k + 1)).toNat, (k + 1, _), by show (16 - (k + 1)).toNat < (16 - k).toNat; omega, ⟨by show 0 ≤ k + 1; omega, by show k + 1 ≤ 16; omega, ?_, rfl⟩, rfl, ⟨⟨Nat.le_of_ble_eq_true rfl, rfl⟩, ⟨Nat.le_of_ble_eq_true rfl, rfl⟩, trivial⟩, ⟨rfl, rfl, rfl, rfl, rfl, rfl, rfl, trivial⟩, rfl, rfl, Nat.le_of_ble_eq_true rfl⟩
              show s + _ = sumN (bTerm w n) (k + 1).toNat
              rw [sumN_int _ k0, ← hs, q8]
          · have hk : k = 16 := by omega
            subst hk
            have hs' : s = sumN (bTerm w n) 16 := hs
            have b1 := sum16_bound h1 n
            rw [← hs'] at b1
            have b2 := shift15 (x := s) (by omega)
            have b3 := sin_bound (2 * n + 1)
            have hW : winZ.getD (mulN n.toNat (Try.prog.types[3]).size) 0 = sinS (2 * n + 1) := win_of en n0 n2
            rw [← hW] at b3
            have b4 := prod_bound (a := shiftS s 15) (b := winZ.getD (mulN n.toNat (Try.prog.types[3]).size) 0) (m := 16777216) (n := 32768) (by omega) (by omega) b3.1 b3.2
            repeat' ((conv => whnf); first | (refine ask_false (by omega) ?_) | (refine And.intro trivial ?_) | (refine And.intro (by omega) ?_) | (refine fun (_ : InK _ _) => ?_) | (refine ⟨by kernel_rfl, ?_⟩) | (refine ask_wrap64 (by omega) (by omega) ?_) | fail)
            conv => whnf
            refine ⟨(32 - (n + 1)).toNat, n + 1, by omega, ⟨by omega, by omega, rfl⟩, rfl, ⟨⟨Nat.le_of_ble_eq_true rfl, rfl⟩, trivial⟩, ⟨rfl, rfl, rfl, ?_, rfl, rfl, trivial⟩, rfl, rfl, Nat.zero_le _⟩
            refine congrArg o32 (stg_set en (by rw [backL_len]; rfl) n0 (by rw [backL_len]; omega) ?_).symm
            unfold backL
            rw [getD_range (by omega), Int.toNat_of_nonneg n0, hW, hs']
            rfl
      · have hn : n = 32 := by omega
        subst hn
        rw [stg_all (by rw [backL_len]; rfl) (by rw [backL_len]; rfl)]
        repeat' ((conv => whnf); first | (refine ask_false (by omega) ?_) | (refine And.intro (by omega) ?_) | (refine And.intro (by decide) ?_) | (refine ⟨by kernel_rfl, ?_⟩) | fail)
        conv => whnf
        unfold back1 back2
        rw [show backZ w = backL w from if_pos h1]
        exact fin _ (backL_len w)
  · repeat' ((conv => whnf); first | (refine And.intro (by omega) ?_) | (refine And.intro (by decide) ?_) | (refine ⟨by kernel_rfl, ?_⟩) | fail)
    conv => whnf
    unfold back1 back2
    rw [show backZ w = z32 from if_neg h1]
    exact fin _ rfl
end Go.Proofs.Ytbgjmlncdlcglaa
