/- D.L: what is needed here of the texts XDa XDb XDc XDd XDi. (Printed by fam.py.) -/
import Derived.Test.YtaficaacogcblaaGreatDoorWd
set_option linter.all false
namespace Go.Proofs.YtaficaacogcblaaGreatDoor
namespace D.L
open Go.RowKit (Below)
set_option maxRecDepth 100000
set_option maxHeartbeats 32000000

def bad8 (x : Int) : Prop := x < -8 ∨ 8 < x
instance (x : Int) : Decidable (bad8 x) := by unfold bad8; infer_instance
theorem bad_walk (x : Int) (hx : InK .i64 x) : walk F0 0 Tryz.f173 [i64 x] [] fun y _ => y = vb (decide (bad8 x)) := by
  conv => whnf
  refine ask_split (fun h => ?_) (fun h => ?_)
  · rw [decide_eq_true (show bad8 x from .inl h)]
    repeat' ((conv => whnf); first | (refine ask_wrap64 (by omega) (by omega) ?_) | (refine ask_true (by omega) ?_) | (refine ask_false (by omega) ?_) | (refine ⟨trivial, ?_⟩) | (refine ⟨by omega, ?_⟩) | (refine fun (_ : InK _ _) => ?_) | (refine ⟨by kernel_rfl, ?_⟩) | (refine ask_wrapu8 (by omega) (by omega) ?_) | (refine ask_wrapu64 (by omega) (by omega) ?_) | (refine ask_true (show (_ : Bool) = _ from rfl) ?_) | (refine ask_false (show ¬ ((_ : Bool) = _) from Bool.noConfusion) ?_) | fail)
    rfl
  · conv => whnf
    refine ask_split (fun h2 => ?_) (fun h2 => ?_)
    · rw [decide_eq_true (show bad8 x from .inr h2)]
      repeat' ((conv => whnf); first | (refine ask_wrap64 (by omega) (by omega) ?_) | (refine ask_true (by omega) ?_) | (refine ask_false (by omega) ?_) | (refine ⟨trivial, ?_⟩) | (refine ⟨by omega, ?_⟩) | (refine fun (_ : InK _ _) => ?_) | (refine ⟨by kernel_rfl, ?_⟩) | (refine ask_wrapu8 (by omega) (by omega) ?_) | (refine ask_wrapu64 (by omega) (by omega) ?_) | (refine ask_true (show (_ : Bool) = _ from rfl) ?_) | (refine ask_false (show ¬ ((_ : Bool) = _) from Bool.noConfusion) ?_) | fail)
      rfl
    · rw [decide_eq_false (show ¬ bad8 x from fun hb => by unfold bad8 at hb; omega)]
      repeat' ((conv => whnf); first | (refine ask_wrap64 (by omega) (by omega) ?_) | (refine ask_true (by omega) ?_) | (refine ask_false (by omega) ?_) | (refine ⟨trivial, ?_⟩) | (refine ⟨by omega, ?_⟩) | (refine fun (_ : InK _ _) => ?_) | (refine ⟨by kernel_rfl, ?_⟩) | (refine ask_wrapu8 (by omega) (by omega) ?_) | (refine ask_wrapu64 (by omega) (by omega) ?_) | (refine ask_true (show (_ : Bool) = _ from rfl) ?_) | (refine ask_false (show ¬ ((_ : Bool) = _) from Bool.noConfusion) ?_) | fail)
      rfl
theorem bad_ct : CtOk Tryz.prog 173 (ctP bad8) := ctP_ok F0_ok Tryz.func173 bad_walk
noncomputable def FH : Fns := ((F0.plus 173 (ctP bad8)).into 111 Tryz.f111).into 148 Tryz.f148
theorem FH_ok : FnsOk Tryz.prog FH := ((F0_ok.plus bad_ct Tryz.func173 (by kernel_rfl) (by kernel_rfl)).into Tryz.func111 (by kernel_rfl) (by kernel_rfl)).into Tryz.func148 (by kernel_rfl) (by kernel_rfl)
@[irreducible] def rightL (lv : Int) (ys : List Int) : Prop := (0 ≤ lv ∧ lv ≤ 20) ∧ ys.length ≤ 8 ∧ ∀ y ∈ ys, -8 ≤ y ∧ y ≤ 8
theorem rightL_def (lv : Int) (ys : List Int) : rightL lv ys ↔ (0 ≤ lv ∧ lv ≤ 20) ∧ ys.length ≤ 8 ∧ ∀ y ∈ ys, -8 ≤ y ∧ y ≤ 8 := by unfold rightL; exact Iff.rfl
noncomputable instance (lv : Int) (ys : List Int) : Decidable (rightL lv ys) := Classical.propDecidable _
def boolP (t : Bool) (x : V) (N : List Blk) : Prop := x = vb t ∧ N = []
theorem bool_made {t t' : Bool} {H' : List Blk} (h : t' = t) : Made (boolP t) (vb t') H' := made_of (vb t') [] id ⟨by rw [h], rfl⟩ rfl trivial (fun p q hp _ _ => absurd hp (Nat.not_lt_zero p)) rfl rfl (by intro e; cases e)
theorem bool_mine {t : Bool} : ∀ (x : V) (N : List Blk), boolP t x N → ∀ b ∈ N, b.mine = true ∨ b = .gone := by
  rintro x N ⟨_, rfl⟩ b hb; cases hb
theorem bool_K {t : Bool} {H : List Blk} {K : V → List Blk → Prop} (h : K (vb t) H) : ∀ x N, boolP t x N → K (x.ren (sh H.length)) (H ++ N.map (Blk.ren (sh H.length))) := by
  rintro x N ⟨rfl, rfl⟩
  simpa [V.ren, W.ren, C.ren] using h
theorem right_walk (xs : List Int) (l : Nat) (lv : Int) (hl : l ≤ xs.length) (hc : xs.length ≤ 9223372036854775807) (hk : InK .i64 lv) :
    walk FH 2 Tryz.f152 [i64 lv, .c (.csl 0 0 0 l xs.length)] [.ro [.ints .i64 xs.length xs]] (Made (boolP (decide (rightL lv (xs.take l))))) := by
  have lt : (xs.take l).length = l := by simp; omega
  have no : ¬ rightL lv (xs.take l) → false = decide (rightL lv (xs.take l)) := fun h => (decide_eq_false h).symm
  by_cases h3 : 0 ≤ lv
  · by_cases h4 : lv ≤ 20
    · by_cases h2 : l ≤ 8
      · repeat' ((conv => whnf); first | (refine ask_true (by omega) ?_) | fail)
        conv => whnf
        refine loop_at (4 :: 5 :: List.range' 8 11) (fun m (i : Int) => 0 ≤ i ∧ i ≤ l ∧ m = (l - i).toNat ∧ ∀ k : Nat, (k : Int) < i → ¬ bad8 (xs.getD k 0)) (fun i => [(8, vi i)]) (fun _ => [.ro [.ints .i64 xs.length xs]]) l 0 ⟨by decide, by omega, by omega, fun k hk => by omega⟩ ?_ ?_
        · exact ⟨rfl, ⟨⟨Nat.le_of_ble_eq_true rfl, rfl⟩, trivial⟩, ⟨rfl, trivial⟩, rfl, rfl, Nat.le_of_ble_eq_true rfl⟩
        · rintro m i ⟨i0, i1, rfl, g3⟩
          have em : mulN i.toNat (Tryz.prog.types[3]).size = i.toNat := mulN1 i.toNat
          rcases Int.lt_or_le i l with i2 | i2
          · have hat : xs.getD (0 + mulN i.toNat (Tryz.prog.types[3]).size) 0 = xs.getD i.toNat 0 := by rw [em, Nat.zero_add]
            repeat' ((conv => whnf); first | (refine ask_true (by omega) ?_) | (refine And.intro (by omega) ?_) | (refine fun (_ : InK _ _) => ?_) | fail)
            conv => whnf
            refine ask_split (fun hb => ?_) (fun hb => ?_)
            · repeat' ((conv => whnf); first | (refine ask_true (by omega) ?_) | (refine ask_false (by omega) ?_) | fail)
              conv => whnf
              refine bool_made (no fun hr => ?_)
              rw [rightL_def] at hr
              rw [hat] at hb
              have := hr.2.2 (xs.getD i.toNat 0) (by
                rw [← getD_take (n := l) (by omega)]
                exact mem_at (by omega))
              unfold bad8 at hb
              omega
            · repeat' ((conv => whnf); first | (refine ask_wrap64 (by omega) (by omega) ?_) | fail)
              conv => whnf
              refine ⟨(l - (i + 1)).toNat, i + 1, by omega, ⟨by omega, by omega, rfl, fun k hk => ?_⟩, rfl, ⟨⟨Nat.le_of_ble_eq_true rfl, rfl⟩, trivial⟩, ⟨rfl, trivial⟩, rfl, rfl, Nat.le_of_ble_eq_true rfl⟩
              rcases Int.lt_or_le k i with hk2 | hk2
              · exact g3 k hk2
              · rw [hat] at hb
                obtain rfl : k = i.toNat := by omega
                exact hb
          · repeat' ((conv => whnf); first | (refine ask_true (by omega) ?_) | (refine ask_false (by omega) ?_) | fail)
            conv => whnf
            refine bool_made ((decide_eq_true ?_).symm)
            rw [rightL_def]
            refine ⟨⟨h3, h4⟩, by omega, all_of_at fun k hk => ?_⟩
            have := g3 k (by omega)
            rw [getD_take (by omega)]
            unfold bad8 at this
            omega
      · repeat' ((conv => whnf); first | (refine ask_true (by omega) ?_) | (refine ask_false (by omega) ?_) | fail)
        conv => whnf
        exact bool_made (no fun hr => by rw [rightL_def] at hr; omega)
    · repeat' ((conv => whnf); first | (refine ask_true (by omega) ?_) | (refine ask_false (by omega) ?_) | fail)
      conv => whnf
      exact bool_made (no fun hr => by rw [rightL_def] at hr; omega)
  · repeat' ((conv => whnf); first | (refine ask_true (by omega) ?_) | (refine ask_false (by omega) ?_) | fail)
    conv => whnf
    exact bool_made (no fun hr => by rw [rightL_def] at hr; omega)
theorem right_nil (lv : Int) (hk : InK .i64 lv) : walk FH 2 Tryz.f152 [i64 lv, .c .csn] [] (Made (boolP (decide (rightL lv [])))) := by
  have no : ¬ rightL lv [] → false = decide (rightL lv []) := fun h => (decide_eq_false h).symm
  by_cases h3 : 0 ≤ lv
  · by_cases h4 : lv ≤ 20
    · repeat' ((conv => whnf); first | (refine ask_true (by omega) ?_) | fail)
      conv => whnf
      refine loop_at (4 :: 5 :: List.range' 8 11) (fun m (i : Int) => i = 0 ∧ m = 0) (fun i => [(8, vi i)]) (fun _ => []) 0 0 ⟨rfl, rfl⟩ ?_ ?_
      · exact ⟨rfl, ⟨⟨Nat.le_of_ble_eq_true rfl, rfl⟩, trivial⟩, trivial, rfl, rfl, Nat.le_of_ble_eq_true rfl⟩
      · rintro m i ⟨rfl, rfl⟩
        repeat' ((conv => whnf); first | (refine ask_true (by decide) ?_) | (refine ask_false (by decide) ?_) | fail)
        conv => whnf
        refine bool_made ((decide_eq_true ?_).symm)
        rw [rightL_def]
        exact ⟨⟨h3, h4⟩, by decide, fun y hy => by cases hy⟩
    · repeat' ((conv => whnf); first | (refine ask_true (by omega) ?_) | (refine ask_false (by omega) ?_) | fail)
      conv => whnf
      exact bool_made (no fun hr => by rw [rightL_def] at hr; omega)
  · repeat' ((conv => whnf); first | (refine ask_true (by omega) ?_) | (refine ask_false (by omega) ?_) | fail)
    conv => whnf
    exact bool_made (no fun hr => by rw [rightL_def] at hr; omega)
def hRight : HCt := fun ws H K => match ws with
  | [.c (.ci .i64 lv), .c .csn] => ∀ τ, τ = decide (rightL lv []) → K (vb τ) H
  | [.c (.ci .i64 lv), .c x] => slK H x fun _ l xs => ∀ τ, τ = decide (rightL lv (xs.take l)) → K (vb τ) H
  | _ => False
theorem right_ct : HCtOk Tryz.prog 152 hRight := by
  intro ws H K h hr hb ho G σ base w₀ w hw
  unfold hRight at h
  split at h
  · rename_i lv
    exact walk_lift FH_ok Tryz.func152 (n := 2) (ws := [i64 lv, .c .csn]) (R := []) nil_ok ⟨hr.1, trivial, trivial⟩ rfl (right_nil lv hr.1) bool_mine id no_ro rfl (bool_K (h _ rfl)) ho G σ base w₀ w hw
  · rename_i lv x _
    obtain ⟨j, l, xs, h', hx, g1, g2, g3, g4⟩ := slK_spec h ho hr.2.1
    clear h
    subst hx
    exact walk_lift FH_ok Tryz.func152 (n := 2) (ws := [i64 lv, .c (.csl 0 0 0 l xs.length)]) (R := [.ro [.ints .i64 xs.length xs]]) (ro_ok g3) ⟨hr.1, ⟨g1, g2⟩, trivial⟩ rfl (right_walk xs l lv g1 g2 hr.1) bool_mine (fun _ => j) (ro_at g4) rfl (bool_K (h' _ rfl)) ho G σ base w₀ w hw
  · exact h.elim
noncomputable def fillN (lv S n : Int) : Int := (n * 3 * (1 * pw lv)).tdiv (4 * S)
theorem fillN_zero (lv n : Int) : fillN lv 0 n = 0 := by unfold fillN; rw [Int.mul_zero, Int.tdiv_zero]
theorem tdiv_small {a b : Int} : -(if a < 0 then -a else a) ≤ a.tdiv b ∧ a.tdiv b ≤ (if a < 0 then -a else a) := by
  have h := Int.natAbs_tdiv_le_natAbs a b
  split <;> omega
theorem fill_prod {lv n : Int} (h : 0 ≤ lv ∧ lv ≤ 20) (hn : -8 ≤ n ∧ n ≤ 8) : -25165824 ≤ n * 3 * (1 * pw lv) ∧ n * 3 * (1 * pw lv) ≤ 25165824 := by
  have p1 := pw_pos lv
  have p2 := pw_mono h.2
  have p20 : pw 20 = 1048576 := by rw [pw_def]; decide
  exact prod_bound (a := n * 3) (b := 1 * pw lv) (m := 24) (n := 1048576) (by omega) (by omega) (by omega) (by omega)
theorem fillN_in {lv S n : Int} (h : 0 ≤ lv ∧ lv ≤ 20) (hn : -8 ≤ n ∧ n ≤ 8) : -25165824 ≤ fillN lv S n ∧ fillN lv S n ≤ 25165824 := by
  have h1 := fill_prod h hn
  have h2 := tdiv_small (a := n * 3 * (1 * pw lv)) (b := 4 * S)
  unfold fillN
  split at h2 <;> omega
noncomputable def flZ (lv : Int) (ys : List Int) : List Int := if rightL lv ys ∧ lv ≠ 0 then ys.map (fillN lv (sumF ys ys.length)) else List.replicate ys.length 0
theorem flZ_len (lv : Int) (ys : List Int) : (flZ lv ys).length = ys.length := by unfold flZ; split <;> simp
theorem sumF_take {xs : List Int} {l : Nat} : ∀ {n : Nat}, n ≤ l → sumF (xs.take l) n = sumF xs n
  | 0, _ => rfl
  | n + 1, h => by
    show sumF _ n + szF ((xs.take l).getD n 0) = sumF xs n + szF (xs.getD n 0)
    rw [sumF_take (by omega), getD_take (by omega)]
def fillP (zs : List Int) (x : V) (N : List Blk) : Prop := x = .w (.c (.csl 0 0 0 zs.length zs.length)) ∧ N = [.own 3 [.ints .i64 zs.length zs]]
theorem fill_made {zs ys : List Int} {l j : Nat} {H' : List Blk} (h : zs = ys) (hl : zs.length = l) (hj : H'[j]? = some (.own 3 [.ints .i64 l ys])) : Made (fillP zs) (.w (.c (.csl j 0 0 l l))) H' := by
  subst h hl
  exact made_of (.w (.c (.csl 0 0 0 zs.length zs.length))) [.own 3 [.ints .i64 zs.length zs]] (fun _ => j) ⟨rfl, rfl⟩ rfl (And.intro hj trivial) (fun p q hp hq _ => by have hp' : p < 1 := hp; have hq' : q < 1 := hq; omega) rfl rfl (by intro e; cases e)
theorem fill_mine {zs : List Int} : ∀ (x : V) (N : List Blk), fillP zs x N → ∀ b ∈ N, b.mine = true ∨ b = .gone := by
  rintro x N ⟨_, rfl⟩ b hb
  rw [List.mem_singleton.1 hb]; exact .inl rfl
theorem fill_K {zs : List Int} {H : List Blk} {K : V → List Blk → Prop} (h : K (.w (.c (.csl H.length 0 0 zs.length zs.length))) (H ++ [.own 3 [.ints .i64 zs.length zs]])) : ∀ x N, fillP zs x N → K (x.ren (sh H.length)) (H ++ N.map (Blk.ren (sh H.length))) := by
  rintro x N ⟨rfl, rfl⟩
  simpa [V.ren, W.ren, C.ren, Blk.ren, rens, Seg.ren, sh] using h
noncomputable def FFi : Fns := (F0.over 152 hRight).over 134 hSum
theorem FFi_ok : FnsOk Tryz.prog FFi := (F0_ok.over right_ct Tryz.func152 (by kernel_rfl) (by kernel_rfl)).over sum_ct Tryz.func134 (by kernel_rfl) (by kernel_rfl)
theorem bytes3 : (Tryz.prog.types[3]).bytes = 8 := by kernel_rfl
theorem stg_self (zs : List Int) (i : Int) : stg zs zs i = zs := by unfold stg; exact List.take_append_drop _ _
theorem fill_walk (ys : List Int) (l : Nat) (lv : Int) (hl : l ≤ ys.length) (hc : ys.length ≤ 9223372036854775807) (hk : InK .i64 lv) (h10 : l ≤ 1000) :
    walk FFi 0 Tryz.f124 [i64 lv, .c (.csl 0 0 0 l ys.length)] [.ro [.ints .i64 ys.length ys]] (Made (fillP (flZ lv (ys.take l)))) := by
  have lt : (ys.take l).length = l := by simp; omega
  have b3 := bytes3
  have n1 : natI (l : Int) = l := rfl
  have fl := flZ_len lv (ys.take l)
  rw [lt] at fl
  rcases Classical.em (rightL lv (ys.take l)) with hr | hr
  · rcases Classical.em (lv = 0) with h0 | h0
    · have e : flZ lv (ys.take l) = List.replicate l 0 := by unfold flZ; rw [if_neg (fun h => h.2 h0), lt]
      repeat' ((conv => whnf); first | (refine ask_true hr ?_) | (refine And.intro ⟨by omega, by omega, by omega, by rw [b3]; omega⟩ ?_) | (refine And.intro ⟨rfl, rfl⟩ ?_) | (refine And.intro rfl ?_) | (refine ask_true (by omega) ?_) | fail)
      conv => whnf
      exact fill_made (j := 1) e fl rfl
    · have hr' := hr
      rw [rightL_def] at hr'
      have e : flZ lv (ys.take l) = (ys.take l).map (fillN lv (sumF ys l)) := by unfold flZ; rw [if_pos ⟨hr, h0⟩, lt, sumF_take (Nat.le_refl _)]
      have sb := sumF_in ys l
      obtain ⟨S, eS⟩ : ∃ S, S = sumF ys l := ⟨_, rfl⟩
      repeat' ((conv => whnf); first | (refine ask_true hr ?_) | (refine And.intro ⟨by omega, by omega, by omega, by rw [b3]; omega⟩ ?_) | (refine And.intro ⟨rfl, rfl⟩ ?_) | (refine And.intro rfl ?_) | (refine ask_false (by omega) ?_) | (refine And.intro (by omega) ?_) | fail)
      conv => whnf
      refine loop_at (6 :: 7 :: 8 :: List.range' 25 19) (fun m (i : Int) => 0 ≤ i ∧ i ≤ l ∧ m = (l - i).toNat) (fun i => [(6, vi S), (25, vi i)]) (fun i => [.ro [.ints .i64 ys.length ys], .own 3 [.ints .i64 l (stg (flZ lv (ys.take l)) (List.replicate l 0) i)]]) l 0 ⟨by decide, by omega, by omega⟩ ?_ ?_
      · exact ⟨rfl, ⟨⟨Nat.le_of_ble_eq_true rfl, congrArg vi eS.symm⟩, ⟨Nat.le_of_ble_eq_true rfl, rfl⟩, trivial⟩, ⟨rfl, by rw [stg_zero]; rfl, trivial⟩, rfl, rfl, Nat.le_of_ble_eq_true rfl⟩
      · rw [← eS] at sb
        rintro m i ⟨i0, i1, rfl⟩
        have em : mulN i.toNat (Tryz.prog.types[3]).size = i.toNat := mulN1 _
        rcases Int.lt_or_le i l with i2 | i2
        · have ex : ys.getD (0 + mulN i.toNat (Tryz.prog.types[3]).size) 0 = (ys.take l).getD i.toNat 0 := by rw [em, Nat.zero_add, getD_take (by omega)]
          have hn := hr'.2.2 ((ys.take l).getD i.toNat 0) (mem_at (by omega))
          rw [← ex] at hn
          have hp := fill_prod hr'.1 hn
          have hf := fillN_in (S := S) hr'.1 hn
          unfold fillN at hf
          have p1 := pw_pos lv
          have p2 := pw_mono hr'.1.2
          have p20 : pw 20 = 1048576 := by rw [pw_def]; decide
          have em' : 0 + mulN i.toNat (Tryz.prog.types[3]).size = i.toNat := by omega
          have hv : (flZ lv (ys.take l)).getD i.toNat 0 = (ys.getD (0 + mulN i.toNat (Tryz.prog.types[3]).size) 0 * 3 * (1 * pw lv)).tdiv (4 * S) := by
            rw [e, getD_map (by omega), ← ex, ← eS]; rfl
          rcases Int.lt_or_le 0 S with s0 | s0
          · repeat' ((conv => whnf); first | (refine ask_true (by omega) ?_) | (refine And.intro (by omega) ?_) | (refine fun (_ : InK _ _) => ?_) | (refine shl64 (by omega) (by omega) (by omega) (by omega) ?_) | (refine ask_wrap64 (by omega) (by omega) ?_) | fail)
            conv => whnf
            refine ⟨(l - (i + 1)).toNat, i + 1, by omega, ⟨by omega, by omega, rfl⟩, rfl, ⟨⟨Nat.le_of_ble_eq_true rfl, rfl⟩, ⟨Nat.le_of_ble_eq_true rfl, rfl⟩, trivial⟩, ⟨rfl, ?_, trivial⟩, rfl, rfl, Nat.le_of_ble_eq_true rfl⟩
            exact congrArg (fun zs => Blk.own 3 [.ints .i64 l zs]) (stg_set em' (by simp [fl]) i0 (by omega) hv).symm
          · have z0 : (flZ lv (ys.take l)) = List.replicate l 0 := by
              rw [e, ← eS, show S = 0 by omega]
              refine List.ext_getElem (by rw [List.length_map, lt, List.length_replicate]) fun k k1 k2 => ?_
              simp only [List.getElem_map, List.getElem_replicate, fillN_zero]
            repeat' ((conv => whnf); first | (refine ask_true (by omega) ?_) | (refine ask_false (by omega) ?_) | (refine And.intro (by omega) ?_) | (refine fun (_ : InK _ _) => ?_) | (refine ask_wrap64 (by omega) (by omega) ?_) | fail)
            conv => whnf
            refine ⟨(l - (i + 1)).toNat, i + 1, by omega, ⟨by omega, by omega, rfl⟩, rfl, ⟨⟨Nat.le_of_ble_eq_true rfl, rfl⟩, ⟨Nat.le_of_ble_eq_true rfl, rfl⟩, trivial⟩, ⟨rfl, ?_, trivial⟩, rfl, rfl, Nat.le_of_ble_eq_true rfl⟩
            rw [z0, stg_self, stg_self]
        · have hi : i = l := by omega
          subst hi
          have sa : stg (flZ lv (ys.take l)) (List.replicate l 0) l = flZ lv (ys.take l) := stg_all (by simp [fl]) (by omega)
          repeat' ((conv => whnf); first | (refine ask_false (by omega) ?_) | fail)
          conv => whnf
          exact fill_made (j := 1) rfl fl (by rw [sa]; rfl)
  · have e : flZ lv (ys.take l) = List.replicate l 0 := by unfold flZ; rw [if_neg (fun h => hr h.1), lt]
    repeat' ((conv => whnf); first | (refine ask_false hr ?_) | (refine And.intro ⟨by omega, by omega, by omega, by rw [b3]; omega⟩ ?_) | (refine And.intro ⟨rfl, rfl⟩ ?_) | (refine And.intro rfl ?_) | fail)
    conv => whnf
    exact fill_made (j := 1) e fl rfl
theorem fill_nil (lv : Int) (hk : InK .i64 lv) : walk FFi 0 Tryz.f124 [i64 lv, .c .csn] [] (Made (fillP [])) := by
  have b3 := bytes3
  rcases Classical.em (rightL lv []) with hr | hr
  · rcases Classical.em (lv = 0) with h0 | h0
    · repeat' ((conv => whnf); first | (refine ask_true hr ?_) | (refine And.intro rfl ?_) | (refine And.intro ⟨by decide, by decide, by decide, by rw [b3]; decide⟩ ?_) | (refine ask_true (by omega) ?_) | fail)
      conv => whnf
      exact fill_made (zs := []) (ys := []) (l := 0) (j := 0) rfl rfl rfl
    · repeat' ((conv => whnf); first | (refine ask_true hr ?_) | (refine And.intro rfl ?_) | (refine And.intro ⟨by decide, by decide, by decide, by rw [b3]; decide⟩ ?_) | (refine ask_false (by omega) ?_) | fail)
      conv => whnf
      refine loop_at (7 :: 8 :: List.range' 25 19) (fun m (i : Int) => i = 0 ∧ m = 0) (fun i => [(25, vi i)]) (fun i => [.own 3 [.ints .i64 0 []]]) 0 0 ⟨rfl, rfl⟩ ?_ ?_
      · exact ⟨rfl, ⟨⟨Nat.le_of_ble_eq_true rfl, rfl⟩, trivial⟩, ⟨rfl, trivial⟩, rfl, rfl, Nat.le_of_ble_eq_true rfl⟩
      · rintro m i ⟨rfl, rfl⟩
        repeat' ((conv => whnf); first | (refine ask_false (by decide) ?_) | fail)
        conv => whnf
        exact fill_made (zs := []) (ys := []) (l := 0) (j := 0) rfl rfl rfl
  · repeat' ((conv => whnf); first | (refine ask_false hr ?_) | (refine And.intro rfl ?_) | (refine And.intro ⟨by decide, by decide, by decide, by rw [b3]; decide⟩ ?_) | fail)
    conv => whnf
    exact fill_made (zs := []) (ys := []) (l := 0) (j := 0) rfl rfl rfl
def hFill : HCt := fun ws H K => match ws with
  | [.c (.ci .i64 _), .c .csn] => K (.w (.c (.csl H.length 0 0 0 0))) (H ++ [.own 3 [.ints .i64 0 []]])
  | [.c (.ci .i64 lv), .c x] => slK H x fun _ l xs => l ≤ 1000 ∧ K (.w (.c (.csl H.length 0 0 l l))) (H ++ [.own 3 [.ints .i64 l (flZ lv (xs.take l))]])
  | _ => False
theorem fill_ct : HCtOk Tryz.prog 124 hFill := by
  intro ws H K h hr hb ho G σ base w₀ w hw
  unfold hFill at h
  split at h
  · rename_i lv
    exact walk_lift FFi_ok Tryz.func124 (n := 0) (ws := [i64 lv, .c .csn]) (R := []) nil_ok ⟨hr.1, trivial, trivial⟩ rfl (fill_nil lv hr.1) fill_mine id no_ro rfl (fill_K h) ho G σ base w₀ w hw
  · rename_i lv x _
    obtain ⟨j, l, xs, h', hx, g1, g2, g3, g4⟩ := slK_spec h ho hr.2.1
    clear h
    subst hx
    have fl : (flZ lv (xs.take l)).length = l := by rw [flZ_len]; simp; omega
    refine walk_lift FFi_ok Tryz.func124 (n := 0) (ws := [i64 lv, .c (.csl 0 0 0 l xs.length)]) (R := [.ro [.ints .i64 xs.length xs]]) (ro_ok g3) ⟨hr.1, ⟨g1, g2⟩, trivial⟩ rfl (fill_walk xs l lv g1 g2 hr.1 h'.1) fill_mine (fun _ => j) (ro_at g4) rfl (fill_K ?_) ho G σ base w₀ w hw
    rw [fl]
    exact h'.2
  · exact h.elim
end D.L
end Go.Proofs.YtaficaacogcblaaGreatDoor
