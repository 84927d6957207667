/- Chapter spare: the document's functions. -/
import Derived.Test.YtmkdamfdlkpjdaaDoorEj
set_option linter.all false
namespace Go.Proofs.YtmkdamfdlkpjdaaDoor
open Go.RowKit (Below)
open Go.WideMaps
set_option maxRecDepth 100000
set_option maxHeartbeats 64000000

theorem bounds_ct : CtOk Tryd.prog 20 ctB := by
  intro ws K h' hr
  unfold ctB at h'
  split at h'
  · rename_i b
    have f := fst_ok h'.1
    exact ⟨_, h'.2, ⟨⟨⟨by simp only [lowK]; omega, by simp only [highK]; omega⟩, ⟨by simp only [lowK]; omega, by simp only [highK]; omega⟩, trivial⟩, rfl⟩, walk_calls F0_ok Tryd.func20 rfl hr rfl (bounds_walk b h'.1)⟩
  · exact h'.elim
noncomputable def FRc : Fns := ((F0.plus 20 ctB).plus 42 (ct2 (fun n k => (0 ≤ n ∧ n ≤ 8) ∧ 0 ≤ k ∧ k ≤ 8) cN)).plus 37 (ct1 (fun x => 0 ≤ x) lenS)
theorem FRc_ok : FnsOk Tryd.prog FRc := ((F0_ok.plus bounds_ct Tryd.func20 (by kernel_rfl) (by kernel_rfl)).plus rcount_ct Tryd.func42 (by kernel_rfl) (by kernel_rfl)).plus refLength_ct Tryd.func37 (by kernel_rfl) (by kernel_rfl)
theorem rcost_walk (b k : Int) (hb : 0 ≤ b ∧ b ≤ 3) (hk : 0 ≤ k ∧ k ≤ 8) : walk FRc 0 Tryd.f31 [i64 b, i64 k] [] fun y _ => y = vi (costS b k) := by
  have hs : sizeS b = fst (b + 1) - fst b := by unfold sizeS; rw [if_pos hb]
  have s8 : 0 ≤ fst (b + 1) - fst b ∧ fst (b + 1) - fst b ≤ 8 := by
    obtain rfl | rfl | rfl | rfl : b = 0 ∨ b = 1 ∨ b = 2 ∨ b = 3 := by omega
    all_goals decide
  have f := fst_ok hb
  have f0 : 0 ≤ fst b := f.1
  have f1 : fst (b + 1) ≤ 16 := f.2.2
  have cn := cN_in (n := fst (b + 1) - fst b) (k := k) (by omega) (by omega)
  have e : costS b k = lenS (max (cN (fst (b + 1) - fst b) k - 1) 0) := by
    rw [costS_def]; unfold bitS; rw [hs, cC_def, if_pos ⟨s8, hk⟩]
  rw [e]
  repeat' ((conv => whnf); first | (refine And.intro hb ?_) | (refine And.intro ⟨⟨by omega, by omega⟩, by omega, by omega⟩ ?_) | (refine And.intro (by omega) ?_) | (refine ask_wrap64 (by omega) (by omega) ?_) | rfl | fail)
theorem rcost_ct : CtOk Tryd.prog 31 (ct2 (fun b k => (0 ≤ b ∧ b ≤ 3) ∧ 0 ≤ k ∧ k ≤ 8) costS) := ct2_ok FRc_ok Tryd.func31 (fun a b _ _ _ => by have := costS_in a b; simp only [InK, lowK, highK]; omega) fun a b _ _ h => rcost_walk a b h.1 h.2

/-! ### what is right -/
theorem rright_walk (ls : List Int) (h : ls.length = 4) (bits : Int) (hb : InK .i64 bits) : walk F0 0 Tryd.f29 [ar4 ls, i64 bits] [] fun y _ => y = vb (decide (rightP ls bits)) := by
  conv => whnf
  refine loop_at (5 :: List.range' 6 14) (fun m (i : Int) => 0 ≤ i ∧ i ≤ 4 ∧ m = (4 - i).toNat ∧ ∀ j : Nat, (j : Int) < i → 0 ≤ ls.getD j 0 ∧ ls.getD j 0 ≤ 20) (fun i => [(5, vi i)]) (fun _ => [.own 25 [.ints .i64 4 ls]]) 4 0 ⟨by decide, by decide, rfl, fun j hj => by omega⟩ ?_ ?_
  · exact ⟨rfl, ⟨⟨Nat.le_of_ble_eq_true rfl, rfl⟩, trivial⟩, ⟨rfl, trivial⟩, rfl, rfl, Nat.zero_le _⟩
  · rintro m i ⟨i0, i1, rfl, hj⟩
    have em : mulN i.toNat (Tryd.prog.types[3]).size = i.toNat := mulN1 _
    rcases Int.lt_or_le i 4 with i2 | i2
    · have e : ls.getD (mulN i.toNat (Tryd.prog.types[3]).size) 0 = ls.getD i.toNat 0 := by rw [em]
      rcases Classical.em (0 ≤ ls.getD i.toNat 0 ∧ ls.getD i.toNat 0 ≤ 20) with hr | hr
      · repeat' ((conv => whnf); first | (refine ask_true (by omega) ?_) | (refine ask_false (by omega) ?_) | (refine And.intro (by omega) ?_) | (refine fun (_ : InK _ _) => ?_) | (refine ask_wrap64 (by omega) (by omega) ?_) | fail)
        conv => whnf
        refine ⟨(4 - (i + 1)).toNat, i + 1, by omega, ⟨by omega, by omega, rfl, fun j hj' => ?_⟩, rfl, ⟨⟨Nat.le_of_ble_eq_true rfl, rfl⟩, trivial⟩, ⟨rfl, trivial⟩, rfl, rfl, Nat.zero_le _⟩
        rcases Int.lt_or_le (j : Int) i with h1 | h1
        · exact hj j h1
        · have : j = i.toNat := by omega
          rw [this]; exact hr
      · have no : ¬ rightP ls bits := fun hp => hr ((rightP_def ls bits).1 hp |>.1 i.toNat (by omega))
        rw [decide_eq_false no]
        rcases Int.lt_or_le (ls.getD i.toNat 0) 0 with h1 | h1
        all_goals repeat' ((conv => whnf); first | (refine ask_true (by omega) ?_) | (refine ask_false (by omega) ?_) | (refine And.intro (by omega) ?_) | (refine fun (_ : InK _ _) => ?_) | rfl | fail)
    · rcases Classical.em (0 ≤ bits ∧ bits ≤ 1048576) with hr | hr
      · have yes : rightP ls bits := (rightP_def ls bits).2 ⟨fun j h4 => hj j (by omega), hr⟩
        rw [decide_eq_true yes]
        repeat' ((conv => whnf); first | (refine ask_true (by omega) ?_) | (refine ask_false (by omega) ?_) | rfl | fail)
      · have no : ¬ rightP ls bits := fun hp => hr ((rightP_def ls bits).1 hp).2
        rw [decide_eq_false no]
        rcases Int.lt_or_le bits 0 with h1 | h1
        all_goals repeat' ((conv => whnf); first | (refine ask_true (by omega) ?_) | (refine ask_false (by omega) ?_) | rfl | fail)
theorem rright_ct : CtOk Tryd.prog 29 (ctR rightP) := by
  intro ws K h' hr
  unfold ctR at h'
  split at h'
  · rename_i xs b
    exact ⟨_, h' _ rfl, ⟨trivial, rfl⟩, walk_calls F0_ok Tryd.func29 (n := 0) rfl hr rfl (rright_walk xs hr.1.1.1 b hr.2.1)⟩
  · exact h'.elim

/-! ### pulses -/
noncomputable def FRp : Fns := F0.plus 31 (ct2 (fun b k => (0 ≤ b ∧ b ≤ 3) ∧ 0 ≤ k ∧ k ≤ 8) costS)
theorem FRp_ok : FnsOk Tryd.prog FRp := F0_ok.plus rcost_ct Tryd.func31 (by kernel_rfl) (by kernel_rfl)
noncomputable def tab36 : List Int := (List.range 36).map fun p : Nat => costS ((p / 9 : Nat) : Int) ((p % 9 : Nat) : Int)
theorem tab36_len : tab36.length = 36 := by simp [tab36]
theorem tab36_at {b k : Int} (hb : 0 ≤ b ∧ b ≤ 3) (hk : 0 ≤ k ∧ k ≤ 8) : tab36.getD (b.toNat * 9 + k.toNat) 0 = costS b k := by
  unfold tab36
  rw [getD_range (by omega)]
  rw [show (b.toNat * 9 + k.toNat) / 9 = b.toNat by omega, show (b.toNat * 9 + k.toNat) % 9 = k.toNat by omega, show ((b.toNat : Nat) : Int) = b by omega, show ((k.toNat : Nat) : Int) = k by omega]
def Z36 : List Int := List.replicate 36 0
theorem rpulses11_walk (ls : List Int) (h : ls.length = 4) (bits : Int) (hr : rightP ls bits) : walk FRp 0 Tryd.f30 [ar4 ls, i64 bits] [] fun y _ => y = .w (ar4 (pulF ls bits)) := by
  unfold pulF
  rw [if_pos hr]
  obtain ⟨hl, hbb⟩ := (rightP_def ls bits).1 hr
  have e9 : ∀ b : Int, mulN b.toNat (Tryd.prog.types[54]).size = b.toNat * 9 := fun b => mulN_eq _ 9
  have e1 : ∀ b : Int, mulN b.toNat (Tryd.prog.types[3]).size = b.toNat := fun b => mulN1 _
  conv => whnf
  refine loop_at2 (6 :: 7 :: List.range' 12 15) (fun m (b : Int) (T : List Int) => 0 ≤ b ∧ b ≤ 4 ∧ m = (4 - b).toNat ∧ T = stg tab36 Z36 (9 * b)) (fun b _ => [(6, vi b)]) (fun _ T => [.own 25 [.ints .i64 4 ls], .own 25 [.ints .i64 4 z4], .own 55 [.ints .i64 (4 * 9) T]]) 4 0 Z36 ⟨by decide, by decide, rfl, (stg_zero _ _).symm⟩ ?_ ?_
  · exact ⟨rfl, ⟨⟨Nat.le_of_ble_eq_true rfl, rfl⟩, trivial⟩, ⟨rfl, rfl, rfl, trivial⟩, rfl, rfl, Nat.zero_le _⟩
  · rintro _ b T ⟨b0, b1, rfl, hT⟩
    rcases Int.lt_or_le b 4 with b2 | b2
    · repeat' ((conv => whnf); first | (refine ask_true (by omega) ?_) | fail)
      conv => whnf
      refine loop_at2 (7 :: List.range' 16 11) (fun m (k : Int) (T : List Int) => 0 ≤ k ∧ k ≤ 9 ∧ m = (9 - k).toNat ∧ T = stg tab36 Z36 (9 * b + k)) (fun k _ => [(7, vi k)]) (fun _ T => [.own 25 [.ints .i64 4 ls], .own 25 [.ints .i64 4 z4], .own 55 [.ints .i64 (4 * 9) T]]) 9 0 T ⟨by decide, by decide, rfl, by rw [show 9 * b + 0 = 9 * b by omega]; exact hT⟩ ?_ ?_
      · exact ⟨rfl, ⟨⟨Nat.le_of_ble_eq_true rfl, rfl⟩, trivial⟩, ⟨rfl, rfl, rfl, trivial⟩, rfl, rfl, Nat.zero_le _⟩
      · rintro _ k T ⟨k0, k1, rfl, hT⟩
        have eb := e9 b
        have ek := e1 k
        rcases Int.lt_or_le k 9 with k2 | k2
        · repeat' ((conv => whnf); first | (refine ask_true (by omega) ?_) | (refine And.intro ⟨⟨by omega, by omega⟩, by omega, by omega⟩ ?_) | (refine And.intro (by omega) ?_) | (refine fun (_ : InK _ _) => ?_) | (refine ask_wrap64 (by omega) (by omega) ?_) | (refine ⟨by kernel_rfl, ?_⟩) | fail)
          conv => whnf
          refine ⟨(9 - (k + 1)).toNat, (k + 1, T.set (mulN b.toNat (Tryd.prog.types[54]).size + mulN k.toNat (Tryd.prog.types[3]).size) (costS b k)), by omega, ⟨by show 0 ≤ k + 1; omega, by show k + 1 ≤ 9; omega, rfl, ?_⟩, rfl, ⟨⟨Nat.le_of_ble_eq_true rfl, rfl⟩, trivial⟩, ⟨rfl, rfl, rfl, trivial⟩, rfl, rfl, Nat.zero_le _⟩
          show T.set (mulN b.toNat (Tryd.prog.types[54]).size + mulN k.toNat (Tryd.prog.types[3]).size) (costS b k) = stg tab36 Z36 (9 * b + (k + 1))
          rw [hT, show 9 * b + (k + 1) = 9 * b + k + 1 by omega]
          exact stg_set (by rw [eb, ek]; omega) (by rw [tab36_len]; rfl) (by omega) (by rw [tab36_len]; omega) (by rw [show (9 * b + k).toNat = b.toNat * 9 + k.toNat by omega]; exact tab36_at (by omega) (by omega))
        · repeat' ((conv => whnf); first | (refine ask_false (by omega) ?_) | (refine ask_wrap64 (by omega) (by omega) ?_) | fail)
          conv => whnf
          refine ⟨(4 - (b + 1)).toNat, (b + 1, T), by omega, ⟨by show 0 ≤ b + 1; omega, by show b + 1 ≤ 4; omega, rfl, by show T = stg tab36 Z36 (9 * (b + 1)); rw [hT, show 9 * (b + 1) = 9 * b + k by omega]⟩, rfl, ⟨⟨Nat.le_of_ble_eq_true rfl, rfl⟩, trivial⟩, ⟨rfl, rfl, rfl, trivial⟩, rfl, rfl, Nat.zero_le _⟩
    · have eT : T = tab36 := by rw [hT]; exact stg_all (by rw [tab36_len]; rfl) (by rw [tab36_len]; omega)
      subst eT
      repeat' ((conv => whnf); first | (refine ask_false (by omega) ?_) | fail)
      conv => whnf
      refine loop_at2 (1 :: 9 :: 10 :: 11 :: List.range' 27 86) (fun m (ks : List Int) (t : Int) => KOk ks ∧ (0 ≤ t ∧ t ≤ 1048576) ∧ m = (33 - sumK ks).toNat ∧ goP ls m ks t = goP ls 33 z4 bits) (fun _ t => [(1, vi t)]) (fun ks _ => [.own 25 [.ints .i64 4 ls], .own 25 [.ints .i64 4 z4], .own 55 [.ints .i64 (4 * 9) tab36], .own 25 [.ints .i64 4 ks]]) 33 z4 bits ⟨z4_ok, hbb, rfl, rfl⟩ ?_ ?_
      · exact ⟨rfl, ⟨⟨Nat.le_of_ble_eq_true rfl, rfl⟩, trivial⟩, ⟨rfl, rfl, rfl, rfl, trivial⟩, rfl, rfl, Nat.zero_le _⟩
      · rintro m ks t ⟨hk, ht, rfl, hgo⟩
        conv => whnf
        refine loop_at2 (9 :: 10 :: 11 :: List.range' 27 60) (fun m (i : Int) (b : Int) => 0 ≤ i ∧ i ≤ 4 ∧ m = (4 - i).toNat ∧ b = bestS ls ks t i.toNat) (fun i b => [(10, vi i), (9, vi b)]) (fun _ _ => [.own 25 [.ints .i64 4 ls], .own 25 [.ints .i64 4 z4], .own 55 [.ints .i64 (4 * 9) tab36], .own 25 [.ints .i64 4 ks]]) 4 0 (-1) ⟨by decide, by decide, rfl, rfl⟩ ?_ ?_
        · exact ⟨rfl, ⟨⟨Nat.le_of_ble_eq_true rfl, rfl⟩, ⟨Nat.le_of_ble_eq_true rfl, rfl⟩, trivial⟩, ⟨rfl, rfl, rfl, rfl, trivial⟩, rfl, rfl, Nat.zero_le _⟩
        · rintro m i b ⟨i0, i1, rfl, hbs⟩
          have bi := best_in ls ks t i.toNat
          rw [← hbs] at bi
          rcases Int.lt_or_le i 4 with i2 | i2
          · have em := e1 i
            have eb := e1 b
            have e9i := e9 i
            have eli : ls.getD (mulN i.toNat (Tryd.prog.types[3]).size) 0 = ls.getD i.toNat 0 := by rw [em]
            have eki : ks.getD (mulN i.toNat (Tryd.prog.types[3]).size) 0 = ks.getD i.toNat 0 := by rw [em]
            have elb : ls.getD (mulN b.toNat (Tryd.prog.types[3]).size) 0 = ls.getD b.toNat 0 := by rw [eb]
            have ekb : ks.getD (mulN b.toNat (Tryd.prog.types[3]).size) 0 = ks.getD b.toNat 0 := by rw [eb]
            have li := hl i.toNat (by omega)
            have ki := hk.at' i.toNat
            have kb := hk.at' b.toNat
            have ek0 := e1 (ks.getD (mulN i.toNat (Tryd.prog.types[3]).size) 0)
            have ek1 := e1 (ks.getD (mulN i.toNat (Tryd.prog.types[3]).size) 0 + 1)
            have nx := best_next (ls := ls) (ks := ks) (t := t) i0
            rw [← hbs] at nx
            have t0 : tab36.getD (mulN i.toNat (Tryd.prog.types[54]).size + mulN (ks.getD (mulN i.toNat (Tryd.prog.types[3]).size) 0).toNat (Tryd.prog.types[3]).size) 0 = costS i (ks.getD (mulN i.toNat (Tryd.prog.types[3]).size) 0) := by rw [e9, e1]; exact tab36_at (by omega) (by omega)
            have cA := costS_in i (ks.getD (mulN i.toNat (Tryd.prog.types[3]).size) 0 + 1)
            have cB := costS_in i (ks.getD (mulN i.toNat (Tryd.prog.types[3]).size) 0)
            have ePr : costS i (ks.getD (mulN i.toNat (Tryd.prog.types[3]).size) 0 + 1) - costS i (ks.getD (mulN i.toNat (Tryd.prog.types[3]).size) 0) = prS ks i := by rw [eki]; rfl
            have evi : valS ls ks i = 2 * ls.getD i.toNat 0 - 3 * ks.getD i.toNat 0 := rfl
            have evb : valS ls ks b = 2 * ls.getD b.toNat 0 - 3 * ks.getD b.toNat 0 := rfl
            have keep : ¬ takes ls ks t b i → b = bestS ls ks t (i + 1).toNat := fun hn => by rw [nx, if_neg hn]
            have turn : takes ls ks t b i → i = bestS ls ks t (i + 1).toNat := fun hn => by rw [nx, if_pos hn]
            rcases Classical.em (ls.getD i.toNat 0 = 0) with h1 | h1
            · have hn : ¬ takes ls ks t b i := fun hh => hh.1 (.inl h1)
              repeat' ((conv => whnf); first | (refine ask_true (by omega) ?_) | (refine ask_false (by omega) ?_) | (refine And.intro trivial ?_) | (refine And.intro (by omega) ?_) | (refine fun (_ : InK _ _) => ?_) | (refine ask_wrap64 (by omega) (by omega) ?_) | (refine ⟨by kernel_rfl, ?_⟩) | fail)
              conv => whnf
              exact ⟨(4 - (i + 1)).toNat, (i + 1, b), by omega, ⟨by show 0 ≤ i + 1; omega, by show i + 1 ≤ 4; omega, rfl, keep hn⟩, rfl, ⟨⟨Nat.le_of_ble_eq_true rfl, rfl⟩, ⟨Nat.le_of_ble_eq_true rfl, rfl⟩, trivial⟩, ⟨rfl, rfl, rfl, rfl, trivial⟩, rfl, rfl, Nat.zero_le _⟩
            · rcases Classical.em (ks.getD i.toNat 0 = 8) with h2 | h2
              · have hn : ¬ takes ls ks t b i := fun hh => hh.1 (.inr (.inl h2))
                repeat' ((conv => whnf); first | (refine ask_true (by omega) ?_) | (refine ask_false (by omega) ?_) | (refine And.intro trivial ?_) | (refine And.intro (by omega) ?_) | (refine fun (_ : InK _ _) => ?_) | (refine ask_wrap64 (by omega) (by omega) ?_) | (refine ⟨by kernel_rfl, ?_⟩) | fail)
                conv => whnf
                exact ⟨(4 - (i + 1)).toNat, (i + 1, b), by omega, ⟨by show 0 ≤ i + 1; omega, by show i + 1 ≤ 4; omega, rfl, keep hn⟩, rfl, ⟨⟨Nat.le_of_ble_eq_true rfl, rfl⟩, ⟨Nat.le_of_ble_eq_true rfl, rfl⟩, trivial⟩, ⟨rfl, rfl, rfl, rfl, trivial⟩, rfl, rfl, Nat.zero_le _⟩
              · have t1 : tab36.getD (mulN i.toNat (Tryd.prog.types[54]).size + mulN (ks.getD (mulN i.toNat (Tryd.prog.types[3]).size) 0 + 1).toNat (Tryd.prog.types[3]).size) 0 = costS i (ks.getD (mulN i.toNat (Tryd.prog.types[3]).size) 0 + 1) := by rw [e9, e1]; exact tab36_at (by omega) (by omega)
                rcases Int.lt_or_le b 0 with h3 | h3
                · rcases Int.lt_or_le t (prS ks i) with h4 | h4
                  · have hn : ¬ takes ls ks t b i := fun hh => absurd hh.2 (by omega)
                    repeat' ((conv => whnf); first | (refine ask_true (by omega) ?_) | (refine ask_false (by omega) ?_) | (refine And.intro trivial ?_) | (refine And.intro (by omega) ?_) | (refine fun (_ : InK _ _) => ?_) | (refine ask_wrap64 (by omega) (by omega) ?_) | (refine ⟨by kernel_rfl, ?_⟩) | fail)
                    conv => whnf
                    exact ⟨(4 - (i + 1)).toNat, (i + 1, b), by omega, ⟨by show 0 ≤ i + 1; omega, by show i + 1 ≤ 4; omega, rfl, keep hn⟩, rfl, ⟨⟨Nat.le_of_ble_eq_true rfl, rfl⟩, ⟨Nat.le_of_ble_eq_true rfl, rfl⟩, trivial⟩, ⟨rfl, rfl, rfl, rfl, trivial⟩, rfl, rfl, Nat.zero_le _⟩
                  · have hn : takes ls ks t b i := ⟨fun hh => by rcases hh with hh | hh | hh <;> omega, h4⟩
                    repeat' ((conv => whnf); first | (refine ask_true (by omega) ?_) | (refine ask_false (by omega) ?_) | (refine And.intro trivial ?_) | (refine And.intro (by omega) ?_) | (refine fun (_ : InK _ _) => ?_) | (refine ask_wrap64 (by omega) (by omega) ?_) | (refine ⟨by kernel_rfl, ?_⟩) | fail)
                    conv => whnf
                    exact ⟨(4 - (i + 1)).toNat, (i + 1, i), by omega, ⟨by show 0 ≤ i + 1; omega, by show i + 1 ≤ 4; omega, rfl, turn hn⟩, rfl, ⟨⟨Nat.le_of_ble_eq_true rfl, rfl⟩, ⟨Nat.le_of_ble_eq_true rfl, rfl⟩, trivial⟩, ⟨rfl, rfl, rfl, rfl, trivial⟩, rfl, rfl, Nat.zero_le _⟩
                · have lb := hl b.toNat (by omega)
                  rcases Int.lt_or_le (valS ls ks b) (valS ls ks i) with h5 | h5
                  · rcases Int.lt_or_le t (prS ks i) with h4 | h4
                    · have hn : ¬ takes ls ks t b i := fun hh => absurd hh.2 (by omega)
                      repeat' ((conv => whnf); first | (refine ask_true (by omega) ?_) | (refine ask_false (by omega) ?_) | (refine And.intro trivial ?_) | (refine And.intro (by omega) ?_) | (refine fun (_ : InK _ _) => ?_) | (refine ask_wrap64 (by omega) (by omega) ?_) | (refine ⟨by kernel_rfl, ?_⟩) | fail)
                      conv => whnf
                      exact ⟨(4 - (i + 1)).toNat, (i + 1, b), by omega, ⟨by show 0 ≤ i + 1; omega, by show i + 1 ≤ 4; omega, rfl, keep hn⟩, rfl, ⟨⟨Nat.le_of_ble_eq_true rfl, rfl⟩, ⟨Nat.le_of_ble_eq_true rfl, rfl⟩, trivial⟩, ⟨rfl, rfl, rfl, rfl, trivial⟩, rfl, rfl, Nat.zero_le _⟩
                    · have hn : takes ls ks t b i := ⟨fun hh => by rcases hh with hh | hh | hh <;> omega, h4⟩
                      repeat' ((conv => whnf); first | (refine ask_true (by omega) ?_) | (refine ask_false (by omega) ?_) | (refine And.intro trivial ?_) | (refine And.intro (by omega) ?_) | (refine fun (_ : InK _ _) => ?_) | (refine ask_wrap64 (by omega) (by omega) ?_) | (refine ⟨by kernel_rfl, ?_⟩) | fail)
                      conv => whnf
                      exact ⟨(4 - (i + 1)).toNat, (i + 1, i), by omega, ⟨by show 0 ≤ i + 1; omega, by show i + 1 ≤ 4; omega, rfl, turn hn⟩, rfl, ⟨⟨Nat.le_of_ble_eq_true rfl, rfl⟩, ⟨Nat.le_of_ble_eq_true rfl, rfl⟩, trivial⟩, ⟨rfl, rfl, rfl, rfl, trivial⟩, rfl, rfl, Nat.zero_le _⟩
                  · have hn : ¬ takes ls ks t b i := fun hh => hh.1 (.inr (.inr ⟨h3, h5⟩))
                    rcases Int.lt_or_le t (prS ks i) with h4 | h4
                    · repeat' ((conv => whnf); first | (refine ask_true (by omega) ?_) | (refine ask_false (by omega) ?_) | (refine And.intro trivial ?_) | (refine And.intro (by omega) ?_) | (refine fun (_ : InK _ _) => ?_) | (refine ask_wrap64 (by omega) (by omega) ?_) | (refine ⟨by kernel_rfl, ?_⟩) | fail)
                      conv => whnf
                      exact ⟨(4 - (i + 1)).toNat, (i + 1, b), by omega, ⟨by show 0 ≤ i + 1; omega, by show i + 1 ≤ 4; omega, rfl, keep hn⟩, rfl, ⟨⟨Nat.le_of_ble_eq_true rfl, rfl⟩, ⟨Nat.le_of_ble_eq_true rfl, rfl⟩, trivial⟩, ⟨rfl, rfl, rfl, rfl, trivial⟩, rfl, rfl, Nat.zero_le _⟩
                    · repeat' ((conv => whnf); first | (refine ask_true (by omega) ?_) | (refine ask_false (by omega) ?_) | (refine And.intro trivial ?_) | (refine And.intro (by omega) ?_) | (refine fun (_ : InK _ _) => ?_) | (refine ask_wrap64 (by omega) (by omega) ?_) | (refine ⟨by kernel_rfl, ?_⟩) | fail)
                      conv => whnf
                      exact ⟨(4 - (i + 1)).toNat, (i + 1, b), by omega, ⟨by show 0 ≤ i + 1; omega, by show i + 1 ≤ 4; omega, rfl, keep hn⟩, rfl, ⟨⟨Nat.le_of_ble_eq_true rfl, rfl⟩, ⟨Nat.le_of_ble_eq_true rfl, rfl⟩, trivial⟩, ⟨rfl, rfl, rfl, rfl, trivial⟩, rfl, rfl, Nat.zero_le _⟩
          · have i4 : i.toNat = 4 := by omega
            rw [i4] at hbs
            have hsum := hk.sum
            obtain ⟨n, en⟩ : ∃ n, (33 - sumK ks).toNat = n + 1 := ⟨(33 - sumK ks).toNat - 1, by omega⟩
            rw [en, goP_next, ← hbs] at hgo
            rcases Int.lt_or_le b 0 with h3 | h3
            · rw [if_pos h3] at hgo
              rw [← hgo]
              repeat' ((conv => whnf); first | (refine ask_true (by omega) ?_) | (refine ask_false (by omega) ?_) | rfl | fail)
            · rw [if_neg (by omega)] at hgo
              have bp := best_pays ls ks t 4 (by omega)
              rw [← hbs] at bp
              have eb := e1 b
              have e9b := e9 b
              have kb := hk.at' b.toNat
              have ekb : ks.getD (mulN b.toNat (Tryd.prog.types[3]).size) 0 = ks.getD b.toNat 0 := by rw [eb]
              have ek0 := e1 (ks.getD (mulN b.toNat (Tryd.prog.types[3]).size) 0)
              have ek1 := e1 (ks.getD (mulN b.toNat (Tryd.prog.types[3]).size) 0 + 1)
              have k7 : ks.getD (mulN b.toNat (Tryd.prog.types[3]).size) 0 ≤ 7 := by rw [ekb]; omega
              have t0 : tab36.getD (mulN b.toNat (Tryd.prog.types[54]).size + mulN (ks.getD (mulN b.toNat (Tryd.prog.types[3]).size) 0).toNat (Tryd.prog.types[3]).size) 0 = costS b (ks.getD (mulN b.toNat (Tryd.prog.types[3]).size) 0) := by rw [e9, e1]; exact tab36_at (by omega) (by omega)
              have t1 : tab36.getD (mulN b.toNat (Tryd.prog.types[54]).size + mulN (ks.getD (mulN b.toNat (Tryd.prog.types[3]).size) 0 + 1).toNat (Tryd.prog.types[3]).size) 0 = costS b (ks.getD (mulN b.toNat (Tryd.prog.types[3]).size) 0 + 1) := by rw [e9, e1]; exact tab36_at (by omega) (by omega)
              have cA := costS_in b (ks.getD (mulN b.toNat (Tryd.prog.types[3]).size) 0 + 1)
              have cB := costS_in b (ks.getD (mulN b.toNat (Tryd.prog.types[3]).size) 0)
              have ePr : costS b (ks.getD (mulN b.toNat (Tryd.prog.types[3]).size) 0 + 1) - costS b (ks.getD (mulN b.toNat (Tryd.prog.types[3]).size) 0) = prS ks b := by rw [ekb]; rfl
              have p0 : 0 ≤ prS ks b := by
                have := cost_mono (b := b) (k := ks.getD b.toNat 0) (by omega) (by omega)
                unfold prS; omega
              have es : ks.set (mulN b.toNat (Tryd.prog.types[3]).size) (ks.getD (mulN b.toNat (Tryd.prog.types[3]).size) 0 + 1) = ks.set b.toNat (ks.getD b.toNat 0 + 1) := by rw [ekb, eb]
              have ss := sumK_set hk.len (b := b) (by omega)
              have etn : t - tab36.getD (mulN b.toNat (Tryd.prog.types[54]).size + mulN (ks.getD (mulN b.toNat (Tryd.prog.types[3]).size) 0 + 1).toNat (Tryd.prog.types[3]).size) 0 + tab36.getD (mulN b.toNat (Tryd.prog.types[54]).size + mulN (ks.getD (mulN b.toNat (Tryd.prog.types[3]).size) 0).toNat (Tryd.prog.types[3]).size) 0 = t - prS ks b := by omega
              repeat' ((conv => whnf); first | (refine ask_true (by omega) ?_) | (refine ask_false (by omega) ?_) | (refine And.intro (by omega) ?_) | (refine fun (_ : InK _ _) => ?_) | (refine ask_wrap64 (by omega) (by omega) ?_) | (refine ⟨by kernel_rfl, ?_⟩) | fail)
              conv => whnf
              refine ⟨n, (ks.set (mulN b.toNat (Tryd.prog.types[3]).size) (ks.getD (mulN b.toNat (Tryd.prog.types[3]).size) 0 + 1), t - tab36.getD (mulN b.toNat (Tryd.prog.types[54]).size + mulN (ks.getD (mulN b.toNat (Tryd.prog.types[3]).size) 0 + 1).toNat (Tryd.prog.types[3]).size) 0 + tab36.getD (mulN b.toNat (Tryd.prog.types[54]).size + mulN (ks.getD (mulN b.toNat (Tryd.prog.types[3]).size) 0).toNat (Tryd.prog.types[3]).size) 0), by omega, ⟨?_, ?_, ?_, ?_⟩, rfl, ⟨⟨Nat.le_of_ble_eq_true rfl, rfl⟩, trivial⟩, ⟨rfl, rfl, rfl, rfl, trivial⟩, rfl, rfl, Nat.zero_le _⟩
              · show KOk (ks.set (mulN b.toNat (Tryd.prog.types[3]).size) (ks.getD (mulN b.toNat (Tryd.prog.types[3]).size) 0 + 1))
                rw [es]; exact hk.next (by omega) bp.2.1
              · show 0 ≤ t - tab36.getD (mulN b.toNat (Tryd.prog.types[54]).size + mulN (ks.getD (mulN b.toNat (Tryd.prog.types[3]).size) 0 + 1).toNat (Tryd.prog.types[3]).size) 0 + tab36.getD (mulN b.toNat (Tryd.prog.types[54]).size + mulN (ks.getD (mulN b.toNat (Tryd.prog.types[3]).size) 0).toNat (Tryd.prog.types[3]).size) 0 ∧ t - tab36.getD (mulN b.toNat (Tryd.prog.types[54]).size + mulN (ks.getD (mulN b.toNat (Tryd.prog.types[3]).size) 0 + 1).toNat (Tryd.prog.types[3]).size) 0 + tab36.getD (mulN b.toNat (Tryd.prog.types[54]).size + mulN (ks.getD (mulN b.toNat (Tryd.prog.types[3]).size) 0).toNat (Tryd.prog.types[3]).size) 0 ≤ 1048576
                omega
              · show n = (33 - sumK (ks.set (mulN b.toNat (Tryd.prog.types[3]).size) (ks.getD (mulN b.toNat (Tryd.prog.types[3]).size) 0 + 1))).toNat
                rw [es, ss]; omega
              · show goP ls n (ks.set (mulN b.toNat (Tryd.prog.types[3]).size) (ks.getD (mulN b.toNat (Tryd.prog.types[3]).size) 0 + 1)) (t - tab36.getD (mulN b.toNat (Tryd.prog.types[54]).size + mulN (ks.getD (mulN b.toNat (Tryd.prog.types[3]).size) 0 + 1).toNat (Tryd.prog.types[3]).size) 0 + tab36.getD (mulN b.toNat (Tryd.prog.types[54]).size + mulN (ks.getD (mulN b.toNat (Tryd.prog.types[3]).size) 0).toNat (Tryd.prog.types[3]).size) 0) = _
                rw [es, etn]; exact hgo
def ctP4r (f : List Int → Int → List Int) : Ct := fun ws K => match ws with
  | [.agg [.ints .i64 4 xs], .c (.ci .i64 b)] => rightP xs b ∧ K (.w (ar4 (f xs b)))
  | _ => False
theorem rpulses11_ct : CtOk Tryd.prog 30 (ctP4r pulS) := by
  intro ws K h' hr
  unfold ctP4r at h'
  split at h'
  · rename_i xs b
    exact ⟨_, h'.2, ⟨⟨⟨(pulS_ok xs b).len, (pulS_ok xs b).rng⟩, trivial⟩, rfl⟩, walk_calls FRp_ok Tryd.func30 (n := 0) rfl hr rfl (by rw [pulS_def]; exact rpulses11_walk xs hr.1.1.1 b h'.1)⟩
  · exact h'.elim
end Go.Proofs.YtmkdamfdlkpjdaaDoor
