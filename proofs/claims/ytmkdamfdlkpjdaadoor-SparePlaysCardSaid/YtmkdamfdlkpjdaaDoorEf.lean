/- Chapter spare: pulses, given one by one. -/
import Derived.Test.YtmkdamfdlkpjdaaDoorEe
set_option linter.all false
namespace Go.Proofs.YtmkdamfdlkpjdaaDoor
open Go.RowKit (Below)
open Go.WideMaps
set_option maxRecDepth 100000
set_option maxHeartbeats 64000000

/-! ### which band is next, and what it pays -/
noncomputable def prS (ks : List Int) (b : Int) : Int := costS b (ks.getD b.toNat 0 + 1) - costS b (ks.getD b.toNat 0)
def valS (ls ks : List Int) (b : Int) : Int := 2 * ls.getD b.toNat 0 - 3 * ks.getD b.toNat 0
/-- Is the band j next rather than b? -/
def takes (ls ks : List Int) (bits b j : Int) : Prop := ¬ (ls.getD j.toNat 0 = 0 ∨ ks.getD j.toNat 0 = 8 ∨ (0 ≤ b ∧ valS ls ks j ≤ valS ls ks b)) ∧ prS ks j ≤ bits
noncomputable instance (ls ks : List Int) (bits b j : Int) : Decidable (takes ls ks bits b j) := Classical.propDecidable _
noncomputable def bestS (ls ks : List Int) (bits : Int) : Nat → Int
  | 0 => -1
  | i + 1 => if takes ls ks bits (bestS ls ks bits i) i then i else bestS ls ks bits i
theorem best_next {ls ks : List Int} {t i : Int} (h : 0 ≤ i) : bestS ls ks t (i + 1).toNat = if takes ls ks t (bestS ls ks t i.toNat) i then i else bestS ls ks t i.toNat := by
  rw [show (i + 1).toNat = i.toNat + 1 by omega]
  show (if takes ls ks t (bestS ls ks t i.toNat) (i.toNat : Int) then ((i.toNat : Nat) : Int) else bestS ls ks t i.toNat) = _
  rw [show ((i.toNat : Nat) : Int) = i by omega]
theorem best_in (ls ks : List Int) (bits : Int) : ∀ i : Nat, -1 ≤ bestS ls ks bits i ∧ bestS ls ks bits i < i
  | 0 => ⟨Int.le_refl _, by show (-1 : Int) < 0; decide⟩
  | i + 1 => by
    have := best_in ls ks bits i
    show -1 ≤ (if _ then (i : Int) else bestS ls ks bits i) ∧ (if _ then (i : Int) else bestS ls ks bits i) < ((i + 1 : Nat) : Int)
    split <;> omega
/-- The band that is next can have one more, and pays it. -/
theorem best_pays (ls ks : List Int) (bits : Int) : ∀ i : Nat, 0 ≤ bestS ls ks bits i → ls.getD (bestS ls ks bits i).toNat 0 ≠ 0 ∧ ks.getD (bestS ls ks bits i).toNat 0 ≠ 8 ∧ prS ks (bestS ls ks bits i) ≤ bits
  | 0, h => absurd h (by show ¬ (0 : Int) ≤ -1; decide)
  | i + 1, h => by
    have ih := best_pays ls ks bits i
    have e : bestS ls ks bits (i + 1) = if takes ls ks bits (bestS ls ks bits i) i then (i : Int) else bestS ls ks bits i := rfl
    rw [e] at h ⊢
    split
    · rename_i ht
      exact ⟨fun h1 => ht.1 (.inl h1), fun h1 => ht.1 (.inr (.inl h1)), ht.2⟩
    · rename_i ht
      rw [if_neg ht] at h
      exact ih h
/-- No band can have one more. -/
theorem best_none (ls ks : List Int) (bits : Int) : ∀ i : Nat, bestS ls ks bits i < 0 → ∀ j : Nat, j < i → ls.getD j 0 = 0 ∨ ks.getD j 0 = 8 ∨ bits < prS ks j
  | 0, _, j, hj => absurd hj (Nat.not_lt_zero j)
  | i + 1, h, j, hj => by
    have e : bestS ls ks bits (i + 1) = if takes ls ks bits (bestS ls ks bits i) i then (i : Int) else bestS ls ks bits i := rfl
    rw [e] at h
    split at h
    · omega
    · rename_i ht
      rcases Nat.lt_or_ge j i with h1 | h1
      · exact best_none ls ks bits i h j h1
      · obtain rfl : j = i := by omega
        rcases Classical.em (ls.getD j 0 = 0) with a | a
        · exact .inl a
        · rcases Classical.em (ks.getD j 0 = 8) with b | b
          · exact .inr (.inl b)
          · refine .inr (.inr (Classical.byContradiction fun hp => ht ⟨?_, ?_⟩))
            · rintro (h2 | h2 | h2)
              · exact a h2
              · exact b h2
              · omega
            · have : ¬ bits < prS ks (j : Int) := hp
              omega
noncomputable def goP (ls : List Int) : Nat → List Int → Int → List Int
  | 0, ks, _ => ks
  | n + 1, ks, bits => if bestS ls ks bits 4 < 0 then ks else goP ls n (ks.set (bestS ls ks bits 4).toNat (ks.getD (bestS ls ks bits 4).toNat 0 + 1)) (bits - prS ks (bestS ls ks bits 4))
theorem goP_next (ls : List Int) (n : Nat) (ks : List Int) (bits : Int) : goP ls (n + 1) ks bits = if bestS ls ks bits 4 < 0 then ks else goP ls n (ks.set (bestS ls ks bits 4).toNat (ks.getD (bestS ls ks bits 4).toNat 0 + 1)) (bits - prS ks (bestS ls ks bits 4)) := rfl
noncomputable def pulF (ls : List Int) (bits : Int) : List Int := if rightP ls bits then goP ls 33 z4 bits else z4
/-- How many are given. -/
def sumK (ks : List Int) : Int := ks.getD 0 0 + ks.getD 1 0 + ks.getD 2 0 + ks.getD 3 0
theorem sumK_set {ks : List Int} (h : ks.length = 4) {b : Int} (hb : 0 ≤ b ∧ b ≤ 3) : sumK (ks.set b.toNat (ks.getD b.toNat 0 + 1)) = sumK ks + 1 := by
  match ks, h with
  | [x, y, z, w], _ =>
    obtain rfl | rfl | rfl | rfl : b = 0 ∨ b = 1 ∨ b = 2 ∨ b = 3 := by omega
    · show x + 1 + y + z + w = x + y + z + w + 1; omega
    · show x + (y + 1) + z + w = x + y + z + w + 1; omega
    · show x + y + (z + 1) + w = x + y + z + w + 1; omega
    · show x + y + z + (w + 1) = x + y + z + w + 1; omega
structure KOk (ks : List Int) : Prop where
  len : ks.length = 4
  at' : ∀ i : Nat, 0 ≤ ks.getD i 0 ∧ ks.getD i 0 ≤ 8
theorem getD_set {ks : List Int} {i j : Nat} {v : Int} : (ks.set i v).getD j 0 = if i = j ∧ j < ks.length then v else ks.getD j 0 := by
  rw [List.getD_eq_getElem?_getD, List.getD_eq_getElem?_getD, List.getElem?_set]
  by_cases h : i = j
  · subst h
    by_cases h2 : i < ks.length
    · simp [h2]
    · simp [h2]
  · simp [h]
theorem KOk.next {ks : List Int} (h : KOk ks) {b : Int} (hb : 0 ≤ b ∧ b ≤ 3) (h8 : ks.getD b.toNat 0 ≠ 8) : KOk (ks.set b.toNat (ks.getD b.toNat 0 + 1)) := by
  refine ⟨by rw [List.length_set]; exact h.len, fun i => ?_⟩
  have h1 := h.at' b.toNat
  have h2 := h.at' i
  rw [getD_set]
  split <;> omega
theorem KOk.sum {ks : List Int} (h : KOk ks) : 0 ≤ sumK ks ∧ sumK ks ≤ 32 := by
  have h0 := h.at' 0
  have h1 := h.at' 1
  have h2 := h.at' 2
  have h3 := h.at' 3
  unfold sumK
  omega
theorem KOk.rng {ks : List Int} (h : KOk ks) : ∀ x ∈ ks, InK .i64 x := fun x hx => by
  obtain ⟨i, hi, rfl⟩ := List.getElem_of_mem hx
  have := h.at' i
  rw [List.getD_eq_getElem?_getD, List.getElem?_eq_getElem hi] at this
  have h' : 0 ≤ ks[i] ∧ ks[i] ≤ 8 := this
  simp only [InK, lowK, highK]; omega
theorem z4_ok : KOk z4 := ⟨rfl, fun i => by
  match i with
  | 0 | 1 | 2 | 3 => decide
  | n + 4 => show (0 : Int) ≤ 0 ∧ (0 : Int) ≤ 8; decide⟩
theorem goP_ok (ls : List Int) : ∀ (n : Nat) (ks : List Int) (bits : Int), KOk ks → KOk (goP ls n ks bits)
  | 0, _, _, h => h
  | n + 1, ks, bits, h => by
    have b1 := best_in ls ks bits 4
    unfold goP
    split
    · exact h
    · rename_i hb
      have b2 := best_pays ls ks bits 4 (by omega)
      exact goP_ok ls n _ _ (h.next (by omega) b2.2.1)
theorem pulF_ok (ls : List Int) (bits : Int) : KOk (pulF ls bits) := by
  unfold pulF
  split
  · exact goP_ok _ _ _ _ z4_ok
  · exact z4_ok

/-! ### the walk -/
noncomputable def FPu : Fns := (F0.plus 39 (ctR rightP)).plus 40 (ct2 (fun _ _ => True) costS)
theorem FPu_ok : FnsOk Tryd.prog FPu G1 := (F0_okg.plus right_ct Tryd.func39 (by kernel_rfl) (by kernel_rfl)).plusG cost_ct Tryd.func40 (by kernel_rfl) (by kernel_rfl)
theorem pulsesS_walk (ls : List Int) (h : ls.length = 4) (bits : Int) (hb : InK .i64 bits) : walkq FPu 0 Tryd.f25 [ar4 ls, i64 bits] [] fun y _ => y = .w (ar4 (pulF ls bits)) := by
  unfold pulF
  rcases Classical.em (rightP ls bits) with hr | hr
  · rw [if_pos hr]
    obtain ⟨hl, hbb⟩ := (rightP_def ls bits).1 hr
    repeat' ((conv => whnf); first | (refine ask_true hr ?_) | fail)
    conv => whnf
    refine loop_at2 (1 :: 6 :: 7 :: 8 :: 9 :: 10 :: List.range' 16 64) (fun m (ks : List Int) (t : Int) => KOk ks ∧ (0 ≤ t ∧ t ≤ 1048576) ∧ m = (33 - sumK ks).toNat ∧ goP ls m ks t = goP ls 33 z4 bits) (fun _ t => [(1, vi t)]) (fun ks _ => [.own 25 [.ints .i64 4 ls], .own 25 [.ints .i64 4 z4], .own 25 [.ints .i64 4 ks]]) 33 z4 bits ⟨z4_ok, hbb, rfl, rfl⟩ ?_ ?_
    · exact ⟨rfl, ⟨⟨Nat.le_of_ble_eq_true rfl, rfl⟩, trivial⟩, ⟨rfl, rfl, rfl, trivial⟩, rfl, rfl, Nat.zero_le _⟩
    · rintro m ks t ⟨hk, ht, rfl, hgo⟩
      conv => whnf
      refine loop_at2 (6 :: 7 :: 8 :: 9 :: 10 :: List.range' 17 53) (fun m (i : Int) (b : Int) => 0 ≤ i ∧ i ≤ 4 ∧ m = (4 - i).toNat ∧ b = bestS ls ks t i.toNat) (fun i b => [(17, vi i), (6, vi b), (7, vi (if b < 0 then 0 else prS ks b))]) (fun _ _ => [.own 25 [.ints .i64 4 ls], .own 25 [.ints .i64 4 z4], .own 25 [.ints .i64 4 ks]]) 4 0 (-1) ⟨by decide, by decide, rfl, rfl⟩ ?_ ?_
      · exact ⟨rfl, ⟨⟨Nat.le_of_ble_eq_true rfl, rfl⟩, ⟨Nat.le_of_ble_eq_true rfl, rfl⟩, ⟨Nat.le_of_ble_eq_true rfl, rfl⟩, trivial⟩, ⟨rfl, rfl, rfl, trivial⟩, rfl, rfl, Nat.zero_le _⟩
      · rintro m i b ⟨i0, i1, rfl, hbs⟩
        have bi := best_in ls ks t i.toNat
        rw [← hbs] at bi
        rcases Int.lt_or_le i 4 with i2 | i2
        · have em : mulN i.toNat (Tryd.prog.types[3]).size = i.toNat := mulN1 _
          have eb : mulN b.toNat (Tryd.prog.types[3]).size = b.toNat := mulN1 _
          have eli : ls.getD (mulN i.toNat (Tryd.prog.types[3]).size) 0 = ls.getD i.toNat 0 := by rw [em]
          have eki : ks.getD (mulN i.toNat (Tryd.prog.types[3]).size) 0 = ks.getD i.toNat 0 := by rw [em]
          have elb : ls.getD (mulN b.toNat (Tryd.prog.types[3]).size) 0 = ls.getD b.toNat 0 := by rw [eb]
          have ekb : ks.getD (mulN b.toNat (Tryd.prog.types[3]).size) 0 = ks.getD b.toNat 0 := by rw [eb]
          have li := hl i.toNat (by omega)
          have ki := hk.at' i.toNat
          have kb := hk.at' b.toNat
          have nx := best_next (ls := ls) (ks := ks) (t := t) i0
          rw [← hbs] at nx
          have cA := costS_in i (ks.getD (mulN i.toNat (Tryd.prog.types[3]).size) 0 + 1)
          have cB := costS_in i (ks.getD (mulN i.toNat (Tryd.prog.types[3]).size) 0)
          have ePr : costS i (ks.getD (mulN i.toNat (Tryd.prog.types[3]).size) 0 + 1) - costS i (ks.getD (mulN i.toNat (Tryd.prog.types[3]).size) 0) = prS ks i := by rw [eki]; rfl
          have evi : valS ls ks i = 2 * ls.getD i.toNat 0 - 3 * ks.getD i.toNat 0 := rfl
          have evb : valS ls ks b = 2 * ls.getD b.toNat 0 - 3 * ks.getD b.toNat 0 := rfl
          have keep : ¬ takes ls ks t b i → b = bestS ls ks t (i + 1).toNat := fun hn => by rw [nx, if_neg hn]
          have turn : takes ls ks t b i → i = bestS ls ks t (i + 1).toNat := fun hn => by rw [nx, if_pos hn]
          rcases Classical.em (ls.getD i.toNat 0 = 0) with h1 | h1
          · have hn : ¬ takes ls ks t b i := fun hh => hh.1 (.inl h1)
            repeat' ((conv => whnf); first | (refine ask_true (by omega) ?_) | (refine ask_false (by omega) ?_) | (refine And.intro trivial ?_) | (refine And.intro (by omega) ?_) | (refine fun (_ : InK _ _) => ?_) | (refine ask_wrap64 (by omega) (by omega) ?_) | (refine ⟨by kernel_rfl, ?_⟩) | fail)
            conv => whnf
            exact ⟨(4 - (i + 1)).toNat, (i + 1, b), by omega, ⟨by show 0 ≤ i + 1; omega, by show i + 1 ≤ 4; omega, rfl, keep hn⟩, rfl, ⟨⟨Nat.le_of_ble_eq_true rfl, rfl⟩, ⟨Nat.le_of_ble_eq_true rfl, rfl⟩, ⟨Nat.le_of_ble_eq_true rfl, rfl⟩, trivial⟩, ⟨rfl, rfl, rfl, trivial⟩, rfl, rfl, Nat.zero_le _⟩
          · rcases Classical.em (ks.getD i.toNat 0 = 8) with h2 | h2
            · have hn : ¬ takes ls ks t b i := fun hh => hh.1 (.inr (.inl h2))
              repeat' ((conv => whnf); first | (refine ask_true (by omega) ?_) | (refine ask_false (by omega) ?_) | (refine And.intro trivial ?_) | (refine And.intro (by omega) ?_) | (refine fun (_ : InK _ _) => ?_) | (refine ask_wrap64 (by omega) (by omega) ?_) | (refine ⟨by kernel_rfl, ?_⟩) | fail)
              conv => whnf
              exact ⟨(4 - (i + 1)).toNat, (i + 1, b), by omega, ⟨by show 0 ≤ i + 1; omega, by show i + 1 ≤ 4; omega, rfl, keep hn⟩, rfl, ⟨⟨Nat.le_of_ble_eq_true rfl, rfl⟩, ⟨Nat.le_of_ble_eq_true rfl, rfl⟩, ⟨Nat.le_of_ble_eq_true rfl, rfl⟩, trivial⟩, ⟨rfl, rfl, rfl, trivial⟩, rfl, rfl, Nat.zero_le _⟩
            · rcases Int.lt_or_le b 0 with h3 | h3
              · rcases Int.lt_or_le t (prS ks i) with h4 | h4
                · have hn : ¬ takes ls ks t b i := fun hh => absurd hh.2 (by omega)
                  repeat' ((conv => whnf); first | (refine ask_true (by omega) ?_) | (refine ask_false (by omega) ?_) | (refine And.intro trivial ?_) | (refine And.intro (by omega) ?_) | (refine fun (_ : InK _ _) => ?_) | (refine ask_wrap64 (by omega) (by omega) ?_) | (refine ⟨by kernel_rfl, ?_⟩) | fail)
                  conv => whnf
                  exact ⟨(4 - (i + 1)).toNat, (i + 1, b), by omega, ⟨by show 0 ≤ i + 1; omega, by show i + 1 ≤ 4; omega, rfl, keep hn⟩, rfl, ⟨⟨Nat.le_of_ble_eq_true rfl, rfl⟩, ⟨Nat.le_of_ble_eq_true rfl, rfl⟩, ⟨Nat.le_of_ble_eq_true rfl, rfl⟩, trivial⟩, ⟨rfl, rfl, rfl, trivial⟩, rfl, rfl, Nat.zero_le _⟩
                · have hn : takes ls ks t b i := ⟨fun hh => by rcases hh with hh | hh | hh <;> omega, h4⟩
                  repeat' ((conv => whnf); first | (refine ask_true (by omega) ?_) | (refine ask_false (by omega) ?_) | (refine And.intro trivial ?_) | (refine And.intro (by omega) ?_) | (refine fun (_ : InK _ _) => ?_) | (refine ask_wrap64 (by omega) (by omega) ?_) | (refine ⟨by kernel_rfl, ?_⟩) | fail)
                  conv => whnf
                  refine ⟨(4 - (i + 1)).toNat, (i + 1, i), by omega, ⟨by show 0 ≤ i + 1; omega, by show i + 1 ≤ 4; omega, rfl, turn hn⟩, rfl, ⟨⟨Nat.le_of_ble_eq_true rfl, rfl⟩, ⟨Nat.le_of_ble_eq_true rfl, rfl⟩, ⟨Nat.le_of_ble_eq_true rfl, congrArg vi ?_⟩, trivial⟩, ⟨rfl, rfl, rfl, trivial⟩, rfl, rfl, Nat.zero_le _⟩
                  show _ = if i < 0 then 0 else prS ks i
                  rw [if_neg (by omega)]; exact ePr
              · have lb := hl b.toNat (by omega)
                rcases Int.lt_or_le (valS ls ks b) (valS ls ks i) with h5 | h5
                · rcases Int.lt_or_le t (prS ks i) with h4 | h4
                  · have hn : ¬ takes ls ks t b i := fun hh => absurd hh.2 (by omega)
                    repeat' ((conv => whnf); first | (refine ask_true (by omega) ?_) | (refine ask_false (by omega) ?_) | (refine And.intro trivial ?_) | (refine And.intro (by omega) ?_) | (refine fun (_ : InK _ _) => ?_) | (refine ask_wrap64 (by omega) (by omega) ?_) | (refine ⟨by kernel_rfl, ?_⟩) | fail)
                    conv => whnf
                    exact ⟨(4 - (i + 1)).toNat, (i + 1, b), by omega, ⟨by show 0 ≤ i + 1; omega, by show i + 1 ≤ 4; omega, rfl, keep hn⟩, rfl, ⟨⟨Nat.le_of_ble_eq_true rfl, rfl⟩, ⟨Nat.le_of_ble_eq_true rfl, rfl⟩, ⟨Nat.le_of_ble_eq_true rfl, rfl⟩, trivial⟩, ⟨rfl, rfl, rfl, trivial⟩, rfl, rfl, Nat.zero_le _⟩
                  · have hn : takes ls ks t b i := ⟨fun hh => by rcases hh with hh | hh | hh <;> omega, h4⟩
                    repeat' ((conv => whnf); first | (refine ask_true (by omega) ?_) | (refine ask_false (by omega) ?_) | (refine And.intro trivial ?_) | (refine And.intro (by omega) ?_) | (refine fun (_ : InK _ _) => ?_) | (refine ask_wrap64 (by omega) (by omega) ?_) | (refine ⟨by kernel_rfl, ?_⟩) | fail)
                    conv => whnf
                    refine ⟨(4 - (i + 1)).toNat, (i + 1, i), by omega, ⟨by show 0 ≤ i + 1; omega, by show i + 1 ≤ 4; omega, rfl, turn hn⟩, rfl, ⟨⟨Nat.le_of_ble_eq_true rfl, rfl⟩, ⟨Nat.le_of_ble_eq_true rfl, rfl⟩, ⟨Nat.le_of_ble_eq_true rfl, congrArg vi ?_⟩, trivial⟩, ⟨rfl, rfl, rfl, trivial⟩, rfl, rfl, Nat.zero_le _⟩
                    show _ = if i < 0 then 0 else prS ks i
                    rw [if_neg (by omega)]; exact ePr
                · have hn : ¬ takes ls ks t b i := fun hh => hh.1 (.inr (.inr ⟨h3, h5⟩))
                  repeat' ((conv => whnf); first | (refine ask_true (by omega) ?_) | (refine ask_false (by omega) ?_) | (refine And.intro trivial ?_) | (refine And.intro (by omega) ?_) | (refine fun (_ : InK _ _) => ?_) | (refine ask_wrap64 (by omega) (by omega) ?_) | (refine ⟨by kernel_rfl, ?_⟩) | fail)
                  conv => whnf
                  exact ⟨(4 - (i + 1)).toNat, (i + 1, b), by omega, ⟨by show 0 ≤ i + 1; omega, by show i + 1 ≤ 4; omega, rfl, keep hn⟩, rfl, ⟨⟨Nat.le_of_ble_eq_true rfl, rfl⟩, ⟨Nat.le_of_ble_eq_true rfl, rfl⟩, ⟨Nat.le_of_ble_eq_true rfl, rfl⟩, trivial⟩, ⟨rfl, rfl, rfl, trivial⟩, rfl, rfl, Nat.zero_le _⟩
        · have i4 : i.toNat = 4 := by omega
          rw [i4] at hbs
          have hsum := hk.sum
          obtain ⟨n, en⟩ : ∃ n, (33 - sumK ks).toNat = n + 1 := ⟨(33 - sumK ks).toNat - 1, by omega⟩
          rw [en, goP_next, ← hbs] at hgo
          rcases Int.lt_or_le b 0 with h3 | h3
          · rw [if_pos h3] at hgo
            rw [← hgo]
            repeat' ((conv => whnf); first | (refine ask_true (by omega) ?_) | (refine ask_false (by omega) ?_) | rfl | fail)
          · rw [if_neg (by omega)] at hgo
            have bp := best_pays ls ks t 4 (by omega)
            rw [← hbs] at bp
            have eb : mulN b.toNat (Tryd.prog.types[3]).size = b.toNat := mulN1 _
            have kb := hk.at' b.toNat
            have ekb : ks.getD (mulN b.toNat (Tryd.prog.types[3]).size) 0 = ks.getD b.toNat 0 := by rw [eb]
            have pe : (if b < 0 then 0 else prS ks b) = prS ks b := if_neg (by omega)
            have p0 : 0 ≤ prS ks b := by
              have := cost_mono (b := b) (k := ks.getD b.toNat 0) (by omega) (by omega)
              unfold prS; omega
            have es : ks.set (mulN b.toNat (Tryd.prog.types[3]).size) (ks.getD (mulN b.toNat (Tryd.prog.types[3]).size) 0 + 1) = ks.set b.toNat (ks.getD b.toNat 0 + 1) := by rw [ekb, eb]
            have ss := sumK_set hk.len (b := b) (by omega)
            repeat' ((conv => whnf); first | (refine ask_true (by omega) ?_) | (refine ask_false (by omega) ?_) | (refine And.intro (by omega) ?_) | (refine fun (_ : InK _ _) => ?_) | (refine ask_wrap64 (by omega) (by omega) ?_) | (refine ⟨by kernel_rfl, ?_⟩) | fail)
            conv => whnf
            refine ⟨n, (ks.set (mulN b.toNat (Tryd.prog.types[3]).size) (ks.getD (mulN b.toNat (Tryd.prog.types[3]).size) 0 + 1), t - (if b < 0 then 0 else prS ks b)), by omega, ⟨?_, ?_, ?_, ?_⟩, rfl, ⟨⟨Nat.le_of_ble_eq_true rfl, rfl⟩, trivial⟩, ⟨rfl, rfl, rfl, trivial⟩, rfl, rfl, Nat.zero_le _⟩
            · show KOk (ks.set (mulN b.toNat (Tryd.prog.types[3]).size) (ks.getD (mulN b.toNat (Tryd.prog.types[3]).size) 0 + 1))
              rw [es]; exact hk.next (by omega) bp.2.1
            · show 0 ≤ t - (if b < 0 then 0 else prS ks b) ∧ t - (if b < 0 then 0 else prS ks b) ≤ 1048576
              omega
            · show n = (33 - sumK (ks.set (mulN b.toNat (Tryd.prog.types[3]).size) (ks.getD (mulN b.toNat (Tryd.prog.types[3]).size) 0 + 1))).toNat
              rw [es, ss]; omega
            · show goP ls n (ks.set (mulN b.toNat (Tryd.prog.types[3]).size) (ks.getD (mulN b.toNat (Tryd.prog.types[3]).size) 0 + 1)) (t - (if b < 0 then 0 else prS ks b)) = _
              rw [es, pe]; exact hgo
  · rw [if_neg hr]
    repeat' ((conv => whnf); first | (refine ask_false hr ?_) | rfl | fail)
end Go.Proofs.YtmkdamfdlkpjdaaDoor
