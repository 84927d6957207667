/- Chapter shape: the law ShapePlays, walked. (Printed by mkl.py.) -/
import Derived.Test.YtmkdamfdlkpjdaaCk
set_option linter.all false
namespace Go.Proofs.Ytmkdamfdlkpjdaa
open Go.RowKit (Below)
set_option maxRecDepth 100000
set_option maxHeartbeats 64000000

def wdB (xs : List Int) (l : Nat) : Nat → Bool
  | 0 => decide (1 ≤ l ∧ l ≤ 8)
  | i + 1 => wdB xs l i && decide (-1048576 ≤ xs.getD i 0) && decide (xs.getD i 0 ≤ 1048576)
theorem wd_next (xs : List Int) (l : Nat) {i : Int} (h : 0 ≤ i) : wdB xs l (i + 1).toNat = (wdB xs l i.toNat && decide (-1048576 ≤ xs.getD i.toNat 0) && decide (xs.getD i.toNat 0 ≤ 1048576)) := by
  rw [show (i + 1).toNat = i.toNat + 1 by omega]; rfl
theorem wd_iff (xs : List Int) (l : Nat) : ∀ i, wdB xs l i = true ↔ (1 ≤ l ∧ l ≤ 8) ∧ ∀ j, j < i → -1048576 ≤ xs.getD j 0 ∧ xs.getD j 0 ≤ 1048576
  | 0 => by
    show decide (1 ≤ l ∧ l ≤ 8) = true ↔ _
    rw [decide_eq_true_iff]
    exact ⟨fun h => ⟨h, fun j hj => absurd hj (Nat.not_lt_zero j)⟩, fun h => h.1⟩
  | i + 1 => by
    show (wdB xs l i && decide (-1048576 ≤ xs.getD i 0) && decide (xs.getD i 0 ≤ 1048576)) = true ↔ _
    rw [Bool.and_eq_true, Bool.and_eq_true, wd_iff xs l i, decide_eq_true_iff, decide_eq_true_iff]
    constructor
    · rintro ⟨⟨⟨h1, h2⟩, h3⟩, h4⟩
      refine ⟨h1, fun j hj => ?_⟩
      rcases Nat.lt_or_ge j i with h | h
      · exact h2 j h
      · obtain rfl : j = i := by omega
        exact ⟨h3, h4⟩
    · rintro ⟨h1, h2⟩
      exact ⟨⟨⟨h1, fun j hj => h2 j (by omega)⟩, (h2 i (by omega)).1⟩, (h2 i (by omega)).2⟩
theorem wd_len {xs : List Int} {l i : Nat} (h : wdB xs l i = true) : 1 ≤ l ∧ l ≤ 8 := ((wd_iff xs l i).1 h).1
theorem wd_right {xs : List Int} {l : Nat} (hl : l ≤ xs.length) {k : Int} : rightC (xs.take l) k ↔ wdB xs l l = true ∧ 0 ≤ k ∧ k ≤ 8 := by
  have lt : (xs.take l).length = l := by simp; omega
  rw [rightC_def, wd_iff, lt]
  constructor
  · rintro ⟨h1, h2, h3⟩
    exact ⟨⟨h1, fun j hj => by rw [← getD_take hj]; exact h3 _ (mem_at (by omega))⟩, h2⟩
  · rintro ⟨⟨h1, h3⟩, h2⟩
    exact ⟨h1, h2, all_of_at fun j hj => by rw [getD_take (by omega)]; exact h3 j (by omega)⟩
def okB (ys : List Int) (b : Bool) : Nat → Bool
  | 0 => b
  | i + 1 => okB ys b i && decide (-8 ≤ ys.getD i 0) && decide (ys.getD i 0 ≤ 8)
theorem ok_next (ys : List Int) (b : Bool) {i : Int} (h : 0 ≤ i) : okB ys b (i + 1).toNat = (okB ys b i.toNat && decide (-8 ≤ ys.getD i.toNat 0) && decide (ys.getD i.toNat 0 ≤ 8)) := by
  rw [show (i + 1).toNat = i.toNat + 1 by omega]; rfl
theorem ok_false (ys : List Int) : ∀ i, okB ys false i = false
  | 0 => rfl
  | i + 1 => by
    show (okB ys false i && _ && _) = false
    rw [ok_false ys i]; rfl
theorem ok_all {ys : List Int} {b : Bool} : ∀ {i : Nat}, true = okB ys b i → ∀ j, j < i → ¬ bad8 (ys.getD j 0)
  | 0, _ => fun j hj => absurd hj (Nat.not_lt_zero j)
  | i + 1, h => by
    have h' : (okB ys b i && decide (-8 ≤ ys.getD i 0) && decide (ys.getD i 0 ≤ 8)) = true := h.symm
    rw [Bool.and_eq_true, Bool.and_eq_true, decide_eq_true_iff, decide_eq_true_iff] at h'
    intro j hj
    rcases Nat.lt_or_ge j i with h2 | h2
    · exact ok_all h'.1.1.symm j h2
    · obtain rfl : j = i := by omega
      intro hb; unfold bad8 at hb; omega

theorem and3_t {p q : Prop} [Decidable p] [Decidable q] (h1 : p) (h2 : q) : true = (true && decide p && decide q) := by rw [decide_eq_true h1, decide_eq_true h2]; rfl
theorem and3_f {p q : Prop} [Decidable p] [Decidable q] (h1 : ¬ p) : false = (true && decide p && decide q) := by rw [decide_eq_false h1]; rfl
theorem and3_g {p q : Prop} [Decidable p] [Decidable q] (h2 : ¬ q) : false = (true && decide p && decide q) := by rw [decide_eq_false h2, Bool.and_false]
noncomputable def FPl : Fns := (((F0.over 16 hFind).plus 15 (ct0 (vb true))).over 17 hRefFind).over 18 hGain
theorem FPl_ok : FnsOk Try.prog FPl := (((F0_ok.over find_ct Try.func16 (by kernel_rfl) (by kernel_rfl)).plus awake_ct Try.func15 (by kernel_rfl) (by kernel_rfl)).over refFind_ct Try.func17 (by kernel_rfl) (by kernel_rfl)).over gain_ct Try.func18 (by kernel_rfl) (by kernel_rfl)
theorem plays_row_nil (zs : List Int) (l : Nat) (hl : l ≤ zs.length) (hc : zs.length ≤ 9223372036854775807) (hx : ∀ z ∈ zs, InK .i64 z) (k : Int) (hk : InK .i64 k) : walk FPl 0 Try.f6 [.c (.csl 0 0 0 l zs.length), i64 k, .c .csn] [.ro [.ints .i64 zs.length zs]] fun y _ => y = vb true := by
  have em : ∀ i : Int, mulN i.toNat (Try.prog.types[3]).size = i.toNat := fun i => mulN1 _
  by_cases big : 40 < l
  · repeat' ((conv => whnf); first | (refine ask_true (by omega) ?_) | (refine ask_false (by omega) ?_) | (refine ask_true (by decide) ?_) | rfl | fail)
  have hw0 : ∀ b : Bool, b = decide (1 ≤ l ∧ l ≤ 8) → b = wdB zs l (Int.toNat 0) := fun b h => h
  rcases Nat.lt_or_ge l 1 with hl1 | hl1
  · repeat' ((conv => whnf); first | (refine ask_true (by omega) ?_) | (refine ask_false (by omega) ?_) | fail)
    conv => whnf
    refine loop_at2 (7 :: 8 :: List.range' 41 21) (fun m (i : Int) (b : Bool) => 0 ≤ i ∧ i ≤ l ∧ b = wdB zs l i.toNat ∧ m = (l - i).toNat) (fun i b => [(7, vb b), (8, vi i)]) (fun _ _ => [.ro [.ints .i64 zs.length zs]]) l 0 false ⟨by decide, by omega, hw0 _ (by rw [decide_eq_false (by omega)]), by omega⟩ ?_ ?_
    · exact ⟨rfl, ⟨⟨Nat.le_of_ble_eq_true rfl, rfl⟩, ⟨Nat.le_of_ble_eq_true rfl, rfl⟩, trivial⟩, ⟨rfl, trivial⟩, rfl, rfl, Nat.le_of_ble_eq_true rfl⟩
    · rintro _ i b ⟨i0, i1, hb, rfl⟩
      have ei := em i
      rcases Int.lt_or_le i l with i2 | i2
      · have xat : zs.getD (0 + mulN i.toNat (Try.prog.types[3]).size) 0 = zs.getD i.toNat 0 := by rw [em, Nat.zero_add]
        have on := wd_next zs l i0
        rw [← hb] at on
        cases b
        · repeat' ((conv => whnf); first | (refine ask_true (by omega) ?_) | (refine ask_false (by omega) ?_) | (refine And.intro (by omega) ?_) | (refine fun (_ : InK _ _) => ?_) | (refine ask_wrap64 (by omega) (by omega) ?_) | (refine ⟨by kernel_rfl, ?_⟩) | fail)
          conv => whnf
          refine ⟨(l - (i + 1)).toNat, (i + 1, false), by omega, ⟨by show 0 ≤ i + 1; omega, by show i + 1 ≤ (l : Int); omega, ?_, rfl⟩, rfl, ⟨⟨Nat.le_of_ble_eq_true rfl, rfl⟩, ⟨Nat.le_of_ble_eq_true rfl, rfl⟩, trivial⟩, ⟨rfl, trivial⟩, rfl, rfl, Nat.le_of_ble_eq_true rfl⟩
          show false = _; rw [on]; rfl
        · exact absurd (wd_len hb.symm) (by omega)
      · rw [show i.toNat = l by omega] at hb
        cases b
        · have hn0 : ¬ rightC (zs.take l) 0 := fun h => by rw [wd_right hl, ← hb] at h; cases h.1
          have hnk : ¬ rightC (zs.take l) k := fun h => by rw [wd_right hl, ← hb] at h; cases h.1
          repeat' ((conv => whnf); first | (refine And.intro ⟨rfl, rfl⟩ ?_) | (refine And.intro rfl ?_) | (refine And.intro (fun _ => ?_) (fun h => absurd h hnk)) | (refine ask_true (by omega) ?_) | (refine ask_false (by omega) ?_) | (refine ask_true (by decide) ?_) | (refine ask_false (by decide) ?_) | fail)
          repeat' ((conv => whnf); first | (refine And.intro ⟨rfl, rfl⟩ ?_) | (refine And.intro rfl ?_) | (refine ask_true (by omega) ?_) | (refine ask_false (by omega) ?_) | fail)
          conv => whnf
          refine loop_at (15 :: 16 :: List.range' 126 21) (fun m (i : Int) => i = 0 ∧ m = 0) (fun i => [(15, vb false), (16, vi i)]) (fun _ => [.ro [.ints .i64 zs.length zs]]) 0 0 ⟨rfl, rfl⟩ ?_ ?_
          · exact ⟨rfl, ⟨⟨Nat.le_of_ble_eq_true rfl, rfl⟩, ⟨Nat.le_of_ble_eq_true rfl, rfl⟩, trivial⟩, ⟨rfl, trivial⟩, rfl, rfl, Nat.le_of_ble_eq_true rfl⟩
          · rintro m i ⟨rfl, rfl⟩
            repeat' ((conv => whnf); first | (refine ask_true (by omega) ?_) | (refine ask_false (by omega) ?_) | (refine ask_true (by decide) ?_) | (refine ask_false (by decide) ?_) | rfl | fail)
        · have := (wd_len hb.symm); omega
  · rcases Nat.lt_or_ge 8 l with hl8 | hl8
    · repeat' ((conv => whnf); first | (refine ask_true (by omega) ?_) | (refine ask_false (by omega) ?_) | fail)
      conv => whnf
      refine loop_at2 (7 :: 8 :: List.range' 41 21) (fun m (i : Int) (b : Bool) => 0 ≤ i ∧ i ≤ l ∧ b = wdB zs l i.toNat ∧ m = (l - i).toNat) (fun i b => [(7, vb b), (8, vi i)]) (fun _ _ => [.ro [.ints .i64 zs.length zs]]) l 0 false ⟨by decide, by omega, hw0 _ (by rw [decide_eq_false (by omega)]), by omega⟩ ?_ ?_
      · exact ⟨rfl, ⟨⟨Nat.le_of_ble_eq_true rfl, rfl⟩, ⟨Nat.le_of_ble_eq_true rfl, rfl⟩, trivial⟩, ⟨rfl, trivial⟩, rfl, rfl, Nat.le_of_ble_eq_true rfl⟩
      · rintro _ i b ⟨i0, i1, hb, rfl⟩
        have ei := em i
        rcases Int.lt_or_le i l with i2 | i2
        · have xat : zs.getD (0 + mulN i.toNat (Try.prog.types[3]).size) 0 = zs.getD i.toNat 0 := by rw [em, Nat.zero_add]
          have on := wd_next zs l i0
          rw [← hb] at on
          cases b
          · repeat' ((conv => whnf); first | (refine ask_true (by omega) ?_) | (refine ask_false (by omega) ?_) | (refine And.intro (by omega) ?_) | (refine fun (_ : InK _ _) => ?_) | (refine ask_wrap64 (by omega) (by omega) ?_) | (refine ⟨by kernel_rfl, ?_⟩) | fail)
            conv => whnf
            refine ⟨(l - (i + 1)).toNat, (i + 1, false), by omega, ⟨by show 0 ≤ i + 1; omega, by show i + 1 ≤ (l : Int); omega, ?_, rfl⟩, rfl, ⟨⟨Nat.le_of_ble_eq_true rfl, rfl⟩, ⟨Nat.le_of_ble_eq_true rfl, rfl⟩, trivial⟩, ⟨rfl, trivial⟩, rfl, rfl, Nat.le_of_ble_eq_true rfl⟩
            show false = _; rw [on]; rfl
          · exact absurd (wd_len hb.symm) (by omega)
        · rw [show i.toNat = l by omega] at hb
          cases b
          · have hn0 : ¬ rightC (zs.take l) 0 := fun h => by rw [wd_right hl, ← hb] at h; cases h.1
            have hnk : ¬ rightC (zs.take l) k := fun h => by rw [wd_right hl, ← hb] at h; cases h.1
            repeat' ((conv => whnf); first | (refine And.intro ⟨rfl, rfl⟩ ?_) | (refine And.intro rfl ?_) | (refine And.intro (fun _ => ?_) (fun h => absurd h hnk)) | (refine ask_true (by omega) ?_) | (refine ask_false (by omega) ?_) | (refine ask_true (by decide) ?_) | (refine ask_false (by decide) ?_) | fail)
            repeat' ((conv => whnf); first | (refine And.intro ⟨rfl, rfl⟩ ?_) | (refine And.intro rfl ?_) | (refine ask_true (by omega) ?_) | (refine ask_false (by omega) ?_) | fail)
            conv => whnf
            refine loop_at (15 :: 16 :: List.range' 126 21) (fun m (i : Int) => i = 0 ∧ m = 0) (fun i => [(15, vb false), (16, vi i)]) (fun _ => [.ro [.ints .i64 zs.length zs]]) 0 0 ⟨rfl, rfl⟩ ?_ ?_
            · exact ⟨rfl, ⟨⟨Nat.le_of_ble_eq_true rfl, rfl⟩, ⟨Nat.le_of_ble_eq_true rfl, rfl⟩, trivial⟩, ⟨rfl, trivial⟩, rfl, rfl, Nat.le_of_ble_eq_true rfl⟩
            · rintro m i ⟨rfl, rfl⟩
              repeat' ((conv => whnf); first | (refine ask_true (by omega) ?_) | (refine ask_false (by omega) ?_) | (refine ask_true (by decide) ?_) | (refine ask_false (by decide) ?_) | rfl | fail)
          · have := (wd_len hb.symm); omega
    · repeat' ((conv => whnf); first | (refine ask_true (by omega) ?_) | (refine ask_false (by omega) ?_) | fail)
      conv => whnf
      refine loop_at2 (7 :: 8 :: List.range' 41 21) (fun m (i : Int) (b : Bool) => 0 ≤ i ∧ i ≤ l ∧ b = wdB zs l i.toNat ∧ m = (l - i).toNat) (fun i b => [(7, vb b), (8, vi i)]) (fun _ _ => [.ro [.ints .i64 zs.length zs]]) l 0 true ⟨by decide, by omega, hw0 _ (by rw [decide_eq_true ⟨hl1, hl8⟩]), by omega⟩ ?_ ?_
      · exact ⟨rfl, ⟨⟨Nat.le_of_ble_eq_true rfl, rfl⟩, ⟨Nat.le_of_ble_eq_true rfl, rfl⟩, trivial⟩, ⟨rfl, trivial⟩, rfl, rfl, Nat.le_of_ble_eq_true rfl⟩
      · rintro _ i b ⟨i0, i1, hb, rfl⟩
        have ei := em i
        rcases Int.lt_or_le i l with i2 | i2
        · have xat : zs.getD (0 + mulN i.toNat (Try.prog.types[3]).size) 0 = zs.getD i.toNat 0 := by rw [em, Nat.zero_add]
          have on := wd_next zs l i0
          rw [← hb] at on
          cases b
          · repeat' ((conv => whnf); first | (refine ask_true (by omega) ?_) | (refine ask_false (by omega) ?_) | (refine And.intro (by omega) ?_) | (refine fun (_ : InK _ _) => ?_) | (refine ask_wrap64 (by omega) (by omega) ?_) | (refine ⟨by kernel_rfl, ?_⟩) | fail)
            conv => whnf
            refine ⟨(l - (i + 1)).toNat, (i + 1, false), by omega, ⟨by show 0 ≤ i + 1; omega, by show i + 1 ≤ (l : Int); omega, ?_, rfl⟩, rfl, ⟨⟨Nat.le_of_ble_eq_true rfl, rfl⟩, ⟨Nat.le_of_ble_eq_true rfl, rfl⟩, trivial⟩, ⟨rfl, trivial⟩, rfl, rfl, Nat.le_of_ble_eq_true rfl⟩
            show false = _; rw [on]; rfl
          · repeat' ((conv => whnf); first | (refine ask_true (by omega) ?_) | (refine And.intro (by omega) ?_) | (refine fun (_ : InK _ _) => ?_) | (refine ask_wrap64 (by omega) (by omega) ?_) | (refine ⟨by kernel_rfl, ?_⟩) | fail)
            conv => whnf
            refine ask_split (fun hs => ?_) (fun hs => ?_)
            · repeat' ((conv => whnf); first | (refine And.intro (by omega) ?_) | (refine fun (_ : InK _ _) => ?_) | (refine ask_wrap64 (by omega) (by omega) ?_) | (refine ⟨by kernel_rfl, ?_⟩) | fail)
              conv => whnf
              refine ask_split (fun hs2 => ?_) (fun hs2 => ?_)
              · repeat' ((conv => whnf); first | (refine And.intro (by omega) ?_) | (refine fun (_ : InK _ _) => ?_) | (refine ask_wrap64 (by omega) (by omega) ?_) | (refine ⟨by kernel_rfl, ?_⟩) | fail)
                conv => whnf
                refine ⟨(l - (i + 1)).toNat, (i + 1, true), by omega, ⟨by show 0 ≤ i + 1; omega, by show i + 1 ≤ (l : Int); omega, ?_, rfl⟩, rfl, ⟨⟨Nat.le_of_ble_eq_true rfl, rfl⟩, ⟨Nat.le_of_ble_eq_true rfl, rfl⟩, trivial⟩, ⟨rfl, trivial⟩, rfl, rfl, Nat.le_of_ble_eq_true rfl⟩
                show true = _; rw [on]; rw [xat] at hs hs2; exact and3_t hs hs2
              · repeat' ((conv => whnf); first | (refine And.intro (by omega) ?_) | (refine fun (_ : InK _ _) => ?_) | (refine ask_wrap64 (by omega) (by omega) ?_) | (refine ⟨by kernel_rfl, ?_⟩) | fail)
                conv => whnf
                refine ⟨(l - (i + 1)).toNat, (i + 1, false), by omega, ⟨by show 0 ≤ i + 1; omega, by show i + 1 ≤ (l : Int); omega, ?_, rfl⟩, rfl, ⟨⟨Nat.le_of_ble_eq_true rfl, rfl⟩, ⟨Nat.le_of_ble_eq_true rfl, rfl⟩, trivial⟩, ⟨rfl, trivial⟩, rfl, rfl, Nat.le_of_ble_eq_true rfl⟩
                show false = _; rw [on]; rw [xat] at hs hs2; exact and3_g hs2
            · repeat' ((conv => whnf); first | (refine ask_true (by omega) ?_) | (refine ask_false (by omega) ?_) | (refine And.intro (by omega) ?_) | (refine fun (_ : InK _ _) => ?_) | (refine ask_wrap64 (by omega) (by omega) ?_) | (refine ⟨by kernel_rfl, ?_⟩) | fail)
              conv => whnf
              refine ⟨(l - (i + 1)).toNat, (i + 1, false), by omega, ⟨by show 0 ≤ i + 1; omega, by show i + 1 ≤ (l : Int); omega, ?_, rfl⟩, rfl, ⟨⟨Nat.le_of_ble_eq_true rfl, rfl⟩, ⟨Nat.le_of_ble_eq_true rfl, rfl⟩, trivial⟩, ⟨rfl, trivial⟩, rfl, rfl, Nat.le_of_ble_eq_true rfl⟩
              show false = _; rw [on]; rw [xat] at hs; exact and3_f hs
        · rw [show i.toNat = l by omega] at hb
          cases b
          · have hn0 : ¬ rightC (zs.take l) 0 := fun h => by rw [wd_right hl, ← hb] at h; cases h.1
            have hnk : ¬ rightC (zs.take l) k := fun h => by rw [wd_right hl, ← hb] at h; cases h.1
            repeat' ((conv => whnf); first | (refine And.intro ⟨rfl, rfl⟩ ?_) | (refine And.intro rfl ?_) | (refine And.intro (fun _ => ?_) (fun h => absurd h hnk)) | (refine ask_true (by omega) ?_) | (refine ask_false (by omega) ?_) | (refine ask_true (by decide) ?_) | (refine ask_false (by decide) ?_) | fail)
            repeat' ((conv => whnf); first | (refine And.intro ⟨rfl, rfl⟩ ?_) | (refine And.intro rfl ?_) | (refine ask_true (by omega) ?_) | (refine ask_false (by omega) ?_) | fail)
            conv => whnf
            refine loop_at (15 :: 16 :: List.range' 126 21) (fun m (i : Int) => i = 0 ∧ m = 0) (fun i => [(15, vb false), (16, vi i)]) (fun _ => [.ro [.ints .i64 zs.length zs]]) 0 0 ⟨rfl, rfl⟩ ?_ ?_
            · exact ⟨rfl, ⟨⟨Nat.le_of_ble_eq_true rfl, rfl⟩, ⟨Nat.le_of_ble_eq_true rfl, rfl⟩, trivial⟩, ⟨rfl, trivial⟩, rfl, rfl, Nat.le_of_ble_eq_true rfl⟩
            · rintro m i ⟨rfl, rfl⟩
              repeat' ((conv => whnf); first | (refine ask_true (by omega) ?_) | (refine ask_false (by omega) ?_) | (refine ask_true (by decide) ?_) | (refine ask_false (by decide) ?_) | rfl | fail)
          · have hr0 : rightC (zs.take l) 0 := by rw [wd_right hl]; exact ⟨hb.symm, by decide⟩
            have hx20 : ∀ j, j < l → -1048576 ≤ zs.getD j 0 ∧ zs.getD j 0 ≤ 1048576 := fun j hj => by rw [← getD_take hj]; exact right_in hr0 j
            by_cases hkk : 0 ≤ k ∧ k ≤ 8
            · have hrk : rightC (zs.take l) k := by rw [wd_right hl]; exact ⟨hb.symm, hkk⟩
              repeat' ((conv => whnf); first | (refine And.intro ⟨rfl, rfl⟩ ?_) | (refine And.intro rfl ?_) | (refine And.intro (fun h => absurd hrk h) (fun _ => ?_)) | (refine And.intro hrk ?_) | (refine ask_true (by omega) ?_) | (refine ask_false (by omega) ?_) | (refine ask_true (by decide) ?_) | (refine ask_false (by decide) ?_) | fail)
              conv => whnf
              obtain ⟨Z, hZ⟩ : ∃ Z, Z = findZ (zs.take l) l k.toNat := ⟨_, rfl⟩
              rw [← hZ]
              refine loop_at (12 :: List.range' 88 22) (fun m (i : Int) => 0 ≤ i ∧ i ≤ l ∧ m = (l - i).toNat) (fun i => [(12, vi i)]) (fun _ => [.ro [.ints .i64 zs.length zs], .own 3 [.ints .i64 l Z], .own 3 [.ints .i64 l Z]]) l 0 ⟨by decide, by omega, by omega⟩ ?_ ?_
              · exact ⟨rfl, ⟨⟨Nat.le_of_ble_eq_true rfl, rfl⟩, trivial⟩, ⟨rfl, rfl, rfl, trivial⟩, rfl, rfl, Nat.le_of_ble_eq_true rfl⟩
              · rintro _ i ⟨i0, i1, rfl⟩
                have ei := em i
                rcases Int.lt_or_le i l with i2 | i2
                · repeat' ((conv => whnf); first | (refine ask_true (by omega) ?_) | (refine ask_false (by omega) ?_) | (refine And.intro (by omega) ?_) | (refine fun (_ : InK _ _) => ?_) | (refine ask_wrap64 (by omega) (by omega) ?_) | (refine ⟨by kernel_rfl, ?_⟩) | fail)
                  conv => whnf
                  exact ⟨(l - (i + 1)).toNat, i + 1, by omega, ⟨by omega, by omega, rfl⟩, rfl, ⟨⟨Nat.le_of_ble_eq_true rfl, rfl⟩, trivial⟩, ⟨rfl, rfl, rfl, trivial⟩, rfl, rfl, Nat.le_of_ble_eq_true rfl⟩
                · repeat' ((conv => whnf); first | (refine ask_true (by omega) ?_) | (refine ask_false (by omega) ?_) | (refine ask_true (by decide) ?_) | (refine ask_false (by decide) ?_) | fail)
                  repeat' ((conv => whnf); first | (refine And.intro ⟨rfl, rfl⟩ ?_) | (refine And.intro rfl ?_) | (refine ask_true (by omega) ?_) | (refine ask_false (by omega) ?_) | fail)
                  conv => whnf
                  refine loop_at (15 :: 16 :: List.range' 126 21) (fun m (i : Int) => i = 0 ∧ m = 0) (fun i => [(15, vb false), (16, vi i)]) (fun _ => [.ro [.ints .i64 zs.length zs], .own 3 [.ints .i64 l Z], .own 3 [.ints .i64 l Z]]) 0 0 ⟨rfl, rfl⟩ ?_ ?_
                  · exact ⟨rfl, ⟨⟨Nat.le_of_ble_eq_true rfl, rfl⟩, ⟨Nat.le_of_ble_eq_true rfl, rfl⟩, trivial⟩, ⟨rfl, rfl, rfl, trivial⟩, rfl, rfl, Nat.le_of_ble_eq_true rfl⟩
                  · rintro m i ⟨rfl, rfl⟩
                    repeat' ((conv => whnf); first | (refine ask_true (by omega) ?_) | (refine ask_false (by omega) ?_) | (refine ask_true (by decide) ?_) | (refine ask_false (by decide) ?_) | rfl | fail)
            · have hnk : ¬ rightC (zs.take l) k := fun h => by rw [wd_right hl] at h; exact hkk h.2
              rcases Int.lt_or_le k 0 with hk0 | hk0
              · repeat' ((conv => whnf); first | (refine And.intro ⟨rfl, rfl⟩ ?_) | (refine And.intro rfl ?_) | (refine And.intro (fun _ => ?_) (fun h => absurd h hnk)) | (refine ask_true (by omega) ?_) | (refine ask_false (by omega) ?_) | (refine ask_true (by decide) ?_) | (refine ask_false (by decide) ?_) | fail)
                repeat' ((conv => whnf); first | (refine And.intro ⟨rfl, rfl⟩ ?_) | (refine And.intro rfl ?_) | (refine ask_true (by omega) ?_) | (refine ask_false (by omega) ?_) | fail)
                conv => whnf
                refine loop_at (15 :: 16 :: List.range' 126 21) (fun m (i : Int) => i = 0 ∧ m = 0) (fun i => [(15, vb false), (16, vi i)]) (fun _ => [.ro [.ints .i64 zs.length zs]]) 0 0 ⟨rfl, rfl⟩ ?_ ?_
                · exact ⟨rfl, ⟨⟨Nat.le_of_ble_eq_true rfl, rfl⟩, ⟨Nat.le_of_ble_eq_true rfl, rfl⟩, trivial⟩, ⟨rfl, trivial⟩, rfl, rfl, Nat.le_of_ble_eq_true rfl⟩
                · rintro m i ⟨rfl, rfl⟩
                  repeat' ((conv => whnf); first | (refine ask_true (by omega) ?_) | (refine ask_false (by omega) ?_) | (refine ask_true (by decide) ?_) | (refine ask_false (by decide) ?_) | rfl | fail)
              · repeat' ((conv => whnf); first | (refine And.intro ⟨rfl, rfl⟩ ?_) | (refine And.intro rfl ?_) | (refine And.intro (fun _ => ?_) (fun h => absurd h hnk)) | (refine ask_true (by omega) ?_) | (refine ask_false (by omega) ?_) | (refine ask_true (by decide) ?_) | (refine ask_false (by decide) ?_) | fail)
                repeat' ((conv => whnf); first | (refine And.intro ⟨rfl, rfl⟩ ?_) | (refine And.intro rfl ?_) | (refine ask_true (by omega) ?_) | (refine ask_false (by omega) ?_) | fail)
                conv => whnf
                refine loop_at (15 :: 16 :: List.range' 126 21) (fun m (i : Int) => i = 0 ∧ m = 0) (fun i => [(15, vb false), (16, vi i)]) (fun _ => [.ro [.ints .i64 zs.length zs]]) 0 0 ⟨rfl, rfl⟩ ?_ ?_
                · exact ⟨rfl, ⟨⟨Nat.le_of_ble_eq_true rfl, rfl⟩, ⟨Nat.le_of_ble_eq_true rfl, rfl⟩, trivial⟩, ⟨rfl, trivial⟩, rfl, rfl, Nat.le_of_ble_eq_true rfl⟩
                · rintro m i ⟨rfl, rfl⟩
                  repeat' ((conv => whnf); first | (refine ask_true (by omega) ?_) | (refine ask_false (by omega) ?_) | (refine ask_true (by decide) ?_) | (refine ask_false (by decide) ?_) | rfl | fail)
end Go.Proofs.Ytmkdamfdlkpjdaa
