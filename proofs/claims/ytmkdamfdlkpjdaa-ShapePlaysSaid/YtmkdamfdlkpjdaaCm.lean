/- Chapter shape: the law ShapePlays, walked: with a row. (Printed by mkl.py.) -/
import Derived.Test.YtmkdamfdlkpjdaaCl
set_option linter.all false
namespace Go.Proofs.Ytmkdamfdlkpjdaa
open Go.RowKit (Below)
set_option maxRecDepth 100000
set_option maxHeartbeats 64000000
theorem plays_row (zs : List Int) (l : Nat) (hl : l ≤ zs.length) (hc : zs.length ≤ 9223372036854775807) (hx : ∀ z ∈ zs, InK .i64 z) (k : Int) (hk : InK .i64 k) (ys : List Int) (m : Nat) (hm : m ≤ ys.length) (hc' : ys.length ≤ 9223372036854775807) (hy : ∀ z ∈ ys, InK .i64 z) : walk FPl 0 Try.f6 [.c (.csl 0 0 0 l zs.length), i64 k, .c (.csl 1 0 0 m ys.length)] [.ro [.ints .i64 zs.length zs], .ro [.ints .i64 ys.length ys]] fun y _ => y = vb true := by
  have em : ∀ i : Int, mulN i.toNat (Try.prog.types[3]).size = i.toNat := fun i => mulN1 _
  by_cases big : 40 < l
  · repeat' ((conv => whnf); first | (refine ask_true (by omega) ?_) | (refine ask_false (by omega) ?_) | (refine ask_true (by decide) ?_) | rfl | fail)
  by_cases big' : 40 < m
  · repeat' ((conv => whnf); first | (refine ask_true (by omega) ?_) | (refine ask_false (by omega) ?_) | rfl | fail)
  have hw0 : ∀ b : Bool, b = decide (1 ≤ l ∧ l ≤ 8) → b = wdB zs l (Int.toNat 0) := fun b h => h
  rcases Nat.lt_or_ge l 1 with hl1 | hl1
  · repeat' ((conv => whnf); first | (refine ask_true (by omega) ?_) | (refine ask_false (by omega) ?_) | fail)
    conv => whnf
    refine loop_at2 (7 :: 8 :: List.range' 41 21) (fun m (i : Int) (b : Bool) => 0 ≤ i ∧ i ≤ l ∧ b = wdB zs l i.toNat ∧ m = (l - i).toNat) (fun i b => [(7, vb b), (8, vi i)]) (fun _ _ => [.ro [.ints .i64 zs.length zs], .ro [.ints .i64 ys.length ys]]) l 0 false ⟨by decide, by omega, hw0 _ (by rw [decide_eq_false (by omega)]), by omega⟩ ?_ ?_
    · exact ⟨rfl, ⟨⟨Nat.le_of_ble_eq_true rfl, rfl⟩, ⟨Nat.le_of_ble_eq_true rfl, rfl⟩, trivial⟩, ⟨rfl, rfl, trivial⟩, rfl, rfl, Nat.le_of_ble_eq_true rfl⟩
    · rintro _ i b ⟨i0, i1, hb, rfl⟩
      have ei := em i
      rcases Int.lt_or_le i l with i2 | i2
      · have xat : zs.getD (0 + mulN i.toNat (Try.prog.types[3]).size) 0 = zs.getD i.toNat 0 := by rw [em, Nat.zero_add]
        have on := wd_next zs l i0
        rw [← hb] at on
        cases b
        · repeat' ((conv => whnf); first | (refine ask_true (by omega) ?_) | (refine ask_false (by omega) ?_) | (refine And.intro (by omega) ?_) | (refine fun (_ : InK _ _) => ?_) | (refine ask_wrap64 (by omega) (by omega) ?_) | (refine ⟨by kernel_rfl, ?_⟩) | fail)
          conv => whnf
          refine ⟨(l - (i + 1)).toNat, (i + 1, false), by omega, ⟨by show 0 ≤ i + 1; omega, by show i + 1 ≤ (l : Int); omega, ?_, rfl⟩, rfl, ⟨⟨Nat.le_of_ble_eq_true rfl, rfl⟩, ⟨Nat.le_of_ble_eq_true rfl, rfl⟩, trivial⟩, ⟨rfl, rfl, trivial⟩, rfl, rfl, Nat.le_of_ble_eq_true rfl⟩
          show false = _; rw [on]; rfl
        · exact absurd (wd_len hb.symm) (by omega)
      · rw [show i.toNat = l by omega] at hb
        cases b
        · have hn0 : ¬ rightC (zs.take l) 0 := fun h => by rw [wd_right hl, ← hb] at h; cases h.1
          have hnk : ¬ rightC (zs.take l) k := fun h => by rw [wd_right hl, ← hb] at h; cases h.1
          repeat' ((conv => whnf); first | (refine And.intro ⟨rfl, rfl⟩ ?_) | (refine And.intro rfl ?_) | (refine And.intro (fun _ => ?_) (fun h => absurd h hnk)) | (refine ask_true (by omega) ?_) | (refine ask_false (by omega) ?_) | (refine ask_true (by decide) ?_) | (refine ask_false (by decide) ?_) | fail)
          have hg : ¬ goodC zs ys l m := fun hg => by rw [goodC_def] at hg; exact hn0 hg.1
          repeat' ((conv => whnf); first | (refine And.intro ⟨rfl, rfl⟩ ?_) | (refine And.intro rfl ?_) | (refine And.intro (fun h => absurd h hg) (fun _ => ?_)) | (refine ask_true (by omega) ?_) | (refine ask_false (by omega) ?_) | fail)
          conv => whnf
          refine loop_at2 (15 :: 16 :: List.range' 126 21) (fun k (i : Int) (b : Bool) => 0 ≤ i ∧ i ≤ m ∧ b = okB ys false i.toNat ∧ k = (m - i).toNat) (fun i b => [(15, vb b), (16, vi i)]) (fun _ _ => [.ro [.ints .i64 zs.length zs], .ro [.ints .i64 ys.length ys]]) m 0 false ⟨by decide, by omega, rfl, by omega⟩ ?_ ?_
          · exact ⟨rfl, ⟨⟨Nat.le_of_ble_eq_true rfl, rfl⟩, ⟨Nat.le_of_ble_eq_true rfl, rfl⟩, trivial⟩, ⟨rfl, rfl, trivial⟩, rfl, rfl, Nat.le_of_ble_eq_true rfl⟩
          · rintro _ i b ⟨i0, i1, hb, rfl⟩
            have ei := em i
            rcases Int.lt_or_le i m with i2 | i2
            · have yat : ys.getD (0 + mulN i.toNat (Try.prog.types[3]).size) 0 = ys.getD i.toNat 0 := by rw [em, Nat.zero_add]
              have on := ok_next ys false i0
              rw [← hb] at on
              cases b
              · repeat' ((conv => whnf); first | (refine ask_true (by omega) ?_) | (refine ask_false (by omega) ?_) | (refine And.intro (by omega) ?_) | (refine fun (_ : InK _ _) => ?_) | (refine ask_wrap64 (by omega) (by omega) ?_) | (refine ⟨by kernel_rfl, ?_⟩) | fail)
                conv => whnf
                refine ⟨(m - (i + 1)).toNat, (i + 1, false), by omega, ⟨by show 0 ≤ i + 1; omega, by show i + 1 ≤ (m : Int); omega, ?_, rfl⟩, rfl, ⟨⟨Nat.le_of_ble_eq_true rfl, rfl⟩, ⟨Nat.le_of_ble_eq_true rfl, rfl⟩, trivial⟩, ⟨rfl, rfl, trivial⟩, rfl, rfl, Nat.le_of_ble_eq_true rfl⟩
                show false = _; rw [on]; rfl
              · repeat' ((conv => whnf); first | (refine ask_true (by omega) ?_) | (refine And.intro (by omega) ?_) | (refine fun (_ : InK _ _) => ?_) | (refine ask_wrap64 (by omega) (by omega) ?_) | (refine ⟨by kernel_rfl, ?_⟩) | fail)
                conv => whnf
                refine ask_split (fun hs => ?_) (fun hs => ?_)
                · repeat' ((conv => whnf); first | (refine And.intro (by omega) ?_) | (refine fun (_ : InK _ _) => ?_) | (refine ask_wrap64 (by omega) (by omega) ?_) | (refine ⟨by kernel_rfl, ?_⟩) | fail)
                  conv => whnf
                  refine ask_split (fun hs2 => ?_) (fun hs2 => ?_)
                  · repeat' ((conv => whnf); first | (refine And.intro (by omega) ?_) | (refine fun (_ : InK _ _) => ?_) | (refine ask_wrap64 (by omega) (by omega) ?_) | (refine ⟨by kernel_rfl, ?_⟩) | fail)
                    conv => whnf
                    refine ⟨(m - (i + 1)).toNat, (i + 1, true), by omega, ⟨by show 0 ≤ i + 1; omega, by show i + 1 ≤ (m : Int); omega, ?_, rfl⟩, rfl, ⟨⟨Nat.le_of_ble_eq_true rfl, rfl⟩, ⟨Nat.le_of_ble_eq_true rfl, rfl⟩, trivial⟩, ⟨rfl, rfl, trivial⟩, rfl, rfl, Nat.le_of_ble_eq_true rfl⟩
                    show true = _; rw [on]; rw [yat] at hs hs2; exact and3_t hs hs2
                  · repeat' ((conv => whnf); first | (refine And.intro (by omega) ?_) | (refine fun (_ : InK _ _) => ?_) | (refine ask_wrap64 (by omega) (by omega) ?_) | (refine ⟨by kernel_rfl, ?_⟩) | fail)
                    conv => whnf
                    refine ⟨(m - (i + 1)).toNat, (i + 1, false), by omega, ⟨by show 0 ≤ i + 1; omega, by show i + 1 ≤ (m : Int); omega, ?_, rfl⟩, rfl, ⟨⟨Nat.le_of_ble_eq_true rfl, rfl⟩, ⟨Nat.le_of_ble_eq_true rfl, rfl⟩, trivial⟩, ⟨rfl, rfl, trivial⟩, rfl, rfl, Nat.le_of_ble_eq_true rfl⟩
                    show false = _; rw [on]; rw [yat] at hs hs2; exact and3_g hs2
                · repeat' ((conv => whnf); first | (refine ask_true (by omega) ?_) | (refine ask_false (by omega) ?_) | (refine And.intro (by omega) ?_) | (refine fun (_ : InK _ _) => ?_) | (refine ask_wrap64 (by omega) (by omega) ?_) | (refine ⟨by kernel_rfl, ?_⟩) | fail)
                  conv => whnf
                  refine ⟨(m - (i + 1)).toNat, (i + 1, false), by omega, ⟨by show 0 ≤ i + 1; omega, by show i + 1 ≤ (m : Int); omega, ?_, rfl⟩, rfl, ⟨⟨Nat.le_of_ble_eq_true rfl, rfl⟩, ⟨Nat.le_of_ble_eq_true rfl, rfl⟩, trivial⟩, ⟨rfl, rfl, trivial⟩, rfl, rfl, Nat.le_of_ble_eq_true rfl⟩
                  show false = _; rw [on]; rw [yat] at hs; exact and3_f hs
            · cases b
              · repeat' ((conv => whnf); first | (refine ask_true (by omega) ?_) | (refine ask_false (by omega) ?_) | (refine ask_true (by decide) ?_) | rfl | fail)
              · exact absurd hb (by rw [ok_false]; decide)
        · have := (wd_len hb.symm); omega
  · rcases Nat.lt_or_ge 8 l with hl8 | hl8
    · repeat' ((conv => whnf); first | (refine ask_true (by omega) ?_) | (refine ask_false (by omega) ?_) | fail)
      conv => whnf
      refine loop_at2 (7 :: 8 :: List.range' 41 21) (fun m (i : Int) (b : Bool) => 0 ≤ i ∧ i ≤ l ∧ b = wdB zs l i.toNat ∧ m = (l - i).toNat) (fun i b => [(7, vb b), (8, vi i)]) (fun _ _ => [.ro [.ints .i64 zs.length zs], .ro [.ints .i64 ys.length ys]]) l 0 false ⟨by decide, by omega, hw0 _ (by rw [decide_eq_false (by omega)]), by omega⟩ ?_ ?_
      · exact ⟨rfl, ⟨⟨Nat.le_of_ble_eq_true rfl, rfl⟩, ⟨Nat.le_of_ble_eq_true rfl, rfl⟩, trivial⟩, ⟨rfl, rfl, trivial⟩, rfl, rfl, Nat.le_of_ble_eq_true rfl⟩
      · rintro _ i b ⟨i0, i1, hb, rfl⟩
        have ei := em i
        rcases Int.lt_or_le i l with i2 | i2
        · have xat : zs.getD (0 + mulN i.toNat (Try.prog.types[3]).size) 0 = zs.getD i.toNat 0 := by rw [em, Nat.zero_add]
          have on := wd_next zs l i0
          rw [← hb] at on
          cases b
          · repeat' ((conv => whnf); first | (refine ask_true (by omega) ?_) | (refine ask_false (by omega) ?_) | (refine And.intro (by omega) ?_) | (refine fun (_ : InK _ _) => ?_) | (refine ask_wrap64 (by omega) (by omega) ?_) | (refine ⟨by kernel_rfl, ?_⟩) | fail)
            conv => whnf
            refine ⟨(l - (i + 1)).toNat, (i + 1, false), by omega, ⟨by show 0 ≤ i + 1; omega, by show i + 1 ≤ (l : Int); omega, ?_, rfl⟩, rfl, ⟨⟨Nat.le_of_ble_eq_true rfl, rfl⟩, ⟨Nat.le_of_ble_eq_true rfl, rfl⟩, trivial⟩, ⟨rfl, rfl, trivial⟩, rfl, rfl, Nat.le_of_ble_eq_true rfl⟩
            show false = _; rw [on]; rfl
          · exact absurd (wd_len hb.symm) (by omega)
        · rw [show i.toNat = l by omega] at hb
          cases b
          · have hn0 : ¬ rightC (zs.take l) 0 := fun h => by rw [wd_right hl, ← hb] at h; cases h.1
            have hnk : ¬ rightC (zs.take l) k := fun h => by rw [wd_right hl, ← hb] at h; cases h.1
            repeat' ((conv => whnf); first | (refine And.intro ⟨rfl, rfl⟩ ?_) | (refine And.intro rfl ?_) | (refine And.intro (fun _ => ?_) (fun h => absurd h hnk)) | (refine ask_true (by omega) ?_) | (refine ask_false (by omega) ?_) | (refine ask_true (by decide) ?_) | (refine ask_false (by decide) ?_) | fail)
            have hg : ¬ goodC zs ys l m := fun hg => by rw [goodC_def] at hg; exact hn0 hg.1
            repeat' ((conv => whnf); first | (refine And.intro ⟨rfl, rfl⟩ ?_) | (refine And.intro rfl ?_) | (refine And.intro (fun h => absurd h hg) (fun _ => ?_)) | (refine ask_true (by omega) ?_) | (refine ask_false (by omega) ?_) | fail)
            conv => whnf
            refine loop_at2 (15 :: 16 :: List.range' 126 21) (fun k (i : Int) (b : Bool) => 0 ≤ i ∧ i ≤ m ∧ b = okB ys false i.toNat ∧ k = (m - i).toNat) (fun i b => [(15, vb b), (16, vi i)]) (fun _ _ => [.ro [.ints .i64 zs.length zs], .ro [.ints .i64 ys.length ys]]) m 0 false ⟨by decide, by omega, rfl, by omega⟩ ?_ ?_
            · exact ⟨rfl, ⟨⟨Nat.le_of_ble_eq_true rfl, rfl⟩, ⟨Nat.le_of_ble_eq_true rfl, rfl⟩, trivial⟩, ⟨rfl, rfl, trivial⟩, rfl, rfl, Nat.le_of_ble_eq_true rfl⟩
            · rintro _ i b ⟨i0, i1, hb, rfl⟩
              have ei := em i
              rcases Int.lt_or_le i m with i2 | i2
              · have yat : ys.getD (0 + mulN i.toNat (Try.prog.types[3]).size) 0 = ys.getD i.toNat 0 := by rw [em, Nat.zero_add]
                have on := ok_next ys false i0
                rw [← hb] at on
                cases b
                · repeat' ((conv => whnf); first | (refine ask_true (by omega) ?_) | (refine ask_false (by omega) ?_) | (refine And.intro (by omega) ?_) | (refine fun (_ : InK _ _) => ?_) | (refine ask_wrap64 (by omega) (by omega) ?_) | (refine ⟨by kernel_rfl, ?_⟩) | fail)
                  conv => whnf
                  refine ⟨(m - (i + 1)).toNat, (i + 1, false), by omega, ⟨by show 0 ≤ i + 1; omega, by show i + 1 ≤ (m : Int); omega, ?_, rfl⟩, rfl, ⟨⟨Nat.le_of_ble_eq_true rfl, rfl⟩, ⟨Nat.le_of_ble_eq_true rfl, rfl⟩, trivial⟩, ⟨rfl, rfl, trivial⟩, rfl, rfl, Nat.le_of_ble_eq_true rfl⟩
                  show false = _; rw [on]; rfl
                · repeat' ((conv => whnf); first | (refine ask_true (by omega) ?_) | (refine And.intro (by omega) ?_) | (refine fun (_ : InK _ _) => ?_) | (refine ask_wrap64 (by omega) (by omega) ?_) | (refine ⟨by kernel_rfl, ?_⟩) | fail)
                  conv => whnf
                  refine ask_split (fun hs => ?_) (fun hs => ?_)
                  · repeat' ((conv => whnf); first | (refine And.intro (by omega) ?_) | (refine fun (_ : InK _ _) => ?_) | (refine ask_wrap64 (by omega) (by omega) ?_) | (refine ⟨by kernel_rfl, ?_⟩) | fail)
                    conv => whnf
                    refine ask_split (fun hs2 => ?_) (fun hs2 => ?_)
                    · repeat' ((conv => whnf); first | (refine And.intro (by omega) ?_) | (refine fun (_ : InK _ _) => ?_) | (refine ask_wrap64 (by omega) (by omega) ?_) | (refine ⟨by kernel_rfl, ?_⟩) | fail)
                      conv => whnf
                      refine ⟨(m - (i + 1)).toNat, (i + 1, true), by omega, ⟨by show 0 ≤ i + 1; omega, by show i + 1 ≤ (m : Int); omega, ?_, rfl⟩, rfl, ⟨⟨Nat.le_of_ble_eq_true rfl, rfl⟩, ⟨Nat.le_of_ble_eq_true rfl, rfl⟩, trivial⟩, ⟨rfl, rfl, trivial⟩, rfl, rfl, Nat.le_of_ble_eq_true rfl⟩
                      show true = _; rw [on]; rw [yat] at hs hs2; exact and3_t hs hs2
                    · repeat' ((conv => whnf); first | (refine And.intro (by omega) ?_) | (refine fun (_ : InK _ _) => ?_) | (refine ask_wrap64 (by omega) (by omega) ?_) | (refine ⟨by kernel_rfl, ?_⟩) | fail)
                      conv => whnf
                      refine ⟨(m - (i + 1)).toNat, (i + 1, false), by omega, ⟨by show 0 ≤ i + 1; omega, by show i + 1 ≤ (m : Int); omega, ?_, rfl⟩, rfl, ⟨⟨Nat.le_of_ble_eq_true rfl, rfl⟩, ⟨Nat.le_of_ble_eq_true rfl, rfl⟩, trivial⟩, ⟨rfl, rfl, trivial⟩, rfl, rfl, Nat.le_of_ble_eq_true rfl⟩
                      show false = _; rw [on]; rw [yat] at hs hs2; exact and3_g hs2
                  · repeat' ((conv => whnf); first | (refine ask_true (by omega) ?_) | (refine ask_false (by omega) ?_) | (refine And.intro (by omega) ?_) | (refine fun (_ : InK _ _) => ?_) | (refine ask_wrap64 (by omega) (by omega) ?_) | (refine ⟨by kernel_rfl, ?_⟩) | fail)
                    conv => whnf
                    refine ⟨(m - (i + 1)).toNat, (i + 1, false), by omega, ⟨by show 0 ≤ i + 1; omega, by show i + 1 ≤ (m : Int); omega, ?_, rfl⟩, rfl, ⟨⟨Nat.le_of_ble_eq_true rfl, rfl⟩, ⟨Nat.le_of_ble_eq_true rfl, rfl⟩, trivial⟩, ⟨rfl, rfl, trivial⟩, rfl, rfl, Nat.le_of_ble_eq_true rfl⟩
                    show false = _; rw [on]; rw [yat] at hs; exact and3_f hs
              · cases b
                · repeat' ((conv => whnf); first | (refine ask_true (by omega) ?_) | (refine ask_false (by omega) ?_) | (refine ask_true (by decide) ?_) | rfl | fail)
                · exact absurd hb (by rw [ok_false]; decide)
          · have := (wd_len hb.symm); omega
    · repeat' ((conv => whnf); first | (refine ask_true (by omega) ?_) | (refine ask_false (by omega) ?_) | fail)
      conv => whnf
      refine loop_at2 (7 :: 8 :: List.range' 41 21) (fun m (i : Int) (b : Bool) => 0 ≤ i ∧ i ≤ l ∧ b = wdB zs l i.toNat ∧ m = (l - i).toNat) (fun i b => [(7, vb b), (8, vi i)]) (fun _ _ => [.ro [.ints .i64 zs.length zs], .ro [.ints .i64 ys.length ys]]) l 0 true ⟨by decide, by omega, hw0 _ (by rw [decide_eq_true ⟨hl1, hl8⟩]), by omega⟩ ?_ ?_
      · exact ⟨rfl, ⟨⟨Nat.le_of_ble_eq_true rfl, rfl⟩, ⟨Nat.le_of_ble_eq_true rfl, rfl⟩, trivial⟩, ⟨rfl, rfl, trivial⟩, rfl, rfl, Nat.le_of_ble_eq_true rfl⟩
      · rintro _ i b ⟨i0, i1, hb, rfl⟩
        have ei := em i
        rcases Int.lt_or_le i l with i2 | i2
        · have xat : zs.getD (0 + mulN i.toNat (Try.prog.types[3]).size) 0 = zs.getD i.toNat 0 := by rw [em, Nat.zero_add]
          have on := wd_next zs l i0
          rw [← hb] at on
          cases b
          · repeat' ((conv => whnf); first | (refine ask_true (by omega) ?_) | (refine ask_false (by omega) ?_) | (refine And.intro (by omega) ?_) | (refine fun (_ : InK _ _) => ?_) | (refine ask_wrap64 (by omega) (by omega) ?_) | (refine ⟨by kernel_rfl, ?_⟩) | fail)
            conv => whnf
            refine ⟨(l - (i + 1)).toNat, (i + 1, false), by omega, ⟨by show 0 ≤ i + 1; omega, by show i + 1 ≤ (l : Int); omega, ?_, rfl⟩, rfl, ⟨⟨Nat.le_of_ble_eq_true rfl, rfl⟩, ⟨Nat.le_of_ble_eq_true rfl, rfl⟩, trivial⟩, ⟨rfl, rfl, trivial⟩, rfl, rfl, Nat.le_of_ble_eq_true rfl⟩
            show false = _; rw [on]; rfl
          · repeat' ((conv => whnf); first | (refine ask_true (by omega) ?_) | (refine And.intro (by omega) ?_) | (refine fun (_ : InK _ _) => ?_) | (refine ask_wrap64 (by omega) (by omega) ?_) | (refine ⟨by kernel_rfl, ?_⟩) | fail)
            conv => whnf
            refine ask_split (fun hs => ?_) (fun hs => ?_)
            · repeat' ((conv => whnf); first | (refine And.intro (by omega) ?_) | (refine fun (_ : InK _ _) => ?_) | (refine ask_wrap64 (by omega) (by omega) ?_) | (refine ⟨by kernel_rfl, ?_⟩) | fail)
              conv => whnf
              refine ask_split (fun hs2 => ?_) (fun hs2 => ?_)
              · repeat' ((conv => whnf); first | (refine And.intro (by omega) ?_) | (refine fun (_ : InK _ _) => ?_) | (refine ask_wrap64 (by omega) (by omega) ?_) | (refine ⟨by kernel_rfl, ?_⟩) | fail)
                conv => whnf
                refine ⟨(l - (i + 1)).toNat, (i + 1, true), by omega, ⟨by show 0 ≤ i + 1; omega, by show i + 1 ≤ (l : Int); omega, ?_, rfl⟩, rfl, ⟨⟨Nat.le_of_ble_eq_true rfl, rfl⟩, ⟨Nat.le_of_ble_eq_true rfl, rfl⟩, trivial⟩, ⟨rfl, rfl, trivial⟩, rfl, rfl, Nat.le_of_ble_eq_true rfl⟩
                show true = _; rw [on]; rw [xat] at hs hs2; exact and3_t hs hs2
              · repeat' ((conv => whnf); first | (refine And.intro (by omega) ?_) | (refine fun (_ : InK _ _) => ?_) | (refine ask_wrap64 (by omega) (by omega) ?_) | (refine ⟨by kernel_rfl, ?_⟩) | fail)
                conv => whnf
                refine ⟨(l - (i + 1)).toNat, (i + 1, false), by omega, ⟨by show 0 ≤ i + 1; omega, by show i + 1 ≤ (l : Int); omega, ?_, rfl⟩, rfl, ⟨⟨Nat.le_of_ble_eq_true rfl, rfl⟩, ⟨Nat.le_of_ble_eq_true rfl, rfl⟩, trivial⟩, ⟨rfl, rfl, trivial⟩, rfl, rfl, Nat.le_of_ble_eq_true rfl⟩
                show false = _; rw [on]; rw [xat] at hs hs2; exact and3_g hs2
            · repeat' ((conv => whnf); first | (refine ask_true (by omega) ?_) | (refine ask_false (by omega) ?_) | (refine And.intro (by omega) ?_) | (refine fun (_ : InK _ _) => ?_) | (refine ask_wrap64 (by omega) (by omega) ?_) | (refine ⟨by kernel_rfl, ?_⟩) | fail)
              conv => whnf
              refine ⟨(l - (i + 1)).toNat, (i + 1, false), by omega, ⟨by show 0 ≤ i + 1; omega, by show i + 1 ≤ (l : Int); omega, ?_, rfl⟩, rfl, ⟨⟨Nat.le_of_ble_eq_true rfl, rfl⟩, ⟨Nat.le_of_ble_eq_true rfl, rfl⟩, trivial⟩, ⟨rfl, rfl, trivial⟩, rfl, rfl, Nat.le_of_ble_eq_true rfl⟩
              show false = _; rw [on]; rw [xat] at hs; exact and3_f hs
        · rw [show i.toNat = l by omega] at hb
          cases b
          · have hn0 : ¬ rightC (zs.take l) 0 := fun h => by rw [wd_right hl, ← hb] at h; cases h.1
            have hnk : ¬ rightC (zs.take l) k := fun h => by rw [wd_right hl, ← hb] at h; cases h.1
            repeat' ((conv => whnf); first | (refine And.intro ⟨rfl, rfl⟩ ?_) | (refine And.intro rfl ?_) | (refine And.intro (fun _ => ?_) (fun h => absurd h hnk)) | (refine ask_true (by omega) ?_) | (refine ask_false (by omega) ?_) | (refine ask_true (by decide) ?_) | (refine ask_false (by decide) ?_) | fail)
            have hg : ¬ goodC zs ys l m := fun hg => by rw [goodC_def] at hg; exact hn0 hg.1
            repeat' ((conv => whnf); first | (refine And.intro ⟨rfl, rfl⟩ ?_) | (refine And.intro rfl ?_) | (refine And.intro (fun h => absurd h hg) (fun _ => ?_)) | (refine ask_true (by omega) ?_) | (refine ask_false (by omega) ?_) | fail)
            conv => whnf
            refine loop_at2 (15 :: 16 :: List.range' 126 21) (fun k (i : Int) (b : Bool) => 0 ≤ i ∧ i ≤ m ∧ b = okB ys false i.toNat ∧ k = (m - i).toNat) (fun i b => [(15, vb b), (16, vi i)]) (fun _ _ => [.ro [.ints .i64 zs.length zs], .ro [.ints .i64 ys.length ys]]) m 0 false ⟨by decide, by omega, rfl, by omega⟩ ?_ ?_
            · exact ⟨rfl, ⟨⟨Nat.le_of_ble_eq_true rfl, rfl⟩, ⟨Nat.le_of_ble_eq_true rfl, rfl⟩, trivial⟩, ⟨rfl, rfl, trivial⟩, rfl, rfl, Nat.le_of_ble_eq_true rfl⟩
            · rintro _ i b ⟨i0, i1, hb, rfl⟩
              have ei := em i
              rcases Int.lt_or_le i m with i2 | i2
              · have yat : ys.getD (0 + mulN i.toNat (Try.prog.types[3]).size) 0 = ys.getD i.toNat 0 := by rw [em, Nat.zero_add]
                have on := ok_next ys false i0
                rw [← hb] at on
                cases b
                · repeat' ((conv => whnf); first | (refine ask_true (by omega) ?_) | (refine ask_false (by omega) ?_) | (refine And.intro (by omega) ?_) | (refine fun (_ : InK _ _) => ?_) | (refine ask_wrap64 (by omega) (by omega) ?_) | (refine ⟨by kernel_rfl, ?_⟩) | fail)
                  conv => whnf
                  refine ⟨(m - (i + 1)).toNat, (i + 1, false), by omega, ⟨by show 0 ≤ i + 1; omega, by show i + 1 ≤ (m : Int); omega, ?_, rfl⟩, rfl, ⟨⟨Nat.le_of_ble_eq_true rfl, rfl⟩, ⟨Nat.le_of_ble_eq_true rfl, rfl⟩, trivial⟩, ⟨rfl, rfl, trivial⟩, rfl, rfl, Nat.le_of_ble_eq_true rfl⟩
                  show false = _; rw [on]; rfl
                · repeat' ((conv => whnf); first | (refine ask_true (by omega) ?_) | (refine And.intro (by omega) ?_) | (refine fun (_ : InK _ _) => ?_) | (refine ask_wrap64 (by omega) (by omega) ?_) | (refine ⟨by kernel_rfl, ?_⟩) | fail)
                  conv => whnf
                  refine ask_split (fun hs => ?_) (fun hs => ?_)
                  · repeat' ((conv => whnf); first | (refine And.intro (by omega) ?_) | (refine fun (_ : InK _ _) => ?_) | (refine ask_wrap64 (by omega) (by omega) ?_) | (refine ⟨by kernel_rfl, ?_⟩) | fail)
                    conv => whnf
                    refine ask_split (fun hs2 => ?_) (fun hs2 => ?_)
                    · repeat' ((conv => whnf); first | (refine And.intro (by omega) ?_) | (refine fun (_ : InK _ _) => ?_) | (refine ask_wrap64 (by omega) (by omega) ?_) | (refine ⟨by kernel_rfl, ?_⟩) | fail)
                      conv => whnf
                      refine ⟨(m - (i + 1)).toNat, (i + 1, true), by omega, ⟨by show 0 ≤ i + 1; omega, by show i + 1 ≤ (m : Int); omega, ?_, rfl⟩, rfl, ⟨⟨Nat.le_of_ble_eq_true rfl, rfl⟩, ⟨Nat.le_of_ble_eq_true rfl, rfl⟩, trivial⟩, ⟨rfl, rfl, trivial⟩, rfl, rfl, Nat.le_of_ble_eq_true rfl⟩
                      show true = _; rw [on]; rw [yat] at hs hs2; exact and3_t hs hs2
                    · repeat' ((conv => whnf); first | (refine And.intro (by omega) ?_) | (refine fun (_ : InK _ _) => ?_) | (refine ask_wrap64 (by omega) (by omega) ?_) | (refine ⟨by kernel_rfl, ?_⟩) | fail)
                      conv => whnf
                      refine ⟨(m - (i + 1)).toNat, (i + 1, false), by omega, ⟨by show 0 ≤ i + 1; omega, by show i + 1 ≤ (m : Int); omega, ?_, rfl⟩, rfl, ⟨⟨Nat.le_of_ble_eq_true rfl, rfl⟩, ⟨Nat.le_of_ble_eq_true rfl, rfl⟩, trivial⟩, ⟨rfl, rfl, trivial⟩, rfl, rfl, Nat.le_of_ble_eq_true rfl⟩
                      show false = _; rw [on]; rw [yat] at hs hs2; exact and3_g hs2
                  · repeat' ((conv => whnf); first | (refine ask_true (by omega) ?_) | (refine ask_false (by omega) ?_) | (refine And.intro (by omega) ?_) | (refine fun (_ : InK _ _) => ?_) | (refine ask_wrap64 (by omega) (by omega) ?_) | (refine ⟨by kernel_rfl, ?_⟩) | fail)
                    conv => whnf
                    refine ⟨(m - (i + 1)).toNat, (i + 1, false), by omega, ⟨by show 0 ≤ i + 1; omega, by show i + 1 ≤ (m : Int); omega, ?_, rfl⟩, rfl, ⟨⟨Nat.le_of_ble_eq_true rfl, rfl⟩, ⟨Nat.le_of_ble_eq_true rfl, rfl⟩, trivial⟩, ⟨rfl, rfl, trivial⟩, rfl, rfl, Nat.le_of_ble_eq_true rfl⟩
                    show false = _; rw [on]; rw [yat] at hs; exact and3_f hs
              · cases b
                · repeat' ((conv => whnf); first | (refine ask_true (by omega) ?_) | (refine ask_false (by omega) ?_) | (refine ask_true (by decide) ?_) | rfl | fail)
                · exact absurd hb (by rw [ok_false]; decide)
          · have hr0 : rightC (zs.take l) 0 := by rw [wd_right hl]; exact ⟨hb.symm, by decide⟩
            have hx20 : ∀ j, j < l → -1048576 ≤ zs.getD j 0 ∧ zs.getD j 0 ≤ 1048576 := fun j hj => by rw [← getD_take hj]; exact right_in hr0 j
            by_cases hkk : 0 ≤ k ∧ k ≤ 8
            · have hrk : rightC (zs.take l) k := by rw [wd_right hl]; exact ⟨hb.symm, hkk⟩
              repeat' ((conv => whnf); first | (refine And.intro ⟨rfl, rfl⟩ ?_) | (refine And.intro rfl ?_) | (refine And.intro (fun h => absurd hrk h) (fun _ => ?_)) | (refine And.intro hrk ?_) | (refine ask_true (by omega) ?_) | (refine ask_false (by omega) ?_) | (refine ask_true (by decide) ?_) | (refine ask_false (by decide) ?_) | fail)
              conv => whnf
              obtain ⟨Z, hZ⟩ : ∃ Z, Z = findZ (zs.take l) l k.toNat := ⟨_, rfl⟩
              rw [← hZ]
              refine loop_at (12 :: List.range' 88 22) (fun m (i : Int) => 0 ≤ i ∧ i ≤ l ∧ m = (l - i).toNat) (fun i => [(12, vi i)]) (fun _ => [.ro [.ints .i64 zs.length zs], .ro [.ints .i64 ys.length ys], .own 3 [.ints .i64 l Z], .own 3 [.ints .i64 l Z]]) l 0 ⟨by decide, by omega, by omega⟩ ?_ ?_
              · exact ⟨rfl, ⟨⟨Nat.le_of_ble_eq_true rfl, rfl⟩, trivial⟩, ⟨rfl, rfl, rfl, rfl, trivial⟩, rfl, rfl, Nat.le_of_ble_eq_true rfl⟩
              · rintro _ i ⟨i0, i1, rfl⟩
                have ei := em i
                rcases Int.lt_or_le i l with i2 | i2
                · repeat' ((conv => whnf); first | (refine ask_true (by omega) ?_) | (refine ask_false (by omega) ?_) | (refine And.intro (by omega) ?_) | (refine fun (_ : InK _ _) => ?_) | (refine ask_wrap64 (by omega) (by omega) ?_) | (refine ⟨by kernel_rfl, ?_⟩) | fail)
                  conv => whnf
                  exact ⟨(l - (i + 1)).toNat, i + 1, by omega, ⟨by omega, by omega, rfl⟩, rfl, ⟨⟨Nat.le_of_ble_eq_true rfl, rfl⟩, trivial⟩, ⟨rfl, rfl, rfl, rfl, trivial⟩, rfl, rfl, Nat.le_of_ble_eq_true rfl⟩
                · repeat' ((conv => whnf); first | (refine ask_true (by omega) ?_) | (refine ask_false (by omega) ?_) | (refine ask_true (by decide) ?_) | (refine ask_false (by decide) ?_) | fail)
                  by_cases hg : goodC zs ys l m
                  · have hg' := hg
                    rw [goodC_def] at hg'
                    have hy8 : ∀ j, j < m → -8 ≤ ys.getD j 0 ∧ ys.getD j 0 ≤ 8 := fun j hj => by have := hg'.2.2 j hj; unfold bad8 at this; omega
                    have hml := hg'.2.1
                    repeat' ((conv => whnf); first | (refine And.intro ⟨rfl, rfl⟩ ?_) | (refine And.intro rfl ?_) | (refine And.intro (fun _ => ?_) (fun h => absurd hg h)) | (refine ask_true (by omega) ?_) | (refine ask_false (by omega) ?_) | fail)
                    conv => whnf
                    refine loop_at (15 :: 16 :: List.range' 126 21) (fun k (i : Int) => 0 ≤ i ∧ i ≤ m ∧ k = (m - i).toNat) (fun i => [(15, vb true), (16, vi i)]) (fun _ => [.ro [.ints .i64 zs.length zs], .ro [.ints .i64 ys.length ys], .own 3 [.ints .i64 l Z], .own 3 [.ints .i64 l Z]]) m 0 ⟨by decide, by omega, by omega⟩ ?_ ?_
                    · exact ⟨rfl, ⟨⟨Nat.le_of_ble_eq_true rfl, rfl⟩, ⟨Nat.le_of_ble_eq_true rfl, rfl⟩, trivial⟩, ⟨rfl, rfl, rfl, rfl, trivial⟩, rfl, rfl, Nat.le_of_ble_eq_true rfl⟩
                    · rintro _ i ⟨i0, i1, rfl⟩
                      have ei := em i
                      rcases Int.lt_or_le i m with i2 | i2
                      · have yi := hy8 i.toNat (by omega)
                        rw [show ys.getD i.toNat 0 = ys.getD (0 + mulN i.toNat (Try.prog.types[3]).size) 0 by rw [em, Nat.zero_add]] at yi
                        repeat' ((conv => whnf); first | (refine ask_true (by omega) ?_) | (refine ask_false (by omega) ?_) | (refine And.intro (by omega) ?_) | (refine fun (_ : InK _ _) => ?_) | (refine ask_wrap64 (by omega) (by omega) ?_) | (refine ⟨by kernel_rfl, ?_⟩) | fail)
                        conv => whnf
                        exact ⟨(m - (i + 1)).toNat, i + 1, by omega, ⟨by omega, by omega, rfl⟩, rfl, ⟨⟨Nat.le_of_ble_eq_true rfl, rfl⟩, ⟨Nat.le_of_ble_eq_true rfl, rfl⟩, trivial⟩, ⟨rfl, rfl, rfl, rfl, trivial⟩, rfl, rfl, Nat.le_of_ble_eq_true rfl⟩
                      · repeat' ((conv => whnf); first | (refine ask_true (by omega) ?_) | (refine ask_false (by omega) ?_) | fail)
                        conv => whnf
                        refine loop_at (17 :: 18 :: 19 :: List.range' 155 28) (fun k (i : Int) => 0 ≤ i ∧ i ≤ l ∧ k = (l - i).toNat ∧ (-8388608 * i ≤ dotA zs ys i.toNat ∧ dotA zs ys i.toNat ≤ 8388608 * i) ∧ 0 ≤ sqA ys i.toNat ∧ sqA ys i.toNat ≤ 64 * i) (fun i => [(17, vi (dotA zs ys i.toNat)), (18, vi (sqA ys i.toNat)), (19, vi i)]) (fun _ => [.ro [.ints .i64 zs.length zs], .ro [.ints .i64 ys.length ys], .own 3 [.ints .i64 l Z], .own 3 [.ints .i64 l Z]]) l 0 ⟨by decide, by omega, by omega, by show -8388608 * 0 ≤ (0 : Int) ∧ (0 : Int) ≤ 8388608 * 0; decide, by show (0 : Int) ≤ 0 ∧ (0 : Int) ≤ 64 * 0; decide⟩ ?_ ?_
                        · exact ⟨rfl, ⟨⟨Nat.le_of_ble_eq_true rfl, rfl⟩, ⟨Nat.le_of_ble_eq_true rfl, rfl⟩, ⟨Nat.le_of_ble_eq_true rfl, rfl⟩, trivial⟩, ⟨rfl, rfl, rfl, rfl, trivial⟩, rfl, rfl, Nat.le_of_ble_eq_true rfl⟩
                        · rintro _ i ⟨p0, p1, rfl, p3, p4⟩
                          have ei := em i
                          rcases Int.lt_or_le i l with p2 | p2
                          · have xat : zs.getD (0 + mulN i.toNat (Try.prog.types[3]).size) 0 = zs.getD i.toNat 0 := by rw [em, Nat.zero_add]
                            have yat : ys.getD (0 + mulN i.toNat (Try.prog.types[3]).size) 0 = ys.getD i.toNat 0 := by rw [em, Nat.zero_add]
                            have xb := hx20 i.toNat (by omega)
                            rw [← xat] at xb
                            have yb := hy8 i.toNat (by omega)
                            rw [← yat] at yb
                            have pb := prod_bound xb.1 xb.2 yb.1 yb.2
                            have qb := prod_bound yb.1 yb.2 yb.1 yb.2
                            have q0 := sq_nn (ys.getD (0 + mulN i.toNat (Try.prog.types[3]).size) 0)
                            have hs : dotA zs ys (i + 1).toNat = dotA zs ys i.toNat + zs.getD (0 + mulN i.toNat (Try.prog.types[3]).size) 0 * ys.getD (0 + mulN i.toNat (Try.prog.types[3]).size) 0 := by rw [show (i + 1).toNat = i.toNat + 1 by omega, xat, yat]; rfl
                            have ht : sqA ys (i + 1).toNat = sqA ys i.toNat + ys.getD (0 + mulN i.toNat (Try.prog.types[3]).size) 0 * ys.getD (0 + mulN i.toNat (Try.prog.types[3]).size) 0 := by rw [show (i + 1).toNat = i.toNat + 1 by omega, yat]; rfl
                            repeat' ((conv => whnf); first | (refine ask_true (by omega) ?_) | (refine ask_false (by omega) ?_) | (refine And.intro (by omega) ?_) | (refine fun (_ : InK _ _) => ?_) | (refine ask_wrap64 (by omega) (by omega) ?_) | (refine ⟨by kernel_rfl, ?_⟩) | fail)
                            conv => whnf
                            exact ⟨(l - (i + 1)).toNat, i + 1, by omega, ⟨by omega, by omega, rfl, by rw [hs]; omega, by rw [ht]; omega⟩, rfl, ⟨⟨Nat.le_of_ble_eq_true rfl, congrArg vi hs.symm⟩, ⟨Nat.le_of_ble_eq_true rfl, congrArg vi ht.symm⟩, ⟨Nat.le_of_ble_eq_true rfl, rfl⟩, trivial⟩, ⟨rfl, rfl, rfl, rfl, trivial⟩, rfl, rfl, Nat.le_of_ble_eq_true rfl⟩
                          · have e : i.toNat = l := by omega
                            have e1 : dotA zs ys l = dotA zs ys i.toNat := by rw [e]
                            have e2 : sqA ys l = sqA ys i.toNat := by rw [e]
                            repeat' ((conv => whnf); first | (refine ask_true (by omega) ?_) | (refine ask_false (by omega) ?_) | rfl | fail)
                  · by_cases hml : m = l
                    · have hb0 : True := trivial
                      repeat' ((conv => whnf); first | (refine And.intro ⟨rfl, rfl⟩ ?_) | (refine And.intro rfl ?_) | (refine And.intro (fun h => absurd h hg) (fun _ => ?_)) | (refine ask_true (by omega) ?_) | (refine ask_false (by omega) ?_) | fail)
                      conv => whnf
                      refine loop_at2 (15 :: 16 :: List.range' 126 21) (fun k (i : Int) (b : Bool) => 0 ≤ i ∧ i ≤ m ∧ b = okB ys true i.toNat ∧ k = (m - i).toNat) (fun i b => [(15, vb b), (16, vi i)]) (fun _ _ => [.ro [.ints .i64 zs.length zs], .ro [.ints .i64 ys.length ys], .own 3 [.ints .i64 l Z], .own 3 [.ints .i64 l Z]]) m 0 true ⟨by decide, by omega, rfl, by omega⟩ ?_ ?_
                      · exact ⟨rfl, ⟨⟨Nat.le_of_ble_eq_true rfl, rfl⟩, ⟨Nat.le_of_ble_eq_true rfl, rfl⟩, trivial⟩, ⟨rfl, rfl, rfl, rfl, trivial⟩, rfl, rfl, Nat.le_of_ble_eq_true rfl⟩
                      · rintro _ i b ⟨i0, i1, hb, rfl⟩
                        have ei := em i
                        rcases Int.lt_or_le i m with i2 | i2
                        · have yat : ys.getD (0 + mulN i.toNat (Try.prog.types[3]).size) 0 = ys.getD i.toNat 0 := by rw [em, Nat.zero_add]
                          have on := ok_next ys true i0
                          rw [← hb] at on
                          cases b
                          · repeat' ((conv => whnf); first | (refine ask_true (by omega) ?_) | (refine ask_false (by omega) ?_) | (refine And.intro (by omega) ?_) | (refine fun (_ : InK _ _) => ?_) | (refine ask_wrap64 (by omega) (by omega) ?_) | (refine ⟨by kernel_rfl, ?_⟩) | fail)
                            conv => whnf
                            refine ⟨(m - (i + 1)).toNat, (i + 1, false), by omega, ⟨by show 0 ≤ i + 1; omega, by show i + 1 ≤ (m : Int); omega, ?_, rfl⟩, rfl, ⟨⟨Nat.le_of_ble_eq_true rfl, rfl⟩, ⟨Nat.le_of_ble_eq_true rfl, rfl⟩, trivial⟩, ⟨rfl, rfl, rfl, rfl, trivial⟩, rfl, rfl, Nat.le_of_ble_eq_true rfl⟩
                            show false = _; rw [on]; rfl
                          · repeat' ((conv => whnf); first | (refine ask_true (by omega) ?_) | (refine And.intro (by omega) ?_) | (refine fun (_ : InK _ _) => ?_) | (refine ask_wrap64 (by omega) (by omega) ?_) | (refine ⟨by kernel_rfl, ?_⟩) | fail)
                            conv => whnf
                            refine ask_split (fun hs => ?_) (fun hs => ?_)
                            · repeat' ((conv => whnf); first | (refine And.intro (by omega) ?_) | (refine fun (_ : InK _ _) => ?_) | (refine ask_wrap64 (by omega) (by omega) ?_) | (refine ⟨by kernel_rfl, ?_⟩) | fail)
                              conv => whnf
                              refine ask_split (fun hs2 => ?_) (fun hs2 => ?_)
                              · repeat' ((conv => whnf); first | (refine And.intro (by omega) ?_) | (refine fun (_ : InK _ _) => ?_) | (refine ask_wrap64 (by omega) (by omega) ?_) | (refine ⟨by kernel_rfl, ?_⟩) | fail)
                                conv => whnf
                                refine ⟨(m - (i + 1)).toNat, (i + 1, true), by omega, ⟨by show 0 ≤ i + 1; omega, by show i + 1 ≤ (m : Int); omega, ?_, rfl⟩, rfl, ⟨⟨Nat.le_of_ble_eq_true rfl, rfl⟩, ⟨Nat.le_of_ble_eq_true rfl, rfl⟩, trivial⟩, ⟨rfl, rfl, rfl, rfl, trivial⟩, rfl, rfl, Nat.le_of_ble_eq_true rfl⟩
                                show true = _; rw [on]; rw [yat] at hs hs2; exact and3_t hs hs2
                              · repeat' ((conv => whnf); first | (refine And.intro (by omega) ?_) | (refine fun (_ : InK _ _) => ?_) | (refine ask_wrap64 (by omega) (by omega) ?_) | (refine ⟨by kernel_rfl, ?_⟩) | fail)
                                conv => whnf
                                refine ⟨(m - (i + 1)).toNat, (i + 1, false), by omega, ⟨by show 0 ≤ i + 1; omega, by show i + 1 ≤ (m : Int); omega, ?_, rfl⟩, rfl, ⟨⟨Nat.le_of_ble_eq_true rfl, rfl⟩, ⟨Nat.le_of_ble_eq_true rfl, rfl⟩, trivial⟩, ⟨rfl, rfl, rfl, rfl, trivial⟩, rfl, rfl, Nat.le_of_ble_eq_true rfl⟩
                                show false = _; rw [on]; rw [yat] at hs hs2; exact and3_g hs2
                            · repeat' ((conv => whnf); first | (refine ask_true (by omega) ?_) | (refine ask_false (by omega) ?_) | (refine And.intro (by omega) ?_) | (refine fun (_ : InK _ _) => ?_) | (refine ask_wrap64 (by omega) (by omega) ?_) | (refine ⟨by kernel_rfl, ?_⟩) | fail)
                              conv => whnf
                              refine ⟨(m - (i + 1)).toNat, (i + 1, false), by omega, ⟨by show 0 ≤ i + 1; omega, by show i + 1 ≤ (m : Int); omega, ?_, rfl⟩, rfl, ⟨⟨Nat.le_of_ble_eq_true rfl, rfl⟩, ⟨Nat.le_of_ble_eq_true rfl, rfl⟩, trivial⟩, ⟨rfl, rfl, rfl, rfl, trivial⟩, rfl, rfl, Nat.le_of_ble_eq_true rfl⟩
                              show false = _; rw [on]; rw [yat] at hs; exact and3_f hs
                        · cases b
                          · repeat' ((conv => whnf); first | (refine ask_true (by omega) ?_) | (refine ask_false (by omega) ?_) | (refine ask_true (by decide) ?_) | rfl | fail)
                          · exact absurd (by rw [goodC_def]; exact ⟨hr0, hml, ok_all (by rw [hb, show i.toNat = m by omega])⟩) hg
                    · have hb0 : True := trivial
                      repeat' ((conv => whnf); first | (refine And.intro ⟨rfl, rfl⟩ ?_) | (refine And.intro rfl ?_) | (refine And.intro (fun h => absurd h hg) (fun _ => ?_)) | (refine ask_true (by omega) ?_) | (refine ask_false (by omega) ?_) | fail)
                      conv => whnf
                      refine loop_at2 (15 :: 16 :: List.range' 126 21) (fun k (i : Int) (b : Bool) => 0 ≤ i ∧ i ≤ m ∧ b = okB ys false i.toNat ∧ k = (m - i).toNat) (fun i b => [(15, vb b), (16, vi i)]) (fun _ _ => [.ro [.ints .i64 zs.length zs], .ro [.ints .i64 ys.length ys], .own 3 [.ints .i64 l Z], .own 3 [.ints .i64 l Z]]) m 0 false ⟨by decide, by omega, rfl, by omega⟩ ?_ ?_
                      · exact ⟨rfl, ⟨⟨Nat.le_of_ble_eq_true rfl, rfl⟩, ⟨Nat.le_of_ble_eq_true rfl, rfl⟩, trivial⟩, ⟨rfl, rfl, rfl, rfl, trivial⟩, rfl, rfl, Nat.le_of_ble_eq_true rfl⟩
                      · rintro _ i b ⟨i0, i1, hb, rfl⟩
                        have ei := em i
                        rcases Int.lt_or_le i m with i2 | i2
                        · have yat : ys.getD (0 + mulN i.toNat (Try.prog.types[3]).size) 0 = ys.getD i.toNat 0 := by rw [em, Nat.zero_add]
                          have on := ok_next ys false i0
                          rw [← hb] at on
                          cases b
                          · repeat' ((conv => whnf); first | (refine ask_true (by omega) ?_) | (refine ask_false (by omega) ?_) | (refine And.intro (by omega) ?_) | (refine fun (_ : InK _ _) => ?_) | (refine ask_wrap64 (by omega) (by omega) ?_) | (refine ⟨by kernel_rfl, ?_⟩) | fail)
                            conv => whnf
                            refine ⟨(m - (i + 1)).toNat, (i + 1, false), by omega, ⟨by show 0 ≤ i + 1; omega, by show i + 1 ≤ (m : Int); omega, ?_, rfl⟩, rfl, ⟨⟨Nat.le_of_ble_eq_true rfl, rfl⟩, ⟨Nat.le_of_ble_eq_true rfl, rfl⟩, trivial⟩, ⟨rfl, rfl, rfl, rfl, trivial⟩, rfl, rfl, Nat.le_of_ble_eq_true rfl⟩
                            show false = _; rw [on]; rfl
                          · repeat' ((conv => whnf); first | (refine ask_true (by omega) ?_) | (refine And.intro (by omega) ?_) | (refine fun (_ : InK _ _) => ?_) | (refine ask_wrap64 (by omega) (by omega) ?_) | (refine ⟨by kernel_rfl, ?_⟩) | fail)
                            conv => whnf
                            refine ask_split (fun hs => ?_) (fun hs => ?_)
                            · repeat' ((conv => whnf); first | (refine And.intro (by omega) ?_) | (refine fun (_ : InK _ _) => ?_) | (refine ask_wrap64 (by omega) (by omega) ?_) | (refine ⟨by kernel_rfl, ?_⟩) | fail)
                              conv => whnf
                              refine ask_split (fun hs2 => ?_) (fun hs2 => ?_)
                              · repeat' ((conv => whnf); first | (refine And.intro (by omega) ?_) | (refine fun (_ : InK _ _) => ?_) | (refine ask_wrap64 (by omega) (by omega) ?_) | (refine ⟨by kernel_rfl, ?_⟩) | fail)
                                conv => whnf
                                refine ⟨(m - (i + 1)).toNat, (i + 1, true), by omega, ⟨by show 0 ≤ i + 1; omega, by show i + 1 ≤ (m : Int); omega, ?_, rfl⟩, rfl, ⟨⟨Nat.le_of_ble_eq_true rfl, rfl⟩, ⟨Nat.le_of_ble_eq_true rfl, rfl⟩, trivial⟩, ⟨rfl, rfl, rfl, rfl, trivial⟩, rfl, rfl, Nat.le_of_ble_eq_true rfl⟩
                                show true = _; rw [on]; rw [yat] at hs hs2; exact and3_t hs hs2
                              · repeat' ((conv => whnf); first | (refine And.intro (by omega) ?_) | (refine fun (_ : InK _ _) => ?_) | (refine ask_wrap64 (by omega) (by omega) ?_) | (refine ⟨by kernel_rfl, ?_⟩) | fail)
                                conv => whnf
                                refine ⟨(m - (i + 1)).toNat, (i + 1, false), by omega, ⟨by show 0 ≤ i + 1; omega, by show i + 1 ≤ (m : Int); omega, ?_, rfl⟩, rfl, ⟨⟨Nat.le_of_ble_eq_true rfl, rfl⟩, ⟨Nat.le_of_ble_eq_true rfl, rfl⟩, trivial⟩, ⟨rfl, rfl, rfl, rfl, trivial⟩, rfl, rfl, Nat.le_of_ble_eq_true rfl⟩
                                show false = _; rw [on]; rw [yat] at hs hs2; exact and3_g hs2
                            · repeat' ((conv => whnf); first | (refine ask_true (by omega) ?_) | (refine ask_false (by omega) ?_) | (refine And.intro (by omega) ?_) | (refine fun (_ : InK _ _) => ?_) | (refine ask_wrap64 (by omega) (by omega) ?_) | (refine ⟨by kernel_rfl, ?_⟩) | fail)
                              conv => whnf
                              refine ⟨(m - (i + 1)).toNat, (i + 1, false), by omega, ⟨by show 0 ≤ i + 1; omega, by show i + 1 ≤ (m : Int); omega, ?_, rfl⟩, rfl, ⟨⟨Nat.le_of_ble_eq_true rfl, rfl⟩, ⟨Nat.le_of_ble_eq_true rfl, rfl⟩, trivial⟩, ⟨rfl, rfl, rfl, rfl, trivial⟩, rfl, rfl, Nat.le_of_ble_eq_true rfl⟩
                              show false = _; rw [on]; rw [yat] at hs; exact and3_f hs
                        · cases b
                          · repeat' ((conv => whnf); first | (refine ask_true (by omega) ?_) | (refine ask_false (by omega) ?_) | (refine ask_true (by decide) ?_) | rfl | fail)
                          · exact absurd hb (by rw [ok_false]; decide)
            · have hnk : ¬ rightC (zs.take l) k := fun h => by rw [wd_right hl] at h; exact hkk h.2
              rcases Int.lt_or_le k 0 with hk0 | hk0
              · repeat' ((conv => whnf); first | (refine And.intro ⟨rfl, rfl⟩ ?_) | (refine And.intro rfl ?_) | (refine And.intro (fun _ => ?_) (fun h => absurd h hnk)) | (refine ask_true (by omega) ?_) | (refine ask_false (by omega) ?_) | (refine ask_true (by decide) ?_) | (refine ask_false (by decide) ?_) | fail)
                by_cases hg : goodC zs ys l m
                · have hg' := hg
                  rw [goodC_def] at hg'
                  have hy8 : ∀ j, j < m → -8 ≤ ys.getD j 0 ∧ ys.getD j 0 ≤ 8 := fun j hj => by have := hg'.2.2 j hj; unfold bad8 at this; omega
                  have hml := hg'.2.1
                  repeat' ((conv => whnf); first | (refine And.intro ⟨rfl, rfl⟩ ?_) | (refine And.intro rfl ?_) | (refine And.intro (fun _ => ?_) (fun h => absurd hg h)) | (refine ask_true (by omega) ?_) | (refine ask_false (by omega) ?_) | fail)
                  conv => whnf
                  refine loop_at (15 :: 16 :: List.range' 126 21) (fun k (i : Int) => 0 ≤ i ∧ i ≤ m ∧ k = (m - i).toNat) (fun i => [(15, vb true), (16, vi i)]) (fun _ => [.ro [.ints .i64 zs.length zs], .ro [.ints .i64 ys.length ys]]) m 0 ⟨by decide, by omega, by omega⟩ ?_ ?_
                  · exact ⟨rfl, ⟨⟨Nat.le_of_ble_eq_true rfl, rfl⟩, ⟨Nat.le_of_ble_eq_true rfl, rfl⟩, trivial⟩, ⟨rfl, rfl, trivial⟩, rfl, rfl, Nat.le_of_ble_eq_true rfl⟩
                  · rintro _ i ⟨i0, i1, rfl⟩
                    have ei := em i
                    rcases Int.lt_or_le i m with i2 | i2
                    · have yi := hy8 i.toNat (by omega)
                      rw [show ys.getD i.toNat 0 = ys.getD (0 + mulN i.toNat (Try.prog.types[3]).size) 0 by rw [em, Nat.zero_add]] at yi
                      repeat' ((conv => whnf); first | (refine ask_true (by omega) ?_) | (refine ask_false (by omega) ?_) | (refine And.intro (by omega) ?_) | (refine fun (_ : InK _ _) => ?_) | (refine ask_wrap64 (by omega) (by omega) ?_) | (refine ⟨by kernel_rfl, ?_⟩) | fail)
                      conv => whnf
                      exact ⟨(m - (i + 1)).toNat, i + 1, by omega, ⟨by omega, by omega, rfl⟩, rfl, ⟨⟨Nat.le_of_ble_eq_true rfl, rfl⟩, ⟨Nat.le_of_ble_eq_true rfl, rfl⟩, trivial⟩, ⟨rfl, rfl, trivial⟩, rfl, rfl, Nat.le_of_ble_eq_true rfl⟩
                    · repeat' ((conv => whnf); first | (refine ask_true (by omega) ?_) | (refine ask_false (by omega) ?_) | fail)
                      conv => whnf
                      refine loop_at (17 :: 18 :: 19 :: List.range' 155 28) (fun k (i : Int) => 0 ≤ i ∧ i ≤ l ∧ k = (l - i).toNat ∧ (-8388608 * i ≤ dotA zs ys i.toNat ∧ dotA zs ys i.toNat ≤ 8388608 * i) ∧ 0 ≤ sqA ys i.toNat ∧ sqA ys i.toNat ≤ 64 * i) (fun i => [(17, vi (dotA zs ys i.toNat)), (18, vi (sqA ys i.toNat)), (19, vi i)]) (fun _ => [.ro [.ints .i64 zs.length zs], .ro [.ints .i64 ys.length ys]]) l 0 ⟨by decide, by omega, by omega, by show -8388608 * 0 ≤ (0 : Int) ∧ (0 : Int) ≤ 8388608 * 0; decide, by show (0 : Int) ≤ 0 ∧ (0 : Int) ≤ 64 * 0; decide⟩ ?_ ?_
                      · exact ⟨rfl, ⟨⟨Nat.le_of_ble_eq_true rfl, rfl⟩, ⟨Nat.le_of_ble_eq_true rfl, rfl⟩, ⟨Nat.le_of_ble_eq_true rfl, rfl⟩, trivial⟩, ⟨rfl, rfl, trivial⟩, rfl, rfl, Nat.le_of_ble_eq_true rfl⟩
                      · rintro _ i ⟨p0, p1, rfl, p3, p4⟩
                        have ei := em i
                        rcases Int.lt_or_le i l with p2 | p2
                        · have xat : zs.getD (0 + mulN i.toNat (Try.prog.types[3]).size) 0 = zs.getD i.toNat 0 := by rw [em, Nat.zero_add]
                          have yat : ys.getD (0 + mulN i.toNat (Try.prog.types[3]).size) 0 = ys.getD i.toNat 0 := by rw [em, Nat.zero_add]
                          have xb := hx20 i.toNat (by omega)
                          rw [← xat] at xb
                          have yb := hy8 i.toNat (by omega)
                          rw [← yat] at yb
                          have pb := prod_bound xb.1 xb.2 yb.1 yb.2
                          have qb := prod_bound yb.1 yb.2 yb.1 yb.2
                          have q0 := sq_nn (ys.getD (0 + mulN i.toNat (Try.prog.types[3]).size) 0)
                          have hs : dotA zs ys (i + 1).toNat = dotA zs ys i.toNat + zs.getD (0 + mulN i.toNat (Try.prog.types[3]).size) 0 * ys.getD (0 + mulN i.toNat (Try.prog.types[3]).size) 0 := by rw [show (i + 1).toNat = i.toNat + 1 by omega, xat, yat]; rfl
                          have ht : sqA ys (i + 1).toNat = sqA ys i.toNat + ys.getD (0 + mulN i.toNat (Try.prog.types[3]).size) 0 * ys.getD (0 + mulN i.toNat (Try.prog.types[3]).size) 0 := by rw [show (i + 1).toNat = i.toNat + 1 by omega, yat]; rfl
                          repeat' ((conv => whnf); first | (refine ask_true (by omega) ?_) | (refine ask_false (by omega) ?_) | (refine And.intro (by omega) ?_) | (refine fun (_ : InK _ _) => ?_) | (refine ask_wrap64 (by omega) (by omega) ?_) | (refine ⟨by kernel_rfl, ?_⟩) | fail)
                          conv => whnf
                          exact ⟨(l - (i + 1)).toNat, i + 1, by omega, ⟨by omega, by omega, rfl, by rw [hs]; omega, by rw [ht]; omega⟩, rfl, ⟨⟨Nat.le_of_ble_eq_true rfl, congrArg vi hs.symm⟩, ⟨Nat.le_of_ble_eq_true rfl, congrArg vi ht.symm⟩, ⟨Nat.le_of_ble_eq_true rfl, rfl⟩, trivial⟩, ⟨rfl, rfl, trivial⟩, rfl, rfl, Nat.le_of_ble_eq_true rfl⟩
                        · have e : i.toNat = l := by omega
                          have e1 : dotA zs ys l = dotA zs ys i.toNat := by rw [e]
                          have e2 : sqA ys l = sqA ys i.toNat := by rw [e]
                          repeat' ((conv => whnf); first | (refine ask_true (by omega) ?_) | (refine ask_false (by omega) ?_) | rfl | fail)
                · by_cases hml : m = l
                  · have hb0 : True := trivial
                    repeat' ((conv => whnf); first | (refine And.intro ⟨rfl, rfl⟩ ?_) | (refine And.intro rfl ?_) | (refine And.intro (fun h => absurd h hg) (fun _ => ?_)) | (refine ask_true (by omega) ?_) | (refine ask_false (by omega) ?_) | fail)
                    conv => whnf
                    refine loop_at2 (15 :: 16 :: List.range' 126 21) (fun k (i : Int) (b : Bool) => 0 ≤ i ∧ i ≤ m ∧ b = okB ys true i.toNat ∧ k = (m - i).toNat) (fun i b => [(15, vb b), (16, vi i)]) (fun _ _ => [.ro [.ints .i64 zs.length zs], .ro [.ints .i64 ys.length ys]]) m 0 true ⟨by decide, by omega, rfl, by omega⟩ ?_ ?_
                    · exact ⟨rfl, ⟨⟨Nat.le_of_ble_eq_true rfl, rfl⟩, ⟨Nat.le_of_ble_eq_true rfl, rfl⟩, trivial⟩, ⟨rfl, rfl, trivial⟩, rfl, rfl, Nat.le_of_ble_eq_true rfl⟩
                    · rintro _ i b ⟨i0, i1, hb, rfl⟩
                      have ei := em i
                      rcases Int.lt_or_le i m with i2 | i2
                      · have yat : ys.getD (0 + mulN i.toNat (Try.prog.types[3]).size) 0 = ys.getD i.toNat 0 := by rw [em, Nat.zero_add]
                        have on := ok_next ys true i0
                        rw [← hb] at on
                        cases b
                        · repeat' ((conv => whnf); first | (refine ask_true (by omega) ?_) | (refine ask_false (by omega) ?_) | (refine And.intro (by omega) ?_) | (refine fun (_ : InK _ _) => ?_) | (refine ask_wrap64 (by omega) (by omega) ?_) | (refine ⟨by kernel_rfl, ?_⟩) | fail)
                          conv => whnf
                          refine ⟨(m - (i + 1)).toNat, (i + 1, false), by omega, ⟨by show 0 ≤ i + 1; omega, by show i + 1 ≤ (m : Int); omega, ?_, rfl⟩, rfl, ⟨⟨Nat.le_of_ble_eq_true rfl, rfl⟩, ⟨Nat.le_of_ble_eq_true rfl, rfl⟩, trivial⟩, ⟨rfl, rfl, trivial⟩, rfl, rfl, Nat.le_of_ble_eq_true rfl⟩
                          show false = _; rw [on]; rfl
                        · repeat' ((conv => whnf); first | (refine ask_true (by omega) ?_) | (refine And.intro (by omega) ?_) | (refine fun (_ : InK _ _) => ?_) | (refine ask_wrap64 (by omega) (by omega) ?_) | (refine ⟨by kernel_rfl, ?_⟩) | fail)
                          conv => whnf
                          refine ask_split (fun hs => ?_) (fun hs => ?_)
                          · repeat' ((conv => whnf); first | (refine And.intro (by omega) ?_) | (refine fun (_ : InK _ _) => ?_) | (refine ask_wrap64 (by omega) (by omega) ?_) | (refine ⟨by kernel_rfl, ?_⟩) | fail)
                            conv => whnf
                            refine ask_split (fun hs2 => ?_) (fun hs2 => ?_)
                            · repeat' ((conv => whnf); first | (refine And.intro (by omega) ?_) | (refine fun (_ : InK _ _) => ?_) | (refine ask_wrap64 (by omega) (by omega) ?_) | (refine ⟨by kernel_rfl, ?_⟩) | fail)
                              conv => whnf
                              refine ⟨(m - (i + 1)).toNat, (i + 1, true), by omega, ⟨by show 0 ≤ i + 1; omega, by show i + 1 ≤ (m : Int); omega, ?_, rfl⟩, rfl, ⟨⟨Nat.le_of_ble_eq_true rfl, rfl⟩, ⟨Nat.le_of_ble_eq_true rfl, rfl⟩, trivial⟩, ⟨rfl, rfl, trivial⟩, rfl, rfl, Nat.le_of_ble_eq_true rfl⟩
                              show true = _; rw [on]; rw [yat] at hs hs2; exact and3_t hs hs2
                            · repeat' ((conv => whnf); first | (refine And.intro (by omega) ?_) | (refine fun (_ : InK _ _) => ?_) | (refine ask_wrap64 (by omega) (by omega) ?_) | (refine ⟨by kernel_rfl, ?_⟩) | fail)
                              conv => whnf
                              refine ⟨(m - (i + 1)).toNat, (i + 1, false), by omega, ⟨by show 0 ≤ i + 1; omega, by show i + 1 ≤ (m : Int); omega, ?_, rfl⟩, rfl, ⟨⟨Nat.le_of_ble_eq_true rfl, rfl⟩, ⟨Nat.le_of_ble_eq_true rfl, rfl⟩, trivial⟩, ⟨rfl, rfl, trivial⟩, rfl, rfl, Nat.le_of_ble_eq_true rfl⟩
                              show false = _; rw [on]; rw [yat] at hs hs2; exact and3_g hs2
                          · repeat' ((conv => whnf); first | (refine ask_true (by omega) ?_) | (refine ask_false (by omega) ?_) | (refine And.intro (by omega) ?_) | (refine fun (_ : InK _ _) => ?_) | (refine ask_wrap64 (by omega) (by omega) ?_) | (refine ⟨by kernel_rfl, ?_⟩) | fail)
                            conv => whnf
                            refine ⟨(m - (i + 1)).toNat, (i + 1, false), by omega, ⟨by show 0 ≤ i + 1; omega, by show i + 1 ≤ (m : Int); omega, ?_, rfl⟩, rfl, ⟨⟨Nat.le_of_ble_eq_true rfl, rfl⟩, ⟨Nat.le_of_ble_eq_true rfl, rfl⟩, trivial⟩, ⟨rfl, rfl, trivial⟩, rfl, rfl, Nat.le_of_ble_eq_true rfl⟩
                            show false = _; rw [on]; rw [yat] at hs; exact and3_f hs
                      · cases b
                        · repeat' ((conv => whnf); first | (refine ask_true (by omega) ?_) | (refine ask_false (by omega) ?_) | (refine ask_true (by decide) ?_) | rfl | fail)
                        · exact absurd (by rw [goodC_def]; exact ⟨hr0, hml, ok_all (by rw [hb, show i.toNat = m by omega])⟩) hg
                  · have hb0 : True := trivial
                    repeat' ((conv => whnf); first | (refine And.intro ⟨rfl, rfl⟩ ?_) | (refine And.intro rfl ?_) | (refine And.intro (fun h => absurd h hg) (fun _ => ?_)) | (refine ask_true (by omega) ?_) | (refine ask_false (by omega) ?_) | fail)
                    conv => whnf
                    refine loop_at2 (15 :: 16 :: List.range' 126 21) (fun k (i : Int) (b : Bool) => 0 ≤ i ∧ i ≤ m ∧ b = okB ys false i.toNat ∧ k = (m - i).toNat) (fun i b => [(15, vb b), (16, vi i)]) (fun _ _ => [.ro [.ints .i64 zs.length zs], .ro [.ints .i64 ys.length ys]]) m 0 false ⟨by decide, by omega, rfl, by omega⟩ ?_ ?_
                    · exact ⟨rfl, ⟨⟨Nat.le_of_ble_eq_true rfl, rfl⟩, ⟨Nat.le_of_ble_eq_true rfl, rfl⟩, trivial⟩, ⟨rfl, rfl, trivial⟩, rfl, rfl, Nat.le_of_ble_eq_true rfl⟩
                    · rintro _ i b ⟨i0, i1, hb, rfl⟩
                      have ei := em i
                      rcases Int.lt_or_le i m with i2 | i2
                      · have yat : ys.getD (0 + mulN i.toNat (Try.prog.types[3]).size) 0 = ys.getD i.toNat 0 := by rw [em, Nat.zero_add]
                        have on := ok_next ys false i0
                        rw [← hb] at on
                        cases b
                        · repeat' ((conv => whnf); first | (refine ask_true (by omega) ?_) | (refine ask_false (by omega) ?_) | (refine And.intro (by omega) ?_) | (refine fun (_ : InK _ _) => ?_) | (refine ask_wrap64 (by omega) (by omega) ?_) | (refine ⟨by kernel_rfl, ?_⟩) | fail)
                          conv => whnf
                          refine ⟨(m - (i + 1)).toNat, (i + 1, false), by omega, ⟨by show 0 ≤ i + 1; omega, by show i + 1 ≤ (m : Int); omega, ?_, rfl⟩, rfl, ⟨⟨Nat.le_of_ble_eq_true rfl, rfl⟩, ⟨Nat.le_of_ble_eq_true rfl, rfl⟩, trivial⟩, ⟨rfl, rfl, trivial⟩, rfl, rfl, Nat.le_of_ble_eq_true rfl⟩
                          show false = _; rw [on]; rfl
                        · repeat' ((conv => whnf); first | (refine ask_true (by omega) ?_) | (refine And.intro (by omega) ?_) | (refine fun (_ : InK _ _) => ?_) | (refine ask_wrap64 (by omega) (by omega) ?_) | (refine ⟨by kernel_rfl, ?_⟩) | fail)
                          conv => whnf
                          refine ask_split (fun hs => ?_) (fun hs => ?_)
                          · repeat' ((conv => whnf); first | (refine And.intro (by omega) ?_) | (refine fun (_ : InK _ _) => ?_) | (refine ask_wrap64 (by omega) (by omega) ?_) | (refine ⟨by kernel_rfl, ?_⟩) | fail)
                            conv => whnf
                            refine ask_split (fun hs2 => ?_) (fun hs2 => ?_)
                            · repeat' ((conv => whnf); first | (refine And.intro (by omega) ?_) | (refine fun (_ : InK _ _) => ?_) | (refine ask_wrap64 (by omega) (by omega) ?_) | (refine ⟨by kernel_rfl, ?_⟩) | fail)
                              conv => whnf
                              refine ⟨(m - (i + 1)).toNat, (i + 1, true), by omega, ⟨by show 0 ≤ i + 1; omega, by show i + 1 ≤ (m : Int); omega, ?_, rfl⟩, rfl, ⟨⟨Nat.le_of_ble_eq_true rfl, rfl⟩, ⟨Nat.le_of_ble_eq_true rfl, rfl⟩, trivial⟩, ⟨rfl, rfl, trivial⟩, rfl, rfl, Nat.le_of_ble_eq_true rfl⟩
                              show true = _; rw [on]; rw [yat] at hs hs2; exact and3_t hs hs2
                            · repeat' ((conv => whnf); first | (refine And.intro (by omega) ?_) | (refine fun (_ : InK _ _) => ?_) | (refine ask_wrap64 (by omega) (by omega) ?_) | (refine ⟨by kernel_rfl, ?_⟩) | fail)
                              conv => whnf
                              refine ⟨(m - (i + 1)).toNat, (i + 1, false), by omega, ⟨by show 0 ≤ i + 1; omega, by show i + 1 ≤ (m : Int); omega, ?_, rfl⟩, rfl, ⟨⟨Nat.le_of_ble_eq_true rfl, rfl⟩, ⟨Nat.le_of_ble_eq_true rfl, rfl⟩, trivial⟩, ⟨rfl, rfl, trivial⟩, rfl, rfl, Nat.le_of_ble_eq_true rfl⟩
                              show false = _; rw [on]; rw [yat] at hs hs2; exact and3_g hs2
                          · repeat' ((conv => whnf); first | (refine ask_true (by omega) ?_) | (refine ask_false (by omega) ?_) | (refine And.intro (by omega) ?_) | (refine fun (_ : InK _ _) => ?_) | (refine ask_wrap64 (by omega) (by omega) ?_) | (refine ⟨by kernel_rfl, ?_⟩) | fail)
                            conv => whnf
                            refine ⟨(m - (i + 1)).toNat, (i + 1, false), by omega, ⟨by show 0 ≤ i + 1; omega, by show i + 1 ≤ (m : Int); omega, ?_, rfl⟩, rfl, ⟨⟨Nat.le_of_ble_eq_true rfl, rfl⟩, ⟨Nat.le_of_ble_eq_true rfl, rfl⟩, trivial⟩, ⟨rfl, rfl, trivial⟩, rfl, rfl, Nat.le_of_ble_eq_true rfl⟩
                            show false = _; rw [on]; rw [yat] at hs; exact and3_f hs
                      · cases b
                        · repeat' ((conv => whnf); first | (refine ask_true (by omega) ?_) | (refine ask_false (by omega) ?_) | (refine ask_true (by decide) ?_) | rfl | fail)
                        · exact absurd hb (by rw [ok_false]; decide)
              · repeat' ((conv => whnf); first | (refine And.intro ⟨rfl, rfl⟩ ?_) | (refine And.intro rfl ?_) | (refine And.intro (fun _ => ?_) (fun h => absurd h hnk)) | (refine ask_true (by omega) ?_) | (refine ask_false (by omega) ?_) | (refine ask_true (by decide) ?_) | (refine ask_false (by decide) ?_) | fail)
                by_cases hg : goodC zs ys l m
                · have hg' := hg
                  rw [goodC_def] at hg'
                  have hy8 : ∀ j, j < m → -8 ≤ ys.getD j 0 ∧ ys.getD j 0 ≤ 8 := fun j hj => by have := hg'.2.2 j hj; unfold bad8 at this; omega
                  have hml := hg'.2.1
                  repeat' ((conv => whnf); first | (refine And.intro ⟨rfl, rfl⟩ ?_) | (refine And.intro rfl ?_) | (refine And.intro (fun _ => ?_) (fun h => absurd hg h)) | (refine ask_true (by omega) ?_) | (refine ask_false (by omega) ?_) | fail)
                  conv => whnf
                  refine loop_at (15 :: 16 :: List.range' 126 21) (fun k (i : Int) => 0 ≤ i ∧ i ≤ m ∧ k = (m - i).toNat) (fun i => [(15, vb true), (16, vi i)]) (fun _ => [.ro [.ints .i64 zs.length zs], .ro [.ints .i64 ys.length ys]]) m 0 ⟨by decide, by omega, by omega⟩ ?_ ?_
                  · exact ⟨rfl, ⟨⟨Nat.le_of_ble_eq_true rfl, rfl⟩, ⟨Nat.le_of_ble_eq_true rfl, rfl⟩, trivial⟩, ⟨rfl, rfl, trivial⟩, rfl, rfl, Nat.le_of_ble_eq_true rfl⟩
                  · rintro _ i ⟨i0, i1, rfl⟩
                    have ei := em i
                    rcases Int.lt_or_le i m with i2 | i2
                    · have yi := hy8 i.toNat (by omega)
                      rw [show ys.getD i.toNat 0 = ys.getD (0 + mulN i.toNat (Try.prog.types[3]).size) 0 by rw [em, Nat.zero_add]] at yi
                      repeat' ((conv => whnf); first | (refine ask_true (by omega) ?_) | (refine ask_false (by omega) ?_) | (refine And.intro (by omega) ?_) | (refine fun (_ : InK _ _) => ?_) | (refine ask_wrap64 (by omega) (by omega) ?_) | (refine ⟨by kernel_rfl, ?_⟩) | fail)
                      conv => whnf
                      exact ⟨(m - (i + 1)).toNat, i + 1, by omega, ⟨by omega, by omega, rfl⟩, rfl, ⟨⟨Nat.le_of_ble_eq_true rfl, rfl⟩, ⟨Nat.le_of_ble_eq_true rfl, rfl⟩, trivial⟩, ⟨rfl, rfl, trivial⟩, rfl, rfl, Nat.le_of_ble_eq_true rfl⟩
                    · repeat' ((conv => whnf); first | (refine ask_true (by omega) ?_) | (refine ask_false (by omega) ?_) | fail)
                      conv => whnf
                      refine loop_at (17 :: 18 :: 19 :: List.range' 155 28) (fun k (i : Int) => 0 ≤ i ∧ i ≤ l ∧ k = (l - i).toNat ∧ (-8388608 * i ≤ dotA zs ys i.toNat ∧ dotA zs ys i.toNat ≤ 8388608 * i) ∧ 0 ≤ sqA ys i.toNat ∧ sqA ys i.toNat ≤ 64 * i) (fun i => [(17, vi (dotA zs ys i.toNat)), (18, vi (sqA ys i.toNat)), (19, vi i)]) (fun _ => [.ro [.ints .i64 zs.length zs], .ro [.ints .i64 ys.length ys]]) l 0 ⟨by decide, by omega, by omega, by show -8388608 * 0 ≤ (0 : Int) ∧ (0 : Int) ≤ 8388608 * 0; decide, by show (0 : Int) ≤ 0 ∧ (0 : Int) ≤ 64 * 0; decide⟩ ?_ ?_
                      · exact ⟨rfl, ⟨⟨Nat.le_of_ble_eq_true rfl, rfl⟩, ⟨Nat.le_of_ble_eq_true rfl, rfl⟩, ⟨Nat.le_of_ble_eq_true rfl, rfl⟩, trivial⟩, ⟨rfl, rfl, trivial⟩, rfl, rfl, Nat.le_of_ble_eq_true rfl⟩
                      · rintro _ i ⟨p0, p1, rfl, p3, p4⟩
                        have ei := em i
                        rcases Int.lt_or_le i l with p2 | p2
                        · have xat : zs.getD (0 + mulN i.toNat (Try.prog.types[3]).size) 0 = zs.getD i.toNat 0 := by rw [em, Nat.zero_add]
                          have yat : ys.getD (0 + mulN i.toNat (Try.prog.types[3]).size) 0 = ys.getD i.toNat 0 := by rw [em, Nat.zero_add]
                          have xb := hx20 i.toNat (by omega)
                          rw [← xat] at xb
                          have yb := hy8 i.toNat (by omega)
                          rw [← yat] at yb
                          have pb := prod_bound xb.1 xb.2 yb.1 yb.2
                          have qb := prod_bound yb.1 yb.2 yb.1 yb.2
                          have q0 := sq_nn (ys.getD (0 + mulN i.toNat (Try.prog.types[3]).size) 0)
                          have hs : dotA zs ys (i + 1).toNat = dotA zs ys i.toNat + zs.getD (0 + mulN i.toNat (Try.prog.types[3]).size) 0 * ys.getD (0 + mulN i.toNat (Try.prog.types[3]).size) 0 := by rw [show (i + 1).toNat = i.toNat + 1 by omega, xat, yat]; rfl
                          have ht : sqA ys (i + 1).toNat = sqA ys i.toNat + ys.getD (0 + mulN i.toNat (Try.prog.types[3]).size) 0 * ys.getD (0 + mulN i.toNat (Try.prog.types[3]).size) 0 := by rw [show (i + 1).toNat = i.toNat + 1 by omega, yat]; rfl
                          repeat' ((conv => whnf); first | (refine ask_true (by omega) ?_) | (refine ask_false (by omega) ?_) | (refine And.intro (by omega) ?_) | (refine fun (_ : InK _ _) => ?_) | (refine ask_wrap64 (by omega) (by omega) ?_) | (refine ⟨by kernel_rfl, ?_⟩) | fail)
                          conv => whnf
                          exact ⟨(l - (i + 1)).toNat, i + 1, by omega, ⟨by omega, by omega, rfl, by rw [hs]; omega, by rw [ht]; omega⟩, rfl, ⟨⟨Nat.le_of_ble_eq_true rfl, congrArg vi hs.symm⟩, ⟨Nat.le_of_ble_eq_true rfl, congrArg vi ht.symm⟩, ⟨Nat.le_of_ble_eq_true rfl, rfl⟩, trivial⟩, ⟨rfl, rfl, trivial⟩, rfl, rfl, Nat.le_of_ble_eq_true rfl⟩
                        · have e : i.toNat = l := by omega
                          have e1 : dotA zs ys l = dotA zs ys i.toNat := by rw [e]
                          have e2 : sqA ys l = sqA ys i.toNat := by rw [e]
                          repeat' ((conv => whnf); first | (refine ask_true (by omega) ?_) | (refine ask_false (by omega) ?_) | rfl | fail)
                · by_cases hml : m = l
                  · have hb0 : True := trivial
                    repeat' ((conv => whnf); first | (refine And.intro ⟨rfl, rfl⟩ ?_) | (refine And.intro rfl ?_) | (refine And.intro (fun h => absurd h hg) (fun _ => ?_)) | (refine ask_true (by omega) ?_) | (refine ask_false (by omega) ?_) | fail)
                    conv => whnf
                    refine loop_at2 (15 :: 16 :: List.range' 126 21) (fun k (i : Int) (b : Bool) => 0 ≤ i ∧ i ≤ m ∧ b = okB ys true i.toNat ∧ k = (m - i).toNat) (fun i b => [(15, vb b), (16, vi i)]) (fun _ _ => [.ro [.ints .i64 zs.length zs], .ro [.ints .i64 ys.length ys]]) m 0 true ⟨by decide, by omega, rfl, by omega⟩ ?_ ?_
                    · exact ⟨rfl, ⟨⟨Nat.le_of_ble_eq_true rfl, rfl⟩, ⟨Nat.le_of_ble_eq_true rfl, rfl⟩, trivial⟩, ⟨rfl, rfl, trivial⟩, rfl, rfl, Nat.le_of_ble_eq_true rfl⟩
                    · rintro _ i b ⟨i0, i1, hb, rfl⟩
                      have ei := em i
                      rcases Int.lt_or_le i m with i2 | i2
                      · have yat : ys.getD (0 + mulN i.toNat (Try.prog.types[3]).size) 0 = ys.getD i.toNat 0 := by rw [em, Nat.zero_add]
                        have on := ok_next ys true i0
                        rw [← hb] at on
                        cases b
                        · repeat' ((conv => whnf); first | (refine ask_true (by omega) ?_) | (refine ask_false (by omega) ?_) | (refine And.intro (by omega) ?_) | (refine fun (_ : InK _ _) => ?_) | (refine ask_wrap64 (by omega) (by omega) ?_) | (refine ⟨by kernel_rfl, ?_⟩) | fail)
                          conv => whnf
                          refine ⟨(m - (i + 1)).toNat, (i + 1, false), by omega, ⟨by show 0 ≤ i + 1; omega, by show i + 1 ≤ (m : Int); omega, ?_, rfl⟩, rfl, ⟨⟨Nat.le_of_ble_eq_true rfl, rfl⟩, ⟨Nat.le_of_ble_eq_true rfl, rfl⟩, trivial⟩, ⟨rfl, rfl, trivial⟩, rfl, rfl, Nat.le_of_ble_eq_true rfl⟩
                          show false = _; rw [on]; rfl
                        · repeat' ((conv => whnf); first | (refine ask_true (by omega) ?_) | (refine And.intro (by omega) ?_) | (refine fun (_ : InK _ _) => ?_) | (refine ask_wrap64 (by omega) (by omega) ?_) | (refine ⟨by kernel_rfl, ?_⟩) | fail)
                          conv => whnf
                          refine ask_split (fun hs => ?_) (fun hs => ?_)
                          · repeat' ((conv => whnf); first | (refine And.intro (by omega) ?_) | (refine fun (_ : InK _ _) => ?_) | (refine ask_wrap64 (by omega) (by omega) ?_) | (refine ⟨by kernel_rfl, ?_⟩) | fail)
                            conv => whnf
                            refine ask_split (fun hs2 => ?_) (fun hs2 => ?_)
                            · repeat' ((conv => whnf); first | (refine And.intro (by omega) ?_) | (refine fun (_ : InK _ _) => ?_) | (refine ask_wrap64 (by omega) (by omega) ?_) | (refine ⟨by kernel_rfl, ?_⟩) | fail)
                              conv => whnf
                              refine ⟨(m - (i + 1)).toNat, (i + 1, true), by omega, ⟨by show 0 ≤ i + 1; omega, by show i + 1 ≤ (m : Int); omega, ?_, rfl⟩, rfl, ⟨⟨Nat.le_of_ble_eq_true rfl, rfl⟩, ⟨Nat.le_of_ble_eq_true rfl, rfl⟩, trivial⟩, ⟨rfl, rfl, trivial⟩, rfl, rfl, Nat.le_of_ble_eq_true rfl⟩
                              show true = _; rw [on]; rw [yat] at hs hs2; exact and3_t hs hs2
                            · repeat' ((conv => whnf); first | (refine And.intro (by omega) ?_) | (refine fun (_ : InK _ _) => ?_) | (refine ask_wrap64 (by omega) (by omega) ?_) | (refine ⟨by kernel_rfl, ?_⟩) | fail)
                              conv => whnf
                              refine ⟨(m - (i + 1)).toNat, (i + 1, false), by omega, ⟨by show 0 ≤ i + 1; omega, by show i + 1 ≤ (m : Int); omega, ?_, rfl⟩, rfl, ⟨⟨Nat.le_of_ble_eq_true rfl, rfl⟩, ⟨Nat.le_of_ble_eq_true rfl, rfl⟩, trivial⟩, ⟨rfl, rfl, trivial⟩, rfl, rfl, Nat.le_of_ble_eq_true rfl⟩
                              show false = _; rw [on]; rw [yat] at hs hs2; exact and3_g hs2
                          · repeat' ((conv => whnf); first | (refine ask_true (by omega) ?_) | (refine ask_false (by omega) ?_) | (refine And.intro (by omega) ?_) | (refine fun (_ : InK _ _) => ?_) | (refine ask_wrap64 (by omega) (by omega) ?_) | (refine ⟨by kernel_rfl, ?_⟩) | fail)
                            conv => whnf
                            refine ⟨(m - (i + 1)).toNat, (i + 1, false), by omega, ⟨by show 0 ≤ i + 1; omega, by show i + 1 ≤ (m : Int); omega, ?_, rfl⟩, rfl, ⟨⟨Nat.le_of_ble_eq_true rfl, rfl⟩, ⟨Nat.le_of_ble_eq_true rfl, rfl⟩, trivial⟩, ⟨rfl, rfl, trivial⟩, rfl, rfl, Nat.le_of_ble_eq_true rfl⟩
                            show false = _; rw [on]; rw [yat] at hs; exact and3_f hs
                      · cases b
                        · repeat' ((conv => whnf); first | (refine ask_true (by omega) ?_) | (refine ask_false (by omega) ?_) | (refine ask_true (by decide) ?_) | rfl | fail)
                        · exact absurd (by rw [goodC_def]; exact ⟨hr0, hml, ok_all (by rw [hb, show i.toNat = m by omega])⟩) hg
                  · have hb0 : True := trivial
                    repeat' ((conv => whnf); first | (refine And.intro ⟨rfl, rfl⟩ ?_) | (refine And.intro rfl ?_) | (refine And.intro (fun h => absurd h hg) (fun _ => ?_)) | (refine ask_true (by omega) ?_) | (refine ask_false (by omega) ?_) | fail)
                    conv => whnf
                    refine loop_at2 (15 :: 16 :: List.range' 126 21) (fun k (i : Int) (b : Bool) => 0 ≤ i ∧ i ≤ m ∧ b = okB ys false i.toNat ∧ k = (m - i).toNat) (fun i b => [(15, vb b), (16, vi i)]) (fun _ _ => [.ro [.ints .i64 zs.length zs], .ro [.ints .i64 ys.length ys]]) m 0 false ⟨by decide, by omega, rfl, by omega⟩ ?_ ?_
                    · exact ⟨rfl, ⟨⟨Nat.le_of_ble_eq_true rfl, rfl⟩, ⟨Nat.le_of_ble_eq_true rfl, rfl⟩, trivial⟩, ⟨rfl, rfl, trivial⟩, rfl, rfl, Nat.le_of_ble_eq_true rfl⟩
                    · rintro _ i b ⟨i0, i1, hb, rfl⟩
                      have ei := em i
                      rcases Int.lt_or_le i m with i2 | i2
                      · have yat : ys.getD (0 + mulN i.toNat (Try.prog.types[3]).size) 0 = ys.getD i.toNat 0 := by rw [em, Nat.zero_add]
                        have on := ok_next ys false i0
                        rw [← hb] at on
                        cases b
                        · repeat' ((conv => whnf); first | (refine ask_true (by omega) ?_) | (refine ask_false (by omega) ?_) | (refine And.intro (by omega) ?_) | (refine fun (_ : InK _ _) => ?_) | (refine ask_wrap64 (by omega) (by omega) ?_) | (refine ⟨by kernel_rfl, ?_⟩) | fail)
                          conv => whnf
                          refine ⟨(m - (i + 1)).toNat, (i + 1, false), by omega, ⟨by show 0 ≤ i + 1; omega, by show i + 1 ≤ (m : Int); omega, ?_, rfl⟩, rfl, ⟨⟨Nat.le_of_ble_eq_true rfl, rfl⟩, ⟨Nat.le_of_ble_eq_true rfl, rfl⟩, trivial⟩, ⟨rfl, rfl, trivial⟩, rfl, rfl, Nat.le_of_ble_eq_true rfl⟩
                          show false = _; rw [on]; rfl
                        · repeat' ((conv => whnf); first | (refine ask_true (by omega) ?_) | (refine And.intro (by omega) ?_) | (refine fun (_ : InK _ _) => ?_) | (refine ask_wrap64 (by omega) (by omega) ?_) | (refine ⟨by kernel_rfl, ?_⟩) | fail)
                          conv => whnf
                          refine ask_split (fun hs => ?_) (fun hs => ?_)
                          · repeat' ((conv => whnf); first | (refine And.intro (by omega) ?_) | (refine fun (_ : InK _ _) => ?_) | (refine ask_wrap64 (by omega) (by omega) ?_) | (refine ⟨by kernel_rfl, ?_⟩) | fail)
                            conv => whnf
                            refine ask_split (fun hs2 => ?_) (fun hs2 => ?_)
                            · repeat' ((conv => whnf); first | (refine And.intro (by omega) ?_) | (refine fun (_ : InK _ _) => ?_) | (refine ask_wrap64 (by omega) (by omega) ?_) | (refine ⟨by kernel_rfl, ?_⟩) | fail)
                              conv => whnf
                              refine ⟨(m - (i + 1)).toNat, (i + 1, true), by omega, ⟨by show 0 ≤ i + 1; omega, by show i + 1 ≤ (m : Int); omega, ?_, rfl⟩, rfl, ⟨⟨Nat.le_of_ble_eq_true rfl, rfl⟩, ⟨Nat.le_of_ble_eq_true rfl, rfl⟩, trivial⟩, ⟨rfl, rfl, trivial⟩, rfl, rfl, Nat.le_of_ble_eq_true rfl⟩
                              show true = _; rw [on]; rw [yat] at hs hs2; exact and3_t hs hs2
                            · repeat' ((conv => whnf); first | (refine And.intro (by omega) ?_) | (refine fun (_ : InK _ _) => ?_) | (refine ask_wrap64 (by omega) (by omega) ?_) | (refine ⟨by kernel_rfl, ?_⟩) | fail)
                              conv => whnf
                              refine ⟨(m - (i + 1)).toNat, (i + 1, false), by omega, ⟨by show 0 ≤ i + 1; omega, by show i + 1 ≤ (m : Int); omega, ?_, rfl⟩, rfl, ⟨⟨Nat.le_of_ble_eq_true rfl, rfl⟩, ⟨Nat.le_of_ble_eq_true rfl, rfl⟩, trivial⟩, ⟨rfl, rfl, trivial⟩, rfl, rfl, Nat.le_of_ble_eq_true rfl⟩
                              show false = _; rw [on]; rw [yat] at hs hs2; exact and3_g hs2
                          · repeat' ((conv => whnf); first | (refine ask_true (by omega) ?_) | (refine ask_false (by omega) ?_) | (refine And.intro (by omega) ?_) | (refine fun (_ : InK _ _) => ?_) | (refine ask_wrap64 (by omega) (by omega) ?_) | (refine ⟨by kernel_rfl, ?_⟩) | fail)
                            conv => whnf
                            refine ⟨(m - (i + 1)).toNat, (i + 1, false), by omega, ⟨by show 0 ≤ i + 1; omega, by show i + 1 ≤ (m : Int); omega, ?_, rfl⟩, rfl, ⟨⟨Nat.le_of_ble_eq_true rfl, rfl⟩, ⟨Nat.le_of_ble_eq_true rfl, rfl⟩, trivial⟩, ⟨rfl, rfl, trivial⟩, rfl, rfl, Nat.le_of_ble_eq_true rfl⟩
                            show false = _; rw [on]; rw [yat] at hs; exact and3_f hs
                      · cases b
                        · repeat' ((conv => whnf); first | (refine ask_true (by omega) ?_) | (refine ask_false (by omega) ?_) | (refine ask_true (by decide) ?_) | rfl | fail)
                        · exact absurd hb (by rw [ok_false]; decide)
end Go.Proofs.Ytmkdamfdlkpjdaa
