/- Chapter shape: the law ShapePlays. -/
import Derived.Test.YtmkdamfdlkpjdaaCm
set_option linter.all false
namespace Go.Proofs.Ytmkdamfdlkpjdaa
open Go.RowKit (Below)
set_option maxRecDepth 100000
set_option maxHeartbeats 64000000

theorem plays_nil_nil (k : Int) (hk : InK .i64 k) : walk FPl 0 Try.f6 [.c .csn, i64 k, .c .csn] [] fun y _ => y = vb true := by
  repeat' ((conv => whnf); first | (refine ask_true (by decide) ?_) | (refine ask_false (by decide) ?_) | fail)
  conv => whnf
  refine loop_at (7 :: 8 :: List.range' 41 21) (fun m (i : Int) => i = 0 ∧ m = 0) (fun i => [(7, vb false), (8, vi i)]) (fun _ => []) 0 0 ⟨rfl, rfl⟩ ?_ ?_
  · exact ⟨rfl, ⟨⟨Nat.le_of_ble_eq_true rfl, rfl⟩, ⟨Nat.le_of_ble_eq_true rfl, rfl⟩, trivial⟩, trivial, rfl, rfl, Nat.le_of_ble_eq_true rfl⟩
  · rintro m i ⟨rfl, rfl⟩
    repeat' ((conv => whnf); first | (refine ask_true (by decide) ?_) | (refine ask_false (by decide) ?_) | fail)
    conv => whnf
    refine loop_at (15 :: 16 :: List.range' 126 21) (fun m (i : Int) => i = 0 ∧ m = 0) (fun i => [(15, vb false), (16, vi i)]) (fun _ => []) 0 0 ⟨rfl, rfl⟩ ?_ ?_
    · exact ⟨rfl, ⟨⟨Nat.le_of_ble_eq_true rfl, rfl⟩, ⟨Nat.le_of_ble_eq_true rfl, rfl⟩, trivial⟩, trivial, rfl, rfl, Nat.le_of_ble_eq_true rfl⟩
    · rintro m i ⟨rfl, rfl⟩
      repeat' ((conv => whnf); first | (refine ask_true (by decide) ?_) | (refine ask_false (by decide) ?_) | rfl | fail)
theorem plays_nil_row (k : Int) (hk : InK .i64 k) (ys : List Int) (m : Nat) : walk FPl 0 Try.f6 [.c .csn, i64 k, .c (.csl 0 0 0 m ys.length)] [.ro [.ints .i64 ys.length ys]] fun y _ => y = vb true := by
  by_cases big : 40 < m
  · repeat' ((conv => whnf); first | (refine ask_true (by omega) ?_) | (refine ask_false (by omega) ?_) | rfl | fail)
  · repeat' ((conv => whnf); first | (refine ask_true (by omega) ?_) | (refine ask_false (by omega) ?_) | fail)
    conv => whnf
    refine loop_at (7 :: 8 :: List.range' 41 21) (fun m (i : Int) => i = 0 ∧ m = 0) (fun i => [(7, vb false), (8, vi i)]) (fun _ => [.ro [.ints .i64 ys.length ys]]) 0 0 ⟨rfl, rfl⟩ ?_ ?_
    · exact ⟨rfl, ⟨⟨Nat.le_of_ble_eq_true rfl, rfl⟩, ⟨Nat.le_of_ble_eq_true rfl, rfl⟩, trivial⟩, ⟨rfl, trivial⟩, rfl, rfl, Nat.le_of_ble_eq_true rfl⟩
    · rintro _ i ⟨rfl, rfl⟩
      repeat' ((conv => whnf); first | (refine And.intro ⟨rfl, rfl⟩ ?_) | (refine And.intro rfl ?_) | (refine ask_true (by decide) ?_) | (refine ask_false (by decide) ?_) | fail)
      conv => whnf
      refine loop_at (15 :: 16 :: List.range' 126 21) (fun k (i : Int) => 0 ≤ i ∧ i ≤ m ∧ k = (m - i).toNat) (fun i => [(15, vb false), (16, vi i)]) (fun _ => [.ro [.ints .i64 ys.length ys]]) m 0 ⟨by decide, by omega, by omega⟩ ?_ ?_
      · exact ⟨rfl, ⟨⟨Nat.le_of_ble_eq_true rfl, rfl⟩, ⟨Nat.le_of_ble_eq_true rfl, rfl⟩, trivial⟩, ⟨rfl, trivial⟩, rfl, rfl, Nat.le_of_ble_eq_true rfl⟩
      · rintro _ i ⟨i0, i1, rfl⟩
        rcases Int.lt_or_le i m with i2 | i2
        · repeat' ((conv => whnf); first | (refine ask_true (by omega) ?_) | (refine ask_false (by omega) ?_) | (refine ask_wrap64 (by omega) (by omega) ?_) | fail)
          conv => whnf
          exact ⟨(m - (i + 1)).toNat, i + 1, by omega, ⟨by omega, by omega, rfl⟩, rfl, ⟨⟨Nat.le_of_ble_eq_true rfl, rfl⟩, ⟨Nat.le_of_ble_eq_true rfl, rfl⟩, trivial⟩, ⟨rfl, trivial⟩, rfl, rfl, Nat.le_of_ble_eq_true rfl⟩
        · repeat' ((conv => whnf); first | (refine ask_true (by omega) ?_) | (refine ask_false (by omega) ?_) | (refine ask_true (by decide) ?_) | rfl | fail)
theorem law_ShapePlays (W0 : World) (v : Value) (wv : SlIn .i64 W0 v) (k : Int) (hk : InK .i64 k) (u : Value) (wu : SlIn .i64 W0 u) : Calls Try.prog 6 #[v, .int .i64 k, u] W0 fun e w' => e = .returned (.bool true) ∧ Below W0.heap.size W0 w' := by
  rcases wv with rfl | ⟨b, o, len, cap, zs, rfl, hl, hc, hbw, hz, hx, hcell⟩
  · rcases wu with rfl | ⟨b', o', len', cap', ys, rfl, hl', hc', hbw', hz', hx', hcell'⟩
    · exact walk_true (ws := [.c .csn, i64 k, .c .csn]) FPl_ok Try.func6 ⟨trivial, hk, trivial, trivial⟩ rfl (plays_nil_nil k hk) W0
    · subst hz'
      exact walk_true_ro (ws := [.c .csn, i64 k, .c (.csl 0 0 0 len' ys.length)]) FPl_ok Try.func6 ⟨trivial, hk, ⟨hl', hc'⟩, trivial⟩ rfl (plays_nil_row k hk ys len') (ro_ok hx') (fun _ => (b', o')) W0 (by
        intro j c hj
        match j, hj with
        | 0, hj => simp at hj; subst hj; exact ⟨rfl, ro_of_slIn rfl hbw' hcell'⟩
        | j + 1, hj => simp at hj)
  · subst hz
    rcases wu with rfl | ⟨b', o', len', cap', ys, rfl, hl', hc', hbw', hz', hx', hcell'⟩
    · exact walk_true_ro (ws := [.c (.csl 0 0 0 len zs.length), i64 k, .c .csn]) FPl_ok Try.func6 ⟨⟨hl, hc⟩, hk, trivial, trivial⟩ rfl (plays_row_nil zs len hl hc hx k hk) (ro_ok hx) (fun _ => (b, o)) W0 (by
        intro j c hj
        match j, hj with
        | 0, hj => simp at hj; subst hj; exact ⟨rfl, ro_of_slIn rfl hbw hcell⟩
        | j + 1, hj => simp at hj)
    · subst hz'
      exact walk_true_ro (ws := [.c (.csl 0 0 0 len zs.length), i64 k, .c (.csl 1 0 0 len' ys.length)]) FPl_ok Try.func6 ⟨⟨hl, hc⟩, hk, ⟨hl', hc'⟩, trivial⟩ rfl (plays_row zs len hl hc hx k hk ys len' hl' hc' hx') (ro_ok2 hx hx') (fun j => if j = 0 then (b, o) else (b', o')) W0 (by
        intro j c hj
        match j, hj with
        | 0, hj => simp at hj; subst hj; exact ⟨rfl, ro_of_slIn (by rfl) hbw hcell⟩
        | 1, hj => simp at hj; subst hj; exact ⟨rfl, ro_of_slIn (by rfl) hbw' hcell'⟩
        | j + 2, hj => simp at hj)
end Go.Proofs.Ytmkdamfdlkpjdaa
