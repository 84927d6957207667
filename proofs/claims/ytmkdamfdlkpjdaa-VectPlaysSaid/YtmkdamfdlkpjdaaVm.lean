/- Chapter vect: the law VectPlays. -/
import Derived.Test.YtmkdamfdlkpjdaaVl
set_option linter.all false
namespace Go.Proofs.Ytmkdamfdlkpjdaa
open Go.RowKit (Below)
open Go.WideMaps
set_option maxRecDepth 100000
set_option maxHeartbeats 64000000

noncomputable def FY : Fns := ((((FZ.over 26 hPul).over 27 hRNum).plus 29 (ct2 (fun n k => (0 ≤ n ∧ n ≤ 8) ∧ 0 ≤ k ∧ k ≤ 8) cN)).plus 28 (ct2 (fun _ _ => True) bitS)).plus 30 (ct1 (fun x => 0 ≤ x) lenS)
theorem FY_ok : FnsOk Try.prog FY := ((((FZ_ok.over rpul_ct Try.func26 (by kernel_rfl) (by kernel_rfl)).over rnum_ct Try.func27 (by kernel_rfl) (by kernel_rfl)).plus rcount_ct Try.func29 (by kernel_rfl) (by kernel_rfl)).plus bits_ct Try.func28 (by kernel_rfl) (by kernel_rfl)).plus refLength_ct Try.func30 (by kernel_rfl) (by kernel_rfl)
theorem plays_nil (n k i : Int) (hn : InK .i64 n) (hk : InK .i64 k) (hi : InK .i64 i) : walk FY 0 Try.f13 [i64 n, i64 k, i64 i, .c .csn] [] fun y _ => y = vb true := by
  repeat' ((conv => whnf); first | (refine ask_false (by omega) ?_) | (refine ask_true rfl ?_) | (refine ask_false (by decide) ?_) | (refine ask_true (by omega) ?_) | fail)
  by_cases hr : (0 ≤ n ∧ n ≤ 8) ∧ 0 ≤ k ∧ k ≤ 8
  · have hc := cC_def n k
    rw [if_pos hr] at hc
    have hbi : bitS n k = lenS (max (cN n k - 1) 0) := by unfold bitS; rw [hc]
    have cb := cC_in n k
    by_cases hi : 0 ≤ i ∧ i < cC n k
    · conv => whnf
      refine And.intro (fun h => absurd hi h) fun _ A hA => And.intro (fun h => ?_) fun hne c rest h1 h2 h3 => ?_
      · repeat' ((conv => whnf); first | (refine ask_true (by omega) ?_) | (refine ask_false (by omega) ?_) | (refine And.intro trivial ?_) | (refine And.intro ⟨⟨by omega, by omega⟩, by omega, by omega⟩ ?_) | (refine And.intro (by omega) ?_) | (refine ask_wrap64 (by omega) (by omega) ?_) | (refine ask_true rfl ?_) | (refine ask_false (by decide) ?_) | (rfl) | fail)
      · repeat' ((conv => whnf); first | (refine ask_true (by omega) ?_) | (refine ask_false (by omega) ?_) | (refine And.intro trivial ?_) | (refine And.intro ⟨⟨by omega, by omega⟩, by omega, by omega⟩ ?_) | (refine And.intro (by omega) ?_) | (refine ask_wrap64 (by omega) (by omega) ?_) | (refine ask_true rfl ?_) | (refine ask_false (by decide) ?_) | (rfl) | fail)
    · conv => whnf
      refine And.intro (fun _ => ?_) (fun h => absurd h hi)
      rcases Int.lt_or_le i 0 with i0 | i0
      all_goals repeat' ((conv => whnf); first | (refine ask_true (by omega) ?_) | (refine ask_false (by omega) ?_) | (refine And.intro trivial ?_) | (refine And.intro ⟨⟨by omega, by omega⟩, by omega, by omega⟩ ?_) | (refine And.intro (by omega) ?_) | (refine ask_wrap64 (by omega) (by omega) ?_) | (refine ask_true rfl ?_) | (refine ask_false (by decide) ?_) | (rfl) | fail)
  · have hc := cC_def n k
    rw [if_neg hr] at hc
    have hbi : bitS n k = 0 := by unfold bitS; rw [hc]; exact len_zero (by decide)
    conv => whnf
    refine And.intro (fun _ => ?_) (fun h => by omega)
    rcases Int.lt_or_le n 0 with n0 | n0
    · repeat' ((conv => whnf); first | (refine ask_true (by omega) ?_) | (refine ask_false (by omega) ?_) | (refine And.intro trivial ?_) | (refine And.intro ⟨⟨by omega, by omega⟩, by omega, by omega⟩ ?_) | (refine And.intro (by omega) ?_) | (refine ask_wrap64 (by omega) (by omega) ?_) | (refine ask_true rfl ?_) | (refine ask_false (by decide) ?_) | (rfl) | fail)
    · rcases Int.lt_or_le 8 n with n8 | n8
      · repeat' ((conv => whnf); first | (refine ask_true (by omega) ?_) | (refine ask_false (by omega) ?_) | (refine And.intro trivial ?_) | (refine And.intro ⟨⟨by omega, by omega⟩, by omega, by omega⟩ ?_) | (refine And.intro (by omega) ?_) | (refine ask_wrap64 (by omega) (by omega) ?_) | (refine ask_true rfl ?_) | (refine ask_false (by decide) ?_) | (rfl) | fail)
      · rcases Int.lt_or_le k 0 with k0 | k0
        · repeat' ((conv => whnf); first | (refine ask_true (by omega) ?_) | (refine ask_false (by omega) ?_) | (refine And.intro trivial ?_) | (refine And.intro ⟨⟨by omega, by omega⟩, by omega, by omega⟩ ?_) | (refine And.intro (by omega) ?_) | (refine ask_wrap64 (by omega) (by omega) ?_) | (refine ask_true rfl ?_) | (refine ask_false (by decide) ?_) | (rfl) | fail)
        · repeat' ((conv => whnf); first | (refine ask_true (by omega) ?_) | (refine ask_false (by omega) ?_) | (refine And.intro trivial ?_) | (refine And.intro ⟨⟨by omega, by omega⟩, by omega, by omega⟩ ?_) | (refine And.intro (by omega) ?_) | (refine ask_wrap64 (by omega) (by omega) ?_) | (refine ask_true rfl ?_) | (refine ask_false (by decide) ?_) | (rfl) | fail)
theorem plays_row (zs : List Int) (l : Nat) (hl : l ≤ zs.length) (hc : zs.length ≤ 9223372036854775807) (n k i : Int) (hn : InK .i64 n) (hk : InK .i64 k) (hi : InK .i64 i) : walk FY 0 Try.f13 [i64 n, i64 k, i64 i, .c (.csl 0 0 0 l zs.length)] [.ro [.ints .i64 zs.length zs]] fun y _ => y = vb true := by
  by_cases h40 : 40 < l
  · repeat' ((conv => whnf); first | (refine ask_true (by omega) ?_) | (rfl) | fail)
  · by_cases hp : pulA zs l ≤ 8
    · repeat' ((conv => whnf); first | (refine ask_false (by omega) ?_) | (refine And.intro ⟨rfl, rfl⟩ ?_) | (refine And.intro rfl ?_) | (refine And.intro (fun _ => ?_) (fun h => absurd hp h)) | (refine And.intro hp ?_) | (refine ask_true rfl ?_) | (refine ask_false (by decide) ?_) | (refine ask_true (by omega) ?_) | fail)
      by_cases hr : (0 ≤ n ∧ n ≤ 8) ∧ 0 ≤ k ∧ k ≤ 8
      · have hc := cC_def n k
        rw [if_pos hr] at hc
        have hbi : bitS n k = lenS (max (cN n k - 1) 0) := by unfold bitS; rw [hc]
        have cb := cC_in n k
        by_cases hi : 0 ≤ i ∧ i < cC n k
        · conv => whnf
          refine And.intro (fun h => absurd hi h) fun _ A hA => And.intro (fun h => ?_) fun hne c rest h1 h2 h3 => ?_
          · repeat' ((conv => whnf); first | (refine ask_true (by omega) ?_) | (refine ask_false (by omega) ?_) | (refine And.intro trivial ?_) | (refine And.intro ⟨⟨by omega, by omega⟩, by omega, by omega⟩ ?_) | (refine And.intro (by omega) ?_) | (refine ask_wrap64 (by omega) (by omega) ?_) | (refine ask_true rfl ?_) | (refine ask_false (by decide) ?_) | (rfl) | fail)
          · repeat' ((conv => whnf); first | (refine ask_true (by omega) ?_) | (refine ask_false (by omega) ?_) | (refine And.intro trivial ?_) | (refine And.intro ⟨⟨by omega, by omega⟩, by omega, by omega⟩ ?_) | (refine And.intro (by omega) ?_) | (refine ask_wrap64 (by omega) (by omega) ?_) | (refine ask_true rfl ?_) | (refine ask_false (by decide) ?_) | (rfl) | fail)
        · conv => whnf
          refine And.intro (fun _ => ?_) (fun h => absurd h hi)
          rcases Int.lt_or_le i 0 with i0 | i0
          all_goals repeat' ((conv => whnf); first | (refine ask_true (by omega) ?_) | (refine ask_false (by omega) ?_) | (refine And.intro trivial ?_) | (refine And.intro ⟨⟨by omega, by omega⟩, by omega, by omega⟩ ?_) | (refine And.intro (by omega) ?_) | (refine ask_wrap64 (by omega) (by omega) ?_) | (refine ask_true rfl ?_) | (refine ask_false (by decide) ?_) | (rfl) | fail)
      · have hc := cC_def n k
        rw [if_neg hr] at hc
        have hbi : bitS n k = 0 := by unfold bitS; rw [hc]; exact len_zero (by decide)
        conv => whnf
        refine And.intro (fun _ => ?_) (fun h => by omega)
        rcases Int.lt_or_le n 0 with n0 | n0
        · repeat' ((conv => whnf); first | (refine ask_true (by omega) ?_) | (refine ask_false (by omega) ?_) | (refine And.intro trivial ?_) | (refine And.intro ⟨⟨by omega, by omega⟩, by omega, by omega⟩ ?_) | (refine And.intro (by omega) ?_) | (refine ask_wrap64 (by omega) (by omega) ?_) | (refine ask_true rfl ?_) | (refine ask_false (by decide) ?_) | (rfl) | fail)
        · rcases Int.lt_or_le 8 n with n8 | n8
          · repeat' ((conv => whnf); first | (refine ask_true (by omega) ?_) | (refine ask_false (by omega) ?_) | (refine And.intro trivial ?_) | (refine And.intro ⟨⟨by omega, by omega⟩, by omega, by omega⟩ ?_) | (refine And.intro (by omega) ?_) | (refine ask_wrap64 (by omega) (by omega) ?_) | (refine ask_true rfl ?_) | (refine ask_false (by decide) ?_) | (rfl) | fail)
          · rcases Int.lt_or_le k 0 with k0 | k0
            · repeat' ((conv => whnf); first | (refine ask_true (by omega) ?_) | (refine ask_false (by omega) ?_) | (refine And.intro trivial ?_) | (refine And.intro ⟨⟨by omega, by omega⟩, by omega, by omega⟩ ?_) | (refine And.intro (by omega) ?_) | (refine ask_wrap64 (by omega) (by omega) ?_) | (refine ask_true rfl ?_) | (refine ask_false (by decide) ?_) | (rfl) | fail)
            · repeat' ((conv => whnf); first | (refine ask_true (by omega) ?_) | (refine ask_false (by omega) ?_) | (refine And.intro trivial ?_) | (refine And.intro ⟨⟨by omega, by omega⟩, by omega, by omega⟩ ?_) | (refine And.intro (by omega) ?_) | (refine ask_wrap64 (by omega) (by omega) ?_) | (refine ask_true rfl ?_) | (refine ask_false (by decide) ?_) | (rfl) | fail)
    · repeat' ((conv => whnf); first | (refine ask_false (by omega) ?_) | (refine And.intro ⟨rfl, rfl⟩ ?_) | (refine And.intro rfl ?_) | (refine And.intro (fun h => absurd h hp) (fun _ => ?_)) | (refine ask_true rfl ?_) | (refine ask_false (by decide) ?_) | (refine ask_true (by omega) ?_) | fail)
      by_cases hr : (0 ≤ n ∧ n ≤ 8) ∧ 0 ≤ k ∧ k ≤ 8
      · have hc := cC_def n k
        rw [if_pos hr] at hc
        have hbi : bitS n k = lenS (max (cN n k - 1) 0) := by unfold bitS; rw [hc]
        have cb := cC_in n k
        by_cases hi : 0 ≤ i ∧ i < cC n k
        · conv => whnf
          refine And.intro (fun h => absurd hi h) fun _ A hA => And.intro (fun h => ?_) fun hne c rest h1 h2 h3 => ?_
          · repeat' ((conv => whnf); first | (refine ask_true (by omega) ?_) | (refine ask_false (by omega) ?_) | (refine And.intro trivial ?_) | (refine And.intro ⟨⟨by omega, by omega⟩, by omega, by omega⟩ ?_) | (refine And.intro (by omega) ?_) | (refine ask_wrap64 (by omega) (by omega) ?_) | (refine ask_true rfl ?_) | (refine ask_false (by decide) ?_) | (rfl) | fail)
          · repeat' ((conv => whnf); first | (refine ask_true (by omega) ?_) | (refine ask_false (by omega) ?_) | (refine And.intro trivial ?_) | (refine And.intro ⟨⟨by omega, by omega⟩, by omega, by omega⟩ ?_) | (refine And.intro (by omega) ?_) | (refine ask_wrap64 (by omega) (by omega) ?_) | (refine ask_true rfl ?_) | (refine ask_false (by decide) ?_) | (rfl) | fail)
        · conv => whnf
          refine And.intro (fun _ => ?_) (fun h => absurd h hi)
          rcases Int.lt_or_le i 0 with i0 | i0
          all_goals repeat' ((conv => whnf); first | (refine ask_true (by omega) ?_) | (refine ask_false (by omega) ?_) | (refine And.intro trivial ?_) | (refine And.intro ⟨⟨by omega, by omega⟩, by omega, by omega⟩ ?_) | (refine And.intro (by omega) ?_) | (refine ask_wrap64 (by omega) (by omega) ?_) | (refine ask_true rfl ?_) | (refine ask_false (by decide) ?_) | (rfl) | fail)
      · have hc := cC_def n k
        rw [if_neg hr] at hc
        have hbi : bitS n k = 0 := by unfold bitS; rw [hc]; exact len_zero (by decide)
        conv => whnf
        refine And.intro (fun _ => ?_) (fun h => by omega)
        rcases Int.lt_or_le n 0 with n0 | n0
        · repeat' ((conv => whnf); first | (refine ask_true (by omega) ?_) | (refine ask_false (by omega) ?_) | (refine And.intro trivial ?_) | (refine And.intro ⟨⟨by omega, by omega⟩, by omega, by omega⟩ ?_) | (refine And.intro (by omega) ?_) | (refine ask_wrap64 (by omega) (by omega) ?_) | (refine ask_true rfl ?_) | (refine ask_false (by decide) ?_) | (rfl) | fail)
        · rcases Int.lt_or_le 8 n with n8 | n8
          · repeat' ((conv => whnf); first | (refine ask_true (by omega) ?_) | (refine ask_false (by omega) ?_) | (refine And.intro trivial ?_) | (refine And.intro ⟨⟨by omega, by omega⟩, by omega, by omega⟩ ?_) | (refine And.intro (by omega) ?_) | (refine ask_wrap64 (by omega) (by omega) ?_) | (refine ask_true rfl ?_) | (refine ask_false (by decide) ?_) | (rfl) | fail)
          · rcases Int.lt_or_le k 0 with k0 | k0
            · repeat' ((conv => whnf); first | (refine ask_true (by omega) ?_) | (refine ask_false (by omega) ?_) | (refine And.intro trivial ?_) | (refine And.intro ⟨⟨by omega, by omega⟩, by omega, by omega⟩ ?_) | (refine And.intro (by omega) ?_) | (refine ask_wrap64 (by omega) (by omega) ?_) | (refine ask_true rfl ?_) | (refine ask_false (by decide) ?_) | (rfl) | fail)
            · repeat' ((conv => whnf); first | (refine ask_true (by omega) ?_) | (refine ask_false (by omega) ?_) | (refine And.intro trivial ?_) | (refine And.intro ⟨⟨by omega, by omega⟩, by omega, by omega⟩ ?_) | (refine And.intro (by omega) ?_) | (refine ask_wrap64 (by omega) (by omega) ?_) | (refine ask_true rfl ?_) | (refine ask_false (by decide) ?_) | (rfl) | fail)
theorem law_VectPlays (W0 : World) (n : Int) (hn : InK .i64 n) (k : Int) (hk : InK .i64 k) (i : Int) (hi : InK .i64 i) (v : Value) (wv : SlIn .i64 W0 v) : Calls Try.prog 13 #[.int .i64 n, .int .i64 k, .int .i64 i, v] W0 fun e w' => e = .returned (.bool true) ∧ Below W0.heap.size W0 w' := by
  rcases wv with rfl | ⟨bk, o, len, cap, zs, rfl, hl, hc, hbw, hz, hzx, hcell⟩
  · exact walk_true FY_ok Try.func13 (ws := [i64 n, i64 k, i64 i, .c .csn]) ⟨hn, hk, hi, trivial, trivial⟩ rfl (n := 0) (plays_nil n k i hn hk hi) W0
  · subst hz
    exact walk_true_ro FY_ok Try.func13 (ws := [i64 n, i64 k, i64 i, .c (.csl 0 0 0 len zs.length)]) (R := [.ro [.ints .i64 zs.length zs]]) ⟨hn, hk, hi, ⟨hl, hc⟩, trivial⟩ rfl (n := 0) (plays_row zs len hl hc n k i hn hk hi) (ro_ok hzx) (fun _ => (bk, o)) W0 (by
      intro j c hj
      match j, hj with
      | 0, hj => simp at hj; subst hj; exact ⟨rfl, ro_of_slIn rfl hbw hcell⟩
      | j + 1, hj => simp at hj)
end Go.Proofs.Ytmkdamfdlkpjdaa
