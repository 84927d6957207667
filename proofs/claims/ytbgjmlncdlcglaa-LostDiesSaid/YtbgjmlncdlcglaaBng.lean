/- Chapter lost: the law LostGaps, walked; what runs leave. -/
import Derived.Test.YtbgjmlncdlcglaaBnf
set_option linter.all false
namespace Go.Proofs.Ytbgjmlncdlcglaa
open Go.RowKit (Below)
set_option maxRecDepth 100000
set_option maxHeartbeats 32000000

noncomputable def FLr : Fns := FLb.over 59 hRun
theorem FLr_ok : FnsOk Try.prog FLr := FLb_ok.over run_ct Try.func59 (by kernel_rfl) (by kernel_rfl)
theorem row_of {L rest : List Int} {m : Nat} (h : L.length = 16) (hm : m = 0) : ((L ++ rest).drop m).take 16 = L := by
  subst hm
  rw [List.drop_zero, List.take_append_of_le_length (by omega), List.take_of_length_le (by omega)]
theorem law_LostGaps (xs : List Int) (h : xs.length = 38) (hx : ∀ x ∈ xs, InK .i64 x) (ys : List Int) (h' : ys.length = 38) (hy : ∀ x ∈ ys, InK .i64 x) (w0 : World) : Calls Try.prog 19 #[.agg (xs.map (Value.int .i64)).toArray, .agg (ys.map (Value.int .i64)).toArray] w0 fun e w' => e = .returned (.bool true) ∧ Below w0.heap.size w0 w' := by
  obtain ⟨s, hs, hd⟩ := st_split xs h hx
  obtain ⟨t, ht, hd'⟩ := st_split ys h' hy
  have := walk2_true FLr_ok Try.func19 (ws := [stW s, stW t]) ⟨hs.rng, ht.rng, trivial⟩ rfl (n := 0) ?_ w0
  · have e : ([stW s, stW t].map (W.den fun _ => (0, 0))).toArray = #[Value.agg (xs.map (Value.int .i64)).toArray, Value.agg (ys.map (Value.int .i64)).toArray] := by rw [← hd, ← hd']; rfl
    rw [e] at this; exact this
  repeat' ((conv => whnf); first | (refine And.intro ⟨rfl, rfl, rfl⟩ (And.intro (fun hk => absurd hk (by decide)) (And.intro (fun _ _ c rest h1 h2 h3 => ?_) (by decide)))) | (refine And.intro ⟨rfl, rfl, rfl⟩ ?_) | (refine And.intro trivial ?_) | fail)
  have ez : mulN (Int.toNat 0) (Try.prog.types[38]).size = 0 := mulN_eq _ _ |>.trans (Nat.zero_mul _)
  have e1 : (((outsL s (Int.toNat 1) ++ rest).drop (0 + mulN (Int.toNat 0) (Try.prog.types[38]).size)).take 16) = loseOut s := row_of (loseOut_len s) (by rw [ez])
  have hc : 0 + mulN (Int.toNat 0) (Try.prog.types[38]).size + 16 ≤ c * 16 := by rw [ez]; have : 1 ≤ c := h1; omega
  repeat' ((conv => whnf); first | (refine ask_st st0 st0 rfl ?_) | (with_reducible refine ask_same rfl ?_) | (refine ask_same e1 ?_) | (refine ask_true (by decide) ?_) | (refine And.intro hc ?_) | (refine And.intro (by decide) ?_) | (refine ⟨by kernel_rfl, ?_⟩) | rfl | fail)

/-! ### what runs leave -/
theorem loseSt_right {s : St} (h : rightP s) : rightP (loseSt s) := by
  rw [loseSt_eq h]
  have hr := h
  rw [rightP_def] at hr ⊢
  exact ⟨fun x hx => memZ_in hx, lessZ_in h, laidP_in _ _, halfZ_held h, by show 0 ≤ min (s.q + 1) 255; omega, by show min (s.q + 1) 255 ≤ 255; omega⟩
theorem iter_right {s : St} (h : rightP s) : ∀ n, rightP (iterS s n)
  | 0 => h
  | n + 1 => loseSt_right (iter_right h n)
theorem getD_out' {xs : List Int} {i : Nat} (h : xs.length ≤ i) : xs.getD i 0 = 0 := by rw [List.getD_eq_getElem?_getD, List.getElem?_eq_none h]; rfl
theorem getD_map0 {f : Int → Int} (h : f 0 = 0) (xs : List Int) (i : Nat) : (xs.map f).getD i 0 = f (xs.getD i 0) := by
  rcases Nat.lt_or_ge i xs.length with hi | hi
  · exact getD_map hi
  · rw [getD_out' (by simpa using hi), getD_out' hi, h]
noncomputable def halfN (x : Int) : Nat → Int
  | 0 => x
  | n + 1 => (halfN x n).tdiv 2
theorem iter_halves {s : St} (h : rightP s) : ∀ n : Nat, s.q + n ≤ 8 → (iterS s n).q = s.q + n ∧ (∀ i, (iterS s n).w.getD i 0 = halfN (s.w.getD i 0) n) ∧ ∀ b, (iterS s n).v.getD b 0 = max (s.v.getD b 0 - n) 0
  | 0, _ => by
    refine ⟨by show s.q = s.q + ((0 : Nat) : Int); simp, fun _ => rfl, fun b => ?_⟩
    show s.v.getD b 0 = max (s.v.getD b 0 - ((0 : Nat) : Int)) 0
    rw [rightP_def] at h
    rcases Nat.lt_or_ge b s.v.length with hb | hb
    · have := h.2.1 _ (mem_at hb)
      omega
    · rw [getD_out' hb]; rfl
  | n + 1, hn => by
    obtain ⟨h1, h2, h3⟩ := iter_halves h n (by omega)
    have hr := iter_right h n
    have e : iterS s (n + 1) = loseSt (iterS s n) := rfl
    rw [e, loseSt_eq hr]
    have hh : halfZ (iterS s n) = (iterS s n).w.map fun x => x.tdiv 2 := if_pos (by omega)
    have hq := h
    rw [rightP_def] at hq
    refine ⟨?_, fun i => ?_, fun b => ?_⟩
    · show min ((iterS s n).q + 1) 255 = _
      omega
    · show (halfZ (iterS s n)).getD i 0 = _
      rw [hh, getD_map0 (f := fun x => x.tdiv 2) rfl, h2]
      rfl
    · show (lessZ (iterS s n)).getD b 0 = _
      unfold lessZ
      rw [getD_map0 (f := fun x => max (x - 1) 0) rfl, h3]
      show max (max (s.v.getD b 0 - (n : Int)) 0 - 1) 0 = max (s.v.getD b 0 - ((n + 1 : Nat) : Int)) 0
      omega
theorem halfN_in {x : Int} (h : -1048576 ≤ x ∧ x ≤ 1048576) : ∀ n, -1048576 ≤ halfN x n ∧ halfN x n ≤ 1048576
  | 0 => h
  | n + 1 => by
    have := halfN_in h n
    show -1048576 ≤ (halfN x n).tdiv 2 ∧ (halfN x n).tdiv 2 ≤ 1048576
    rcases Int.lt_or_le (halfN x n) 0 with h0 | h0
    · rw [tdiv_neg (by omega)]; omega
    · rw [tdiv_pos h0]; omega
end Go.Proofs.Ytbgjmlncdlcglaa
