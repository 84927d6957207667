/- Chapter spare: the law SparePlays. -/
import Derived.Test.YtmkdamfdlkpjdaaDoorEk
set_option linter.all false
namespace Go.Proofs.YtmkdamfdlkpjdaaDoor
open Go.RowKit (Below)
open Go.WideMaps
set_option maxRecDepth 100000
set_option maxHeartbeats 64000000

noncomputable def FSp : Fns := (((((FAw.plus 23 (ct0 (vb true))).plus 29 (ctR rightP)).plus 30 (ctP4r pulS)).plus 31 (ct2 (fun b k => (0 ≤ b ∧ b ≤ 3) ∧ 0 ≤ k ∧ k ≤ 8) costS)).plus 28 (ctA costs4)).plus 27 (ct2 (fun _ _ => True) roomS)
theorem FSp_ok : FnsOk Tryd.prog FSp G1 := (((((FAw_ok.plusG awake11_ct Tryd.func23 (by kernel_rfl) (by kernel_rfl)).plus rright_ct Tryd.func29 (by kernel_rfl) (by kernel_rfl)).plus rpulses11_ct Tryd.func30 (by kernel_rfl) (by kernel_rfl)).plus rcost_ct Tryd.func31 (by kernel_rfl) (by kernel_rfl)).plusG costs_ct Tryd.func28 (by kernel_rfl) (by kernel_rfl)).plus room_ct Tryd.func27 (by kernel_rfl) (by kernel_rfl)
theorem pul_none {ls : List Int} {t : Int} (h : ¬ rightP ls t) : pulS ls t = z4 := by rw [pulS_def]; unfold pulF; rw [if_neg h]
theorem playsS_walk (ls : List Int) (h : ls.length = 4) (t s u : Int) (ht : InK .i64 t) (hs : InK .i64 s) (hu : InK .i64 u) : walkq FSp 0 Tryd.f13 [ar4 ls, i64 t, i64 s, i64 u] [] fun y _ => y = vb true := by
  obtain ⟨s1, s2⟩ := hs
  obtain ⟨u1, u2⟩ := hu
  simp only [lowK, highK] at s1 s2 u1 u2
  obtain ⟨K, eK⟩ : ∃ K, K = pulS ls t := ⟨_, rfl⟩
  have kk : KOk K := by rw [eK]; exact pulS_ok _ _
  have eR : roomS s u = if s < 10 ∨ s > 32 ∨ u < 0 then 0 else max (8 * s - 40 - u) 0 := rfl
  rcases Classical.em (rightP ls t) with hr | hr
  all_goals have ez : ¬ rightP ls t → K = [0, 0, 0, 0] := fun hn => by rw [eK]; exact pul_none hn
  · conv => whnf
    refine ask_true hr ?_
    repeat' ((conv => whnf); first | (refine And.intro hr ?_) | fail)
    rw [← eK]
    conv => whnf
    refine loop_at (11 :: 12 :: List.range' 25 11) (fun m (i : Int) => 0 ≤ i ∧ i ≤ 4 ∧ m = (4 - i).toNat) (fun i => [(11, vi (costs K i.toNat)), (12, vi i)]) (fun _ => [.own 25 [.ints .i64 4 ls], .own 25 [.ints .i64 4 K], .own 25 [.ints .i64 4 K]]) 4 0 ⟨by decide, by decide, rfl⟩ ?_ ?_
    · exact ⟨rfl, ⟨⟨Nat.le_of_ble_eq_true rfl, rfl⟩, ⟨Nat.le_of_ble_eq_true rfl, rfl⟩, trivial⟩, ⟨rfl, rfl, rfl, trivial⟩, rfl, rfl, Nat.zero_le _⟩
    · rintro m i ⟨i0, i1, rfl⟩
      have em : mulN i.toNat (Tryd.prog.types[3]).size = i.toNat := mulN1 _
      have ci := costs_in (K) i.toNat
      rcases Int.lt_or_le i 4 with i2 | i2
      · have e : (K).getD (mulN i.toNat (Tryd.prog.types[3]).size) 0 = (K).getD i.toNat 0 := by rw [em]
        have ki := kk.at' i.toNat
        have hs : costs (K) (i + 1).toNat = costs (K) i.toNat + costS i ((K).getD (mulN i.toNat (Tryd.prog.types[3]).size) 0) := by
          rw [e, show (i + 1).toNat = i.toNat + 1 by omega]
          show costs (K) i.toNat + costS (i.toNat : Int) _ = _
          rw [show ((i.toNat : Nat) : Int) = i by omega]
        have cs := costS_in i ((K).getD (mulN i.toNat (Tryd.prog.types[3]).size) 0)
        repeat' ((conv => whnf); first | (refine ask_true (by omega) ?_) | (refine And.intro ⟨⟨by omega, by omega⟩, by omega, by omega⟩ ?_) | (refine And.intro (by omega) ?_) | (refine fun (_ : InK _ _) => ?_) | (refine ask_wrap64 (by omega) (by omega) ?_) | fail)
        conv => whnf
        exact ⟨(4 - (i + 1)).toNat, i + 1, by omega, ⟨by omega, by omega, rfl⟩, rfl, ⟨⟨Nat.le_of_ble_eq_true rfl, congrArg vi hs.symm⟩, ⟨Nat.le_of_ble_eq_true rfl, rfl⟩, trivial⟩, ⟨rfl, rfl, rfl, trivial⟩, rfl, rfl, Nat.zero_le _⟩
      · have hi : i = 4 := by omega
        subst hi
        have e4 : costs4 (K) = costs (K) (4 : Int).toNat := rfl
        rcases Classical.em (s < 10 ∨ s > 32 ∨ u < 0) with hq | hq
        · rw [if_pos hq] at eR
          rcases Int.lt_or_le s 10 with q1 | q1
          · repeat' ((conv => whnf); first | (refine ask_false (by omega) ?_) | (refine ask_true (by omega) ?_) | (refine ask_wrap64 (by omega) (by omega) ?_) | (refine And.intro trivial ?_) | (refine ask_same rfl ?_) | rfl | fail)
          · rcases Int.lt_or_le 32 s with q2 | q2
            · repeat' ((conv => whnf); first | (refine ask_false (by omega) ?_) | (refine ask_true (by omega) ?_) | (refine ask_wrap64 (by omega) (by omega) ?_) | (refine And.intro trivial ?_) | (refine ask_same rfl ?_) | rfl | fail)
            · repeat' ((conv => whnf); first | (refine ask_false (by omega) ?_) | (refine ask_true (by omega) ?_) | (refine ask_wrap64 (by omega) (by omega) ?_) | (refine And.intro trivial ?_) | (refine ask_same rfl ?_) | rfl | fail)
        · rw [if_neg hq] at eR
          rcases Int.lt_or_le u (8 * s - 40) with q1 | q1
          · repeat' ((conv => whnf); first | (refine ask_false (by omega) ?_) | (refine ask_true (by omega) ?_) | (refine ask_wrap64 (by omega) (by omega) ?_) | (refine And.intro trivial ?_) | (refine ask_same rfl ?_) | rfl | fail)
          · repeat' ((conv => whnf); first | (refine ask_false (by omega) ?_) | (refine ask_true (by omega) ?_) | (refine ask_wrap64 (by omega) (by omega) ?_) | (refine And.intro trivial ?_) | (refine ask_same rfl ?_) | rfl | fail)
  · conv => whnf
    refine ask_false hr ?_
    conv => whnf
    rw [← eK]
    refine loop_at (11 :: 12 :: List.range' 25 11) (fun m (i : Int) => 0 ≤ i ∧ i ≤ 4 ∧ m = (4 - i).toNat) (fun i => [(11, vi (costs K i.toNat)), (12, vi i)]) (fun _ => [.own 25 [.ints .i64 4 ls], .own 25 [.ints .i64 4 K], .own 25 [.ints .i64 4 K]]) 4 0 ⟨by decide, by decide, rfl⟩ ?_ ?_
    · exact ⟨rfl, ⟨⟨Nat.le_of_ble_eq_true rfl, rfl⟩, ⟨Nat.le_of_ble_eq_true rfl, rfl⟩, trivial⟩, ⟨rfl, rfl, (by rw [ez hr]), trivial⟩, rfl, rfl, Nat.zero_le _⟩
    · rintro m i ⟨i0, i1, rfl⟩
      have em : mulN i.toNat (Tryd.prog.types[3]).size = i.toNat := mulN1 _
      have ci := costs_in (K) i.toNat
      rcases Int.lt_or_le i 4 with i2 | i2
      · have e : (K).getD (mulN i.toNat (Tryd.prog.types[3]).size) 0 = (K).getD i.toNat 0 := by rw [em]
        have ki := kk.at' i.toNat
        have hs : costs (K) (i + 1).toNat = costs (K) i.toNat + costS i ((K).getD (mulN i.toNat (Tryd.prog.types[3]).size) 0) := by
          rw [e, show (i + 1).toNat = i.toNat + 1 by omega]
          show costs (K) i.toNat + costS (i.toNat : Int) _ = _
          rw [show ((i.toNat : Nat) : Int) = i by omega]
        have cs := costS_in i ((K).getD (mulN i.toNat (Tryd.prog.types[3]).size) 0)
        repeat' ((conv => whnf); first | (refine ask_true (by omega) ?_) | (refine And.intro ⟨⟨by omega, by omega⟩, by omega, by omega⟩ ?_) | (refine And.intro (by omega) ?_) | (refine fun (_ : InK _ _) => ?_) | (refine ask_wrap64 (by omega) (by omega) ?_) | fail)
        conv => whnf
        exact ⟨(4 - (i + 1)).toNat, i + 1, by omega, ⟨by omega, by omega, rfl⟩, rfl, ⟨⟨Nat.le_of_ble_eq_true rfl, congrArg vi hs.symm⟩, ⟨Nat.le_of_ble_eq_true rfl, rfl⟩, trivial⟩, ⟨rfl, rfl, rfl, trivial⟩, rfl, rfl, Nat.zero_le _⟩
      · have hi : i = 4 := by omega
        subst hi
        have e4 : costs4 (K) = costs (K) (4 : Int).toNat := rfl
        rcases Classical.em (s < 10 ∨ s > 32 ∨ u < 0) with hq | hq
        · rw [if_pos hq] at eR
          rcases Int.lt_or_le s 10 with q1 | q1
          · repeat' ((conv => whnf); first | (refine ask_false (by omega) ?_) | (refine ask_true (by omega) ?_) | (refine ask_wrap64 (by omega) (by omega) ?_) | (refine And.intro trivial ?_) | (refine ask_same rfl ?_) | rfl | fail)
          · rcases Int.lt_or_le 32 s with q2 | q2
            · repeat' ((conv => whnf); first | (refine ask_false (by omega) ?_) | (refine ask_true (by omega) ?_) | (refine ask_wrap64 (by omega) (by omega) ?_) | (refine And.intro trivial ?_) | (refine ask_same rfl ?_) | rfl | fail)
            · repeat' ((conv => whnf); first | (refine ask_false (by omega) ?_) | (refine ask_true (by omega) ?_) | (refine ask_wrap64 (by omega) (by omega) ?_) | (refine And.intro trivial ?_) | (refine ask_same rfl ?_) | rfl | fail)
        · rw [if_neg hq] at eR
          rcases Int.lt_or_le u (8 * s - 40) with q1 | q1
          · repeat' ((conv => whnf); first | (refine ask_false (by omega) ?_) | (refine ask_true (by omega) ?_) | (refine ask_wrap64 (by omega) (by omega) ?_) | (refine And.intro trivial ?_) | (refine ask_same rfl ?_) | rfl | fail)
          · repeat' ((conv => whnf); first | (refine ask_false (by omega) ?_) | (refine ask_true (by omega) ?_) | (refine ask_wrap64 (by omega) (by omega) ?_) | (refine And.intro trivial ?_) | (refine ask_same rfl ?_) | rfl | fail)
theorem law_SparePlays (xs : List Int) (h : xs.length = 4) (hx : ∀ x ∈ xs, InK .i64 x) (t : Int) (ht : InK .i64 t) (s : Int) (hs : InK .i64 s) (u : Int) (hu : InK .i64 u) (w0 : World) (hg : GW G1 w0) : Calls Tryd.prog 13 #[.agg (xs.map (Value.int .i64)).toArray, .int .i64 t, .int .i64 s, .int .i64 u] w0 fun e w' => e = .returned (.bool true) ∧ Below w0.heap.size w0 w' := by
  have hd1 : ∀ σ, (W.den σ (ar4 xs)) = Value.agg (xs.map (Value.int .i64)).toArray := fun σ => by simp [W.den, dens, Seg.den]
  have hd : ([ar4 xs, i64 t, i64 s, i64 u].map (W.den fun _ => (0, 0))).toArray = #[Value.agg (xs.map (Value.int .i64)).toArray, .int .i64 t, .int .i64 s, .int .i64 u] := by rw [← hd1 (fun _ => (0, 0))]; rfl
  have := walkq_true FSp_ok Tryd.func13 (ws := [ar4 xs, i64 t, i64 s, i64 u]) ⟨⟨⟨h, hx⟩, trivial⟩, ht, hs, hu, trivial⟩ rfl (n := 0) (playsS_walk xs h t s u ht hs hu) w0 hg
  rw [hd] at this; exact this
end Go.Proofs.YtmkdamfdlkpjdaaDoor
