/- Chapter shape: the law ShapeMore, walked. -/
import Derived.Test.YtmkdamfdlkpjdaaCf
set_option linter.all false
namespace Go.Proofs.Ytmkdamfdlkpjdaa
open Go.RowKit (Below)
set_option maxRecDepth 100000
set_option maxHeartbeats 32000000

theorem right_in {c : List Int} {k : Int} (h : rightC c k) : ∀ i, -1048576 ≤ c.getD i 0 ∧ c.getD i 0 ≤ 1048576 := fun i => by
  rw [rightC_def] at h
  rcases Nat.lt_or_ge i c.length with h1 | h1
  · exact h.2.2 _ (mem_at h1)
  · rw [List.getD_eq_getElem?_getD, List.getElem?_eq_none h1]; decide
theorem found_abs {c : List Int} {n k i : Nat} (hn : 0 < n) (hk : k ≤ 8) (hc : ∀ i, -1048576 ≤ c.getD i 0 ∧ c.getD i 0 ≤ 1048576) (h : i < n) : absI ((findZ c n k).getD i 0) = (fdRun c n k).y.getD i 0 ∧ 0 ≤ (fdRun c n k).y.getD i 0 ∧ (fdRun c n k).y.getD i 0 ≤ k := by
  have h1 := (fdRun_ok hn hc k hk).y i
  refine ⟨?_, h1⟩
  rw [findZ_at h]
  unfold absI
  split <;> omega
theorem run_more {c : List Int} {n k : Nat} (hn : 0 < n) (hk : k ≤ 8) (hc : ∀ i, -1048576 ≤ c.getD i 0 ∧ c.getD i 0 ≤ 1048576) : ∃ b, b < n ∧ ∀ i : Nat, (fdRun c n (k + 1)).y.getD i 0 = (fdRun c n k).y.getD i 0 + if i = b then 1 else 0 := by
  refine ⟨bestF c (fdRun c n k) n, bestF_lt _ _ _ hn, fun i => ?_⟩
  show ((fdRun c n k).y.set _ _).getD i 0 = _
  rw [set_getD' (by rw [(fdRun_ok hn hc k hk).len]; exact bestF_lt _ _ _ hn)]
  by_cases h : i = bestF c (fdRun c n k) n
  · rw [if_pos h, if_pos h, ← h]
  · rw [if_neg h, if_neg h]; omega

theorem law_ShapeMore (W0 : World) (v : Value) (w : SlIn .i64 W0 v) (k : Int) (hk : InK .u8 k) : Calls Try.prog 4 #[v, .int .u8 k] W0 fun e w' => e = .returned (.bool true) ∧ Below W0.heap.size W0 w' := by
  obtain ⟨k0, k1⟩ := hk
  simp only [lowK, highK] at k0 k1
  refine law_slice FL_ok Try.func4 (n := 0) (ws := [u8 k]) w ⟨⟨k0, k1⟩, trivial⟩ rfl ?_ fun zs l hl hc hx => ?_
  · repeat' ((conv => whnf); first | (refine And.intro (fun _ => ?_) (fun h => absurd rfl h)) | (refine ask_true (by decide) ?_) | (refine ask_false (by decide) ?_) | rfl | fail)
  · repeat' ((conv => whnf); first | (refine And.intro ⟨rfl, rfl⟩ ?_) | (refine And.intro rfl ?_) | fail)
    refine And.intro (fun _ => ?_) fun ne c rest h1 h2 h3 => ?_
    · repeat' ((conv => whnf); first | (refine ask_true (by decide) ?_) | (refine ask_false (by decide) ?_) | rfl | fail)
    · have n1 := wav_len (zs := zs) (n := min l 8) (by omega)
      have hR0 := fun k hk => wav_right hl (k := k) hk ne
      obtain ⟨X, hX⟩ : ∃ X, X = wav zs (min l 8) := ⟨_, rfl⟩
      rw [← hX] at ne h1 h3 hR0 n1 ⊢
      obtain ⟨n, hn⟩ : ∃ n, n = X.length := ⟨_, rfl⟩
      rw [← hn] at h1 h3 n1 ⊢
      have et : List.take n (X ++ rest) = X := take_all hn
      have hR' := hR0 0 (by decide)
      have hcb := right_in hR'
      rw [rightC_def, ← hn] at hR'
      repeat' ((conv => whnf); first | (refine And.intro ⟨rfl, rfl⟩ ?_) | (refine And.intro rfl ?_) | (refine ask_true (by omega) ?_) | (refine ask_false (by omega) ?_) | (refine And.intro (by omega) fun r hr => ?_) | (refine ask_wrap64 (by omega) (by omega) ?_) | fail)
      have r0 : 0 ≤ r ∧ r ≤ 7 := by rw [hr, Int.tmod_eq_emod_of_nonneg k0]; omega
      obtain ⟨b, hb, hmore⟩ := run_more (c := X) (n := n) (k := r.toNat) (by omega) (by omega) hcb
      have hA := fun i (hi : i < n) => found_abs (c := X) (n := n) (k := r.toNat) (i := i) (by omega) (by omega) hcb hi
      have hB := fun i (hi : i < n) => found_abs (c := X) (n := n) (k := r.toNat + 1) (i := i) (by omega) (by omega) hcb hi
      refine And.intro (fun h => absurd (by rw [et]; exact hR0 r (by omega)) h) fun _ => ?_
      repeat' ((conv => whnf); first | (refine And.intro ⟨rfl, rfl⟩ ?_) | (refine And.intro rfl ?_) | (refine ask_wrap64 (by omega) (by omega) ?_) | fail)
      refine And.intro (fun h => absurd (by rw [et]; exact hR0 (r + 1) (by omega)) h) fun _ => ?_
      conv => whnf
      rw [et, show (r + 1).toNat = r.toNat + 1 by omega]
      have hD : ∀ i, i < n → (0 ≤ absI ((findZ X n r.toNat).getD i 0) ∧ absI ((findZ X n r.toNat).getD i 0) ≤ 8) ∧ absI ((findZ X n (r.toNat + 1)).getD i 0) = absI ((findZ X n r.toNat).getD i 0) + if i = b then 1 else 0 := fun i hi => by
        have h1 := hA i hi
        have h2 := hB i hi
        have h3 := hmore i
        exact ⟨by omega, by rw [h2.1, h1.1, h3]⟩
      obtain ⟨Y, eY⟩ : ∃ Y, Y = findZ X n r.toNat := ⟨_, rfl⟩
      obtain ⟨Z, eZ⟩ : ∃ Z, Z = findZ X n (r.toNat + 1) := ⟨_, rfl⟩
      rw [← eY, ← eZ] at hD ⊢
      have em : ∀ i : Int, mulN i.toNat (Try.prog.types[3]).size = i.toNat := fun i => mulN1 _
      refine loop_at (11 :: 12 :: 13 :: List.range' 40 48) (fun m (i : Int) => 0 ≤ i ∧ i ≤ n ∧ m = (n - i).toNat) (fun i => [(11, vi (if (b : Int) < i then 1 else 0)), (12, vi i)]) (fun _ => [.ro [.ints .i64 zs.length zs], .own 3 [.ints .i64 c (X ++ rest)], .own 3 [.ints .i64 n Y], .own 3 [.ints .i64 n Z]]) n 0 ⟨by decide, by omega, by omega⟩ ?_ ?_
      · rw [if_neg (by omega)]
        exact ⟨rfl, ⟨⟨Nat.le_of_ble_eq_true rfl, rfl⟩, ⟨Nat.le_of_ble_eq_true rfl, rfl⟩, trivial⟩, ⟨rfl, rfl, rfl, rfl, trivial⟩, rfl, rfl, Nat.le_of_ble_eq_true rfl⟩
      · rintro m i ⟨i0, i1, rfl⟩
        have ei := em i
        have yi : Y.getD (0 + mulN i.toNat (Try.prog.types[3]).size) 0 = Y.getD i.toNat 0 := by rw [em, Nat.zero_add]
        have zi : Z.getD (0 + mulN i.toNat (Try.prog.types[3]).size) 0 = Z.getD i.toNat 0 := by rw [em, Nat.zero_add]
        rcases Int.lt_or_le i n with i2 | i2
        · have hd := hD i.toNat (by omega)
          rw [← yi, ← zi] at hd
          obtain ⟨d, hdd⟩ : ∃ d : Int, d = if i.toNat = b then 1 else 0 := ⟨_, rfl⟩
          obtain ⟨e, hee⟩ : ∃ e : Int, e = if (b : Int) < i then 1 else 0 := ⟨_, rfl⟩
          rw [← hdd] at hd
          rw [← hee]
          have d01 : 0 ≤ d ∧ d ≤ 1 := by rw [hdd]; split <;> omega
          have e01 : 0 ≤ e ∧ e ≤ 1 := by rw [hee]; split <;> omega
          have e2 : e + d = if (b : Int) < i + 1 then 1 else 0 := by
            rw [hee, hdd]
            by_cases h1 : (b : Int) < i
            · rw [if_pos h1, if_neg (by omega), if_pos (by omega)]; rfl
            · by_cases h2 : i.toNat = b
              · rw [if_neg h1, if_pos h2, if_pos (by omega)]; rfl
              · rw [if_neg h1, if_neg h2, if_neg (by omega)]; rfl
          unfold absI at hd
          repeat' ((conv => whnf); first | (refine ask_true (by omega) ?_) | (refine ask_false (by omega) ?_) | (refine And.intro (by omega) ?_) | (refine fun (_ : InK _ _) => ?_) | (refine ask_wrap64 (by omega) (by omega) ?_) | (refine ⟨by kernel_rfl, ?_⟩) | fail)
          conv => whnf
          refine ⟨(n - (i + 1)).toNat, i + 1, by omega, ⟨by omega, by omega, rfl⟩, rfl, ⟨⟨Nat.le_of_ble_eq_true rfl, ?_⟩, ⟨Nat.le_of_ble_eq_true rfl, rfl⟩, trivial⟩, ⟨rfl, rfl, rfl, rfl, trivial⟩, rfl, rfl, Nat.le_of_ble_eq_true rfl⟩
          refine congrArg vi ?_
          rw [← e2]; omega
        · rw [if_pos (by omega)]
          repeat' ((conv => whnf); first | (refine ask_true (by omega) ?_) | (refine ask_false (by omega) ?_) | rfl | fail)
end Go.Proofs.Ytmkdamfdlkpjdaa
