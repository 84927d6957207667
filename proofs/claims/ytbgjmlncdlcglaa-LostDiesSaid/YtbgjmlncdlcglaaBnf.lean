/- Chapter lost: lost frames, one behind the other. -/
import Derived.Test.YtbgjmlncdlcglaaBne
set_option linter.all false
namespace Go.Proofs.Ytbgjmlncdlcglaa
open Go.RowKit (Below)
set_option maxRecDepth 100000
set_option maxHeartbeats 32000000

noncomputable def iterS (s : St) : Nat → St
  | 0 => s
  | n + 1 => loseSt (iterS s n)
noncomputable def outsL (s : St) : Nat → List Int
  | 0 => []
  | n + 1 => outsL s n ++ loseOut (iterS s n)
theorem iterS_ok {s : St} (h : StOk s) : ∀ n, StOk (iterS s n)
  | 0 => h
  | n + 1 => loseSt_ok (iterS_ok h n)
theorem outsL_len (s : St) : ∀ n, (outsL s n).length = n * 16
  | 0 => rfl
  | n + 1 => by
    show (outsL s n ++ loseOut (iterS s n)).length = _
    rw [List.length_append, outsL_len s n, show (loseOut (iterS s n)).length = 16 from outN_len _ _ _ _]; omega
theorem outsL_in (s : St) : ∀ n, ∀ x ∈ outsL s n, -32768 ≤ x ∧ x ≤ 32767
  | 0, x, hx => by cases hx
  | n + 1, x, hx => by
    rcases List.mem_append.1 hx with h | h
    · exact outsL_in s n x h
    · exact outN_in h
def rho25 (j : Nat) : Nat := if j = 2 then 5 else j
theorem rho25_inj {i j : Nat} (hi : i < 3) (hj : j < 3) (h : rho25 i = rho25 j) : i = j := by unfold rho25 at h; split at h <;> split at h <;> omega
noncomputable abbrev rnH (s : St) (i : Int) (c : Nat) (rest : List Int) : List Blk := [sb (iterS s i.toNat), sb st0, if i = 0 then .gone else .own 38 [.ints .i64 (c * 16) (outsL s i.toNat ++ rest)]]
abbrev rnV (i : Int) (c : Nat) : V := if i = 0 then .w (.c .csn) else .w (.c (.csl 2 0 0 i.toNat c))
def ranP (s : St) (M : Nat) (x : V) (N : List Blk) : Prop := (M = 0 ∧ x = .tup [.c .csn, stW s] ∧ N = []) ∨
  (M ≠ 0 ∧ ∃ (c : Nat) (rest : List Int), M ≤ c ∧ c ≤ 9223372036854775807 ∧ rest.length = (c - M) * 16 ∧ x = .tup [.c (.csl 0 0 0 M c), stW (iterS s M)] ∧ N = [.own 38 [.ints .i64 (c * 16) (outsL s M ++ rest)]])
theorem take_row {L : List Int} (h : L.length = 16) : List.take (1 * 16) (List.drop 0 L) = L := by rw [List.drop_zero, List.take_of_length_le (by omega)]
theorem iterS_next (s : St) {i : Int} (h : 0 ≤ i) : iterS s (i + 1).toNat = loseSt (iterS s i.toNat) := by rw [show (i + 1).toNat = i.toNat + 1 by omega]; rfl
theorem outsL_next (s : St) {i : Int} (h : 0 ≤ i) : outsL s (i + 1).toNat = outsL s i.toNat ++ loseOut (iterS s i.toNat) := by rw [show (i + 1).toNat = i.toNat + 1 by omega]; rfl
theorem loseOut_len (s : St) : (loseOut s).length = 16 := outN_len _ _ _ _
theorem room_eq {O L rest : List Int} {k : Nat} (hO : O.length = k * 16) (hL : L.length = 16) : List.take (k * 16) (O ++ rest) ++ List.take (1 * 16) (List.drop 0 L) ++ List.drop ((k + 1) * 16) (O ++ rest) = (O ++ L) ++ rest.drop 16 := by
  rw [take_row hL, List.take_append_of_le_length (by omega), List.take_of_length_le (by omega), List.drop_append, List.drop_of_length_le (by omega), List.nil_append, show (k + 1) * 16 - O.length = 16 by omega]
theorem grow_eq {O L rest : List Int} {k : Nat} (hO : O.length = k * 16) (hL : L.length = 16) : List.take (k * 16) (O ++ rest) ++ List.take (1 * 16) (List.drop 0 L) = O ++ L := by
  rw [take_row hL, List.take_append_of_le_length (by omega), List.take_of_length_le (by omega)]
theorem run_walk (s : St) (n : Int) (h : StOk s) (hn : InK .i64 n) : walk FGp 0 Try.f59 [stW s, i64 n] [] (Made (ranP s (max (min n 1000) 0).toNat)) := by
  obtain ⟨N, hN⟩ : ∃ N, N = max (min n 1000) 0 := ⟨_, rfl⟩
  have N0 : 0 ≤ N ∧ N ≤ 1000 := by omega
  conv => whnf
  rw [← hN]
  refine loop_ren3 (6 :: 7 :: List.range' 11 12) (fun m (i : Int) (c : Nat) (rest : List Int) => 0 ≤ i ∧ i ≤ N ∧ m = (N - i).toNat ∧ (i ≠ 0 → i ≤ c ∧ c ≤ 9223372036854775807 ∧ rest.length = (c - i.toNat) * 16)) (fun i c _ => [(6, rnV i c), (11, vi i)]) (fun i c rest => rnH s i c rest) N.toNat 0 0 [] ⟨by decide, by omega, by omega, fun h => absurd rfl h⟩ id ?_ ?_
  · refine ⟨?_, ?_, fun _ _ _ _ h => h, fun _ _ => rfl, rfl, rfl, Nat.zero_le _⟩
    · repeat' (first | exact trivial | refine And.intro rfl ?_ | fail)
    · exact And.intro rfl (And.intro rfl trivial)
  · rintro m i c rest ⟨h0, h1, rfl, h3⟩
    by_cases hi : i = 0
    · subst hi
      rcases Int.lt_or_le 0 N with hN1 | hN1
      · repeat' ((conv => whnf); first | (refine ask_true (by omega) ?_) | (refine And.intro ⟨rfl, rfl, rfl⟩ ?_) | (refine And.intro trivial ?_) | (refine And.intro rfl ?_) | (refine And.intro (by omega) ?_) | (refine And.intro ⟨by decide, by decide, Nat.le_of_ble_eq_true (by kernel_rfl)⟩ ?_) | fail)
        conv => whnf
        refine And.intro (Nat.le_of_ble_eq_true (by kernel_rfl)) (And.intro ⟨by decide, by decide, Nat.le_of_ble_eq_true (by kernel_rfl)⟩ fun c' (h4 : 1 ≤ c') (h5 : c' ≤ 9223372036854775807) => ?_)
        repeat' ((conv => whnf); first | (refine ask_wrap64 (by omega) (by omega) ?_) | fail)
        conv => whnf
        refine ⟨(N - 1).toNat, (1, c', List.replicate ((c' - 1) * 16) 0), rho25, by omega, ⟨by show (0 : Int) ≤ 1; decide, by show (1 : Int) ≤ N; omega, rfl, fun _ => ⟨by show (1 : Int) ≤ (c' : Int); omega, h5, by simp⟩⟩, ⟨?_, ?_, fun _ _ hp hq => rho25_inj hp hq, fun p hp => absurd hp (Nat.not_lt_zero p), rfl, rfl, Nat.zero_le _⟩⟩
        · repeat' (first | exact trivial | refine And.intro rfl ?_ | fail)
        · refine And.intro rfl (And.intro rfl (And.intro ?_ trivial))
          refine congrArg some (congrArg (fun zs => Blk.own 38 [.ints .i64 (c' * 16) zs]) ?_)
          rw [take_row (loseOut_len _)]
          rfl
      · have hN2 : N = 0 := by omega
        repeat' ((conv => whnf); first | (refine ask_false (by omega) ?_) | (refine ⟨by kernel_rfl, ?_⟩) | fail)
        conv => whnf
        refine made_of (.tup [.c .csn, stW s]) [] id (.inl ⟨by rw [hN2]; rfl, rfl, rfl⟩) rfl trivial (fun p q hp _ _ => absurd hp (Nat.not_lt_zero p)) rfl rfl (by intro e; cases e)
    · have h4 := h3 hi
      unfold rnV rnH
      rw [if_neg hi, if_neg hi]
      rcases Int.lt_or_le i N with hN1 | hN1
      · repeat' ((conv => whnf); first | (refine ask_true (by omega) ?_) | (refine And.intro ⟨rfl, rfl, rfl⟩ ?_) | (refine And.intro trivial ?_) | (refine And.intro rfl ?_) | fail)
        conv => whnf
        have eb : (Try.prog.types[38]).bytes = 128 := by kernel_rfl
        have hO := outsL_len s i.toNat
        have hL := loseOut_len (iterS s i.toNat)
        have en := iterS_next s h0
        have eo := outsL_next s h0
        have i10 : i + 1 ≠ 0 := by omega
        refine And.intro (Nat.le_of_ble_eq_true (by kernel_rfl)) (And.intro ⟨rfl, by omega, by rw [eb]; omega⟩ (And.intro (fun hroom => ?_) fun hg c' (h5 : i.toNat + 1 ≤ c') (h6 : c' ≤ 9223372036854775807) => ?_))
        · repeat' ((conv => whnf); first | (refine ask_wrap64 (by omega) (by omega) ?_) | fail)
          conv => whnf
          refine ⟨(N - (i + 1)).toNat, (i + 1, c, rest.drop 16), id, by omega, ⟨by show 0 ≤ i + 1; omega, by show i + 1 ≤ N; omega, rfl, fun _ => ⟨by show i + 1 ≤ (c : Int); omega, h4.2.1, ?_⟩⟩, ⟨?_, ?_, fun _ _ _ _ h => h, fun _ _ => rfl, ?_, ?_, Nat.zero_le _⟩⟩
          · show (rest.drop 16).length = (c - (i + 1).toNat) * 16
            rw [List.length_drop, h4.2.2]; omega
          · show renFr id (setL [(6, if i + 1 = 0 then _ else _), (11, _)] _) _
            rw [if_neg i10, show (i + 1).toNat = i.toNat + 1 by omega]
            repeat' (first | exact trivial | refine And.intro rfl ?_ | fail)
          · show renHp id _ 0 [sb (iterS s (i + 1).toNat), sb st0, if i + 1 = 0 then _ else .own 38 [.ints .i64 (c * 16) (outsL s (i + 1).toNat ++ rest.drop 16)]]
            rw [if_neg i10, en, eo, ← room_eq hO hL]
            exact And.intro rfl (And.intro rfl (And.intro rfl trivial))
          · show bndF 3 (setL [(6, if i + 1 = 0 then _ else _), (11, _)] _) = true
            rw [if_neg i10]; rfl
          · show bndH 3 [sb (iterS s (i + 1).toNat), sb st0, if i + 1 = 0 then _ else _] = true
            rw [if_neg i10]; rfl
        · repeat' ((conv => whnf); first | (refine ask_wrap64 (by omega) (by omega) ?_) | fail)
          conv => whnf
          refine ⟨(N - (i + 1)).toNat, (i + 1, c', List.replicate ((c' - (i.toNat + 1)) * 16) 0), rho25, by omega, ⟨by show 0 ≤ i + 1; omega, by show i + 1 ≤ N; omega, rfl, fun _ => ⟨by show i + 1 ≤ (c' : Int); omega, h6, ?_⟩⟩, ⟨?_, ?_, fun _ _ hp hq => rho25_inj hp hq, fun p hp => absurd hp (Nat.not_lt_zero p), ?_, ?_, Nat.zero_le _⟩⟩
          · show (List.replicate _ (0 : Int)).length = (c' - (i + 1).toNat) * 16
            rw [List.length_replicate]; congr 2; omega
          · show renFr rho25 (setL [(6, if i + 1 = 0 then _ else _), (11, _)] _) _
            rw [if_neg i10, show (i + 1).toNat = i.toNat + 1 by omega]
            repeat' (first | exact trivial | refine And.intro rfl ?_ | fail)
          · show renHp rho25 _ 0 [sb (iterS s (i + 1).toNat), sb st0, if i + 1 = 0 then _ else .own 38 [.ints .i64 (c' * 16) (outsL s (i + 1).toNat ++ List.replicate ((c' - (i.toNat + 1)) * 16) 0)]]
            rw [if_neg i10, en, eo, ← grow_eq (rest := rest) hO hL]
            exact And.intro rfl (And.intro rfl (And.intro rfl trivial))
          · show bndF 3 (setL [(6, if i + 1 = 0 then _ else _), (11, _)] _) = true
            rw [if_neg i10]; rfl
          · show bndH 3 [sb (iterS s (i + 1).toNat), sb st0, if i + 1 = 0 then _ else _] = true
            rw [if_neg i10]; rfl
      · have hiN : i = N := by omega
        repeat' ((conv => whnf); first | (refine ask_false (by omega) ?_) | (refine ⟨by kernel_rfl, ?_⟩) | fail)
        conv => whnf
        refine made_of (.tup [.c (.csl 0 0 0 i.toNat c), stW (iterS s i.toNat)]) [.own 38 [.ints .i64 (c * 16) (outsL s i.toNat ++ rest)]] (fun _ => 2) (.inr ⟨by omega, c, rest, by omega, h4.2.1, by rw [h4.2.2]; congr 2; omega, ?_, ?_⟩) rfl (And.intro rfl trivial) (fun p q hp hq _ => ?_) rfl rfl (by intro e; cases e)
        · rw [hiN]
        · rw [hiN]
        · have hp' : p < 1 := hp
          have hq' : q < 1 := hq
          omega
/-- Frames lost, one behind the other, as a call. -/
def hRun : HCt := fun ws H K => match ws with
  | [.agg [.ints .i64 n m, .one (.ci .i64 l), .ints .i64 a v, .ints .i64 b w, .one (.ci .i64 q)], .c (.ci .i64 k)] => (n = 16 ∧ a = 4 ∧ b = 16) ∧
    (k ≤ 0 → K (.tup [.c .csn, stW ⟨m, l, v, w, q⟩]) H) ∧
    (0 < k → k ≤ 1000 → ∀ (c : Nat) (rest : List Int), k.toNat ≤ c → c ≤ 9223372036854775807 → rest.length = (c - k.toNat) * 16 → lenH H 0 fun j => pushH H (.own 38 [.ints .i64 (c * 16) (outsL ⟨m, l, v, w, q⟩ k.toNat ++ rest)]) fun H' => K (.tup [.c (.csl j 0 0 k.toNat c), stW (iterS ⟨m, l, v, w, q⟩ k.toNat)]) H') ∧ k ≤ 1000
  | _ => False
theorem stW_ren (ρ : Nat → Nat) (s : St) : (stW s).ren ρ = stW s := rfl
theorem run_ct : HCtOk Try.prog 59 hRun := by
  intro ws H K h hr hb ho G σ base w₀ w hw
  unfold hRun at h
  split at h
  · rename_i n m l a v b ww q k
    obtain ⟨⟨rfl, rfl, rfl⟩, hz, hp, hk⟩ := h
    have ok : StOk ⟨m, l, v, ww, q⟩ := stOk_of hr.1
    refine walk_lift FGp_ok Try.func59 (n := 0) (ws := [stW ⟨m, l, v, ww, q⟩, i64 k]) (R := []) (P0 := ranP ⟨m, l, v, ww, q⟩ (max (min k 1000) 0).toNat) ⟨fun b hb => (by cases hb), fun b hb => (by cases hb)⟩ ⟨ok.rng, hr.2.1, trivial⟩ rfl (run_walk _ k ok hr.2.1) ?_ id (fun j b hj => by simp at hj) rfl ?_ ho G σ base w₀ w hw
    · rintro x N (⟨_, _, rfl⟩ | ⟨_, c, rest, _, _, _, _, rfl⟩) b hb
      · cases hb
      · rw [List.mem_singleton.1 hb]; exact .inl rfl
    · rintro x N (⟨h0, rfl, rfl⟩ | ⟨h0, c, rest, h1, h2, h3, rfl, rfl⟩)
      · have := hz (by omega)
        simpa [V.ren, W.ren, renW, C.ren, rens, Seg.ren] using this
      · have e : (max (min k 1000) 0).toNat = k.toNat := by omega
        rw [e] at h1 h3 ⊢
        have := hp (by omega) hk c rest h1 h2 h3
        rw [lenH_iff, pushH_iff, Nat.zero_add] at this
        simpa [V.ren, W.ren, renW, C.ren, rens, Seg.ren, Blk.ren, sh] using this
  · exact h.elim
end Go.Proofs.Ytbgjmlncdlcglaa
