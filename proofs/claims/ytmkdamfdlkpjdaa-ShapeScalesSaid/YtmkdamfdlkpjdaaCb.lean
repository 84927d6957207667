/- Chapter shape: waves; what is right. -/
import Derived.Test.YtmkdamfdlkpjdaaCa
set_option linter.all false
namespace Go.Proofs.Ytmkdamfdlkpjdaa
open Go.RowKit (Below)
set_option maxRecDepth 100000
set_option maxHeartbeats 32000000

/-! ### waves -/
@[irreducible] noncomputable def r19 : Int → Int := sealed fun x => x.tmod 524288
theorem r19_def (x : Int) : r19 x = x.tmod 524288 := by unfold r19; rw [sealed_eq]
theorem r19_bound (x : Int) : -524287 ≤ r19 x ∧ r19 x ≤ 524287 := by
  have := tmod_bound (a := x) (b := 524288) (by decide)
  rw [r19_def]; omega
/-- The first samples' waves. -/
noncomputable def wav (zs : List Int) (n : Nat) : List Int := (zs.take n).map r19
theorem wav_len {zs : List Int} {n : Nat} (h : n ≤ zs.length) : (wav zs n).length = n := by simp [wav]; omega
theorem wav_next {zs : List Int} {n : Nat} (h : n < zs.length) : wav zs (n + 1) = wav zs n ++ [r19 (zs.getD n 0)] := by
  unfold wav
  rw [List.take_succ_eq_append_getElem h, List.map_append, List.getD_eq_getElem?_getD, List.getElem?_eq_getElem h]; rfl
theorem wav_in {zs : List Int} {n : Nat} {x : Int} (hx : x ∈ wav zs n) : -524287 ≤ x ∧ x ≤ 524287 := by
  unfold wav at hx
  obtain ⟨y, _, rfl⟩ := List.mem_map.1 hx
  exact r19_bound y
def rho13 (j : Nat) : Nat := if j = 1 then 3 else j
theorem rho13_inj {i j : Nat} (hi : i < 2) (hj : j < 2) (h : rho13 i = rho13 j) : i = j := by unfold rho13 at h; split at h <;> split at h <;> omega
theorem rho13_low {j : Nat} (hj : j < 1) : rho13 j = j := by unfold rho13; rw [if_neg (by omega)]
noncomputable abbrev wavH (zs : List Int) (m : Nat) (i : Int) (c : Nat) (rest : List Int) : List Blk := [.ro [.ints .i64 m zs], if i = 0 then .gone else .own 3 [.ints .i64 c (wav zs i.toNat ++ rest)]]
abbrev wavV (i : Int) (c : Nat) : V := if i = 0 then .w (.c .csn) else .w (.c (.csl 1 0 0 i.toNat c))
/-- A row of so many numbers, or none. -/
def rowP (xs : List Int) (x : V) (N : List Blk) : Prop := (xs = [] ∧ x = .w (.c .csn) ∧ N = []) ∨ (xs ≠ [] ∧ ∃ (c : Nat) (rest : List Int), xs.length ≤ c ∧ c ≤ 9223372036854775807 ∧ rest.length = c - xs.length ∧ x = .w (.c (.csl 0 0 0 xs.length c)) ∧ N = [.own 3 [.ints .i64 c (xs ++ rest)]])
theorem take_one {y : Int} : List.take 1 (List.drop 0 [y]) = [y] := rfl
theorem waves_walk (zs : List Int) (len m : Nat) (hz : zs.length = m) (hl : len ≤ m) (hc : m ≤ 9223372036854775807) (hx : ∀ z ∈ zs, InK .i64 z) :
    walk F0 0 Try.f14 [.c (.csl 0 0 0 len m)] [.ro [.ints .i64 m zs]] (Made (rowP (wav zs (min len 8)))) := by
  obtain ⟨N, hN⟩ : ∃ N : Int, N = min (len : Int) 8 := ⟨_, rfl⟩
  conv => whnf
  refine loop_ren3 (3 :: 4 :: List.range' 5 18) (fun k (i : Int) (c : Nat) (rest : List Int) => 0 ≤ i ∧ i ≤ N ∧ k = (N - i).toNat ∧ (i ≠ 0 → i ≤ c ∧ c ≤ 9223372036854775807 ∧ rest.length = c - i.toNat)) (fun i c _ => [(3, wavV i c), (4, vi i)]) (fun i c rest => wavH zs m i c rest) N.toNat 0 0 [] ⟨by decide, by omega, by omega, fun h => absurd rfl h⟩ id ?_ ?_
  · refine ⟨?_, And.intro rfl trivial, fun _ _ _ _ h => h, fun _ _ => rfl, rfl, rfl, Nat.le_of_ble_eq_true rfl⟩
    repeat' (first | exact trivial | refine And.intro rfl ?_ | fail)
  · rintro k i c rest ⟨h0, h1, rfl, h3⟩
    have em : mulN i.toNat (Try.prog.types[3]).size = i.toNat := mulN1 _
    have ewav : i < N → wav zs (i + 1).toNat = wav zs i.toNat ++ [r19 (zs.getD (0 + mulN i.toNat (Try.prog.types[3]).size) 0)] := fun hi => by
      rw [show (i + 1).toNat = i.toNat + 1 by omega, wav_next (by omega), em, Nat.zero_add]
    have wlen : (wav zs i.toNat).length = i.toNat := wav_len (by omega)
    by_cases hi : i = 0
    · subst hi
      rcases Int.lt_or_le 0 N with hN1 | hN1
      · repeat' ((conv => whnf); first | (refine ask_true (by omega) ?_) | (refine And.intro rfl ?_) | (refine And.intro (by omega) fun r hr => ?_) | (refine And.intro (by omega) ?_) | (refine fun (_ : InK _ _) => ?_) | fail)
        conv => whnf
        refine And.intro ⟨by decide, by decide, Nat.le_of_ble_eq_true (by kernel_rfl)⟩ fun c' (h4 : 1 ≤ c') (h5 : c' ≤ 9223372036854775807) => ?_
        repeat' ((conv => whnf); first | (refine ask_wrap64 (by omega) (by omega) ?_) | fail)
        conv => whnf
        refine ⟨(N - 1).toNat, (1, c', List.replicate (c' - 1) 0), rho13, by omega, ⟨by show (0 : Int) ≤ 1; decide, by show (1 : Int) ≤ N; omega, rfl, fun _ => ⟨by show (1 : Int) ≤ (c' : Int); omega, h5, by simp⟩⟩, ⟨?_, ?_, fun _ _ hp hq => rho13_inj hp hq, fun p hp => rho13_low hp, rfl, rfl, Nat.le_of_ble_eq_true rfl⟩⟩
        · repeat' (first | exact trivial | refine And.intro rfl ?_ | fail)
        · refine And.intro rfl (And.intro ?_ trivial)
          refine congrArg some (congrArg (fun ys => Blk.own 3 [.ints .i64 c' ys]) ?_)
          have e := ewav hN1
          rw [show (0 + 1 : Int).toNat = 1 from rfl] at e
          show List.take 1 (List.drop 0 [r]) ++ _ = wav zs 1 ++ _
          rw [e, take_one, r19_def, hr]
          rfl
      · have hN2 : N = 0 := by omega
        have ew : wav zs (min len 8) = [] := by rw [show min len 8 = 0 by omega]; rfl
        repeat' ((conv => whnf); first | (refine ask_true (by omega) ?_) | (refine ask_false (by omega) ?_) | fail)
        conv => whnf
        exact made_of (.w (.c .csn)) [] id (.inl ⟨ew, rfl, rfl⟩) rfl trivial (fun p q hp _ _ => absurd hp (Nat.not_lt_zero p)) rfl rfl (by intro e; cases e)
    · have h4 := h3 hi
      have i10 : i + 1 ≠ 0 := by omega
      unfold wavV wavH
      rw [if_neg hi, if_neg hi]
      rcases Int.lt_or_le i N with hN1 | hN1
      · have e := ewav hN1
        repeat' ((conv => whnf); first | (refine ask_true (by omega) ?_) | (refine And.intro rfl ?_) | (refine And.intro (by omega) fun r hr => ?_) | (refine And.intro (by omega) ?_) | (refine fun (_ : InK _ _) => ?_) | fail)
        conv => whnf
        have eb : (Try.prog.types[3]).bytes = 8 := by kernel_rfl
        have tk : List.take i.toNat (wav zs i.toNat ++ rest) = wav zs i.toNat := by rw [List.take_append_of_le_length (by omega), List.take_of_length_le (by omega)]
        refine And.intro ⟨rfl, by omega, by rw [eb]; omega⟩ (And.intro (fun hroom => ?_) fun hg c' (h5 : i.toNat + 1 ≤ c') (h6 : c' ≤ 9223372036854775807) => ?_)
        · repeat' ((conv => whnf); first | (refine ask_wrap64 (by omega) (by omega) ?_) | fail)
          conv => whnf
          refine ⟨(N - (i + 1)).toNat, (i + 1, c, rest.drop 1), id, by omega, ⟨by show 0 ≤ i + 1; omega, by show i + 1 ≤ N; omega, rfl, fun _ => ⟨by show i + 1 ≤ (c : Int); omega, h4.2.1, ?_⟩⟩, ⟨?_, ?_, fun _ _ _ _ h => h, fun _ _ => rfl, ?_, ?_, Nat.le_of_ble_eq_true rfl⟩⟩
          · show (rest.drop 1).length = c - (i + 1).toNat
            rw [List.length_drop, h4.2.2]; omega
          · show renFr id (setL [(3, if i + 1 = 0 then _ else _), (4, _)] _) _
            rw [if_neg i10, show (i + 1).toNat = i.toNat + 1 by omega]
            repeat' (first | exact trivial | refine And.intro rfl ?_ | fail)
          · show renHp id _ 0 [_, if i + 1 = 0 then _ else .own 3 [.ints .i64 c (wav zs (i + 1).toNat ++ rest.drop 1)]]
            rw [if_neg i10, e]
            refine And.intro rfl (And.intro ?_ trivial)
            refine congrArg some (congrArg (fun ys => Blk.own 3 [.ints .i64 c ys]) ?_)
            show List.take i.toNat (wav zs i.toNat ++ rest) ++ List.take 1 (List.drop 0 [r]) ++ List.drop (i.toNat + 1) (wav zs i.toNat ++ rest) = _
            rw [tk, take_one, List.drop_append, List.drop_of_length_le (by omega), List.nil_append, wlen, show i.toNat + 1 - i.toNat = 1 by omega, r19_def, hr]
          · show bndF 2 (setL [(3, if i + 1 = 0 then _ else _), (4, _)] _) = true
            rw [if_neg i10]; rfl
          · show bndH 2 [_, if i + 1 = 0 then _ else _] = true
            rw [if_neg i10]; rfl
        · repeat' ((conv => whnf); first | (refine ask_wrap64 (by omega) (by omega) ?_) | fail)
          conv => whnf
          refine ⟨(N - (i + 1)).toNat, (i + 1, c', List.replicate (c' - (i.toNat + 1)) 0), rho13, by omega, ⟨by show 0 ≤ i + 1; omega, by show i + 1 ≤ N; omega, rfl, fun _ => ⟨by show i + 1 ≤ (c' : Int); omega, h6, ?_⟩⟩, ⟨?_, ?_, fun _ _ hp hq => rho13_inj hp hq, fun p hp => rho13_low hp, ?_, ?_, Nat.le_of_ble_eq_true rfl⟩⟩
          · show (List.replicate _ (0 : Int)).length = c' - (i + 1).toNat
            rw [List.length_replicate]; omega
          · show renFr rho13 (setL [(3, if i + 1 = 0 then _ else _), (4, _)] _) _
            rw [if_neg i10, show (i + 1).toNat = i.toNat + 1 by omega]
            repeat' (first | exact trivial | refine And.intro rfl ?_ | fail)
          · show renHp rho13 _ 0 [_, if i + 1 = 0 then _ else .own 3 [.ints .i64 c' (wav zs (i + 1).toNat ++ List.replicate (c' - (i.toNat + 1)) 0)]]
            rw [if_neg i10, e]
            refine And.intro rfl (And.intro ?_ trivial)
            refine congrArg some (congrArg (fun ys => Blk.own 3 [.ints .i64 c' ys]) ?_)
            show List.take i.toNat (wav zs i.toNat ++ rest) ++ List.take 1 (List.drop 0 [r]) ++ List.replicate (c' - (i.toNat + 1)) 0 = _
            rw [tk, take_one, r19_def, hr]
          · show bndF 2 (setL [(3, if i + 1 = 0 then _ else _), (4, _)] _) = true
            rw [if_neg i10]; rfl
          · show bndH 2 [_, if i + 1 = 0 then _ else _] = true
            rw [if_neg i10]; rfl
      · have hiN : i = N := by omega
        have ew : wav zs (min len 8) = wav zs i.toNat := by rw [show min len 8 = i.toNat by omega]
        rcases Int.lt_or_le i (len : Int) with hl1 | hl1
        all_goals repeat' ((conv => whnf); first | (refine ask_true (by omega) ?_) | (refine ask_false (by omega) ?_) | fail)
        all_goals (conv => whnf)
        all_goals rw [ew]
        all_goals show Made (rowP (wav zs i.toNat)) _ _
        all_goals refine made_of (P0 := rowP (wav zs i.toNat)) (.w (.c (.csl 0 0 0 i.toNat c))) [.own 3 [.ints .i64 c (wav zs i.toNat ++ rest)]] (fun _ => 1) (.inr ⟨fun h => by rw [h] at wlen; simp at wlen; omega, c, rest, by omega, h4.2.1, by rw [wlen]; exact h4.2.2, by rw [wlen], rfl⟩) rfl (And.intro rfl trivial) (fun p q hp hq _ => by have hp' : p < 1 := hp; have hq' : q < 1 := hq; omega) rfl rfl (by intro e; cases e)
end Go.Proofs.Ytmkdamfdlkpjdaa
