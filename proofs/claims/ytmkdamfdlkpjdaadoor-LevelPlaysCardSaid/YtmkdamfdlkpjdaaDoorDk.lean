/- Chapter level: the law LevelFills, walked. -/
import Derived.Test.YtmkdamfdlkpjdaaDoorDj
set_option linter.all false
namespace Go.Proofs.YtmkdamfdlkpjdaaDoor
open Go.RowKit (Below)
set_option maxRecDepth 100000
set_option maxHeartbeats 32000000

def rho13 (j : Nat) : Nat := if j = 1 then 3 else j
theorem rho13_inj {i j : Nat} (hi : i < 2) (hj : j < 2) (h : rho13 i = rho13 j) : i = j := by unfold rho13 at h; split at h <;> split at h <;> omega
theorem rho13_low {j : Nat} (hj : j < 1) : rho13 j = j := by unfold rho13; rw [if_neg (by omega)]
noncomputable def FFl : Fns := FE.over 19 hFill
theorem FFl_ok : FnsOk Tryd.prog FFl G1 := FE_ok.over fill_ct Tryd.func19 (by kernel_rfl) (by kernel_rfl)
theorem mid_at {A R : List Int} {v : Int} {n : Nat} (h : A.length = n) : (A ++ [v] ++ R).getD n 0 = v := by
  rw [left_at (by rw [List.length_append, h]; simp), List.getD_eq_getElem?_getD, List.getElem?_append_right (by omega), h, Nat.sub_self]; rfl
theorem sumF_next {A : List Int} {v : Int} {n : Nat} (h : A.length = n) (hv : -8 ≤ v ∧ v ≤ 8) : sumF (A ++ [v]) (n + 1) = sumF A n + max v (0 - v) := by
  show sumF (A ++ [v]) n + szF ((A ++ [v]).getD n 0) = _
  have e : (A ++ [v]).getD n 0 = v := by
    have := mid_at (R := []) (v := v) h
    rwa [List.append_nil] at this
  rw [sumF_left (by omega), e, szF_def]
  omega
theorem i8_bounds {z : Int} (h : InK .i8 z) : -128 ≤ z ∧ z ≤ 127 := h
theorem fills_row (zs : List Int) (l : Nat) (hl : l ≤ zs.length) (hc : zs.length ≤ 9223372036854775807) (k0 : Int) (hk : 0 ≤ k0 ∧ k0 ≤ 255) : walkg FFl 0 Tryd.f6 [u8 k0, .c (.csl 0 0 0 l zs.length)] [.ro [.ints .i8 zs.length zs]] fun y _ => y = vb true := by
  by_cases h8 : 8 < l
  · repeat' ((conv => whnf); first | (refine ask_true (by omega) ?_) | (refine ask_false (by omega) ?_) | rfl | fail)
  · repeat' ((conv => whnf); first | (refine ask_true (by omega) ?_) | (refine ask_false (by omega) ?_) | (refine ask_wrap64 (by omega) (by omega) ?_) | (refine And.intro (by omega) ?_) | fail)
    conv => whnf
    intro k hkr
    have hk20 : 0 ≤ k ∧ k ≤ 20 := by rw [hkr, Int.tmod_eq_emod_of_nonneg hk.1]; omega
    clear hkr
    repeat' ((conv => whnf); first | fail)
    conv => whnf
    refine loop_ren3 (6 :: 7 :: 8 :: List.range' 23 27) (fun m (i : Int) (v : V) (b : Blk) => 0 ≤ i ∧ i ≤ l ∧ m = (l - i).toNat ∧ rowS 1 (q9 zs i.toNat) v b) (fun i v _ => [(6, v), (7, vi (sumF (q9 zs i.toNat) i.toNat)), (8, vi i)]) (fun _ _ b => [.ro [.ints .i8 zs.length zs], b]) l 0 (.w (.c .csn)) .gone ⟨by decide, by omega, by omega, .inl ⟨rfl, rfl, rfl⟩⟩ id ?_ ?_
    · refine ⟨?_, ?_, fun _ _ _ _ h => h, fun _ _ => rfl, rfl, rfl, Nat.le_of_ble_eq_true rfl⟩
      · repeat' (first | exact trivial | refine And.intro rfl ?_ | fail)
      · repeat' (first | exact trivial | refine And.intro rfl ?_ | fail)
    · rintro _ i v b ⟨i0, i1, rfl, hr⟩
      have em : mulN i.toNat (Tryd.prog.types[3]).size = i.toNat := mulN1 _
      have em8 : mulN i.toNat (Tryd.prog.types[35]).size = i.toNat := mulN1 _
      have ql := q9_len zs i.toNat
      have sb := sumF_in (q9 zs i.toNat) i.toNat
      rcases Int.lt_or_le i l with i2 | i2
      · rcases hr with ⟨t0, rfl, rfl⟩ | ⟨t0, d, s, f1, f2, f3, rfl, rfl⟩
        · have i00 : i.toNat = 0 := by rw [← ql, t0]; rfl
          obtain rfl : i = 0 := by omega
          repeat' ((conv => whnf); first | (refine ask_true (by omega) ?_) | (refine And.intro (by omega) ?_) | (refine fun (_ : InK _ _) => ?_) | fail)
          conv => whnf
          intro r hr'
          have rb := tmod_bound (a := zs.getD (0 + mulN (0 : Int).toNat (Tryd.prog.types[35]).size) 0) (b := 9) (by decide)
          rw [← hr'] at rb
          have qn : q9 zs ((0 : Int) + 1).toNat = q9 zs (0 : Int).toNat ++ [r] := by rw [show ((0 : Int) + 1).toNat = (0 : Int).toNat + 1 by omega, q9_next, hr', em8, Nat.zero_add]
          have e1 : ∀ R, (q9 zs (0 : Int).toNat ++ [r] ++ R).getD (0 + mulN (0 : Int).toNat (Tryd.prog.types[3]).size) 0 = r := fun R => by rw [em, Nat.zero_add]; exact mid_at ql
          have ns : sumF (q9 zs (0 : Int).toNat) (0 : Int).toNat + max r (0 - r) = sumF (q9 zs ((0 : Int) + 1).toNat) ((0 : Int) + 1).toNat := by rw [qn, show ((0 : Int) + 1).toNat = (0 : Int).toNat + 1 by omega]; exact (sumF_next ql (by omega)).symm
          clear hr'
          repeat' ((conv => whnf); first | (refine ask_wrap64 (by omega) (by omega) ?_) | (refine And.intro (by omega) ?_) | fail)
          conv => whnf
          refine And.intro ⟨by decide, by decide, Nat.le_of_ble_eq_true (by kernel_rfl)⟩ (fresh_as (zs := q9 zs (0 : Int).toNat ++ [r]) (by rw [t0]; rfl) fun c R h1 h2 h3 => ?_)
          have e := e1 (R)
          have ns' : sumF (q9 zs (0 : Int).toNat) (0 : Int).toNat + max ((q9 zs (0 : Int).toNat ++ [r] ++ R).getD (0 + mulN (0 : Int).toNat (Tryd.prog.types[3]).size) 0) (0 - ((q9 zs (0 : Int).toNat ++ [r] ++ R).getD (0 + mulN (0 : Int).toNat (Tryd.prog.types[3]).size) 0)) = sumF (q9 zs ((0 : Int) + 1).toNat) ((0 : Int) + 1).toNat := by rw [e]; exact ns
          repeat' ((conv => whnf); first | (refine ask_true (by omega) ?_) | (refine ask_false (by omega) ?_) | (refine And.intro (by omega) ?_) | (refine fun (_ : InK _ _) => ?_) | (refine ask_wrap64 (by omega) (by omega) ?_) | (refine ⟨by kernel_rfl, ?_⟩) | fail)
          conv => whnf
          refine ⟨(l - ((0 : Int) + 1)).toNat, ((0 : Int) + 1, .w (.c (.csl 1 0 0 ((0 : Int).toNat + 1) c)), .own 3 [.ints .i64 c (q9 zs (0 : Int).toNat ++ [r] ++ R)]), rho13, by omega, ⟨by show (0 : Int) ≤ 0 + 1; omega, by show (0 : Int) + 1 ≤ (l : Int); omega, rfl, ?_⟩, ⟨?_, ?_, fun _ _ hp hq => rho13_inj hp hq, fun _ hp => rho13_low hp, rfl, rfl, Nat.le_of_ble_eq_true rfl⟩⟩
          · show rowS 1 (q9 zs ((0 : Int) + 1).toNat) _ _
            rw [qn]; exact rowS_next ql.symm (by omega) (by omega) (by omega)
          · refine And.intro rfl (And.intro rfl (And.intro rfl (And.intro rfl (And.intro rfl (And.intro rfl (And.intro rfl (And.intro (congrArg vi ns') ?_)))))))
            repeat' (first | exact trivial | refine And.intro rfl ?_ | fail)
          · exact And.intro rfl (And.intro rfl trivial)
        · rw [ql] at f1 f3
          rw [ql]
          repeat' ((conv => whnf); first | (refine ask_true (by omega) ?_) | (refine And.intro (by omega) ?_) | (refine fun (_ : InK _ _) => ?_) | fail)
          conv => whnf
          intro r hr'
          have rb := tmod_bound (a := zs.getD (0 + mulN i.toNat (Tryd.prog.types[35]).size) 0) (b := 9) (by decide)
          rw [← hr'] at rb
          have qn : q9 zs (i + 1).toNat = q9 zs i.toNat ++ [r] := by rw [show (i + 1).toNat = i.toNat + 1 by omega, q9_next, hr', em8, Nat.zero_add]
          have e1 : ∀ R, (q9 zs i.toNat ++ [r] ++ R).getD (0 + mulN i.toNat (Tryd.prog.types[3]).size) 0 = r := fun R => by rw [em, Nat.zero_add]; exact mid_at ql
          have ns : sumF (q9 zs i.toNat) i.toNat + max r (0 - r) = sumF (q9 zs (i + 1).toNat) (i + 1).toNat := by rw [qn, show (i + 1).toNat = i.toNat + 1 by omega]; exact (sumF_next ql (by omega)).symm
          clear hr'
          repeat' ((conv => whnf); first | (refine ask_wrap64 (by omega) (by omega) ?_) | (refine And.intro (by omega) ?_) | fail)
          conv => whnf
          refine And.intro ⟨rfl, by omega, by rw [bytes3]; omega⟩ (And.intro (fun hroom => ?_) fun hg => fresh_as (zs := q9 zs i.toNat ++ [r]) (grow_eq ql.symm) fun c R h1 h2 h3 => ?_)
          · have hroom' : i.toNat + 1 ≤ d := hroom
            have lr : (s.drop 1).length = d - (i.toNat + 1) := by rw [List.length_drop]; omega
            have er : (List.take i.toNat (q9 zs i.toNat ++ s) ++ List.take 1 (List.drop 0 ((List.replicate (1 * (Tryd.prog.types[3]).size) 0).set 0 r)) ++ List.drop (i.toNat + 1) (q9 zs i.toNat ++ s)) = q9 zs i.toNat ++ [r] ++ s.drop 1 := room_eq ql.symm
            have e : ((List.take i.toNat (q9 zs i.toNat ++ s) ++ List.take 1 (List.drop 0 ((List.replicate (1 * (Tryd.prog.types[3]).size) 0).set 0 r)) ++ List.drop (i.toNat + 1) (q9 zs i.toNat ++ s)).getD (0 + mulN i.toNat (Tryd.prog.types[3]).size) 0) = r := by rw [er]; exact e1 _
            have ns' : sumF (q9 zs i.toNat) i.toNat + max ((List.take i.toNat (q9 zs i.toNat ++ s) ++ List.take 1 (List.drop 0 ((List.replicate (1 * (Tryd.prog.types[3]).size) 0).set 0 r)) ++ List.drop (i.toNat + 1) (q9 zs i.toNat ++ s)).getD (0 + mulN i.toNat (Tryd.prog.types[3]).size) 0) (0 - ((List.take i.toNat (q9 zs i.toNat ++ s) ++ List.take 1 (List.drop 0 ((List.replicate (1 * (Tryd.prog.types[3]).size) 0).set 0 r)) ++ List.drop (i.toNat + 1) (q9 zs i.toNat ++ s)).getD (0 + mulN i.toNat (Tryd.prog.types[3]).size) 0)) = sumF (q9 zs (i + 1).toNat) (i + 1).toNat := by rw [e]; exact ns
            repeat' ((conv => whnf); first | (refine ask_true (by omega) ?_) | (refine ask_false (by omega) ?_) | (refine And.intro (by omega) ?_) | (refine fun (_ : InK _ _) => ?_) | (refine ask_wrap64 (by omega) (by omega) ?_) | (refine ⟨by kernel_rfl, ?_⟩) | fail)
            conv => whnf
            refine ⟨(l - (i + 1)).toNat, (i + 1, .w (.c (.csl 1 0 0 (i.toNat + 1) d)), .own 3 [.ints .i64 d (q9 zs i.toNat ++ [r] ++ s.drop 1)]), id, by omega, ⟨by show 0 ≤ i + 1; omega, by show i + 1 ≤ (l : Int); omega, rfl, ?_⟩, ⟨?_, ?_, fun _ _ _ _ h => h, fun _ _ => rfl, rfl, rfl, Nat.le_of_ble_eq_true rfl⟩⟩
            · show rowS 1 (q9 zs (i + 1).toNat) _ _
              rw [qn]; exact rowS_next ql.symm (by omega) (by omega) (lr)
            · refine And.intro rfl (And.intro rfl (And.intro rfl (And.intro rfl (And.intro rfl (And.intro rfl (And.intro rfl (And.intro (congrArg vi ns') ?_)))))))
              repeat' (first | exact trivial | refine And.intro rfl ?_ | fail)
            · exact And.intro rfl (And.intro (congrArg some (congrArg (fun ys => Blk.own 3 [.ints .i64 _ ys]) er)) trivial)
          · have e := e1 (R)
            have ns' : sumF (q9 zs i.toNat) i.toNat + max ((q9 zs i.toNat ++ [r] ++ R).getD (0 + mulN i.toNat (Tryd.prog.types[3]).size) 0) (0 - ((q9 zs i.toNat ++ [r] ++ R).getD (0 + mulN i.toNat (Tryd.prog.types[3]).size) 0)) = sumF (q9 zs (i + 1).toNat) (i + 1).toNat := by rw [e]; exact ns
            repeat' ((conv => whnf); first | (refine ask_true (by omega) ?_) | (refine ask_false (by omega) ?_) | (refine And.intro (by omega) ?_) | (refine fun (_ : InK _ _) => ?_) | (refine ask_wrap64 (by omega) (by omega) ?_) | (refine ⟨by kernel_rfl, ?_⟩) | fail)
            conv => whnf
            refine ⟨(l - (i + 1)).toNat, (i + 1, .w (.c (.csl 1 0 0 (i.toNat + 1) c)), .own 3 [.ints .i64 c (q9 zs i.toNat ++ [r] ++ R)]), rho13, by omega, ⟨by show 0 ≤ i + 1; omega, by show i + 1 ≤ (l : Int); omega, rfl, ?_⟩, ⟨?_, ?_, fun _ _ hp hq => rho13_inj hp hq, fun _ hp => rho13_low hp, rfl, rfl, Nat.le_of_ble_eq_true rfl⟩⟩
            · show rowS 1 (q9 zs (i + 1).toNat) _ _
              rw [qn]; exact rowS_next ql.symm (by omega) (by omega) (by omega)
            · refine And.intro rfl (And.intro rfl (And.intro rfl (And.intro rfl (And.intro rfl (And.intro rfl (And.intro rfl (And.intro (congrArg vi ns') ?_)))))))
              repeat' (first | exact trivial | refine And.intro rfl ?_ | fail)
            · exact And.intro rfl (And.intro rfl trivial)
      · have it : i.toNat = l := by omega
        rw [it] at hr ql sb
        rw [it]
        rcases hr with ⟨t0, rfl, rfl⟩ | ⟨t0, d, s, f1, f2, f3, rfl, rfl⟩
        · have l0 : l = 0 := by rw [← ql, t0]; rfl
          subst l0
          repeat' ((conv => whnf); first | (refine ask_false (by omega) ?_) | fail)
          conv => whnf
          refine loop_at (10 :: 11 :: List.range' 53 44) (fun m (i : Int) => i = 0 ∧ m = 0) (fun i => [(10, vi 0), (11, vi i)]) (fun _ => [.ro [.ints .i8 zs.length zs], .gone, .own 3 [.ints .i64 0 []]]) 0 0 ⟨rfl, rfl⟩ ?_ ?_
          · exact ⟨rfl, ⟨⟨Nat.le_of_ble_eq_true rfl, rfl⟩, ⟨Nat.le_of_ble_eq_true rfl, rfl⟩, trivial⟩, ⟨rfl, rfl, trivial⟩, rfl, rfl, Nat.le_of_ble_eq_true rfl⟩
          · rintro m i ⟨rfl, rfl⟩
            rcases Classical.em (k = 0) with hk0 | hk0
            all_goals repeat' ((conv => whnf); first | (refine ask_true (by omega) ?_) | (refine ask_false (by omega) ?_) | (refine ask_true (by decide) ?_) | (refine ask_true rfl ?_) | rfl | fail)
        · rw [ql] at f1 f3 ⊢
          have lp : 0 < l := by
            rcases Nat.eq_zero_or_pos l with h | h
            · rw [h] at t0; exact absurd rfl t0
            · exact h
          have et : List.take l (q9 zs l ++ s) = q9 zs l := take_all ql.symm
          have q8 := q9_in (zs := zs) (n := l)
          have fz : (flZ k (q9 zs l)).length = l := by rw [flZ_len, ql]
          have rk : rightL k (q9 zs l) := by rw [rightL_def]; exact ⟨hk20, by omega, q8⟩
          repeat' ((conv => whnf); first | (refine ask_false (by omega) ?_) | (refine And.intro ⟨rfl, rfl⟩ ?_) | (refine And.intro rfl ?_) | (refine And.intro (by omega) ?_) | fail)
          conv => whnf
          obtain ⟨Z, eZ⟩ : ∃ Z, Z = flZ k (List.take l (q9 zs l ++ s)) := ⟨_, rfl⟩
          refine loop_at (10 :: 11 :: List.range' 53 44) (fun m (i : Int) => 0 ≤ i ∧ i ≤ l ∧ m = (l - i).toNat) (fun i => [(10, vi (sumF Z i.toNat)), (11, vi i)]) (fun _ => [.ro [.ints .i8 zs.length zs], .own 3 [.ints .i64 d (q9 zs l ++ s)], .own 3 [.ints .i64 l Z]]) l 0 ⟨by decide, by omega, by omega⟩ ?_ ?_
          · rw [eZ]
            exact ⟨rfl, ⟨⟨Nat.le_of_ble_eq_true rfl, rfl⟩, ⟨Nat.le_of_ble_eq_true rfl, rfl⟩, trivial⟩, ⟨rfl, rfl, rfl, trivial⟩, rfl, rfl, Nat.le_of_ble_eq_true rfl⟩
          · rw [et] at eZ
            rw [← eZ] at fz
            clear it i0 i1 i2 em em8
            rintro _ i ⟨i0, i1, rfl⟩
            have em : mulN i.toNat (Tryd.prog.types[3]).size = i.toNat := mulN1 _
            have zb := sumF_in Z i.toNat
            rcases Int.lt_or_le i l with i2 | i2
            · have hz := fill_signs (lv := k) (ys := q9 zs l) (i := i.toNat) (by omega)
              have hb := flZ_in (lv := k) (ys := q9 zs l) (i := i.toNat) (by omega)
              rw [← eZ, ← left_at (rest := s) (xs := q9 zs l) (by omega)] at hz
              rw [← eZ] at hb
              have e1 : Z.getD (0 + mulN i.toNat (Tryd.prog.types[3]).size) 0 = Z.getD i.toNat 0 := by rw [em, Nat.zero_add]
              have e2 : (q9 zs l ++ s).getD (0 + mulN i.toNat (Tryd.prog.types[3]).size) 0 = (q9 zs l ++ s).getD i.toNat 0 := by rw [em, Nat.zero_add]
              rw [← e1] at hb
              rw [← e1, ← e2] at hz
              have hs : sumF Z i.toNat + max (Z.getD (0 + mulN i.toNat (Tryd.prog.types[3]).size) 0) (0 - Z.getD (0 + mulN i.toNat (Tryd.prog.types[3]).size) 0) = sumF Z (i + 1).toNat := by
                rw [show (i + 1).toNat = i.toNat + 1 by omega]
                show _ = sumF Z i.toNat + szF (Z.getD i.toNat 0)
                rw [← e1, szF_def]
                omega
              rcases Int.lt_trichotomy (Z.getD (0 + mulN i.toNat (Tryd.prog.types[3]).size) 0) 0 with hl0 | hl0 | hl0
              all_goals repeat' ((conv => whnf); first | (refine ask_true (by omega) ?_) | (refine ask_false (by omega) ?_) | (refine And.intro (by omega) ?_) | (refine fun (_ : InK _ _) => ?_) | (refine ask_wrap64 (by omega) (by omega) ?_) | (refine ⟨by kernel_rfl, ?_⟩) | fail)
              all_goals (conv => whnf)
              all_goals exact ⟨(l - (i + 1)).toNat, i + 1, by omega, ⟨by omega, by omega, rfl⟩, rfl, ⟨⟨Nat.le_of_ble_eq_true rfl, congrArg vi hs⟩, ⟨Nat.le_of_ble_eq_true rfl, rfl⟩, trivial⟩, ⟨rfl, rfl, rfl, trivial⟩, rfl, rfl, Nat.le_of_ble_eq_true rfl⟩
            · have hi : i.toNat = l := by omega
              rw [hi] at zb ⊢
              have pk := pw_pos k
              have pm := pw_mono hk20.2
              have p20 : pw 20 = 1048576 := by rw [pw_def]; decide
              rcases Classical.em (k = 0 ∨ sumF (q9 zs l) l = 0) with hz | hz
              · have h0 := fill_none (lv := k) (ys := q9 zs l) (by rw [ql]; exact hz)
                rw [ql, ← eZ] at h0
                rcases Classical.em (k = 0) with hk0 | hk0
                all_goals repeat' ((conv => whnf); first | (refine ask_true (by omega) ?_) | (refine ask_false (by omega) ?_) | (refine ask_true rfl ?_) | rfl | fail)
              · have h0 := fill_level rk (fun h => hz (.inl h)) (by rw [ql]; omega)
                rw [ql, ← eZ] at h0
                by_cases h6 : k < 6
                all_goals repeat' ((conv => whnf); first | (refine ask_true (by omega) ?_) | (refine ask_false (by omega) ?_) | (refine ask_true rfl ?_) | (refine And.intro (by omega) ?_) | (refine shl64 (by omega) (by omega) (by omega) (by omega) ?_) | (refine ask_wrap64 (by omega) (by omega) ?_) | rfl | fail)
theorem fills_nil (k0 : Int) (hk : 0 ≤ k0 ∧ k0 ≤ 255) : walkg FFl 0 Tryd.f6 [u8 k0, .c .csn] [] fun y _ => y = vb true := by
  repeat' ((conv => whnf); first | (refine ask_true (by omega) ?_) | (refine ask_false (by omega) ?_) | (refine ask_wrap64 (by omega) (by omega) ?_) | (refine And.intro (by omega) ?_) | fail)
  conv => whnf
  intro k hkr
  have hk20 : 0 ≤ k ∧ k ≤ 20 := by rw [hkr, Int.tmod_eq_emod_of_nonneg hk.1]; omega
  clear hkr
  repeat' ((conv => whnf); first | fail)
  conv => whnf
  refine loop_at (6 :: 7 :: 8 :: List.range' 23 27) (fun m (i : Int) => i = 0 ∧ m = 0) (fun i => [(6, .w (.c .csn)), (7, vi 0), (8, vi i)]) (fun _ => []) 0 0 ⟨rfl, rfl⟩ ?_ ?_
  · exact ⟨rfl, ⟨⟨Nat.le_of_ble_eq_true rfl, rfl⟩, ⟨Nat.le_of_ble_eq_true rfl, rfl⟩, ⟨Nat.le_of_ble_eq_true rfl, rfl⟩, trivial⟩, trivial, rfl, rfl, Nat.zero_le _⟩
  · rintro m i ⟨rfl, rfl⟩
    repeat' ((conv => whnf); first | (refine ask_false (by decide) ?_) | fail)
    conv => whnf
    refine loop_at (10 :: 11 :: List.range' 53 44) (fun m (i : Int) => i = 0 ∧ m = 0) (fun i => [(10, vi 0), (11, vi i)]) (fun _ => [.own 3 [.ints .i64 0 []]]) 0 0 ⟨rfl, rfl⟩ ?_ ?_
    · exact ⟨rfl, ⟨⟨Nat.le_of_ble_eq_true rfl, rfl⟩, ⟨Nat.le_of_ble_eq_true rfl, rfl⟩, trivial⟩, ⟨rfl, trivial⟩, rfl, rfl, Nat.zero_le _⟩
    · rintro m i ⟨rfl, rfl⟩
      rcases Classical.em (k = 0) with hk0 | hk0
      all_goals repeat' ((conv => whnf); first | (refine ask_true (by omega) ?_) | (refine ask_false (by omega) ?_) | (refine ask_true (by decide) ?_) | (refine ask_true rfl ?_) | rfl | fail)
theorem ro_ok8 {xs : List Int} (hx : ∀ y ∈ xs, InK .i8 y) : HOk [.ro [.ints .i8 xs.length xs]] := ⟨fun b hb => by rw [List.mem_singleton.1 hb]; exact ⟨⟨rfl, hx⟩, trivial⟩, fun b hb => by rw [List.mem_singleton.1 hb]; rfl⟩
theorem law_LevelFills (W0 : World) (k : Int) (hk : InK .u8 k) (v : Value) (wv : SlIn .i8 W0 v) (hg : GW G1 W0) : Calls Tryd.prog 6 #[.int .u8 k, v] W0 fun e w' => e = .returned (.bool true) ∧ Below W0.heap.size W0 w' := by
  rcases wv with rfl | ⟨bk, o, len, cap, zs, rfl, hl, hc, hbw, hz, hzx, hcell⟩
  · exact walkg_true FFl_ok Tryd.func6 (ws := [u8 k, .c .csn]) ⟨hk, trivial, trivial⟩ rfl (n := 0) (fills_nil k hk) W0 hg
  · subst hz
    exact walkg_true_ro FFl_ok Tryd.func6 (ws := [u8 k, .c (.csl 0 0 0 len zs.length)]) (R := [.ro [.ints .i8 zs.length zs]]) ⟨hk, ⟨hl, hc⟩, trivial⟩ rfl (n := 0) (fills_row zs len hl hc k hk) (ro_ok8 hzx) (fun _ => (bk, o)) W0 (by
      intro j c hj
      match j, hj with
      | 0, hj => simp at hj; subst hj; exact ⟨rfl, ro_of_slIn rfl hbw hcell⟩
      | j + 1, hj => simp at hj) hg
end Go.Proofs.YtmkdamfdlkpjdaaDoor
