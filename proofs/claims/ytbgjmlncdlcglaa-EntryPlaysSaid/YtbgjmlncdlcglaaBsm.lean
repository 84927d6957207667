/- Chapters crc and state: the document's bytes, walked. -/
import Derived.Test.YtbgjmlncdlcglaaBsd
set_option linter.all false
namespace Go.Proofs.Ytbgjmlncdlcglaa
open Go.RowKit (Below)
set_option maxRecDepth 100000
set_option maxHeartbeats 32000000

/-- A number, so many bytes shifted away. -/
def dv (u : Int) : Nat → Int
  | 0 => u
  | n + 1 => dv u n / 256
theorem dv_in {u : Int} (h0 : 0 ≤ u) (h1 : u ≤ 4294967295) : ∀ n, 0 ≤ dv u n ∧ dv u n ≤ 4294967295
  | 0 => ⟨h0, h1⟩
  | n + 1 => by have := dv_in h0 h1 n; show 0 ≤ dv u n / 256 ∧ dv u n / 256 ≤ _; omega
theorem four_next {u : Int} {i : Nat} (h : i < 4) : strOfNums ((four u).take i) ++ strOfNums [dv u i % 256] = strOfNums ((four u).take (i + 1)) := by
  rw [str_append]
  congr 1
  obtain rfl | rfl | rfl | rfl : i = 0 ∨ i = 1 ∨ i = 2 ∨ i = 3 := by omega
  · rfl
  · rfl
  · show [u % 256, u / 256 % 256, u / 256 / 256 % 256] = [u % 256, u / 256 % 256, u / 65536 % 256]
    rw [show u / 256 / 256 = u / 65536 by omega]
  · show [u % 256, u / 256 % 256, u / 65536 % 256, u / 256 / 256 / 256 % 256] = [u % 256, u / 256 % 256, u / 65536 % 256, u / 16777216 % 256]
    rw [show u / 256 / 256 / 256 = u / 16777216 by omega]
theorem size_le {xs : List Int} {ys : List Int} (h : xs.length + ys.length ≤ 1000000) : (strOfNums xs).size + (strOfNums ys).size ≤ 9223372036854775807 := by
  rw [strOfNums_size, strOfNums_size]; omega
theorem take4_len (u : Int) (i : Nat) : ((four u).take i).length ≤ 4 := by rw [List.length_take]; show min i 4 ≤ 4; omega

theorem refFour_walk (u : Int) (h0 : 0 ≤ u) (h1 : u ≤ 4294967295) : walk F0 0 Try.f88 [u32 u] [] fun y _ => y = .w (.c (.cs (strOfNums (four u)))) := by
  conv => whnf
  refine loop_at (0 :: 3 :: 4 :: List.range' 5 13) (fun m (i : Int) => 0 ≤ i ∧ i ≤ 4 ∧ m = (4 - i).toNat) (fun i => [(0, .w (u32 (dv u i.toNat))), (3, .w (.c (.cs (strOfNums ((four u).take i.toNat))))), (4, vi i)]) (fun _ => []) 4 0 ⟨by decide, by decide, rfl⟩ ?_ ?_
  · exact ⟨rfl, ⟨⟨Nat.le_of_ble_eq_true rfl, rfl⟩, ⟨Nat.le_of_ble_eq_true rfl, rfl⟩, ⟨Nat.le_of_ble_eq_true rfl, rfl⟩, trivial⟩, trivial, rfl, rfl, Nat.zero_le _⟩
  · rintro m i ⟨i0, i1, rfl⟩
    rcases Int.lt_or_le i 4 with i2 | i2
    · have hd := dv_in h0 h1 i.toNat
      have hd1 := dv_in h0 h1 (i.toNat + 1)
      have en := four_next (u := u) (i := i.toNat) (by omega)
      have l4 := take4_len u i.toNat
      have ei : (i + 1).toNat = i.toNat + 1 := by omega
      obtain ⟨d, hdd⟩ : ∃ d, d = dv u i.toNat := ⟨_, rfl⟩
      have e1 : dv u (i + 1).toNat = d / 256 := by rw [ei, hdd]; rfl
      have e2 : V.w (u32 (dv u i.toNat)) = V.w (u32 d) := by rw [hdd]
      rw [e2]
      rw [← hdd] at hd en
      conv => whnf
      refine ask_true (by omega) ?_
      conv => whnf
      refine And.intro (by decide) (ask_is (Int.tmod_eq_emod_of_nonneg hd.1) ?_)
      conv => whnf
      refine ask_is (f := d % 256) (by rw [wrap8]; omega) ?_
      conv => whnf
      refine And.intro rfl ?_
      conv => whnf
      refine And.intro (by decide) ?_
      conv => whnf
      refine And.intro (by decide) ?_
      conv => whnf
      refine And.intro (size_le (by show _ + 1 ≤ _; omega)) ?_
      conv => whnf
      refine And.intro (by decide) (ask_is (f := d / 256) (by rw [Int.tdiv_eq_ediv_of_nonneg hd.1, wrap_of_in]; simp only [InK, lowK, highK]; omega) ?_)
      conv => whnf
      refine ask_wrap64 (by omega) (by omega) ?_
      conv => whnf
      refine ⟨(4 - (i + 1)).toNat, i + 1, by omega, ⟨by omega, by omega, rfl⟩, rfl, ⟨⟨Nat.le_of_ble_eq_true rfl, congrArg (fun x => V.w (u32 x)) e1.symm⟩, ⟨Nat.le_of_ble_eq_true rfl, ?_⟩, ⟨Nat.le_of_ble_eq_true rfl, rfl⟩, trivial⟩, trivial, rfl, rfl, Nat.zero_le _⟩
      rw [ei]
      exact congrArg (fun s => V.w (.c (.cs s))) en
    · have hi : i = 4 := by omega
      subst hi
      conv => whnf
      refine ask_false (by omega) ?_
      repeat' ((conv => whnf); first | rfl | fail)
def ctRFour : Ct := fun ws K => match ws with
  | [.c (.ci .u32 x)] => ∀ s, s = strOfNums (four x) → K (.w (.c (.cs s)))
  | _ => False
theorem str4_rng (x : Int) : (V.w (.c (.cs (strOfNums (four x))))).ok 0 := ⟨by show (strOfNums (four x)).size ≤ _; rw [strOfNums_size]; exact (by decide : 4 ≤ 9223372036854775807), rfl⟩
theorem refFour_ct : CtOk Try.prog 88 ctRFour := by
  intro ws K h' hr
  unfold ctRFour at h'
  split at h'
  · rename_i x
    obtain ⟨r1, r2⟩ := hr.1
    exact ⟨_, h' _ rfl, str4_rng x, walk_calls F0_ok Try.func88 (n := 0) rfl hr rfl (refFour_walk x r1 r2)⟩
  · exact h'.elim
theorem word_walk (x : Int) (hx : -2147483648 ≤ x ∧ x ≤ 2147483647) : walk F0 0 Try.f89 [i64 x] [] fun y _ => y = .w (.c (.cs (strOfNums (fourI x)))) := by
  obtain ⟨u, hu⟩ : ∃ u, u = x % 4294967296 := ⟨_, rfl⟩
  have h0 : 0 ≤ u := by omega
  have h1 : u ≤ 4294967295 := by omega
  unfold fourI
  rw [← hu]
  rcases Int.lt_or_le x 0 with hx0 | hx0
  · have eu : x + 4294967296 = u := by omega
    conv => whnf
    refine ask_true (by omega) ?_
    conv => whnf
    refine ask_wrap64 (by omega) (by omega) ?_
    rw [eu]
    clear hx hx0 hu eu
    conv => whnf
    refine loop_at (0 :: 3 :: 4 :: List.range' 9 13) (fun m (i : Int) => 0 ≤ i ∧ i ≤ 4 ∧ m = (4 - i).toNat) (fun i => [(0, vi (dv u i.toNat)), (3, .w (.c (.cs (strOfNums ((four u).take i.toNat))))), (4, vi i)]) (fun _ => []) 4 0 ⟨by decide, by decide, rfl⟩ ?_ ?_
    · exact ⟨rfl, ⟨⟨Nat.le_of_ble_eq_true rfl, rfl⟩, ⟨Nat.le_of_ble_eq_true rfl, rfl⟩, ⟨Nat.le_of_ble_eq_true rfl, rfl⟩, trivial⟩, trivial, rfl, rfl, Nat.zero_le _⟩
    · rintro m i ⟨i0, i1, rfl⟩
      rcases Int.lt_or_le i 4 with i2 | i2
      · have hd := dv_in h0 h1 i.toNat
        have hd1 := dv_in h0 h1 (i.toNat + 1)
        have en := four_next (u := u) (i := i.toNat) (by omega)
        have l4 := take4_len u i.toNat
        have ei : (i + 1).toNat = i.toNat + 1 := by omega
        obtain ⟨d, hdd⟩ : ∃ d, d = dv u i.toNat := ⟨_, rfl⟩
        have e1 : dv u (i + 1).toNat = d / 256 := by rw [ei, hdd]; rfl
        have e2 : vi (dv u i.toNat) = vi d := by rw [hdd]
        rw [e2]
        rw [← hdd] at hd en
        conv => whnf
        refine ask_true (by omega) ?_
        conv => whnf
        refine And.intro (by decide) (ask_is (Int.tmod_eq_emod_of_nonneg hd.1) ?_)
        conv => whnf
        refine ask_is (f := d % 256) (by rw [wrap8]; omega) ?_
        conv => whnf
        refine And.intro rfl ?_
        conv => whnf
        refine And.intro (by decide) ?_
        conv => whnf
        refine And.intro (by decide) ?_
        conv => whnf
        refine And.intro (size_le (by show _ + 1 ≤ _; omega)) ?_
        conv => whnf
        refine And.intro (by decide) (ask_is (f := d / 256) (by rw [Int.tdiv_eq_ediv_of_nonneg hd.1, wrap_of_in]; simp only [InK, lowK, highK]; omega) ?_)
        conv => whnf
        refine ask_wrap64 (by omega) (by omega) ?_
        conv => whnf
        refine ⟨(4 - (i + 1)).toNat, i + 1, by omega, ⟨by omega, by omega, rfl⟩, rfl, ⟨⟨Nat.le_of_ble_eq_true rfl, congrArg vi e1.symm⟩, ⟨Nat.le_of_ble_eq_true rfl, ?_⟩, ⟨Nat.le_of_ble_eq_true rfl, rfl⟩, trivial⟩, trivial, rfl, rfl, Nat.zero_le _⟩
        rw [ei]
        exact congrArg (fun s => V.w (.c (.cs s))) en
      · have hi : i = 4 := by omega
        subst hi
        conv => whnf
        refine ask_false (by omega) ?_
        repeat' ((conv => whnf); first | rfl | fail)
  · obtain rfl : u = x := by omega
    conv => whnf
    refine ask_false (by omega) ?_
    clear hx hx0 hu
    conv => whnf
    refine loop_at (0 :: 3 :: 4 :: List.range' 9 13) (fun m (i : Int) => 0 ≤ i ∧ i ≤ 4 ∧ m = (4 - i).toNat) (fun i => [(0, vi (dv u i.toNat)), (3, .w (.c (.cs (strOfNums ((four u).take i.toNat))))), (4, vi i)]) (fun _ => []) 4 0 ⟨by decide, by decide, rfl⟩ ?_ ?_
    · exact ⟨rfl, ⟨⟨Nat.le_of_ble_eq_true rfl, rfl⟩, ⟨Nat.le_of_ble_eq_true rfl, rfl⟩, ⟨Nat.le_of_ble_eq_true rfl, rfl⟩, trivial⟩, trivial, rfl, rfl, Nat.zero_le _⟩
    · rintro m i ⟨i0, i1, rfl⟩
      rcases Int.lt_or_le i 4 with i2 | i2
      · have hd := dv_in h0 h1 i.toNat
        have hd1 := dv_in h0 h1 (i.toNat + 1)
        have en := four_next (u := u) (i := i.toNat) (by omega)
        have l4 := take4_len u i.toNat
        have ei : (i + 1).toNat = i.toNat + 1 := by omega
        obtain ⟨d, hdd⟩ : ∃ d, d = dv u i.toNat := ⟨_, rfl⟩
        have e1 : dv u (i + 1).toNat = d / 256 := by rw [ei, hdd]; rfl
        have e2 : vi (dv u i.toNat) = vi d := by rw [hdd]
        rw [e2]
        rw [← hdd] at hd en
        conv => whnf
        refine ask_true (by omega) ?_
        conv => whnf
        refine And.intro (by decide) (ask_is (Int.tmod_eq_emod_of_nonneg hd.1) ?_)
        conv => whnf
        refine ask_is (f := d % 256) (by rw [wrap8]; omega) ?_
        conv => whnf
        refine And.intro rfl ?_
        conv => whnf
        refine And.intro (by decide) ?_
        conv => whnf
        refine And.intro (by decide) ?_
        conv => whnf
        refine And.intro (size_le (by show _ + 1 ≤ _; omega)) ?_
        conv => whnf
        refine And.intro (by decide) (ask_is (f := d / 256) (by rw [Int.tdiv_eq_ediv_of_nonneg hd.1, wrap_of_in]; simp only [InK, lowK, highK]; omega) ?_)
        conv => whnf
        refine ask_wrap64 (by omega) (by omega) ?_
        conv => whnf
        refine ⟨(4 - (i + 1)).toNat, i + 1, by omega, ⟨by omega, by omega, rfl⟩, rfl, ⟨⟨Nat.le_of_ble_eq_true rfl, congrArg vi e1.symm⟩, ⟨Nat.le_of_ble_eq_true rfl, ?_⟩, ⟨Nat.le_of_ble_eq_true rfl, rfl⟩, trivial⟩, trivial, rfl, rfl, Nat.zero_le _⟩
        rw [ei]
        exact congrArg (fun s => V.w (.c (.cs s))) en
      · have hi : i = 4 := by omega
        subst hi
        conv => whnf
        refine ask_false (by omega) ?_
        repeat' ((conv => whnf); first | rfl | fail)
def ctWord : Ct := fun ws K => match ws with
  | [.c (.ci .i64 x)] => (-2147483648 ≤ x ∧ x ≤ 2147483647) ∧ ∀ s, s = strOfNums (fourI x) → K (.w (.c (.cs s)))
  | _ => False
theorem word_ct : CtOk Try.prog 89 ctWord := by
  intro ws K h' hr
  unfold ctWord at h'
  split at h'
  · rename_i x
    exact ⟨_, h'.2 _ rfl, str4_rng _, walk_calls F0_ok Try.func89 (n := 0) rfl hr rfl (word_walk x h'.1)⟩
  · exact h'.elim
theorem app_str {a b c : List Int} (h : a ++ b = c) : strOfNums a ++ strOfNums b = strOfNums c := by rw [str_append, h]
theorem tk_words (xs : List Int) (i : Nat) : (words (xs.take i)).length ≤ 4 * xs.length := by rw [words_len, List.length_take]; omega
noncomputable def FRB : Fns := F0.plus 89 ctWord
theorem FRB_ok : FnsOk Try.prog FRB := F0_ok.plus word_ct Try.func89 (by kernel_rfl) (by kernel_rfl)
theorem refBytes_walk (s : St) (h : StOk s) (hr : rightP s) (hw32 : ∀ x ∈ s.w, -2147483648 ≤ x ∧ x ≤ 2147483647) : walk FRB 0 Try.f58 [stW s] [] fun y _ => y = .w (.c (.cs (strOfNums (byZ s)))) := by
  have hr' := hr
  rw [rightP_def] at hr'
  obtain ⟨r1, r2, r3, r4, r5⟩ := hr'
  have hm := h.m.1
  have hv := h.v.1
  have hw := h.w.1
  have w1 : (words s.m).length = 64 := by rw [words_len, hm]
  have w3 : (words s.w).length = 64 := by rw [words_len, hw]
  conv => whnf
  refine loop_at (3 :: 4 :: List.range' 7 11) (fun m (i : Int) => 0 ≤ i ∧ i ≤ 16 ∧ m = (16 - i).toNat) (fun i => [(3, .w (.c (.cs (strOfNums (words (s.m.take i.toNat)))))), (4, vi i)]) (fun _ => [rb s]) 16 0 ⟨by decide, by decide, rfl⟩ ?_ ?_
  · exact ⟨rfl, ⟨⟨Nat.le_of_ble_eq_true rfl, rfl⟩, ⟨Nat.le_of_ble_eq_true rfl, rfl⟩, trivial⟩, ⟨rfl, trivial⟩, rfl, rfl, Nat.zero_le _⟩
  · rintro m i ⟨i0, i1, rfl⟩
    have em : mulN i.toNat (Try.prog.types[3]).size = i.toNat := mulN1 i.toNat
    rcases Int.lt_or_le i 16 with i2 | i2
    · have b1 := r1 _ (mem_at (i := mulN i.toNat (Try.prog.types[3]).size) (by omega))
      have en := words_next (xs := s.m) (i := i) em i0 (by omega)
      have lt := tk_words s.m i.toNat
      repeat' ((conv => whnf); first | (refine ask_true (by omega) ?_) | (refine And.intro (by omega) ?_) | (refine fun (_ : InK _ _) => ?_) | fail)
      conv => whnf
      refine fun t ht => ?_
      subst ht
      conv => whnf
      refine And.intro (size_le (by show _ + 4 ≤ _; omega)) ?_
      repeat' ((conv => whnf); first | (refine ask_wrap64 (by omega) (by omega) ?_) | fail)
      conv => whnf
      exact ⟨(16 - (i + 1)).toNat, i + 1, by omega, ⟨by omega, by omega, rfl⟩, rfl, ⟨⟨Nat.le_of_ble_eq_true rfl, congrArg (fun s => V.w (.c (.cs s))) (app_str en.symm)⟩, ⟨Nat.le_of_ble_eq_true rfl, rfl⟩, trivial⟩, ⟨rfl, trivial⟩, rfl, rfl, Nat.zero_le _⟩
    · have hi : i = 16 := by omega
      subst hi
      rw [List.take_of_length_le (by rw [hm]; decide)]
      clear i0 i1 i2 em
      conv => whnf
      refine ask_false (by omega) ?_
      conv => whnf
      refine And.intro (by omega) fun t ht => ?_
      subst ht
      conv => whnf
      refine And.intro (size_le (by rw [w1]; exact (by decide : 64 + 4 ≤ 1000000))) ?_
      rw [app_str (c := words s.m ++ fourI s.l) rfl]
      conv => whnf
      refine loop_at (3 :: 5 :: List.range' 23 13) (fun m (i : Int) => 0 ≤ i ∧ i ≤ 4 ∧ m = (4 - i).toNat) (fun i => [(3, .w (.c (.cs (strOfNums (words s.m ++ fourI s.l ++ (s.v.take i.toNat).map (fun x => x % 256)))))), (5, vi i)]) (fun _ => [rb s]) 4 0 ⟨by decide, by decide, rfl⟩ ?_ ?_
      · refine ⟨rfl, ⟨⟨Nat.le_of_ble_eq_true rfl, ?_⟩, ⟨Nat.le_of_ble_eq_true rfl, rfl⟩, trivial⟩, ⟨rfl, trivial⟩, rfl, rfl, Nat.zero_le _⟩
        show V.w (.c (.cs (strOfNums (words s.m ++ fourI s.l)))) = V.w (.c (.cs (strOfNums (words s.m ++ fourI s.l ++ []))))
        rw [List.append_nil]
      · rintro m i ⟨i0, i1, rfl⟩
        have em : mulN i.toNat (Try.prog.types[3]).size = i.toNat := mulN1 i.toNat
        rcases Int.lt_or_le i 4 with i2 | i2
        · have en : words s.m ++ fourI s.l ++ (s.v.take i.toNat).map (fun x => x % 256) ++ [s.v.getD (mulN i.toNat (Try.prog.types[3]).size) 0 % 256] = words s.m ++ fourI s.l ++ (s.v.take (i + 1).toNat).map (fun x => x % 256) := by
            rw [List.append_assoc]
            refine congrArg _ ?_
            rw [show (i + 1).toNat = i.toNat + 1 by omega, List.take_succ_eq_append_getElem (by omega), List.map_append, em]
            simp [List.getD_eq_getElem?_getD, List.getElem?_eq_getElem (show i.toNat < s.v.length by omega)]
          have lt : (words s.m ++ fourI s.l ++ (s.v.take i.toNat).map (fun x => x % 256)).length ≤ 1000 := by
            rw [List.length_append, List.length_append, w1, List.length_map, List.length_take]
            show 64 + 4 + _ ≤ _; omega
          repeat' ((conv => whnf); first | (refine ask_true (by omega) ?_) | (refine And.intro (by omega) ?_) | (refine fun (_ : InK _ _) => ?_) | fail)
          conv => whnf
          refine ask_is (wrap8 _) ?_
          conv => whnf
          refine And.intro rfl ?_
          conv => whnf
          refine And.intro (by decide) ?_
          conv => whnf
          refine And.intro (by decide) ?_
          conv => whnf
          refine And.intro (size_le (by show _ + 1 ≤ _; omega)) ?_
          repeat' ((conv => whnf); first | (refine ask_wrap64 (by omega) (by omega) ?_) | fail)
          conv => whnf
          exact ⟨(4 - (i + 1)).toNat, i + 1, by omega, ⟨by omega, by omega, rfl⟩, rfl, ⟨⟨Nat.le_of_ble_eq_true rfl, congrArg (fun s => V.w (.c (.cs s))) (app_str en)⟩, ⟨Nat.le_of_ble_eq_true rfl, rfl⟩, trivial⟩, ⟨rfl, trivial⟩, rfl, rfl, Nat.zero_le _⟩
        · have hi : i = 4 := by omega
          subst hi
          rw [List.take_of_length_le (by rw [hv]; decide)]
          clear i0 i1 i2 em
          have l2 : (words s.m ++ fourI s.l ++ s.v.map (fun x => x % 256)).length = 72 := by
            rw [List.length_append, List.length_append, w1, List.length_map, hv]; rfl
          obtain ⟨Y, hY⟩ : ∃ Y, Y = words s.m ++ fourI s.l ++ s.v.map (fun x => x % 256) := ⟨_, rfl⟩
          rw [← hY] at l2 ⊢
          conv => whnf
          refine ask_false (by omega) ?_
          conv => whnf
          refine loop_at (3 :: 6 :: List.range' 36 11) (fun m (i : Int) => 0 ≤ i ∧ i ≤ 16 ∧ m = (16 - i).toNat) (fun i => [(3, .w (.c (.cs (strOfNums (Y ++ words (s.w.take i.toNat)))))), (6, vi i)]) (fun _ => [rb s]) 16 0 ⟨by decide, by decide, rfl⟩ ?_ ?_
          · refine ⟨rfl, ⟨⟨Nat.le_of_ble_eq_true rfl, ?_⟩, ⟨Nat.le_of_ble_eq_true rfl, rfl⟩, trivial⟩, ⟨rfl, trivial⟩, rfl, rfl, Nat.zero_le _⟩
            show V.w (.c (.cs (strOfNums Y))) = V.w (.c (.cs (strOfNums (Y ++ []))))
            rw [List.append_nil]
          · rintro m i ⟨i0, i1, rfl⟩
            have em : mulN i.toNat (Try.prog.types[3]).size = i.toNat := mulN1 i.toNat
            rcases Int.lt_or_le i 16 with i2 | i2
            · have b1 := hw32 _ (mem_at (i := mulN i.toNat (Try.prog.types[3]).size) (by omega))
              have en := words_next (xs := s.w) (i := i) em i0 (by omega)
              have lt := tk_words s.w i.toNat
              have ltY : (Y ++ words (s.w.take i.toNat)).length ≤ 1000 := by rw [List.length_append]; omega
              repeat' ((conv => whnf); first | (refine ask_true (by omega) ?_) | (refine And.intro (by omega) ?_) | (refine fun (_ : InK _ _) => ?_) | fail)
              conv => whnf
              refine fun t ht => ?_
              subst ht
              conv => whnf
              refine And.intro (size_le (by show _ + 4 ≤ _; omega)) ?_
              repeat' ((conv => whnf); first | (refine ask_wrap64 (by omega) (by omega) ?_) | fail)
              conv => whnf
              exact ⟨(16 - (i + 1)).toNat, i + 1, by omega, ⟨by omega, by omega, rfl⟩, rfl, ⟨⟨Nat.le_of_ble_eq_true rfl, congrArg (fun s => V.w (.c (.cs s))) (app_str (by rw [List.append_assoc, en]; rfl))⟩, ⟨Nat.le_of_ble_eq_true rfl, rfl⟩, trivial⟩, ⟨rfl, trivial⟩, rfl, rfl, Nat.zero_le _⟩
            · have hi : i = 16 := by omega
              subst hi
              rw [List.take_of_length_le (by rw [hw]; decide)]
              clear i0 i1 i2 em
              conv => whnf
              refine ask_false (by omega) ?_
              conv => whnf
              refine ask_is (wrap8 _) ?_
              conv => whnf
              refine And.intro rfl ?_
              conv => whnf
              refine And.intro (by decide) ?_
              conv => whnf
              refine And.intro (by decide) ?_
              conv => whnf
              refine And.intro (size_le (by rw [List.length_append, l2, w3]; exact (by decide : 72 + 64 + 1 ≤ 1000000))) ?_
              conv => whnf
              refine congrArg (fun s => V.w (.c (.cs s))) (app_str ?_)
              rw [hY]; rfl
def ctRBytes : Ct := fun ws K => match ws with
  | [.agg [.ints .i64 n m, .one (.ci .i64 l), .ints .i64 a v, .ints .i64 b w, .one (.ci .i64 q)]] => (n = 16 ∧ a = 4 ∧ b = 16) ∧ rightP ⟨m, l, v, w, q⟩ ∧ ∀ t, t = strOfNums (byZ ⟨m, l, v, w, q⟩) → K (.w (.c (.cs t)))
  | _ => False
theorem refBytes_ct : CtOk Try.prog 58 ctRBytes := by
  intro ws K h' hr
  unfold ctRBytes at h'
  split at h'
  · rename_i n m l a v b w q
    obtain ⟨⟨rfl, rfl, rfl⟩, h1, h2⟩ := h'
    have ok : StOk ⟨m, l, v, w, q⟩ := stOk_of hr.1
    have hw : ∀ x ∈ w, -2147483648 ≤ x ∧ x ≤ 2147483647 := fun x hx => by
      rw [rightP_def] at h1
      have h4 : held w := h1.2.2.2.1
      rw [held_def] at h4
      have := h4 x hx
      omega
    refine ⟨_, h2 _ rfl, ⟨?_, rfl⟩, walk_calls FRB_ok Try.func58 rfl (ws := [stW ⟨m, l, v, w, q⟩]) ⟨ok.rng, trivial⟩ rfl (refBytes_walk _ ok h1 hw)⟩
    show (strOfNums _).size ≤ _
    rw [strOfNums_size, byZ_len ok]; decide
  · exact h'.elim
end Go.Proofs.Ytbgjmlncdlcglaa
