/- Chapter vect: lists that are alike; the law VectBack. -/
import Derived.Test.YtmkdamfdlkpjdaaVh
set_option linter.all false
namespace Go.Proofs.Ytmkdamfdlkpjdaa
open Go.RowKit (Below)
open Go.WideMaps
set_option maxRecDepth 100000
set_option maxHeartbeats 64000000

theorem ro_ok2 {xs ys : List Int} (hx : ∀ y ∈ xs, InK .i64 y) (hy : ∀ y ∈ ys, InK .i64 y) : HOk [.ro [.ints .i64 xs.length xs], .ro [.ints .i64 ys.length ys]] :=
  ⟨fun b hb => by
    rcases List.mem_cons.1 hb with h | h
    · rw [h]; exact ⟨⟨rfl, hx⟩, trivial⟩
    · rw [List.mem_singleton.1 h]; exact ⟨⟨rfl, hy⟩, trivial⟩, fun b hb => by
    rcases List.mem_cons.1 hb with h | h
    · rw [h]; rfl
    · rw [List.mem_singleton.1 h]; rfl⟩
def rho2 (j k : Nat) (n : Nat) : Nat := if n = 0 then j else k
theorem ro_at2 {H : List Blk} {xs ys : List Int} {j k : Nat} (h : (∃ T, H[j]? = some (.own T [.ints .i64 xs.length xs])) ∨ H[j]? = some (.ro [.ints .i64 xs.length xs])) (h' : (∃ T, H[k]? = some (.own T [.ints .i64 ys.length ys])) ∨ H[k]? = some (.ro [.ints .i64 ys.length ys])) :
    ∀ (n : Nat) (b : Blk), ([.ro [.ints .i64 xs.length xs], .ro [.ints .i64 ys.length ys]] : List Blk)[n]? = some b → b = .gone ∨ ∃ ss, b = .ro ss ∧ ((∃ T, H[rho2 j k n]? = some (.own T (rens (rho2 j k) ss))) ∨ H[rho2 j k n]? = some (.ro (rens (rho2 j k) ss))) := by
  intro n b hn
  match n, hn with
  | 0, hn => simp at hn; subst hn; exact .inr ⟨_, rfl, h⟩
  | 1, hn => simp at hn; subst hn; exact .inr ⟨_, rfl, h'⟩
  | n + 2, hn => simp at hn

/-! ### lists that are alike -/
def AlikeC (xs ys : List Int) (l m : Nat) : Prop := l = m ∧ ∀ p : Nat, p < l → xs.getD p 0 = ys.getD p 0
theorem same_walk (xs ys : List Int) (l m : Nat) (hl : l ≤ xs.length) (hc : xs.length ≤ 9223372036854775807) (hm : m ≤ ys.length) (hc' : ys.length ≤ 9223372036854775807) (h : AlikeC xs ys l m) :
    walk F0 0 Try.f23 [.c (.csl 0 0 0 l xs.length), .c (.csl 1 0 0 m ys.length)] [.ro [.ints .i64 xs.length xs], .ro [.ints .i64 ys.length ys]] (Made fun x N => x = vi 1 ∧ N = []) := by
  obtain ⟨rfl, h⟩ := h
  repeat' ((conv => whnf); first | (refine ask_false (by omega) ?_) | fail)
  conv => whnf
  refine loop_at (5 :: List.range' 11 15) (fun k (i : Int) => 0 ≤ i ∧ i ≤ l ∧ k = (l - i).toNat) (fun i => [(5, vi i)]) (fun _ => [.ro [.ints .i64 xs.length xs], .ro [.ints .i64 ys.length ys]]) l 0 ⟨by decide, by omega, by omega⟩ ?_ ?_
  · exact ⟨rfl, ⟨⟨Nat.le_of_ble_eq_true rfl, rfl⟩, trivial⟩, ⟨rfl, rfl, trivial⟩, rfl, rfl, Nat.le_of_ble_eq_true rfl⟩
  · rintro k i ⟨p0, p1, rfl⟩
    have em : mulN i.toNat (Try.prog.types[3]).size = i.toNat := mulN1 _
    rcases Int.lt_or_le i l with p2 | p2
    · have xat : xs.getD (0 + mulN i.toNat (Try.prog.types[3]).size) 0 = xs.getD i.toNat 0 := by rw [em, Nat.zero_add]
      have yat : ys.getD (0 + mulN i.toNat (Try.prog.types[3]).size) 0 = ys.getD i.toNat 0 := by rw [em, Nat.zero_add]
      have e := h i.toNat (by omega)
      repeat' ((conv => whnf); first | (refine ask_true (by omega) ?_) | (refine ask_false (by omega) ?_) | (refine And.intro (by omega) ?_) | (refine fun (_ : InK _ _) => ?_) | (refine ask_wrap64 (by omega) (by omega) ?_) | (refine ⟨by kernel_rfl, ?_⟩) | fail)
      conv => whnf
      exact ⟨(l - (i + 1)).toNat, i + 1, by omega, ⟨by omega, by omega, rfl⟩, rfl, ⟨⟨Nat.le_of_ble_eq_true rfl, rfl⟩, trivial⟩, ⟨rfl, rfl, trivial⟩, rfl, rfl, Nat.le_of_ble_eq_true rfl⟩
    · repeat' ((conv => whnf); first | (refine ask_false (by omega) ?_) | fail)
      conv => whnf
      exact made_of (vi 1) [] id ⟨rfl, rfl⟩ rfl trivial (fun p q hp _ _ => absurd hp (Nat.not_lt_zero p)) rfl rfl (by intro e; cases e)
theorem same_nil : walk F0 0 Try.f23 [.c .csn, .c .csn] [] (Made fun x N => x = vi 1 ∧ N = []) := by
  repeat' ((conv => whnf); first | (refine ask_false (by decide) ?_) | fail)
  conv => whnf
  refine loop_at (5 :: List.range' 11 15) (fun k (i : Int) => i = 0 ∧ k = 0) (fun i => [(5, vi i)]) (fun _ => []) 0 0 ⟨rfl, rfl⟩ ?_ ?_
  · exact ⟨rfl, ⟨⟨Nat.le_of_ble_eq_true rfl, rfl⟩, trivial⟩, trivial, rfl, rfl, Nat.le_of_ble_eq_true rfl⟩
  · rintro k i ⟨rfl, rfl⟩
    repeat' ((conv => whnf); first | (refine ask_false (by decide) ?_) | fail)
    conv => whnf
    exact made_of (vi 1) [] id ⟨rfl, rfl⟩ rfl trivial (fun p q hp _ _ => absurd hp (Nat.not_lt_zero p)) rfl rfl (by intro e; cases e)
theorem same_nilA (ys : List Int) : walk F0 0 Try.f23 [.c .csn, .c (.csl 0 0 0 0 ys.length)] [.ro [.ints .i64 ys.length ys]] (Made fun x N => x = vi 1 ∧ N = []) := by
  repeat' ((conv => whnf); first | (refine ask_false (by omega) ?_) | fail)
  conv => whnf
  refine loop_at (5 :: List.range' 11 15) (fun k (i : Int) => i = 0 ∧ k = 0) (fun i => [(5, vi i)]) (fun _ => [.ro [.ints .i64 ys.length ys]]) 0 0 ⟨rfl, rfl⟩ ?_ ?_
  · exact ⟨rfl, ⟨⟨Nat.le_of_ble_eq_true rfl, rfl⟩, trivial⟩, ⟨rfl, trivial⟩, rfl, rfl, Nat.le_of_ble_eq_true rfl⟩
  · rintro k i ⟨rfl, rfl⟩
    repeat' ((conv => whnf); first | (refine ask_false (by decide) ?_) | fail)
    conv => whnf
    exact made_of (vi 1) [] id ⟨rfl, rfl⟩ rfl trivial (fun p q hp _ _ => absurd hp (Nat.not_lt_zero p)) rfl rfl (by intro e; cases e)
def hSame : HCt := fun ws H K => match ws with
  | [.c .csn, .c .csn] => K (vi 1) H
  | [.c .csn, .c y] => slK H y fun _ m _ => m = 0 ∧ K (vi 1) H
  | [.c x, .c y] => slK H x fun _ l xs => slK H y fun _ m ys => AlikeC xs ys l m ∧ K (vi 1) H
  | _ => False
theorem same_ct : HCtOk Try.prog 23 hSame := by
  intro ws H K h hr hb ho G σ base w₀ w hw
  unfold hSame at h
  split at h
  · exact walk_lift F0_ok Try.func23 (n := 0) (ws := [.c .csn, .c .csn]) (R := []) nil_ok ⟨trivial, trivial, trivial⟩ rfl same_nil val_mine id no_ro rfl (vi_K h) ho G σ base w₀ w hw
  · rename_i y _
    obtain ⟨j, l, ys, ⟨h0, h'⟩, hx, g1, g2, g3, g4⟩ := slK_spec h ho hr.2.1
    clear h
    subst hx
    subst h0
    exact walk_lift F0_ok Try.func23 (n := 0) (ws := [.c .csn, .c (.csl 0 0 0 0 ys.length)]) (R := [.ro [.ints .i64 ys.length ys]]) (ro_ok g3) ⟨trivial, ⟨g1, g2⟩, trivial⟩ rfl (same_nilA ys) val_mine (fun _ => j) (ro_at g4) rfl (vi_K h') ho G σ base w₀ w hw
  · rename_i x y _ _
    obtain ⟨j, l, xs, h1, hx, g1, g2, g3, g4⟩ := slK_spec h ho hr.1
    clear h
    obtain ⟨k, m, ys, ⟨hB, h'⟩, hy, f1, f2, f3, f4⟩ := slK_spec h1 ho hr.2.1
    clear h1
    subst hx
    subst hy
    exact walk_lift F0_ok Try.func23 (n := 0) (ws := [.c (.csl 0 0 0 l xs.length), .c (.csl 1 0 0 m ys.length)]) (R := [.ro [.ints .i64 xs.length xs], .ro [.ints .i64 ys.length ys]]) (ro_ok2 g3 f3) ⟨⟨g1, g2⟩, ⟨f1, f2⟩, trivial⟩ rfl (same_walk xs ys l m g1 g2 f1 f2 hB) val_mine (rho2 j k) (ro_at2 g4 f4) rfl (vi_K h') ho G σ base w₀ w hw
  · exact h.elim
noncomputable def FS : Fns := FZ.over 23 hSame
theorem FS_ok : FnsOk Try.prog FS := FZ_ok.over same_ct Try.func23 (by kernel_rfl) (by kernel_rfl)

/-! ### the law VectBack -/
theorem none_tab : (List.range 9).all (fun a => (List.range 9).all fun b => decide ((crow a).getD b 0 = 0 → a = 0 ∧ 0 < b)) = true := by kernel_rfl
theorem cC_none {m q : Int} (hm : 0 ≤ m ∧ m ≤ 8) (hq : 0 ≤ q ∧ q ≤ 8) (h : cC m q = 0) : m = 0 ∧ 0 < q := by
  obtain ⟨a, rfl⟩ : ∃ a : Nat, m = a := ⟨m.toNat, by omega⟩
  obtain ⟨b, rfl⟩ : ∃ b : Nat, q = b := ⟨q.toNat, by omega⟩
  rw [cC_nat (by omega) (by omega)] at h
  have h1 := List.all_eq_true.1 none_tab a (List.mem_range.2 (by omega))
  have h2 := of_decide_eq_true (List.all_eq_true.1 h1 b (List.mem_range.2 (by omega))) h
  omega
theorem back_nil (n k i : Int) (hn : 0 ≤ n ∧ n ≤ 255) (hk : 0 ≤ k ∧ k ≤ 255) (hi : 0 ≤ i ∧ i ≤ 4294967295) : walk FS 0 Try.f8 [.c .csn, u8 n, u8 k, u32 i] [] fun y _ => y = vb true := by
  have c00 : cC ((0 : Nat) : Int) 0 = 1 := by rw [cC_def, if_pos (by decide)]; exact cN_zero
  repeat' ((conv => whnf); first | (refine ask_true (by omega) ?_) | (refine ask_false (by omega) ?_) | (refine ask_true rfl ?_) | (refine ask_false (by decide) ?_) | fail)
  conv => whnf
  refine And.intro (fun h => absurd ⟨by omega, by omega⟩ h) fun _ A hA => And.intro (fun h => ?_) fun hne c rest h1 h2 h3 => ?_
  · clear hA
    repeat' ((conv => whnf); first | (refine ask_true (by omega) ?_) | (refine ask_false (by omega) ?_) | (refine ask_true rfl ?_) | (refine ask_false (by decide) ?_) | (refine And.intro trivial ?_) | fail)
    repeat' ((conv => whnf); first | (refine ask_wrap64 (by omega) (by omega) ?_) | (refine And.intro (by omega) ?_) | fail)
    conv => whnf
    intro m hm
    have hm' : 0 ≤ m ∧ m ≤ 8 := by rw [hm, Int.tmod_eq_emod_of_nonneg hn.1]; omega
    clear hm
    repeat' ((conv => whnf); first | (refine ask_wrap64 (by omega) (by omega) ?_) | (refine And.intro (by omega) ?_) | fail)
    conv => whnf
    intro q hq
    have hq' : 0 ≤ q ∧ q ≤ 8 := by rw [hq, Int.tmod_eq_emod_of_nonneg hk.1]; omega
    clear hq
    have c1 := cC_in m q
    rcases Classical.em (cC m q = 0) with c0 | c0
    · have mq : m = 0 ∧ 0 < q := cC_none (by omega) (by omega) c0
      repeat' ((conv => whnf); first | (refine ask_true (by omega) ?_) | (refine And.intro trivial ?_) | (refine ask_true rfl ?_) | (refine ask_false (by decide) ?_) | (rfl) | fail)
    · repeat' ((conv => whnf); first | (refine ask_false (by omega) ?_) | (refine And.intro trivial ?_) | (refine And.intro (by omega) ?_) | (refine ask_wrap64 (by omega) (by omega) ?_) | fail)
      conv => whnf
      intro a ha
      have ha' := tmod_in (c := cC m q) hi.1 (by omega)
      rw [← ha] at ha'
      conv => whnf
      refine And.intro (fun h => absurd ha' h) fun _ C hC => And.intro (fun h => ?_) fun hne c rest h1 h2 h3 => ?_
      all_goals obtain ⟨C1, C2, C3⟩ := hC
      · subst h
        have m0 : m = 0 := by have : (0 : Nat) = m.toNat := C1; omega
        have q0 : q = 0 := C2.symm
        have a0 : a = 0 := C3.symm
        repeat' ((conv => whnf); first | (refine ask_false (by omega) ?_) | (refine And.intro trivial ?_) | (refine And.intro (by omega) ?_) | (refine ask_wrap64 (by omega) (by omega) ?_) | (refine ask_true (by omega) ?_) | fail)
        conv => whnf
        intro r hr
        have er : r = a := by rw [hr, ha]
        repeat' ((conv => whnf); first | (refine ask_true (by omega) ?_) | (refine ask_false (by omega) ?_) | (refine And.intro trivial ?_) | (refine ask_true rfl ?_) | (refine ask_false (by decide) ?_) | (rfl) | fail)
      · have cl : C.length = m := by omega
        have pr := pul_row (A := C) (rest := rest) (by omega) (by omega)
        have et : List.take C.length (C ++ rest) = C := take_all rfl
        have en : numOf (List.take C.length (C ++ rest)) = a := by unfold numOf; rw [et, C2, C3]
        repeat' ((conv => whnf); first | (refine And.intro ⟨rfl, rfl⟩ ?_) | (refine And.intro rfl ?_) | (refine And.intro (fun _ => ?_) (fun h => absurd (by omega) h)) | fail)
        repeat' ((conv => whnf); first | (refine And.intro (by omega) ?_) | (refine ask_wrap64 (by omega) (by omega) ?_) | (refine ask_true (by omega) ?_) | fail)
        conv => whnf
        intro r hr
        have er : r = a := by rw [hr, ha]
        repeat' ((conv => whnf); first | (refine ask_true (by omega) ?_) | (refine ask_false (by omega) ?_) | (refine And.intro trivial ?_) | (refine And.intro ⟨rfl, rfl⟩ ?_) | (refine And.intro rfl ?_) | (refine ask_true rfl ?_) | (refine ask_false (by decide) ?_) | (rfl) | fail)
  · exact absurd (List.length_eq_zero_iff.1 hA.1) hne
theorem back_row (zs : List Int) (l : Nat) (hl : l ≤ zs.length) (hc : zs.length ≤ 9223372036854775807) (n k i : Int) (hn : 0 ≤ n ∧ n ≤ 255) (hk : 0 ≤ k ∧ k ≤ 255) (hi : 0 ≤ i ∧ i ≤ 4294967295) : walk FS 0 Try.f8 [.c (.csl 0 0 0 l zs.length), u8 n, u8 k, u32 i] [.ro [.ints .i64 zs.length zs]] fun y _ => y = vb true := by
  by_cases h40 : 40 < l
  · repeat' ((conv => whnf); first | (refine ask_true (by omega) ?_) | (rfl) | fail)
  · by_cases hp : pulA zs l ≤ 8
    · obtain ⟨l8, eP⟩ := pul_le hl hp
      have lt : (zs.take l).length = l := by simp; omega
      have hb := rank_in (zs.take l) (sumA (zs.take l) (zs.take l).length) rfl (by omega) (by omega)
      have en : numOf (zs.take l) = rank (zs.take l) (sumA (zs.take l) (zs.take l).length) := rfl
      have cc : cC l (pulA zs l) = cN l (sumA (zs.take l) (zs.take l).length) := by
        rw [eP, cC_def, if_pos ⟨by omega, (sumA_in _ _).1, by omega⟩]
      rw [lt] at cc
      rw [← en, lt, ← cc] at hb
      repeat' ((conv => whnf); first | (refine ask_false (by omega) ?_) | (refine And.intro ⟨rfl, rfl⟩ ?_) | (refine And.intro rfl ?_) | (refine And.intro (fun _ => ?_) (fun h => absurd hp h)) | (refine ask_true (by omega) ?_) | (refine ask_true rfl ?_) | (refine ask_false (by decide) ?_) | fail)
      conv => whnf
      refine And.intro (fun h => absurd hb h) fun _ A hA => And.intro (fun h => ?_) fun hne c0 rest0 g1 g2 g3 => ?_
      all_goals obtain ⟨A1, A2, A3⟩ := hA
      all_goals have A1' : A.length = l := by have : A.length = (l : Int).toNat := A1; omega
      all_goals have eA : A = zs.take l := rank_inj (k := pulA zs l) (by omega) (by omega) hp A2 (by omega) (by rw [A3, en, ← eP])
      · have l0 : l = 0 := by rw [← A1', h]; rfl
        repeat' ((conv => whnf); first | (refine ask_false (by omega) ?_) | (refine And.intro ⟨rfl, rfl⟩ ?_) | (refine And.intro rfl ?_) | (refine And.intro (by omega) ?_) | (refine And.intro trivial ?_) | (refine ask_true (by omega) ?_) | (refine ask_true rfl ?_) | (refine ask_false (by decide) ?_) | fail)
        repeat' ((conv => whnf); first | (refine ask_wrap64 (by omega) (by omega) ?_) | (refine And.intro (by omega) ?_) | fail)
        conv => whnf
        intro m hm
        have hm' : 0 ≤ m ∧ m ≤ 8 := by rw [hm, Int.tmod_eq_emod_of_nonneg hn.1]; omega
        clear hm
        repeat' ((conv => whnf); first | (refine ask_wrap64 (by omega) (by omega) ?_) | (refine And.intro (by omega) ?_) | fail)
        conv => whnf
        intro q hq
        have hq' : 0 ≤ q ∧ q ≤ 8 := by rw [hq, Int.tmod_eq_emod_of_nonneg hk.1]; omega
        clear hq
        have c1 := cC_in m q
        rcases Classical.em (cC m q = 0) with c0 | c0
        · have mq : m = 0 ∧ 0 < q := cC_none (by omega) (by omega) c0
          repeat' ((conv => whnf); first | (refine ask_true (by omega) ?_) | (refine And.intro trivial ?_) | (refine ask_true rfl ?_) | (refine ask_false (by decide) ?_) | (rfl) | fail)
        · repeat' ((conv => whnf); first | (refine ask_false (by omega) ?_) | (refine And.intro trivial ?_) | (refine And.intro (by omega) ?_) | (refine ask_wrap64 (by omega) (by omega) ?_) | fail)
          conv => whnf
          intro a ha
          have ha' := tmod_in (c := cC m q) hi.1 (by omega)
          rw [← ha] at ha'
          conv => whnf
          refine And.intro (fun h => absurd ha' h) fun _ C hC => And.intro (fun h => ?_) fun hne c rest h1 h2 h3 => ?_
          all_goals obtain ⟨C1, C2, C3⟩ := hC
          · subst h
            have m0 : m = 0 := by have : (0 : Nat) = m.toNat := C1; omega
            have q0 : q = 0 := C2.symm
            have a0 : a = 0 := C3.symm
            repeat' ((conv => whnf); first | (refine ask_false (by omega) ?_) | (refine And.intro trivial ?_) | (refine And.intro (by omega) ?_) | (refine ask_wrap64 (by omega) (by omega) ?_) | (refine ask_true (by omega) ?_) | fail)
            conv => whnf
            intro r hr
            have er : r = a := by rw [hr, ha]
            repeat' ((conv => whnf); first | (refine ask_true (by omega) ?_) | (refine ask_false (by omega) ?_) | (refine And.intro trivial ?_) | (refine ask_true rfl ?_) | (refine ask_false (by decide) ?_) | (rfl) | fail)
          · have cl : C.length = m := by omega
            have pr := pul_row (A := C) (rest := rest) (by omega) (by omega)
            have et : List.take C.length (C ++ rest) = C := take_all rfl
            have en : numOf (List.take C.length (C ++ rest)) = a := by unfold numOf; rw [et, C2, C3]
            repeat' ((conv => whnf); first | (refine And.intro ⟨rfl, rfl⟩ ?_) | (refine And.intro rfl ?_) | (refine And.intro (fun _ => ?_) (fun h => absurd (by omega) h)) | fail)
            repeat' ((conv => whnf); first | (refine And.intro (by omega) ?_) | (refine ask_wrap64 (by omega) (by omega) ?_) | (refine ask_true (by omega) ?_) | fail)
            conv => whnf
            intro r hr
            have er : r = a := by rw [hr, ha]
            repeat' ((conv => whnf); first | (refine ask_true (by omega) ?_) | (refine ask_false (by omega) ?_) | (refine And.intro trivial ?_) | (refine And.intro ⟨rfl, rfl⟩ ?_) | (refine And.intro rfl ?_) | (refine ask_true rfl ?_) | (refine ask_false (by decide) ?_) | (rfl) | fail)
      · have al : AlikeC (A ++ rest0) zs A.length l := ⟨A1', fun p hp => by rw [left_at hp, eA, getD_take (by omega)]⟩
        repeat' ((conv => whnf); first | (refine ask_false (by omega) ?_) | (refine And.intro ⟨rfl, rfl⟩ ?_) | (refine And.intro rfl ?_) | (refine And.intro al ?_) | (refine And.intro (by omega) ?_) | (refine And.intro trivial ?_) | (refine ask_true (by omega) ?_) | (refine ask_true rfl ?_) | (refine ask_false (by decide) ?_) | fail)
        repeat' ((conv => whnf); first | (refine ask_wrap64 (by omega) (by omega) ?_) | (refine And.intro (by omega) ?_) | fail)
        conv => whnf
        intro m hm
        have hm' : 0 ≤ m ∧ m ≤ 8 := by rw [hm, Int.tmod_eq_emod_of_nonneg hn.1]; omega
        clear hm
        repeat' ((conv => whnf); first | (refine ask_wrap64 (by omega) (by omega) ?_) | (refine And.intro (by omega) ?_) | fail)
        conv => whnf
        intro q hq
        have hq' : 0 ≤ q ∧ q ≤ 8 := by rw [hq, Int.tmod_eq_emod_of_nonneg hk.1]; omega
        clear hq
        have c1 := cC_in m q
        rcases Classical.em (cC m q = 0) with c0 | c0
        · have mq : m = 0 ∧ 0 < q := cC_none (by omega) (by omega) c0
          repeat' ((conv => whnf); first | (refine ask_true (by omega) ?_) | (refine And.intro trivial ?_) | (refine ask_true rfl ?_) | (refine ask_false (by decide) ?_) | (rfl) | fail)
        · repeat' ((conv => whnf); first | (refine ask_false (by omega) ?_) | (refine And.intro trivial ?_) | (refine And.intro (by omega) ?_) | (refine ask_wrap64 (by omega) (by omega) ?_) | fail)
          conv => whnf
          intro a ha
          have ha' := tmod_in (c := cC m q) hi.1 (by omega)
          rw [← ha] at ha'
          conv => whnf
          refine And.intro (fun h => absurd ha' h) fun _ C hC => And.intro (fun h => ?_) fun hne c rest h1 h2 h3 => ?_
          all_goals obtain ⟨C1, C2, C3⟩ := hC
          · subst h
            have m0 : m = 0 := by have : (0 : Nat) = m.toNat := C1; omega
            have q0 : q = 0 := C2.symm
            have a0 : a = 0 := C3.symm
            repeat' ((conv => whnf); first | (refine ask_false (by omega) ?_) | (refine And.intro trivial ?_) | (refine And.intro (by omega) ?_) | (refine ask_wrap64 (by omega) (by omega) ?_) | (refine ask_true (by omega) ?_) | fail)
            conv => whnf
            intro r hr
            have er : r = a := by rw [hr, ha]
            repeat' ((conv => whnf); first | (refine ask_true (by omega) ?_) | (refine ask_false (by omega) ?_) | (refine And.intro trivial ?_) | (refine ask_true rfl ?_) | (refine ask_false (by decide) ?_) | (rfl) | fail)
          · have cl : C.length = m := by omega
            have pr := pul_row (A := C) (rest := rest) (by omega) (by omega)
            have et : List.take C.length (C ++ rest) = C := take_all rfl
            have en : numOf (List.take C.length (C ++ rest)) = a := by unfold numOf; rw [et, C2, C3]
            repeat' ((conv => whnf); first | (refine And.intro ⟨rfl, rfl⟩ ?_) | (refine And.intro rfl ?_) | (refine And.intro (fun _ => ?_) (fun h => absurd (by omega) h)) | fail)
            repeat' ((conv => whnf); first | (refine And.intro (by omega) ?_) | (refine ask_wrap64 (by omega) (by omega) ?_) | (refine ask_true (by omega) ?_) | fail)
            conv => whnf
            intro r hr
            have er : r = a := by rw [hr, ha]
            repeat' ((conv => whnf); first | (refine ask_true (by omega) ?_) | (refine ask_false (by omega) ?_) | (refine And.intro trivial ?_) | (refine And.intro ⟨rfl, rfl⟩ ?_) | (refine And.intro rfl ?_) | (refine ask_true rfl ?_) | (refine ask_false (by decide) ?_) | (rfl) | fail)
    · repeat' ((conv => whnf); first | (refine ask_false (by omega) ?_) | (refine And.intro ⟨rfl, rfl⟩ ?_) | (refine And.intro rfl ?_) | (refine And.intro (fun h => absurd h hp) (fun _ => ?_)) | (refine ask_true rfl ?_) | (refine ask_false (by decide) ?_) | fail)
      repeat' ((conv => whnf); first | (refine ask_wrap64 (by omega) (by omega) ?_) | (refine And.intro (by omega) ?_) | fail)
      conv => whnf
      intro m hm
      have hm' : 0 ≤ m ∧ m ≤ 8 := by rw [hm, Int.tmod_eq_emod_of_nonneg hn.1]; omega
      clear hm
      repeat' ((conv => whnf); first | (refine ask_wrap64 (by omega) (by omega) ?_) | (refine And.intro (by omega) ?_) | fail)
      conv => whnf
      intro q hq
      have hq' : 0 ≤ q ∧ q ≤ 8 := by rw [hq, Int.tmod_eq_emod_of_nonneg hk.1]; omega
      clear hq
      have c1 := cC_in m q
      rcases Classical.em (cC m q = 0) with c0 | c0
      · have mq : m = 0 ∧ 0 < q := cC_none (by omega) (by omega) c0
        repeat' ((conv => whnf); first | (refine ask_true (by omega) ?_) | (refine And.intro trivial ?_) | (refine ask_true rfl ?_) | (refine ask_false (by decide) ?_) | (rfl) | fail)
      · repeat' ((conv => whnf); first | (refine ask_false (by omega) ?_) | (refine And.intro trivial ?_) | (refine And.intro (by omega) ?_) | (refine ask_wrap64 (by omega) (by omega) ?_) | fail)
        conv => whnf
        intro a ha
        have ha' := tmod_in (c := cC m q) hi.1 (by omega)
        rw [← ha] at ha'
        conv => whnf
        refine And.intro (fun h => absurd ha' h) fun _ C hC => And.intro (fun h => ?_) fun hne c rest h1 h2 h3 => ?_
        all_goals obtain ⟨C1, C2, C3⟩ := hC
        · subst h
          have m0 : m = 0 := by have : (0 : Nat) = m.toNat := C1; omega
          have q0 : q = 0 := C2.symm
          have a0 : a = 0 := C3.symm
          repeat' ((conv => whnf); first | (refine ask_false (by omega) ?_) | (refine And.intro trivial ?_) | (refine And.intro (by omega) ?_) | (refine ask_wrap64 (by omega) (by omega) ?_) | (refine ask_true (by omega) ?_) | fail)
          conv => whnf
          intro r hr
          have er : r = a := by rw [hr, ha]
          repeat' ((conv => whnf); first | (refine ask_true (by omega) ?_) | (refine ask_false (by omega) ?_) | (refine And.intro trivial ?_) | (refine ask_true rfl ?_) | (refine ask_false (by decide) ?_) | (rfl) | fail)
        · have cl : C.length = m := by omega
          have pr := pul_row (A := C) (rest := rest) (by omega) (by omega)
          have et : List.take C.length (C ++ rest) = C := take_all rfl
          have en : numOf (List.take C.length (C ++ rest)) = a := by unfold numOf; rw [et, C2, C3]
          repeat' ((conv => whnf); first | (refine And.intro ⟨rfl, rfl⟩ ?_) | (refine And.intro rfl ?_) | (refine And.intro (fun _ => ?_) (fun h => absurd (by omega) h)) | fail)
          repeat' ((conv => whnf); first | (refine And.intro (by omega) ?_) | (refine ask_wrap64 (by omega) (by omega) ?_) | (refine ask_true (by omega) ?_) | fail)
          conv => whnf
          intro r hr
          have er : r = a := by rw [hr, ha]
          repeat' ((conv => whnf); first | (refine ask_true (by omega) ?_) | (refine ask_false (by omega) ?_) | (refine And.intro trivial ?_) | (refine And.intro ⟨rfl, rfl⟩ ?_) | (refine And.intro rfl ?_) | (refine ask_true rfl ?_) | (refine ask_false (by decide) ?_) | (rfl) | fail)
theorem law_VectBack (W0 : World) (v : Value) (w : SlIn .i64 W0 v) (n : Int) (hn : InK .u8 n) (k : Int) (hk : InK .u8 k) (i : Int) (hi : InK .u32 i) : Calls Try.prog 8 #[v, .int .u8 n, .int .u8 k, .int .u32 i] W0 fun e w' => e = .returned (.bool true) ∧ Below W0.heap.size W0 w' :=
  law_slice FS_ok Try.func8 (n := 0) (ws := [u8 n, u8 k, u32 i]) w ⟨hn, hk, hi, trivial⟩ rfl (back_nil n k i hn hk hi) fun zs l hl hc hx => back_row zs l hl hc n k i hn hk hi
end Go.Proofs.Ytmkdamfdlkpjdaa
