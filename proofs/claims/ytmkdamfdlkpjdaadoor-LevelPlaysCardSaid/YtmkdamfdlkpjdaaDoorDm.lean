/- Chapter level: the document's own functions. -/
import Derived.Test.YtmkdamfdlkpjdaaDoorDk
set_option linter.all false
namespace Go.Proofs.YtmkdamfdlkpjdaaDoor
open Go.RowKit (Below)
set_option maxRecDepth 100000
set_option maxHeartbeats 32000000

theorem rsize_walk (x : Int) (hx : InK .i64 x) : walk F0 0 Tryd.f36 [i64 x] [] fun y _ => y = vi (szF x) := by
  obtain ⟨x1, x2⟩ := hx
  simp only [lowK, highK] at x1 x2
  rcases Classical.em (x < -1099511627776) with h1 | h1
  · rw [show szF x = 1099511627776 by rw [szF_def]; omega]
    repeat' ((conv => whnf); first | (refine ask_true (by omega) ?_) | (refine ask_false (by omega) ?_) | rfl | fail)
  · rcases Classical.em (x > 1099511627776) with h2 | h2
    · rw [show szF x = 1099511627776 by rw [szF_def]; omega]
      repeat' ((conv => whnf); first | (refine ask_true (by omega) ?_) | (refine ask_false (by omega) ?_) | rfl | fail)
    · rw [szF_abs (by omega)]
      rcases Int.lt_or_le x 0 with h3 | h3
      · rw [if_pos h3]
        repeat' ((conv => whnf); first | (refine ask_true (by omega) ?_) | (refine ask_false (by omega) ?_) | (refine ask_wrap64 (by omega) (by omega) ?_) | fail)
        exact vi_eq (by omega)
      · rw [if_neg (by omega)]
        repeat' ((conv => whnf); first | (refine ask_true (by omega) ?_) | (refine ask_false (by omega) ?_) | rfl | fail)
theorem rsize_ct : CtOk Tryd.prog 36 (ct1 (fun _ => True) szF) := ct1_ok F0_ok Tryd.func36 (fun a _ _ => by have := szF_in a; simp only [InK, lowK, highK]; omega) fun a h _ => rsize_walk a h

/-! ### bounds of a band -/
theorem lt5 {n : Nat} (h : n < 5) : n < 4 + 1 := h
def ctB : Ct := fun ws K => match ws with
  | [.c (.ci .i64 b)] => (0 ≤ b ∧ b ≤ 3) ∧ K (.tup [i64 (fst b), i64 (fst (b + 1))])
  | _ => False
theorem bounds_walk (b : Int) (h : 0 ≤ b ∧ b ≤ 3) : walk F0 0 Tryd.f20 [i64 b] [] fun y _ => y = .tup [i64 (fst b), i64 (fst (b + 1))] := by
  have em0 : mulN b.toNat (Tryd.prog.types[3]).size = b.toNat := mulN1 _
  have em1 : mulN (b + 1).toNat (Tryd.prog.types[3]).size = (b + 1).toNat := mulN1 _
  have f := fst_ok h
  have x0 : ([0, 2, 4, 8, 16] : List Int).getD (0 + mulN b.toNat (Tryd.prog.types[3]).size) 0 = fst b := by rw [em0, Nat.zero_add]; rfl
  have x1 : ([0, 2, 4, 8, 16] : List Int).getD (0 + mulN (b + 1).toNat (Tryd.prog.types[3]).size) 0 = fst (b + 1) := by rw [em1, Nat.zero_add]; rfl
  repeat' ((conv => whnf); first | (refine And.intro rfl ?_) | (refine And.intro (by omega) ?_) | (refine And.intro (lt5 (by omega)) ?_) | (refine fun (_ : InK _ _) => ?_) | (refine ask_wrap64 (by omega) (by omega) ?_) | (refine ⟨by kernel_rfl, ?_⟩) | fail)
  exact congrArg V.tup (by rw [show ((((((List.replicate (5 * (Tryd.prog.types[3]).size) (0 : Int)).set 0 0).set (0 + 1) 2).set (1 + 1) 4).set (2 + 1) 8).set (3 + 1) 16) = [0, 2, 4, 8, 16] from rfl, x0, x1])

/-! ### levels of a row -/
noncomputable def levR (cs : List Int) : Int := min (lenS (sumF cs cs.length)) 20
theorem getD_drop {xs : List Int} {k i : Nat} : (xs.drop k).getD i 0 = xs.getD (k + i) 0 := by
  rw [List.getD_eq_getElem?_getD, List.getD_eq_getElem?_getD, List.getElem?_drop]
noncomputable def FR : Fns := ((F0.plus 36 (ct1 (fun _ => True) szF)).plus 37 (ct1 (fun x => 0 ≤ x) lenS)).plus 38 (ct1 (fun n => n ≤ 62) pw)
theorem FR_ok : FnsOk Tryd.prog FR := ((F0_ok.plus rsize_ct Tryd.func36 (by kernel_rfl) (by kernel_rfl)).plus refLength_ct Tryd.func37 (by kernel_rfl) (by kernel_rfl)).plus pow_ct Tryd.func38 (by kernel_rfl) (by kernel_rfl)
theorem rlevel_walk (xs : List Int) (k l c : Nat) (hl : k + l ≤ xs.length) (h10 : l ≤ 1000) :
    walk FR 0 Tryd.f21 [.c (.csl 0 0 k l c)] [.ro [.ints .i64 xs.length xs]] (Made fun x N => x = vi (levR ((xs.drop k).take l)) ∧ N = []) := by
  have lt : ((xs.drop k).take l).length = l := by simp; omega
  obtain ⟨Y, eY⟩ : ∃ Y, Y = (xs.drop k).take l := ⟨_, rfl⟩
  rw [← eY] at lt ⊢
  conv => whnf
  refine loop_at (3 :: 4 :: List.range' 5 13) (fun m (i : Int) => 0 ≤ i ∧ i ≤ l ∧ m = (l - i).toNat) (fun i => [(3, vi (sumF Y i.toNat)), (4, vi i)]) (fun _ => [.ro [.ints .i64 xs.length xs]]) l 0 ⟨by decide, by omega, by omega⟩ ?_ ?_
  · exact ⟨rfl, ⟨⟨Nat.le_of_ble_eq_true rfl, rfl⟩, ⟨Nat.le_of_ble_eq_true rfl, rfl⟩, trivial⟩, ⟨rfl, trivial⟩, rfl, rfl, Nat.le_of_ble_eq_true rfl⟩
  · rintro m i ⟨i0, i1, rfl⟩
    have em : mulN i.toNat (Tryd.prog.types[3]).size = i.toNat := mulN1 _
    have si := sumF_in Y i.toNat
    rcases Int.lt_or_le i l with i2 | i2
    · have ex : xs.getD (k + mulN i.toNat (Tryd.prog.types[3]).size) 0 = Y.getD i.toNat 0 := by rw [em, eY, getD_take (by omega), getD_drop]
      have hs : sumF Y (i + 1).toNat = sumF Y i.toNat + szF (Y.getD i.toNat 0) := by rw [show (i + 1).toNat = i.toNat + 1 by omega]; rfl
      have hi := szF_in (Y.getD i.toNat 0)
      rw [← ex] at hs hi
      repeat' ((conv => whnf); first | (refine ask_true (by omega) ?_) | (refine And.intro (by omega) ?_) | (refine And.intro trivial ?_) | (refine fun (_ : InK _ _) => ?_) | (refine ask_wrap64 (by omega) (by omega) ?_) | fail)
      conv => whnf
      exact ⟨(l - (i + 1)).toNat, i + 1, by omega, ⟨by omega, by omega, rfl⟩, rfl, ⟨⟨Nat.le_of_ble_eq_true rfl, congrArg vi hs.symm⟩, ⟨Nat.le_of_ble_eq_true rfl, rfl⟩, trivial⟩, ⟨rfl, trivial⟩, rfl, rfl, Nat.le_of_ble_eq_true rfl⟩
    · have e : i.toNat = l := by omega
      rw [e] at si ⊢
      repeat' ((conv => whnf); first | (refine ask_false (by omega) ?_) | (refine And.intro (by omega) ?_) | fail)
      conv => whnf
      have el : levR Y = min (lenS (sumF Y l)) 20 := by unfold levR; rw [lt]
      show Made (fun x N => x = vi (levR Y) ∧ N = []) (vi (min (lenS (sumF Y l)) 20)) _
      rw [← el]
      exact made_of (vi (levR Y)) [] id ⟨rfl, rfl⟩ rfl trivial (fun p q hp _ _ => absurd hp (Nat.not_lt_zero p)) rfl rfl (by intro e; cases e)
/-- A part of a row is read. -/
def slO (H : List Blk) (x : C) (K : List Int → Prop) : Prop :=
  match x with
  | .csl j o i l _ => o = 0 ∧ hGet H j fun b => match b with
    | .own _ [.ints .i64 n xs] => i + l ≤ n ∧ K ((xs.drop i).take l)
    | .ro [.ints .i64 n xs] => i + l ≤ n ∧ K ((xs.drop i).take l)
    | _ => False
  | _ => False
theorem slO_spec {H : List Blk} {x : C} {K : List Int → Prop} (h : slO H x K) (ho : HOk H) (hx : x.rng) : ∃ j i l c xs, K ((xs.drop i).take l) ∧ x = .csl j 0 i l c ∧ (l ≤ c ∧ c ≤ 9223372036854775807) ∧ i + l ≤ xs.length ∧ (∀ y ∈ xs, InK .i64 y) ∧ ((∃ T, H[j]? = some (.own T [.ints .i64 xs.length xs])) ∨ H[j]? = some (.ro [.ints .i64 xs.length xs])) := by
  unfold slO at h
  split at h
  · rename_i j o i l c
    obtain ⟨rfl, h0⟩ := h
    obtain ⟨b, hb, h⟩ := hGet_spec h0
    clear h0
    have hr := ho.rng b (List.mem_of_getElem? hb)
    split at h
    · rename_i T n xs
      obtain ⟨hn, hK⟩ := h
      have hl : xs.length = n := hr.1.1
      subst hl
      exact ⟨j, i, l, c, xs, hK, rfl, hx, hn, hr.1.2, .inl ⟨_, hb⟩⟩
    · rename_i n xs
      obtain ⟨hn, hK⟩ := h
      have hl : xs.length = n := hr.1.1
      subst hl
      exact ⟨j, i, l, c, xs, hK, rfl, hx, hn, hr.1.2, .inr hb⟩
    · exact h.elim
  · exact h.elim
def hRLevel : HCt := fun ws H K => match ws with
  | [.c x] => slO H x fun cs => cs.length ≤ 1000 ∧ K (vi (levR cs)) H
  | _ => False
theorem rlevel_ct : HCtOk Tryd.prog 21 hRLevel := by
  intro ws H K h hr hb ho G σ base w₀ w hw
  unfold hRLevel at h
  split at h
  · rename_i x
    obtain ⟨j, i, l, c, xs, h', hx, g1, g2, g3, g4⟩ := slO_spec h ho hr.1
    clear h
    subst hx
    have hl : ((xs.drop i).take l).length = l := by simp; omega
    rw [hl] at h'
    exact walk_lift FR_ok Tryd.func21 (n := 0) (ws := [.c (.csl 0 0 i l c)]) (R := [.ro [.ints .i64 xs.length xs]]) (ro_ok g3) ⟨g1, trivial⟩ rfl (rlevel_walk xs i l c g2 h'.1) int_mine (fun _ => j) (ro_at g4) rfl (int_K h'.2) ho G σ base w₀ w hw
  · exact h.elim

/-! ### the document's Fill -/
theorem rfill_walk (ys : List Int) (l : Nat) (lv : Int) (hl : l ≤ ys.length) (hc : ys.length ≤ 9223372036854775807) (hr : rightL lv (ys.take l)) :
    walk FR 0 Tryd.f22 [i64 lv, .c (.csl 0 0 0 l ys.length)] [.ro [.ints .i64 ys.length ys]] (Made (fillP (flZ lv (ys.take l)))) := by
  have lt : (ys.take l).length = l := by simp; omega
  have hr' := hr
  rw [rightL_def] at hr'
  have b3 := bytes3
  have n1 : natI (l : Int) = l := rfl
  have fl := flZ_len lv (ys.take l)
  rw [lt] at fl
  conv => whnf
  refine loop_at (5 :: 6 :: List.range' 9 13) (fun m (i : Int) => 0 ≤ i ∧ i ≤ l ∧ m = (l - i).toNat) (fun i => [(5, vi (sumF ys i.toNat)), (6, vi i)]) (fun _ => [.ro [.ints .i64 ys.length ys]]) l 0 ⟨by decide, by omega, by omega⟩ ?_ ?_
  · exact ⟨rfl, ⟨⟨Nat.le_of_ble_eq_true rfl, rfl⟩, ⟨Nat.le_of_ble_eq_true rfl, rfl⟩, trivial⟩, ⟨rfl, trivial⟩, rfl, rfl, Nat.le_of_ble_eq_true rfl⟩
  · rintro m i ⟨i0, i1, rfl⟩
    have em : mulN i.toNat (Tryd.prog.types[3]).size = i.toNat := mulN1 _
    have si := sumF_in ys i.toNat
    rcases Int.lt_or_le i l with i2 | i2
    · have ex : ys.getD (0 + mulN i.toNat (Tryd.prog.types[3]).size) 0 = ys.getD i.toNat 0 := by rw [em, Nat.zero_add]
      have hs : sumF ys (i + 1).toNat = sumF ys i.toNat + szF (ys.getD i.toNat 0) := by rw [show (i + 1).toNat = i.toNat + 1 by omega]; rfl
      have hi := szF_in (ys.getD i.toNat 0)
      rw [← ex] at hs hi
      repeat' ((conv => whnf); first | (refine ask_true (by omega) ?_) | (refine And.intro (by omega) ?_) | (refine And.intro trivial ?_) | (refine fun (_ : InK _ _) => ?_) | (refine ask_wrap64 (by omega) (by omega) ?_) | fail)
      conv => whnf
      exact ⟨(l - (i + 1)).toNat, i + 1, by omega, ⟨by omega, by omega, rfl⟩, rfl, ⟨⟨Nat.le_of_ble_eq_true rfl, congrArg vi hs.symm⟩, ⟨Nat.le_of_ble_eq_true rfl, rfl⟩, trivial⟩, ⟨rfl, trivial⟩, rfl, rfl, Nat.le_of_ble_eq_true rfl⟩
    · have e : i.toNat = l := by omega
      rw [e] at si ⊢
      repeat' ((conv => whnf); first | (refine ask_false (by omega) ?_) | (refine And.intro rfl ?_) | (refine And.intro ⟨by omega, by omega, by omega, by rw [b3]; omega⟩ ?_) | fail)
      conv => whnf
      clear em i0 i1 i2 e
      obtain ⟨S, eS⟩ : ∃ S, S = sumF ys l := ⟨_, rfl⟩
      refine loop_at (5 :: 8 :: List.range' 25 28) (fun m (i : Int) => 0 ≤ i ∧ i ≤ l ∧ m = (l - i).toNat ∧ (0 < i → 0 < S ∧ 0 < lv)) (fun i => [(5, vi S), (8, vi i)]) (fun i => [.ro [.ints .i64 ys.length ys], .own 3 [.ints .i64 l (stg (flZ lv (ys.take l)) (List.replicate l 0) i)]]) l 0 ⟨by decide, by omega, by omega, fun h => by omega⟩ ?_ ?_
      · exact ⟨rfl, ⟨⟨Nat.le_of_ble_eq_true rfl, congrArg vi eS.symm⟩, ⟨Nat.le_of_ble_eq_true rfl, rfl⟩, trivial⟩, ⟨rfl, by rw [stg_zero]; rfl, trivial⟩, rfl, rfl, Nat.le_of_ble_eq_true rfl⟩
      · rw [← eS] at si
        rintro m i ⟨i0, i1, rfl, i3⟩
        have em : mulN i.toNat (Tryd.prog.types[3]).size = i.toNat := mulN1 _
        have em' : 0 + mulN i.toNat (Tryd.prog.types[3]).size = i.toNat := by omega
        rcases Int.lt_or_le i l with i2 | i2
        · rcases Classical.em (0 < S ∧ 0 < lv) with hp | hp
          · have e : flZ lv (ys.take l) = (ys.take l).map (fillN lv S) := by unfold flZ; rw [if_pos ⟨hr, by omega⟩, lt, sumF_take (Nat.le_refl _), eS]
            have ex : ys.getD (0 + mulN i.toNat (Tryd.prog.types[3]).size) 0 = (ys.take l).getD i.toNat 0 := by rw [em, Nat.zero_add, getD_take (by omega)]
            have hn := hr'.2.2 ((ys.take l).getD i.toNat 0) (mem_at (by omega))
            rw [← ex] at hn
            have h1 := fill_prod hr'.1 hn
            have h2 := fillN_in (S := S) hr'.1 hn
            unfold fillN at h2
            rw [Int.one_mul] at h1 h2
            have hv : (flZ lv (ys.take l)).getD i.toNat 0 = (ys.getD (0 + mulN i.toNat (Tryd.prog.types[3]).size) 0 * 3 * pw lv).tdiv (4 * S) := by
              rw [e, getD_map (by omega), ← ex]
              unfold fillN
              rw [Int.one_mul]
            repeat' ((conv => whnf); first | (refine ask_true (by omega) ?_) | (refine And.intro (by omega) ?_) | (refine fun (_ : InK _ _) => ?_) | (refine ask_wrap64 (by omega) (by omega) ?_) | (refine ⟨by kernel_rfl, ?_⟩) | fail)
            conv => whnf
            refine ⟨(l - (i + 1)).toNat, i + 1, by omega, ⟨by omega, by omega, rfl, fun _ => hp⟩, rfl, ⟨⟨Nat.le_of_ble_eq_true rfl, rfl⟩, ⟨Nat.le_of_ble_eq_true rfl, rfl⟩, trivial⟩, ⟨rfl, ?_, trivial⟩, rfl, rfl, Nat.le_of_ble_eq_true rfl⟩
            exact congrArg (fun zs => Blk.own 3 [.ints .i64 l zs]) (stg_set em' (by simp [fl]) i0 (by omega) hv).symm
          · have hi0 : i = 0 := by
              rcases Int.lt_or_le 0 i with h | h
              · exact absurd (i3 h) hp
              · omega
            subst hi0
            have z0 : flZ lv (ys.take l) = List.replicate l 0 := by
              unfold flZ
              split
              · rename_i hh
                rw [lt, sumF_take (Nat.le_refl _), ← eS, show S = 0 by omega]
                refine List.ext_getElem (by rw [List.length_map, lt, List.length_replicate]) fun k k1 k2 => ?_
                simp only [List.getElem_map, List.getElem_replicate, fillN_zero]
              · rw [lt]
            rcases Int.lt_or_le 0 S with hS | hS
            all_goals repeat' ((conv => whnf); first | (refine ask_true (by omega) ?_) | (refine ask_false (by omega) ?_) | fail)
            all_goals (conv => whnf)
            all_goals exact fill_made (j := 1) z0 fl (by rw [stg_zero]; rfl)
        · have hi : i = l := by omega
          subst hi
          have sa : stg (flZ lv (ys.take l)) (List.replicate l 0) l = flZ lv (ys.take l) := stg_all (by simp [fl]) (by omega)
          repeat' ((conv => whnf); first | (refine ask_false (by omega) ?_) | fail)
          conv => whnf
          exact fill_made (j := 1) rfl fl (by rw [sa]; rfl)
theorem rfill_nil (lv : Int) : walk FR 0 Tryd.f22 [i64 lv, .c .csn] [] (Made (fillP [])) := by
  have b3 := bytes3
  conv => whnf
  refine loop_at (5 :: 6 :: List.range' 9 13) (fun m (i : Int) => i = 0 ∧ m = 0) (fun i => [(5, vi 0), (6, vi i)]) (fun _ => []) 0 0 ⟨rfl, rfl⟩ ?_ ?_
  · exact ⟨rfl, ⟨⟨Nat.le_of_ble_eq_true rfl, rfl⟩, ⟨Nat.le_of_ble_eq_true rfl, rfl⟩, trivial⟩, trivial, rfl, rfl, Nat.le_of_ble_eq_true rfl⟩
  · rintro m i ⟨rfl, rfl⟩
    repeat' ((conv => whnf); first | (refine ask_false (by decide) ?_) | (refine And.intro rfl ?_) | (refine And.intro ⟨by decide, by decide, by decide, by rw [b3]; decide⟩ ?_) | fail)
    conv => whnf
    refine loop_at (5 :: 8 :: List.range' 25 28) (fun m (i : Int) => i = 0 ∧ m = 0) (fun i => [(8, vi i)]) (fun _ => [.own 3 [.ints .i64 0 []]]) 0 0 ⟨rfl, rfl⟩ ?_ ?_
    · exact ⟨rfl, ⟨⟨Nat.le_of_ble_eq_true rfl, rfl⟩, trivial⟩, ⟨rfl, trivial⟩, rfl, rfl, Nat.le_of_ble_eq_true rfl⟩
    · rintro m i ⟨rfl, rfl⟩
      repeat' ((conv => whnf); first | (refine ask_false (by decide) ?_) | fail)
      conv => whnf
      exact fill_made (zs := []) (ys := []) (l := 0) (j := 0) rfl rfl rfl
def hRFill : HCt := fun ws H K => match ws with
  | [.c (.ci .i64 _), .c .csn] => K (.w (.c (.csl H.length 0 0 0 0))) (H ++ [.own 3 [.ints .i64 0 []]])
  | [.c (.ci .i64 lv), .c x] => slK H x fun _ l xs => rightL lv (xs.take l) ∧ K (.w (.c (.csl H.length 0 0 l l))) (H ++ [.own 3 [.ints .i64 l (flZ lv (xs.take l))]])
  | _ => False
theorem rfill_ct : HCtOk Tryd.prog 22 hRFill := by
  intro ws H K h hr hb ho G σ base w₀ w hw
  unfold hRFill at h
  split at h
  · rename_i lv
    exact walk_lift FR_ok Tryd.func22 (n := 0) (ws := [i64 lv, .c .csn]) (R := []) nil_ok ⟨hr.1, trivial, trivial⟩ rfl (rfill_nil lv) fill_mine id no_ro rfl (fill_K h) ho G σ base w₀ w hw
  · rename_i lv x _
    obtain ⟨j, l, xs, h', hx, g1, g2, g3, g4⟩ := slK_spec h ho hr.2.1
    clear h
    subst hx
    have fl : (flZ lv (xs.take l)).length = l := by rw [flZ_len]; simp; omega
    refine walk_lift FR_ok Tryd.func22 (n := 0) (ws := [i64 lv, .c (.csl 0 0 0 l xs.length)]) (R := [.ro [.ints .i64 xs.length xs]]) (ro_ok g3) ⟨hr.1, ⟨g1, g2⟩, trivial⟩ rfl (rfill_walk xs l lv g1 g2 h'.1) fill_mine (fun _ => j) (ro_at g4) rfl (fill_K ?_) ho G σ base w₀ w hw
    rw [fl]
    exact h'.2
  · exact h.elim
end Go.Proofs.YtmkdamfdlkpjdaaDoor
