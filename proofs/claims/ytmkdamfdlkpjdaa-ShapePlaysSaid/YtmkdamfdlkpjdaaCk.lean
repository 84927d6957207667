/- Chapter shape: the document's Find, walked. -/
import Derived.Test.YtmkdamfdlkpjdaaCj
set_option linter.all false
namespace Go.Proofs.Ytmkdamfdlkpjdaa
open Go.RowKit (Below)
set_option maxRecDepth 100000
set_option maxHeartbeats 32000000

noncomputable def FRf : Fns := F0.over 35 hBoth
theorem FRf_ok : FnsOk Try.prog FRf := F0_ok.over both_ct Try.func35 (by kernel_rfl) (by kernel_rfl)
@[irreducible] noncomputable def bstR (c : List Int) (s : Fd) (i : Int) : Int := if i = 0 then -1 else (bestF c s i.toNat : Nat)
@[irreducible] noncomputable def upR (c : List Int) (s : Fd) (i : Int) : Int := if i = 0 then 0 else topF c s (bestF c s i.toNat)
@[irreducible] noncomputable def dnR (c : List Int) (s : Fd) (i : Int) : Int := if i = 0 then 1 else botF s (bestF c s i.toNat)
theorem bstR_0 (c : List Int) (s : Fd) : bstR c s 0 = -1 := by unfold bstR; rfl
theorem upR_0 (c : List Int) (s : Fd) : upR c s 0 = 0 := by unfold upR; rfl
theorem dnR_0 (c : List Int) (s : Fd) : dnR c s 0 = 1 := by unfold dnR; rfl
theorem bstR_pos {c : List Int} {s : Fd} {i : Int} (h : i ≠ 0) : bstR c s i = (bestF c s i.toNat : Nat) := by unfold bstR; rw [if_neg h]
theorem upR_pos {c : List Int} {s : Fd} {i : Int} (h : i ≠ 0) : upR c s i = topF c s (bestF c s i.toNat) := by unfold upR; rw [if_neg h]
theorem dnR_pos {c : List Int} {s : Fd} {i : Int} (h : i ≠ 0) : dnR c s i = botF s (bestF c s i.toNat) := by unfold dnR; rw [if_neg h]
theorem best_next_1 (c : List Int) (s : Fd) : bestF c s 1 = 0 := by
  show (if _ then 0 else 0) = 0
  split <;> rfl
theorem both_ext2 {xs xs' ys ys' : List Int} {n : Nat} (h : ∀ i, i < n → xs.getD i 0 = xs'.getD i 0) (h' : ∀ i, i < n → ys.getD i 0 = ys'.getD i 0) : ∀ i, i ≤ n → bothA xs ys i = bothA xs' ys' i ∧ sqA ys i = sqA ys' i
  | 0, _ => ⟨rfl, rfl⟩
  | i + 1, hi => by
    obtain ⟨h1, h2⟩ := both_ext2 h h' i (by omega)
    exact ⟨by show bothA xs ys i + absI (xs.getD i 0) * absI (ys.getD i 0) = bothA xs' ys' i + absI (xs'.getD i 0) * absI (ys'.getD i 0); rw [h1, h i (by omega), h' i (by omega)], by show sqA ys i + ys.getD i 0 * ys.getD i 0 = sqA ys' i + ys'.getD i 0 * ys'.getD i 0; rw [h2, h' i (by omega)]⟩
theorem add_both {c zs y R : List Int} {l b : Nat} (hy : y.length = l) (hb : b < l) (h0 : 0 ≤ y.getD b 0) (hz : ∀ i, i < l → zs.getD i 0 = c.getD i 0) : bothA zs ((y ++ R).set b ((y ++ R).getD b 0 + 1)) l = bothA c y l + absI (c.getD b 0) ∧ sqA ((y ++ R).set b ((y ++ R).getD b 0 + 1)) l = sqA y l + (2 * y.getD b 0 + 1) := by
  have e : (y ++ R).getD b 0 = y.getD b 0 := left_at (by omega)
  obtain ⟨h1, h2⟩ := both_ext2 (xs := zs) (xs' := c) (ys := (y ++ R).set b ((y ++ R).getD b 0 + 1)) (ys' := y.set b (y.getD b 0 + 1)) hz (fun i hi => by
    rw [set_getD' (by rw [List.length_append]; omega), set_getD' (by omega), e, left_at (by omega)]) l (Nat.le_refl l)
  rw [h1, h2, both_set (by omega) h0, sq_set (by omega), if_pos hb, if_pos hb]
  exact ⟨rfl, rfl⟩
theorem set_app {y R : List Int} {b : Nat} {v : Int} (hb : b < y.length) (i : Nat) (hi : i < y.length) : ((y ++ R).set b v).getD i 0 = if i = b then v else y.getD i 0 := by
  rw [set_getD' (by rw [List.length_append]; omega)]
  split
  · rfl
  · exact left_at hi
set_option profiler true in
set_option profiler.threshold 500 in
theorem fresh_as {e : TypeId} {k : IntKind} {H : List Blk} {m : Nat} {ys zs : List Int} {K : C → List Blk → Prop} (hy : ys = zs) (h : ∀ (c : Nat) (R : List Int), m ≤ c → c ≤ 9223372036854775807 → R.length = c - m → lenH H 0 fun n => pushH H (.own e [.ints k c (zs ++ R)]) fun H' => K (.csl n 0 0 m c) H') : freshK e k H m ys K := by
  subst hy
  exact fun c h1 h2 => h c _ h1 h2 (List.length_replicate ..)
theorem refFind_walk (zs : List Int) (l k : Nat) (hl : l ≤ zs.length) (hc : zs.length ≤ 9223372036854775807) (hx : ∀ x ∈ zs, InK .i64 x) (hr : rightC (zs.take l) k) :
    walk FRf 0 Try.f17 [.c (.csl 0 0 0 l zs.length), i64 k] [.ro [.ints .i64 zs.length zs]] (Made fun x N => x = .w (.c (.csl 0 0 0 l l)) ∧ N = [.own 3 [.ints .i64 l (findZ (zs.take l) l k)]]) := by
  have hr' := hr
  rw [rightC_def] at hr'
  have lt : (zs.take l).length = l := by simp; omega
  have hcb := right_in hr
  have n0 : 0 < l := by omega
  obtain ⟨C, hC⟩ : ∃ C, C = zs.take l := ⟨_, rfl⟩
  have cat : ∀ i, i < l → zs.getD i 0 = C.getD i 0 := fun i hi => by rw [hC, getD_take hi]
  have nl : natI (l : Int) = l := Int.toNat_natCast l
  have eb : (Try.prog.types[3]).bytes = 8 := by kernel_rfl
  rw [← hC] at hcb ⊢
  have ok := fdRun_ok (c := C) n0 hcb
  have rb := run_both (c := C) n0 hcb
  have em : ∀ i : Int, mulN i.toNat (Try.prog.types[3]).size = i.toNat := fun i => mulN1 _
  repeat' ((conv => whnf); first | (refine And.intro rfl ?_) | (refine And.intro ⟨by omega, by omega, by omega, by rw [eb]; omega⟩ ?_) | fail)
  conv => whnf
  refine loop_at (6 :: 7 :: 8 :: 9 :: 10 :: 11 :: 12 :: 13 :: List.range' 18 50) (fun m (j : Int) => 0 ≤ j ∧ j ≤ k ∧ m = (k - j).toNat) (fun j => [(6, vi j)]) (fun j => [.ro [.ints .i64 zs.length zs], .own 3 [.ints .i64 l (fdRun C l j.toNat).y]]) k 0 ⟨by decide, by omega, by omega⟩ ?_ ?_
  · exact ⟨rfl, ⟨⟨Nat.le_of_ble_eq_true rfl, rfl⟩, trivial⟩, ⟨rfl, rfl, trivial⟩, rfl, rfl, Nat.le_of_ble_eq_true rfl⟩
  · rintro m j ⟨j0, j1, rfl⟩
    rcases Int.lt_or_le j k with j2 | j2
    · have so := ok j.toNat (by omega)
      have sb := rb j.toNat (by omega)
      have ss : fdRun C l (j + 1).toNat = stepF C l (fdRun C l j.toNat) := by rw [show (j + 1).toNat = j.toNat + 1 by omega]; rfl
      rw [Int.toNat_of_nonneg j0] at so
      have hj8 : 0 ≤ j ∧ j < 8 := by omega
      obtain ⟨s, hs⟩ : ∃ s, s = fdRun C l j.toNat := ⟨_, rfl⟩
      rw [← hs] at so sb ss ⊢
      have slen := so.len
      repeat' ((conv => whnf); first | (refine ask_true (by omega) ?_) | fail)
      conv => whnf
      refine loop_at (7 :: 8 :: 9 :: 10 :: 11 :: 12 :: 13 :: List.range' 23 39) (fun m (i : Int) => 0 ≤ i ∧ i ≤ l ∧ m = (l - i).toNat) (fun i => [(7, vi (bstR C s i)), (8, vi (upR C s i)), (9, vi (dnR C s i)), (10, vi i)]) (fun _ => [.ro [.ints .i64 zs.length zs], .own 3 [.ints .i64 l s.y]]) l 0 ⟨by decide, by omega, by omega⟩ ?_ ?_
      · rw [bstR_0, upR_0, dnR_0]
        exact ⟨rfl, ⟨⟨Nat.le_of_ble_eq_true rfl, rfl⟩, ⟨Nat.le_of_ble_eq_true rfl, rfl⟩, ⟨Nat.le_of_ble_eq_true rfl, rfl⟩, ⟨Nat.le_of_ble_eq_true rfl, rfl⟩, trivial⟩, ⟨rfl, rfl, trivial⟩, rfl, rfl, Nat.le_of_ble_eq_true rfl⟩
      · rintro m i ⟨i0, i1, rfl⟩
        have ei := em i
        rcases Int.lt_or_le i l with i2 | i2
        · repeat' ((conv => whnf); first | (refine ask_true (by omega) ?_) | (refine And.intro ⟨rfl, rfl⟩ ?_) | (refine And.intro rfl ?_) | fail)
          conv => whnf
          refine And.intro (by omega) ?_
          conv => whnf
          refine And.intro ⟨by decide, by omega, by rw [eb]; omega⟩ (And.intro (fun h => absurd h (by omega)) fun _ => fresh_as (zs := s.y) (by rw [nl, List.take_nil, List.nil_append, List.drop_zero, List.take_of_length_le (by omega)]) fun c' R h5 h6 hR => ?_)
          have yi := so.y i.toNat
          have zi : (s.y ++ R).getD (0 + mulN i.toNat (Try.prog.types[3]).size) 0 = s.y.getD i.toNat 0 := by rw [em, Nat.zero_add]; exact left_at (by omega)
          have lc : (s.y ++ R).length = c' := by rw [List.length_append]; omega
          rw [← zi] at yi
          repeat' ((conv => whnf); first | (refine And.intro (by omega) ?_) | (refine fun (_ : InK _ _) => ?_) | (refine ask_wrap64 (by omega) (by omega) ?_) | fail)
          conv => whnf
          have ab := add_both (c := C) (zs := zs) (y := s.y) (R := R) (l := l) (b := i.toNat) slen (by omega) (so.y _).1 cat
          rw [sb.1, sb.2] at ab
          have hZ : ((s.y ++ R).set (0 + mulN i.toNat (Try.prog.types[3]).size) ((s.y ++ R).getD (0 + mulN i.toNat (Try.prog.types[3]).size) 0 + 1)) = (s.y ++ R).set i.toNat ((s.y ++ R).getD i.toNat 0 + 1) := by rw [em, Nat.zero_add]
          rw [← hZ] at ab
          have bq := bot_bound so hj8 i.toNat
          have ea : sqA ((s.y ++ R).set (0 + mulN i.toNat (Try.prog.types[3]).size) ((s.y ++ R).getD (0 + mulN i.toNat (Try.prog.types[3]).size) 0 + 1)) l = botF s i.toNat := by rw [ab.2]; unfold botF; omega
          have ba : 0 ≤ bothA zs ((s.y ++ R).set (0 + mulN i.toNat (Try.prog.types[3]).size) ((s.y ++ R).getD (0 + mulN i.toNat (Try.prog.types[3]).size) 0 + 1)) l ∧ bothA zs ((s.y ++ R).set (0 + mulN i.toNat (Try.prog.types[3]).size) ((s.y ++ R).getD (0 + mulN i.toNat (Try.prog.types[3]).size) 0 + 1)) l ≤ 8388608 := by
            rw [ab.1]
            have := abs_le (hcb i.toNat)
            have := so.a
            omega
          have tp : bothA zs ((s.y ++ R).set (0 + mulN i.toNat (Try.prog.types[3]).size) ((s.y ++ R).getD (0 + mulN i.toNat (Try.prog.types[3]).size) 0 + 1)) l * bothA zs ((s.y ++ R).set (0 + mulN i.toNat (Try.prog.types[3]).size) ((s.y ++ R).getD (0 + mulN i.toNat (Try.prog.types[3]).size) 0 + 1)) l = topF C s i.toNat := by rw [ab.1]; rfl
          have tb := top_bound so hj8 hcb i.toNat
          have tu := top_bound so hj8 hcb (bestF C s i.toNat)
          have bu := bot_bound so hj8 (bestF C s i.toNat)
          rw [← tp] at tb
          rw [← ea] at bq
          have nx : (i + 1).toNat = i.toNat + 1 := by omega
          have i10 : i + 1 ≠ 0 := by omega
          refine And.intro ⟨by omega, by omega, fun i hi => by rw [cat i hi]; exact hcb i, fun j hj => ?_⟩ ?_
          · rw [em, Nat.zero_add]
            have y1 := so.y j
            have y2 := so.y i.toNat
            rw [set_app (by omega) j (by omega), left_at (by omega)]
            split <;> omega
          · by_cases hi0 : i = 0
            · have e1 : bstR C s i = -1 := by rw [hi0]; exact bstR_0 C s
              have f1 : bstR C s (i + 1) = i := by rw [bstR_pos i10, nx, hi0, show Int.toNat 0 + 1 = 1 from rfl, best_next_1]; rfl
              have f2 : upR C s (i + 1) = bothA zs ((s.y ++ R).set (0 + mulN i.toNat (Try.prog.types[3]).size) ((s.y ++ R).getD (0 + mulN i.toNat (Try.prog.types[3]).size) 0 + 1)) l * bothA zs ((s.y ++ R).set (0 + mulN i.toNat (Try.prog.types[3]).size) ((s.y ++ R).getD (0 + mulN i.toNat (Try.prog.types[3]).size) 0 + 1)) l := by rw [upR_pos i10, tp, nx, hi0, show Int.toNat 0 + 1 = 1 from rfl, best_next_1]; rfl
              have f3 : dnR C s (i + 1) = sqA ((s.y ++ R).set (0 + mulN i.toNat (Try.prog.types[3]).size) ((s.y ++ R).getD (0 + mulN i.toNat (Try.prog.types[3]).size) 0 + 1)) l := by rw [dnR_pos i10, ea, nx, hi0, show Int.toNat 0 + 1 = 1 from rfl, best_next_1]; rfl
              repeat' ((conv => whnf); first | (refine ask_true (by omega) ?_) | (refine ask_wrap64 (by omega) (by omega) ?_) | fail)
              conv => whnf
              exact ⟨(l - (i + 1)).toNat, i + 1, by omega, ⟨by omega, by omega, rfl⟩, rfl, ⟨⟨Nat.le_of_ble_eq_true rfl, congrArg vi f1.symm⟩, ⟨Nat.le_of_ble_eq_true rfl, congrArg vi f2.symm⟩, ⟨Nat.le_of_ble_eq_true rfl, congrArg vi f3.symm⟩, ⟨Nat.le_of_ble_eq_true rfl, rfl⟩, trivial⟩, ⟨rfl, rfl, trivial⟩, rfl, rfl, Nat.le_of_ble_eq_true rfl⟩
            · have e1 := bstR_pos (c := C) (s := s) hi0
              have e2 := upR_pos (c := C) (s := s) hi0
              have e3 := dnR_pos (c := C) (s := s) hi0
              have f1 := bstR_pos (c := C) (s := s) i10
              have f2 := upR_pos (c := C) (s := s) i10
              have f3 := dnR_pos (c := C) (s := s) i10
              rw [nx] at f1 f2 f3
              rw [← e2] at tu
              rw [← e3] at bu
              have p1 := mul_bound tb.1 tb.2 (by omega : (0 : Int) ≤ dnR C s i) bu.2
              have p2 := mul_bound tu.1 tu.2 (by omega : (0 : Int) ≤ sqA ((s.y ++ R).set (0 + mulN i.toNat (Try.prog.types[3]).size) ((s.y ++ R).getD (0 + mulN i.toNat (Try.prog.types[3]).size) 0 + 1)) l) bq.2
              repeat' ((conv => whnf); first | (refine ask_false (by omega) ?_) | (refine ask_wrap64 (by omega) (by omega) ?_) | fail)
              conv => whnf
              refine ask_split (fun hg => ?_) (fun hg => ?_)
              · have b1 : bestF C s (i.toNat + 1) = i.toNat := by
                  show (if topF C s i.toNat * botF s (bestF C s i.toNat) > topF C s (bestF C s i.toNat) * botF s i.toNat then i.toNat else bestF C s i.toNat) = i.toNat
                  rw [tp, e2, e3, ea] at hg
                  rw [if_pos hg]
                rw [b1] at f1 f2 f3
                have f1' : bstR C s (i + 1) = i := by rw [f1]; omega
                have f2' : upR C s (i + 1) = bothA zs ((s.y ++ R).set (0 + mulN i.toNat (Try.prog.types[3]).size) ((s.y ++ R).getD (0 + mulN i.toNat (Try.prog.types[3]).size) 0 + 1)) l * bothA zs ((s.y ++ R).set (0 + mulN i.toNat (Try.prog.types[3]).size) ((s.y ++ R).getD (0 + mulN i.toNat (Try.prog.types[3]).size) 0 + 1)) l := by rw [f2, tp]
                have f3' : dnR C s (i + 1) = sqA ((s.y ++ R).set (0 + mulN i.toNat (Try.prog.types[3]).size) ((s.y ++ R).getD (0 + mulN i.toNat (Try.prog.types[3]).size) 0 + 1)) l := by rw [f3, ea]
                repeat' ((conv => whnf); first | (refine ask_true (by omega) ?_) | (refine ask_wrap64 (by omega) (by omega) ?_) | fail)
                conv => whnf
                exact ⟨(l - (i + 1)).toNat, i + 1, by omega, ⟨by omega, by omega, rfl⟩, rfl, ⟨⟨Nat.le_of_ble_eq_true rfl, congrArg vi f1'.symm⟩, ⟨Nat.le_of_ble_eq_true rfl, congrArg vi f2'.symm⟩, ⟨Nat.le_of_ble_eq_true rfl, congrArg vi f3'.symm⟩, ⟨Nat.le_of_ble_eq_true rfl, rfl⟩, trivial⟩, ⟨rfl, rfl, trivial⟩, rfl, rfl, Nat.le_of_ble_eq_true rfl⟩
              · have b1 : bestF C s (i.toNat + 1) = bestF C s i.toNat := by
                  show (if topF C s i.toNat * botF s (bestF C s i.toNat) > topF C s (bestF C s i.toNat) * botF s i.toNat then i.toNat else bestF C s i.toNat) = bestF C s i.toNat
                  rw [tp, e2, e3, ea] at hg
                  rw [if_neg hg]
                rw [b1, ← e1] at f1
                rw [b1, ← e2] at f2
                rw [b1, ← e3] at f3
                repeat' ((conv => whnf); first | (refine ask_wrap64 (by omega) (by omega) ?_) | fail)
                conv => whnf
                exact ⟨(l - (i + 1)).toNat, i + 1, by omega, ⟨by omega, by omega, rfl⟩, rfl, ⟨⟨Nat.le_of_ble_eq_true rfl, congrArg vi f1.symm⟩, ⟨Nat.le_of_ble_eq_true rfl, congrArg vi f2.symm⟩, ⟨Nat.le_of_ble_eq_true rfl, congrArg vi f3.symm⟩, ⟨Nat.le_of_ble_eq_true rfl, rfl⟩, trivial⟩, ⟨rfl, rfl, trivial⟩, rfl, rfl, Nat.le_of_ble_eq_true rfl⟩
        · have il : i ≠ 0 := by omega
          have it : i.toNat = l := by omega
          have e1 := bstR_pos (c := C) (s := s) il
          rw [it] at e1
          have bl := bestF_lt C s l n0
          have yb := so.y (bstR C s i).toNat
          have eb' := em (bstR C s i)
          have yat : s.y.getD (0 + mulN (bstR C s i).toNat (Try.prog.types[3]).size) 0 = s.y.getD (bstR C s i).toNat 0 := by rw [em, Nat.zero_add]
          rw [← yat] at yb
          repeat' ((conv => whnf); first | (refine ask_true (by omega) ?_) | (refine ask_false (by omega) ?_) | (refine And.intro (by omega) ?_) | (refine fun (_ : InK _ _) => ?_) | (refine ask_wrap64 (by omega) (by omega) ?_) | (refine ⟨by kernel_rfl, ?_⟩) | fail)
          conv => whnf
          refine ⟨(k - (j + 1)).toNat, j + 1, by omega, ⟨by omega, by omega, rfl⟩, rfl, ⟨⟨Nat.le_of_ble_eq_true rfl, rfl⟩, trivial⟩, ⟨rfl, ?_, trivial⟩, rfl, rfl, Nat.le_of_ble_eq_true rfl⟩
          refine congrArg (fun ys => Blk.own 3 [.ints .i64 l ys]) (Eq.symm ?_)
          rw [ss, em, Nat.zero_add, show (bstR C s i).toNat = bestF C s l by omega]
          rfl
    · have jk : j.toNat = k := by omega
      rw [jk]
      have so := ok k (by omega)
      obtain ⟨s, hs⟩ : ∃ s, s = fdRun C l k := ⟨_, rfl⟩
      rw [← hs] at so ⊢
      have slen := so.len
      have efz : findZ C l k = signF C s.y l := by rw [hs]; rfl
      rw [efz]
      repeat' ((conv => whnf); first | (refine ask_true (by omega) ?_) | (refine ask_false (by omega) ?_) | fail)
      conv => whnf
      refine loop_at (14 :: List.range' 68 19) (fun m (i : Int) => 0 ≤ i ∧ i ≤ l ∧ m = (l - i).toNat) (fun i => [(14, vi i)]) (fun i => [.ro [.ints .i64 zs.length zs], .own 3 [.ints .i64 l (stg (signF C s.y l) s.y i)]]) l 0 ⟨by decide, by omega, by omega⟩ ?_ ?_
      · rw [stg_zero]
        exact ⟨rfl, ⟨⟨Nat.le_of_ble_eq_true rfl, rfl⟩, trivial⟩, ⟨rfl, rfl, trivial⟩, rfl, rfl, Nat.le_of_ble_eq_true rfl⟩
      · rintro m i ⟨i0, i1, rfl⟩
        have ei := em i
        rcases Int.lt_or_le i l with i2 | i2
        · have xi : zs.getD (0 + mulN i.toNat (Try.prog.types[3]).size) 0 = C.getD i.toNat 0 := by rw [em, Nat.zero_add]; exact cat _ (by omega)
          have yi := so.y i.toNat
          have zi : (stg (signF C s.y l) s.y i).getD (0 + mulN i.toNat (Try.prog.types[3]).size) 0 = s.y.getD i.toNat 0 := by
            rw [em, Nat.zero_add]
            exact stg_at rfl (by rw [signF_len]; exact slen.symm) i0 (by rw [slen]; omega)
          rw [← zi] at yi
          have sg : (signF C s.y l).getD i.toNat 0 = if C.getD i.toNat 0 < 0 then 0 - s.y.getD i.toNat 0 else s.y.getD i.toNat 0 := getD_range (by omega)
          repeat' ((conv => whnf); first | (refine ask_true (by omega) ?_) | (refine And.intro (by omega) ?_) | (refine fun (_ : InK _ _) => ?_) | (refine ⟨by kernel_rfl, ?_⟩) | fail)
          conv => whnf
          refine ask_split (fun hg => ?_) (fun hg => ?_)
          · repeat' ((conv => whnf); first | (refine ask_true (by omega) ?_) | (refine And.intro (by omega) ?_) | (refine fun (_ : InK _ _) => ?_) | (refine ask_wrap64 (by omega) (by omega) ?_) | (refine ⟨by kernel_rfl, ?_⟩) | fail)
            conv => whnf
            refine ⟨(l - (i + 1)).toNat, i + 1, by omega, ⟨by omega, by omega, rfl⟩, rfl, ⟨⟨Nat.le_of_ble_eq_true rfl, rfl⟩, trivial⟩, ⟨rfl, ?_, trivial⟩, rfl, rfl, Nat.le_of_ble_eq_true rfl⟩
            refine congrArg (fun ys => Blk.own 3 [.ints .i64 l ys]) (Eq.symm ?_)
            rw [xi] at hg
            refine stg_set (by omega) (by rw [signF_len]; exact slen.symm) i0 (by rw [signF_len]; exact i2) ?_
            rw [sg, if_pos hg, zi]
            first | done | omega
          · repeat' ((conv => whnf); first | (refine ask_wrap64 (by omega) (by omega) ?_) | fail)
            conv => whnf
            refine ⟨(l - (i + 1)).toNat, i + 1, by omega, ⟨by omega, by omega, rfl⟩, rfl, ⟨⟨Nat.le_of_ble_eq_true rfl, rfl⟩, trivial⟩, ⟨rfl, ?_, trivial⟩, rfl, rfl, Nat.le_of_ble_eq_true rfl⟩
            refine congrArg (fun ys => Blk.own 3 [.ints .i64 l ys]) (Eq.symm ?_)
            rw [xi] at hg
            have e := stg_set (zs := signF C s.y l) (xs := s.y) (i := i) rfl (by rw [signF_len]; exact slen.symm) i0 (by rw [signF_len]; exact i2) rfl
            rw [set_same] at e
            · exact e
            · rw [stg_at rfl (by rw [signF_len]; exact slen.symm) i0 (by rw [slen]; exact i2), sg, if_neg hg]
        · repeat' ((conv => whnf); first | (refine ask_true (by omega) ?_) | (refine ask_false (by omega) ?_) | fail)
          conv => whnf
          have e : stg (signF C s.y l) s.y i = signF C s.y l := stg_all (by rw [signF_len]; exact slen.symm) (by rw [signF_len]; omega)
          rw [e]
          exact made_of (.w (.c (.csl 0 0 0 l l))) [.own 3 [.ints .i64 l (signF C s.y l)]] (fun _ => 1) ⟨rfl, rfl⟩ rfl (And.intro rfl trivial) (fun p q hp hq _ => by have hp' : p < 1 := hp; have hq' : q < 1 := hq; omega) rfl rfl (by intro e; cases e)
def hRefFind : HCt := fun ws H K => match ws with
  | [.c x, .c (.ci .i64 k)] => slK H x fun _ l xs => rightC (xs.take l) k ∧ K (.w (.c (.csl H.length 0 0 l l))) (H ++ [.own 3 [.ints .i64 l (findZ (xs.take l) l k.toNat)]])
  | _ => False
theorem refFind_ct : HCtOk Try.prog 17 hRefFind := by
  intro ws H K h hr hb ho G σ base w₀ w hw
  unfold hRefFind at h
  split at h
  · rename_i x k
    obtain ⟨j, l, xs, ⟨hk, h'⟩, hx, g1, g2, g3, g4⟩ := slK_spec h ho hr.1
    clear h
    subst hx
    have hk0 := hk
    rw [rightC_def] at hk0
    have e : ((k.toNat : Nat) : Int) = k := by omega
    have fw := refFind_walk xs l k.toNat g1 g2 g3 (by rw [e]; exact hk)
    rw [e] at fw
    refine walk_lift FRf_ok Try.func17 (n := 0) (ws := [.c (.csl 0 0 0 l xs.length), i64 k]) (R := [.ro [.ints .i64 xs.length xs]]) (ro_ok g3) ⟨⟨g1, g2⟩, hr.2.1, trivial⟩ rfl fw ?_ (fun _ => j) (ro_at g4) rfl ?_ ho G σ base w₀ w hw
    · rintro x N ⟨_, rfl⟩ b hb
      rw [List.mem_singleton.1 hb]; exact .inl rfl
    · rintro x N ⟨rfl, rfl⟩
      simpa [V.ren, renW, W.ren, C.ren, Blk.ren, rens, Seg.ren, sh] using h'
  · exact h.elim
end Go.Proofs.Ytmkdamfdlkpjdaa
