/- Chapter shape: pulses are found. -/
import Derived.Test.YtmkdamfdlkpjdaaCc
set_option linter.all false
namespace Go.Proofs.Ytmkdamfdlkpjdaa
open Go.RowKit (Below)
set_option maxRecDepth 100000
set_option maxHeartbeats 32000000

def absI (x : Int) : Int := max x (0 - x)
structure Fd where
  a : Int
  q : Int
  y : List Int
noncomputable def topF (c : List Int) (s : Fd) (i : Nat) : Int := (s.a + absI (c.getD i 0)) * (s.a + absI (c.getD i 0))
noncomputable def botF (s : Fd) (i : Nat) : Int := s.q + (2 : Int) * s.y.getD i 0 + 1
noncomputable def bestF (c : List Int) (s : Fd) : Nat → Nat
  | 0 => 0
  | i + 1 => if topF c s i * botF s (bestF c s i) > topF c s (bestF c s i) * botF s i then i else bestF c s i
noncomputable def stepF (c : List Int) (n : Nat) (s : Fd) : Fd := ⟨s.a + absI (c.getD (bestF c s n) 0), botF s (bestF c s n), s.y.set (bestF c s n) (s.y.getD (bestF c s n) 0 + 1)⟩
noncomputable def fdRun (c : List Int) (n : Nat) : Nat → Fd
  | 0 => ⟨0, 0, List.replicate n 0⟩
  | j + 1 => stepF c n (fdRun c n j)
noncomputable def signF (c y : List Int) (n : Nat) : List Int := (List.range n).map fun i => if c.getD i 0 < 0 then 0 - y.getD i 0 else y.getD i 0
noncomputable def findZ (c : List Int) (n k : Nat) : List Int := signF c (fdRun c n k).y n
theorem bestF_lt (c : List Int) (s : Fd) : ∀ i, 0 < i → bestF c s i < i
  | 0, h => absurd h (Nat.lt_irrefl 0)
  | i + 1, _ => by
    show (if _ then i else bestF c s i) < i + 1
    split
    · omega
    · rcases Nat.eq_zero_or_pos i with h | h
      · subst h; exact Nat.lt_succ_self 0
      · have := bestF_lt c s i h; omega
structure FdOk (n : Nat) (j : Int) (s : Fd) : Prop where
  len : s.y.length = n
  a : 0 ≤ s.a ∧ s.a ≤ 1048576 * j
  q : 0 ≤ s.q ∧ s.q ≤ 17 * j
  y : ∀ i, 0 ≤ s.y.getD i 0 ∧ s.y.getD i 0 ≤ j
theorem abs_le {x : Int} (h : -1048576 ≤ x ∧ x ≤ 1048576) : 0 ≤ absI x ∧ absI x ≤ 1048576 := by unfold absI; omega
theorem set_getD' {xs : List Int} {b i : Nat} {v : Int} (hb : b < xs.length) : (xs.set b v).getD i 0 = if i = b then v else xs.getD i 0 := by
  rw [List.getD_eq_getElem?_getD, List.getD_eq_getElem?_getD]
  by_cases h : i = b
  · subst h; rw [List.getElem?_set_self hb, if_pos rfl]; rfl
  · rw [List.getElem?_set_ne (Ne.symm h), if_neg h]
theorem FdOk.step {c : List Int} {n : Nat} {j : Int} {s : Fd} (h : FdOk n j s) (hn : 0 < n) (hj : 0 ≤ j ∧ j < 8) (hc : ∀ i, -1048576 ≤ c.getD i 0 ∧ c.getD i 0 ≤ 1048576) : FdOk n (j + 1) (stepF c n s) := by
  have hb := bestF_lt c s n hn
  have h1 := abs_le (hc (bestF c s n))
  have h2 := h.y (bestF c s n)
  have ha := h.a
  have hq := h.q
  refine ⟨by show (s.y.set _ _).length = n; rw [List.length_set]; exact h.len, ?_, ?_, fun i => ?_⟩
  · show 0 ≤ s.a + absI _ ∧ s.a + absI _ ≤ 1048576 * (j + 1); omega
  · show 0 ≤ botF s _ ∧ botF s _ ≤ 17 * (j + 1)
    unfold botF; omega
  · show 0 ≤ (s.y.set _ _).getD i 0 ∧ (s.y.set _ _).getD i 0 ≤ j + 1
    rw [set_getD' (by rw [h.len]; exact hb)]
    have := h.y i
    split <;> omega
theorem FdOk.zero (n : Nat) : FdOk n 0 ⟨0, 0, List.replicate n 0⟩ := ⟨by simp, ⟨Int.le_refl 0, Int.le_refl 0⟩, ⟨Int.le_refl 0, Int.le_refl 0⟩, fun i => by
  rw [List.getD_eq_getElem?_getD]
  cases hi : (List.replicate n (0 : Int))[i]? with
  | none => decide
  | some v =>
    have := List.mem_of_getElem? hi
    rw [(List.mem_replicate.1 this).2]; decide⟩
theorem fdRun_ok {c : List Int} {n : Nat} (hn : 0 < n) (hc : ∀ i, -1048576 ≤ c.getD i 0 ∧ c.getD i 0 ≤ 1048576) : ∀ j : Nat, j ≤ 8 → FdOk n j (fdRun c n j)
  | 0, _ => FdOk.zero n
  | j + 1, h => (fdRun_ok hn hc j (by omega)).step hn (by omega) hc
theorem top_bound {c : List Int} {n : Nat} {j : Int} {s : Fd} (h : FdOk n j s) (hj : 0 ≤ j ∧ j < 8) (hc : ∀ i, -1048576 ≤ c.getD i 0 ∧ c.getD i 0 ≤ 1048576) (i : Nat) : 0 ≤ topF c s i ∧ topF c s i ≤ 70368744177664 := by
  have h1 := abs_le (hc i)
  have ha := h.a
  have := mul_bound (a := s.a + absI (c.getD i 0)) (b := s.a + absI (c.getD i 0)) (m := 8388608) (n := 8388608) (by omega) (by omega) (by omega) (by omega)
  unfold topF; omega
theorem bot_bound {n : Nat} {j : Int} {s : Fd} (h : FdOk n j s) (hj : 0 ≤ j ∧ j < 8) (i : Nat) : 1 ≤ botF s i ∧ botF s i ≤ 134 := by
  have := h.y i
  have := h.q
  unfold botF; omega

/-! ### the walk -/
def ctAbs : Ct := fun ws K => match ws with
  | [.c (.ci .i64 x)] => -9223372036854775808 < x ∧ K (vi (absI x))
  | _ => False
theorem size_ct : CtOk Try.prog 33 ctAbs := by
  intro ws K h' hr
  unfold ctAbs at h'
  split at h'
  · rename_i x
    obtain ⟨hx, h'⟩ := h'
    obtain ⟨x1, x2⟩ := hr.1
    simp only [lowK, highK] at x1 x2
    refine ⟨_, h', ⟨show InK .i64 _ from by simp only [InK, lowK, highK, absI]; omega, rfl⟩, walk_calls F0_ok Try.func33 (n := 0) rfl hr rfl ?_⟩
    repeat' ((conv => whnf); first | (refine ask_wrap64 (by omega) (by omega) ?_) | rfl | fail)
  · exact h'.elim
noncomputable def FF : Fns := (((F0.over 31 hRight).plus 33 ctAbs).into 32 Try.f32).into 34 Try.f34
theorem FF_ok : FnsOk Try.prog FF := (((F0_ok.over right_ct Try.func31 (by kernel_rfl) (by kernel_rfl)).plus size_ct Try.func33 (by kernel_rfl) (by kernel_rfl)).into Try.func32 (by kernel_rfl) (by kernel_rfl)).into Try.func34 (by kernel_rfl) (by kernel_rfl)
noncomputable abbrev fdH (zs : List Int) (l : Nat) (s : Fd) : List Blk := [.ro [.ints .i64 zs.length zs], .own 22 [.one (.csl 0 0 0 l zs.length)], .own 3 [.ints .i64 l s.y], .own 22 [.one (.csl 2 0 0 l l)], .own 3 [.one (.ci .i64 s.a)], .own 3 [.one (.ci .i64 s.q)]]
def foundP (xs : List Int) (x : V) (N : List Blk) : Prop := x = .tup [.c (.csl 0 0 0 xs.length xs.length), i64 0] ∧ N = [.own 3 [.ints .i64 xs.length xs]]
theorem signF_len (c y : List Int) (n : Nat) : (signF c y n).length = n := by simp [signF]
theorem find_walk (zs : List Int) (l k : Nat) (hl : l ≤ zs.length) (hc : zs.length ≤ 9223372036854775807) (hx : ∀ x ∈ zs, InK .i64 x) (hr : rightC (zs.take l) k) :
    walk FF 2 Try.f16 [.c (.csl 0 0 0 l zs.length), i64 k] [.ro [.ints .i64 zs.length zs]] (Made (foundP (findZ (zs.take l) l k))) := by
  have hr' := hr
  rw [rightC_def] at hr'
  have lt : (zs.take l).length = l := by simp; omega
  have hcb : ∀ i, -1048576 ≤ (zs.take l).getD i 0 ∧ (zs.take l).getD i 0 ≤ 1048576 := fun i => by
    rcases Nat.lt_or_ge i l with h | h
    · exact hr'.2.2 _ (mem_at (by omega))
    · rw [List.getD_eq_getElem?_getD, List.getElem?_eq_none (by omega)]; decide
  have n0 : 0 < l := by omega
  obtain ⟨C, hC⟩ : ∃ C, C = zs.take l := ⟨_, rfl⟩
  have cat : ∀ i, i < l → zs.getD i 0 = C.getD i 0 := fun i hi => by rw [hC, getD_take hi]
  have eb : (Try.prog.types[3]).bytes = 8 := by kernel_rfl
  rw [← hC] at hcb
  have ok := fdRun_ok (c := C) n0 hcb
  repeat' ((conv => whnf); first | (refine And.intro ⟨rfl, rfl⟩ ?_) | (refine And.intro rfl ?_) | (refine ask_true hr ?_) | (refine And.intro ⟨by omega, by omega, by omega, by rw [eb]; omega⟩ ?_) | fail)
  conv => whnf
  rw [← hC]
  refine loop_at2 (11 :: 12 :: List.range' 25 41) (fun m (j : Int) (s : Fd) => 0 ≤ j ∧ j ≤ k ∧ s = fdRun C l j.toNat ∧ m = (k - j).toNat) (fun j _ => [(25, vi j)]) (fun _ s => fdH zs l s) k 0 ⟨0, 0, List.replicate l 0⟩ ⟨by decide, by omega, rfl, by omega⟩ ?_ ?_
  · exact ⟨rfl, ⟨⟨Nat.le_of_ble_eq_true rfl, rfl⟩, trivial⟩, ⟨rfl, rfl, rfl, rfl, rfl, rfl, trivial⟩, rfl, rfl, Nat.le_of_ble_eq_true rfl⟩
  · rintro m j s ⟨j0, j1, hs, rfl⟩
    rcases Int.lt_or_le j k with j2 | j2
    · have so := ok j.toNat (by omega)
      rw [← hs, Int.toNat_of_nonneg j0] at so
      have hj8 : 0 ≤ j ∧ j < 8 := by omega
      conv => whnf
      refine ask_true (by omega) ?_
      conv => whnf
      refine loop_at2 (11 :: 12 :: List.range' 29 20) (fun m (i b : Int) => 0 ≤ i ∧ i ≤ l ∧ b = (bestF C s i.toNat : Nat) ∧ m = (l - i).toNat) (fun i b => [(11, vi b), (29, vi i)]) (fun _ _ => fdH zs l s) l 0 0 ⟨by decide, by omega, rfl, by omega⟩ ?_ ?_
      · exact ⟨rfl, ⟨⟨Nat.le_of_ble_eq_true rfl, rfl⟩, ⟨Nat.le_of_ble_eq_true rfl, rfl⟩, trivial⟩, ⟨rfl, rfl, rfl, rfl, rfl, rfl, trivial⟩, rfl, rfl, Nat.le_of_ble_eq_true rfl⟩
      · rintro m i b ⟨i0, i1, hb, rfl⟩
        have blt : 0 ≤ b ∧ b < l := by
          rcases Nat.eq_zero_or_pos i.toNat with h | h
          · rw [h] at hb
            have hb : b = 0 := hb
            omega
          · have := bestF_lt C s i.toNat h
            omega
        have bt : b.toNat = bestF C s i.toNat := by omega
        have em : ∀ i : Int, mulN i.toNat (Try.prog.types[3]).size = i.toNat := fun i => mulN1 _
        have ei := em i
        have eb' := em b
        have xb : zs.getD (0 + mulN b.toNat (Try.prog.types[3]).size) 0 = C.getD b.toNat 0 := by rw [em, Nat.zero_add]; exact cat _ (by omega)
        have cb := hcb b.toNat
        have cbb := abs_le cb
        rw [← xb] at cb cbb
        have yb : s.y.getD (0 + mulN b.toNat (Try.prog.types[3]).size) 0 = s.y.getD b.toNat 0 := by rw [em, Nat.zero_add]
        have Tb : (s.a + absI (zs.getD (0 + mulN b.toNat (Try.prog.types[3]).size) 0)) * (s.a + absI (zs.getD (0 + mulN b.toNat (Try.prog.types[3]).size) 0)) = topF C s b.toNat := by rw [xb]; rfl
        have Bb : s.q + (2 : Int) * s.y.getD (0 + mulN b.toNat (Try.prog.types[3]).size) 0 + 1 = botF s b.toNat := by rw [yb]; rfl
        have tb := top_bound so hj8 hcb b.toNat
        have bb := bot_bound so hj8 b.toNat
        rw [← Tb] at tb
        rw [← Bb] at bb
        have ybb := so.y b.toNat
        rw [← yb] at ybb
        have sa := so.a
        have sq := so.q
        have slen := so.len
        rcases Int.lt_or_le i l with i2 | i2
        · have xi : zs.getD (0 + mulN i.toNat (Try.prog.types[3]).size) 0 = C.getD i.toNat 0 := by rw [em, Nat.zero_add]; exact cat _ (by omega)
          have ci := hcb i.toNat
          have cib := abs_le ci
          rw [← xi] at ci cib
          have yi : s.y.getD (0 + mulN i.toNat (Try.prog.types[3]).size) 0 = s.y.getD i.toNat 0 := by rw [em, Nat.zero_add]
          have Ti : (s.a + absI (zs.getD (0 + mulN i.toNat (Try.prog.types[3]).size) 0)) * (s.a + absI (zs.getD (0 + mulN i.toNat (Try.prog.types[3]).size) 0)) = topF C s i.toNat := by rw [xi]; rfl
          have Bi : s.q + (2 : Int) * s.y.getD (0 + mulN i.toNat (Try.prog.types[3]).size) 0 + 1 = botF s i.toNat := by rw [yi]; rfl
          have ti := top_bound so hj8 hcb i.toNat
          have bi := bot_bound so hj8 i.toNat
          rw [← Ti] at ti
          rw [← Bi] at bi
          have ybi := so.y i.toNat
          rw [← yi] at ybi
          have p1 := mul_bound ti.1 ti.2 (by omega : (0 : Int) ≤ s.q + (2 : Int) * s.y.getD (0 + mulN b.toNat (Try.prog.types[3]).size) 0 + 1) bb.2
          have p2 := mul_bound tb.1 tb.2 (by omega : (0 : Int) ≤ s.q + (2 : Int) * s.y.getD (0 + mulN i.toNat (Try.prog.types[3]).size) 0 + 1) bi.2
          repeat' ((conv => whnf); first | (refine ask_true (by omega) ?_) | (refine And.intro (by omega) ?_) | (refine fun (_ : InK _ _) => ?_) | (refine ask_wrap64 (by omega) (by omega) ?_) | (refine ⟨by kernel_rfl, ?_⟩) | fail)
          conv => whnf
          refine ask_split (fun hg => ?_) (fun hg => ?_)
          · repeat' ((conv => whnf); first | (refine ask_wrap64 (by omega) (by omega) ?_) | fail)
            conv => whnf
            refine ⟨(l - (i + 1)).toNat, (i + 1, i), by omega, ⟨by show 0 ≤ i + 1; omega, by show i + 1 ≤ (l : Int); omega, ?_, rfl⟩, rfl, ⟨⟨Nat.le_of_ble_eq_true rfl, rfl⟩, ⟨Nat.le_of_ble_eq_true rfl, rfl⟩, trivial⟩, ⟨rfl, rfl, rfl, rfl, rfl, rfl, trivial⟩, rfl, rfl, Nat.le_of_ble_eq_true rfl⟩
            show i = ((bestF C s (i + 1).toNat : Nat) : Int)
            rw [Ti, Bb, Tb, Bi, bt] at hg
            rw [show (i + 1).toNat = i.toNat + 1 by omega]
            show i = ((if topF C s i.toNat * botF s (bestF C s i.toNat) > topF C s (bestF C s i.toNat) * botF s i.toNat then i.toNat else bestF C s i.toNat : Nat) : Int)
            rw [if_pos hg]; omega
          · repeat' ((conv => whnf); first | (refine ask_wrap64 (by omega) (by omega) ?_) | fail)
            conv => whnf
            refine ⟨(l - (i + 1)).toNat, (i + 1, b), by omega, ⟨by show 0 ≤ i + 1; omega, by show i + 1 ≤ (l : Int); omega, ?_, rfl⟩, rfl, ⟨⟨Nat.le_of_ble_eq_true rfl, rfl⟩, ⟨Nat.le_of_ble_eq_true rfl, rfl⟩, trivial⟩, ⟨rfl, rfl, rfl, rfl, rfl, rfl, trivial⟩, rfl, rfl, Nat.le_of_ble_eq_true rfl⟩
            show b = ((bestF C s (i + 1).toNat : Nat) : Int)
            rw [Ti, Bb, Tb, Bi, bt] at hg
            rw [show (i + 1).toNat = i.toNat + 1 by omega]
            show b = ((if topF C s i.toNat * botF s (bestF C s i.toNat) > topF C s (bestF C s i.toNat) * botF s i.toNat then i.toNat else bestF C s i.toNat : Nat) : Int)
            rw [if_neg hg]; omega
        · repeat' ((conv => whnf); first | (refine ask_true (by omega) ?_) | (refine ask_false (by omega) ?_) | (refine And.intro (by omega) ?_) | (refine fun (_ : InK _ _) => ?_) | (refine ask_wrap64 (by omega) (by omega) ?_) | (refine ⟨by kernel_rfl, ?_⟩) | fail)
          conv => whnf
          have il : i.toNat = l := by omega
          rw [il] at bt
          refine ⟨(k - (j + 1)).toNat, (j + 1, ⟨s.a + absI (zs.getD (0 + mulN b.toNat (Try.prog.types[3]).size) 0), s.q + (2 : Int) * s.y.getD (0 + mulN b.toNat (Try.prog.types[3]).size) 0 + 1, s.y.set (0 + mulN b.toNat (Try.prog.types[3]).size) (s.y.getD (0 + mulN b.toNat (Try.prog.types[3]).size) 0 + 1)⟩), by omega, ⟨by show 0 ≤ j + 1; omega, by show j + 1 ≤ (k : Int); omega, ?_, rfl⟩, rfl, ⟨⟨Nat.le_of_ble_eq_true rfl, rfl⟩, trivial⟩, ⟨rfl, rfl, rfl, rfl, rfl, rfl, trivial⟩, rfl, rfl, Nat.le_of_ble_eq_true rfl⟩
          show _ = fdRun C l (j + 1).toNat
          rw [show (j + 1).toNat = j.toNat + 1 by omega]
          show _ = stepF C l (fdRun C l j.toNat)
          rw [← hs, xb, yb, em, Nat.zero_add, bt]
          rfl
    · have jk : j.toNat = k := by omega
      rw [jk] at hs
      have so := ok k (by omega)
      rw [← hs] at so
      have slen := so.len
      repeat' ((conv => whnf); first | (refine ask_true (by omega) ?_) | (refine ask_false (by omega) ?_) | fail)
      conv => whnf
      refine loop_at (13 :: 14 :: List.range' 68 16) (fun m (i : Int) => 0 ≤ i ∧ i ≤ l ∧ m = (l - i).toNat) (fun i => [(68, vi i)]) (fun i => [.ro [.ints .i64 zs.length zs], .own 22 [.one (.csl 0 0 0 l zs.length)], .own 3 [.ints .i64 l (stg (signF C s.y l) s.y i)], .own 22 [.one (.csl 2 0 0 l l)], .own 3 [.one (.ci .i64 s.a)], .own 3 [.one (.ci .i64 s.q)]]) l 0 ⟨by decide, by omega, by omega⟩ ?_ ?_
      · rw [stg_zero]
        exact ⟨rfl, ⟨⟨Nat.le_of_ble_eq_true rfl, rfl⟩, trivial⟩, ⟨rfl, rfl, rfl, rfl, rfl, rfl, trivial⟩, rfl, rfl, Nat.le_of_ble_eq_true rfl⟩
      · rintro m i ⟨i0, i1, rfl⟩
        have em : mulN i.toNat (Try.prog.types[3]).size = i.toNat := mulN1 _
        rcases Int.lt_or_le i l with i2 | i2
        · have xi : zs.getD (0 + mulN i.toNat (Try.prog.types[3]).size) 0 = C.getD i.toNat 0 := by rw [em, Nat.zero_add]; exact cat _ (by omega)
          have yi := so.y i.toNat
          have zi : (stg (signF C s.y l) s.y i).getD (0 + mulN i.toNat (Try.prog.types[3]).size) 0 = s.y.getD i.toNat 0 := by
            rw [em, Nat.zero_add]
            exact stg_at rfl (by rw [signF_len]; exact slen.symm) i0 (by rw [slen]; omega)
          rw [← zi] at yi
          have sg : (signF C s.y l).getD i.toNat 0 = if C.getD i.toNat 0 < 0 then 0 - s.y.getD i.toNat 0 else s.y.getD i.toNat 0 := getD_range (by omega)
          repeat' ((conv => whnf); first | (refine ask_true (by omega) ?_) | (refine And.intro (by omega) ?_) | (refine fun (_ : InK _ _) => ?_) | (refine ⟨by kernel_rfl, ?_⟩) | fail)
          conv => whnf
          refine ask_split (fun hg => ?_) (fun hg => ?_)
          · repeat' ((conv => whnf); first | (refine ask_true (by omega) ?_) | (refine And.intro (by omega) ?_) | (refine fun (_ : InK _ _) => ?_) | (refine ask_wrap64 (by omega) (by omega) ?_) | (refine ⟨by kernel_rfl, ?_⟩) | fail)
            conv => whnf
            refine ⟨(l - (i + 1)).toNat, i + 1, by omega, ⟨by omega, by omega, rfl⟩, rfl, ⟨⟨Nat.le_of_ble_eq_true rfl, rfl⟩, trivial⟩, ⟨rfl, rfl, ?_, rfl, rfl, rfl, trivial⟩, rfl, rfl, Nat.le_of_ble_eq_true rfl⟩
            refine congrArg (fun ys => Blk.own 3 [.ints .i64 l ys]) (Eq.symm ?_)
            rw [xi] at hg
            refine stg_set (by omega) (by rw [signF_len]; exact slen.symm) i0 (by rw [signF_len]; exact i2) ?_
            rw [sg, if_pos hg, zi]
            first | done | omega
          · repeat' ((conv => whnf); first | (refine ask_wrap64 (by omega) (by omega) ?_) | fail)
            conv => whnf
            refine ⟨(l - (i + 1)).toNat, i + 1, by omega, ⟨by omega, by omega, rfl⟩, rfl, ⟨⟨Nat.le_of_ble_eq_true rfl, rfl⟩, trivial⟩, ⟨rfl, rfl, ?_, rfl, rfl, rfl, trivial⟩, rfl, rfl, Nat.le_of_ble_eq_true rfl⟩
            refine congrArg (fun ys => Blk.own 3 [.ints .i64 l ys]) (Eq.symm ?_)
            rw [xi] at hg
            have e := stg_set (zs := signF C s.y l) (xs := s.y) (i := i) rfl (by rw [signF_len]; exact slen.symm) i0 (by rw [signF_len]; exact i2) rfl
            rw [set_same] at e
            · exact e
            · rw [stg_at rfl (by rw [signF_len]; exact slen.symm) i0 (by rw [slen]; exact i2), sg, if_neg hg]
        · repeat' ((conv => whnf); first | (refine ask_true (by omega) ?_) | (refine ask_false (by omega) ?_) | fail)
          conv => whnf
          have il : i = l := by omega
          have e : stg (signF C s.y l) s.y i = findZ C l k := by
            rw [stg_all (by rw [signF_len]; exact slen.symm) (by rw [signF_len]; exact il), hs]; rfl
          have fl : (findZ C l k).length = l := signF_len _ _ _
          rw [e]
          show Made (foundP (findZ C l k)) _ _
          refine made_of (.tup [.c (.csl 0 0 0 l l), i64 0]) [.own 3 [.ints .i64 l (findZ C l k)]] (fun _ => 2) ⟨by rw [fl], by rw [fl]⟩ rfl (And.intro rfl trivial) (fun p q hp hq _ => by have hp' : p < 1 := hp; have hq' : q < 1 := hq; omega) rfl rfl (by intro e; cases e)
end Go.Proofs.Ytmkdamfdlkpjdaa
