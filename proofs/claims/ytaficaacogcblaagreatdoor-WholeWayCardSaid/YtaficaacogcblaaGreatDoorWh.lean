/- Small numbers as cells: the iterator over all cells, the cell of a number, whose cell a place lies in. -/
import Derived.RangeFuncNested
import Derived.RangeFuncBound
import Derived.RangeFuncCalls
import Derived.RangeFuncLeaves
import Derived.Shelf.Abstract
import Derived.Shelf.RegionOpen
import Derived.WalkKit
import Derived.OwnWalkIn
import Derived.TacticsInMore
import Derived.LoopNIn
import Derived.LoopIn
import Derived.Test.YtaficaacogcblaaGreatDoorXs
set_option linter.all false
namespace Go.Proofs.YtaficaacogcblaaGreatDoor
namespace P
open Go.RowKit Go.Shelf
set_option maxRecDepth 100000
set_option maxHeartbeats 16000000

/-! ### widths -/
def widS (k : Int) : Int := max ((5000 : Int).fdiv (2 ^ (min (k - 1).toNat 64))) 8
def widN (n : Nat) : Int := widS ((n : Int) + 1)
theorem widN_in : ∀ n : Fin 24, 8 ≤ widN n.1 ∧ widN n.1 ≤ 5000 := by decide
theorem widS_in {k : Int} (h1 : 1 ≤ k) (h2 : k ≤ 24) : 8 ≤ widS k ∧ widS k ≤ 5000 := by
  have := widN_in ⟨(k - 1).toNat, by omega⟩
  unfold widN at this
  rwa [show (((k - 1).toNat : Nat) : Int) + 1 = k by omega] at this
theorem width_walk {k : Int} (h1 : 1 ≤ k) (h2 : k ≤ 24) : walk F0 0 Tryz.f171 [i64 k] [] fun y _ => y = vi (widS k) := by
  conv => whnf
  refine ask_wrap64 (by omega) (by omega) ?_
  conv => whnf
  refine And.intro (by omega) fun r hr => ?_
  conv => whnf
  rw [hr]
  rfl
def ctW : Ct := ct1 (fun k => 1 ≤ k ∧ k ≤ 24) widS
theorem width_ct : CtOk Tryz.prog 171 ctW := ct1_ok F0_ok Tryz.func171 (fun k _ h => by
  have := widS_in h.1 h.2
  simp only [InK, lowK, highK]; omega) fun k _ h => width_walk h.1 h.2
noncomputable def FZ : Fns := F0.plus 171 ctW
theorem FZ_ok : FnsOk Tryz.prog FZ := F0_ok.plus width_ct Tryz.func171 (by kernel_rfl) (by kernel_rfl)
/-- What is left of the total behind n numbers and their negatives. -/
def zN : Nat → Int
  | 0 => 32768
  | n + 1 => zN n - 2 * widN n
theorem zN_in : ∀ n : Fin 25, 0 ≤ zN n.1 ∧ zN n.1 ≤ 32768 := by decide
theorem zero_walk : walk FZ 0 Tryz.f170 [] [] fun y _ => y = vi 12568 := by
  conv => whnf
  refine loop_at (List.range' 1 12) (fun m (n : Nat) => n ≤ 24 ∧ m = 24 - n) (fun n => [(1, vi (zN n)), (3, vi (n : Int))]) (fun _ => []) 24 (0 : Nat) ⟨by omega, rfl⟩ ?_ ?_
  · exact ⟨rfl, ⟨⟨Nat.le_of_ble_eq_true rfl, rfl⟩, ⟨Nat.le_of_ble_eq_true rfl, rfl⟩, trivial⟩, trivial, rfl, rfl, Nat.le_refl _⟩
  · rintro m n ⟨h1, rfl⟩
    have z0 := zN_in ⟨n, by omega⟩
    rcases Nat.lt_or_ge n 24 with g | g
    · have z1 := zN_in ⟨n + 1, by omega⟩
      have w0 := widN_in ⟨n, g⟩
      have e1 : zN (n + 1) = zN n - 2 * widN n := rfl
      have e2 : widS ((n : Int) + 1) = widN n := rfl
      simp only at z0 z1 w0
      repeat' ((conv => whnf); first | (refine ask_wrap64 (by omega) (by omega) ?_) | (refine ask_true (by omega) ?_) | (refine ask_false (by omega) ?_) | (refine And.intro (And.intro (by omega) (by omega)) ?_) | fail)
      refine ⟨24 - (n + 1), n + 1, by omega, ⟨by omega, rfl⟩, rfl, ⟨⟨Nat.le_of_ble_eq_true rfl, rfl⟩, ⟨Nat.le_of_ble_eq_true rfl, rfl⟩, trivial⟩, trivial, rfl, rfl, Nat.le_refl _⟩
    · obtain rfl : n = 24 := by omega
      repeat' ((conv => whnf); first | (refine ask_false (by omega) ?_) | fail)
      rfl
theorem zero_ct : CtOk Tryz.prog 170 (ct0 (vi 12568)) := ct0_ok FZ_ok Tryz.func170 ⟨by simp only [V.rng, W.rng, C.rng, InK, lowK, highK]; omega, rfl⟩ zero_walk

/-! ### the iterator -/
structure CL where
  v : Int
  s : Int
  w : Int
  deriving DecidableEq
def atN : Nat → Int
  | 0 => 12568
  | n + 1 => atN n + 2 * widN n
theorem atN_in : ∀ n : Fin 25, 12568 ≤ atN n.1 ∧ atN n.1 ≤ 32768 := by decide
def cellsU : Nat → List CL
  | 0 => [⟨0, 0, 12568⟩]
  | n + 1 => cellsU n ++ [⟨(n : Int) + 1, atN n, widN n⟩, ⟨-((n : Int) + 1), atN n + widN n, widN n⟩]
theorem cellsU_len : ∀ n, (cellsU n).length = 2 * n + 1
  | 0 => rfl
  | n + 1 => by rw [cellsU, List.length_append, cellsU_len n]; simp; omega
theorem cellsU_pre : ∀ (m n : Nat), cellsU n <+: cellsU (n + m)
  | 0, n => List.prefix_refl _
  | m + 1, n => (cellsU_pre m n).trans ⟨_, rfl⟩
theorem cellsU_up (m : Nat) (h : m ≤ 24) : cellsU m <+: cellsU 24 := by
  have := cellsU_pre (24 - m) m
  rwa [show m + (24 - m) = 24 by omega] at this
theorem cellsU_half (m : Nat) (h : m < 24) : cellsU m ++ [⟨(m : Int) + 1, atN m, widN m⟩] <+: cellsU 24 :=
  List.IsPrefix.trans ⟨[⟨-((m : Int) + 1), atN m + widN m, widN m⟩], by simp [cellsU]⟩ (cellsU_up (m + 1) h)
def CL.enc (c : CL) : Value := .agg #[.int .i64 c.v, .int .i64 c.s, .int .i64 c.w]
theorem grown_of {w w' : World} (h : Below w.heap.size w w') : w.grownBy w' none := ⟨h.os, h.tape, h.output, h.size, fun k hk _ => h.block k hk⟩
theorem zero_calls (w : World) : Calls Tryz.prog 170 #[] w fun e w' => e = .returned (.int .i64 12568) ∧ Below w.heap.size w w' := by
  obtain ⟨x, h1, h2, h3⟩ := zero_ct [] (fun x => x = vi 12568) rfl trivial
  refine (h3 (fun _ => (0, 0)) w).mono ?_
  rintro e w' ⟨v, rfl, h4, h5⟩
  subst h1
  exact ⟨by rw [show v = _ from h4]; rfl, h5⟩
theorem width_calls {k : Int} (h1 : 1 ≤ k) (h2 : k ≤ 24) (w : World) : Calls Tryz.prog 171 #[.int .i64 k] w fun e w' => e = .returned (.int .i64 (widS k)) ∧ Below w.heap.size w w' := by
  obtain ⟨x, g1, g2, g3⟩ := width_ct [i64 k] (fun x => x = vi (widS k)) ⟨⟨h1, h2⟩, rfl⟩ ⟨by simp only [W.rng, C.rng, InK, lowK, highK]; omega, trivial⟩
  refine (g3 (fun _ => (0, 0)) w).mono ?_
  rintro e w' ⟨v, rfl, h4, h5⟩
  subst g1
  exact ⟨by rw [show v = _ from h4]; rfl, h5⟩
theorem cells_stops (n : Nat) (hn : 1 ≤ n) (w : World) :
    SeqStopsK Fence.wide n Tryz.prog 169 #[] (fun c : CL => #[c.enc]) (fun _ _ => True) (fun xs => xs = cellsU 24) (fun pre => pre <+: cellsU 24) 49 w := fun l J Jx W hW hJ hJx hY h0 => by
  refine callsIn_of_wp Tryz.func169 rfl trivial ?_ rfl
  simp only [Tryz.ntmps169, List.size_toArray, List.length_cons, List.length_nil, Nat.reduceAdd, Nat.reduceSub, Array.replicate_succ, Array.replicate_zero, List.push_toArray, List.append_toArray, List.nil_append, List.cons_append]
  gi_wp2_with (refine ⟨trivial, ?_⟩; gi_at_call 170; refine (callsIn_wide.2 (zero_calls _)).mono ?_; rintro e w1 ⟨rfl, hb⟩; have hJ1 : J [] w1 := hJ _ _ _ none h0 (grown_of hb) (fun r e => by cases e); obtain ⟨f1, t1, a1, b1, hy1, hR1⟩ := hY [] ⟨0, 0, 12568⟩ w1 hJ1 (by simp); dsimp only [CL.enc] at hy1; have hs1 : W.heap.size ≤ w1.heap.size := hb.size)
  refine hR1.mono ?_
  rintro e w2 (⟨rfl, hJ2, _⟩ | ⟨rfl, hJx2⟩)
  case inr =>
    gi_wp2
    refine bodyPost_ret (results_none rfl _ _ _) rfl ?_
    exact ⟨⟨_, rfl⟩, .inr ⟨[⟨0, 0, 12568⟩], cellsU_pre 24 0, hJx2⟩⟩
  gi_wp2
  gi_loopw [2, 3] (fun at' k wr => ∃ m : Nat, m ≤ 24 ∧ at' = .int .i64 (atN m) ∧ k = .int .i64 ((m : Int) + 1) ∧ J (cellsU m) wr) (fun _ k _ => 25 - (intOf k).toNat)
  case atStart =>
    exact ⟨0, by omega, rfl, rfl, hJ2⟩
  case round =>
    obtain ⟨m, hm, rfl, rfl, hJs⟩ := hrel
    have hmm : (m : Int) ≤ 24 := by omega
    rcases Nat.lt_or_ge m 24 with g | g
    · have hg : ((m : Int) + 1) ≤ 24 := by omega
      have hlen := cellsU_len m
      have hat : 12568 ≤ atN m ∧ atN m ≤ 32768 := atN_in ⟨m, by omega⟩
      have hwd := widS_in (k := (m : Int) + 1) (by omega) (by omega)
      gi_wp2_with (refine ⟨trivial, ?_⟩; gi_at_call 171; refine (callsIn_wide.2 (width_calls (by omega) (by omega) _)).mono ?_; rintro e w3 ⟨rfl, hb3⟩; have hJ3 : J (cellsU m) w3 := hJ _ _ _ none hJs (grown_of hb3) (fun r e => by cases e); obtain ⟨f3, t3, a3, b3, hy3, hR3⟩ := hY (cellsU m) ⟨(m : Int) + 1, atN m, widS ((m : Int) + 1)⟩ w3 hJ3 (by omega); dsimp only [CL.enc] at hy3)
      refine hR3.mono ?_
      rintro e w4 (⟨rfl, hJ4, _⟩ | ⟨rfl, hJx4⟩)
      case inr =>
        gi_wp2
        refine And.intro (by simp) ?_
        gi_wp2
        refine bodyPost_ret (results_none rfl _ _ _) rfl ?_
        exact ⟨⟨_, rfl⟩, .inr ⟨_, cellsU_half m g, hJx4⟩⟩
      obtain ⟨f5, t5, a5, b5, hy5, hR5⟩ := hY _ ⟨-((m : Int) + 1), atN m + widS ((m : Int) + 1), widS ((m : Int) + 1)⟩ w4 hJ4 (by rw [List.length_append]; simp; omega)
      dsimp only [CL.enc] at hy5
      gi_wp2
      refine hR5.mono ?_
      have hl2 : cellsU m ++ [⟨(m : Int) + 1, atN m, widS ((m : Int) + 1)⟩] ++ [⟨-((m : Int) + 1), atN m + widS ((m : Int) + 1), widS ((m : Int) + 1)⟩] = cellsU (m + 1) := by
        rw [cellsU, List.append_assoc]; rfl
      rintro e w6 (⟨rfl, hJ6, _⟩ | ⟨rfl, hJx6⟩)
      case inr =>
        gi_wp2
        refine bodyPost_ret (results_none rfl _ _ _) rfl ?_
        rw [hl2] at hJx6
        exact ⟨⟨_, rfl⟩, .inr ⟨_, cellsU_up (m + 1) g, hJx6⟩⟩
      rw [hl2] at hJ6
      gi_wp2
      go_roundw
      case rel => exact ⟨m + 1, by omega, by rw [atN]; rfl, by simp, hJ6⟩
      case measure => simp [intOf]; omega
    · obtain rfl : m = 24 := by omega
      gi_wp2
      go_end0
      exact ⟨⟨_, rfl⟩, .inl ⟨_, rfl, hJs⟩⟩
end P

/- Small numbers as cells: the cell of a number, whose cell a place lies in, as contracts. -/
namespace P
open Go.RowKit Go.Shelf
set_option maxRecDepth 100000
set_option maxHeartbeats 16000000
attribute [local go_sem] Oper.semAt_some

theorem cells_calls (n : Nat) (w : World) : CallsIn Fence.wide n Tryz.prog 149 #[] w fun e w' => e = .returned (.func (.func 169) #[] #[]) ∧ w' = w := by
  refine callsIn_of_wp Tryz.func149 rfl trivial ?_ rfl
  simp only [Tryz.ntmps149, List.size_toArray, List.length_nil, Nat.reduceAdd, Nat.reduceSub, Array.replicate_succ, Array.replicate_zero, List.push_toArray, List.append_toArray, List.nil_append, List.cons_append]
  gi_wp2
  go_ret
  exact ⟨rfl, rfl⟩

def Box3 (W : World) (B : Nat) (c : CL) : Prop := W.cell? ⟨B, 0, none⟩ = some (.int .i64 c.v) ∧ W.cell? ⟨B, 1, none⟩ = some (.int .i64 c.s) ∧ W.cell? ⟨B, 2, none⟩ = some (.int .i64 c.w)
theorem box3_new (W : World) (c : CL) : Box3 (W.alloc (.cells #[.int .i64 c.v, .int .i64 c.s, .int .i64 c.w] 231)) W.heap.size c := by
  have h := World.alloc_heap_new W (.cells #[.int .i64 c.v, .int .i64 c.s, .int .i64 c.w] 231)
  refine ⟨?_, ?_, ?_⟩ <;> simp only [World.cell?, h] <;> rfl
theorem cell_calls (v : Int) (w : World) : Calls Tryz.prog 116 #[.int .i64 v] w fun e w' => Below w.heap.size w w' ∧
    ((∃ c, c ∈ cellsU 24 ∧ c.v = v ∧ e = .returned (.tuple #[.int .i64 c.s, .int .i64 c.w, .bool true])) ∨ ((∀ c ∈ cellsU 24, c.v ≠ v) ∧ e = .returned (.tuple #[.int .i64 0, .int .i64 0, .bool false]))) := by
  refine (callsIn_wide (n := 3)).1 ?_
  refine callsIn_of_wp_marks Tryz.func116 rfl trivial ?_ rfl
  simp only [Tryz.ntmps116, List.size_toArray, List.length_nil, List.length_cons, Nat.reduceAdd, Nat.reduceSub, Array.replicate_succ, Array.replicate_zero, List.push_toArray, List.append_toArray, List.nil_append, List.cons_append]
  gi_wp2_with (refine ⟨trivial, ?_⟩; gi_at_call 149; refine (cells_calls _ _).mono ?_; rintro e w' ⟨rfl, rfl⟩)
  have bV := (((Boxed.new w 3 (.int .i64 v)).alloc (.cells #[.int .i64 0] 3)).alloc (.cells #[.int .i64 0] 3)).alloc (.cells #[.bool false] 4)
  have bS := ((Boxed.new (w.alloc (.cells #[.int .i64 v] 3)) 3 (.int .i64 0)).alloc (.cells #[.int .i64 0] 3)).alloc (.cells #[.bool false] 4)
  have bW := (Boxed.new ((w.alloc (.cells #[.int .i64 v] 3)).alloc (.cells #[.int .i64 0] 3)) 3 (.int .i64 0)).alloc (.cells #[.bool false] 4)
  have bO := Boxed.new (((w.alloc (.cells #[.int .i64 v] 3)).alloc (.cells #[.int .i64 0] 3)).alloc (.cells #[.int .i64 0] 3)) 4 (.bool false)
  simp only [World.size_alloc] at bS bW bO
  have hB0 : Below w.heap.size w ((((w.alloc (.cells #[.int .i64 v] 3)).alloc (.cells #[.int .i64 0] 3)).alloc (.cells #[.int .i64 0] 3)).alloc (.cells #[.bool false] 4)) := ((((Below.refl _ w).alloc (Nat.le_refl _) _).alloc (by simp) _).alloc (by simp; omega) _).alloc (by simp; omega) _
  have hsz : ((((w.alloc (.cells #[.int .i64 v] 3)).alloc (.cells #[.int .i64 0] 3)).alloc (.cells #[.int .i64 0] 3)).alloc (.cells #[.bool false] 4)).heap.size = w.heap.size + 4 := by simp
  obtain ⟨W0, hW0⟩ : ∃ W0, (((w.alloc (.cells #[.int .i64 v] 3)).alloc (.cells #[.int .i64 0] 3)).alloc (.cells #[.int .i64 0] 3)).alloc (.cells #[.bool false] 4) = W0 := ⟨_, rfl⟩
  rw [hW0] at bV bS bW bO hB0 hsz ⊢
  clear hW0
  refine wpIn_rangeFunc_ownH rfl (by omega) (gf := 169) (lb := #[]) rfl trivial (enters_of Tryz.func169 (by kernel_rfl) rfl)
    (cells_stops (3 - 1) (by omega) W0) (fun _ _ => trivial) (fun _ _ _ _ _ _ _ _ => trivial) (Below.refl _ _) (fun _ => rfl)
    (fun pre W => ((((Boxed W w.heap.size 3 (.int .i64 v) ∧ Boxed W (w.heap.size + 1) 3 (.int .i64 0)) ∧ Boxed W (w.heap.size + 1 + 1) 3 (.int .i64 0)) ∧ Boxed W (w.heap.size + 1 + 1 + 1) 4 (.bool false)) ∧ (∀ c ∈ pre, c.v ≠ v)) ∧ Below w.heap.size w W)
    (fun q pre W => (q = .ret ∧ ∃ c, c ∈ pre ∧ c.v = v ∧ (Boxed W (w.heap.size + 1) 3 (.int .i64 c.s) ∧ Boxed W (w.heap.size + 1 + 1) 3 (.int .i64 c.w)) ∧ Boxed W (w.heap.size + 1 + 1 + 1) 4 (.bool true)) ∧ Below w.heap.size w W)
    (OwnFrom.and (OwnFrom.and (OwnFrom.and (OwnFrom.and (OwnFrom.and (Own.from (boxed_own _ _ _) _) (Own.from (boxed_own _ _ _) _)) (Own.from (boxed_own _ _ _) _)) (Own.from (boxed_own _ _ _) _)) (ownFrom_pure _ _)) (ownFrom_below (Nat.le_refl _) (by omega)))
    (fun q => OwnFrom.and (fun s X Y row hs hg hr => by
      obtain ⟨h0, c, h1, h2, ⟨h3, h4⟩, h5⟩ := hs
      exact ⟨h0, c, h1, h2, ⟨boxed_own _ 3 (fun (_ : Unit) => Value.int .i64 c.s) () X Y row h3 hg (fun r e => (hr r e).2), boxed_own _ 3 (fun (_ : Unit) => Value.int .i64 c.w) () X Y row h4 hg (fun r e => (hr r e).2)⟩, boxed_own _ 4 (fun (_ : Unit) => Value.bool true) () X Y row h5 hg (fun r e => (hr r e).2)⟩) (ownFrom_below (Nat.le_refl _) (by omega)))
    ⟨⟨⟨⟨⟨bV, bS⟩, bW⟩, bO⟩, fun c hc => by cases hc⟩, hB0⟩
    (fun x a' W => ∃ Bx, w.heap.size + 4 ≤ Bx ∧ Box3 W Bx x ∧ a' = { tmps := #[.int .i64 v, .pointer (some ⟨w.heap.size, 0, none⟩), .pointer (some ⟨w.heap.size + 1, 0, none⟩), .pointer (some ⟨w.heap.size + 1 + 1, 0, none⟩), .pointer (some ⟨w.heap.size + 1 + 1 + 1, 0, none⟩), .pointer (some ⟨Bx, 0, none⟩), .func (.func 169) #[] #[], x.enc, undef, undef, undef, undef, undef, undef, undef, undef], defers := [] })
    (fun x a' _ X Y row hs hg hr => by
      obtain ⟨Bx, h1, ⟨h2, h3, h4⟩, h5⟩ := hs
      exact ⟨Bx, h1, ⟨cell_kept h2 hg (fun r e => (hr r e).2), cell_kept h3 hg (fun r e => (hr r e).2), cell_kept h4 hg (fun r e => (hr r e).2)⟩, h5⟩)
    ?assign ?body ?done ?stop
  case assign =>
    rintro l pre x W K ⟨⟨⟨⟨⟨bV1, bS1⟩, bW1⟩, bO1⟩, hp⟩, hB1⟩ hK
    dsimp only [CL.enc]
    gi_wp2
    exact hK _ _ ((KeepsOthers.alloc _ _).from _) trivial ⟨⟨⟨⟨⟨bV1.alloc _, bS1.alloc _⟩, bW1.alloc _⟩, bO1.alloc _⟩, hp⟩, hB1.alloc hB1.size _⟩ ⟨W.heap.size, bO1.lt, box3_new W x, rfl⟩
  case body =>
    rintro l pre x a' W hl hr ⟨⟨⟨⟨⟨bV1, bS1⟩, bW1⟩, bO1⟩, hp⟩, hB1⟩ ⟨Bx, hBx, ⟨x1, x2, x3⟩, rfl⟩ hlt
    have cV := bV1.cell
    have cS := bS1.cell
    have cW := bW1.cell
    have cO := bO1.cell
    have fS := bS1.frozen
    have fW := bW1.frozen
    have fO := bO1.frozen
    gi_wp2
    · have hmx := mixed
      gi_region_o
      all_goals gi_wp2
      all_goals
        have hxv : x.v = v := eq_of_beq (by assumption)
        refine ⟨(((KeepsOthers.setCell _ _ _).trans (KeepsOthers.setCell _ _ _)).trans (KeepsOthers.setCell _ _ _)).trans (KeepsOthers.drew _) |>.from _, ⟨rfl, x, by simp, hxv, ⟨?_, ?_⟩, ?_⟩, ?_⟩
        · exact ((bS1.set _).other (by omega) _).other (by omega) _
        · exact ((bW1.other (by omega) _).set _).other (by omega) _
        · exact ((bO1.other (by omega) _).other (by omega) _).set _
        · exact (((hB1.setCell (p := ⟨w.heap.size + 1, 0, none⟩) (by simp) _).setCell (p := ⟨w.heap.size + 1 + 1, 0, none⟩) (by simp; omega) _).setCell (p := ⟨w.heap.size + 1 + 1 + 1, 0, none⟩) (by simp; omega) _).drew
    · have hxv : x.v ≠ v := by rename_i hneg; intro e; rw [e] at hneg; simp at hneg
      exact ⟨KeepsFrom.refl _ _, trivial, ⟨⟨⟨⟨bV1, bS1⟩, bW1⟩, bO1⟩, fun c hc => by
        rcases List.mem_append.1 hc with h | h
        · exact hp c h
        · rw [List.mem_singleton.1 h]; exact hxv⟩, hB1⟩
  case done =>
    rintro D xs W hD rfl ⟨⟨⟨⟨⟨bV1, bS1⟩, bW1⟩, bO1⟩, hp⟩, hB1⟩ hK
    have cS := bS1.cell
    have cW := bW1.cell
    have cO := bO1.cell
    have fS := bS1.frozen
    have fW := bW1.frozen
    have fO := bO1.frozen
    gi_wp2
    refine ⟨by simp, .inl ⟨_, _, rfl, run_takeDeferred (((KeepsOthers.setCell _ _ _).trans (KeepsOthers.setCell _ _ _)).trans (KeepsOthers.setCell _ _ _) |>.same D _ hK rfl), ?_⟩⟩
    have k1 := ((((bS1.set (.int .i64 0)).other (B' := w.heap.size + 1 + 1) (by omega) (.int .i64 0)).other (B' := w.heap.size + 1 + 1 + 1) (by omega) (.bool false)).kept (grownBy_putObj' _ D (.deferred none)) (fun e => by injection e; omega)).cell
    have k2 := ((((bW1.other (B' := w.heap.size + 1) (by omega) (.int .i64 0)).set (.int .i64 0)).other (B' := w.heap.size + 1 + 1 + 1) (by omega) (.bool false)).kept (grownBy_putObj' _ D (.deferred none)) (fun e => by injection e; omega)).cell
    have k3 := ((((bO1.other (B' := w.heap.size + 1) (by omega) (.int .i64 0)).other (B' := w.heap.size + 1 + 1) (by omega) (.int .i64 0)).set (.bool false)).kept (grownBy_putObj' _ D (.deferred none)) (fun e => by injection e; omega)).cell
    have hB2 := (((hB1.setCell (p := ⟨w.heap.size + 1, 0, none⟩) (by simp) (.int .i64 0)).setCell (p := ⟨w.heap.size + 1 + 1, 0, none⟩) (by simp; omega) (.int .i64 0)).setCell (p := ⟨w.heap.size + 1 + 1 + 1, 0, none⟩) (by simp; omega) (.bool false))
    have hK2 := ((KeepsOthers.setCell W ⟨w.heap.size + 1, 0, none⟩ (.int .i64 0)).trans (KeepsOthers.setCell _ ⟨w.heap.size + 1 + 1, 0, none⟩ (.int .i64 0))).trans (KeepsOthers.setCell _ ⟨w.heap.size + 1 + 1 + 1, 0, none⟩ (.bool false)) |>.same D _ hK rfl
    exact ⟨.tuple #[.int .i64 0, .int .i64 0, .bool false], by simp [results, Tryz.f116, go_sem, k1, k2, k3], hB2.trans (belowK_b (w := w) (Nat.le_refl _) _ D _ _ (by omega) hK2 rfl rfl), .inr ⟨hp, rfl⟩⟩
  case stop =>
    rintro D q pre W hD hpre ⟨⟨rfl, c, h1, h2, ⟨bS1, bW1⟩, bO1⟩, hB1⟩ hK
    have cS := bS1.cell
    have cW := bW1.cell
    have cO := bO1.cell
    gi_wp2
    refine ⟨by simp, .inl ⟨_, _, rfl, run_takeDeferred hK, ?_⟩⟩
    have k1 := (bS1.kept (grownBy_putObj' _ D (.deferred none)) (fun e => by injection e; omega)).cell
    have k2 := (bW1.kept (grownBy_putObj' _ D (.deferred none)) (fun e => by injection e; omega)).cell
    have k3 := (bO1.kept (grownBy_putObj' _ D (.deferred none)) (fun e => by injection e; omega)).cell
    exact ⟨.tuple #[.int .i64 c.s, .int .i64 c.w, .bool true], by simp [results, Tryz.f116, go_sem, k1, k2, k3], hB1.trans (belowK_b (w := w) (Nat.le_refl _) _ D _ _ (by omega) hK rfl rfl), .inl ⟨c, hpre.subset h1, h2, rfl⟩⟩

theorem find_calls (v : Int) (w : World) : Calls Tryz.prog 115 #[.int .i64 v] w fun e w' => Below w.heap.size w w' ∧
    ((∃ c, c ∈ cellsU 24 ∧ (c.s ≤ v ∧ v < wrap64 (c.s + c.w)) ∧ e = .returned (.tuple #[.int .i64 c.v, .bool true])) ∨ ((∀ c ∈ cellsU 24, ¬ (c.s ≤ v ∧ v < wrap64 (c.s + c.w))) ∧ e = .returned (.tuple #[.int .i64 0, .bool false]))) := by
  refine (callsIn_wide (n := 3)).1 ?_
  refine callsIn_of_wp_marks Tryz.func115 rfl trivial ?_ rfl
  simp only [Tryz.ntmps115, List.size_toArray, List.length_nil, List.length_cons, Nat.reduceAdd, Nat.reduceSub, Array.replicate_succ, Array.replicate_zero, List.push_toArray, List.append_toArray, List.nil_append, List.cons_append]
  gi_wp2_with (refine ⟨trivial, ?_⟩; gi_at_call 149; refine (cells_calls _ _).mono ?_; rintro e w' ⟨rfl, rfl⟩)
  have bV := ((Boxed.new w 3 (.int .i64 v)).alloc (.cells #[.int .i64 0] 3)).alloc (.cells #[.bool false] 4)
  have bS := (Boxed.new (w.alloc (.cells #[.int .i64 v] 3)) 3 (.int .i64 0)).alloc (.cells #[.bool false] 4)
  have bO := Boxed.new ((w.alloc (.cells #[.int .i64 v] 3)).alloc (.cells #[.int .i64 0] 3)) 4 (.bool false)
  simp only [World.size_alloc] at bS bO
  have hB0 : Below w.heap.size w (((w.alloc (.cells #[.int .i64 v] 3)).alloc (.cells #[.int .i64 0] 3)).alloc (.cells #[.bool false] 4)) := (((Below.refl _ w).alloc (Nat.le_refl _) _).alloc (by simp) _).alloc (by simp; omega) _
  have hsz : (((w.alloc (.cells #[.int .i64 v] 3)).alloc (.cells #[.int .i64 0] 3)).alloc (.cells #[.bool false] 4)).heap.size = w.heap.size + 3 := by simp
  obtain ⟨W0, hW0⟩ : ∃ W0, ((w.alloc (.cells #[.int .i64 v] 3)).alloc (.cells #[.int .i64 0] 3)).alloc (.cells #[.bool false] 4) = W0 := ⟨_, rfl⟩
  rw [hW0] at bV bS bO hB0 hsz ⊢
  clear hW0
  refine wpIn_rangeFunc_ownH rfl (by omega) (gf := 169) (lb := #[]) rfl trivial (enters_of Tryz.func169 (by kernel_rfl) rfl)
    (cells_stops (3 - 1) (by omega) W0) (fun _ _ => trivial) (fun _ _ _ _ _ _ _ _ => trivial) (Below.refl _ _) (fun _ => rfl)
    (fun pre W => (((Boxed W w.heap.size 3 (.int .i64 v) ∧ Boxed W (w.heap.size + 1) 3 (.int .i64 0)) ∧ Boxed W (w.heap.size + 1 + 1) 4 (.bool false)) ∧ (∀ c ∈ pre, ¬ (c.s ≤ v ∧ v < wrap64 (c.s + c.w)))) ∧ Below w.heap.size w W)
    (fun q pre W => (q = .ret ∧ ∃ c, c ∈ pre ∧ (c.s ≤ v ∧ v < wrap64 (c.s + c.w)) ∧ Boxed W (w.heap.size + 1) 3 (.int .i64 c.v) ∧ Boxed W (w.heap.size + 1 + 1) 4 (.bool true)) ∧ Below w.heap.size w W)
    (OwnFrom.and (OwnFrom.and (OwnFrom.and (OwnFrom.and (Own.from (boxed_own _ _ _) _) (Own.from (boxed_own _ _ _) _)) (Own.from (boxed_own _ _ _) _)) (ownFrom_pure _ _)) (ownFrom_below (Nat.le_refl _) (by omega)))
    (fun q => OwnFrom.and (fun s X Y row hs hg hr => by
      obtain ⟨h0, c, h1, h2, h3, h5⟩ := hs
      exact ⟨h0, c, h1, h2, boxed_own _ 3 (fun (_ : Unit) => Value.int .i64 c.v) () X Y row h3 hg (fun r e => (hr r e).2), boxed_own _ 4 (fun (_ : Unit) => Value.bool true) () X Y row h5 hg (fun r e => (hr r e).2)⟩) (ownFrom_below (Nat.le_refl _) (by omega)))
    ⟨⟨⟨⟨bV, bS⟩, bO⟩, fun c hc => by cases hc⟩, hB0⟩
    (fun x a' W => ∃ Bx, w.heap.size + 3 ≤ Bx ∧ Box3 W Bx x ∧ a' = { tmps := #[.int .i64 v, .pointer (some ⟨w.heap.size, 0, none⟩), .pointer (some ⟨w.heap.size + 1, 0, none⟩), .pointer (some ⟨w.heap.size + 1 + 1, 0, none⟩), .pointer (some ⟨Bx, 0, none⟩), .func (.func 169) #[] #[], x.enc, undef, undef, undef, undef, undef, undef, undef, undef, undef, undef, undef, undef, undef, undef, undef], defers := [] })
    (fun x a' _ X Y row hs hg hr => by
      obtain ⟨Bx, h1, ⟨h2, h3, h4⟩, h5⟩ := hs
      exact ⟨Bx, h1, ⟨cell_kept h2 hg (fun r e => (hr r e).2), cell_kept h3 hg (fun r e => (hr r e).2), cell_kept h4 hg (fun r e => (hr r e).2)⟩, h5⟩)
    ?assign ?body ?done ?stop
  case assign =>
    rintro l pre x W K ⟨⟨⟨⟨bV1, bS1⟩, bO1⟩, hp⟩, hB1⟩ hK
    dsimp only [CL.enc]
    gi_wp2
    exact hK _ _ ((KeepsOthers.alloc _ _).from _) trivial ⟨⟨⟨⟨bV1.alloc _, bS1.alloc _⟩, bO1.alloc _⟩, hp⟩, hB1.alloc hB1.size _⟩ ⟨W.heap.size, bO1.lt, box3_new W x, rfl⟩
  case body =>
    rintro l pre x a' W hl hr ⟨⟨⟨⟨bV1, bS1⟩, bO1⟩, hp⟩, hB1⟩ ⟨Bx, hBx, ⟨x1, x2, x3⟩, rfl⟩ hlt
    have cV := bV1.cell
    have cS := bS1.cell
    have cO := bO1.cell
    have fS := bS1.frozen
    have fO := bO1.frozen
    gi_wp2
    · have h1 : x.s ≤ v := by assumption
      have h2 : v < wrap64 (x.s + x.w) := by assumption
      refine ⟨((KeepsOthers.setCell _ _ _).trans (KeepsOthers.setCell _ _ _)).from _, ⟨rfl, x, by simp, ⟨h1, h2⟩, ?_, ?_⟩, ?_⟩
      · exact (bS1.set _).other (by omega) _
      · exact (bO1.other (by omega) _).set _
      · exact (hB1.setCell (p := ⟨w.heap.size + 1, 0, none⟩) (by simp) _).setCell (p := ⟨w.heap.size + 1 + 1, 0, none⟩) (by simp; omega) _
    all_goals
      exact ⟨KeepsFrom.refl _ _, trivial, ⟨⟨⟨bV1, bS1⟩, bO1⟩, fun c hc => by
        rcases List.mem_append.1 hc with h | h
        · have := hp c h
          intro a
          omega
        · rw [List.mem_singleton.1 h]
          intro hh
          omega⟩, hB1⟩
  case done =>
    rintro D xs W hD rfl ⟨⟨⟨⟨bV1, bS1⟩, bO1⟩, hp⟩, hB1⟩ hK
    have cS := bS1.cell
    have cO := bO1.cell
    have fS := bS1.frozen
    have fO := bO1.frozen
    gi_wp2
    have hK2 := (KeepsOthers.setCell W ⟨w.heap.size + 1, 0, none⟩ (.int .i64 0)).trans (KeepsOthers.setCell _ ⟨w.heap.size + 1 + 1, 0, none⟩ (.bool false)) |>.same D _ hK rfl
    refine ⟨by simp, .inl ⟨_, _, rfl, run_takeDeferred hK2, ?_⟩⟩
    have k1 := (((bS1.set (.int .i64 0)).other (B' := w.heap.size + 1 + 1) (by omega) (.bool false)).kept (grownBy_putObj' _ D (.deferred none)) (fun e => by injection e; omega)).cell
    have k3 := (((bO1.other (B' := w.heap.size + 1) (by omega) (.int .i64 0)).set (.bool false)).kept (grownBy_putObj' _ D (.deferred none)) (fun e => by injection e; omega)).cell
    have hB2 := ((hB1.setCell (p := ⟨w.heap.size + 1, 0, none⟩) (by simp) (.int .i64 0)).setCell (p := ⟨w.heap.size + 1 + 1, 0, none⟩) (by simp; omega) (.bool false))
    exact ⟨.tuple #[.int .i64 0, .bool false], by simp [results, Tryz.f115, go_sem, k1, k3], hB2.trans (belowK_b (w := w) (Nat.le_refl _) _ D _ _ (by omega) hK2 rfl rfl), .inr ⟨hp, rfl⟩⟩
  case stop =>
    rintro D q pre W hD hpre ⟨⟨rfl, c, h1, h2, bS1, bO1⟩, hB1⟩ hK
    have cS := bS1.cell
    have cO := bO1.cell
    gi_wp2
    refine ⟨by simp, .inl ⟨_, _, rfl, run_takeDeferred hK, ?_⟩⟩
    have k1 := (bS1.kept (grownBy_putObj' _ D (.deferred none)) (fun e => by injection e; omega)).cell
    have k3 := (bO1.kept (grownBy_putObj' _ D (.deferred none)) (fun e => by injection e; omega)).cell
    exact ⟨.tuple #[.int .i64 c.v, .bool true], by simp [results, Tryz.f115, go_sem, k1, k3], hB1.trans (belowK_b (w := w) (Nat.le_refl _) _ D _ _ (by omega) hK rfl rfl), .inl ⟨c, hpre.subset h1, h2, rfl⟩⟩

/-! ### contracts -/
theorem cells_facts : ∀ c ∈ cellsU 24, (-24 ≤ c.v ∧ c.v ≤ 24) ∧ (0 ≤ c.s ∧ 1 ≤ c.w ∧ c.s + c.w ≤ 32768) := by decide
theorem cells_apart : ∀ c ∈ cellsU 24, ∀ d ∈ cellsU 24, c.v = d.v → c = d := by decide
theorem cells_one : ∀ c ∈ cellsU 24, ∀ d ∈ cellsU 24, c ≠ d → c.s + c.w ≤ d.s ∨ d.s + d.w ≤ c.s := by decide
theorem cells_each : ∀ v : Fin 49, ∃ c ∈ cellsU 24, c.v = (v.1 : Int) - 24 := by decide
end P

/- Small numbers as cells: contracts. -/
namespace P
open Go.RowKit Go.Shelf
set_option maxRecDepth 100000
set_option maxHeartbeats 16000000

theorem cover : ∀ (n : Nat), n ≤ 24 → ∀ p : Int, 0 ≤ p → p < atN n → ∃ c ∈ cellsU n, c.s ≤ p ∧ p < c.s + c.w
  | 0, _, p, h0, h1 => ⟨⟨0, 0, 12568⟩, by simp [cellsU], h0, by simpa [atN] using h1⟩
  | n + 1, hn, p, h0, h1 => by
    rcases Int.lt_or_le p (atN n) with g | g
    · obtain ⟨c, h2, h3⟩ := cover n (by omega) p h0 g
      exact ⟨c, List.mem_append_left _ h2, h3⟩
    · rw [atN] at h1
      rcases Int.lt_or_le p (atN n + widN n) with g2 | g2
      · exact ⟨⟨(n : Int) + 1, atN n, widN n⟩, by simp [cellsU], g, g2⟩
      · exact ⟨⟨-((n : Int) + 1), atN n + widN n, widN n⟩, by simp [cellsU], g2, by simp only; omega⟩
theorem at24 : atN 24 = 32768 := by decide
open Classical in
/-- The cell that a place lies in. -/
noncomputable def placeS (p : Int) : CL := if h : ∃ c ∈ cellsU 24, c.s ≤ p ∧ p < c.s + c.w then Classical.choose h else ⟨0, 0, 12568⟩
theorem placeS_spec {p : Int} (h0 : 0 ≤ p) (h1 : p < 32768) : placeS p ∈ cellsU 24 ∧ (placeS p).s ≤ p ∧ p < (placeS p).s + (placeS p).w := by
  have h := cover 24 (Nat.le_refl _) p h0 (by rw [at24]; exact h1)
  unfold placeS
  rw [dif_pos h]
  exact Classical.choose_spec h
theorem placeS_eq {p : Int} {c : CL} (hc : c ∈ cellsU 24) (h0 : c.s ≤ p) (h1 : p < c.s + c.w) : c = placeS p := by
  have f := cells_facts c hc
  obtain ⟨g1, g2, g3⟩ := placeS_spec (p := p) (by omega) (by omega)
  by_cases e : c = placeS p
  · exact e
  · have := cells_one c hc _ g1 e
    omega
open Classical in
/-- A number's cell. -/
noncomputable def cellV (v : Int) : CL := if h : ∃ c ∈ cellsU 24, c.v = v then Classical.choose h else ⟨0, 0, 12568⟩
theorem cellV_spec {v : Int} (h0 : -24 ≤ v) (h1 : v ≤ 24) : cellV v ∈ cellsU 24 ∧ (cellV v).v = v := by
  have h : ∃ c ∈ cellsU 24, c.v = v := by
    obtain ⟨c, h2, h3⟩ := cells_each ⟨(v + 24).toNat, by omega⟩
    exact ⟨c, h2, by rw [h3]; simp only; omega⟩
  unfold cellV
  rw [dif_pos h]
  exact Classical.choose_spec h
theorem cellV_of {c : CL} (hc : c ∈ cellsU 24) : cellV c.v = c := by
  have f := (cells_facts c hc).1
  obtain ⟨h1, h2⟩ := cellV_spec f.1 f.2
  exact cells_apart _ h1 _ hc h2

def ctFind : Ct := fun ws K => match ws with
  | [.c (.ci .i64 p)] => (0 ≤ p ∧ p < 32768) ∧ ∀ c : CL, c = placeS p → c ∈ cellsU 24 → c.s ≤ p → p < c.s + c.w → K (.tup [.c (.ci .i64 c.v), .c (.cb true)])
  | _ => False
theorem find_ct : CtOk Tryz.prog 115 ctFind := by
  intro ws K h' hr
  unfold ctFind at h'
  split at h'
  · rename_i p
    obtain ⟨⟨h0, h1⟩, hK⟩ := h'
    obtain ⟨g1, g2, g3⟩ := placeS_spec h0 h1
    have f := cells_facts _ g1
    refine ⟨_, hK _ rfl g1 g2 g3, ⟨⟨by simp only [W.rng, C.rng, InK, lowK, highK]; omega, trivial, trivial⟩, rfl⟩, fun σ w => ?_⟩
    refine (find_calls p w).mono ?_
    rintro e w' ⟨hb, ⟨c, h2, ⟨h3, h4⟩, rfl⟩ | ⟨h2, rfl⟩⟩
    · have fc := cells_facts c h2
      have e1 : wrap64 (c.s + c.w) = c.s + c.w := by unfold wrap64; omega
      rw [e1] at h4
      obtain rfl := placeS_eq h2 h3 h4
      exact ⟨_, rfl, rfl, hb⟩
    · have e1 : wrap64 ((placeS p).s + (placeS p).w) = (placeS p).s + (placeS p).w := by unfold wrap64; omega
      exact absurd ⟨g2, by rw [e1]; exact g3⟩ (h2 _ g1)
  · exact h'.elim
def ctCellV : Ct := fun ws K => match ws with
  | [.c (.ci .i64 v)] => (-24 ≤ v ∧ v ≤ 24) ∧ ∀ c : CL, c = cellV v → c ∈ cellsU 24 → c.v = v → K (.tup [.c (.ci .i64 c.s), .c (.ci .i64 c.w), .c (.cb true)])
  | _ => False
theorem cellV_ct : CtOk Tryz.prog 116 ctCellV := by
  intro ws K h' hr
  unfold ctCellV at h'
  split at h'
  · rename_i v
    obtain ⟨⟨h0, h1⟩, hK⟩ := h'
    obtain ⟨g1, g2⟩ := cellV_spec h0 h1
    have f := cells_facts _ g1
    refine ⟨_, hK _ rfl g1 g2, ⟨⟨by simp only [W.rng, C.rng, InK, lowK, highK]; omega, by simp only [W.rng, C.rng, InK, lowK, highK]; omega, trivial, trivial⟩, rfl⟩, fun σ w => ?_⟩
    refine (cell_calls v w).mono ?_
    rintro e w' ⟨hb, ⟨c, h2, h3, rfl⟩ | ⟨h2, rfl⟩⟩
    · obtain rfl : c = cellV v := cells_apart _ h2 _ g1 (h3.trans g2.symm)
      exact ⟨_, rfl, rfl, hb⟩
    · exact absurd g2 (h2 _ g1)
  · exact h'.elim
end P
end Go.Proofs.YtaficaacogcblaaGreatDoor
