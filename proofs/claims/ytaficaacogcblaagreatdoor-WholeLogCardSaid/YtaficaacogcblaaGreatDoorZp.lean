/- Yo: what the law wants of it. -/
import Derived.RangeFuncNested
import Derived.RangeFuncBound
import Derived.RangeFuncCalls
import Derived.RangeFuncLeaves
import Derived.Shelf.Abstract
import Derived.Shelf.RegionOpen
import Derived.WalkKit
import Derived.OwnWalkIn
import Derived.TacticsInMore
import Derived.LoopNIn
import Derived.LoopIn
import Derived.Test.YtaficaacogcblaaGreatDoorZd
set_option linter.all false
namespace Go.Proofs.YtaficaacogcblaaGreatDoor
namespace R
open Go.RowKit Go.Shelf
set_option maxRecDepth 100000
set_option maxHeartbeats 16000000
abbrev CI (len : Nat) := { i : Nat // i < (len + 48) / 49 }
def chE (b len : Nat) (x : CI len) : Array Value := #[.slice (some ⟨b, 49 * x.1, none⟩) (min 49 (len - 49 * x.1)) (min 49 (len - 49 * x.1))]
def chK (B1 B2 : Nat) (W W' : World) : Prop := W'.heap[B1]? = W.heap[B1]? ∧ W'.heap[B2]? = W.heap[B2]?
theorem cell_of_heap {W W' : World} {B : Nat} (h : W'.heap[B]? = W.heap[B]?) (i : Nat) : W'.cell? ⟨B, i, none⟩ = W.cell? ⟨B, i, none⟩ := by
  unfold World.cell?; simp only [h]
theorem chunk_stops (n : Nat) (hn : 1 ≤ n) (w0 : World) (B1 B2 b len cap : Nat) (hl : len ≤ 4096) (hc : len ≤ cap) (h1 : w0.cell? ⟨B1, 0, none⟩ = some (.slice (some ⟨b, 0, none⟩) len cap)) (h2 : w0.cell? ⟨B2, 0, none⟩ = some (.int .i64 49)) (hb1 : B1 < w0.heap.size) (hb2 : B2 < w0.heap.size) :
    SeqStopsK Fence.wide n Tryz.prog 129 #[.pointer (some ⟨B1, 0, none⟩), .pointer (some ⟨B2, 0, none⟩)] (chE b len) (chK B1 B2) (fun xs => xs.map (·.1) = List.range ((len + 48) / 49)) (fun _ => True) ((len + 48) / 49) w0 := fun l J Jx W hW hJ hJx hY h0 => by
  have g1 : W.cell? ⟨B1, 0, none⟩ = some (.slice (some ⟨b, 0, none⟩) len cap) := (hW.cell (p := ⟨B1, 0, none⟩) hb1).trans h1
  have g2 : W.cell? ⟨B2, 0, none⟩ = some (.int .i64 49) := (hW.cell (p := ⟨B2, 0, none⟩) hb2).trans h2
  refine callsIn_of_wp Tryz.func129 rfl trivial ?_ rfl
  simp only [Tryz.ntmps129, List.size_toArray, List.length_cons, List.length_nil, Nat.reduceAdd, Nat.reduceSub, Array.replicate_succ, Array.replicate_zero, List.push_toArray, List.append_toArray, List.nil_append, List.cons_append]
  gi_wp2
  gi_loopw [4] (fun at' wr => ∃ pre : List (CI len), at' = .int .i64 (49 * pre.length : Nat) ∧ pre.map (·.1) = List.range pre.length ∧ pre.length ≤ (len + 48) / 49 ∧ J pre wr ∧ wr.cell? ⟨B1, 0, none⟩ = some (.slice (some ⟨b, 0, none⟩) len cap) ∧ wr.cell? ⟨B2, 0, none⟩ = some (.int .i64 49)) (fun at' _ => 5000 - (intOf at').toNat)
  case atStart =>
    exact ⟨[], rfl, rfl, Nat.zero_le _, h0, g1, g2⟩
  case round =>
    obtain ⟨pre, rfl, hp, hpl, hJs, k1, k2⟩ := hrel
    rcases Nat.lt_or_ge (49 * pre.length) len with g | g
    · have hx : pre.length < (len + 48) / 49 := by omega
      have hJd : J pre wr.drew := hJ _ _ _ none hJs ⟨rfl, rfl, rfl, Nat.le_refl _, fun _ _ _ => rfl⟩ (fun r e => by cases e)
      have k1' : wr.drew.cell? ⟨B1, 0, none⟩ = some (.slice (some ⟨b, 0, none⟩) len cap) := k1
      have k2' : wr.drew.cell? ⟨B2, 0, none⟩ = some (.int .i64 49) := k2
      obtain ⟨fn, tmps, assign, body, hy, hR⟩ := hY pre ⟨pre.length, hx⟩ wr.drew hJd hx
      dsimp only [chE] at hy
      gi_wp2
      have hmx := mixed
      gi_region_o
      all_goals gi_wp2
      case inl =>
        have e : ((49 * (pre.length : Int) + ((len - 49 * pre.length : Nat) : Int)).toNat - 49 * pre.length) = min 49 (len - 49 * pre.length) := by omega
        rw [e, hy]
        refine ⟨fun _ => hn, hR.mono ?_⟩
        rintro e w3 (⟨rfl, hJ3, hk⟩ | ⟨rfl, hJx3⟩)
        · have q1 : w3.cell? ⟨B1, 0, none⟩ = some (.slice (some ⟨b, 0, none⟩) len cap) := (cell_of_heap hk.1 0).trans k1'
          have q2 : w3.cell? ⟨B2, 0, none⟩ = some (.int .i64 49) := (cell_of_heap hk.2 0).trans k2'
          dsimp only
          gi_wp2
          go_roundw
          case rel => exact ⟨pre ++ [⟨pre.length, hx⟩], by simp; omega, by simp [hp, List.range_succ], by simp; omega, hJ3, q1, q2⟩
          case measure => simp [intOf]; omega
        · dsimp only
          gi_wp2
          refine bodyPost_ret (results_none rfl _ _ _) rfl ?_
          exact ⟨⟨_, rfl⟩, .inr ⟨_, trivial, hJx3⟩⟩
      case inr =>
        have e : ((49 * (pre.length : Int) + 49).toNat - 49 * pre.length) = min 49 (len - 49 * pre.length) := by omega
        rw [e, hy]
        refine ⟨fun _ => hn, hR.mono ?_⟩
        rintro e w3 (⟨rfl, hJ3, hk⟩ | ⟨rfl, hJx3⟩)
        · have q1 : w3.cell? ⟨B1, 0, none⟩ = some (.slice (some ⟨b, 0, none⟩) len cap) := (cell_of_heap hk.1 0).trans k1'
          have q2 : w3.cell? ⟨B2, 0, none⟩ = some (.int .i64 49) := (cell_of_heap hk.2 0).trans k2'
          dsimp only
          gi_wp2
          go_roundw
          case rel => exact ⟨pre ++ [⟨pre.length, hx⟩], by simp; omega, by simp [hp, List.range_succ], by simp; omega, hJ3, q1, q2⟩
          case measure => simp [intOf]; omega
        · dsimp only
          gi_wp2
          refine bodyPost_ret (results_none rfl _ _ _) rfl ?_
          exact ⟨⟨_, rfl⟩, .inr ⟨_, trivial, hJx3⟩⟩
    · gi_wp2
      go_end0
      exact ⟨⟨_, rfl⟩, .inl ⟨pre, by rw [hp]; congr 1; omega, hJs⟩⟩
end R
end Go.Proofs.YtaficaacogcblaaGreatDoor
