/- Chapter level: the law LevelParts, walked. -/
import Derived.Test.YtmkdamfdlkpjdaaDoorDd
set_option linter.all false
namespace Go.Proofs.YtmkdamfdlkpjdaaDoor
open Go.RowKit (Below)
set_option maxRecDepth 100000
set_option maxHeartbeats 32000000

def z16 : List Int := [0, 0, 0, 0, 0, 0, 0, 0, 0, 0, 0, 0, 0, 0, 0, 0]
/-- So many bands are there. -/
def part (xs : List Int) (b : Int) : List Int := xs.take (fst b).toNat ++ z16.drop (fst b).toNat
theorem part_zero (xs : List Int) : part xs 0 = z16 := by
  show xs.take 0 ++ z16.drop 0 = z16
  simp
theorem part_all {xs : List Int} (h : xs.length = 16) : part xs 4 = xs := by
  show xs.take 16 ++ z16.drop 16 = xs
  rw [List.take_of_length_le (by omega), List.drop_of_length_le (by decide), List.append_nil]
theorem part_next {xs : List Int} (h : xs.length = 16) {b : Int} (hb : 0 ≤ b ∧ b ≤ 3) : putZ (part xs b) b (bandZ xs b) = part xs (b + 1) := by
  have f := fst_ok hb
  have hs : sizeS b = fst (b + 1) - fst b := by unfold sizeS; rw [if_pos hb]
  have hl := bandZ_len h b
  unfold putZ
  rw [if_pos ⟨hb, by omega⟩]
  unfold bandZ part
  rw [if_pos hb]
  have l1 : (xs.take (fst b).toNat).length = (fst b).toNat := by simp; omega
  rw [List.take_left' l1, List.drop_append, List.drop_of_length_le (l := List.take (fst b).toNat xs) (by omega), List.nil_append, l1, List.drop_drop, hs]
  rw [show (fst b).toNat + ((fst (b + 1)).toNat - (fst b).toNat) = (fst (b + 1)).toNat by omega]
  congr 1
  rw [show (fst (b + 1)).toNat = (fst b).toNat + (fst (b + 1) - fst b).toNat by omega, List.take_add]
noncomputable def FD : Fns := (FE.every 18).every 16
theorem FD_ok : FnsOk Tryd.prog FD G1 := (FE_ok.every 18).every 16
theorem ask_same {xs ys : List Int} {K : Bool → Prop} (h : xs = ys) (hk : K true) : ∀ τ, τ = (false ^^ (decide (xs = ys) && true)) → K τ := by
  rintro τ rfl; rw [decide_eq_true h]; exact hk
theorem ar16_rng {xs : List Int} (h : xs.length = 16) (hx : ∀ x ∈ xs, InK .i64 x) : (ar16 xs).rng := ⟨⟨h, hx⟩, trivial⟩
theorem parts_walk (xs : List Int) (h : xs.length = 16) (hx : ∀ x ∈ xs, InK .i64 x) : walkg FD 0 Tryd.f5 [ar16 xs] [] fun y _ => y = vb true := by
  repeat' ((conv => whnf); first | fail)
  conv => whnf
  refine loop_at (4 :: 5 :: List.range' 6 23) (fun m (i : Int) => 0 ≤ i ∧ i ≤ 4 ∧ m = (4 - i).toNat) (fun i => [(4, vi (fst i)), (5, vi i)]) (fun i => [.own 22 [.ints .i64 16 xs], .own 24 [.ints .i64 16 (part xs i)]]) 4 0 ⟨by decide, by decide, rfl⟩ ?_ ?_
  · exact ⟨rfl, ⟨⟨Nat.le_of_ble_eq_true rfl, rfl⟩, ⟨Nat.le_of_ble_eq_true rfl, rfl⟩, trivial⟩, ⟨rfl, by rw [part_zero]; rfl, trivial⟩, rfl, rfl, Nat.zero_le _⟩
  · rintro m i ⟨i0, i1, rfl⟩
    rcases Int.lt_or_le i 4 with i2 | i2
    · have f := fst_ok (b := i) (by omega)
      have hs : sizeS i = fst (i + 1) - fst i := by unfold sizeS; rw [if_pos (by omega)]
      have bl := bandZ_len h i
      have hne : bandZ xs i ≠ [] := fun e => by have e3 := congrArg List.length e; rw [List.length_nil] at e3; omega
      have pn := part_next h (b := i) (by omega)
      repeat' ((conv => whnf); first | (refine ask_true (by omega) ?_) | fail)
      conv => whnf
      refine all_at [12, 13, 14, 15, 16, 17] (fun _ : Unit => True) (fun _ => []) (fun _ => [.own 22 [.ints .i64 16 xs], .own 24 [.ints .i64 16 (part xs (i + 1))]]) ?_ ?_
      · rintro _ -
        have hsi := sizeS_in i
        repeat' ((conv => whnf); first | (refine And.intro trivial ?_) | (refine ask_wrap64 (by omega) (by omega) ?_) | (refine ⟨by kernel_rfl, ?_⟩) | fail)
        conv => whnf
        have e4 : fst i + sizeS i = fst (i + 1) := by omega
        refine ⟨(4 - (i + 1)).toNat, i + 1, by omega, ⟨by omega, by omega, rfl⟩, rfl, ⟨⟨Nat.le_of_ble_eq_true rfl, congrArg vi e4⟩, ⟨Nat.le_of_ble_eq_true rfl, rfl⟩, trivial⟩, ⟨rfl, rfl, trivial⟩, rfl, rfl, Nat.zero_le _⟩
      · repeat' ((conv => whnf); first | exact trivial | (refine And.intro (fun e => absurd e hne) fun _ c rest h1 h2 h3 => ?_) | (refine And.intro ⟨rfl, rfl⟩ ?_) | (refine And.intro rfl ?_) | (refine And.intro ?_ ?_) | fail)
        all_goals (conv => whnf)
        all_goals refine ⟨(), id, trivial, ⟨?_, And.intro rfl (And.intro (congrArg (fun ys => some (Blk.own 24 [.ints .i64 16 ys])) (by rw [take_all rfl, pn])) trivial), fun _ _ _ _ h => h, fun _ _ => rfl, rfl, rfl, Nat.zero_le _⟩⟩
        all_goals repeat' (first | exact trivial | refine And.intro rfl ?_ | fail)
    · have hi : i = 4 := by omega
      subst hi
      rw [part_all h]
      repeat' ((conv => whnf); first | (refine ask_false (by omega) ?_) | (refine ask_true (by decide) ?_) | (refine ask_same rfl ?_) | rfl | fail)
      trace_state
end Go.Proofs.YtmkdamfdlkpjdaaDoor
