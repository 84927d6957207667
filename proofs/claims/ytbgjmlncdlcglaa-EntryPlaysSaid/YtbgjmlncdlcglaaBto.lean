/- Chapter tilt: the document's way back. -/
import Derived.Test.YtbgjmlncdlcglaaBmd
set_option linter.all false
namespace Go.Proofs.Ytbgjmlncdlcglaa
open Go.RowKit (Below)
set_option maxRecDepth 100000
set_option maxHeartbeats 32000000

noncomputable def FQ : Fns := F0.plus 43 (ct2 (fun _ n => 1 ≤ n ∧ n ≤ 62) cutS)
theorem FQ_ok : FnsOk Try.prog FQ := F0_ok.plus refCut_ct Try.func43 (by kernel_rfl) (by kernel_rfl)

theorem set_getD {xs : List Int} {m : Nat} {v : Int} (h : m < xs.length) : (xs.set m v).getD m 0 = v := by
  simp [List.getD_eq_getElem?_getD, h]
theorem stg_len {zs xs : List Int} (h : zs.length = xs.length) (i : Int) : (stg zs xs i).length = xs.length := by
  unfold stg; simp; omega
theorem refLay_walk (l : Int) (xs : List Int) (hl : InK .i64 l) (h : xs.length = 16) (hx : ∀ x ∈ xs, InK .i64 x) : walk FQ 0 Try.f92 [i64 l, ar 16 xs] [] fun y _ => y = .tup [ar 16 (layZ (c22 l) xs), i64 (layP (c22 l) xs 16)] := by
  have pb := lay_bound (l := c22 l) (xs := xs) (c22_bound l)
  conv => whnf
  refine ⟨⟨by decide, by decide⟩, ?_⟩
  rw [← c22_def]
  conv => whnf
  refine loop_at (0 :: 7 :: List.range' 10 18) (fun m (i : Int) => 0 ≤ i ∧ i ≤ 16 ∧ m = (16 - i).toNat) (fun i => [(0, vi (layP (c22 l) xs i.toNat)), (7, vi i)]) (fun i => [oa xs, oa z16, oa (stg (layZ (c22 l) xs) z16 i)]) 16 0 ⟨by decide, by decide, rfl⟩ ?_ ?_
  · exact ⟨rfl, ⟨⟨Nat.le_of_ble_eq_true rfl, rfl⟩, ⟨Nat.le_of_ble_eq_true rfl, rfl⟩, trivial⟩, ⟨rfl, rfl, by rw [stg_zero]; rfl, trivial⟩, rfl, rfl, Nat.le_of_ble_eq_true rfl⟩
  · rintro m i ⟨h0, h1, rfl⟩
    have b1 := pb i.toNat
    have b3 := td28 b1
    have em : mulN i.toNat (Try.prog.types[3]).size = i.toNat := mulN1 i.toNat
    rcases Int.lt_or_le i 16 with h2 | h2
    · have b2 := c22_bound (xs.getD (mulN i.toNat (Try.prog.types[3]).size) 0)
      rw [c22_def] at b2
      repeat' ((conv => whnf); first | (refine ask_true (by omega) ?_) | (refine ask_wrap64 (by omega) (by omega) ?_) | (refine ⟨by omega, ?_⟩) | (refine fun (_ : InK _ _) => ?_) | fail)
      have en : layP (c22 l) xs (i + 1).toNat = cutS (cutS (xs.getD i.toNat 0) 22 + (27853 * layP (c22 l) xs i.toNat).tdiv 32768) 22 := by
        rw [show (i + 1).toNat = i.toNat + 1 by omega, layP, lay1, c22_def, c22_def]
      have ev : cutS (cutS (xs.getD (mulN i.toNat (Try.prog.types[3]).size) 0) 22 + (27853 * layP (c22 l) xs i.toNat).tdiv 32768) 22 = layP (c22 l) xs (i + 1).toNat := by
        rw [en, em]
      refine ⟨(16 - (i + 1)).toNat, i + 1, by omega, ⟨by omega, by omega, rfl⟩, rfl, ⟨⟨Nat.le_of_ble_eq_true rfl, ?_⟩, ⟨Nat.le_of_ble_eq_true rfl, rfl⟩, trivial⟩, ⟨rfl, rfl, ?_, trivial⟩, rfl, rfl, Nat.le_of_ble_eq_true rfl⟩
      · refine vi_eq ?_
        refine Eq.trans (set_getD ?_) ev
        rw [stg_len (by rw [layZ_len]; rfl), em]
        show i.toNat < 16
        omega
      · refine congrArg oa (stg_set em (by rw [layZ_len]; rfl) h0 (by rw [layZ_len]; omega) ?_).symm
        rw [ev]
        unfold layZ
        rw [getD_range (by omega), show (i + 1).toNat = i.toNat + 1 by omega]
    · have hi : i = 16 := by omega
      subst hi
      rw [stg_all (by rw [layZ_len]; rfl) (by rw [layZ_len]; rfl)]
      repeat' ((conv => whnf); first | (refine ask_false (by omega) ?_) | (refine ⟨by kernel_rfl, ?_⟩) | rfl | fail)
theorem refLay_ct : CtOk Try.prog 92 (ctLA (fun l xs => layZ (c22 l) xs) (fun l xs => layP (c22 l) xs 16)) := ctLA_ok FQ_ok Try.func92 (fun l xs h _ => ⟨⟨layZ_len _ _, fun x hx => by
  obtain ⟨i, _, rfl⟩ := List.mem_map.1 hx
  have := lay_bound (l := c22 l) (xs := xs) (c22_bound l) (i + 1)
  exact small_in (by omega)⟩, small_in (by have := lay_bound (l := c22 l) (xs := xs) (c22_bound l) 16; omega)⟩) refLay_walk

end Go.Proofs.Ytbgjmlncdlcglaa
