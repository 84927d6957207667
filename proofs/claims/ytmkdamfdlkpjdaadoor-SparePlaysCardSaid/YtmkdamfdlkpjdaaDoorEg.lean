/- Chapter spare: the document's example; held levels; the law SpareRooms. -/
import Derived.Test.YtmkdamfdlkpjdaaDoorEf
set_option linter.all false
namespace Go.Proofs.YtmkdamfdlkpjdaaDoor
open Go.RowKit (Below)
open Go.WideMaps
set_option maxRecDepth 100000
set_option maxHeartbeats 64000000

@[irreducible] noncomputable def pulS : List Int → Int → List Int := sealed pulF
theorem pulS_def (ls : List Int) (bits : Int) : pulS ls bits = pulF ls bits := by unfold pulS; rw [sealed_eq]
theorem pulS_ok (ls : List Int) (bits : Int) : KOk (pulS ls bits) := by rw [pulS_def]; exact pulF_ok _ _
def ctP4 (f : List Int → Int → List Int) : Ct := fun ws K => match ws with
  | [.agg [.ints .i64 4 xs], .c (.ci .i64 b)] => K (.w (ar4 (f xs b)))
  | _ => False
theorem pulsesS_ct : CtOkG Tryd.prog G1 25 (ctP4 pulS) := by
  intro ws K h' hr
  unfold ctP4 at h'
  split at h'
  · rename_i xs b
    exact ⟨_, h', ⟨⟨⟨(pulS_ok xs b).len, (pulS_ok xs b).rng⟩, trivial⟩, rfl⟩, walkq_calls FPu_ok Tryd.func25 rfl hr rfl (by rw [pulS_def]; exact pulsesS_walk xs hr.1.1.1 b hr.2.1)⟩
  · exact h'.elim

/-! ### the document's example -/
theorem cost_ex : costS 0 0 = 0 ∧ costS 0 1 = 2 ∧ costS 0 2 = 3 := by
  refine ⟨?_, ?_, ?_⟩ <;> rw [costS_tab (by decide) (by decide)] <;> kernel_rfl
theorem best_step (ls ks : List Int) (t : Int) (i : Nat) : bestS ls ks t (i + 1) = if takes ls ks t (bestS ls ks t i) i then (i : Int) else bestS ls ks t i := rfl
theorem pul_ex : pulS [9, 0, 0, 0] 2 = [1, 0, 0, 0] := by
  obtain ⟨c0, c1, c2⟩ := cost_ex
  rw [pulS_def]
  unfold pulF
  rw [if_pos ((rightP_def _ _).2 ⟨fun i hi => by
    match i, hi with
    | 0, _ | 1, _ | 2, _ | 3, _ => decide, by decide⟩)]
  have no : ∀ (ks : List Int) (t b : Int) (j : Nat), j = 1 ∨ j = 2 ∨ j = 3 → ¬ takes [9, 0, 0, 0] ks t b j := fun ks t b j hj hh => hh.1 (.inl (by rcases hj with rfl | rfl | rfl <;> rfl))
  have b1 : bestS [9, 0, 0, 0] z4 2 4 = 0 := by
    rw [best_step, if_neg (no _ _ _ 3 (by omega)), best_step, if_neg (no _ _ _ 2 (by omega)), best_step, if_neg (no _ _ _ 1 (by omega)), best_step, if_pos]
    · rfl
    · refine ⟨fun hh => ?_, ?_⟩
      · rcases hh with hh | hh | ⟨hh, _⟩
        · exact absurd hh (by decide)
        · exact absurd hh (by decide)
        · exact absurd hh (by show ¬ (0 : Int) ≤ -1; decide)
      · show costS 0 1 - costS 0 0 ≤ 2
        omega
  have b2 : bestS [9, 0, 0, 0] [1, 0, 0, 0] 0 4 = -1 := by
    rw [best_step, if_neg (no _ _ _ 3 (by omega)), best_step, if_neg (no _ _ _ 2 (by omega)), best_step, if_neg (no _ _ _ 1 (by omega)), best_step, if_neg]
    · rfl
    · intro hh
      have h2 : costS 0 2 - costS 0 1 ≤ 0 := hh.2
      omega
  rw [show (33 : Nat) = 32 + 1 from rfl, goP_next, b1, if_neg (by decide)]
  have e1 : z4.set (Int.toNat 0) (z4.getD (Int.toNat 0) 0 + 1) = [1, 0, 0, 0] := rfl
  have e2 : (2 : Int) - prS z4 0 = 0 := by
    show (2 : Int) - (costS 0 1 - costS 0 0) = 0
    omega
  rw [e1, e2, show (32 : Nat) = 31 + 1 from rfl, goP_next, b2, if_pos (by decide)]
noncomputable def FAw : Fns := F0.plus 25 (ctP4 pulS)
theorem FAw_ok : FnsOk Tryd.prog FAw G1 := F0_okg.plusG pulsesS_ct Tryd.func25 (by kernel_rfl) (by kernel_rfl)
theorem awake11_walk : walkq FAw 0 Tryd.f23 [] [] fun y _ => y = vb true := by
  have e : pulS (([0, 0, 0, 0] : List Int).set 0 9) 2 = ([0, 0, 0, 0] : List Int).set 0 1 := pul_ex
  repeat' ((conv => whnf); first | (refine ask_same e ?_) | rfl | fail)
theorem awake11_ct : CtOkG Tryd.prog G1 23 (ct0 (vb true)) := by
  intro ws K h' hr
  unfold ct0 at h'
  split at h'
  · exact ⟨_, h', ⟨trivial, rfl⟩, walkq_calls FAw_ok Tryd.func23 rfl trivial rfl awake11_walk⟩
  · exact h'.elim

/-! ### held levels -/
noncomputable def heldL (ls : List Int) : List Int := ls.map fun x => (x % 32) % 21
theorem heldL_at {ls : List Int} (h : ls.length = 4) {i : Nat} (hi : i < 4) : (heldL ls).getD i 0 = (ls.getD i 0 % 32) % 21 := by unfold heldL; rw [getD_map (by omega)]
theorem held_walk (ls : List Int) (h : ls.length = 4) : walkq F0 0 Tryd.f24 [ar4 ls] [] fun y _ => y = .w (ar4 (heldL ls)) := by
  have hl : (heldL ls).length = 4 := by unfold heldL; rw [List.length_map, h]
  conv => whnf
  refine loop_at2 (3 :: List.range' 4 11) (fun m (i : Int) (R : List Int) => 0 ≤ i ∧ i ≤ 4 ∧ m = (4 - i).toNat ∧ R = stg (heldL ls) ls i) (fun i _ => [(3, vi i)]) (fun _ R => [.own 25 [.ints .i64 4 R], .own 25 [.ints .i64 4 z4]]) 4 0 ls ⟨by decide, by decide, rfl, (stg_zero _ _).symm⟩ ?_ ?_
  · exact ⟨rfl, ⟨⟨Nat.le_of_ble_eq_true rfl, rfl⟩, trivial⟩, ⟨rfl, rfl, trivial⟩, rfl, rfl, Nat.zero_le _⟩
  · rintro m i R ⟨i0, i1, rfl, hR⟩
    have em : mulN i.toNat (Tryd.prog.types[3]).size = i.toNat := mulN1 _
    rcases Int.lt_or_le i 4 with i2 | i2
    · have er : R.getD (mulN i.toNat (Tryd.prog.types[3]).size) 0 = ls.getD i.toNat 0 := by rw [em, hR]; exact stg_at rfl (by omega) i0 (by omega)
      have ea : bitsI .and .i64 (R.getD (mulN i.toNat (Tryd.prog.types[3]).size) 0) 31 = R.getD (mulN i.toNat (Tryd.prog.types[3]).size) 0 % 32 := and_mask 5 (by decide) (by simp only [InK, lowK, highK]; decide)
      repeat' ((conv => whnf); first | (refine ask_true (by omega) ?_) | (refine And.intro (by omega) ?_) | (refine fun (_ : InK _ _) => ?_) | (refine ask_is ea ?_) | (refine ask_wrap64 (by omega) (by omega) ?_) | (refine ⟨by kernel_rfl, ?_⟩) | fail)
      conv => whnf
      intro r hr
      have hr' : r = R.getD (mulN i.toNat (Tryd.prog.types[3]).size) 0 % 32 % 21 := by rw [hr, Int.tmod_eq_emod_of_nonneg (by omega)]
      clear hr
      repeat' ((conv => whnf); first | (refine ask_true (by omega) ?_) | (refine And.intro (by omega) ?_) | (refine fun (_ : InK _ _) => ?_) | (refine ask_wrap64 (by omega) (by omega) ?_) | (refine ⟨by kernel_rfl, ?_⟩) | fail)
      conv => whnf
      refine ⟨(4 - (i + 1)).toNat, (i + 1, R.set (mulN i.toNat (Tryd.prog.types[3]).size) r), by omega, ⟨by show 0 ≤ i + 1; omega, by show i + 1 ≤ 4; omega, rfl, ?_⟩, rfl, ⟨⟨Nat.le_of_ble_eq_true rfl, rfl⟩, trivial⟩, ⟨rfl, rfl, trivial⟩, rfl, rfl, Nat.zero_le _⟩
      show R.set (mulN i.toNat (Tryd.prog.types[3]).size) r = stg (heldL ls) ls (i + 1)
      rw [hR]
      exact stg_set em (by omega) i0 (by omega) (by rw [heldL_at h (by omega), hr', er])
    · have e : R = heldL ls := by rw [hR]; exact stg_all (by omega) (by omega)
      rw [← e]
      repeat' ((conv => whnf); first | (refine ask_false (by omega) ?_) | rfl | fail)
def ctL4 (f : List Int → List Int) : Ct := fun ws K => match ws with
  | [.agg [.ints .i64 4 xs]] => K (.w (ar4 (f xs)))
  | _ => False
@[irreducible] noncomputable def heldS : List Int → List Int := sealed heldL
theorem heldS_at {ls : List Int} (h : ls.length = 4) {i : Nat} (hi : i < 4) : (heldS ls).getD i 0 = (ls.getD i 0 % 32) % 21 := by unfold heldS; rw [sealed_eq]; exact heldL_at h hi
theorem heldS_len {ls : List Int} (h : ls.length = 4) : (heldS ls).length = 4 := by unfold heldS; rw [sealed_eq]; unfold heldL; rw [List.length_map, h]
theorem heldS_in {ls : List Int} (h : ls.length = 4) {i : Nat} (hi : i < 4) : 0 ≤ (heldS ls).getD i 0 ∧ (heldS ls).getD i 0 ≤ 20 := by rw [heldS_at h hi]; omega
theorem heldS_rng {ls : List Int} (h : ls.length = 4) : ∀ x ∈ heldS ls, InK .i64 x := all_of_at (p := fun x => InK .i64 x) fun i hi => by
  rw [heldS_len h] at hi
  have := heldS_in h hi
  simp only [InK, lowK, highK]; omega
theorem held_ct : CtOkG Tryd.prog G1 24 (ctL4 heldS) := by
  intro ws K h' hr
  unfold ctL4 at h'
  split at h'
  · rename_i xs
    exact ⟨_, h', ⟨⟨⟨heldS_len hr.1.1.1, heldS_rng hr.1.1.1⟩, trivial⟩, rfl⟩, walkq_calls F0_okg Tryd.func24 (n := 0) rfl hr rfl (by rw [show heldS xs = heldL xs by unfold heldS; rw [sealed_eq]]; exact held_walk xs hr.1.1.1)⟩
  · exact h'.elim

/-! ### the law SpareRooms -/
noncomputable def FRo : Fns := (FAw.plus 23 (ct0 (vb true))).plus 27 (ct2 (fun _ _ => True) roomS)
theorem FRo_ok : FnsOk Tryd.prog FRo G1 := (FAw_ok.plusG awake11_ct Tryd.func23 (by kernel_rfl) (by kernel_rfl)).plus room_ct Tryd.func27 (by kernel_rfl) (by kernel_rfl)
theorem room_at {s u : Int} (hs : 10 ≤ s ∧ s ≤ 32) (hu : 0 ≤ u) : roomS s u = max (8 * s - 40 - u) 0 := by unfold roomS; rw [if_neg (by omega)]
theorem rooms_walk (s u : Int) (hs : 0 ≤ s ∧ s ≤ 255) (hu : 0 ≤ u ∧ u ≤ 255) : walkq FRo 0 Tryd.f11 [u8 s, u8 u] [] fun y _ => y = vb true := by
  repeat' ((conv => whnf); first | (refine ask_wrap64 (by omega) (by omega) ?_) | (refine And.intro (by omega) ?_) | fail)
  conv => whnf
  intro r hr
  have hr' : 0 ≤ r ∧ r ≤ 21 := by rw [hr, Int.tmod_eq_emod_of_nonneg hs.1]; omega
  clear hr
  have a1 := room_at (s := 10 + r) (u := u) (by omega) (by omega)
  have a2 := room_at (s := 10 + r + 1) (u := u) (by omega) (by omega)
  have a3 := room_at (s := 10 + r) (u := u + 1) (by omega) (by omega)
  have a4 := room_at (s := 10 + r) (u := 0) (by omega) (by omega)
  rcases Classical.em (roomS (10 + r) u = 0) with h0 | h0
  all_goals repeat' ((conv => whnf); first | (refine ask_wrap64 (by omega) (by omega) ?_) | (refine And.intro trivial ?_) | (refine And.intro (by omega) ?_) | (refine ask_true (by omega) ?_) | (refine ask_false (by omega) ?_) | (refine ⟨by kernel_rfl, ?_⟩) | rfl | fail)
theorem law_SpareRooms (s : Int) (hs : InK .u8 s) (u : Int) (hu : InK .u8 u) (w0 : World) (hg : GW G1 w0) : Calls Tryd.prog 11 #[.int .u8 s, .int .u8 u] w0 fun e w' => e = .returned (.bool true) ∧ Below w0.heap.size w0 w' :=
  walkq_true FRo_ok Tryd.func11 (ws := [u8 s, u8 u]) ⟨hs, hu, trivial⟩ rfl (n := 0) (rooms_walk s u hs hu) w0 hg
end Go.Proofs.YtmkdamfdlkpjdaaDoor
