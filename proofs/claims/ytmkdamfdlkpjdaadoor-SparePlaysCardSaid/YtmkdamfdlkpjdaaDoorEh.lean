/- Chapter spare: greater levels; the law SpareSame. -/
import Derived.Test.YtmkdamfdlkpjdaaDoorEg
set_option linter.all false
namespace Go.Proofs.YtmkdamfdlkpjdaaDoor
open Go.RowKit (Below)
open Go.WideMaps
set_option maxRecDepth 100000
set_option maxHeartbeats 64000000

theorem loop_at3 {body : List V → List Blk → XQ → Prop} {lo : Nat} {fr : List V} {H : List Blk} {Q : XQ} {α β γ : Type} (ds : List Nat) (J : Nat → α → β → γ → Prop) (sel : α → β → γ → List (Nat × V)) (Hs : α → β → γ → List Blk) (m₀ : Nat) (a₀ : α) (b₀ : β) (c₀ : γ) (h₀ : J m₀ a₀ b₀ c₀)
    (start : Next' ds lo fr (sel a₀ b₀ c₀) (Hs a₀ b₀ c₀) fr H)
    (round : ∀ m a b c, J m a b c → havK ds 0 fr fun f₁ => setLK (sel a b c) f₁ fun f₂ => body f₂ (Hs a b c) fun ex fr' H' => match ex with
      | .normal => ∃ m' s', m' < m ∧ J m' (Prod.fst s') (Prod.fst (Prod.snd s')) (Prod.snd (Prod.snd s')) ∧ Next' ds lo fr (sel (Prod.fst s') (Prod.fst (Prod.snd s')) (Prod.snd (Prod.snd s'))) (Hs (Prod.fst s') (Prod.fst (Prod.snd s')) (Prod.snd (Prod.snd s'))) fr' H'
      | .exit id => Q (.exit id) fr' H'
      | .ret => Q .ret fr' H') : XLoop body lo fr H Q :=
  loop_at ds (fun m s => J m s.1 s.2.1 s.2.2) (fun s => sel s.1 s.2.1 s.2.2) (fun s => Hs s.1 s.2.1 s.2.2) m₀ (a₀, b₀, c₀) h₀ start fun m s h => round m s.1 s.2.1 s.2.2 h

/-! ### levels that are all greater by as much -/
def Shift (ls ls' : List Int) (d : Int) : Prop := ∀ i : Nat, i < 4 → ls.getD i 0 ≠ 0 ∧ ls'.getD i 0 ≠ 0 ∧ ls'.getD i 0 = ls.getD i 0 + d
theorem best_shift {ls ls' : List Int} {d : Int} (h : Shift ls ls' d) (ks : List Int) (t : Int) : ∀ i : Nat, i ≤ 4 → bestS ls' ks t i = bestS ls ks t i
  | 0, _ => rfl
  | i + 1, hi => by
    have ih := best_shift h ks t i (by omega)
    have hb := best_in ls ks t i
    obtain ⟨a1, a2, a3⟩ := h i (by omega)
    have key : takes ls' ks t (bestS ls ks t i) (i : Int) ↔ takes ls ks t (bestS ls ks t i) (i : Int) := by
      have vi' : valS ls' ks (i : Int) = valS ls ks (i : Int) + 2 * d := by
        show 2 * ls'.getD i 0 - 3 * ks.getD i 0 = 2 * ls.getD i 0 - 3 * ks.getD i 0 + 2 * d
        omega
      have vb' : 0 ≤ bestS ls ks t i → valS ls' ks (bestS ls ks t i) = valS ls ks (bestS ls ks t i) + 2 * d := fun h0 => by
        obtain ⟨_, _, b3⟩ := h (bestS ls ks t i).toNat (by omega)
        show 2 * ls'.getD (bestS ls ks t i).toNat 0 - 3 * ks.getD (bestS ls ks t i).toNat 0 = 2 * ls.getD (bestS ls ks t i).toNat 0 - 3 * ks.getD (bestS ls ks t i).toNat 0 + 2 * d
        omega
      constructor
      · rintro ⟨h1, h2⟩
        refine ⟨fun hh => h1 ?_, h2⟩
        rcases hh with hh | hh | ⟨hh, hv⟩
        · exact absurd hh a1
        · exact .inr (.inl hh)
        · exact .inr (.inr ⟨hh, by have := vb' hh; omega⟩)
      · rintro ⟨h1, h2⟩
        refine ⟨fun hh => h1 ?_, h2⟩
        rcases hh with hh | hh | ⟨hh, hv⟩
        · exact absurd hh a2
        · exact .inr (.inl hh)
        · exact .inr (.inr ⟨hh, by have := vb' hh; omega⟩)
    rw [best_step, best_step, ih]
    by_cases hk : takes ls ks t (bestS ls ks t i) (i : Int)
    · rw [if_pos hk, if_pos (key.2 hk)]
    · rw [if_neg hk, if_neg (fun h' => hk (key.1 h'))]
theorem go_shift {ls ls' : List Int} {d : Int} (h : Shift ls ls' d) : ∀ (n : Nat) (ks : List Int) (t : Int), goP ls' n ks t = goP ls n ks t
  | 0, _, _ => rfl
  | n + 1, ks, t => by
    rw [goP_next, goP_next, best_shift h ks t 4 (Nat.le_refl 4)]
    split
    · rfl
    · exact go_shift h n _ _
theorem pul_shift {ls ls' : List Int} {d : Int} (h : Shift ls ls' d) {t : Int} (h1 : rightP ls t) (h2 : rightP ls' t) : pulS ls t = pulS ls' t := by
  rw [pulS_def, pulS_def]
  unfold pulF
  rw [if_pos h1, if_pos h2, go_shift h]

/-! ### the law -/
noncomputable def FSa : Fns := (FAw.plus 23 (ct0 (vb true))).plus 24 (ctL4 heldS)
theorem FSa_ok : FnsOk Tryd.prog FSa G1 := (FAw_ok.plusG awake11_ct Tryd.func23 (by kernel_rfl) (by kernel_rfl)).plusG held_ct Tryd.func24 (by kernel_rfl) (by kernel_rfl)
def up1 (xs : List Int) : List Int := xs.map fun x => max x 1
def upD (d : Int) (xs : List Int) : List Int := xs.map fun x => x + d
theorem sameS_walk (ls : List Int) (h : ls.length = 4) (b more : Int) (hb : 0 ≤ b ∧ b ≤ 65535) (hm : 0 ≤ more ∧ more ≤ 255) : walkq FSa 0 Tryd.f9 [ar4 ls, .c (.ci .u16 b), u8 more] [] fun y _ => y = vb true := by
  obtain ⟨X, eX⟩ : ∃ X, X = heldS ls := ⟨_, rfl⟩
  have Xl : X.length = 4 := by rw [eX]; exact heldS_len h
  have Xi : ∀ i : Nat, i < 4 → 0 ≤ X.getD i 0 ∧ X.getD i 0 ≤ 20 := fun i hi => by rw [eX]; exact heldS_in h hi
  have Ul : (up1 X).length = 4 := by unfold up1; rw [List.length_map, Xl]
  have Ui : ∀ i : Nat, i < 4 → (up1 X).getD i 0 = max (X.getD i 0) 1 := fun i hi => by unfold up1; rw [getD_map (by omega)]
  conv => whnf
  rw [← eX]
  refine loop_at3 (8 :: 9 :: List.range' 17 15) (fun m (i : Int) (R : List Int) (top : Int) => 0 ≤ i ∧ i ≤ 4 ∧ m = (4 - i).toNat ∧ R = stg (up1 X) X i ∧ (0 ≤ top ∧ top ≤ 20) ∧ ∀ j : Nat, (j : Int) < i → (up1 X).getD j 0 ≤ top) (fun i _ top => [(8, vi top), (9, vi i)]) (fun _ R _ => [.own 25 [.ints .i64 4 ls], .own 25 [.ints .i64 4 R]]) 4 0 X 0 ⟨Int.le_refl _, by decide, rfl, (stg_zero _ _).symm, ⟨Int.le_refl _, by decide⟩, fun j hj => by omega⟩ ?_ ?_
  · exact ⟨rfl, ⟨⟨Nat.le_of_ble_eq_true rfl, rfl⟩, ⟨Nat.le_of_ble_eq_true rfl, rfl⟩, trivial⟩, ⟨rfl, rfl, trivial⟩, rfl, rfl, Nat.zero_le _⟩
  · rintro _ i R top ⟨i0, i1, rfl, hR, ht, hj⟩
    have em : ∀ i : Int, mulN i.toNat (Tryd.prog.types[3]).size = i.toNat := fun i => mulN1 _
    have emi := em i
    rcases Int.lt_or_le i 4 with i2 | i2
    · have Rl : R.length = 4 := by rw [hR]; unfold stg; rw [List.length_append, List.length_take, List.length_drop, Ul, Xl]; omega
      have er : R.getD (mulN i.toNat (Tryd.prog.types[3]).size) 0 = X.getD i.toNat 0 := by rw [em, hR]; exact stg_at rfl (by omega) i0 (by omega)
      have xi := Xi i.toNat (by omega)
      have ui := Ui i.toNat (by omega)
      have es : (R.set (mulN i.toNat (Tryd.prog.types[3]).size) (max (R.getD (mulN i.toNat (Tryd.prog.types[3]).size) 0) 1)).getD (mulN i.toNat (Tryd.prog.types[3]).size) 0 = max (X.getD i.toNat 0) 1 := by
        rw [getD_set, if_pos ⟨rfl, by rw [em]; omega⟩, er]
      repeat' ((conv => whnf); first | (refine ask_true (by omega) ?_) | (refine And.intro (by omega) ?_) | (refine fun (_ : InK _ _) => ?_) | (refine ask_wrap64 (by omega) (by omega) ?_) | (refine ⟨by kernel_rfl, ?_⟩) | fail)
      conv => whnf
      refine ⟨(4 - (i + 1)).toNat, (i + 1, R.set (mulN i.toNat (Tryd.prog.types[3]).size) (max (R.getD (mulN i.toNat (Tryd.prog.types[3]).size) 0) 1), max top ((R.set (mulN i.toNat (Tryd.prog.types[3]).size) (max (R.getD (mulN i.toNat (Tryd.prog.types[3]).size) 0) 1)).getD (mulN i.toNat (Tryd.prog.types[3]).size) 0)), by omega, ⟨by show 0 ≤ i + 1; omega, by show i + 1 ≤ 4; omega, rfl, ?_, ?_, ?_⟩, rfl, ⟨⟨Nat.le_of_ble_eq_true rfl, rfl⟩, ⟨Nat.le_of_ble_eq_true rfl, rfl⟩, trivial⟩, ⟨rfl, rfl, trivial⟩, rfl, rfl, Nat.zero_le _⟩
      · show R.set (mulN i.toNat (Tryd.prog.types[3]).size) (max (R.getD (mulN i.toNat (Tryd.prog.types[3]).size) 0) 1) = stg (up1 X) X (i + 1)
        rw [er, hR]
        exact stg_set emi (by omega) i0 (by omega) ui
      · show 0 ≤ max top _ ∧ max top _ ≤ 20
        rw [es]; omega
      · intro j hj'
        have hj' : (j : Int) < i + 1 := hj'
        show (up1 X).getD j 0 ≤ max top _
        rw [es]
        rcases Int.lt_or_le (j : Int) i with h1 | h1
        · have := hj j h1; omega
        · have e : j = i.toNat := by omega
          rw [e, ui]; omega
    · have Re : R = up1 X := by rw [hR]; exact stg_all (by omega) (by omega)
      have i4 : i = 4 := by omega
      subst i4
      repeat' ((conv => whnf); first | (refine ask_false (by omega) ?_) | fail)
      conv => whnf
      obtain ⟨d, ed⟩ : ∃ d, d = more.tmod (21 - top) := ⟨_, rfl⟩
      have hd : 0 ≤ d ∧ d < 21 - top := by
        rw [ed, Int.tmod_eq_emod_of_nonneg hm.1]
        exact ⟨Int.emod_nonneg _ (by omega), Int.emod_lt_of_pos _ (by omega)⟩
      have Dl : (upD d (up1 X)).length = 4 := by unfold upD; rw [List.length_map, Ul]
      have Di : ∀ i : Nat, i < 4 → (upD d (up1 X)).getD i 0 = (up1 X).getD i 0 + d := fun i hi => by unfold upD; rw [getD_map (by omega)]
      refine loop_at2 (11 :: List.range' 33 15) (fun m (k : Int) (Y : List Int) => 0 ≤ k ∧ k ≤ 4 ∧ m = (4 - k).toNat ∧ Y = stg (upD d (up1 X)) (up1 X) k) (fun k _ => [(11, vi k)]) (fun _ Y => [.own 25 [.ints .i64 4 ls], .own 25 [.ints .i64 4 R], .own 25 [.ints .i64 4 Y]]) 4 0 R ⟨by decide, by decide, rfl, by rw [stg_zero]; exact Re⟩ ?_ ?_
      · exact ⟨rfl, ⟨⟨Nat.le_of_ble_eq_true rfl, rfl⟩, trivial⟩, ⟨rfl, rfl, rfl, trivial⟩, rfl, rfl, Nat.zero_le _⟩
      · rintro _ k Y ⟨k0, k1, rfl, hY⟩
        have emk := em k
        rcases Int.lt_or_le k 4 with k2 | k2
        · have ek : R.getD (mulN k.toNat (Tryd.prog.types[3]).size) 0 = (up1 X).getD k.toNat 0 := by rw [emk, Re]
          have uk := Ui k.toNat (by omega)
          have xk := Xi k.toNat (by omega)
          have tk := hj k.toNat (by omega)
          repeat' ((conv => whnf); first | (refine ask_true (by omega) ?_) | (refine And.intro (by omega) ?_) | (refine fun (_ : InK _ _) => ?_) | (refine ask_wrap64 (by omega) (by omega) ?_) | (refine ask_is ed.symm ?_) | (refine ⟨by kernel_rfl, ?_⟩) | fail)
          conv => whnf
          refine ⟨(4 - (k + 1)).toNat, (k + 1, Y.set (mulN k.toNat (Tryd.prog.types[3]).size) (R.getD (mulN k.toNat (Tryd.prog.types[3]).size) 0 + d)), by omega, ⟨by show 0 ≤ k + 1; omega, by show k + 1 ≤ 4; omega, rfl, ?_⟩, rfl, ⟨⟨Nat.le_of_ble_eq_true rfl, rfl⟩, trivial⟩, ⟨rfl, rfl, rfl, trivial⟩, rfl, rfl, Nat.zero_le _⟩
          show Y.set (mulN k.toNat (Tryd.prog.types[3]).size) (R.getD (mulN k.toNat (Tryd.prog.types[3]).size) 0 + d) = stg (upD d (up1 X)) (up1 X) (k + 1)
          rw [hY, ek]
          exact stg_set emk (by omega) k0 (by omega) (Di k.toNat (by omega))
        · have Ye : Y = upD d (up1 X) := by rw [hY]; exact stg_all (by omega) (by omega)
          repeat' ((conv => whnf); first | (refine ask_false (by omega) ?_) | (refine And.intro (by omega) ?_) | (refine ask_wrap64 (by omega) (by omega) ?_) | fail)
          conv => whnf
          intro n hn
          have hn' : 0 ≤ n ∧ n ≤ 399 := by rw [hn, Int.tmod_eq_emod_of_nonneg hb.1]; omega
          clear hn
          have sh : Shift R Y d := fun j hj4 => by
            have u := Ui j hj4
            have x := Xi j hj4
            rw [Re, Ye, Di j hj4]
            exact ⟨by omega, by omega, rfl⟩
          have r1 : rightP R n := (rightP_def _ _).2 ⟨fun j hj4 => by
            have u := Ui j hj4
            have x := Xi j hj4
            rw [Re]; omega, by omega, by omega⟩
          have r2 : rightP Y n := (rightP_def _ _).2 ⟨fun j hj4 => by
            have u := Ui j hj4
            have x := Xi j hj4
            have tj := hj j (by omega)
            rw [Ye, Di j hj4]; omega, by omega, by omega⟩
          have eq := pul_shift sh r1 r2
          repeat' ((conv => whnf); first | (refine ask_wrap64 (by omega) (by omega) ?_) | (refine ask_same eq ?_) | (refine ⟨by kernel_rfl, ?_⟩) | rfl | fail)
theorem law_SpareSame (xs : List Int) (h : xs.length = 4) (hx : ∀ x ∈ xs, InK .i64 x) (b : Int) (hb : InK .u16 b) (m : Int) (hm : InK .u8 m) (w0 : World) (hg : GW G1 w0) : Calls Tryd.prog 9 #[.agg (xs.map (Value.int .i64)).toArray, .int .u16 b, .int .u8 m] w0 fun e w' => e = .returned (.bool true) ∧ Below w0.heap.size w0 w' := by
  have hd1 : ∀ σ, (W.den σ (ar4 xs)) = Value.agg (xs.map (Value.int .i64)).toArray := fun σ => by simp [W.den, dens, Seg.den]
  have hd : ([ar4 xs, .c (.ci .u16 b), u8 m].map (W.den fun _ => (0, 0))).toArray = #[Value.agg (xs.map (Value.int .i64)).toArray, .int .u16 b, .int .u8 m] := by rw [← hd1 (fun _ => (0, 0))]; rfl
  have := walkq_true FSa_ok Tryd.func9 (ws := [ar4 xs, .c (.ci .u16 b), u8 m]) ⟨⟨⟨h, hx⟩, trivial⟩, hb, hm, trivial⟩ rfl (n := 0) (sameS_walk xs h b m hb hm) w0 hg
  rw [hd] at this; exact this
end Go.Proofs.YtmkdamfdlkpjdaaDoor
