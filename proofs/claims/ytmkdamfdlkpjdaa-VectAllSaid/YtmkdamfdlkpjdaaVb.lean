/- Chapter vect: counts; a function that turns a map, over more blocks. -/
import Derived.Test.YtmkdamfdlkpjdaaVa
set_option linter.all false
namespace Go.Proofs.Ytmkdamfdlkpjdaa
open Go.RowKit (Below)
open Go.WideMaps
set_option maxRecDepth 100000
set_option maxHeartbeats 32000000

/-! ### a walk over one map behind any blocks -/
theorem map_lift {F : Fns} (hF : FnsOk Try.prog F) {d : Nat} {f : FuncId} {fn : Func} (hf : Try.prog.funcs[f]? = some fn) {ws : List W} {Q : Int → Int → Int → Prop} {y : V} (hy : y.ok 0) (hr : rngW ws) (hb : bndW 0 ws = true) {R : Obj → Prop}
    (h : ∀ T : List Blk, HOk (T ++ [.obj R]) → walk F d fn (.c (.cm T.length) :: ws) (T ++ [.obj R]) fun x H' => x = y ∧ ∃ R' B, H' = T ++ .obj R' :: B ∧ ∀ o, R' o → mapI Q o)
    {H : List Blk} {j : Nat} (hj : H[j]? = some (.obj R)) {K : V → List Blk → Prop} (hK : K y (H.set j (.obj (mapI Q)))) (ho : HOk H) (G : Glo) (σ : Sg) (base : Nat) (w₀ w : World) (hw : Rep G σ base w₀ w H) :
    Calls Try.prog f ((W.c (.cm j) :: ws).map (W.den σ)).toArray w (LeftG G σ base w₀ H.length K) := by
  have hjl := (List.getElem?_eq_some_iff.1 hj).1
  obtain ⟨T, eT⟩ : ∃ T, T = H.set j .gone := ⟨_, rfl⟩
  have Tl : T.length = H.length := by rw [eT]; simp
  have Tat : ∀ i, i ≠ j → T[i]? = H[i]? := fun i hi => by rw [eT, List.getElem?_set_ne (Ne.symm hi)]
  have Tj : T[j]? = some .gone := by rw [eT, List.getElem?_set_self hjl]
  have ha := Sg.upd_agree σ H.length (σ j)
  have mono : ∀ b : Blk, b.bnd H.length = true → b.bnd (T ++ [Blk.obj R]).length = true := fun b hb => by
    cases b with
    | own X ss => exact bnds_mono (by simp [Tl]) ss hb
    | ro ss => exact bnds_mono (by simp [Tl]) ss hb
    | obj R => rfl
    | gone => rfl
  have ho' : HOk (T ++ [.obj R]) := by
    refine ⟨fun b hb => ?_, fun b hb => ?_⟩ <;> rcases List.mem_append.1 hb with h | h
    · rw [eT] at h
      rcases List.mem_or_eq_of_mem_set h with h | h
      · exact ho.rng b h
      · rw [h]; trivial
    · rw [List.mem_singleton.1 h]; trivial
    · rw [eT] at h
      rcases List.mem_or_eq_of_mem_set h with h | h
      · exact mono b (ho.bnd b h)
      · rw [h]; rfl
    · rw [List.mem_singleton.1 h]; rfl
  have at0 : ∀ (i : Nat) (b : Blk), (T ++ [Blk.obj R])[i]? = some b → b = .gone ∨ (i ≠ j ∧ i < H.length ∧ H[i]? = some b) ∨ (i = H.length ∧ b = .obj R) := fun i b hi => by
    rcases Nat.lt_or_ge i H.length with hlt | hge
    · rw [List.getElem?_append_left (by omega)] at hi
      by_cases hij : i = j
      · subst hij
        rw [Tj] at hi
        exact .inl (Option.some.inj hi).symm
      · rw [Tat i hij] at hi
        exact .inr (.inl ⟨hij, hlt, hi⟩)
    · rw [List.getElem?_append_right (by omega)] at hi
      have hl := (List.getElem?_eq_some_iff.1 hi).1
      simp at hl
      obtain rfl : i = H.length := by omega
      rw [Tl, Nat.sub_self] at hi
      exact .inr (.inr ⟨rfl, (Option.some.inj hi).symm⟩)
  have hw0 : Rep E0.G (σ.upd H.length (σ j)) base w₀ w (T ++ [.obj R]) := by
    refine ⟨hw.below, hw.size, fun i b hi => ?_, fun i i' b c hi hi' hbm hcm hne => ?_, fun g ss hg => by cases hg⟩
    · rcases at0 i b hi with rfl | ⟨hij, hlt, hH⟩ | ⟨rfl, rfl⟩
      · trivial
      · exact Blk.rep_agree ha hlt (ho.bnd b (List.mem_of_getElem? hH)) (hw.blk i b hH)
      · have := hw.blk j _ hj
        simpa only [Blk.rep, Sg.upd_self] using this
    · rcases at0 i b hi with rfl | ⟨hij, hlt, hH⟩ | ⟨rfl, rfl⟩
      · cases hbm
      · rcases at0 i' c hi' with rfl | ⟨hij', hlt', hH'⟩ | ⟨rfl, rfl⟩
        · cases hcm
        · rw [← ha i hlt, ← ha i' hlt']
          exact hw.sep i i' b c hH hH' hbm hcm hne
        · rw [← ha i hlt, Sg.upd_self]
          exact hw.sep i j b _ hH hj hbm rfl hij
      · rcases at0 i' c hi' with rfl | ⟨hij', hlt', hH'⟩ | ⟨rfl, rfl⟩
        · cases hcm
        · rw [← ha i' hlt', Sg.upd_self]
          exact hw.sep j i' _ c hj hH' rfl hcm (Ne.symm hij')
        · exact absurd rfl hne
  have eσ : (σ.upd H.length (σ j)) T.length = σ j := by rw [Tl, Sg.upd_self]
  have eargs : ((W.c (.cm j) :: ws).map (W.den σ)) = ((W.c (.cm T.length) :: ws).map (W.den (σ.upd H.length (σ j)))) := by
    rw [List.map_cons, List.map_cons, denW_agree (n := 0) (τ := σ.upd H.length (σ j)) (fun i hi => absurd hi (Nat.not_lt_zero i)) ws hb]
    congr 1
    simp only [W.den, C.den, eσ]
  rw [eargs]
  refine (xfun_spec E0_ok (calF_ok E0_ok hF (fun cal hc => drwA_ok E0_ok hF mixed cal hc) d) (drwA_ok E0_ok hF mixed _ (calF_ok E0_ok hF (fun cal hc => drwA_ok E0_ok hF mixed cal hc) d)) hf (h T ho') ⟨trivial, hr⟩ (by
    show (decide (T.length < (T ++ [Blk.obj R]).length) && bndW _ ws) = true
    rw [bndW_mono (Nat.zero_le _) ws hb]; simp) ho' (σ.upd H.length (σ j)) base w₀ w hw0).mono ?_
  rintro e w' ⟨τ, x, H', v, rfl, h1, ⟨rfl, R', B, rfl, hR'⟩, h3, h4, h5, h6, h7⟩
  have hag : Sg.agree H.length σ τ := fun i hi => (ha i hi).trans (h3 i (by simp; omega))
  have eτ : τ H.length = τ j := by
    rw [← h3 H.length (by simp; omega), ← h3 j (by simp; omega), Sg.upd_self, ← ha j hjl]
  have mapAtEnd := h4.blk H.length (.obj R') (by rw [List.getElem?_append_right (by omega), Tl, Nat.sub_self]; rfl)
  have low : ∀ i b, i ≠ j → i < H.length → H[i]? = some b → (T ++ Blk.obj R' :: B)[i]? = some b := fun i b hij hlt hi => by
    rw [List.getElem?_append_left (by omega), Tat i hij]; exact hi
  have top : (T ++ Blk.obj R' :: B)[H.length]? = some (.obj R') := by rw [List.getElem?_append_right (by omega), Tl, Nat.sub_self]; rfl
  have at1 : ∀ (i : Nat) (b : Blk), (H.set j (Blk.obj (mapI Q)))[i]? = some b → (i = j ∧ b = .obj (mapI Q)) ∨ (i ≠ j ∧ i < H.length ∧ H[i]? = some b) := fun i b hi => by
    by_cases hij : i = j
    · subst hij
      rw [List.getElem?_set_self hjl] at hi
      exact .inl ⟨rfl, (Option.some.inj hi).symm⟩
    · rw [List.getElem?_set_ne (Ne.symm hij)] at hi
      exact .inr ⟨hij, (List.getElem?_eq_some_iff.1 hi).1, hi⟩
  refine ⟨τ, _, _, v, rfl, h1, hK, hag, ⟨h4.below, h4.size, fun i b hi => ?_, fun i i' b c hi hi' hbm hcm hne => ?_, fun g ss hg => ?_⟩, ho.set trivial rfl, V.ok_mono (Nat.zero_le _) hy, by simp⟩
  · rcases at1 i b hi with ⟨rfl, rfl⟩ | ⟨hij, hlt, hH⟩
    · obtain ⟨q1, q2, o, q3, q4⟩ := mapAtEnd
      rw [eτ] at q1 q2 q3
      exact ⟨q1, q2, o, q3, hR' o q4⟩
    · exact h4.blk i b (low i b hij hlt hH)
  · rcases at1 i b hi with ⟨rfl, rfl⟩ | ⟨hij, hlt, hH⟩ <;> rcases at1 i' c hi' with ⟨e', rfl⟩ | ⟨hij', hlt', hH'⟩
    · exact absurd e'.symm hne
    · rw [← eτ]
      exact h4.sep H.length i' _ c top (low i' c hij' hlt' hH') rfl hcm (by omega)
    · subst e'
      rw [← eτ]
      exact h4.sep i H.length b _ (low i b hij hlt hH) top hbm rfl (by omega)
    · exact h4.sep i i' b c (low i b hij hlt hH) (low i' c hij' hlt' hH') hbm hcm hne
  · obtain ⟨g1, g2, g3⟩ := hw.glo g ss hg
    refine ⟨g1, g2, fun i u hu => ?_⟩
    have hu' : (dens σ ss)[i]? = some u := by
      rw [dens_agree (n := 0) (τ := τ) (fun j hj => absurd hj (Nat.not_lt_zero j)) ss g2]; exact hu
    have := g3 i u hu'
    rw [cell_eq_of_block (w := w) (w' := w')]
    · exact this
    · show w'.heap[g]? = w.heap[g]?
      rw [h4.below.block g g1, hw.below.block g g1]
end Go.Proofs.Ytmkdamfdlkpjdaa
