/- Wv, Wl, Wk: what the law wants of them. -/
import Derived.Test.YtaficaacogcblaaGreatDoorZf
set_option linter.all false
namespace Go.Proofs.YtaficaacogcblaaGreatDoor
namespace V
open Go.RowKit (Below)
set_option maxRecDepth 100000
set_option maxHeartbeats 64000000
theorem getD_range {f : Nat → Int} {m i : Nat} (h : i < m) : ((List.range m).map f).getD i 0 = f i := by
  simp [List.getD_eq_getElem?_getD, h]
theorem no_ro {H : List Blk} {ρ : Nat → Nat} : ∀ (k : Nat) (b : Blk), ([] : List Blk)[k]? = some b → b = .gone ∨ ∃ ss, b = .ro ss ∧ ((∃ T, H[ρ k]? = some (.own T (rens ρ ss))) ∨ H[ρ k]? = some (.ro (rens ρ ss))) := fun k b hb => by simp at hb
theorem nil_ok : HOk [] := ⟨fun b hb => (by cases hb), fun b hb => (by cases hb)⟩
def absI (x : Int) : Int := max x (0 - x)
@[irreducible] def szV (x : Int) : Int := if x < -8 ∨ 8 < x then 9 else absI x
theorem szV_def (x : Int) : szV x = if x < -8 ∨ 8 < x then 9 else absI x := by unfold szV; rfl
theorem szV_in (x : Int) : 0 ≤ szV x ∧ szV x ≤ 9 := by rw [szV_def]; unfold absI; split <;> omega
theorem szV_abs {x : Int} (h : -8 ≤ x ∧ x ≤ 8) : szV x = absI x := by rw [szV_def, if_neg (by omega)]
theorem vsize_walk (x : Int) (hx : InK .i64 x) : walk F0 0 Tryz.f142 [i64 x] [] fun y _ => y = vi (szV x) := by
  conv => whnf
  refine ask_split (fun h1 => ?_) (fun h1 => ?_)
  · rw [show szV x = 9 by rw [szV_def, if_pos (.inl h1)]]
    repeat' ((conv => whnf); first | rfl | fail)
  · conv => whnf
    refine ask_split (fun h2 => ?_) (fun h2 => ?_)
    · rw [show szV x = 9 by rw [szV_def, if_pos (.inr h2)]]
      repeat' ((conv => whnf); first | rfl | fail)
    · rw [szV_abs (by omega)]
      repeat' ((conv => whnf); first | (refine ask_wrap64 (by omega) (by omega) ?_) | rfl | fail)
theorem vsize_ct : CtOk Tryz.prog 142 (ct1 (fun _ => True) szV) := ct1_ok F0_ok Tryz.func142 (fun a _ _ => by have := szV_in a; simp only [InK, lowK, highK]; omega) fun a h _ => vsize_walk a h
def sumA (xs : List Int) : Nat → Int
  | 0 => 0
  | i + 1 => sumA xs i + szV (xs.getD i 0)
theorem sumA_in (xs : List Int) : ∀ i : Nat, 0 ≤ sumA xs i ∧ sumA xs i ≤ 9 * i
  | 0 => ⟨Int.le_refl 0, Int.le_refl 0⟩
  | i + 1 => by
    have := sumA_in xs i
    have := szV_in (xs.getD i 0)
    show 0 ≤ sumA xs i + szV (xs.getD i 0) ∧ sumA xs i + szV (xs.getD i 0) ≤ 9 * ((i + 1 : Nat) : Int)
    omega
def rowS (j : Nat) (xs : List Int) (v : V) (b : Blk) : Prop :=
  (xs = [] ∧ v = .w (.c .csn) ∧ b = .gone) ∨ (xs ≠ [] ∧ ∃ (c : Nat) (rest : List Int), xs.length ≤ c ∧ c ≤ 9223372036854775807 ∧ rest.length = c - xs.length ∧ v = .w (.c (.csl j 0 0 xs.length c)) ∧ b = .own 3 [.ints .i64 c (xs ++ rest)])
theorem rowS_next {j c m : Nat} {A rest : List Int} {v : Int} (hm : m = A.length) (h : m + 1 ≤ c) (hc : c ≤ 9223372036854775807) (hr : rest.length = c - (m + 1)) : rowS j (A ++ [v]) (.w (.c (.csl j 0 0 (m + 1) c))) (.own 3 [.ints .i64 c (A ++ [v] ++ rest)]) := by
  have e : (A ++ [v]).length = m + 1 := by simp [hm]
  exact .inr ⟨by simp, c, rest, by omega, hc, by omega, by rw [e], rfl⟩
theorem room_eq {A rest : List Int} {v : Int} {m : Nat} (hm : m = A.length) : List.take m (A ++ rest) ++ List.take 1 (List.drop 0 [v]) ++ List.drop (m + 1) (A ++ rest) = A ++ [v] ++ rest.drop 1 := by
  subst hm
  have e : List.drop (A.length + 1) (A ++ rest) = rest.drop 1 := by
    rw [List.drop_append, List.drop_of_length_le (show A.length ≤ A.length + 1 by omega), List.nil_append, show A.length + 1 - A.length = 1 by omega]
  rw [List.take_append_of_le_length (Nat.le_refl _), List.take_length, e]
  rfl
theorem grow_eq {A rest : List Int} {v : Int} {m : Nat} (hm : m = A.length) : List.take m (A ++ rest) ++ List.take 1 (List.drop 0 [v]) = A ++ [v] := by
  subst hm
  rw [List.take_append_of_le_length (Nat.le_refl _), List.take_length]
  rfl
theorem fresh_as {e : TypeId} {k : IntKind} {H : List Blk} {m : Nat} {ys zs : List Int} {K : C → List Blk → Prop} (hy : ys = zs) (h : ∀ (c : Nat) (R : List Int), m ≤ c → c ≤ 9223372036854775807 → R.length = c - m → lenH H 0 fun n => pushH H (.own e [.ints k c (zs ++ R)]) fun H' => K (.csl n 0 0 m c) H') : freshK e k H m ys K := by
  subst hy
  exact fun c h1 h2 => h c _ h1 h2 (List.length_replicate ..)
theorem left_at {xs rest : List Int} {i : Nat} (h : i < xs.length) : (xs ++ rest).getD i 0 = xs.getD i 0 := by
  rw [List.getD_eq_getElem?_getD, List.getD_eq_getElem?_getD, List.getElem?_append_left h]
def noneP (e : Int) (x : V) (N : List Blk) : Prop := x = .tup [.c .csn, i64 e] ∧ N = []
theorem none_K {H : List Blk} {K : V → List Blk → Prop} {e : Int} (h : K (.tup [.c .csn, i64 e]) H) : ∀ x N, noneP e x N → K (x.ren (sh H.length)) (H ++ N.map (Blk.ren (sh H.length))) := by
  rintro x N ⟨rfl, rfl⟩
  simpa [V.ren, renW, W.ren, C.ren] using h
theorem none_mine {e : Int} : ∀ x N, noneP e x N → ∀ b ∈ N, b.mine = true ∨ b = .gone := by
  rintro x N ⟨_, rfl⟩ b hb; cases hb
open Go.WideMaps
set_option maxRecDepth 100000
set_option maxHeartbeats 32000000
theorem map_lift {F : Fns} (hF : FnsOk Tryz.prog F) {d : Nat} {f : FuncId} {fn : Func} (hf : Tryz.prog.funcs[f]? = some fn) {ws : List W} {Q : Int → Int → Int → Prop} {y : V} (hy : y.ok 0) (hr : rngW ws) (hb : bndW 0 ws = true) {R : Obj → Prop}
    (h : ∀ T : List Blk, HOk (T ++ [.obj R]) → walk F d fn (.c (.cm T.length) :: ws) (T ++ [.obj R]) fun x H' => x = y ∧ ∃ R' B, H' = T ++ .obj R' :: B ∧ ∀ o, R' o → mapI Q o)
    {H : List Blk} {j : Nat} (hj : H[j]? = some (.obj R)) {K : V → List Blk → Prop} (hK : K y (H.set j (.obj (mapI Q)))) (ho : HOk H) (G : Glo) (σ : Sg) (base : Nat) (w₀ w : World) (hw : Rep G σ base w₀ w H) :
    Calls Tryz.prog f ((W.c (.cm j) :: ws).map (W.den σ)).toArray w (LeftG G σ base w₀ H.length K) := by
  have hjl := (List.getElem?_eq_some_iff.1 hj).1
  obtain ⟨T, eT⟩ : ∃ T, T = H.set j .gone := ⟨_, rfl⟩
  have Tl : T.length = H.length := by rw [eT]; simp
  have Tat : ∀ i, i ≠ j → T[i]? = H[i]? := fun i hi => by rw [eT, List.getElem?_set_ne (Ne.symm hi)]
  have Tj : T[j]? = some .gone := by rw [eT, List.getElem?_set_self hjl]
  have ha := Sg.upd_agree σ H.length (σ j)
  have mono : ∀ b : Blk, b.bnd H.length = true → b.bnd (T ++ [Blk.obj R]).length = true := fun b hb => by
    cases b with
    | own X ss => exact bnds_mono (by simp [Tl]) ss hb
    | ro ss => exact bnds_mono (by simp [Tl]) ss hb
    | obj R => rfl
    | gone => rfl
  have ho' : HOk (T ++ [.obj R]) := by
    refine ⟨fun b hb => ?_, fun b hb => ?_⟩ <;> rcases List.mem_append.1 hb with h | h
    · rw [eT] at h
      rcases List.mem_or_eq_of_mem_set h with h | h
      · exact ho.rng b h
      · rw [h]; trivial
    · rw [List.mem_singleton.1 h]; trivial
    · rw [eT] at h
      rcases List.mem_or_eq_of_mem_set h with h | h
      · exact mono b (ho.bnd b h)
      · rw [h]; rfl
    · rw [List.mem_singleton.1 h]; rfl
  have at0 : ∀ (i : Nat) (b : Blk), (T ++ [Blk.obj R])[i]? = some b → b = .gone ∨ (i ≠ j ∧ i < H.length ∧ H[i]? = some b) ∨ (i = H.length ∧ b = .obj R) := fun i b hi => by
    rcases Nat.lt_or_ge i H.length with hlt | hge
    · rw [List.getElem?_append_left (by omega)] at hi
      by_cases hij : i = j
      · subst hij
        rw [Tj] at hi
        exact .inl (Option.some.inj hi).symm
      · rw [Tat i hij] at hi
        exact .inr (.inl ⟨hij, hlt, hi⟩)
    · rw [List.getElem?_append_right (by omega)] at hi
      have hl := (List.getElem?_eq_some_iff.1 hi).1
      simp at hl
      obtain rfl : i = H.length := by omega
      rw [Tl, Nat.sub_self] at hi
      exact .inr (.inr ⟨rfl, (Option.some.inj hi).symm⟩)
  have hw0 : Rep E0.G (σ.upd H.length (σ j)) base w₀ w (T ++ [.obj R]) := by
    refine ⟨hw.below, hw.size, fun i b hi => ?_, fun i i' b c hi hi' hbm hcm hne => ?_, fun g ss hg => by cases hg⟩
    · rcases at0 i b hi with rfl | ⟨hij, hlt, hH⟩ | ⟨rfl, rfl⟩
      · trivial
      · exact Blk.rep_agree ha hlt (ho.bnd b (List.mem_of_getElem? hH)) (hw.blk i b hH)
      · have := hw.blk j _ hj
        simpa only [Blk.rep, Sg.upd_self] using this
    · rcases at0 i b hi with rfl | ⟨hij, hlt, hH⟩ | ⟨rfl, rfl⟩
      · cases hbm
      · rcases at0 i' c hi' with rfl | ⟨hij', hlt', hH'⟩ | ⟨rfl, rfl⟩
        · cases hcm
        · rw [← ha i hlt, ← ha i' hlt']
          exact hw.sep i i' b c hH hH' hbm hcm hne
        · rw [← ha i hlt, Sg.upd_self]
          exact hw.sep i j b _ hH hj hbm rfl hij
      · rcases at0 i' c hi' with rfl | ⟨hij', hlt', hH'⟩ | ⟨rfl, rfl⟩
        · cases hcm
        · rw [← ha i' hlt', Sg.upd_self]
          exact hw.sep j i' _ c hj hH' rfl hcm (Ne.symm hij')
        · exact absurd rfl hne
  have eσ : (σ.upd H.length (σ j)) T.length = σ j := by rw [Tl, Sg.upd_self]
  have eargs : ((W.c (.cm j) :: ws).map (W.den σ)) = ((W.c (.cm T.length) :: ws).map (W.den (σ.upd H.length (σ j)))) := by
    rw [List.map_cons, List.map_cons, denW_agree (n := 0) (τ := σ.upd H.length (σ j)) (fun i hi => absurd hi (Nat.not_lt_zero i)) ws hb]
    congr 1
    simp only [W.den, C.den, eσ]
  rw [eargs]
  refine (xfun_spec E0_ok (calF_ok E0_ok hF (fun cal hc => drwA_ok E0_ok hF mixed cal hc) d) (drwA_ok E0_ok hF mixed _ (calF_ok E0_ok hF (fun cal hc => drwA_ok E0_ok hF mixed cal hc) d)) hf (h T ho') ⟨trivial, hr⟩ (by
    show (decide (T.length < (T ++ [Blk.obj R]).length) && bndW _ ws) = true
    rw [bndW_mono (Nat.zero_le _) ws hb]; simp) ho' (σ.upd H.length (σ j)) base w₀ w hw0).mono ?_
  rintro e w' ⟨τ, x, H', v, rfl, h1, ⟨rfl, R', B, rfl, hR'⟩, h3, h4, h5, h6, h7⟩
  have hag : Sg.agree H.length σ τ := fun i hi => (ha i hi).trans (h3 i (by simp; omega))
  have eτ : τ H.length = τ j := by
    rw [← h3 H.length (by simp; omega), ← h3 j (by simp; omega), Sg.upd_self, ← ha j hjl]
  have mapAtEnd := h4.blk H.length (.obj R') (by rw [List.getElem?_append_right (by omega), Tl, Nat.sub_self]; rfl)
  have low : ∀ i b, i ≠ j → i < H.length → H[i]? = some b → (T ++ Blk.obj R' :: B)[i]? = some b := fun i b hij hlt hi => by
    rw [List.getElem?_append_left (by omega), Tat i hij]; exact hi
  have top : (T ++ Blk.obj R' :: B)[H.length]? = some (.obj R') := by rw [List.getElem?_append_right (by omega), Tl, Nat.sub_self]; rfl
  have at1 : ∀ (i : Nat) (b : Blk), (H.set j (Blk.obj (mapI Q)))[i]? = some b → (i = j ∧ b = .obj (mapI Q)) ∨ (i ≠ j ∧ i < H.length ∧ H[i]? = some b) := fun i b hi => by
    by_cases hij : i = j
    · subst hij
      rw [List.getElem?_set_self hjl] at hi
      exact .inl ⟨rfl, (Option.some.inj hi).symm⟩
    · rw [List.getElem?_set_ne (Ne.symm hij)] at hi
      exact .inr ⟨hij, (List.getElem?_eq_some_iff.1 hi).1, hi⟩
  refine ⟨τ, _, _, v, rfl, h1, hK, hag, ⟨h4.below, h4.size, fun i b hi => ?_, fun i i' b c hi hi' hbm hcm hne => ?_, fun g ss hg => ?_⟩, ho.set trivial rfl, V.ok_mono (Nat.zero_le _) hy, by simp⟩
  · rcases at1 i b hi with ⟨rfl, rfl⟩ | ⟨hij, hlt, hH⟩
    · obtain ⟨q1, q2, o, q3, q4⟩ := mapAtEnd
      rw [eτ] at q1 q2 q3
      exact ⟨q1, q2, o, q3, hR' o q4⟩
    · exact h4.blk i b (low i b hij hlt hH)
  · rcases at1 i b hi with ⟨rfl, rfl⟩ | ⟨hij, hlt, hH⟩ <;> rcases at1 i' c hi' with ⟨e', rfl⟩ | ⟨hij', hlt', hH'⟩
    · exact absurd e'.symm hne
    · rw [← eτ]
      exact h4.sep H.length i' _ c top (low i' c hij' hlt' hH') rfl hcm (by omega)
    · subst e'
      rw [← eτ]
      exact h4.sep i H.length b _ (low i b hij hlt hH) top hbm rfl (by omega)
    · exact h4.sep i i' b c (low i b hij hlt hH) (low i' c hij' hlt' hH') hbm hcm hne
  · obtain ⟨g1, g2, g3⟩ := hw.glo g ss hg
    refine ⟨g1, g2, fun i u hu => ?_⟩
    have hu' : (dens σ ss)[i]? = some u := by
      rw [dens_agree (n := 0) (τ := τ) (fun j hj => absurd hj (Nat.not_lt_zero j)) ss g2]; exact hu
    have := g3 i u hu'
    rw [cell_eq_of_block (w := w) (w' := w')]
    · exact this
    · show w'.heap[g]? = w.heap[g]?
      rw [h4.below.block g g1, hw.below.block g g1]
def sumTo (xs : List Int) : Nat → Int
  | 0 => 0
  | j + 1 => sumTo xs j + xs.getD j 0
def crow : Nat → List Int
  | 0 => [1, 0, 0, 0, 0, 0, 0, 0, 0]
  | n + 1 => (List.range 9).map fun k => (crow n).getD k 0 + 2 * sumTo (crow n) k
@[irreducible] noncomputable def cN : Int → Int → Int := sealed fun n k => if n < 0 ∨ k < 0 then 0 else (crow n.toNat).getD k.toNat 0
theorem cN_def (n k : Int) : cN n k = if n < 0 ∨ k < 0 then 0 else (crow n.toNat).getD k.toNat 0 := by unfold cN; rw [sealed_eq]
theorem cN_neg {n k : Int} (h : n < 0 ∨ k < 0) : cN n k = 0 := by rw [cN_def, if_pos h]
theorem cN_nat (n k : Nat) : cN n k = (crow n).getD k 0 := by rw [cN_def, if_neg (by omega), Int.toNat_natCast, Int.toNat_natCast]
theorem crow_in : (List.range 9).all (fun n => (List.range 9).all fun k => decide (0 ≤ (crow n).getD k 0 ∧ (crow n).getD k 0 ≤ 4294967296)) = true := by kernel_rfl
theorem cN_in {n k : Int} (hn : n ≤ 8) (hk : k ≤ 8) : 0 ≤ cN n k ∧ cN n k ≤ 4294967296 := by
  rcases Classical.em (n < 0 ∨ k < 0) with h | h
  · rw [cN_neg h]; decide
  · rw [cN_def, if_neg h]
    have h1 := List.all_eq_true.1 crow_in n.toNat (List.mem_range.2 (by omega))
    exact of_decide_eq_true (List.all_eq_true.1 h1 k.toNat (List.mem_range.2 (by omega)))
theorem cN_zero : cN 0 0 = 1 := by rw [cN_def]; decide
theorem cN_none {k : Int} (h : 1 ≤ k) (hk : k ≤ 8) : cN 0 k = 0 := by
  obtain rfl | rfl | rfl | rfl | rfl | rfl | rfl | rfl : k = 1 ∨ k = 2 ∨ k = 3 ∨ k = 4 ∨ k = 5 ∨ k = 6 ∨ k = 7 ∨ k = 8 := by omega
  all_goals rw [cN_def]; decide
noncomputable def partC (n k : Int) : Nat → Int
  | 0 => cN (n - 1) k
  | j + 1 => partC n k j + 2 * cN (n - 1) j
theorem partC_in {n k : Int} (hn : n ≤ 9) (hk : k ≤ 8) : ∀ j : Nat, j ≤ 9 → 0 ≤ partC n k j ∧ partC n k j ≤ 4294967296 * (1 + 2 * j)
  | 0, _ => by have := cN_in (n := n - 1) (k := k) (by omega) hk; show 0 ≤ cN _ _ ∧ cN _ _ ≤ _; omega
  | j + 1, hj => by
    have := partC_in hn hk j (by omega)
    have := cN_in (n := n - 1) (k := j) (by omega) (by omega)
    show 0 ≤ partC n k j + 2 * cN (n - 1) j ∧ partC n k j + 2 * cN (n - 1) j ≤ _
    omega
theorem partC_all {n k : Int} (h1 : 1 ≤ n) (hk : 0 ≤ k ∧ k ≤ 8) : partC n k k.toNat = cN n k := by
  have key : ∀ j : Nat, partC n k j = cN (n - 1) k + 2 * sumTo (crow (n - 1).toNat) j := fun j => by
    induction j with
    | zero => show cN _ _ = _ + 2 * (0 : Int); omega
    | succ j ih =>
      show partC n k j + 2 * cN (n - 1) j = _ + 2 * (sumTo _ j + _)
      rw [ih, show cN (n - 1) j = (crow (n - 1).toNat).getD j 0 by rw [cN_def, if_neg (by omega), Int.toNat_natCast]]
      omega
  rw [key, cN_def n k, if_neg (by omega), cN_def, if_neg (by omega), show n.toNat = (n - 1).toNat + 1 by omega]
  show _ = ((List.range 9).map fun k => (crow (n - 1).toNat).getD k 0 + 2 * sumTo (crow (n - 1).toNat) k).getD k.toNat 0
  rw [getD_range (by omega)]
def cntQ (a b v : Int) : Prop := v = cN a b
def hOf (m : Nat) : HCt := fun ws H K => match ws with
  | [.c (.cm j), .c (.ci .i64 n), .c (.ci .i64 k)] => mapAt H j cntQ ∧ (n ≤ m ∧ n ≤ 8 ∧ k ≤ 8) ∧ ∀ H', H' = H.set j (.obj (mapI cntQ)) → K (vi (cN n k)) H'
  | _ => False
theorem mty : MapTy Tryz.prog 219 := ⟨237, 3, 3, _, by kernel_rfl, ⟨by kernel_rfl, by kernel_rfl, by kernel_rfl, by kernel_rfl⟩, by kernel_rfl, ⟨Tryz.prog.types.size.pred, (Nat.succ_pred_eq_of_pos (of_decide_eq_true (by kernel_rfl))).symm⟩, rfl, by kernel_rfl⟩
theorem lenH_at {H : List Blk} {n : Nat} {K : Nat → Prop} (h : K (n + H.length)) : lenH H n K := (lenH_iff _ _ _).2 h
theorem pushH_at {H : List Blk} {b : Blk} {K : List Blk → Prop} (h : K (H ++ [b])) : pushH H b K := (pushH_iff _ _ _).2 h
theorem setH_at {H : List Blk} {n : Nat} {b : Blk} {K : List Blk → Prop} (h : K (H.set n b)) : setH H n b K := (setH_iff _ _ _ _).2 h
theorem wkH_refl : ∀ H : List Blk, wkH H H
  | [] => trivial
  | .gone :: H => wkH_refl H
  | .own _ _ :: H => ⟨rfl, wkH_refl H⟩
  | .ro _ :: H => ⟨rfl, wkH_refl H⟩
  | .obj _ :: H => ⟨rfl, wkH_refl H⟩
theorem bndH_of {n : Nat} : ∀ {H : List Blk}, (∀ b ∈ H, b.bnd n = true) → bndH n H = true
  | [], _ => rfl
  | b :: H, h => by
    show (b.bnd n && bndH n H) = true
    rw [h b (by simp), bndH_of fun c hc => h c (by simp [hc])]; rfl
theorem and_t {a b : Bool} (h : a = true) (k : b = true) : (a && b) = true := by rw [h, k]; rfl
theorem Blk.bnd_up {n m : Nat} (h : n ≤ m) : ∀ b : Blk, b.bnd n = true → b.bnd m = true
  | .own _ ss, hb => bnds_mono h ss hb
  | .ro ss, hb => bnds_mono h ss hb
  | .obj _, _ => rfl
  | .gone, _ => rfl
theorem setH_as {H H' : List Blk} {n : Nat} {b : Blk} {K : List Blk → Prop} (h : H.set n b = H') (hk : K H') : setH H n b K := by
  subst h; exact setH_at hk
theorem hGet_at {b : Blk} : ∀ {H : List Blk} {n : Nat} {K : Blk → Prop}, H[n]? = some b → K b → hGet H n K
  | [], _, _, h, _ => by simp at h
  | _ :: _, 0, _, h, hk => by simp at h; subst h; exact hk
  | _ :: H, n + 1, _, h, hk => hGet_at (H := H) (n := n) (by simpa using h) hk
noncomputable def FO (m : Nat) : Fns := F0.over 141 (hOf m)
theorem of_walk (m : Nat) {n k : Int} (hn : n ≤ m + 1 ∧ n ≤ 8) (hk : k ≤ 8) (hni : InK .i64 n) (hki : InK .i64 k) {R : Obj → Prop} (hR : ∀ o, R o → mapI cntQ o) (T : List Blk) (hT : HOk (T ++ [.obj R])) :
    walk (FO m) 0 Tryz.f141 (.c (.cm T.length) :: [i64 n, i64 k]) (T ++ [.obj R]) fun x H' => x = vi (cN n k) ∧ ∃ R' B, H' = T ++ .obj R' :: B ∧ ∀ o, R' o → mapI cntQ o := by
  have stop : ∃ R' B, T ++ [.obj R] = T ++ .obj R' :: B ∧ ∀ o, R' o → mapI cntQ o := ⟨R, [], rfl, hR⟩
  obtain ⟨n1, n2⟩ := hni
  obtain ⟨k1, k2⟩ := hki
  simp only [lowK, highK] at n1 n2 k1 k2
  rcases Int.lt_or_le k 0 with hk0 | hk0
  · rw [cN_neg (.inr hk0)]
    repeat' ((conv => whnf); first | (refine lenH_at ?_) | (refine ask_true (by omega) ?_) | (refine ask_false (by omega) ?_) | fail)
    conv => whnf
    exact ⟨rfl, stop⟩
  · rcases Int.lt_or_le n 0 with hn0 | hn0
    · rw [cN_neg (.inl hn0)]
      repeat' ((conv => whnf); first | (refine lenH_at ?_) | (refine pushH_at ?_) | (refine setH_at ?_) | (refine ask_true (by omega) ?_) | (refine ask_false (by omega) ?_) | fail)
      conv => whnf
      exact ⟨rfl, stop⟩
    · rcases Classical.em (n = 0) with h0 | h0
      · subst h0
        rcases Classical.em (k = 0) with h1 | h1
        · subst h1
          rw [cN_zero]
          repeat' ((conv => whnf); first | (refine lenH_at ?_) | (refine pushH_at ?_) | (refine setH_at ?_) | (refine ask_true (by omega) ?_) | (refine ask_false (by omega) ?_) | fail)
          conv => whnf
          exact ⟨rfl, stop⟩
        · rw [cN_none (by omega) hk]
          repeat' ((conv => whnf); first | (refine lenH_at ?_) | (refine pushH_at ?_) | (refine setH_at ?_) | (refine ask_true (by omega) ?_) | (refine ask_false (by omega) ?_) | fail)
          conv => whnf
          exact ⟨rfl, stop⟩
      · repeat' ((conv => whnf); first | (refine lenH_at ?_) | (refine pushH_at ?_) | (refine setH_at ?_) | (refine ask_true (by omega) ?_) | (refine ask_false (by omega) ?_) | fail)
        conv => whnf
        refine hGet_at (b := .own 237 [.ints .i64 2 [0, 0]]) (by simp) ?_
        conv => whnf
        have eS : (T ++ [Blk.obj R] ++ [Blk.own 237 [.ints .i64 2 [0, 0]]]).set (0 + (T ++ [Blk.obj R]).length) (.own 237 [.ints .i64 2 [n, k]]) = T ++ [Blk.obj R] ++ [Blk.own 237 [.ints .i64 2 [n, k]]] := by simp
        refine setH_as (H' := T ++ [Blk.obj R] ++ [Blk.own 237 [.ints .i64 2 [n, k]]]) eS ?_
        repeat' ((conv => whnf); first | (refine lenH_at ?_) | (refine pushH_at ?_) | (refine ask_true (by omega) ?_) | (refine ask_false (by omega) ?_) | (refine hGet_at (b := .own 237 [.ints .i64 2 [n, k]]) (by simp) ?_) | fail)
        conv => whnf
        refine And.intro ⟨mty, rfl⟩ ⟨cntQ, ⟨R, by simp, hR⟩, fun v hv hq => ?_, ?_⟩
        · repeat' ((conv => whnf); first | (refine lenH_at ?_) | (refine pushH_at ?_) | (refine ask_true (by omega) ?_) | (refine ask_false (by omega) ?_) | (refine hGet_at (b := .own 237 [.ints .i64 2 [n, k]]) (by simp) ?_) | fail)
          conv => whnf
          exact ⟨congrArg vi hq, R, [Blk.own 237 [.ints .i64 2 [n, k]]], by simp, hR⟩
        · repeat' ((conv => whnf); first | (refine lenH_at ?_) | (refine pushH_at ?_) | (refine ask_true (by omega) ?_) | (refine ask_false (by omega) ?_) | (refine hGet_at (b := .own 237 [.ints .i64 2 [n, k]]) (by simp) ?_) | (refine ask_wrap64 (by omega) (by omega) ?_) | fail)
          conv => whnf
          refine And.intro ⟨R, by simp, hR⟩ (And.intro ⟨by omega, by omega, hk⟩ fun H' eH => ?_)
          have eH' : H' = T ++ [Blk.obj (mapI cntQ)] ++ [Blk.own 237 [.ints .i64 2 [n, k]]] := by rw [eH]; simp
          clear eH
          subst eH'
          repeat' ((conv => whnf); first | (refine lenH_at ?_) | (refine pushH_at ?_) | (refine ask_true (by omega) ?_) | (refine ask_false (by omega) ?_) | (refine hGet_at (b := .own 237 [.ints .i64 2 [n, k]]) (by simp) ?_) | fail)
          conv => whnf
          obtain ⟨HS, eHS⟩ : ∃ HS, HS = T ++ [Blk.obj (mapI cntQ)] ++ [Blk.own 237 [.ints .i64 2 [n, k]]] := ⟨_, rfl⟩
          have d1 : decide (T.length < HS.length) = true := by rw [eHS]; simp
          have d2 : decide (0 + (T ++ [Blk.obj R]).length < HS.length) = true := by rw [eHS]; simp
          have hbh : bndH HS.length HS = true := bndH_of fun b hb => by
            rw [eHS] at hb
            rcases List.mem_append.1 hb with hb | hb
            · rcases List.mem_append.1 hb with hb | hb
              · exact Blk.bnd_up (by rw [eHS]; simp) b (hT.bnd b (List.mem_append_left _ hb))
              · rw [List.mem_singleton.1 hb]; rfl
            · rw [List.mem_singleton.1 hb]; rfl
          have hlo : 0 + (T ++ [Blk.obj R]).length ≤ HS.length := by rw [eHS]; simp
          have hat : HS[T.length]? = some (.obj (mapI cntQ)) := by rw [eHS]; simp
          have hset : HS.set T.length (.obj (mapI cntQ)) = HS := by rw [eHS]; simp
          have hkey : HS[0 + (T ++ [Blk.obj R]).length]? = some (.own 237 [.ints .i64 2 [n, k]]) := by rw [eHS]; simp
          have hfin : HS = T ++ .obj (mapI cntQ) :: [Blk.own 237 [.ints .i64 2 [n, k]]] := by rw [eHS]; simp
          rw [← eHS]
          clear eHS
          refine loop_at (10 :: 11 :: List.range' 46 12) (fun m (j : Int) => 0 ≤ j ∧ j ≤ k ∧ m = (k - j).toNat) (fun j => [(10, vi (partC n k j.toNat)), (46, vi j)]) (fun _ => HS) k.toNat 0 ⟨by decide, by omega, by omega⟩ ?_ ?_
          · refine ⟨rfl, ⟨⟨Nat.le_of_ble_eq_true rfl, rfl⟩, ⟨Nat.le_of_ble_eq_true rfl, rfl⟩, trivial⟩, wkH_refl _, ?_, hbh, hlo⟩
            repeat' (first | rfl | exact d1 | exact d2 | refine and_t ?_ ?_)
          · rintro mm j ⟨j0, j1, rfl⟩
            have pc := partC_in (n := n) (k := k) (by omega) hk j.toNat (by omega)
            have cc := cN_in (n := n - 1) (k := j) (by omega) (by omega)
            have pn : partC n k j.toNat + 2 * cN (n - 1) j = partC n k (j + 1).toNat := by
              rw [show (j + 1).toNat = j.toNat + 1 by omega]
              show _ = partC n k j.toNat + 2 * cN (n - 1) (j.toNat : Int)
              rw [show ((j.toNat : Nat) : Int) = j by omega]
            rcases Int.lt_or_le j k with j2 | j2
            · repeat' ((conv => whnf); first | (refine lenH_at ?_) | (refine pushH_at ?_) | (refine ask_true (by omega) ?_) | (refine ask_false (by omega) ?_) | (refine hGet_at (b := .own 237 [.ints .i64 2 [n, k]]) (by simp) ?_) | (refine ask_wrap64 (by omega) (by omega) ?_) | fail)
              conv => whnf
              refine And.intro ⟨_, hat, fun o h => h⟩ (And.intro ⟨by omega, by omega, by omega⟩ fun H' eH => ?_)
              rw [hset] at eH
              subst eH
              repeat' ((conv => whnf); first | (refine lenH_at ?_) | (refine pushH_at ?_) | (refine ask_true (by omega) ?_) | (refine ask_false (by omega) ?_) | (refine hGet_at (b := .own 237 [.ints .i64 2 [n, k]]) (by simp) ?_) | (refine ask_wrap64 (by omega) (by omega) ?_) | fail)
              conv => whnf
              refine ⟨(k - (j + 1)).toNat, j + 1, by omega, ⟨by omega, by omega, rfl⟩, rfl, ⟨⟨Nat.le_of_ble_eq_true rfl, congrArg vi pn⟩, ⟨Nat.le_of_ble_eq_true rfl, rfl⟩, trivial⟩, wkH_refl _, ?_, hbh, hlo⟩
              repeat' (first | rfl | exact d1 | exact d2 | refine and_t ?_ ?_)
            · have ej : j = k := by omega
              have pa := partC_all (n := n) (k := k) (by omega) ⟨hk0, hk⟩
              rw [← ej] at pa
              repeat' ((conv => whnf); first | (refine lenH_at ?_) | (refine pushH_at ?_) | (refine ask_true (by omega) ?_) | (refine ask_false (by omega) ?_) | (refine hGet_at hkey ?_) | fail)
              conv => whnf
              refine And.intro ⟨mty, rfl⟩ ⟨cntQ, ⟨_, hat, fun o h => h⟩, by rw [ej] at pa ⊢; exact pa, fun H' eH => ?_⟩
              rw [hset] at eH
              subst eH
              repeat' ((conv => whnf); first | (refine lenH_at ?_) | (refine pushH_at ?_) | (refine ask_true (by omega) ?_) | (refine ask_false (by omega) ?_) | fail)
              conv => whnf
              refine ⟨congrArg vi (by rw [← ej]; exact pa), mapI cntQ, _, hfin, fun o h => h⟩
theorem of_base {n k : Int} (hn : n ≤ 0) (hk : k ≤ 8) (hni : InK .i64 n) (hki : InK .i64 k) {R : Obj → Prop} (hR : ∀ o, R o → mapI cntQ o) (T : List Blk) :
    walk F0 0 Tryz.f141 (.c (.cm T.length) :: [i64 n, i64 k]) (T ++ [.obj R]) fun x H' => x = vi (cN n k) ∧ ∃ R' B, H' = T ++ .obj R' :: B ∧ ∀ o, R' o → mapI cntQ o := by
  have stop : ∃ R' B, T ++ [.obj R] = T ++ .obj R' :: B ∧ ∀ o, R' o → mapI cntQ o := ⟨R, [], rfl, hR⟩
  obtain ⟨n1, n2⟩ := hni
  obtain ⟨k1, k2⟩ := hki
  simp only [lowK, highK] at n1 n2 k1 k2
  rcases Int.lt_or_le k 0 with hk0 | hk0
  · rw [cN_neg (.inr hk0)]
    repeat' ((conv => whnf); first | (refine lenH_at ?_) | (refine pushH_at ?_) | (refine ask_true (by omega) ?_) | (refine ask_false (by omega) ?_) | fail)
    conv => whnf
    exact ⟨rfl, stop⟩
  · rcases Int.lt_or_le n 0 with hn0 | hn0
    · rw [cN_neg (.inl hn0)]
      repeat' ((conv => whnf); first | (refine lenH_at ?_) | (refine pushH_at ?_) | (refine ask_true (by omega) ?_) | (refine ask_false (by omega) ?_) | fail)
      conv => whnf
      exact ⟨rfl, stop⟩
    · obtain rfl : n = 0 := by omega
      rcases Classical.em (k = 0) with h1 | h1
      · subst h1
        rw [cN_zero]
        repeat' ((conv => whnf); first | (refine lenH_at ?_) | (refine pushH_at ?_) | (refine ask_true (by omega) ?_) | (refine ask_false (by omega) ?_) | fail)
        conv => whnf
        exact ⟨rfl, stop⟩
      · rw [cN_none (by omega) hk]
        repeat' ((conv => whnf); first | (refine lenH_at ?_) | (refine pushH_at ?_) | (refine ask_true (by omega) ?_) | (refine ask_false (by omega) ?_) | fail)
        conv => whnf
        exact ⟨rfl, stop⟩
theorem of_ct : ∀ m : Nat, HCtOk Tryz.prog 141 (hOf m)
  | 0 => by
    intro ws H K h hr hb ho G σ base w₀ w hw
    unfold hOf at h
    split at h
    · rename_i j n k
      obtain ⟨⟨R, hj, hR⟩, ⟨h1, h2, h3⟩, hK⟩ := h
      have ci := cN_in h2 h3
      exact map_lift (Q := cntQ) F0_ok Tryz.func141 (d := 0) (ws := [i64 n, i64 k]) ⟨by show InK .i64 _; simp only [InK, lowK, highK]; omega, rfl⟩ ⟨hr.2.1, hr.2.2.1, trivial⟩ rfl (fun T _ => of_base (by omega) h3 hr.2.1 hr.2.2.1 hR T) hj (hK _ rfl) ho G σ base w₀ w hw
    · exact h.elim
  | m + 1 => by
    intro ws H K h hr hb ho G σ base w₀ w hw
    unfold hOf at h
    split at h
    · rename_i j n k
      obtain ⟨⟨R, hj, hR⟩, ⟨h1, h2, h3⟩, hK⟩ := h
      have ci := cN_in h2 h3
      have hF : FnsOk Tryz.prog (FO m) := F0_ok.over (of_ct m) Tryz.func141 (by kernel_rfl) (by kernel_rfl)
      exact map_lift (Q := cntQ) hF Tryz.func141 (d := 0) (ws := [i64 n, i64 k]) ⟨by show InK .i64 _; simp only [InK, lowK, highK]; omega, rfl⟩ ⟨hr.2.1, hr.2.2.1, trivial⟩ rfl (fun T hT => of_walk m ⟨by omega, h2⟩ h3 hr.2.1 hr.2.2.1 hR T hT) hj (hK _ rfl) ho G σ base w₀ w hw
    · exact h.elim
noncomputable def FC : Fns := F0.over 141 (hOf 8)
theorem FC_ok : FnsOk Tryz.prog FC := F0_ok.over (of_ct 8) Tryz.func141 (by kernel_rfl) (by kernel_rfl)
@[irreducible] noncomputable def cC (n k : Int) : Int := if (0 ≤ n ∧ n ≤ 8) ∧ 0 ≤ k ∧ k ≤ 8 then cN n k else 0
theorem cC_def (n k : Int) : cC n k = if (0 ≤ n ∧ n ≤ 8) ∧ 0 ≤ k ∧ k ≤ 8 then cN n k else 0 := by unfold cC; rfl
theorem cC_in (n k : Int) : 0 ≤ cC n k ∧ cC n k ≤ 4294967296 := by
  rw [cC_def]
  split
  · rename_i h; exact cN_in h.1.2 h.2.2
  · decide
theorem count_walk (n k : Int) (hn : InK .i64 n) (hk : InK .i64 k) : walk FC 0 Tryz.f123 [i64 n, i64 k] [] fun y _ => y = vi (cC n k) := by
  obtain ⟨n1, n2⟩ := hn
  obtain ⟨k1, k2⟩ := hk
  simp only [lowK, highK] at n1 n2 k1 k2
  rw [cC_def]
  rcases Classical.em ((0 ≤ n ∧ n ≤ 8) ∧ 0 ≤ k ∧ k ≤ 8) with h | h
  · rw [if_pos h]
    repeat' ((conv => whnf); first | (refine ask_true (by omega) ?_) | (refine ask_false (by omega) ?_) | (refine And.intro mty ?_) | fail)
    conv => whnf
    refine And.intro ⟨emptyM, rfl, empty_mapI _⟩ (And.intro ⟨by omega, by omega, by omega⟩ fun H' eH => ?_)
    repeat' ((conv => whnf); first | rfl | fail)
  · rw [if_neg h]
    rcases Int.lt_or_le n 0 with h1 | h1
    · repeat' ((conv => whnf); first | (refine ask_true (by omega) ?_) | (refine ask_false (by omega) ?_) | rfl | fail)
    · rcases Int.lt_or_le 8 n with h2 | h2
      · repeat' ((conv => whnf); first | (refine ask_true (by omega) ?_) | (refine ask_false (by omega) ?_) | rfl | fail)
      · rcases Int.lt_or_le k 0 with h3 | h3
        · repeat' ((conv => whnf); first | (refine ask_true (by omega) ?_) | (refine ask_false (by omega) ?_) | rfl | fail)
        · repeat' ((conv => whnf); first | (refine ask_true (by omega) ?_) | (refine ask_false (by omega) ?_) | rfl | fail)
theorem count_ct : CtOk Tryz.prog 123 (ct2 (fun _ _ => True) cC) := ct2_ok FC_ok Tryz.func123 (fun a b _ _ _ => by have := cC_in a b; simp only [InK, lowK, highK]; omega) fun a b ha hb _ => count_walk a b ha hb
noncomputable def rnk (n k : Int) : Nat → Int
  | 0 => 0
  | s + 1 => rnk n k s + cN n (k - szV (s - k))
theorem rnk_next {n k z : Int} (h : 0 ≤ z + k) : rnk n k (z + 1 + k).toNat = rnk n k (z + k).toNat + cN n (k - szV z) := by
  rw [show (z + 1 + k).toNat = (z + k).toNat + 1 by omega]
  show rnk n k (z + k).toNat + cN n (k - szV (((z + k).toNat : Nat) - k)) = _
  rw [show (((z + k).toNat : Nat) : Int) - k = z by omega]
noncomputable def rank : List Int → Int → Int
  | [], _ => 0
  | x :: xs, k => rnk xs.length k (x + k).toNat + rank xs (k - szV x)
theorem rnk_in {n k : Int} (hn : n ≤ 8) (hk : k ≤ 8) : ∀ s : Nat, 0 ≤ rnk n k s ∧ rnk n k s ≤ 4294967296 * s
  | 0 => ⟨Int.le_refl 0, Int.le_refl 0⟩
  | s + 1 => by
    have h1 := rnk_in hn hk s
    have h2 := szV_in (s - k)
    have h3 := cN_in (n := n) (k := k - szV (s - k)) hn (by omega)
    show 0 ≤ rnk n k s + cN n (k - szV (s - k)) ∧ rnk n k s + cN n (k - szV (s - k)) ≤ _
    omega
theorem sumA_drop (xs : List Int) (i : Nat) (h : i < xs.length) : sumA (xs.drop i) (xs.drop i).length = szV (xs.getD i 0) + sumA (xs.drop (i + 1)) (xs.drop (i + 1)).length := by
  have key : ∀ (y : Int) (ys : List Int) (n : Nat), sumA (y :: ys) (n + 1) = szV y + sumA ys n := fun y ys n => by
    induction n with
    | zero => show (0 : Int) + szV y = szV y + 0; omega
    | succ n ih =>
      show sumA (y :: ys) (n + 1) + szV ((y :: ys).getD (n + 1) 0) = szV y + (sumA ys n + szV (ys.getD n 0))
      rw [ih]
      have : (y :: ys).getD (n + 1) 0 = ys.getD n 0 := rfl
      rw [this]; omega
  have e : xs.drop i = xs.getD i 0 :: xs.drop (i + 1) := by
    rw [List.drop_eq_getElem_cons h, List.getD_eq_getElem?_getD, List.getElem?_eq_getElem h]; rfl
  conv => lhs; rw [e]
  exact key _ _ _
open Go.WideMaps
set_option maxRecDepth 100000
set_option maxHeartbeats 64000000
def rnkc (row : List Int) (k : Nat) : Nat → Int
  | 0 => 0
  | s + 1 => rnkc row k s + row.getD (k - ((s : Int) - k).natAbs) 0
theorem rnkc_all : (List.range 8).all (fun m => (List.range 9).all fun k => decide (rnkc (crow m) k (2 * k + 1) = (crow (m + 1)).getD k 0)) = true := by kernel_rfl
theorem rnk_c (m k : Nat) (hk : k ≤ 8) : ∀ s : Nat, s ≤ 2 * k + 1 → rnk m k s = rnkc (crow m) k s
  | 0, _ => rfl
  | s + 1, hs => by
    show rnk m k s + cN m (k - szV (s - k)) = rnkc (crow m) k s + (crow m).getD (k - ((s : Int) - k).natAbs) 0
    rw [rnk_c m k hk s (by omega), szV_abs (by omega)]
    have e : (k : Int) - absI (s - k) = ((k - ((s : Int) - k).natAbs : Nat) : Int) := by unfold absI; omega
    rw [e, cN_nat]
theorem rnk_all {m k : Int} (hm : 0 ≤ m ∧ m ≤ 7) (hk : 0 ≤ k ∧ k ≤ 8) : rnk m k (2 * k + 1).toNat = cN (m + 1) k := by
  obtain ⟨m', rfl⟩ : ∃ m' : Nat, m = m' := ⟨m.toNat, by omega⟩
  obtain ⟨k', rfl⟩ : ∃ k' : Nat, k = k' := ⟨k.toNat, by omega⟩
  rw [show (2 * (k' : Int) + 1).toNat = 2 * k' + 1 by omega, rnk_c m' k' (by omega) _ (Nat.le_refl _), show (m' : Int) + 1 = ((m' + 1 : Nat) : Int) by omega, cN_nat]
  have h1 := List.all_eq_true.1 rnkc_all m' (List.mem_range.2 (by omega))
  exact of_decide_eq_true (List.all_eq_true.1 h1 k' (List.mem_range.2 (by omega)))
def vecR (n : Nat) (k i : Int) (A : List Int) : Prop := A.length = n ∧ sumA A A.length = k ∧ rank A k = i
def vecP (n : Nat) (k i : Int) (x : V) (N : List Blk) : Prop := ∃ A, vecR n k i A ∧ ((A = [] ∧ x = .tup [.c .csn, i64 0] ∧ N = []) ∨ (A ≠ [] ∧ ∃ (c : Nat) (rest : List Int), A.length ≤ c ∧ c ≤ 9223372036854775807 ∧ rest.length = c - A.length ∧ x = .tup [.c (.csl 0 0 0 A.length c), i64 0] ∧ N = [.own 3 [.ints .i64 c (A ++ rest)]]))
theorem sumA_snoc (A : List Int) (x : Int) : sumA (A ++ [x]) (A ++ [x]).length = sumA A A.length + szV x := by
  have key : ∀ n : Nat, n ≤ A.length → sumA (A ++ [x]) n = sumA A n := fun n => by
    induction n with
    | zero => intro _; rfl
    | succ n ih =>
      intro h
      show sumA (A ++ [x]) n + szV ((A ++ [x]).getD n 0) = sumA A n + szV (A.getD n 0)
      rw [ih (by omega), left_at (by omega)]
  rw [List.length_append, List.length_singleton]
  show sumA (A ++ [x]) A.length + szV ((A ++ [x]).getD A.length 0) = _
  rw [key _ (Nat.le_refl _), List.getD_eq_getElem?_getD, List.getElem?_append_right (Nat.le_refl _), Nat.sub_self]; rfl
structure Got (n : Nat) (k i : Int) (at' : Int) (A : List Int) (k' i' : Int) : Prop where
  len : (A.length : Int) = at'
  sum : sumA A A.length + k' = k
  k0 : 0 ≤ k' ∧ k' ≤ 8
  i0 : 0 ≤ i' ∧ i' < cN (n - at') k'
  rk : ∀ B : List Int, (B.length : Int) = n - at' → rank (A ++ B) k = i - i' + rank B k'
theorem Got.next {n : Nat} {k i at' k' i' : Int} {A : List Int} (g : Got n k i at' A k' i') {x : Int} (hx : -k' ≤ x ∧ x ≤ k') (h : 0 ≤ i' - rnk (n - at' - 1) k' (x + k').toNat ∧ i' - rnk (n - at' - 1) k' (x + k').toNat < cN (n - at' - 1) (k' - szV x)) :
    Got n k i (at' + 1) (A ++ [x]) (k' - szV x) (i' - rnk (n - at' - 1) k' (x + k').toNat) := by
  have hk := g.k0
  have sx := szV_abs (x := x) (by omega)
  refine ⟨by have := g.len; rw [List.length_append, List.length_singleton]; omega, ?_, by rw [sx]; unfold absI; omega, ⟨h.1, by rw [show (n : Int) - (at' + 1) = n - at' - 1 by omega]; exact h.2⟩, fun B hB => ?_⟩
  · have := g.sum
    rw [sumA_snoc]
    omega
  · rw [List.append_assoc, List.singleton_append, g.rk (x :: B) (by rw [List.length_cons]; omega)]
    show i - i' + (rnk (B.length : Int) k' (x + k').toNat + rank B (k' - szV x)) = _
    rw [show (B.length : Int) = n - at' - 1 by omega]
    omega
theorem Got.done {n : Nat} {k i k' i' : Int} {A : List Int} (g : Got n k i n A k' i') : vecR n k i A := by
  have hi := g.i0
  rw [Int.sub_self] at hi
  have hk : k' = 0 := by
    rcases Int.lt_or_le 0 k' with h | h
    · rw [cN_none (by omega) g.k0.2] at hi; omega
    · have := g.k0; omega
  subst hk
  rw [cN_zero] at hi
  have h1 := g.rk [] (by simp)
  rw [List.append_nil] at h1
  have h2 := g.sum
  refine ⟨by have := g.len; omega, by omega, ?_⟩
  rw [h1]
  show i - i' + 0 = i
  omega
theorem loop_ren7 {body : List V → List Blk → XQ → Prop} {lo : Nat} {fr : List V} {H : List Blk} {Q : XQ} {α β γ δ ε ζ η : Type} (ds : List Nat) (J : Nat → α → β → γ → δ → ε → ζ → η → Prop) (sel : α → β → γ → δ → ε → ζ → η → List (Nat × V)) (Hs : α → β → γ → δ → ε → ζ → η → List Blk) (m₀ : Nat) (a₀ : α) (b₀ : β) (c₀ : γ) (d₀ : δ) (e₀ : ε) (f₀ : ζ) (g₀ : η) (h₀ : J m₀ a₀ b₀ c₀ d₀ e₀ f₀ g₀) (ρ₀ : Nat → Nat)
    (start : Next2 ρ₀ ds lo fr (sel a₀ b₀ c₀ d₀ e₀ f₀ g₀) (Hs a₀ b₀ c₀ d₀ e₀ f₀ g₀) fr H)
    (round : ∀ m a b c d e f g, J m a b c d e f g → havK ds 0 fr fun f₁ => setLK (sel a b c d e f g) f₁ fun f₂ => body f₂ (Hs a b c d e f g) fun ex fr' H' => match ex with
      | .normal => ∃ m' s' ρ, m' < m ∧ J m' (Prod.fst s') (Prod.fst (Prod.snd s')) (Prod.fst (Prod.snd (Prod.snd s'))) (Prod.fst (Prod.snd (Prod.snd (Prod.snd s')))) (Prod.fst (Prod.snd (Prod.snd (Prod.snd (Prod.snd s'))))) (Prod.fst (Prod.snd (Prod.snd (Prod.snd (Prod.snd (Prod.snd s')))))) (Prod.snd (Prod.snd (Prod.snd (Prod.snd (Prod.snd (Prod.snd s')))))) ∧ Next2 ρ ds lo fr (sel (Prod.fst s') (Prod.fst (Prod.snd s')) (Prod.fst (Prod.snd (Prod.snd s'))) (Prod.fst (Prod.snd (Prod.snd (Prod.snd s')))) (Prod.fst (Prod.snd (Prod.snd (Prod.snd (Prod.snd s'))))) (Prod.fst (Prod.snd (Prod.snd (Prod.snd (Prod.snd (Prod.snd s')))))) (Prod.snd (Prod.snd (Prod.snd (Prod.snd (Prod.snd (Prod.snd s'))))))) (Hs (Prod.fst s') (Prod.fst (Prod.snd s')) (Prod.fst (Prod.snd (Prod.snd s'))) (Prod.fst (Prod.snd (Prod.snd (Prod.snd s')))) (Prod.fst (Prod.snd (Prod.snd (Prod.snd (Prod.snd s'))))) (Prod.fst (Prod.snd (Prod.snd (Prod.snd (Prod.snd (Prod.snd s')))))) (Prod.snd (Prod.snd (Prod.snd (Prod.snd (Prod.snd (Prod.snd s'))))))) fr' H'
      | .exit id => Q (.exit id) fr' H'
      | .ret => Q .ret fr' H') : XLoop body lo fr H Q :=
  loop_ren ds (fun m s => J m (Prod.fst s) (Prod.fst (Prod.snd s)) (Prod.fst (Prod.snd (Prod.snd s))) (Prod.fst (Prod.snd (Prod.snd (Prod.snd s)))) (Prod.fst (Prod.snd (Prod.snd (Prod.snd (Prod.snd s))))) (Prod.fst (Prod.snd (Prod.snd (Prod.snd (Prod.snd (Prod.snd s)))))) (Prod.snd (Prod.snd (Prod.snd (Prod.snd (Prod.snd (Prod.snd s))))))) (fun s => sel (Prod.fst s) (Prod.fst (Prod.snd s)) (Prod.fst (Prod.snd (Prod.snd s))) (Prod.fst (Prod.snd (Prod.snd (Prod.snd s)))) (Prod.fst (Prod.snd (Prod.snd (Prod.snd (Prod.snd s))))) (Prod.fst (Prod.snd (Prod.snd (Prod.snd (Prod.snd (Prod.snd s)))))) (Prod.snd (Prod.snd (Prod.snd (Prod.snd (Prod.snd (Prod.snd s))))))) (fun s => Hs (Prod.fst s) (Prod.fst (Prod.snd s)) (Prod.fst (Prod.snd (Prod.snd s))) (Prod.fst (Prod.snd (Prod.snd (Prod.snd s)))) (Prod.fst (Prod.snd (Prod.snd (Prod.snd (Prod.snd s))))) (Prod.fst (Prod.snd (Prod.snd (Prod.snd (Prod.snd (Prod.snd s)))))) (Prod.snd (Prod.snd (Prod.snd (Prod.snd (Prod.snd (Prod.snd s))))))) m₀ (a₀, b₀, c₀, d₀, e₀, f₀, g₀) h₀ ρ₀ start fun m s h => round m (Prod.fst s) (Prod.fst (Prod.snd s)) (Prod.fst (Prod.snd (Prod.snd s))) (Prod.fst (Prod.snd (Prod.snd (Prod.snd s)))) (Prod.fst (Prod.snd (Prod.snd (Prod.snd (Prod.snd s))))) (Prod.fst (Prod.snd (Prod.snd (Prod.snd (Prod.snd (Prod.snd s)))))) (Prod.snd (Prod.snd (Prod.snd (Prod.snd (Prod.snd (Prod.snd s)))))) h
def rho13 (j : Nat) : Nat := if j = 1 then 3 else j
theorem rho13_inj {i j : Nat} (hi : i < 2) (hj : j < 2) (h : rho13 i = rho13 j) : i = j := by unfold rho13 at h; split at h <;> split at h <;> omega
theorem bytes3 : (Tryz.prog.types[3]).bytes = 8 := by kernel_rfl
noncomputable def FVe : Fns := ((F0.over 141 (hOf 8)).plus 142 (ct1 (fun _ => True) szV)).plus 123 (ct2 (fun _ _ => True) cC)
theorem FVe_ok : FnsOk Tryz.prog FVe := ((F0_ok.over (of_ct 8) Tryz.func141 (by kernel_rfl) (by kernel_rfl)).plus vsize_ct Tryz.func142 (by kernel_rfl) (by kernel_rfl)).plus count_ct Tryz.func123 (by kernel_rfl) (by kernel_rfl)
theorem vector_walk (n k i : Int) (hi : InK .i64 i) (hn : 0 ≤ n ∧ n ≤ 8) (hk : 0 ≤ k ∧ k ≤ 8) (h0 : 0 ≤ i ∧ i < cN n k) : walk FVe 0 Tryz.f122 [i64 n, i64 k, i64 i] [] (Made (vecP n.toNat k i)) := by
  have ec : cC n k = cN n k := by rw [cC_def, if_pos ⟨hn, hk⟩]
  have cb := cN_in hn.2 hk.2
  have nn : ((n.toNat : Nat) : Int) = n := by omega
  have g0 : Got n.toNat k i 0 [] k i := ⟨rfl, by show (0 : Int) + k = k; omega, hk, by rw [nn, Int.sub_zero]; exact h0, fun B _ => by show rank B k = i - i + rank B k; omega⟩
  repeat' ((conv => whnf); first | (refine ask_true (by omega) ?_) | (refine ask_false (by omega) ?_) | (refine And.intro trivial ?_) | (refine And.intro mty ?_) | fail)
  conv => whnf
  refine loop_ren7 (1 :: 2 :: 9 :: 10 :: 11 :: List.range' 23 40) (fun m (a : Int) (R : Obj → Prop) (v : V) (b : Blk) (A : List Int) (k' i' : Int) => 0 ≤ a ∧ a ≤ n ∧ m = (n - a).toNat ∧ (∀ o, R o → mapI cntQ o) ∧ rowS 1 A v b ∧ Got n.toNat k i a A k' i') (fun a _ v _ _ k' i' => [(1, vi k'), (2, vi i'), (9, v), (23, vi a)]) (fun _ R _ b _ _ _ => [.obj R, b]) n.toNat 0 emptyM (.w (.c .csn)) .gone [] k i ⟨by decide, by omega, by omega, empty_mapI _, .inl ⟨rfl, rfl, rfl⟩, g0⟩ id ?_ ?_
  · refine ⟨?_, And.intro rfl trivial, fun _ _ _ _ h => h, fun _ _ => rfl, rfl, rfl, Nat.le_of_ble_eq_true rfl⟩
    repeat' (first | exact trivial | refine And.intro rfl ?_ | fail)
  · rintro _ a R v b A k' i' ⟨a0, a1, rfl, hR, hr, g⟩
    have g : Got n.toNat k i a A k' i' := g
    have hr : rowS 1 A v b := hr
    have hk0 := g.k0
    have hi0 := g.i0
    have hl := g.len
    simp only [nn] at hi0
    rcases Int.lt_or_le a n with a2 | a2
    · have gN : ∀ {x : Int}, (-k' ≤ x ∧ x ≤ k') → (0 ≤ i' - rnk (n - a - 1) k' (x + k').toNat ∧ i' - rnk (n - a - 1) k' (x + k').toNat < cN (n - a - 1) (k' - szV x)) → Got n.toNat k i (a + 1) (A ++ [x]) (k' - szV x) (i' - rnk (n - a - 1) k' (x + k').toNat) := fun {x} h1 h2 => by
        have := g.next (x := x) h1 (by rw [nn]; exact h2)
        rwa [nn] at this
      have cb' := cN_in (n := n - a) (k := k') (by omega) (by omega)
      rcases hr with ⟨rfl, rfl, rfl⟩ | ⟨t0, d, s, f1, f2, f3, rfl, rfl⟩
      · skip
        repeat' ((conv => whnf); first | (refine ask_true (by omega) ?_) | (refine ask_wrap64 (by omega) (by omega) ?_) | fail)
        conv => whnf
        refine loop_at2 (2 :: 11 :: List.range' 28 26) (fun m (x : Int) (R : Obj → Prop) => (-k' ≤ x ∧ x ≤ k') ∧ m = (k' - x).toNat ∧ 0 ≤ i' - rnk (n - a - 1) k' (x + k').toNat ∧ ∀ o, R o → mapI cntQ o) (fun x _ => [(2, vi (i' - rnk (n - a - 1) k' (x + k').toNat)), (11, vi x)]) (fun _ R => [.obj R, .gone]) (k' - (0 - k')).toNat (0 - k') R ⟨by omega, rfl, by rw [show (0 - k' + k').toNat = 0 by omega]; show 0 ≤ i' - 0; omega, hR⟩ ?_ ?_
        · refine ⟨rfl, ⟨⟨Nat.le_of_ble_eq_true rfl, congrArg vi ?_⟩, ⟨Nat.le_of_ble_eq_true rfl, rfl⟩, trivial⟩, ⟨rfl, trivial⟩, rfl, rfl, Nat.le_of_ble_eq_true rfl⟩
          rw [show (0 - k' + k').toNat = 0 by omega]
          show i' = i' - 0
          omega
        · rintro m x R ⟨hx, rfl, hi, hR⟩
          have hs := szV_in x
          have ss := szV_abs (x := x) (by omega)
          have cc := cN_in (n := n - a - 1) (k := k' - szV x) (by omega) (by omega)
          have rn := rnk_next (n := n - a - 1) (k := k') (z := x) (by omega)
          have rb := rnk_in (n := n - a - 1) (k := k') (by omega) (by omega) (x + k').toNat
          repeat' ((conv => whnf); first | (refine And.intro trivial ?_) | (refine ask_wrap64 (by omega) (by omega) ?_) | fail)
          conv => whnf
          refine And.intro ⟨R, rfl, hR⟩ (And.intro ⟨by omega, by omega, by omega⟩ fun H' eH => ?_)
          have eH' : H' = [.obj (mapI cntQ), .gone] := eH
          clear eH
          subst eH'
          rcases Int.lt_or_le (i' - rnk (n - a - 1) k' (x + k').toNat) (cN (n - a - 1) (k' - szV x)) with hlt | hge
          · have gn := gN (x := x) ⟨by omega, by omega⟩ ⟨hi, hlt⟩
            repeat' ((conv => whnf); first | (refine ask_false (by omega) ?_) | (refine And.intro (by omega) ?_) | fail)
            conv => whnf
            refine And.intro ⟨by decide, by decide, Nat.le_of_ble_eq_true (by kernel_rfl)⟩ (fresh_as (zs := [] ++ [x]) rfl fun c R1 h1 h2 h3 => ?_)
            repeat' ((conv => whnf); first | (refine And.intro trivial ?_) | (refine ask_wrap64 (by omega) (by omega) ?_) | fail)
            conv => whnf
            refine ⟨(n - (a + 1)).toNat, (a + 1, mapI cntQ, .w (.c (.csl 1 0 0 (([] : List Int).length + 1) c)), .own 3 [.ints .i64 c ([] ++ [x] ++ R1)], [] ++ [x], k' - szV x, i' - rnk (n - a - 1) k' (x + k').toNat), rho13, by omega, ⟨by show 0 ≤ a + 1; omega, by show a + 1 ≤ n; omega, rfl, fun o h => h, rowS_next rfl (h1) (h2) (h3), gn⟩, ⟨?_, ?_, fun _ _ hp hq => rho13_inj hp hq, fun _ hp => absurd hp (Nat.not_lt_zero _), rfl, rfl, Nat.le_of_ble_eq_true rfl⟩⟩
            · repeat' (first | exact trivial | refine And.intro rfl ?_ | fail)
            · exact And.intro rfl (And.intro rfl trivial)
          · have hxk : x < k' := by
              rcases Int.lt_or_le x k' with h | h
              · exact h
              · exfalso
                have ex : x = k' := by omega
                have ra := rnk_all (m := n - a - 1) (k := k') (by omega) hk0
                rw [show (2 * k' + 1).toNat = (x + 1 + k').toNat by omega, show n - a - 1 + 1 = n - a by omega] at ra
                omega
            repeat' ((conv => whnf); first | (refine ask_true (by omega) ?_) | (refine And.intro trivial ?_) | (refine ask_wrap64 (by omega) (by omega) ?_) | fail)
            conv => whnf
            refine And.intro ⟨mapI cntQ, rfl, fun o h => h⟩ (And.intro ⟨by omega, by omega, by omega⟩ fun H' eH => ?_)
            have eH' : H' = [.obj (mapI cntQ), .gone] := eH
            clear eH
            subst eH'
            repeat' ((conv => whnf); first | (refine ask_wrap64 (by omega) (by omega) ?_) | fail)
            conv => whnf
            refine ⟨(k' - (x + 1)).toNat, (x + 1, mapI cntQ), by omega, ⟨by show -k' ≤ x + 1 ∧ x + 1 ≤ k'; omega, rfl, ?_, fun o h => h⟩, rfl, ⟨⟨Nat.le_of_ble_eq_true rfl, congrArg vi ?_⟩, ⟨Nat.le_of_ble_eq_true rfl, rfl⟩, trivial⟩, ⟨rfl, trivial⟩, rfl, rfl, Nat.le_of_ble_eq_true rfl⟩
            · show 0 ≤ i' - rnk (n - a - 1) k' (x + 1 + k').toNat
              omega
            · show _ = i' - rnk (n - a - 1) k' (x + 1 + k').toNat
              omega
      · skip
        repeat' ((conv => whnf); first | (refine ask_true (by omega) ?_) | (refine ask_wrap64 (by omega) (by omega) ?_) | fail)
        conv => whnf
        refine loop_at2 (2 :: 11 :: List.range' 28 26) (fun m (x : Int) (R : Obj → Prop) => (-k' ≤ x ∧ x ≤ k') ∧ m = (k' - x).toNat ∧ 0 ≤ i' - rnk (n - a - 1) k' (x + k').toNat ∧ ∀ o, R o → mapI cntQ o) (fun x _ => [(2, vi (i' - rnk (n - a - 1) k' (x + k').toNat)), (11, vi x)]) (fun _ R => [.obj R, .own 3 [.ints .i64 d (A ++ s)]]) (k' - (0 - k')).toNat (0 - k') R ⟨by omega, rfl, by rw [show (0 - k' + k').toNat = 0 by omega]; show 0 ≤ i' - 0; omega, hR⟩ ?_ ?_
        · refine ⟨rfl, ⟨⟨Nat.le_of_ble_eq_true rfl, congrArg vi ?_⟩, ⟨Nat.le_of_ble_eq_true rfl, rfl⟩, trivial⟩, ⟨rfl, rfl, trivial⟩, rfl, rfl, Nat.le_of_ble_eq_true rfl⟩
          rw [show (0 - k' + k').toNat = 0 by omega]
          show i' = i' - 0
          omega
        · rintro m x R ⟨hx, rfl, hi, hR⟩
          have hs := szV_in x
          have ss := szV_abs (x := x) (by omega)
          have cc := cN_in (n := n - a - 1) (k := k' - szV x) (by omega) (by omega)
          have rn := rnk_next (n := n - a - 1) (k := k') (z := x) (by omega)
          have rb := rnk_in (n := n - a - 1) (k := k') (by omega) (by omega) (x + k').toNat
          repeat' ((conv => whnf); first | (refine And.intro trivial ?_) | (refine ask_wrap64 (by omega) (by omega) ?_) | fail)
          conv => whnf
          refine And.intro ⟨R, rfl, hR⟩ (And.intro ⟨by omega, by omega, by omega⟩ fun H' eH => ?_)
          have eH' : H' = [.obj (mapI cntQ), .own 3 [.ints .i64 d (A ++ s)]] := eH
          clear eH
          subst eH'
          rcases Int.lt_or_le (i' - rnk (n - a - 1) k' (x + k').toNat) (cN (n - a - 1) (k' - szV x)) with hlt | hge
          · have gn := gN (x := x) ⟨by omega, by omega⟩ ⟨hi, hlt⟩
            repeat' ((conv => whnf); first | (refine ask_false (by omega) ?_) | (refine And.intro (by omega) ?_) | fail)
            conv => whnf
            refine And.intro ⟨rfl, by omega, by rw [bytes3]; omega⟩ (And.intro (fun hroom => ?_) fun hg => fresh_as (zs := A ++ [x]) (grow_eq rfl) fun c R1 h1 h2 h3 => ?_)
            · have hroom' : A.length + 1 ≤ d := hroom
              repeat' ((conv => whnf); first | (refine And.intro trivial ?_) | (refine ask_wrap64 (by omega) (by omega) ?_) | fail)
              conv => whnf
              refine ⟨(n - (a + 1)).toNat, (a + 1, mapI cntQ, .w (.c (.csl 1 0 0 (A.length + 1) d)), .own 3 [.ints .i64 d (A ++ [x] ++ s.drop 1)], A ++ [x], k' - szV x, i' - rnk (n - a - 1) k' (x + k').toNat), id, by omega, ⟨by show 0 ≤ a + 1; omega, by show a + 1 ≤ n; omega, rfl, fun o h => h, rowS_next rfl (by omega) (by omega) (by rw [List.length_drop]; omega), gn⟩, ⟨?_, ?_, fun _ _ _ _ h => h, fun _ _ => rfl, rfl, rfl, Nat.le_of_ble_eq_true rfl⟩⟩
              · repeat' (first | exact trivial | refine And.intro rfl ?_ | fail)
              · exact And.intro rfl (And.intro (congrArg some (congrArg (fun ys => Blk.own 3 [.ints .i64 _ ys]) (room_eq rfl))) trivial)
            · have hroom' : A.length + 1 ≤ c := h1
              repeat' ((conv => whnf); first | (refine And.intro trivial ?_) | (refine ask_wrap64 (by omega) (by omega) ?_) | fail)
              conv => whnf
              refine ⟨(n - (a + 1)).toNat, (a + 1, mapI cntQ, .w (.c (.csl 1 0 0 (A.length + 1) c)), .own 3 [.ints .i64 c (A ++ [x] ++ R1)], A ++ [x], k' - szV x, i' - rnk (n - a - 1) k' (x + k').toNat), rho13, by omega, ⟨by show 0 ≤ a + 1; omega, by show a + 1 ≤ n; omega, rfl, fun o h => h, rowS_next rfl (by omega) (by omega) (by omega), gn⟩, ⟨?_, ?_, fun _ _ hp hq => rho13_inj hp hq, fun _ hp => absurd hp (Nat.not_lt_zero _), rfl, rfl, Nat.le_of_ble_eq_true rfl⟩⟩
              · repeat' (first | exact trivial | refine And.intro rfl ?_ | fail)
              · exact And.intro rfl (And.intro rfl trivial)
          · have hxk : x < k' := by
              rcases Int.lt_or_le x k' with h | h
              · exact h
              · exfalso
                have ex : x = k' := by omega
                have ra := rnk_all (m := n - a - 1) (k := k') (by omega) hk0
                rw [show (2 * k' + 1).toNat = (x + 1 + k').toNat by omega, show n - a - 1 + 1 = n - a by omega] at ra
                omega
            repeat' ((conv => whnf); first | (refine ask_true (by omega) ?_) | (refine And.intro trivial ?_) | (refine ask_wrap64 (by omega) (by omega) ?_) | fail)
            conv => whnf
            refine And.intro ⟨mapI cntQ, rfl, fun o h => h⟩ (And.intro ⟨by omega, by omega, by omega⟩ fun H' eH => ?_)
            have eH' : H' = [.obj (mapI cntQ), .own 3 [.ints .i64 d (A ++ s)]] := eH
            clear eH
            subst eH'
            repeat' ((conv => whnf); first | (refine ask_wrap64 (by omega) (by omega) ?_) | fail)
            conv => whnf
            refine ⟨(k' - (x + 1)).toNat, (x + 1, mapI cntQ), by omega, ⟨by show -k' ≤ x + 1 ∧ x + 1 ≤ k'; omega, rfl, ?_, fun o h => h⟩, rfl, ⟨⟨Nat.le_of_ble_eq_true rfl, congrArg vi ?_⟩, ⟨Nat.le_of_ble_eq_true rfl, rfl⟩, trivial⟩, ⟨rfl, rfl, trivial⟩, rfl, rfl, Nat.le_of_ble_eq_true rfl⟩
            · show 0 ≤ i' - rnk (n - a - 1) k' (x + 1 + k').toNat
              omega
            · show _ = i' - rnk (n - a - 1) k' (x + 1 + k').toNat
              omega
    · have ea : a = n := by omega
      subst ea
      have gd : vecR a.toNat k i A := by
        have g' : Got a.toNat k i ((a.toNat : Nat) : Int) A k' i' := by rw [nn]; exact g
        exact g'.done
      rcases hr with ⟨rfl, rfl, rfl⟩ | ⟨t0, d, s, f1, f2, f3, rfl, rfl⟩
      · repeat' ((conv => whnf); first | (refine ask_false (by omega) ?_) | fail)
        conv => whnf
        exact made_of (P0 := vecP a.toNat k i) (.tup [.c .csn, i64 0]) [] id ⟨[], gd, .inl ⟨rfl, rfl, rfl⟩⟩ rfl trivial (fun p q hp _ _ => absurd hp (Nat.not_lt_zero p)) rfl rfl (by intro e; cases e)
      · repeat' ((conv => whnf); first | (refine ask_false (by omega) ?_) | fail)
        conv => whnf
        exact made_of (P0 := vecP a.toNat k i) (.tup [.c (.csl 0 0 0 A.length d), i64 0]) [.own 3 [.ints .i64 d (A ++ s)]] (fun _ => 1) ⟨A, gd, .inr ⟨t0, d, s, f1, f2, f3, rfl, rfl⟩⟩ rfl (And.intro rfl trivial) (fun p q hp hq _ => by have hp' : p < 1 := hp; have hq' : q < 1 := hq; omega) rfl rfl (by intro e; cases e)
theorem vector_bad (n k i : Int) (hn : InK .i64 n) (hk : InK .i64 k) (hi : InK .i64 i) (h : ¬ (0 ≤ i ∧ i < cC n k)) : walk FVe 0 Tryz.f122 [i64 n, i64 k, i64 i] [] (Made (noneP 1)) := by
  rcases Int.lt_or_le i 0 with h1 | h1
  all_goals repeat' ((conv => whnf); first | (refine ask_true (by omega) ?_) | (refine ask_false (by omega) ?_) | (refine And.intro trivial ?_) | fail)
  all_goals (conv => whnf)
  all_goals exact made_of (.tup [.c .csn, i64 1]) [] id ⟨rfl, rfl⟩ rfl trivial (fun p q hp _ _ => absurd hp (Nat.not_lt_zero p)) rfl rfl (by intro e; cases e)
def hVector : HCt := fun ws H K => match ws with
  | [.c (.ci .i64 n), .c (.ci .i64 k), .c (.ci .i64 i)] => (¬ (0 ≤ i ∧ i < cC n k) → K (.tup [.c .csn, i64 1]) H) ∧ ((0 ≤ i ∧ i < cC n k) → ∀ A, vecR n.toNat k i A → (A = [] → K (.tup [.c .csn, i64 0]) H) ∧ (A ≠ [] → ∀ (c : Nat) (rest : List Int), A.length ≤ c → c ≤ 9223372036854775807 → rest.length = c - A.length → K (.tup [.c (.csl H.length 0 0 A.length c), i64 0]) (H ++ [.own 3 [.ints .i64 c (A ++ rest)]])))
  | _ => False
theorem vector_ct : HCtOk Tryz.prog 122 hVector := by
  intro ws H K h hr hb ho G σ base w₀ w hw
  unfold hVector at h
  split at h
  · rename_i n k i
    rcases Classical.em (0 ≤ i ∧ i < cC n k) with hi | hi
    · have hc := cC_def n k
      have hin : (0 ≤ n ∧ n ≤ 8) ∧ 0 ≤ k ∧ k ≤ 8 := by
        by_cases hh : (0 ≤ n ∧ n ≤ 8) ∧ 0 ≤ k ∧ k ≤ 8
        · exact hh
        · rw [if_neg hh] at hc; omega
      rw [if_pos hin] at hc
      refine walk_lift FVe_ok Tryz.func122 (n := 0) (ws := [i64 n, i64 k, i64 i]) (R := []) nil_ok ⟨hr.1, hr.2.1, hr.2.2.1, trivial⟩ rfl (vector_walk n k i hr.2.2.1 hin.1 hin.2 (by rw [← hc]; exact hi)) ?_ id no_ro rfl ?_ ho G σ base w₀ w hw
      · rintro x N ⟨A, _, ⟨_, _, rfl⟩ | ⟨_, c, rest, _, _, _, _, rfl⟩⟩ b hb
        · cases hb
        · rw [List.mem_singleton.1 hb]; exact .inl rfl
      · rintro x N ⟨A, hA, ⟨e, rfl, rfl⟩ | ⟨e, c, rest, h1, h2, h3, rfl, rfl⟩⟩
        · simpa [V.ren, renW, W.ren, C.ren] using (h.2 hi A hA).1 e
        · have := (h.2 hi A hA).2 e c rest h1 h2 h3
          simpa [V.ren, renW, W.ren, C.ren, Blk.ren, rens, Seg.ren, sh] using this
    · exact walk_lift FVe_ok Tryz.func122 (n := 0) (ws := [i64 n, i64 k, i64 i]) (R := []) nil_ok ⟨hr.1, hr.2.1, hr.2.2.1, trivial⟩ rfl (vector_bad n k i hr.1 hr.2.1 hr.2.2.1 hi) none_mine id no_ro rfl (none_K (h.1 hi)) ho G σ base w₀ w hw
  · exact h.elim
theorem sumA_cons (x : Int) (B : List Int) : sumA (x :: B) (x :: B).length = szV x + sumA B B.length := by
  have := sumA_drop (x :: B) 0 (by simp)
  simpa using this
theorem rnk_mono {n k : Int} (hn : n ≤ 8) (hk : k ≤ 8) {s : Nat} : ∀ t : Nat, s ≤ t → rnk n k s ≤ rnk n k t
  | 0, h => by obtain rfl : s = 0 := by omega
               exact Int.le_refl _
  | t + 1, h => by
    rcases Nat.lt_or_ge s (t + 1) with h1 | h1
    · have := rnk_mono hn hk (s := s) t (by omega)
      have h2 := szV_in (t - k)
      have h3 := (cN_in (n := n) (k := k - szV (t - k)) hn (by omega)).1
      show rnk n k s ≤ rnk n k t + cN n (k - szV (t - k))
      omega
    · obtain rfl : s = t + 1 := by omega
      exact Int.le_refl _
theorem head_in {x : Int} {B : List Int} {k : Int} (hs : sumA (x :: B) (x :: B).length = k) (hk : k ≤ 8) : (-k ≤ x ∧ x ≤ k) ∧ 0 ≤ k ∧ 0 ≤ k - szV x ∧ k - szV x ≤ 8 ∧ sumA B B.length = k - szV x := by
  rw [sumA_cons] at hs
  have h1 := szV_in x
  have h2 := (sumA_in B B.length).1
  have h3 := szV_def x
  split at h3
  · omega
  · unfold absI at h3; omega
theorem rank_in : ∀ (A : List Int) (k : Int), sumA A A.length = k → k ≤ 8 → A.length ≤ 8 → 0 ≤ rank A k ∧ rank A k < cN A.length k
  | [], k, hs, _, _ => by
    obtain rfl : k = 0 := hs.symm
    show (0 : Int) ≤ 0 ∧ (0 : Int) < cN 0 0
    rw [cN_zero]; decide
  | x :: B, k, hs, hk, hl => by
    obtain ⟨h1, h2, h3, h4, h5⟩ := head_in hs hk
    have hl' : B.length ≤ 7 := by simpa using hl
    obtain ⟨i1, i2⟩ := rank_in B (k - szV x) h5 h4 (by omega)
    have r0 := rnk_in (n := (B.length : Int)) (k := k) (by omega) hk (x + k).toNat
    have rn := rnk_next (n := (B.length : Int)) (k := k) (z := x) (by omega)
    have rm := rnk_mono (n := (B.length : Int)) (k := k) (by omega) hk (s := (x + 1 + k).toNat) (2 * k + 1).toNat (by omega)
    have ra := rnk_all (m := (B.length : Int)) (k := k) (by omega) ⟨h2, hk⟩
    show 0 ≤ rnk (B.length : Int) k (x + k).toNat + rank B (k - szV x) ∧ rnk (B.length : Int) k (x + k).toNat + rank B (k - szV x) < cN ((B.length + 1 : Nat) : Int) k
    rw [show ((B.length + 1 : Nat) : Int) = (B.length : Int) + 1 by omega]
    omega
theorem rank_lt : ∀ (p : Nat) (A B : List Int) (k : Int), A.length = B.length → A.length ≤ 8 → k ≤ 8 → sumA A A.length = k → sumA B B.length = k → p < A.length → (∀ j, j < p → A.getD j 0 = B.getD j 0) → A.getD p 0 < B.getD p 0 → rank A k < rank B k
  | _, [], _, _, _, _, _, _, _, hp, _, _ => by simp at hp
  | _, _ :: _, [], _, hl, _, _, _, _, _, _, _ => by simp at hl
  | 0, x :: A, y :: B, k, hl, h8, hk, ha, hb, _, _, hlt => by
    have hl' : A.length = B.length := by simpa using hl
    have hA : A.length ≤ 7 := by simpa using h8
    obtain ⟨a1, a2, a3, a4, a5⟩ := head_in ha hk
    obtain ⟨b1, b2, b3, b4, b5⟩ := head_in hb hk
    have hlt' : x < y := hlt
    have ia := rank_in A _ a5 a4 (by omega)
    have ib := rank_in B _ b5 b4 (by omega)
    have rn := rnk_next (n := (A.length : Int)) (k := k) (z := x) (by omega)
    have rm := rnk_mono (n := (A.length : Int)) (k := k) (by omega) hk (s := (x + 1 + k).toNat) (y + k).toNat (by omega)
    show rnk (A.length : Int) k (x + k).toNat + rank A (k - szV x) < rnk (B.length : Int) k (y + k).toNat + rank B (k - szV y)
    rw [← hl']
    omega
  | p + 1, x :: A, y :: B, k, hl, h8, hk, ha, hb, hp, hc, hlt => by
    have hl' : A.length = B.length := by simpa using hl
    have hA : A.length ≤ 7 := by simpa using h8
    have hp' : p < A.length := by simpa using hp
    obtain ⟨a1, a2, a3, a4, a5⟩ := head_in ha hk
    obtain ⟨b1, b2, b3, b4, b5⟩ := head_in hb hk
    have e : x = y := hc 0 (by omega)
    subst e
    have := rank_lt p A B (k - szV x) hl' (by omega) a4 a5 b5 hp' (fun j hj => hc (j + 1) (by omega)) hlt
    show rnk (A.length : Int) k (x + k).toNat + rank A (k - szV x) < rnk (B.length : Int) k (x + k).toNat + rank B (k - szV x)
    rw [← hl']
    omega
theorem row_ext {A B : List Int} (hl : A.length = B.length) (h : ∀ j, j < A.length → A.getD j 0 = B.getD j 0) : A = B := by
  refine List.ext_getElem hl fun i h1 h2 => ?_
  have := h i h1
  rwa [List.getD_eq_getElem?_getD, List.getD_eq_getElem?_getD, List.getElem?_eq_getElem h1, List.getElem?_eq_getElem h2] at this
theorem first_unlike {A B : List Int} : ∀ n : Nat, (∀ j, j < n → A.getD j 0 = B.getD j 0) ∨ ∃ p, p < n ∧ (∀ j, j < p → A.getD j 0 = B.getD j 0) ∧ A.getD p 0 ≠ B.getD p 0
  | 0 => .inl fun j hj => absurd hj (Nat.not_lt_zero j)
  | n + 1 => by
    rcases first_unlike n with h | ⟨p, h1, h2, h3⟩
    · by_cases he : A.getD n 0 = B.getD n 0
      · refine .inl fun j hj => ?_
        rcases Nat.lt_or_ge j n with h1 | h1
        · exact h j h1
        · obtain rfl : j = n := by omega
          exact he
      · exact .inr ⟨n, by omega, h, he⟩
    · exact .inr ⟨p, by omega, h2, h3⟩
theorem rank_inj {A B : List Int} {k : Int} (hl : A.length = B.length) (h8 : A.length ≤ 8) (hk : k ≤ 8) (ha : sumA A A.length = k) (hb : sumA B B.length = k) (h : rank A k = rank B k) : A = B := by
  rcases first_unlike (A := A) (B := B) A.length with hh | ⟨p, h1, h2, h3⟩
  · exact row_ext hl hh
  · exfalso
    rcases Int.lt_trichotomy (A.getD p 0) (B.getD p 0) with h4 | h4 | h4
    · have := rank_lt p A B k hl h8 hk ha hb h1 h2 h4
      omega
    · exact h3 h4
    · have := rank_lt p B A k hl.symm (by omega) hk hb ha (by omega) (fun j hj => (h2 j hj).symm) h4
      omega
end V
end Go.Proofs.YtaficaacogcblaaGreatDoor
set_option linter.all false
namespace Go.Proofs.YtaficaacogcblaaGreatDoor
namespace D.L
open Go.RowKit (Below)
set_option maxRecDepth 100000
set_option maxHeartbeats 32000000
def bad8 (x : Int) : Prop := x < -8 ∨ 8 < x
instance (x : Int) : Decidable (bad8 x) := by unfold bad8; infer_instance
theorem bad_walk (x : Int) (hx : InK .i64 x) : walk F0 0 Tryz.f173 [i64 x] [] fun y _ => y = vb (decide (bad8 x)) := by
  conv => whnf
  refine ask_split (fun h => ?_) (fun h => ?_)
  · rw [decide_eq_true (show bad8 x from .inl h)]
    repeat' ((conv => whnf); first | (refine ask_wrap64 (by omega) (by omega) ?_) | (refine ask_true (by omega) ?_) | (refine ask_false (by omega) ?_) | (refine ⟨trivial, ?_⟩) | (refine ⟨by omega, ?_⟩) | (refine fun (_ : InK _ _) => ?_) | (refine ⟨by kernel_rfl, ?_⟩) | (refine ask_wrapu8 (by omega) (by omega) ?_) | (refine ask_wrapu64 (by omega) (by omega) ?_) | (refine ask_true (show (_ : Bool) = _ from rfl) ?_) | (refine ask_false (show ¬ ((_ : Bool) = _) from Bool.noConfusion) ?_) | fail)
    rfl
  · conv => whnf
    refine ask_split (fun h2 => ?_) (fun h2 => ?_)
    · rw [decide_eq_true (show bad8 x from .inr h2)]
      repeat' ((conv => whnf); first | (refine ask_wrap64 (by omega) (by omega) ?_) | (refine ask_true (by omega) ?_) | (refine ask_false (by omega) ?_) | (refine ⟨trivial, ?_⟩) | (refine ⟨by omega, ?_⟩) | (refine fun (_ : InK _ _) => ?_) | (refine ⟨by kernel_rfl, ?_⟩) | (refine ask_wrapu8 (by omega) (by omega) ?_) | (refine ask_wrapu64 (by omega) (by omega) ?_) | (refine ask_true (show (_ : Bool) = _ from rfl) ?_) | (refine ask_false (show ¬ ((_ : Bool) = _) from Bool.noConfusion) ?_) | fail)
      rfl
    · rw [decide_eq_false (show ¬ bad8 x from fun hb => by unfold bad8 at hb; omega)]
      repeat' ((conv => whnf); first | (refine ask_wrap64 (by omega) (by omega) ?_) | (refine ask_true (by omega) ?_) | (refine ask_false (by omega) ?_) | (refine ⟨trivial, ?_⟩) | (refine ⟨by omega, ?_⟩) | (refine fun (_ : InK _ _) => ?_) | (refine ⟨by kernel_rfl, ?_⟩) | (refine ask_wrapu8 (by omega) (by omega) ?_) | (refine ask_wrapu64 (by omega) (by omega) ?_) | (refine ask_true (show (_ : Bool) = _ from rfl) ?_) | (refine ask_false (show ¬ ((_ : Bool) = _) from Bool.noConfusion) ?_) | fail)
      rfl
theorem bad_ct : CtOk Tryz.prog 173 (ctP bad8) := ctP_ok F0_ok Tryz.func173 bad_walk
noncomputable def FH : Fns := ((F0.plus 173 (ctP bad8)).into 111 Tryz.f111).into 148 Tryz.f148
theorem FH_ok : FnsOk Tryz.prog FH := ((F0_ok.plus bad_ct Tryz.func173 (by kernel_rfl) (by kernel_rfl)).into Tryz.func111 (by kernel_rfl) (by kernel_rfl)).into Tryz.func148 (by kernel_rfl) (by kernel_rfl)
@[irreducible] def rightL (lv : Int) (ys : List Int) : Prop := (0 ≤ lv ∧ lv ≤ 20) ∧ ys.length ≤ 8 ∧ ∀ y ∈ ys, -8 ≤ y ∧ y ≤ 8
theorem rightL_def (lv : Int) (ys : List Int) : rightL lv ys ↔ (0 ≤ lv ∧ lv ≤ 20) ∧ ys.length ≤ 8 ∧ ∀ y ∈ ys, -8 ≤ y ∧ y ≤ 8 := by unfold rightL; exact Iff.rfl
noncomputable instance (lv : Int) (ys : List Int) : Decidable (rightL lv ys) := Classical.propDecidable _
def boolP (t : Bool) (x : V) (N : List Blk) : Prop := x = vb t ∧ N = []
theorem bool_made {t t' : Bool} {H' : List Blk} (h : t' = t) : Made (boolP t) (vb t') H' := made_of (vb t') [] id ⟨by rw [h], rfl⟩ rfl trivial (fun p q hp _ _ => absurd hp (Nat.not_lt_zero p)) rfl rfl (by intro e; cases e)
theorem bool_mine {t : Bool} : ∀ (x : V) (N : List Blk), boolP t x N → ∀ b ∈ N, b.mine = true ∨ b = .gone := by
  rintro x N ⟨_, rfl⟩ b hb; cases hb
theorem bool_K {t : Bool} {H : List Blk} {K : V → List Blk → Prop} (h : K (vb t) H) : ∀ x N, boolP t x N → K (x.ren (sh H.length)) (H ++ N.map (Blk.ren (sh H.length))) := by
  rintro x N ⟨rfl, rfl⟩
  simpa [V.ren, W.ren, C.ren] using h
theorem right_walk (xs : List Int) (l : Nat) (lv : Int) (hl : l ≤ xs.length) (hc : xs.length ≤ 9223372036854775807) (hk : InK .i64 lv) :
    walk FH 2 Tryz.f152 [i64 lv, .c (.csl 0 0 0 l xs.length)] [.ro [.ints .i64 xs.length xs]] (Made (boolP (decide (rightL lv (xs.take l))))) := by
  have lt : (xs.take l).length = l := by simp; omega
  have no : ¬ rightL lv (xs.take l) → false = decide (rightL lv (xs.take l)) := fun h => (decide_eq_false h).symm
  by_cases h3 : 0 ≤ lv
  · by_cases h4 : lv ≤ 20
    · by_cases h2 : l ≤ 8
      · repeat' ((conv => whnf); first | (refine ask_true (by omega) ?_) | fail)
        conv => whnf
        refine loop_at (4 :: 5 :: List.range' 8 11) (fun m (i : Int) => 0 ≤ i ∧ i ≤ l ∧ m = (l - i).toNat ∧ ∀ k : Nat, (k : Int) < i → ¬ bad8 (xs.getD k 0)) (fun i => [(8, vi i)]) (fun _ => [.ro [.ints .i64 xs.length xs]]) l 0 ⟨by decide, by omega, by omega, fun k hk => by omega⟩ ?_ ?_
        · exact ⟨rfl, ⟨⟨Nat.le_of_ble_eq_true rfl, rfl⟩, trivial⟩, ⟨rfl, trivial⟩, rfl, rfl, Nat.le_of_ble_eq_true rfl⟩
        · rintro m i ⟨i0, i1, rfl, g3⟩
          have em : mulN i.toNat (Tryz.prog.types[3]).size = i.toNat := mulN1 i.toNat
          rcases Int.lt_or_le i l with i2 | i2
          · have hat : xs.getD (0 + mulN i.toNat (Tryz.prog.types[3]).size) 0 = xs.getD i.toNat 0 := by rw [em, Nat.zero_add]
            repeat' ((conv => whnf); first | (refine ask_true (by omega) ?_) | (refine And.intro (by omega) ?_) | (refine fun (_ : InK _ _) => ?_) | fail)
            conv => whnf
            refine ask_split (fun hb => ?_) (fun hb => ?_)
            · repeat' ((conv => whnf); first | (refine ask_true (by omega) ?_) | (refine ask_false (by omega) ?_) | fail)
              conv => whnf
              refine bool_made (no fun hr => ?_)
              rw [rightL_def] at hr
              rw [hat] at hb
              have := hr.2.2 (xs.getD i.toNat 0) (by
                rw [← getD_take (n := l) (by omega)]
                exact mem_at (by omega))
              unfold bad8 at hb
              omega
            · repeat' ((conv => whnf); first | (refine ask_wrap64 (by omega) (by omega) ?_) | fail)
              conv => whnf
              refine ⟨(l - (i + 1)).toNat, i + 1, by omega, ⟨by omega, by omega, rfl, fun k hk => ?_⟩, rfl, ⟨⟨Nat.le_of_ble_eq_true rfl, rfl⟩, trivial⟩, ⟨rfl, trivial⟩, rfl, rfl, Nat.le_of_ble_eq_true rfl⟩
              rcases Int.lt_or_le k i with hk2 | hk2
              · exact g3 k hk2
              · rw [hat] at hb
                obtain rfl : k = i.toNat := by omega
                exact hb
          · repeat' ((conv => whnf); first | (refine ask_true (by omega) ?_) | (refine ask_false (by omega) ?_) | fail)
            conv => whnf
            refine bool_made ((decide_eq_true ?_).symm)
            rw [rightL_def]
            refine ⟨⟨h3, h4⟩, by omega, all_of_at fun k hk => ?_⟩
            have := g3 k (by omega)
            rw [getD_take (by omega)]
            unfold bad8 at this
            omega
      · repeat' ((conv => whnf); first | (refine ask_true (by omega) ?_) | (refine ask_false (by omega) ?_) | fail)
        conv => whnf
        exact bool_made (no fun hr => by rw [rightL_def] at hr; omega)
    · repeat' ((conv => whnf); first | (refine ask_true (by omega) ?_) | (refine ask_false (by omega) ?_) | fail)
      conv => whnf
      exact bool_made (no fun hr => by rw [rightL_def] at hr; omega)
  · repeat' ((conv => whnf); first | (refine ask_true (by omega) ?_) | (refine ask_false (by omega) ?_) | fail)
    conv => whnf
    exact bool_made (no fun hr => by rw [rightL_def] at hr; omega)
theorem right_nil (lv : Int) (hk : InK .i64 lv) : walk FH 2 Tryz.f152 [i64 lv, .c .csn] [] (Made (boolP (decide (rightL lv [])))) := by
  have no : ¬ rightL lv [] → false = decide (rightL lv []) := fun h => (decide_eq_false h).symm
  by_cases h3 : 0 ≤ lv
  · by_cases h4 : lv ≤ 20
    · repeat' ((conv => whnf); first | (refine ask_true (by omega) ?_) | fail)
      conv => whnf
      refine loop_at (4 :: 5 :: List.range' 8 11) (fun m (i : Int) => i = 0 ∧ m = 0) (fun i => [(8, vi i)]) (fun _ => []) 0 0 ⟨rfl, rfl⟩ ?_ ?_
      · exact ⟨rfl, ⟨⟨Nat.le_of_ble_eq_true rfl, rfl⟩, trivial⟩, trivial, rfl, rfl, Nat.le_of_ble_eq_true rfl⟩
      · rintro m i ⟨rfl, rfl⟩
        repeat' ((conv => whnf); first | (refine ask_true (by decide) ?_) | (refine ask_false (by decide) ?_) | fail)
        conv => whnf
        refine bool_made ((decide_eq_true ?_).symm)
        rw [rightL_def]
        exact ⟨⟨h3, h4⟩, by decide, fun y hy => by cases hy⟩
    · repeat' ((conv => whnf); first | (refine ask_true (by omega) ?_) | (refine ask_false (by omega) ?_) | fail)
      conv => whnf
      exact bool_made (no fun hr => by rw [rightL_def] at hr; omega)
  · repeat' ((conv => whnf); first | (refine ask_true (by omega) ?_) | (refine ask_false (by omega) ?_) | fail)
    conv => whnf
    exact bool_made (no fun hr => by rw [rightL_def] at hr; omega)
def hRight : HCt := fun ws H K => match ws with
  | [.c (.ci .i64 lv), .c .csn] => ∀ τ, τ = decide (rightL lv []) → K (vb τ) H
  | [.c (.ci .i64 lv), .c x] => slK H x fun _ l xs => ∀ τ, τ = decide (rightL lv (xs.take l)) → K (vb τ) H
  | _ => False
theorem right_ct : HCtOk Tryz.prog 152 hRight := by
  intro ws H K h hr hb ho G σ base w₀ w hw
  unfold hRight at h
  split at h
  · rename_i lv
    exact walk_lift FH_ok Tryz.func152 (n := 2) (ws := [i64 lv, .c .csn]) (R := []) nil_ok ⟨hr.1, trivial, trivial⟩ rfl (right_nil lv hr.1) bool_mine id no_ro rfl (bool_K (h _ rfl)) ho G σ base w₀ w hw
  · rename_i lv x _
    obtain ⟨j, l, xs, h', hx, g1, g2, g3, g4⟩ := slK_spec h ho hr.2.1
    clear h
    subst hx
    exact walk_lift FH_ok Tryz.func152 (n := 2) (ws := [i64 lv, .c (.csl 0 0 0 l xs.length)]) (R := [.ro [.ints .i64 xs.length xs]]) (ro_ok g3) ⟨hr.1, ⟨g1, g2⟩, trivial⟩ rfl (right_walk xs l lv g1 g2 hr.1) bool_mine (fun _ => j) (ro_at g4) rfl (bool_K (h' _ rfl)) ho G σ base w₀ w hw
  · exact h.elim
noncomputable def fillN (lv S n : Int) : Int := (n * 3 * (1 * pw lv)).tdiv (4 * S)
theorem fillN_zero (lv n : Int) : fillN lv 0 n = 0 := by unfold fillN; rw [Int.mul_zero, Int.tdiv_zero]
theorem tdiv_small {a b : Int} : -(if a < 0 then -a else a) ≤ a.tdiv b ∧ a.tdiv b ≤ (if a < 0 then -a else a) := by
  have h := Int.natAbs_tdiv_le_natAbs a b
  split <;> omega
theorem fill_prod {lv n : Int} (h : 0 ≤ lv ∧ lv ≤ 20) (hn : -8 ≤ n ∧ n ≤ 8) : -25165824 ≤ n * 3 * (1 * pw lv) ∧ n * 3 * (1 * pw lv) ≤ 25165824 := by
  have p1 := pw_pos lv
  have p2 := pw_mono h.2
  have p20 : pw 20 = 1048576 := by rw [pw_def]; decide
  exact prod_bound (a := n * 3) (b := 1 * pw lv) (m := 24) (n := 1048576) (by omega) (by omega) (by omega) (by omega)
theorem fillN_in {lv S n : Int} (h : 0 ≤ lv ∧ lv ≤ 20) (hn : -8 ≤ n ∧ n ≤ 8) : -25165824 ≤ fillN lv S n ∧ fillN lv S n ≤ 25165824 := by
  have h1 := fill_prod h hn
  have h2 := tdiv_small (a := n * 3 * (1 * pw lv)) (b := 4 * S)
  unfold fillN
  split at h2 <;> omega
noncomputable def flZ (lv : Int) (ys : List Int) : List Int := if rightL lv ys ∧ lv ≠ 0 then ys.map (fillN lv (sumF ys ys.length)) else List.replicate ys.length 0
theorem flZ_len (lv : Int) (ys : List Int) : (flZ lv ys).length = ys.length := by unfold flZ; split <;> simp
theorem sumF_take {xs : List Int} {l : Nat} : ∀ {n : Nat}, n ≤ l → sumF (xs.take l) n = sumF xs n
  | 0, _ => rfl
  | n + 1, h => by
    show sumF _ n + szF ((xs.take l).getD n 0) = sumF xs n + szF (xs.getD n 0)
    rw [sumF_take (by omega), getD_take (by omega)]
def fillP (zs : List Int) (x : V) (N : List Blk) : Prop := x = .w (.c (.csl 0 0 0 zs.length zs.length)) ∧ N = [.own 3 [.ints .i64 zs.length zs]]
theorem fill_made {zs ys : List Int} {l j : Nat} {H' : List Blk} (h : zs = ys) (hl : zs.length = l) (hj : H'[j]? = some (.own 3 [.ints .i64 l ys])) : Made (fillP zs) (.w (.c (.csl j 0 0 l l))) H' := by
  subst h hl
  exact made_of (.w (.c (.csl 0 0 0 zs.length zs.length))) [.own 3 [.ints .i64 zs.length zs]] (fun _ => j) ⟨rfl, rfl⟩ rfl (And.intro hj trivial) (fun p q hp hq _ => by have hp' : p < 1 := hp; have hq' : q < 1 := hq; omega) rfl rfl (by intro e; cases e)
theorem fill_mine {zs : List Int} : ∀ (x : V) (N : List Blk), fillP zs x N → ∀ b ∈ N, b.mine = true ∨ b = .gone := by
  rintro x N ⟨_, rfl⟩ b hb
  rw [List.mem_singleton.1 hb]; exact .inl rfl
theorem fill_K {zs : List Int} {H : List Blk} {K : V → List Blk → Prop} (h : K (.w (.c (.csl H.length 0 0 zs.length zs.length))) (H ++ [.own 3 [.ints .i64 zs.length zs]])) : ∀ x N, fillP zs x N → K (x.ren (sh H.length)) (H ++ N.map (Blk.ren (sh H.length))) := by
  rintro x N ⟨rfl, rfl⟩
  simpa [V.ren, W.ren, C.ren, Blk.ren, rens, Seg.ren, sh] using h
noncomputable def FFi : Fns := (F0.over 152 hRight).over 134 hSum
theorem FFi_ok : FnsOk Tryz.prog FFi := (F0_ok.over right_ct Tryz.func152 (by kernel_rfl) (by kernel_rfl)).over sum_ct Tryz.func134 (by kernel_rfl) (by kernel_rfl)
theorem bytes3 : (Tryz.prog.types[3]).bytes = 8 := by kernel_rfl
theorem stg_self (zs : List Int) (i : Int) : stg zs zs i = zs := by unfold stg; exact List.take_append_drop _ _
theorem fill_walk (ys : List Int) (l : Nat) (lv : Int) (hl : l ≤ ys.length) (hc : ys.length ≤ 9223372036854775807) (hk : InK .i64 lv) (h10 : l ≤ 1000) :
    walk FFi 0 Tryz.f124 [i64 lv, .c (.csl 0 0 0 l ys.length)] [.ro [.ints .i64 ys.length ys]] (Made (fillP (flZ lv (ys.take l)))) := by
  have lt : (ys.take l).length = l := by simp; omega
  have b3 := bytes3
  have n1 : natI (l : Int) = l := rfl
  have fl := flZ_len lv (ys.take l)
  rw [lt] at fl
  rcases Classical.em (rightL lv (ys.take l)) with hr | hr
  · rcases Classical.em (lv = 0) with h0 | h0
    · have e : flZ lv (ys.take l) = List.replicate l 0 := by unfold flZ; rw [if_neg (fun h => h.2 h0), lt]
      repeat' ((conv => whnf); first | (refine ask_true hr ?_) | (refine And.intro ⟨by omega, by omega, by omega, by rw [b3]; omega⟩ ?_) | (refine And.intro ⟨rfl, rfl⟩ ?_) | (refine And.intro rfl ?_) | (refine ask_true (by omega) ?_) | fail)
      conv => whnf
      exact fill_made (j := 1) e fl rfl
    · have hr' := hr
      rw [rightL_def] at hr'
      have e : flZ lv (ys.take l) = (ys.take l).map (fillN lv (sumF ys l)) := by unfold flZ; rw [if_pos ⟨hr, h0⟩, lt, sumF_take (Nat.le_refl _)]
      have sb := sumF_in ys l
      obtain ⟨S, eS⟩ : ∃ S, S = sumF ys l := ⟨_, rfl⟩
      repeat' ((conv => whnf); first | (refine ask_true hr ?_) | (refine And.intro ⟨by omega, by omega, by omega, by rw [b3]; omega⟩ ?_) | (refine And.intro ⟨rfl, rfl⟩ ?_) | (refine And.intro rfl ?_) | (refine ask_false (by omega) ?_) | (refine And.intro (by omega) ?_) | fail)
      conv => whnf
      refine loop_at (6 :: 7 :: 8 :: List.range' 25 19) (fun m (i : Int) => 0 ≤ i ∧ i ≤ l ∧ m = (l - i).toNat) (fun i => [(6, vi S), (25, vi i)]) (fun i => [.ro [.ints .i64 ys.length ys], .own 3 [.ints .i64 l (stg (flZ lv (ys.take l)) (List.replicate l 0) i)]]) l 0 ⟨by decide, by omega, by omega⟩ ?_ ?_
      · exact ⟨rfl, ⟨⟨Nat.le_of_ble_eq_true rfl, congrArg vi eS.symm⟩, ⟨Nat.le_of_ble_eq_true rfl, rfl⟩, trivial⟩, ⟨rfl, by rw [stg_zero]; rfl, trivial⟩, rfl, rfl, Nat.le_of_ble_eq_true rfl⟩
      · rw [← eS] at sb
        rintro m i ⟨i0, i1, rfl⟩
        have em : mulN i.toNat (Tryz.prog.types[3]).size = i.toNat := mulN1 _
        rcases Int.lt_or_le i l with i2 | i2
        · have ex : ys.getD (0 + mulN i.toNat (Tryz.prog.types[3]).size) 0 = (ys.take l).getD i.toNat 0 := by rw [em, Nat.zero_add, getD_take (by omega)]
          have hn := hr'.2.2 ((ys.take l).getD i.toNat 0) (mem_at (by omega))
          rw [← ex] at hn
          have hp := fill_prod hr'.1 hn
          have hf := fillN_in (S := S) hr'.1 hn
          unfold fillN at hf
          have p1 := pw_pos lv
          have p2 := pw_mono hr'.1.2
          have p20 : pw 20 = 1048576 := by rw [pw_def]; decide
          have em' : 0 + mulN i.toNat (Tryz.prog.types[3]).size = i.toNat := by omega
          have hv : (flZ lv (ys.take l)).getD i.toNat 0 = (ys.getD (0 + mulN i.toNat (Tryz.prog.types[3]).size) 0 * 3 * (1 * pw lv)).tdiv (4 * S) := by
            rw [e, getD_map (by omega), ← ex, ← eS]; rfl
          rcases Int.lt_or_le 0 S with s0 | s0
          · repeat' ((conv => whnf); first | (refine ask_true (by omega) ?_) | (refine And.intro (by omega) ?_) | (refine fun (_ : InK _ _) => ?_) | (refine shl64 (by omega) (by omega) (by omega) (by omega) ?_) | (refine ask_wrap64 (by omega) (by omega) ?_) | fail)
            conv => whnf
            refine ⟨(l - (i + 1)).toNat, i + 1, by omega, ⟨by omega, by omega, rfl⟩, rfl, ⟨⟨Nat.le_of_ble_eq_true rfl, rfl⟩, ⟨Nat.le_of_ble_eq_true rfl, rfl⟩, trivial⟩, ⟨rfl, ?_, trivial⟩, rfl, rfl, Nat.le_of_ble_eq_true rfl⟩
            exact congrArg (fun zs => Blk.own 3 [.ints .i64 l zs]) (stg_set em' (by simp [fl]) i0 (by omega) hv).symm
          · have z0 : (flZ lv (ys.take l)) = List.replicate l 0 := by
              rw [e, ← eS, show S = 0 by omega]
              refine List.ext_getElem (by rw [List.length_map, lt, List.length_replicate]) fun k k1 k2 => ?_
              simp only [List.getElem_map, List.getElem_replicate, fillN_zero]
            repeat' ((conv => whnf); first | (refine ask_true (by omega) ?_) | (refine ask_false (by omega) ?_) | (refine And.intro (by omega) ?_) | (refine fun (_ : InK _ _) => ?_) | (refine ask_wrap64 (by omega) (by omega) ?_) | fail)
            conv => whnf
            refine ⟨(l - (i + 1)).toNat, i + 1, by omega, ⟨by omega, by omega, rfl⟩, rfl, ⟨⟨Nat.le_of_ble_eq_true rfl, rfl⟩, ⟨Nat.le_of_ble_eq_true rfl, rfl⟩, trivial⟩, ⟨rfl, ?_, trivial⟩, rfl, rfl, Nat.le_of_ble_eq_true rfl⟩
            rw [z0, stg_self, stg_self]
        · have hi : i = l := by omega
          subst hi
          have sa : stg (flZ lv (ys.take l)) (List.replicate l 0) l = flZ lv (ys.take l) := stg_all (by simp [fl]) (by omega)
          repeat' ((conv => whnf); first | (refine ask_false (by omega) ?_) | fail)
          conv => whnf
          exact fill_made (j := 1) rfl fl (by rw [sa]; rfl)
  · have e : flZ lv (ys.take l) = List.replicate l 0 := by unfold flZ; rw [if_neg (fun h => hr h.1), lt]
    repeat' ((conv => whnf); first | (refine ask_false hr ?_) | (refine And.intro ⟨by omega, by omega, by omega, by rw [b3]; omega⟩ ?_) | (refine And.intro ⟨rfl, rfl⟩ ?_) | (refine And.intro rfl ?_) | fail)
    conv => whnf
    exact fill_made (j := 1) e fl rfl
theorem fill_nil (lv : Int) (hk : InK .i64 lv) : walk FFi 0 Tryz.f124 [i64 lv, .c .csn] [] (Made (fillP [])) := by
  have b3 := bytes3
  rcases Classical.em (rightL lv []) with hr | hr
  · rcases Classical.em (lv = 0) with h0 | h0
    · repeat' ((conv => whnf); first | (refine ask_true hr ?_) | (refine And.intro rfl ?_) | (refine And.intro ⟨by decide, by decide, by decide, by rw [b3]; decide⟩ ?_) | (refine ask_true (by omega) ?_) | fail)
      conv => whnf
      exact fill_made (zs := []) (ys := []) (l := 0) (j := 0) rfl rfl rfl
    · repeat' ((conv => whnf); first | (refine ask_true hr ?_) | (refine And.intro rfl ?_) | (refine And.intro ⟨by decide, by decide, by decide, by rw [b3]; decide⟩ ?_) | (refine ask_false (by omega) ?_) | fail)
      conv => whnf
      refine loop_at (7 :: 8 :: List.range' 25 19) (fun m (i : Int) => i = 0 ∧ m = 0) (fun i => [(25, vi i)]) (fun i => [.own 3 [.ints .i64 0 []]]) 0 0 ⟨rfl, rfl⟩ ?_ ?_
      · exact ⟨rfl, ⟨⟨Nat.le_of_ble_eq_true rfl, rfl⟩, trivial⟩, ⟨rfl, trivial⟩, rfl, rfl, Nat.le_of_ble_eq_true rfl⟩
      · rintro m i ⟨rfl, rfl⟩
        repeat' ((conv => whnf); first | (refine ask_false (by decide) ?_) | fail)
        conv => whnf
        exact fill_made (zs := []) (ys := []) (l := 0) (j := 0) rfl rfl rfl
  · repeat' ((conv => whnf); first | (refine ask_false hr ?_) | (refine And.intro rfl ?_) | (refine And.intro ⟨by decide, by decide, by decide, by rw [b3]; decide⟩ ?_) | fail)
    conv => whnf
    exact fill_made (zs := []) (ys := []) (l := 0) (j := 0) rfl rfl rfl
def hFill : HCt := fun ws H K => match ws with
  | [.c (.ci .i64 _), .c .csn] => K (.w (.c (.csl H.length 0 0 0 0))) (H ++ [.own 3 [.ints .i64 0 []]])
  | [.c (.ci .i64 lv), .c x] => slK H x fun _ l xs => l ≤ 1000 ∧ K (.w (.c (.csl H.length 0 0 l l))) (H ++ [.own 3 [.ints .i64 l (flZ lv (xs.take l))]])
  | _ => False
theorem fill_ct : HCtOk Tryz.prog 124 hFill := by
  intro ws H K h hr hb ho G σ base w₀ w hw
  unfold hFill at h
  split at h
  · rename_i lv
    exact walk_lift FFi_ok Tryz.func124 (n := 0) (ws := [i64 lv, .c .csn]) (R := []) nil_ok ⟨hr.1, trivial, trivial⟩ rfl (fill_nil lv hr.1) fill_mine id no_ro rfl (fill_K h) ho G σ base w₀ w hw
  · rename_i lv x _
    obtain ⟨j, l, xs, h', hx, g1, g2, g3, g4⟩ := slK_spec h ho hr.2.1
    clear h
    subst hx
    have fl : (flZ lv (xs.take l)).length = l := by rw [flZ_len]; simp; omega
    refine walk_lift FFi_ok Tryz.func124 (n := 0) (ws := [i64 lv, .c (.csl 0 0 0 l xs.length)]) (R := [.ro [.ints .i64 xs.length xs]]) (ro_ok g3) ⟨hr.1, ⟨g1, g2⟩, trivial⟩ rfl (fill_walk xs l lv g1 g2 hr.1 h'.1) fill_mine (fun _ => j) (ro_at g4) rfl (fill_K ?_) ho G σ base w₀ w hw
    rw [fl]
    exact h'.2
  · exact h.elim
end D.L
end Go.Proofs.YtaficaacogcblaaGreatDoor
set_option linter.all false
namespace Go.Proofs.YtaficaacogcblaaGreatDoor
namespace R
open Go.RowKit (Below)
set_option maxRecDepth 100000
set_option maxHeartbeats 16000000
def newF (s : ByteArray) : Nat → DS
  | 0 => ⟨s, 0, 0, 4294967295, 0⟩
  | k + 1 => ⟨s, (newF s k).at' + 1, ((newF s k).code * 256) % 4294967296 + byteD s (newF s k).at', (newF s k).rng, 0⟩
theorem newF_ok (s : ByteArray) : ∀ k : Nat, (newF s k).s = s ∧ (newF s k).at' = k ∧ (0 ≤ (newF s k).code ∧ (newF s k).code ≤ 4294967295) ∧ (newF s k).rng = 4294967295 ∧ (newF s k).gone = 0
  | 0 => ⟨rfl, rfl, ⟨Int.le_refl _, by simp [newF]⟩, rfl, rfl⟩
  | k + 1 => by
    obtain ⟨h1, h2, h3, h4, h5⟩ := newF_ok s k
    have hb := byteD_in s (newF s k).at'
    exact ⟨rfl, by simp only [newF]; omega, by simp only [newF]; omega, h4, rfl⟩
@[irreducible] noncomputable def nwS (s : ByteArray) : DS := sealed (fun s => newF s 4) s
theorem nwS_def (s : ByteArray) : nwS s = newF s 4 := by unfold nwS; rw [sealed_eq]
theorem nwS_ok (s : ByteArray) : DIn (nwS s) 4 ∧ (nwS s).s = s ∧ (nwS s).gone = 0 := by
  rw [nwS_def]
  obtain ⟨h1, h2, h3, h4, h5⟩ := newF_ok s 4
  exact ⟨⟨⟨h3.1, h3.2, by omega, by omega⟩, by omega, by omega, by omega, by omega⟩, h1, h5⟩
noncomputable def FN : Fns := ((F0.over 113 hNext).every 113).every 999999
theorem FN_ok : FnsOk Tryz.prog FN := (F0_ok.over next_ct Tryz.func113 (by kernel_rfl) (by kernel_rfl)).every _ |>.every _
theorem new_walk (s : ByteArray) (hs : s.size ≤ 9223372036854775807) {H : List Blk} (hH : HOk H) : walkr FN 0 Tryz.f66 [.c (.cs s)] H fun x H' => x = .w (.c (.cp H.length 0)) ∧ H' = H ++ [dcB (nwS s)] := by
  have hget : ∀ b : Blk, (H ++ [b])[H.length]? = some b := fun b => up_top H b
  have hset : ∀ a b : Blk, (H ++ [a]).set H.length b = H ++ [b] := fun a b => by rw [List.set_append_right _ _ (Nat.le_refl _)]; simp
  have hlen : ∀ b : Blk, (H ++ [b]).length = H.length + 1 := fun b => by simp
  have hbH : ∀ d' : DS, bndH (H ++ [dcB d']).length (H ++ [dcB d']) = true := fun d' => bndH_of fun b hb => by
    rcases List.mem_append.1 hb with h | h
    · rw [hlen]; exact Blk.bnd_up (Nat.le_succ _) _ (hH.bnd b h)
    · rw [List.mem_singleton.1 h]; rfl
  have hlo : ∀ d' : DS, H.length ≤ (H ++ [dcB d']).length := fun d' => by rw [hlen]; exact Nat.le_succ _
  have d1 : ∀ d' : DS, decide (H.length < (H ++ [dcB d']).length) = true := fun d' => by simp
  repeat' ((conv => whnf); first | (refine lenH_is ?_) | (refine pushH_at ?_) | fail)
  conv => whnf
  refine loop_at (List.range' 10 14) (fun m (k : Nat) => k ≤ 4 ∧ m = 4 - k) (fun k => [(10, vi k)]) (fun k => H ++ [dcB (newF s k)]) 4 (0 : Nat) ⟨by omega, rfl⟩ ?_ ?_
  · refine ⟨rfl, ⟨⟨Nat.le_of_ble_eq_true rfl, rfl⟩, trivial⟩, wkH_refl _, ?_, hbH _, hlo _⟩
    repeat' (first | rfl | exact d1 _ | refine and_t ?_ ?_)
  · rintro m k ⟨h1, rfl⟩
    obtain ⟨n1, n2, n3, n4, n5⟩ := newF_ok s k
    have hb := byteD_in (newF s k).s (newF s k).at'
    rcases Nat.lt_or_ge k 4 with g | g
    · repeat' ((conv => whnf); first | (refine ask_true (by omega) ?_) | fail)
      conv => whnf
      refine red_each (by kernel_rfl) ?_
      conv => whnf
      refine ⟨?_, ?_, trivial⟩
      all_goals repeat' ((conv => whnf); first | (refine lenH_is ?_) | (refine And.intro (show (0 : Int) ≤ 8 by decide) fun r hr => ?_) | (refine ask_or hr hv n3 hb ?_) | (refine ask_wrap64 (by omega) (by omega) ?_) | (refine Exists.intro (newF s k) (And.intro (hget _) (And.intro ⟨by omega, by omega⟩ fun v hv => ?_))) | (refine hGet_at (hget _) ?_) | (refine hGet_at (List.getElem?_set_self (by simp)) ?_) | (refine setH_at ?_) | (refine And.intro ?_ trivial) | fail)
      all_goals
        refine ⟨4 - (k + 1), k + 1, by omega, ⟨by omega, rfl⟩, ⟨rfl, ⟨⟨Nat.le_of_ble_eq_true rfl, rfl⟩, trivial⟩, ?_, ?_, hbH _, hlo _⟩⟩
        · simp only [List.set_set, hset, n1, n5]
          simp only [newF, dcB, n1, n5]
          exact wkH_refl _
        · repeat' (first | rfl | exact d1 _ | refine and_t ?_ ?_)
    · obtain rfl : k = 4 := by omega
      repeat' ((conv => whnf); first | (refine ask_false (by omega) ?_) | fail)
      rw [nwS_def]
      exact ⟨rfl, rfl⟩
def hNew : HCt := fun ws H K => match ws with
  | [.c (.cs s)] => ∀ (j : Nat) (d : DS), j = H.length → d = nwS s → DIn d 4 → d.s = s → K (.w (.c (.cp j 0))) (H ++ [dcB d])
  | _ => False
theorem new_ct : HCtOk Tryz.prog 66 hNew := by
  intro ws H K h hr hb ho G σ base w₀ w hw
  unfold hNew at h
  split at h
  · rename_i s
    obtain ⟨o1, o2, o3⟩ := nwS_ok s
    exact heap_liftr FN_ok Tryz.func66 (n := 0) (ws := [.c (.cs s)]) hr hb ho (new_walk s hr.1 ho) (fun x H' hP => by
      obtain ⟨rfl, rfl⟩ := hP
      exact h _ _ rfl rfl o1 o2) G σ base w₀ w hw
  · exact h.elim
noncomputable def ltV (d : DS) : Int := (P.placeS (atS d 32768)).v
noncomputable def ltD (d : DS) : DS := tkS d (P.placeS (atS d 32768)).s (P.placeS (atS d 32768)).w 32768
noncomputable def FT2 : Fns := (((F0.over 114 hAt).over 117 hTake).plus 115 P.ctFind).plus 116 P.ctCellV
theorem FT2_ok : FnsOk Tryz.prog FT2 := (((F0_ok.over at_ct Tryz.func114 (by kernel_rfl) (by kernel_rfl)).over take_ct Tryz.func117 (by kernel_rfl) (by kernel_rfl)).plus P.find_ct Tryz.func115 (by kernel_rfl) (by kernel_rfl)).plus P.cellV_ct Tryz.func116 (by kernel_rfl) (by kernel_rfl)
theorem lt_walk {H : List Blk} {j : Nat} {d : DS} (hj : H[j]? = some (dcB d)) (hd : DIn d 90000000) : walk FT2 0 Tryz.f67 [.c (.cp j 0)] H fun x H' => x = .tup [i64 (ltV d), i64 0] ∧ H' = H.set j (dcB (ltD d)) := by
  have ha := atS_in hd.ok (t := 32768) (by decide) (by decide)
  repeat' ((conv => whnf); first | (refine lenH_is ?_) | (refine Exists.intro d (And.intro hj (And.intro hd.ok (And.intro (And.intro (by decide) (by decide)) fun p hp => ?_)))) | (refine ask_true (by omega) ?_) | (refine ask_false (by omega) ?_) | fail)
  conv => whnf
  refine ⟨by omega, fun c hc c1 c2 c3 => ?_⟩
  have f := P.cells_facts c c1
  have hv := P.cellV_of c1
  repeat' ((conv => whnf); first | (refine lenH_is ?_) | fail)
  conv => whnf
  refine ⟨f.1, fun c' hc' _ _ => ?_⟩
  rw [hv] at hc'
  subst hc'
  repeat' ((conv => whnf); first | (refine lenH_is ?_) | fail)
  conv => whnf
  refine ⟨d, hj, hd.mono (by omega), by unfold cellP; omega, fun d' hd' => ?_⟩
  repeat' ((conv => whnf); first | (refine lenH_is ?_) | fail)
  rw [hp] at hc
  unfold ltV ltD
  rw [← hc, ← hd']
  exact ⟨rfl, rfl⟩
theorem ltV_in {d : DS} (h : DOk d) : (-24 ≤ ltV d ∧ ltV d ≤ 24) ∧ TkOk d (ltD d) 3 := by
  have ha := atS_in h (t := 32768) (by decide) (by decide)
  obtain ⟨g1, g2, g3⟩ := P.placeS_spec (p := atS d 32768) (by omega) (by omega)
  have f := P.cells_facts _ g1
  exact ⟨f.1, tkS_ok h (by unfold cellP; omega)⟩
def hLt : HCt := fun ws H K => match ws with
  | [.c (.cp j 0)] => ∃ d : DS, H[j]? = some (dcB d) ∧ DIn d 90000000 ∧ ∀ (v : Int) (d' : DS), v = ltV d → d' = ltD d → (-24 ≤ v ∧ v ≤ 24) → TkOk d d' 3 → K (.tup [i64 v, i64 0]) (H.set j (dcB d'))
  | _ => False
theorem lt_ct : HCtOk Tryz.prog 67 hLt := by
  intro ws H K h hr hb ho G σ base w₀ w hw
  unfold hLt at h
  split at h
  · rename_i j
    obtain ⟨d, hj, hd, hK⟩ := h
    obtain ⟨o1, o2⟩ := ltV_in hd.ok
    exact heap_lift FT2_ok Tryz.func67 (n := 0) (ws := [.c (.cp j 0)]) ⟨trivial, trivial⟩ (ptr_bnd hj) ho (lt_walk hj hd) (fun x H' hP => by
      obtain ⟨rfl, rfl⟩ := hP
      exact hK _ _ rfl rfl o1 o2) G σ base w₀ w hw
  · exact h.elim
end R
namespace R
set_option maxRecDepth 100000
set_option maxHeartbeats 16000000
theorem heap_liftg {F : Fns} (hF : FnsOk Tryz.prog F D.G1) {n : Nat} {f : FuncId} {fn : Func} (hf : Tryz.prog.funcs[f]? = some fn) {ws : List W} (hr : rngW ws) {P : V → List Blk → Prop} {H : List Blk} (hb : bndW H.length ws = true) (ho : HOk H)
    (h : D.walkg F n fn ws H P) {K : V → List Blk → Prop} (hK : ∀ x H', P x H' → K x H') (σ : Sg) (base : Nat) (w₀ w : World) (hw : Rep D.G1 σ base w₀ w H) :
    Calls Tryz.prog f (ws.map (W.den σ)).toArray w (LeftG D.G1 σ base w₀ H.length K) := by
  refine (xfun_spec D.E1_ok (D.calg_ok hF n) (drwA_ok D.E1_ok hF mixed _ (D.calg_ok hF n)) hf h hr hb ho σ base w₀ w hw).mono ?_
  rintro e w' ⟨τ, x, H', v, rfl, h1, h2, h3, h4, h5, h6, h7⟩
  exact ⟨τ, x, H', v, rfl, h1, hK x H' h2, h3, h4, h5, h6, h7⟩
open Classical in
noncomputable def vecA (n : Nat) (k i : Int) : List Int := if h : ∃ A, V.vecR n k i A then Classical.choose h else []
theorem vecA_eq {n : Nat} {k i : Int} {A : List Int} (hn : n ≤ 8) (hk : k ≤ 8) (h : V.vecR n k i A) : A = vecA n k i := by
  have hex : ∃ A, V.vecR n k i A := ⟨A, h⟩
  have h2 : V.vecR n k i (vecA n k i) := by unfold vecA; rw [dif_pos hex]; exact Classical.choose_spec hex
  exact V.rank_inj (by rw [h.1, h2.1]) (by rw [h.1]; exact hn) hk h.2.1 h2.2.1 (by rw [h.2.2, h2.2.2])
theorem vec_pos : (List.range 9).all (fun n => (List.range 9).all fun k => n == 0 || decide (1 ≤ (V.crow n).getD k 0)) = true := by kernel_rfl
theorem cC_pos {n k : Int} (hn : 1 ≤ n ∧ n ≤ 8) (hk : 0 ≤ k ∧ k ≤ 8) : 1 ≤ V.cC n k := by
  rw [V.cC_def, if_pos ⟨⟨by omega, hn.2⟩, hk⟩]
  obtain ⟨a, rfl⟩ : ∃ a : Nat, n = a := ⟨n.toNat, by omega⟩
  obtain ⟨b, rfl⟩ : ∃ b : Nat, k = b := ⟨k.toNat, by omega⟩
  rw [V.cN_nat]
  have h1 := List.all_eq_true.1 (List.all_eq_true.1 vec_pos a (List.mem_range.2 (by omega))) b (List.mem_range.2 (by omega))
  have : (a == 0) = false := by simp; omega
  simpa [this] using h1
theorem cost24 : (List.range 4).all (fun b => (List.range 9).all fun k => decide (0 ≤ D.costC b k ∧ D.costC b k ≤ 24)) = true := by kernel_rfl
theorem bitS24 {b k : Int} (hb : 0 ≤ b ∧ b ≤ 3) (hk : 0 ≤ k ∧ k ≤ 8) : 0 ≤ D.bitS (D.sizeS b) k ∧ D.bitS (D.sizeS b) k ≤ 24 := by
  rw [← D.costS_def, D.costS_tab hb hk]
  have h1 := List.all_eq_true.1 (List.all_eq_true.1 cost24 b.toNat (List.mem_range.2 (by omega))) k.toNat (List.mem_range.2 (by omega))
  simpa using h1
theorem size_is {b : Int} (hb : 0 ≤ b ∧ b ≤ 3) : 2 ≤ D.sizeS b ∧ D.sizeS b ≤ 8 := by
  obtain rfl | rfl | rfl | rfl : b = 0 ∨ b = 1 ∨ b = 2 ∨ b = 3 := by omega
  all_goals decide
noncomputable def bandI (d : DS) (b k : Int) : Int := (btS (D.bitS (D.sizeS b) k) d).1 % V.cC (D.sizeS b) k
noncomputable def bandY (d : DS) (b l k : Int) : List Int := if k = 0 then List.replicate (D.sizeS b).toNat 0 else D.L.flZ l (vecA (D.sizeS b).toNat k (bandI d b k))
noncomputable def bandD (d : DS) (b k : Int) : DS := if k = 0 then d else (btS (D.bitS (D.sizeS b) k) d).2
noncomputable def FBa : Fns := (((((F0.plus 103 (ct1 (fun _ => True) D.sizeS)).plus 102 (ct2 (fun _ _ => True) D.bitS)).over 71 hBits).plus 123 (ct2 (fun _ _ => True) V.cC)).over 122 V.hVector).over 124 D.L.hFill
theorem FBa_ok : FnsOk Tryz.prog FBa D.G1 := (((((D.F0_okg.plusG D.size_ct Tryz.func103 (by kernel_rfl) (by kernel_rfl)).plus D.bits_ct Tryz.func102 (by kernel_rfl) (by kernel_rfl)).over bits_ct Tryz.func71 (by kernel_rfl) (by kernel_rfl)).plus V.count_ct Tryz.func123 (by kernel_rfl) (by kernel_rfl)).over V.vector_ct Tryz.func122 (by kernel_rfl) (by kernel_rfl)).over D.L.fill_ct Tryz.func124 (by kernel_rfl) (by kernel_rfl)
def bandP (H : List Blk) (j : Nat) (d' : DS) (ys : List Int) (x : V) (H' : List Blk) : Prop := ∃ (N : List Blk) (q : Nat), x = .w (.c (.csl q 0 0 ys.length ys.length)) ∧ H' = H.set j (dcB d') ++ N ∧ H'[q]? = some (.own 3 [.ints .i64 ys.length ys])
theorem band_walk {H : List Blk} {j : Nat} {d : DS} (hj : H[j]? = some (dcB d)) (hd : DIn d 90000000) {b l k : Int} (hb : 0 ≤ b ∧ b ≤ 3) (hl : 0 ≤ l ∧ l ≤ 20) (hk : 0 ≤ k ∧ k ≤ 8) :
    D.walkg FBa 0 Tryz.f73 [.c (.cmv 71 j 0), i64 b, i64 l, i64 k] H (bandP H j (bandD d b k) (bandY d b l k)) := by
  have hs := size_is hb
  have h24 := bitS24 hb hk
  rcases Classical.em (k = 0) with hk0 | hk0
  · unfold bandD bandY
    rw [if_pos hk0, if_pos hk0]
    repeat' ((conv => whnf); first | (refine lenH_is ?_) | (refine And.intro trivial ?_) | (refine ask_true hk0 ?_) | (refine And.intro (And.intro (by omega) (And.intro (by omega) (And.intro (by omega) (by omega)))) ?_) | (refine pushH_at ?_) | fail)
    conv => whnf
    refine And.intro rfl ?_
    conv => whnf
    refine And.intro ⟨by omega, Int.le_refl _, by omega, by show (8 : Int) * _ ≤ _; omega⟩ ?_
    repeat' ((conv => whnf); first | (refine lenH_is ?_) | (refine pushH_at ?_) | fail)
    have e1 : natI (D.sizeS b) = (List.replicate (D.sizeS b).toNat (0 : Int)).length := by simp [natI]
    refine ⟨[.own 3 [.ints .i64 (natI (D.sizeS b)) (List.replicate (natI (D.sizeS b)) 0)]], H.length, ?_, ?_, ?_⟩
    · rw [← e1]; rfl
    · rw [set_same hj]; rfl
    · rw [← e1]; exact up_top _ _
  · unfold bandD bandY
    rw [if_neg hk0, if_neg hk0]
    have c1 := cC_pos (n := D.sizeS b) (k := k) ⟨by omega, hs.2⟩ hk
    repeat' ((conv => whnf); first | (refine lenH_is ?_) | (refine And.intro trivial ?_) | (refine ask_false hk0 ?_) | (refine Exists.intro d (And.intro hj (And.intro hd (And.intro h24 fun i d' hi hd' hix htk => ?_)))) | fail)
    conv => whnf
    refine And.intro (by omega) fun r hr => ?_
    have hr' : r = i % V.cC (D.sizeS b) k := hr.trans (Int.tmod_eq_emod_of_nonneg hix.1)
    have r0 : 0 ≤ r ∧ r < V.cC (D.sizeS b) k := by
      rw [hr']
      exact ⟨Int.emod_nonneg _ (by omega), Int.emod_lt_of_pos _ (by omega)⟩
    clear hr
    repeat' ((conv => whnf); first | (refine lenH_is ?_) | fail)
    conv => whnf
    refine And.intro (fun hn => absurd r0 hn) fun _ A hA => And.intro (fun e => ?_) fun hne c rest g1 g2 g3 => ?_
    · have := hA.1
      rw [e] at this
      simp only [List.length_nil] at this
      omega
    · have hA1 := hA.1
      have hAv := vecA_eq (by omega) hk.2 hA
      have hbi : bandI d b k = r := by unfold bandI; rw [← hi, ← hr']
      have hcl : (A ++ rest).take A.length = A := by simp
      repeat' ((conv => whnf); first | (refine lenH_is ?_) | (refine And.intro (And.intro rfl rfl) ?_) | (refine hGet_at (up_top _ _) ?_) | (refine And.intro rfl ?_) | (refine And.intro (show A.length ≤ 1000 by omega) ?_) | fail)
      rw [hbi, ← hAv, ← hd']
      have e3 : (D.L.flZ l A).length = A.length := D.L.flZ_len _ _
      refine ⟨[.own 3 [.ints .i64 c (A ++ rest)], .own 3 [.ints .i64 A.length (D.L.flZ l A)]], (H.set j (dcB d') ++ [Blk.own 3 [.ints .i64 c (A ++ rest)]]).length, ?_, ?_, ?_⟩
      · rw [e3]; rfl
      · rw [hcl]; simp
      · rw [e3, hcl]; exact up_top _ _
theorem bandD_ok {d : DS} (h : DOk d) (b k : Int) : TkOk d (bandD d b k) 9 := by
  unfold bandD
  split
  · exact (TkOk.refl h).mono (by decide)
  · exact (btS_ok h _).2
def hBa : HCt := fun ws H K => match ws with
  | [.c (.cmv f j 0), .c (.ci .i64 b), .c (.ci .i64 l), .c (.ci .i64 k)] => f = 71 ∧ ∃ d : DS, H[j]? = some (dcB d) ∧ DIn d 90000000 ∧ ((0 ≤ b ∧ b ≤ 3) ∧ (0 ≤ l ∧ l ≤ 20) ∧ (0 ≤ k ∧ k ≤ 8)) ∧
    ∀ (ys : List Int) (d' : DS) (N : List Blk) (q : Nat), ys = bandY d b l k → d' = bandD d b k → TkOk d d' 9 → (H.set j (dcB d') ++ N)[q]? = some (.own 3 [.ints .i64 ys.length ys]) → K (.w (.c (.csl q 0 0 ys.length ys.length))) (H.set j (dcB d') ++ N)
  | _ => False
theorem ba_ct : HCtOkG Tryz.prog D.G1 73 hBa := by
  intro ws H K h hr hb ho σ base w₀ w hw
  unfold hBa at h
  split at h
  · rename_i f j b l k
    obtain ⟨rfl, d, hj, hd, ⟨h1, h2, h3⟩, hK⟩ := h
    exact heap_liftg FBa_ok Tryz.func73 (n := 0) (ws := [.c (.cmv 71 j 0), i64 b, i64 l, i64 k]) hr hb ho (band_walk hj hd h1 h2 h3) (fun x H' hP => by
      obtain ⟨N, q, rfl, rfl, hq⟩ := hP
      exact hK _ _ N q rfl rfl (bandD_ok hd.ok _ _) hq) σ base w₀ w hw
  · exact h.elim
end R
end Go.Proofs.YtaficaacogcblaaGreatDoor
