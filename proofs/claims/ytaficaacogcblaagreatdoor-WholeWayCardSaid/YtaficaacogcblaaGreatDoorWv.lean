/- V: what is needed here of the texts XCa XVa XVb XVc XVd XVe XVf. (Printed by fam.py.) -/
import Derived.Test.YtaficaacogcblaaGreatDoorXs
import Derived.Test.YtaficaacogcblaaGreatDoorXrs
import Derived.Test.YtaficaacogcblaaGreatDoorXr
set_option linter.all false
namespace Go.Proofs.YtaficaacogcblaaGreatDoor
namespace V
open Go.RowKit (Below)
set_option maxRecDepth 100000
set_option maxHeartbeats 64000000

theorem mulN1 (n : Nat) : mulN n 1 = n := (mulN_eq n 1).trans (Nat.mul_one n)
theorem getD_range {f : Nat → Int} {m i : Nat} (h : i < m) : ((List.range m).map f).getD i 0 = f i := by
  simp [List.getD_eq_getElem?_getD, h]
def bad20 (x : Int) : Prop := x < -1048576 ∨ 1048576 < x
instance (x : Int) : Decidable (bad20 x) := by unfold bad20; infer_instance
instance (x : Int) : Decidable (bad20 x) := by unfold bad20; infer_instance
/-- The row that a slice reads: its cells, all of them. -/
def slK (H : List Blk) (x : C) (K : Nat → Nat → List Int → Prop) : Prop :=
  match x with
  | .csl j o i l c => (o = 0 ∧ i = 0) ∧ hGet H j fun b => match b with
    | .own _ [.ints .i64 n xs] => n = c ∧ K j l xs
    | .ro [.ints .i64 n xs] => n = c ∧ K j l xs
    | _ => False
  | _ => False
theorem slK_spec {H : List Blk} {x : C} {K : Nat → Nat → List Int → Prop} (h : slK H x K) (ho : HOk H) (hx : x.rng) : ∃ j l xs, K j l xs ∧ x = .csl j 0 0 l xs.length ∧ l ≤ xs.length ∧ xs.length ≤ 9223372036854775807 ∧ (∀ y ∈ xs, InK .i64 y) ∧ ((∃ T, H[j]? = some (.own T [.ints .i64 xs.length xs])) ∨ H[j]? = some (.ro [.ints .i64 xs.length xs])) := by
  unfold slK at h
  split at h
  · rename_i j o i l c
    obtain ⟨⟨rfl, rfl⟩, h0⟩ := h
    obtain ⟨b, hb, h⟩ := hGet_spec h0
    clear h0
    have hr := ho.rng b (List.mem_of_getElem? hb)
    obtain ⟨h1, h2⟩ : l ≤ c ∧ c ≤ 9223372036854775807 := hx
    split at h
    · rename_i T n xs
      obtain ⟨hn, hK⟩ := h
      subst hn
      have hl : xs.length = n := hr.1.1
      subst hl
      exact ⟨j, l, xs, hK, rfl, h1, h2, hr.1.2, .inl ⟨_, hb⟩⟩
    · rename_i n xs
      obtain ⟨hn, hK⟩ := h
      subst hn
      have hl : xs.length = n := hr.1.1
      subst hl
      exact ⟨j, l, xs, hK, rfl, h1, h2, hr.1.2, .inr hb⟩
    · exact h.elim
  · exact h.elim
theorem ro_ok {xs : List Int} (hx : ∀ y ∈ xs, InK .i64 y) : HOk [.ro [.ints .i64 xs.length xs]] := ⟨fun b hb => by rw [List.mem_singleton.1 hb]; exact ⟨⟨rfl, hx⟩, trivial⟩, fun b hb => by rw [List.mem_singleton.1 hb]; rfl⟩
theorem ro_at {H : List Blk} {xs : List Int} {j : Nat} (h : (∃ T, H[j]? = some (.own T [.ints .i64 xs.length xs])) ∨ H[j]? = some (.ro [.ints .i64 xs.length xs])) : ∀ (k : Nat) (b : Blk), ([.ro [.ints .i64 xs.length xs]] : List Blk)[k]? = some b → b = .gone ∨ ∃ ss, b = .ro ss ∧ ((∃ T, H[(fun _ => j) k]? = some (.own T (rens (fun _ => j) ss))) ∨ H[(fun _ => j) k]? = some (.ro (rens (fun _ => j) ss))) := by
  intro k b hk
  match k, hk with
  | 0, hk => simp at hk; subst hk; exact .inr ⟨_, rfl, h⟩
  | k + 1, hk => simp at hk
theorem getD_take {xs : List Int} {n i : Nat} (h : i < n) : (xs.take n).getD i 0 = xs.getD i 0 := by
  rw [List.getD_eq_getElem?_getD, List.getD_eq_getElem?_getD, List.getElem?_take_of_lt h]
theorem no_ro {H : List Blk} {ρ : Nat → Nat} : ∀ (k : Nat) (b : Blk), ([] : List Blk)[k]? = some b → b = .gone ∨ ∃ ss, b = .ro ss ∧ ((∃ T, H[ρ k]? = some (.own T (rens ρ ss))) ∨ H[ρ k]? = some (.ro (rens ρ ss))) := fun k b hb => by simp at hb
theorem nil_ok : HOk [] := ⟨fun b hb => (by cases hb), fun b hb => (by cases hb)⟩
def absI (x : Int) : Int := max x (0 - x)
@[irreducible] def szV (x : Int) : Int := if x < -8 ∨ 8 < x then 9 else absI x
theorem szV_def (x : Int) : szV x = if x < -8 ∨ 8 < x then 9 else absI x := by unfold szV; rfl
theorem szV_in (x : Int) : 0 ≤ szV x ∧ szV x ≤ 9 := by rw [szV_def]; unfold absI; split <;> omega
theorem szV_abs {x : Int} (h : -8 ≤ x ∧ x ≤ 8) : szV x = absI x := by rw [szV_def, if_neg (by omega)]
theorem vsize_walk (x : Int) (hx : InK .i64 x) : walk F0 0 Tryz.f142 [i64 x] [] fun y _ => y = vi (szV x) := by
  conv => whnf
  refine ask_split (fun h1 => ?_) (fun h1 => ?_)
  · rw [show szV x = 9 by rw [szV_def, if_pos (.inl h1)]]
    repeat' ((conv => whnf); first | rfl | fail)
  · conv => whnf
    refine ask_split (fun h2 => ?_) (fun h2 => ?_)
    · rw [show szV x = 9 by rw [szV_def, if_pos (.inr h2)]]
      repeat' ((conv => whnf); first | rfl | fail)
    · rw [szV_abs (by omega)]
      repeat' ((conv => whnf); first | (refine ask_wrap64 (by omega) (by omega) ?_) | rfl | fail)
theorem vsize_ct : CtOk Tryz.prog 142 (ct1 (fun _ => True) szV) := ct1_ok F0_ok Tryz.func142 (fun a _ _ => by have := szV_in a; simp only [InK, lowK, highK]; omega) fun a h _ => vsize_walk a h
def sumA (xs : List Int) : Nat → Int
  | 0 => 0
  | i + 1 => sumA xs i + szV (xs.getD i 0)
theorem sumA_in (xs : List Int) : ∀ i : Nat, 0 ≤ sumA xs i ∧ sumA xs i ≤ 9 * i
  | 0 => ⟨Int.le_refl 0, Int.le_refl 0⟩
  | i + 1 => by
    have := sumA_in xs i
    have := szV_in (xs.getD i 0)
    show 0 ≤ sumA xs i + szV (xs.getD i 0) ∧ sumA xs i + szV (xs.getD i 0) ≤ 9 * ((i + 1 : Nat) : Int)
    omega
noncomputable def FP : Fns := F0.plus 142 (ct1 (fun _ => True) szV)
theorem FP_ok : FnsOk Tryz.prog FP := F0_ok.plus vsize_ct Tryz.func142 (by kernel_rfl) (by kernel_rfl)
/-- A vector's pulses. -/
@[irreducible] def pulA (xs : List Int) (l : Nat) : Int := if l ≤ 8 then min (sumA xs l) 9 else 9
theorem pulA_def (xs : List Int) (l : Nat) : pulA xs l = if l ≤ 8 then min (sumA xs l) 9 else 9 := by unfold pulA; rfl
theorem pulses_walk (xs : List Int) (l : Nat) (hl : l ≤ xs.length) (hc : xs.length ≤ 9223372036854775807) :
    walk FP 0 Tryz.f140 [.c (.csl 0 0 0 l xs.length)] [.ro [.ints .i64 xs.length xs]] (Made fun x N => x = vi (pulA xs l) ∧ N = []) := by
  by_cases h8 : l ≤ 8
  · rw [show pulA xs l = min (sumA xs l) 9 by rw [pulA_def, if_pos h8]]
    repeat' ((conv => whnf); first | (refine ask_false (by omega) ?_) | fail)
    conv => whnf
    refine loop_at (3 :: 4 :: 5 :: List.range' 11 9) (fun m (i : Int) => 0 ≤ i ∧ i ≤ l ∧ m = (l - i).toNat) (fun i => [(3, vi (sumA xs i.toNat)), (11, vi i)]) (fun _ => [.ro [.ints .i64 xs.length xs]]) l 0 ⟨by decide, by omega, by omega⟩ ?_ ?_
    · exact ⟨rfl, ⟨⟨Nat.le_of_ble_eq_true rfl, rfl⟩, ⟨Nat.le_of_ble_eq_true rfl, rfl⟩, trivial⟩, ⟨rfl, trivial⟩, rfl, rfl, Nat.le_of_ble_eq_true rfl⟩
    · rintro m i ⟨i0, i1, rfl⟩
      have em : mulN i.toNat (Tryz.prog.types[3]).size = i.toNat := mulN1 _
      have si := sumA_in xs i.toNat
      rcases Int.lt_or_le i l with i2 | i2
      · have ex : xs.getD (0 + mulN i.toNat (Tryz.prog.types[3]).size) 0 = xs.getD i.toNat 0 := by rw [em, Nat.zero_add]
        have hs : sumA xs (i + 1).toNat = sumA xs i.toNat + szV (xs.getD i.toNat 0) := by rw [show (i + 1).toNat = i.toNat + 1 by omega]; rfl
        have ha := szV_in (xs.getD i.toNat 0)
        rw [← ex] at hs ha
        repeat' ((conv => whnf); first | (refine ask_true (by omega) ?_) | (refine And.intro (by omega) ?_) | (refine And.intro trivial ?_) | (refine fun (_ : InK _ _) => ?_) | (refine ask_wrap64 (by omega) (by omega) ?_) | fail)
        conv => whnf
        exact ⟨(l - (i + 1)).toNat, i + 1, by omega, ⟨by omega, by omega, rfl⟩, rfl, ⟨⟨Nat.le_of_ble_eq_true rfl, congrArg vi hs.symm⟩, ⟨Nat.le_of_ble_eq_true rfl, rfl⟩, trivial⟩, ⟨rfl, trivial⟩, rfl, rfl, Nat.le_of_ble_eq_true rfl⟩
      · repeat' ((conv => whnf); first | (refine ask_true (by omega) ?_) | (refine ask_false (by omega) ?_) | fail)
        conv => whnf
        have e : i.toNat = l := by omega
        show Made (fun x N => x = vi (min (sumA xs l) 9) ∧ N = []) (vi (min (sumA xs i.toNat) 9)) _
        rw [e]
        exact made_of (vi (min (sumA xs l) 9)) [] id ⟨rfl, rfl⟩ rfl trivial (fun p q hp _ _ => absurd hp (Nat.not_lt_zero p)) rfl rfl (by intro e; cases e)
  · rw [show pulA xs l = 9 by rw [pulA_def, if_neg h8]]
    repeat' ((conv => whnf); first | (refine ask_true (by omega) ?_) | fail)
    conv => whnf
    exact made_of (vi 9) [] id ⟨rfl, rfl⟩ rfl trivial (fun p q hp _ _ => absurd hp (Nat.not_lt_zero p)) rfl rfl (by intro e; cases e)
theorem val_mine {x0 : V} : ∀ (x : V) (N : List Blk), (x = x0 ∧ N = []) → ∀ b ∈ N, b.mine = true ∨ b = .gone := by
  rintro x N ⟨_, rfl⟩ b hb; cases hb
theorem vi_K {H : List Blk} {K : V → List Blk → Prop} {a : Int} (h : K (vi a) H) : ∀ (x : V) (N : List Blk), (x = vi a ∧ N = []) → K (x.ren (sh H.length)) (H ++ N.map (Blk.ren (sh H.length))) := by
  rintro x N ⟨rfl, rfl⟩
  simpa [V.ren, renW, W.ren, C.ren] using h
def rowS (j : Nat) (xs : List Int) (v : V) (b : Blk) : Prop :=
  (xs = [] ∧ v = .w (.c .csn) ∧ b = .gone) ∨ (xs ≠ [] ∧ ∃ (c : Nat) (rest : List Int), xs.length ≤ c ∧ c ≤ 9223372036854775807 ∧ rest.length = c - xs.length ∧ v = .w (.c (.csl j 0 0 xs.length c)) ∧ b = .own 3 [.ints .i64 c (xs ++ rest)])
theorem rowS_next {j c m : Nat} {A rest : List Int} {v : Int} (hm : m = A.length) (h : m + 1 ≤ c) (hc : c ≤ 9223372036854775807) (hr : rest.length = c - (m + 1)) : rowS j (A ++ [v]) (.w (.c (.csl j 0 0 (m + 1) c))) (.own 3 [.ints .i64 c (A ++ [v] ++ rest)]) := by
  have e : (A ++ [v]).length = m + 1 := by simp [hm]
  exact .inr ⟨by simp, c, rest, by omega, hc, by omega, by rw [e], rfl⟩
theorem room_eq {A rest : List Int} {v : Int} {m : Nat} (hm : m = A.length) : List.take m (A ++ rest) ++ List.take 1 (List.drop 0 [v]) ++ List.drop (m + 1) (A ++ rest) = A ++ [v] ++ rest.drop 1 := by
  subst hm
  have e : List.drop (A.length + 1) (A ++ rest) = rest.drop 1 := by
    rw [List.drop_append, List.drop_of_length_le (show A.length ≤ A.length + 1 by omega), List.nil_append, show A.length + 1 - A.length = 1 by omega]
  rw [List.take_append_of_le_length (Nat.le_refl _), List.take_length, e]
  rfl
theorem grow_eq {A rest : List Int} {v : Int} {m : Nat} (hm : m = A.length) : List.take m (A ++ rest) ++ List.take 1 (List.drop 0 [v]) = A ++ [v] := by
  subst hm
  rw [List.take_append_of_le_length (Nat.le_refl _), List.take_length]
  rfl
theorem fresh_as {e : TypeId} {k : IntKind} {H : List Blk} {m : Nat} {ys zs : List Int} {K : C → List Blk → Prop} (hy : ys = zs) (h : ∀ (c : Nat) (R : List Int), m ≤ c → c ≤ 9223372036854775807 → R.length = c - m → lenH H 0 fun n => pushH H (.own e [.ints k c (zs ++ R)]) fun H' => K (.csl n 0 0 m c) H') : freshK e k H m ys K := by
  subst hy
  exact fun c h1 h2 => h c _ h1 h2 (List.length_replicate ..)
theorem left_at {xs rest : List Int} {i : Nat} (h : i < xs.length) : (xs ++ rest).getD i 0 = xs.getD i 0 := by
  rw [List.getD_eq_getElem?_getD, List.getD_eq_getElem?_getD, List.getElem?_append_left h]
def noneP (e : Int) (x : V) (N : List Blk) : Prop := x = .tup [.c .csn, i64 e] ∧ N = []
theorem none_K {H : List Blk} {K : V → List Blk → Prop} {e : Int} (h : K (.tup [.c .csn, i64 e]) H) : ∀ x N, noneP e x N → K (x.ren (sh H.length)) (H ++ N.map (Blk.ren (sh H.length))) := by
  rintro x N ⟨rfl, rfl⟩
  simpa [V.ren, renW, W.ren, C.ren] using h
theorem none_mine {e : Int} : ∀ x N, noneP e x N → ∀ b ∈ N, b.mine = true ∨ b = .gone := by
  rintro x N ⟨_, rfl⟩ b hb; cases hb
open Go.WideMaps
set_option maxRecDepth 100000
set_option maxHeartbeats 32000000
theorem map_lift {F : Fns} (hF : FnsOk Tryz.prog F) {d : Nat} {f : FuncId} {fn : Func} (hf : Tryz.prog.funcs[f]? = some fn) {ws : List W} {Q : Int → Int → Int → Prop} {y : V} (hy : y.ok 0) (hr : rngW ws) (hb : bndW 0 ws = true) {R : Obj → Prop}
    (h : ∀ T : List Blk, HOk (T ++ [.obj R]) → walk F d fn (.c (.cm T.length) :: ws) (T ++ [.obj R]) fun x H' => x = y ∧ ∃ R' B, H' = T ++ .obj R' :: B ∧ ∀ o, R' o → mapI Q o)
    {H : List Blk} {j : Nat} (hj : H[j]? = some (.obj R)) {K : V → List Blk → Prop} (hK : K y (H.set j (.obj (mapI Q)))) (ho : HOk H) (G : Glo) (σ : Sg) (base : Nat) (w₀ w : World) (hw : Rep G σ base w₀ w H) :
    Calls Tryz.prog f ((W.c (.cm j) :: ws).map (W.den σ)).toArray w (LeftG G σ base w₀ H.length K) := by
  have hjl := (List.getElem?_eq_some_iff.1 hj).1
  obtain ⟨T, eT⟩ : ∃ T, T = H.set j .gone := ⟨_, rfl⟩
  have Tl : T.length = H.length := by rw [eT]; simp
  have Tat : ∀ i, i ≠ j → T[i]? = H[i]? := fun i hi => by rw [eT, List.getElem?_set_ne (Ne.symm hi)]
  have Tj : T[j]? = some .gone := by rw [eT, List.getElem?_set_self hjl]
  have ha := Sg.upd_agree σ H.length (σ j)
  have mono : ∀ b : Blk, b.bnd H.length = true → b.bnd (T ++ [Blk.obj R]).length = true := fun b hb => by
    cases b with
    | own X ss => exact bnds_mono (by simp [Tl]) ss hb
    | ro ss => exact bnds_mono (by simp [Tl]) ss hb
    | obj R => rfl
    | gone => rfl
  have ho' : HOk (T ++ [.obj R]) := by
    refine ⟨fun b hb => ?_, fun b hb => ?_⟩ <;> rcases List.mem_append.1 hb with h | h
    · rw [eT] at h
      rcases List.mem_or_eq_of_mem_set h with h | h
      · exact ho.rng b h
      · rw [h]; trivial
    · rw [List.mem_singleton.1 h]; trivial
    · rw [eT] at h
      rcases List.mem_or_eq_of_mem_set h with h | h
      · exact mono b (ho.bnd b h)
      · rw [h]; rfl
    · rw [List.mem_singleton.1 h]; rfl
  have at0 : ∀ (i : Nat) (b : Blk), (T ++ [Blk.obj R])[i]? = some b → b = .gone ∨ (i ≠ j ∧ i < H.length ∧ H[i]? = some b) ∨ (i = H.length ∧ b = .obj R) := fun i b hi => by
    rcases Nat.lt_or_ge i H.length with hlt | hge
    · rw [List.getElem?_append_left (by omega)] at hi
      by_cases hij : i = j
      · subst hij
        rw [Tj] at hi
        exact .inl (Option.some.inj hi).symm
      · rw [Tat i hij] at hi
        exact .inr (.inl ⟨hij, hlt, hi⟩)
    · rw [List.getElem?_append_right (by omega)] at hi
      have hl := (List.getElem?_eq_some_iff.1 hi).1
      simp at hl
      obtain rfl : i = H.length := by omega
      rw [Tl, Nat.sub_self] at hi
      exact .inr (.inr ⟨rfl, (Option.some.inj hi).symm⟩)
  have hw0 : Rep E0.G (σ.upd H.length (σ j)) base w₀ w (T ++ [.obj R]) := by
    refine ⟨hw.below, hw.size, fun i b hi => ?_, fun i i' b c hi hi' hbm hcm hne => ?_, fun g ss hg => by cases hg⟩
    · rcases at0 i b hi with rfl | ⟨hij, hlt, hH⟩ | ⟨rfl, rfl⟩
      · trivial
      · exact Blk.rep_agree ha hlt (ho.bnd b (List.mem_of_getElem? hH)) (hw.blk i b hH)
      · have := hw.blk j _ hj
        simpa only [Blk.rep, Sg.upd_self] using this
    · rcases at0 i b hi with rfl | ⟨hij, hlt, hH⟩ | ⟨rfl, rfl⟩
      · cases hbm
      · rcases at0 i' c hi' with rfl | ⟨hij', hlt', hH'⟩ | ⟨rfl, rfl⟩
        · cases hcm
        · rw [← ha i hlt, ← ha i' hlt']
          exact hw.sep i i' b c hH hH' hbm hcm hne
        · rw [← ha i hlt, Sg.upd_self]
          exact hw.sep i j b _ hH hj hbm rfl hij
      · rcases at0 i' c hi' with rfl | ⟨hij', hlt', hH'⟩ | ⟨rfl, rfl⟩
        · cases hcm
        · rw [← ha i' hlt', Sg.upd_self]
          exact hw.sep j i' _ c hj hH' rfl hcm (Ne.symm hij')
        · exact absurd rfl hne
  have eσ : (σ.upd H.length (σ j)) T.length = σ j := by rw [Tl, Sg.upd_self]
  have eargs : ((W.c (.cm j) :: ws).map (W.den σ)) = ((W.c (.cm T.length) :: ws).map (W.den (σ.upd H.length (σ j)))) := by
    rw [List.map_cons, List.map_cons, denW_agree (n := 0) (τ := σ.upd H.length (σ j)) (fun i hi => absurd hi (Nat.not_lt_zero i)) ws hb]
    congr 1
    simp only [W.den, C.den, eσ]
  rw [eargs]
  refine (xfun_spec E0_ok (calF_ok E0_ok hF (fun cal hc => drwA_ok E0_ok hF mixed cal hc) d) (drwA_ok E0_ok hF mixed _ (calF_ok E0_ok hF (fun cal hc => drwA_ok E0_ok hF mixed cal hc) d)) hf (h T ho') ⟨trivial, hr⟩ (by
    show (decide (T.length < (T ++ [Blk.obj R]).length) && bndW _ ws) = true
    rw [bndW_mono (Nat.zero_le _) ws hb]; simp) ho' (σ.upd H.length (σ j)) base w₀ w hw0).mono ?_
  rintro e w' ⟨τ, x, H', v, rfl, h1, ⟨rfl, R', B, rfl, hR'⟩, h3, h4, h5, h6, h7⟩
  have hag : Sg.agree H.length σ τ := fun i hi => (ha i hi).trans (h3 i (by simp; omega))
  have eτ : τ H.length = τ j := by
    rw [← h3 H.length (by simp; omega), ← h3 j (by simp; omega), Sg.upd_self, ← ha j hjl]
  have mapAtEnd := h4.blk H.length (.obj R') (by rw [List.getElem?_append_right (by omega), Tl, Nat.sub_self]; rfl)
  have low : ∀ i b, i ≠ j → i < H.length → H[i]? = some b → (T ++ Blk.obj R' :: B)[i]? = some b := fun i b hij hlt hi => by
    rw [List.getElem?_append_left (by omega), Tat i hij]; exact hi
  have top : (T ++ Blk.obj R' :: B)[H.length]? = some (.obj R') := by rw [List.getElem?_append_right (by omega), Tl, Nat.sub_self]; rfl
  have at1 : ∀ (i : Nat) (b : Blk), (H.set j (Blk.obj (mapI Q)))[i]? = some b → (i = j ∧ b = .obj (mapI Q)) ∨ (i ≠ j ∧ i < H.length ∧ H[i]? = some b) := fun i b hi => by
    by_cases hij : i = j
    · subst hij
      rw [List.getElem?_set_self hjl] at hi
      exact .inl ⟨rfl, (Option.some.inj hi).symm⟩
    · rw [List.getElem?_set_ne (Ne.symm hij)] at hi
      exact .inr ⟨hij, (List.getElem?_eq_some_iff.1 hi).1, hi⟩
  refine ⟨τ, _, _, v, rfl, h1, hK, hag, ⟨h4.below, h4.size, fun i b hi => ?_, fun i i' b c hi hi' hbm hcm hne => ?_, fun g ss hg => ?_⟩, ho.set trivial rfl, V.ok_mono (Nat.zero_le _) hy, by simp⟩
  · rcases at1 i b hi with ⟨rfl, rfl⟩ | ⟨hij, hlt, hH⟩
    · obtain ⟨q1, q2, o, q3, q4⟩ := mapAtEnd
      rw [eτ] at q1 q2 q3
      exact ⟨q1, q2, o, q3, hR' o q4⟩
    · exact h4.blk i b (low i b hij hlt hH)
  · rcases at1 i b hi with ⟨rfl, rfl⟩ | ⟨hij, hlt, hH⟩ <;> rcases at1 i' c hi' with ⟨e', rfl⟩ | ⟨hij', hlt', hH'⟩
    · exact absurd e'.symm hne
    · rw [← eτ]
      exact h4.sep H.length i' _ c top (low i' c hij' hlt' hH') rfl hcm (by omega)
    · subst e'
      rw [← eτ]
      exact h4.sep i H.length b _ (low i b hij hlt hH) top hbm rfl (by omega)
    · exact h4.sep i i' b c (low i b hij hlt hH) (low i' c hij' hlt' hH') hbm hcm hne
  · obtain ⟨g1, g2, g3⟩ := hw.glo g ss hg
    refine ⟨g1, g2, fun i u hu => ?_⟩
    have hu' : (dens σ ss)[i]? = some u := by
      rw [dens_agree (n := 0) (τ := τ) (fun j hj => absurd hj (Nat.not_lt_zero j)) ss g2]; exact hu
    have := g3 i u hu'
    rw [cell_eq_of_block (w := w) (w' := w')]
    · exact this
    · show w'.heap[g]? = w.heap[g]?
      rw [h4.below.block g g1, hw.below.block g g1]
def sumTo (xs : List Int) : Nat → Int
  | 0 => 0
  | j + 1 => sumTo xs j + xs.getD j 0
def crow : Nat → List Int
  | 0 => [1, 0, 0, 0, 0, 0, 0, 0, 0]
  | n + 1 => (List.range 9).map fun k => (crow n).getD k 0 + 2 * sumTo (crow n) k
/-- How many vectors there are. -/
@[irreducible] noncomputable def cN : Int → Int → Int := sealed fun n k => if n < 0 ∨ k < 0 then 0 else (crow n.toNat).getD k.toNat 0
theorem cN_def (n k : Int) : cN n k = if n < 0 ∨ k < 0 then 0 else (crow n.toNat).getD k.toNat 0 := by unfold cN; rw [sealed_eq]
theorem cN_neg {n k : Int} (h : n < 0 ∨ k < 0) : cN n k = 0 := by rw [cN_def, if_pos h]
theorem cN_nat (n k : Nat) : cN n k = (crow n).getD k 0 := by rw [cN_def, if_neg (by omega), Int.toNat_natCast, Int.toNat_natCast]
theorem crow_in : (List.range 9).all (fun n => (List.range 9).all fun k => decide (0 ≤ (crow n).getD k 0 ∧ (crow n).getD k 0 ≤ 4294967296)) = true := by kernel_rfl
theorem cN_in {n k : Int} (hn : n ≤ 8) (hk : k ≤ 8) : 0 ≤ cN n k ∧ cN n k ≤ 4294967296 := by
  rcases Classical.em (n < 0 ∨ k < 0) with h | h
  · rw [cN_neg h]; decide
  · rw [cN_def, if_neg h]
    have h1 := List.all_eq_true.1 crow_in n.toNat (List.mem_range.2 (by omega))
    exact of_decide_eq_true (List.all_eq_true.1 h1 k.toNat (List.mem_range.2 (by omega)))
theorem cN_zero : cN 0 0 = 1 := by rw [cN_def]; decide
theorem cN_none {k : Int} (h : 1 ≤ k) (hk : k ≤ 8) : cN 0 k = 0 := by
  obtain rfl | rfl | rfl | rfl | rfl | rfl | rfl | rfl : k = 1 ∨ k = 2 ∨ k = 3 ∨ k = 4 ∨ k = 5 ∨ k = 6 ∨ k = 7 ∨ k = 8 := by omega
  all_goals rw [cN_def]; decide
/-- The sum, so far. -/
noncomputable def partC (n k : Int) : Nat → Int
  | 0 => cN (n - 1) k
  | j + 1 => partC n k j + 2 * cN (n - 1) j
theorem partC_in {n k : Int} (hn : n ≤ 9) (hk : k ≤ 8) : ∀ j : Nat, j ≤ 9 → 0 ≤ partC n k j ∧ partC n k j ≤ 4294967296 * (1 + 2 * j)
  | 0, _ => by have := cN_in (n := n - 1) (k := k) (by omega) hk; show 0 ≤ cN _ _ ∧ cN _ _ ≤ _; omega
  | j + 1, hj => by
    have := partC_in hn hk j (by omega)
    have := cN_in (n := n - 1) (k := j) (by omega) (by omega)
    show 0 ≤ partC n k j + 2 * cN (n - 1) j ∧ partC n k j + 2 * cN (n - 1) j ≤ _
    omega
theorem partC_all {n k : Int} (h1 : 1 ≤ n) (hk : 0 ≤ k ∧ k ≤ 8) : partC n k k.toNat = cN n k := by
  have key : ∀ j : Nat, partC n k j = cN (n - 1) k + 2 * sumTo (crow (n - 1).toNat) j := fun j => by
    induction j with
    | zero => show cN _ _ = _ + 2 * (0 : Int); omega
    | succ j ih =>
      show partC n k j + 2 * cN (n - 1) j = _ + 2 * (sumTo _ j + _)
      rw [ih, show cN (n - 1) j = (crow (n - 1).toNat).getD j 0 by rw [cN_def, if_neg (by omega), Int.toNat_natCast]]
      omega
  rw [key, cN_def n k, if_neg (by omega), cN_def, if_neg (by omega), show n.toNat = (n - 1).toNat + 1 by omega]
  show _ = ((List.range 9).map fun k => (crow (n - 1).toNat).getD k 0 + 2 * sumTo (crow (n - 1).toNat) k).getD k.toNat 0
  rw [getD_range (by omega)]
def cntQ (a b v : Int) : Prop := v = cN a b
def hOf (m : Nat) : HCt := fun ws H K => match ws with
  | [.c (.cm j), .c (.ci .i64 n), .c (.ci .i64 k)] => mapAt H j cntQ ∧ (n ≤ m ∧ n ≤ 8 ∧ k ≤ 8) ∧ ∀ H', H' = H.set j (.obj (mapI cntQ)) → K (vi (cN n k)) H'
  | _ => False
theorem mty : MapTy Tryz.prog 219 := ⟨237, 3, 3, _, by kernel_rfl, ⟨by kernel_rfl, by kernel_rfl, by kernel_rfl, by kernel_rfl⟩, by kernel_rfl, ⟨Tryz.prog.types.size.pred, (Nat.succ_pred_eq_of_pos (of_decide_eq_true (by kernel_rfl))).symm⟩, rfl, by kernel_rfl⟩
theorem lenH_at {H : List Blk} {n : Nat} {K : Nat → Prop} (h : K (n + H.length)) : lenH H n K := (lenH_iff _ _ _).2 h
theorem pushH_at {H : List Blk} {b : Blk} {K : List Blk → Prop} (h : K (H ++ [b])) : pushH H b K := (pushH_iff _ _ _).2 h
theorem setH_at {H : List Blk} {n : Nat} {b : Blk} {K : List Blk → Prop} (h : K (H.set n b)) : setH H n b K := (setH_iff _ _ _ _).2 h
theorem wkH_refl : ∀ H : List Blk, wkH H H
  | [] => trivial
  | .gone :: H => wkH_refl H
  | .own _ _ :: H => ⟨rfl, wkH_refl H⟩
  | .ro _ :: H => ⟨rfl, wkH_refl H⟩
  | .obj _ :: H => ⟨rfl, wkH_refl H⟩
theorem bndH_of {n : Nat} : ∀ {H : List Blk}, (∀ b ∈ H, b.bnd n = true) → bndH n H = true
  | [], _ => rfl
  | b :: H, h => by
    show (b.bnd n && bndH n H) = true
    rw [h b (by simp), bndH_of fun c hc => h c (by simp [hc])]; rfl
theorem and_t {a b : Bool} (h : a = true) (k : b = true) : (a && b) = true := by rw [h, k]; rfl
theorem Blk.bnd_up {n m : Nat} (h : n ≤ m) : ∀ b : Blk, b.bnd n = true → b.bnd m = true
  | .own _ ss, hb => bnds_mono h ss hb
  | .ro ss, hb => bnds_mono h ss hb
  | .obj _, _ => rfl
  | .gone, _ => rfl
theorem setH_as {H H' : List Blk} {n : Nat} {b : Blk} {K : List Blk → Prop} (h : H.set n b = H') (hk : K H') : setH H n b K := by
  subst h; exact setH_at hk
theorem hGet_at {b : Blk} : ∀ {H : List Blk} {n : Nat} {K : Blk → Prop}, H[n]? = some b → K b → hGet H n K
  | [], _, _, h, _ => by simp at h
  | _ :: _, 0, _, h, hk => by simp at h; subst h; exact hk
  | _ :: H, n + 1, _, h, hk => hGet_at (H := H) (n := n) (by simpa using h) hk
noncomputable def FO (m : Nat) : Fns := F0.over 141 (hOf m)
theorem of_walk (m : Nat) {n k : Int} (hn : n ≤ m + 1 ∧ n ≤ 8) (hk : k ≤ 8) (hni : InK .i64 n) (hki : InK .i64 k) {R : Obj → Prop} (hR : ∀ o, R o → mapI cntQ o) (T : List Blk) (hT : HOk (T ++ [.obj R])) :
    walk (FO m) 0 Tryz.f141 (.c (.cm T.length) :: [i64 n, i64 k]) (T ++ [.obj R]) fun x H' => x = vi (cN n k) ∧ ∃ R' B, H' = T ++ .obj R' :: B ∧ ∀ o, R' o → mapI cntQ o := by
  have stop : ∃ R' B, T ++ [.obj R] = T ++ .obj R' :: B ∧ ∀ o, R' o → mapI cntQ o := ⟨R, [], rfl, hR⟩
  obtain ⟨n1, n2⟩ := hni
  obtain ⟨k1, k2⟩ := hki
  simp only [lowK, highK] at n1 n2 k1 k2
  rcases Int.lt_or_le k 0 with hk0 | hk0
  · rw [cN_neg (.inr hk0)]
    repeat' ((conv => whnf); first | (refine lenH_at ?_) | (refine ask_true (by omega) ?_) | (refine ask_false (by omega) ?_) | fail)
    conv => whnf
    exact ⟨rfl, stop⟩
  · rcases Int.lt_or_le n 0 with hn0 | hn0
    · rw [cN_neg (.inl hn0)]
      repeat' ((conv => whnf); first | (refine lenH_at ?_) | (refine pushH_at ?_) | (refine setH_at ?_) | (refine ask_true (by omega) ?_) | (refine ask_false (by omega) ?_) | fail)
      conv => whnf
      exact ⟨rfl, stop⟩
    · rcases Classical.em (n = 0) with h0 | h0
      · subst h0
        rcases Classical.em (k = 0) with h1 | h1
        · subst h1
          rw [cN_zero]
          repeat' ((conv => whnf); first | (refine lenH_at ?_) | (refine pushH_at ?_) | (refine setH_at ?_) | (refine ask_true (by omega) ?_) | (refine ask_false (by omega) ?_) | fail)
          conv => whnf
          exact ⟨rfl, stop⟩
        · rw [cN_none (by omega) hk]
          repeat' ((conv => whnf); first | (refine lenH_at ?_) | (refine pushH_at ?_) | (refine setH_at ?_) | (refine ask_true (by omega) ?_) | (refine ask_false (by omega) ?_) | fail)
          conv => whnf
          exact ⟨rfl, stop⟩
      · repeat' ((conv => whnf); first | (refine lenH_at ?_) | (refine pushH_at ?_) | (refine setH_at ?_) | (refine ask_true (by omega) ?_) | (refine ask_false (by omega) ?_) | fail)
        conv => whnf
        refine hGet_at (b := .own 237 [.ints .i64 2 [0, 0]]) (by simp) ?_
        conv => whnf
        have eS : (T ++ [Blk.obj R] ++ [Blk.own 237 [.ints .i64 2 [0, 0]]]).set (0 + (T ++ [Blk.obj R]).length) (.own 237 [.ints .i64 2 [n, k]]) = T ++ [Blk.obj R] ++ [Blk.own 237 [.ints .i64 2 [n, k]]] := by simp
        refine setH_as (H' := T ++ [Blk.obj R] ++ [Blk.own 237 [.ints .i64 2 [n, k]]]) eS ?_
        repeat' ((conv => whnf); first | (refine lenH_at ?_) | (refine pushH_at ?_) | (refine ask_true (by omega) ?_) | (refine ask_false (by omega) ?_) | (refine hGet_at (b := .own 237 [.ints .i64 2 [n, k]]) (by simp) ?_) | fail)
        conv => whnf
        refine And.intro ⟨mty, rfl⟩ ⟨cntQ, ⟨R, by simp, hR⟩, fun v hv hq => ?_, ?_⟩
        · repeat' ((conv => whnf); first | (refine lenH_at ?_) | (refine pushH_at ?_) | (refine ask_true (by omega) ?_) | (refine ask_false (by omega) ?_) | (refine hGet_at (b := .own 237 [.ints .i64 2 [n, k]]) (by simp) ?_) | fail)
          conv => whnf
          exact ⟨congrArg vi hq, R, [Blk.own 237 [.ints .i64 2 [n, k]]], by simp, hR⟩
        · repeat' ((conv => whnf); first | (refine lenH_at ?_) | (refine pushH_at ?_) | (refine ask_true (by omega) ?_) | (refine ask_false (by omega) ?_) | (refine hGet_at (b := .own 237 [.ints .i64 2 [n, k]]) (by simp) ?_) | (refine ask_wrap64 (by omega) (by omega) ?_) | fail)
          conv => whnf
          refine And.intro ⟨R, by simp, hR⟩ (And.intro ⟨by omega, by omega, hk⟩ fun H' eH => ?_)
          have eH' : H' = T ++ [Blk.obj (mapI cntQ)] ++ [Blk.own 237 [.ints .i64 2 [n, k]]] := by rw [eH]; simp
          clear eH
          subst eH'
          repeat' ((conv => whnf); first | (refine lenH_at ?_) | (refine pushH_at ?_) | (refine ask_true (by omega) ?_) | (refine ask_false (by omega) ?_) | (refine hGet_at (b := .own 237 [.ints .i64 2 [n, k]]) (by simp) ?_) | fail)
          conv => whnf
          obtain ⟨HS, eHS⟩ : ∃ HS, HS = T ++ [Blk.obj (mapI cntQ)] ++ [Blk.own 237 [.ints .i64 2 [n, k]]] := ⟨_, rfl⟩
          have d1 : decide (T.length < HS.length) = true := by rw [eHS]; simp
          have d2 : decide (0 + (T ++ [Blk.obj R]).length < HS.length) = true := by rw [eHS]; simp
          have hbh : bndH HS.length HS = true := bndH_of fun b hb => by
            rw [eHS] at hb
            rcases List.mem_append.1 hb with hb | hb
            · rcases List.mem_append.1 hb with hb | hb
              · exact Blk.bnd_up (by rw [eHS]; simp) b (hT.bnd b (List.mem_append_left _ hb))
              · rw [List.mem_singleton.1 hb]; rfl
            · rw [List.mem_singleton.1 hb]; rfl
          have hlo : 0 + (T ++ [Blk.obj R]).length ≤ HS.length := by rw [eHS]; simp
          have hat : HS[T.length]? = some (.obj (mapI cntQ)) := by rw [eHS]; simp
          have hset : HS.set T.length (.obj (mapI cntQ)) = HS := by rw [eHS]; simp
          have hkey : HS[0 + (T ++ [Blk.obj R]).length]? = some (.own 237 [.ints .i64 2 [n, k]]) := by rw [eHS]; simp
          have hfin : HS = T ++ .obj (mapI cntQ) :: [Blk.own 237 [.ints .i64 2 [n, k]]] := by rw [eHS]; simp
          rw [← eHS]
          clear eHS
          refine loop_at (10 :: 11 :: List.range' 46 12) (fun m (j : Int) => 0 ≤ j ∧ j ≤ k ∧ m = (k - j).toNat) (fun j => [(10, vi (partC n k j.toNat)), (46, vi j)]) (fun _ => HS) k.toNat 0 ⟨by decide, by omega, by omega⟩ ?_ ?_
          · refine ⟨rfl, ⟨⟨Nat.le_of_ble_eq_true rfl, rfl⟩, ⟨Nat.le_of_ble_eq_true rfl, rfl⟩, trivial⟩, wkH_refl _, ?_, hbh, hlo⟩
            repeat' (first | rfl | exact d1 | exact d2 | refine and_t ?_ ?_)
          · rintro mm j ⟨j0, j1, rfl⟩
            have pc := partC_in (n := n) (k := k) (by omega) hk j.toNat (by omega)
            have cc := cN_in (n := n - 1) (k := j) (by omega) (by omega)
            have pn : partC n k j.toNat + 2 * cN (n - 1) j = partC n k (j + 1).toNat := by
              rw [show (j + 1).toNat = j.toNat + 1 by omega]
              show _ = partC n k j.toNat + 2 * cN (n - 1) (j.toNat : Int)
              rw [show ((j.toNat : Nat) : Int) = j by omega]
            rcases Int.lt_or_le j k with j2 | j2
            · repeat' ((conv => whnf); first | (refine lenH_at ?_) | (refine pushH_at ?_) | (refine ask_true (by omega) ?_) | (refine ask_false (by omega) ?_) | (refine hGet_at (b := .own 237 [.ints .i64 2 [n, k]]) (by simp) ?_) | (refine ask_wrap64 (by omega) (by omega) ?_) | fail)
              conv => whnf
              refine And.intro ⟨_, hat, fun o h => h⟩ (And.intro ⟨by omega, by omega, by omega⟩ fun H' eH => ?_)
              rw [hset] at eH
              subst eH
              repeat' ((conv => whnf); first | (refine lenH_at ?_) | (refine pushH_at ?_) | (refine ask_true (by omega) ?_) | (refine ask_false (by omega) ?_) | (refine hGet_at (b := .own 237 [.ints .i64 2 [n, k]]) (by simp) ?_) | (refine ask_wrap64 (by omega) (by omega) ?_) | fail)
              conv => whnf
              refine ⟨(k - (j + 1)).toNat, j + 1, by omega, ⟨by omega, by omega, rfl⟩, rfl, ⟨⟨Nat.le_of_ble_eq_true rfl, congrArg vi pn⟩, ⟨Nat.le_of_ble_eq_true rfl, rfl⟩, trivial⟩, wkH_refl _, ?_, hbh, hlo⟩
              repeat' (first | rfl | exact d1 | exact d2 | refine and_t ?_ ?_)
            · have ej : j = k := by omega
              have pa := partC_all (n := n) (k := k) (by omega) ⟨hk0, hk⟩
              rw [← ej] at pa
              repeat' ((conv => whnf); first | (refine lenH_at ?_) | (refine pushH_at ?_) | (refine ask_true (by omega) ?_) | (refine ask_false (by omega) ?_) | (refine hGet_at hkey ?_) | fail)
              conv => whnf
              refine And.intro ⟨mty, rfl⟩ ⟨cntQ, ⟨_, hat, fun o h => h⟩, by rw [ej] at pa ⊢; exact pa, fun H' eH => ?_⟩
              rw [hset] at eH
              subst eH
              repeat' ((conv => whnf); first | (refine lenH_at ?_) | (refine pushH_at ?_) | (refine ask_true (by omega) ?_) | (refine ask_false (by omega) ?_) | fail)
              conv => whnf
              refine ⟨congrArg vi (by rw [← ej]; exact pa), mapI cntQ, _, hfin, fun o h => h⟩
theorem of_base {n k : Int} (hn : n ≤ 0) (hk : k ≤ 8) (hni : InK .i64 n) (hki : InK .i64 k) {R : Obj → Prop} (hR : ∀ o, R o → mapI cntQ o) (T : List Blk) :
    walk F0 0 Tryz.f141 (.c (.cm T.length) :: [i64 n, i64 k]) (T ++ [.obj R]) fun x H' => x = vi (cN n k) ∧ ∃ R' B, H' = T ++ .obj R' :: B ∧ ∀ o, R' o → mapI cntQ o := by
  have stop : ∃ R' B, T ++ [.obj R] = T ++ .obj R' :: B ∧ ∀ o, R' o → mapI cntQ o := ⟨R, [], rfl, hR⟩
  obtain ⟨n1, n2⟩ := hni
  obtain ⟨k1, k2⟩ := hki
  simp only [lowK, highK] at n1 n2 k1 k2
  rcases Int.lt_or_le k 0 with hk0 | hk0
  · rw [cN_neg (.inr hk0)]
    repeat' ((conv => whnf); first | (refine lenH_at ?_) | (refine pushH_at ?_) | (refine ask_true (by omega) ?_) | (refine ask_false (by omega) ?_) | fail)
    conv => whnf
    exact ⟨rfl, stop⟩
  · rcases Int.lt_or_le n 0 with hn0 | hn0
    · rw [cN_neg (.inl hn0)]
      repeat' ((conv => whnf); first | (refine lenH_at ?_) | (refine pushH_at ?_) | (refine ask_true (by omega) ?_) | (refine ask_false (by omega) ?_) | fail)
      conv => whnf
      exact ⟨rfl, stop⟩
    · obtain rfl : n = 0 := by omega
      rcases Classical.em (k = 0) with h1 | h1
      · subst h1
        rw [cN_zero]
        repeat' ((conv => whnf); first | (refine lenH_at ?_) | (refine pushH_at ?_) | (refine ask_true (by omega) ?_) | (refine ask_false (by omega) ?_) | fail)
        conv => whnf
        exact ⟨rfl, stop⟩
      · rw [cN_none (by omega) hk]
        repeat' ((conv => whnf); first | (refine lenH_at ?_) | (refine pushH_at ?_) | (refine ask_true (by omega) ?_) | (refine ask_false (by omega) ?_) | fail)
        conv => whnf
        exact ⟨rfl, stop⟩
theorem of_ct : ∀ m : Nat, HCtOk Tryz.prog 141 (hOf m)
  | 0 => by
    intro ws H K h hr hb ho G σ base w₀ w hw
    unfold hOf at h
    split at h
    · rename_i j n k
      obtain ⟨⟨R, hj, hR⟩, ⟨h1, h2, h3⟩, hK⟩ := h
      have ci := cN_in h2 h3
      exact map_lift (Q := cntQ) F0_ok Tryz.func141 (d := 0) (ws := [i64 n, i64 k]) ⟨by show InK .i64 _; simp only [InK, lowK, highK]; omega, rfl⟩ ⟨hr.2.1, hr.2.2.1, trivial⟩ rfl (fun T _ => of_base (by omega) h3 hr.2.1 hr.2.2.1 hR T) hj (hK _ rfl) ho G σ base w₀ w hw
    · exact h.elim
  | m + 1 => by
    intro ws H K h hr hb ho G σ base w₀ w hw
    unfold hOf at h
    split at h
    · rename_i j n k
      obtain ⟨⟨R, hj, hR⟩, ⟨h1, h2, h3⟩, hK⟩ := h
      have ci := cN_in h2 h3
      have hF : FnsOk Tryz.prog (FO m) := F0_ok.over (of_ct m) Tryz.func141 (by kernel_rfl) (by kernel_rfl)
      exact map_lift (Q := cntQ) hF Tryz.func141 (d := 0) (ws := [i64 n, i64 k]) ⟨by show InK .i64 _; simp only [InK, lowK, highK]; omega, rfl⟩ ⟨hr.2.1, hr.2.2.1, trivial⟩ rfl (fun T hT => of_walk m ⟨by omega, h2⟩ h3 hr.2.1 hr.2.2.1 hR T hT) hj (hK _ rfl) ho G σ base w₀ w hw
    · exact h.elim
noncomputable def FC : Fns := F0.over 141 (hOf 8)
theorem FC_ok : FnsOk Tryz.prog FC := F0_ok.over (of_ct 8) Tryz.func141 (by kernel_rfl) (by kernel_rfl)
/-- What Count answers. -/
@[irreducible] noncomputable def cC (n k : Int) : Int := if (0 ≤ n ∧ n ≤ 8) ∧ 0 ≤ k ∧ k ≤ 8 then cN n k else 0
theorem cC_def (n k : Int) : cC n k = if (0 ≤ n ∧ n ≤ 8) ∧ 0 ≤ k ∧ k ≤ 8 then cN n k else 0 := by unfold cC; rfl
theorem cC_in (n k : Int) : 0 ≤ cC n k ∧ cC n k ≤ 4294967296 := by
  rw [cC_def]
  split
  · rename_i h; exact cN_in h.1.2 h.2.2
  · decide
theorem count_walk (n k : Int) (hn : InK .i64 n) (hk : InK .i64 k) : walk FC 0 Tryz.f123 [i64 n, i64 k] [] fun y _ => y = vi (cC n k) := by
  obtain ⟨n1, n2⟩ := hn
  obtain ⟨k1, k2⟩ := hk
  simp only [lowK, highK] at n1 n2 k1 k2
  rw [cC_def]
  rcases Classical.em ((0 ≤ n ∧ n ≤ 8) ∧ 0 ≤ k ∧ k ≤ 8) with h | h
  · rw [if_pos h]
    repeat' ((conv => whnf); first | (refine ask_true (by omega) ?_) | (refine ask_false (by omega) ?_) | (refine And.intro mty ?_) | fail)
    conv => whnf
    refine And.intro ⟨emptyM, rfl, empty_mapI _⟩ (And.intro ⟨by omega, by omega, by omega⟩ fun H' eH => ?_)
    repeat' ((conv => whnf); first | rfl | fail)
  · rw [if_neg h]
    rcases Int.lt_or_le n 0 with h1 | h1
    · repeat' ((conv => whnf); first | (refine ask_true (by omega) ?_) | (refine ask_false (by omega) ?_) | rfl | fail)
    · rcases Int.lt_or_le 8 n with h2 | h2
      · repeat' ((conv => whnf); first | (refine ask_true (by omega) ?_) | (refine ask_false (by omega) ?_) | rfl | fail)
      · rcases Int.lt_or_le k 0 with h3 | h3
        · repeat' ((conv => whnf); first | (refine ask_true (by omega) ?_) | (refine ask_false (by omega) ?_) | rfl | fail)
        · repeat' ((conv => whnf); first | (refine ask_true (by omega) ?_) | (refine ask_false (by omega) ?_) | rfl | fail)
theorem count_ct : CtOk Tryz.prog 123 (ct2 (fun _ _ => True) cC) := ct2_ok FC_ok Tryz.func123 (fun a b _ _ _ => by have := cC_in a b; simp only [InK, lowK, highK]; omega) fun a b ha hb _ => count_walk a b ha hb
/-- How many vectors open with a number less than the one that is s places from the least. -/
noncomputable def rnk (n k : Int) : Nat → Int
  | 0 => 0
  | s + 1 => rnk n k s + cN n (k - szV (s - k))
theorem rnk_next {n k z : Int} (h : 0 ≤ z + k) : rnk n k (z + 1 + k).toNat = rnk n k (z + k).toNat + cN n (k - szV z) := by
  rw [show (z + 1 + k).toNat = (z + k).toNat + 1 by omega]
  show rnk n k (z + k).toNat + cN n (k - szV (((z + k).toNat : Nat) - k)) = _
  rw [show (((z + k).toNat : Nat) : Int) - k = z by omega]
noncomputable def rank : List Int → Int → Int
  | [], _ => 0
  | x :: xs, k => rnk xs.length k (x + k).toNat + rank xs (k - szV x)
theorem rnk_in {n k : Int} (hn : n ≤ 8) (hk : k ≤ 8) : ∀ s : Nat, 0 ≤ rnk n k s ∧ rnk n k s ≤ 4294967296 * s
  | 0 => ⟨Int.le_refl 0, Int.le_refl 0⟩
  | s + 1 => by
    have h1 := rnk_in hn hk s
    have h2 := szV_in (s - k)
    have h3 := cN_in (n := n) (k := k - szV (s - k)) hn (by omega)
    show 0 ≤ rnk n k s + cN n (k - szV (s - k)) ∧ rnk n k s + cN n (k - szV (s - k)) ≤ _
    omega
/-- What Number answers, of a row's first numbers. -/
noncomputable def numOf (xs : List Int) : Int := rank xs (sumA xs xs.length)
theorem sumA_drop (xs : List Int) (i : Nat) (h : i < xs.length) : sumA (xs.drop i) (xs.drop i).length = szV (xs.getD i 0) + sumA (xs.drop (i + 1)) (xs.drop (i + 1)).length := by
  have key : ∀ (y : Int) (ys : List Int) (n : Nat), sumA (y :: ys) (n + 1) = szV y + sumA ys n := fun y ys n => by
    induction n with
    | zero => show (0 : Int) + szV y = szV y + 0; omega
    | succ n ih =>
      show sumA (y :: ys) (n + 1) + szV ((y :: ys).getD (n + 1) 0) = szV y + (sumA ys n + szV (ys.getD n 0))
      rw [ih]
      have : (y :: ys).getD (n + 1) 0 = ys.getD n 0 := rfl
      rw [this]; omega
  have e : xs.drop i = xs.getD i 0 :: xs.drop (i + 1) := by
    rw [List.drop_eq_getElem_cons h, List.getD_eq_getElem?_getD, List.getElem?_eq_getElem h]; rfl
  conv => lhs; rw [e]
  exact key _ _ _
theorem rank_drop (xs : List Int) (i : Nat) (h : i < xs.length) (k : Int) : rank (xs.drop i) k = rnk ((xs.length : Int) - i - 1) k (xs.getD i 0 + k).toNat + rank (xs.drop (i + 1)) (k - szV (xs.getD i 0)) := by
  have e : xs.drop i = xs.getD i 0 :: xs.drop (i + 1) := by
    rw [List.drop_eq_getElem_cons h, List.getD_eq_getElem?_getD, List.getElem?_eq_getElem h]; rfl
  rw [e]
  show rnk ((xs.drop (i + 1)).length : Int) k _ + _ = _
  rw [List.length_drop, show ((xs.length - (i + 1) : Nat) : Int) = (xs.length : Int) - i - 1 by omega]
theorem pulses_nil : walk FP 0 Tryz.f140 [.c .csn] [] (Made fun x N => x = vi 0 ∧ N = []) := by
  repeat' ((conv => whnf); first | (refine ask_false (by decide) ?_) | fail)
  conv => whnf
  refine loop_at (3 :: 4 :: 5 :: List.range' 11 9) (fun m (i : Int) => i = 0 ∧ m = 0) (fun i => [(3, vi 0), (11, vi i)]) (fun _ => []) 0 0 ⟨rfl, rfl⟩ ?_ ?_
  · exact ⟨rfl, ⟨⟨Nat.le_of_ble_eq_true rfl, rfl⟩, ⟨Nat.le_of_ble_eq_true rfl, rfl⟩, trivial⟩, trivial, rfl, rfl, Nat.le_of_ble_eq_true rfl⟩
  · rintro m i ⟨rfl, rfl⟩
    repeat' ((conv => whnf); first | (refine ask_false (by decide) ?_) | fail)
    conv => whnf
    exact made_of (vi 0) [] id ⟨rfl, rfl⟩ rfl trivial (fun p q hp _ _ => absurd hp (Nat.not_lt_zero p)) rfl rfl (by intro e; cases e)
def hPul : HCt := fun ws H K => match ws with
  | [.c .csn] => K (vi 0) H
  | [.c x] => slK H x fun _ l xs => K (vi (pulA xs l)) H
  | _ => False
theorem pul_ct : HCtOk Tryz.prog 140 hPul := by
  intro ws H K h hr hb ho G σ base w₀ w hw
  unfold hPul at h
  split at h
  · exact walk_lift FP_ok Tryz.func140 (n := 0) (ws := [.c .csn]) (R := []) nil_ok ⟨trivial, trivial⟩ rfl pulses_nil val_mine id no_ro rfl (vi_K h) ho G σ base w₀ w hw
  · rename_i x _
    obtain ⟨j, l, xs, h', hx, g1, g2, g3, g4⟩ := slK_spec h ho hr.1
    clear h
    subst hx
    exact walk_lift FP_ok Tryz.func140 (n := 0) (ws := [.c (.csl 0 0 0 l xs.length)]) (R := [.ro [.ints .i64 xs.length xs]]) (ro_ok g3) ⟨⟨g1, g2⟩, trivial⟩ rfl (pulses_walk xs l g1 g2) val_mine (fun _ => j) (ro_at g4) rfl (vi_K h') ho G σ base w₀ w hw
  · exact h.elim
noncomputable def FN : Fns := ((F0.over 141 (hOf 8)).plus 142 (ct1 (fun _ => True) szV)).over 140 hPul
theorem FN_ok : FnsOk Tryz.prog FN := ((F0_ok.over (of_ct 8) Tryz.func141 (by kernel_rfl) (by kernel_rfl)).plus vsize_ct Tryz.func142 (by kernel_rfl) (by kernel_rfl)).over pul_ct Tryz.func140 (by kernel_rfl) (by kernel_rfl)
def twoP (a e : Int) (x : V) (N : List Blk) : Prop := x = .tup [i64 a, i64 e] ∧ N = []
theorem two_made {a e : Int} {H' : List Blk} : Made (twoP a e) (.tup [i64 a, i64 e]) H' := made_of (.tup [i64 a, i64 e]) [] id ⟨rfl, rfl⟩ rfl trivial (fun p q hp _ _ => absurd hp (Nat.not_lt_zero p)) rfl rfl (by intro e; cases e)
theorem two_mine {a e : Int} : ∀ (x : V) (N : List Blk), twoP a e x N → ∀ b ∈ N, b.mine = true ∨ b = .gone := by
  rintro x N ⟨_, rfl⟩ b hb; cases hb
theorem two_K {a e : Int} {H : List Blk} {K : V → List Blk → Prop} (h : K (.tup [i64 a, i64 e]) H) : ∀ x N, twoP a e x N → K (x.ren (sh H.length)) (H ++ N.map (Blk.ren (sh H.length))) := by
  rintro x N ⟨rfl, rfl⟩
  simpa [V.ren, renW, W.ren, C.ren] using h
theorem number_walk (zs : List Int) (l : Nat) (hl : l ≤ zs.length) (hc : zs.length ≤ 9223372036854775807) (hx : ∀ x ∈ zs, InK .i64 x) (hp : pulA zs l ≤ 8) :
    walk FN 0 Tryz.f100 [.c (.csl 0 0 0 l zs.length)] [.ro [.ints .i64 zs.length zs]] (Made (twoP (numOf (zs.take l)) 0)) := by
  have hp' := hp
  rw [pulA_def] at hp'
  have l8 : l ≤ 8 := by
    by_cases h : l ≤ 8
    · exact h
    · rw [if_neg h] at hp'; omega
  rw [if_pos l8] at hp'
  have lt : (zs.take l).length = l := by simp; omega
  have same : ∀ i, i ≤ l → sumA (zs.take l) i = sumA zs i := fun i hi => by
    induction i with
    | zero => rfl
    | succ i ih =>
      show sumA (zs.take l) i + szV ((zs.take l).getD i 0) = sumA zs i + szV (zs.getD i 0)
      rw [ih (by omega), getD_take (by omega)]
  obtain ⟨X, eX⟩ : ∃ X, X = zs.take l := ⟨_, rfl⟩
  rw [← eX] at lt same ⊢
  have Xs : sumA X X.length ≤ 8 := by rw [lt, same l (Nat.le_refl l)]; omega
  have eP : pulA zs l = sumA X X.length := by rw [pulA_def, if_pos l8, lt, same l (Nat.le_refl l)]; omega
  have at0 : ∀ i : Nat, i < l → zs.getD (0 + mulN i (Tryz.prog.types[3]).size) 0 = X.getD i 0 := fun i hi => by
    have em : mulN i (Tryz.prog.types[3]).size = i := mulN1 _
    rw [em, Nat.zero_add, eX, getD_take hi]
  have rem0 : ∀ i : Nat, 0 ≤ sumA (X.drop i) (X.drop i).length ∧ sumA (X.drop i) (X.drop i).length ≤ 8 := fun i => by
    induction i with
    | zero => rw [List.drop_zero]; exact ⟨(sumA_in X _).1, Xs⟩
    | succ i ih =>
      refine ⟨(sumA_in _ _).1, ?_⟩
      rcases Nat.lt_or_ge i X.length with h | h
      · have := sumA_drop X i h
        have := (szV_in (X.getD i 0)).1
        omega
      · rw [List.drop_of_length_le (by omega)]
        show (0 : Int) ≤ 8
        decide
  repeat' ((conv => whnf); first | (refine And.intro ⟨rfl, rfl⟩ ?_) | (refine And.intro rfl ?_) | (refine ask_false (by omega) ?_) | (refine And.intro mty ?_) | fail)
  conv => whnf
  have kA1 : ∀ i : Nat, i < l → sumA (X.drop (i + 1)) (X.drop (i + 1)).length = sumA (X.drop i) (X.drop i).length - szV (X.getD i 0) := fun i hi => by
    have := sumA_drop X i (by omega)
    omega
  obtain ⟨vA, evA⟩ : ∃ vA : Nat → Int, ∀ i, vA i = numOf X - rank (X.drop i) (sumA (X.drop i) (X.drop i).length) := ⟨_, fun _ => rfl⟩
  have vA0 : vA 0 = 0 := by rw [evA, List.drop_zero]; unfold numOf; omega
  have vA1 : ∀ i : Nat, i < l → vA (i + 1) = vA i + rnk ((l : Int) - i - 1) (sumA (X.drop i) (X.drop i).length) (X.getD i 0 + sumA (X.drop i) (X.drop i).length).toNat := fun i hi => by
    rw [evA, evA, rank_drop X i (by omega), kA1 i hi, lt]
    omega
  have xk : ∀ i : Nat, i < l → -sumA (X.drop i) (X.drop i).length ≤ X.getD i 0 ∧ X.getD i 0 ≤ sumA (X.drop i) (X.drop i).length ∧ szV (X.getD i 0) ≤ sumA (X.drop i) (X.drop i).length := fun i hi => by
    have h1 := rem0 i
    have h2 := rem0 (i + 1)
    have h3 := kA1 i hi
    have h4 := szV_def (X.getD i 0)
    split at h4
    · omega
    · unfold absI at h4; omega
  have vAb : ∀ i : Nat, i ≤ l → 0 ≤ vA i ∧ vA i ≤ 73014444032 * i := fun i hi => by
    induction i with
    | zero => rw [vA0]; decide
    | succ i ih =>
      have h1 := ih (by omega)
      have h2 := rem0 i
      have h3 := xk i (by omega)
      have h4 := rnk_in (n := (l : Int) - i - 1) (k := sumA (X.drop i) (X.drop i).length) (by omega) (by omega) (X.getD i 0 + sumA (X.drop i) (X.drop i).length).toNat
      rw [vA1 i (by omega)]
      omega
  have vAl : vA l = numOf X := by
    rw [evA, List.drop_of_length_le (by omega)]
    show numOf X - 0 = _
    omega
  obtain ⟨kA, ekA⟩ : ∃ kA : Nat → Int, ∀ i, kA i = sumA (X.drop i) (X.drop i).length := ⟨_, fun _ => rfl⟩
  have ek0 : pulA zs l = kA 0 := by rw [ekA, List.drop_zero]; exact eP
  simp only [← ekA] at kA1 vA1 xk rem0
  refine loop_at2 (4 :: 6 :: 7 :: 8 :: 9 :: List.range' 17 30) (fun m (i : Int) (R : Obj → Prop) => 0 ≤ i ∧ i ≤ l ∧ m = (l - i).toNat ∧ ∀ o, R o → mapI cntQ o) (fun i _ => [(4, vi (kA i.toNat)), (6, vi (vA i.toNat)), (17, vi i)]) (fun _ R => [.ro [.ints .i64 zs.length zs], .obj R]) l 0 emptyM ⟨by decide, by omega, by omega, empty_mapI _⟩ ?_ ?_
  · exact ⟨rfl, ⟨⟨Nat.le_of_ble_eq_true rfl, congrArg vi ek0⟩, ⟨Nat.le_of_ble_eq_true rfl, congrArg vi vA0.symm⟩, ⟨Nat.le_of_ble_eq_true rfl, rfl⟩, trivial⟩, ⟨rfl, rfl, trivial⟩, rfl, rfl, Nat.le_of_ble_eq_true rfl⟩
  · rintro m i R ⟨i0, i1, rfl, hR⟩
    rcases Int.lt_or_le i l with i2 | i2
    · have ea := at0 i.toNat (by omega)
      have hb := vAb i.toNat (by omega)
      have hk := rem0 i.toNat
      have hx := xk i.toNat (by omega)
      have hk1 := kA1 i.toNat (by omega)
      have hv1 := vA1 i.toNat (by omega)
      have em : mulN i.toNat (Tryz.prog.types[3]).size = i.toNat := mulN1 _
      repeat' ((conv => whnf); first | (refine ask_true (by omega) ?_) | (refine And.intro (by omega) ?_) | (refine fun (_ : InK _ _) => ?_) | (refine ask_wrap64 (by omega) (by omega) ?_) | fail)
      conv => whnf
      refine loop_at2 (6 :: 9 :: List.range' 24 18) (fun m (z : Int) (R : Obj → Prop) => 0 - kA i.toNat ≤ z ∧ z ≤ X.getD i.toNat 0 ∧ m = (X.getD i.toNat 0 - z).toNat ∧ ∀ o, R o → mapI cntQ o) (fun z _ => [(6, vi (vA i.toNat + rnk ((l : Int) - i - 1) (kA i.toNat) (z + kA i.toNat).toNat)), (9, vi z)]) (fun _ R => [.ro [.ints .i64 zs.length zs], .obj R]) (X.getD i.toNat 0 - (0 - kA i.toNat)).toNat (0 - kA i.toNat) R ⟨by omega, by omega, rfl, hR⟩ ?_ ?_
      · refine ⟨rfl, ⟨⟨Nat.le_of_ble_eq_true rfl, congrArg vi ?_⟩, ⟨Nat.le_of_ble_eq_true rfl, rfl⟩, trivial⟩, ⟨rfl, rfl, trivial⟩, rfl, rfl, Nat.le_of_ble_eq_true rfl⟩
        rw [show (0 - kA i.toNat + kA i.toNat).toNat = 0 by omega]
        show _ = vA i.toNat + 0
        omega
      · rintro m z R ⟨z0, z1, rfl, hR⟩
        have hs := szV_in z
        have rb := rnk_in (n := (l : Int) - i - 1) (k := kA i.toNat) (by omega) (by omega) (z + kA i.toNat).toNat
        have cc := cN_in (n := (l : Int) - i - 1) (k := kA i.toNat - szV z) (by omega) (by omega)
        have rn := rnk_next (n := (l : Int) - i - 1) (k := kA i.toNat) (z := z) (by omega)
        rcases Int.lt_or_le z (X.getD i.toNat 0) with z2 | z2
        · repeat' ((conv => whnf); first | (refine ask_true (by omega) ?_) | (refine And.intro trivial ?_) | (refine ask_wrap64 (by omega) (by omega) ?_) | fail)
          conv => whnf
          refine And.intro ⟨R, rfl, hR⟩ (And.intro ⟨by omega, by omega, by omega⟩ fun H' eH => ?_)
          have eH' : H' = [.ro [.ints .i64 zs.length zs], .obj (mapI cntQ)] := eH
          clear eH
          subst eH'
          repeat' ((conv => whnf); first | (refine ask_wrap64 (by omega) (by omega) ?_) | fail)
          conv => whnf
          refine ⟨(X.getD i.toNat 0 - (z + 1)).toNat, (z + 1, mapI cntQ), by omega, ⟨by show 0 - kA i.toNat ≤ z + 1; omega, by show z + 1 ≤ X.getD i.toNat 0; omega, rfl, fun o h => h⟩, rfl, ⟨⟨Nat.le_of_ble_eq_true rfl, congrArg vi ?_⟩, ⟨Nat.le_of_ble_eq_true rfl, rfl⟩, trivial⟩, ⟨rfl, rfl, trivial⟩, rfl, rfl, Nat.le_of_ble_eq_true rfl⟩
          show _ = vA i.toNat + rnk ((l : Int) - i - 1) (kA i.toNat) (z + 1 + kA i.toNat).toNat
          omega
        · have ez : z = X.getD i.toNat 0 := by omega
          have hsz := szV_in (zs.getD (0 + mulN i.toNat (Tryz.prog.types[3]).size) 0)
          have esz : szV (zs.getD (0 + mulN i.toNat (Tryz.prog.types[3]).size) 0) = szV (X.getD i.toNat 0) := by rw [ea]
          have ni : (i + 1).toNat = i.toNat + 1 := by omega
          rw [← ez, show ((i.toNat : Nat) : Int) = i by omega] at hv1
          repeat' ((conv => whnf); first | (refine ask_false (by omega) ?_) | (refine And.intro trivial ?_) | (refine ask_wrap64 (by omega) (by omega) ?_) | fail)
          conv => whnf
          refine ⟨(l - (i + 1)).toNat, (i + 1, R), by omega, ⟨by show 0 ≤ i + 1; omega, by show i + 1 ≤ (l : Int); omega, rfl, hR⟩, rfl, ⟨⟨Nat.le_of_ble_eq_true rfl, congrArg vi ?_⟩, ⟨Nat.le_of_ble_eq_true rfl, congrArg vi ?_⟩, ⟨Nat.le_of_ble_eq_true rfl, rfl⟩, trivial⟩, ⟨rfl, rfl, trivial⟩, rfl, rfl, Nat.le_of_ble_eq_true rfl⟩
          · show _ = kA (i + 1).toNat
            rw [ni, hk1, esz]
          · show _ = vA (i + 1).toNat
            rw [ni, hv1]
    · have ei : i.toNat = l := by omega
      rw [ei, vAl]
      repeat' ((conv => whnf); first | (refine ask_false (by omega) ?_) | fail)
      conv => whnf
      exact two_made
theorem number_bad (zs : List Int) (l : Nat) (hp : ¬ pulA zs l ≤ 8) :
    walk FN 0 Tryz.f100 [.c (.csl 0 0 0 l zs.length)] [.ro [.ints .i64 zs.length zs]] (Made (twoP 0 1)) := by
  repeat' ((conv => whnf); first | (refine And.intro ⟨rfl, rfl⟩ ?_) | (refine And.intro rfl ?_) | (refine ask_true (by omega) ?_) | fail)
  conv => whnf
  exact two_made
theorem number_nil : walk FN 0 Tryz.f100 [.c .csn] [] (Made (twoP 0 0)) := by
  repeat' ((conv => whnf); first | (refine ask_false (by decide) ?_) | (refine And.intro mty ?_) | fail)
  conv => whnf
  refine loop_at2 (4 :: 6 :: 7 :: 8 :: 9 :: List.range' 17 30) (fun m (i : Int) (R : Obj → Prop) => i = 0 ∧ m = 0) (fun i _ => [(17, vi i), (6, vi 0)]) (fun _ R => [.obj R]) 0 0 emptyM ⟨rfl, rfl⟩ ?_ ?_
  · exact ⟨rfl, ⟨⟨Nat.le_of_ble_eq_true rfl, rfl⟩, ⟨Nat.le_of_ble_eq_true rfl, rfl⟩, trivial⟩, ⟨rfl, trivial⟩, rfl, rfl, Nat.le_of_ble_eq_true rfl⟩
  · rintro m i R ⟨rfl, rfl⟩
    repeat' ((conv => whnf); first | (refine ask_false (by decide) ?_) | fail)
    conv => whnf
    exact two_made
def hNumber : HCt := fun ws H K => match ws with
  | [.c .csn] => K (.tup [i64 0, i64 0]) H
  | [.c x] => slK H x fun _ l xs => (pulA xs l ≤ 8 → K (.tup [i64 (numOf (xs.take l)), i64 0]) H) ∧ (¬ pulA xs l ≤ 8 → K (.tup [i64 0, i64 1]) H)
  | _ => False
theorem number_ct : HCtOk Tryz.prog 100 hNumber := by
  intro ws H K h hr hb ho G σ base w₀ w hw
  unfold hNumber at h
  split at h
  · exact walk_lift FN_ok Tryz.func100 (n := 0) (ws := [.c .csn]) (R := []) nil_ok ⟨trivial, trivial⟩ rfl number_nil two_mine id no_ro rfl (two_K h) ho G σ base w₀ w hw
  · rename_i x _
    obtain ⟨j, l, xs, h', hx, g1, g2, g3, g4⟩ := slK_spec h ho hr.1
    clear h
    subst hx
    rcases Classical.em (pulA xs l ≤ 8) with hp | hp
    · exact walk_lift FN_ok Tryz.func100 (n := 0) (ws := [.c (.csl 0 0 0 l xs.length)]) (R := [.ro [.ints .i64 xs.length xs]]) (ro_ok g3) ⟨⟨g1, g2⟩, trivial⟩ rfl (number_walk xs l g1 g2 g3 hp) two_mine (fun _ => j) (ro_at g4) rfl (two_K (h'.1 hp)) ho G σ base w₀ w hw
    · exact walk_lift FN_ok Tryz.func100 (n := 0) (ws := [.c (.csl 0 0 0 l xs.length)]) (R := [.ro [.ints .i64 xs.length xs]]) (ro_ok g3) ⟨⟨g1, g2⟩, trivial⟩ rfl (number_bad xs l hp) two_mine (fun _ => j) (ro_at g4) rfl (two_K (h'.2 hp)) ho G σ base w₀ w hw
  · exact h.elim
open Go.WideMaps
set_option maxRecDepth 100000
set_option maxHeartbeats 64000000
def rnkc (row : List Int) (k : Nat) : Nat → Int
  | 0 => 0
  | s + 1 => rnkc row k s + row.getD (k - ((s : Int) - k).natAbs) 0
theorem rnkc_all : (List.range 8).all (fun m => (List.range 9).all fun k => decide (rnkc (crow m) k (2 * k + 1) = (crow (m + 1)).getD k 0)) = true := by kernel_rfl
theorem rnk_c (m k : Nat) (hk : k ≤ 8) : ∀ s : Nat, s ≤ 2 * k + 1 → rnk m k s = rnkc (crow m) k s
  | 0, _ => rfl
  | s + 1, hs => by
    show rnk m k s + cN m (k - szV (s - k)) = rnkc (crow m) k s + (crow m).getD (k - ((s : Int) - k).natAbs) 0
    rw [rnk_c m k hk s (by omega), szV_abs (by omega)]
    have e : (k : Int) - absI (s - k) = ((k - ((s : Int) - k).natAbs : Nat) : Int) := by unfold absI; omega
    rw [e, cN_nat]
theorem rnk_all {m k : Int} (hm : 0 ≤ m ∧ m ≤ 7) (hk : 0 ≤ k ∧ k ≤ 8) : rnk m k (2 * k + 1).toNat = cN (m + 1) k := by
  obtain ⟨m', rfl⟩ : ∃ m' : Nat, m = m' := ⟨m.toNat, by omega⟩
  obtain ⟨k', rfl⟩ : ∃ k' : Nat, k = k' := ⟨k.toNat, by omega⟩
  rw [show (2 * (k' : Int) + 1).toNat = 2 * k' + 1 by omega, rnk_c m' k' (by omega) _ (Nat.le_refl _), show (m' : Int) + 1 = ((m' + 1 : Nat) : Int) by omega, cN_nat]
  have h1 := List.all_eq_true.1 rnkc_all m' (List.mem_range.2 (by omega))
  exact of_decide_eq_true (List.all_eq_true.1 h1 k' (List.mem_range.2 (by omega)))
/-- What is found: so many numbers, with so many pulses, of that number. -/
def vecR (n : Nat) (k i : Int) (A : List Int) : Prop := A.length = n ∧ sumA A A.length = k ∧ rank A k = i
def vecP (n : Nat) (k i : Int) (x : V) (N : List Blk) : Prop := ∃ A, vecR n k i A ∧ ((A = [] ∧ x = .tup [.c .csn, i64 0] ∧ N = []) ∨ (A ≠ [] ∧ ∃ (c : Nat) (rest : List Int), A.length ≤ c ∧ c ≤ 9223372036854775807 ∧ rest.length = c - A.length ∧ x = .tup [.c (.csl 0 0 0 A.length c), i64 0] ∧ N = [.own 3 [.ints .i64 c (A ++ rest)]]))
theorem sumA_snoc (A : List Int) (x : Int) : sumA (A ++ [x]) (A ++ [x]).length = sumA A A.length + szV x := by
  have key : ∀ n : Nat, n ≤ A.length → sumA (A ++ [x]) n = sumA A n := fun n => by
    induction n with
    | zero => intro _; rfl
    | succ n ih =>
      intro h
      show sumA (A ++ [x]) n + szV ((A ++ [x]).getD n 0) = sumA A n + szV (A.getD n 0)
      rw [ih (by omega), left_at (by omega)]
  rw [List.length_append, List.length_singleton]
  show sumA (A ++ [x]) A.length + szV ((A ++ [x]).getD A.length 0) = _
  rw [key _ (Nat.le_refl _), List.getD_eq_getElem?_getD, List.getElem?_append_right (Nat.le_refl _), Nat.sub_self]; rfl
/-- What holds at the head of a round: what is there, and what is still to be found. -/
structure Got (n : Nat) (k i : Int) (at' : Int) (A : List Int) (k' i' : Int) : Prop where
  len : (A.length : Int) = at'
  sum : sumA A A.length + k' = k
  k0 : 0 ≤ k' ∧ k' ≤ 8
  i0 : 0 ≤ i' ∧ i' < cN (n - at') k'
  rk : ∀ B : List Int, (B.length : Int) = n - at' → rank (A ++ B) k = i - i' + rank B k'
theorem Got.next {n : Nat} {k i at' k' i' : Int} {A : List Int} (g : Got n k i at' A k' i') {x : Int} (hx : -k' ≤ x ∧ x ≤ k') (h : 0 ≤ i' - rnk (n - at' - 1) k' (x + k').toNat ∧ i' - rnk (n - at' - 1) k' (x + k').toNat < cN (n - at' - 1) (k' - szV x)) :
    Got n k i (at' + 1) (A ++ [x]) (k' - szV x) (i' - rnk (n - at' - 1) k' (x + k').toNat) := by
  have hk := g.k0
  have sx := szV_abs (x := x) (by omega)
  refine ⟨by have := g.len; rw [List.length_append, List.length_singleton]; omega, ?_, by rw [sx]; unfold absI; omega, ⟨h.1, by rw [show (n : Int) - (at' + 1) = n - at' - 1 by omega]; exact h.2⟩, fun B hB => ?_⟩
  · have := g.sum
    rw [sumA_snoc]
    omega
  · rw [List.append_assoc, List.singleton_append, g.rk (x :: B) (by rw [List.length_cons]; omega)]
    show i - i' + (rnk (B.length : Int) k' (x + k').toNat + rank B (k' - szV x)) = _
    rw [show (B.length : Int) = n - at' - 1 by omega]
    omega
theorem Got.done {n : Nat} {k i k' i' : Int} {A : List Int} (g : Got n k i n A k' i') : vecR n k i A := by
  have hi := g.i0
  rw [Int.sub_self] at hi
  have hk : k' = 0 := by
    rcases Int.lt_or_le 0 k' with h | h
    · rw [cN_none (by omega) g.k0.2] at hi; omega
    · have := g.k0; omega
  subst hk
  rw [cN_zero] at hi
  have h1 := g.rk [] (by simp)
  rw [List.append_nil] at h1
  have h2 := g.sum
  refine ⟨by have := g.len; omega, by omega, ?_⟩
  rw [h1]
  show i - i' + 0 = i
  omega
theorem loop_ren7 {body : List V → List Blk → XQ → Prop} {lo : Nat} {fr : List V} {H : List Blk} {Q : XQ} {α β γ δ ε ζ η : Type} (ds : List Nat) (J : Nat → α → β → γ → δ → ε → ζ → η → Prop) (sel : α → β → γ → δ → ε → ζ → η → List (Nat × V)) (Hs : α → β → γ → δ → ε → ζ → η → List Blk) (m₀ : Nat) (a₀ : α) (b₀ : β) (c₀ : γ) (d₀ : δ) (e₀ : ε) (f₀ : ζ) (g₀ : η) (h₀ : J m₀ a₀ b₀ c₀ d₀ e₀ f₀ g₀) (ρ₀ : Nat → Nat)
    (start : Next2 ρ₀ ds lo fr (sel a₀ b₀ c₀ d₀ e₀ f₀ g₀) (Hs a₀ b₀ c₀ d₀ e₀ f₀ g₀) fr H)
    (round : ∀ m a b c d e f g, J m a b c d e f g → havK ds 0 fr fun f₁ => setLK (sel a b c d e f g) f₁ fun f₂ => body f₂ (Hs a b c d e f g) fun ex fr' H' => match ex with
      | .normal => ∃ m' s' ρ, m' < m ∧ J m' (Prod.fst s') (Prod.fst (Prod.snd s')) (Prod.fst (Prod.snd (Prod.snd s'))) (Prod.fst (Prod.snd (Prod.snd (Prod.snd s')))) (Prod.fst (Prod.snd (Prod.snd (Prod.snd (Prod.snd s'))))) (Prod.fst (Prod.snd (Prod.snd (Prod.snd (Prod.snd (Prod.snd s')))))) (Prod.snd (Prod.snd (Prod.snd (Prod.snd (Prod.snd (Prod.snd s')))))) ∧ Next2 ρ ds lo fr (sel (Prod.fst s') (Prod.fst (Prod.snd s')) (Prod.fst (Prod.snd (Prod.snd s'))) (Prod.fst (Prod.snd (Prod.snd (Prod.snd s')))) (Prod.fst (Prod.snd (Prod.snd (Prod.snd (Prod.snd s'))))) (Prod.fst (Prod.snd (Prod.snd (Prod.snd (Prod.snd (Prod.snd s')))))) (Prod.snd (Prod.snd (Prod.snd (Prod.snd (Prod.snd (Prod.snd s'))))))) (Hs (Prod.fst s') (Prod.fst (Prod.snd s')) (Prod.fst (Prod.snd (Prod.snd s'))) (Prod.fst (Prod.snd (Prod.snd (Prod.snd s')))) (Prod.fst (Prod.snd (Prod.snd (Prod.snd (Prod.snd s'))))) (Prod.fst (Prod.snd (Prod.snd (Prod.snd (Prod.snd (Prod.snd s')))))) (Prod.snd (Prod.snd (Prod.snd (Prod.snd (Prod.snd (Prod.snd s'))))))) fr' H'
      | .exit id => Q (.exit id) fr' H'
      | .ret => Q .ret fr' H') : XLoop body lo fr H Q :=
  loop_ren ds (fun m s => J m (Prod.fst s) (Prod.fst (Prod.snd s)) (Prod.fst (Prod.snd (Prod.snd s))) (Prod.fst (Prod.snd (Prod.snd (Prod.snd s)))) (Prod.fst (Prod.snd (Prod.snd (Prod.snd (Prod.snd s))))) (Prod.fst (Prod.snd (Prod.snd (Prod.snd (Prod.snd (Prod.snd s)))))) (Prod.snd (Prod.snd (Prod.snd (Prod.snd (Prod.snd (Prod.snd s))))))) (fun s => sel (Prod.fst s) (Prod.fst (Prod.snd s)) (Prod.fst (Prod.snd (Prod.snd s))) (Prod.fst (Prod.snd (Prod.snd (Prod.snd s)))) (Prod.fst (Prod.snd (Prod.snd (Prod.snd (Prod.snd s))))) (Prod.fst (Prod.snd (Prod.snd (Prod.snd (Prod.snd (Prod.snd s)))))) (Prod.snd (Prod.snd (Prod.snd (Prod.snd (Prod.snd (Prod.snd s))))))) (fun s => Hs (Prod.fst s) (Prod.fst (Prod.snd s)) (Prod.fst (Prod.snd (Prod.snd s))) (Prod.fst (Prod.snd (Prod.snd (Prod.snd s)))) (Prod.fst (Prod.snd (Prod.snd (Prod.snd (Prod.snd s))))) (Prod.fst (Prod.snd (Prod.snd (Prod.snd (Prod.snd (Prod.snd s)))))) (Prod.snd (Prod.snd (Prod.snd (Prod.snd (Prod.snd (Prod.snd s))))))) m₀ (a₀, b₀, c₀, d₀, e₀, f₀, g₀) h₀ ρ₀ start fun m s h => round m (Prod.fst s) (Prod.fst (Prod.snd s)) (Prod.fst (Prod.snd (Prod.snd s))) (Prod.fst (Prod.snd (Prod.snd (Prod.snd s)))) (Prod.fst (Prod.snd (Prod.snd (Prod.snd (Prod.snd s))))) (Prod.fst (Prod.snd (Prod.snd (Prod.snd (Prod.snd (Prod.snd s)))))) (Prod.snd (Prod.snd (Prod.snd (Prod.snd (Prod.snd (Prod.snd s)))))) h
def rho13 (j : Nat) : Nat := if j = 1 then 3 else j
theorem rho13_inj {i j : Nat} (hi : i < 2) (hj : j < 2) (h : rho13 i = rho13 j) : i = j := by unfold rho13 at h; split at h <;> split at h <;> omega
theorem bytes3 : (Tryz.prog.types[3]).bytes = 8 := by kernel_rfl
noncomputable def FVe : Fns := ((F0.over 141 (hOf 8)).plus 142 (ct1 (fun _ => True) szV)).plus 123 (ct2 (fun _ _ => True) cC)
theorem FVe_ok : FnsOk Tryz.prog FVe := ((F0_ok.over (of_ct 8) Tryz.func141 (by kernel_rfl) (by kernel_rfl)).plus vsize_ct Tryz.func142 (by kernel_rfl) (by kernel_rfl)).plus count_ct Tryz.func123 (by kernel_rfl) (by kernel_rfl)
theorem vector_walk (n k i : Int) (hi : InK .i64 i) (hn : 0 ≤ n ∧ n ≤ 8) (hk : 0 ≤ k ∧ k ≤ 8) (h0 : 0 ≤ i ∧ i < cN n k) : walk FVe 0 Tryz.f122 [i64 n, i64 k, i64 i] [] (Made (vecP n.toNat k i)) := by
  have ec : cC n k = cN n k := by rw [cC_def, if_pos ⟨hn, hk⟩]
  have cb := cN_in hn.2 hk.2
  have nn : ((n.toNat : Nat) : Int) = n := by omega
  have g0 : Got n.toNat k i 0 [] k i := ⟨rfl, by show (0 : Int) + k = k; omega, hk, by rw [nn, Int.sub_zero]; exact h0, fun B _ => by show rank B k = i - i + rank B k; omega⟩
  repeat' ((conv => whnf); first | (refine ask_true (by omega) ?_) | (refine ask_false (by omega) ?_) | (refine And.intro trivial ?_) | (refine And.intro mty ?_) | fail)
  conv => whnf
  refine loop_ren7 (1 :: 2 :: 9 :: 10 :: 11 :: List.range' 23 40) (fun m (a : Int) (R : Obj → Prop) (v : V) (b : Blk) (A : List Int) (k' i' : Int) => 0 ≤ a ∧ a ≤ n ∧ m = (n - a).toNat ∧ (∀ o, R o → mapI cntQ o) ∧ rowS 1 A v b ∧ Got n.toNat k i a A k' i') (fun a _ v _ _ k' i' => [(1, vi k'), (2, vi i'), (9, v), (23, vi a)]) (fun _ R _ b _ _ _ => [.obj R, b]) n.toNat 0 emptyM (.w (.c .csn)) .gone [] k i ⟨by decide, by omega, by omega, empty_mapI _, .inl ⟨rfl, rfl, rfl⟩, g0⟩ id ?_ ?_
  · refine ⟨?_, And.intro rfl trivial, fun _ _ _ _ h => h, fun _ _ => rfl, rfl, rfl, Nat.le_of_ble_eq_true rfl⟩
    repeat' (first | exact trivial | refine And.intro rfl ?_ | fail)
  · rintro _ a R v b A k' i' ⟨a0, a1, rfl, hR, hr, g⟩
    have g : Got n.toNat k i a A k' i' := g
    have hr : rowS 1 A v b := hr
    have hk0 := g.k0
    have hi0 := g.i0
    have hl := g.len
    simp only [nn] at hi0
    rcases Int.lt_or_le a n with a2 | a2
    · have gN : ∀ {x : Int}, (-k' ≤ x ∧ x ≤ k') → (0 ≤ i' - rnk (n - a - 1) k' (x + k').toNat ∧ i' - rnk (n - a - 1) k' (x + k').toNat < cN (n - a - 1) (k' - szV x)) → Got n.toNat k i (a + 1) (A ++ [x]) (k' - szV x) (i' - rnk (n - a - 1) k' (x + k').toNat) := fun {x} h1 h2 => by
        have := g.next (x := x) h1 (by rw [nn]; exact h2)
        rwa [nn] at this
      have cb' := cN_in (n := n - a) (k := k') (by omega) (by omega)
      rcases hr with ⟨rfl, rfl, rfl⟩ | ⟨t0, d, s, f1, f2, f3, rfl, rfl⟩
      · skip
        repeat' ((conv => whnf); first | (refine ask_true (by omega) ?_) | (refine ask_wrap64 (by omega) (by omega) ?_) | fail)
        conv => whnf
        refine loop_at2 (2 :: 11 :: List.range' 28 26) (fun m (x : Int) (R : Obj → Prop) => (-k' ≤ x ∧ x ≤ k') ∧ m = (k' - x).toNat ∧ 0 ≤ i' - rnk (n - a - 1) k' (x + k').toNat ∧ ∀ o, R o → mapI cntQ o) (fun x _ => [(2, vi (i' - rnk (n - a - 1) k' (x + k').toNat)), (11, vi x)]) (fun _ R => [.obj R, .gone]) (k' - (0 - k')).toNat (0 - k') R ⟨by omega, rfl, by rw [show (0 - k' + k').toNat = 0 by omega]; show 0 ≤ i' - 0; omega, hR⟩ ?_ ?_
        · refine ⟨rfl, ⟨⟨Nat.le_of_ble_eq_true rfl, congrArg vi ?_⟩, ⟨Nat.le_of_ble_eq_true rfl, rfl⟩, trivial⟩, ⟨rfl, trivial⟩, rfl, rfl, Nat.le_of_ble_eq_true rfl⟩
          rw [show (0 - k' + k').toNat = 0 by omega]
          show i' = i' - 0
          omega
        · rintro m x R ⟨hx, rfl, hi, hR⟩
          have hs := szV_in x
          have ss := szV_abs (x := x) (by omega)
          have cc := cN_in (n := n - a - 1) (k := k' - szV x) (by omega) (by omega)
          have rn := rnk_next (n := n - a - 1) (k := k') (z := x) (by omega)
          have rb := rnk_in (n := n - a - 1) (k := k') (by omega) (by omega) (x + k').toNat
          repeat' ((conv => whnf); first | (refine And.intro trivial ?_) | (refine ask_wrap64 (by omega) (by omega) ?_) | fail)
          conv => whnf
          refine And.intro ⟨R, rfl, hR⟩ (And.intro ⟨by omega, by omega, by omega⟩ fun H' eH => ?_)
          have eH' : H' = [.obj (mapI cntQ), .gone] := eH
          clear eH
          subst eH'
          rcases Int.lt_or_le (i' - rnk (n - a - 1) k' (x + k').toNat) (cN (n - a - 1) (k' - szV x)) with hlt | hge
          · have gn := gN (x := x) ⟨by omega, by omega⟩ ⟨hi, hlt⟩
            repeat' ((conv => whnf); first | (refine ask_false (by omega) ?_) | (refine And.intro (by omega) ?_) | fail)
            conv => whnf
            refine And.intro ⟨by decide, by decide, Nat.le_of_ble_eq_true (by kernel_rfl)⟩ (fresh_as (zs := [] ++ [x]) rfl fun c R1 h1 h2 h3 => ?_)
            repeat' ((conv => whnf); first | (refine And.intro trivial ?_) | (refine ask_wrap64 (by omega) (by omega) ?_) | fail)
            conv => whnf
            refine ⟨(n - (a + 1)).toNat, (a + 1, mapI cntQ, .w (.c (.csl 1 0 0 (([] : List Int).length + 1) c)), .own 3 [.ints .i64 c ([] ++ [x] ++ R1)], [] ++ [x], k' - szV x, i' - rnk (n - a - 1) k' (x + k').toNat), rho13, by omega, ⟨by show 0 ≤ a + 1; omega, by show a + 1 ≤ n; omega, rfl, fun o h => h, rowS_next rfl (h1) (h2) (h3), gn⟩, ⟨?_, ?_, fun _ _ hp hq => rho13_inj hp hq, fun _ hp => absurd hp (Nat.not_lt_zero _), rfl, rfl, Nat.le_of_ble_eq_true rfl⟩⟩
            · repeat' (first | exact trivial | refine And.intro rfl ?_ | fail)
            · exact And.intro rfl (And.intro rfl trivial)
          · have hxk : x < k' := by
              rcases Int.lt_or_le x k' with h | h
              · exact h
              · exfalso
                have ex : x = k' := by omega
                have ra := rnk_all (m := n - a - 1) (k := k') (by omega) hk0
                rw [show (2 * k' + 1).toNat = (x + 1 + k').toNat by omega, show n - a - 1 + 1 = n - a by omega] at ra
                omega
            repeat' ((conv => whnf); first | (refine ask_true (by omega) ?_) | (refine And.intro trivial ?_) | (refine ask_wrap64 (by omega) (by omega) ?_) | fail)
            conv => whnf
            refine And.intro ⟨mapI cntQ, rfl, fun o h => h⟩ (And.intro ⟨by omega, by omega, by omega⟩ fun H' eH => ?_)
            have eH' : H' = [.obj (mapI cntQ), .gone] := eH
            clear eH
            subst eH'
            repeat' ((conv => whnf); first | (refine ask_wrap64 (by omega) (by omega) ?_) | fail)
            conv => whnf
            refine ⟨(k' - (x + 1)).toNat, (x + 1, mapI cntQ), by omega, ⟨by show -k' ≤ x + 1 ∧ x + 1 ≤ k'; omega, rfl, ?_, fun o h => h⟩, rfl, ⟨⟨Nat.le_of_ble_eq_true rfl, congrArg vi ?_⟩, ⟨Nat.le_of_ble_eq_true rfl, rfl⟩, trivial⟩, ⟨rfl, trivial⟩, rfl, rfl, Nat.le_of_ble_eq_true rfl⟩
            · show 0 ≤ i' - rnk (n - a - 1) k' (x + 1 + k').toNat
              omega
            · show _ = i' - rnk (n - a - 1) k' (x + 1 + k').toNat
              omega
      · skip
        repeat' ((conv => whnf); first | (refine ask_true (by omega) ?_) | (refine ask_wrap64 (by omega) (by omega) ?_) | fail)
        conv => whnf
        refine loop_at2 (2 :: 11 :: List.range' 28 26) (fun m (x : Int) (R : Obj → Prop) => (-k' ≤ x ∧ x ≤ k') ∧ m = (k' - x).toNat ∧ 0 ≤ i' - rnk (n - a - 1) k' (x + k').toNat ∧ ∀ o, R o → mapI cntQ o) (fun x _ => [(2, vi (i' - rnk (n - a - 1) k' (x + k').toNat)), (11, vi x)]) (fun _ R => [.obj R, .own 3 [.ints .i64 d (A ++ s)]]) (k' - (0 - k')).toNat (0 - k') R ⟨by omega, rfl, by rw [show (0 - k' + k').toNat = 0 by omega]; show 0 ≤ i' - 0; omega, hR⟩ ?_ ?_
        · refine ⟨rfl, ⟨⟨Nat.le_of_ble_eq_true rfl, congrArg vi ?_⟩, ⟨Nat.le_of_ble_eq_true rfl, rfl⟩, trivial⟩, ⟨rfl, rfl, trivial⟩, rfl, rfl, Nat.le_of_ble_eq_true rfl⟩
          rw [show (0 - k' + k').toNat = 0 by omega]
          show i' = i' - 0
          omega
        · rintro m x R ⟨hx, rfl, hi, hR⟩
          have hs := szV_in x
          have ss := szV_abs (x := x) (by omega)
          have cc := cN_in (n := n - a - 1) (k := k' - szV x) (by omega) (by omega)
          have rn := rnk_next (n := n - a - 1) (k := k') (z := x) (by omega)
          have rb := rnk_in (n := n - a - 1) (k := k') (by omega) (by omega) (x + k').toNat
          repeat' ((conv => whnf); first | (refine And.intro trivial ?_) | (refine ask_wrap64 (by omega) (by omega) ?_) | fail)
          conv => whnf
          refine And.intro ⟨R, rfl, hR⟩ (And.intro ⟨by omega, by omega, by omega⟩ fun H' eH => ?_)
          have eH' : H' = [.obj (mapI cntQ), .own 3 [.ints .i64 d (A ++ s)]] := eH
          clear eH
          subst eH'
          rcases Int.lt_or_le (i' - rnk (n - a - 1) k' (x + k').toNat) (cN (n - a - 1) (k' - szV x)) with hlt | hge
          · have gn := gN (x := x) ⟨by omega, by omega⟩ ⟨hi, hlt⟩
            repeat' ((conv => whnf); first | (refine ask_false (by omega) ?_) | (refine And.intro (by omega) ?_) | fail)
            conv => whnf
            refine And.intro ⟨rfl, by omega, by rw [bytes3]; omega⟩ (And.intro (fun hroom => ?_) fun hg => fresh_as (zs := A ++ [x]) (grow_eq rfl) fun c R1 h1 h2 h3 => ?_)
            · have hroom' : A.length + 1 ≤ d := hroom
              repeat' ((conv => whnf); first | (refine And.intro trivial ?_) | (refine ask_wrap64 (by omega) (by omega) ?_) | fail)
              conv => whnf
              refine ⟨(n - (a + 1)).toNat, (a + 1, mapI cntQ, .w (.c (.csl 1 0 0 (A.length + 1) d)), .own 3 [.ints .i64 d (A ++ [x] ++ s.drop 1)], A ++ [x], k' - szV x, i' - rnk (n - a - 1) k' (x + k').toNat), id, by omega, ⟨by show 0 ≤ a + 1; omega, by show a + 1 ≤ n; omega, rfl, fun o h => h, rowS_next rfl (by omega) (by omega) (by rw [List.length_drop]; omega), gn⟩, ⟨?_, ?_, fun _ _ _ _ h => h, fun _ _ => rfl, rfl, rfl, Nat.le_of_ble_eq_true rfl⟩⟩
              · repeat' (first | exact trivial | refine And.intro rfl ?_ | fail)
              · exact And.intro rfl (And.intro (congrArg some (congrArg (fun ys => Blk.own 3 [.ints .i64 _ ys]) (room_eq rfl))) trivial)
            · have hroom' : A.length + 1 ≤ c := h1
              repeat' ((conv => whnf); first | (refine And.intro trivial ?_) | (refine ask_wrap64 (by omega) (by omega) ?_) | fail)
              conv => whnf
              refine ⟨(n - (a + 1)).toNat, (a + 1, mapI cntQ, .w (.c (.csl 1 0 0 (A.length + 1) c)), .own 3 [.ints .i64 c (A ++ [x] ++ R1)], A ++ [x], k' - szV x, i' - rnk (n - a - 1) k' (x + k').toNat), rho13, by omega, ⟨by show 0 ≤ a + 1; omega, by show a + 1 ≤ n; omega, rfl, fun o h => h, rowS_next rfl (by omega) (by omega) (by omega), gn⟩, ⟨?_, ?_, fun _ _ hp hq => rho13_inj hp hq, fun _ hp => absurd hp (Nat.not_lt_zero _), rfl, rfl, Nat.le_of_ble_eq_true rfl⟩⟩
              · repeat' (first | exact trivial | refine And.intro rfl ?_ | fail)
              · exact And.intro rfl (And.intro rfl trivial)
          · have hxk : x < k' := by
              rcases Int.lt_or_le x k' with h | h
              · exact h
              · exfalso
                have ex : x = k' := by omega
                have ra := rnk_all (m := n - a - 1) (k := k') (by omega) hk0
                rw [show (2 * k' + 1).toNat = (x + 1 + k').toNat by omega, show n - a - 1 + 1 = n - a by omega] at ra
                omega
            repeat' ((conv => whnf); first | (refine ask_true (by omega) ?_) | (refine And.intro trivial ?_) | (refine ask_wrap64 (by omega) (by omega) ?_) | fail)
            conv => whnf
            refine And.intro ⟨mapI cntQ, rfl, fun o h => h⟩ (And.intro ⟨by omega, by omega, by omega⟩ fun H' eH => ?_)
            have eH' : H' = [.obj (mapI cntQ), .own 3 [.ints .i64 d (A ++ s)]] := eH
            clear eH
            subst eH'
            repeat' ((conv => whnf); first | (refine ask_wrap64 (by omega) (by omega) ?_) | fail)
            conv => whnf
            refine ⟨(k' - (x + 1)).toNat, (x + 1, mapI cntQ), by omega, ⟨by show -k' ≤ x + 1 ∧ x + 1 ≤ k'; omega, rfl, ?_, fun o h => h⟩, rfl, ⟨⟨Nat.le_of_ble_eq_true rfl, congrArg vi ?_⟩, ⟨Nat.le_of_ble_eq_true rfl, rfl⟩, trivial⟩, ⟨rfl, rfl, trivial⟩, rfl, rfl, Nat.le_of_ble_eq_true rfl⟩
            · show 0 ≤ i' - rnk (n - a - 1) k' (x + 1 + k').toNat
              omega
            · show _ = i' - rnk (n - a - 1) k' (x + 1 + k').toNat
              omega
    · have ea : a = n := by omega
      subst ea
      have gd : vecR a.toNat k i A := by
        have g' : Got a.toNat k i ((a.toNat : Nat) : Int) A k' i' := by rw [nn]; exact g
        exact g'.done
      rcases hr with ⟨rfl, rfl, rfl⟩ | ⟨t0, d, s, f1, f2, f3, rfl, rfl⟩
      · repeat' ((conv => whnf); first | (refine ask_false (by omega) ?_) | fail)
        conv => whnf
        exact made_of (P0 := vecP a.toNat k i) (.tup [.c .csn, i64 0]) [] id ⟨[], gd, .inl ⟨rfl, rfl, rfl⟩⟩ rfl trivial (fun p q hp _ _ => absurd hp (Nat.not_lt_zero p)) rfl rfl (by intro e; cases e)
      · repeat' ((conv => whnf); first | (refine ask_false (by omega) ?_) | fail)
        conv => whnf
        exact made_of (P0 := vecP a.toNat k i) (.tup [.c (.csl 0 0 0 A.length d), i64 0]) [.own 3 [.ints .i64 d (A ++ s)]] (fun _ => 1) ⟨A, gd, .inr ⟨t0, d, s, f1, f2, f3, rfl, rfl⟩⟩ rfl (And.intro rfl trivial) (fun p q hp hq _ => by have hp' : p < 1 := hp; have hq' : q < 1 := hq; omega) rfl rfl (by intro e; cases e)
theorem vector_bad (n k i : Int) (hn : InK .i64 n) (hk : InK .i64 k) (hi : InK .i64 i) (h : ¬ (0 ≤ i ∧ i < cC n k)) : walk FVe 0 Tryz.f122 [i64 n, i64 k, i64 i] [] (Made (noneP 1)) := by
  rcases Int.lt_or_le i 0 with h1 | h1
  all_goals repeat' ((conv => whnf); first | (refine ask_true (by omega) ?_) | (refine ask_false (by omega) ?_) | (refine And.intro trivial ?_) | fail)
  all_goals (conv => whnf)
  all_goals exact made_of (.tup [.c .csn, i64 1]) [] id ⟨rfl, rfl⟩ rfl trivial (fun p q hp _ _ => absurd hp (Nat.not_lt_zero p)) rfl rfl (by intro e; cases e)
def hVector : HCt := fun ws H K => match ws with
  | [.c (.ci .i64 n), .c (.ci .i64 k), .c (.ci .i64 i)] => (¬ (0 ≤ i ∧ i < cC n k) → K (.tup [.c .csn, i64 1]) H) ∧ ((0 ≤ i ∧ i < cC n k) → ∀ A, vecR n.toNat k i A → (A = [] → K (.tup [.c .csn, i64 0]) H) ∧ (A ≠ [] → ∀ (c : Nat) (rest : List Int), A.length ≤ c → c ≤ 9223372036854775807 → rest.length = c - A.length → K (.tup [.c (.csl H.length 0 0 A.length c), i64 0]) (H ++ [.own 3 [.ints .i64 c (A ++ rest)]])))
  | _ => False
theorem vector_ct : HCtOk Tryz.prog 122 hVector := by
  intro ws H K h hr hb ho G σ base w₀ w hw
  unfold hVector at h
  split at h
  · rename_i n k i
    rcases Classical.em (0 ≤ i ∧ i < cC n k) with hi | hi
    · have hc := cC_def n k
      have hin : (0 ≤ n ∧ n ≤ 8) ∧ 0 ≤ k ∧ k ≤ 8 := by
        by_cases hh : (0 ≤ n ∧ n ≤ 8) ∧ 0 ≤ k ∧ k ≤ 8
        · exact hh
        · rw [if_neg hh] at hc; omega
      rw [if_pos hin] at hc
      refine walk_lift FVe_ok Tryz.func122 (n := 0) (ws := [i64 n, i64 k, i64 i]) (R := []) nil_ok ⟨hr.1, hr.2.1, hr.2.2.1, trivial⟩ rfl (vector_walk n k i hr.2.2.1 hin.1 hin.2 (by rw [← hc]; exact hi)) ?_ id no_ro rfl ?_ ho G σ base w₀ w hw
      · rintro x N ⟨A, _, ⟨_, _, rfl⟩ | ⟨_, c, rest, _, _, _, _, rfl⟩⟩ b hb
        · cases hb
        · rw [List.mem_singleton.1 hb]; exact .inl rfl
      · rintro x N ⟨A, hA, ⟨e, rfl, rfl⟩ | ⟨e, c, rest, h1, h2, h3, rfl, rfl⟩⟩
        · simpa [V.ren, renW, W.ren, C.ren] using (h.2 hi A hA).1 e
        · have := (h.2 hi A hA).2 e c rest h1 h2 h3
          simpa [V.ren, renW, W.ren, C.ren, Blk.ren, rens, Seg.ren, sh] using this
    · exact walk_lift FVe_ok Tryz.func122 (n := 0) (ws := [i64 n, i64 k, i64 i]) (R := []) nil_ok ⟨hr.1, hr.2.1, hr.2.2.1, trivial⟩ rfl (vector_bad n k i hr.1 hr.2.1 hr.2.2.1 hi) none_mine id no_ro rfl (none_K (h.1 hi)) ho G σ base w₀ w hw
  · exact h.elim
theorem sumA_cons (x : Int) (B : List Int) : sumA (x :: B) (x :: B).length = szV x + sumA B B.length := by
  have := sumA_drop (x :: B) 0 (by simp)
  simpa using this
theorem rnk_mono {n k : Int} (hn : n ≤ 8) (hk : k ≤ 8) {s : Nat} : ∀ t : Nat, s ≤ t → rnk n k s ≤ rnk n k t
  | 0, h => by obtain rfl : s = 0 := by omega
               exact Int.le_refl _
  | t + 1, h => by
    rcases Nat.lt_or_ge s (t + 1) with h1 | h1
    · have := rnk_mono hn hk (s := s) t (by omega)
      have h2 := szV_in (t - k)
      have h3 := (cN_in (n := n) (k := k - szV (t - k)) hn (by omega)).1
      show rnk n k s ≤ rnk n k t + cN n (k - szV (t - k))
      omega
    · obtain rfl : s = t + 1 := by omega
      exact Int.le_refl _
theorem head_in {x : Int} {B : List Int} {k : Int} (hs : sumA (x :: B) (x :: B).length = k) (hk : k ≤ 8) : (-k ≤ x ∧ x ≤ k) ∧ 0 ≤ k ∧ 0 ≤ k - szV x ∧ k - szV x ≤ 8 ∧ sumA B B.length = k - szV x := by
  rw [sumA_cons] at hs
  have h1 := szV_in x
  have h2 := (sumA_in B B.length).1
  have h3 := szV_def x
  split at h3
  · omega
  · unfold absI at h3; omega
theorem rank_in : ∀ (A : List Int) (k : Int), sumA A A.length = k → k ≤ 8 → A.length ≤ 8 → 0 ≤ rank A k ∧ rank A k < cN A.length k
  | [], k, hs, _, _ => by
    obtain rfl : k = 0 := hs.symm
    show (0 : Int) ≤ 0 ∧ (0 : Int) < cN 0 0
    rw [cN_zero]; decide
  | x :: B, k, hs, hk, hl => by
    obtain ⟨h1, h2, h3, h4, h5⟩ := head_in hs hk
    have hl' : B.length ≤ 7 := by simpa using hl
    obtain ⟨i1, i2⟩ := rank_in B (k - szV x) h5 h4 (by omega)
    have r0 := rnk_in (n := (B.length : Int)) (k := k) (by omega) hk (x + k).toNat
    have rn := rnk_next (n := (B.length : Int)) (k := k) (z := x) (by omega)
    have rm := rnk_mono (n := (B.length : Int)) (k := k) (by omega) hk (s := (x + 1 + k).toNat) (2 * k + 1).toNat (by omega)
    have ra := rnk_all (m := (B.length : Int)) (k := k) (by omega) ⟨h2, hk⟩
    show 0 ≤ rnk (B.length : Int) k (x + k).toNat + rank B (k - szV x) ∧ rnk (B.length : Int) k (x + k).toNat + rank B (k - szV x) < cN ((B.length + 1 : Nat) : Int) k
    rw [show ((B.length + 1 : Nat) : Int) = (B.length : Int) + 1 by omega]
    omega
/-- The first place where two vectors are unlike. -/
theorem rank_lt : ∀ (p : Nat) (A B : List Int) (k : Int), A.length = B.length → A.length ≤ 8 → k ≤ 8 → sumA A A.length = k → sumA B B.length = k → p < A.length → (∀ j, j < p → A.getD j 0 = B.getD j 0) → A.getD p 0 < B.getD p 0 → rank A k < rank B k
  | _, [], _, _, _, _, _, _, _, hp, _, _ => by simp at hp
  | _, _ :: _, [], _, hl, _, _, _, _, _, _, _ => by simp at hl
  | 0, x :: A, y :: B, k, hl, h8, hk, ha, hb, _, _, hlt => by
    have hl' : A.length = B.length := by simpa using hl
    have hA : A.length ≤ 7 := by simpa using h8
    obtain ⟨a1, a2, a3, a4, a5⟩ := head_in ha hk
    obtain ⟨b1, b2, b3, b4, b5⟩ := head_in hb hk
    have hlt' : x < y := hlt
    have ia := rank_in A _ a5 a4 (by omega)
    have ib := rank_in B _ b5 b4 (by omega)
    have rn := rnk_next (n := (A.length : Int)) (k := k) (z := x) (by omega)
    have rm := rnk_mono (n := (A.length : Int)) (k := k) (by omega) hk (s := (x + 1 + k).toNat) (y + k).toNat (by omega)
    show rnk (A.length : Int) k (x + k).toNat + rank A (k - szV x) < rnk (B.length : Int) k (y + k).toNat + rank B (k - szV y)
    rw [← hl']
    omega
  | p + 1, x :: A, y :: B, k, hl, h8, hk, ha, hb, hp, hc, hlt => by
    have hl' : A.length = B.length := by simpa using hl
    have hA : A.length ≤ 7 := by simpa using h8
    have hp' : p < A.length := by simpa using hp
    obtain ⟨a1, a2, a3, a4, a5⟩ := head_in ha hk
    obtain ⟨b1, b2, b3, b4, b5⟩ := head_in hb hk
    have e : x = y := hc 0 (by omega)
    subst e
    have := rank_lt p A B (k - szV x) hl' (by omega) a4 a5 b5 hp' (fun j hj => hc (j + 1) (by omega)) hlt
    show rnk (A.length : Int) k (x + k).toNat + rank A (k - szV x) < rnk (B.length : Int) k (x + k).toNat + rank B (k - szV x)
    rw [← hl']
    omega
theorem row_ext {A B : List Int} (hl : A.length = B.length) (h : ∀ j, j < A.length → A.getD j 0 = B.getD j 0) : A = B := by
  refine List.ext_getElem hl fun i h1 h2 => ?_
  have := h i h1
  rwa [List.getD_eq_getElem?_getD, List.getD_eq_getElem?_getD, List.getElem?_eq_getElem h1, List.getElem?_eq_getElem h2] at this
theorem first_unlike {A B : List Int} : ∀ n : Nat, (∀ j, j < n → A.getD j 0 = B.getD j 0) ∨ ∃ p, p < n ∧ (∀ j, j < p → A.getD j 0 = B.getD j 0) ∧ A.getD p 0 ≠ B.getD p 0
  | 0 => .inl fun j hj => absurd hj (Nat.not_lt_zero j)
  | n + 1 => by
    rcases first_unlike n with h | ⟨p, h1, h2, h3⟩
    · by_cases he : A.getD n 0 = B.getD n 0
      · refine .inl fun j hj => ?_
        rcases Nat.lt_or_ge j n with h1 | h1
        · exact h j h1
        · obtain rfl : j = n := by omega
          exact he
      · exact .inr ⟨n, by omega, h, he⟩
    · exact .inr ⟨p, by omega, h2, h3⟩
theorem rank_inj {A B : List Int} {k : Int} (hl : A.length = B.length) (h8 : A.length ≤ 8) (hk : k ≤ 8) (ha : sumA A A.length = k) (hb : sumA B B.length = k) (h : rank A k = rank B k) : A = B := by
  rcases first_unlike (A := A) (B := B) A.length with hh | ⟨p, h1, h2, h3⟩
  · exact row_ext hl hh
  · exfalso
    rcases Int.lt_trichotomy (A.getD p 0) (B.getD p 0) with h4 | h4 | h4
    · have := rank_lt p A B k hl h8 hk ha hb h1 h2 h4
      omega
    · exact h3 h4
    · have := rank_lt p B A k hl.symm (by omega) hk hb ha (by omega) (fun j hj => (h2 j hj).symm) h4
      omega
end V
end Go.Proofs.YtaficaacogcblaaGreatDoor
