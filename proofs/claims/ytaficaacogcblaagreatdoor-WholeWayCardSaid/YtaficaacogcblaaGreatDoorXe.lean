/- Operations that leave memory as it is, as one abstract step; and its soundness. -/
import Derived.Test.YtaficaacogcblaaGreatDoorXd
set_option linter.all false
namespace Go.Proofs.YtaficaacogcblaaGreatDoor
open Go.RowKit (Below)

/-- What is read off a value's cells is what is read off a variable's. -/
theorem kLoad0_val {P : Program} {T : TypeId} {ss : List Seg} {o : Nat} {i : Option Nat} {K : W → Prop} (h : kLoad0 P T ss o i K) (hr : rngs ss) {n : Nat} (hb : bnds n ss = true) :
    ∃ x : W, x.rng ∧ x.bnd n = true ∧ K x ∧ ∀ σ w, (part T (dens σ ss).toArray (o + i.getD 0)).run P w = .ok (x.den σ) w := by
  unfold kLoad0 at h
  cases hag : isAg (tyOf P T) with
  | none => rw [hag] at h; exact h.elim
  | some b =>
    rw [hag] at h
    cases b with
    | true =>
      cases hi : P.info? T with
      | none => rw [hi] at h; cases i <;> exact h.elim
      | some inf =>
        rw [hi] at h
        have fin : ∀ (σ : Sg) (w : World) (q : Nat) (r : List Value), r = ((dens σ ss).drop q).take inf.size → (part T (dens σ ss).toArray q).run P w = .ok (.agg r.toArray) w := fun σ w q r e => by
          have : (dens σ ss).toArray.extract q (q + inf.size) = r.toArray := by
            rw [e, List.extract_toArray, List.extract_eq_drop_take']
            simp [List.drop_take]
          simp only [part, Sem.run_bind, run_isAgg w hag, run_sizeOf w hi, Result.andThen_ok, if_true, this, Sem.run_pure]
        cases i with
        | none =>
          simp only at h
          obtain ⟨r, h1, h2, h3, h4, h5⟩ := segRd_spec h hr
          exact ⟨.agg r, h2, h3 n hb, h1, fun σ w => fin σ w _ _ (h5 σ)⟩
        | some i =>
          simp only at h
          obtain ⟨k, m, xs, h1, h2, h3, h4⟩ := segIx_spec h hr
          have hl := h2.1
          refine ⟨.agg [.ints k inf.size ((xs.drop i).take inf.size)], ⟨⟨by simp; omega, fun x hx => h2.2 x (List.mem_of_mem_drop (List.mem_of_mem_take hx))⟩, trivial⟩, rfl, h1.2, fun σ w => ?_⟩
          refine fin σ w _ _ ?_
          simp only [dens, Seg.den, List.append_nil, Option.getD_some]
          apply List.ext_getElem?
          intro q
          rcases Nat.lt_or_ge q inf.size with hq | hq
          · have := h4 σ (i + q) (by omega)
            rw [List.getElem?_take, if_pos hq, List.getElem?_drop, show o + i + q = o + (i + q) by omega, this]
            have hlt : i + q < xs.length := by omega
            simp [hq, List.getD_eq_getElem?_getD, hlt]
          · rw [List.getElem?_eq_none (by simp; omega), List.getElem?_eq_none (by simp; omega)]
    | false =>
      have fin : ∀ (σ : Sg) (w : World) (q : Nat) (v : Value), (dens σ ss)[q]? = some v → (part T (dens σ ss).toArray q).run P w = .ok v w := fun σ w q v hv => by
        simp [part, run_isAgg w hag, hv]
      cases i with
      | none =>
        simp only at h
        obtain ⟨c, h1, h2, h3, h4, h5⟩ := segAt_spec h hr
        exact ⟨.c c, h2, h3 n hb, h1, fun σ w => fin σ w _ _ (h5 σ)⟩
      | some i =>
        simp only at h
        obtain ⟨k, m, xs, h1, h2, h3, h4⟩ := segIx_spec h hr
        have hin := getD_in h2 h1.1
        exact ⟨.c (.ci k (xs.getD i 0)), hin, rfl, h1.2 hin, fun σ w => fin σ w _ _ (h4 σ i h1.1)⟩
theorem kLoad_val {P : Program} {T : TypeId} {ss : List Seg} {o : Nat} {i : Option Nat} {K : W → Prop} (h : kLoad P T ss o i K) (hr : rngs ss) {n : Nat} (hb : bnds n ss = true) :
    ∃ x : W, x.rng ∧ x.bnd n = true ∧ K x ∧ ∀ σ w, (part T (dens σ ss).toArray (o + i.getD 0)).run P w = .ok (x.den σ) w := by
  unfold kLoad at h
  split at h
  · exact kLoad0_val h hr hb
  · rename_i i
    split at h
    · have := kLoad0_val h hr hb
      simpa using this
    · exact kLoad0_val h hr hb

/-- What an abstract program leans on: variables' cells, types that compare cell by cell. -/
structure Env where
  G : Glo
  EQ : Eqs
structure EnvOk (P : Program) (E : Env) : Prop where
  glo : GOk E.G
  eq : ∀ t ks, E.EQ t = some ks → EqOk P t ks

def nthP : List (Nat × TypeId) → Nat → (Nat → TypeId → Prop) → Prop
  | [], _, _ => False
  | (o, t) :: _, 0, K => K o t
  | _ :: fs, n + 1, K => nthP fs n K
theorem nthP_spec : ∀ {fs : List (Nat × TypeId)} {n : Nat} {K : Nat → TypeId → Prop}, nthP fs n K → ∃ o t, fs[n]? = some (o, t) ∧ K o t
  | [], _, _, h => h.elim
  | (o, t) :: _, 0, _, h => ⟨o, t, rfl, h⟩
  | _ :: fs, n + 1, _, h => by obtain ⟨o, t, h1, h2⟩ := nthP_spec (fs := fs) h; exact ⟨o, t, by simpa using h1, h2⟩
theorem nthP_field {F : Array Field} {n : Nat} {K : Nat → TypeId → Prop} (h : nthP (F.toList.map fun f => (f.offset, f.type)) n K) : ∃ f : Field, F[n]? = some f ∧ K f.offset f.type := by
  obtain ⟨o, t, h1, h2⟩ := nthP_spec h
  rw [List.getElem?_map] at h1
  cases hf : F.toList[n]? with
  | none => rw [hf] at h1; cases h1
  | some f =>
    rw [hf] at h1
    simp at h1
    exact ⟨f, by simpa using hf, by rw [h1.1, h1.2]; exact h2⟩

def nthW : List W → Nat → (W → Prop) → Prop
  | [], _, _ => False
  | w :: _, 0, K => K w
  | _ :: ws, n + 1, K => nthW ws n K
theorem nthW_spec {m : Nat} : ∀ {ws : List W} {n : Nat} {K : W → Prop}, nthW ws n K → rngW ws → bndW m ws = true → ∃ x : W, x.rng ∧ x.bnd m = true ∧ ws[n]? = some x ∧ K x
  | [], _, _, h, _, _ => h.elim
  | w :: _, 0, _, h, hr, hb => ⟨w, hr.1, by simp only [bndW, Bool.and_eq_true] at hb; exact hb.1, rfl, h⟩
  | _ :: ws, n + 1, _, h, hr, hb => by
    simp only [bndW, Bool.and_eq_true] at hb
    obtain ⟨x, h1, h2, h3, h4⟩ := nthW_spec (ws := ws) h hr.2 hb.2
    exact ⟨x, h1, h2, by simpa using h3, h4⟩

def mulN (i sz : Nat) : Nat := match sz with | 1 => i | _ => i * sz
theorem mulN_eq (i sz : Nat) : mulN i sz = i * sz := by unfold mulN; split <;> simp_all

/-- All cells. -/
def allC : List W → (List C → Prop) → Prop
  | [], K => K []
  | .c c :: ws, K => allC ws fun cs => K (c :: cs)
  | .agg _ :: _, _ => False
theorem allC_spec {n : Nat} : ∀ {ws : List W} {K : List C → Prop}, allC ws K → rngW ws → bndW n ws = true → ∃ l, K l ∧ C.rngL l ∧ C.bndL n l = true ∧ ∀ σ, ws.map (W.den σ) = C.denL σ l
  | [], K, h, _, _ => ⟨[], h, by simp only [C.rngL], by simp only [C.bndL], fun _ => by simp only [C.denL, List.map_nil]⟩
  | .c c :: ws, K, h, hr, hb => by
    simp only [bndW, Bool.and_eq_true] at hb
    obtain ⟨l, h1, h2, h3, h4⟩ := allC_spec (ws := ws) h hr.2 hb.2
    refine ⟨c :: l, h1, ?_, ?_, fun σ => ?_⟩
    · simp only [C.rngL]; exact ⟨hr.1, h2⟩
    · simp only [C.bndL, Bool.and_eq_true]; exact ⟨hb.1, h3⟩
    · simp only [C.denL, List.map_cons, h4 σ, W.den]
  | .agg _ :: _, _, h, _, _ => h.elim

/-- The address of a field, of an element. -/
def fieldC (c : C) (off : Nat) (K : C → Prop) : Prop :=
  match c with
  | .cp j o => K (.cp j (o + off))
  | .cg g o => K (.cg g (o + off))
  | _ => False
def elemC (c : C) (i : Nat) (K : C → Prop) : Prop :=
  match c with
  | .cp j o => K (.cpi j o i)
  | .cpi j o i₀ => K (.cpi j o (i₀ + i))
  | .cg g o => K (.cgi g o i)
  | .cgi g o i₀ => K (.cgi g o (i₀ + i))
  | _ => False

theorem fieldC_spec {n : Nat} {c : C} {off : Nat} {K : C → Prop} (h : fieldC c off K) (hb : c.bnd n = true) : ∃ c' : C, c'.rng ∧ c'.bnd n = true ∧ K c' ∧ (∀ σ, c.den σ = .pointer (some (Addr.of σ c))) ∧ (∀ σ, (Addr.of σ c).spot = none) ∧ ∀ σ, c'.den σ = .pointer (some ((Addr.of σ c).add off)) := by
  cases c with
  | cp j o => exact ⟨.cp j (o + off), trivial, hb, h, fun _ => rfl, fun _ => rfl, fun σ => by rw [add_ne rfl]; simp only [C.den, Addr.of, Sg.at, Nat.add_assoc]⟩
  | cg g o => exact ⟨.cg g (o + off), trivial, rfl, h, fun _ => rfl, fun _ => rfl, fun σ => by rw [add_ne rfl]; simp only [C.den, Addr.of]⟩
  | _ => exact h.elim
theorem elemC_spec {n : Nat} {c : C} {i : Nat} {K : C → Prop} (h : elemC c i K) (hb : c.bnd n = true) : ∃ c' : C, c'.rng ∧ c'.bnd n = true ∧ K c' ∧ (∀ σ, c.den σ = .pointer (some (Addr.of σ c))) ∧ ∀ σ, c'.den σ = .pointer (some ((Addr.of σ c).add i)) := by
  cases c with
  | cp j o => exact ⟨.cpi j o i, trivial, hb, h, fun _ => rfl, fun σ => by rw [add_ne rfl]; simp only [C.den, Addr.of, Sg.at, Nat.add_assoc]⟩
  | cpi j o i₀ => exact ⟨.cpi j o (i₀ + i), trivial, hb, h, fun _ => rfl, fun σ => by rw [add_ne rfl]; simp only [C.den, Addr.of, Sg.at, Nat.add_assoc]⟩
  | cg g o => exact ⟨.cgi g o i, trivial, rfl, h, fun _ => rfl, fun σ => by rw [add_ne rfl]; simp only [C.den, Addr.of]⟩
  | cgi g o i₀ => exact ⟨.cgi g o (i₀ + i), trivial, rfl, h, fun _ => rfl, fun σ => by rw [add_ne rfl]; simp only [C.den, Addr.of, Nat.add_assoc]⟩
  | _ => exact h.elim

def kIndexAt (P : Program) (t : TypeId) (c d : C) (K : C → Prop) : Prop :=
  match tyOf P t, c, d with
  | .slice e, .csl j o i₀ len _, .ci _ i => match P.info? e with
    | some inf => (0 ≤ i ∧ i < len) ∧ K (.cpi j o (i₀ + mulN i.toNat inf.size))
    | none => False
  | .arr n e, c, .ci _ i => match P.info? e with
    | some inf => (0 ≤ i ∧ i < n) ∧ elemC c (mulN i.toNat inf.size) K
    | none => False
  | _, _, _ => False
theorem kIndexAt_spec {P : Program} {t : TypeId} {c d : C} {K : C → Prop} (h : kIndexAt P t c d K) {n : Nat} (hb : c.bnd n = true) :
    ∃ c' : C, c'.rng ∧ c'.bnd n = true ∧ K c' ∧ ∀ σ w, (Instr.indexAt t (c.den σ) (d.den σ)).run P w = .ok (c'.den σ) w := by
  unfold kIndexAt at h
  split at h
  · rename_i e j o i₀ len cap k i ht
    split at h
    · rename_i inf hi
      refine ⟨.cpi j o (i₀ + mulN i.toNat inf.size), trivial, ?_, h.2, fun σ w => ?_⟩
      · exact hb
      · simp [C.den, Instr.indexAt, asIntOf, run_und w (tyOf_slice ht), run_sizeOf w hi, h.1, mulN_eq, Sg.at]
        rw [add_ne rfl]; simp only [Nat.add_assoc]
    · exact h.elim
  · rename_i m e k i ht
    split at h
    · rename_i inf hi
      obtain ⟨c', h1, h2, h3, h4, h5⟩ := elemC_spec h.2 hb
      refine ⟨c', h1, h2, h3, fun σ w => ?_⟩
      have e4 := h4 σ
      rw [h5 σ, e4]
      simp [C.den, Instr.indexAt, Instr.sureAddr, asIntOf, run_und w (tyOf_arr ht), run_sizeOf w hi, h.1, mulN_eq]
    · exact h.elim
  · exact h.elim

def kIndex (P : Program) (t : TypeId) (x : W) (d : C) (K : W → Prop) : Prop :=
  match tyOf P t, x, d with
  | .arr n e, .agg ss, .ci _ i => match P.info? e with
    | some inf => (0 ≤ i ∧ i < n) ∧ kLoad P e ss 0 (some (mulN i.toNat inf.size)) K
    | none => False
  | .str, .c (.cs s), .ci _ i => (0 ≤ i ∧ i < s.size) ∧ ∀ r : Int, r = (s.get! i.toNat).toNat → K (.c (.ci .u8 r))
  | _, _, _ => False
theorem kIndex_spec {P : Program} {t : TypeId} {x : W} {d : C} {K : W → Prop} (h : kIndex P t x d K) {n : Nat} (hr : x.rng) (hb : x.bnd n = true) :
    ∃ y : W, y.rng ∧ y.bnd n = true ∧ K y ∧ ∀ σ w, (Instr.index t (x.den σ) (d.den σ)).run P w = .ok (y.den σ) w := by
  unfold kIndex at h
  split at h
  · rename_i m e ss k i ht
    split at h
    · rename_i inf hi
      obtain ⟨y, h1, h2, h3, h4⟩ := kLoad_val h.2 hr hb
      refine ⟨y, h1, h2, h3, fun σ w => ?_⟩
      have := h4 σ w
      simp only [Option.getD_some, Nat.zero_add, mulN_eq] at this
      simp [W.den, C.den, Instr.index, asIntOf, run_und w (tyOf_arr ht), run_sizeOf w hi, h.1, this]
    · exact h.elim
  · rename_i s k i ht
    have hlt : i.toNat < s.size := by omega
    refine ⟨.c (.ci .u8 (s.get! i.toNat).toNat), ?_, rfl, h.2 _ rfl, fun σ w => ?_⟩
    · show InK .u8 _
      have := (s.get! i.toNat).toNat_lt
      simp only [InK, lowK, highK]
      omega
    · have e1 : s[i.toNat]? = some (s.get! i.toNat) := by
        rw [getElem?_pos s i.toNat hlt]
        congr 1
        cases s with
        | mk bs =>
          have hlt' : i.toNat < bs.size := hlt
          show bs[i.toNat] = bs[i.toNat]!
          rw [getElem!_pos bs i.toNat hlt']
      simp [W.den, C.den, Instr.index, asIntOf, run_und w (tyOf_str ht), h.1.1, e1]
  · exact h.elim

end Go.Proofs.YtaficaacogcblaaGreatDoor
