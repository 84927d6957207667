/- Composite literals, slices of memory, and the step of one operation as a whole. -/
import Derived.Test.YtaficaacogcblaaGreatDoorXf
set_option linter.all false
namespace Go.Proofs.YtaficaacogcblaaGreatDoor
open Go.RowKit (Below)
variable {Df : List Deferred}

theorem fold_splice (off : Nat) : ∀ (V : List Value) (s : Nat) (L : Array Value), off + s + V.length ≤ L.size →
    (V.zipIdx s).foldl (fun cs (p : Value × Nat) => cs.setIfInBounds (off + p.2) p.1) L = (L.toList.take (off + s) ++ V ++ L.toList.drop (off + s + V.length)).toArray
  | [], s, L, _ => by simp
  | v :: V, s, L, h => by
    simp only [List.length_cons] at h
    rw [List.zipIdx_cons, List.foldl_cons, fold_splice off V (s + 1) (L.setIfInBounds (off + s) v) (by simp; omega)]
    have e := list_seg_step L.toList (off + s) v V (by simp; omega)
    simp only [Array.toList_setIfInBounds, ← Nat.add_assoc] at e ⊢
    rw [e]
    simp [Nat.add_assoc]

theorem fill_step {place : Nat → Option (Nat × Nat)} {i off size : Nat} (hp : place i = some (off, size)) (v : Value) (V L : List Value) (hv : v.cells = V.toArray) (hs : V.length = size) (hl : off + size ≤ L.length) (rest : List (Nat × Value)) :
    Instr.fill place L.toArray ((i, v) :: rest) = Instr.fill place (L.take off ++ V ++ L.drop (off + size)).toArray rest := by
  have h1 : ¬ (v.cells.size ≠ size ∨ off + v.cells.size > L.toArray.size) := by rw [hv]; simp; omega
  have h2 := fold_splice off V 0 L.toArray (by simp; omega)
  simp only [Instr.fill, hp]
  rw [if_neg (by simpa using h1)]
  congr 1
  rw [hv, ← Array.foldl_toList]
  simp only [Array.toList_zipIdx]
  rw [h2]
  simp [hs]

/-- The parts of a literal, laid one behind the other. -/
def kFill (place : Nat → (Nat → Nat → Prop) → Prop) : List (Nat × W) → List Seg → (List Seg → Prop) → Prop
  | [], ss, K => K ss
  | (i, x) :: rest, ss, K => place i fun off size => match Nat.beq size (segsLen x.segs) with
    | true => segWr ss off x.segs fun r => kFill place rest r K
    | false => False

def rngP : List (Nat × W) → Prop
  | [] => True
  | p :: ps => p.2.rng ∧ rngP ps
def bndP (n : Nat) : List (Nat × W) → Bool
  | [] => true
  | p :: ps => p.2.bnd n && bndP n ps

theorem kFill_spec {place : Nat → (Nat → Nat → Prop) → Prop} {plc : Nat → Option (Nat × Nat)} (hp : ∀ i K, place i K → ∃ off size, plc i = some (off, size) ∧ K off size) {n : Nat} :
    ∀ {ps : List (Nat × W)} {ss : List Seg} {K : List Seg → Prop}, kFill place ps ss K → rngs ss → bnds n ss = true → rngP ps → bndP n ps = true →
      ∃ r, K r ∧ rngs r ∧ bnds n r = true ∧ segsLen r = segsLen ss ∧ ∀ σ, Instr.fill plc (dens σ ss).toArray (ps.map fun p => (p.1, p.2.den σ)) = some (dens σ r).toArray
  | [], ss, K, h, hr, hb, _, _ => ⟨ss, h, hr, hb, rfl, fun σ => rfl⟩
  | (i, x) :: ps, ss, K, h, hr, hb, hpr, hpb => by
    simp only [bndP, Bool.and_eq_true] at hpb
    obtain ⟨off, size, h1, h2⟩ := hp i _ h
    split at h2
    · rename_i hs
      have hs := Nat.eq_of_beq_eq_true hs
      obtain ⟨r, h3, s1, s2, s3, s4, s5⟩ := segWr_spec h2 hr (W.segs_rng hpr.1)
      obtain ⟨q, h4, h5, h6, h7, h8⟩ := kFill_spec hp h3 s1 (s2 n hb (W.segs_bnd hpb.1)) hpr.2 hpb.2
      refine ⟨q, h4, h5, h6, h7.trans s3, fun σ => ?_⟩
      rw [List.map_cons, fill_step h1 (x.den σ) (dens σ x.segs) (dens σ ss) (W.cells hpr.1) (by rw [dens_len σ (W.segs_rng hpr.1), hs]) (by rw [dens_len σ hr]; omega), ← h8 σ, s5 σ, hs]
    · exact h2.elim

/-- A struct's fields' places. -/
def placesK (P : Program) : List (Nat × TypeId) → (List (Nat × Nat) → Prop) → Prop
  | [], K => K []
  | (o, t) :: fs, K => match P.info? t with
    | some inf => placesK P fs fun r => K ((o, inf.size) :: r)
    | none => False
theorem placesK_spec {P : Program} : ∀ {F : List Field} {K : List (Nat × Nat) → Prop}, placesK P (F.map fun f => (f.offset, f.type)) K → ∃ pl, K pl ∧ ∀ w, (F.mapM fun f => (do pure (f.offset, ← sizeOf f.type) : Sem (Nat × Nat))).run P w = .ok pl w
  | [], K, h => ⟨[], h, fun w => rfl⟩
  | f :: F, K, h => by
    simp only [List.map_cons, placesK] at h
    split at h
    · rename_i inf hi
      obtain ⟨pl, h1, h2⟩ := placesK_spec h
      refine ⟨_, h1, fun w => ?_⟩
      rw [List.mapM_cons]
      simp only [Sem.run_bind, run_sizeOf w hi, Result.andThen_ok, h2 w, Sem.run_pure]
    · exact h.elim

def nthL {α : Type} : List α → Nat → (α → Prop) → Prop
  | [], _, _ => False
  | x :: _, 0, K => K x
  | _ :: xs, n + 1, K => nthL xs n K
theorem nthL_spec {α : Type} : ∀ {l : List α} {n : Nat} {K : α → Prop}, nthL l n K → ∃ x, l[n]? = some x ∧ K x
  | [], _, _, h => h.elim
  | x :: _, 0, _, h => ⟨x, rfl, h⟩
  | _ :: l, n + 1, _, h => by obtain ⟨x, h1, h2⟩ := nthL_spec (l := l) h; exact ⟨x, by simpa using h1, h2⟩

def kBuild (P : Program) (T : TypeId) (ps : List (Nat × W)) (K : List Seg → Prop) : Prop :=
  match tyOf P T with
  | .st fs => placesK P fs fun pl => zeroS P T fun ss => kFill (fun i K => nthL pl i fun p => K p.1 p.2) ps ss K
  | .arr _ e => match P.info? e with
    | some inf => zeroS P T fun ss => kFill (fun i K => K (i * inf.size) inf.size) ps ss K
    | none => False
  | _ => False

theorem kBuild_spec {P : Program} {T : TypeId} {ps : List (Nat × W)} {K : List Seg → Prop} (h : kBuild P T ps K) {n : Nat} (hr : rngP ps) (hb : bndP n ps = true) :
    ∃ ss, K ss ∧ rngs ss ∧ bnds n ss = true ∧ ∀ σ w, (Instr.build T (ps.map fun p => (p.1, p.2.den σ)).toArray).run P w = .ok (.agg (dens σ ss).toArray) w := by
  unfold kBuild at h
  split at h
  · rename_i fs ht
    obtain ⟨F, hF, rfl⟩ := tyOf_st ht
    obtain ⟨pl, h1, h2⟩ := placesK_spec h
    obtain ⟨inf, z, ss, k1, k2, k3, k4, k5, k6⟩ := zeroS_spec h1
    obtain ⟨r, q1, q2, q3, q4, q5⟩ := kFill_spec (plc := fun i => pl[i]?) (n := n) (fun i K hk => by obtain ⟨p, e1, e2⟩ := nthL_spec hk; exact ⟨p.1, p.2, e1, e2⟩) k3 k4 (bnds_mono (Nat.zero_le _) ss k5) hr hb
    refine ⟨r, q1, q2, q3, fun σ w => ?_⟩
    have hm : (F.mapM fun f => (do pure (f.offset, ← sizeOf f.type) : Sem (Nat × Nat))).run P w = .ok pl.toArray w := by
      rw [Array.mapM_eq_mapM_toList, Sem.run_map, h2 w]
      rfl
    have q5' := q5 σ
    simp only [Instr.build, Sem.run_bind, run_zero w k1 k2, Result.andThen_ok, run_und w hF, hm, k6 σ]
    have : (fun (x : Nat) => pl.toArray[x]?) = fun (i : Nat) => pl[i]? := by funext i; simp
    simp only [this, q5']
    simp
  · rename_i m e ht
    split at h
    · rename_i infe hi
      obtain ⟨inf, z, ss, k1, k2, k3, k4, k5, k6⟩ := zeroS_spec h
      obtain ⟨r, q1, q2, q3, q4, q5⟩ := kFill_spec (plc := fun i => some (i * infe.size, infe.size)) (n := n) (fun i K hk => ⟨_, _, rfl, hk⟩) k3 k4 (bnds_mono (Nat.zero_le _) ss k5) hr hb
      refine ⟨r, q1, q2, q3, fun σ w => ?_⟩
      have q5' := q5 σ
      simp only [Instr.build, Sem.run_bind, run_zero w k1 k2, Result.andThen_ok, run_und w (tyOf_arr ht), run_sizeOf w hi, k6 σ]
      simp only [q5']
      simp
    · exact h.elim
  · exact h.elim

/-- Parts as operands. -/
def evPs (fr : List V) : List (Nat × Operand) → (List (Nat × W) → Prop) → Prop
  | [], K => K []
  | (i, x) :: xs, K => evW fr x fun c => evPs fr xs fun cs => K ((i, c) :: cs)
theorem evPs_spec {n : Nat} {fr : List V} (hf : FOk n fr) : ∀ {xs : List (Nat × Operand)} {K : List (Nat × W) → Prop}, evPs fr xs K → ∃ cs : List (Nat × W), rngP cs ∧ bndP n cs = true ∧ K cs ∧ ∀ {Df : List Deferred} σ a, FRep Df σ a fr → (xs.map fun (i, x) => (i, a.eval x)) = cs.map fun p => (p.1, p.2.den σ)
  | [], K, h => ⟨[], trivial, rfl, h, fun _ _ _ => rfl⟩
  | (i, x) :: xs, K, h => by
    obtain ⟨c, h1, h2, h3, h4⟩ := evW_spec hf h
    obtain ⟨cs, k1, k2, k3, k4⟩ := evPs_spec hf h3
    refine ⟨(i, c) :: cs, ⟨h1, k1⟩, by simp only [bndP, h2, k2, Bool.and_self], k3, fun σ a hr => ?_⟩
    simp only [List.map_cons, h4 σ a hr, k4 σ a hr]

/-! ### slices -/
def natI (x : Int) : Nat := x.toNat

/-- Bounds of a slice expression: low, high, and how far it may go. -/
def bndsK (len cap : Nat) (lo hi mx : Option C) (K : Nat → Nat → Nat → Prop) : Prop :=
  let fin (m h : Nat) : Prop := match lo with
    | none => K 0 h m
    | some (.ci _ l) => (0 ≤ l ∧ l ≤ h) ∧ K (natI l) h m
    | _ => False
  match hi, mx with
  | none, none => fin cap len
  | some (.ci _ h), none => (0 ≤ h ∧ h ≤ cap) ∧ fin cap (natI h)
  | some (.ci _ h), some (.ci _ m) => (0 ≤ m ∧ m ≤ cap) ∧ (0 ≤ h ∧ h ≤ m) ∧ fin (natI m) (natI h)
  | _, _ => False

theorem run_sliceBound {P : Program} (w : World) {k : IntKind} {i : Int} {y : Nat} (h : 0 ≤ i ∧ i ≤ y) (code : BoundsCode) : (Instr.sliceBound (.int k i) y code).run P w = .ok i.toNat w := by
  simp [Instr.sliceBound, asIntOf, h]

theorem bndsK_spec {len cap : Nat} {lo hi mx : Option C} {K : Nat → Nat → Nat → Prop} (h : bndsK len cap lo hi mx K) (hlc : len ≤ cap) :
    ∃ l u m, K l u m ∧ l ≤ u ∧ u ≤ m ∧ m ≤ cap ∧ (mx = none → m = cap) ∧ ∀ P (σ : Sg) w b, (Instr.sliceBounds b len cap (lo.map (C.den σ)) (hi.map (C.den σ)) (mx.map (C.den σ))).run P w = .ok (l, u, m) w := by
  unfold bndsK at h
  simp only at h
  split at h
  · split at h
    · exact ⟨0, len, cap, h, Nat.zero_le _, hlc, Nat.le_refl _, fun _ => rfl, fun P σ w b => by simp [Instr.sliceBounds]⟩
    · rename_i k l
      refine ⟨natI l, len, cap, h.2, by unfold natI; omega, hlc, Nat.le_refl _, fun _ => rfl, fun P σ w b => ?_⟩
      simp [Instr.sliceBounds, C.den, run_sliceBound w h.1, natI]
    · exact h.elim
  · rename_i k u
    obtain ⟨hu, h⟩ := h
    have hu' : u.toNat ≤ cap := by omega
    split at h
    · refine ⟨0, natI u, cap, h, Nat.zero_le _, hu', Nat.le_refl _, fun _ => rfl, fun P σ w b => ?_⟩
      simp [Instr.sliceBounds, C.den, run_sliceBound w hu, natI]
    · rename_i k' l
      have hl : 0 ≤ l ∧ l ≤ ((u.toNat : Nat) : Int) := h.1
      refine ⟨natI l, natI u, cap, h.2, by unfold natI; omega, hu', Nat.le_refl _, fun _ => rfl, fun P σ w b => ?_⟩
      simp [Instr.sliceBounds, C.den, run_sliceBound w hu, run_sliceBound w hl, natI]
    · exact h.elim
  · rename_i k u k' m
    obtain ⟨hm, hu, h⟩ := h
    have hm' : m.toNat ≤ cap := by omega
    have hu' : 0 ≤ u ∧ u ≤ ((m.toNat : Nat) : Int) := by omega
    split at h
    · refine ⟨0, natI u, natI m, h, Nat.zero_le _, by unfold natI; omega, hm', fun e => by simp at e, fun P σ w b => ?_⟩
      simp [Instr.sliceBounds, C.den, run_sliceBound w hu', run_sliceBound w hm, natI]
    · rename_i k'' l
      have hl : 0 ≤ l ∧ l ≤ ((u.toNat : Nat) : Int) := h.1
      refine ⟨natI l, natI u, natI m, h.2, by unfold natI; omega, by unfold natI; omega, hm', fun e => by simp at e, fun P σ w b => ?_⟩
      simp [Instr.sliceBounds, C.den, run_sliceBound w hu', run_sliceBound w hm, run_sliceBound w hl, natI]
    · exact h.elim
  · exact h.elim

def kSlice (P : Program) (t : TypeId) (c : C) (lo hi mx : Option C) (K : C → Prop) : Prop :=
  match tyOf P t, c with
  | .str, .cs s => match mx with
    | none => bndsK s.size s.size lo hi none fun l u _ => K (.cs (s.extract l u))
    | some _ => False
  | .slice e, .csl j o i len cap => match P.info? e with
    | some inf => bndsK len cap lo hi mx fun l u m => l < m ∧ K (.csl j o (i + mulN l inf.size) (u - l) (m - l))
    | none => False
  | .slice e, .csn => match P.info? e with
    | some _ => bndsK 0 0 lo hi mx fun _ _ _ => K .csn
    | none => False
  | .arr n e, .cp j o => match P.info? e with
    | some inf => bndsK n n lo hi mx fun l u m => l < m ∧ m ≤ 9223372036854775807 ∧ K (.csl j o (mulN l inf.size) (u - l) (m - l))
    | none => False
  | _, _ => False

theorem kSlice_spec {P : Program} {t : TypeId} {c : C} {lo hi mx : Option C} {K : C → Prop} (h : kSlice P t c lo hi mx K) {n : Nat} (hr : c.rng) (hb : c.bnd n = true) :
    ∃ c' : C, c'.rng ∧ c'.bnd n = true ∧ K c' ∧ ∀ σ w, (Instr.sliceAt t (c.den σ) (lo.map (C.den σ)) (hi.map (C.den σ)) (mx.map (C.den σ))).run P w = .ok (c'.den σ) w := by
  unfold kSlice at h
  split at h
  · rename_i s ht
    split at h
    · obtain ⟨l, u, m, h1, h2, h3, h4, h5, h6⟩ := bndsK_spec h (Nat.le_refl _)
      refine ⟨.cs (s.extract l u), ?_, rfl, h1, fun σ w => ?_⟩
      · have : s.size ≤ 9223372036854775807 := hr
        show (s.extract l u).size ≤ _
        simp only [ByteArray.size_extract]; omega
      · have := h6 P σ w false
        simp only [Option.map_none] at this
        simp [C.den, Instr.sliceAt, Instr.slice, run_und w (tyOf_str ht), this]
    · exact h.elim
  · rename_i e j o i len cap ht
    split at h
    · rename_i inf hi'
      obtain ⟨l, u, m, h1, h2, h3, h4, h5, h6⟩ := bndsK_spec h hr.1
      refine ⟨.csl j o (i + mulN l inf.size) (u - l) (m - l), ⟨by omega, by have := hr.2; omega⟩, hb, h1.2, fun σ w => ?_⟩
      have := h6 P σ w true
      have hne : ¬ m = l := by omega
      simp [C.den, Instr.sliceAt, Instr.slice, run_und w (tyOf_slice ht), this, run_sizeOf w hi', hne, mulN_eq, Sg.at]
      rw [add_ne rfl]; simp only [Nat.add_assoc]
    · exact h.elim
  · rename_i e ht
    split at h
    · rename_i inf hi'
      obtain ⟨l, u, m, h1, h2, h3, h4, h5, h6⟩ := bndsK_spec h (Nat.le_refl _)
      obtain rfl : l = 0 := by omega
      obtain rfl : u = 0 := by omega
      obtain rfl : m = 0 := by omega
      refine ⟨.csn, trivial, rfl, h1, fun σ w => ?_⟩
      have := h6 P σ w true
      simp [C.den, Instr.sliceAt, Instr.slice, run_und w (tyOf_slice ht), this, run_sizeOf w hi']
    · exact h.elim
  · rename_i m' e j o ht
    split at h
    · rename_i inf hi'
      obtain ⟨l, u, m, h1, h2, h3, h4, h5, h6⟩ := bndsK_spec h (Nat.le_refl _)
      refine ⟨.csl j o (mulN l inf.size) (u - l) (m - l), ⟨by omega, by have := h1.2.1; omega⟩, hb, h1.2.2, fun σ w => ?_⟩
      have := h6 P σ w false
      have hne : ¬ m = l := by omega
      simp [C.den, Instr.sliceAt, Instr.sureAddr, run_und w (tyOf_arr ht), this, run_sizeOf w hi', hne, mulN_eq, Sg.at]
      rw [add_ne rfl]; simp only [Nat.add_assoc]
    · exact h.elim
  · exact h.elim

def evO (fr : List V) (x : Option Operand) (K : Option C → Prop) : Prop :=
  match x with
  | none => K none
  | some x => evC fr x fun c => K (some c)
theorem evO_spec {n : Nat} {fr : List V} (hf : FOk n fr) {x : Option Operand} {K : Option C → Prop} (h : evO fr x K) : ∃ c : Option C, K c ∧ ∀ {Df : List Deferred} σ a, FRep Df σ a fr → x.map a.eval = c.map (C.den σ) := by
  cases x with
  | none => exact ⟨none, h, fun _ _ _ => rfl⟩
  | some x =>
    obtain ⟨c, h1, h2, h3, h4⟩ := evC_spec hf h
    exact ⟨some c, h3, fun σ a hr => by simp only [Option.map_some, h4 σ a hr]⟩

end Go.Proofs.YtaficaacogcblaaGreatDoor
