/- Xg, Xsu, Xh, Xi, Xp, Xap: what the law wants of them. -/
import Derived.Test.YtaficaacogcblaaGreatDoorZa
import Derived.Lib.AppendStr
import Derived.Laws.BytesArg
import Derived.Laws.Pointers
import Derived.Laws.AppendOwn
import Derived.Laws.CopyRow
set_option linter.all false
namespace Go.Proofs.YtaficaacogcblaaGreatDoor
open Go.RowKit (Below)
variable {Df : List Deferred}
theorem fold_splice (off : Nat) : ∀ (V : List Value) (s : Nat) (L : Array Value), off + s + V.length ≤ L.size →
    (V.zipIdx s).foldl (fun cs (p : Value × Nat) => cs.setIfInBounds (off + p.2) p.1) L = (L.toList.take (off + s) ++ V ++ L.toList.drop (off + s + V.length)).toArray
  | [], s, L, _ => by simp
  | v :: V, s, L, h => by
    simp only [List.length_cons] at h
    rw [List.zipIdx_cons, List.foldl_cons, fold_splice off V (s + 1) (L.setIfInBounds (off + s) v) (by simp; omega)]
    have e := list_seg_step L.toList (off + s) v V (by simp; omega)
    simp only [Array.toList_setIfInBounds, ← Nat.add_assoc] at e ⊢
    rw [e]
    simp [Nat.add_assoc]
theorem fill_step {place : Nat → Option (Nat × Nat)} {i off size : Nat} (hp : place i = some (off, size)) (v : Value) (V L : List Value) (hv : v.cells = V.toArray) (hs : V.length = size) (hl : off + size ≤ L.length) (rest : List (Nat × Value)) :
    Instr.fill place L.toArray ((i, v) :: rest) = Instr.fill place (L.take off ++ V ++ L.drop (off + size)).toArray rest := by
  have h1 : ¬ (v.cells.size ≠ size ∨ off + v.cells.size > L.toArray.size) := by rw [hv]; simp; omega
  have h2 := fold_splice off V 0 L.toArray (by simp; omega)
  simp only [Instr.fill, hp]
  rw [if_neg (by simpa using h1)]
  congr 1
  rw [hv, ← Array.foldl_toList]
  simp only [Array.toList_zipIdx]
  rw [h2]
  simp [hs]
def kFill (place : Nat → (Nat → Nat → Prop) → Prop) : List (Nat × W) → List Seg → (List Seg → Prop) → Prop
  | [], ss, K => K ss
  | (i, x) :: rest, ss, K => place i fun off size => match Nat.beq size (segsLen x.segs) with
    | true => segWr ss off x.segs fun r => kFill place rest r K
    | false => False
def rngP : List (Nat × W) → Prop
  | [] => True
  | p :: ps => p.2.rng ∧ rngP ps
def bndP (n : Nat) : List (Nat × W) → Bool
  | [] => true
  | p :: ps => p.2.bnd n && bndP n ps
theorem kFill_spec {place : Nat → (Nat → Nat → Prop) → Prop} {plc : Nat → Option (Nat × Nat)} (hp : ∀ i K, place i K → ∃ off size, plc i = some (off, size) ∧ K off size) {n : Nat} :
    ∀ {ps : List (Nat × W)} {ss : List Seg} {K : List Seg → Prop}, kFill place ps ss K → rngs ss → bnds n ss = true → rngP ps → bndP n ps = true →
      ∃ r, K r ∧ rngs r ∧ bnds n r = true ∧ segsLen r = segsLen ss ∧ ∀ σ, Instr.fill plc (dens σ ss).toArray (ps.map fun p => (p.1, p.2.den σ)) = some (dens σ r).toArray
  | [], ss, K, h, hr, hb, _, _ => ⟨ss, h, hr, hb, rfl, fun σ => rfl⟩
  | (i, x) :: ps, ss, K, h, hr, hb, hpr, hpb => by
    simp only [bndP, Bool.and_eq_true] at hpb
    obtain ⟨off, size, h1, h2⟩ := hp i _ h
    split at h2
    · rename_i hs
      have hs := Nat.eq_of_beq_eq_true hs
      obtain ⟨r, h3, s1, s2, s3, s4, s5⟩ := segWr_spec h2 hr (W.segs_rng hpr.1)
      obtain ⟨q, h4, h5, h6, h7, h8⟩ := kFill_spec hp h3 s1 (s2 n hb (W.segs_bnd hpb.1)) hpr.2 hpb.2
      refine ⟨q, h4, h5, h6, h7.trans s3, fun σ => ?_⟩
      rw [List.map_cons, fill_step h1 (x.den σ) (dens σ x.segs) (dens σ ss) (W.cells hpr.1) (by rw [dens_len σ (W.segs_rng hpr.1), hs]) (by rw [dens_len σ hr]; omega), ← h8 σ, s5 σ, hs]
    · exact h2.elim
def placesK (P : Program) : List (Nat × TypeId) → (List (Nat × Nat) → Prop) → Prop
  | [], K => K []
  | (o, t) :: fs, K => match P.info? t with
    | some inf => placesK P fs fun r => K ((o, inf.size) :: r)
    | none => False
theorem placesK_spec {P : Program} : ∀ {F : List Field} {K : List (Nat × Nat) → Prop}, placesK P (F.map fun f => (f.offset, f.type)) K → ∃ pl, K pl ∧ ∀ w, (F.mapM fun f => (do pure (f.offset, ← sizeOf f.type) : Sem (Nat × Nat))).run P w = .ok pl w
  | [], K, h => ⟨[], h, fun w => rfl⟩
  | f :: F, K, h => by
    simp only [List.map_cons, placesK] at h
    split at h
    · rename_i inf hi
      obtain ⟨pl, h1, h2⟩ := placesK_spec h
      refine ⟨_, h1, fun w => ?_⟩
      rw [List.mapM_cons]
      simp only [Sem.run_bind, run_sizeOf w hi, Result.andThen_ok, h2 w, Sem.run_pure]
    · exact h.elim
def nthL {α : Type} : List α → Nat → (α → Prop) → Prop
  | [], _, _ => False
  | x :: _, 0, K => K x
  | _ :: xs, n + 1, K => nthL xs n K
theorem nthL_spec {α : Type} : ∀ {l : List α} {n : Nat} {K : α → Prop}, nthL l n K → ∃ x, l[n]? = some x ∧ K x
  | [], _, _, h => h.elim
  | x :: _, 0, _, h => ⟨x, rfl, h⟩
  | _ :: l, n + 1, _, h => by obtain ⟨x, h1, h2⟩ := nthL_spec (l := l) h; exact ⟨x, by simpa using h1, h2⟩
def kBuild (P : Program) (T : TypeId) (ps : List (Nat × W)) (K : List Seg → Prop) : Prop :=
  match tyOf P T with
  | .st fs => placesK P fs fun pl => zeroS P T fun ss => kFill (fun i K => nthL pl i fun p => K p.1 p.2) ps ss K
  | .arr _ e => match P.info? e with
    | some inf => zeroS P T fun ss => kFill (fun i K => K (i * inf.size) inf.size) ps ss K
    | none => False
  | _ => False
theorem kBuild_spec {P : Program} {T : TypeId} {ps : List (Nat × W)} {K : List Seg → Prop} (h : kBuild P T ps K) {n : Nat} (hr : rngP ps) (hb : bndP n ps = true) :
    ∃ ss, K ss ∧ rngs ss ∧ bnds n ss = true ∧ ∀ σ w, (Instr.build T (ps.map fun p => (p.1, p.2.den σ)).toArray).run P w = .ok (.agg (dens σ ss).toArray) w := by
  unfold kBuild at h
  split at h
  · rename_i fs ht
    obtain ⟨F, hF, rfl⟩ := tyOf_st ht
    obtain ⟨pl, h1, h2⟩ := placesK_spec h
    obtain ⟨inf, z, ss, k1, k2, k3, k4, k5, k6⟩ := zeroS_spec h1
    obtain ⟨r, q1, q2, q3, q4, q5⟩ := kFill_spec (plc := fun i => pl[i]?) (n := n) (fun i K hk => by obtain ⟨p, e1, e2⟩ := nthL_spec hk; exact ⟨p.1, p.2, e1, e2⟩) k3 k4 (bnds_mono (Nat.zero_le _) ss k5) hr hb
    refine ⟨r, q1, q2, q3, fun σ w => ?_⟩
    have hm : (F.mapM fun f => (do pure (f.offset, ← sizeOf f.type) : Sem (Nat × Nat))).run P w = .ok pl.toArray w := by
      rw [Array.mapM_eq_mapM_toList, Sem.run_map, h2 w]
      rfl
    have q5' := q5 σ
    simp only [Instr.build, Sem.run_bind, run_zero w k1 k2, Result.andThen_ok, run_und w hF, hm, k6 σ]
    have : (fun (x : Nat) => pl.toArray[x]?) = fun (i : Nat) => pl[i]? := by funext i; simp
    simp only [this, q5']
    simp
  · rename_i m e ht
    split at h
    · rename_i infe hi
      obtain ⟨inf, z, ss, k1, k2, k3, k4, k5, k6⟩ := zeroS_spec h
      obtain ⟨r, q1, q2, q3, q4, q5⟩ := kFill_spec (plc := fun i => some (i * infe.size, infe.size)) (n := n) (fun i K hk => ⟨_, _, rfl, hk⟩) k3 k4 (bnds_mono (Nat.zero_le _) ss k5) hr hb
      refine ⟨r, q1, q2, q3, fun σ w => ?_⟩
      have q5' := q5 σ
      simp only [Instr.build, Sem.run_bind, run_zero w k1 k2, Result.andThen_ok, run_und w (tyOf_arr ht), run_sizeOf w hi, k6 σ]
      simp only [q5']
      simp
    · exact h.elim
  · exact h.elim
def evPs (fr : List V) : List (Nat × Operand) → (List (Nat × W) → Prop) → Prop
  | [], K => K []
  | (i, x) :: xs, K => evW fr x fun c => evPs fr xs fun cs => K ((i, c) :: cs)
theorem evPs_spec {n : Nat} {fr : List V} (hf : FOk n fr) : ∀ {xs : List (Nat × Operand)} {K : List (Nat × W) → Prop}, evPs fr xs K → ∃ cs : List (Nat × W), rngP cs ∧ bndP n cs = true ∧ K cs ∧ ∀ {Df : List Deferred} σ a, FRep Df σ a fr → (xs.map fun (i, x) => (i, a.eval x)) = cs.map fun p => (p.1, p.2.den σ)
  | [], K, h => ⟨[], trivial, rfl, h, fun _ _ _ => rfl⟩
  | (i, x) :: xs, K, h => by
    obtain ⟨c, h1, h2, h3, h4⟩ := evW_spec hf h
    obtain ⟨cs, k1, k2, k3, k4⟩ := evPs_spec hf h3
    refine ⟨(i, c) :: cs, ⟨h1, k1⟩, by simp only [bndP, h2, k2, Bool.and_self], k3, fun σ a hr => ?_⟩
    simp only [List.map_cons, h4 σ a hr, k4 σ a hr]
def natI (x : Int) : Nat := x.toNat
def bndsK (len cap : Nat) (lo hi mx : Option C) (K : Nat → Nat → Nat → Prop) : Prop :=
  let fin (m h : Nat) : Prop := match lo with
    | none => K 0 h m
    | some (.ci _ l) => (0 ≤ l ∧ l ≤ h) ∧ K (natI l) h m
    | _ => False
  match hi, mx with
  | none, none => fin cap len
  | some (.ci _ h), none => (0 ≤ h ∧ h ≤ cap) ∧ fin cap (natI h)
  | some (.ci _ h), some (.ci _ m) => (0 ≤ m ∧ m ≤ cap) ∧ (0 ≤ h ∧ h ≤ m) ∧ fin (natI m) (natI h)
  | _, _ => False
theorem run_sliceBound {P : Program} (w : World) {k : IntKind} {i : Int} {y : Nat} (h : 0 ≤ i ∧ i ≤ y) (code : BoundsCode) : (Instr.sliceBound (.int k i) y code).run P w = .ok i.toNat w := by
  simp [Instr.sliceBound, asIntOf, h]
theorem bndsK_spec {len cap : Nat} {lo hi mx : Option C} {K : Nat → Nat → Nat → Prop} (h : bndsK len cap lo hi mx K) (hlc : len ≤ cap) :
    ∃ l u m, K l u m ∧ l ≤ u ∧ u ≤ m ∧ m ≤ cap ∧ (mx = none → m = cap) ∧ ∀ P (σ : Sg) w b, (Instr.sliceBounds b len cap (lo.map (C.den σ)) (hi.map (C.den σ)) (mx.map (C.den σ))).run P w = .ok (l, u, m) w := by
  unfold bndsK at h
  simp only at h
  split at h
  · split at h
    · exact ⟨0, len, cap, h, Nat.zero_le _, hlc, Nat.le_refl _, fun _ => rfl, fun P σ w b => by simp [Instr.sliceBounds]⟩
    · rename_i k l
      refine ⟨natI l, len, cap, h.2, by unfold natI; omega, hlc, Nat.le_refl _, fun _ => rfl, fun P σ w b => ?_⟩
      simp [Instr.sliceBounds, C.den, run_sliceBound w h.1, natI]
    · exact h.elim
  · rename_i k u
    obtain ⟨hu, h⟩ := h
    have hu' : u.toNat ≤ cap := by omega
    split at h
    · refine ⟨0, natI u, cap, h, Nat.zero_le _, hu', Nat.le_refl _, fun _ => rfl, fun P σ w b => ?_⟩
      simp [Instr.sliceBounds, C.den, run_sliceBound w hu, natI]
    · rename_i k' l
      have hl : 0 ≤ l ∧ l ≤ ((u.toNat : Nat) : Int) := h.1
      refine ⟨natI l, natI u, cap, h.2, by unfold natI; omega, hu', Nat.le_refl _, fun _ => rfl, fun P σ w b => ?_⟩
      simp [Instr.sliceBounds, C.den, run_sliceBound w hu, run_sliceBound w hl, natI]
    · exact h.elim
  · rename_i k u k' m
    obtain ⟨hm, hu, h⟩ := h
    have hm' : m.toNat ≤ cap := by omega
    have hu' : 0 ≤ u ∧ u ≤ ((m.toNat : Nat) : Int) := by omega
    split at h
    · refine ⟨0, natI u, natI m, h, Nat.zero_le _, by unfold natI; omega, hm', fun e => by simp at e, fun P σ w b => ?_⟩
      simp [Instr.sliceBounds, C.den, run_sliceBound w hu', run_sliceBound w hm, natI]
    · rename_i k'' l
      have hl : 0 ≤ l ∧ l ≤ ((u.toNat : Nat) : Int) := h.1
      refine ⟨natI l, natI u, natI m, h.2, by unfold natI; omega, by unfold natI; omega, hm', fun e => by simp at e, fun P σ w b => ?_⟩
      simp [Instr.sliceBounds, C.den, run_sliceBound w hu', run_sliceBound w hm, run_sliceBound w hl, natI]
    · exact h.elim
  · exact h.elim
def kSlice (P : Program) (t : TypeId) (c : C) (lo hi mx : Option C) (K : C → Prop) : Prop :=
  match tyOf P t, c with
  | .str, .cs s => match mx with
    | none => bndsK s.size s.size lo hi none fun l u _ => K (.cs (s.extract l u))
    | some _ => False
  | .slice e, .csl j o i len cap => match P.info? e with
    | some inf => bndsK len cap lo hi mx fun l u m => l < m ∧ K (.csl j o (i + mulN l inf.size) (u - l) (m - l))
    | none => False
  | .slice e, .csn => match P.info? e with
    | some _ => bndsK 0 0 lo hi mx fun _ _ _ => K .csn
    | none => False
  | .arr n e, .cp j o => match P.info? e with
    | some inf => bndsK n n lo hi mx fun l u m => l < m ∧ m ≤ 9223372036854775807 ∧ K (.csl j o (mulN l inf.size) (u - l) (m - l))
    | none => False
  | _, _ => False
theorem kSlice_spec {P : Program} {t : TypeId} {c : C} {lo hi mx : Option C} {K : C → Prop} (h : kSlice P t c lo hi mx K) {n : Nat} (hr : c.rng) (hb : c.bnd n = true) :
    ∃ c' : C, c'.rng ∧ c'.bnd n = true ∧ K c' ∧ ∀ σ w, (Instr.sliceAt t (c.den σ) (lo.map (C.den σ)) (hi.map (C.den σ)) (mx.map (C.den σ))).run P w = .ok (c'.den σ) w := by
  unfold kSlice at h
  split at h
  · rename_i s ht
    split at h
    · obtain ⟨l, u, m, h1, h2, h3, h4, h5, h6⟩ := bndsK_spec h (Nat.le_refl _)
      refine ⟨.cs (s.extract l u), ?_, rfl, h1, fun σ w => ?_⟩
      · have : s.size ≤ 9223372036854775807 := hr
        show (s.extract l u).size ≤ _
        simp only [ByteArray.size_extract]; omega
      · have := h6 P σ w false
        simp only [Option.map_none] at this
        simp [C.den, Instr.sliceAt, Instr.slice, run_und w (tyOf_str ht), this]
    · exact h.elim
  · rename_i e j o i len cap ht
    split at h
    · rename_i inf hi'
      obtain ⟨l, u, m, h1, h2, h3, h4, h5, h6⟩ := bndsK_spec h hr.1
      refine ⟨.csl j o (i + mulN l inf.size) (u - l) (m - l), ⟨by omega, by have := hr.2; omega⟩, hb, h1.2, fun σ w => ?_⟩
      have := h6 P σ w true
      have hne : ¬ m = l := by omega
      simp [C.den, Instr.sliceAt, Instr.slice, run_und w (tyOf_slice ht), this, run_sizeOf w hi', hne, mulN_eq, Sg.at]
      rw [add_ne rfl]; simp only [Nat.add_assoc]
    · exact h.elim
  · rename_i e ht
    split at h
    · rename_i inf hi'
      obtain ⟨l, u, m, h1, h2, h3, h4, h5, h6⟩ := bndsK_spec h (Nat.le_refl _)
      obtain rfl : l = 0 := by omega
      obtain rfl : u = 0 := by omega
      obtain rfl : m = 0 := by omega
      refine ⟨.csn, trivial, rfl, h1, fun σ w => ?_⟩
      have := h6 P σ w true
      simp [C.den, Instr.sliceAt, Instr.slice, run_und w (tyOf_slice ht), this, run_sizeOf w hi']
    · exact h.elim
  · rename_i m' e j o ht
    split at h
    · rename_i inf hi'
      obtain ⟨l, u, m, h1, h2, h3, h4, h5, h6⟩ := bndsK_spec h (Nat.le_refl _)
      refine ⟨.csl j o (mulN l inf.size) (u - l) (m - l), ⟨by omega, by have := h1.2.1; omega⟩, hb, h1.2.2, fun σ w => ?_⟩
      have := h6 P σ w false
      have hne : ¬ m = l := by omega
      simp [C.den, Instr.sliceAt, Instr.sureAddr, run_und w (tyOf_arr ht), this, run_sizeOf w hi', hne, mulN_eq, Sg.at]
      rw [add_ne rfl]; simp only [Nat.add_assoc]
    · exact h.elim
  · exact h.elim
def evO (fr : List V) (x : Option Operand) (K : Option C → Prop) : Prop :=
  match x with
  | none => K none
  | some x => evC fr x fun c => K (some c)
theorem evO_spec {n : Nat} {fr : List V} (hf : FOk n fr) {x : Option Operand} {K : Option C → Prop} (h : evO fr x K) : ∃ c : Option C, K c ∧ ∀ {Df : List Deferred} σ a, FRep Df σ a fr → x.map a.eval = c.map (C.den σ) := by
  cases x with
  | none => exact ⟨none, h, fun _ _ _ => rfl⟩
  | some x =>
    obtain ⟨c, h1, h2, h3, h4⟩ := evC_spec hf h
    exact ⟨some c, h3, fun σ a hr => by simp only [Option.map_some, h4 σ a hr]⟩
end Go.Proofs.YtaficaacogcblaaGreatDoor
set_option linter.all false
namespace Go.Proofs.YtaficaacogcblaaGreatDoor
open Go.RowKit (Below)
def bytesI (s : ByteArray) : List Int := s.data.toList.map fun b => (b.toNat : Int)
theorem bytesI_len (s : ByteArray) : (bytesI s).length = s.size := by
  rw [bytesI, List.length_map, Array.length_toList]; rfl
theorem bytesI_in (s : ByteArray) : ∀ y ∈ bytesI s, InK .u8 y := by
  intro y hy
  obtain ⟨b, _, rfl⟩ := List.mem_map.1 hy
  have := b.toNat_lt
  simp only [InK, lowK, highK]; omega
theorem strCells_eq (s : ByteArray) : Lib.strCells s = (bytesI s).map (Value.int .u8) := by
  simp [Lib.strCells, bytesI]
theorem bytesI_str {xs : List Int} (h : ∀ x ∈ xs, InK .u8 x) : bytesI (strOfNums xs) = xs := by
  simp only [bytesI, strOfNums_data, List.map_map]
  conv => rhs; rw [← List.map_id xs]
  refine List.map_congr_left fun x hx => ?_
  have := h x hx
  simp only [InK, lowK, highK] at this
  have hx' : (UInt8.ofNat x.toNat).toNat = x.toNat := by
    rw [UInt8.toNat_ofNat']; omega
  simp only [Function.comp_apply, hx', id]
  omega
theorem str_bytesI (s : ByteArray) : strOfNums (bytesI s) = s := by
  cases s with
  | mk d =>
    simp only [strOfNums, bytesI, List.map_map]
    congr 1
    apply Array.ext'
    rw [List.toList_toArray]
    conv => rhs; rw [← List.map_id d.toList]
    refine List.map_congr_left fun b _ => ?_
    simp
theorem str_append (xs ys : List Int) : strOfNums xs ++ strOfNums ys = strOfNums (xs ++ ys) := by
  apply ByteArray.ext
  simp [strOfNums, ByteArray.data_append]
def newsK (H : List Blk) (k : IntKind) (x : C) (K : Nat → List Int → Prop) : Prop :=
  match x with
  | .csl j o i len _ => match o with
    | 0 => hGet H j fun b => match b with
      | .own _ [.ints k' n xs] => match sameK k k' with
        | true => i + len ≤ n ∧ K len ((xs.drop i).take len)
        | false => False
      | .ro [.ints k' n xs] => match sameK k k' with
        | true => i + len ≤ n ∧ K len ((xs.drop i).take len)
        | false => False
      | _ => False
    | _ + 1 => False
  | _ => False
theorem newsK_spec {H : List Blk} {k : IntKind} {x : C} {K : Nat → List Int → Prop} (h : newsK H k x K) (ho : HOk H) : ∃ m ys, K m ys ∧ ys.length = m ∧ (∀ y ∈ ys, InK k y) ∧
    ∀ G σ base w₀ w, Rep G σ base w₀ w H → ∃ a c, x.den σ = .slice (some a) m c ∧ ∀ (j : Nat) (u : Value), (ys.map (Value.int k))[j]? = some u → w.cell? (a.add j) = some u := by
  unfold newsK at h
  split at h
  · rename_i j o i len cap
    split at h
    · obtain ⟨b, hb, h⟩ := hGet_spec h
      have main : ∀ (k' : IntKind) (n : Nat) (xs : List Int), ((∃ T, H[j]? = some (.own T [.ints k' n xs])) ∨ H[j]? = some (.ro [.ints k' n xs])) → sameK k k' = true → i + len ≤ n → K len ((xs.drop i).take len) → rngs [.ints k' n xs] → ∃ m ys, K m ys ∧ ys.length = m ∧ (∀ y ∈ ys, InK k y) ∧
    ∀ G σ base w₀ w, Rep G σ base w₀ w H → ∃ a c, (C.csl j 0 i len cap).den σ = .slice (some a) m c ∧ ∀ (j : Nat) (u : Value), (ys.map (Value.int k))[j]? = some u → w.cell? (a.add j) = some u := fun k' n xs hj hk hn hK hr => by
        obtain rfl := sameK_eq hk
        have hl : xs.length = n := hr.1.1
        refine ⟨len, (xs.drop i).take len, hK, by simp; omega, fun y hy => hr.1.2 y (List.mem_of_mem_drop (List.mem_of_mem_take hy)), fun G σ base w₀ w hw => ⟨_, _, rfl, fun q u hu => ?_⟩⟩
        have hrd := (rep_reads hw hj 0).cell (i + q) u (by
          have hq : q < len := by have := (List.getElem?_eq_some_iff.1 hu).1; simp at this; omega
          simp only [List.map_take, List.map_drop] at hu
          rw [List.getElem?_take_of_lt hq, List.getElem?_drop] at hu
          simpa [dens, Seg.den] using hu)
        rw [add_ne rfl]
        simpa [Sg.at, Nat.add_assoc] using hrd
      have hrng := ho.rng _ (List.mem_of_getElem? hb)
      split at h
      · split at h
        · rename_i hk; exact main _ _ _ (.inl ⟨_, hb⟩) hk h.1 h.2 hrng
        · exact h.elim
      · split at h
        · rename_i hk; exact main _ _ _ (.inr hb) hk h.1 h.2 hrng
        · exact h.elim
      · exact h.elim
    · exact h.elim
  · exact h.elim
def kStr (P : Program) (s d : TypeId) (H : List Blk) (x : C) (K : C → Prop) : Prop :=
  match tyOf P d, tyOf P s with
  | .str, .slice e => match tyOf P e with
    | .int .u8 => match x with
      | .csn => K (.cs ByteArray.empty)
      | x => newsK H .u8 x fun m ys => m ≤ 9223372036854775807 ∧ K (.cs (strOfNums ys))
    | _ => False
  | _, _ => False
theorem kStr_spec {P : Program} {G : Glo} {s d : TypeId} {H : List Blk} {x : C} {K : C → Prop} (h : kStr P s d H x K) (ho : HOk H) :
    ∃ c : C, c.rng ∧ c.bnd 0 = true ∧ K c ∧ ∀ σ base w₀ w, Rep G σ base w₀ w H → (convert s d (x.den σ)).run P w = .ok (c.den σ) w := by
  unfold kStr at h
  split at h
  · rename_i e hd hs
    have hd' := tyOf_str hd
    have hs' := tyOf_slice hs
    split at h
    · rename_i he
      have he' := tyOf_int he
      split at h
      · exact ⟨.cs ByteArray.empty, Nat.zero_le _, rfl, h, fun σ base w₀ w hw => by simp only [C.den]; exact run_convert_bytes_nil w s e hs' he' 0 0 d hd'⟩
      · obtain ⟨m, ys, ⟨hm, h⟩, hl, hy, hx⟩ := newsK_spec h ho
        refine ⟨.cs (strOfNums ys), ?_, rfl, h, fun σ base w₀ w hw => ?_⟩
        · show (strOfNums ys).size ≤ _
          rw [strOfNums_size, hl]; exact hm
        · obtain ⟨a, c, hxd, hnews⟩ := hx G σ base w₀ w hw
          have hload : (loadCells a m).run P w = .ok (ys.map (Value.int .u8)).toArray w := by
            have := run_loadCells_list (P := P) w a (ys.map (Value.int .u8)) hnews
            simpa [hl] using this
          rw [hxd, run_convert_bytes_string w s d e _ m c hs' he' hd', run_bytesToString w a m c ys hload, foldl_push_bytes]
          simp [strOfNums, ByteArray.empty, ByteArray.emptyWithCapacity, C.den]
          rfl
    · exact h.elim
  · exact h.elim
end Go.Proofs.YtaficaacogcblaaGreatDoor
set_option linter.all false
namespace Go.Proofs.YtaficaacogcblaaGreatDoor
open Go.RowKit (Below)
variable {Df : List Deferred}
def ptrT (P : Program) (t : TypeId) : Bool := match P.underlying t with
  | some (.pointer _) => true
  | _ => false
theorem ptrT_spec {P : Program} {t : TypeId} (h : ptrT P t = true) : P.underlying t = some (.pointer (P.pointee t)) := by
  unfold ptrT at h
  split at h
  · rename_i e he
    rw [he]
    simp only [Program.pointee, he]
  · cases h
def xpure (P : Program) (E : Env) (o : Oper) (fr : List V) (H : List Blk) (K : V → Prop) : Prop :=
  match o.op with
  | .move x => evK fr x K
  | .assign x => evK fr x K
  | .pick c a b => evC fr c fun vc => match vc with
    | .cb t => match t with
      | true => evK fr a K
      | false => evK fr b K
    | _ => False
  | .load t a => evC fr a fun c => lookA E.G H c fun ss o i => kLoad P t ss o i fun x => K (.w x)
  | .nilCheck x => evC fr x fun c => match c with
    | .cp j o => K (.w (.c (.cp j o)))
    | .cpi j o i => K (.w (.c (.cpi j o i)))
    | .cg g o => K (.w (.c (.cg g o)))
    | .cf f cs => K (.w (.c (.cf f cs)))
    | .cmv f j o => K (.w (.c (.cmv f j o)))
    | _ => False
  | .binOp op t x y _ => evW fr x fun a => evW fr y fun b => match a, b with
    | .c (.cb a), .c (.cb b) => match op, tyOf P t with
      | .eql, .bool => ∀ τ, τ = decide (a = b) → K (.w (.c (.cb τ)))
      | .neq, .bool => ∀ τ, τ = decide (a ≠ b) → K (.w (.c (.cb τ)))
      | _, _ => False
    | .c (.cp _ _), .c .cnil => match op, ptrT P t with
      | .eql, true => K (.w (.c (.cb false)))
      | .neq, true => K (.w (.c (.cb true)))
      | _, _ => False
    | .c a, .c b => kBin op a b fun c => K (.w (.c c))
    | .agg a, .agg b => match op with
      | .eql => kEq E.EQ false t a b fun c => K (.w (.c c))
      | .neq => kEq E.EQ true t a b fun c => K (.w (.c c))
      | _ => False
    | _, _ => False
  | .unOp op _ x => evC fr x fun c => kUn op c fun c => K (.w (.c c))
  | .convert s d x => evC fr x fun c => match tyOf P d with
    | .str => kStr P s d H c fun c => K (.w (.c c))
    | _ => kConv P s d c fun c => K (.w (.c c))
  | .makeFunc (.func f) first caps => match first.toList with
    | [] => evWs fr caps.toList fun ws => allC ws fun cs => K (.w (.c (.cf f cs)))
    | [x] => match caps.toList with
      | [] => evC fr x fun c => match c with
        | .cp j o => K (.w (.c (.cmv f j o)))
        | _ => False
      | _ => False
    | _ => False
  | .fieldAddr s x f => evC fr x fun c => match tyOf P s with
    | .st fs => nthP fs f fun off ft => match P.info? ft with
      | some inf => match inf.size with
        | 0 => False
        | _ + 1 => fieldC c off fun c => K (.w (.c c))
      | none => False
    | _ => False
  | .field s x f => evW fr x fun x => match tyOf P s, x with
    | .st fs, .agg ss => nthP fs f fun off ft => kLoad P ft ss off none fun x => K (.w x)
    | _, _ => False
  | .indexAddr t x i => evC fr x fun c => evC fr i fun d => kIndexAt P t c d fun c => K (.w (.c c))
  | .index t x i => evW fr x fun x => evC fr i fun d => kIndex P t x d fun x => K (.w x)
  | .extract x i => evK fr x fun v => match v with
    | .tup ws => nthW ws i fun w => K (.w w)
    | _ => False
  | .slice t x lo hi mx => evC fr x fun c => evO fr lo fun lo => evO fr hi fun hi => evO fr mx fun mx => kSlice P t c lo hi mx fun c => K (.w (.c c))
  | .sliceToArrayPointer t x => evC fr x fun c => match tyOf P t, c with
    | .arr n _, .csl j o i len _ => n ≤ len ∧ K (.w (.c (.cpi j o i)))
    | _, _ => False
  | .build t ps => evPs fr ps.toList fun ps => kBuild P t ps fun ss => K (.w (.agg ss))
  | .typeAssert x _ t ok => evC fr x fun c => match ok, tyOf P t, c with
    | false, .int k, .cv (.iface t' (.int k' n)) => (t' = t ∧ k' = k ∧ InK k n) ∧ K (.w (.c (.ci k n)))
    | _, _, _ => False
  | .call c => match c.callee with
    | .builtin .len => match c.args.toList, c.argTypes.toList with
      | [x], t :: _ => evW fr x fun x => match tyOf P t, x with
        | .str, .c (.cs s) => K (.w (.c (.ci .i64 s.size)))
        | .slice _, .c (.csl _ _ _ len _) => K (.w (.c (.ci .i64 len)))
        | .slice _, .c .csn => K (.w (.c (.ci .i64 (0 : Nat))))
        | .arr n _, _ => n ≤ 9223372036854775807 ∧ K (.w (.c (.ci .i64 n)))
        | _, _ => False
      | _, _ => False
    | .builtin .cap => match c.args.toList, c.argTypes.toList with
      | [x], t :: _ => evW fr x fun x => match tyOf P t, x with
        | .slice _, .c (.csl _ _ _ _ cap) => K (.w (.c (.ci .i64 cap)))
        | .slice _, .c .csn => K (.w (.c (.ci .i64 (0 : Nat))))
        | _, _ => False
      | _, _ => False
    | .builtin .max => match c.args.toList with
      | [x, y] => evC fr x fun a => evC fr y fun b => match a, b with
        | .ci k a, .ci k' b => match sameK k k' with
          | true => K (.w (.c (.ci k (max a b))))
          | false => False
        | _, _ => False
      | [x, y, z] => evC fr x fun a => evC fr y fun b => evC fr z fun c => match a, b, c with
        | .ci k a, .ci k' b, .ci k'' c => match sameK k k', sameK k k'' with
          | true, true => K (.w (.c (.ci k (max (max a b) c))))
          | _, _ => False
        | _, _, _ => False
      | _ => False
    | .builtin .min => match c.args.toList with
      | [x, y] => evC fr x fun a => evC fr y fun b => match a, b with
        | .ci k a, .ci k' b => match sameK k k' with
          | true => K (.w (.c (.ci k (min a b))))
          | false => False
        | _, _ => False
      | _ => False
    | _ => False
  | _ => False
theorem max_cond (a b : Int) : (if b > a then b else a) = max a b := by omega
theorem min_cond (a b : Int) : (if b < a then b else a) = min a b := by omega
theorem toList_toArray_map {α β : Type} (xs : Array α) (f : α → β) (l : List β) (h : xs.toList.map f = l) : xs.map f = l.toArray := by
  subst h; cases xs; simp
theorem max_in {k : IntKind} {a b : Int} (ha : InK k a) (hb : InK k b) : InK k (max a b) := by unfold InK at *; omega
theorem min_in {k : IntKind} {a b : Int} (ha : InK k a) (hb : InK k b) : InK k (min a b) := by unfold InK at *; omega
theorem tyOf_bool {P : Program} {t : TypeId} (h : tyOf P t = .bool) : P.underlying t = some .bool := by
  unfold tyOf at h
  cases hu : P.underlying t with
  | none => rw [hu] at h; cases h
  | some d => rw [hu] at h; cases d <;> simp [tyD] at h; rfl
theorem run_eqBool {P : Program} {t : TypeId} (h : P.underlying t = some .bool) (a b : Bool) (w : World) : (Op.equal t (.bool a) (.bool b)).run P w = .ok (decide (a = b)) w := by
  show (Op.equalIn (9999 + 1) t (.bool a) (.bool b)).run P w = _
  rw [Op.equalIn]
  simp only [Sem.run_bind, run_und w h, Result.andThen_ok, Sem.run_pure]
  cases a <;> cases b <;> rfl
set_option maxHeartbeats 1600000 in
theorem xpure_spec {P : Program} {E : Env} (hE : EnvOk P E) {o : Oper} {fr : List V} {H : List Blk} {K : V → Prop} (h : xpure P E o fr H K) (hf : FOk H.length fr) (ho : HOk H) :
    ∃ x : V, x.ok H.length ∧ K x ∧ ∀ {Df : List Deferred} σ a base w₀ w, FRep Df σ a fr → Rep E.G σ base w₀ w H → ∃ v, x.rep σ v ∧ (execOp a.eval o).run P w = .ok (.value v) w := by
  obtain ⟨dst, op, ty, pos, after, guard⟩ := o
  cases op <;> simp only [xpure] at h <;> try exact h.elim
  case move x =>
    obtain ⟨v, h1, h2, h3⟩ := evK_spec hf h
    exact ⟨v, h1, h2, fun σ a base w₀ w hr _ => ⟨_, h3 σ a hr, by simp [execOp]⟩⟩
  case assign x =>
    obtain ⟨v, h1, h2, h3⟩ := evK_spec hf h
    exact ⟨v, h1, h2, fun σ a base w₀ w hr _ => ⟨_, h3 σ a hr, by simp [execOp]⟩⟩
  case pick c x y =>
    obtain ⟨vc, c1, c2, h, c4⟩ := evC_spec hf h
    split at h
    · split at h
      · obtain ⟨v, h1, h2, h3⟩ := evK_spec hf h
        exact ⟨v, h1, h2, fun σ a base w₀ w hr _ => ⟨_, h3 σ a hr, by simp [execOp, c4 σ a hr, C.den, asBool]⟩⟩
      · obtain ⟨v, h1, h2, h3⟩ := evK_spec hf h
        exact ⟨v, h1, h2, fun σ a base w₀ w hr _ => ⟨_, h3 σ a hr, by simp [execOp, c4 σ a hr, C.den, asBool]⟩⟩
    · exact h.elim
  case load t x =>
    obtain ⟨c, c1, c2, h, c4⟩ := evC_spec hf h
    obtain ⟨ss, o, i, h, h2, h3, h4, h5⟩ := lookA_spec hE.glo ho h
    obtain ⟨y, y1, y2, y3, y4⟩ := kLoad_spec h h2 h3
    exact ⟨.w y, ⟨y1, y2⟩, y3, fun σ a base w₀ w hr hw => ⟨_, rfl, by simp [execOp, c4 σ a hr, h4 σ, Instr.loadAt, Instr.sureAddr, y4 σ w _ (h5 σ base w₀ w hw)]⟩⟩
  case nilCheck x =>
    obtain ⟨c, c1, c2, h, c4⟩ := evC_spec hf h
    split at h
    · rename_i j o
      exact ⟨.w (.c (.cp j o)), ⟨c1, c2⟩, h, fun σ a base w₀ w hr hw => ⟨_, rfl, by simp [execOp, c4 σ a hr, C.den, W.den]⟩⟩
    · rename_i j o i
      exact ⟨.w (.c (.cpi j o i)), ⟨c1, c2⟩, h, fun σ a base w₀ w hr hw => ⟨_, rfl, by simp [execOp, c4 σ a hr, C.den, W.den]⟩⟩
    · rename_i g o
      exact ⟨.w (.c (.cg g o)), ⟨c1, c2⟩, h, fun σ a base w₀ w hr hw => ⟨_, rfl, by simp [execOp, c4 σ a hr, C.den, W.den]⟩⟩
    · rename_i f cs
      exact ⟨.w (.c (.cf f cs)), ⟨c1, c2⟩, h, fun σ a base w₀ w hr hw => ⟨_, rfl, by simp [execOp, c4 σ a hr, C.den, W.den]⟩⟩
    · rename_i f j o
      exact ⟨.w (.c (.cmv f j o)), ⟨c1, c2⟩, h, fun σ a base w₀ w hr hw => ⟨_, rfl, by simp [execOp, c4 σ a hr, C.den, W.den]⟩⟩
    · exact h.elim
  case binOp op t x y yt =>
    obtain ⟨xa, a1, a2, h, a4⟩ := evW_spec hf h
    obtain ⟨xb, b1, b2, h, b4⟩ := evW_spec hf h
    split at h
    · split at h
      · refine ⟨.w (.c (.cb _)), ⟨trivial, rfl⟩, h _ rfl, fun σ a base w₀ w hr hw => ⟨_, rfl, ?_⟩⟩
        have hu := tyOf_bool (P := P) (t := t) (by assumption)
        simp [execOp, a4 σ a hr, b4 σ a hr, W.den, C.den, eqGuard, binOp, run_eqBool hu]
      · refine ⟨.w (.c (.cb _)), ⟨trivial, rfl⟩, h _ rfl, fun σ a base w₀ w hr hw => ⟨_, rfl, ?_⟩⟩
        have hu := tyOf_bool (P := P) (t := t) (by assumption)
        simp [execOp, a4 σ a hr, b4 σ a hr, W.den, C.den, eqGuard, binOp, run_eqBool hu]
      · exact h.elim
    · split at h
      · have hu := ptrT_spec (P := P) (t := t) (by assumption)
        refine ⟨.w (.c (.cb _)), ⟨trivial, rfl⟩, h, fun σ a base w₀ w hr hw => ⟨_, rfl, ?_⟩⟩
        simp [execOp, a4 σ a hr, b4 σ a hr, W.den, C.den, eqGuard, run_eql_pointer_nil w t _ hu]
      · have hu := ptrT_spec (P := P) (t := t) (by assumption)
        refine ⟨.w (.c (.cb _)), ⟨trivial, rfl⟩, h, fun σ a base w₀ w hr hw => ⟨_, rfl, ?_⟩⟩
        simp [execOp, a4 σ a hr, b4 σ a hr, W.den, C.den, eqGuard, run_neq_pointer_nil w t _ hu]
      · exact h.elim
    · obtain ⟨c, c1, c2, c3, c4⟩ := kBin_spec h a1
      refine ⟨.w (.c c), ⟨c1, C.bnd_mono (Nat.zero_le _) c c2⟩, c3, fun σ a base w₀ w hr hw => ⟨_, rfl, ?_⟩⟩
      simp [execOp, a4 σ a hr, b4 σ a hr, W.den, (c4 P t σ w).1, (c4 P t σ w).2]
    · split at h
      · obtain ⟨c, c1, c2, c3, c4⟩ := kEq_spec hE.eq h a1 b1
        refine ⟨.w (.c c), ⟨c1, C.bnd_mono (Nat.zero_le _) c c2⟩, c3, fun σ a base w₀ w hr hw => ⟨_, rfl, ?_⟩⟩
        have := c4 σ w
        simp only [Bool.false_eq_true, if_false] at this
        simp [execOp, a4 σ a hr, b4 σ a hr, this.1, this.2]
        simp [W.den]
      · obtain ⟨c, c1, c2, c3, c4⟩ := kEq_spec hE.eq h a1 b1
        refine ⟨.w (.c c), ⟨c1, C.bnd_mono (Nat.zero_le _) c c2⟩, c3, fun σ a base w₀ w hr hw => ⟨_, rfl, ?_⟩⟩
        have := c4 σ w
        simp only [if_true] at this
        simp [execOp, a4 σ a hr, b4 σ a hr, this.1, this.2]
        simp [W.den]
      · exact h.elim
    · exact h.elim
  case unOp op t x =>
    obtain ⟨c, c1, c2, h, c4⟩ := evC_spec hf h
    obtain ⟨d, d1, d2, d3, d4⟩ := kUn_spec h
    exact ⟨.w (.c d), ⟨d1, C.bnd_mono (Nat.zero_le _) d d2⟩, d3, fun σ a base w₀ w hr hw => ⟨_, rfl, by simp [execOp, c4 σ a hr, d4 P σ w, W.den]⟩⟩
  case convert s d x =>
    obtain ⟨c, c1, c2, h, c4⟩ := evC_spec hf h
    split at h
    · obtain ⟨e, d1, d2, d3, d4⟩ := kStr_spec (G := E.G) h ho
      exact ⟨.w (.c e), ⟨d1, C.bnd_mono (Nat.zero_le _) e d2⟩, d3, fun σ a base w₀ w hr hw => ⟨_, rfl, by simp [execOp, c4 σ a hr, d4 σ base w₀ w hw, W.den]⟩⟩
    · obtain ⟨e, d1, d2, d3, d4⟩ := kConv_spec h
      exact ⟨.w (.c e), ⟨d1, C.bnd_mono (Nat.zero_le _) e d2⟩, d3, fun σ a base w₀ w hr hw => ⟨_, rfl, by simp [execOp, c4 σ a hr, d4 σ w, W.den]⟩⟩
  case makeFunc fn first caps =>
    cases fn with
    | func f =>
      simp only at h
      split at h
      · rename_i hfst
        obtain ⟨ws, w1, w2, h, w4⟩ := evWs_spec hf h
        obtain ⟨l, l1, l2, l3, l4⟩ := allC_spec h w1 w2
        refine ⟨.w (.c (.cf f l)), ⟨by simpa only [V.rng, W.rng, C.rng] using l2, by simpa only [V.bnd, W.bnd, C.bnd] using l3⟩, l1, fun σ a base w₀ w hr hw => ⟨_, rfl, ?_⟩⟩
        have e1 : first.map a.eval = #[] := by rw [toList_toArray_map first a.eval [] (by rw [hfst]; rfl)]
        have e2 : caps.map a.eval = (C.denL σ l).toArray := toList_toArray_map caps a.eval _ (by rw [w4 σ a hr, l4 σ])
        simp [execOp, Instr.makeFunc, e1, e2, W.den, C.den]
      · rename_i x hfst
        split at h
        · rename_i hcap
          obtain ⟨c, c1, c2, h, c4⟩ := evC_spec hf h
          split at h
          · rename_i j o
            refine ⟨.w (.c (.cmv f j o)), ⟨trivial, c2⟩, h, fun σ a base w₀ w hr hw => ⟨_, rfl, ?_⟩⟩
            have e1 : first.map a.eval = #[.pointer (some (σ.at j o))] := by rw [toList_toArray_map first a.eval [.pointer (some (σ.at j o))] (by rw [hfst]; simp [c4 σ a hr, C.den])]
            have e2 : caps.map a.eval = #[] := by rw [toList_toArray_map caps a.eval [] (by rw [hcap]; rfl)]
            simp [execOp, Instr.makeFunc, e1, e2, W.den, C.den]
          · exact h.elim
        · exact h.elim
      · exact h.elim
    | _ => exact h.elim
  case fieldAddr s x f =>
    obtain ⟨c, c1, c2, h, c4⟩ := evC_spec hf h
    split at h
    · rename_i fs ht
      obtain ⟨F, hF, rfl⟩ := tyOf_st ht
      obtain ⟨fl, hfl, h⟩ := nthP_field h
      split at h
      · rename_i inf hi
        split at h
        · exact h.elim
        · rename_i sz hsz
          obtain ⟨d, d1, d2, d3, d4, d5, d6⟩ := fieldC_spec h c2
          refine ⟨.w (.c d), ⟨d1, d2⟩, d3, fun σ a base w₀ w hr hw => ⟨_, rfl, ?_⟩⟩
          have hne : ¬ inf.size = 0 := by omega
          simp [execOp, c4 σ a hr, d4 σ, Instr.fieldAt, run_und w hF, hfl, Instr.sureAddr, fieldPlace, run_sizeOf w hi, hne, W.den, d6 σ]
      · exact h.elim
    · exact h.elim
  case field s x f =>
    obtain ⟨xa, a1, a2, h, a4⟩ := evW_spec hf h
    split at h
    · rename_i fs ss ht
      obtain ⟨F, hF, rfl⟩ := tyOf_st ht
      obtain ⟨fl, hfl, h⟩ := nthP_field h
      obtain ⟨y, y1, y2, y3, y4⟩ := kLoad_val h a1 a2
      refine ⟨.w y, ⟨y1, y2⟩, y3, fun σ a base w₀ w hr hw => ⟨_, rfl, ?_⟩⟩
      have := y4 σ w
      simp only [Option.getD_none, Nat.add_zero] at this
      simp [execOp, a4 σ a hr, W.den, Instr.field, run_und w hF, hfl, asAgg, this]
    · exact h.elim
  case indexAddr t x i =>
    obtain ⟨c, c1, c2, h, c4⟩ := evC_spec hf h
    obtain ⟨d, d1, d2, h, d4⟩ := evC_spec hf h
    obtain ⟨e, e1, e2, e3, e4⟩ := kIndexAt_spec h c2
    exact ⟨.w (.c e), ⟨e1, e2⟩, e3, fun σ a base w₀ w hr hw => ⟨_, rfl, by simp [execOp, c4 σ a hr, d4 σ a hr, e4 σ w, W.den]⟩⟩
  case index t x i =>
    obtain ⟨xa, a1, a2, h, a4⟩ := evW_spec hf h
    obtain ⟨d, d1, d2, h, d4⟩ := evC_spec hf h
    obtain ⟨e, e1, e2, e3, e4⟩ := kIndex_spec h a1 a2
    exact ⟨.w e, ⟨e1, e2⟩, e3, fun σ a base w₀ w hr hw => ⟨_, rfl, by simp [execOp, a4 σ a hr, d4 σ a hr, e4 σ w]⟩⟩
  case extract x i =>
    obtain ⟨v, h1, h, h3⟩ := evK_spec hf h
    split at h
    · rename_i ws
      obtain ⟨y, y1, y2, y3, y4⟩ := nthW_spec h h1.1 h1.2
      refine ⟨.w y, ⟨y1, y2⟩, y4, fun σ a base w₀ w hr hw => ⟨_, rfl, ?_⟩⟩
      have := h3 σ a hr
      simp only [V.rep] at this
      simp [execOp, this, Instr.extract, y3]
    · exact h.elim
  case slice t x lo hi mx =>
    obtain ⟨c, c1, c2, h, c4⟩ := evC_spec hf h
    obtain ⟨lo', h, l4⟩ := evO_spec hf h
    obtain ⟨hi', h, i4⟩ := evO_spec hf h
    obtain ⟨mx', h, m4⟩ := evO_spec hf h
    obtain ⟨d, d1, d2, d3, d4⟩ := kSlice_spec h c1 c2
    exact ⟨.w (.c d), ⟨d1, d2⟩, d3, fun σ a base w₀ w hr hw => ⟨_, rfl, by simp [execOp, c4 σ a hr, l4 σ a hr, i4 σ a hr, m4 σ a hr, d4 σ w, W.den]⟩⟩
  case sliceToArrayPointer t x =>
    obtain ⟨c, c1, c2, h, c4⟩ := evC_spec hf h
    split at h
    · rename_i n e j o i len cap ht
      refine ⟨.w (.c (.cpi j o i)), ⟨trivial, c2⟩, h.2, fun σ a base w₀ w hr hw => ⟨_, rfl, ?_⟩⟩
      have hne : ¬ len < n := by omega
      simp [execOp, c4 σ a hr, C.den, Instr.arrayAt, run_und w (tyOf_arr ht), hne, W.den]
    · exact h.elim
  case typeAssert x xt t ok =>
    obtain ⟨c, c1, c2, h, c4⟩ := evC_spec hf h
    split at h
    · rename_i _ _ k t' k' n ht _
      obtain ⟨⟨rfl, rfl, hn⟩, h⟩ := h
      exact ⟨.w (.c (.ci k' n)), ⟨hn, rfl⟩, h, fun σ a base w₀ w hr hw => ⟨_, rfl, by simp [execOp, c4 σ a hr, C.den, W.den, Instr.typeAssert, run_und w (tyOf_int ht)]⟩⟩
    · exact h.elim
  case build t ps =>
    obtain ⟨qs, q1, q2, h, q4⟩ := evPs_spec hf h
    obtain ⟨ss, s1, s2, s3, s4⟩ := kBuild_spec h q1 q2
    refine ⟨.w (.agg ss), ⟨s2, s3⟩, s1, fun σ a base w₀ w hr hw => ⟨_, rfl, ?_⟩⟩
    have := toList_toArray_map ps (fun (i, x) => (i, a.eval x)) _ (q4 σ a hr)
    simp only [execOp, this, Sem.run_bind, s4 σ w, Result.andThen_ok, Sem.run_pure]
    rfl
  case call c =>
    obtain ⟨callee, args, argTypes⟩ := c
    cases callee with
    | value _ => exact h.elim
    | invoke _ _ => exact h.elim
    | builtin b =>
      have ext1 : ∀ {x : Operand}, args.toList = [x] → args = #[x] := fun {x} e => by cases args; simp at e; simp [e]
      have ext2 : ∀ {x y : Operand}, args.toList = [x, y] → args = #[x, y] := fun {x y} e => by cases args; simp at e; simp [e]
      have ext3 : ∀ {x y z : Operand}, args.toList = [x, y, z] → args = #[x, y, z] := fun {x y z} e => by cases args; simp at e; simp [e]
      cases b <;> try exact h.elim
      case len =>
        simp only at h
        split at h
        · rename_i x t ts hx htt
          obtain rfl := ext1 hx
          obtain ⟨xa, a1, a2, h, a4⟩ := evW_spec hf h
          have hty : argTypes[0]? = some t := by
            have : argTypes.toList[0]? = some t := by rw [htt]; rfl
            simpa using this
          split at h
          · rename_i s ht
            refine ⟨.w (.c (.ci .i64 s.size)), ⟨?_, rfl⟩, h, fun σ a base w₀ w hr hw => ⟨_, rfl, ?_⟩⟩
            · have : s.size ≤ 9223372036854775807 := a1
              simp only [V.rng, W.rng, C.rng, InK, lowK, highK]; omega
            · simp [execOp, resolve, invoke, builtin, Builtin.len_, a4 σ a hr, W.den, C.den, hty, run_und w (tyOf_str ht), goInt]
          · rename_i e j o i len cap ht
            refine ⟨.w (.c (.ci .i64 len)), ⟨?_, rfl⟩, h, fun σ a base w₀ w hr hw => ⟨_, rfl, ?_⟩⟩
            · have : len ≤ cap ∧ cap ≤ 9223372036854775807 := a1
              simp only [V.rng, W.rng, C.rng, InK, lowK, highK]; omega
            · simp [execOp, resolve, invoke, builtin, Builtin.len_, a4 σ a hr, W.den, C.den, hty, run_und w (tyOf_slice ht), goInt]
          · rename_i e ht
            refine ⟨.w (.c (.ci .i64 (0 : Nat))), ⟨?_, rfl⟩, h, fun σ a base w₀ w hr hw => ⟨_, rfl, ?_⟩⟩
            · simp only [V.rng, W.rng, C.rng, InK, lowK, highK]; omega
            · simp [execOp, resolve, invoke, builtin, Builtin.len_, a4 σ a hr, W.den, C.den, hty, run_und w (tyOf_slice ht), goInt]
          · rename_i n e ht
            refine ⟨.w (.c (.ci .i64 n)), ⟨?_, rfl⟩, h.2, fun σ a base w₀ w hr hw => ⟨_, rfl, ?_⟩⟩
            · have := h.1
              simp only [V.rng, W.rng, C.rng, InK, lowK, highK]; omega
            · simp [execOp, resolve, invoke, builtin, Builtin.len_, a4 σ a hr, W.den, C.den, hty, run_und w (tyOf_arr ht), goInt]
          · exact h.elim
        · exact h.elim
      case cap =>
        simp only at h
        split at h
        · rename_i x t ts hx htt
          obtain rfl := ext1 hx
          obtain ⟨xa, a1, a2, h, a4⟩ := evW_spec hf h
          have hty : argTypes[0]? = some t := by
            have : argTypes.toList[0]? = some t := by rw [htt]; rfl
            simpa using this
          split at h
          · rename_i e j o i len cap ht
            refine ⟨.w (.c (.ci .i64 cap)), ⟨?_, rfl⟩, h, fun σ a base w₀ w hr hw => ⟨_, rfl, ?_⟩⟩
            · have : len ≤ cap ∧ cap ≤ 9223372036854775807 := a1
              simp only [V.rng, W.rng, C.rng, InK, lowK, highK]; omega
            · simp [execOp, resolve, invoke, builtin, Builtin.cap_, a4 σ a hr, W.den, C.den, hty, run_und w (tyOf_slice ht), goInt]
          · rename_i e ht
            refine ⟨.w (.c (.ci .i64 (0 : Nat))), ⟨?_, rfl⟩, h, fun σ a base w₀ w hr hw => ⟨_, rfl, ?_⟩⟩
            · simp only [V.rng, W.rng, C.rng, InK, lowK, highK]; omega
            · simp [execOp, resolve, invoke, builtin, Builtin.cap_, a4 σ a hr, W.den, C.den, hty, run_und w (tyOf_slice ht), goInt]
          · exact h.elim
        · exact h.elim
      case max =>
        simp only at h
        split at h
        · rename_i x y hx
          obtain rfl := ext2 hx
          obtain ⟨p, p1, p2, h, p4⟩ := evC_spec hf h
          obtain ⟨q, q1, q2, h, q4⟩ := evC_spec hf h
          split at h
          · split at h
            · rename_i hk
              obtain rfl := sameK_eq hk
              refine ⟨_, ⟨?_, ?_⟩, h, fun σ a base w₀ w hr hw => ⟨_, rfl, ?_⟩⟩
              · exact max_in p1 q1
              · rfl
              · simp [execOp, resolve, invoke, builtin, Builtin.max_, Builtin.max2, p4 σ a hr, q4 σ a hr, C.den, W.den, max_cond]
            · exact h.elim
          · exact h.elim
        · rename_i x y z hx
          obtain rfl := ext3 hx
          obtain ⟨p, p1, p2, h, p4⟩ := evC_spec hf h
          obtain ⟨q, q1, q2, h, q4⟩ := evC_spec hf h
          obtain ⟨r, r1, r2, hm, r4⟩ := evC_spec hf h
          split at hm
          · split at hm
            · rename_i hk hk'
              obtain rfl := sameK_eq hk
              obtain rfl := sameK_eq hk'
              refine ⟨_, ⟨?_, ?_⟩, hm, fun σ a base w₀ w hr hw => ⟨_, rfl, ?_⟩⟩
              · exact max_in (max_in p1 q1) r1
              · rfl
              · simp [execOp, resolve, invoke, builtin, Builtin.max_, Builtin.max2, p4 σ a hr, q4 σ a hr, r4 σ a hr, C.den, W.den, max_cond]
            · exact hm.elim
          · exact hm.elim
        · exact h.elim
      case min =>
        simp only at h
        split at h
        · rename_i x y hx
          obtain rfl := ext2 hx
          obtain ⟨p, p1, p2, h, p4⟩ := evC_spec hf h
          obtain ⟨q, q1, q2, h, q4⟩ := evC_spec hf h
          split at h
          · split at h
            · rename_i hk
              obtain rfl := sameK_eq hk
              refine ⟨_, ⟨?_, ?_⟩, h, fun σ a base w₀ w hr hw => ⟨_, rfl, ?_⟩⟩
              · exact min_in p1 q1
              · rfl
              · simp [execOp, resolve, invoke, builtin, Builtin.min_, Builtin.min2, p4 σ a hr, q4 σ a hr, C.den, W.den, min_cond]
            · exact h.elim
          · exact h.elim
        · exact h.elim
end Go.Proofs.YtaficaacogcblaaGreatDoor
set_option linter.all false
namespace Go.Proofs.YtaficaacogcblaaGreatDoor
open Go.RowKit (Below)
variable {Df : List Deferred}
inductive Eff where
  | none
  | new (T : TypeId) (ss : List Seg)
  | set (j : Nat) (T : TypeId) (ss : List Seg)
def Eff.app (H : List Blk) : Eff → List Blk
  | .none => H
  | .new T ss => H ++ [.own T ss]
  | .set j T ss => H.set j (.own T ss)
def pushH : List Blk → Blk → (List Blk → Prop) → Prop
  | [], b, K => K [b]
  | x :: H, b, K => pushH H b fun r => K (x :: r)
theorem pushH_iff : ∀ (H : List Blk) (b : Blk) (K : List Blk → Prop), pushH H b K ↔ K (H ++ [b])
  | [], _, _ => Iff.rfl
  | x :: H, b, K => by simp only [pushH, pushH_iff H b, List.cons_append]
def setH : List Blk → Nat → Blk → (List Blk → Prop) → Prop
  | [], _, _, K => K []
  | _ :: H, 0, b, K => K (b :: H)
  | x :: H, n + 1, b, K => setH H n b fun r => K (x :: r)
theorem setH_iff : ∀ (H : List Blk) (n : Nat) (b : Blk) (K : List Blk → Prop), setH H n b K ↔ K (H.set n b)
  | [], n, _, _ => by simp [setH]
  | _ :: H, 0, b, K => by simp [setH]
  | x :: H, n + 1, b, K => by simp [setH, setH_iff H n b]
def lenH : List Blk → Nat → (Nat → Prop) → Prop
  | [], n, K => K n
  | _ :: H, n, K => lenH H (Nat.succ n) K
theorem lenH_iff : ∀ (H : List Blk) (n : Nat) (K : Nat → Prop), lenH H n K ↔ K (n + H.length)
  | [], n, K => by simp [lenH]
  | _ :: H, n, K => by
    rw [lenH, lenH_iff H]
    simp only [List.length_cons, Nat.succ_eq_add_one, show n + 1 + H.length = n + (H.length + 1) by omega]
def effK (H : List Blk) (e : Eff) (K : List Blk → Prop) : Prop :=
  match e with
  | .none => K H
  | .new T ss => pushH H (.own T ss) K
  | .set j T ss => setH H j (.own T ss) K
theorem effK_iff (H : List Blk) (e : Eff) (K : List Blk → Prop) : effK H e K ↔ K (e.app H) := by
  cases e with
  | none => exact Iff.rfl
  | new T ss => exact pushH_iff H _ K
  | set j T ss => exact setH_iff H j _ K
def putK : List V → Option Nat → V → (List V → Prop) → Prop
  | fr, none, _, K => K fr
  | [], some _, _, K => K []
  | x :: fr, some n, v, K => match n with
    | 0 => K (v :: fr)
    | n + 1 => putK fr (some n) v fun r => K (x :: r)
theorem putK_iff : ∀ (fr : List V) (d : Option Nat) (x : V) (K : List V → Prop), putK fr d x K ↔ K (putF fr d x)
  | [], none, _, _ => by simp [putK, putF]
  | _ :: _, none, _, _ => by simp [putK, putF]
  | [], some n, _, _ => by simp [putK, putF]
  | y :: fr, some 0, x, K => by simp [putK, putF]
  | y :: fr, some (n + 1), x, K => by
    have := putK_iff fr (some n) x fun r => K (y :: r)
    simpa [putK, putF] using this
def uniZ (ss : List Seg) (K : C → Nat → Prop) : Prop :=
  match ss with
  | [.one (.ci k n)] => n = 0 ∧ K (.ci k 0) 1
  | [.one (.cs s)] => K (.cs s) 1
  | [.one .csn] => K .csn 1
  | [.ints k (n + 1) xs] => xs = List.replicate (n + 1) 0 ∧ K (.ci k 0) (n + 1)
  | _ => False
theorem uniZ_spec {ss : List Seg} {K : C → Nat → Prop} (h : uniZ ss K) (hr : rngs ss) : ∃ c n, K c n ∧ n ≠ 0 ∧ c.rng ∧ c.bnd 0 = true ∧ ∀ σ, dens σ ss = List.replicate n (c.den σ) := by
  unfold uniZ at h
  split at h
  · rename_i k n
    obtain ⟨rfl, h⟩ := h
    exact ⟨_, _, h, by simp, hr.1, rfl, fun σ => rfl⟩
  · exact ⟨_, _, h, by simp, hr.1, rfl, fun σ => rfl⟩
  · exact ⟨_, _, h, by simp, trivial, rfl, fun σ => rfl⟩
  · rename_i k n xs
    obtain ⟨rfl, h⟩ := h
    refine ⟨_, _, h, by simp, ?_, rfl, fun σ => ?_⟩
    · show InK k 0
      cases k <;> simp [InK, lowK, highK]
    · simp [dens, Seg.den, C.den]
  · exact h.elim
def fillZ (c : C) (m : Nat) : List Seg :=
  match c with
  | .ci k n => [.ints k m (List.replicate m n)]
  | c => List.replicate m (.one c)
theorem fillZ_spec {c : C} (hr : c.rng) {n : Nat} (hb : c.bnd n = true) (m : Nat) : rngs (fillZ c m) ∧ bnds n (fillZ c m) = true ∧ ∀ σ, dens σ (fillZ c m) = List.replicate m (c.den σ) := by
  have gen : ∀ m : Nat, rngs (List.replicate m (.one c)) ∧ bnds n (List.replicate m (.one c)) = true ∧ ∀ σ, dens σ (List.replicate m (.one c)) = List.replicate m (c.den σ) := fun m => by
    induction m with
    | zero => exact ⟨trivial, rfl, fun σ => rfl⟩
    | succ m ih =>
      simp only [List.replicate_succ]
      refine ⟨⟨hr, ih.1⟩, by simp only [bnds, Seg.bnd, hb, ih.2.1, Bool.and_self], fun σ => by simp only [dens, Seg.den, ih.2.2 σ]; rfl⟩
  cases c with
  | ci k x => exact ⟨⟨⟨by simp, fun y hy => by rw [(List.mem_replicate.1 hy).2]; exact hr⟩, trivial⟩, rfl, fun σ => by simp [fillZ, dens, Seg.den, C.den]⟩
  | _ => exact gen m
theorem range_map_mod {v : Value} {m n : Nat} (hn : m ≠ 0 → n ≠ 0) : (Array.range m).map (fun i => (List.replicate n v).toArray[i % (List.replicate n v).toArray.size]!) = (List.replicate m v).toArray := by
  apply Array.ext
  · simp
  · intro i h1 h2
    simp at h1
    have : n ≠ 0 := hn (by omega)
    have hlt : i % n < n := Nat.mod_lt _ (by omega)
    simp [hlt]
def xop (P : Program) (E : Env) (o : Oper) (fr : List V) (H : List Blk) (K : V → Eff → Prop) : Prop :=
  match o.op with
  | .alloc T => zeroS P T fun ss => lenH H 0 fun n => K (.w (.c (.cp n 0))) (.new T ss)
  | .box T x => evW fr x fun w => lenH H 0 fun n => K (.w (.c (.cp n 0))) (.new T w.segs)
  | .store T a x => evC fr a fun c => evW fr x fun w => kStore P T H c w fun j T₀ r => K undefV (.set j T₀ r)
  | .buildSlice T len ps => match tyOf P T with
    | .slice e => match P.info? e with
      | some inf => match Nat.ble (len * inf.size) 16777216, Nat.beq (len * inf.size) 0 with
        | true, false => zeroS P e fun zs => uniZ zs fun c _ => evPs fr ps.toList fun ps => kFill (fun i K => K (i * inf.size) inf.size) ps (fillZ c (len * inf.size)) fun ss =>
          lenH H 0 fun n => K (.w (.c (.csl n 0 0 len len))) (.new e ss)
        | true, true => match len, ps.toList, tyOf P e with
          | 0, [], .int k => lenH H 0 fun n => K (.w (.c (.csl n 0 0 0 0))) (.new e [.ints k 0 []])
          | _, _, _ => False
        | _, _ => False
      | none => False
    | _ => False
  | .makeSlice T l c => evC fr l fun l => evC fr c fun c => match tyOf P T, l, c with
    | .slice e, .ci _ l, .ci _ c => match P.info? e with
      | some inf => match Nat.beq inf.size 1 with
        | true => zeroS P e fun zs => uniZ zs fun z _ => (0 ≤ l ∧ l ≤ c ∧ c ≤ 9223372036854775807 ∧ inf.bytes * c ≤ 281474976710656) ∧
          lenH H 0 fun n => K (.w (.c (.csl n 0 0 (natI l) (natI c)))) (.new e (fillZ z (natI c)))
        | false => False
      | none => False
    | _, _, _ => False
  | _ => xpure P E o fr H fun x => K x .none
def Eff.ok (H : List Blk) : Eff → Prop
  | .none => True
  | .new _ ss => rngs ss ∧ bnds H.length ss = true
  | .set j T ss => rngs ss ∧ bnds H.length ss = true ∧ ∃ s₀, H[j]? = some (.own T s₀)
def EffRun (P : Program) (o : Oper) (a : Act) (σ : Sg) (w : World) (H : List Blk) (x : V) : Eff → Prop
  | .none => ∃ v, x.rep σ v ∧ (execOp a.eval o).run P w = .ok (.value v) w
  | .new T ss => ∃ v, x.rep (σ.upd H.length (w.heap.size, 0)) v ∧ (execOp a.eval o).run P w = .ok (.value v) (w.alloc (.cells (dens σ ss).toArray T))
  | .set j _ ss => x = undefV ∧ (execOp a.eval o).run P w = .ok .skip (w.setRow (σ j).1 (dens σ ss).toArray)
theorem Eff.app_len (H : List Blk) (e : Eff) : H.length ≤ (e.app H).length := by cases e <;> simp [Eff.app]
theorem new_ptr_rep (σ : Sg) (n b : Nat) : V.rep (σ.upd n (b, 0)) (.w (.c (.cp n 0))) (.pointer (some ⟨b, 0, none⟩)) := by
  simp [V.rep, W.den, C.den, Sg.at, Sg.upd_self]
theorem new_sl_rep (σ : Sg) (n b l c : Nat) : V.rep (σ.upd n (b, 0)) (.w (.c (.csl n 0 0 l c))) (.slice (some ⟨b, 0, none⟩) l c) := by
  simp [V.rep, W.den, C.den, Sg.at, Sg.upd_self]
set_option maxHeartbeats 800000 in
theorem xop_spec {P : Program} {E : Env} (hE : EnvOk P E) {o : Oper} {fr : List V} {H : List Blk} {K : V → Eff → Prop} (h : xop P E o fr H K) (hf : FOk H.length fr) (ho : HOk H) :
    ∃ (x : V) (e : Eff), K x e ∧ e.ok H ∧ x.ok (e.app H).length ∧ ∀ {Df : List Deferred} σ a base w₀ w, FRep Df σ a fr → Rep E.G σ base w₀ w H → EffRun P o a σ w H x e := by
  have pure_case : (xpure P E o fr H fun x => K x .none) → ∃ (x : V) (e : Eff), K x e ∧ e.ok H ∧ x.ok (e.app H).length ∧ ∀ {Df : List Deferred} σ a base w₀ w, FRep Df σ a fr → Rep E.G σ base w₀ w H → EffRun P o a σ w H x e := fun h => by
    obtain ⟨x, h1, h2, h3⟩ := xpure_spec hE h hf ho
    exact ⟨x, .none, h2, trivial, h1, h3⟩
  have okp : ∀ T ss, V.ok ((Eff.new T ss).app H).length (.w (.c (.cp H.length 0))) := fun T ss => ⟨trivial, by simp [V.bnd, W.bnd, C.bnd, Eff.app]⟩
  obtain ⟨dst, op, ty, pos, after, guard⟩ := o
  cases op <;> simp only [xop] at h
  case alloc T =>
    obtain ⟨inf, z, ss, k1, k2, h, k4, k5, k6⟩ := zeroS_spec h
    rw [lenH_iff, Nat.zero_add] at h
    refine ⟨_, _, h, ⟨k4, bnds_mono (Nat.zero_le _) ss k5⟩, okp _ _, fun σ a base w₀ w hr hw => ⟨_, new_ptr_rep σ _ _, ?_⟩⟩
    simp [execOp, Instr.alloc, run_zero w k1 k2, newVar, newRow, k6 σ]
  case box T x =>
    obtain ⟨c, c1, c2, h, c4⟩ := evW_spec hf h
    rw [lenH_iff, Nat.zero_add] at h
    refine ⟨_, _, h, ⟨W.segs_rng c1, W.segs_bnd c2⟩, okp _ _, fun σ a base w₀ w hr hw => ⟨_, new_ptr_rep σ _ _, ?_⟩⟩
    simp [execOp, Instr.box, newVar, newRow, c4 σ a hr, W.cells (σ := σ) c1]
  case store T x y =>
    obtain ⟨c, c1, c2, h, c4⟩ := evC_spec hf h
    obtain ⟨d, d1, d2, h, d4⟩ := evW_spec hf h
    obtain ⟨j, T₀, ss, r, h1, h2, h3, h4, h5, h6⟩ := kStore_spec ho h d1 d2
    refine ⟨_, _, h1, ⟨h3, h4, ss, h2⟩, ⟨trivial, rfl⟩, fun σ a base w₀ w hr hw => ⟨rfl, ?_⟩⟩
    simp [execOp, c4 σ a hr, d4 σ a hr, h6 E.G σ base w₀ w hw]
  case buildSlice T len ps =>
    split at h
    · rename_i e ht
      split at h
      · rename_i inf hi
        split at h
        · rename_i hle hne
          have hle := Nat.le_of_ble_eq_true hle
          have hne : len * inf.size ≠ 0 := fun e => by rw [e] at hne; cases hne
          obtain ⟨inf', z, zs, k1, k2, h, k4, k5, k6⟩ := zeroS_spec h
          obtain ⟨c, m, h, hm, c1, c2, c3⟩ := uniZ_spec h k4
          obtain ⟨qs, q1, q2, h, q4⟩ := evPs_spec hf h
          obtain ⟨f1, f2, f3⟩ := fillZ_spec c1 (C.bnd_mono (Nat.zero_le H.length) c c2) (len * inf.size)
          obtain ⟨ss, h, s2, s3, s4, s5⟩ := kFill_spec (plc := fun i => some (i * inf.size, inf.size)) (fun i K hk => ⟨_, _, rfl, hk⟩) h f1 f2 q1 q2
          rw [lenH_iff, Nat.zero_add] at h
          refine ⟨_, _, h, ⟨s2, s3⟩, ⟨⟨Nat.le_refl _, ?_⟩, by simp [V.bnd, W.bnd, C.bnd, Eff.app]⟩, fun σ a base w₀ w hr hw => ⟨_, new_sl_rep σ _ _ _ _, ?_⟩⟩
          · have : len ≤ len * inf.size := Nat.le_mul_of_pos_right len (Nat.pos_of_ne_zero fun e => hne (by rw [e]; simp))
            omega
          · have e1 : z.cells = (List.replicate m (c.den σ)).toArray := by rw [k6 σ, c3 σ]
            have e2 := range_map_mod (v := c.den σ) (m := len * inf.size) (n := m) (fun _ => hm)
            have e3 := toList_toArray_map ps (fun (i, x) => (i, a.eval x)) _ (q4 σ a hr)
            have e4 := s5 σ
            rw [f3 σ] at e4
            have hgt : ¬ len * inf.size > 2 ^ 24 := by omega
            simp only [execOp, e3, Instr.buildSlice, Sem.run_bind, run_und w (tyOf_slice ht), Result.andThen_ok, run_sizeOf w hi, if_neg hgt, if_neg hne, run_zero w k1 k2, Sem.run_pure, e1, e2, e4]
            rfl
        · split at h
          · rename_i k hps hty _ _
            rw [lenH_iff, Nat.zero_add] at h
            refine ⟨_, _, h, ⟨⟨⟨rfl, fun y hy => by cases hy⟩, trivial⟩, rfl⟩, ⟨⟨Nat.le_refl _, by decide⟩, by simp [V.bnd, W.bnd, C.bnd, Eff.app]⟩, fun σ a base w₀ w hr hw => ⟨_, new_sl_rep σ _ _ _ _, ?_⟩⟩
            obtain rfl : ps = #[] := by
              cases ps with
              | mk l =>
                have hps' : l = [] := hps
                rw [hps']
            have hgt : ¬ 0 * inf.size > 2 ^ 24 := by omega
            have h0 : 0 * inf.size = 0 := Nat.zero_mul _
            simp only [execOp, Instr.buildSlice, Sem.run_bind, run_und w (tyOf_slice ht), Result.andThen_ok, run_sizeOf w hi, if_neg hgt, if_pos h0, Sem.run_pure]
            simp only [h0, List.map_toArray, List.map_nil]
            have ez : (Array.map (fun x => (#[] : Array Value)[x % (#[] : Array Value).size]!) (Array.range 0)) = #[] := by simp
            rw [ez]
            simp only [Instr.fill]
            rfl
          · exact h.elim
        · exact h.elim
      · exact h.elim
    · exact h.elim
  case makeSlice T l c =>
    obtain ⟨x, x1, x2, h, x4⟩ := evC_spec hf h
    obtain ⟨y, y1, y2, h, y4⟩ := evC_spec hf h
    split at h
    · rename_i e k p k' q ht _
      split at h
      · rename_i inf hi
        split at h
        · rename_i hsz
          have hsz := Nat.eq_of_beq_eq_true hsz
          obtain ⟨inf', z, zs, k1, k2, h, k4, k5, k6⟩ := zeroS_spec h
          obtain ⟨c, m, h, hm, c1, c2, c3⟩ := uniZ_spec h k4
          obtain ⟨⟨b1, b2, b3, b4⟩, h⟩ := h
          rw [lenH_iff, Nat.zero_add] at h
          obtain ⟨f1, f2, f3⟩ := fillZ_spec c1 (C.bnd_mono (Nat.zero_le H.length) c c2) (natI q)
          refine ⟨_, _, h, ⟨f1, f2⟩, ⟨⟨by unfold natI; omega, by unfold natI; omega⟩, by simp [V.bnd, W.bnd, C.bnd, Eff.app]⟩, fun σ a base w₀ w hr hw => ⟨_, new_sl_rep σ _ _ _ _, ?_⟩⟩
          have e1 : z.cells = (List.replicate m (c.den σ)).toArray := by rw [k6 σ, c3 σ]
          have e2 := range_map_mod (v := c.den σ) (m := q.toNat * inf.size) (n := m) (fun _ => hm)
          have wp : IntKind.i64.wrap p = p := wrap_of_in (k := .i64) ⟨by simp [lowK]; omega, by simp [highK]; omega⟩
          have wq : IntKind.i64.wrap q = q := wrap_of_in (k := .i64) ⟨by simp [lowK]; omega, by simp [highK]; omega⟩
          have hlow : ¬ p < 0 := by omega
          have hlow' : ¬ q < 0 := by omega
          have hpq : ¬ q < p := by omega
          have hbig : ¬ (2 ^ 48 : Int) < inf.bytes * q := by omega
          have hfz := f3 σ
          simp only [execOp, x4 σ a hr, y4 σ a hr, C.den, Instr.makeSlice, Sem.run_bind, run_und w (tyOf_slice ht), Result.andThen_ok, asInt, asIntOf, Sem.run_pure, run_typeInfo w hi, wp, wq]
          simp only [decide_eq_true_eq, gt_iff_lt, hlow, hlow', hpq, hbig, decide_false, Bool.or_self, Bool.false_eq_true, if_false, Sem.run_bind, run_askRoom, Result.andThen_ok, run_sizeOf w hi]
          by_cases h0 : q.toNat * inf.size = 0
          · have hq0 : q.toNat = 0 := by rw [hsz] at h0; omega
            have : (dens σ (fillZ c (natI q))).toArray = #[] := by rw [hfz]; simp [natI, hq0]
            have er : (Array.range 0).map (fun x => (#[] : Array Value)[x % (#[] : Array Value).size]!) = #[] := by simp
            rw [if_pos h0]
            simp only [Sem.run_bind, Sem.run_pure, Result.andThen_ok, newRow, run_newObj, this, h0, er]
            rfl
          · have : (dens σ (fillZ c (natI q))).toArray = (List.replicate (q.toNat * inf.size) (c.den σ)).toArray := by rw [hfz, hsz, Nat.mul_one]; rfl
            simp only [if_neg h0, Sem.run_bind, run_zero w k1 k2, Sem.run_pure, Result.andThen_ok, newRow, run_newObj, e1, e2, this]
            rfl
        · exact h.elim
      · exact h.elim
    · exact h.elim
  all_goals exact pure_case h
end Go.Proofs.YtaficaacogcblaaGreatDoor
set_option linter.all false
namespace Go.Proofs.YtaficaacogcblaaGreatDoor
open Go.RowKit (Below)
variable {Df : List Deferred}
mutual
def C.ren (ρ : Nat → Nat) : C → C
  | .cp j o => .cp (ρ j) o
  | .cpi j o i => .cpi (ρ j) o i
  | .csl j o i l c => .csl (ρ j) o i l c
  | .cm j => .cm (ρ j)
  | .cf f caps => .cf f (C.renL ρ caps)
  | .cmv f j o => .cmv f (ρ j) o
  | .cb t => .cb t
  | .ci k n => .ci k n
  | .cs x => .cs x
  | .cnil => .cnil
  | .cg g o => .cg g o
  | .cgi g o i => .cgi g o i
  | .csn => .csn
  | .cv x => .cv x
def C.renL (ρ : Nat → Nat) : List C → List C
  | [] => []
  | c :: l => c.ren ρ :: C.renL ρ l
end
def Seg.ren (ρ : Nat → Nat) : Seg → Seg
  | .one c => .one (c.ren ρ)
  | .ints k n xs => .ints k n xs
def rens (ρ : Nat → Nat) : List Seg → List Seg
  | [] => []
  | s :: ss => s.ren ρ :: rens ρ ss
def W.ren (ρ : Nat → Nat) : W → W
  | .c x => .c (x.ren ρ)
  | .agg ss => .agg (rens ρ ss)
def renW (ρ : Nat → Nat) : List W → List W
  | [] => []
  | x :: xs => x.ren ρ :: renW ρ xs
def V.ren (ρ : Nat → Nat) : V → V
  | .w x => .w (x.ren ρ)
  | .tup ws => .tup (renW ρ ws)
  | .any => .any
def Blk.ren (ρ : Nat → Nat) : Blk → Blk
  | .own T ss => .own T (rens ρ ss)
  | .ro ss => .ro (rens ρ ss)
  | .obj R => .obj R
  | .gone => .gone
def Sg.ren (σ : Sg) (ρ : Nat → Nat) : Sg := fun j => σ (ρ j)
mutual
theorem C.den_ren (σ : Sg) (ρ : Nat → Nat) : (c : C) → (c.ren ρ).den σ = c.den (σ.ren ρ)
  | .cb _ | .ci _ _ | .cs _ | .cnil | .cg _ _ | .cgi _ _ _ | .csn | .cv _ => by simp only [C.ren, C.den]
  | .cp j o | .cpi j o i | .csl j o i l c | .cm j | .cmv f j o => by simp only [C.ren, C.den, Sg.at, Sg.ren]
  | .cf f caps => by simp only [C.ren, C.den, C.denL_ren σ ρ caps]
theorem C.denL_ren (σ : Sg) (ρ : Nat → Nat) : (l : List C) → C.denL σ (C.renL ρ l) = C.denL (σ.ren ρ) l
  | [] => by simp only [C.renL, C.denL]
  | c :: l => by simp only [C.renL, C.denL, C.den_ren σ ρ c, C.denL_ren σ ρ l]
end
theorem Seg.den_ren (σ : Sg) (ρ : Nat → Nat) : (s : Seg) → (s.ren ρ).den σ = s.den (σ.ren ρ)
  | .one c => by simp only [Seg.ren, Seg.den, C.den_ren]
  | .ints _ _ _ => rfl
theorem dens_ren (σ : Sg) (ρ : Nat → Nat) : (ss : List Seg) → dens σ (rens ρ ss) = dens (σ.ren ρ) ss
  | [] => rfl
  | s :: ss => by simp only [rens, dens, Seg.den_ren, dens_ren σ ρ ss]
theorem W.den_ren (σ : Sg) (ρ : Nat → Nat) : (x : W) → (x.ren ρ).den σ = x.den (σ.ren ρ)
  | .c x => by simp only [W.ren, W.den, C.den_ren]
  | .agg ss => by simp only [W.ren, W.den, dens_ren]
theorem renW_den (σ : Sg) (ρ : Nat → Nat) : (xs : List W) → (renW ρ xs).map (W.den σ) = xs.map (W.den (σ.ren ρ))
  | [] => rfl
  | x :: xs => by simp only [renW, List.map_cons, W.den_ren, renW_den σ ρ xs]
theorem V.rep_ren (σ : Sg) (ρ : Nat → Nat) (x : V) (v : Value) : (x.ren ρ).rep σ v ↔ x.rep (σ.ren ρ) v := by
  cases x with
  | w x => simp only [V.ren, V.rep, W.den_ren]
  | tup ws => simp only [V.ren, V.rep, renW_den]
  | any => exact Iff.rfl
theorem Blk.rep_ren {σ : Sg} {ρ : Nat → Nat} {base : Nat} {w : World} {j : Nat} {b : Blk} (h : (b.ren ρ).rep σ base w (ρ j)) : b.rep (σ.ren ρ) base w j := by
  cases b with
  | own T ss => simpa only [Blk.ren, Blk.rep, dens_ren, Sg.ren] using h
  | ro ss => simpa only [Blk.ren, Blk.rep, dens_ren, Sg.ren, Sg.at] using h
  | obj R => simpa only [Blk.ren, Blk.rep, Sg.ren] using h
  | gone => trivial
theorem Rep.ren {G : Glo} {σ : Sg} {base : Nat} {w₀ w : World} {H H' : List Blk} (h : Rep G σ base w₀ w H) {ρ : Nat → Nat}
    (hb : ∀ (j : Nat) (b : Blk), H'[j]? = some b → b = .gone ∨ H[ρ j]? = some (b.ren ρ)) (hi : ∀ (i j : Nat) (b c : Blk), H'[i]? = some b → H'[j]? = some c → b.mine = true → c.mine = true → ρ i = ρ j → i = j) : Rep G (σ.ren ρ) base w₀ w H' := by
  refine ⟨h.below, h.size, fun j b hj => ?_, fun i j b c hbi hcj hm hn hij => ?_, fun g ss hg => ?_⟩
  · rcases hb j b hj with rfl | hh
    · trivial
    · exact Blk.rep_ren (h.blk _ _ hh)
  · rcases hb i b hbi with rfl | h1
    · cases hm
    · rcases hb j c hcj with rfl | h2
      · cases hn
      · exact h.sep _ _ _ _ h1 h2 (by cases b <;> exact hm) (by cases c <;> exact hn) fun e => hij (hi i j b c hbi hcj hm hn e)
  · obtain ⟨g1, g2, g3⟩ := h.glo g ss hg
    refine ⟨g1, g2, fun i v hv => g3 i v ?_⟩
    rw [dens_agree (n := 0) (fun j hj => absurd hj (Nat.not_lt_zero j)) ss g2]
    exact hv
theorem FRep.ren {σ : Sg} {a : Act} {F F' : List V} (h : FRep Df σ a F) {ρ : Nat → Nat} (hl : F'.length = F.length) (hf : ∀ (i : Nat) (x : V), F'[i]? = some x → x = .any ∨ F[i]? = some (x.ren ρ)) : FRep Df (σ.ren ρ) a F' := by
  refine ⟨h.dfr, by rw [h.size, hl], fun i x hx => ?_⟩
  rcases hf i x hx with rfl | hh
  · trivial
  · exact (V.rep_ren σ ρ x _).1 (h.rep _ _ hh)
mutual
theorem C.ren_id : (c : C) → c.ren id = c
  | .cb _ | .ci _ _ | .cs _ | .cnil | .cg _ _ | .cgi _ _ _ | .csn | .cv _ => by simp only [C.ren]
  | .cp j o | .cpi j o i | .csl j o i l c | .cm j | .cmv f j o => by simp only [C.ren, id]
  | .cf f caps => by simp only [C.ren, C.renL_id caps]
theorem C.renL_id : (l : List C) → C.renL id l = l
  | [] => by simp only [C.renL]
  | c :: l => by simp only [C.renL, C.ren_id c, C.renL_id l]
end
theorem Seg.ren_id : (s : Seg) → s.ren id = s
  | .one c => by simp only [Seg.ren, C.ren_id]
  | .ints _ _ _ => rfl
theorem rens_id : (ss : List Seg) → rens id ss = ss
  | [] => rfl
  | s :: ss => by simp only [rens, Seg.ren_id, rens_id ss]
theorem W.ren_id : (x : W) → x.ren id = x
  | .c x => by simp only [W.ren, C.ren_id]
  | .agg ss => by simp only [W.ren, rens_id]
theorem renW_id : (xs : List W) → renW id xs = xs
  | [] => rfl
  | x :: xs => by simp only [renW, W.ren_id, renW_id xs]
theorem V.ren_id (x : V) : x.ren id = x := by
  cases x with
  | w x => simp only [V.ren, W.ren_id]
  | tup ws => simp only [V.ren, renW_id]
  | any => rfl
theorem Blk.ren_id (b : Blk) : b.ren id = b := by
  cases b with
  | own T ss => simp only [Blk.ren, rens_id]
  | ro ss => simp only [Blk.ren, rens_id]
  | obj R => rfl
  | gone => rfl
mutual
theorem C.rng_ren (ρ : Nat → Nat) : (c : C) → (c.ren ρ).rng → c.rng
  | .cb _, _ | .cnil, _ | .cg _ _, _ | .cgi _ _ _, _ | .csn, _ | .cp _ _, _ | .cpi _ _ _, _ | .cm _, _ | .cmv _ _ _, _ => by simp only [C.rng]
  | .ci _ _, h => by simpa only [C.ren, C.rng] using h
  | .cs _, h => by simpa only [C.ren, C.rng] using h
  | .cv _, h => by simpa only [C.ren, C.rng] using h
  | .csl _ _ _ _ _, h => by simpa only [C.ren, C.rng] using h
  | .cf f caps, h => by
    simp only [C.ren, C.rng] at h ⊢
    exact C.rngL_ren ρ caps h
theorem C.rngL_ren (ρ : Nat → Nat) : (l : List C) → C.rngL (C.renL ρ l) → C.rngL l
  | [], _ => by simp only [C.rngL]
  | c :: l, h => by
    simp only [C.renL, C.rngL] at h ⊢
    exact ⟨C.rng_ren ρ c h.1, C.rngL_ren ρ l h.2⟩
end
theorem Seg.rng_ren (ρ : Nat → Nat) : (s : Seg) → (s.ren ρ).rng → s.rng
  | .one c, h => C.rng_ren ρ c h
  | .ints _ _ _, h => h
theorem rngs_ren (ρ : Nat → Nat) : (ss : List Seg) → rngs (rens ρ ss) → rngs ss
  | [], _ => trivial
  | s :: ss, h => ⟨Seg.rng_ren ρ s h.1, rngs_ren ρ ss h.2⟩
theorem W.rng_ren (ρ : Nat → Nat) : (x : W) → (x.ren ρ).rng → x.rng
  | .c x, h => C.rng_ren ρ x h
  | .agg ss, h => rngs_ren ρ ss h
theorem rngW_ren (ρ : Nat → Nat) : (xs : List W) → rngW (renW ρ xs) → rngW xs
  | [], _ => trivial
  | x :: xs, h => ⟨W.rng_ren ρ x h.1, rngW_ren ρ xs h.2⟩
theorem V.rng_ren (ρ : Nat → Nat) (x : V) (h : (x.ren ρ).rng) : x.rng := by
  cases x with
  | w x => exact W.rng_ren ρ x h
  | tup ws => exact rngW_ren ρ ws h
  | any => trivial
theorem Blk.rng_ren (ρ : Nat → Nat) (b : Blk) (h : (b.ren ρ).rng) : b.rng := by
  cases b with
  | own T ss => exact rngs_ren ρ ss h
  | ro ss => exact rngs_ren ρ ss h
  | obj R => trivial
  | gone => trivial
structure Seen (ρ : Nat → Nat) (lo : Nat) (F : List V) (H : List Blk) (F' : List V) (H' : List Blk) : Prop where
  len : F.length = F'.length
  fr : ∀ (i : Nat) (x : V), F[i]? = some x → x = .any ∨ F'[i]? = some (x.ren ρ)
  blk : ∀ (j : Nat) (b : Blk), H[j]? = some b → b = .gone ∨ H'[ρ j]? = some (b.ren ρ)
  inj : ∀ (i j : Nat) (b c : Blk), H[i]? = some b → H[j]? = some c → b.mine = true → c.mine = true → ρ i = ρ j → i = j
  low : ∀ j : Nat, j < lo → ρ j = j
  bf : bndF H.length F = true
  bh : bndH H.length H = true
  lo : lo ≤ H.length
theorem Seen.of_wk {lo : Nat} {F F' : List V} {H H' : List Blk} (hl : F.length = F'.length) (h1 : wkF F F') (h2 : wkH H H') (h3 : bndF H.length F = true) (h4 : bndH H.length H = true) (h5 : lo ≤ H.length) : Seen id lo F H F' H' :=
  ⟨hl, fun i x hx => by rw [V.ren_id]; exact wkF_get h1 i x hx, fun j b hb => by rw [Blk.ren_id]; exact wkH_get h2 j b hb, fun _ _ _ _ _ _ _ _ h => h, fun _ _ => rfl, h3, h4, h5⟩
theorem Seen.ok {ρ : Nat → Nat} {lo : Nat} {F F' : List V} {H H' : List Blk} (h : Seen ρ lo F H F' H') (hF : FOk H'.length F') (hH : HOk H') : FOk H.length F ∧ HOk H := by
  refine ⟨⟨fun x hx => ⟨?_, bndF_mem h.bf x hx⟩⟩, ⟨fun b hb => ?_, fun b hb => bndH_mem h.bh b hb⟩⟩
  · obtain ⟨i, hi⟩ := List.getElem?_of_mem hx
    rcases h.fr i x hi with rfl | hh
    · trivial
    · exact V.rng_ren ρ x (hF.ok _ (List.mem_of_getElem? hh)).1
  · obtain ⟨i, hi⟩ := List.getElem?_of_mem hb
    rcases h.blk i b hi with rfl | hh
    · trivial
    · exact Blk.rng_ren ρ b (hH.rng _ (List.mem_of_getElem? hh))
end Go.Proofs.YtaficaacogcblaaGreatDoor
set_option linter.all false
namespace Go.Proofs.YtaficaacogcblaaGreatDoor
open Go.RowKit (Below)
def freshK (e : TypeId) (k : IntKind) (H : List Blk) (m : Nat) (ys : List Int) (K : C → List Blk → Prop) : Prop :=
  ∀ c : Nat, m ≤ c → c ≤ 9223372036854775807 → lenH H 0 fun n => pushH H (.own e [.ints k c (ys ++ List.replicate (c - m) 0)]) fun H' => K (.csl n 0 0 m c) H'
def kApp (P : Program) (T : TypeId) (H : List Blk) (s x : C) (K : C → List Blk → Prop) : Prop :=
  match tyOf P T with
  | .slice e => match P.info? e with
    | some inf => match tyOf P e, inf.zero with
      | .int k, some (.int k' z) => match sameK k k', Nat.beq inf.size 1 with
        | true, true => z = 0 ∧ newsK H k x fun m ys => match s with
          | .csn => (0 < m ∧ m ≤ 9223372036854775807 ∧ m * inf.bytes ≤ 281474976710656) ∧ freshK e k H m ys K
          | .csl j 0 0 len cap => hGet H j fun b => match b with
            | .own T₀ [.ints k₂ n xs] => match sameK k k₂, Nat.beq T₀ e with
              | true, true => (n = cap ∧ len + m ≤ 9223372036854775807 ∧ (len + m) * inf.bytes ≤ 140737488355328) ∧
                (len + m ≤ cap → setH H j (.own T₀ [.ints k n (xs.take len ++ ys ++ xs.drop (len + m))]) fun H' => K (.csl j 0 0 (len + m) cap) H') ∧
                (cap < len + m → freshK e k H (len + m) (xs.take len ++ ys) K)
              | _, _ => False
            | _ => False
          | _ => False
        | _, _ => False
      | _, _ => False
    | none => False
  | _ => False
def kAppZ (P : Program) (T T' : TypeId) (H : List Blk) (s x : C) (K : C → List Blk → Prop) : Prop :=
  match tyOf P T, tyOf P T' with
  | .slice e, .int _ => match P.info? e with
    | some inf => match tyOf P e, inf.zero with
      | .int k, some (.int k' z) => match sameK k k', Nat.beq inf.size 1 with
        | true, true => match s, x with
          | .csn, .ci _ m => (z = 0 ∧ 0 < m ∧ m ≤ 9223372036854775807 ∧ natI m * inf.bytes ≤ 281474976710656) ∧ freshK e k H (natI m) (List.replicate (natI m) 0) K
          | _, _ => False
        | _, _ => False
      | _, _ => False
    | none => False
  | _, _ => False
theorem zeroCells_ints (k : IntKind) (n : Nat) : Builtin.zeroCells #[.int k 0] n = (List.replicate n (Value.int k 0)).toArray := by
  apply Array.ext
  · simp [Builtin.zeroCells]
  · intro i h1 h2
    simp [Builtin.zeroCells, Nat.mod_one]
theorem run_append_nil_zeros {P : Program} (w : World) (t u ty e : TypeId) (ku kx : IntKind) (i : TypeInfo) (z : Value) (ht : P.underlying t = some (.slice e)) (hu : P.underlying u = some (.int ku)) (hi : P.info? e = some i) (hz : i.zero = some z) (hs : i.size = 1)
    (m : Int) (n : Nat) (hmn : m = n) (h0 : 0 < n) (h63 : (n : Int) ≤ 9223372036854775807) (h48 : n * i.bytes ≤ 281474976710656) :
    (Builtin.append_ #[t, u] ty #[.slice none 0 0, .int kx m]).run P w =
      .ok (.slice (some ⟨w.heap.size, 0, none⟩) n (grownCap w n 0 e)) (w.drew.alloc (.cells (Builtin.zeroCells z.cells n ++ Builtin.zeroCells z.cells (grownCap w n 0 e - n)) e)) := by
  subst hmn
  have hn : n ≠ 0 := by omega
  have hw : IntKind.i64.wrap (n : Int) = n := wrap_of_in (k := .i64) ⟨by simp only [lowK]; omega, h63⟩
  have h63' : ¬ (9223372036854775807 < (n : Int)) := by omega
  have h48' : ¬ (281474976710656 < Builtin.nextslicecap n 0 * i.bytes) := by rw [nextslicecap_zero h0]; omega
  have h48'' : ¬ (281474976710656 < (n : Int) * (i.bytes : Int)) := by
    rw [← Int.natCast_mul]; omega
  have hneg : ¬ ((n : Int) < 0) := by omega
  simp [Builtin.append_, run_underlying ht, run_underlying hu, sizeOf, typeInfo, zeroValue, hi, hz, asInt, asIntOf, hw, hneg, hn, h63', h48', h48'', hs, Question.forced, run_firstCells_none, newRow, grownCap]
theorem Rep.drew {G : Glo} {σ : Sg} {base : Nat} {w₀ w : World} {H : List Blk} (h : Rep G σ base w₀ w H) : Rep G σ base w₀ w.drew H :=
  h.later ⟨rfl, rfl, rfl, Nat.le_refl _, fun _ _ => rfl⟩
theorem freshK_spec {G : Glo} {e : TypeId} {k : IntKind} {H : List Blk} {m : Nat} {ys : List Int} {K : C → List Blk → Prop} (h : freshK e k H m ys K) (ho : HOk H) (hl : ys.length = m) (hy : ∀ y ∈ ys, InK k y) {σ : Sg} {base : Nat} {w₀ w : World} (hw : Rep G σ base w₀ w H)
    {c : Nat} (hc : m ≤ c) (hc' : c ≤ 9223372036854775807) : ∃ τ x H', K x H' ∧ Sg.agree H.length σ τ ∧ (x.rng ∧ x.bnd H'.length = true) ∧ H.length ≤ H'.length ∧ HOk H' ∧ x.den τ = .slice (some ⟨w.heap.size, 0, none⟩) m c ∧
      Rep G τ base w₀ (w.drew.alloc (.cells ((ys.map (Value.int k)).toArray ++ Builtin.zeroCells #[.int k 0] (c - m)) e)) H' := by
  have h := h c hc hc'
  rw [lenH_iff, pushH_iff, Nat.zero_add] at h
  have hz : InK k 0 := by cases k <;> exact ⟨by decide, by decide⟩
  have hr : (Blk.own e [.ints k c (ys ++ List.replicate (c - m) 0)]).rng := ⟨⟨by simp; omega, fun x hx => by
    rcases List.mem_append.1 hx with h | h
    · exact hy x h
    · rw [(List.mem_replicate.1 h).2]; exact hz⟩, trivial⟩
  refine ⟨σ.upd H.length (w.heap.size, 0), _, _, h, Sg.upd_agree _ _ _, ⟨⟨hc, hc'⟩, by simp [C.bnd]⟩, by simp, ho.push hr rfl, ?_, ?_⟩
  · simp only [C.den, Sg.at, Sg.upd_self]
  · refine (hw.drew).push ho _ _ ⟨by rw [Sg.upd_self], by rw [Sg.upd_self]; exact Nat.le_trans hw.size hw.below.size, ?_⟩
    rw [Sg.upd_self, zeroCells_ints]
    show (w.heap.push _)[w.heap.size]? = _
    simp [dens, Seg.den]
theorem kApp_spec {P : Program} {G : Glo} {T ty : TypeId} {H : List Blk} {s x : C} {K : C → List Blk → Prop} (h : kApp P T H s x K) (ho : HOk H) (hs : s.rng) {σ : Sg} {base : Nat} {w₀ w : World} (hw : Rep G σ base w₀ w H) :
    ∃ v w' τ c H', (Builtin.append_ #[T, T] ty #[s.den σ, x.den σ]).run P w = .ok v w' ∧ K c H' ∧ Sg.agree H.length σ τ ∧ (c.rng ∧ c.bnd H'.length = true) ∧ H.length ≤ H'.length ∧ HOk H' ∧ v = c.den τ ∧ Rep G τ base w₀ w' H' := by
  unfold kApp at h
  split at h
  · rename_i e hty
    have ht := tyOf_slice hty
    split at h
    · rename_i inf hi
      split at h
      · rename_i k k' z hk hz
        split at h
        · rename_i hkk hsz
          obtain rfl := sameK_eq hkk
          have hsize : inf.size = 1 := Nat.eq_of_beq_eq_true hsz
          obtain ⟨rfl, h⟩ := h
          obtain ⟨m, ys, h, hl, hy, hx⟩ := newsK_spec h ho
          obtain ⟨a, c, hxd, hnews⟩ := hx G σ base w₀ w hw
          have hl1 : (ys.map (Value.int k)).length = m * inf.size := by simp [hl, hsize]
          rw [hxd]
          split at h
          · obtain ⟨⟨h0, h63, h48⟩, h⟩ := h
            have hrun := run_append_nil (P := P) w T ty e inf (.int k 0) ht hi hz a m c (ys.map (Value.int k)) hl1 hnews h0 (by omega) h48
            have hc := grownCap_ge w m 0 e
            have hc' := grownCap_le_maxLen w m 0 e (by simpa only [maxLen] using h63)
            obtain ⟨τ, x', H', k1, k2, k3, k4, k5, k6, k7⟩ := freshK_spec h ho hl hy hw hc (by simpa only [maxLen] using hc')
            exact ⟨_, _, τ, x', H', hrun, k1, k2, k3, k4, k5, k6.symm, k7⟩
          · rename_i j len cap _
            have hlc : len ≤ cap := hs.1
            obtain ⟨b, hb, h⟩ := hGet_spec h
            split at h
            · rename_i T₀ k₂ n xs
              split at h
              · rename_i hk2 hT
                obtain rfl := sameK_eq hk2
                obtain rfl := Nat.eq_of_beq_eq_true hT
                obtain ⟨⟨rfl, h63, h48⟩, hin, hgr⟩ := h
                have hrep := hw.blk j _ hb
                have hrng := ho.rng _ (List.mem_of_getElem? hb)
                have hxl : xs.length = n := hrng.1.1
                have hxr := hrng.1.2
                have ha : σ.at j (0 + 0) = ⟨(σ j).1, 0, none⟩ := by simp only [Sg.at, hrep.1]
                have hcur : w.heap[(σ j).1]? = some (.cells (xs.map (Value.int k)).toArray T₀ (0, 0)) := by
                  have := hrep.2.2
                  simpa [dens, Seg.den] using this
                simp only [C.den, ha]
                rcases Nat.lt_or_ge n (len + m) with hg | hroom
                · have holds : ∀ (q : Nat) (u : Value), ((xs.take len).map (Value.int k))[q]? = some u → w.cell? ((⟨(σ j).1, 0, none⟩ : Addr).add q) = some u := fun q u hu => by
                    have hq := (List.getElem?_eq_some_iff.1 hu).1
                    have hq1 : q < len := by simp at hq; omega
                    have := (rep_reads hw (.inl ⟨_, hb⟩) 0).cell q u (by
                      simp only [List.map_take] at hu
                      rw [List.getElem?_take_of_lt hq1] at hu
                      simpa [dens, Seg.den] using hu)
                    rw [add_ne rfl]
                    simpa [Sg.at, hrep.1] using this
                  rcases Nat.lt_or_ge n len with hbad | hlen
                  · omega
                  · have hol : ((xs.take len).map (Value.int k)).length = len * inf.size := by simp [hsize]; omega
                    have hrun := run_append_grow (P := P) w T ty T₀ inf (.int k 0) ht hi hz ⟨(σ j).1, 0, none⟩ len n ((xs.take len).map (Value.int k)) hol holds a m c (ys.map (Value.int k)) hl1 hnews hg (by omega) (growslice_fits hg h48)
                    have hc := grownCap_ge w (len + m) n T₀
                    have hc' := grownCap_le_maxLen w (len + m) n T₀ (by simpa only [maxLen] using h63)
                    obtain ⟨τ, x', H', k1, k2, k3, k4, k5, k6, k7⟩ := freshK_spec (hgr hg) ho (by simp [hl]; omega) (fun y hy' => by
                      rcases List.mem_append.1 hy' with h | h
                      · exact hxr y (List.mem_of_mem_take h)
                      · exact hy y h) hw hc (by simpa only [maxLen] using hc')
                    refine ⟨_, _, τ, x', H', hrun, k1, k2, k3, k4, k5, k6.symm, ?_⟩
                    simpa [List.map_append, show (Value.int k 0).cells = #[Value.int k 0] from rfl] using k7
                · have hrun := run_append_room (P := P) w T ty T₀ inf ht hi (σ j).1 len n _ hcur a m c (ys.map (Value.int k)) hl1 hnews (fun u hu => by
                    obtain ⟨y, _, rfl⟩ := List.mem_map.1 hu
                    rfl) hroom (by simp [hsize, hl, hxl]; omega)
                  have hK := (setH_iff _ _ _ _).1 (hin hroom)
                  have hnew : rngs [.ints k n (xs.take len ++ ys ++ xs.drop (len + m))] := ⟨⟨by simp [hl, hxl]; omega, fun y hy' => by
                    rcases List.mem_append.1 hy' with h | h
                    · rcases List.mem_append.1 h with h | h
                      · exact hxr y (List.mem_of_mem_take h)
                      · exact hy y h
                    · exact hxr y (List.mem_of_mem_drop h)⟩, trivial⟩
                  have hjl := (List.getElem?_eq_some_iff.1 hb).1
                  refine ⟨_, _, σ, _, _, hrun, hK, Sg.agree.refl _ _, ⟨⟨hroom, hs.2⟩, by simp [C.bnd, hjl]⟩, by simp, ho.set hnew rfl, by simp only [C.den, ha], ?_⟩
                  refine hw.set hb rfl (fun q hq => ?_) (by simp) rfl rfl rfl rfl ⟨hrep.1, hrep.2.1, ?_⟩
                  · simp only [World.setRow, Array.getElem?_modify]; rw [if_neg (Ne.symm hq)]
                  · rw [setRow_heap w (σ j).1 _ _ T₀ _ hcur]
                    simp [dens, Seg.den, hsize, hl]
              · exact h.elim
            · exact h.elim
          · exact h.elim
        · exact h.elim
      · exact h.elim
    · exact h.elim
  · exact h.elim
theorem kAppZ_spec {P : Program} {G : Glo} {T T' ty : TypeId} {H : List Blk} {s x : C} {K : C → List Blk → Prop} (h : kAppZ P T T' H s x K) (ho : HOk H) {σ : Sg} {base : Nat} {w₀ w : World} (hw : Rep G σ base w₀ w H) :
    ∃ v w' τ c H', (Builtin.append_ #[T, T'] ty #[s.den σ, x.den σ]).run P w = .ok v w' ∧ K c H' ∧ Sg.agree H.length σ τ ∧ (c.rng ∧ c.bnd H'.length = true) ∧ H.length ≤ H'.length ∧ HOk H' ∧ v = c.den τ ∧ Rep G τ base w₀ w' H' := by
  unfold kAppZ at h
  split at h
  · rename_i e ku hty hty'
    have ht := tyOf_slice hty
    have hu := tyOf_int hty'
    split at h
    · rename_i inf hi
      split at h
      · rename_i k k' z hk hz
        split at h
        · rename_i hkk hsz
          obtain rfl := sameK_eq hkk
          have hsize : inf.size = 1 := Nat.eq_of_beq_eq_true hsz
          split at h
          · rename_i kx m
            obtain ⟨⟨rfl, h0, h63, h48⟩, h⟩ := h
            unfold natI at h h48
            have hm : m = ((m.toNat : Nat) : Int) := by omega
            have hrun := run_append_nil_zeros (P := P) w T T' ty e ku kx inf (.int k 0) ht hu hi hz hsize m m.toNat hm (by omega) (by omega) h48
            have hc := grownCap_ge w m.toNat 0 e
            have hc' := grownCap_le_maxLen w m.toNat 0 e (by simp only [maxLen]; omega)
            have hz0 : InK k 0 := by cases k <;> exact ⟨by decide, by decide⟩
            obtain ⟨τ, x', H', k1, k2, k3, k4, k5, k6, k7⟩ := freshK_spec h ho (by simp) (fun y hy => by rw [(List.mem_replicate.1 hy).2]; exact hz0) hw hc (by simpa only [maxLen] using hc')
            refine ⟨_, _, τ, x', H', hrun, k1, k2, k3, k4, k5, k6.symm, ?_⟩
            have e1 : (Value.int k 0).cells = #[Value.int k 0] := rfl
            rw [e1, zeroCells_ints k m.toNat]
            simpa using k7
          · exact h.elim
        · exact h.elim
      · exact h.elim
    · exact h.elim
  · exact h.elim
def newsA (H : List Blk) (k : IntKind) (sz : Nat) (x : C) (K : Nat → List Int → Prop) : Prop :=
  match x with
  | .csl j o i len _ => match o with
    | 0 => hGet H j fun b => match b with
      | .own _ [.ints k' n xs] => match sameK k k' with
        | true => i + len * sz ≤ n ∧ K len ((xs.drop i).take (len * sz))
        | false => False
      | .ro [.ints k' n xs] => match sameK k k' with
        | true => i + len * sz ≤ n ∧ K len ((xs.drop i).take (len * sz))
        | false => False
      | _ => False
    | _ + 1 => False
  | _ => False
theorem newsA_spec {H : List Blk} {k : IntKind} {sz : Nat} {x : C} {K : Nat → List Int → Prop} (h : newsA H k sz x K) (ho : HOk H) : ∃ m ys, K m ys ∧ ys.length = m * sz ∧ (∀ y ∈ ys, InK k y) ∧
    ∀ G σ base w₀ w, Rep G σ base w₀ w H → ∃ a c, x.den σ = .slice (some a) m c ∧ ∀ (j : Nat) (u : Value), (ys.map (Value.int k))[j]? = some u → w.cell? (a.add j) = some u := by
  unfold newsA at h
  split at h
  · rename_i j o i len cap
    split at h
    · obtain ⟨b, hb, h⟩ := hGet_spec h
      have main : ∀ (k' : IntKind) (n : Nat) (xs : List Int), ((∃ T, H[j]? = some (.own T [.ints k' n xs])) ∨ H[j]? = some (.ro [.ints k' n xs])) → sameK k k' = true → i + len * sz ≤ n → K len ((xs.drop i).take (len * sz)) → rngs [.ints k' n xs] → ∃ m ys, K m ys ∧ ys.length = m * sz ∧ (∀ y ∈ ys, InK k y) ∧
    ∀ G σ base w₀ w, Rep G σ base w₀ w H → ∃ a c, (C.csl j 0 i len cap).den σ = .slice (some a) m c ∧ ∀ (j : Nat) (u : Value), (ys.map (Value.int k))[j]? = some u → w.cell? (a.add j) = some u := fun k' n xs hj hk hn hK hr => by
        obtain rfl := sameK_eq hk
        have hl : xs.length = n := hr.1.1
        refine ⟨len, (xs.drop i).take (len * sz), hK, by simp; omega, fun y hy => hr.1.2 y (List.mem_of_mem_drop (List.mem_of_mem_take hy)), fun G σ base w₀ w hw => ⟨_, _, rfl, fun q u hu => ?_⟩⟩
        have hrd := (rep_reads hw hj 0).cell (i + q) u (by
          have hq : q < len * sz := by have := (List.getElem?_eq_some_iff.1 hu).1; simp at this; omega
          simp only [List.map_take, List.map_drop] at hu
          rw [List.getElem?_take_of_lt hq, List.getElem?_drop] at hu
          simpa [dens, Seg.den] using hu)
        rw [add_ne rfl]
        simpa [Sg.at, Nat.add_assoc] using hrd
      have hrng := ho.rng _ (List.mem_of_getElem? hb)
      split at h
      · split at h
        · rename_i hk; exact main _ _ _ (.inl ⟨_, hb⟩) hk h.1 h.2 hrng
        · exact h.elim
      · split at h
        · rename_i hk; exact main _ _ _ (.inr hb) hk h.1 h.2 hrng
        · exact h.elim
      · exact h.elim
    · exact h.elim
  · exact h.elim
def freshA (e : TypeId) (k : IntKind) (sz : Nat) (H : List Blk) (m : Nat) (ys : List Int) (K : C → List Blk → Prop) : Prop :=
  ∀ c : Nat, m ≤ c → c ≤ 9223372036854775807 → lenH H 0 fun n => pushH H (.own e [.ints k (c * sz) (ys ++ List.replicate ((c - m) * sz) 0)]) fun H' => K (.csl n 0 0 m c) H'
def kAppA (P : Program) (T : TypeId) (H : List Blk) (s x : C) (K : C → List Blk → Prop) : Prop :=
  match tyOf P T with
  | .slice e => match P.info? e with
    | some inf => zeroS P e fun zs => match zs with
      | [.ints k n z0] => match Nat.beq inf.size n with
        | true => z0 = List.replicate n 0 ∧ newsA H k n x fun m ys => match s with
          | .csn => (0 < m ∧ m ≤ 9223372036854775807 ∧ m * inf.bytes ≤ 281474976710656) ∧ freshA e k n H m ys K
          | .csl j 0 0 len cap => hGet H j fun b => match b with
            | .own T₀ [.ints k₂ N xs] => match sameK k k₂, Nat.beq T₀ e with
              | true, true => (N = cap * n ∧ len + m ≤ 9223372036854775807 ∧ (len + m) * inf.bytes ≤ 140737488355328) ∧
                (len + m ≤ cap → setH H j (.own T₀ [.ints k N (xs.take (len * n) ++ ys ++ xs.drop ((len + m) * n))]) fun H' => K (.csl j 0 0 (len + m) cap) H') ∧
                (cap < len + m → freshA e k n H (len + m) (xs.take (len * n) ++ ys) K)
              | _, _ => False
            | _ => False
          | _ => False
        | false => False
      | _ => False
    | none => False
  | _ => False
theorem zeroCells_rows (k : IntKind) (sz n : Nat) : Builtin.zeroCells (List.replicate sz (Value.int k 0)).toArray n = (List.replicate (n * sz) (Value.int k 0)).toArray := by
  apply Array.ext
  · simp [Builtin.zeroCells]
  · intro i h1 h2
    simp [Builtin.zeroCells] at h1
    have hs : 0 < sz := by
      rcases Nat.eq_zero_or_pos sz with h | h
      · subst h; simp at h1
      · exact h
    have hlt : i % sz < sz := Nat.mod_lt _ hs
    simp [Builtin.zeroCells, hlt]
theorem freshA_spec {G : Glo} {e : TypeId} {k : IntKind} {sz : Nat} {H : List Blk} {m : Nat} {ys : List Int} {K : C → List Blk → Prop} (h : freshA e k sz H m ys K) (ho : HOk H) (hl : ys.length = m * sz) (hy : ∀ y ∈ ys, InK k y) {σ : Sg} {base : Nat} {w₀ w : World} (hw : Rep G σ base w₀ w H)
    {c : Nat} (hc : m ≤ c) (hc' : c ≤ 9223372036854775807) : ∃ τ x H', K x H' ∧ Sg.agree H.length σ τ ∧ (x.rng ∧ x.bnd H'.length = true) ∧ H.length ≤ H'.length ∧ HOk H' ∧ x.den τ = .slice (some ⟨w.heap.size, 0, none⟩) m c ∧
      Rep G τ base w₀ (w.drew.alloc (.cells ((ys.map (Value.int k)).toArray ++ (List.replicate ((c - m) * sz) (Value.int k 0)).toArray) e)) H' := by
  have h := h c hc hc'
  rw [lenH_iff, pushH_iff, Nat.zero_add] at h
  have hz : InK k 0 := by cases k <;> exact ⟨by decide, by decide⟩
  have hcs : m * sz + (c - m) * sz = c * sz := by rw [← Nat.add_mul]; congr 1; omega
  have hr : (Blk.own e [.ints k (c * sz) (ys ++ List.replicate ((c - m) * sz) 0)]).rng := ⟨⟨by simp; omega, fun x hx => by
    rcases List.mem_append.1 hx with h | h
    · exact hy x h
    · rw [(List.mem_replicate.1 h).2]; exact hz⟩, trivial⟩
  refine ⟨σ.upd H.length (w.heap.size, 0), _, _, h, Sg.upd_agree _ _ _, ⟨⟨hc, hc'⟩, by simp [C.bnd]⟩, by simp, ho.push hr rfl, ?_, ?_⟩
  · simp only [C.den, Sg.at, Sg.upd_self]
  · refine (hw.drew).push ho _ _ ⟨by rw [Sg.upd_self], by rw [Sg.upd_self]; exact Nat.le_trans hw.size hw.below.size, ?_⟩
    rw [Sg.upd_self]
    show (w.heap.push _)[w.heap.size]? = _
    simp [dens, Seg.den]
theorem kAppA_spec {P : Program} {G : Glo} {T ty : TypeId} {H : List Blk} {s x : C} {K : C → List Blk → Prop} (h : kAppA P T H s x K) (ho : HOk H) (hs : s.rng) {σ : Sg} {base : Nat} {w₀ w : World} (hw : Rep G σ base w₀ w H) :
    ∃ v w' τ c H', (Builtin.append_ #[T, T] ty #[s.den σ, x.den σ]).run P w = .ok v w' ∧ K c H' ∧ Sg.agree H.length σ τ ∧ (c.rng ∧ c.bnd H'.length = true) ∧ H.length ≤ H'.length ∧ HOk H' ∧ v = c.den τ ∧ Rep G τ base w₀ w' H' := by
  unfold kAppA at h
  split at h
  · rename_i e hty
    have ht := tyOf_slice hty
    split at h
    · rename_i inf0 hi0
      obtain ⟨inf, z, ss, hi, hz, h2, zr, zb, zc⟩ := zeroS_spec h
      clear h
      revert h2; intro h
      have hinf : inf0 = inf := by rw [hi0] at hi; exact Option.some.inj hi
      subst hinf
      split at h
      · rename_i k n z0
        split at h
        · rename_i hsz
          have hsize : inf0.size = n := Nat.eq_of_beq_eq_true hsz
          obtain ⟨rfl, h⟩ := h
          have hzc : z.cells = (List.replicate n (Value.int k 0)).toArray := by
            rw [zc σ]
            simp [dens, Seg.den]
          obtain ⟨m, ys, h, hl, hy, hx⟩ := newsA_spec h ho
          obtain ⟨a, c, hxd, hnews⟩ := hx G σ base w₀ w hw
          have hl1 : (ys.map (Value.int k)).length = m * inf0.size := by simp [hl, hsize]
          rw [hxd]
          split at h
          · obtain ⟨⟨h0, h63, h48⟩, h⟩ := h
            have hrun := run_append_nil (P := P) w T ty e inf0 z ht hi hz a m c (ys.map (Value.int k)) hl1 hnews h0 (by omega) h48
            have hc := grownCap_ge w m 0 e
            have hc' := grownCap_le_maxLen w m 0 e (by simpa only [maxLen] using h63)
            obtain ⟨τ, x', H', k1, k2, k3, k4, k5, k6, k7⟩ := freshA_spec h ho hl hy hw hc (by simpa only [maxLen] using hc')
            rw [hzc, zeroCells_rows] at hrun
            exact ⟨_, _, τ, x', H', hrun, k1, k2, k3, k4, k5, k6.symm, k7⟩
          · rename_i j len cap _
            have hlc : len ≤ cap := hs.1
            obtain ⟨b, hb, h⟩ := hGet_spec h
            split at h
            · rename_i T₀ k₂ N xs
              split at h
              · rename_i hk2 hT
                obtain rfl := sameK_eq hk2
                obtain rfl := Nat.eq_of_beq_eq_true hT
                obtain ⟨⟨rfl, h63, h48⟩, hin, hgr⟩ := h
                have hrep := hw.blk j _ hb
                have hrng := ho.rng _ (List.mem_of_getElem? hb)
                have hxl : xs.length = cap * n := hrng.1.1
                have hxr := hrng.1.2
                have hle : len * n ≤ cap * n := Nat.mul_le_mul_right n hlc
                have ha : σ.at j (0 + 0) = ⟨(σ j).1, 0, none⟩ := by simp only [Sg.at, hrep.1]
                have hcur : w.heap[(σ j).1]? = some (.cells (xs.map (Value.int k)).toArray T₀ (0, 0)) := by
                  have := hrep.2.2
                  simpa [dens, Seg.den] using this
                simp only [C.den, ha]
                rcases Nat.lt_or_ge cap (len + m) with hg | hroom
                · have holds : ∀ (q : Nat) (u : Value), ((xs.take (len * n)).map (Value.int k))[q]? = some u → w.cell? ((⟨(σ j).1, 0, none⟩ : Addr).add q) = some u := fun q u hu => by
                    have hq := (List.getElem?_eq_some_iff.1 hu).1
                    have hq1 : q < len * n := by simp at hq; omega
                    have := (rep_reads hw (.inl ⟨_, hb⟩) 0).cell q u (by
                      simp only [List.map_take] at hu
                      rw [List.getElem?_take_of_lt hq1] at hu
                      simpa [dens, Seg.den] using hu)
                    rw [add_ne rfl]
                    simpa [Sg.at, hrep.1] using this
                  have hol : ((xs.take (len * n)).map (Value.int k)).length = len * inf0.size := by simp [hsize]; omega
                  have hrun := run_append_grow (P := P) w T ty T₀ inf0 z ht hi hz ⟨(σ j).1, 0, none⟩ len cap ((xs.take (len * n)).map (Value.int k)) hol holds a m c (ys.map (Value.int k)) hl1 hnews hg (by omega) (growslice_fits hg h48)
                  have hc := grownCap_ge w (len + m) cap T₀
                  have hc' := grownCap_le_maxLen w (len + m) cap T₀ (by simpa only [maxLen] using h63)
                  obtain ⟨τ, x', H', k1, k2, k3, k4, k5, k6, k7⟩ := freshA_spec (hgr hg) ho (by simp [hl, Nat.add_mul]; omega) (fun y hy' => by
                    rcases List.mem_append.1 hy' with h | h
                    · exact hxr y (List.mem_of_mem_take h)
                    · exact hy y h) hw hc (by simpa only [maxLen] using hc')
                  rw [hzc, zeroCells_rows] at hrun
                  refine ⟨_, _, τ, x', H', hrun, k1, k2, k3, k4, k5, k6.symm, ?_⟩
                  simpa [List.map_append] using k7
                · have hln : len * n + m * n ≤ cap * n := by rw [← Nat.add_mul]; exact Nat.mul_le_mul_right n hroom
                  have hrun := run_append_room (P := P) w T ty T₀ inf0 ht hi (σ j).1 len cap _ hcur a m c (ys.map (Value.int k)) hl1 hnews (fun u hu => by
                    obtain ⟨y, _, rfl⟩ := List.mem_map.1 hu
                    rfl) hroom (by simp [hsize, hl, hxl]; omega)
                  have hK := (setH_iff _ _ _ _).1 (hin hroom)
                  have hnew : rngs [.ints k (cap * n) (xs.take (len * n) ++ ys ++ xs.drop ((len + m) * n))] := ⟨⟨by simp only [List.length_append, List.length_take, List.length_drop, hl, hxl, Nat.add_mul]; omega, fun y hy' => by
                    rcases List.mem_append.1 hy' with h | h
                    · rcases List.mem_append.1 h with h | h
                      · exact hxr y (List.mem_of_mem_take h)
                      · exact hy y h
                    · exact hxr y (List.mem_of_mem_drop h)⟩, trivial⟩
                  have hjl := (List.getElem?_eq_some_iff.1 hb).1
                  refine ⟨_, _, σ, _, _, hrun, hK, Sg.agree.refl _ _, ⟨⟨hroom, hs.2⟩, by simp [C.bnd, hjl]⟩, by simp, ho.set hnew rfl, by simp only [C.den, ha], ?_⟩
                  refine hw.set hb rfl (fun q hq => ?_) (by simp) rfl rfl rfl rfl ⟨hrep.1, hrep.2.1, ?_⟩
                  · simp only [World.setRow, Array.getElem?_modify]; rw [if_neg (Ne.symm hq)]
                  · rw [setRow_heap w (σ j).1 _ _ T₀ _ hcur]
                    simp [dens, Seg.den, hsize, hl, Nat.add_mul]
              · exact h.elim
            · exact h.elim
          · exact h.elim
        · exact h.elim
      · exact h.elim
    · exact h.elim
  · exact h.elim
def kAppX (P : Program) (T : TypeId) (H : List Blk) (s x : C) (K : C → List Blk → Prop) : Prop :=
  match tyOf P T with
  | .slice e => match tyOf P e with
    | .int _ => kApp P T H s x K
    | _ => kAppA P T H s x K
  | _ => False
theorem kAppX_spec {P : Program} {G : Glo} {T ty : TypeId} {H : List Blk} {s x : C} {K : C → List Blk → Prop} (h : kAppX P T H s x K) (ho : HOk H) (hs : s.rng) {σ : Sg} {base : Nat} {w₀ w : World} (hw : Rep G σ base w₀ w H) :
    ∃ v w' τ c H', (Builtin.append_ #[T, T] ty #[s.den σ, x.den σ]).run P w = .ok v w' ∧ K c H' ∧ Sg.agree H.length σ τ ∧ (c.rng ∧ c.bnd H'.length = true) ∧ H.length ≤ H'.length ∧ HOk H' ∧ v = c.den τ ∧ Rep G τ base w₀ w' H' := by
  unfold kAppX at h
  split at h
  · split at h
    · exact kApp_spec h ho hs hw
    · exact kAppA_spec h ho hs hw
  · exact h.elim
def kCopy (P : Program) (T : TypeId) (H : List Blk) (d s : C) (K : C → List Blk → Prop) : Prop :=
  match tyOf P T with
  | .slice e => match P.info? e, tyOf P e with
    | some inf, .int k => match Nat.beq inf.size 1 with
      | true => match d with
        | .csl j o i dlen _ => match o with
          | 0 => newsK H k s fun m ys => hGet H j fun b => match b with
            | .own T₀ [.ints k₂ n xs] => match sameK k k₂ with
              | true => i + dlen ≤ n ∧ setH H j (.own T₀ [.ints k n (xs.take i ++ ys.take dlen ++ xs.drop (i + min m dlen))]) fun H' => K (.ci .i64 ((min m dlen : Nat) : Int)) H'
              | false => False
            | _ => False
          | _ + 1 => False
        | _ => False
      | false => False
    | _, _ => False
  | _ => False
theorem kCopy_spec {P : Program} {G : Glo} {T T' ty : TypeId} {H : List Blk} {d s : C} {K : C → List Blk → Prop} (h : kCopy P T H d s K) (ho : HOk H) (hd : d.rng) {σ : Sg} {base : Nat} {w₀ w : World} (hw : Rep G σ base w₀ w H) :
    ∃ v w' τ c H', (Builtin.copy_ #[T, T'] ty #[d.den σ, s.den σ]).run P w = .ok v w' ∧ K c H' ∧ Sg.agree H.length σ τ ∧ (c.rng ∧ c.bnd H'.length = true) ∧ H.length ≤ H'.length ∧ HOk H' ∧ v = c.den τ ∧ Rep G τ base w₀ w' H' := by
  unfold kCopy at h
  split at h
  · rename_i e hty
    have ht := tyOf_slice hty
    split at h
    · rename_i inf k hi hk
      split at h
      · rename_i hsz
        have hsize : inf.size = 1 := Nat.eq_of_beq_eq_true hsz
        split at h
        · rename_i j o i dlen dcap
          split at h
          · obtain ⟨m, ys, h, hl, hy, hx⟩ := newsK_spec h ho
            obtain ⟨a, c, hxd, hnews⟩ := hx G σ base w₀ w hw
            obtain ⟨b, hb, h⟩ := hGet_spec h
            rw [hxd]
            split at h
            · rename_i T₀ k₂ n xs
              split at h
              · rename_i hk2
                obtain rfl := sameK_eq hk2
                obtain ⟨hn, h⟩ := h
                have hrep := hw.blk j _ hb
                have hrng := ho.rng _ (List.mem_of_getElem? hb)
                have hxl : xs.length = n := hrng.1.1
                have hxr := hrng.1.2
                have hcur : w.heap[(σ j).1]? = some (.cells (xs.map (Value.int k)).toArray T₀ (0, 0)) := by
                  have := hrep.2.2
                  simpa [dens, Seg.den] using this
                have ha : σ.at j (0 + i) = ⟨(σ j).1, i, none⟩ := by simp only [Sg.at, hrep.1, Nat.zero_add]
                have hlen : (ys.take dlen).length = min m dlen := by rw [List.length_take, hl, Nat.min_comm]
                have hrun := run_copy_row (P := P) w T T' ty e (σ j).1 i dlen dcap a m c (xs.map (Value.int k)).toArray T₀ ((ys.take dlen).map (Value.int k)) ht (by rw [hi]; simp [hsize]) hcur (by rw [List.length_map, hlen]) (fun q u hu => by
                  refine hnews q u ?_
                  rw [List.map_take] at hu
                  have hq := (List.getElem?_eq_some_iff.1 hu).1
                  rw [List.getElem?_take_of_lt (by simp at hq; omega)] at hu
                  exact hu) (by simp [hl, hxl]; omega) (fun u hu => by
                  obtain ⟨y, _, rfl⟩ := List.mem_map.1 hu
                  rfl)
                have hK := (setH_iff _ _ _ _).1 h
                have hnew : rngs [.ints k n (xs.take i ++ ys.take dlen ++ xs.drop (i + min m dlen))] := ⟨⟨by simp [hl, hxl]; omega, fun y hy' => by
                  rcases List.mem_append.1 hy' with h | h
                  · rcases List.mem_append.1 h with h | h
                    · exact hxr y (List.mem_of_mem_take h)
                    · exact hy y (List.mem_of_mem_take h)
                  · exact hxr y (List.mem_of_mem_drop h)⟩, trivial⟩
                simp only [C.den, ha]
                have hdl : dlen ≤ 9223372036854775807 := Nat.le_trans hd.1 hd.2
                refine ⟨_, _, σ, _, _, hrun, hK, Sg.agree.refl _ _, ⟨⟨by simp only [lowK]; omega, by simp only [highK]; omega⟩, rfl⟩, by simp, ho.set hnew rfl, by simp only [C.den, goInt, List.length_map, hlen], ?_⟩
                refine hw.set hb rfl (fun q hq => ?_) (by simp) rfl rfl rfl rfl ⟨hrep.1, hrep.2.1, ?_⟩
                · simp only [World.setRow, Array.getElem?_modify]; rw [if_neg (Ne.symm hq)]
                · rw [setRow_heap w (σ j).1 _ _ T₀ _ hcur]
                  simp [dens, Seg.den, hl, Nat.min_comm]
              · exact h.elim
            · exact h.elim
          · exact h.elim
        · exact h.elim
      · exact h.elim
    · exact h.elim
  · exact h.elim
end Go.Proofs.YtaficaacogcblaaGreatDoor
