/- One operation's abstract step: what it yields, and what becomes of the heap; its soundness. -/
import Derived.Test.YtaficaacogcblaaGreatDoorXe
set_option linter.all false
namespace Go.Proofs.YtaficaacogcblaaGreatDoor
open Go.RowKit (Below)

/-! ### values of types, read off the program's table -/
def nInts : Nat → List Value → (List Int → List Value → Option (List Seg × List Value)) → IntKind → Option (List Seg × List Value)
  | 0, vs, K, _ => K [] vs
  | n + 1, .int k' x :: vs, K, k => match sameK k k', leI (lowK k) x, leI x (highK k) with
    | true, true, true => nInts n vs (fun xs r => K (x :: xs) r) k
    | _, _, _ => none
  | _ + 1, _, _, _ => none

theorem nInts_spec : ∀ {n : Nat} {vs : List Value} {K : List Int → List Value → Option (List Seg × List Value)} {k : IntKind} {q : List Seg × List Value}, nInts n vs K k = some q →
    ∃ xs r, K xs r = some q ∧ xs.length = n ∧ (∀ x ∈ xs, InK k x) ∧ xs.map (Value.int k) ++ r = vs
  | 0, vs, K, k, q, h => ⟨[], vs, h, rfl, fun _ h => by simp at h, rfl⟩
  | n + 1, .int k' x :: vs, K, k, q, h => by
    simp only [nInts] at h
    split at h
    · rename_i h1 h2 h3
      obtain rfl := sameK_eq h1
      obtain ⟨xs, r, h4, h5, h6, h7⟩ := nInts_spec h
      refine ⟨x :: xs, r, h4, by simp [h5], fun y hy => ?_, by simp [h7]⟩
      rcases List.mem_cons.1 hy with rfl | hy
      · exact ⟨of_decide_eq_true h2, of_decide_eq_true h3⟩
      · exact h6 y hy
    · cases h
  | n + 1, [], _, _, _, h => by simp [nInts] at h
  | n + 1, .bool _ :: _, _, _, _, h | n + 1, .float _ _ :: _, _, _, _, h | n + 1, .complex _ _ _ :: _, _, _, _, h | n + 1, .string _ :: _, _, _, _, h | n + 1, .pointer _ :: _, _, _, _, h
  | n + 1, .slice _ _ _ :: _, _, _, _, h | n + 1, .map _ :: _, _, _, _, h | n + 1, .chan _ :: _, _, _, _, h | n + 1, .func _ _ _ :: _, _, _, _, h | n + 1, .nilFunc :: _, _, _, _, h
  | n + 1, .iface _ _ :: _, _, _, _, h | n + 1, .nilIface :: _, _, _, _, h | n + 1, .agg _ :: _, _, _, _, h | n + 1, .tuple _ :: _, _, _, _, h => by simp [nInts] at h

/-- The cells, cut as the type lies in memory. -/
def cutT (P : Program) : Nat → TypeId → List Value → Option (List Seg × List Value)
  | 0, _, _ => none
  | d + 1, t, vs => match tyOf P t with
    | .arr n e => match tyOf P e with
      | .int k => nInts n vs (fun xs r => some ([.ints k n xs], r)) k
      | .arr m e' => match tyOf P e' with
        | .int k => nInts (n * m) vs (fun xs r => some ([.ints k (n * m) xs], r)) k
        | _ => (List.range n).foldl (fun acc _ => acc.bind fun (ss, vs) => (cutT P d e vs).map fun (s, r) => (ss ++ s, r)) (some ([], vs))
      | _ => (List.range n).foldl (fun acc _ => acc.bind fun (ss, vs) => (cutT P d e vs).map fun (s, r) => (ss ++ s, r)) (some ([], vs))
    | .st fs => fs.foldl (fun acc f => acc.bind fun (ss, vs) => (cutT P d f.2 vs).map fun (s, r) => (ss ++ s, r)) (some ([], vs))
    | _ => match vs with
      | v :: r => (constC v).map fun c => ([.one c], r)
      | [] => none

def CutOk (vs : List Value) (q : List Seg × List Value) : Prop := rngs q.1 ∧ bnds 0 q.1 = true ∧ ∀ σ, dens σ q.1 ++ q.2 = vs

theorem rngs_append : ∀ {a b : List Seg}, rngs a → rngs b → rngs (a ++ b)
  | [], _, _, h => h
  | _ :: _, _, h, k => ⟨h.1, rngs_append h.2 k⟩
theorem bnds_append {n : Nat} : ∀ {a b : List Seg}, bnds n a = true → bnds n b = true → bnds n (a ++ b) = true
  | [], _, _, h => h
  | s :: a, b, h, k => by
    simp only [List.cons_append, bnds, Bool.and_eq_true] at h ⊢
    exact ⟨h.1, bnds_append h.2 k⟩

theorem cut_foldl {α : Type} (f : α → List Value → Option (List Seg × List Value)) (vs₀ : List Value) (hf : ∀ a vs q, f a vs = some q → CutOk vs q) :
    ∀ (l : List α) (acc : Option (List Seg × List Value)) (q : List Seg × List Value), (∀ q, acc = some q → CutOk vs₀ q) →
      l.foldl (fun acc a => acc.bind fun (ss, vs) => (f a vs).map fun (s, r) => (ss ++ s, r)) acc = some q → CutOk vs₀ q
  | [], acc, q, h, e => h q e
  | a :: l, acc, q, h, e => by
    refine cut_foldl f vs₀ hf l _ q (fun q' hq' => ?_) e
    cases acc with
    | none => cases hq'
    | some p =>
      obtain ⟨h1, h2, h3⟩ := h p rfl
      simp only [Option.bind_some] at hq'
      cases hp : f a p.2 with
      | none => rw [hp] at hq'; cases hq'
      | some s =>
        rw [hp] at hq'
        simp at hq'
        subst hq'
        obtain ⟨k1, k2, k3⟩ := hf a _ s hp
        exact ⟨rngs_append h1 k1, bnds_append h2 k2, fun σ => by simp only [dens_append, List.append_assoc, k3 σ, h3 σ]⟩

theorem cutT_spec (P : Program) : ∀ (d : Nat) (t : TypeId) (vs : List Value) (q : List Seg × List Value), cutT P d t vs = some q → CutOk vs q
  | 0, _, _, _, h => by simp [cutT] at h
  | d + 1, t, vs, q, h => by
    simp only [cutT] at h
    split at h
    · split at h
      · rename_i n e _ k _
        obtain ⟨xs, r, h1, h2, h3, h4⟩ := nInts_spec h
        simp at h1
        subst h1
        exact ⟨⟨⟨h2, h3⟩, trivial⟩, rfl, fun σ => by simpa [dens, Seg.den] using h4⟩
      · split at h
        · obtain ⟨xs, r, h1, h2, h3, h4⟩ := nInts_spec h
          simp at h1
          subst h1
          exact ⟨⟨⟨h2, h3⟩, trivial⟩, rfl, fun σ => by simpa [dens, Seg.den] using h4⟩
        · exact cut_foldl (fun (_ : Nat) vs => cutT P d _ vs) vs (fun _ vs q h => cutT_spec P d _ vs q h) _ _ q (fun q hq => by cases hq; exact ⟨trivial, rfl, fun σ => rfl⟩) h
      · exact cut_foldl (fun (_ : Nat) vs => cutT P d _ vs) vs (fun _ vs q h => cutT_spec P d _ vs q h) _ _ q (fun q hq => by cases hq; exact ⟨trivial, rfl, fun σ => rfl⟩) h
    · rename_i fs _
      exact cut_foldl (fun (f : Nat × TypeId) vs => cutT P d f.2 vs) vs (fun f vs q h => cutT_spec P d f.2 vs q h) _ _ q (fun q hq => by cases hq; exact ⟨trivial, rfl, fun σ => rfl⟩) h
    · split at h
      · rename_i v r
        cases hc : constC v with
        | none => rw [hc] at h; cases h
        | some c =>
          rw [hc] at h
          simp at h
          subst h
          obtain ⟨h1, h2, h3⟩ := constC_spec hc
          exact ⟨⟨h1, trivial⟩, by simp only [bnds, Seg.bnd, h2, Bool.and_self], fun σ => by simp [dens, Seg.den, h3 σ]⟩
      · cases h

def cellsV : Value → List Value
  | .agg cs => cs.toList
  | v => [v]
theorem cellsV_eq (v : Value) : v.cells = (cellsV v).toArray := by cases v <;> simp [Value.cells, cellsV]

/-- The zero value's cells. -/
def zeroS (P : Program) (T : TypeId) (K : List Seg → Prop) : Prop :=
  match P.info? T with
  | some inf => match inf.zero with
    | some z => match cutT P 8 T (cellsV z) with
      | some (ss, []) => K ss
      | _ => False
    | none => False
  | none => False
theorem zeroS_spec {P : Program} {T : TypeId} {K : List Seg → Prop} (h : zeroS P T K) : ∃ inf z ss, P.info? T = some inf ∧ inf.zero = some z ∧ K ss ∧ rngs ss ∧ bnds 0 ss = true ∧ ∀ σ, z.cells = (dens σ ss).toArray := by
  unfold zeroS at h
  split at h
  · rename_i inf hi
    split at h
    · rename_i z hz
      split at h
      · rename_i ss hc
        obtain ⟨h1, h2, h3⟩ := cutT_spec P _ _ _ _ hc
        exact ⟨inf, z, ss, hi, hz, h, h1, h2, fun σ => by rw [cellsV_eq, ← h3 σ]; simp⟩
      · exact h.elim
    · exact h.elim
  · exact h.elim

mutual
theorem C.plain {σ : Sg} : (c : C) → c.rng → plainV (c.den σ)
  | .cb _, _ | .ci _ _, _ | .cs _, _ | .cp _ _, _ | .cpi _ _ _, _ | .cnil, _ | .cg _ _, _ | .cgi _ _ _, _ | .csl _ _ _ _ _, _ | .csn, _ | .cm _, _ | .cf _ _, _ | .cmv _ _ _, _ => by simp only [C.den, plainV]
  | .cv _, h => h
end
theorem cells_plain {v : Value} (h : plainV v) : v.cells = #[v] ∧ v.oneCell' = true := by cases v <;> first | exact h.elim | exact ⟨rfl, rfl⟩

theorem W.cells {σ : Sg} {x : W} (h : x.rng) : (x.den σ).cells = (dens σ x.segs).toArray := by
  cases x with
  | c x => rw [W.den, (cells_plain (C.plain (σ := σ) x h)).1]; simp [W.segs, dens, Seg.den]
  | agg ss => rfl
theorem dens_one {σ : Sg} : ∀ {ss : List Seg}, rngs ss → ∀ v ∈ dens σ ss, v.oneCell' = true
  | [], _, v, hv => by simp [dens] at hv
  | .one c :: ss, h, v, hv => by
    simp only [dens, Seg.den, List.cons_append, List.nil_append, List.mem_cons] at hv
    rcases hv with rfl | hv
    · exact (cells_plain (C.plain c h.1)).2
    · exact dens_one h.2 v hv
  | .ints k n xs :: ss, h, v, hv => by
    simp only [dens, Seg.den, List.mem_append, List.mem_map] at hv
    rcases hv with ⟨x, _, rfl⟩ | hv
    · rfl
    · exact dens_one h.2 v hv
theorem W.segs_rng {x : W} (h : x.rng) : rngs x.segs := by
  cases x with
  | c x => exact ⟨h, trivial⟩
  | agg ss => exact h
theorem W.segs_bnd {n : Nat} {x : W} (h : x.bnd n = true) : bnds n x.segs = true := by
  cases x with
  | c x => simp only [W.segs, bnds, Seg.bnd, Bool.and_true]; exact h
  | agg ss => exact h

/-! ### stores -/
def kStore (P : Program) (T : TypeId) (H : List Blk) (c : C) (x : W) (K : Nat → TypeId → List Seg → Prop) : Prop :=
  match P.info? T with
  | none => False
  | some inf => match Nat.beq inf.size (segsLen x.segs) with
    | false => False
    | true => match c with
      | .cp j o => hGet H j fun b => match b with
        | .own T₀ ss => segWr ss o x.segs fun r => K j T₀ r
        | _ => False
      | .cpi j o i => hGet H j fun b => match b with
        | .own T₀ ss => match oneAt ss o with
          | true => segWr ss (o + i) x.segs fun r => K j T₀ r
          | false => segWx ss o i x.segs fun r => K j T₀ r
        | _ => False
      | _ => False

theorem kStore_spec {P : Program} {T : TypeId} {H : List Blk} (ho : HOk H) {c : C} {x : W} {K : Nat → TypeId → List Seg → Prop} (h : kStore P T H c x K) (hx : x.rng) (hb : x.bnd H.length = true) :
    ∃ j T₀ ss r, K j T₀ r ∧ H[j]? = some (.own T₀ ss) ∧ rngs r ∧ bnds H.length r = true ∧ segsLen r = segsLen ss ∧
      ∀ (G : Glo) σ base w₀ w, Rep G σ base w₀ w H → (Instr.storeAt T (c.den σ) (x.den σ)).run P w = .ok () (w.setRow (σ j).1 (dens σ r).toArray) := by
  unfold kStore at h
  split at h
  · exact h.elim
  · rename_i inf hi
    split at h
    · exact h.elim
    · rename_i hsz
      have hsz := Nat.eq_of_beq_eq_true hsz
      have fin : ∀ (j o : Nat) (T₀ : TypeId) (ss r : List Seg), H[j]? = some (.own T₀ ss) → Spliced ss o x.segs r → rngs ss → ∀ (G : Glo) σ base w₀ w, Rep G σ base w₀ w H → ∀ v, v = .pointer (some (σ.at j o)) →
          (Instr.storeAt T v (x.den σ)).run P w = .ok () (w.setRow (σ j).1 (dens σ r).toArray) := by
        intro j o T₀ ss r hj hs hss G σ base w₀ w hr v hv
        subst hv
        obtain ⟨s1, s2, s3, s4, s5⟩ := hs
        obtain ⟨b1, b2, b3⟩ := hr.blk j _ hj
        have hl := dens_len σ hss
        have hln := dens_len σ (W.segs_rng hx)
        have hcs := W.cells (σ := σ) hx
        have := run_storeCells_at P (σ j).1 o T₀ (dens σ x.segs) 0 (dens σ ss).toArray w b3 (by simp; omega) (dens_one (W.segs_rng hx))
        simp only [Instr.storeAt, Instr.sureAddr, storeVar, Sem.run_bind, Sem.run_pure, Result.andThen_ok, run_sizeOf w hi, hcs]
        rw [if_neg (by simp; omega)]
        simp only [Sg.at, b1, Nat.zero_add]
        rw [this, s5 σ]
        simp [hln]
      cases c with
      | cp j o =>
        obtain ⟨b, h1, h2⟩ := hGet_spec h
        cases b with
        | own T₀ ss =>
          have hss := ho.rng _ (List.mem_of_getElem? h1)
          obtain ⟨r, h3, h4⟩ := segWr_spec h2 hss (W.segs_rng hx)
          exact ⟨j, T₀, ss, r, h3, h1, h4.1, h4.2.1 _ (ho.bnd _ (List.mem_of_getElem? h1)) (W.segs_bnd hb), h4.2.2.1, fun G σ base w₀ w hr => fin j o T₀ ss r h1 h4 hss G σ base w₀ w hr _ rfl⟩
        | _ => exact h2.elim
      | cpi j o i =>
        obtain ⟨b, h1, h2⟩ := hGet_spec h
        cases b with
        | own T₀ ss =>
          have hss := ho.rng _ (List.mem_of_getElem? h1)
          have h2' : ∃ r, K j T₀ r ∧ Spliced ss (o + i) x.segs r := by
            simp only at h2
            split at h2
            · exact segWr_spec h2 hss (W.segs_rng hx)
            · exact segWx_spec h2 hss (W.segs_rng hx)
          obtain ⟨r, h3, h4⟩ := h2'
          exact ⟨j, T₀, ss, r, h3, h1, h4.1, h4.2.1 _ (ho.bnd _ (List.mem_of_getElem? h1)) (W.segs_bnd hb), h4.2.2.1, fun G σ base w₀ w hr => fin j (o + i) T₀ ss r h1 h4 hss G σ base w₀ w hr _ rfl⟩
        | _ => exact h2.elim
      | _ => exact h.elim

end Go.Proofs.YtaficaacogcblaaGreatDoor
