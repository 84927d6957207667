/- Strings: a string's bytes appended to a row of bytes; bytes as a string. -/
import Derived.Test.YtbgjmlncdlcglaaXap
import Derived.Lib.AppendStr
import Derived.Laws.BytesArg
set_option linter.all false
namespace Go.Proofs.Ytbgjmlncdlcglaa
open Go.RowKit (Below)

/-- A string's bytes, as numbers. -/
def bytesI (s : ByteArray) : List Int := s.data.toList.map fun b => (b.toNat : Int)
theorem bytesI_len (s : ByteArray) : (bytesI s).length = s.size := by
  rw [bytesI, List.length_map, Array.length_toList]; rfl
theorem bytesI_in (s : ByteArray) : ∀ y ∈ bytesI s, InK .u8 y := by
  intro y hy
  obtain ⟨b, _, rfl⟩ := List.mem_map.1 hy
  have := b.toNat_lt
  simp only [InK, lowK, highK]; omega
theorem strCells_eq (s : ByteArray) : Lib.strCells s = (bytesI s).map (Value.int .u8) := by
  simp [Lib.strCells, bytesI]
theorem bytesI_str {xs : List Int} (h : ∀ x ∈ xs, InK .u8 x) : bytesI (strOfNums xs) = xs := by
  simp only [bytesI, strOfNums_data, List.map_map]
  conv => rhs; rw [← List.map_id xs]
  refine List.map_congr_left fun x hx => ?_
  have := h x hx
  simp only [InK, lowK, highK] at this
  have hx' : (UInt8.ofNat x.toNat).toNat = x.toNat := by
    rw [UInt8.toNat_ofNat']; omega
  simp only [Function.comp_apply, hx', id]
  omega
theorem str_bytesI (s : ByteArray) : strOfNums (bytesI s) = s := by
  cases s with
  | mk d =>
    simp only [strOfNums, bytesI, List.map_map]
    congr 1
    apply Array.ext'
    rw [List.toList_toArray]
    conv => rhs; rw [← List.map_id d.toList]
    refine List.map_congr_left fun b _ => ?_
    simp
theorem str_append (xs ys : List Int) : strOfNums xs ++ strOfNums ys = strOfNums (xs ++ ys) := by
  apply ByteArray.ext
  simp [strOfNums, ByteArray.data_append]
theorem str_inj {xs ys : List Int} (hx : ∀ x ∈ xs, InK .u8 x) (hy : ∀ x ∈ ys, InK .u8 x) (h : strOfNums xs = strOfNums ys) : xs = ys := by
  rw [← bytesI_str hx, ← bytesI_str hy, h]

/-- append(b, s...). -/
def kAppS (P : Program) (T T' : TypeId) (H : List Blk) (s x : C) (K : C → List Blk → Prop) : Prop :=
  match tyOf P T, tyOf P T' with
  | .slice e, .str => match P.info? e with
    | some inf => match tyOf P e, inf.zero with
      | .int .u8, some (.int .u8 z) => match Nat.beq inf.size 1 with
        | true => match x with
          | .cs t => match s with
            | .csn => (z = 0 ∧ 0 < t.size ∧ t.size * inf.bytes ≤ 281474976710656) ∧ freshK e .u8 H t.size (bytesI t) K
            | .csl j 0 0 len cap => hGet H j fun b => match b with
              | .own T₀ [.ints .u8 n xs] => match Nat.beq T₀ e with
                | true => (z = 0 ∧ n = cap ∧ len + t.size ≤ 9223372036854775807 ∧ (len + t.size) * inf.bytes ≤ 140737488355328) ∧
                  (len + t.size ≤ cap → setH H j (.own T₀ [.ints .u8 n (xs.take len ++ bytesI t ++ xs.drop (len + t.size))]) fun H' => K (.csl j 0 0 (len + t.size) cap) H') ∧
                  (cap < len + t.size → freshK e .u8 H (len + t.size) (xs.take len ++ bytesI t) K)
                | false => False
              | _ => False
            | _ => False
          | _ => False
        | false => False
      | _, _ => False
    | none => False
  | _, _ => False

theorem kAppS_spec {P : Program} {G : Glo} {T T' ty : TypeId} {H : List Blk} {s x : C} {K : C → List Blk → Prop} (h : kAppS P T T' H s x K) (ho : HOk H) (hs : s.rng) (hxr : x.rng) {σ : Sg} {base : Nat} {w₀ w : World} (hw : Rep G σ base w₀ w H) :
    ∃ v w' τ c H', (Builtin.append_ #[T, T'] ty #[s.den σ, x.den σ]).run P w = .ok v w' ∧ K c H' ∧ Sg.agree H.length σ τ ∧ (c.rng ∧ c.bnd H'.length = true) ∧ H.length ≤ H'.length ∧ HOk H' ∧ v = c.den τ ∧ Rep G τ base w₀ w' H' := by
  unfold kAppS at h
  split at h
  · rename_i e hty hty'
    have ht := tyOf_slice hty
    have hu := tyOf_str hty'
    split at h
    · rename_i inf hi
      split at h
      · rename_i z hk hz
        split at h
        · rename_i hsz
          have hsize : inf.size = 1 := Nat.eq_of_beq_eq_true hsz
          split at h
          · rename_i t
            have h63t : t.size ≤ 9223372036854775807 := hxr
            have hl : (bytesI t).length = t.size := bytesI_len t
            have hy := bytesI_in t
            split at h
            · obtain ⟨⟨rfl, h0, h48⟩, h⟩ := h
              have hrun := run_append_nil_string (P := P) w T T' ty e inf (.int .u8 0) ht hu hi hz t h0 (by omega) h48
              have hc := grownCap_ge w t.size 0 e
              have hc' := grownCap_le_maxLen w t.size 0 e (by simpa only [maxLen] using h63t)
              obtain ⟨τ, x', H', k1, k2, k3, k4, k5, k6, k7⟩ := freshK_spec h ho hl hy hw hc (by simpa only [maxLen] using hc')
              refine ⟨_, _, τ, x', H', hrun, k1, k2, k3, k4, k5, k6.symm, ?_⟩
              have e1 : (Value.int IntKind.u8 0).cells = #[Value.int .u8 0] := rfl
              have e2 : t.data.map (fun b => Value.int .u8 b.toNat) = ((bytesI t).map (Value.int .u8)).toArray := by
                apply Array.ext'
                simp [bytesI]
              rw [e1, e2]
              exact k7
            · rename_i j len cap
              have hlc : len ≤ cap := hs.1
              obtain ⟨b, hb, h⟩ := hGet_spec h
              split at h
              · rename_i T₀ n xs
                split at h
                · rename_i hT
                  obtain rfl := Nat.eq_of_beq_eq_true hT
                  obtain ⟨⟨rfl, rfl, h63, h48⟩, hin, hgr⟩ := h
                  have hrep := hw.blk j _ hb
                  have hrng := ho.rng _ (List.mem_of_getElem? hb)
                  have hxl : xs.length = n := hrng.1.1
                  have hxr := hrng.1.2
                  have ha : σ.at j (0 + 0) = ⟨(σ j).1, 0, none⟩ := by simp only [Sg.at, hrep.1]
                  have hcur : w.heap[(σ j).1]? = some (.cells (xs.map (Value.int .u8)).toArray T₀ (0, 0)) := by
                    have := hrep.2.2
                    simpa [dens, Seg.den] using this
                  simp only [C.den, ha]
                  rcases Nat.lt_or_ge n (len + t.size) with hg | hroom
                  · have holds : ∀ (q : Nat) (u : Value), ((xs.take len).map (Value.int .u8))[q]? = some u → w.cell? ((⟨(σ j).1, 0, none⟩ : Addr).add q) = some u := fun q u hu => by
                      have hq := (List.getElem?_eq_some_iff.1 hu).1
                      have hq1 : q < len := by simp at hq; omega
                      have := (rep_reads hw (.inl ⟨_, hb⟩) 0).cell q u (by
                        simp only [List.map_take] at hu
                        rw [List.getElem?_take_of_lt hq1] at hu
                        simpa [dens, Seg.den] using hu)
                      rw [add_ne rfl]
                      simpa [Sg.at, hrep.1] using this
                    have hol : ((xs.take len).map (Value.int .u8)).length = len * inf.size := by simp [hsize]; omega
                    have hrun := Lib.run_append_grow_string (P := P) w T T' ty T₀ inf (.int .u8 0) ht hu hi hz ⟨(σ j).1, 0, none⟩ len n ((xs.take len).map (Value.int .u8)) hol holds t hg (by omega) (growslice_fits hg h48)
                    have hc := grownCap_ge w (len + t.size) n T₀
                    have hc' := grownCap_le_maxLen w (len + t.size) n T₀ (by simpa only [maxLen] using h63)
                    obtain ⟨τ, x', H', k1, k2, k3, k4, k5, k6, k7⟩ := freshK_spec (hgr hg) ho (by simp [hl]; omega) (fun y hy' => by
                      rcases List.mem_append.1 hy' with h | h
                      · exact hxr y (List.mem_of_mem_take h)
                      · exact hy y h) hw hc (by simpa only [maxLen] using hc')
                    refine ⟨_, _, τ, x', H', hrun, k1, k2, k3, k4, k5, k6.symm, ?_⟩
                    rw [strCells_eq]
                    simpa [List.map_append, show (Value.int IntKind.u8 0).cells = #[Value.int .u8 0] from rfl] using k7
                  · have hrun := Lib.run_append_room_string (P := P) w T T' ty T₀ inf ht hu hi hsize (σ j).1 len n _ hcur t hroom (by simp [hxl]; omega)
                    have hK := (setH_iff _ _ _ _).1 (hin hroom)
                    have hnew : rngs [.ints .u8 n (xs.take len ++ bytesI t ++ xs.drop (len + t.size))] := ⟨⟨by simp [hl, hxl]; omega, fun y hy' => by
                      rcases List.mem_append.1 hy' with h | h
                      · rcases List.mem_append.1 h with h | h
                        · exact hxr y (List.mem_of_mem_take h)
                        · exact hy y h
                      · exact hxr y (List.mem_of_mem_drop h)⟩, trivial⟩
                    have hjl := (List.getElem?_eq_some_iff.1 hb).1
                    refine ⟨_, _, σ, _, _, hrun, hK, Sg.agree.refl _ _, ⟨⟨hroom, hs.2⟩, by simp [C.bnd, hjl]⟩, by simp, ho.set hnew rfl, by simp only [C.den, ha], ?_⟩
                    refine hw.set hb rfl (fun q hq => ?_) (by simp) rfl rfl rfl rfl ⟨hrep.1, hrep.2.1, ?_⟩
                    · simp only [World.setRow, Array.getElem?_modify]; rw [if_neg (Ne.symm hq)]
                    · rw [setRow_heap w (σ j).1 _ _ T₀ _ hcur, strCells_eq]
                      simp [dens, Seg.den]
                · exact h.elim
              · exact h.elim
            · exact h.elim
          · exact h.elim
        · exact h.elim
      · exact h.elim
    · exact h.elim
  · exact h.elim

/-- Bytes as a string. -/
def kStr (P : Program) (s d : TypeId) (H : List Blk) (x : C) (K : C → Prop) : Prop :=
  match tyOf P d, tyOf P s with
  | .str, .slice e => match tyOf P e with
    | .int .u8 => match x with
      | .csn => K (.cs ByteArray.empty)
      | x => newsK H .u8 x fun m ys => m ≤ 9223372036854775807 ∧ K (.cs (strOfNums ys))
    | _ => False
  | _, _ => False
theorem kStr_spec {P : Program} {G : Glo} {s d : TypeId} {H : List Blk} {x : C} {K : C → Prop} (h : kStr P s d H x K) (ho : HOk H) :
    ∃ c : C, c.rng ∧ c.bnd 0 = true ∧ K c ∧ ∀ σ base w₀ w, Rep G σ base w₀ w H → (convert s d (x.den σ)).run P w = .ok (c.den σ) w := by
  unfold kStr at h
  split at h
  · rename_i e hd hs
    have hd' := tyOf_str hd
    have hs' := tyOf_slice hs
    split at h
    · rename_i he
      have he' := tyOf_int he
      split at h
      · exact ⟨.cs ByteArray.empty, Nat.zero_le _, rfl, h, fun σ base w₀ w hw => by simp only [C.den]; exact run_convert_bytes_nil w s e hs' he' 0 0 d hd'⟩
      · obtain ⟨m, ys, ⟨hm, h⟩, hl, hy, hx⟩ := newsK_spec h ho
        refine ⟨.cs (strOfNums ys), ?_, rfl, h, fun σ base w₀ w hw => ?_⟩
        · show (strOfNums ys).size ≤ _
          rw [strOfNums_size, hl]; exact hm
        · obtain ⟨a, c, hxd, hnews⟩ := hx G σ base w₀ w hw
          have hload : (loadCells a m).run P w = .ok (ys.map (Value.int .u8)).toArray w := by
            have := run_loadCells_list (P := P) w a (ys.map (Value.int .u8)) hnews
            simpa [hl] using this
          rw [hxd, run_convert_bytes_string w s d e _ m c hs' he' hd', run_bytesToString w a m c ys hload, foldl_push_bytes]
          simp [strOfNums, ByteArray.empty, ByteArray.emptyWithCapacity, C.den]
          rfl
    · exact h.elim
  · exact h.elim
def xstr (P : Program) (o : Oper) (fr : List V) (H : List Blk) (K : V → List Blk → Prop) : Prop :=
  match o.op with
  | .convert s d x => evC fr x fun c => kStr P s d H c fun c => K (.w (.c c)) H
  | _ => False
theorem xstr_spec {P : Program} {E : Env} {o : Oper} {fr : List V} {H : List Blk} {K : V → List Blk → Prop} (h : xstr P o fr H K) (hf : FOk H.length fr) (ho : HOk H) {σ : Sg} {a : Act} {base : Nat} {w₀ w : World}
    (hr : FRep σ a fr) (hw : Rep E.G σ base w₀ w H) {N : Act → World → Prop} {Q : Exit → Act → World → Prop}
    (next : ∀ τ x H' v w', K x H' → Sg.agree H.length σ τ → x.rep τ v → Rep E.G τ base w₀ w' H' → HOk H' → x.ok H'.length → H.length ≤ H'.length → N (a.put o.dst v) w') : o.wp P a w N Q := by
  obtain ⟨dst, op, ty, pos, after, guard⟩ := o
  cases op <;> simp only [xstr] at h
  case convert s d x =>
    obtain ⟨c, c1, c2, h, c4⟩ := evC_spec hf h
    obtain ⟨e, d1, d2, d3, d4⟩ := kStr_spec (G := E.G) h ho
    have hex : (execOp a.eval { dst, op := .convert s d x, type := ty, pos, after, guard }).run P w = .ok (.value (e.den σ)) w := by
      simp [execOp, c4 σ a hr, d4 σ base w₀ w hw]
    unfold Oper.wp
    rw [hex]
    exact next σ _ _ _ _ d3 (Sg.agree.refl _ _) rfl hw ho ⟨d1, C.bnd_mono (Nat.zero_le _) e d2⟩ (Nat.le_refl _)
end Go.Proofs.Ytbgjmlncdlcglaa
