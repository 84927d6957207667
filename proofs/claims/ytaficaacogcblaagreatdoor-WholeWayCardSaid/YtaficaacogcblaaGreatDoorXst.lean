/- Strings: a string's bytes appended to a row of bytes. -/
import Derived.Test.YtaficaacogcblaaGreatDoorXap
set_option linter.all false
namespace Go.Proofs.YtaficaacogcblaaGreatDoor
open Go.RowKit (Below)

/-- append(b, s...). -/
def kAppS (P : Program) (T T' : TypeId) (H : List Blk) (s x : C) (K : C → List Blk → Prop) : Prop :=
  match tyOf P T, tyOf P T' with
  | .slice e, .str => match P.info? e with
    | some inf => match tyOf P e, inf.zero with
      | .int .u8, some (.int .u8 z) => match Nat.beq inf.size 1 with
        | true => match x with
          | .cs t => match s with
            | .csn => (z = 0 ∧ 0 < t.size ∧ t.size * inf.bytes ≤ 281474976710656) ∧ freshK e .u8 H t.size (bytesI t) K
            | .csl j 0 0 len cap => hGet H j fun b => match b with
              | .own T₀ [.ints .u8 n xs] => match Nat.beq T₀ e with
                | true => (z = 0 ∧ n = cap ∧ len + t.size ≤ 9223372036854775807 ∧ (len + t.size) * inf.bytes ≤ 140737488355328) ∧
                  (len + t.size ≤ cap → setH H j (.own T₀ [.ints .u8 n (xs.take len ++ bytesI t ++ xs.drop (len + t.size))]) fun H' => K (.csl j 0 0 (len + t.size) cap) H') ∧
                  (cap < len + t.size → freshK e .u8 H (len + t.size) (xs.take len ++ bytesI t) K)
                | false => False
              | _ => False
            | _ => False
          | _ => False
        | false => False
      | _, _ => False
    | none => False
  | _, _ => False

theorem kAppS_spec {P : Program} {G : Glo} {T T' ty : TypeId} {H : List Blk} {s x : C} {K : C → List Blk → Prop} (h : kAppS P T T' H s x K) (ho : HOk H) (hs : s.rng) (hxr : x.rng) {σ : Sg} {base : Nat} {w₀ w : World} (hw : Rep G σ base w₀ w H) :
    ∃ v w' τ c H', (Builtin.append_ #[T, T'] ty #[s.den σ, x.den σ]).run P w = .ok v w' ∧ K c H' ∧ Sg.agree H.length σ τ ∧ (c.rng ∧ c.bnd H'.length = true) ∧ H.length ≤ H'.length ∧ HOk H' ∧ v = c.den τ ∧ Rep G τ base w₀ w' H' := by
  unfold kAppS at h
  split at h
  · rename_i e hty hty'
    have ht := tyOf_slice hty
    have hu := tyOf_str hty'
    split at h
    · rename_i inf hi
      split at h
      · rename_i z hk hz
        split at h
        · rename_i hsz
          have hsize : inf.size = 1 := Nat.eq_of_beq_eq_true hsz
          split at h
          · rename_i t
            have h63t : t.size ≤ 9223372036854775807 := hxr
            have hl : (bytesI t).length = t.size := bytesI_len t
            have hy := bytesI_in t
            split at h
            · obtain ⟨⟨rfl, h0, h48⟩, h⟩ := h
              have hrun := run_append_nil_string (P := P) w T T' ty e inf (.int .u8 0) ht hu hi hz t h0 (by omega) h48
              have hc := grownCap_ge w t.size 0 e
              have hc' := grownCap_le_maxLen w t.size 0 e (by simpa only [maxLen] using h63t)
              obtain ⟨τ, x', H', k1, k2, k3, k4, k5, k6, k7⟩ := freshK_spec h ho hl hy hw hc (by simpa only [maxLen] using hc')
              refine ⟨_, _, τ, x', H', hrun, k1, k2, k3, k4, k5, k6.symm, ?_⟩
              have e1 : (Value.int IntKind.u8 0).cells = #[Value.int .u8 0] := rfl
              have e2 : t.data.map (fun b => Value.int .u8 b.toNat) = ((bytesI t).map (Value.int .u8)).toArray := by
                apply Array.ext'
                simp [bytesI]
              rw [e1, e2]
              exact k7
            · rename_i j len cap
              have hlc : len ≤ cap := hs.1
              obtain ⟨b, hb, h⟩ := hGet_spec h
              split at h
              · rename_i T₀ n xs
                split at h
                · rename_i hT
                  obtain rfl := Nat.eq_of_beq_eq_true hT
                  obtain ⟨⟨rfl, rfl, h63, h48⟩, hin, hgr⟩ := h
                  have hrep := hw.blk j _ hb
                  have hrng := ho.rng _ (List.mem_of_getElem? hb)
                  have hxl : xs.length = n := hrng.1.1
                  have hxr := hrng.1.2
                  have ha : σ.at j (0 + 0) = ⟨(σ j).1, 0, none⟩ := by simp only [Sg.at, hrep.1]
                  have hcur : w.heap[(σ j).1]? = some (.cells (xs.map (Value.int .u8)).toArray T₀ (0, 0)) := by
                    have := hrep.2.2
                    simpa [dens, Seg.den] using this
                  simp only [C.den, ha]
                  rcases Nat.lt_or_ge n (len + t.size) with hg | hroom
                  · have holds : ∀ (q : Nat) (u : Value), ((xs.take len).map (Value.int .u8))[q]? = some u → w.cell? ((⟨(σ j).1, 0, none⟩ : Addr).add q) = some u := fun q u hu => by
                      have hq := (List.getElem?_eq_some_iff.1 hu).1
                      have hq1 : q < len := by simp at hq; omega
                      have := (rep_reads hw (.inl ⟨_, hb⟩) 0).cell q u (by
                        simp only [List.map_take] at hu
                        rw [List.getElem?_take_of_lt hq1] at hu
                        simpa [dens, Seg.den] using hu)
                      rw [add_ne rfl]
                      simpa [Sg.at, hrep.1] using this
                    have hol : ((xs.take len).map (Value.int .u8)).length = len * inf.size := by simp [hsize]; omega
                    have hrun := Lib.run_append_grow_string (P := P) w T T' ty T₀ inf (.int .u8 0) ht hu hi hz ⟨(σ j).1, 0, none⟩ len n ((xs.take len).map (Value.int .u8)) hol holds t hg (by omega) (growslice_fits hg h48)
                    have hc := grownCap_ge w (len + t.size) n T₀
                    have hc' := grownCap_le_maxLen w (len + t.size) n T₀ (by simpa only [maxLen] using h63)
                    obtain ⟨τ, x', H', k1, k2, k3, k4, k5, k6, k7⟩ := freshK_spec (hgr hg) ho (by simp [hl]; omega) (fun y hy' => by
                      rcases List.mem_append.1 hy' with h | h
                      · exact hxr y (List.mem_of_mem_take h)
                      · exact hy y h) hw hc (by simpa only [maxLen] using hc')
                    refine ⟨_, _, τ, x', H', hrun, k1, k2, k3, k4, k5, k6.symm, ?_⟩
                    rw [strCells_eq]
                    simpa [List.map_append, show (Value.int IntKind.u8 0).cells = #[Value.int .u8 0] from rfl] using k7
                  · have hrun := Lib.run_append_room_string (P := P) w T T' ty T₀ inf ht hu hi hsize (σ j).1 len n _ hcur t hroom (by simp [hxl]; omega)
                    have hK := (setH_iff _ _ _ _).1 (hin hroom)
                    have hnew : rngs [.ints .u8 n (xs.take len ++ bytesI t ++ xs.drop (len + t.size))] := ⟨⟨by simp [hl, hxl]; omega, fun y hy' => by
                      rcases List.mem_append.1 hy' with h | h
                      · rcases List.mem_append.1 h with h | h
                        · exact hxr y (List.mem_of_mem_take h)
                        · exact hy y h
                      · exact hxr y (List.mem_of_mem_drop h)⟩, trivial⟩
                    have hjl := (List.getElem?_eq_some_iff.1 hb).1
                    refine ⟨_, _, σ, _, _, hrun, hK, Sg.agree.refl _ _, ⟨⟨hroom, hs.2⟩, by simp [C.bnd, hjl]⟩, by simp, ho.set hnew rfl, by simp only [C.den, ha], ?_⟩
                    refine hw.set hb rfl (fun q hq => ?_) (by simp) rfl rfl rfl rfl ⟨hrep.1, hrep.2.1, ?_⟩
                    · simp only [World.setRow, Array.getElem?_modify]; rw [if_neg (Ne.symm hq)]
                    · rw [setRow_heap w (σ j).1 _ _ T₀ _ hcur, strCells_eq]
                      simp [dens, Seg.den]
                · exact h.elim
              · exact h.elim
            · exact h.elim
          · exact h.elim
        · exact h.elim
      · exact h.elim
    · exact h.elim
  · exact h.elim

end Go.Proofs.YtaficaacogcblaaGreatDoor
