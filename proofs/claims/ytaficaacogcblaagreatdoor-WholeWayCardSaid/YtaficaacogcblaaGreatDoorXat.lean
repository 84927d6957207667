/- append, of one string to a row of strings: what it leaves. (Printed by mkat.py.) -/
import Derived.Test.YtaficaacogcblaaGreatDoorXac
set_option linter.all false
namespace Go.Proofs.YtaficaacogcblaaGreatDoor
open Go.RowKit (Below)

def freshT (e : TypeId) (H : List Blk) (m : Nat) (ys : List C) (K : C → List Blk → Prop) : Prop :=
  ∀ c : Nat, m ≤ c → c ≤ 9223372036854775807 → lenH H 0 fun n => pushH H (.own e (ones (ys ++ List.replicate (c - m) (.cs ⟨#[]⟩)))) fun H' => K (.csl n 0 0 m c) H'
theorem zeroCells_str (n : Nat) : Builtin.zeroCells #[.string ⟨#[]⟩] n = (List.replicate n (Value.string ⟨#[]⟩)).toArray := by
  apply Array.ext
  · simp [Builtin.zeroCells]
  · intro i h1 h2
    simp [Builtin.zeroCells, Nat.mod_one]
theorem freshT_spec {G : Glo} {e : TypeId} {H : List Blk} {m : Nat} {ys : List C} {K : C → List Blk → Prop} (h : freshT e H m ys K) (ho : HOk H) (hl : ys.length = m) (hy : ∀ y ∈ ys, y.rng) (hyb : ∀ y ∈ ys, y.bnd H.length = true) {σ : Sg} {base : Nat} {w₀ w : World} (hw : Rep G σ base w₀ w H)
    {c : Nat} (hc : m ≤ c) (hc' : c ≤ 9223372036854775807) : ∃ τ x H', K x H' ∧ Sg.agree H.length σ τ ∧ (x.rng ∧ x.bnd H'.length = true) ∧ H.length ≤ H'.length ∧ HOk H' ∧ x.den τ = .slice (some ⟨w.heap.size, 0, none⟩) m c ∧
      Rep G τ base w₀ (w.drew.alloc (.cells ((ys.map (C.den σ)).toArray ++ Builtin.zeroCells #[.string ⟨#[]⟩] (c - m)) e)) H' := by
  have h := h c hc hc'
  rw [lenH_iff, pushH_iff, Nat.zero_add] at h
  have hag := Sg.upd_agree σ H.length (w.heap.size, 0)
  have hr : (Blk.own e (ones (ys ++ List.replicate (c - m) (.cs ⟨#[]⟩)))).rng := rngs_ones.2 fun x hx => by
    rcases List.mem_append.1 hx with h | h
    · exact hy x h
    · rw [(List.mem_replicate.1 h).2]; exact Nat.zero_le _
  have hb : (Blk.own e (ones (ys ++ List.replicate (c - m) (.cs ⟨#[]⟩)))).bnd H.length = true := bnds_ones.2 fun x hx => by
    rcases List.mem_append.1 hx with h | h
    · exact hyb x h
    · rw [(List.mem_replicate.1 h).2]; rfl
  refine ⟨σ.upd H.length (w.heap.size, 0), _, _, h, hag, ⟨⟨hc, hc'⟩, by simp [C.bnd]⟩, by simp, ho.push hr hb, ?_, ?_⟩
  · simp only [C.den, Sg.at, Sg.upd_self]
  · refine (hw.drew).push ho _ _ ⟨by rw [Sg.upd_self], by rw [Sg.upd_self]; exact Nat.le_trans hw.size hw.below.size, ?_⟩
    have e1 : dens (σ.upd H.length (w.drew.heap.size, 0)) (ones (ys ++ List.replicate (c - m) (C.cs ⟨#[]⟩))) = dens σ (ones (ys ++ List.replicate (c - m) (C.cs ⟨#[]⟩))) := (dens_agree hag _ hb).symm
    rw [Sg.upd_self, zeroCells_str, e1, dens_ones]
    show (w.heap.push _)[w.heap.size]? = _
    simp [C.den]

/-- append(s, x) of strings, x a slice of one. -/
def kAppT (P : Program) (T : TypeId) (H : List Blk) (s x : C) (K : C → List Blk → Prop) : Prop :=
  match tyOf P T with
  | .slice e => match P.info? e with
    | some inf => match Nat.beq inf.size 1 with
      | true => inf.zero = some (.string ⟨#[]⟩) ∧ newsC H x fun c => match s with
        | .csn => inf.bytes ≤ 281474976710656 ∧ freshT e H 1 [c] K
        | .csl j 0 0 len cap => hGet H j fun b => match b with
          | .own T₀ ss => match Nat.beq T₀ e with
            | true => ∃ cs, ss = ones cs ∧ (cs.length = cap ∧ len + 1 ≤ 9223372036854775807 ∧ (len + 1) * inf.bytes ≤ 140737488355328) ∧
              (len + 1 ≤ cap → setH H j (.own T₀ (ones (cs.take len ++ [c] ++ cs.drop (len + 1)))) fun H' => K (.csl j 0 0 (len + 1) cap) H') ∧
              (cap < len + 1 → freshT e H (len + 1) (cs.take len ++ [c]) K)
            | false => False
          | _ => False
        | _ => False
      | false => False
    | none => False
  | _ => False
theorem kAppT_spec {P : Program} {G : Glo} {T ty : TypeId} {H : List Blk} {s x : C} {K : C → List Blk → Prop} (h : kAppT P T H s x K) (ho : HOk H) (hs : s.rng) {σ : Sg} {base : Nat} {w₀ w : World} (hw : Rep G σ base w₀ w H) :
    ∃ v w' τ c H', (Builtin.append_ #[T, T] ty #[s.den σ, x.den σ]).run P w = .ok v w' ∧ K c H' ∧ Sg.agree H.length σ τ ∧ (c.rng ∧ c.bnd H'.length = true) ∧ H.length ≤ H'.length ∧ HOk H' ∧ v = c.den τ ∧ Rep G τ base w₀ w' H' := by
  unfold kAppT at h
  split at h
  · rename_i e hty
    have ht := tyOf_slice hty
    split at h
    · rename_i inf hi
      split at h
      · rename_i hsz
        obtain ⟨hz, h⟩ := h
        have hsize : inf.size = 1 := Nat.eq_of_beq_eq_true hsz
        obtain ⟨y, h, hyr, hyb, hx⟩ := newsC_spec h ho
        obtain ⟨a, q, hxd, hnews⟩ := hx G σ base w₀ w hw
        have hl1 : [y.den σ].length = 1 * inf.size := by simp [hsize]
        rw [hxd]
        split at h
        · obtain ⟨h48, h⟩ := h
          have hrun := run_append_nil (P := P) w T ty e inf (.string ⟨#[]⟩) ht hi hz a 1 q [y.den σ] hl1 hnews (by omega) (by omega) (by omega)
          have hc := grownCap_ge w 1 0 e
          have hc' := grownCap_le_maxLen w 1 0 e (by simp only [maxLen]; omega)
          obtain ⟨τ, x', H', k1, k2, k3, k4, k5, k6, k7⟩ := freshT_spec h ho rfl (fun z hz => by rw [List.mem_singleton.1 hz]; exact hyr) (fun z hz => by rw [List.mem_singleton.1 hz]; exact hyb) hw hc (by simpa only [maxLen] using hc')
          exact ⟨_, _, τ, x', H', hrun, k1, k2, k3, k4, k5, k6.symm, k7⟩
        · rename_i j len cap _
          have hlc : len ≤ cap := hs.1
          obtain ⟨b, hb, h⟩ := hGet_spec h
          split at h
          · rename_i T₀ ss
            split at h
            · rename_i hT
              obtain rfl := Nat.eq_of_beq_eq_true hT
              obtain ⟨cs, rfl, ⟨hcl, h63, h48⟩, hin, hgr⟩ := h
              have hrep := hw.blk j _ hb
              have hxr := rngs_ones.1 (ho.rng _ (List.mem_of_getElem? hb))
              have hxb := bnds_ones.1 (ho.bnd _ (List.mem_of_getElem? hb))
              have ha : σ.at j (0 + 0) = ⟨(σ j).1, 0, none⟩ := by simp only [Sg.at, hrep.1]
              have hcur : w.heap[(σ j).1]? = some (.cells (cs.map (C.den σ)).toArray T₀ (0, 0)) := by
                have := hrep.2.2
                rw [dens_ones] at this
                exact this
              simp only [C.den, ha]
              rcases Nat.lt_or_ge cap (len + 1) with hg | hroom
              · have holds : ∀ (q : Nat) (u : Value), ((cs.take len).map (C.den σ))[q]? = some u → w.cell? ((⟨(σ j).1, 0, none⟩ : Addr).add q) = some u := fun q u hu => by
                  have hq := (List.getElem?_eq_some_iff.1 hu).1
                  have hq1 : q < len := by simp at hq; omega
                  have := (rep_reads hw (.inl ⟨_, hb⟩) 0).cell q u (by
                    rw [dens_ones]
                    simp only [List.map_take] at hu
                    rw [List.getElem?_take_of_lt hq1] at hu
                    simpa using hu)
                  rw [add_ne rfl]
                  simpa [Sg.at, hrep.1] using this
                have hol : ((cs.take len).map (C.den σ)).length = len * inf.size := by simp [hsize]; omega
                have hrun := run_append_grow (P := P) w T ty T₀ inf (.string ⟨#[]⟩) ht hi hz ⟨(σ j).1, 0, none⟩ len cap ((cs.take len).map (C.den σ)) hol holds a 1 q [y.den σ] hl1 hnews hg (by omega) (growslice_fits hg h48)
                have hc := grownCap_ge w (len + 1) cap T₀
                have hc' := grownCap_le_maxLen w (len + 1) cap T₀ (by simpa only [maxLen] using h63)
                obtain ⟨τ, x', H', k1, k2, k3, k4, k5, k6, k7⟩ := freshT_spec (hgr hg) ho (by simp; omega) (fun z hz' => by
                  rcases List.mem_append.1 hz' with h | h
                  · exact hxr z (List.mem_of_mem_take h)
                  · rw [List.mem_singleton.1 h]; exact hyr) (fun z hz' => by
                  rcases List.mem_append.1 hz' with h | h
                  · exact hxb z (List.mem_of_mem_take h)
                  · rw [List.mem_singleton.1 h]; exact hyb) hw hc (by simpa only [maxLen] using hc')
                refine ⟨_, _, τ, x', H', hrun, k1, k2, k3, k4, k5, k6.symm, ?_⟩
                simpa [List.map_append, show (Value.string ⟨#[]⟩).cells = #[Value.string ⟨#[]⟩] from rfl] using k7
              · have hrun := run_append_room (P := P) w T ty T₀ inf ht hi (σ j).1 len cap _ hcur a 1 q [y.den σ] hl1 hnews (fun u hu => by
                  refine dens_one (ss := [.one y]) (σ := σ) ⟨hyr, trivial⟩ u ?_
                  simpa [dens, Seg.den] using hu) hroom (by simp [hsize, hcl]; omega)
                have hK := (setH_iff _ _ _ _).1 (hin hroom)
                have hall : ∀ z ∈ cs.take len ++ [y] ++ cs.drop (len + 1), z.rng ∧ z.bnd H.length = true := fun z hz' => by
                  rcases List.mem_append.1 hz' with h | h
                  · rcases List.mem_append.1 h with h | h
                    · exact ⟨hxr z (List.mem_of_mem_take h), hxb z (List.mem_of_mem_take h)⟩
                    · rw [List.mem_singleton.1 h]; exact ⟨hyr, hyb⟩
                  · exact ⟨hxr z (List.mem_of_mem_drop h), hxb z (List.mem_of_mem_drop h)⟩
                have hjl := (List.getElem?_eq_some_iff.1 hb).1
                refine ⟨_, _, σ, _, _, hrun, hK, Sg.agree.refl _ _, ⟨⟨hroom, hs.2⟩, by simp [C.bnd, hjl]⟩, by simp, ho.set (rngs_ones.2 fun z hz => (hall z hz).1) (bnds_ones.2 fun z hz => (hall z hz).2), by simp only [C.den, ha], ?_⟩
                refine hw.set hb rfl (fun q hq => ?_) (by simp) rfl rfl rfl rfl ⟨hrep.1, hrep.2.1, ?_⟩
                · simp only [World.setRow, Array.getElem?_modify]; rw [if_neg (Ne.symm hq)]
                · rw [setRow_heap w (σ j).1 _ _ T₀ _ hcur]
                  rw [dens_ones]
                  simp [hsize, List.map_take, List.map_drop]
            · exact h.elim
          · exact h.elim
        · exact h.elim
      · exact h.elim
    · exact h.elim
  · exact h.elim
/-- append, of integers, rows of integers, slices, or strings. -/
def kAppW (P : Program) (T : TypeId) (H : List Blk) (s x : C) (K : C → List Blk → Prop) : Prop :=
  match tyOf P T with
  | .slice e => match tyOf P e with
    | .str => kAppT P T H s x K
    | _ => kAppY P T H s x K
  | _ => False
theorem kAppW_spec {P : Program} {G : Glo} {T ty : TypeId} {H : List Blk} {s x : C} {K : C → List Blk → Prop} (h : kAppW P T H s x K) (ho : HOk H) (hs : s.rng) {σ : Sg} {base : Nat} {w₀ w : World} (hw : Rep G σ base w₀ w H) :
    ∃ v w' τ c H', (Builtin.append_ #[T, T] ty #[s.den σ, x.den σ]).run P w = .ok v w' ∧ K c H' ∧ Sg.agree H.length σ τ ∧ (c.rng ∧ c.bnd H'.length = true) ∧ H.length ≤ H'.length ∧ HOk H' ∧ v = c.den τ ∧ Rep G τ base w₀ w' H' := by
  unfold kAppW at h
  split at h
  · split at h
    · exact kAppT_spec h ho hs hw
    · exact kAppY_spec h ho hs hw
  · exact h.elim
end Go.Proofs.YtaficaacogcblaaGreatDoor
