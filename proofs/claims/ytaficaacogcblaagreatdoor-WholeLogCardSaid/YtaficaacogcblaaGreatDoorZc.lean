/- Xac, Xat, Xst, Xmp, Xj, Xk: what the law wants of them. -/
import Derived.Test.YtaficaacogcblaaGreatDoorZb
import Derived.WideKeyMaps2
import Derived.WideKeyArr2
import Derived.MapFrom
import Derived.Deep.LoopGhost
import Derived.Scope
set_option linter.all false
namespace Go.Proofs.YtaficaacogcblaaGreatDoor
open Go.RowKit (Below)
abbrev ones (cs : List C) : List Seg := cs.map Seg.one
theorem dens_ones (σ : Sg) : ∀ cs : List C, dens σ (ones cs) = cs.map (C.den σ)
  | [] => rfl
  | c :: cs => by
    show (Seg.one c).den σ ++ dens σ (ones cs) = _
    rw [dens_ones σ cs]; rfl
theorem rngs_ones : ∀ {cs : List C}, rngs (ones cs) ↔ ∀ c ∈ cs, c.rng
  | [] => ⟨fun _ c hc => (by cases hc), fun _ => trivial⟩
  | c :: cs => by
    show (c.rng ∧ rngs (ones cs)) ↔ _
    rw [rngs_ones (cs := cs)]
    simp
theorem bnds_ones {n : Nat} : ∀ {cs : List C}, bnds n (ones cs) = true ↔ ∀ c ∈ cs, c.bnd n = true
  | [] => ⟨fun _ c hc => (by cases hc), fun _ => rfl⟩
  | c :: cs => by
    show ((c.bnd n && bnds n (ones cs)) = true) ↔ _
    rw [Bool.and_eq_true, bnds_ones (cs := cs)]
    simp
def newsC (H : List Blk) (x : C) (K : C → Prop) : Prop :=
  match x with
  | .csl j 0 0 len _ => match Nat.beq len 1 with
    | true => hGet H j fun b => match b with
      | .own _ [.one c] => K c
      | _ => False
    | false => False
  | _ => False
theorem newsC_spec {H : List Blk} {x : C} {K : C → Prop} (h : newsC H x K) (ho : HOk H) : ∃ c, K c ∧ c.rng ∧ c.bnd H.length = true ∧
    ∀ G σ base w₀ w, Rep G σ base w₀ w H → ∃ a q, x.den σ = .slice (some a) 1 q ∧ ∀ (j : Nat) (u : Value), [c.den σ][j]? = some u → w.cell? (a.add j) = some u := by
  unfold newsC at h
  split at h
  · rename_i j len cap
    split at h
    · rename_i hl
      obtain rfl := Nat.eq_of_beq_eq_true hl
      obtain ⟨b, hb, h⟩ := hGet_spec h
      split at h
      · rename_i T c
        have hr := ho.rng _ (List.mem_of_getElem? hb)
        have hbn := ho.bnd _ (List.mem_of_getElem? hb)
        refine ⟨c, h, hr.1, ?_, fun G σ base w₀ w hw => ⟨_, _, rfl, fun q u hu => ?_⟩⟩
        · have : (c.bnd H.length && true) = true := hbn
          simpa using this
        · have := (rep_reads hw (.inl ⟨_, hb⟩) 0).cell q u (by simpa [dens, Seg.den] using hu)
          have hrep := hw.blk j _ hb
          rw [add_ne rfl]
          simpa [Sg.at, hrep.1] using this
      · exact h.elim
    · exact h.elim
  · exact h.elim
def freshC (e : TypeId) (H : List Blk) (m : Nat) (ys : List C) (K : C → List Blk → Prop) : Prop :=
  ∀ c : Nat, m ≤ c → c ≤ 9223372036854775807 → lenH H 0 fun n => pushH H (.own e (ones (ys ++ List.replicate (c - m) .csn))) fun H' => K (.csl n 0 0 m c) H'
theorem zeroCells_nil (n : Nat) : Builtin.zeroCells #[.slice none 0 0] n = (List.replicate n (Value.slice none 0 0)).toArray := by
  apply Array.ext
  · simp [Builtin.zeroCells]
  · intro i h1 h2
    simp [Builtin.zeroCells, Nat.mod_one]
theorem freshC_spec {G : Glo} {e : TypeId} {H : List Blk} {m : Nat} {ys : List C} {K : C → List Blk → Prop} (h : freshC e H m ys K) (ho : HOk H) (hl : ys.length = m) (hy : ∀ y ∈ ys, y.rng) (hyb : ∀ y ∈ ys, y.bnd H.length = true) {σ : Sg} {base : Nat} {w₀ w : World} (hw : Rep G σ base w₀ w H)
    {c : Nat} (hc : m ≤ c) (hc' : c ≤ 9223372036854775807) : ∃ τ x H', K x H' ∧ Sg.agree H.length σ τ ∧ (x.rng ∧ x.bnd H'.length = true) ∧ H.length ≤ H'.length ∧ HOk H' ∧ x.den τ = .slice (some ⟨w.heap.size, 0, none⟩) m c ∧
      Rep G τ base w₀ (w.drew.alloc (.cells ((ys.map (C.den σ)).toArray ++ Builtin.zeroCells #[.slice none 0 0] (c - m)) e)) H' := by
  have h := h c hc hc'
  rw [lenH_iff, pushH_iff, Nat.zero_add] at h
  have hag := Sg.upd_agree σ H.length (w.heap.size, 0)
  have hr : (Blk.own e (ones (ys ++ List.replicate (c - m) .csn))).rng := rngs_ones.2 fun x hx => by
    rcases List.mem_append.1 hx with h | h
    · exact hy x h
    · rw [(List.mem_replicate.1 h).2]; trivial
  have hb : (Blk.own e (ones (ys ++ List.replicate (c - m) .csn))).bnd H.length = true := bnds_ones.2 fun x hx => by
    rcases List.mem_append.1 hx with h | h
    · exact hyb x h
    · rw [(List.mem_replicate.1 h).2]; rfl
  refine ⟨σ.upd H.length (w.heap.size, 0), _, _, h, hag, ⟨⟨hc, hc'⟩, by simp [C.bnd]⟩, by simp, ho.push hr hb, ?_, ?_⟩
  · simp only [C.den, Sg.at, Sg.upd_self]
  · refine (hw.drew).push ho _ _ ⟨by rw [Sg.upd_self], by rw [Sg.upd_self]; exact Nat.le_trans hw.size hw.below.size, ?_⟩
    have e1 : dens (σ.upd H.length (w.drew.heap.size, 0)) (ones (ys ++ List.replicate (c - m) C.csn)) = dens σ (ones (ys ++ List.replicate (c - m) C.csn)) := (dens_agree hag _ hb).symm
    rw [Sg.upd_self, zeroCells_nil, e1, dens_ones]
    show (w.heap.push _)[w.heap.size]? = _
    simp [C.den]
def kAppC (P : Program) (T : TypeId) (H : List Blk) (s x : C) (K : C → List Blk → Prop) : Prop :=
  match tyOf P T with
  | .slice e => match P.info? e with
    | some inf => match Nat.beq inf.size 1, inf.zero with
      | true, some (.slice none 0 0) => newsC H x fun c => match s with
        | .csn => inf.bytes ≤ 281474976710656 ∧ freshC e H 1 [c] K
        | .csl j 0 0 len cap => hGet H j fun b => match b with
          | .own T₀ ss => match Nat.beq T₀ e with
            | true => ∃ cs, ss = ones cs ∧ (cs.length = cap ∧ len + 1 ≤ 9223372036854775807 ∧ (len + 1) * inf.bytes ≤ 140737488355328) ∧
              (len + 1 ≤ cap → setH H j (.own T₀ (ones (cs.take len ++ [c] ++ cs.drop (len + 1)))) fun H' => K (.csl j 0 0 (len + 1) cap) H') ∧
              (cap < len + 1 → freshC e H (len + 1) (cs.take len ++ [c]) K)
            | false => False
          | _ => False
        | _ => False
      | _, _ => False
    | none => False
  | _ => False
theorem kAppC_spec {P : Program} {G : Glo} {T ty : TypeId} {H : List Blk} {s x : C} {K : C → List Blk → Prop} (h : kAppC P T H s x K) (ho : HOk H) (hs : s.rng) {σ : Sg} {base : Nat} {w₀ w : World} (hw : Rep G σ base w₀ w H) :
    ∃ v w' τ c H', (Builtin.append_ #[T, T] ty #[s.den σ, x.den σ]).run P w = .ok v w' ∧ K c H' ∧ Sg.agree H.length σ τ ∧ (c.rng ∧ c.bnd H'.length = true) ∧ H.length ≤ H'.length ∧ HOk H' ∧ v = c.den τ ∧ Rep G τ base w₀ w' H' := by
  unfold kAppC at h
  split at h
  · rename_i e hty
    have ht := tyOf_slice hty
    split at h
    · rename_i inf hi
      split at h
      · rename_i hsz hz
        have hsize : inf.size = 1 := Nat.eq_of_beq_eq_true hsz
        obtain ⟨y, h, hyr, hyb, hx⟩ := newsC_spec h ho
        obtain ⟨a, q, hxd, hnews⟩ := hx G σ base w₀ w hw
        have hl1 : [y.den σ].length = 1 * inf.size := by simp [hsize]
        rw [hxd]
        split at h
        · obtain ⟨h48, h⟩ := h
          have hrun := run_append_nil (P := P) w T ty e inf (.slice none 0 0) ht hi hz a 1 q [y.den σ] hl1 hnews (by omega) (by omega) (by omega)
          have hc := grownCap_ge w 1 0 e
          have hc' := grownCap_le_maxLen w 1 0 e (by simp only [maxLen]; omega)
          obtain ⟨τ, x', H', k1, k2, k3, k4, k5, k6, k7⟩ := freshC_spec h ho rfl (fun z hz => by rw [List.mem_singleton.1 hz]; exact hyr) (fun z hz => by rw [List.mem_singleton.1 hz]; exact hyb) hw hc (by simpa only [maxLen] using hc')
          exact ⟨_, _, τ, x', H', hrun, k1, k2, k3, k4, k5, k6.symm, k7⟩
        · rename_i j len cap _
          have hlc : len ≤ cap := hs.1
          obtain ⟨b, hb, h⟩ := hGet_spec h
          split at h
          · rename_i T₀ ss
            split at h
            · rename_i hT
              obtain rfl := Nat.eq_of_beq_eq_true hT
              obtain ⟨cs, rfl, ⟨hcl, h63, h48⟩, hin, hgr⟩ := h
              have hrep := hw.blk j _ hb
              have hxr := rngs_ones.1 (ho.rng _ (List.mem_of_getElem? hb))
              have hxb := bnds_ones.1 (ho.bnd _ (List.mem_of_getElem? hb))
              have ha : σ.at j (0 + 0) = ⟨(σ j).1, 0, none⟩ := by simp only [Sg.at, hrep.1]
              have hcur : w.heap[(σ j).1]? = some (.cells (cs.map (C.den σ)).toArray T₀ (0, 0)) := by
                have := hrep.2.2
                rw [dens_ones] at this
                exact this
              simp only [C.den, ha]
              rcases Nat.lt_or_ge cap (len + 1) with hg | hroom
              · have holds : ∀ (q : Nat) (u : Value), ((cs.take len).map (C.den σ))[q]? = some u → w.cell? ((⟨(σ j).1, 0, none⟩ : Addr).add q) = some u := fun q u hu => by
                  have hq := (List.getElem?_eq_some_iff.1 hu).1
                  have hq1 : q < len := by simp at hq; omega
                  have := (rep_reads hw (.inl ⟨_, hb⟩) 0).cell q u (by
                    rw [dens_ones]
                    simp only [List.map_take] at hu
                    rw [List.getElem?_take_of_lt hq1] at hu
                    simpa using hu)
                  rw [add_ne rfl]
                  simpa [Sg.at, hrep.1] using this
                have hol : ((cs.take len).map (C.den σ)).length = len * inf.size := by simp [hsize]; omega
                have hrun := run_append_grow (P := P) w T ty T₀ inf (.slice none 0 0) ht hi hz ⟨(σ j).1, 0, none⟩ len cap ((cs.take len).map (C.den σ)) hol holds a 1 q [y.den σ] hl1 hnews hg (by omega) (growslice_fits hg h48)
                have hc := grownCap_ge w (len + 1) cap T₀
                have hc' := grownCap_le_maxLen w (len + 1) cap T₀ (by simpa only [maxLen] using h63)
                obtain ⟨τ, x', H', k1, k2, k3, k4, k5, k6, k7⟩ := freshC_spec (hgr hg) ho (by simp; omega) (fun z hz' => by
                  rcases List.mem_append.1 hz' with h | h
                  · exact hxr z (List.mem_of_mem_take h)
                  · rw [List.mem_singleton.1 h]; exact hyr) (fun z hz' => by
                  rcases List.mem_append.1 hz' with h | h
                  · exact hxb z (List.mem_of_mem_take h)
                  · rw [List.mem_singleton.1 h]; exact hyb) hw hc (by simpa only [maxLen] using hc')
                refine ⟨_, _, τ, x', H', hrun, k1, k2, k3, k4, k5, k6.symm, ?_⟩
                simpa [List.map_append, show (Value.slice none 0 0).cells = #[Value.slice none 0 0] from rfl] using k7
              · have hrun := run_append_room (P := P) w T ty T₀ inf ht hi (σ j).1 len cap _ hcur a 1 q [y.den σ] hl1 hnews (fun u hu => by
                  refine dens_one (ss := [.one y]) (σ := σ) ⟨hyr, trivial⟩ u ?_
                  simpa [dens, Seg.den] using hu) hroom (by simp [hsize, hcl]; omega)
                have hK := (setH_iff _ _ _ _).1 (hin hroom)
                have hall : ∀ z ∈ cs.take len ++ [y] ++ cs.drop (len + 1), z.rng ∧ z.bnd H.length = true := fun z hz' => by
                  rcases List.mem_append.1 hz' with h | h
                  · rcases List.mem_append.1 h with h | h
                    · exact ⟨hxr z (List.mem_of_mem_take h), hxb z (List.mem_of_mem_take h)⟩
                    · rw [List.mem_singleton.1 h]; exact ⟨hyr, hyb⟩
                  · exact ⟨hxr z (List.mem_of_mem_drop h), hxb z (List.mem_of_mem_drop h)⟩
                have hjl := (List.getElem?_eq_some_iff.1 hb).1
                refine ⟨_, _, σ, _, _, hrun, hK, Sg.agree.refl _ _, ⟨⟨hroom, hs.2⟩, by simp [C.bnd, hjl]⟩, by simp, ho.set (rngs_ones.2 fun z hz => (hall z hz).1) (bnds_ones.2 fun z hz => (hall z hz).2), by simp only [C.den, ha], ?_⟩
                refine hw.set hb rfl (fun q hq => ?_) (by simp) rfl rfl rfl rfl ⟨hrep.1, hrep.2.1, ?_⟩
                · simp only [World.setRow, Array.getElem?_modify]; rw [if_neg (Ne.symm hq)]
                · rw [setRow_heap w (σ j).1 _ _ T₀ _ hcur]
                  rw [dens_ones]
                  simp [hsize, List.map_take, List.map_drop]
            · exact h.elim
          · exact h.elim
        · exact h.elim
      · exact h.elim
    · exact h.elim
  · exact h.elim
def kAppY (P : Program) (T : TypeId) (H : List Blk) (s x : C) (K : C → List Blk → Prop) : Prop :=
  match tyOf P T with
  | .slice e => match tyOf P e with
    | .slice _ => kAppC P T H s x K
    | _ => kAppX P T H s x K
  | _ => False
theorem kAppY_spec {P : Program} {G : Glo} {T ty : TypeId} {H : List Blk} {s x : C} {K : C → List Blk → Prop} (h : kAppY P T H s x K) (ho : HOk H) (hs : s.rng) {σ : Sg} {base : Nat} {w₀ w : World} (hw : Rep G σ base w₀ w H) :
    ∃ v w' τ c H', (Builtin.append_ #[T, T] ty #[s.den σ, x.den σ]).run P w = .ok v w' ∧ K c H' ∧ Sg.agree H.length σ τ ∧ (c.rng ∧ c.bnd H'.length = true) ∧ H.length ≤ H'.length ∧ HOk H' ∧ v = c.den τ ∧ Rep G τ base w₀ w' H' := by
  unfold kAppY at h
  split at h
  · split at h
    · exact kAppC_spec h ho hs hw
    · exact kAppX_spec h ho hs hw
  · exact h.elim
end Go.Proofs.YtaficaacogcblaaGreatDoor
set_option linter.all false
namespace Go.Proofs.YtaficaacogcblaaGreatDoor
open Go.RowKit (Below)
def freshT (e : TypeId) (H : List Blk) (m : Nat) (ys : List C) (K : C → List Blk → Prop) : Prop :=
  ∀ c : Nat, m ≤ c → c ≤ 9223372036854775807 → lenH H 0 fun n => pushH H (.own e (ones (ys ++ List.replicate (c - m) (.cs ⟨#[]⟩)))) fun H' => K (.csl n 0 0 m c) H'
theorem zeroCells_str (n : Nat) : Builtin.zeroCells #[.string ⟨#[]⟩] n = (List.replicate n (Value.string ⟨#[]⟩)).toArray := by
  apply Array.ext
  · simp [Builtin.zeroCells]
  · intro i h1 h2
    simp [Builtin.zeroCells, Nat.mod_one]
theorem freshT_spec {G : Glo} {e : TypeId} {H : List Blk} {m : Nat} {ys : List C} {K : C → List Blk → Prop} (h : freshT e H m ys K) (ho : HOk H) (hl : ys.length = m) (hy : ∀ y ∈ ys, y.rng) (hyb : ∀ y ∈ ys, y.bnd H.length = true) {σ : Sg} {base : Nat} {w₀ w : World} (hw : Rep G σ base w₀ w H)
    {c : Nat} (hc : m ≤ c) (hc' : c ≤ 9223372036854775807) : ∃ τ x H', K x H' ∧ Sg.agree H.length σ τ ∧ (x.rng ∧ x.bnd H'.length = true) ∧ H.length ≤ H'.length ∧ HOk H' ∧ x.den τ = .slice (some ⟨w.heap.size, 0, none⟩) m c ∧
      Rep G τ base w₀ (w.drew.alloc (.cells ((ys.map (C.den σ)).toArray ++ Builtin.zeroCells #[.string ⟨#[]⟩] (c - m)) e)) H' := by
  have h := h c hc hc'
  rw [lenH_iff, pushH_iff, Nat.zero_add] at h
  have hag := Sg.upd_agree σ H.length (w.heap.size, 0)
  have hr : (Blk.own e (ones (ys ++ List.replicate (c - m) (.cs ⟨#[]⟩)))).rng := rngs_ones.2 fun x hx => by
    rcases List.mem_append.1 hx with h | h
    · exact hy x h
    · rw [(List.mem_replicate.1 h).2]; exact Nat.zero_le _
  have hb : (Blk.own e (ones (ys ++ List.replicate (c - m) (.cs ⟨#[]⟩)))).bnd H.length = true := bnds_ones.2 fun x hx => by
    rcases List.mem_append.1 hx with h | h
    · exact hyb x h
    · rw [(List.mem_replicate.1 h).2]; rfl
  refine ⟨σ.upd H.length (w.heap.size, 0), _, _, h, hag, ⟨⟨hc, hc'⟩, by simp [C.bnd]⟩, by simp, ho.push hr hb, ?_, ?_⟩
  · simp only [C.den, Sg.at, Sg.upd_self]
  · refine (hw.drew).push ho _ _ ⟨by rw [Sg.upd_self], by rw [Sg.upd_self]; exact Nat.le_trans hw.size hw.below.size, ?_⟩
    have e1 : dens (σ.upd H.length (w.drew.heap.size, 0)) (ones (ys ++ List.replicate (c - m) (C.cs ⟨#[]⟩))) = dens σ (ones (ys ++ List.replicate (c - m) (C.cs ⟨#[]⟩))) := (dens_agree hag _ hb).symm
    rw [Sg.upd_self, zeroCells_str, e1, dens_ones]
    show (w.heap.push _)[w.heap.size]? = _
    simp [C.den]
def kAppT (P : Program) (T : TypeId) (H : List Blk) (s x : C) (K : C → List Blk → Prop) : Prop :=
  match tyOf P T with
  | .slice e => match P.info? e with
    | some inf => match Nat.beq inf.size 1 with
      | true => inf.zero = some (.string ⟨#[]⟩) ∧ newsC H x fun c => match s with
        | .csn => inf.bytes ≤ 281474976710656 ∧ freshT e H 1 [c] K
        | .csl j 0 0 len cap => hGet H j fun b => match b with
          | .own T₀ ss => match Nat.beq T₀ e with
            | true => ∃ cs, ss = ones cs ∧ (cs.length = cap ∧ len + 1 ≤ 9223372036854775807 ∧ (len + 1) * inf.bytes ≤ 140737488355328) ∧
              (len + 1 ≤ cap → setH H j (.own T₀ (ones (cs.take len ++ [c] ++ cs.drop (len + 1)))) fun H' => K (.csl j 0 0 (len + 1) cap) H') ∧
              (cap < len + 1 → freshT e H (len + 1) (cs.take len ++ [c]) K)
            | false => False
          | _ => False
        | _ => False
      | false => False
    | none => False
  | _ => False
theorem kAppT_spec {P : Program} {G : Glo} {T ty : TypeId} {H : List Blk} {s x : C} {K : C → List Blk → Prop} (h : kAppT P T H s x K) (ho : HOk H) (hs : s.rng) {σ : Sg} {base : Nat} {w₀ w : World} (hw : Rep G σ base w₀ w H) :
    ∃ v w' τ c H', (Builtin.append_ #[T, T] ty #[s.den σ, x.den σ]).run P w = .ok v w' ∧ K c H' ∧ Sg.agree H.length σ τ ∧ (c.rng ∧ c.bnd H'.length = true) ∧ H.length ≤ H'.length ∧ HOk H' ∧ v = c.den τ ∧ Rep G τ base w₀ w' H' := by
  unfold kAppT at h
  split at h
  · rename_i e hty
    have ht := tyOf_slice hty
    split at h
    · rename_i inf hi
      split at h
      · rename_i hsz
        obtain ⟨hz, h⟩ := h
        have hsize : inf.size = 1 := Nat.eq_of_beq_eq_true hsz
        obtain ⟨y, h, hyr, hyb, hx⟩ := newsC_spec h ho
        obtain ⟨a, q, hxd, hnews⟩ := hx G σ base w₀ w hw
        have hl1 : [y.den σ].length = 1 * inf.size := by simp [hsize]
        rw [hxd]
        split at h
        · obtain ⟨h48, h⟩ := h
          have hrun := run_append_nil (P := P) w T ty e inf (.string ⟨#[]⟩) ht hi hz a 1 q [y.den σ] hl1 hnews (by omega) (by omega) (by omega)
          have hc := grownCap_ge w 1 0 e
          have hc' := grownCap_le_maxLen w 1 0 e (by simp only [maxLen]; omega)
          obtain ⟨τ, x', H', k1, k2, k3, k4, k5, k6, k7⟩ := freshT_spec h ho rfl (fun z hz => by rw [List.mem_singleton.1 hz]; exact hyr) (fun z hz => by rw [List.mem_singleton.1 hz]; exact hyb) hw hc (by simpa only [maxLen] using hc')
          exact ⟨_, _, τ, x', H', hrun, k1, k2, k3, k4, k5, k6.symm, k7⟩
        · rename_i j len cap _
          have hlc : len ≤ cap := hs.1
          obtain ⟨b, hb, h⟩ := hGet_spec h
          split at h
          · rename_i T₀ ss
            split at h
            · rename_i hT
              obtain rfl := Nat.eq_of_beq_eq_true hT
              obtain ⟨cs, rfl, ⟨hcl, h63, h48⟩, hin, hgr⟩ := h
              have hrep := hw.blk j _ hb
              have hxr := rngs_ones.1 (ho.rng _ (List.mem_of_getElem? hb))
              have hxb := bnds_ones.1 (ho.bnd _ (List.mem_of_getElem? hb))
              have ha : σ.at j (0 + 0) = ⟨(σ j).1, 0, none⟩ := by simp only [Sg.at, hrep.1]
              have hcur : w.heap[(σ j).1]? = some (.cells (cs.map (C.den σ)).toArray T₀ (0, 0)) := by
                have := hrep.2.2
                rw [dens_ones] at this
                exact this
              simp only [C.den, ha]
              rcases Nat.lt_or_ge cap (len + 1) with hg | hroom
              · have holds : ∀ (q : Nat) (u : Value), ((cs.take len).map (C.den σ))[q]? = some u → w.cell? ((⟨(σ j).1, 0, none⟩ : Addr).add q) = some u := fun q u hu => by
                  have hq := (List.getElem?_eq_some_iff.1 hu).1
                  have hq1 : q < len := by simp at hq; omega
                  have := (rep_reads hw (.inl ⟨_, hb⟩) 0).cell q u (by
                    rw [dens_ones]
                    simp only [List.map_take] at hu
                    rw [List.getElem?_take_of_lt hq1] at hu
                    simpa using hu)
                  rw [add_ne rfl]
                  simpa [Sg.at, hrep.1] using this
                have hol : ((cs.take len).map (C.den σ)).length = len * inf.size := by simp [hsize]; omega
                have hrun := run_append_grow (P := P) w T ty T₀ inf (.string ⟨#[]⟩) ht hi hz ⟨(σ j).1, 0, none⟩ len cap ((cs.take len).map (C.den σ)) hol holds a 1 q [y.den σ] hl1 hnews hg (by omega) (growslice_fits hg h48)
                have hc := grownCap_ge w (len + 1) cap T₀
                have hc' := grownCap_le_maxLen w (len + 1) cap T₀ (by simpa only [maxLen] using h63)
                obtain ⟨τ, x', H', k1, k2, k3, k4, k5, k6, k7⟩ := freshT_spec (hgr hg) ho (by simp; omega) (fun z hz' => by
                  rcases List.mem_append.1 hz' with h | h
                  · exact hxr z (List.mem_of_mem_take h)
                  · rw [List.mem_singleton.1 h]; exact hyr) (fun z hz' => by
                  rcases List.mem_append.1 hz' with h | h
                  · exact hxb z (List.mem_of_mem_take h)
                  · rw [List.mem_singleton.1 h]; exact hyb) hw hc (by simpa only [maxLen] using hc')
                refine ⟨_, _, τ, x', H', hrun, k1, k2, k3, k4, k5, k6.symm, ?_⟩
                simpa [List.map_append, show (Value.string ⟨#[]⟩).cells = #[Value.string ⟨#[]⟩] from rfl] using k7
              · have hrun := run_append_room (P := P) w T ty T₀ inf ht hi (σ j).1 len cap _ hcur a 1 q [y.den σ] hl1 hnews (fun u hu => by
                  refine dens_one (ss := [.one y]) (σ := σ) ⟨hyr, trivial⟩ u ?_
                  simpa [dens, Seg.den] using hu) hroom (by simp [hsize, hcl]; omega)
                have hK := (setH_iff _ _ _ _).1 (hin hroom)
                have hall : ∀ z ∈ cs.take len ++ [y] ++ cs.drop (len + 1), z.rng ∧ z.bnd H.length = true := fun z hz' => by
                  rcases List.mem_append.1 hz' with h | h
                  · rcases List.mem_append.1 h with h | h
                    · exact ⟨hxr z (List.mem_of_mem_take h), hxb z (List.mem_of_mem_take h)⟩
                    · rw [List.mem_singleton.1 h]; exact ⟨hyr, hyb⟩
                  · exact ⟨hxr z (List.mem_of_mem_drop h), hxb z (List.mem_of_mem_drop h)⟩
                have hjl := (List.getElem?_eq_some_iff.1 hb).1
                refine ⟨_, _, σ, _, _, hrun, hK, Sg.agree.refl _ _, ⟨⟨hroom, hs.2⟩, by simp [C.bnd, hjl]⟩, by simp, ho.set (rngs_ones.2 fun z hz => (hall z hz).1) (bnds_ones.2 fun z hz => (hall z hz).2), by simp only [C.den, ha], ?_⟩
                refine hw.set hb rfl (fun q hq => ?_) (by simp) rfl rfl rfl rfl ⟨hrep.1, hrep.2.1, ?_⟩
                · simp only [World.setRow, Array.getElem?_modify]; rw [if_neg (Ne.symm hq)]
                · rw [setRow_heap w (σ j).1 _ _ T₀ _ hcur]
                  rw [dens_ones]
                  simp [hsize, List.map_take, List.map_drop]
            · exact h.elim
          · exact h.elim
        · exact h.elim
      · exact h.elim
    · exact h.elim
  · exact h.elim
def kAppW (P : Program) (T : TypeId) (H : List Blk) (s x : C) (K : C → List Blk → Prop) : Prop :=
  match tyOf P T with
  | .slice e => match tyOf P e with
    | .str => kAppT P T H s x K
    | _ => kAppY P T H s x K
  | _ => False
theorem kAppW_spec {P : Program} {G : Glo} {T ty : TypeId} {H : List Blk} {s x : C} {K : C → List Blk → Prop} (h : kAppW P T H s x K) (ho : HOk H) (hs : s.rng) {σ : Sg} {base : Nat} {w₀ w : World} (hw : Rep G σ base w₀ w H) :
    ∃ v w' τ c H', (Builtin.append_ #[T, T] ty #[s.den σ, x.den σ]).run P w = .ok v w' ∧ K c H' ∧ Sg.agree H.length σ τ ∧ (c.rng ∧ c.bnd H'.length = true) ∧ H.length ≤ H'.length ∧ HOk H' ∧ v = c.den τ ∧ Rep G τ base w₀ w' H' := by
  unfold kAppW at h
  split at h
  · split at h
    · exact kAppT_spec h ho hs hw
    · exact kAppY_spec h ho hs hw
  · exact h.elim
end Go.Proofs.YtaficaacogcblaaGreatDoor
set_option linter.all false
namespace Go.Proofs.YtaficaacogcblaaGreatDoor
open Go.RowKit (Below)
def kAppS (P : Program) (T T' : TypeId) (H : List Blk) (s x : C) (K : C → List Blk → Prop) : Prop :=
  match tyOf P T, tyOf P T' with
  | .slice e, .str => match P.info? e with
    | some inf => match tyOf P e, inf.zero with
      | .int .u8, some (.int .u8 z) => match Nat.beq inf.size 1 with
        | true => match x with
          | .cs t => match s with
            | .csn => (z = 0 ∧ 0 < t.size ∧ t.size * inf.bytes ≤ 281474976710656) ∧ freshK e .u8 H t.size (bytesI t) K
            | .csl j 0 0 len cap => hGet H j fun b => match b with
              | .own T₀ [.ints .u8 n xs] => match Nat.beq T₀ e with
                | true => (z = 0 ∧ n = cap ∧ len + t.size ≤ 9223372036854775807 ∧ (len + t.size) * inf.bytes ≤ 140737488355328) ∧
                  (len + t.size ≤ cap → setH H j (.own T₀ [.ints .u8 n (xs.take len ++ bytesI t ++ xs.drop (len + t.size))]) fun H' => K (.csl j 0 0 (len + t.size) cap) H') ∧
                  (cap < len + t.size → freshK e .u8 H (len + t.size) (xs.take len ++ bytesI t) K)
                | false => False
              | _ => False
            | _ => False
          | _ => False
        | false => False
      | _, _ => False
    | none => False
  | _, _ => False
theorem kAppS_spec {P : Program} {G : Glo} {T T' ty : TypeId} {H : List Blk} {s x : C} {K : C → List Blk → Prop} (h : kAppS P T T' H s x K) (ho : HOk H) (hs : s.rng) (hxr : x.rng) {σ : Sg} {base : Nat} {w₀ w : World} (hw : Rep G σ base w₀ w H) :
    ∃ v w' τ c H', (Builtin.append_ #[T, T'] ty #[s.den σ, x.den σ]).run P w = .ok v w' ∧ K c H' ∧ Sg.agree H.length σ τ ∧ (c.rng ∧ c.bnd H'.length = true) ∧ H.length ≤ H'.length ∧ HOk H' ∧ v = c.den τ ∧ Rep G τ base w₀ w' H' := by
  unfold kAppS at h
  split at h
  · rename_i e hty hty'
    have ht := tyOf_slice hty
    have hu := tyOf_str hty'
    split at h
    · rename_i inf hi
      split at h
      · rename_i z hk hz
        split at h
        · rename_i hsz
          have hsize : inf.size = 1 := Nat.eq_of_beq_eq_true hsz
          split at h
          · rename_i t
            have h63t : t.size ≤ 9223372036854775807 := hxr
            have hl : (bytesI t).length = t.size := bytesI_len t
            have hy := bytesI_in t
            split at h
            · obtain ⟨⟨rfl, h0, h48⟩, h⟩ := h
              have hrun := run_append_nil_string (P := P) w T T' ty e inf (.int .u8 0) ht hu hi hz t h0 (by omega) h48
              have hc := grownCap_ge w t.size 0 e
              have hc' := grownCap_le_maxLen w t.size 0 e (by simpa only [maxLen] using h63t)
              obtain ⟨τ, x', H', k1, k2, k3, k4, k5, k6, k7⟩ := freshK_spec h ho hl hy hw hc (by simpa only [maxLen] using hc')
              refine ⟨_, _, τ, x', H', hrun, k1, k2, k3, k4, k5, k6.symm, ?_⟩
              have e1 : (Value.int IntKind.u8 0).cells = #[Value.int .u8 0] := rfl
              have e2 : t.data.map (fun b => Value.int .u8 b.toNat) = ((bytesI t).map (Value.int .u8)).toArray := by
                apply Array.ext'
                simp [bytesI]
              rw [e1, e2]
              exact k7
            · rename_i j len cap
              have hlc : len ≤ cap := hs.1
              obtain ⟨b, hb, h⟩ := hGet_spec h
              split at h
              · rename_i T₀ n xs
                split at h
                · rename_i hT
                  obtain rfl := Nat.eq_of_beq_eq_true hT
                  obtain ⟨⟨rfl, rfl, h63, h48⟩, hin, hgr⟩ := h
                  have hrep := hw.blk j _ hb
                  have hrng := ho.rng _ (List.mem_of_getElem? hb)
                  have hxl : xs.length = n := hrng.1.1
                  have hxr := hrng.1.2
                  have ha : σ.at j (0 + 0) = ⟨(σ j).1, 0, none⟩ := by simp only [Sg.at, hrep.1]
                  have hcur : w.heap[(σ j).1]? = some (.cells (xs.map (Value.int .u8)).toArray T₀ (0, 0)) := by
                    have := hrep.2.2
                    simpa [dens, Seg.den] using this
                  simp only [C.den, ha]
                  rcases Nat.lt_or_ge n (len + t.size) with hg | hroom
                  · have holds : ∀ (q : Nat) (u : Value), ((xs.take len).map (Value.int .u8))[q]? = some u → w.cell? ((⟨(σ j).1, 0, none⟩ : Addr).add q) = some u := fun q u hu => by
                      have hq := (List.getElem?_eq_some_iff.1 hu).1
                      have hq1 : q < len := by simp at hq; omega
                      have := (rep_reads hw (.inl ⟨_, hb⟩) 0).cell q u (by
                        simp only [List.map_take] at hu
                        rw [List.getElem?_take_of_lt hq1] at hu
                        simpa [dens, Seg.den] using hu)
                      rw [add_ne rfl]
                      simpa [Sg.at, hrep.1] using this
                    have hol : ((xs.take len).map (Value.int .u8)).length = len * inf.size := by simp [hsize]; omega
                    have hrun := Lib.run_append_grow_string (P := P) w T T' ty T₀ inf (.int .u8 0) ht hu hi hz ⟨(σ j).1, 0, none⟩ len n ((xs.take len).map (Value.int .u8)) hol holds t hg (by omega) (growslice_fits hg h48)
                    have hc := grownCap_ge w (len + t.size) n T₀
                    have hc' := grownCap_le_maxLen w (len + t.size) n T₀ (by simpa only [maxLen] using h63)
                    obtain ⟨τ, x', H', k1, k2, k3, k4, k5, k6, k7⟩ := freshK_spec (hgr hg) ho (by simp [hl]; omega) (fun y hy' => by
                      rcases List.mem_append.1 hy' with h | h
                      · exact hxr y (List.mem_of_mem_take h)
                      · exact hy y h) hw hc (by simpa only [maxLen] using hc')
                    refine ⟨_, _, τ, x', H', hrun, k1, k2, k3, k4, k5, k6.symm, ?_⟩
                    rw [strCells_eq]
                    simpa [List.map_append, show (Value.int IntKind.u8 0).cells = #[Value.int .u8 0] from rfl] using k7
                  · have hrun := Lib.run_append_room_string (P := P) w T T' ty T₀ inf ht hu hi hsize (σ j).1 len n _ hcur t hroom (by simp [hxl]; omega)
                    have hK := (setH_iff _ _ _ _).1 (hin hroom)
                    have hnew : rngs [.ints .u8 n (xs.take len ++ bytesI t ++ xs.drop (len + t.size))] := ⟨⟨by simp [hl, hxl]; omega, fun y hy' => by
                      rcases List.mem_append.1 hy' with h | h
                      · rcases List.mem_append.1 h with h | h
                        · exact hxr y (List.mem_of_mem_take h)
                        · exact hy y h
                      · exact hxr y (List.mem_of_mem_drop h)⟩, trivial⟩
                    have hjl := (List.getElem?_eq_some_iff.1 hb).1
                    refine ⟨_, _, σ, _, _, hrun, hK, Sg.agree.refl _ _, ⟨⟨hroom, hs.2⟩, by simp [C.bnd, hjl]⟩, by simp, ho.set hnew rfl, by simp only [C.den, ha], ?_⟩
                    refine hw.set hb rfl (fun q hq => ?_) (by simp) rfl rfl rfl rfl ⟨hrep.1, hrep.2.1, ?_⟩
                    · simp only [World.setRow, Array.getElem?_modify]; rw [if_neg (Ne.symm hq)]
                    · rw [setRow_heap w (σ j).1 _ _ T₀ _ hcur, strCells_eq]
                      simp [dens, Seg.den]
                · exact h.elim
              · exact h.elim
            · exact h.elim
          · exact h.elim
        · exact h.elim
      · exact h.elim
    · exact h.elim
  · exact h.elim
end Go.Proofs.YtaficaacogcblaaGreatDoor
set_option linter.all false
namespace Go.Proofs.YtaficaacogcblaaGreatDoor
open Go.RowKit (Below)
variable {Df : List Deferred}
open Go.WideMaps
theorem wf_of_inK {k : IntKind} {n : Int} (h : InK k n) : (Lit.int k n).wf = true := by
  cases k <;> simp [InK, lowK, highK] at h <;> simp [Lit.wf, IntKind.min, IntKind.max, IntKind.signed, IntKind.bits] <;> omega
def mapI (Q : Int → Int → Int → Prop) (o : Obj) : Prop := ∃ (es : Array MapEntry) (clock : Nat), o = .map es clock ∧ ∀ e ∈ es.toList, ∃ a b v, e.key = .agg #[.int .i64 a, .int .i64 b] ∧ e.val = .int .i64 v ∧ InK .i64 a ∧ InK .i64 b ∧ InK .i64 v ∧ Q a b v
structure MapTy (P : Program) (T : TypeId) : Prop where
  ex : ∃ kt e et inf, P.underlying T = some (.map kt et) ∧ ArrKey P kt e 2 ∧ P.underlying e = some (.int .i64) ∧ (∃ m, P.types.size = m + 1) ∧ P.info? et = some inf ∧ inf.zero = some (.int .i64 0)
theorem key_of {P : Program} {k e : TypeId} (A : ArrKey P k e 2) (he : P.underlying e = some (.int .i64)) (hsz : ∃ m, P.types.size = m + 1) {a b : Int} (ha : InK .i64 a) (hb : InK .i64 b) : ∃ l, keyOf P k (.agg #[.int .i64 a, .int .i64 b]) = some l := by
  have hkt := A.keyType hsz
  obtain ⟨m0, hm0⟩ := hsz
  unfold keyOf
  simp only [A.hu]
  rw [if_pos (by simp [hkt, Value.formed, A.hu, A.size]), hm0]
  unfold Program.keyLits
  simp only [A.hu, Value.cells]
  rw [if_pos (by rw [A.size]; rfl)]
  have wa := wf_of_inK ha
  have wb := wf_of_inK hb
  have e1 : ((List.range 2).mapM fun i => P.keyLits (m0 + 1) e (((#[Value.int .i64 a, .int .i64 b] : Array Value).toList.drop (i * P.cellsOf e)).take (P.cellsOf e))) = some [[.int .i64 a], [.int .i64 b]] := by
    rw [A.one]
    simp [List.range_succ, Program.keyLits, he, wa, wb]
  rw [e1]
  simp
def mapAt (H : List Blk) (j : Nat) (Q : Int → Int → Int → Prop) : Prop := ∃ R, H[j]? = some (.obj R) ∧ ∀ o, R o → mapI Q o
def emptyM (o : Obj) : Prop := o = .map #[] 0
theorem empty_mapI (Q : Int → Int → Int → Prop) : ∀ o, emptyM o → mapI Q o := fun o h => ⟨#[], 0, h, fun e he => by simp at he⟩
def xmap (P : Program) (o : Oper) (fr : List V) (H : List Blk) (K : V → List Blk → Prop) : Prop :=
  match o.op with
  | .makeMap T none => MapTy P T ∧ lenH H 0 fun n => pushH H (.obj emptyM) fun H' => K (.w (.c (.cm n))) H'
  | .lookup T x i true => evC fr x fun c => evW fr i fun w => match c, w with
    | .cm j, .agg [.ints .i64 n ks] => (MapTy P T ∧ n = 2) ∧ ∃ Q, mapAt H j Q ∧ (∀ v, InK .i64 v → Q (ks.getD 0 0) (ks.getD 1 0) v → K (.tup [.c (.ci .i64 v), .c (.cb true)]) H) ∧ K (.tup [.c (.ci .i64 0), .c (.cb false)]) H
    | _, _ => False
  | .mapUpdate T m k v => evC fr m fun c => evW fr k fun w => evC fr v fun x => match c, w, x with
    | .cm j, .agg [.ints .i64 n ks], .ci .i64 v => (MapTy P T ∧ n = 2) ∧ ∃ Q, mapAt H j Q ∧ Q (ks.getD 0 0) (ks.getD 1 0) v ∧ ∀ H', H' = H.set j (.obj (mapI Q)) → K undefV H'
    | _, _, _ => False
  | _ => False
theorem pair_of {n : Nat} {ks : List Int} (h : Seg.rng (.ints .i64 n ks)) (hn : n = 2) : ∃ a b, ks = [a, b] ∧ InK .i64 a ∧ InK .i64 b := by
  subst hn
  obtain ⟨hl, hx⟩ := h
  match ks, hl, hx with
  | [a, b], _, hx => exact ⟨a, b, rfl, hx a (by simp), hx b (by simp)⟩
set_option maxHeartbeats 1600000 in
theorem xmap_spec {P : Program} {E : Env} {o : Oper} {fr : List V} {H : List Blk} {K : V → List Blk → Prop} (h : xmap P o fr H K) (hf : FOk H.length fr) (ho : HOk H) {σ : Sg} {a : Act} {base : Nat} {w₀ w : World}
    (hr : FRep Df σ a fr) (hw : Rep E.G σ base w₀ w H) {N : Act → World → Prop} {Q : Exit → Act → World → Prop}
    (next : ∀ τ x H' v w', K x H' → Sg.agree H.length σ τ → x.rep τ v → Rep E.G τ base w₀ w' H' → HOk H' → x.ok H'.length → H.length ≤ H'.length → N (a.put o.dst v) w') : o.wp P a w N Q := by
  obtain ⟨dst, op, ty, pos, after, guard⟩ := o
  cases op <;> simp only [xmap] at h
  case makeMap T r =>
    cases r with
    | some x => exact h.elim
    | none =>
      obtain ⟨_, h⟩ := h
      rw [lenH_iff, Nat.zero_add, pushH_iff] at h
      have hex : (execOp a.eval { dst, op := .makeMap T none, type := ty, pos, after, guard }).run P w = .ok (.value (.map (some w.heap.size))) (w.alloc (.map #[] 0)) := by
        simp [execOp, Instr.makeMap, run_newObj]
      unfold Oper.wp
      rw [hex]
      have ha := Sg.upd_agree σ H.length (w.heap.size, 0)
      refine next (σ.upd H.length (w.heap.size, 0)) _ _ _ _ h ha ?_ (hw.push ho _ (.obj emptyM) ?_) (ho.push trivial rfl) ⟨trivial, by simp [V.bnd, W.bnd, C.bnd]⟩ (by simp)
      · simp [V.rep, W.den, C.den, Sg.upd_self]
      · refine ⟨by rw [Sg.upd_self], by rw [Sg.upd_self]; exact Nat.le_trans hw.size hw.below.size, .map #[] 0, ?_, rfl⟩
        rw [Sg.upd_self]
        show (w.heap.push _)[w.heap.size]? = _
        simp
  case lookup T x i ok =>
    cases ok with
    | false => exact h.elim
    | true =>
      obtain ⟨c, c1, c2, h, c4⟩ := evC_spec hf h
      obtain ⟨d, d1, d2, h, d4⟩ := evW_spec hf h
      split at h
      · rename_i j n ks _
        obtain ⟨⟨⟨kt, e, et, inf, ht, A, he, hsz, hi, hz⟩, hn⟩, Q', ⟨R, hj, hR⟩, hyes, hno⟩ := h
        obtain ⟨p, q, rfl, hp, hq⟩ := pair_of d1.1 hn
        obtain ⟨l, hkey⟩ := key_of A he hsz hp hq
        have K' := A.law
        have hb := hw.blk j _ hj
        obtain ⟨hb1, hb2, ob, hb3, hb4⟩ := hb
        obtain ⟨es, clock, rfl, hes⟩ := hR ob hb4
        have hkeys : ∀ x ∈ es.toList, ∃ l, keyOf P kt x.key = some l := fun x hx => by
          obtain ⟨a1, b1, v1, k1, _, k2, k3, _⟩ := hes x hx
          rw [k1]; exact key_of A he hsz k2 k3
        have ec : a.eval x = .map (some (σ j).1) := c4 σ a hr
        have ed : a.eval i = .agg #[.int .i64 p, .int .i64 q] := d4 σ a hr
        have hzero : (zeroValue et).run P w = .ok (.int .i64 0) w := run_zero w hi hz
        rcases K'.find w hkey es.toList hkeys with ⟨h1, h2⟩ | ⟨m, e0, h1, h2, h3⟩
        · have hex : (execOp a.eval { dst, op := .lookup T x i true, type := ty, pos, after, guard }).run P w = .ok (.value (.tuple #[.int .i64 0, .bool false])) w := by
            simp [execOp, ec, ed, Instr.lookup, run_und w ht, MapKept.run_getObj_map hb3, K'.check w _ hkey, h1, hzero, Result.andThen]
          unfold Oper.wp
          rw [hex]
          exact next σ _ _ _ _ hno (Sg.agree.refl _ _) rfl hw ho ⟨⟨by simp only [W.rng, C.rng, InK, lowK, highK]; omega, trivial, trivial⟩, rfl⟩ (Nat.le_refl _)
        · have hm0 : e0 ∈ es.toList := List.mem_of_getElem? h2
          obtain ⟨a1, b1, v1, k1, k2, k3, k4, k5, k6⟩ := hes e0 hm0
          rw [k1] at h3
          obtain ⟨rfl, rfl⟩ : a1 = p ∧ b1 = q := by simpa using h3
          have hex : (execOp a.eval { dst, op := .lookup T x i true, type := ty, pos, after, guard }).run P w = .ok (.value (.tuple #[.int .i64 v1, .bool true])) w := by
            simp [execOp, ec, ed, Instr.lookup, run_und w ht, MapKept.run_getObj_map hb3, K'.check w _ hkey, h1, k2, Result.andThen]
          unfold Oper.wp
          rw [hex]
          exact next σ _ _ _ _ (hyes v1 k5 k6) (Sg.agree.refl _ _) rfl hw ho ⟨⟨k5, trivial, trivial⟩, rfl⟩ (Nat.le_refl _)
      · exact h.elim
  case mapUpdate T m k v =>
    obtain ⟨c, c1, c2, h, c4⟩ := evC_spec hf h
    obtain ⟨d, d1, d2, h, d4⟩ := evW_spec hf h
    obtain ⟨x, x1, x2, h, x4⟩ := evC_spec hf h
    split at h
    · rename_i j n ks vv _ _
      obtain ⟨⟨⟨kt, e, et, inf, ht, A, he, hsz, hi, hz⟩, hn⟩, Q', ⟨R, hj, hR⟩, hv, hgo⟩ := h
      obtain ⟨p, q, rfl, hp, hq⟩ := pair_of d1.1 hn
      obtain ⟨l, hkey⟩ := key_of A he hsz hp hq
      have K' := A.law
      have hb := hw.blk j _ hj
      obtain ⟨hb1, hb2, ob, hb3, hb4⟩ := hb
      obtain ⟨es, clock, rfl, hes⟩ := hR ob hb4
      have hkeys : ∀ x ∈ es.toList, ∃ l, keyOf P kt x.key = some l := fun x hx => by
        obtain ⟨a1, b1, v1, k1, _, k2, k3, _⟩ := hes x hx
        rw [k1]; exact key_of A he hsz k2 k3
      have ec : a.eval m = .map (some (σ j).1) := c4 σ a hr
      have ed : a.eval k = .agg #[.int .i64 p, .int .i64 q] := d4 σ a hr
      have ex : a.eval v = .int .i64 vv := x4 σ a hr
      have fin : ∀ (es' : Array MapEntry) (clock' : Nat), (∀ y ∈ es'.toList, y ∈ es.toList ∨ (y.key = .agg #[.int .i64 p, .int .i64 q] ∧ y.val = .int .i64 vv)) →
          (execOp a.eval { dst, op := .mapUpdate T m k v, type := ty, pos, after, guard }).run P w = .ok .skip { w with heap := w.heap.setIfInBounds (σ j).1 (.map es' clock') } → Oper.wp P { dst, op := .mapUpdate T m k v, type := ty, pos, after, guard } a w N Q := fun es' clock' hall hex => by
        unfold Oper.wp
        rw [hex]
        have hset := MapKept.heap_set (o' := .map es' clock') hb3
        refine next σ undefV _ undef _ (hgo _ rfl) (Sg.agree.refl _ _) (undefV_rep σ) (hw.set hj rfl (fun r hr' => hset.2 r hr') (by simp) rfl rfl rfl rfl ⟨hb1, hb2, .map es' clock', hset.1, es', clock', rfl, fun y hy => ?_⟩) (ho.set trivial rfl) ⟨trivial, rfl⟩ (by simp)
        rcases hall y hy with hy | ⟨y1, y2⟩
        · exact hes y hy
        · exact ⟨p, q, vv, y1, y2, hp, hq, x1, hv⟩
      rcases K'.find w hkey es.toList hkeys with ⟨h1, h2⟩ | ⟨i, e0, h1, h2, h3⟩
      · refine fin (es.push { key := .agg #[.int .i64 p, .int .i64 q], val := .int .i64 vv, born := clock }) (clock + 1) (fun y hy => ?_) ?_
        · simp only [Array.toList_push, List.mem_append, List.mem_singleton] at hy
          rcases hy with hy | rfl
          · exact .inl hy
          · exact .inr ⟨rfl, rfl⟩
        · simp [execOp, ec, ed, ex, Instr.mapUpdate, run_und w ht, MapKept.run_getObj_map hb3, K'.check w false hkey, h1, MapKept.run_setObj_map _ hb3, Result.andThen]
      · have hi0 : es[i]? = some e0 := by simpa using h2
        refine fin (es.modify i fun e' => { e' with key := .agg #[.int .i64 p, .int .i64 q], val := .int .i64 vv }) clock (fun y hy => ?_) ?_
        · rcases MapFrom.mem_modify hy with hy | ⟨e', _, rfl⟩
          · exact .inl hy
          · exact .inr ⟨rfl, rfl⟩
        · simp [execOp, ec, ed, ex, Instr.mapUpdate, run_und w ht, MapKept.run_getObj_map hb3, K'.check w false hkey, h1, hi0, h3, K'.stays w hkey, MapKept.run_setObj_map _ hb3, Result.andThen]
    · exact h.elim
end Go.Proofs.YtaficaacogcblaaGreatDoor
set_option linter.all false
namespace Go.Proofs.YtaficaacogcblaaGreatDoor
open Go.RowKit (Below)
variable {Df : List Deferred}
theorem Rep.app {P : Program} {E : Env} {o : Oper} {a : Act} {σ : Sg} {base : Nat} {w₀ w : World} {H : List Blk} {fr : List V} {x : V} {e : Eff} (hw : Rep E.G σ base w₀ w H) (ho : HOk H) (hr : FRep Df σ a fr) (hf : FOk H.length fr)
    (he : e.ok H) (hx : x.ok (e.app H).length) (h : EffRun P o a σ w H x e) {K : Act → World → Prop} {Q : Exit → Act → World → Prop}
    (next : ∀ τ v w', Sg.agree H.length σ τ → x.rep τ v → Rep E.G τ base w₀ w' (e.app H) → HOk (e.app H) → FRep Df τ a fr → K (a.put o.dst v) w') : o.wp P a w K Q := by
  unfold Oper.wp
  cases e with
  | none =>
    obtain ⟨v, h1, h2⟩ := h
    rw [h2]
    exact next σ v w (Sg.agree.refl _ _) h1 hw ho hr
  | new T ss =>
    obtain ⟨v, h1, h2⟩ := h
    rw [h2]
    have ha := Sg.upd_agree σ H.length (w.heap.size, 0)
    refine next _ v _ ha h1 (hw.push ho _ (.own T ss) ?_) (ho.push he.1 he.2) (hr.agree ha hf)
    refine ⟨by rw [Sg.upd_self], by rw [Sg.upd_self]; exact Nat.le_trans hw.size hw.below.size, ?_⟩
    rw [Sg.upd_self, ← dens_agree ha ss he.2]
    show (w.heap.push _)[w.heap.size]? = _
    simp
  | set j T ss =>
    obtain ⟨rfl, h2⟩ := h
    obtain ⟨he1, he2, s₀, he3⟩ := he
    rw [h2]
    have hb := hw.blk j _ he3
    refine next σ undef _ (Sg.agree.refl _ _) (undefV_rep σ) (hw.set he3 rfl (fun k hk => ?_) (by simp) rfl rfl rfl rfl ⟨hb.1, hb.2.1, ?_⟩) (ho.set he1 he2) hr
    · simp only [World.setRow, Array.getElem?_modify]; rw [if_neg (Ne.symm hk)]
    · exact setRow_heap w (σ j).1 _ _ T _ hb.2.2
abbrev Cal := FuncId → List W → List Blk → (V → List Blk → Prop) → Prop
def LeftG (G : Glo) (σ : Sg) (base : Nat) (w₀ : World) (n : Nat) (K : V → List Blk → Prop) (e : Ending) (w' : World) : Prop :=
  ∃ τ x H' v, e = .returned v ∧ x.rep τ v ∧ K x H' ∧ Sg.agree n σ τ ∧ Rep G τ base w₀ w' H' ∧ HOk H' ∧ x.ok H'.length ∧ n ≤ H'.length
abbrev Left' (E : Env) (σ : Sg) (base : Nat) (w₀ : World) (n : Nat) (K : V → List Blk → Prop) (e : Ending) (w' : World) : Prop := LeftG E.G σ base w₀ n K e w'
structure CalOk (P : Program) (E : Env) (cal : Cal) : Prop where
  call : ∀ f ws H K, cal f ws H K → rngW ws → bndW H.length ws = true → HOk H → ∀ σ base w₀ w, Rep E.G σ base w₀ w H → Calls P f (ws.map (W.den σ)).toArray w (Left' E σ base w₀ H.length K)
  enter : ∀ f ws H K, cal f ws H K → ∀ args w, (callFunc f args).run P w = .ok (.enter f args) w
def xcall (cal : Cal) (o : Oper) (fr : List V) (H : List Blk) (K : V → List Blk → Prop) : Prop :=
  match o.op with
  | .call c => match c.callee with
    | .value f => evC fr f fun fv => match fv with
      | .cf g caps => evWs fr c.args.toList fun ws => cal g (ws ++ caps.map W.c) H K
      | .cmv g j o => evWs fr c.args.toList fun ws => cal g (.c (.cp j o) :: ws) H K
      | _ => False
    | _ => False
  | _ => False
theorem rngW_append : ∀ {a b : List W}, rngW a → rngW b → rngW (a ++ b)
  | [], _, _, h => h
  | _ :: _, _, h, k => ⟨h.1, rngW_append h.2 k⟩
theorem bndW_append {n : Nat} : ∀ {a b : List W}, bndW n a = true → bndW n b = true → bndW n (a ++ b) = true
  | [], _, _, h => h
  | s :: a, b, h, k => by
    simp only [List.cons_append, bndW, Bool.and_eq_true] at h ⊢
    exact ⟨h.1, bndW_append h.2 k⟩
theorem rngL_W : ∀ {l : List C}, C.rngL l → rngW (l.map W.c)
  | [], _ => trivial
  | c :: l, h => by simp only [C.rngL] at h; exact ⟨h.1, rngL_W h.2⟩
theorem bndL_W {n : Nat} : ∀ {l : List C}, C.bndL n l = true → bndW n (l.map W.c) = true
  | [], _ => rfl
  | c :: l, h => by simp only [C.bndL, Bool.and_eq_true] at h; simp only [List.map_cons, bndW, W.bnd, h.1, bndL_W h.2, Bool.and_self]
theorem denL_W (σ : Sg) : ∀ (l : List C), C.denL σ l = (l.map W.c).map (W.den σ)
  | [] => by simp only [C.denL, List.map_nil]
  | c :: l => by simp only [C.denL, List.map_cons, denL_W σ l, W.den]
theorem xcall_spec {P : Program} {E : Env} {cal : Cal} (hc : CalOk P E cal) {o : Oper} {fr : List V} {H : List Blk} {K : V → List Blk → Prop} (h : xcall cal o fr H K) (hf : FOk H.length fr) (ho : HOk H) {σ : Sg} {a : Act} {base : Nat} {w₀ w : World}
    (hr : FRep Df σ a fr) (hw : Rep E.G σ base w₀ w H) {N : Act → World → Prop} {Q : Exit → Act → World → Prop}
    (next : ∀ τ x H' v w', K x H' → Sg.agree H.length σ τ → x.rep τ v → Rep E.G τ base w₀ w' H' → HOk H' → x.ok H'.length → H.length ≤ H'.length → N (a.put o.dst v) w') : o.wp P a w N Q := by
  obtain ⟨dst, op, ty, pos, after, guard⟩ := o
  cases op <;> simp only [xcall] at h
  case call c =>
    obtain ⟨callee, args, argTypes⟩ := c
    cases callee with
    | builtin _ => exact h.elim
    | invoke _ _ => exact h.elim
    | value f =>
      simp only at h
      obtain ⟨fv, f1, f2, h, f4⟩ := evC_spec hf h
      split at h
      · rename_i g caps
        obtain ⟨ws, w1, w2, h, w4⟩ := evWs_spec hf h
        simp only [C.rng] at f1
        simp only [C.bnd] at f2
        have e1 : args.map a.eval = (ws.map (W.den σ)).toArray := toList_toArray_map args a.eval _ (w4 σ a hr)
        have e2 : (ws.map (W.den σ)).toArray ++ (C.denL σ caps).toArray = ((ws ++ caps.map W.c).map (W.den σ)).toArray := by rw [denL_W]; simp
        have hrun : (execOp a.eval { dst, op := .call { callee := .value f, args, argTypes }, type := ty, pos, after, guard }).run P w = .ok (.enter g ((ws ++ caps.map W.c).map (W.den σ)).toArray) w := by
          simp only [execOp, resolve, f4 σ a hr, C.den, Deferred.ofValue, e1, Sem.run_bind, Sem.run_pure, Result.andThen_ok, invoke, Array.empty_append, e2]
          exact hc.enter _ _ _ _ h _ _
        unfold Oper.wp
        rw [hrun, Oper.upon_enter]
        refine (hc.call _ _ _ _ h (rngW_append w1 (rngL_W f1)) (bndW_append w2 (bndL_W f2)) ho σ base w₀ w hw).mono ?_
        rintro e w' ⟨τ, x, H', v, rfl, h1, h2, h3, h4, h5, h6, h7⟩
        exact next τ x H' v w' h2 h3 h1 h4 h5 h6 h7
      · rename_i g j o
        obtain ⟨ws, w1, w2, h, w4⟩ := evWs_spec hf h
        have e1 : args.map a.eval = (ws.map (W.den σ)).toArray := toList_toArray_map args a.eval _ (w4 σ a hr)
        have e2 : #[Value.pointer (some (σ.at j o))] ++ (ws.map (W.den σ)).toArray = ((W.c (.cp j o) :: ws).map (W.den σ)).toArray := by simp [W.den, C.den]
        have hrun : (execOp a.eval { dst, op := .call { callee := .value f, args, argTypes }, type := ty, pos, after, guard }).run P w = .ok (.enter g ((W.c (.cp j o) :: ws).map (W.den σ)).toArray) w := by
          simp only [execOp, resolve, f4 σ a hr, C.den, Deferred.ofValue, e1, Sem.run_bind, Sem.run_pure, Result.andThen_ok, invoke, Array.append_empty, e2]
          exact hc.enter _ _ _ _ h _ _
        unfold Oper.wp
        rw [hrun, Oper.upon_enter]
        refine (hc.call _ _ _ _ h ⟨trivial, w1⟩ (by simp only [bndW, w2, Bool.and_true]; exact f2) ho σ base w₀ w hw).mono ?_
        rintro e w' ⟨τ, x, H', v, rfl, h1, h2, h3, h4, h5, h6, h7⟩
        exact next τ x H' v w' h2 h3 h1 h4 h5 h6 h7
      · exact h.elim
def guardV (want : Bool) (v : V) (K : Bool → Prop) : Prop :=
  match v with
  | .w (.c (.cb b)) => match want, b with
    | true, true => K true
    | true, false => K false
    | false, true => K false
    | false, false => K true
  | .tup [] => K false
  | _ => False
def guardO (fr : List V) (want : Bool) (p : Oper) (K : Bool → Prop) : Prop :=
  match p.dst with
  | some t => getK fr t fun v => guardV want v K
  | none => False
def guardK (ops : List Oper) (fr : List V) (o : Oper) (K : Bool → Prop) : Prop :=
  match o.guard with
  | none => K true
  | some (j, want) => nthL ops j fun p => guardO fr want p K
theorem guardV_det {want : Bool} {v : V} {T : Bool → Prop} (h : guardV want v T) : ∃ b, T b ∧ guardV want v (fun c => c = b) := by
  unfold guardV at h
  split at h
  · cases want <;> rename_i b <;> cases b
    · exact ⟨true, h, rfl⟩
    · exact ⟨false, h, rfl⟩
    · exact ⟨false, h, rfl⟩
    · exact ⟨true, h, rfl⟩
  · exact ⟨false, h, rfl⟩
  · exact h.elim
theorem nthL_mk {α : Type} {p : α} : ∀ {l : List α} {n : Nat} {K : α → Prop}, l[n]? = some p → K p → nthL l n K
  | [], _, _, h, _ => by simp at h
  | a :: l, 0, _, h, hK => by simp at h; subst h; exact hK
  | a :: l, n + 1, _, h, hK => nthL_mk (l := l) (n := n) (by simpa using h) hK
theorem guardK_det {ops : List Oper} {fr : List V} {o : Oper} {T : Bool → Prop} (h : guardK ops fr o T) : ∃ b, T b ∧ guardK ops fr o (fun c => c = b) := by
  unfold guardK at h ⊢
  cases hg : o.guard with
  | none => rw [hg] at h; exact ⟨true, h, rfl⟩
  | some q =>
    obtain ⟨j, want⟩ := q
    rw [hg] at h
    obtain ⟨p, hp, h⟩ := nthL_spec h
    unfold guardO at h
    cases hd : p.dst with
    | none => rw [hd] at h; exact h.elim
    | some t =>
      rw [hd] at h
      obtain ⟨b, h1, h2⟩ := guardV_det ((getK_iff fr t _).1 h)
      refine ⟨b, h1, nthL_mk hp ?_⟩
      unfold guardO
      rw [hd]
      exact (getK_iff fr t _).2 h2
theorem guardK_spec {ops : Array Oper} {fr : List V} {o : Oper} {K : Bool → Prop} (h : guardK ops.toList fr o K) {σ : Sg} {a : Act} (hr : FRep Df σ a fr) : K (Region.wanted o (yielded ops a.tmps)) := by
  unfold guardK at h
  unfold Region.wanted
  split at h
  · rename_i hg; rw [hg]; exact h
  · rename_i j want hg
    rw [hg]
    show K (yielded ops a.tmps j == some want)
    obtain ⟨p, hp, h⟩ := nthL_spec h
    have hp' : ops[j]? = some p := by simpa using hp
    unfold guardO at h
    split at h
    · rename_i t ht
      replace h := (getK_iff fr t _).1 h
      have hy : ∀ v, a.tmps.getD t undef = v → t < fr.length → yielded ops a.tmps j = match v with | .bool b => some b | _ => none := fun v hv hlt => by
        have hlt' : t < a.tmps.size := by rw [hr.size]; exact hlt
        simp only [yielded, hp', Option.bind_some, ht]
        rw [Array.getElem?_eq_getElem hlt']
        have : a.tmps[t] = v := by rw [← hv]; simp [hlt']
        rw [this]
        cases v <;> rfl
      rcases Nat.lt_or_ge t fr.length with hlt | hge
      · have hv := hr.rep t fr[t] (List.getElem?_eq_getElem hlt)
        have hg' : fr.getD t .any = fr[t] := by rw [List.getD_eq_getElem?_getD, List.getElem?_eq_getElem hlt]; rfl
        rw [hg'] at h
        generalize fr[t] = y at h hv
        unfold guardV at h
        split at h
        · rename_i b
          rw [hy (.bool b) hv hlt]
          cases want <;> cases b <;> exact h
        · rw [hy undef hv hlt]
          exact h
        · exact h.elim
      · rw [List.getD_eq_getElem?_getD, List.getElem?_eq_none hge] at h
        exact h.elim
    · exact h.elim
def xapp (P : Program) (o : Oper) (fr : List V) (H : List Blk) (K : V → List Blk → Prop) : Prop :=
  match o.op with
  | .call c => match c.callee, c.args.toList, c.argTypes.toList with
    | .builtin .append, [s, x], [T, T'] => match Nat.beq T T' with
      | true => evC fr s fun cs => evC fr x fun cx => kAppW P T H cs cx fun c H' => K (.w (.c c)) H'
      | false => evC fr s fun cs => evC fr x fun cx => match cx with
        | .cs _ => kAppS P T T' H cs cx fun c H' => K (.w (.c c)) H'
        | _ => kAppZ P T T' H cs cx fun c H' => K (.w (.c c)) H'
    | .builtin .copy, [s, x], [T, _] => evC fr s fun cs => evC fr x fun cx => kCopy P T H cs cx fun c H' => K (.w (.c c)) H'
    | _, _, _ => False
  | _ => False
theorem xapp_spec {P : Program} {E : Env} {o : Oper} {fr : List V} {H : List Blk} {K : V → List Blk → Prop} (h : xapp P o fr H K) (hf : FOk H.length fr) (ho : HOk H) {σ : Sg} {a : Act} {base : Nat} {w₀ w : World}
    (hr : FRep Df σ a fr) (hw : Rep E.G σ base w₀ w H) {N : Act → World → Prop} {Q : Exit → Act → World → Prop}
    (next : ∀ τ x H' v w', K x H' → Sg.agree H.length σ τ → x.rep τ v → Rep E.G τ base w₀ w' H' → HOk H' → x.ok H'.length → H.length ≤ H'.length → N (a.put o.dst v) w') : o.wp P a w N Q := by
  obtain ⟨dst, op, ty, pos, after, guard⟩ := o
  cases op <;> simp only [xapp] at h
  case call c =>
    obtain ⟨callee, args, argTypes⟩ := c
    split at h
    · rename_i s x T T' hcal hargs htys
      simp only at hcal hargs htys
      subst hcal
      have hargs' : args = #[s, x] := by cases args; simp_all
      have htys' : argTypes = #[T, T'] := by cases argTypes; simp_all
      subst hargs' htys'
      split at h
      · rename_i hT
        obtain rfl := Nat.eq_of_beq_eq_true hT
        obtain ⟨cs, s1, s2, h, s4⟩ := evC_spec hf h
        obtain ⟨cx, x1, x2, h, x4⟩ := evC_spec hf h
        obtain ⟨v, w', τ, c, H', hrun, k1, k2, k3, k4, k5, k6, k7⟩ := kAppW_spec (ty := ty) h ho s1 hw
        have hex : (execOp a.eval { dst, op := .call { callee := .builtin .append, args := #[s, x], argTypes := #[T, T] }, type := ty, pos, after, guard }).run P w = .ok (.value v) w' := by
          simp only [execOp, resolve, invoke, builtin, Sem.run_bind, Sem.run_pure, Result.andThen_ok, List.map_toArray, List.map_cons, List.map_nil, s4 σ a hr, x4 σ a hr, hrun]
        unfold Oper.wp
        rw [hex]
        exact next τ (.w (.c c)) H' v w' k1 k2 k6 k7 k5 k3 k4
      · obtain ⟨cs, s1, s2, h, s4⟩ := evC_spec hf h
        obtain ⟨cx, x1, x2, h, x4⟩ := evC_spec hf h
        have both : ∃ v w' τ c H', (Builtin.append_ #[T, T'] ty #[cs.den σ, cx.den σ]).run P w = .ok v w' ∧ K (.w (.c c)) H' ∧ Sg.agree H.length σ τ ∧ (c.rng ∧ c.bnd H'.length = true) ∧ H.length ≤ H'.length ∧ HOk H' ∧ v = c.den τ ∧ Rep E.G τ base w₀ w' H' := by
          split at h
          · exact kAppS_spec (ty := ty) h ho s1 x1 hw
          · exact kAppZ_spec (ty := ty) h ho hw
        obtain ⟨v, w', τ, c, H', hrun, k1, k2, k3, k4, k5, k6, k7⟩ := both
        have hex : (execOp a.eval { dst, op := .call { callee := .builtin .append, args := #[s, x], argTypes := #[T, T'] }, type := ty, pos, after, guard }).run P w = .ok (.value v) w' := by
          simp only [execOp, resolve, invoke, builtin, Sem.run_bind, Sem.run_pure, Result.andThen_ok, List.map_toArray, List.map_cons, List.map_nil, s4 σ a hr, x4 σ a hr, hrun]
        unfold Oper.wp
        rw [hex]
        exact next τ (.w (.c c)) H' v w' k1 k2 k6 k7 k5 k3 k4
    · rename_i s x T T' hcal hargs htys
      simp only at hcal hargs htys
      subst hcal
      have hargs' : args = #[s, x] := by cases args; simp_all
      have htys' : argTypes = #[T, T'] := by cases argTypes; simp_all
      subst hargs' htys'
      obtain ⟨cs, s1, s2, h, s4⟩ := evC_spec hf h
      obtain ⟨cx, x1, x2, h, x4⟩ := evC_spec hf h
      obtain ⟨v, w', τ, c, H', hrun, k1, k2, k3, k4, k5, k6, k7⟩ := kCopy_spec (T' := T') (ty := ty) h ho s1 hw
      have hex : (execOp a.eval { dst, op := .call { callee := .builtin .copy, args := #[s, x], argTypes := #[T, T'] }, type := ty, pos, after, guard }).run P w = .ok (.value v) w' := by
        simp only [execOp, resolve, invoke, builtin, Sem.run_bind, Sem.run_pure, Result.andThen_ok, List.map_toArray, List.map_cons, List.map_nil, s4 σ a hr, x4 σ a hr, hrun]
      unfold Oper.wp
      rw [hex]
      exact next τ (.w (.c c)) H' v w' k1 k2 k6 k7 k5 k3 k4
    · exact h.elim
def xany (P : Program) (E : Env) (cal : Cal) (o : Oper) (fr : List V) (H : List Blk) (K : V → List Blk → Prop) : Prop :=
  match E.own o with
  | true => E.X o fr H K
  | false => match o.op with
    | .call c => match c.callee with
      | .value _ => xcall cal o fr H K
      | .builtin .append => xapp P o fr H K
      | .builtin .copy => xapp P o fr H K
      | _ => xop P E o fr H fun x e => effK H e fun H' => K x H'
    | .makeMap _ _ => xmap P o fr H K
    | .lookup _ _ _ _ => xmap P o fr H K
    | .mapUpdate _ _ _ _ => xmap P o fr H K
    | _ => xop P E o fr H fun x e => effK H e fun H' => K x H'
theorem xany_spec {P : Program} {E : Env} (hE : EnvOk P E) {cal : Cal} (hc : CalOk P E cal) {o : Oper} {fr : List V} {H : List Blk} {K : V → List Blk → Prop} (h : xany P E cal o fr H K) (hf : FOk H.length fr) (ho : HOk H) {σ : Sg} {a : Act} {base : Nat} {w₀ w : World}
    (hr : FRep Df σ a fr) (hw : Rep E.G σ base w₀ w H) {N : Act → World → Prop} {Q : Exit → Act → World → Prop}
    (next : ∀ τ x H' v w', K x H' → Sg.agree H.length σ τ → x.rep τ v → Rep E.G τ base w₀ w' H' → HOk H' → x.ok H'.length → H.length ≤ H'.length → N (a.put o.dst v) w') : o.wp P a w N Q := by
  have opc : (xop P E o fr H fun x e => effK H e fun H' => K x H') → o.wp P a w N Q := fun h => by
    obtain ⟨x, e, h1, h2, h3, h4⟩ := xop_spec hE h hf ho
    rw [effK_iff] at h1
    exact Rep.app hw ho hr hf h2 h3 (h4 σ a base w₀ w hr hw) fun τ v w' k1 k2 k3 k4 k5 => next τ x _ v w' h1 k1 k2 k3 k4 h3 (Eff.app_len H e)
  unfold xany at h
  split at h
  · exact hE.ext Df o fr H K h hf ho σ a base w₀ w hr hw N Q next
  split at h
  · split at h
    · exact xcall_spec hc h hf ho hr hw next
    · exact xapp_spec h hf ho hr hw next
    · exact xapp_spec h hf ho hr hw next
    · exact opc h
  · exact xmap_spec h hf ho hr hw next
  · exact xmap_spec h hf ho hr hw next
  · exact xmap_spec h hf ho hr hw next
  · exact opc h
def xops (P : Program) (E : Env) (cal : Cal) (ops l : List Oper) : List V → List Blk → (List V → List Blk → Prop) → Prop :=
  List.rec (motive := fun _ => List V → List Blk → (List V → List Blk → Prop) → Prop) (fun fr H K => K fr H)
    (fun o _ ih fr H K => guardK ops fr o fun wanted => match wanted with
      | true => xany P E cal o fr H fun x H' => putK fr o.dst x fun fr' => ih fr' H' K
      | false => putK fr o.dst undefV fun fr' => ih fr' H K) l
theorem xops_cons (P : Program) (E : Env) (cal : Cal) (ops : List Oper) (o : Oper) (rest : List Oper) (fr : List V) (H : List Blk) (K : List V → List Blk → Prop) : xops P E cal ops (o :: rest) fr H K = guardK ops fr o fun wanted => match wanted with
    | true => xany P E cal o fr H fun x H' => putK fr o.dst x fun fr' => xops P E cal ops rest fr' H' K
    | false => putK fr o.dst undefV fun fr' => xops P E cal ops rest fr' H K := rfl
inductive Ex where
  | normal
  | exit (id : Nat)
  | ret
def Ex.of : Ex → Exit
  | .normal => .normal
  | .exit id => .exit id
  | .ret => .ret
abbrev XQ := Ex → List V → List Blk → Prop
def Post (Df : List Deferred) (E : Env) (σ : Sg) (base : Nat) (w₀ : World) (lo : Nat) (Q : XQ) (e : Exit) (a : Act) (w : World) : Prop :=
  ∃ τ fr H ex, e = Ex.of ex ∧ Q ex fr H ∧ Sg.agree lo σ τ ∧ Rep E.G τ base w₀ w H ∧ HOk H ∧ FRep Df τ a fr ∧ FOk H.length fr ∧ lo ≤ H.length
theorem xops_spec {P : Program} {E : Env} (hE : EnvOk P E) {cal : Cal} (hc : CalOk P E cal) (ops : Array Oper) {base : Nat} {w₀ : World} {lo : Nat} {Q : Exit → Act → World → Prop} {σ₀ : Sg} :
    ∀ (rest : List Oper) (i : Nat), (∀ j, rest[j]? = ops[i + j]?) → ∀ {fr : List V} {H : List Blk} {K : List V → List Blk → Prop}, xops P E cal ops.toList rest fr H K → FOk H.length fr → HOk H → lo ≤ H.length →
      (∀ τ fr H a w, K fr H → Sg.agree lo σ₀ τ → Rep E.G τ base w₀ w H → HOk H → FRep Df τ a fr → FOk H.length fr → lo ≤ H.length → Q .normal a w) →
      ∀ {σ : Sg} {a : Act} {w : World}, Sg.agree lo σ₀ σ → FRep Df σ a fr → Rep E.G σ base w₀ w H → wpOps P ops Q (List.range' i rest.length) a w
  | [], i, _, fr, H, K, h, hf, ho, hlo, fin, σ, a, w, hσ, hr, hw => by
    simp only [List.length_nil, List.range'_zero, wpOps]
    exact fin σ fr H a w h hσ hw ho hr hf hlo
  | o :: rest, i, hget, fr, H, K, h, hf, ho, hlo, fin, σ, a, w, hσ, hr, hw => by
    have hi : ops[i]? = some o := by simpa using (hget 0).symm
    have hrest : ∀ j, rest[j]? = ops[i + 1 + j]? := fun j => by have := hget (j + 1); simpa [Nat.add_assoc, Nat.add_comm 1 j] using this
    simp only [List.length_cons, List.range'_succ, wpOps, hi]
    rw [xops_cons] at h
    have h := guardK_spec h hr
    cases hwant : Region.wanted o (yielded ops a.tmps) with
    | true =>
      rw [hwant] at h
      simp only [if_true]
      refine .inl (xany_spec hE hc h hf ho hr hw fun τ x H' v w' k1 k2 k3 k4 k5 k6 k7 => ?_)
      rw [putK_iff] at k1
      exact xops_spec hE hc ops rest (i + 1) hrest k1 (FOk.put (hf.mono k7) k6) k5 (Nat.le_trans hlo k7) fin (hσ.trans (k2.mono hlo)) ((hr.agree k2 hf).put k3) k4
    | false =>
      rw [hwant] at h
      simp only [Bool.false_eq_true, if_false]
      simp only at h
      rw [putK_iff] at h
      exact xops_spec hE hc ops rest (i + 1) hrest h (FOk.put hf ⟨trivial, rfl⟩) ho hlo fin hσ (hr.put (undefV_rep σ)) hw
@[irreducible] def XLoop (body : List V → List Blk → XQ → Prop) (lo : Nat) (fr : List V) (H : List Blk) (Q : XQ) : Prop :=
  ∃ I N : Nat → List V → List Blk → Prop, (∃ m fr' H' ρ, I m fr' H' ∧ Seen ρ lo fr' H' fr H) ∧
    (∀ m fr H, I m fr H → HOk H → FOk H.length fr → lo ≤ H.length → body fr H fun ex fr' H' => match ex with
      | .normal => N m fr' H'
      | .exit id => Q (.exit id) fr' H'
      | .ret => Q .ret fr' H') ∧
    ∀ m fr' H', N m fr' H' → ∃ m' fr'' H'' ρ, m' < m ∧ I m' fr'' H'' ∧ Seen ρ lo fr'' H'' fr' H'
abbrev Drw := Array Oper → Nat → List V → List Blk → (List V → List Blk → Prop) → Prop
def XC (P : Program) (E : Env) (cal : Cal) (drw : Drw) (c : Code) : Nat → List V → List Blk → XQ → Prop :=
  Code.rec (motive := fun _ => Nat → List V → List Blk → XQ → Prop)
    (fun _ fr H Q => Q .normal fr H)
    (fun _ ops draw lo fr H Q => match draw with
      | false => xops P E cal ops.toList ops.toList fr H fun fr H => Q .normal fr H
      | true => drw ops lo fr H fun fr H => Q .normal fr H)
    (fun _ _ ihx ihy lo fr H Q => ihx lo fr H fun ex fr H => match ex with
      | .normal => ihy lo fr H Q
      | .exit id => Q (.exit id) fr H
      | .ret => Q .ret fr H)
    (fun c _ _ ihx ihy lo fr H Q => evC fr c fun d => match d with
      | .cb t => match t with
        | true => ihx lo fr H Q
        | false => ihy lo fr H Q
      | _ => False)
    (fun id _ ih lo fr H Q => ih lo fr H fun ex fr H => match ex with
      | .exit id' => match Nat.beq id' id with
        | true => Q .normal fr H
        | false => Q (.exit id') fr H
      | .normal => Q .normal fr H
      | .ret => Q .ret fr H)
    (fun _ ih lo fr H Q => XLoop (fun fr H Q => ih lo fr H Q) lo fr H Q)
    (fun _ _ _ _ _ _ _ _ _ _ => False)
    (fun id _ fr H Q => Q (.exit id) fr H)
    (fun _ ih lo fr H Q => ih lo fr H Q)
    (fun _ _ fr H Q => Q .normal fr H)
    (fun _ _ _ _ _ => False)
    (fun _ fr H Q => Q .ret fr H)
    (fun _ _ _ _ _ => False) c
def DrwOk (P : Program) (E : Env) (drw : Drw) : Prop :=
  ∀ (Df : List Deferred) (id : Nat) ops lo fr H K, drw ops lo fr H K → FOk H.length fr → HOk H → lo ≤ H.length → ∀ σ base w₀ w a, FRep Df σ a fr → Rep E.G σ base w₀ w H →
    (Code.region id ops true).wp P (Post Df E σ base w₀ lo fun ex fr H => ex = .normal ∧ K fr H) a w
theorem XC_spec {P : Program} {E : Env} (hE : EnvOk P E) {cal : Cal} (hc : CalOk P E cal) {drw : Drw} (hd : DrwOk P E drw) {base : Nat} {w₀ : World} :
    ∀ (c : Code) {lo : Nat} {fr : List V} {H : List Blk} {Q : XQ}, XC P E cal drw c lo fr H Q → FOk H.length fr → HOk H → lo ≤ H.length → ∀ {σ : Sg} {w : World} {a : Act}, FRep Df σ a fr → Rep E.G σ base w₀ w H →
      c.wp P (Post Df E σ base w₀ lo Q) a w := by
  intro c
  induction c with
  | skip =>
    intro lo fr H Q h hf ho hlo σ w a hr hw
    exact wp_skip ⟨σ, fr, H, .normal, rfl, h, Sg.agree.refl _ _, hw, ho, hr, hf, hlo⟩
  | label l =>
    intro lo fr H Q h hf ho hlo σ w a hr hw
    exact wp_label ⟨σ, fr, H, .normal, rfl, h, Sg.agree.refl _ _, hw, ho, hr, hf, hlo⟩
  | region id ops draw =>
    intro lo fr H Q h hf ho hlo σ w a hr hw
    cases draw with
    | false =>
      replace h : xops P E cal ops.toList ops.toList fr H (fun fr H => Q .normal fr H) := h
      refine wp_region ?_
      have := xops_spec hE hc ops (base := base) (w₀ := w₀) (lo := lo) (σ₀ := σ) (Q := Post Df E σ base w₀ lo Q) ops.toList 0 (fun j => by simp) h hf ho hlo
        (fun τ fr H a w k1 k2 k3 k4 k5 k6 k7 => ⟨τ, fr, H, .normal, rfl, k1, k2, k3, k4, k5, k6, k7⟩) (Sg.agree.refl _ _) hr hw
      rw [List.range_eq_range']
      simpa using this
    | true =>
      replace h : drw ops lo fr H (fun fr H => Q .normal fr H) := h
      refine wp_mono (hd Df id ops lo fr H _ h hf ho hlo σ base w₀ w a hr hw) ?_
      rintro e a' w' ⟨τ, fr', H', ex, rfl, ⟨rfl, k1⟩, k2, k3, k4, k5, k6, k7⟩
      exact ⟨τ, fr', H', .normal, rfl, k1, k2, k3, k4, k5, k6, k7⟩
  | seq x y ihx ihy =>
    intro lo fr H Q h hf ho hlo σ w a hr hw
    replace h : XC P E cal drw x lo fr H (fun ex fr H => match ex with
      | .normal => XC P E cal drw y lo fr H Q
      | .exit id => Q (.exit id) fr H
      | .ret => Q .ret fr H) := h
    refine wp_seq (wp_mono (ihx h hf ho hlo hr hw) ?_)
    rintro e a' w' ⟨τ, fr', H', ex, rfl, k1, k2, k3, k4, k5, k6, k7⟩
    cases ex with
    | normal =>
      refine wp_mono (ihy k1 k6 k4 k7 k5 k3) ?_
      rintro e a'' w'' ⟨τ', fr'', H'', ex', rfl, q1, q2, q3, q4, q5, q6, q7⟩
      exact ⟨τ', fr'', H'', ex', rfl, q1, k2.trans q2, q3, q4, q5, q6, q7⟩
    | exit id => exact ⟨τ, fr', H', .exit id, rfl, k1, k2, k3, k4, k5, k6, k7⟩
    | ret => exact ⟨τ, fr', H', .ret, rfl, k1, k2, k3, k4, k5, k6, k7⟩
  | cond c x y ihx ihy =>
    intro lo fr H Q h hf ho hlo σ w a hr hw
    replace h : evC fr c (fun d => match d with
      | .cb t => match t with
        | true => XC P E cal drw x lo fr H Q
        | false => XC P E cal drw y lo fr H Q
      | _ => False) := h
    obtain ⟨d, d1, d2, h, d4⟩ := evC_spec hf h
    split at h
    · split at h
      · exact wp_cond_true (d4 σ a hr) (ihx h hf ho hlo hr hw)
      · exact wp_cond_false (d4 σ a hr) (ihy h hf ho hlo hr hw)
    · exact h.elim
  | block id c ih =>
    intro lo fr H Q h hf ho hlo σ w a hr hw
    replace h : XC P E cal drw c lo fr H (fun ex fr H => match ex with
      | .exit id' => match Nat.beq id' id with
        | true => Q .normal fr H
        | false => Q (.exit id') fr H
      | .normal => Q .normal fr H
      | .ret => Q .ret fr H) := h
    refine wp_block (wp_mono (ih h hf ho hlo hr hw) ?_)
    rintro e a' w' ⟨τ, fr', H', ex, rfl, k1, k2, k3, k4, k5, k6, k7⟩
    cases ex with
    | normal => exact ⟨τ, fr', H', .normal, rfl, k1, k2, k3, k4, k5, k6, k7⟩
    | ret => exact ⟨τ, fr', H', .ret, rfl, k1, k2, k3, k4, k5, k6, k7⟩
    | exit id' =>
      simp only [Ex.of, Exit.inBlock]
      simp only at k1
      split at k1
      · rename_i hb
        rw [if_pos (Nat.eq_of_beq_eq_true hb)]
        exact ⟨τ, fr', H', .normal, rfl, k1, k2, k3, k4, k5, k6, k7⟩
      · rename_i hb
        rw [if_neg (Nat.ne_of_beq_eq_false hb)]
        exact ⟨τ, fr', H', .exit id', rfl, k1, k2, k3, k4, k5, k6, k7⟩
  | loop c ih =>
    intro lo fr H Q h hf ho hlo σ w a hr hw
    replace h : XLoop (fun fr H Q => XC P E cal drw c lo fr H Q) lo fr H Q := h
    unfold XLoop at h
    obtain ⟨I, N, ⟨m, fr', H', ρ, i1, i2⟩, round, again⟩ := h
    obtain ⟨o1, o2⟩ := i2.ok hf ho
    refine wp_loop_ghost (fun m a' w' => ∃ τ fr H, I m fr H ∧ FOk H.length fr ∧ HOk H ∧ lo ≤ H.length ∧ Sg.agree lo σ τ ∧ FRep Df τ a' fr ∧ Rep E.G τ base w₀ w' H) m
      ⟨σ.ren ρ, fr', H', i1, o1, o2, i2.lo, fun j hj => by simp only [Sg.ren, i2.low j hj], hr.ren i2.len i2.fr, hw.ren i2.blk i2.inj⟩ ?_
    rintro m a' w' ⟨τ, fr, H, j1, j2, j3, j4, j5, j6, j7⟩
    refine wp_mono (ih (round m fr H j1 j3 j2 j4) j2 j3 j4 j6 j7) ?_
    rintro e a'' w'' ⟨τ', fr₂, H₂, ex, rfl, k1, k2, k3, k4, k5, k6, k7⟩
    cases ex with
    | normal =>
      obtain ⟨m', fr₃, H₃, ρ', n1, n2, n3⟩ := again _ _ _ k1
      obtain ⟨q1, q2⟩ := n3.ok k6 k4
      exact ⟨m', n1, τ'.ren ρ', fr₃, H₃, n2, q1, q2, n3.lo, (j5.trans k2).trans fun j hj => by simp only [Sg.ren, n3.low j hj], k5.ren n3.len n3.fr, k3.ren n3.blk n3.inj⟩
    | exit id => exact ⟨τ', fr₂, H₂, .exit id, rfl, k1, j5.trans k2, k3, k4, k5, k6, k7⟩
    | ret => exact ⟨τ', fr₂, H₂, .ret, rfl, k1, j5.trans k2, k3, k4, k5, k6, k7⟩
  | exit id =>
    intro lo fr H Q h hf ho hlo σ w a hr hw
    exact wp_exit ⟨σ, fr, H, .exit id, rfl, h, Sg.agree.refl _ _, hw, ho, hr, hf, hlo⟩
  | ret =>
    intro lo fr H Q h hf ho hlo σ w a hr hw
    exact wp_ret ⟨σ, fr, H, .ret, rfl, h, Sg.agree.refl _ _, hw, ho, hr, hf, hlo⟩
  | rangeFunc _ _ _ _ => intro lo fr H Q h; exact h.elim
  | scope c ih =>
    intro lo fr H Q h hf ho hlo σ w a hr hw
    replace h : XC P E cal drw c lo fr H Q := h
    refine wp_scope_straight (wp_mono (ih h hf ho hlo hr hw) ?_)
    rintro e a' w' ⟨τ, fr', H', ex, rfl, k1, k2, k3, k4, k5, k6, k7⟩
    cases ex with
    | normal => exact ⟨τ, fr', H', .normal, rfl, k1, k2, k3, k4, k5, k6, k7⟩
    | exit id => exact ⟨τ, fr', H', .exit id, rfl, k1, k2, k3, k4, k5, k6, k7⟩
    | ret => exact ⟨τ, fr', H', .ret, rfl, k1, k2, k3, k4, k5, k6, k7⟩
  | goto _ => intro lo fr H Q h; exact h.elim
  | refuse _ => intro lo fr H Q h; exact h.elim
end Go.Proofs.YtaficaacogcblaaGreatDoor
set_option linter.all false
namespace Go.Proofs.YtaficaacogcblaaGreatDoor
open Go.RowKit (Below)
variable {Df : List Deferred}
def frameK : List W → Nat → (List V → Prop) → Prop
  | [], 0, K => K []
  | [], n + 1, K => frameK [] n fun r => K (.tup [] :: r)
  | w :: ws, n + 1, K => frameK ws n fun r => K (.w w :: r)
  | _ :: _, 0, _ => False
theorem frameK_spec : ∀ {ws : List W} {n : Nat} {K : List V → Prop}, frameK ws n K → ∃ fr, K fr ∧ ws.length ≤ n ∧ fr = ws.map V.w ++ List.replicate (n - ws.length) undefV
  | [], 0, K, h => ⟨[], h, Nat.le_refl _, rfl⟩
  | [], n + 1, K, h => by
    obtain ⟨fr, h1, h2, h3⟩ := frameK_spec (ws := []) (n := n) h
    refine ⟨_, h1, Nat.zero_le _, ?_⟩
    rw [h3]
    simp [List.replicate_succ, undefV]
  | w :: ws, n + 1, K, h => by
    obtain ⟨fr, h1, h2, h3⟩ := frameK_spec (ws := ws) (n := n) h
    refine ⟨_, h1, by simpa using h2, ?_⟩
    rw [h3]
    simp
  | _ :: _, 0, _, h => h.elim
theorem frame_ok {n : Nat} {ws : List W} (hr : rngW ws) (hb : bndW n ws = true) (m : Nat) : FOk n (ws.map V.w ++ List.replicate m undefV) := by
  refine ⟨fun x hx => ?_⟩
  rcases List.mem_append.1 hx with h | h
  · clear hx
    induction ws with
    | nil => simp at h
    | cons w ws ih =>
      simp only [bndW, Bool.and_eq_true] at hb
      rcases List.mem_cons.1 h with rfl | h
      · exact ⟨hr.1, hb.1⟩
      · exact ih hr.2 hb.2 h
  · rw [(List.mem_replicate.1 h).2]; exact ⟨trivial, rfl⟩
theorem frame_rep (σ : Sg) (ws : List W) (m : Nat) : FRep [] σ { tmps := (ws.map (W.den σ)).toArray ++ Array.replicate m undef, defers := [] } (ws.map V.w ++ List.replicate m undefV) := by
  refine ⟨rfl, by simp, fun i x hx => ?_⟩
  rcases Nat.lt_or_ge i ws.length with h | h
  · rw [List.getElem?_append_left (by simpa using h)] at hx
    simp [h] at hx
    subst hx
    simp [V.rep, Array.getElem?_append, h]
  · rw [List.getElem?_append_right (by simpa using h)] at hx
    have hx' := List.getElem?_eq_some_iff.1 hx
    obtain ⟨hlt, hx2⟩ := hx'
    simp at hlt
    simp at hx2
    subst hx2
    have : i - ws.length < m := hlt
    simp [Array.getElem?_append, Nat.not_lt.2 h, this]
    exact undefV_rep σ
def resK (P : Program) (E : Env) : List ResultVar → List V → List Blk → (List W → Prop) → Prop
  | [], _, _, K => K []
  | .tmp t :: rs, fr, H, K => getK fr t fun v => match v with
    | .w x => resK P E rs fr H fun xs => K (x :: xs)
    | _ => False
  | .cell a T :: rs, fr, H, K => getK fr a fun v => match v with
    | .w (.c c) => lookA E.G H c fun ss o i => kLoad P T ss o i fun x => resK P E rs fr H fun xs => K (x :: xs)
    | _ => False
def rvS (a : Act) : ResultVar → Sem Value
  | .tmp t => pure (a.tmps.getD t undef)
  | .cell c t => do loadVar t (← asAddr (a.tmps.getD c undef))
theorem resK_spec {P : Program} {E : Env} (hE : EnvOk P E) {fr : List V} {H : List Blk} (hf : FOk H.length fr) (ho : HOk H) : ∀ {rs : List ResultVar} {K : List W → Prop}, resK P E rs fr H K →
    ∃ xs, K xs ∧ rngW xs ∧ bndW H.length xs = true ∧ ∀ {Df : List Deferred} σ a base w₀ w, FRep Df σ a fr → Rep E.G σ base w₀ w H →
      (rs.mapM (rvS a)).run P w = .ok (xs.map (W.den σ)) w
  | [], K, h => ⟨[], h, trivial, rfl, fun σ a base w₀ w _ _ => rfl⟩
  | .tmp t :: rs, K, h => by
    obtain ⟨v, h1, h2, h3⟩ := evK_spec hf (x := .tmp t) h
    split at h2
    · rename_i x
      obtain ⟨xs, k1, k2, k3, k4⟩ := resK_spec hE hf ho h2
      refine ⟨x :: xs, k1, ⟨h1.1, k2⟩, by simp only [bndW, k3, Bool.and_true]; exact h1.2, fun σ a base w₀ w hr hw => ?_⟩
      have e1 : a.tmps.getD t undef = x.den σ := h3 σ a hr
      rw [List.mapM_cons]
      simp only [rvS, Sem.run_bind, Sem.run_pure, Result.andThen_ok, k4 σ a base w₀ w hr hw, e1, List.map_cons]
    · exact h2.elim
  | .cell c t :: rs, K, h => by
    obtain ⟨v, h1, h2, h3⟩ := evK_spec hf (x := .tmp c) h
    split at h2
    · rename_i cc
      obtain ⟨ss, o, i, h, q2, q3, q4, q5⟩ := lookA_spec hE.glo ho h2
      obtain ⟨y, y1, y2, y3, y4⟩ := kLoad_spec h q2 q3
      obtain ⟨xs, k1, k2, k3, k4⟩ := resK_spec hE hf ho y3
      refine ⟨y :: xs, k1, ⟨y1, k2⟩, by simp only [bndW, y2, k3, Bool.and_true], fun σ a base w₀ w hr hw => ?_⟩
      have e1 : a.tmps.getD c undef = cc.den σ := h3 σ a hr
      have e2 : asAddr (a.tmps.getD c undef) = pure (Addr.of σ cc) := by rw [e1, q4 σ]; rfl
      rw [List.mapM_cons]
      simp only [rvS, Sem.run_bind, Sem.run_pure, Result.andThen_ok, e2, y4 σ w _ (q5 σ base w₀ w hw), k4 σ a base w₀ w hr hw, List.map_cons]
    · exact h2.elim
def finalV : List W → V
  | [x] => .w x
  | xs => .tup xs
theorem results_run {P : Program} {fn : Func} {a : Act} {w : World} {vs : List Value}
    (h : (fn.results.toList.mapM (rvS a)).run P w = .ok vs w) :
    (results fn a.tmps).run P w = .ok (match vs with | [v] => v | vs => .tuple vs.toArray) w := by
  show (do let vs ← fn.results.mapM (rvS a); pure (if h : vs.size = 1 then vs[0] else .tuple vs) : Sem Value).run P w = _
  rw [Array.mapM_eq_mapM_toList]
  simp only [Sem.run_bind, Sem.run_map, h, Result.andThen_ok, Sem.run_pure]
  cases vs with
  | nil => rfl
  | cons v vs =>
    cases vs with
    | nil => rfl
    | cons u us => rfl
def xfun (P : Program) (E : Env) (cal : Cal) (drw : Drw) (fn : Func) (ws : List W) (H : List Blk) (K : V → List Blk → Prop) : Prop :=
  match fn.body with
  | none => False
  | some c => lenH H 0 fun lo => frameK ws fn.ntmps fun fr => XC P E cal drw c lo fr H fun ex fr' H' => match ex with
    | .exit _ => False
    | _ => resK P E fn.results.toList fr' H' fun xs => K (finalV xs) H'
theorem xfun_spec {P : Program} {E : Env} (hE : EnvOk P E) {cal : Cal} (hc : CalOk P E cal) {drw : Drw} (hd : DrwOk P E drw) {f : FuncId} {fn : Func} (hf : P.funcs[f]? = some fn) {ws : List W} {H : List Blk} {K : V → List Blk → Prop}
    (h : xfun P E cal drw fn ws H K) (hr : rngW ws) (hb : bndW H.length ws = true) (ho : HOk H) (σ : Sg) (base : Nat) (w₀ w : World) (hw : Rep E.G σ base w₀ w H) :
    Calls P f (ws.map (W.den σ)).toArray w (Left' E σ base w₀ H.length K) := by
  unfold xfun at h
  split at h
  · exact h.elim
  · rename_i c hbody
    rw [lenH_iff, Nat.zero_add] at h
    obtain ⟨fr, h, h2, rfl⟩ := frameK_spec h
    refine calls_of_wp hf hbody ?_
    have hsz : fn.ntmps - ((ws.map (W.den σ)).toArray).size = fn.ntmps - ws.length := by simp
    rw [hsz]
    refine wp_mono (XC_spec hE hc hd c h (frame_ok hr hb _) ho (Nat.le_refl _) (frame_rep σ ws _) hw) ?_
    rintro e a w' ⟨τ, fr', H', ex, rfl, k1, k2, k3, k4, k5, k6, k7⟩
    have fin : (resK P E fn.results.toList fr' H' fun xs => K (finalV xs) H') → a.defers = [] ∧ ∃ v, (results fn a.tmps).run P w' = .ok v w' ∧ Left' E σ base w₀ H.length K (.returned v) w' := fun k1 => by
      obtain ⟨xs, q1, q2, q3, q4⟩ := resK_spec hE k6 k4 k1
      refine ⟨k5.dfr, _, results_run (q4 τ a base w₀ w' k5 k3), τ, finalV xs, H', _, rfl, ?_, q1, k2, k3, k4, ?_, k7⟩
      · match xs with
        | [] => rfl
        | [x] => rfl
        | x :: y :: xs => rfl
      · match xs, q2, q3 with
        | [], _, _ => exact ⟨trivial, rfl⟩
        | [x], q2, q3 => simp only [bndW, Bool.and_true] at q3; exact ⟨q2.1, q3⟩
        | x :: y :: xs, q2, q3 => exact ⟨q2, q3⟩
    cases ex with
    | normal => exact fin k1
    | ret => exact fin k1
    | exit id => exact k1.elim
abbrev Ct := List W → (V → Prop) → Prop
def CtOk (P : Program) (f : FuncId) (ct : Ct) : Prop :=
  ∀ ws K, ct ws K → rngW ws → ∃ x : V, K x ∧ x.ok 0 ∧ ∀ (σ : Sg) w, Calls P f (ws.map (W.den σ)).toArray w fun e w' => ∃ v, e = .returned v ∧ x.rep σ v ∧ Below w.heap.size w w'
def GW (G : Glo) (w : World) : Prop := ∀ (g : Nat) (ss : List Seg), G g = some ss → g < w.heap.size ∧ bnds 0 ss = true ∧ ∀ (i : Nat) (v : Value), (dens (fun _ => (0, 0)) ss)[i]? = some v → w.cell? ⟨g, i, none⟩ = some v
theorem GW.rep {G : Glo} {w : World} (h : GW G w) (σ : Sg) : ∀ (g : Nat) (ss : List Seg), G g = some ss → g < w.heap.size ∧ bnds 0 ss = true ∧ ∀ (i : Nat) (v : Value), (dens σ ss)[i]? = some v → w.cell? ⟨g, i, none⟩ = some v := fun g ss hg => by
  obtain ⟨g1, g2, g3⟩ := h g ss hg
  refine ⟨g1, g2, ?_⟩
  rw [dens_agree (n := 0) (τ := fun _ => (0, 0)) (fun j hj => absurd hj (Nat.not_lt_zero j)) ss g2]
  exact g3
theorem Rep.gw {G : Glo} {σ : Sg} {base : Nat} {w₀ w : World} {H : List Blk} (h : Rep G σ base w₀ w H) : GW G w := fun g ss hg => by
  obtain ⟨g1, g2, g3⟩ := h.glo g ss hg
  refine ⟨Nat.lt_of_lt_of_le g1 (Nat.le_trans h.size h.below.size), g2, ?_⟩
  rw [dens_agree (n := 0) (τ := σ) (fun j hj => absurd hj (Nat.not_lt_zero j)) ss g2]
  exact g3
def CtOkG (P : Program) (G : Glo) (f : FuncId) (ct : Ct) : Prop :=
  ∀ ws K, ct ws K → rngW ws → ∃ x : V, K x ∧ x.ok 0 ∧ ∀ (σ : Sg) w, GW G w → Calls P f (ws.map (W.den σ)).toArray w fun e w' => ∃ v, e = .returned v ∧ x.rep σ v ∧ Below w.heap.size w w'
theorem CtOk.g {P : Program} {f : FuncId} {ct : Ct} (h : CtOk P f ct) (G : Glo) : CtOkG P G f ct := fun ws K h1 h2 => by
  obtain ⟨x, k1, k2, k3⟩ := h ws K h1 h2
  exact ⟨x, k1, k2, fun σ w _ => k3 σ w⟩
def Enter (P : Program) (f : FuncId) : Prop := ∀ args w, (callFunc f args).run P w = .ok (.enter f args) w
abbrev HCt := List W → List Blk → (V → List Blk → Prop) → Prop
def HCtOk (P : Program) (f : FuncId) (h : HCt) : Prop :=
  ∀ ws H K, h ws H K → rngW ws → bndW H.length ws = true → HOk H → ∀ G σ base w₀ w, Rep G σ base w₀ w H → Calls P f (ws.map (W.den σ)).toArray w (LeftG G σ base w₀ H.length K)
def HCtOkG (P : Program) (G : Glo) (f : FuncId) (h : HCt) : Prop :=
  ∀ ws H K, h ws H K → rngW ws → bndW H.length ws = true → HOk H → ∀ σ base w₀ w, Rep G σ base w₀ w H → Calls P f (ws.map (W.den σ)).toArray w (LeftG G σ base w₀ H.length K)
structure Fns where
  ct : FuncId → Option Ct
  fn : FuncId → Option Func
  all : FuncId → Bool
  hc : FuncId → Option HCt
structure FnsOk (P : Program) (F : Fns) (G : Glo := fun _ => none) : Prop where
  ct : ∀ f c, F.ct f = some c → CtOkG P G f c ∧ Enter P f
  fn : ∀ f g, F.fn f = some g → P.funcs[f]? = some g ∧ Enter P f
  hc : ∀ f h, F.hc f = some h → HCtOkG P G f h ∧ Enter P f
def calF (P : Program) (E : Env) (F : Fns) (drw : Cal → Drw) (n : Nat) : Cal :=
  Nat.rec (motive := fun _ => Cal)
    (fun f ws H K => match F.ct f with
      | some ct => ct ws fun x => K x H
      | none => match F.hc f with
        | some h => h ws H K
        | none => False)
    (fun _ ih f ws H K => match F.ct f with
      | some ct => ct ws fun x => K x H
      | none => match F.hc f with
        | some h => h ws H K
        | none => match F.fn f with
          | some fn => xfun P E ih (drw ih) fn ws H K
          | none => False) n
theorem calF_zero (P : Program) (E : Env) (F : Fns) (drw : Cal → Drw) : calF P E F drw 0 = fun f ws H K => match F.ct f with
    | some ct => ct ws fun x => K x H
    | none => match F.hc f with
      | some h => h ws H K
      | none => False := rfl
theorem calF_succ (P : Program) (E : Env) (F : Fns) (drw : Cal → Drw) (n : Nat) : calF P E F drw (n + 1) = fun f ws H K => match F.ct f with
    | some ct => ct ws fun x => K x H
    | none => match F.hc f with
      | some h => h ws H K
      | none => match F.fn f with
        | some fn => xfun P E (calF P E F drw n) (drw (calF P E F drw n)) fn ws H K
        | none => False := rfl
theorem ct_call {P : Program} {E : Env} {f : FuncId} {ct : Ct} (h : CtOkG P E.G f ct) {ws : List W} {H : List Blk} {K : V → List Blk → Prop} (hk : ct ws fun x => K x H) (hr : rngW ws) (ho : HOk H) (σ : Sg) (base : Nat) (w₀ w : World) (hw : Rep E.G σ base w₀ w H) :
    Calls P f (ws.map (W.den σ)).toArray w (Left' E σ base w₀ H.length K) := by
  obtain ⟨x, h1, h2, h3⟩ := h ws _ hk hr
  refine (h3 σ w hw.gw).mono ?_
  rintro e w' ⟨v, rfl, h4, h5⟩
  exact ⟨σ, x, H, v, rfl, h4, h1, Sg.agree.refl _ _, hw.later h5, ho, V.ok_mono (Nat.zero_le _) h2, Nat.le_refl _⟩
theorem calF_ok {P : Program} {E : Env} (hE : EnvOk P E) {F : Fns} (hF : FnsOk P F E.G) {drw : Cal → Drw} (hd : ∀ cal, CalOk P E cal → DrwOk P E (drw cal)) : ∀ n, CalOk P E (calF P E F drw n)
  | 0 => by
    refine ⟨fun f ws H K h hr hb ho σ base w₀ w hw => ?_, fun f ws H K h => ?_⟩ <;> simp only [calF_zero] at h <;> split at h
    · rename_i ct hct; exact ct_call (hF.ct f ct hct).1 h hr ho σ base w₀ w hw
    · split at h
      · rename_i hh hhc; exact (hF.hc f hh hhc).1 ws H K h hr hb ho σ base w₀ w hw
      · exact h.elim
    · rename_i ct hct; exact (hF.ct f ct hct).2
    · split at h
      · rename_i hh hhc; exact (hF.hc f hh hhc).2
      · exact h.elim
  | n + 1 => by
    have ih := calF_ok hE hF hd n
    refine ⟨fun f ws H K h hr hb ho σ base w₀ w hw => ?_, fun f ws H K h => ?_⟩ <;> simp only [calF_succ] at h <;> split at h
    · rename_i ct hct; exact ct_call (hF.ct f ct hct).1 h hr ho σ base w₀ w hw
    · split at h
      · rename_i hh hhc; exact (hF.hc f hh hhc).1 ws H K h hr hb ho σ base w₀ w hw
      · split at h
        · rename_i fn hfn; exact xfun_spec hE ih (hd _ ih) (hF.fn f fn hfn).1 h hr hb ho σ base w₀ w hw
        · exact h.elim
    · rename_i ct hct; exact (hF.ct f ct hct).2
    · split at h
      · rename_i hh hhc; exact (hF.hc f hh hhc).2
      · split at h
        · rename_i fn hfn; exact (hF.fn f fn hfn).2
        · exact h.elim
theorem call_of {P : Program} {E : Env} (hE : EnvOk P E) (hG : ∀ g, E.G g = none) {cal : Cal} (hc : CalOk P E cal) {drw : Drw} (hd : DrwOk P E drw) {f : FuncId} {fn : Func} (hf : P.funcs[f]? = some fn) {ws : List W} {x : V} (hx : x.bnd 0 = true)
    (hr : rngW ws) (hb : bndW 0 ws = true) (h : xfun P E cal drw fn ws [] fun y _ => y = x) (σ : Sg) (w : World) :
    Calls P f (ws.map (W.den σ)).toArray w fun e w' => ∃ v, e = .returned v ∧ x.rep σ v ∧ Below w.heap.size w w' := by
  have hw : Rep E.G σ w.heap.size w w [] := ⟨Below.refl _ _, Nat.le_refl _, fun j b hj => by simp at hj, fun i j b c hi => by simp at hi, fun g ss hg => by rw [hG g] at hg; cases hg⟩
  refine (xfun_spec hE hc hd hf h hr hb ⟨fun b hb => by simp at hb, fun b hb => by simp at hb⟩ σ w.heap.size w w hw).mono ?_
  rintro e w' ⟨τ, y, H', v, rfl, h1, rfl, h3, h4, h5, h6, h7⟩
  exact ⟨v, rfl, V.rep_agree (n := 0) (fun j hj => absurd hj (Nat.not_lt_zero j)) hx h1, h4.below⟩
def sh (n j : Nat) : Nat := j + n
theorem bnd_sh {n m : Nat} : (∀ c : C, c.bnd n = true → (c.ren (sh m)).bnd (m + n) = true) ∧ (∀ l : List C, C.bndL n l = true → C.bndL (m + n) (C.renL (sh m) l) = true) := by
  have key : ∀ (c : C), c.bnd n = true → (c.ren (sh m)).bnd (m + n) = true := fun c => by
    refine C.rec (motive_1 := fun c => c.bnd n = true → (c.ren (sh m)).bnd (m + n) = true) (motive_2 := fun l => C.bndL n l = true → C.bndL (m + n) (C.renL (sh m) l) = true) ?_ ?_ ?_ ?_ ?_ ?_ ?_ ?_ ?_ ?_ ?_ ?_ ?_ ?_ ?_ ?_ c
    all_goals intros
    all_goals simp_all [C.ren, C.bnd, C.renL, C.bndL, sh]
    all_goals omega
  refine ⟨key, fun l => ?_⟩
  induction l with
  | nil => intro _; simp only [C.renL, C.bndL]
  | cons c l ih =>
    intro h
    simp only [C.bndL, Bool.and_eq_true] at h
    simp only [C.renL, C.bndL, key c h.1, ih h.2, Bool.and_self]
theorem bnds_sh {n m : Nat} : ∀ ss : List Seg, bnds n ss = true → bnds (m + n) (rens (sh m) ss) = true
  | [], _ => rfl
  | .one c :: ss, h => by
    simp only [bnds, Seg.bnd, Bool.and_eq_true] at h
    simp only [rens, Seg.ren, bnds, Seg.bnd, bnd_sh.1 c h.1, bnds_sh ss h.2, Bool.and_self]
  | .ints k q xs :: ss, h => by
    simp only [bnds, Seg.bnd, Bool.and_eq_true] at h
    simp only [rens, Seg.ren, bnds, Seg.bnd, bnds_sh ss h.2, Bool.and_self]
theorem W.bnd_sh {n m : Nat} (x : W) (h : x.bnd n = true) : (x.ren (sh m)).bnd (m + n) = true := by
  cases x with
  | c x => exact Go.Proofs.YtaficaacogcblaaGreatDoor.bnd_sh.1 x h
  | agg ss => exact bnds_sh ss h
theorem bndW_sh {n m : Nat} : ∀ xs : List W, bndW n xs = true → bndW (m + n) (renW (sh m) xs) = true
  | [], _ => rfl
  | x :: xs, h => by
    simp only [bndW, Bool.and_eq_true] at h
    simp only [renW, bndW, W.bnd_sh x h.1, bndW_sh xs h.2, Bool.and_self]
theorem V.bnd_sh {n m : Nat} (x : V) (h : x.bnd n = true) : (x.ren (sh m)).bnd (m + n) = true := by
  cases x with
  | w x => exact W.bnd_sh x h
  | tup ws => exact bndW_sh ws h
  | any => rfl
theorem Blk.bnd_sh {n m : Nat} (b : Blk) (h : b.bnd n = true) : (b.ren (sh m)).bnd (m + n) = true := by
  cases b with
  | own T ss => exact bnds_sh ss h
  | ro ss => exact bnds_sh ss h
  | obj R => rfl
  | gone => rfl
mutual
theorem C.rng_ren' (ρ : Nat → Nat) : (c : C) → c.rng → (c.ren ρ).rng
  | .cb _, _ | .cnil, _ | .cg _ _, _ | .cgi _ _ _, _ | .csn, _ | .cp _ _, _ | .cpi _ _ _, _ | .cm _, _ | .cmv _ _ _, _ => by simp only [C.ren, C.rng]
  | .ci _ _, h => by simpa only [C.ren, C.rng] using h
  | .cs _, h => by simpa only [C.ren, C.rng] using h
  | .cv _, h => by simpa only [C.ren, C.rng] using h
  | .csl _ _ _ _ _, h => by simpa only [C.ren, C.rng] using h
  | .cf f caps, h => by
    simp only [C.ren, C.rng] at h ⊢
    exact C.rngL_ren' ρ caps h
theorem C.rngL_ren' (ρ : Nat → Nat) : (l : List C) → C.rngL l → C.rngL (C.renL ρ l)
  | [], _ => by simp only [C.renL, C.rngL]
  | c :: l, h => by
    simp only [C.renL, C.rngL] at h ⊢
    exact ⟨C.rng_ren' ρ c h.1, C.rngL_ren' ρ l h.2⟩
end
theorem rngs_ren' (ρ : Nat → Nat) : (ss : List Seg) → rngs ss → rngs (rens ρ ss)
  | [], _ => trivial
  | .one c :: ss, h => ⟨C.rng_ren' ρ c h.1, rngs_ren' ρ ss h.2⟩
  | .ints _ _ _ :: ss, h => ⟨h.1, rngs_ren' ρ ss h.2⟩
theorem W.rng_ren' (ρ : Nat → Nat) (x : W) (h : x.rng) : (x.ren ρ).rng := by
  cases x with
  | c x => exact C.rng_ren' ρ x h
  | agg ss => exact rngs_ren' ρ ss h
theorem rngW_ren' (ρ : Nat → Nat) : (xs : List W) → rngW xs → rngW (renW ρ xs)
  | [], _ => trivial
  | x :: xs, h => ⟨W.rng_ren' ρ x h.1, rngW_ren' ρ xs h.2⟩
theorem V.rng_ren' (ρ : Nat → Nat) (x : V) (h : x.rng) : (x.ren ρ).rng := by
  cases x with
  | w x => exact W.rng_ren' ρ x h
  | tup ws => exact rngW_ren' ρ ws h
  | any => trivial
theorem Blk.rng_ren' (ρ : Nat → Nat) (b : Blk) (h : b.rng) : (b.ren ρ).rng := by
  cases b with
  | own T ss => exact rngs_ren' ρ ss h
  | ro ss => exact rngs_ren' ρ ss h
  | obj R => trivial
  | gone => trivial
def joinS (n : Nat) (σ τ : Sg) : Sg := fun j => if j < n then σ j else τ (j - n)
theorem joinS_low (n : Nat) (σ τ : Sg) : Sg.agree n σ (joinS n σ τ) := fun j hj => by simp only [joinS, if_pos hj]
theorem joinS_sh (n : Nat) (σ τ : Sg) : (joinS n σ τ).ren (sh n) = τ := by
  funext j
  simp only [Sg.ren, joinS, sh, if_neg (show ¬ (j + n < n) by omega), Nat.add_sub_cancel]
theorem Blk.rep_ren' {σ : Sg} {ρ : Nat → Nat} {base : Nat} {w : World} {j : Nat} {b : Blk} (h : b.rep (σ.ren ρ) base w j) : (b.ren ρ).rep σ base w (ρ j) := by
  cases b with
  | own T ss => simpa only [Blk.ren, Blk.rep, dens_ren, Sg.ren] using h
  | ro ss => simpa only [Blk.ren, Blk.rep, dens_ren, Sg.ren, Sg.at] using h
  | obj R => simpa only [Blk.ren, Blk.rep, Sg.ren] using h
  | gone => trivial
theorem Rep.join {G G' : Glo} {σ τ : Sg} {base : Nat} {w₀ w w' : World} {H N : List Blk} (h : Rep G σ base w₀ w H) (ho : HOk H) (hn : Rep G' τ w.heap.size w w' N) (hm : ∀ b ∈ N, b.mine = true ∨ b = .gone) :
    Rep G (joinS H.length σ τ) base w₀ w' (H ++ N.map (Blk.ren (sh H.length))) := by
  have h1 := (h.later hn.below).agree ho (joinS_low H.length σ τ)
  have hsz : base ≤ w.heap.size := Nat.le_trans h.size h.below.size
  have low : ∀ i c, H[i]? = some c → c.mine = true → ((joinS H.length σ τ) i).1 < w.heap.size := fun i c hi hc => by
    rw [← joinS_low H.length σ τ i (List.getElem?_eq_some_iff.1 hi).1]
    have := h.blk i c hi
    cases c with
    | own T ss => exact (Array.getElem?_eq_some_iff.1 this.2.2).1
    | obj R => obtain ⟨_, _, o, h3, _⟩ := this; exact (Array.getElem?_eq_some_iff.1 h3).1
    | ro ss => cases hc
    | gone => cases hc
  have new : ∀ i c, (H ++ N.map (Blk.ren (sh H.length)))[i]? = some c → H.length ≤ i → ∃ b, N[i - H.length]? = some b ∧ c = b.ren (sh H.length) := fun i c hi hge => by
    rw [List.getElem?_append_right hge, List.getElem?_map] at hi
    cases hb : N[i - H.length]? with
    | none => rw [hb] at hi; cases hi
    | some b => rw [hb] at hi; simp at hi; exact ⟨b, rfl, hi.symm⟩
  have up : ∀ i, H.length ≤ i → (joinS H.length σ τ) i = τ (i - H.length) := fun i hi => by simp only [joinS, if_neg (Nat.not_lt.2 hi)]
  have nrep : ∀ i b, N[i]? = some b → b.mine = true → w.heap.size ≤ (τ i).1 := fun i b hb hbm => by
    have := hn.blk i b hb
    cases b with
    | own T ss => exact this.2.1
    | obj R => exact this.2.1
    | ro ss => cases hbm
    | gone => cases hbm
  have mren : ∀ b : Blk, (b.ren (sh H.length)).mine = b.mine := fun b => by cases b <;> rfl
  refine ⟨h1.below, h1.size, fun j c hj => ?_, fun i j c d hi hj hc hd hij => ?_, h1.glo⟩
  · rcases Nat.lt_or_ge j H.length with hlt | hge
    · rw [List.getElem?_append_left hlt] at hj; exact h1.blk j c hj
    · obtain ⟨b, hb, rfl⟩ := new j c hj hge
      have hr := hn.blk _ b hb
      have e : j = sh H.length (j - H.length) := by unfold sh; omega
      have hr' : b.rep ((joinS H.length σ τ).ren (sh H.length)) w.heap.size w' (j - H.length) := by rw [joinS_sh]; exact hr
      have := Blk.rep_ren' hr'
      rw [← e] at this
      rcases hm b (List.mem_of_getElem? hb) with hbm | rfl
      · cases b with
        | own T ss => exact ⟨this.1, Nat.le_trans hsz this.2.1, this.2.2⟩
        | obj R => exact ⟨this.1, Nat.le_trans hsz this.2.1, this.2.2⟩
        | ro ss => cases hbm
        | gone => cases hbm
      · trivial
  · rcases Nat.lt_or_ge i H.length with hilt | hige
    · rcases Nat.lt_or_ge j H.length with hjlt | hjge
      · rw [List.getElem?_append_left hilt] at hi
        rw [List.getElem?_append_left hjlt] at hj
        exact h1.sep i j c d hi hj hc hd hij
      · rw [List.getElem?_append_left hilt] at hi
        have := low i c hi hc
        obtain ⟨b, hb, rfl⟩ := new j d hj hjge
        have := nrep _ b hb (by rw [← mren]; exact hd)
        rw [up j hjge]; omega
    · obtain ⟨b, hb, rfl⟩ := new i c hi hige
      rw [mren] at hc
      have hh := nrep _ b hb hc
      rw [up i hige]
      rcases Nat.lt_or_ge j H.length with hjlt | hjge
      · rw [List.getElem?_append_left hjlt] at hj
        have := low j d hj hd
        omega
      · obtain ⟨b', hb', rfl⟩ := new j d hj hjge
        rw [mren] at hd
        rw [up j hjge]
        exact hn.sep _ _ b b' hb hb' hc hd (by omega)
theorem HOk.join {H N : List Blk} (ho : HOk H) (hn : HOk N) : HOk (H ++ N.map (Blk.ren (sh H.length))) := by
  have e : (H ++ N.map (Blk.ren (sh H.length))).length = H.length + N.length := by simp
  refine ⟨fun c hc => ?_, fun c hc => ?_⟩ <;> rcases List.mem_append.1 hc with h | h
  · exact ho.rng c h
  · obtain ⟨b, hb, rfl⟩ := List.mem_map.1 h
    exact Blk.rng_ren' _ b (hn.rng b hb)
  · rw [e]
    have := ho.bnd c h
    cases c with
    | own T ss => exact bnds_mono (by omega) ss this
    | ro ss => exact bnds_mono (by omega) ss this
    | obj R => rfl
    | gone => rfl
  · obtain ⟨b, hb, rfl⟩ := List.mem_map.1 h
    rw [e]
    exact Blk.bnd_sh b (hn.bnd b hb)
def Made (P0 : V → List Blk → Prop) (x : V) (H' : List Blk) : Prop := ∃ x0 N ρ, P0 x0 N ∧ Seen ρ 0 [x0] N [x] H' ∧ x0 ≠ .any
theorem call_liftG {P : Program} {E : Env} (hE : EnvOk P E) {G : Glo} (hG : ∀ g ss, E.G g = some ss → G g = some ss) {cal : Cal} (hc : CalOk P E cal) {drw : Drw} (hd : DrwOk P E drw) {f : FuncId} {fn : Func} (hf : P.funcs[f]? = some fn) {ws : List W} {R : List Blk} {P0 : V → List Blk → Prop}
    (hR : HOk R) (hr : rngW ws) (hb : bndW R.length ws = true) (h : xfun P E cal drw fn ws R (Made P0)) (hm : ∀ x N, P0 x N → ∀ b ∈ N, b.mine = true ∨ b = .gone)
    {H : List Blk} {ρ : Nat → Nat} (hro : ∀ (j : Nat) (b : Blk), R[j]? = some b → b = .gone ∨ ∃ ss, b = .ro ss ∧ ((∃ T, H[ρ j]? = some (.own T (rens ρ ss))) ∨ H[ρ j]? = some (.ro (rens ρ ss))))
    {K : V → List Blk → Prop} (hK : ∀ x N, P0 x N → K (x.ren (sh H.length)) (H ++ N.map (Blk.ren (sh H.length)))) (ho : HOk H) (σ : Sg) (base : Nat) (w₀ w : World) (hw : Rep G σ base w₀ w H) :
    Calls P f ((renW ρ ws).map (W.den σ)).toArray w (LeftG G σ base w₀ H.length K) := by
  rw [renW_den]
  have hsz : base ≤ w.heap.size := Nat.le_trans hw.size hw.below.size
  have hw' : Rep E.G (σ.ren ρ) w.heap.size w w R := by
    refine ⟨Below.refl _ _, Nat.le_refl _, fun j b hj => ?_, fun i j b c hi _ hb _ _ => ?_, fun g ss hg => ?_⟩
    · rcases hro j b hj with rfl | ⟨ss, rfl, h1⟩
      · trivial
      · show ((σ.ren ρ) j).1 < w.heap.size ∧ ∀ i v, (dens (σ.ren ρ) ss)[i]? = some v → w.cell? ((σ.ren ρ).at j i) = some v
        rcases h1 with ⟨T, h1⟩ | h1
        · have hb' := hw.blk _ _ h1
          have hrd := rep_reads hw (ss := rens ρ ss) (.inl ⟨T, h1⟩) 0
          refine ⟨(Array.getElem?_eq_some_iff.1 hb'.2.2).1, fun i v hv => ?_⟩
          rw [← dens_ren] at hv
          have := hrd.cell i v (by simpa using hv)
          simpa [Sg.at, Sg.ren] using this
        · have hb' := hw.blk _ _ h1
          refine ⟨Nat.lt_of_lt_of_le hb'.1 hsz, fun i v hv => ?_⟩
          rw [← dens_ren] at hv
          exact hb'.2 i v hv
    · rcases hro i b hi with rfl | ⟨ss, rfl, _⟩ <;> cases hb
    · obtain ⟨g1, g2, g3⟩ := hw.glo g ss (hG g ss hg)
      refine ⟨Nat.lt_of_lt_of_le g1 hsz, g2, ?_⟩
      rw [dens_agree (n := 0) (fun j hj => absurd hj (Nat.not_lt_zero j)) ss g2]
      exact g3
  refine (xfun_spec hE hc hd hf h hr hb hR (σ.ren ρ) w.heap.size w w hw').mono ?_
  rintro e w' ⟨τ, y, H', v, rfl, h1, ⟨x0, N, ρ', p1, p2, p3⟩, h3, h4, h5, h6, h7⟩
  have hN : Rep E.G (τ.ren ρ') w.heap.size w w' N := h4.ren p2.blk p2.inj
  obtain ⟨q1, q2⟩ := p2.ok ⟨fun x hx => by rw [List.mem_singleton.1 hx]; exact h6⟩ h5
  have hy : y = x0.ren ρ' := by
    rcases p2.fr 0 x0 rfl with h | h
    · exact absurd h p3
    · simpa using h
  subst hy
  have x0ok : x0.ok N.length := q1.ok x0 (by simp)
  refine ⟨joinS H.length σ (τ.ren ρ'), x0.ren (sh H.length), H ++ N.map (Blk.ren (sh H.length)), v, rfl, ?_, hK x0 N p1, joinS_low _ _ _, hw.join ho hN (hm x0 N p1), ho.join q2, ⟨V.rng_ren' _ _ x0ok.1, ?_⟩, by simp⟩
  · rw [V.rep_ren, joinS_sh, ← V.rep_ren]; exact h1
  · rw [show (H ++ N.map (Blk.ren (sh H.length))).length = H.length + N.length by simp]
    exact V.bnd_sh x0 x0ok.2
theorem call_lift {P : Program} {E : Env} (hE : EnvOk P E) (hG : ∀ g, E.G g = none) {cal : Cal} (hc : CalOk P E cal) {drw : Drw} (hd : DrwOk P E drw) {f : FuncId} {fn : Func} (hf : P.funcs[f]? = some fn) {ws : List W} {R : List Blk} {P0 : V → List Blk → Prop}
    (hR : HOk R) (hr : rngW ws) (hb : bndW R.length ws = true) (h : xfun P E cal drw fn ws R (Made P0)) (hm : ∀ x N, P0 x N → ∀ b ∈ N, b.mine = true ∨ b = .gone)
    {H : List Blk} {ρ : Nat → Nat} (hro : ∀ (j : Nat) (b : Blk), R[j]? = some b → b = .gone ∨ ∃ ss, b = .ro ss ∧ ((∃ T, H[ρ j]? = some (.own T (rens ρ ss))) ∨ H[ρ j]? = some (.ro (rens ρ ss))))
    {K : V → List Blk → Prop} (hK : ∀ x N, P0 x N → K (x.ren (sh H.length)) (H ++ N.map (Blk.ren (sh H.length)))) (ho : HOk H) (G : Glo) (σ : Sg) (base : Nat) (w₀ w : World) (hw : Rep G σ base w₀ w H) :
    Calls P f ((renW ρ ws).map (W.den σ)).toArray w (LeftG G σ base w₀ H.length K) :=
  call_liftG hE (G := G) (fun g ss hg => by rw [hG g] at hg; cases hg) hc hd hf hR hr hb h hm hro hK ho σ base w₀ w hw
theorem call_roG {P : Program} {E : Env} (hE : EnvOk P E) {cal : Cal} (hc : CalOk P E cal) {drw : Drw} (hd : DrwOk P E drw) {f : FuncId} {fn : Func} (hf : P.funcs[f]? = some fn) {ws : List W} {R : List Blk} {x : V} (hx : x.bnd 0 = true)
    (hr : rngW ws) (hb : bndW R.length ws = true) (h : xfun P E cal drw fn ws R fun y _ => y = x) (hR : HOk R) (σ : Sg) (w : World) (hro : ∀ (j : Nat) (b : Blk), R[j]? = some b → b.mine = false ∧ b.rep σ w.heap.size w j)
    (hglo : GW E.G w) :
    Calls P f (ws.map (W.den σ)).toArray w fun e w' => ∃ v, e = .returned v ∧ x.rep σ v ∧ Below w.heap.size w w' := by
  have hw : Rep E.G σ w.heap.size w w R := ⟨Below.refl _ _, Nat.le_refl _, fun j b hj => (hro j b hj).2, fun i j b c hi _ hb _ _ => (by rw [(hro i b hi).1] at hb; cases hb), hglo.rep σ⟩
  refine (xfun_spec hE hc hd hf h hr hb hR σ w.heap.size w w hw).mono ?_
  rintro e w' ⟨τ, y, H', v, rfl, h1, rfl, h3, h4, h5, h6, h7⟩
  exact ⟨v, rfl, V.rep_agree (n := 0) (fun j hj => absurd hj (Nat.not_lt_zero j)) hx h1, h4.below⟩
end Go.Proofs.YtaficaacogcblaaGreatDoor
