/- append, of integers in rows: what it leaves. -/
import Derived.Test.YtaficaacogcblaaGreatDoorXi
import Derived.Laws.AppendOwn
import Derived.Laws.CopyRow
set_option linter.all false
namespace Go.Proofs.YtaficaacogcblaaGreatDoor
open Go.RowKit (Below)

def freshK (e : TypeId) (k : IntKind) (H : List Blk) (m : Nat) (ys : List Int) (K : C → List Blk → Prop) : Prop :=
  ∀ c : Nat, m ≤ c → c ≤ 9223372036854775807 → lenH H 0 fun n => pushH H (.own e [.ints k c (ys ++ List.replicate (c - m) 0)]) fun H' => K (.csl n 0 0 m c) H'

/-- append(s, x...), of integers. -/
def kApp (P : Program) (T : TypeId) (H : List Blk) (s x : C) (K : C → List Blk → Prop) : Prop :=
  match tyOf P T with
  | .slice e => match P.info? e with
    | some inf => match tyOf P e, inf.zero with
      | .int k, some (.int k' z) => match sameK k k', Nat.beq inf.size 1 with
        | true, true => z = 0 ∧ newsK H k x fun m ys => match s with
          | .csn => (0 < m ∧ m ≤ 9223372036854775807 ∧ m * inf.bytes ≤ 281474976710656) ∧ freshK e k H m ys K
          | .csl j 0 0 len cap => hGet H j fun b => match b with
            | .own T₀ [.ints k₂ n xs] => match sameK k k₂, Nat.beq T₀ e with
              | true, true => (n = cap ∧ len + m ≤ 9223372036854775807 ∧ (len + m) * inf.bytes ≤ 140737488355328) ∧
                (len + m ≤ cap → setH H j (.own T₀ [.ints k n (xs.take len ++ ys ++ xs.drop (len + m))]) fun H' => K (.csl j 0 0 (len + m) cap) H') ∧
                (cap < len + m → freshK e k H (len + m) (xs.take len ++ ys) K)
              | _, _ => False
            | _ => False
          | _ => False
        | _, _ => False
      | _, _ => False
    | none => False
  | _ => False

/-- append(nil, make([]int, n)...). -/
def kAppZ (P : Program) (T T' : TypeId) (H : List Blk) (s x : C) (K : C → List Blk → Prop) : Prop :=
  match tyOf P T, tyOf P T' with
  | .slice e, .int _ => match P.info? e with
    | some inf => match tyOf P e, inf.zero with
      | .int k, some (.int k' z) => match sameK k k', Nat.beq inf.size 1 with
        | true, true => match s, x with
          | .csn, .ci _ m => (z = 0 ∧ 0 < m ∧ m ≤ 9223372036854775807 ∧ natI m * inf.bytes ≤ 281474976710656) ∧ freshK e k H (natI m) (List.replicate (natI m) 0) K
          | _, _ => False
        | _, _ => False
      | _, _ => False
    | none => False
  | _, _ => False

theorem zeroCells_ints (k : IntKind) (n : Nat) : Builtin.zeroCells #[.int k 0] n = (List.replicate n (Value.int k 0)).toArray := by
  apply Array.ext
  · simp [Builtin.zeroCells]
  · intro i h1 h2
    simp [Builtin.zeroCells, Nat.mod_one]

theorem run_append_nil_zeros {P : Program} (w : World) (t u ty e : TypeId) (ku kx : IntKind) (i : TypeInfo) (z : Value) (ht : P.underlying t = some (.slice e)) (hu : P.underlying u = some (.int ku)) (hi : P.info? e = some i) (hz : i.zero = some z) (hs : i.size = 1)
    (m : Int) (n : Nat) (hmn : m = n) (h0 : 0 < n) (h63 : (n : Int) ≤ 9223372036854775807) (h48 : n * i.bytes ≤ 281474976710656) :
    (Builtin.append_ #[t, u] ty #[.slice none 0 0, .int kx m]).run P w =
      .ok (.slice (some ⟨w.heap.size, 0, none⟩) n (grownCap w n 0 e)) (w.drew.alloc (.cells (Builtin.zeroCells z.cells n ++ Builtin.zeroCells z.cells (grownCap w n 0 e - n)) e)) := by
  subst hmn
  have hn : n ≠ 0 := by omega
  have hw : IntKind.i64.wrap (n : Int) = n := wrap_of_in (k := .i64) ⟨by simp only [lowK]; omega, h63⟩
  have h63' : ¬ (9223372036854775807 < (n : Int)) := by omega
  have h48' : ¬ (281474976710656 < Builtin.nextslicecap n 0 * i.bytes) := by rw [nextslicecap_zero h0]; omega
  have h48'' : ¬ (281474976710656 < (n : Int) * (i.bytes : Int)) := by
    rw [← Int.natCast_mul]; omega
  have hneg : ¬ ((n : Int) < 0) := by omega
  simp [Builtin.append_, run_underlying ht, run_underlying hu, sizeOf, typeInfo, zeroValue, hi, hz, asInt, asIntOf, hw, hneg, hn, h63', h48', h48'', hs, Question.forced, run_firstCells_none, newRow, grownCap]

theorem Rep.drew {G : Glo} {σ : Sg} {base : Nat} {w₀ w : World} {H : List Blk} (h : Rep G σ base w₀ w H) : Rep G σ base w₀ w.drew H :=
  h.later ⟨rfl, rfl, rfl, Nat.le_refl _, fun _ _ => rfl⟩

theorem freshK_spec {G : Glo} {e : TypeId} {k : IntKind} {H : List Blk} {m : Nat} {ys : List Int} {K : C → List Blk → Prop} (h : freshK e k H m ys K) (ho : HOk H) (hl : ys.length = m) (hy : ∀ y ∈ ys, InK k y) {σ : Sg} {base : Nat} {w₀ w : World} (hw : Rep G σ base w₀ w H)
    {c : Nat} (hc : m ≤ c) (hc' : c ≤ 9223372036854775807) : ∃ τ x H', K x H' ∧ Sg.agree H.length σ τ ∧ (x.rng ∧ x.bnd H'.length = true) ∧ H.length ≤ H'.length ∧ HOk H' ∧ x.den τ = .slice (some ⟨w.heap.size, 0, none⟩) m c ∧
      Rep G τ base w₀ (w.drew.alloc (.cells ((ys.map (Value.int k)).toArray ++ Builtin.zeroCells #[.int k 0] (c - m)) e)) H' := by
  have h := h c hc hc'
  rw [lenH_iff, pushH_iff, Nat.zero_add] at h
  have hz : InK k 0 := by cases k <;> exact ⟨by decide, by decide⟩
  have hr : (Blk.own e [.ints k c (ys ++ List.replicate (c - m) 0)]).rng := ⟨⟨by simp; omega, fun x hx => by
    rcases List.mem_append.1 hx with h | h
    · exact hy x h
    · rw [(List.mem_replicate.1 h).2]; exact hz⟩, trivial⟩
  refine ⟨σ.upd H.length (w.heap.size, 0), _, _, h, Sg.upd_agree _ _ _, ⟨⟨hc, hc'⟩, by simp [C.bnd]⟩, by simp, ho.push hr rfl, ?_, ?_⟩
  · simp only [C.den, Sg.at, Sg.upd_self]
  · refine (hw.drew).push ho _ _ ⟨by rw [Sg.upd_self], by rw [Sg.upd_self]; exact Nat.le_trans hw.size hw.below.size, ?_⟩
    rw [Sg.upd_self, zeroCells_ints]
    show (w.heap.push _)[w.heap.size]? = _
    simp [dens, Seg.den]

theorem kApp_spec {P : Program} {G : Glo} {T ty : TypeId} {H : List Blk} {s x : C} {K : C → List Blk → Prop} (h : kApp P T H s x K) (ho : HOk H) (hs : s.rng) {σ : Sg} {base : Nat} {w₀ w : World} (hw : Rep G σ base w₀ w H) :
    ∃ v w' τ c H', (Builtin.append_ #[T, T] ty #[s.den σ, x.den σ]).run P w = .ok v w' ∧ K c H' ∧ Sg.agree H.length σ τ ∧ (c.rng ∧ c.bnd H'.length = true) ∧ H.length ≤ H'.length ∧ HOk H' ∧ v = c.den τ ∧ Rep G τ base w₀ w' H' := by
  unfold kApp at h
  split at h
  · rename_i e hty
    have ht := tyOf_slice hty
    split at h
    · rename_i inf hi
      split at h
      · rename_i k k' z hk hz
        split at h
        · rename_i hkk hsz
          obtain rfl := sameK_eq hkk
          have hsize : inf.size = 1 := Nat.eq_of_beq_eq_true hsz
          obtain ⟨rfl, h⟩ := h
          obtain ⟨m, ys, h, hl, hy, hx⟩ := newsK_spec h ho
          obtain ⟨a, c, hxd, hnews⟩ := hx G σ base w₀ w hw
          have hl1 : (ys.map (Value.int k)).length = m * inf.size := by simp [hl, hsize]
          rw [hxd]
          split at h
          · obtain ⟨⟨h0, h63, h48⟩, h⟩ := h
            have hrun := run_append_nil (P := P) w T ty e inf (.int k 0) ht hi hz a m c (ys.map (Value.int k)) hl1 hnews h0 (by omega) h48
            have hc := grownCap_ge w m 0 e
            have hc' := grownCap_le_maxLen w m 0 e (by simpa only [maxLen] using h63)
            obtain ⟨τ, x', H', k1, k2, k3, k4, k5, k6, k7⟩ := freshK_spec h ho hl hy hw hc (by simpa only [maxLen] using hc')
            exact ⟨_, _, τ, x', H', hrun, k1, k2, k3, k4, k5, k6.symm, k7⟩
          · rename_i j len cap _
            have hlc : len ≤ cap := hs.1
            obtain ⟨b, hb, h⟩ := hGet_spec h
            split at h
            · rename_i T₀ k₂ n xs
              split at h
              · rename_i hk2 hT
                obtain rfl := sameK_eq hk2
                obtain rfl := Nat.eq_of_beq_eq_true hT
                obtain ⟨⟨rfl, h63, h48⟩, hin, hgr⟩ := h
                have hrep := hw.blk j _ hb
                have hrng := ho.rng _ (List.mem_of_getElem? hb)
                have hxl : xs.length = n := hrng.1.1
                have hxr := hrng.1.2
                have ha : σ.at j (0 + 0) = ⟨(σ j).1, 0, none⟩ := by simp only [Sg.at, hrep.1]
                have hcur : w.heap[(σ j).1]? = some (.cells (xs.map (Value.int k)).toArray T₀ (0, 0)) := by
                  have := hrep.2.2
                  simpa [dens, Seg.den] using this
                simp only [C.den, ha]
                rcases Nat.lt_or_ge n (len + m) with hg | hroom
                · have holds : ∀ (q : Nat) (u : Value), ((xs.take len).map (Value.int k))[q]? = some u → w.cell? ((⟨(σ j).1, 0, none⟩ : Addr).add q) = some u := fun q u hu => by
                    have hq := (List.getElem?_eq_some_iff.1 hu).1
                    have hq1 : q < len := by simp at hq; omega
                    have := (rep_reads hw (.inl ⟨_, hb⟩) 0).cell q u (by
                      simp only [List.map_take] at hu
                      rw [List.getElem?_take_of_lt hq1] at hu
                      simpa [dens, Seg.den] using hu)
                    rw [add_ne rfl]
                    simpa [Sg.at, hrep.1] using this
                  rcases Nat.lt_or_ge n len with hbad | hlen
                  · omega
                  · have hol : ((xs.take len).map (Value.int k)).length = len * inf.size := by simp [hsize]; omega
                    have hrun := run_append_grow (P := P) w T ty T₀ inf (.int k 0) ht hi hz ⟨(σ j).1, 0, none⟩ len n ((xs.take len).map (Value.int k)) hol holds a m c (ys.map (Value.int k)) hl1 hnews hg (by omega) (growslice_fits hg h48)
                    have hc := grownCap_ge w (len + m) n T₀
                    have hc' := grownCap_le_maxLen w (len + m) n T₀ (by simpa only [maxLen] using h63)
                    obtain ⟨τ, x', H', k1, k2, k3, k4, k5, k6, k7⟩ := freshK_spec (hgr hg) ho (by simp [hl]; omega) (fun y hy' => by
                      rcases List.mem_append.1 hy' with h | h
                      · exact hxr y (List.mem_of_mem_take h)
                      · exact hy y h) hw hc (by simpa only [maxLen] using hc')
                    refine ⟨_, _, τ, x', H', hrun, k1, k2, k3, k4, k5, k6.symm, ?_⟩
                    simpa [List.map_append, show (Value.int k 0).cells = #[Value.int k 0] from rfl] using k7
                · have hrun := run_append_room (P := P) w T ty T₀ inf ht hi (σ j).1 len n _ hcur a m c (ys.map (Value.int k)) hl1 hnews (fun u hu => by
                    obtain ⟨y, _, rfl⟩ := List.mem_map.1 hu
                    rfl) hroom (by simp [hsize, hl, hxl]; omega)
                  have hK := (setH_iff _ _ _ _).1 (hin hroom)
                  have hnew : rngs [.ints k n (xs.take len ++ ys ++ xs.drop (len + m))] := ⟨⟨by simp [hl, hxl]; omega, fun y hy' => by
                    rcases List.mem_append.1 hy' with h | h
                    · rcases List.mem_append.1 h with h | h
                      · exact hxr y (List.mem_of_mem_take h)
                      · exact hy y h
                    · exact hxr y (List.mem_of_mem_drop h)⟩, trivial⟩
                  have hjl := (List.getElem?_eq_some_iff.1 hb).1
                  refine ⟨_, _, σ, _, _, hrun, hK, Sg.agree.refl _ _, ⟨⟨hroom, hs.2⟩, by simp [C.bnd, hjl]⟩, by simp, ho.set hnew rfl, by simp only [C.den, ha], ?_⟩
                  refine hw.set hb rfl (fun q hq => ?_) (by simp) rfl rfl rfl rfl ⟨hrep.1, hrep.2.1, ?_⟩
                  · simp only [World.setRow, Array.getElem?_modify]; rw [if_neg (Ne.symm hq)]
                  · rw [setRow_heap w (σ j).1 _ _ T₀ _ hcur]
                    simp [dens, Seg.den, hsize, hl]
              · exact h.elim
            · exact h.elim
          · exact h.elim
        · exact h.elim
      · exact h.elim
    · exact h.elim
  · exact h.elim
theorem kAppZ_spec {P : Program} {G : Glo} {T T' ty : TypeId} {H : List Blk} {s x : C} {K : C → List Blk → Prop} (h : kAppZ P T T' H s x K) (ho : HOk H) {σ : Sg} {base : Nat} {w₀ w : World} (hw : Rep G σ base w₀ w H) :
    ∃ v w' τ c H', (Builtin.append_ #[T, T'] ty #[s.den σ, x.den σ]).run P w = .ok v w' ∧ K c H' ∧ Sg.agree H.length σ τ ∧ (c.rng ∧ c.bnd H'.length = true) ∧ H.length ≤ H'.length ∧ HOk H' ∧ v = c.den τ ∧ Rep G τ base w₀ w' H' := by
  unfold kAppZ at h
  split at h
  · rename_i e ku hty hty'
    have ht := tyOf_slice hty
    have hu := tyOf_int hty'
    split at h
    · rename_i inf hi
      split at h
      · rename_i k k' z hk hz
        split at h
        · rename_i hkk hsz
          obtain rfl := sameK_eq hkk
          have hsize : inf.size = 1 := Nat.eq_of_beq_eq_true hsz
          split at h
          · rename_i kx m
            obtain ⟨⟨rfl, h0, h63, h48⟩, h⟩ := h
            unfold natI at h h48
            have hm : m = ((m.toNat : Nat) : Int) := by omega
            have hrun := run_append_nil_zeros (P := P) w T T' ty e ku kx inf (.int k 0) ht hu hi hz hsize m m.toNat hm (by omega) (by omega) h48
            have hc := grownCap_ge w m.toNat 0 e
            have hc' := grownCap_le_maxLen w m.toNat 0 e (by simp only [maxLen]; omega)
            have hz0 : InK k 0 := by cases k <;> exact ⟨by decide, by decide⟩
            obtain ⟨τ, x', H', k1, k2, k3, k4, k5, k6, k7⟩ := freshK_spec h ho (by simp) (fun y hy => by rw [(List.mem_replicate.1 hy).2]; exact hz0) hw hc (by simpa only [maxLen] using hc')
            refine ⟨_, _, τ, x', H', hrun, k1, k2, k3, k4, k5, k6.symm, ?_⟩
            have e1 : (Value.int k 0).cells = #[Value.int k 0] := rfl
            rw [e1, zeroCells_ints k m.toNat]
            simpa using k7
          · exact h.elim
        · exact h.elim
      · exact h.elim
    · exact h.elim
  · exact h.elim


/-! ### append, of rows of integers -/
def newsA (H : List Blk) (k : IntKind) (sz : Nat) (x : C) (K : Nat → List Int → Prop) : Prop :=
  match x with
  | .csl j o i len _ => match o with
    | 0 => hGet H j fun b => match b with
      | .own _ [.ints k' n xs] => match sameK k k' with
        | true => i + len * sz ≤ n ∧ K len ((xs.drop i).take (len * sz))
        | false => False
      | .ro [.ints k' n xs] => match sameK k k' with
        | true => i + len * sz ≤ n ∧ K len ((xs.drop i).take (len * sz))
        | false => False
      | _ => False
    | _ + 1 => False
  | _ => False

theorem newsA_spec {H : List Blk} {k : IntKind} {sz : Nat} {x : C} {K : Nat → List Int → Prop} (h : newsA H k sz x K) (ho : HOk H) : ∃ m ys, K m ys ∧ ys.length = m * sz ∧ (∀ y ∈ ys, InK k y) ∧
    ∀ G σ base w₀ w, Rep G σ base w₀ w H → ∃ a c, x.den σ = .slice (some a) m c ∧ ∀ (j : Nat) (u : Value), (ys.map (Value.int k))[j]? = some u → w.cell? (a.add j) = some u := by
  unfold newsA at h
  split at h
  · rename_i j o i len cap
    split at h
    · obtain ⟨b, hb, h⟩ := hGet_spec h
      have main : ∀ (k' : IntKind) (n : Nat) (xs : List Int), ((∃ T, H[j]? = some (.own T [.ints k' n xs])) ∨ H[j]? = some (.ro [.ints k' n xs])) → sameK k k' = true → i + len * sz ≤ n → K len ((xs.drop i).take (len * sz)) → rngs [.ints k' n xs] → ∃ m ys, K m ys ∧ ys.length = m * sz ∧ (∀ y ∈ ys, InK k y) ∧
    ∀ G σ base w₀ w, Rep G σ base w₀ w H → ∃ a c, (C.csl j 0 i len cap).den σ = .slice (some a) m c ∧ ∀ (j : Nat) (u : Value), (ys.map (Value.int k))[j]? = some u → w.cell? (a.add j) = some u := fun k' n xs hj hk hn hK hr => by
        obtain rfl := sameK_eq hk
        have hl : xs.length = n := hr.1.1
        refine ⟨len, (xs.drop i).take (len * sz), hK, by simp; omega, fun y hy => hr.1.2 y (List.mem_of_mem_drop (List.mem_of_mem_take hy)), fun G σ base w₀ w hw => ⟨_, _, rfl, fun q u hu => ?_⟩⟩
        have hrd := (rep_reads hw hj 0).cell (i + q) u (by
          have hq : q < len * sz := by have := (List.getElem?_eq_some_iff.1 hu).1; simp at this; omega
          simp only [List.map_take, List.map_drop] at hu
          rw [List.getElem?_take_of_lt hq, List.getElem?_drop] at hu
          simpa [dens, Seg.den] using hu)
        rw [add_ne rfl]
        simpa [Sg.at, Nat.add_assoc] using hrd
      have hrng := ho.rng _ (List.mem_of_getElem? hb)
      split at h
      · split at h
        · rename_i hk; exact main _ _ _ (.inl ⟨_, hb⟩) hk h.1 h.2 hrng
        · exact h.elim
      · split at h
        · rename_i hk; exact main _ _ _ (.inr hb) hk h.1 h.2 hrng
        · exact h.elim
      · exact h.elim
    · exact h.elim
  · exact h.elim

def freshA (e : TypeId) (k : IntKind) (sz : Nat) (H : List Blk) (m : Nat) (ys : List Int) (K : C → List Blk → Prop) : Prop :=
  ∀ c : Nat, m ≤ c → c ≤ 9223372036854775807 → lenH H 0 fun n => pushH H (.own e [.ints k (c * sz) (ys ++ List.replicate ((c - m) * sz) 0)]) fun H' => K (.csl n 0 0 m c) H'

def kAppA (P : Program) (T : TypeId) (H : List Blk) (s x : C) (K : C → List Blk → Prop) : Prop :=
  match tyOf P T with
  | .slice e => match P.info? e with
    | some inf => zeroS P e fun zs => match zs with
      | [.ints k n z0] => match Nat.beq inf.size n with
        | true => z0 = List.replicate n 0 ∧ newsA H k n x fun m ys => match s with
          | .csn => (0 < m ∧ m ≤ 9223372036854775807 ∧ m * inf.bytes ≤ 281474976710656) ∧ freshA e k n H m ys K
          | .csl j 0 0 len cap => hGet H j fun b => match b with
            | .own T₀ [.ints k₂ N xs] => match sameK k k₂, Nat.beq T₀ e with
              | true, true => (N = cap * n ∧ len + m ≤ 9223372036854775807 ∧ (len + m) * inf.bytes ≤ 140737488355328) ∧
                (len + m ≤ cap → setH H j (.own T₀ [.ints k N (xs.take (len * n) ++ ys ++ xs.drop ((len + m) * n))]) fun H' => K (.csl j 0 0 (len + m) cap) H') ∧
                (cap < len + m → freshA e k n H (len + m) (xs.take (len * n) ++ ys) K)
              | _, _ => False
            | _ => False
          | _ => False
        | false => False
      | _ => False
    | none => False
  | _ => False

theorem zeroCells_rows (k : IntKind) (sz n : Nat) : Builtin.zeroCells (List.replicate sz (Value.int k 0)).toArray n = (List.replicate (n * sz) (Value.int k 0)).toArray := by
  apply Array.ext
  · simp [Builtin.zeroCells]
  · intro i h1 h2
    simp [Builtin.zeroCells] at h1
    have hs : 0 < sz := by
      rcases Nat.eq_zero_or_pos sz with h | h
      · subst h; simp at h1
      · exact h
    have hlt : i % sz < sz := Nat.mod_lt _ hs
    simp [Builtin.zeroCells, hlt]

theorem freshA_spec {G : Glo} {e : TypeId} {k : IntKind} {sz : Nat} {H : List Blk} {m : Nat} {ys : List Int} {K : C → List Blk → Prop} (h : freshA e k sz H m ys K) (ho : HOk H) (hl : ys.length = m * sz) (hy : ∀ y ∈ ys, InK k y) {σ : Sg} {base : Nat} {w₀ w : World} (hw : Rep G σ base w₀ w H)
    {c : Nat} (hc : m ≤ c) (hc' : c ≤ 9223372036854775807) : ∃ τ x H', K x H' ∧ Sg.agree H.length σ τ ∧ (x.rng ∧ x.bnd H'.length = true) ∧ H.length ≤ H'.length ∧ HOk H' ∧ x.den τ = .slice (some ⟨w.heap.size, 0, none⟩) m c ∧
      Rep G τ base w₀ (w.drew.alloc (.cells ((ys.map (Value.int k)).toArray ++ (List.replicate ((c - m) * sz) (Value.int k 0)).toArray) e)) H' := by
  have h := h c hc hc'
  rw [lenH_iff, pushH_iff, Nat.zero_add] at h
  have hz : InK k 0 := by cases k <;> exact ⟨by decide, by decide⟩
  have hcs : m * sz + (c - m) * sz = c * sz := by rw [← Nat.add_mul]; congr 1; omega
  have hr : (Blk.own e [.ints k (c * sz) (ys ++ List.replicate ((c - m) * sz) 0)]).rng := ⟨⟨by simp; omega, fun x hx => by
    rcases List.mem_append.1 hx with h | h
    · exact hy x h
    · rw [(List.mem_replicate.1 h).2]; exact hz⟩, trivial⟩
  refine ⟨σ.upd H.length (w.heap.size, 0), _, _, h, Sg.upd_agree _ _ _, ⟨⟨hc, hc'⟩, by simp [C.bnd]⟩, by simp, ho.push hr rfl, ?_, ?_⟩
  · simp only [C.den, Sg.at, Sg.upd_self]
  · refine (hw.drew).push ho _ _ ⟨by rw [Sg.upd_self], by rw [Sg.upd_self]; exact Nat.le_trans hw.size hw.below.size, ?_⟩
    rw [Sg.upd_self]
    show (w.heap.push _)[w.heap.size]? = _
    simp [dens, Seg.den]

theorem kAppA_spec {P : Program} {G : Glo} {T ty : TypeId} {H : List Blk} {s x : C} {K : C → List Blk → Prop} (h : kAppA P T H s x K) (ho : HOk H) (hs : s.rng) {σ : Sg} {base : Nat} {w₀ w : World} (hw : Rep G σ base w₀ w H) :
    ∃ v w' τ c H', (Builtin.append_ #[T, T] ty #[s.den σ, x.den σ]).run P w = .ok v w' ∧ K c H' ∧ Sg.agree H.length σ τ ∧ (c.rng ∧ c.bnd H'.length = true) ∧ H.length ≤ H'.length ∧ HOk H' ∧ v = c.den τ ∧ Rep G τ base w₀ w' H' := by
  unfold kAppA at h
  split at h
  · rename_i e hty
    have ht := tyOf_slice hty
    split at h
    · rename_i inf0 hi0
      obtain ⟨inf, z, ss, hi, hz, h2, zr, zb, zc⟩ := zeroS_spec h
      clear h
      revert h2; intro h
      have hinf : inf0 = inf := by rw [hi0] at hi; exact Option.some.inj hi
      subst hinf
      split at h
      · rename_i k n z0
        split at h
        · rename_i hsz
          have hsize : inf0.size = n := Nat.eq_of_beq_eq_true hsz
          obtain ⟨rfl, h⟩ := h
          have hzc : z.cells = (List.replicate n (Value.int k 0)).toArray := by
            rw [zc σ]
            simp [dens, Seg.den]
          obtain ⟨m, ys, h, hl, hy, hx⟩ := newsA_spec h ho
          obtain ⟨a, c, hxd, hnews⟩ := hx G σ base w₀ w hw
          have hl1 : (ys.map (Value.int k)).length = m * inf0.size := by simp [hl, hsize]
          rw [hxd]
          split at h
          · obtain ⟨⟨h0, h63, h48⟩, h⟩ := h
            have hrun := run_append_nil (P := P) w T ty e inf0 z ht hi hz a m c (ys.map (Value.int k)) hl1 hnews h0 (by omega) h48
            have hc := grownCap_ge w m 0 e
            have hc' := grownCap_le_maxLen w m 0 e (by simpa only [maxLen] using h63)
            obtain ⟨τ, x', H', k1, k2, k3, k4, k5, k6, k7⟩ := freshA_spec h ho hl hy hw hc (by simpa only [maxLen] using hc')
            rw [hzc, zeroCells_rows] at hrun
            exact ⟨_, _, τ, x', H', hrun, k1, k2, k3, k4, k5, k6.symm, k7⟩
          · rename_i j len cap _
            have hlc : len ≤ cap := hs.1
            obtain ⟨b, hb, h⟩ := hGet_spec h
            split at h
            · rename_i T₀ k₂ N xs
              split at h
              · rename_i hk2 hT
                obtain rfl := sameK_eq hk2
                obtain rfl := Nat.eq_of_beq_eq_true hT
                obtain ⟨⟨rfl, h63, h48⟩, hin, hgr⟩ := h
                have hrep := hw.blk j _ hb
                have hrng := ho.rng _ (List.mem_of_getElem? hb)
                have hxl : xs.length = cap * n := hrng.1.1
                have hxr := hrng.1.2
                have hle : len * n ≤ cap * n := Nat.mul_le_mul_right n hlc
                have ha : σ.at j (0 + 0) = ⟨(σ j).1, 0, none⟩ := by simp only [Sg.at, hrep.1]
                have hcur : w.heap[(σ j).1]? = some (.cells (xs.map (Value.int k)).toArray T₀ (0, 0)) := by
                  have := hrep.2.2
                  simpa [dens, Seg.den] using this
                simp only [C.den, ha]
                rcases Nat.lt_or_ge cap (len + m) with hg | hroom
                · have holds : ∀ (q : Nat) (u : Value), ((xs.take (len * n)).map (Value.int k))[q]? = some u → w.cell? ((⟨(σ j).1, 0, none⟩ : Addr).add q) = some u := fun q u hu => by
                    have hq := (List.getElem?_eq_some_iff.1 hu).1
                    have hq1 : q < len * n := by simp at hq; omega
                    have := (rep_reads hw (.inl ⟨_, hb⟩) 0).cell q u (by
                      simp only [List.map_take] at hu
                      rw [List.getElem?_take_of_lt hq1] at hu
                      simpa [dens, Seg.den] using hu)
                    rw [add_ne rfl]
                    simpa [Sg.at, hrep.1] using this
                  have hol : ((xs.take (len * n)).map (Value.int k)).length = len * inf0.size := by simp [hsize]; omega
                  have hrun := run_append_grow (P := P) w T ty T₀ inf0 z ht hi hz ⟨(σ j).1, 0, none⟩ len cap ((xs.take (len * n)).map (Value.int k)) hol holds a m c (ys.map (Value.int k)) hl1 hnews hg (by omega) (growslice_fits hg h48)
                  have hc := grownCap_ge w (len + m) cap T₀
                  have hc' := grownCap_le_maxLen w (len + m) cap T₀ (by simpa only [maxLen] using h63)
                  obtain ⟨τ, x', H', k1, k2, k3, k4, k5, k6, k7⟩ := freshA_spec (hgr hg) ho (by simp [hl, Nat.add_mul]; omega) (fun y hy' => by
                    rcases List.mem_append.1 hy' with h | h
                    · exact hxr y (List.mem_of_mem_take h)
                    · exact hy y h) hw hc (by simpa only [maxLen] using hc')
                  rw [hzc, zeroCells_rows] at hrun
                  refine ⟨_, _, τ, x', H', hrun, k1, k2, k3, k4, k5, k6.symm, ?_⟩
                  simpa [List.map_append] using k7
                · have hln : len * n + m * n ≤ cap * n := by rw [← Nat.add_mul]; exact Nat.mul_le_mul_right n hroom
                  have hrun := run_append_room (P := P) w T ty T₀ inf0 ht hi (σ j).1 len cap _ hcur a m c (ys.map (Value.int k)) hl1 hnews (fun u hu => by
                    obtain ⟨y, _, rfl⟩ := List.mem_map.1 hu
                    rfl) hroom (by simp [hsize, hl, hxl]; omega)
                  have hK := (setH_iff _ _ _ _).1 (hin hroom)
                  have hnew : rngs [.ints k (cap * n) (xs.take (len * n) ++ ys ++ xs.drop ((len + m) * n))] := ⟨⟨by simp only [List.length_append, List.length_take, List.length_drop, hl, hxl, Nat.add_mul]; omega, fun y hy' => by
                    rcases List.mem_append.1 hy' with h | h
                    · rcases List.mem_append.1 h with h | h
                      · exact hxr y (List.mem_of_mem_take h)
                      · exact hy y h
                    · exact hxr y (List.mem_of_mem_drop h)⟩, trivial⟩
                  have hjl := (List.getElem?_eq_some_iff.1 hb).1
                  refine ⟨_, _, σ, _, _, hrun, hK, Sg.agree.refl _ _, ⟨⟨hroom, hs.2⟩, by simp [C.bnd, hjl]⟩, by simp, ho.set hnew rfl, by simp only [C.den, ha], ?_⟩
                  refine hw.set hb rfl (fun q hq => ?_) (by simp) rfl rfl rfl rfl ⟨hrep.1, hrep.2.1, ?_⟩
                  · simp only [World.setRow, Array.getElem?_modify]; rw [if_neg (Ne.symm hq)]
                  · rw [setRow_heap w (σ j).1 _ _ T₀ _ hcur]
                    simp [dens, Seg.den, hsize, hl, Nat.add_mul]
              · exact h.elim
            · exact h.elim
          · exact h.elim
        · exact h.elim
      · exact h.elim
    · exact h.elim
  · exact h.elim

/-- append, of integers or of rows of integers. -/
def kAppX (P : Program) (T : TypeId) (H : List Blk) (s x : C) (K : C → List Blk → Prop) : Prop :=
  match tyOf P T with
  | .slice e => match tyOf P e with
    | .int _ => kApp P T H s x K
    | _ => kAppA P T H s x K
  | _ => False
theorem kAppX_spec {P : Program} {G : Glo} {T ty : TypeId} {H : List Blk} {s x : C} {K : C → List Blk → Prop} (h : kAppX P T H s x K) (ho : HOk H) (hs : s.rng) {σ : Sg} {base : Nat} {w₀ w : World} (hw : Rep G σ base w₀ w H) :
    ∃ v w' τ c H', (Builtin.append_ #[T, T] ty #[s.den σ, x.den σ]).run P w = .ok v w' ∧ K c H' ∧ Sg.agree H.length σ τ ∧ (c.rng ∧ c.bnd H'.length = true) ∧ H.length ≤ H'.length ∧ HOk H' ∧ v = c.den τ ∧ Rep G τ base w₀ w' H' := by
  unfold kAppX at h
  split at h
  · split at h
    · exact kApp_spec h ho hs hw
    · exact kAppA_spec h ho hs hw
  · exact h.elim

/-- copy(d, s), of integers, into a block of one's own. -/
def kCopy (P : Program) (T : TypeId) (H : List Blk) (d s : C) (K : C → List Blk → Prop) : Prop :=
  match tyOf P T with
  | .slice e => match P.info? e, tyOf P e with
    | some inf, .int k => match Nat.beq inf.size 1 with
      | true => match d with
        | .csl j o i dlen _ => match o with
          | 0 => newsK H k s fun m ys => hGet H j fun b => match b with
            | .own T₀ [.ints k₂ n xs] => match sameK k k₂ with
              | true => i + dlen ≤ n ∧ setH H j (.own T₀ [.ints k n (xs.take i ++ ys.take dlen ++ xs.drop (i + min m dlen))]) fun H' => K (.ci .i64 ((min m dlen : Nat) : Int)) H'
              | false => False
            | _ => False
          | _ + 1 => False
        | _ => False
      | false => False
    | _, _ => False
  | _ => False
theorem kCopy_spec {P : Program} {G : Glo} {T T' ty : TypeId} {H : List Blk} {d s : C} {K : C → List Blk → Prop} (h : kCopy P T H d s K) (ho : HOk H) (hd : d.rng) {σ : Sg} {base : Nat} {w₀ w : World} (hw : Rep G σ base w₀ w H) :
    ∃ v w' τ c H', (Builtin.copy_ #[T, T'] ty #[d.den σ, s.den σ]).run P w = .ok v w' ∧ K c H' ∧ Sg.agree H.length σ τ ∧ (c.rng ∧ c.bnd H'.length = true) ∧ H.length ≤ H'.length ∧ HOk H' ∧ v = c.den τ ∧ Rep G τ base w₀ w' H' := by
  unfold kCopy at h
  split at h
  · rename_i e hty
    have ht := tyOf_slice hty
    split at h
    · rename_i inf k hi hk
      split at h
      · rename_i hsz
        have hsize : inf.size = 1 := Nat.eq_of_beq_eq_true hsz
        split at h
        · rename_i j o i dlen dcap
          split at h
          · obtain ⟨m, ys, h, hl, hy, hx⟩ := newsK_spec h ho
            obtain ⟨a, c, hxd, hnews⟩ := hx G σ base w₀ w hw
            obtain ⟨b, hb, h⟩ := hGet_spec h
            rw [hxd]
            split at h
            · rename_i T₀ k₂ n xs
              split at h
              · rename_i hk2
                obtain rfl := sameK_eq hk2
                obtain ⟨hn, h⟩ := h
                have hrep := hw.blk j _ hb
                have hrng := ho.rng _ (List.mem_of_getElem? hb)
                have hxl : xs.length = n := hrng.1.1
                have hxr := hrng.1.2
                have hcur : w.heap[(σ j).1]? = some (.cells (xs.map (Value.int k)).toArray T₀ (0, 0)) := by
                  have := hrep.2.2
                  simpa [dens, Seg.den] using this
                have ha : σ.at j (0 + i) = ⟨(σ j).1, i, none⟩ := by simp only [Sg.at, hrep.1, Nat.zero_add]
                have hlen : (ys.take dlen).length = min m dlen := by rw [List.length_take, hl, Nat.min_comm]
                have hrun := run_copy_row (P := P) w T T' ty e (σ j).1 i dlen dcap a m c (xs.map (Value.int k)).toArray T₀ ((ys.take dlen).map (Value.int k)) ht (by rw [hi]; simp [hsize]) hcur (by rw [List.length_map, hlen]) (fun q u hu => by
                  refine hnews q u ?_
                  rw [List.map_take] at hu
                  have hq := (List.getElem?_eq_some_iff.1 hu).1
                  rw [List.getElem?_take_of_lt (by simp at hq; omega)] at hu
                  exact hu) (by simp [hl, hxl]; omega) (fun u hu => by
                  obtain ⟨y, _, rfl⟩ := List.mem_map.1 hu
                  rfl)
                have hK := (setH_iff _ _ _ _).1 h
                have hnew : rngs [.ints k n (xs.take i ++ ys.take dlen ++ xs.drop (i + min m dlen))] := ⟨⟨by simp [hl, hxl]; omega, fun y hy' => by
                  rcases List.mem_append.1 hy' with h | h
                  · rcases List.mem_append.1 h with h | h
                    · exact hxr y (List.mem_of_mem_take h)
                    · exact hy y (List.mem_of_mem_take h)
                  · exact hxr y (List.mem_of_mem_drop h)⟩, trivial⟩
                simp only [C.den, ha]
                have hdl : dlen ≤ 9223372036854775807 := Nat.le_trans hd.1 hd.2
                refine ⟨_, _, σ, _, _, hrun, hK, Sg.agree.refl _ _, ⟨⟨by simp only [lowK]; omega, by simp only [highK]; omega⟩, rfl⟩, by simp, ho.set hnew rfl, by simp only [C.den, goInt, List.length_map, hlen], ?_⟩
                refine hw.set hb rfl (fun q hq => ?_) (by simp) rfl rfl rfl rfl ⟨hrep.1, hrep.2.1, ?_⟩
                · simp only [World.setRow, Array.getElem?_modify]; rw [if_neg (Ne.symm hq)]
                · rw [setRow_heap w (σ j).1 _ _ T₀ _ hcur]
                  simp [dens, Seg.den, hl, Nat.min_comm]
              · exact h.elim
            · exact h.elim
          · exact h.elim
        · exact h.elim
      · exact h.elim
    · exact h.elim
  · exact h.elim
end Go.Proofs.YtaficaacogcblaaGreatDoor
