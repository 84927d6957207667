/- WholeWay: the law. -/
import Derived.Test.YtaficaacogcblaaGreatDoorWll
import Derived.Test.YtaficaacogcblaaGreatDoorWmm
import Derived.Deep.Slices
import Derived.WideKeyArr2
import Derived.Lib.LaidTab
set_option linter.all false
namespace Go.Proofs.YtaficaacogcblaaGreatDoor
namespace R
open Go.RowKit (Below)
set_option maxRecDepth 100000
set_option maxHeartbeats 16000000

/-! ### a slice of arrays, handed in -/
def SlA (w : World) (v : Value) : Prop :=
  v = .slice none 0 0 ∨ ∃ (b o len cap : Nat) (xs : List Int), v = .slice (some ⟨b, o, none⟩) len cap ∧ len ≤ cap ∧ cap ≤ 9223372036854775807 ∧ b < w.heap.size ∧ xs.length = cap * 16 ∧ (∀ x ∈ xs, InK .i64 x) ∧
    ∀ (i : Nat) (u : Value), (xs.map (Value.int .i64))[i]? = some u → w.cell? ⟨b, o + i, none⟩ = some u
theorem mapM_ints {H : Type} {enc : TypeId × Value → H} {P : Program} {w : World} {base m : Nat} {sp : Nat → Bool} {held : Bool} {q : TypeId} {k : IntKind} (hq : P.underlying q = some (.int k)) {cs : List Value} : ∀ (L : List Nat) (ys : List (DataW H × List MemPlace)),
    L.mapM (fun i => DataW.trod enc P w base sp held m q ((cs.drop (i * 1)).take 1)) = some ys → ∀ i ∈ L, ∃ a : Int, cs[i]? = some (.int k a) ∧ (Lit.int k a).wf = true
  | [], _, _, i, hi => by cases hi
  | j :: L, ys, h, i, hi => by
    rw [List.mapM_cons] at h
    simp only [bind, Option.bind_eq_some_iff, pure, Option.some.injEq] at h
    obtain ⟨y, hy, ys', hys, rfl⟩ := h
    rcases List.mem_cons.1 hi with rfl | hi
    · obtain ⟨a, ea, _, wa⟩ := DataW.trod_int hq hy
      refine ⟨a, ?_, wa⟩
      rw [Nat.mul_one] at ea
      have : ((cs.drop i).take 1)[0]? = some (.int k a) := by rw [ea]; rfl
      rw [List.getElem?_take_of_lt (by decide), List.getElem?_drop, Nat.add_zero] at this
      exact this
    · exact mapM_ints hq L ys' hys i hi
theorem arr_ints {H : Type} {enc : TypeId × Value → H} {P : Program} {w : World} {base fuel n : Nat} {sp : Nat → Bool} {held : Bool} {e q : TypeId} {k : IntKind} (he : P.underlying e = some (.array n q)) (hq : P.underlying q = some (.int k)) (hc : P.cellsOf q = 1) {cs : List Value} {x : DataW H × List MemPlace}
    (h : DataW.trod enc P w base sp held fuel e cs = some x) : ∀ i, i < n → ∃ a : Int, cs[i]? = some (.int k a) ∧ (Lit.int k a).wf = true := fun i hi => by
  cases fuel with
  | zero => simp [DataW.trod] at h
  | succ m =>
    rw [DataW.trod_step] at h
    unfold DataW.trodStep at h
    simp only [he, hc] at h
    split at h
    · simp only [Option.map_eq_some_iff] at h
      obtain ⟨ys, hy, _⟩ := h
      exact mapM_ints hq _ ys hy i (List.mem_range.2 hi)
    · cases h
theorem slA_of {H : Type} {enc : TypeId × Value → H} {P : Program} {w : World} {r : Reach} {base base' : Nat} {held : Bool} {t e q : TypeId} {fuel : Nat} {v : Value} {x : DataW H × List MemPlace} (ht : P.underlying t = some (.slice e)) (he : P.underlying e = some (.array 16 q)) (hq : P.underlying q = some (.int .i64)) (hc : P.cellsOf e = 16) (hc1 : P.cellsOf q = 1)
    (hv : Value.okWide P w r base t v) (h : DataW.trod enc P w base' (fun _ => true) held fuel t v.cells.toList = some x) : SlA w v := by
  rcases Go.Deep.open_slice ht h with ⟨hcs, _⟩ | ⟨a, len, cap, m, n, D, Pl, hcs, _, hl, hm, hmm, _, hget⟩
  · left
    obtain ⟨p, l, c, rfl⟩ := Go.WideShapes.okWide_slice ht hv
    simp [Value.cells] at hcs
    obtain ⟨rfl, rfl, rfl⟩ := hcs
    rfl
  · right
    obtain ⟨p, l, c, rfl⟩ := Go.WideShapes.okWide_slice ht hv
    simp [Value.cells] at hcs
    obtain ⟨rfl, rfl, rfl⟩ := hcs
    have hok : w.has P r base a e c := by
      have := hv
      simp only [Value.okWide, ht, Cell.okWide, Cell.ok] at this
      exact this.2.2
    obtain ⟨_, hspot, row, cells, hsh, _⟩ := hok
    have hblk : a.block < w.heap.size := by
      rcases Nat.lt_or_ge a.block w.heap.size with h | h
      · exact h
      · simp [World.shape?, Array.getElem?_eq_none h] at hsh
    obtain ⟨b, o, sp⟩ := a
    simp only at hspot hblk
    subst hspot
    have hmc : m = c := by simpa using hmm
    subst hmc
    rw [hc] at hget
    have hX : ∀ i, i < m * 16 → ∃ z : Int, w.cell? ⟨b, o + i, none⟩ = some (.int .i64 z) ∧ (Lit.int .i64 z).wf = true := fun i hi => by
      obtain ⟨cs', h1, h2⟩ := hget (i / 16) (by omega)
      obtain ⟨z, hz, wz⟩ := arr_ints he hq hc1 h2 (i % 16) (by omega)
      refine ⟨z, ?_, wz⟩
      obtain ⟨_, hlen, hcell⟩ := World.cells?_some h1
      have := hcell (i % 16) (by omega)
      rw [Go.Deep.add_add, add_ne rfl] at this
      rw [← hz, ← this, show i / 16 * 16 + i % 16 = i by omega]
    obtain ⟨X, hX⟩ := Go.Deep.choose_lt hX
    refine ⟨b, o, l, m, (List.range (m * 16)).map X, rfl, hl, by simpa only [maxLen] using hm, hblk, by simp, fun z hz => ?_, fun i u hu => ?_⟩
    · obtain ⟨i, hi, rfl⟩ := List.mem_map.1 hz
      exact inK_of_wf (hX i (List.mem_range.1 hi)).2
    · have hi := (List.getElem?_eq_some_iff.1 hu).1
      simp at hi
      rw [(hX i hi).1]
      simp [hi] at hu
      rw [← hu]
abbrev first_type : TypeId := 203
theorem first_named : Tryz.prog.globalNamed "spool/level.first" = some 0 := by kernel_rfl
theorem first_typed : (Tryz.prog.globals[0]?).map (·.type) = some 203 := by kernel_rfl
/-- From the row's condition. -/
theorem gw_of_tab {w : World} (h : Go.Lib.TabIs Tryz.prog w "spool/level.first" .i64 [0, 2, 4, 8, 16]) : GW D.G1 w := by
  have c : ∀ i : Nat, i < 5 → w.cell? ⟨0, i, none⟩ = some (.int .i64 (([0, 2, 4, 8, 16] : List Int).getD i 0)) := fun i hi => h.cell first_named i hi
  intro g ss hg
  unfold D.G1 at hg
  split at hg
  · rename_i hb
    obtain rfl := Nat.eq_of_beq_eq_true hb
    cases hg
    refine ⟨?_, rfl, fun i v hv => ?_⟩
    · rcases Nat.lt_or_ge 0 w.heap.size with hlt | hge
      · exact hlt
      · have := c 0 (by decide)
        unfold World.cell? at this
        simp [Array.getElem?_eq_none hge] at this
    · have hi : i < 5 := by
        have := (List.getElem?_eq_some_iff.1 hv).1
        simpa [dens, Seg.den] using this
      rw [c i hi]
      obtain rfl | rfl | rfl | rfl | rfl : i = 0 ∨ i = 1 ∨ i = 2 ∨ i = 3 ∨ i = 4 := by omega
      all_goals exact hv
  · cases hg
theorem way_calls {ws : List W} {R : List Blk} (hr : rngW ws) (hb : bndW R.length ws = true) (hR : HOk R) (h : walk5 FWw 0 Tryz.f4 ws R fun y _ => y = vb true) (σ : Sg) (w : World) (hro : ∀ (j : Nat) (b : Blk), R[j]? = some b → b.mine = false ∧ b.rep σ w.heap.size w j) (hg : GW D.G1 w) :
    Calls Tryz.prog 4 (ws.map (W.den σ)).toArray w fun e w' => e = .returned (.bool true) ∧ Below w.heap.size w w' := by
  refine (call_roG E5_ok (cal5_ok FWw_ok 0) (drwX_ok E5_ok mixed _ (cal5_ok FWw_ok 0)) Tryz.func4 (x := vb true) rfl hr hb h hR σ w hro hg).mono ?_
  rintro e w' ⟨v, rfl, h1, h2⟩
  exact ⟨by rw [show v = _ from h1]; rfl, h2⟩
theorem law_WholeWay (W0 : World) (v : Value) (wv : SlA W0 v) (u : Value) (wu : W2.SlB W0 u) (k : Int) (hk : InK .u8 k) (hg : GW D.G1 W0) : Calls Tryz.prog 4 #[v, u, .int .u8 k] W0 fun e w' => e = .returned (.bool true) ∧ Below W0.heap.size W0 w' := by
  have hk' : 0 ≤ k ∧ k ≤ 255 := hk
  rcases wv with rfl | ⟨b, o, len, cap, zs, rfl, hl, hc, hbw, hz, hx, hcell⟩
  · rcases wu with rfl | ⟨b', o', len', cap', bs, rfl, hl', hc', hbw', hz', hcell'⟩
    · exact way_calls (ws := [.c .csn, .c .csn, .c (.ci .u8 k)]) (R := []) ⟨trivial, trivial, hk, trivial⟩ rfl C.nil_ok (way_nil C.nil_ok (.inl rfl) hk') (fun _ => (0, 0)) W0 (fun j c hj => by simp at hj) hg
    · subst hz'
      have hR : HOk [.ro (W2.boolS bs)] := ⟨fun c hc => by rw [List.mem_singleton.1 hc]; exact (W2.boolS_ok bs).1, fun c hc => by rw [List.mem_singleton.1 hc]; exact (W2.boolS_ok bs).2.1 _⟩
      exact way_calls (ws := [.c .csn, .c (.csl 0 0 0 len' bs.length), .c (.ci .u8 k)]) (R := [.ro (W2.boolS bs)]) ⟨trivial, ⟨hl', hc'⟩, hk, trivial⟩ rfl hR (way_bool hR (.inl rfl) (jb := 0) rfl hl' hk') (fun _ => (b', o')) W0 (by
        intro j c hj
        match j, hj with
        | 0, hj => simp at hj; subst hj; exact ⟨rfl, W2.ro_of_slB rfl hbw' hcell'⟩
        | j + 1, hj => simp at hj) hg
  · rcases wu with rfl | ⟨b', o', len', cap', bs, rfl, hl', hc', hbw', hz', hcell'⟩
    · have hR : HOk [.ro [.ints .i64 (cap * 16) zs]] := ⟨fun c hc => by rw [List.mem_singleton.1 hc]; exact ⟨⟨hz, hx⟩, trivial⟩, fun c hc => by rw [List.mem_singleton.1 hc]; rfl⟩
      exact way_calls (ws := [.c (.csl 0 0 0 len cap), .c .csn, .c (.ci .u8 k)]) (R := [.ro [.ints .i64 (cap * 16) zs]]) ⟨⟨hl, hc⟩, trivial, hk, trivial⟩ rfl hR (way_nil hR (.inr ⟨0, len, cap, zs, rfl, rfl, hl, hc⟩) hk') (fun _ => (b, o)) W0 (by
        intro j c hj
        match j, hj with
        | 0, hj => simp at hj; subst hj; exact ⟨rfl, ro_of_slIn rfl hbw hcell⟩
        | j + 1, hj => simp at hj) hg
    · subst hz'
      have hR : HOk [.ro [.ints .i64 (cap * 16) zs], .ro (W2.boolS bs)] := ⟨fun c hc => by
        rcases List.mem_cons.1 hc with rfl | hc
        · exact ⟨⟨hz, hx⟩, trivial⟩
        · rw [List.mem_singleton.1 hc]; exact (W2.boolS_ok bs).1, fun c hc => by
        rcases List.mem_cons.1 hc with rfl | hc
        · rfl
        · rw [List.mem_singleton.1 hc]; exact (W2.boolS_ok bs).2.1 _⟩
      exact way_calls (ws := [.c (.csl 0 0 0 len cap), .c (.csl 1 0 0 len' bs.length), .c (.ci .u8 k)]) (R := [.ro [.ints .i64 (cap * 16) zs], .ro (W2.boolS bs)]) ⟨⟨hl, hc⟩, ⟨hl', hc'⟩, hk, trivial⟩ rfl hR (way_bool hR (.inr ⟨0, len, cap, zs, rfl, rfl, hl, hc⟩) (jb := 1) rfl hl' hk') (fun j => if j = 0 then (b, o) else (b', o')) W0 (by
        intro j c hj
        match j, hj with
        | 0, hj => simp at hj; subst hj; exact ⟨rfl, ro_of_slIn (by rfl) hbw hcell⟩
        | 1, hj => simp at hj; subst hj; exact ⟨rfl, W2.ro_of_slB (by rfl) hbw' hcell'⟩
        | j + 2, hj => simp at hj) hg
end R
end Go.Proofs.YtaficaacogcblaaGreatDoor
