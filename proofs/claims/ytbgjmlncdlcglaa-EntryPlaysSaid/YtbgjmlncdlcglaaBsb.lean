/- The builder of strings: its check for copies; the string that it holds; as contracts over blocks. -/
import Derived.Shelf.Strings.Builder1
import Derived.Test.YtbgjmlncdlcglaaBnb
set_option linter.all false
namespace Go.Proofs.Ytbgjmlncdlcglaa
open Go.RowKit (Below)
open Go.Shelf
set_option maxRecDepth 100000
set_option maxHeartbeats 4000000

theorem bSize : (Try.prog.info? 104).map (·.size) = some 2 := by kernel_rfl
theorem bLies : liesAt Try.prog Try.prog.depth 104 (2 / Try.prog.cellsOf 104) 0 104 1 = true := by kernel_rfl
theorem copyCheck_used (b : Nat) (w : World) (h0 : w.cell? ⟨b, 0, none⟩ = some (.pointer (some ⟨b, 0, none⟩))) :
    Calls Try.prog 96 #[.pointer (some ⟨b, 0, none⟩)] w fun e w' => e = .returned (.tuple #[]) ∧ w' = w := by
  obtain ⟨j, hj, _⟩ := Option.map_eq_some_iff.1 bSize
  go_enter Try.func96, Try.ntmps96
  go_wp2
  rw [Lib.run_neq_ptr_same w _ Try.underlying102 hj]
  go_wp2
  go_end0
  exact ⟨rfl, rfl⟩
theorem copyCheck_fresh (b : Nat) (w : World) (h0 : w.cell? ⟨b, 0, none⟩ = some (.pointer none)) (hsh : w.shape? b = some (104, 2)) (hfz : w.frozen? ⟨b, 0, none⟩ = false) :
    Calls Try.prog 96 #[.pointer (some ⟨b, 0, none⟩)] w fun e w' => e = .returned (.tuple #[]) ∧ w' = w.setCell ⟨b, 0, none⟩ (.pointer (some ⟨b, 0, none⟩)) := by
  obtain ⟨j, hj, hjs⟩ := Option.map_eq_some_iff.1 bSize
  go_enter Try.func96, Try.ntmps96
  go_wp2
  rw [Lib.run_to_unsafe w ⟨b, 0, none⟩ Try.underlying102 Try.underlying136 hj (by rw [hjs]; decide) hsh (Nat.zero_lt_succ 1)]
  simp only [Result.andThen]
  rw [Oper.upon_value]
  go_wp2
  rw [run_callFunc_extern Try.func107 (by kernel_rfl) (by kernel_rfl) (by kernel_rfl) (e := Extern.AbiNoEscape.same) (by kernel_rfl)]
  rw [Lib.run_noEscape]
  simp only [Result.andThen]
  rw [Oper.upon_value]
  go_wp2
  rw [Lib.run_from_unsafe w ⟨b, 0, none⟩ Try.underlying136 Try.underlying102 hj hsh bLies]
  simp only [Result.andThen]
  rw [Oper.upon_value]
  go_wp2
  go_end0
  exact ⟨rfl, rfl⟩
def Try.lays169_ren : Go.Shelf.Ren := ⟨fun | 169 => 75 | n => n, fun | 70 => 102 | 9 => 9 | 0 => 0 | 72 => 104 | 37 => 89 | 127 => 132 | 3 => 3 | 5 => 5 | n => n, fun | n => n⟩
theorem Try.lays169 : Go.Proofs.Lays.n169 Try.prog Try.lays169_ren := {
  mixed := by kernel_rfl
  f169 := Try.func75.trans (congrArg some (by kernel_rfl))
  t0 := Try.underlying0
  a0 := Try.isAgg0
  z0 := Try.sizeOf0
  v0 := Try.zeroValue0
  t3 := Try.underlying3
  a3 := Try.isAgg3
  z3 := Try.sizeOf3
  v3 := Try.zeroValue3
  t9 := Try.underlying9
  a9 := Try.isAgg9
  z9 := Try.sizeOf9
  v9 := Try.zeroValue9
  t37 := Try.underlying89
  a37 := Try.isAgg89
  z37 := Try.sizeOf89
  v37 := Try.zeroValue89
  t70 := Try.underlying102
  a70 := Try.isAgg102
  z70 := Try.sizeOf102
  v70 := Try.zeroValue102
  t72 := Try.underlying104
  a72 := Try.isAgg104
  z72 := Try.sizeOf104
  v72 := Try.zeroValue104
  t127 := Try.underlying132
  a127 := Try.isAgg132
  z127 := Try.sizeOf132
  v127 := Try.zeroValue132 }
theorem Try.Builder_Extra_169 : Builder.Extra Try.prog Try.lays169_ren := {
  sizeBuilder := by kernel_rfl
  liesBuilder := by kernel_rfl
  t5 := Try.underlying5
  a5 := Try.isAgg5
  z5 := Try.sizeOf5
  v5 := Try.zeroValue5
  infoByte := by kernel_rfl
  cellsByte := by kernel_rfl
  sizeByte := by kernel_rfl
  neB5 := by decide }
theorem Try.Builder_String (B b : Nat) (l : List UInt8) (w : World) (h : Lib.IsBuilder 104 5 B b (Lib.byteCells l) w) (h0 : l ≠ []) :
    Calls Try.prog 75 #[.pointer (some ⟨b, 0, none⟩)] w fun e w' => e = .returned (.string ⟨l.toArray⟩) ∧ Below B w w' := Any.Builder_String Try.lays169 Try.Builder_Extra_169 B b l w h h0

/- The builder of strings: what a write leaves, as a contract over blocks. -/
open Go.Shelf
set_option maxRecDepth 100000
set_option maxHeartbeats 4000000

theorem Rep.bare {G : Glo} {σ : Sg} {base : Nat} {w₀ w : World} {H : List Blk} (h : Rep G σ base w₀ w H) : Rep E0.G σ base w₀ w H := ⟨h.below, h.size, h.blk, h.sep, fun g ss hg => by cases hg⟩
theorem Rep.regain {G : Glo} {σ τ : Sg} {base : Nat} {w₀ w w' : World} {H H' : List Blk} (h : Rep G σ base w₀ w H) (h' : Rep E0.G τ base w₀ w' H') : Rep G τ base w₀ w' H' := by
  refine ⟨h'.below, h'.size, h'.blk, h'.sep, fun g ss hg => ?_⟩
  obtain ⟨g1, g2, g3⟩ := h.glo g ss hg
  refine ⟨g1, g2, fun i u hu => ?_⟩
  have hu' : (dens σ ss)[i]? = some u := by
    rw [dens_agree (n := 0) (τ := τ) (fun j hj => absurd hj (Nat.not_lt_zero j)) ss g2]; exact hu
  have := g3 i u hu'
  rw [cell_eq_of_block (w := w) (w' := w')]
  · exact this
  · show w'.heap[g]? = w.heap[g]?
    rw [h'.below.block g g1, h.below.block g g1]
/-- A walk over whatever blocks, as what a call leaves. -/
theorem walk_hct {F : Fns} (hF : FnsOk Try.prog F) {n : Nat} {f : FuncId} {fn : Func} (hf : Try.prog.funcs[f]? = some fn) {ws : List W} {H : List Blk} {Q : V → List Blk → Prop} (hr : rngW ws) (hb : bndW H.length ws = true) (ho : HOk H)
    (h : walk F n fn ws H Q) {G : Glo} {σ : Sg} {base : Nat} {w₀ w : World} (hw : Rep G σ base w₀ w H) : Calls Try.prog f (ws.map (W.den σ)).toArray w (LeftG G σ base w₀ H.length Q) := by
  refine (xfun_spec E0_ok (calF_ok E0_ok hF (fun cal hc => drwA_ok E0_ok hF mixed cal hc) n) (drwA_ok E0_ok hF mixed _ (calF_ok E0_ok hF (fun cal hc => drwA_ok E0_ok hF mixed cal hc) n)) hf h hr hb ho σ base w₀ w hw.bare).mono ?_
  rintro e w' ⟨τ, x, H', v, rfl, h1, h2, h3, h4, h5, h6, h7⟩
  exact ⟨τ, x, H', v, rfl, h1, h2, h3, hw.regain h4, h5, h6, h7⟩
theorem hGet_of {H : List Blk} {j : Nat} {b : Blk} {K : Blk → Prop} (h : H[j]? = some b) (hk : K b) : hGet H j K := by
  induction H generalizing j with
  | nil => simp at h
  | cons x H ih =>
    cases j with
    | zero => simp at h; subst h; exact hk
    | succ j => exact ih (by simpa using h)
theorem lenH_of {H : List Blk} {K : Nat → Prop} (h : K H.length) : lenH H 0 K := by rw [lenH_iff, Nat.zero_add]; exact h
theorem pushH_of {H : List Blk} {b : Blk} {K : List Blk → Prop} (h : ∀ H', H' = H ++ [b] → K H') : pushH H b K := by rw [pushH_iff]; exact h _ rfl
theorem setH_of {H : List Blk} {j : Nat} {b : Blk} {K : List Blk → Prop} (h : ∀ H', H' = H.set j b → K H') : setH H j b K := by rw [setH_iff]; exact h _ rfl

/-! ### the check for copies -/
abbrev bT : TypeId := 104
abbrev bldr (j : Nat) (s : C) : Blk := .own bT [.one (.cp j 0), .one s]
abbrev bld0 (s : C) : Blk := .own bT [.one .cnil, .one s]
def hCheck : HCt := fun ws H K => ∃ (j : Nat) (x : C), ws = [.c (.cp j 0)] ∧ ((H[j]? = some (bld0 x) ∧ setH H j (bldr j x) fun H' => K (.tup []) H') ∨ (H[j]? = some (bldr j x) ∧ K (.tup []) H))
theorem check_hct : HCtOk Try.prog 96 hCheck := by
  rintro ws H K ⟨j, x, rfl, h⟩ hr hb ho G σ base w₀ w hw
  have at0 : ∀ ss, H[j]? = some (.own bT ss) → σ.at j 0 = ⟨(σ j).1, 0, none⟩ := fun ss hj => by
    have := (hw.blk j _ hj).1
    simp only [Sg.at, this]
  have args : ∀ ss, H[j]? = some (.own bT ss) → (([.c (.cp j 0)] : List W).map (W.den σ)).toArray = #[.pointer (some ⟨(σ j).1, 0, none⟩)] := fun ss hj => by
    simp only [List.map_cons, List.map_nil, W.den, C.den, at0 ss hj]
  rcases h with ⟨hj, hk⟩ | ⟨hj, hk⟩
  · rw [setH_iff] at hk
    rw [args _ hj]
    obtain ⟨b1, b2, b3⟩ := hw.blk j _ hj
    have b4 : w.heap[(σ j).1]? = some (.cells #[.pointer none, x.den σ] bT (0, 0)) := by simpa [dens, Seg.den, C.den] using b3
    refine (copyCheck_fresh (σ j).1 w (by rw [Lib.cell_of_heap b4]; rfl) (by simp [World.shape?, b4]) (Lib.frozen_of_heap b4 0)).mono ?_
    rintro e w' ⟨rfl, rfl⟩
    have hrng := ho.rng _ (List.mem_of_getElem? hj)
    have hbnd := ho.bnd _ (List.mem_of_getElem? hj)
    have hjl := (List.getElem?_eq_some_iff.1 hj).1
    have hnb : (bldr j x).bnd H.length = true := by
      simp only [Blk.bnd, bnds, Seg.bnd, C.bnd, Bool.and_true, Bool.and_eq_true] at hbnd ⊢
      exact ⟨decide_eq_true hjl, hbnd.2⟩
    refine ⟨σ, .tup [], _, _, rfl, rfl, hk, Sg.agree.refl _ _, ?_, ho.set ⟨trivial, hrng.2.1, trivial⟩ hnb, ⟨trivial, rfl⟩, by simp⟩
    refine hw.set hj rfl (fun k hk' => ?_) (by simp [World.setCell]) rfl rfl rfl rfl ⟨b1, b2, ?_⟩
    · exact Below.heap_setCell _ _ _ _ (fun e => hk' e)
    · have : w.heap[(σ j).1]? = some (.cells #[.pointer none, x.den σ] bT (0, 0)) := b4
      simp [World.setCell, Array.getElem?_modify, this, dens, Seg.den, C.den, Sg.at, b1]
  · rw [args _ hj]
    obtain ⟨b1, b2, b3⟩ := hw.blk j _ hj
    have b4 : w.heap[(σ j).1]? = some (.cells #[.pointer (some ⟨(σ j).1, 0, none⟩), x.den σ] bT (0, 0)) := by simpa [dens, Seg.den, C.den, Sg.at, b1] using b3
    refine (copyCheck_used (σ j).1 w (by rw [Lib.cell_of_heap b4]; rfl)).mono ?_
    rintro e w' ⟨rfl, rfl⟩
    exact ⟨σ, .tup [], H, _, rfl, rfl, hk, Sg.agree.refl _ _, hw, ho, ⟨trivial, rfl⟩, Nat.le_refl _⟩

/-! ### what a write leaves -/
abbrev bt : TypeId := 5
abbrev buf (c : Nat) (ys : List Int) : Blk := .own bt [.ints .u8 c ys]
theorem Rep.wrote {G : Glo} {τ : Sg} {base : Nat} {w₀ w : World} {H₁ H : List Blk} (h : Rep G τ base w₀ w H₁) (ho : HOk H) {j k a m c : Nat} {ys : List Int} (hjl : j < H.length)
    (hlow : ∀ i, i < H.length → i ≠ j → i ≠ k → H₁[i]? = H[i]?) (hj : H₁[j]? = some (bldr j (.csl a 0 0 m c))) (ha : H₁[a]? = some (buf c ys)) (hak : H.length ≤ a ∨ (a = k ∧ k ≠ j)) :
    Rep G (τ.upd H.length (τ a)) base w₀ w ((H.set k .gone).set j (bldr j (.csl H.length 0 0 m c)) ++ [buf c ys]) := by
  have hag := Sg.upd_agree τ H.length (τ a)
  have cases' : ∀ (i : Nat) (b : Blk), ((H.set k .gone).set j (bldr j (.csl H.length 0 0 m c)) ++ [buf c ys])[i]? = some b → b = .gone ∨ (i = j ∧ b = bldr j (.csl H.length 0 0 m c)) ∨ (i = H.length ∧ b = buf c ys) ∨ (i < H.length ∧ i ≠ j ∧ i ≠ k ∧ H[i]? = some b) := fun i b hi => by
    rcases Nat.lt_or_ge i H.length with hlt | hge
    · rw [List.getElem?_append_left (by simpa using hlt)] at hi
      by_cases hij : j = i
      · subst hij
        rw [List.getElem?_set_self (by simpa using hlt)] at hi
        exact .inr (.inl ⟨rfl, (Option.some.inj hi).symm⟩)
      · rw [List.getElem?_set_ne hij] at hi
        by_cases hik : k = i
        · subst hik
          rw [List.getElem?_set_self hlt] at hi
          exact .inl (Option.some.inj hi).symm
        · rw [List.getElem?_set_ne hik] at hi
          exact .inr (.inr (.inr ⟨hlt, Ne.symm hij, Ne.symm hik, hi⟩))
    · have hl := (List.getElem?_eq_some_iff.1 hi).1
      simp at hl
      obtain rfl : i = H.length := by omega
      rw [List.getElem?_append_right (by simp)] at hi
      simp at hi
      exact .inr (.inr (.inl ⟨rfl, hi.symm⟩))
  have low : ∀ i, i < H.length → (τ.upd H.length (τ a)) i = τ i := fun i hi => (hag i hi).symm
  refine ⟨h.below, h.size, fun i b hi => ?_, fun i i' b b' hi hi' hb hb' hne => ?_, fun g ss hg => ?_⟩
  · rcases cases' i b hi with rfl | ⟨rfl, rfl⟩ | ⟨rfl, rfl⟩ | ⟨hlt, h1, h2, h3⟩
    · trivial
    · obtain ⟨r1, r2, r3⟩ := h.blk i _ hj
      refine ⟨by rw [low i hjl]; exact r1, by rw [low i hjl]; exact r2, ?_⟩
      rw [low i hjl, r3]
      simp only [dens, Seg.den, C.den, Sg.at, low i hjl, Sg.upd_self]
    · obtain ⟨r1, r2, r3⟩ := h.blk a _ ha
      refine ⟨by rw [Sg.upd_self]; exact r1, by rw [Sg.upd_self]; exact r2, ?_⟩
      rw [Sg.upd_self, r3]
      simp only [dens, Seg.den]
    · exact Blk.rep_agree hag hlt (ho.bnd b (List.mem_of_getElem? h3)) (h.blk i b (by rw [hlow i hlt h1 h2]; exact h3))
  · have place : ∀ (i : Nat) (b : Blk), ((H.set k .gone).set j (bldr j (.csl H.length 0 0 m c)) ++ [buf c ys])[i]? = some b → b.mine = true → ∃ e b₁, (τ.upd H.length (τ a)) i = τ e ∧ H₁[e]? = some b₁ ∧ b₁.mine = true ∧ ((i = H.length ∧ e = a) ∨ (i < H.length ∧ e = i ∧ i ≠ a)) := fun i b hi hm => by
      rcases cases' i b hi with rfl | ⟨rfl, rfl⟩ | ⟨rfl, rfl⟩ | ⟨hlt, h1, h2, h3⟩
      · cases hm
      · refine ⟨i, _, low i hjl, hj, rfl, .inr ⟨hjl, rfl, fun e => ?_⟩⟩
        subst e
        rw [hj] at ha
        cases ha
      · exact ⟨a, _, Sg.upd_self _ _ _, ha, rfl, .inl ⟨rfl, rfl⟩⟩
      · refine ⟨i, b, low i hlt, by rw [hlow i hlt h1 h2]; exact h3, hm, .inr ⟨hlt, rfl, fun e => ?_⟩⟩
        rcases hak with hk | hk
        · omega
        · exact h2 (e.trans hk.1)
    obtain ⟨e, b₁, p1, p2, p3, p4⟩ := place i b hi hb
    obtain ⟨e', b₁', q1, q2, q3, q4⟩ := place i' b' hi' hb'
    rw [p1, q1]
    refine h.sep e e' b₁ b₁' p2 q2 p3 q3 (fun ee => ?_)
    rcases p4 with ⟨x1, x2⟩ | ⟨x1, x2, x3⟩ <;> rcases q4 with ⟨y1, y2⟩ | ⟨y1, y2, y3⟩ <;> omega
  · obtain ⟨g1, g2, g3⟩ := h.glo g ss hg
    refine ⟨g1, g2, ?_⟩
    rw [dens_agree (n := 0) (τ := τ) (fun j hj => absurd hj (Nat.not_lt_zero j)) ss g2]
    exact g3

/-- A write has put these bytes into the builder j (that held block k, if k is another one). -/
structure Wrote (H : List Blk) (j k : Nat) (res : V) (bs : List Int) (y : V) (H' : List Blk) (a c : Nat) (ys : List Int) : Prop where
  res : y = res
  low : ∀ i, i < H.length → i ≠ j → i ≠ k → H'[i]? = H[i]?
  bl : H'[j]? = some (bldr j (.csl a 0 0 bs.length c))
  bf : H'[a]? = some (buf c ys)
  new : H.length ≤ a ∨ (a = k ∧ k ≠ j)
  le : bs.length ≤ c
  tk : ys.take bs.length = bs
def hWr (news : List Int) (res : V) (j : Nat) (H : List Blk) (K : V → List Blk → Prop) : Prop :=
  (H[j]? = some (bld0 .csn) ∧ (0 < news.length ∧ news.length ≤ 1099511627776) ∧ ∀ c ys m, m = news.length → m ≤ c → c ≤ 9223372036854775807 → ys.length = c → (∀ y ∈ ys, InK .u8 y) → ys.take m = news →
    lenH H 0 fun n => setH H j (bldr j (.csl n 0 0 m c)) fun H1 => pushH H1 (buf c ys) fun H2 => K res H2) ∨
  (∃ (k len cap : Nat) (xs : List Int), j ≠ k ∧ H[j]? = some (bldr j (.csl k 0 0 len cap)) ∧ H[k]? = some (buf cap xs) ∧ (len ≤ cap ∧ len + news.length ≤ 1099511627776) ∧ ∀ c ys m, m = len + news.length → m ≤ c → c ≤ 9223372036854775807 → ys.length = c → (∀ y ∈ ys, InK .u8 y) → ys.take m = xs.take len ++ news →
    lenH H 0 fun n => setH H k .gone fun H0 => setH H0 j (bldr j (.csl n 0 0 m c)) fun H1 => pushH H1 (buf c ys) fun H2 => K res H2)
/-- From what a walk leaves to what the contract says. -/
theorem hWr_of {G : Glo} {H : List Blk} {K : V → List Blk → Prop} {news : List Int} {res : V} {j : Nat} (h : hWr news res j H K) (ho : HOk H) (hres : res.ok 0) {σ : Sg} {base : Nat} {w₀ w : World} (hw : Rep G σ base w₀ w H) {f : FuncId} {args : Array Value}
    (h1 : H[j]? = some (bld0 .csn) → 0 < news.length → news.length ≤ 1099511627776 → Calls Try.prog f args w (LeftG G σ base w₀ H.length fun y H' => ∃ a c ys, Wrote H j j res news y H' a c ys))
    (h2 : ∀ k len cap xs, j ≠ k → H[j]? = some (bldr j (.csl k 0 0 len cap)) → H[k]? = some (buf cap xs) → len ≤ cap → len + news.length ≤ 1099511627776 → Calls Try.prog f args w (LeftG G σ base w₀ H.length fun y H' => ∃ a c ys, Wrote H j k res (xs.take len ++ news) y H' a c ys)) :
    Calls Try.prog f args w (LeftG G σ base w₀ H.length K) := by
  have main : ∀ (k : Nat) (bs : List Int), j < H.length → (∀ c ys, bs.length ≤ c → c ≤ 9223372036854775807 → ys.length = c → (∀ y ∈ ys, InK .u8 y) → ys.take bs.length = bs → K res ((H.set k .gone).set j (bldr j (.csl H.length 0 0 bs.length c)) ++ [buf c ys])) →
      Calls Try.prog f args w (LeftG G σ base w₀ H.length fun y H' => ∃ a c ys, Wrote H j k res bs y H' a c ys) → Calls Try.prog f args w (LeftG G σ base w₀ H.length K) := fun k bs hjl hK hc => by
    refine hc.mono ?_
    rintro e w' ⟨τ, x, H', v, rfl, r1, ⟨a, c, ys, hwr⟩, r3, r4, r5, r6, r7⟩
    obtain rfl := hwr.res
    have hag := Sg.upd_agree τ H.length (τ a)
    have hb := r5.rng _ (List.mem_of_getElem? hwr.bl)
    have hbf := r5.rng _ (List.mem_of_getElem? hwr.bf)
    have hc63 : c ≤ 9223372036854775807 := hb.2.1.2
    refine ⟨τ.upd H.length (τ a), x, _, v, rfl, V.rep_agree (n := 0) (fun j hj => absurd hj (Nat.not_lt_zero j)) hres.2 r1, hK c ys hwr.le hc63 hbf.1.1 hbf.1.2 hwr.tk, r3.trans hag, r4.wrote ho hjl hwr.low hwr.bl hwr.bf hwr.new, ?_, V.ok_mono (Nat.zero_le _) hres, by simp⟩
    have mono : ∀ d : Blk, d.bnd H.length = true → d.bnd ((H.set k .gone).set j (bldr j (.csl H.length 0 0 bs.length c)) ++ [buf c ys]).length = true := fun d hd => by
      cases d with
      | own T ss => exact bnds_mono (by simp) ss hd
      | ro ss => exact bnds_mono (by simp) ss hd
      | obj R => rfl
      | gone => rfl
    refine ⟨fun d hd => ?_, fun d hd => ?_⟩ <;> rcases List.mem_append.1 hd with hd | hd
    · rcases List.mem_or_eq_of_mem_set hd with hd | hd
      · rcases List.mem_or_eq_of_mem_set hd with hd | hd
        · exact ho.rng d hd
        · rw [hd]; trivial
      · rw [hd]; exact ⟨trivial, ⟨hwr.le, hc63⟩, trivial⟩
    · rw [List.mem_singleton.1 hd]; exact hbf
    · rcases List.mem_or_eq_of_mem_set hd with hd | hd
      · rcases List.mem_or_eq_of_mem_set hd with hd | hd
        · exact mono d (ho.bnd d hd)
        · rw [hd]; rfl
      · rw [hd]
        simp [Blk.bnd, bnds, Seg.bnd, C.bnd]
        omega
    · rw [List.mem_singleton.1 hd]; rfl
  rcases h with ⟨hj, ⟨g1, g2⟩, hK⟩ | ⟨k, len, cap, xs, hjk, hj, hk, ⟨g1, g2⟩, hK⟩
  · refine main j news (List.getElem?_eq_some_iff.1 hj).1 (fun c ys q1 q2 q3 q4 q5 => ?_) (h1 hj g1 g2)
    have := hK c ys _ rfl q1 q2 q3 q4 q5
    rw [lenH_iff, setH_iff, pushH_iff, Nat.zero_add] at this
    rw [List.set_set]
    exact this
  · have hxl : xs.length = cap := (ho.rng _ (List.mem_of_getElem? hk)).1.1
    have hl : (xs.take len ++ news).length = len + news.length := by simp; omega
    refine main k (xs.take len ++ news) (List.getElem?_eq_some_iff.1 hj).1 (fun c ys q1 q2 q3 q4 q5 => ?_) (h2 k len cap xs hjk hj hk g1 g2)
    rw [hl] at q1 q5 ⊢
    have := hK c ys _ rfl q1 q2 q3 q4 q5
    rw [lenH_iff, setH_iff, setH_iff, pushH_iff, Nat.zero_add] at this
    exact this
end Go.Proofs.Ytbgjmlncdlcglaa
