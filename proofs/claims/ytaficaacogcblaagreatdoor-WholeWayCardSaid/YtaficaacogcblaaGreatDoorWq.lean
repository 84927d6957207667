/- The coder of ranges: a coder gives its carry away. -/
import Derived.Test.YtaficaacogcblaaGreatDoorWu
set_option linter.all false
namespace Go.Proofs.YtaficaacogcblaaGreatDoor
namespace R
open Go.RowKit (Below)
set_option maxRecDepth 100000
set_option maxHeartbeats 16000000

/-- As heap_lift; what is left is as heaps should be. -/
theorem heap_lifto {F : Fns} (hF : FnsOk Tryz.prog F) {n : Nat} {f : FuncId} {fn : Func} (hf : Tryz.prog.funcs[f]? = some fn) {ws : List W} (hr : rngW ws) {P : V → List Blk → Prop} {H : List Blk} (hb : bndW H.length ws = true) (ho : HOk H)
    (h : walkr F n fn ws H P) {K : V → List Blk → Prop} (hK : ∀ x H', P x H' → HOk H' → K x H') (G : Glo) (σ : Sg) (base : Nat) (w₀ w : World) (hw : Rep G σ base w₀ w H) :
    Calls Tryz.prog f (ws.map (W.den σ)).toArray w (LeftG G σ base w₀ H.length K) := by
  have hw0 : Rep E0.G σ base w₀ w H := ⟨hw.below, hw.size, hw.blk, hw.sep, fun g ss hg => by cases hg⟩
  refine (xfun_spec E0_ok (calF_ok E0_ok hF (fun cal hc => drwR_ok E0_ok hF mixed cal hc) n) (drwR_ok E0_ok hF mixed _ (calF_ok E0_ok hF (fun cal hc => drwR_ok E0_ok hF mixed cal hc) n)) hf h hr hb ho σ base w₀ w hw0).mono ?_
  rintro e w' ⟨τ, x, H', v, rfl, h1, h2, h3, h4, h5, h6, h7⟩
  refine ⟨τ, x, H', v, rfl, h1, hK x H' h2 h5, h3, ⟨h4.below, h4.size, h4.blk, h4.sep, fun g ss hg => ?_⟩, h5, h6, h7⟩
  obtain ⟨g1, g2, g3⟩ := hw.glo g ss hg
  refine ⟨g1, g2, fun i u hu => ?_⟩
  have hu' : (dens σ ss)[i]? = some u := by
    rw [dens_agree (n := 0) (τ := τ) (fun j hj => absurd hj (Nat.not_lt_zero j)) ss g2]; exact hu
  have := g3 i u hu'
  rw [cell_eq_of_block (w := w) (w' := w')]
  · exact this
  · show w'.heap[g]? = w.heap[g]?
    rw [h4.below.block g g1, hw.below.block g g1]

/-- What a round leaves; the frame's names are told once for all rounds. -/
structure NextU (ds : List Nat) (lo : Nat) (fr : List V) (sel : List (Nat × V)) (Hs : List Blk) (fr' : List V) (H' : List Blk) : Prop where
  same : hav ds 0 fr' = hav ds 0 fr
  hold : selOk sel fr'
  heap : wkH Hs H'
  bh : bndH Hs.length Hs = true
  lo : lo ≤ Hs.length
theorem loop_up {body : List V → List Blk → XQ → Prop} {lo : Nat} {fr : List V} {H : List Blk} {Q : XQ} {α : Type} (ds : List Nat) (J : Nat → α → Prop) (sel : α → List (Nat × V)) (Hs : α → List Blk) (m₀ : Nat) (s₀ : α) (h₀ : J m₀ s₀)
    (hbs : ∀ (s : α) (n : Nat), lo ≤ n → bndF n (setL (sel s) (hav ds 0 fr)) = true)
    (start : NextU ds lo fr (sel s₀) (Hs s₀) fr H)
    (round : ∀ m s, J m s → havK ds 0 fr fun f₁ => setLK (sel s) f₁ fun f₂ => body f₂ (Hs s) fun ex fr' H' => match ex with
      | .normal => ∃ m' s', m' < m ∧ J m' s' ∧ NextU ds lo fr (sel s') (Hs s') fr' H'
      | .exit id => Q (.exit id) fr' H'
      | .ret => Q .ret fr' H') : XLoop body lo fr H Q := by
  have up : ∀ s fr' H', NextU ds lo fr (sel s) (Hs s) fr' H' → Next' ds lo fr (sel s) (Hs s) fr' H' := fun s fr' H' h => ⟨h.same, h.hold, h.heap, hbs s _ h.lo, h.bh, h.lo⟩
  unfold XLoop
  refine ⟨fun m f h => ∃ s, J m s ∧ f = setL (sel s) (hav ds 0 fr) ∧ h = Hs s, fun m fr' H' => ∃ m' s', m' < m ∧ J m' s' ∧ NextU ds lo fr (sel s') (Hs s') fr' H', ?_, ?_, ?_⟩
  · have st := up _ _ _ start
    exact ⟨m₀, _, _, id, ⟨s₀, h₀, rfl, rfl⟩, Seen.of_wk (wkF_len (wkF_sel st.same _ st.hold)) (wkF_sel st.same _ st.hold) st.heap st.bf st.bh st.lo⟩
  · rintro m f h ⟨s, hs, rfl, rfl⟩ _ _ _
    have := round m s hs
    rw [havK_iff, setLK_iff] at this
    exact this
  · rintro m fr' H' ⟨m', s', h1, h2, h3⟩
    have st := up _ _ _ h3
    exact ⟨m', _, _, id, h1, ⟨s', h2, rfl, rfl⟩, Seen.of_wk (wkF_len (wkF_sel st.same _ st.hold)) (wkF_sel st.same _ st.hold) st.heap st.bf st.bh st.lo⟩

/-- A coder: its size, what is not yet out, its range, how many bytes are out; these lie in the block q (none, where cap is 0). -/
structure ES where
  sz : Int
  lo : Int
  rg : Int
  g : Nat
  q : Nat
  cap : Nat
  ys : List Int
abbrev eN (sz lo rg : Int) : Blk := .own 215 [.one (.ci .i64 sz), .one (.ci .u64 lo), .one (.ci .u32 rg), .one .csn, .one (.ci .i64 0)]
abbrev eS (sz lo rg : Int) (q g cap : Nat) : Blk := .own 215 [.one (.ci .i64 sz), .one (.ci .u64 lo), .one (.ci .u32 rg), .one (.csl q 0 0 g cap), .one (.ci .i64 g)]
abbrev oB (cap : Nat) (ys : List Int) : Blk := .own 5 [.ints .u8 cap ys]

theorem mulN_one (n : Nat) : mulN n 1 = n := by
  induction n with
  | zero => rfl
  | succ n ih => show mulN n 1 + 1 = n + 1; rw [ih]
theorem carry_nil {H : List Blk} (hH : HOk H) {j : Nat} {sz lo rg : Int} (hj : H[j]? = some (eN sz lo rg)) : walk F0 0 Tryz.f174 [.c (.cp j 0)] H fun x H' => x = .tup [] ∧ H' = H := by
  have hjl := (List.getElem?_eq_some_iff.1 hj).1
  have d1 : decide (j < H.length) = true := by simp [hjl]
  repeat' ((conv => whnf); first | (refine lenH_is ?_) | (refine hGet_at hj ?_) | (refine ask_wrap64 (by decide) (by decide) ?_) | fail)
  conv => whnf
  refine loop_at (List.range' 2 1 ++ List.range' 9 21) (fun m (_ : Unit) => True) (fun _ => [(2, vi (-1))]) (fun _ => H) 0 () trivial ?_ ?_
  · refine ⟨rfl, ⟨⟨Nat.le_of_ble_eq_true rfl, rfl⟩, trivial⟩, wkH_refl _, ?_, bndH_of hH.bnd, Nat.le_refl _⟩
    repeat' (first | rfl | exact d1 | refine and_t ?_ ?_)
  · rintro m s _
    repeat' ((conv => whnf); first | (refine ask_false (by decide) ?_) | fail)
    exact ⟨rfl, rfl⟩
structure CS where
  i : Int
  ys : List Int
theorem carry_walk {H : List Blk} (hH : HOk H) {j q g cap : Nat} {sz lo rg : Int} {ys : List Int} (hj : H[j]? = some (eS sz lo rg q g cap)) (hq : H[q]? = some (oB cap ys)) (hjq : q ≠ j) (hg : g ≤ cap) (hg8 : g ≤ 100000000) :
    walk F0 0 Tryz.f174 [.c (.cp j 0)] H fun x H' => x = .tup [] ∧ ∃ ys' : List Int, ys'.length = cap ∧ H' = H.set q (oB cap ys') := by
  have hjl := (List.getElem?_eq_some_iff.1 hj).1
  have hql := (List.getElem?_eq_some_iff.1 hq).1
  have hys : ys.length = cap := (hH.rng _ (List.mem_of_getElem? hq)).1.1
  have hj' : ∀ b : Blk, (H.set q b)[j]? = some (eS sz lo rg q g cap) := fun b => by rw [List.getElem?_set_ne hjq]; exact hj
  have hq' : ∀ b : Blk, (H.set q b)[q]? = some b := fun b => List.getElem?_set_self hql
  have hbH : ∀ ys' : List Int, bndH (H.set q (oB cap ys')).length (H.set q (oB cap ys')) = true := fun ys' => bndH_of fun b hb => by
    rw [List.length_set]
    rcases List.mem_or_eq_of_mem_set hb with h | h
    · exact hH.bnd b h
    · rw [h]; rfl
  have hlo : ∀ b : Blk, H.length ≤ (H.set q b).length := fun b => by rw [List.length_set]; exact Nat.le_refl _
  have d1 : ∀ b : Blk, decide (j < (H.set q b).length) = true := fun b => by simp [hjl]
  have d2 : ∀ b : Blk, decide (q < (H.set q b).length) = true := fun b => by simp [hql]
  repeat' ((conv => whnf); first | (refine lenH_is ?_) | (refine hGet_at hj ?_) | (refine ask_wrap64 (by omega) (by omega) ?_) | fail)
  conv => whnf
  refine loop_at (List.range' 2 1 ++ List.range' 9 21) (fun m (s : CS) => (-1 ≤ s.i ∧ s.i < g) ∧ m = (s.i + 1).toNat ∧ s.ys.length = cap) (fun s => [(2, vi s.i)]) (fun s => H.set q (oB cap s.ys)) g ⟨(g : Int) - 1, ys⟩ ⟨⟨by dsimp only; omega, by dsimp only; omega⟩, by dsimp only; omega, hys⟩ ?_ ?_
  · refine ⟨rfl, ⟨⟨Nat.le_of_ble_eq_true rfl, rfl⟩, trivial⟩, by dsimp only; rw [set_same hq]; exact wkH_refl _, ?_, hbH _, hlo _⟩
    repeat' (first | rfl | exact d1 _ | exact d2 _ | refine and_t ?_ ?_)
  · rintro m s ⟨h1, rfl, h3⟩
    have em : mulN s.i.toNat (Tryz.prog.types[5]).size = s.i.toNat := mulN_one _
    rcases Int.lt_or_le s.i 0 with g0 | g0
    · repeat' ((conv => whnf); first | (refine ask_false (by omega) ?_) | fail)
      exact ⟨rfl, s.ys, h3, rfl⟩
    · have hset2 : ∀ a b : Blk, (H.set q a).set q b = H.set q b := fun a b => List.set_set ..
      repeat' ((conv => whnf); first | (refine lenH_is ?_) | (refine ask_true (by omega) ?_) | (refine hGet_at (hj' _) ?_) | (refine hGet_at (hq' _) ?_) | (refine And.intro (And.intro (by omega) (by omega)) ?_) | (refine And.intro (show 0 + mulN s.i.toNat (Tryz.prog.types[5]).size < cap by omega) ?_) | (refine fun (_ : InK _ _) => ?_) | (refine fun (r : Int) (hr : r = IntKind.u8.wrap _) => ?_) | (refine setH_as (hset2 _ _) ?_) | (refine ask_wrap64 (by omega) (by omega) ?_) | (refine ask_split (fun _ => ?_) (fun _ => ?_)) | fail)
      · exact ⟨rfl, _, by rw [List.length_set]; exact h3, rfl⟩
      · refine ⟨(s.i - 1 + 1).toNat, ⟨s.i - 1, s.ys.set (0 + mulN s.i.toNat (Tryz.prog.types[5]).size) r⟩, by omega, ⟨⟨by dsimp only; omega, by dsimp only; omega⟩, rfl, by rw [List.length_set]; exact h3⟩, ⟨rfl, ⟨⟨Nat.le_of_ble_eq_true rfl, rfl⟩, trivial⟩, wkH_refl _, ?_, hbH _, hlo _⟩⟩
        repeat' (first | rfl | exact d1 _ | exact d2 _ | refine and_t ?_ ?_)
def hCarry : HCt := fun ws H K => match ws with
  | [.c (.cp j 0)] => (∃ sz lo rg, H[j]? = some (eN sz lo rg) ∧ K (.tup []) H) ∨ (∃ sz lo rg q g cap ys, H[j]? = some (eS sz lo rg q g cap) ∧ H[q]? = some (oB cap ys) ∧ q ≠ j ∧ g ≤ cap ∧ g ≤ 100000000 ∧ ∀ ys' : List Int, ys'.length = cap → K (.tup []) (H.set q (oB cap ys')))
  | _ => False
theorem carry_ct : HCtOk Tryz.prog 174 hCarry := by
  intro ws H K h hr hb ho G σ base w₀ w hw
  unfold hCarry at h
  split at h
  · rename_i j
    rcases h with ⟨sz, lo, rg, hj, hK⟩ | ⟨sz, lo, rg, q, g, cap, ys, hj, hq, h1, h2, h3, hK⟩
    · exact heap_lift F0_ok Tryz.func174 (n := 0) (ws := [.c (.cp j 0)]) ⟨trivial, trivial⟩ (ptr_bnd hj) ho (carry_nil ho hj) (fun x H' hP => by
        obtain ⟨rfl, rfl⟩ := hP
        exact hK) G σ base w₀ w hw
    · exact heap_lift F0_ok Tryz.func174 (n := 0) (ws := [.c (.cp j 0)]) ⟨trivial, trivial⟩ (ptr_bnd hj) ho (carry_walk ho hj hq h1 h2 h3) (fun x H' hP => by
        obtain ⟨rfl, ys', hl, rfl⟩ := hP
        exact hK ys' hl) G σ base w₀ w hw
  · exact h.elim
theorem and32 (a : Int) : 0 ≤ bitsI .and .u64 a 4294967295 ∧ bitsI .and .u64 a 4294967295 ≤ 4294967295 := by
  have h : (BitVec.ofInt 64 a &&& BitVec.ofInt 64 4294967295).toNat ≤ 4294967295 := by
    rw [BitVec.toNat_and]
    exact Nat.le_trans Nat.and_le_right (by decide)
  show 0 ≤ IntKind.u64.wrap (((BitVec.ofInt 64 a &&& BitVec.ofInt 64 4294967295).toNat : Nat) : Int) ∧ IntKind.u64.wrap (((BitVec.ofInt 64 a &&& BitVec.ofInt 64 4294967295).toNat : Nat) : Int) ≤ 4294967295
  rw [wrap_of_in]
  · omega
  · simp only [InK, lowK, highK]; omega
noncomputable def FSe : Fns := F0.over 174 hCarry
theorem FSe_ok : FnsOk Tryz.prog FSe := F0_ok.over carry_ct Tryz.func174 (by kernel_rfl) (by kernel_rfl)
theorem settle_nil {H : List Blk} {j : Nat} {sz lo rg : Int} (hlo : 0 ≤ lo) (hj : H[j]? = some (eN sz lo rg)) : walk FSe 0 Tryz.f155 [.c (.cp j 0)] H fun x H' => x = .tup [] ∧ ∃ lo', (0 ≤ lo' ∧ lo' ≤ 4294967295) ∧ H' = H.set j (eN sz lo' rg) := by
  rcases Int.lt_or_le 4294967295 lo with g | g
  · repeat' ((conv => whnf); first | (refine lenH_is ?_) | (refine hGet_at hj ?_) | (refine ask_true (by omega) ?_) | (refine .inl (Exists.intro sz (Exists.intro lo (Exists.intro rg (And.intro hj ?_))))) | (refine setH_at ?_) | fail)
    conv => whnf
    refine fun r hr => ?_
    have hr2 := and32 lo
    rw [← hr] at hr2
    repeat' ((conv => whnf); first | (refine lenH_is ?_) | (refine hGet_at hj ?_) | (refine setH_at ?_) | fail)
    exact ⟨rfl, r, hr2, rfl⟩
  · repeat' ((conv => whnf); first | (refine lenH_is ?_) | (refine hGet_at hj ?_) | (refine ask_false (by omega) ?_) | fail)
    exact ⟨rfl, lo, ⟨hlo, g⟩, (set_same hj).symm⟩
theorem settle_own {H : List Blk} {j q g cap : Nat} {sz lo rg : Int} {ys : List Int} (hH : HOk H) (hlo : 0 ≤ lo) (hj : H[j]? = some (eS sz lo rg q g cap)) (hq : H[q]? = some (oB cap ys)) (hjq : q ≠ j) (hg : g ≤ cap) (hg8 : g ≤ 100000000) :
    walk FSe 0 Tryz.f155 [.c (.cp j 0)] H fun x H' => x = .tup [] ∧ ∃ lo' ys', (0 ≤ lo' ∧ lo' ≤ 4294967295) ∧ ys'.length = cap ∧ H' = (H.set q (oB cap ys')).set j (eS sz lo' rg q g cap) := by
  have hys : ys.length = cap := (hH.rng _ (List.mem_of_getElem? hq)).1.1
  have hj' : ∀ b : Blk, (H.set q b)[j]? = some (eS sz lo rg q g cap) := fun b => by rw [List.getElem?_set_ne hjq]; exact hj
  rcases Int.lt_or_le 4294967295 lo with g1 | g1
  · repeat' ((conv => whnf); first | (refine lenH_is ?_) | (refine hGet_at hj ?_) | (refine ask_true (by omega) ?_) | (refine .inr (Exists.intro sz (Exists.intro lo (Exists.intro rg (Exists.intro q (Exists.intro g (Exists.intro cap (Exists.intro ys (And.intro hj (And.intro hq (And.intro hjq (And.intro hg (And.intro hg8 fun ys' hl => ?_)))))))))))) ) | (refine hGet_at (hj' _) ?_) | (refine setH_at ?_) | fail)
    conv => whnf
    refine fun r hr => ?_
    have hr2 := and32 lo
    rw [← hr] at hr2
    repeat' ((conv => whnf); first | (refine lenH_is ?_) | (refine hGet_at (hj' _) ?_) | (refine setH_at ?_) | fail)
    exact ⟨rfl, r, ys', hr2, hl, rfl⟩
  · repeat' ((conv => whnf); first | (refine lenH_is ?_) | (refine hGet_at hj ?_) | (refine ask_false (by omega) ?_) | fail)
    exact ⟨rfl, lo, ys, ⟨hlo, g1⟩, hys, by rw [set_same hq, set_same hj]⟩
end R

/- The coder of ranges: a coder puts a cell. -/
namespace R
set_option maxRecDepth 100000
set_option maxHeartbeats 16000000

def hSettle : HCt := fun ws H K => match ws with
  | [.c (.cp j 0)] => (∃ sz lo rg, H[j]? = some (eN sz lo rg) ∧ 0 ≤ lo ∧ ∀ lo' : Int, (0 ≤ lo' ∧ lo' ≤ 4294967295) → K (.tup []) (H.set j (eN sz lo' rg))) ∨ (∃ sz lo rg q g cap ys, H[j]? = some (eS sz lo rg q g cap) ∧ H[q]? = some (oB cap ys) ∧ q ≠ j ∧ g ≤ cap ∧ g ≤ 100000000 ∧ 0 ≤ lo ∧ ∀ (lo' : Int) (ys' : List Int), (0 ≤ lo' ∧ lo' ≤ 4294967295) → ys'.length = cap → K (.tup []) ((H.set q (oB cap ys')).set j (eS sz lo' rg q g cap)))
  | _ => False
theorem settle_ct : HCtOk Tryz.prog 155 hSettle := by
  intro ws H K h hr hb ho G σ base w₀ w hw
  unfold hSettle at h
  split at h
  · rename_i j
    rcases h with ⟨sz, lo, rg, hj, h0, hK⟩ | ⟨sz, lo, rg, q, g, cap, ys, hj, hq, h1, h2, h3, h0, hK⟩
    · exact heap_lift FSe_ok Tryz.func155 (n := 0) (ws := [.c (.cp j 0)]) ⟨trivial, trivial⟩ (ptr_bnd hj) ho (settle_nil h0 hj) (fun x H' hP => by
        obtain ⟨rfl, lo', hl, rfl⟩ := hP
        exact hK lo' hl) G σ base w₀ w hw
    · exact heap_lift FSe_ok Tryz.func155 (n := 0) (ws := [.c (.cp j 0)]) ⟨trivial, trivial⟩ (ptr_bnd hj) ho (settle_own ho h0 hj hq h1 h2 h3) (fun x H' hP => by
        obtain ⟨rfl, lo', ys', hl, hy, rfl⟩ := hP
        exact hK lo' ys' hl hy) G σ base w₀ w hw
  · exact h.elim

/-- A coder lies here. -/
def EAt (H : List Blk) (j : Nat) (e : ES) : Prop := (e.cap = 0 ∧ e.g = 0 ∧ H[j]? = some (eN e.sz e.lo e.rg)) ∨ ((e.cap ≠ 0 ∧ e.g ≤ e.cap ∧ e.ys.length = e.cap) ∧ e.q ≠ j ∧ H[j]? = some (eS e.sz e.lo e.rg e.q e.g e.cap) ∧ H[e.q]? = some (oB e.cap e.ys))
/-- A later heap: nothing but the coder has turned. -/
structure EUp (H : List Blk) (j : Nat) (e : ES) (H' : List Blk) (e' : ES) : Prop where
  at' : EAt H' j e'
  len : H.length ≤ H'.length
  keep : ∀ (i : Nat) (b : Blk), H[i]? = some b → i ≠ j → (e.cap = 0 ∨ i ≠ e.q) → H'[i]? = some b
  new : e'.cap = 0 ∨ (e.cap ≠ 0 ∧ e'.q = e.q) ∨ H.length ≤ e'.q
  sz : e'.sz = e.sz
  bnd : ∀ b ∈ H', b.bnd H'.length = true
theorem EAt.ptr {H : List Blk} {j : Nat} {e : ES} (h : EAt H j e) : j < H.length := by
  rcases h with ⟨_, _, h⟩ | ⟨_, _, h, _⟩ <;> exact (List.getElem?_eq_some_iff.1 h).1
theorem EUp.refl {H : List Blk} {j : Nat} {e : ES} (h : EAt H j e) (hb : ∀ b ∈ H, b.bnd H.length = true) : EUp H j e H e :=
  ⟨h, Nat.le_refl _, fun _ _ h _ _ => h, by rcases h with h | h; exact .inl h.1; exact .inr (.inl ⟨h.1.1, rfl⟩), rfl, hb⟩
theorem EUp.trans {A B C : List Blk} {j : Nat} {a b c : ES} (h : EUp A j a B b) (k : EUp B j b C c) : EUp A j a C c := by
  refine ⟨k.at', Nat.le_trans h.len k.len, fun i x hx hj hq => ?_, ?_, k.sz.trans h.sz, k.bnd⟩
  · refine k.keep i x (h.keep i x hx hj hq) hj ?_
    have hlt := (List.getElem?_eq_some_iff.1 hx).1
    rcases h.new with h0 | ⟨h1, h2⟩ | h1
    · exact .inl h0
    · rcases hq with hq | hq
      · exact absurd hq h1
      · exact .inr (by rw [h2]; exact hq)
    · exact .inr (by omega)
  · rcases k.new with h0 | ⟨h1, h2⟩ | h1
    · exact .inl h0
    · rcases h.new with g0 | ⟨g1, g2⟩ | g1
      · exact absurd g0 h1
      · exact .inr (.inl ⟨g1, h2.trans g2⟩)
      · exact .inr (.inr (by rw [h2]; exact g1))
    · exact .inr (.inr (Nat.le_trans h.len h1))
theorem bnd_set {H : List Blk} {j : Nat} {b : Blk} (h : ∀ c ∈ H, c.bnd H.length = true) (hb : b.bnd H.length = true) : ∀ c ∈ H.set j b, c.bnd (H.set j b).length = true := fun c hc => by
  rw [List.length_set]
  rcases List.mem_or_eq_of_mem_set hc with g | rfl
  · exact h c g
  · exact hb
theorem bnd_app {H : List Blk} {b : Blk} (h : ∀ c ∈ H, c.bnd H.length = true) (hb : b.bnd (H.length + 1) = true) : ∀ c ∈ H ++ [b], c.bnd (H ++ [b]).length = true := fun c hc => by
  rw [List.length_append]
  rcases List.mem_append.1 hc with g | g
  · exact Blk.bnd_up (Nat.le_succ _) _ (h c g)
  · rw [List.mem_singleton.1 g]; exact hb
theorem eS_bnd {n q g cap : Nat} {sz lo rg : Int} (h : q < n) : (eS sz lo rg q g cap).bnd n = true := by
  show (true && (true && (true && (decide (q < n) && (true && true))))) = true
  simp [h]
/-- The coder's own cells, turned. -/
theorem EUp.turn {H : List Blk} {j : Nat} {e : ES} (h : EAt H j e) (hb : ∀ b ∈ H, b.bnd H.length = true) (lo rg : Int) :
    EUp H j e (H.set j (if e.cap = 0 then eN e.sz lo rg else eS e.sz lo rg e.q e.g e.cap)) ⟨e.sz, lo, rg, e.g, e.q, e.cap, e.ys⟩ := by
  have hj := h.ptr
  rcases h with ⟨h1, h2, h3⟩ | ⟨⟨h1, h2, h3⟩, h4, h5, h6⟩
  · rw [if_pos h1]
    exact ⟨.inl ⟨h1, h2, List.getElem?_set_self hj⟩, by rw [List.length_set]; exact Nat.le_refl _, fun i b hi hij _ => by rw [List.getElem?_set_ne (Ne.symm hij)]; exact hi, .inl h1, rfl, bnd_set hb rfl⟩
  · rw [if_neg h1]
    have hq := (List.getElem?_eq_some_iff.1 h6).1
    exact ⟨.inr ⟨⟨h1, h2, h3⟩, h4, List.getElem?_set_self hj, by rw [List.getElem?_set_ne (Ne.symm h4)]; exact h6⟩, by rw [List.length_set]; exact Nat.le_refl _, fun i b hi hij _ => by rw [List.getElem?_set_ne (Ne.symm hij)]; exact hi, .inr (.inl ⟨h1, rfl⟩), rfl, bnd_set hb (eS_bnd hq)⟩
/-- Bytes in a new block. -/
theorem EUp.fresh {H : List Blk} {j : Nat} {e : ES} (h : EAt H j e) (hb : ∀ b ∈ H, b.bnd H.length = true) {a o x1 x2 x3 x : Blk} (ha : a.bnd 0 = true) {lo rg : Int} {g c : Nat} {ys : List Int} (ho : o = oB c ys) (hx : x = eS e.sz lo rg (H ++ [a]).length g c) (hc : 1 ≤ c) (hg : g ≤ c) (hy : ys.length = c) :
    EUp H j e ((((((H ++ [a]) ++ [o]).set j x1).set j x2).set j x3).set j x) ⟨e.sz, lo, rg, g, (H ++ [a]).length, c, ys⟩ := by
  subst ho hx
  simp only [List.set_set]
  have hj := h.ptr
  have hl : ((H ++ [a]) ++ [oB c ys]).length = H.length + 2 := by simp
  have hl1 : (H ++ [a]).length = H.length + 1 := by simp
  refine ⟨.inr ⟨⟨by show c ≠ 0; omega, hg, hy⟩, by show (H ++ [a]).length ≠ j; omega, List.getElem?_set_self (by rw [hl]; omega), ?_⟩, by rw [List.length_set, hl]; omega, fun i b hi hij _ => ?_, .inr (.inr (by show H.length ≤ (H ++ [a]).length; omega)), rfl, bnd_set (bnd_app (bnd_app hb (Blk.bnd_up (Nat.zero_le _) _ ha)) rfl) (eS_bnd (by rw [hl]; omega))⟩
  · show (((H ++ [a]) ++ [oB c ys]).set j _)[(H ++ [a]).length]? = _
    rw [List.getElem?_set_ne (by omega)]
    exact up_top (H ++ [a]) (oB c ys)
  · rw [List.getElem?_set_ne (Ne.symm hij)]
    exact up_get (up_get hi)
/-- Bytes in the block that there is. -/
theorem EUp.room {H : List Blk} {j : Nat} {e : ES} (h : EAt H j e) (hb : ∀ b ∈ H, b.bnd H.length = true) {a o x1 x2 x3 x : Blk} (ha : a.bnd 0 = true) {lo rg : Int} {g : Nat} {ys : List Int} (ho : o = oB e.cap ys) (hx : x = eS e.sz lo rg e.q g e.cap) (hc : e.cap ≠ 0) (hg : g ≤ e.cap) (hy : ys.length = e.cap) :
    EUp H j e ((((((H ++ [a]).set e.q o).set j x1).set j x2).set j x3).set j x) ⟨e.sz, lo, rg, g, e.q, e.cap, ys⟩ := by
  subst ho hx
  simp only [List.set_set]
  have hj := h.ptr
  have hl : (H ++ [a]).length = H.length + 1 := by simp
  rcases h with ⟨h1, _⟩ | ⟨_, h4, h5, h6⟩
  · exact absurd h1 hc
  · have hq := (List.getElem?_eq_some_iff.1 h6).1
    refine ⟨.inr ⟨⟨hc, hg, hy⟩, h4, List.getElem?_set_self (by rw [List.length_set, hl]; omega), ?_⟩, by rw [List.length_set, List.length_set, hl]; omega, fun i b hi hij hiq => ?_, .inr (.inl ⟨hc, rfl⟩), rfl, bnd_set (bnd_set (bnd_app hb (Blk.bnd_up (Nat.zero_le _) _ ha)) rfl) (eS_bnd (by rw [List.length_set, hl]; omega))⟩
    · rw [List.getElem?_set_ne (Ne.symm h4)]
      exact List.getElem?_set_self (by rw [hl]; show e.q < _; omega)
    · rw [List.getElem?_set_ne (Ne.symm hij), List.getElem?_set_ne (Ne.symm (hiq.resolve_left hc))]
      exact up_get hi
/-- Bytes turned where they lie. -/
theorem EUp.bytes {H : List Blk} {j : Nat} {e : ES} (h : EAt H j e) (hb : ∀ b ∈ H, b.bnd H.length = true) (lo rg : Int) {ys : List Int} (hc : e.cap ≠ 0) (hy : ys.length = e.cap) :
    EUp H j e ((H.set e.q (oB e.cap ys)).set j (eS e.sz lo rg e.q e.g e.cap)) ⟨e.sz, lo, rg, e.g, e.q, e.cap, ys⟩ := by
  have hj := h.ptr
  rcases h with ⟨h1, _⟩ | ⟨⟨_, hg, _⟩, h4, h5, h6⟩
  · exact absurd h1 hc
  · have hq := (List.getElem?_eq_some_iff.1 h6).1
    refine ⟨.inr ⟨⟨hc, hg, hy⟩, h4, List.getElem?_set_self (by rw [List.length_set]; exact hj), ?_⟩, by rw [List.length_set, List.length_set]; exact Nat.le_refl _, fun i b hi hij hiq => ?_, .inr (.inl ⟨hc, rfl⟩), rfl, bnd_set (bnd_set hb rfl) (eS_bnd (by rw [List.length_set]; exact hq))⟩
    · rw [List.getElem?_set_ne (Ne.symm h4)]
      exact List.getElem?_set_self hq
    · rw [List.getElem?_set_ne (Ne.symm hij), List.getElem?_set_ne (Ne.symm (hiq.resolve_left hc))]
      exact hi

/-- The range, made wide again, and how many bytes then are out. -/
def nrm : Nat → Int → Nat → Int × Nat
  | 0, r, g => (r, g)
  | n + 1, r, g => if r < 16777216 then nrm n (r * 256) (g + 1) else (r, g)
structure EOk (e : ES) (n : Nat) : Prop where
  l0 : 0 ≤ e.lo
  l1 : e.lo ≤ 4294967295
  r0 : 16777216 ≤ e.rg
  r1 : e.rg ≤ 4294967295
  g : e.g ≤ n
structure PS where
  H : List Blk
  e : ES
noncomputable def FPu : Fns := (F0.plus 150 ctCell).over 155 hSettle
theorem FPu_ok : FnsOk Tryz.prog FPu := (F0_ok.plus cell_ct Tryz.func150 (by kernel_rfl) (by kernel_rfl)).over settle_ct Tryz.func155 (by kernel_rfl) (by kernel_rfl)
theorem set3 {H : List Blk} {j q : Nat} {a b c : Blk} (h : q ≠ j) : ((H.set j a).set q b).set j c = (H.set q b).set j c := by
  rw [List.set_comm _ _ (Ne.symm h), List.set_set]
def putJ (H : List Blk) (j : Nat) (e : ES) (r : Int × Nat) (m : Nat) (s : PS) : Prop :=
  EUp H j e s.H s.e ∧ (1 ≤ s.e.rg ∧ s.e.rg ≤ 4294967295) ∧ 16777216 ≤ s.e.rg * 256 ^ m ∧ s.e.g + m ≤ 90000003 ∧ (0 ≤ s.e.lo ∧ s.e.lo ≤ 4294967295) ∧ m ≤ 3 ∧ nrm m s.e.rg s.e.g = r
theorem leaf_of {H : List Blk} {j : Nat} {e : ES} {r : Int × Nat} {m : Nat} {ds : List Nat} {fr fr' : List V} {Hr : List Blk} {e2 : ES} (hJ : putJ H j e r m ⟨Hr, e2⟩) (hsame : hav ds 0 fr' = hav ds 0 fr) :
    ∃ m' s', m' < m + 1 ∧ putJ H j e r m' s' ∧ NextU ds H.length fr [] s'.H fr' Hr := ⟨m, ⟨Hr, e2⟩, Nat.lt_succ_self _, hJ, ⟨hsame, trivial, wkH_refl _, bndH_of hJ.1.bnd, hJ.1.len⟩⟩
theorem put_step {e : ES} {t : Int} (h0 : 16777216 ≤ e.rg) (h1 : e.rg ≤ 4294967295) (ht : 1 ≤ t ∧ t ≤ 32768) : 512 ≤ e.rg / t ∧ e.rg / t ≤ 4294967295 ∧ e.rg / t * t ≤ e.rg := by
  refine ⟨?_, Int.le_trans (Int.ediv_le_self _ (by omega)) h1, Int.ediv_mul_le e.rg (show t ≠ 0 by omega)⟩
  rw [Int.le_ediv_iff_mul_le (by omega)]; omega
theorem put_walk {H : List Blk} (hH : HOk H) {j : Nat} {e : ES} (he : EAt H j e) (ho : EOk e 90000000) {s w t : Int} (hc : cellP s w t) :
    walkr FPu 0 Tryz.f135 [.c (.cp j 0), i64 s, i64 w, i64 t] H fun x H' => x = vi 0 ∧ ∃ e', EUp H j e H' e' ∧ (0 ≤ e'.lo ∧ e'.lo ≤ 4294967295) ∧ (e'.rg, e'.g) = nrm 3 (e.rg / t * w) e.g := by
  have hjl := he.ptr
  obtain ⟨l0, l1, r0, r1, g1⟩ := ho
  have hcc := hc
  unfold cellP at hcc
  have hs := put_step r0 r1 (t := t) (by omega)
  have q1 := divu32 (by omega) r1 (show 1 ≤ t by omega)
  have m1 : 0 ≤ e.rg / t * s ∧ e.rg / t * s ≤ 4294967295 := by
    have := Int.mul_le_mul_of_nonneg_left (show s ≤ t by omega) (show 0 ≤ e.rg / t by omega)
    exact ⟨Int.mul_nonneg (by omega) (by omega), by omega⟩
  have m2 : 512 ≤ e.rg / t * w ∧ e.rg / t * w ≤ 4294967295 := by
    have h1 := Int.mul_le_mul_of_nonneg_left (show w ≤ t by omega) (show 0 ≤ e.rg / t by omega)
    have h2 := Int.mul_le_mul_of_nonneg_left (show 1 ≤ w by omega) (show 0 ≤ e.rg / t by omega)
    omega
  rcases he with ⟨c1, c2, hj⟩ | ⟨⟨c1, c2, c3⟩, c4, hj, hq⟩
  · have hset : ∀ b : Blk, (H.set j b)[j]? = some b := fun b => List.getElem?_set_self hjl
    have hset2 : ∀ a b : Blk, ((H.set j a).set j b)[j]? = some b := fun a b => List.getElem?_set_self (by rw [List.length_set]; exact hjl)
    have he : EAt H j e := .inl ⟨c1, c2, hj⟩
    repeat' ((conv => whnf); first | (refine lenH_is ?_) | (refine ask_true hc ?_) | (refine And.intro rfl ?_) | (refine hGet_at hj ?_) | (refine ask_wrapu32 (by omega) (by omega) ?_) | fail)
    conv => whnf
    refine And.intro (by omega) fun r hr => ?_
    obtain rfl : r = e.rg / t := hr.trans q1.1
    repeat' ((conv => whnf); first | (refine lenH_is ?_) | (refine hGet_at hj ?_) | (refine ask_wrapu64 (by omega) (by omega) ?_) | (refine setH_at ?_) | (refine .inl (Exists.intro e.sz (Exists.intro (e.lo + e.rg / t * s) (Exists.intro e.rg (And.intro (hset _) (And.intro (by omega) fun lo' hl' => ?_)))))) | (refine ask_wrapu32 (by omega) (by omega) ?_) | (refine hGet_at (hset2 _ _) ?_) | fail)
    conv => whnf
    have up := EUp.turn he hH.bnd lo' (e.rg / t * w)
    rw [if_pos c1] at up
    refine loop_up (List.range' 47 43) (fun m (p : PS) => putJ H j e (nrm 3 (e.rg / t * w) e.g) m p) (fun _ => []) (fun p => p.H) 3 ⟨H.set j (eN e.sz lo' (e.rg / t * w)), ⟨e.sz, lo', e.rg / t * w, e.g, e.q, e.cap, e.ys⟩⟩ ⟨up, ⟨by show 1 ≤ e.rg / t * w; omega, m2.2⟩, by show 16777216 ≤ e.rg / t * w * 256 ^ 3; omega, by show e.g + 3 ≤ _; omega, hl', Nat.le_refl _, rfl⟩ ?_ ?_ ?_
    · intro _ n hn
      have dj := decide_eq_true (Nat.lt_of_lt_of_le hjl hn)
      repeat' (first | rfl | exact dj | refine and_t ?_ ?_)
    · exact ⟨rfl, trivial, by dsimp only; simp only [List.set_set]; exact wkH_refl _, bndH_of (up).bnd, (up).len⟩
    · rintro m p ⟨u, e1, e2, e3, e4, e5, e6⟩
      have pl := u.at'.ptr
      have plen := u.len
      have hand := fun a : Int => and32 a
      rcases Int.lt_or_le p.e.rg 16777216 with g | g
      · cases m with
        | zero => rw [Int.pow_zero] at e2; omega
        | succ m =>
        have fin : ∀ (H' : List Blk) (e2' : ES), EUp p.H j p.e H' e2' → (0 ≤ e2'.lo ∧ e2'.lo ≤ 4294967295) → e2'.rg = p.e.rg * 256 → e2'.g = p.e.g + 1 → putJ H j e (nrm 3 (e.rg / t * w) e.g) m ⟨H', e2'⟩ := fun H' e2' k1 k3 k4 k5 => by
          refine ⟨u.trans k1, by show 1 ≤ e2'.rg ∧ e2'.rg ≤ _; omega, ?_, by show e2'.g + m ≤ _; omega, k3, by omega, ?_⟩
          · show 16777216 ≤ e2'.rg * 256 ^ m
            rw [k4]
            rw [Int.pow_succ, Int.mul_comm (256 ^ m) 256, ← Int.mul_assoc] at e2
            exact e2
          · show nrm m e2'.rg e2'.g = _
            rw [k4, k5, ← e6]
            simp only [nrm]
            rw [if_pos g]
        rcases u.at' with ⟨a1, a2, aj⟩ | ⟨⟨a1, a2, a3⟩, a4, aj, aq⟩
        · have hat : EAt p.H j p.e := .inl ⟨a1, a2, aj⟩
          repeat' ((conv => whnf); first | (refine lenH_is ?_) | (refine hGet_at aj ?_) | (refine ask_true (by omega) ?_) | fail)
          conv => whnf
          refine red_each (by kernel_rfl) ?_
          repeat' ((conv => whnf); first | (refine hGet_at aj ?_) | (refine hGet_at (up_get aj) ?_) | (refine hGet_at (up_get (up_get aj)) ?_) | (refine hGet_at (up_top _ _) ?_) | (refine hGet_at (List.getElem?_set_self (by simp only [List.length_set, List.length_append, List.length_singleton]; omega)) ?_) | (refine And.intro (Nat.le_refl _) ?_) | (refine And.intro (And.intro (Nat.le_of_ble_eq_true rfl) (And.intro (Nat.le_of_ble_eq_true rfl) (Nat.le_of_ble_eq_true rfl))) ?_) | (refine fun (c : Nat) (hc1 : _ ≤ c) (hc2 : c ≤ 9223372036854775807) => ?_) | (refine lenH_is ?_) | (refine And.intro (show (0 : Int) ≤ 8 by decide) (ask_shl8 (by omega) (by omega) ?_)) | (refine And.intro (show (0 : Int) ≤ 8 by decide) fun r3 hr3 => ?_) | (refine And.intro (show (0 : Int) ≤ 24 by decide) fun r1' hr1' => ?_) | (refine fun (r4 : Int) (hr4 : r4 = bitsI .and .u64 _ 4294967295) => ?_) | (refine fun (r2 : Int) (hr2 : r2 = IntKind.u8.wrap _) => ?_) | (refine ask_wrap64 (by omega) (by omega) ?_) | (refine setH_at ?_) | (refine pushH_at ?_) | (refine And.intro rfl ?_) | (refine And.intro ?_ (And.intro ?_ trivial)) | (refine And.intro ?_ trivial) | fail)
          all_goals
            have h4 := hand r3
            rw [← hr4] at h4
            refine leaf_of (fin _ _ (EUp.fresh hat u.bnd rfl rfl (by rw [a2]; rfl) hc1 (by omega) ?_) h4 rfl rfl) rfl
            · simp
              show min 1 1 + (c - 1) = c
              omega
        · have hat : EAt p.H j p.e := .inr ⟨⟨a1, a2, a3⟩, a4, aj, aq⟩
          repeat' ((conv => whnf); first | (refine lenH_is ?_) | (refine hGet_at aj ?_) | (refine ask_true (by omega) ?_) | fail)
          conv => whnf
          refine red_each (by kernel_rfl) ?_
          repeat' ((conv => whnf); first | (refine hGet_at aj ?_) | (refine hGet_at aq ?_) | (refine hGet_at (up_get aj) ?_) | (refine hGet_at (up_get aq) ?_) | (refine hGet_at (up_get (up_get aj)) ?_) | (refine hGet_at (up_top _ _) ?_) | (refine hGet_at ((List.getElem?_set_ne a4).trans (up_get aj)) ?_) | (refine hGet_at (List.getElem?_set_self (by simp only [List.length_set, List.length_append, List.length_singleton]; omega)) ?_) | (refine And.intro (Nat.le_refl _) ?_) | (refine And.intro (And.intro rfl (And.intro (by omega) (by show (p.e.g + 1) * 1 ≤ 140737488355328; omega))) (And.intro (fun hroom => ?_) (fun hgrow => ?_))) | (refine fun (c : Nat) (hc1 : _ ≤ c) (hc2 : c ≤ 9223372036854775807) => ?_) | (refine lenH_is ?_) | (refine And.intro (show (0 : Int) ≤ 8 by decide) (ask_shl8 (by omega) (by omega) ?_)) | (refine And.intro (show (0 : Int) ≤ 8 by decide) fun r3 hr3 => ?_) | (refine And.intro (show (0 : Int) ≤ 24 by decide) fun r1' hr1' => ?_) | (refine fun (r4 : Int) (hr4 : r4 = bitsI .and .u64 _ 4294967295) => ?_) | (refine fun (r2 : Int) (hr2 : r2 = IntKind.u8.wrap _) => ?_) | (refine ask_wrap64 (by omega) (by omega) ?_) | (refine setH_at ?_) | (refine pushH_at ?_) | (refine And.intro rfl ?_) | (refine And.intro ?_ (And.intro ?_ trivial)) | (refine And.intro ?_ trivial) | fail)
          all_goals
            have h4 := hand r3
            rw [← hr4] at h4
            first
              | (have hroom' := hroom
                 refine leaf_of (fin _ _ (EUp.room hat u.bnd rfl rfl rfl a1 hroom' ?_) h4 rfl rfl) rfl
                 · simp [a3]
                   show min p.e.g p.e.cap + (min 1 1 + (p.e.cap - (p.e.g + 1))) = p.e.cap
                   omega)
              | (have hgrow' := hgrow
                 refine leaf_of (fin _ _ (EUp.fresh hat u.bnd rfl rfl rfl (by omega) hc1 ?_) h4 rfl rfl) rfl
                 · simp [a3]
                   show min p.e.g p.e.cap + (min 1 1 + (c - (p.e.g + 1))) = c
                   omega)
      · repeat' ((conv => whnf); first | (refine lenH_is ?_) | (rcases u.at' with ⟨a1, a2, aj⟩ | ⟨⟨a1, a2, a3⟩, a4, aj, aq⟩ <;> refine hGet_at aj ?_) | (refine ask_false (by omega) ?_) | fail)
        all_goals
          refine ⟨rfl, p.e, u, e4, ?_⟩
          rw [← e6]
          cases m with
          | zero => rfl
          | succ m => simp only [nrm]; rw [if_neg (by omega)]
  · have hset : ∀ b : Blk, (H.set j b)[j]? = some b := fun b => List.getElem?_set_self hjl
    have hq2 : ∀ b : Blk, (H.set j b)[e.q]? = some (oB e.cap e.ys) := fun b => by rw [List.getElem?_set_ne (Ne.symm c4)]; exact hq
    have hset2 : ∀ a b c : Blk, (((H.set j a).set e.q b).set j c)[j]? = some c := fun a b c => List.getElem?_set_self (by simp only [List.length_set]; exact hjl)
    have he : EAt H j e := .inr ⟨⟨c1, c2, c3⟩, c4, hj, hq⟩
    repeat' ((conv => whnf); first | (refine lenH_is ?_) | (refine ask_true hc ?_) | (refine And.intro rfl ?_) | (refine hGet_at hj ?_) | (refine ask_wrapu32 (by omega) (by omega) ?_) | fail)
    conv => whnf
    refine And.intro (by omega) fun r hr => ?_
    obtain rfl : r = e.rg / t := hr.trans q1.1
    repeat' ((conv => whnf); first | (refine lenH_is ?_) | (refine hGet_at hj ?_) | (refine ask_wrapu64 (by omega) (by omega) ?_) | (refine setH_at ?_) | (refine .inr (Exists.intro e.sz (Exists.intro (e.lo + e.rg / t * s) (Exists.intro e.rg (Exists.intro e.q (Exists.intro e.g (Exists.intro e.cap (Exists.intro e.ys (And.intro (hset _) (And.intro (hq2 _) (And.intro c4 (And.intro c2 (And.intro (by omega) (And.intro (by omega) fun lo' ys' hl' hy' => ?_)))))))))))))) | (refine ask_wrapu32 (by omega) (by omega) ?_) | (refine hGet_at (hset2 _ _ _) ?_) | fail)
    conv => whnf
    have up := EUp.bytes he hH.bnd lo' (e.rg / t * w) c1 hy'
    refine loop_up (List.range' 47 43) (fun m (p : PS) => putJ H j e (nrm 3 (e.rg / t * w) e.g) m p) (fun _ => []) (fun p => p.H) 3 ⟨(H.set e.q (oB e.cap ys')).set j (eS e.sz lo' (e.rg / t * w) e.q e.g e.cap), ⟨e.sz, lo', e.rg / t * w, e.g, e.q, e.cap, ys'⟩⟩ ⟨up, ⟨by show 1 ≤ e.rg / t * w; omega, m2.2⟩, by show 16777216 ≤ e.rg / t * w * 256 ^ 3; omega, by show e.g + 3 ≤ _; omega, hl', Nat.le_refl _, rfl⟩ ?_ ?_ ?_
    · intro _ n hn
      have dj := decide_eq_true (Nat.lt_of_lt_of_le hjl hn)
      repeat' (first | rfl | exact dj | refine and_t ?_ ?_)
    · exact ⟨rfl, trivial, by dsimp only; simp only [List.set_set, set3 c4]; exact wkH_refl _, bndH_of (up).bnd, (up).len⟩
    · rintro m p ⟨u, e1, e2, e3, e4, e5, e6⟩
      have pl := u.at'.ptr
      have plen := u.len
      have hand := fun a : Int => and32 a
      rcases Int.lt_or_le p.e.rg 16777216 with g | g
      · cases m with
        | zero => rw [Int.pow_zero] at e2; omega
        | succ m =>
        have fin : ∀ (H' : List Blk) (e2' : ES), EUp p.H j p.e H' e2' → (0 ≤ e2'.lo ∧ e2'.lo ≤ 4294967295) → e2'.rg = p.e.rg * 256 → e2'.g = p.e.g + 1 → putJ H j e (nrm 3 (e.rg / t * w) e.g) m ⟨H', e2'⟩ := fun H' e2' k1 k3 k4 k5 => by
          refine ⟨u.trans k1, by show 1 ≤ e2'.rg ∧ e2'.rg ≤ _; omega, ?_, by show e2'.g + m ≤ _; omega, k3, by omega, ?_⟩
          · show 16777216 ≤ e2'.rg * 256 ^ m
            rw [k4]
            rw [Int.pow_succ, Int.mul_comm (256 ^ m) 256, ← Int.mul_assoc] at e2
            exact e2
          · show nrm m e2'.rg e2'.g = _
            rw [k4, k5, ← e6]
            simp only [nrm]
            rw [if_pos g]
        rcases u.at' with ⟨a1, a2, aj⟩ | ⟨⟨a1, a2, a3⟩, a4, aj, aq⟩
        · have hat : EAt p.H j p.e := .inl ⟨a1, a2, aj⟩
          repeat' ((conv => whnf); first | (refine lenH_is ?_) | (refine hGet_at aj ?_) | (refine ask_true (by omega) ?_) | fail)
          conv => whnf
          refine red_each (by kernel_rfl) ?_
          repeat' ((conv => whnf); first | (refine hGet_at aj ?_) | (refine hGet_at (up_get aj) ?_) | (refine hGet_at (up_get (up_get aj)) ?_) | (refine hGet_at (up_top _ _) ?_) | (refine hGet_at (List.getElem?_set_self (by simp only [List.length_set, List.length_append, List.length_singleton]; omega)) ?_) | (refine And.intro (Nat.le_refl _) ?_) | (refine And.intro (And.intro (Nat.le_of_ble_eq_true rfl) (And.intro (Nat.le_of_ble_eq_true rfl) (Nat.le_of_ble_eq_true rfl))) ?_) | (refine fun (c : Nat) (hc1 : _ ≤ c) (hc2 : c ≤ 9223372036854775807) => ?_) | (refine lenH_is ?_) | (refine And.intro (show (0 : Int) ≤ 8 by decide) (ask_shl8 (by omega) (by omega) ?_)) | (refine And.intro (show (0 : Int) ≤ 8 by decide) fun r3 hr3 => ?_) | (refine And.intro (show (0 : Int) ≤ 24 by decide) fun r1' hr1' => ?_) | (refine fun (r4 : Int) (hr4 : r4 = bitsI .and .u64 _ 4294967295) => ?_) | (refine fun (r2 : Int) (hr2 : r2 = IntKind.u8.wrap _) => ?_) | (refine ask_wrap64 (by omega) (by omega) ?_) | (refine setH_at ?_) | (refine pushH_at ?_) | (refine And.intro rfl ?_) | (refine And.intro ?_ (And.intro ?_ trivial)) | (refine And.intro ?_ trivial) | fail)
          all_goals
            have h4 := hand r3
            rw [← hr4] at h4
            refine leaf_of (fin _ _ (EUp.fresh hat u.bnd rfl rfl (by rw [a2]; rfl) hc1 (by omega) ?_) h4 rfl rfl) rfl
            · simp
              show min 1 1 + (c - 1) = c
              omega
        · have hat : EAt p.H j p.e := .inr ⟨⟨a1, a2, a3⟩, a4, aj, aq⟩
          repeat' ((conv => whnf); first | (refine lenH_is ?_) | (refine hGet_at aj ?_) | (refine ask_true (by omega) ?_) | fail)
          conv => whnf
          refine red_each (by kernel_rfl) ?_
          repeat' ((conv => whnf); first | (refine hGet_at aj ?_) | (refine hGet_at aq ?_) | (refine hGet_at (up_get aj) ?_) | (refine hGet_at (up_get aq) ?_) | (refine hGet_at (up_get (up_get aj)) ?_) | (refine hGet_at (up_top _ _) ?_) | (refine hGet_at ((List.getElem?_set_ne a4).trans (up_get aj)) ?_) | (refine hGet_at (List.getElem?_set_self (by simp only [List.length_set, List.length_append, List.length_singleton]; omega)) ?_) | (refine And.intro (Nat.le_refl _) ?_) | (refine And.intro (And.intro rfl (And.intro (by omega) (by show (p.e.g + 1) * 1 ≤ 140737488355328; omega))) (And.intro (fun hroom => ?_) (fun hgrow => ?_))) | (refine fun (c : Nat) (hc1 : _ ≤ c) (hc2 : c ≤ 9223372036854775807) => ?_) | (refine lenH_is ?_) | (refine And.intro (show (0 : Int) ≤ 8 by decide) (ask_shl8 (by omega) (by omega) ?_)) | (refine And.intro (show (0 : Int) ≤ 8 by decide) fun r3 hr3 => ?_) | (refine And.intro (show (0 : Int) ≤ 24 by decide) fun r1' hr1' => ?_) | (refine fun (r4 : Int) (hr4 : r4 = bitsI .and .u64 _ 4294967295) => ?_) | (refine fun (r2 : Int) (hr2 : r2 = IntKind.u8.wrap _) => ?_) | (refine ask_wrap64 (by omega) (by omega) ?_) | (refine setH_at ?_) | (refine pushH_at ?_) | (refine And.intro rfl ?_) | (refine And.intro ?_ (And.intro ?_ trivial)) | (refine And.intro ?_ trivial) | fail)
          all_goals
            have h4 := hand r3
            rw [← hr4] at h4
            first
              | (have hroom' := hroom
                 refine leaf_of (fin _ _ (EUp.room hat u.bnd rfl rfl rfl a1 hroom' ?_) h4 rfl rfl) rfl
                 · simp [a3]
                   show min p.e.g p.e.cap + (min 1 1 + (p.e.cap - (p.e.g + 1))) = p.e.cap
                   omega)
              | (have hgrow' := hgrow
                 refine leaf_of (fin _ _ (EUp.fresh hat u.bnd rfl rfl rfl (by omega) hc1 ?_) h4 rfl rfl) rfl
                 · simp [a3]
                   show min p.e.g p.e.cap + (min 1 1 + (c - (p.e.g + 1))) = c
                   omega)
      · repeat' ((conv => whnf); first | (refine lenH_is ?_) | (rcases u.at' with ⟨a1, a2, aj⟩ | ⟨⟨a1, a2, a3⟩, a4, aj, aq⟩ <;> refine hGet_at aj ?_) | (refine ask_false (by omega) ?_) | fail)
        all_goals
          refine ⟨rfl, p.e, u, e4, ?_⟩
          rw [← e6]
          cases m with
          | zero => rfl
          | succ m => simp only [nrm]; rw [if_neg (by omega)]
end R
end Go.Proofs.YtaficaacogcblaaGreatDoor
