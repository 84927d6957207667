/- Yn, Yp, Yq, Yr, Ys: what the law wants of them. -/
import Derived.Test.YtaficaacogcblaaGreatDoorZn
import Derived.Test.YtaficaacogcblaaGreatDoorZp
import Derived.RangeFuncNested
import Derived.RangeFuncBound
import Derived.RangeFuncCalls
import Derived.RangeFuncLeaves
import Derived.Shelf.Abstract
import Derived.Shelf.RegionOpen
import Derived.WalkKit
import Derived.OwnWalkIn
import Derived.TacticsInMore
import Derived.LoopNIn
import Derived.LoopIn
import Derived.Laws.IdiomStrings
import Derived.Deep.Slices
import Derived.Deep.Strs
import Derived.Lib.LaidTab
set_option linter.all false
namespace Go.Proofs.YtaficaacogcblaaGreatDoor
namespace R
open Go.RowKit (Below)
set_option maxRecDepth 100000
set_option maxHeartbeats 16000000
def bytesO (s : ByteArray) (o : Obj) : Prop := ∃ cs e f, o = .cells cs e f ∧ ∀ (i : Nat) (u : Value), ((bytesI s).map (Value.int .u8))[i]? = some u → cs[i]? = some u
def xZ (P : Program) (G : Glo) : Oper → List V → List Blk → (V → List Blk → Prop) → Prop := fun o fr H K =>
  match o.op with
  | .convert s d x => evC fr x fun c => match tyOf P d, tyOf P s, c with
    | .slice e, .str, .cs t => match tyOf P e with
      | .int .u8 => t.size ≤ 9223372036854775807 ∧ lenH H 0 fun n => ∀ cap, t.size ≤ cap → cap ≤ 9223372036854775807 → pushH H (.obj (bytesO t)) fun H' => K (.w (.c (.csl n 0 0 t.size cap))) H'
      | _ => False
    | .str, .slice e, .csl j 0 i len _ => match tyOf P e with
      | .int .u8 => ∃ t : ByteArray, H[j]? = some (.obj (bytesO t)) ∧ i + len ≤ t.size ∧ t.size ≤ 9223372036854775807 ∧ K (.w (.c (.cs (t.extract i (i + len))))) H
      | _ => False
    | _, _, _ => False
  | _ => xY P G o fr H K
theorem bytes_row (t : ByteArray) (cap : Nat) : ∀ (i : Nat) (u : Value), ((bytesI t).map (Value.int .u8))[i]? = some u → (bytesRow t cap)[i]? = some u := fun i u hu => by
  have hi := (List.getElem?_eq_some_iff.1 hu).1
  simp [bytesI] at hi
  unfold bytesRow
  rw [Array.getElem?_append_left (by simpa using hi)]
  simp [bytesI] at hu
  obtain ⟨b, hb, rfl⟩ := hu
  simp [hb]
theorem xZ_ok {P : Program} {G : Glo} (hG : GOk G) : ExtOk P G (xZ P G) := by
  intro Df o fr H K h hf ho σ a base w₀ w hr hw N Q next
  obtain ⟨dst, op, ty, pos, after, guard⟩ := o
  cases op
  case convert s d x =>
    simp only [xZ] at h
    obtain ⟨c, c1, c2, h1, c4⟩ := evC_spec hf h
    clear h
    split at h1
    · rename_i e t hd hs
      split at h1
      · rename_i he
        obtain ⟨hsz, h⟩ := h1
        rw [lenH_iff, Nat.zero_add] at h
        have hcap := grownCap_ge w t.size 0 e
        have hmx := grownCap_le_maxLen w t.size 0 e (by simpa only [maxLen] using hsz)
        have h := h _ hcap (by simpa only [maxLen] using hmx)
        rw [pushH_iff] at h
        have hex := run_bytes_of_string (P := P) w s d e t (tyOf_str hs) (tyOf_slice hd) (tyOf_int he)
        unfold Oper.wp
        have hx2 : (execOp a.eval { dst, op := .convert s d x, type := ty, pos, after, guard }).run P w = .ok (.value (.slice (some ⟨w.heap.size, 0, none⟩) t.size (grownCap w t.size 0 e))) (w.drew.alloc (.cells (bytesRow t (grownCap w t.size 0 e)) e ((bytesRow t (grownCap w t.size 0 e)).size, (bytesRow t (grownCap w t.size 0 e)).size + 1))) := by
          simp [execOp, c4 σ a hr, C.den, hex]
        rw [hx2]
        have ha := Sg.upd_agree σ H.length (w.heap.size, 0)
        have hwd : Rep G σ base w₀ w.drew H := hw.later ((Below.refl _ w).drew)
        refine next (σ.upd H.length (w.heap.size, 0)) _ _ _ _ h ha (new_sl_rep σ _ _ _ _) (hwd.push ho _ (.obj (bytesO t)) ?_) (ho.push trivial rfl) ⟨⟨hcap, by simpa only [maxLen] using hmx⟩, by simp [V.bnd, W.bnd, C.bnd]⟩ (by simp)
        refine ⟨by rw [Sg.upd_self], by rw [Sg.upd_self]; exact Nat.le_trans hw.size hw.below.size, .cells (bytesRow t (grownCap w t.size 0 e)) e ((bytesRow t (grownCap w t.size 0 e)).size, (bytesRow t (grownCap w t.size 0 e)).size + 1), ?_, _, _, _, rfl, bytes_row t _⟩
        rw [Sg.upd_self]
        show (w.heap.push _)[w.heap.size]? = _
        simp
      · exact h1.elim
    · rename_i e j i len cap hd hs
      split at h1
      · rename_i he
        obtain ⟨t, hj, hle, hsz, hK⟩ := h1
        obtain ⟨b1, b2, o, b3, cs, e', f, rfl, b4⟩ := hw.blk _ _ hj
        have hb : (bytesI t).length = t.size := bytesI_len t
        obtain ⟨A, hA, hcell⟩ : ∃ A, C.den σ (.csl j 0 i len cap) = .slice (some A) len cap ∧ ∀ (q : Nat) (u : Value), ((((bytesI t).drop i).take len).map (Value.int .u8))[q]? = some u → w.cell? (A.add q) = some u := ⟨_, rfl, fun q u hu => by
          have hq : q < len := by have := (List.getElem?_eq_some_iff.1 hu).1; simp at this; omega
          have hc := b4 (i + q) u (by
            simp only [List.map_take, List.map_drop] at hu
            rw [List.getElem?_take_of_lt hq, List.getElem?_drop] at hu
            exact hu)
          rw [add_ne rfl]
          simp only [Sg.at, b1, Nat.zero_add, Nat.add_zero]
          unfold World.cell?
          simp [b3, hc]⟩
        have hload : (loadCells A len).run P w = .ok ((((bytesI t).drop i).take len).map (Value.int .u8)).toArray w := by
          have := run_loadCells_list (P := P) w A ((((bytesI t).drop i).take len).map (Value.int .u8)) hcell
          simpa [hb, Nat.min_eq_left (show len ≤ t.size - i by omega)] using this
        have e2 : strOfNums (((bytesI t).drop i).take len) = t.extract i (i + len) := by
          rw [← str_bytesI (t.extract i (i + len)), B.bytesI_ext, List.drop_take]
          congr 2
          omega
        have hcv : (convert s d (C.den σ (.csl j 0 i len cap))).run P w = .ok (.string (t.extract i (i + len))) w := by
          rw [hA, run_convert_bytes_string w s d e _ len cap (tyOf_slice hs) (tyOf_int he) (tyOf_str hd), run_bytesToString w A len cap _ hload, foldl_push_bytes, ← e2]
          simp [strOfNums, ByteArray.empty, ByteArray.emptyWithCapacity]
          try rfl
        have hx2 : (execOp a.eval { dst, op := .convert s d x, type := ty, pos, after, guard }).run P w = .ok (.value (.string (t.extract i (i + len)))) w := by
          simp only [execOp, c4 σ a hr, Sem.run_bind, hcv, Result.andThen_ok, Sem.run_pure]
        unfold Oper.wp
        rw [hx2]
        exact next σ (.w (.c (.cs (t.extract i (i + len))))) H _ _ hK (Sg.agree.refl _ _) rfl hw ho ⟨by show (t.extract i (i + len)).size ≤ _; rw [ByteArray.size_extract]; omega, rfl⟩ (Nat.le_refl _)
      · exact h1.elim
    · exact h1.elim
  all_goals (simp only [xZ] at h; exact xY_ok hG Df _ fr H K h hf ho σ a base w₀ w hr hw N Q next)
def ownZ (o : Oper) : Bool := match o.op with
  | .convert s d _ => match Nat.beq s 105, Nat.beq d 105 with
    | false, false => false
    | _, _ => true
  | _ => ownY o
def E7 : Env := ⟨D.G1, E6.EQ, ownZ, xZ Tryz.prog D.G1⟩
theorem E7_ok : EnvOk Tryz.prog E7 := ⟨D.E1_ok.glo, E6_ok.eq, xZ_ok D.E1_ok.glo⟩
end R
end Go.Proofs.YtaficaacogcblaaGreatDoor
set_option linter.all false
namespace Go.Proofs.YtaficaacogcblaaGreatDoor
namespace R
open Go.RowKit (Below)
set_option maxRecDepth 100000
set_option maxHeartbeats 16000000
theorem rows_wide {n : Nat} {P : Program} {row : String} {args : Array Value} {w : World} {R : Value → World → Prop} (h : Rows P row args w R) : RowsIn Fence.wide n P row args w R :=
  fun c cs _ => let ⟨v, w', r, s⟩ := h c cs; ⟨v, w', r, stepsIn_wide.2 s⟩
theorem upon_round {l n : Nat} {P : Program} {o : Oper} {a : Act} {next next' : Act → World → Prop} {Q : Exit → Act → World → Prop} (hn : ∀ a w, next a w → next' a w) {r : Result Next} (h : o.upon P a next Q r) : o.uponIn (Fence.wide.inRound l) n P a next' Q r := by
  unfold Oper.upon at h
  split at h
  · exact hn _ _ h
  · exact hn _ _ h
  · exact hn _ _ h
  · refine ⟨fun h => (by cases h), CallsIn.inRound l (callsIn_wide.2 (h.mono ?_))⟩
    intro e w'' he
    cases e <;> first | exact hn _ _ he | exact he
  · exact ⟨fun h => (by cases h), (rows_wide (h.mono fun v w' hv => hn _ _ hv) : RowsIn Fence.wide _ _ _ _ _ _)⟩
  · exact h
  · exact h.elim
theorem ops_round {l n : Nat} {P : Program} {ops : Array Oper} {Q : Exit → Act → World → Prop} (hno : ¬ LetsOut Q) (hd : ∀ o ∈ ops.toList, ∀ c, o.op ≠ .defer c) : ∀ (is : List Nat) (a : Act) (w : World), wpOps P ops Q is a w → wpOpsIn (Fence.wide.inRound l) n P ops Q is a w
  | [], _, _, h => h
  | i :: is, a, w, h => by
    unfold wpOps at h
    unfold wpOpsIn
    cases hi : ops[i]? with
    | none =>
      simp only [hi] at h ⊢
      exact ops_round hno hd is a w h
    | some o =>
      simp only [hi] at h ⊢
      have ho := hd o (by
        obtain ⟨hl, rfl⟩ := Array.getElem?_eq_some_iff.1 hi
        simp)
      split
      · rename_i hw
        rw [if_pos hw] at h
        refine ⟨fun _ _ => trivial, ?_⟩
        rw [Oper.semAt_eq _ _ _ ho]
        rcases h with h | h
        · exact upon_round (fun a w hh => ops_round hno hd is a w hh) h
        · exact absurd h.2 hno
      · rename_i hw
        rw [if_neg hw] at h
        exact ⟨fun _ _ => trivial, ops_round hno hd is _ w h⟩
theorem region_round {l n id : Nat} {P : Program} {ops : Array Oper} {Q : Exit → Act → World → Prop} {a : Act} {w : World} (hno : ¬ LetsOut Q) (hd : ∀ o ∈ ops.toList, ∀ c, o.op ≠ .defer c) (h : wpOps P ops Q (List.range ops.size) a w) : (Code.region id ops false).wpIn (Fence.wide.inRound l) n P Q a w :=
  wpIn_region (ops_round hno hd _ a w h)
theorem Rep.forget {G : Glo} {σ : Sg} {base : Nat} {w₀ w : World} {H : List Blk} (h : Rep G σ base w₀ w H) (p : Nat → Bool) : Rep G σ base w₀ w (H.mapIdx fun j b => match p j with | true => b | false => Blk.gone) := by
  have key : ∀ j b, (H.mapIdx fun j b => match p j with | true => b | false => Blk.gone)[j]? = some b → b = Blk.gone ∨ H[j]? = some b := fun j b hb => by
    rw [List.getElem?_mapIdx] at hb
    cases hj : H[j]? with
    | none => rw [hj] at hb; cases hb
    | some c =>
      rw [hj] at hb
      simp only [Option.map_some, Option.some.injEq] at hb
      cases hp : p j with
      | true => rw [hp] at hb; exact .inr (congrArg some hb)
      | false => rw [hp] at hb; exact .inl hb.symm
  refine ⟨h.below, h.size, fun j b hb => ?_, fun i j b c hi hj hb hc hij => ?_, h.glo⟩
  · rcases key j b hb with rfl | h1
    · trivial
    · exact h.blk j b h1
  · rcases key i b hi with rfl | h1
    · cases hb
    · rcases key j c hj with rfl | h2
      · cases hc
      · exact h.sep i j b c h1 h2 hb hc hij
theorem HOk.forget {H : List Blk} (h : HOk H) (p : Nat → Bool) : HOk (H.mapIdx fun j b => match p j with | true => b | false => Blk.gone) := by
  have key : ∀ b ∈ (H.mapIdx fun j b => match p j with | true => b | false => Blk.gone), b = Blk.gone ∨ b ∈ H := fun b hb => by
    obtain ⟨j, hj⟩ := List.getElem?_of_mem hb
    rw [List.getElem?_mapIdx] at hj
    cases hc : H[j]? with
    | none => rw [hc] at hj; cases hj
    | some c =>
      rw [hc] at hj
      simp only [Option.map_some, Option.some.injEq] at hj
      cases hp : p j with
      | true => rw [hp] at hj; exact .inr (hj ▸ List.mem_of_getElem? hc)
      | false => rw [hp] at hj; exact .inl hj.symm
  refine ⟨fun b hb => ?_, fun b hb => ?_⟩
  · rcases key b hb with rfl | h1
    · trivial
    · exact h.rng b h1
  · rcases key b hb with rfl | h1
    · rfl
    · rw [List.length_mapIdx]; exact h.bnd b h1
theorem Rep.turn {G : Glo} {σ : Sg} {base B : Nat} {w₀ w w' : World} {H : List Blk} (h : Rep G σ base w₀ w H) {row : Option Nat} (hg : w.grownBy w' row) (hB : base ≤ B) (hr : ∀ r, row = some r → B ≤ r ∧ ∃ o : Obj, w.heap[r]? = some o ∧ o.isCells = false)
    (hobj : ∀ j R, H[j]? = some (.obj R) → (σ j).1 < B) : Rep G σ base w₀ w' H := by
  have keep : ∀ k o, w.heap[k]? = some o → (o.isCells = true ∨ k < B) → w'.heap[k]? = some o := fun k o hk hc => by
    rw [hg.block k (Array.getElem?_eq_some_iff.1 hk).1 (fun e => by
      obtain ⟨h1, o', h2, h3⟩ := hr k e.symm
      rw [hk] at h2
      obtain rfl := Option.some.inj h2
      rcases hc with hc | hc
      · rw [h3] at hc; cases hc
      · omega)]
    exact hk
  have hlow : ∀ (p : Addr), p.block < B → p.block < w.heap.size → w'.cell? p = w.cell? p := fun p hp hs => by
    unfold World.cell?
    rw [hg.block p.block hs (fun e => by have := (hr _ e.symm).1; omega)]
  have hsz : base ≤ w.heap.size := Nat.le_trans h.size h.below.size
  refine ⟨h.below.trans ⟨hg.os, hg.tape, hg.output, hg.size, fun k hk => hg.block k (by omega) (fun e => by have := (hr _ e.symm).1; omega)⟩, h.size, fun j b hj => ?_, h.sep, fun g ss hgs => ?_⟩
  · have hb := h.blk j b hj
    cases b with
    | own T ss => exact ⟨hb.1, hb.2.1, keep _ _ hb.2.2 (.inl rfl)⟩
    | ro ss => exact ⟨hb.1, fun i v hv => by rw [hlow (σ.at j i) (Nat.lt_of_lt_of_le hb.1 hB) (Nat.lt_of_lt_of_le hb.1 hsz)]; exact hb.2 i v hv⟩
    | obj R =>
      obtain ⟨h1, h2, o, h3, h4⟩ := hb
      exact ⟨h1, h2, o, keep _ _ h3 (.inr (hobj j R hj)), h4⟩
    | gone => trivial
  · obtain ⟨a1, a2, a3⟩ := h.glo g ss hgs
    exact ⟨a1, a2, fun i v hv => by rw [hlow ⟨g, i, none⟩ (Nat.lt_of_lt_of_le a1 hB) (Nat.lt_of_lt_of_le a1 hsz)]; exact a3 i v hv⟩
open Classical in
noncomputable def othersK (B : Nat) (W : World) : List Nat := (List.range W.heap.size).filter fun k => decide (B ≤ k ∧ ∃ o : Obj, W.heap[k]? = some o ∧ o.isCells = false)
theorem othersK_mem {B : Nat} {W : World} {k : Nat} : k ∈ othersK B W ↔ B ≤ k ∧ ∃ o : Obj, W.heap[k]? = some o ∧ o.isCells = false := by
  unfold othersK
  rw [List.mem_filter, List.mem_range]
  constructor
  · rintro ⟨_, h⟩; exact of_decide_eq_true h
  · rintro ⟨h1, o, h2, h3⟩; exact ⟨(Array.getElem?_eq_some_iff.1 h2).1, decide_eq_true ⟨h1, o, h2, h3⟩⟩
theorem othersK_nodup (B : Nat) (W : World) : (othersK B W).Nodup := List.Pairwise.filter _ List.nodup_range
noncomputable def others (B : Nat) (W : World) : List Blk := (othersK B W).map fun k => .obj fun o => W.heap[k]? = some o
noncomputable def sgO (σ : Sg) (n B : Nat) (W : World) : Sg := fun j => if j < n then σ j else (((othersK B W)[j - n]?).getD 0, 0)
theorem sgO_agree (σ : Sg) (n B : Nat) (W : World) : Sg.agree n σ (sgO σ n B W) := fun j hj => by simp only [sgO, if_pos hj]
theorem others_get {B : Nat} {W : World} {H : List Blk} {j : Nat} {b : Blk} (hj : (H ++ others B W)[j]? = some b) (h : ¬ j < H.length) : ∃ k, (othersK B W)[j - H.length]? = some k ∧ b = .obj fun o => W.heap[k]? = some o := by
  rw [List.getElem?_append_right (by omega)] at hj
  unfold others at hj
  rw [List.getElem?_map] at hj
  cases hk : (othersK B W)[j - H.length]? with
  | none => rw [hk] at hj; cases hj
  | some k =>
    rw [hk] at hj
    exact ⟨k, rfl, (Option.some.inj hj).symm⟩
theorem others_ok {B : Nat} {W : World} {H : List Blk} (h : HOk H) : HOk (H ++ others B W) := by
  refine ⟨fun b hb => ?_, fun b hb => ?_⟩
  · rcases List.mem_append.1 hb with hb | hb
    · exact h.rng b hb
    · obtain ⟨k, _, rfl⟩ := List.mem_map.1 hb; trivial
  · rcases List.mem_append.1 hb with hb | hb
    · exact blk_up (by simp) b (h.bnd b hb)
    · obtain ⟨k, _, rfl⟩ := List.mem_map.1 hb; rfl
theorem Rep.others {G : Glo} {σ : Sg} {base B : Nat} {w₀ W : World} {H : List Blk} (h : Rep G σ base w₀ W H) (ho : HOk H) (hB : base ≤ B) (hobj : ∀ j R, H[j]? = some (.obj R) → (σ j).1 < B) : Rep G (sgO σ H.length B W) base W W (H ++ others B W) := by
  have h1 := h.agree ho (sgO_agree σ H.length B W)
  have hsz : base ≤ W.heap.size := Nat.le_trans h.size h.below.size
  have hat : ∀ j k, ¬ j < H.length → (othersK B W)[j - H.length]? = some k → sgO σ H.length B W j = (k, 0) := fun j k hj hk => by simp only [sgO, if_neg hj, hk, Option.getD_some]
  have hlow : ∀ j b, j < H.length → H[j]? = some b → b.mine = true → ∀ k ∈ othersK B W, (sgO σ H.length B W j).1 ≠ k := fun j b hj hb hm k hk e => by
    obtain ⟨h2, o, h3, h4⟩ := othersK_mem.1 hk
    have hr := h1.blk j b hb
    cases b with
    | own T ss =>
      have := hr.2.2
      rw [e, h3] at this
      obtain rfl := Option.some.inj this
      cases h4
    | ro ss => cases hm
    | obj R =>
      have := hobj j R hb
      rw [← sgO_agree σ H.length B W j hj] at e
      omega
    | gone => cases hm
  refine ⟨Below.refl _ _, hsz, fun j b hj => ?_, fun i j b c hi hj hb hc hij => ?_, h1.glo⟩
  · by_cases hlt : j < H.length
    · rw [List.getElem?_append_left hlt] at hj
      exact h1.blk j b hj
    · obtain ⟨k, hk, rfl⟩ := others_get hj hlt
      obtain ⟨h2, o, h3, h4⟩ := othersK_mem.1 (List.mem_of_getElem? hk)
      have e := hat j k hlt hk
      exact ⟨by rw [e], by rw [e]; exact Nat.le_trans hB h2, o, by rw [e]; exact h3, h3⟩
  · by_cases hi' : i < H.length <;> by_cases hj' : j < H.length
    · rw [List.getElem?_append_left hi'] at hi
      rw [List.getElem?_append_left hj'] at hj
      exact h1.sep i j b c hi hj hb hc hij
    · rw [List.getElem?_append_left hi'] at hi
      obtain ⟨k, hk, rfl⟩ := others_get hj hj'
      rw [hat j k hj' hk]
      exact hlow i b hi' hi hb k (List.mem_of_getElem? hk)
    · rw [List.getElem?_append_left hj'] at hj
      obtain ⟨k, hk, rfl⟩ := others_get hi hi'
      rw [hat i k hi' hk]
      exact fun e => hlow j c hj' hj hc k (List.mem_of_getElem? hk) e.symm
    · obtain ⟨k, hk, rfl⟩ := others_get hi hi'
      obtain ⟨k', hk', rfl⟩ := others_get hj hj'
      rw [hat i k hi' hk, hat j k' hj' hk']
      intro e
      have e' : k = k' := e
      subst e'
      have hl1 := (List.getElem?_eq_some_iff.1 hk).1
      have hl2 := (List.getElem?_eq_some_iff.1 hk').1
      have := (List.getElem_inj (h₀ := hl1) (h₁ := hl2) (othersK_nodup B W)).1 (by rw [(List.getElem?_eq_some_iff.1 hk).2, (List.getElem?_eq_some_iff.1 hk').2])
      omega
theorem others_kept {G : Glo} {σ τ : Sg} {base B : Nat} {W W' : World} {H H' : List Blk} (hw : Rep G τ base W W' H') (ha : Sg.agree (H ++ others B W).length (sgO σ H.length B W) τ) (hk : ∀ j R, H.length ≤ j → (H ++ others B W)[j]? = some (.obj R) → H'[j]? = some (.obj R)) : Go.KeepsFrom B W W' := by
  refine ⟨hw.below.size, fun k o hB h1 h2 => ?_⟩
  obtain ⟨i, hi⟩ := List.getElem?_of_mem (othersK_mem.2 ⟨hB, o, h1, h2⟩)
  have hil := (List.getElem?_eq_some_iff.1 hi).1
  have hj : (H ++ others B W)[H.length + i]? = some (.obj fun o => W.heap[k]? = some o) := by
    rw [List.getElem?_append_right (by omega), Nat.add_sub_cancel_left]
    unfold others
    rw [List.getElem?_map, hi]; rfl
  obtain ⟨q1, q2, o', q3, q4⟩ := hw.blk _ _ (hk _ _ (by omega) hj)
  have e : sgO σ H.length B W (H.length + i) = (k, 0) := by
    simp only [sgO, if_neg (show ¬ H.length + i < H.length by omega), Nat.add_sub_cancel_left, hi, Option.getD_some]
  rw [← ha _ (List.getElem?_eq_some_iff.1 hj).1, e] at q3
  rw [h1] at q4
  obtain rfl := Option.some.inj q4
  exact q3
end R
end Go.Proofs.YtaficaacogcblaaGreatDoor
set_option linter.all false
namespace Go.Proofs.YtaficaacogcblaaGreatDoor
namespace R
open Go.RowKit (Below)
set_option maxRecDepth 100000
set_option maxHeartbeats 16000000
def seqL : Code → Code
  | .seq x _ => x
  | c => c
def seqR : Code → Code
  | .seq _ y => y
  | c => c
noncomputable def FCu : Fns := (F0.plus 80 ctPages).into 81 Tryz.f81
theorem FCu_ok : FnsOk Tryz.prog FCu D.G1 := (D.F0_okg.plusG pages_ct Tryz.func80 (by kernel_rfl) (by kernel_rfl)).into Tryz.func81 (by kernel_rfl) (by kernel_rfl)
noncomputable abbrev cal7 (n : Nat) : Cal := calF Tryz.prog E7 FCu (drwY Tryz.prog E7 FCu) n
theorem cal7_ok (n : Nat) : CalOk Tryz.prog E7 (cal7 n) := calF_ok E7_ok FCu_ok (fun cal hc => drwY_ok E7_ok FCu_ok mixed cal hc) n
noncomputable abbrev XC7 (c : Code) (lo : Nat) (fr : List V) (H : List Blk) (Q : XQ) : Prop := XC Tryz.prog E7 (cal7 2) (drwY Tryz.prog E7 FCu (cal7 2)) c lo fr H Q
theorem XC7_spec {Df : List Deferred} {c : Code} {lo : Nat} {fr : List V} {H : List Blk} {Q : XQ} (h : XC7 c lo fr H Q) (hf : FOk H.length fr) (ho : HOk H) (hl : lo ≤ H.length) {σ : Sg} {base : Nat} {w₀ w : World} {a : Act} (hr : FRep Df σ a fr) (hw : Rep D.G1 σ base w₀ w H) : c.wp Tryz.prog (Post Df E7 σ base w₀ lo Q) a w :=
  XC_spec E7_ok (cal7_ok 2) (drwY_ok E7_ok FCu_ok mixed _ (cal7_ok 2)) c h hf ho hl hr hw
theorem seq_step {Df : List Deferred} {x p y : Code} {n lo : Nat} {fr : List V} {H : List Blk} {K : List V → List Blk → Prop} {Q : Exit → Act → World → Prop} {σ₀ σ : Sg} {base : Nat} {w₀ w : World} {a : Act} (h : XC7 (.seq x p) lo fr H fun ex fr' H' => ex = .normal ∧ K fr' H') (hf : FOk H.length fr) (ho : HOk H) (hl : lo ≤ H.length) (hr : FRep Df σ a fr) (hw : Rep D.G1 σ base w₀ w H) (hσ : Sg.agree lo σ₀ σ)
    (fin : ∀ τ fr' H' a' w', (XC7 p lo fr' H' fun ex fr' H' => ex = .normal ∧ K fr' H') → FOk H'.length fr' → HOk H' → lo ≤ H'.length → FRep Df τ a' fr' → Rep D.G1 τ base w₀ w' H' → Sg.agree lo σ₀ τ → y.wpIn Fence.wide n Tryz.prog Q a' w') : (Code.seq x y).wpIn Fence.wide n Tryz.prog Q a w := by
  have h' : XC7 x lo fr H fun ex fr' H' => match ex with
      | .normal => XC7 p lo fr' H' fun ex fr' H' => ex = .normal ∧ K fr' H'
      | .exit id => (Ex.exit id = Ex.normal ∧ K fr' H')
      | .ret => (Ex.ret = Ex.normal ∧ K fr' H') := h
  refine wpIn_seq (wpIn_wide.2 (wp_mono (XC7_spec h' hf ho hl hr hw) ?_))
  rintro e a' w' ⟨τ, fr', H', ex, rfl, g0, g1, g2, g3, g4, g5, g6⟩
  cases ex with
  | normal => exact fin τ fr' H' a' w' g0 g5 g3 g6 g4 g2 (hσ.trans g1)
  | exit id => cases g0.1
  | ret => cases g0.1
noncomputable abbrev cB : Code := (Tryz.f47.body).getD .skip
noncomputable abbrev c0 : Code := seqL cB
noncomputable abbrev c1 : Code := seqL (seqR cB)
noncomputable abbrev c2 : Code := seqL (seqR (seqR cB))
noncomputable abbrev c4 : Code := seqL (seqR (seqR (seqR cB)))
noncomputable abbrev c5 : Code := seqL (seqL (seqR (seqR (seqR (seqR cB)))))
noncomputable abbrev cR : Code := seqR (seqL (seqR (seqR (seqR (seqR cB)))))
noncomputable abbrev cT : Code := seqR (seqR (seqR (seqR (seqR cB))))
theorem cut_body : Tryz.f47.body = some (.seq c0 (.seq c1 (.seq c2 (.seq c4 (.seq (.seq c5 cR) cT))))) := rfl
structure CJ where
  j2 : Nat
  j6 : Nat
  j7 : Nat
  jb : Nat
  b1 : Nat
  b2 : Nat
  cap : Nat
abbrev frC (e : Int) (rec : ByteArray) (z : CJ) : List V := [.w (.c (.ci .u32 e)), .w (.c (.cs rec)), .w (.c (.cp z.j2 0)), undefV, .w (.c .csn), .w (.c (.ci .i64 0)), .w (.c (.cp z.j6 0)), .w (.c (.cp z.j7 0)), undefV, .w (.c (.cs rec)), .w (.c (.ci .i64 rec.size)), vi (((rec.size : Int) + 48) / 49), .w (.c (.ci .i64 (((rec.size : Int) + 48) / 49))), .w (.c (.cb false)), .w (.c (.cs rec)), .w (.c (.csl z.jb 0 0 rec.size z.cap)), .w (.c (.cf 129 [.cp z.b1 0, .cp z.b2 0])),
  undefV, undefV, undefV, undefV, undefV, undefV, undefV, undefV, undefV, undefV, undefV, undefV, undefV, undefV, undefV, undefV, undefV]
structure CutH (H G : List Blk) (e : Int) (rec : ByteArray) (z : CJ) : Prop where
  up : UpT [] H G
  g2 : G[z.j2]? = some (.own 31 [.one (.ci .u32 e)])
  g6 : G[z.j6]? = some (.own 3 [.one (.ci .i64 (((rec.size : Int) + 48) / 49))])
  gb : G[z.jb]? = some (.obj (bytesO rec))
  g1 : G[z.b1]? = some (.own 105 [.one (.csl z.jb 0 0 rec.size z.cap)])
  gn : G[z.b2]? = some (.own 3 [.one (.ci .i64 49)])
  le : H.length ≤ z.j7
  c1 : rec.size ≤ z.cap
  c2 : z.cap ≤ 9223372036854775807
theorem cut_pre {H : List Blk} (hH : HOk H) {e : Int} {rec : ByteArray} (h1 : 1 ≤ rec.size) (h2 : rec.size ≤ 4096) : XC7 (.seq c0 (.seq c1 (.seq c2 (.seq c4 c5)))) H.length ([V.w (.c (.ci .u32 e)), V.w (.c (.cs rec))] ++ List.replicate 32 undefV) H fun ex fr' H' => ex = .normal ∧ ∃ z : CJ, fr' = frC e rec z ∧ CutH H H' e rec z ∧ H'[z.j7]? = some (.own 121 [.one .csn]) := by
  repeat' ((conv => whnf); first | (refine lenH_is ?_) | (refine pushH_at ?_) | (refine setH_as (set_top _ _ _) ?_) | (refine setH_as (set_low _ _ _ _) ?_) | (refine setH_as (set_top' _ _ _ _ _) ?_) | (refine hGet_at (up_top _ _) ?_) | (refine hGet_at (up_get (up_top _ _)) ?_) | (refine hGet_at (up_get (up_get (up_top _ _))) ?_) | (refine And.intro ?_ trivial) | (refine And.intro rfl ?_) | (refine And.intro (And.intro (by decide) (by decide)) ?_) | (refine And.intro (And.intro (by decide) (And.intro (by decide) (by decide))) ?_) | (refine And.intro (Nat.le_of_ble_eq_true rfl) (And.intro (Nat.le_of_ble_eq_true rfl) ?_)) | (refine And.intro (Nat.le_of_ble_eq_true rfl) ?_) | (refine ask_false (by omega) ?_) | (refine ask_true (by omega) ?_) | (refine ask_wrap64 (by omega) (by omega) ?_) | (refine And.intro (And.intro (by omega) (by omega)) ?_) | (refine fun (_ : InK _ _) => ?_) | (refine ⟨by kernel_rfl, ?_⟩) | fail)
  conv => whnf
  refine And.intro (by omega) (lenH_is ?_)
  conv => whnf
  refine fun cap hc1 hc2 => pushH_at ?_
  repeat' ((conv => whnf); first | (refine lenH_is ?_) | (refine pushH_at ?_) | (refine setH_as (set_top _ _ _) ?_) | (refine setH_as (set_low _ _ _ _) ?_) | (refine setH_as (set_top' _ _ _ _ _) ?_) | (refine hGet_at (up_top _ _) ?_) | (refine hGet_at (up_get (up_top _ _)) ?_) | (refine hGet_at (up_get (up_get (up_top _ _))) ?_) | (refine And.intro ?_ trivial) | (refine And.intro rfl ?_) | (refine And.intro (And.intro (by decide) (by decide)) ?_) | (refine And.intro (And.intro (by decide) (And.intro (by decide) (by decide))) ?_) | (refine And.intro (Nat.le_of_ble_eq_true rfl) (And.intro (Nat.le_of_ble_eq_true rfl) ?_)) | (refine And.intro (Nat.le_of_ble_eq_true rfl) ?_) | (refine ask_false (by omega) ?_) | (refine ask_true (by omega) ?_) | (refine ask_wrap64 (by omega) (by omega) ?_) | (refine And.intro (And.intro (by omega) (by omega)) ?_) | (refine fun (_ : InK _ _) => ?_) | (refine ⟨by kernel_rfl, ?_⟩) | fail)
  conv => whnf
  refine ⟨⟨_, _, _, _, _, _, _⟩, rfl, ⟨?_, ?_, ?_, ?_, ?_, ?_, ?_, hc1, hc2⟩, ?_⟩
  · refine UpT.app (UpT.app (UpT.app (UpT.app (UpT.app (UpT.app (UpT.refl hH.bnd) ?_) ?_) ?_) ?_) ?_) ?_
    all_goals first | rfl | exact and_t (decide_eq_true (by simp)) rfl | exact and_t (decide_eq_true (by simp; omega)) rfl
  · exact up_get (up_get (up_get (up_get (up_get (up_top _ _)))))
  · exact up_get (up_get (up_get (up_get (up_top _ _))))
  · exact up_get (up_get (up_top _ _))
  · exact up_get (up_top _ _)
  · exact up_top _ _
  · simp
  · exact up_get (up_get (up_get (up_top _ _)))
def rfA : Code → Code
  | .block _ (.rangeFunc _ _ a _) => a
  | c => c
def rfB : Code → Code
  | .block _ (.rangeFunc _ _ _ b) => b
  | c => c
def opsOf : Code → Array Oper
  | .block _ (.region _ ops _) => ops
  | .region _ ops _ => ops
  | _ => #[]
noncomputable abbrev opsA : Array Oper := opsOf (rfA cR)
noncomputable abbrev opsB : Array Oper := opsOf (rfB cR)
theorem cut_loop : cR = .block 0 (.rangeFunc (.tmp 16) #[17] (.region 6 opsA false) (.block 1 (.region 7 opsB false))) := rfl
abbrev chC (rec : ByteArray) (z : CJ) (x : Nat) : C := .csl z.jb 0 (49 * x) (min 49 (rec.size - 49 * x)) (min 49 (rec.size - 49 * x))
abbrev frR (e : Int) (rec : ByteArray) (z : CJ) (x : Nat) : List V := [.w (.c (.ci .u32 e)), .w (.c (.cs rec)), .w (.c (.cp z.j2 0)), undefV, .w (.c .csn), .w (.c (.ci .i64 0)), .w (.c (.cp z.j6 0)), .w (.c (.cp z.j7 0)), .w (.c (chC rec z x)), .w (.c (.cs rec)), .w (.c (.ci .i64 rec.size)), vi (((rec.size : Int) + 48) / 49), .w (.c (.ci .i64 (((rec.size : Int) + 48) / 49))), .w (.c (.cb false)), .w (.c (.cs rec)), .w (.c (.csl z.jb 0 0 rec.size z.cap)), .w (.c (.cf 129 [.cp z.b1 0, .cp z.b2 0])),
  .w (.c (chC rec z x)), undefV, undefV, undefV, undefV, undefV, undefV, undefV, undefV, undefV, undefV, undefV, undefV, undefV, undefV, undefV, undefV]
theorem zero_page : ∃ zs, zeroS Tryz.prog 127 (fun q => q = zs) ∧ rowOk (Tryz.prog.types[127]).size zs := ⟨[.one (.ci .u32 0), .one (.ci .u32 0), .one (.ci .i64 0), .one (.cb false), .one (.cb false), .one (.cs ⟨#[]⟩)], by (conv => whnf); rfl, by kernel_rfl, rfl⟩
theorem page_few {a b : Nat} (h : a + b ≤ 3000) : (a + b ≤ 9223372036854775807 ∧ (a + b) * (Tryz.prog.types[127]).bytes ≤ 140737488355328) := by
  have e : (Tryz.prog.types[127]).bytes ≤ 1000 := Nat.le_of_ble_eq_true (by kernel_rfl)
  refine ⟨by omega, Nat.le_trans (Nat.mul_le_mul h e) (by decide)⟩
noncomputable def rowK (e : Int) (rec : ByteArray) (k x : Nat) : List Seg := pq e 0 2 (decide (k = 0)) (decide (k + 1 = npc rec)) (rec.extract (49 * x) (49 * x + min 49 (rec.size - 49 * x)))
theorem body_walk {H G : List Blk} (hG : HOk G) {e : Int} {rec : ByteArray} {z : CJ} (hz : CutH H G e rec z) {v : C} (h7 : G[z.j7]? = some (.own 121 [.one v])) {rows : List (List Seg)} (hv : SlAt 127 6 G v rows) (hn : rows.length ≤ 100) {x : Nat} (hx : 49 * x < rec.size) (h2 : rec.size ≤ 4096) :
    xops Tryz.prog E7 (cal7 2) opsB.toList opsB.toList (frR e rec z x) G fun _ G' => ∃ v', UpL (fun i => i = z.j7 ∨ bufOf v = some i ∨ G.length ≤ i) G G' ∧ G'[z.j7]? = some (.own 121 [.one v']) ∧ SlAt 127 6 G' v' (rows ++ [rowK e rec rows.length x]) ∧ ∀ q, bufOf v' = some q → bufOf v = some q ∨ G.length ≤ q := by
  have hv0 := hv
  have hL : decide ((rows.length : Int) = ((rec.size : Int) + 48) / 49 - 1) = decide (rows.length + 1 = npc rec) := decide_eq_decide.2 (by unfold npc; omega)
  have hF : decide ((rows.length : Int) = 0) = decide (rows.length = 0) := decide_eq_decide.2 (by omega)
  rcases hv with ⟨rfl, rfl⟩ | ⟨h0, q, rest, rfl, hcap, hrows, hq⟩
  · repeat' ((conv => whnf); first | (refine lenH_is ?_) | (refine pushH_at ?_) | (refine setH_as (set_top _ _ _) ?_) | (refine setH_as (set_low _ _ _ _) ?_) | (refine setH_as (set_top' _ _ _ _ _) ?_) | (refine hGet_at (h7) ?_) | (refine hGet_at (hz.g2) ?_) | (refine hGet_at (hz.g6) ?_) | (refine And.intro ?_ trivial) | (refine And.intro rfl ?_) | (refine And.intro (And.intro (by decide) (by decide)) ?_) | (refine And.intro (And.intro (by decide) (And.intro (by decide) (by decide))) ?_) | (refine And.intro (Nat.le_of_ble_eq_true rfl) (And.intro (Nat.le_of_ble_eq_true rfl) ?_)) | (refine And.intro (Nat.le_of_ble_eq_true rfl) ?_) | (refine ask_false (by omega) ?_) | (refine ask_true (by omega) ?_) | (refine ask_wrap64 (by omega) (by omega) ?_) | (refine And.intro (And.intro (by omega) (by omega)) ?_) | (refine fun (_ : InK _ _) => ?_) | (refine ⟨by kernel_rfl, ?_⟩) | fail)
    conv => whnf
    refine fun l hl => ?_
    obtain rfl : l = decide (0 + 1 = npc rec) := hl.trans hL
    repeat' ((conv => whnf); first | (refine lenH_is ?_) | (refine pushH_at ?_) | (refine setH_as (set_top _ _ _) ?_) | (refine setH_as (set_low _ _ _ _) ?_) | (refine setH_as (set_top' _ _ _ _ _) ?_) | (refine hGet_at (h7) ?_) | (refine hGet_at (hz.g2) ?_) | (refine hGet_at (hz.g6) ?_) | (refine And.intro ?_ trivial) | (refine And.intro rfl ?_) | (refine And.intro (And.intro (by decide) (by decide)) ?_) | (refine And.intro (And.intro (by decide) (And.intro (by decide) (by decide))) ?_) | (refine And.intro (Nat.le_of_ble_eq_true rfl) (And.intro (Nat.le_of_ble_eq_true rfl) ?_)) | (refine And.intro (Nat.le_of_ble_eq_true rfl) ?_) | (refine ask_false (by omega) ?_) | (refine ask_true (by omega) ?_) | (refine ask_wrap64 (by omega) (by omega) ?_) | (refine And.intro (And.intro (by omega) (by omega)) ?_) | (refine fun (_ : InK _ _) => ?_) | (refine ⟨by kernel_rfl, ?_⟩) | fail)
    refine ⟨rec, hz.gb, by omega, by omega, ?_⟩
    repeat' ((conv => whnf); first | (refine lenH_is ?_) | (refine pushH_at ?_) | (refine setH_as (set_top _ _ _) ?_) | (refine setH_as (set_low _ _ _ _) ?_) | (refine setH_as (set_top' _ _ _ _ _) ?_) | (refine hGet_at (h7) ?_) | (refine hGet_at (hz.g2) ?_) | (refine hGet_at (hz.g6) ?_) | (refine And.intro ?_ trivial) | (refine And.intro rfl ?_) | (refine And.intro (And.intro (by decide) (by decide)) ?_) | (refine And.intro (And.intro (by decide) (And.intro (by decide) (by decide))) ?_) | (refine And.intro (Nat.le_of_ble_eq_true rfl) (And.intro (Nat.le_of_ble_eq_true rfl) ?_)) | (refine And.intro (Nat.le_of_ble_eq_true rfl) ?_) | (refine ask_false (by omega) ?_) | (refine ask_true (by omega) ?_) | (refine ask_wrap64 (by omega) (by omega) ?_) | (refine And.intro (And.intro (by omega) (by omega)) ?_) | (refine fun (_ : InK _ _) => ?_) | (refine ⟨by kernel_rfl, ?_⟩) | fail)
    conv => whnf
    have uT : UpT [] G (G ++ [.own 127 (rowK e rec 0 x)]) := (UpT.refl hG.bnd).app rfl
    repeat' ((conv => whnf); first | (refine lenH_is ?_) | (refine pushH_at ?_) | (refine And.intro ⟨rfl, (by kernel_rfl), Nat.le_of_ble_eq_true (by kernel_rfl), Nat.le_of_ble_eq_true (by kernel_rfl)⟩ ?_) | (refine And.intro (by kernel_rfl) ?_) | (refine ⟨⟨rfl, zero_page⟩, _, NewAt.one (up_top _ _) (by exact ⟨rfl, rfl⟩), .inl ⟨_, hv0.up uT rfl, page_few (by simp <;> omega), fun v' X u' s' ua => ?_⟩⟩) | fail)
    have gA := u'.keep _ _ (uT.keep _ _ h7 rfl) rfl
    repeat' ((conv => whnf); first | (refine hGet_at gA ?_) | fail)
    conv => whnf
    refine setH_up gA u'.bnd (and_t s'.bnd rfl) fun Y eY w qY => ?_
    conv => whnf
    refine ⟨v', ?_, qY, s'.up w rfl, fun q hq => (ua.buf q hq).imp id fun h => Nat.le_trans uT.len h⟩
    rw [eY]
    exact UpL.set (UpL.trans (UpT.low uT) (UpA.low ua u'.bnd u'.len fun q hq => .inr (.inl hq))) (.inl rfl) (and_t s'.bnd rfl)
  · repeat' ((conv => whnf); first | (refine lenH_is ?_) | (refine pushH_at ?_) | (refine setH_as (set_top _ _ _) ?_) | (refine setH_as (set_low _ _ _ _) ?_) | (refine setH_as (set_top' _ _ _ _ _) ?_) | (refine hGet_at (h7) ?_) | (refine hGet_at (hz.g2) ?_) | (refine hGet_at (hz.g6) ?_) | (refine And.intro ?_ trivial) | (refine And.intro rfl ?_) | (refine And.intro (And.intro (by decide) (by decide)) ?_) | (refine And.intro (And.intro (by decide) (And.intro (by decide) (by decide))) ?_) | (refine And.intro (Nat.le_of_ble_eq_true rfl) (And.intro (Nat.le_of_ble_eq_true rfl) ?_)) | (refine And.intro (Nat.le_of_ble_eq_true rfl) ?_) | (refine ask_false (by omega) ?_) | (refine ask_true (by omega) ?_) | (refine ask_wrap64 (by omega) (by omega) ?_) | (refine And.intro (And.intro (by omega) (by omega)) ?_) | (refine fun (_ : InK _ _) => ?_) | (refine ⟨by kernel_rfl, ?_⟩) | fail)
    conv => whnf
    refine fun f hf => ?_
    obtain rfl : f = decide (rows.length = 0) := hf.trans hF
    repeat' ((conv => whnf); first | (refine lenH_is ?_) | (refine pushH_at ?_) | (refine setH_as (set_top _ _ _) ?_) | (refine setH_as (set_low _ _ _ _) ?_) | (refine setH_as (set_top' _ _ _ _ _) ?_) | (refine hGet_at (h7) ?_) | (refine hGet_at (hz.g2) ?_) | (refine hGet_at (hz.g6) ?_) | (refine And.intro ?_ trivial) | (refine And.intro rfl ?_) | (refine And.intro (And.intro (by decide) (by decide)) ?_) | (refine And.intro (And.intro (by decide) (And.intro (by decide) (by decide))) ?_) | (refine And.intro (Nat.le_of_ble_eq_true rfl) (And.intro (Nat.le_of_ble_eq_true rfl) ?_)) | (refine And.intro (Nat.le_of_ble_eq_true rfl) ?_) | (refine ask_false (by omega) ?_) | (refine ask_true (by omega) ?_) | (refine ask_wrap64 (by omega) (by omega) ?_) | (refine And.intro (And.intro (by omega) (by omega)) ?_) | (refine fun (_ : InK _ _) => ?_) | (refine ⟨by kernel_rfl, ?_⟩) | fail)
    conv => whnf
    refine fun l hl => ?_
    obtain rfl : l = decide (rows.length + 1 = npc rec) := hl.trans hL
    repeat' ((conv => whnf); first | (refine lenH_is ?_) | (refine pushH_at ?_) | (refine setH_as (set_top _ _ _) ?_) | (refine setH_as (set_low _ _ _ _) ?_) | (refine setH_as (set_top' _ _ _ _ _) ?_) | (refine hGet_at (h7) ?_) | (refine hGet_at (hz.g2) ?_) | (refine hGet_at (hz.g6) ?_) | (refine And.intro ?_ trivial) | (refine And.intro rfl ?_) | (refine And.intro (And.intro (by decide) (by decide)) ?_) | (refine And.intro (And.intro (by decide) (And.intro (by decide) (by decide))) ?_) | (refine And.intro (Nat.le_of_ble_eq_true rfl) (And.intro (Nat.le_of_ble_eq_true rfl) ?_)) | (refine And.intro (Nat.le_of_ble_eq_true rfl) ?_) | (refine ask_false (by omega) ?_) | (refine ask_true (by omega) ?_) | (refine ask_wrap64 (by omega) (by omega) ?_) | (refine And.intro (And.intro (by omega) (by omega)) ?_) | (refine fun (_ : InK _ _) => ?_) | (refine ⟨by kernel_rfl, ?_⟩) | fail)
    refine ⟨rec, hz.gb, by omega, by omega, ?_⟩
    repeat' ((conv => whnf); first | (refine lenH_is ?_) | (refine pushH_at ?_) | (refine setH_as (set_top _ _ _) ?_) | (refine setH_as (set_low _ _ _ _) ?_) | (refine setH_as (set_top' _ _ _ _ _) ?_) | (refine hGet_at (h7) ?_) | (refine hGet_at (hz.g2) ?_) | (refine hGet_at (hz.g6) ?_) | (refine And.intro ?_ trivial) | (refine And.intro rfl ?_) | (refine And.intro (And.intro (by decide) (by decide)) ?_) | (refine And.intro (And.intro (by decide) (And.intro (by decide) (by decide))) ?_) | (refine And.intro (Nat.le_of_ble_eq_true rfl) (And.intro (Nat.le_of_ble_eq_true rfl) ?_)) | (refine And.intro (Nat.le_of_ble_eq_true rfl) ?_) | (refine ask_false (by omega) ?_) | (refine ask_true (by omega) ?_) | (refine ask_wrap64 (by omega) (by omega) ?_) | (refine And.intro (And.intro (by omega) (by omega)) ?_) | (refine fun (_ : InK _ _) => ?_) | (refine ⟨by kernel_rfl, ?_⟩) | fail)
    conv => whnf
    have uT : UpT [] G (G ++ [.own 127 (rowK e rec rows.length x)]) := (UpT.refl hG.bnd).app rfl
    repeat' ((conv => whnf); first | (refine lenH_is ?_) | (refine pushH_at ?_) | (refine And.intro ⟨rfl, (by kernel_rfl), Nat.le_of_ble_eq_true (by kernel_rfl), Nat.le_of_ble_eq_true (by kernel_rfl)⟩ ?_) | (refine And.intro (by kernel_rfl) ?_) | (refine ⟨⟨rfl, zero_page⟩, _, NewAt.one (up_top _ _) (by exact ⟨rfl, rfl⟩), .inl ⟨_, hv0.up uT rfl, page_few (by simp <;> omega), fun v' X u' s' ua => ?_⟩⟩) | fail)
    have gA := u'.keep _ _ (uT.keep _ _ h7 rfl) rfl
    repeat' ((conv => whnf); first | (refine hGet_at gA ?_) | fail)
    conv => whnf
    refine setH_up gA u'.bnd (and_t s'.bnd rfl) fun Y eY w qY => ?_
    conv => whnf
    refine ⟨v', ?_, qY, s'.up w rfl, fun q hq => (ua.buf q hq).imp id fun h => Nat.le_trans uT.len h⟩
    rw [eY]
    exact UpL.set (UpL.trans (UpT.low uT) (UpA.low ua u'.bnd u'.len fun q hq => .inr (.inl hq))) (.inl rfl) (and_t s'.bnd rfl)
end R
end Go.Proofs.YtaficaacogcblaaGreatDoor
set_option linter.all false
namespace Go.Proofs.YtaficaacogcblaaGreatDoor
namespace R
open Go.RowKit (Below)
set_option maxRecDepth 100000
set_option maxHeartbeats 16000000
noncomputable def rowsP (e : Int) (rec : ByteArray) (xs : List Nat) : List (List Seg) := xs.mapIdx fun k x => rowK e rec k x
theorem rowsP_app (e : Int) (rec : ByteArray) (xs : List Nat) (x : Nat) : rowsP e rec (xs ++ [x]) = rowsP e rec xs ++ [rowK e rec xs.length x] := by
  unfold rowsP; rw [List.mapIdx_concat]
theorem rowsP_len (e : Int) (rec : ByteArray) (xs : List Nat) : (rowsP e rec xs).length = xs.length := by simp [rowsP]
theorem ext_min (rec : ByteArray) (a : Nat) (h : a ≤ rec.size) : rec.extract a (a + min 49 (rec.size - a)) = rec.extract a (a + 49) := by
  rcases Nat.le_total 49 (rec.size - a) with g | g
  · rw [Nat.min_eq_left g]
  · rw [Nat.min_eq_right g, ← str_bytesI (rec.extract a (a + (rec.size - a))), ← str_bytesI (rec.extract a (a + 49)), B.bytesI_ext, B.bytesI_ext, List.take_of_length_le (by rw [bytesI_len]; omega), List.take_of_length_le (by rw [bytesI_len]; omega)]
theorem rowsP_all (e : Int) (rec : ByteArray) : rowsP e rec (List.range (npc rec)) = cutRows e rec := by
  unfold rowsP cutRows pcs
  apply List.ext_getElem
  · simp
  · intro i h1 h2
    simp only [List.length_mapIdx, List.length_range] at h1
    simp only [List.getElem_mapIdx, List.getElem_range, List.getElem_map, rowK]
    rw [ext_min rec (49 * i) (by unfold npc at h1; omega)]
    rfl
theorem own_same {G : Glo} {σ τ : Sg} {base : Nat} {w₀ w₁ w w' : World} {H H' : List Blk} (h : Rep G σ base w₀ w H) (h' : Rep G τ base w₁ w' H') {j : Nat} {T : Nat} {ss : List Seg} {n : Nat} (g : H[j]? = some (.own T ss)) (g' : H'[j]? = some (.own T ss)) (ha : Sg.agree n σ τ) (hj : j < n) (hb : bnds n ss = true) : w'.heap[(σ j).1]? = w.heap[(σ j).1]? := by
  have e1 := (h.blk j _ g).2.2
  have e2 := (h'.blk j _ g').2.2
  rw [← ha j hj, ← dens_agree ha ss hb] at e2
  rw [e1, e2]
theorem SlAt.kept {T n : Nat} {H H' : List Blk} {v : C} {rs : List (List Seg)} (h : SlAt T n H v rs) (k : ∀ q, bufOf v = some q → H'[q]? = H[q]?) : SlAt T n H' v rs := by
  rcases h with h | ⟨h0, q, rest, rfl, h2, h3, h4⟩
  · exact .inl h
  · exact .inr ⟨h0, q, rest, rfl, h2, h3, by rw [k q rfl]; exact h4⟩
theorem SlAt.bufOwn {T n : Nat} {H : List Blk} {v : C} {rs : List (List Seg)} (h : SlAt T n H v rs) {q : Nat} (k : bufOf v = some q) : ∃ ss, H[q]? = some (.own T ss) := by
  rcases h with ⟨_, rfl⟩ | ⟨h0, q', rest, rfl, h2, h3, h4⟩
  · cases k
  · cases k; exact ⟨_, h4⟩
def CutI (σ0 : Sg) (base : Nat) (w₀ : World) (H G0 : List Blk) (e : Int) (rec : ByteArray) (z : CJ) (B : Nat) (xs : List Nat) (W : World) : Prop :=
  ∃ τ G v, Rep D.G1 τ base w₀ W G ∧ HOk G ∧ Sg.agree G0.length σ0 τ ∧ G0.length ≤ G.length ∧ CutH H G e rec z ∧ G[z.j7]? = some (.own 121 [.one v]) ∧ SlAt 127 6 G v (rowsP e rec xs) ∧ (∀ q, bufOf v = some q → G0.length ≤ q) ∧ ∀ j R, G[j]? = some (.obj R) → (τ j).1 < B
theorem CutI.turn {σ0 : Sg} {base : Nat} {w₀ : World} {H G0 : List Blk} {e : Int} {rec : ByteArray} {z : CJ} {B : Nat} (hB : base ≤ B) : OwnFrom B (fun (xs : List Nat) W => CutI σ0 base w₀ H G0 e rec z B xs W) := fun xs W W' row hs hg hr => by
  obtain ⟨τ, G, v, h1, h2, h3, h4, h5, h6, h7, h8, h9⟩ := hs
  exact ⟨τ, G, v, Rep.turn h1 hg hB hr h9, h2, h3, h4, h5, h6, h7, h8, h9⟩
theorem up_others {B : Nat} {W : World} {G : List Blk} (h : HOk G) : UpT [] G (G ++ others B W) :=
  ⟨by simp, fun i b hi _ => by rw [List.getElem?_append_left (List.getElem?_eq_some_iff.1 hi).1]; exact hi, (others_ok h).bnd⟩
theorem CutH.more {H G G' : List Blk} {e : Int} {rec : ByteArray} {z : CJ} (h : CutH H G e rec z) (u : UpT [] G G') : CutH H G' e rec z :=
  ⟨h.up.trans u, u.keep _ _ h.g2 rfl, u.keep _ _ h.g6 rfl, u.keep _ _ h.gb rfl, u.keep _ _ h.g1 rfl, u.keep _ _ h.gn rfl, h.le, h.c1, h.c2⟩
def nOut (Q : Act → World → Prop) : Exit → Act → World → Prop := fun ex a w => ex = .normal ∧ Q a w
theorem nOut_no (Q : Act → World → Prop) : ¬ LetsOut (nOut Q) := fun ⟨a, w, h⟩ => by cases h.1
theorem round_ok {σ0 : Sg} {base : Nat} {w₀ : World} {H G0 : List Blk} {e : Int} {rec : ByteArray} {z : CJ} {B : Nat} {xs : List Nat} {W : World} (hB : base ≤ B) (h0 : CutH H G0 e rec z) (h07 : ∃ v, G0[z.j7]? = some (.own 121 [.one v])) (hI : CutI σ0 base w₀ H G0 e rec z B xs W) {a : Act} {x : Nat} (hf : FRep [] σ0 a (frR e rec z x)) (hfo : FOk G0.length (frR e rec z x)) (hn : xs.length ≤ 100) (hx : 49 * x < rec.size) (h2 : rec.size ≤ 4096) :
    wpOps Tryz.prog opsB (nOut fun _ W' => Go.KeepsFrom B W W' ∧ chK (σ0 z.b1).1 (σ0 z.b2).1 W W' ∧ CutI σ0 base w₀ H G0 e rec z B (xs ++ [x]) W') (List.range opsB.size) a W := by
  obtain ⟨τ, G, v, i1, i2, i3, i4, i5, i6, i7, i8, i9⟩ := hI
  have uO := up_others (B := B) (W := W) i2
  have hlO : G.length ≤ (G ++ others B W).length := uO.len
  have hwO := Rep.others i1 i2 hB i9
  have hoO := others_ok (B := B) (W := W) i2
  have z5 := i5.more uO
  have z6 := uO.keep _ _ i6 rfl
  have z7 := i7.up uO rfl
  have j7l : z.j7 < G0.length := by obtain ⟨v, h⟩ := h07; exact (List.getElem?_eq_some_iff.1 h).1
  have j1l : z.b1 < G0.length := (List.getElem?_eq_some_iff.1 h0.g1).1
  have jnl : z.b2 < G0.length := (List.getElem?_eq_some_iff.1 h0.gn).1
  have ne : ∀ {j T : Nat} {ss : List Seg}, G[j]? = some (.own T ss) → T ≠ 121 → j ≠ z.j7 := fun {j T ss} hj hT e => by
    rw [e, i6] at hj
    exact hT (Blk.own.inj (Option.some.inj hj)).1.symm
  have aO : Sg.agree G0.length σ0 (sgO τ G.length B W) := i3.trans ((sgO_agree τ G.length B W).mono i4)
  have walk := body_walk hoO z5 z6 z7 (x := x) (by rw [rowsP_len]; exact hn) hx h2
  have hrange : List.range opsB.size = List.range' 0 opsB.toList.length := by rw [List.range_eq_range', Array.length_toList]
  rw [hrange]
  refine xops_spec E7_ok (cal7_ok 2) opsB opsB.toList 0 (fun j => by simp) walk (hfo.mono (Nat.le_trans i4 hlO)) hoO (lo := (G ++ others B W).length) (Nat.le_refl _) (σ₀ := sgO τ G.length B W) ?_ (Sg.agree.refl _ _) (hf.agree aO hfo) hwO
  rintro τ' fr' G' a' W' ⟨v', up, q7, s', kb⟩ ag hw' ho' _ _ _
  have ag' : Sg.agree G.length τ τ' := (sgO_agree τ G.length B W).trans (ag.mono hlO)
  have keepG : ∀ j b, j < G.length → j ≠ z.j7 → bufOf v ≠ some j → G[j]? = some b → G'[j]? = some b := fun j b hj h7 hbf hb =>
    up.keep j b (fun h => by
      rcases h with h | h | h
      · exact h7 h
      · exact hbf h
      · omega) (uO.keep _ _ hb (by cases b <;> rfl))
  have low : ∀ j, j < G0.length → bufOf v ≠ some j := fun j hj hbf => by have := i8 j hbf; omega
  refine ⟨rfl, others_kept hw' ag fun j R hj hR => up.keep j _ (fun h => ?_) hR, ⟨?_, ?_⟩, ?_⟩
  · rcases h with h | h | h
    · have := (List.getElem?_eq_some_iff.1 i6).1; omega
    · obtain ⟨ss, hss⟩ := SlAt.bufOwn i7 h
      have := (List.getElem?_eq_some_iff.1 hss).1; omega
    · have := (List.getElem?_eq_some_iff.1 hR).1; omega
  · have g := keepG z.b1 _ (by omega) (ne i5.g1 (by decide)) (low _ j1l) i5.g1
    have := own_same i1 hw' i5.g1 g ag' (by omega) (and_t (get_blt i5.gb) rfl)
    rwa [← i3 _ j1l] at this
  · have g := keepG z.b2 _ (by omega) (ne i5.gn (by decide)) (low _ jnl) i5.gn
    have := own_same i1 hw' i5.gn g ag' (by omega) rfl
    rwa [← i3 _ jnl] at this
  · obtain ⟨G3, hG3⟩ : ∃ G3, G3 = G'.mapIdx fun j b => match (decide (j < G0.length) || (bufOf v' == some j)) with | true => b | false => Blk.gone := ⟨_, rfl⟩
    have r3 : Rep D.G1 τ' base w₀ W' G3 := by rw [hG3]; exact Rep.forget ⟨i1.below.trans hw'.below, i1.size, hw'.blk, hw'.sep, hw'.glo⟩ _
    have o3 : HOk G3 := by rw [hG3]; exact HOk.forget ho' _
    have l3 : G3.length = G'.length := by rw [hG3, List.length_mapIdx]
    have lG : G.length ≤ G'.length := Nat.le_trans hlO up.len
    have kept : ∀ j b, j < G0.length → G'[j]? = some b → G3[j]? = some b := fun j b hj hb => by
      rw [hG3, List.getElem?_mapIdx, hb]
      simp [hj]
    have kept2 : ∀ q, bufOf v' = some q → G3[q]? = G'[q]? := fun q hq => by
      rw [hG3, List.getElem?_mapIdx]
      cases hb : G'[q]? with
      | none => rfl
      | some b => simp [hq]
    have inv : ∀ j R, G3[j]? = some (.obj R) → G'[j]? = some (.obj R) ∧ (j < G0.length ∨ bufOf v' = some j) := fun j R hj => by
      rw [hG3, List.getElem?_mapIdx] at hj
      cases hb : G'[j]? with
      | none => rw [hb] at hj; cases hj
      | some b =>
        rw [hb] at hj
        simp only [Option.map_some, Option.some.injEq] at hj
        cases hp : (decide (j < G0.length) || (bufOf v' == some j)) with
        | false => rw [hp] at hj; cases hj
        | true =>
          rw [hp] at hj
          refine ⟨by rw [← hj], ?_⟩
          simpa using hp
    have keep0 : ∀ j b, j < G0.length → j ≠ z.j7 → G[j]? = some b → G3[j]? = some b := fun j b hj h7 hb => kept j b hj (keepG j b (by omega) h7 (low j hj) hb)
    have hlH := h0.up.len
    have lt : ∀ {j : Nat} {b : Blk}, G0[j]? = some b → j < G0.length := fun h => (List.getElem?_eq_some_iff.1 h).1
    refine ⟨τ', G3, v', r3, o3, aO.trans (ag.mono (Nat.le_trans i4 hlO)), by omega, ⟨⟨by omega, fun i b hi hf => ?_, o3.bnd⟩, ?_, ?_, ?_, ?_, ?_, h0.le, h0.c1, h0.c2⟩, kept _ _ j7l q7, ?_, fun q hq => ?_, fun j R hj => ?_⟩
    · have hi' := (List.getElem?_eq_some_iff.1 hi).1
      exact keep0 i b (by omega) (fun e => by have := h0.le; omega) (i5.up.keep i b hi hf)
    · exact keep0 _ _ (lt h0.g2) (ne i5.g2 (by decide)) i5.g2
    · exact keep0 _ _ (lt h0.g6) (ne i5.g6 (by decide)) i5.g6
    · exact keep0 _ _ (lt h0.gb) (fun e => by have := i5.gb; rw [e, i6] at this; cases this) i5.gb
    · exact keep0 _ _ (lt h0.g1) (ne i5.g1 (by decide)) i5.g1
    · exact keep0 _ _ (lt h0.gn) (ne i5.gn (by decide)) i5.gn
    · rw [rowsP_app]
      rw [rowsP_len] at s'
      exact SlAt.kept s' kept2
    · rcases kb q hq with h | h
      · exact i8 q h
      · omega
    · obtain ⟨g', hor⟩ := inv j R hj
      rcases hor with hlt | hbf
      · obtain ⟨b, hb⟩ : ∃ b, G[j]? = some b := ⟨_, List.getElem?_eq_getElem (show j < G.length by omega)⟩
        have hne : j ≠ z.j7 := fun e => by rw [e, q7] at g'; cases g'
        have := keepG j b (by omega) hne (low j hlt) hb
        rw [g'] at this
        obtain rfl := Option.some.inj this
        have := i9 j R hb
        rwa [ag' j (by omega)] at this
      · obtain ⟨ss, hss⟩ := SlAt.bufOwn s' hbf
        rw [g'] at hss; cases hss
theorem assign_one {l n id : Nat} {K : Act → World → Prop} {a : Act} {w : World} (h : K (a.put (some 8) (a.eval (.tmp 17))) w) : (Code.region id opsA false).wpIn (Fence.wide.inRound l) n Tryz.prog (Exit.then K fun _ _ _ => False) a w := by
  refine region_round (fun ⟨_, _, h⟩ => h.elim) (fun o ho c hc => ?_) ?_
  · have : opsA.toList = [opsA[0]] := rfl
    rw [this, List.mem_singleton] at ho
    subst ho
    cases hc
  · show wpOps Tryz.prog opsA _ [0] a w
    refine .inl ?_
    exact h
theorem chK_trans {B1 B2 : Nat} {X Y Z : World} (h : chK B1 B2 X Y) (k : chK B1 B2 Y Z) : chK B1 B2 X Z := ⟨k.1.trans h.1, k.2.trans h.2⟩
theorem ch_den {τ : Sg} {rec : ByteArray} {z : CJ} (h : (τ z.jb).2 = 0) (x : Nat) : C.den τ (chC rec z x) = .slice (some ⟨(τ z.jb).1, 49 * x, none⟩) (min 49 (rec.size - 49 * x)) (min 49 (rec.size - 49 * x)) := by
  simp only [C.den, Sg.at, h, Nat.zero_add]
noncomputable abbrev c8 : Code := seqL cT
theorem cut_tail : cT = .seq c8 .ret := rfl
theorem cut_ct : HCtOkG Tryz.prog D.G1 47 hCut := by
  intro ws' H K h hr hb ho σ base w₀ w hw
  unfold hCut at h
  split at h
  · rename_i e rec
    obtain ⟨⟨h1, h2⟩, hK⟩ := h
    refine (callsIn_wide (n := 3)).1 ?_
    refine callsIn_of_wp_marks Tryz.func47 cut_body trivial ?_ rfl
    refine seq_step (n := 3) (cut_pre ho h1 h2) (frame_ok (ws := [.c (.ci .u32 e), .c (.cs rec)]) hr hb 32) ho (Nat.le_refl _) (frame_rep σ [.c (.ci .u32 e), .c (.cs rec)] 32) hw (Sg.agree.refl _ σ) fun τ1 fr1 H1 a1 w1 x1 q1 q2 q3 q4 q5 q6 => ?_
    refine seq_step x1 q1 q2 q3 q4 q5 q6 fun τ2 fr2 H2 a2 w2 x2 r1 r2 r3 r4 r5 r6 => ?_
    refine seq_step x2 r1 r2 r3 r4 r5 r6 fun τ3 fr3 H3 a3 w3 x3 s1 s2 s3 s4 s5 s6 => ?_
    refine seq_step x3 s1 s2 s3 s4 s5 s6 fun τ4 fr4 H4 a4 w4 x4 t1 t2 t3 t4 t5 t6 => ?_
    refine wpIn_seq (wpIn_seq (wpIn_wide.2 (wp_mono (XC7_spec x4 t1 t2 t3 t4 t5) ?_)))
    rintro ex a w' ⟨τ, fr', G0, ex, rfl, ⟨rfl, z, rfl, hz, g7⟩, k1, k2, k3, k4, k5, k6⟩
    show Code.wpIn _ _ _ cR _ a w'
    rw [cut_loop]
    refine wpIn_block ?_
    have hjb := k2.blk _ _ hz.gb
    have hb1 := k2.blk _ _ hz.g1
    have hb2 := k2.blk _ _ hz.gn
    obtain ⟨jb0, _, ob, jb1, _⟩ := hjb
    obtain ⟨b10, b11, b12⟩ := hb1
    obtain ⟨b20, b21, b22⟩ := hb2
    have lt1 : (τ z.b1).1 < w'.heap.size := (Array.getElem?_eq_some_iff.1 b12).1
    have lt2 : (τ z.b2).1 < w'.heap.size := (Array.getElem?_eq_some_iff.1 b22).1
    have hB : base ≤ w'.heap.size := Nat.le_trans k2.size k2.below.size
    refine wpIn_rangeFunc_ownH rfl (by omega) (gf := 129) (lb := #[.pointer (some ⟨(τ z.b1).1, 0, none⟩), .pointer (some ⟨(τ z.b2).1, 0, none⟩)]) ?hg trivial (enters_of Tryz.func129 (by kernel_rfl) rfl)
      (chunk_stops (3 - 1) (by omega) w' (τ z.b1).1 (τ z.b2).1 (τ z.jb).1 rec.size z.cap h2 hz.c1 ?c1 ?c2 lt1 lt2) chK_trans ?hKb (Below.refl _ _) (fun _ => rfl)
      (fun pre W => CutI τ base w₀ H G0 e rec z w'.heap.size (pre.map (·.1)) W) (fun _ _ _ => False) (fun pre W W' row hs hg hr => CutI.turn hB (pre.map (·.1)) W W' row hs hg hr) (fun _ _ _ _ _ hs _ _ => hs.elim) ?h0
      (fun x a' _ => FRep [] τ a' (frR e rec z x.1)) (fun x a' => ownFrom_pure _ _) ?assign ?body ?done ?stop
    case hg =>
      have := k4.rep 16 _ rfl
      show a.tmps.getD 16 undef = _
      rw [show a.tmps.getD 16 undef = _ from this]
      simp only [W.den, C.den, C.denL, Sg.at, b10, b20]
    case c1 =>
      unfold World.cell?
      simp [b12, dens, Seg.den, C.den, Sg.at, jb0]
    case c2 =>
      unfold World.cell?
      simp [b22, dens, Seg.den, C.den]
    case hKb =>
      intro W l o o' hl _ _ _
      exact ⟨World.putObj_heap_other (by omega), World.putObj_heap_other (by omega)⟩
    case h0 =>
      refine ⟨τ, G0, .csn, k2, k3, Sg.agree.refl _ _, Nat.le_refl _, hz, g7, .nil, fun q h => (by cases h), fun j R hj => ?_⟩
      obtain ⟨_, _, o, h, _⟩ := k2.blk _ _ hj
      exact (Array.getElem?_eq_some_iff.1 h).1
    case stop =>
      intro D c pre W _ _ h
      exact h.elim
    case assign =>
      intro l pre x W Kk hI hK
      have ea : ({ tmps := (Array.zip #[17] (chE (τ z.jb).1 rec.size x)).foldl (fun t (p, v) => t.setIfInBounds p v) a.tmps, defers := [] } : Act) = a.put (some 17) (C.den τ (chC rec z x.1)) := by
        rw [ch_den jb0]
        have hd := k4.dfr
        cases a
        simp only at hd
        subst hd
        simp [chE, Act.put]
      rw [ea]
      have f1 : FRep [] τ (a.put (some 17) (C.den τ (chC rec z x.1))) (putF (frC e rec z) (some 17) (.w (.c (chC rec z x.1)))) := FRep.put k4 rfl
      refine assign_one (hK _ _ (Go.KeepsFrom.refl _ _) ⟨rfl, rfl⟩ hI ?_)
      have f2 := FRep.put f1 (d := some 8) (x := .w (.c (chC rec z x.1))) (v := (a.put (some 17) (C.den τ (chC rec z x.1))).eval (.tmp 17)) (f1.rep 17 _ rfl)
      exact f2
    case body =>
      rintro l pre x a' W hl hr hI hA hlen
      have hx : 49 * x.1 < rec.size := by have := x.2; omega
      have hfo : FOk G0.length (frR e rec z x.1) := by
        have c1 : (V.w (.c (chC rec z x.1))).ok G0.length := ⟨⟨Nat.le_refl _, by show min 49 (rec.size - 49 * x.1) ≤ _; omega⟩, get_blt hz.gb⟩
        exact FOk.put (FOk.put k5 (d := some 17) c1) (d := some 8) c1
      refine wpIn_block (wpIn_mono (region_round (nOut_no _) ?_ (round_ok hB hz ⟨_, g7⟩ hI hA hfo (by rw [List.length_map]; omega) hx h2)) ?_)
      · have : (opsB.toList.all fun o => match o.op with | .defer _ => false | _ => true) = true := by kernel_rfl
        intro o ho c hc
        have := List.all_eq_true.1 this o ho
        rw [hc] at this
        cases this
      · rintro e' a'' W' ⟨rfl, b1, b2, b3⟩
        refine ⟨b1, b2, ?_⟩
        show CutI τ base w₀ H G0 e rec z w'.heap.size ((pre ++ [x]).map (·.1)) W'
        rw [List.map_append]
        exact b3
    case done =>
      rintro Dq xs W hD hS hI hDk
      have hxs : xs.map (·.1) = List.range (npc rec) := hS
      rw [hxs] at hI
      obtain ⟨τI, G, v, i1, i2, i3, i4, i5, i6, i7, i8, i9⟩ := hI
      rw [rowsP_all] at i7
      show Code.wpIn _ _ _ cT _ _ W
      rw [cut_tail]
      have hO := Rep.others i1 i2 hB i9
      have oO := others_ok (B := w'.heap.size) (W := W) i2
      have uO := up_others (B := w'.heap.size) (W := W) i2
      have lO : G.length ≤ (G ++ others w'.heap.size W).length := uO.len
      have aO : Sg.agree G0.length τ (sgO τI G.length w'.heap.size W) := i3.trans ((sgO_agree τI G.length w'.heap.size W).mono i4)
      have fD : FRep [{ target := Target.collected Dq, args := #[] }] (sgO τI G.length w'.heap.size W) { a with defers := { target := .collected Dq, args := #[] } :: a.defers } (frC e rec z) :=
        FRep.agree aO (⟨by rw [k4.dfr], k4.size, k4.rep⟩ : FRep [{ target := Target.collected Dq, args := #[] }] τ { a with defers := { target := .collected Dq, args := #[] } :: a.defers } (frC e rec z)) k5
      have g7O := uO.keep _ _ i6 rfl
      refine wpIn_seq (wpIn_wide.2 (wp_mono (XC7_spec (c := c8) (lo := (G ++ others w'.heap.size W).length) (H := G ++ others w'.heap.size W) (fr := frC e rec z) (Q := fun ex fr' G' => ex = .normal ∧ (fr'[4]? = some (.w (.c v)) ∧ fr'[5]? = some (.w (i64 0))) ∧ G' = G ++ others w'.heap.size W) ?_ (k5.mono (Nat.le_trans i4 lO)) oO (Nat.le_refl _) fD hO) ?_))
      · repeat' ((conv => whnf); first | (refine lenH_is ?_) | (refine pushH_at ?_) | (refine setH_as (set_top _ _ _) ?_) | (refine setH_as (set_low _ _ _ _) ?_) | (refine setH_as (set_top' _ _ _ _ _) ?_) | (refine hGet_at (g7O) ?_) | (refine And.intro ?_ trivial) | (refine And.intro rfl ?_) | (refine And.intro (And.intro (by decide) (by decide)) ?_) | (refine And.intro (And.intro (by decide) (And.intro (by decide) (by decide))) ?_) | (refine And.intro (Nat.le_of_ble_eq_true rfl) (And.intro (Nat.le_of_ble_eq_true rfl) ?_)) | (refine And.intro (Nat.le_of_ble_eq_true rfl) ?_) | (refine ask_false (by omega) ?_) | (refine ask_true (by omega) ?_) | (refine ask_wrap64 (by omega) (by omega) ?_) | (refine And.intro (And.intro (by omega) (by omega)) ?_) | (refine fun (_ : InK _ _) => ?_) | (refine ⟨by kernel_rfl, ?_⟩) | fail)
        exact ⟨⟨rfl, rfl⟩, rfl⟩
      · rintro ex a2 w2 ⟨τ2, fr2, G2, ex, rfl, ⟨rfl, ⟨e4, e5⟩, rfl⟩, m1, m2, m3, m4, m5, m6⟩
        show Code.wpIn _ _ _ Code.ret _ a2 w2
        refine wpIn_ret ?_
        show LeavesInM _ _ _ _ _ _ _ _ _
        have hkeep := others_kept m2 m1 fun j R _ h => h
        have hD2 := hkeep.same Dq _ hD hDk rfl
        rw [m4.dfr]
        refine ⟨by simp, .inl ⟨Dq, _, rfl, run_takeDeferred hD2, ?_⟩⟩
        have ag : Sg.agree G.length τI τ2 := (sgO_agree τI G.length w'.heap.size W).trans (m1.mono lO)
        obtain ⟨GF, hGF⟩ : ∃ GF, GF = (G ++ others w'.heap.size W).mapIdx fun j b => match decide (j < G.length) with | true => b | false => Blk.gone := ⟨_, rfl⟩
        have lF : GF.length = (G ++ others w'.heap.size W).length := by rw [hGF, List.length_mapIdx]
        have kept : ∀ j b, G[j]? = some b → GF[j]? = some b := fun j b hb => by
          have hj := (List.getElem?_eq_some_iff.1 hb).1
          rw [hGF, List.getElem?_mapIdx, List.getElem?_append_left hj, hb]
          simp [hj]
        have inv : ∀ j R, GF[j]? = some (.obj R) → j < G.length ∧ G[j]? = some (.obj R) := fun j R hj => by
          rw [hGF, List.getElem?_mapIdx] at hj
          by_cases hl : j < G.length
          · rw [List.getElem?_append_left hl] at hj
            refine ⟨hl, ?_⟩
            cases hb : G[j]? with
            | none => rw [hb] at hj; cases hj
            | some b => rw [hb] at hj; simpa [hl] using hj
          · cases hb : (G ++ others w'.heap.size W)[j]? with
            | none => rw [hb] at hj; cases hj
            | some b => rw [hb] at hj; simp [hl] at hj
        have oF : HOk GF := by rw [hGF]; exact HOk.forget oO _
        have r0 : Rep D.G1 τ2 base w₀ w2 GF := by rw [hGF]; exact Rep.forget ⟨i1.below.trans m2.below, i1.size, m2.blk, m2.sep, m2.glo⟩ _
        have rF : Rep D.G1 τ2 base w₀ (w2.putObj Dq (.deferred none)) GF := Rep.turn r0 (grownBy_putObj' w2 Dq (.deferred none)) hB (fun r h => by cases h; exact ⟨hD, _, hD2, rfl⟩) fun j R hj => by
          obtain ⟨hl, hg⟩ := inv j R hj
          rw [← ag j hl]
          exact i9 j R hg
        have uF : UpT [] H GF := ⟨by have := i5.up.len; omega, fun i b hi hf => kept i b (i5.up.keep i b hi hf), oF.bnd⟩
        have sF : SlAt 127 6 GF v (cutRows e rec) := SlAt.kept i7 fun q hq => by
          obtain ⟨ss, hss⟩ := SlAt.bufOwn i7 hq
          rw [hss]; exact kept q _ hss
        have v4 : a2.tmps.getD 4 undef = C.den τ2 v := m4.rep 4 _ e4
        have v5 : a2.tmps.getD 5 undef = .int .i64 0 := m4.rep 5 _ e5
        have hres : (results Tryz.f47 a2.tmps).run Tryz.prog (w2.putObj Dq (.deferred none)) = .ok (.tuple #[C.den τ2 v, .int .i64 0]) (w2.putObj Dq (.deferred none)) := by
          refine results_run (vs := [C.den τ2 v, .int .i64 0]) ?_
          show (([ResultVar.tmp 4, ResultVar.tmp 5] : List ResultVar).mapM (rvS a2)).run _ _ = _
          simp [rvS, Act.eval, v4, v5, Sem.run_bind, Sem.run_pure]
        refine ⟨_, hres, τ2, .tup [.c v, i64 0], GF, _, rfl, rfl, hK GF v uF sF, ?_, rF, oF, ⟨⟨i7.rng, ?_, trivial⟩, and_t sF.bnd rfl⟩, uF.len⟩
        · exact ((t6.trans k1).trans (i3.mono k6)).trans (ag.mono (by omega))
        · show InK .i64 0
          simp only [InK, lowK, highK]; omega
  · exact h.elim
end R
end Go.Proofs.YtaficaacogcblaaGreatDoor
set_option linter.all false
namespace Go.Proofs.YtaficaacogcblaaGreatDoor
namespace R
open Go.RowKit (Below)
set_option maxRecDepth 100000
set_option maxHeartbeats 16000000
def entAt (w : World) (b o : Nat) (e : E3) : Prop := (InK .i64 e.1 ∧ InK .u32 e.2.1 ∧ e.2.2.size ≤ 9223372036854775807) ∧ w.cell? ⟨b, o, none⟩ = some (.int .i64 e.1) ∧ w.cell? ⟨b, o + 1, none⟩ = some (.int .u32 e.2.1) ∧ w.cell? ⟨b, o + 2, none⟩ = some (.string e.2.2)
def SlE (w : World) (v : Value) : Prop :=
  v = .slice none 0 0 ∨ ∃ (b o len cap : Nat) (es : List E3), v = .slice (some ⟨b, o, none⟩) len cap ∧ len ≤ cap ∧ cap ≤ 9223372036854775807 ∧ b < w.heap.size ∧ es.length = cap ∧ ∀ k e, es[k]? = some e → entAt w b (o + k * 3) e
theorem slE_of {H : Type} {enc : TypeId × Value → H} {P : Program} {w : World} {r : Reach} {base base' : Nat} {held : Bool} {t e : TypeId} {f0 f1 f2 : Field} {fuel : Nat} {v : Value} {x : DataW H × List MemPlace} (ht : P.underlying t = some (.slice e)) (he : P.underlying e = some (.struct #[f0, f1, f2])) (hc : P.cellsOf e = 3)
    (o0 : f0.offset = 0) (o1 : f1.offset = 1) (o2 : f2.offset = 2) (c0 : P.cellsOf f0.type = 1) (c1 : P.cellsOf f1.type = 1) (c2 : P.cellsOf f2.type = 1) (u0 : P.underlying f0.type = some (.int .i64)) (u1 : P.underlying f1.type = some (.int .u32)) (u2 : P.underlying f2.type = some .string)
    (hv : Value.okWide P w r base t v) (h : DataW.trod enc P w base' (fun _ => true) held fuel t v.cells.toList = some x) : SlE w v := by
  rcases Go.Deep.open_slice ht h with ⟨hcs, _⟩ | ⟨a, len, cap, m, n, D, Pl, hcs, _, hl, hm, hmm, _, hget⟩
  · left
    obtain ⟨p, l, c, rfl⟩ := Go.WideShapes.okWide_slice ht hv
    simp [Value.cells] at hcs
    obtain ⟨rfl, rfl, rfl⟩ := hcs
    rfl
  · right
    obtain ⟨p, l, c, rfl⟩ := Go.WideShapes.okWide_slice ht hv
    simp [Value.cells] at hcs
    obtain ⟨rfl, rfl, rfl⟩ := hcs
    have hok : w.has P r base a e c := by
      have := hv
      simp only [Value.okWide, ht, Cell.okWide, Cell.ok] at this
      exact this.2.2
    obtain ⟨_, hspot, row, cells, hsh, _⟩ := hok
    have hblk : a.block < w.heap.size := by
      rcases Nat.lt_or_ge a.block w.heap.size with h | h
      · exact h
      · simp [World.shape?, Array.getElem?_eq_none h] at hsh
    obtain ⟨b, o, sp⟩ := a
    simp only at hspot hblk
    subst hspot
    have hmc : m = c := by simpa using hmm
    subst hmc
    rw [hc] at hget
    have hX : ∀ i, i < m → ∃ z : E3, entAt w b (o + i * 3) z := fun i hi => by
      obtain ⟨cs', h1, h2⟩ := hget i hi
      obtain ⟨_, hlen, hcell⟩ := World.cells?_some h1
      obtain ⟨y0, y1, y2, n', _, _, t0, t1, t2⟩ := Go.Deep.trod_struct3 he h2
      rw [o0, c0] at t0
      rw [o1, c1] at t1
      rw [o2, c2] at t2
      obtain ⟨a0, e0, _, w0⟩ := DataW.trod_int u0 t0
      obtain ⟨a1, e1, _, w1⟩ := DataW.trod_int u1 t1
      obtain ⟨s, e2, _, w2⟩ := DataW.trod_string u2 t2
      have g : ∀ j u, (cs'.drop j).take 1 = [u] → cs'[j]? = some u := fun j u h => by
        have : ((cs'.drop j).take 1)[0]? = some u := by rw [h]; rfl
        rw [List.getElem?_take_of_lt (by decide), List.getElem?_drop, Nat.add_zero] at this
        exact this
      refine ⟨(a0, a1, s), ⟨inK_of_wf w0, inK_of_wf w1, by simpa only [maxLen] using w2⟩, ?_, ?_, ?_⟩
      · have := hcell 0 (by decide)
        rw [g 0 _ e0, Go.Deep.add_add, add_ne rfl] at this
        exact this
      · have := hcell 1 (by decide)
        rw [g 1 _ e1, Go.Deep.add_add, add_ne rfl] at this
        rw [← this, Nat.add_assoc]
      · have := hcell 2 (by decide)
        rw [g 2 _ e2, Go.Deep.add_add, add_ne rfl] at this
        rw [← this, Nat.add_assoc]
    obtain ⟨X, hX⟩ := Go.Deep.choose_lt hX
    refine ⟨b, o, l, m, (List.range m).map X, rfl, hl, by simpa only [maxLen] using hm, hblk, by simp, fun k e hk => ?_⟩
    have hi := (List.getElem?_eq_some_iff.1 hk).1
    simp at hi
    simp [hi] at hk
    rw [← hk]
    exact hX k hi
theorem ent_cells {w : World} {σ : Sg} {b : Nat} : ∀ (es : List E3) (o : Nat), (∀ k e, es[k]? = some e → entAt w b (o + k * 3) e) → ∀ (i : Nat) (v : Value), (dens σ (enRows es).flatten)[i]? = some v → w.cell? ⟨b, o + i, none⟩ = some v
  | [], _, _, i, v, h => by simp [enRows, dens] at h
  | e :: es, o, h, i, v, hv => by
    have h0 := h 0 e rfl
    rw [Nat.zero_mul, Nat.add_zero] at h0
    obtain ⟨_, c0, c1, c2⟩ := h0
    have hr : ∀ k e', es[k]? = some e' → entAt w b (o + 3 + k * 3) e' := fun k e' hk => by
      have := h (k + 1) e' hk
      rwa [show o + (k + 1) * 3 = o + 3 + k * 3 by omega] at this
    have hd : dens σ (enRows (e :: es)).flatten = [.int .i64 e.1, .int .u32 e.2.1, .string e.2.2] ++ dens σ (enRows es).flatten := rfl
    rw [hd] at hv
    match i, hv with
    | 0, hv => obtain rfl : Value.int .i64 e.1 = v := Option.some.inj hv; exact c0
    | 1, hv => obtain rfl : Value.int .u32 e.2.1 = v := Option.some.inj hv; exact c1
    | 2, hv => obtain rfl : Value.string e.2.2 = v := Option.some.inj hv; exact c2
    | i + 3, hv =>
      have := ent_cells es (o + 3) hr i v (by simpa using hv)
      rwa [show o + (i + 3) = o + 3 + i by omega]
theorem ent_rng {w : World} {b : Nat} : ∀ (es : List E3) (o : Nat), (∀ k e, es[k]? = some e → entAt w b (o + k * 3) e) → rngs (enRows es).flatten
  | [], _, _ => trivial
  | e :: es, o, h => by
    have h0 := (h 0 e rfl).1
    have hr : ∀ k e', es[k]? = some e' → entAt w b (o + 3 + k * 3) e' := fun k e' hk => by
      have := h (k + 1) e' hk
      rwa [show o + (k + 1) * 3 = o + 3 + k * 3 by omega] at this
    exact ⟨h0.1, h0.2.1, h0.2.2, ent_rng es (o + 3) hr⟩
theorem ent_bnd (n : Nat) : ∀ es : List E3, bnds n (enRows es).flatten = true
  | [] => rfl
  | e :: es => ent_bnd n es
abbrev first_type : TypeId := 203
theorem first_named : Tryz.prog.globalNamed "spool/level.first" = some 0 := by kernel_rfl
theorem first_typed : (Tryz.prog.globals[0]?).map (·.type) = some 203 := by kernel_rfl
theorem gw_of_tab {w : World} (h : Go.Lib.TabIs Tryz.prog w "spool/level.first" .i64 [0, 2, 4, 8, 16]) : GW D.G1 w := by
  have c : ∀ i : Nat, i < 5 → w.cell? ⟨0, i, none⟩ = some (.int .i64 (([0, 2, 4, 8, 16] : List Int).getD i 0)) := fun i hi => h.cell first_named i hi
  intro g ss hg
  unfold D.G1 at hg
  split at hg
  · rename_i hb
    obtain rfl := Nat.eq_of_beq_eq_true hb
    cases hg
    refine ⟨?_, rfl, fun i v hv => ?_⟩
    · rcases Nat.lt_or_ge 0 w.heap.size with hlt | hge
      · exact hlt
      · have := c 0 (by decide)
        unfold World.cell? at this
        simp [Array.getElem?_eq_none hge] at this
    · have hi : i < 5 := by
        have := (List.getElem?_eq_some_iff.1 hv).1
        simpa [dens, Seg.den] using this
      rw [c i hi]
      obtain rfl | rfl | rfl | rfl | rfl : i = 0 ∨ i = 1 ∨ i = 2 ∨ i = 3 ∨ i = 4 := by omega
      all_goals exact hv
  · cases hg
theorem log_calls {ws : List W} {R : List Blk} (hr : rngW ws) (hb : bndW R.length ws = true) (hR : HOk R) (h : walk6 FWl 2 Tryz.f3 ws R fun y _ => y = vb true) (σ : Sg) (w : World) (hro : ∀ (j : Nat) (b : Blk), R[j]? = some b → b.mine = false ∧ b.rep σ w.heap.size w j) (hg : GW D.G1 w) :
    Calls Tryz.prog 3 (ws.map (W.den σ)).toArray w fun e w' => e = .returned (.bool true) ∧ Below w.heap.size w w' := by
  refine (call_roG E6_ok (cal6_ok (FWl_ok cut_ct) 2) (drwY_ok E6_ok (FWl_ok cut_ct) mixed _ (cal6_ok (FWl_ok cut_ct) 2)) Tryz.func3 (x := vb true) rfl hr hb h hR σ w hro hg).mono ?_
  rintro e w' ⟨v, rfl, h1, h2⟩
  exact ⟨by rw [show v = _ from h1]; rfl, h2⟩
theorem law_WholeLog (W0 : World) (v : Value) (wv : SlE W0 v) (hg : GW D.G1 W0) : Calls Tryz.prog 3 #[v] W0 fun e w' => e = .returned (.bool true) ∧ Below W0.heap.size W0 w' := by
  rcases wv with rfl | ⟨b, o, len, cap, es, rfl, hl, hc, hbw, hlen, hent⟩
  · exact log_calls (ws := [.c .csn]) (R := []) ⟨trivial, trivial⟩ rfl C.nil_ok (log_walk C.nil_ok (.inl ⟨rfl, rfl⟩)) (fun _ => (0, 0)) W0 (fun j c hj => by simp at hj) hg
  · have hR : HOk [.ro (enRows es).flatten] := ⟨fun c hc => by rw [List.mem_singleton.1 hc]; exact ent_rng es o hent, fun c hc => by rw [List.mem_singleton.1 hc]; exact ent_bnd _ es⟩
    exact log_calls (ws := [.c (.csl 0 0 0 len cap)]) (R := [.ro (enRows es).flatten]) ⟨⟨hl, hc⟩, trivial⟩ rfl hR (log_walk hR (.inr ⟨0, len, cap, es, rfl, rfl, hlen, hl, hc, rfl⟩)) (fun _ => (b, o)) W0 (by
      intro j c hj
      match j, hj with
      | 0, hj => simp at hj; subst hj; exact ⟨rfl, hbw, fun i v hv => by simp only [Sg.at]; exact ent_cells es o hent i v hv⟩
      | j + 1, hj => simp at hj) hg
end R
end Go.Proofs.YtaficaacogcblaaGreatDoor
