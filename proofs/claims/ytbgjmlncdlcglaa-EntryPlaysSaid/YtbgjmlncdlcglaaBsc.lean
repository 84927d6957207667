/- The builder of strings: writes, walked. -/
import Derived.Test.YtbgjmlncdlcglaaBsb
set_option linter.all false
namespace Go.Proofs.Ytbgjmlncdlcglaa
open Go.RowKit (Below)
open Go.Shelf
set_option maxRecDepth 100000
set_option maxHeartbeats 4000000

noncomputable def FBd : Fns := F0.over 96 hCheck
theorem FBd_ok : FnsOk Try.prog FBd := F0_ok.over check_hct Try.func96 (by kernel_rfl) (by kernel_rfl)
abbrev nilI : W := .c (.cv .nilIface)
theorem get_set_self {H H1 : List Blk} {j : Nat} {b c : Blk} (hj : H[j]? = some c) (h : H1 = H.set j b) : H1[j]? = some b := by
  rw [h, List.getElem?_set_self (List.getElem?_eq_some_iff.1 hj).1]
theorem get_set_other {H H1 : List Blk} {j k : Nat} {b : Blk} {o : Option Blk} (hk : H[k]? = o) (hne : j ≠ k) (h : H1 = H.set j b) : H1[k]? = o := by
  rw [h, List.getElem?_set_ne hne, hk]
theorem get_push {H H1 : List Blk} {j : Nat} {b c : Blk} (hj : H[j]? = some c) (h : H1 = H ++ [b]) : H1[j]? = some c := by
  rw [h, List.getElem?_append_left (List.getElem?_eq_some_iff.1 hj).1, hj]
theorem get_last {H H1 : List Blk} {b : Blk} (h : H1 = H ++ [b]) : H1[H.length]? = some b := by
  rw [h]; simp
theorem get_push_low {H H1 : List Blk} {i : Nat} {b : Blk} (hi : i < H.length) (h : H1 = H ++ [b]) : H1[i]? = H[i]? := by
  rw [h, List.getElem?_append_left hi]
theorem ebt : (Try.prog.types[bt]).bytes = 1 := rfl
theorem ws_fresh (H : List Blk) (j : Nat) (s : ByteArray) (hj : H[j]? = some (bld0 .csn)) (h0 : 0 < (bytesI s).length) (h1 : (bytesI s).length ≤ 1099511627776) :
    walk FBd 0 Try.f73 [.c (.cp j 0), .c (.cs s)] H fun y H' => ∃ a c ys, Wrote H j j (.tup [i64 s.size, nilI]) (bytesI s) y H' a c ys := by
  have hl := bytesI_len s
  conv => whnf
  refine lenH_of ?_
  conv => whnf
  refine ⟨j, .csn, rfl, .inl ⟨hj, setH_of fun H1 e1 => ?_⟩⟩
  have hj1 := get_set_self hj e1
  conv => whnf
  refine hGet_of hj1 ?_
  conv => whnf
  refine ⟨⟨rfl, by omega, by rw [ebt, Nat.mul_one]; omega⟩, fun c hc hc2 => ?_⟩
  conv => whnf
  refine lenH_of ?_
  conv => whnf
  refine pushH_of fun H2 e2 => ?_
  have hj2 := get_push hj1 e2
  have hn2 := get_last e2
  conv => whnf
  refine hGet_of hj2 ?_
  conv => whnf
  refine setH_of fun H3 e3 => ?_
  have hj3 := get_set_self hj2 e3
  have hl1 : H1.length = H.length := by rw [e1]; simp
  have hjl := (List.getElem?_eq_some_iff.1 hj).1
  have hn3 := get_set_other hn2 (by omega) e3
  conv => whnf
  refine ⟨H1.length, c, _, ⟨rfl, fun i hi h2 _ => ?_, by rw [hl]; exact hj3, hn3, .inl (by omega), by omega, List.take_left⟩⟩
  rw [get_set_other rfl (Ne.symm h2) e3, get_push_low (by omega) e2, get_set_other rfl (Ne.symm h2) e1]
theorem ws_used (H : List Blk) (j k len cap : Nat) (xs : List Int) (s : ByteArray) (ho : HOk H) (hjk : j ≠ k) (hj : H[j]? = some (bldr j (.csl k 0 0 len cap))) (hk : H[k]? = some (buf cap xs)) (hlc : len ≤ cap) (h1 : len + (bytesI s).length ≤ 1099511627776) :
    walk FBd 0 Try.f73 [.c (.cp j 0), .c (.cs s)] H fun y H' => ∃ a c ys, Wrote H j k (.tup [i64 s.size, nilI]) (xs.take len ++ bytesI s) y H' a c ys := by
  have hl := bytesI_len s
  have hxl : xs.length = cap := (ho.rng _ (List.mem_of_getElem? hk)).1.1
  have hbl : (xs.take len ++ bytesI s).length = len + s.size := by simp; omega
  conv => whnf
  refine lenH_of ?_
  conv => whnf
  refine ⟨j, _, rfl, .inr ⟨hj, ?_⟩⟩
  conv => whnf
  refine hGet_of hj ?_
  conv => whnf
  refine hGet_of hk ?_
  conv => whnf
  refine ⟨⟨rfl, rfl, by omega, by rw [ebt, Nat.mul_one]; omega⟩, fun hroom => ?_, fun hgrow => ?_⟩
  · conv => whnf
    refine setH_of fun H2 e2 => ?_
    have hj2 := get_set_other hj (Ne.symm hjk) e2
    have hk2 := get_set_self hk e2
    conv => whnf
    refine hGet_of hj2 ?_
    conv => whnf
    refine setH_of fun H3 e3 => ?_
    have hj3 := get_set_self hj2 e3
    have hk3 := get_set_other hk2 hjk e3
    conv => whnf
    refine ⟨k, cap, _, ⟨rfl, fun i hi h2 h3 => ?_, by rw [hbl]; exact hj3, hk3, .inr ⟨rfl, Ne.symm hjk⟩, by omega, ?_⟩⟩
    · rw [get_set_other rfl (Ne.symm h2) e3, get_set_other rfl (Ne.symm h3) e2]
    · rw [hbl, List.take_append_of_le_length (by omega), List.take_of_length_le (by omega)]
  · intro c hc hc2
    conv => whnf
    refine lenH_of ?_
    conv => whnf
    refine pushH_of fun H2 e2 => ?_
    have hj2 := get_push hj e2
    have hn2 := get_last e2
    conv => whnf
    refine hGet_of hj2 ?_
    conv => whnf
    refine setH_of fun H3 e3 => ?_
    have hj3 := get_set_self hj2 e3
    have hjl := (List.getElem?_eq_some_iff.1 hj).1
    have hn3 := get_set_other hn2 (by omega) e3
    conv => whnf
    refine ⟨H.length, c, _, ⟨rfl, fun i hi h2 _ => ?_, by rw [hbl]; exact hj3, hn3, .inl (by omega), by omega, List.take_left⟩⟩
    rw [get_set_other rfl (Ne.symm h2) e3, get_push_low hi e2]
def hWS : HCt := fun ws H K => ∃ (j : Nat) (s : ByteArray), ws = [.c (.cp j 0), .c (.cs s)] ∧ hWr (bytesI s) (.tup [i64 s.size, nilI]) j H K
theorem ws_hct : HCtOk Try.prog 73 hWS := by
  rintro ws H K ⟨j, s, rfl, h⟩ hr hb ho G σ base w₀ w hw
  have h63 : s.size ≤ 9223372036854775807 := hr.2.1
  refine hWr_of h ho ⟨⟨by simp only [W.rng, C.rng, InK, lowK, highK]; omega, trivial, trivial⟩, rfl⟩ hw (fun hj g1 g2 => ?_) (fun k len cap xs hjk hj hk g1 g2 => ?_)
  · exact walk_hct FBd_ok Try.func73 hr hb ho (ws_fresh H j s hj g1 g2) hw
  · exact walk_hct FBd_ok Try.func73 hr hb ho (ws_used H j k len cap xs s ho hjk hj hk g1 g2) hw

theorem wb_fresh (H : List Blk) (j : Nat) (x : Int) (hj : H[j]? = some (bld0 .csn)) :
    walk FBd 0 Try.f74 [.c (.cp j 0), .c (.ci .u8 x)] H fun y H' => ∃ a c ys, Wrote H j j (.w nilI) [x] y H' a c ys := by
  conv => whnf
  refine lenH_of ?_
  conv => whnf
  refine ⟨j, .csn, rfl, .inl ⟨hj, setH_of fun H1 e1 => ?_⟩⟩
  have hj1 := get_set_self hj e1
  have hl1 : H1.length = H.length := by rw [e1]; simp
  have hjl := (List.getElem?_eq_some_iff.1 hj).1
  conv => whnf
  refine hGet_of hj1 ?_
  conv => whnf
  refine And.intro rfl ?_
  conv => whnf
  refine lenH_of ?_
  conv => whnf
  refine pushH_of fun H2 e2 => ?_
  have hj2 := get_push hj1 e2
  have hn2 := get_last e2
  have hl2 : H2.length = H1.length + 1 := by rw [e2]; simp
  conv => whnf
  refine And.intro rfl ?_
  conv => whnf
  refine hGet_of hn2 ?_
  conv => whnf
  refine And.intro (by decide) ?_
  conv => whnf
  refine ⟨⟨by decide, by decide, by decide⟩, fun c hc hc2 => ?_⟩
  conv => whnf
  refine lenH_of ?_
  conv => whnf
  refine pushH_of fun H3 e3 => ?_
  have hj3 := get_push hj2 e3
  have hn3 := get_last e3
  conv => whnf
  refine hGet_of hj3 ?_
  conv => whnf
  refine setH_of fun H4 e4 => ?_
  have hj4 := get_set_self hj3 e4
  have hn4 := get_set_other hn3 (by omega) e4
  conv => whnf
  refine ⟨H2.length, c, _, ⟨rfl, fun i hi h2 _ => ?_, hj4, hn4, .inl (by omega), hc, rfl⟩⟩
  rw [get_set_other rfl (Ne.symm h2) e4, get_push_low (by omega) e3, get_push_low (by omega) e2, get_set_other rfl (Ne.symm h2) e1]
theorem wb_used (H : List Blk) (j k len cap : Nat) (xs : List Int) (x : Int) (ho : HOk H) (hjk : j ≠ k) (hj : H[j]? = some (bldr j (.csl k 0 0 len cap))) (hk : H[k]? = some (buf cap xs)) (hlc : len ≤ cap) (h1 : len + 1 ≤ 1099511627776) :
    walk FBd 0 Try.f74 [.c (.cp j 0), .c (.ci .u8 x)] H fun y H' => ∃ a c ys, Wrote H j k (.w nilI) (xs.take len ++ [x]) y H' a c ys := by
  have hxl : xs.length = cap := (ho.rng _ (List.mem_of_getElem? hk)).1.1
  have hbl : (xs.take len ++ [x]).length = len + 1 := by simp; omega
  have hjl := (List.getElem?_eq_some_iff.1 hj).1
  have hkl := (List.getElem?_eq_some_iff.1 hk).1
  conv => whnf
  refine lenH_of ?_
  conv => whnf
  refine ⟨j, _, rfl, .inr ⟨hj, ?_⟩⟩
  conv => whnf
  refine hGet_of hj ?_
  conv => whnf
  refine And.intro rfl ?_
  conv => whnf
  refine lenH_of ?_
  conv => whnf
  refine pushH_of fun H2 e2 => ?_
  have hj2 := get_push hj e2
  have hk2 := get_push hk e2
  have hn2 := get_last e2
  have hl2 : H2.length = H.length + 1 := by rw [e2]; simp
  conv => whnf
  refine And.intro rfl ?_
  conv => whnf
  refine hGet_of hn2 ?_
  conv => whnf
  refine And.intro (by decide) ?_
  conv => whnf
  refine hGet_of hk2 ?_
  conv => whnf
  refine ⟨⟨rfl, by omega, by rw [ebt, Nat.mul_one]; omega⟩, fun hroom => ?_, fun hgrow => ?_⟩
  · conv => whnf
    refine setH_of fun H3 e3 => ?_
    have hj3 := get_set_other hj2 (Ne.symm hjk) e3
    have hk3 := get_set_self hk2 e3
    conv => whnf
    refine hGet_of hj3 ?_
    conv => whnf
    refine setH_of fun H4 e4 => ?_
    have hj4 := get_set_self hj3 e4
    have hk4 := get_set_other hk3 hjk e4
    conv => whnf
    refine ⟨k, cap, _, ⟨rfl, fun i hi h2 h3 => ?_, by rw [hbl]; exact hj4, hk4, .inr ⟨rfl, Ne.symm hjk⟩, by omega, ?_⟩⟩
    · rw [get_set_other rfl (Ne.symm h2) e4, get_set_other rfl (Ne.symm h3) e3, get_push_low hi e2]
    · rw [hbl]
      show ((xs.take len ++ [x]) ++ _).take (len + 1) = _
      rw [List.take_append_of_le_length (by omega), List.take_of_length_le (by omega)]
  · intro c hc hc2
    conv => whnf
    refine lenH_of ?_
    conv => whnf
    refine pushH_of fun H3 e3 => ?_
    have hj3 := get_push hj2 e3
    have hn3 := get_last e3
    conv => whnf
    refine hGet_of hj3 ?_
    conv => whnf
    refine setH_of fun H4 e4 => ?_
    have hj4 := get_set_self hj3 e4
    have hn4 := get_set_other hn3 (by omega) e4
    conv => whnf
    refine ⟨H2.length, c, _, ⟨rfl, fun i hi h2 _ => ?_, by rw [hbl]; exact hj4, hn4, .inl (by omega), by omega, List.take_left⟩⟩
    rw [get_set_other rfl (Ne.symm h2) e4, get_push_low (by omega) e3, get_push_low hi e2]
def hWB : HCt := fun ws H K => ∃ (j : Nat) (x : Int), ws = [.c (.cp j 0), .c (.ci .u8 x)] ∧ hWr [x] (.w nilI) j H K
theorem wb_hct : HCtOk Try.prog 74 hWB := by
  rintro ws H K ⟨j, x, rfl, h⟩ hr hb ho G σ base w₀ w hw
  refine hWr_of h ho ⟨trivial, rfl⟩ hw (fun hj g1 g2 => ?_) (fun k len cap xs hjk hj hk g1 g2 => ?_)
  · exact walk_hct FBd_ok Try.func74 hr hb ho (wb_fresh H j x hj) hw
  · exact walk_hct FBd_ok Try.func74 hr hb ho (wb_used H j k len cap xs x ho hjk hj hk g1 g2) hw

/-! ### the string -/
def goneMine : Blk → Blk
  | .ro ss => .ro ss
  | _ => .gone
def hSt : HCt := fun ws H K => ∃ (j k len cap : Nat) (xs : List Int), ws = [.c (.cp j 0)] ∧ H[j]? = some (bldr j (.csl k 0 0 len cap)) ∧ H[k]? = some (buf cap xs) ∧ 0 < len ∧ len ≤ 1099511627776 ∧ len ≤ cap ∧ ∀ H', H' = H.map goneMine → K (.w (.c (.cs (strOfNums (xs.take len))))) H'
theorem byteCells_of {xs : List Int} (h : ∀ x ∈ xs, InK .u8 x) : Lib.byteCells (xs.map fun x => UInt8.ofNat x.toNat) = xs.map (Value.int .u8) := by
  simp only [Lib.byteCells, List.map_map]
  refine List.map_congr_left fun x hx => ?_
  have := h x hx
  simp only [InK, lowK, highK] at this
  have hx' : (UInt8.ofNat x.toNat).toNat = x.toNat := by
    rw [UInt8.toNat_ofNat']; omega
  simp only [Function.comp_apply, hx']
  congr 1; omega
theorem st_hct : HCtOk Try.prog 75 hSt := by
  rintro ws H K ⟨j, k, len, cap, xs, rfl, hj, hk, h0, hmx, hlc, hK⟩ hr hb ho G σ base w₀ w hw
  have hjk : j ≠ k := fun e => by subst e; rw [hj] at hk; cases hk
  obtain ⟨b1, b2, b3⟩ := hw.blk j _ hj
  obtain ⟨k1, k2, k3⟩ := hw.blk k _ hk
  have hrk := ho.rng _ (List.mem_of_getElem? hk)
  have hrj := ho.rng _ (List.mem_of_getElem? hj)
  have hxl : xs.length = cap := hrk.1.1
  have hcap : cap ≤ 9223372036854775807 := hrj.2.1.2
  have b4 : w.heap[(σ j).1]? = some (.cells #[.pointer (some ⟨(σ j).1, 0, none⟩), .slice (some ⟨(σ k).1, 0, none⟩) len cap] bT (0, 0)) := by simpa [dens, Seg.den, C.den, Sg.at, b1, k1] using b3
  have k4 : w.heap[(σ k).1]? = some (.cells (xs.map (Value.int .u8)).toArray bt (0, 0)) := by simpa [dens, Seg.den] using k3
  have hne := hw.sep j k _ _ hj hk rfl rfl hjk
  have hin : ∀ x ∈ xs.take len, InK .u8 x := fun x hx => hrk.1.2 x (List.mem_of_mem_take hx)
  have hbs : Lib.IsBuilder bT bt base (σ j).1 (Lib.byteCells ((xs.take len).map fun x => UInt8.ofNat x.toNat)) w := by
    refine .inr ⟨b2, _, b4, ⟨by simp [Lib.byteCells], .inr ⟨(σ k).1, cap, _, ?_, k2, k4, by simp [Lib.byteCells]; omega, hcap, by simp [hxl], ?_⟩⟩, ?_⟩
    · simp [Lib.byteCells]; omega
    · rw [byteCells_of hin]
      simp only [List.length_map, List.length_take, Nat.mul_one, List.map_take]
      rw [Nat.min_eq_left (by omega)]
    · simp only [Value.ownBlock]
      intro e
      exact hne (Option.some.inj e).symm
  have args : (([.c (.cp j 0)] : List W).map (W.den σ)).toArray = #[.pointer (some ⟨(σ j).1, 0, none⟩)] := by simp [W.den, C.den, Sg.at, b1]
  rw [args]
  refine (Try.Builder_String base (σ j).1 _ w hbs (fun e => by
    have := congrArg List.length e
    simp only [List.length_map, List.length_take, List.length_nil] at this
    omega)).mono ?_
  rintro e w' ⟨rfl, hbel⟩
  refine ⟨σ, .w (.c (.cs (strOfNums (xs.take len)))), H.map goneMine, _, rfl, rfl, hK _ rfl, Sg.agree.refl _ _, ⟨hw.below.trans hbel, hw.size, fun i b hi => ?_, fun i i' b b' hi hi' hbm hbm' hne => ?_, fun g ss hg => ?_⟩, ⟨fun b hb' => ?_, fun b hb' => ?_⟩, ⟨?_, rfl⟩, by simp⟩
  · rw [List.getElem?_map] at hi
    cases hH : H[i]? with
    | none => rw [hH] at hi; cases hi
    | some b0 =>
      rw [hH] at hi
      simp at hi
      subst hi
      cases b0 with
      | ro ss =>
        obtain ⟨r1, r2⟩ := hw.blk i _ hH
        refine ⟨r1, fun q v hv => ?_⟩
        rw [cell_eq_of_block (w := w) (hbel.block _ r1)]
        exact r2 q v hv
      | _ => trivial
  · rw [List.getElem?_map] at hi
    cases hH : H[i]? with
    | none => rw [hH] at hi; cases hi
    | some b0 =>
      rw [hH] at hi
      simp at hi
      subst hi
      cases b0 <;> cases hbm
  · obtain ⟨g1, g2, g3⟩ := hw.glo g ss hg
    refine ⟨g1, g2, fun i u hu => ?_⟩
    rw [cell_eq_of_block (w := w) (hbel.block _ g1)]
    exact g3 i u hu
  · obtain ⟨b0, h1, rfl⟩ := List.mem_map.1 hb'
    cases b0 with
    | ro ss => exact ho.rng _ h1
    | _ => trivial
  · obtain ⟨b0, h1, rfl⟩ := List.mem_map.1 hb'
    cases b0 with
    | ro ss =>
      show (Blk.ro ss).bnd (H.map goneMine).length = true
      rw [List.length_map]; exact ho.bnd _ h1
    | _ => rfl
  · show (strOfNums (xs.take len)).size ≤ _
    rw [strOfNums_size]; simp; omega
end Go.Proofs.Ytbgjmlncdlcglaa
