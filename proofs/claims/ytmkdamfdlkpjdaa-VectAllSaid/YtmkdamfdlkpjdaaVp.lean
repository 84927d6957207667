/- Chapter vect: the law VectAll, walked. -/
import Derived.Test.YtmkdamfdlkpjdaaVo
set_option linter.all false
namespace Go.Proofs.Ytmkdamfdlkpjdaa
open Go.RowKit (Below)
open Go.WideMaps
set_option maxRecDepth 100000
set_option maxHeartbeats 32000000

noncomputable def FVA : Fns := FS.over 25 (hAll 4)
theorem FVA_ok : FnsOk Try.prog FVA := FS_ok.over (all_ct 4) Try.func25 (by kernel_rfl) (by kernel_rfl)
theorem bndH_all {n : Nat} : ∀ {H : List Blk}, bndH n H = true → ∀ b ∈ H, b.bnd n = true
  | b :: H, h, c, hc => by
    have h' : (b.bnd n && bndH n H) = true := h
    rw [Bool.and_eq_true] at h'
    rcases List.mem_cons.1 hc with rfl | hc
    · exact h'.1
    · exact bndH_all h'.2 c hc
theorem all_law (n k : Int) (hn : 0 ≤ n ∧ n ≤ 255) (hk : 0 ≤ k ∧ k ≤ 255) : walk FVA 0 Try.f10 [u8 n, u8 k] [] fun y _ => y = vb true := by
  repeat' ((conv => whnf); first | (refine ask_false (by decide) ?_) | (refine ask_wrap64 (by omega) (by omega) ?_) | (refine And.intro (by decide) ?_) | fail)
  conv => whnf
  intro m hm
  have hm' : 0 ≤ m ∧ m ≤ 4 := by rw [hm, Int.tmod_eq_emod_of_nonneg hn.1]; omega
  clear hm
  repeat' ((conv => whnf); first | (refine ask_wrap64 (by omega) (by omega) ?_) | (refine And.intro (by omega) ?_) | fail)
  conv => whnf
  intro q hq
  have hq' : 0 ≤ q ∧ q ≤ 5 := by rw [hq, Int.tmod_eq_emod_of_nonneg hk.1]; omega
  clear hq
  conv => whnf
  refine And.intro ⟨⟨by omega, by omega, by omega⟩, by omega, by omega⟩ fun c N hok hrows => ?_
  have e0 : ([] : List Blk) ++ N = N := rfl
  have hrows' : RowsAt (fun _ => True) N c (allV m.toNat q) := hrows.mono fun p b hp hb => ⟨trivial, hb⟩
  have hlen : ((allV m.toNat q).length : Int) = cC m q := by
    rw [allV_len m.toNat (by omega) q (by omega), Int.toNat_of_nonneg hm'.1, cC_def, if_pos (by omega)]
  have hmem : ∀ y ∈ allV m.toNat q, y.length = m.toNat ∧ sumA y y.length = q := allV_of _ _ (by omega)
  have hrank : ∀ (i : Nat) y, (allV m.toNat q)[i]? = some y → rank y q = i := allV_rank m.toNat (by omega) q (by omega)
  have hok' : HOk N := hok
  clear hrows hok
  have hin := cC_in m q
  conv => whnf
  generalize allV m.toNat q = L at *
  refine loop_at2 (8 :: 9 :: 10 :: List.range' 22 24) (fun j (i : Int) (U : List Blk) => (0 ≤ i ∧ i ≤ L.length) ∧ j = (L.length - i).toNat ∧ bndH U.length U = true ∧ RowsAt (fun _ => True) U c L) (fun i _ => [(8, vi i)]) (fun _ U => U) L.length 0 N ⟨by omega, by omega, bndH_of hok'.bnd, hrows'⟩ ?_ ?_
  · have e1 := hrows'.cell
    refine ⟨rfl, ⟨⟨Nat.le_of_ble_eq_true rfl, rfl⟩, trivial⟩, wkH_refl _, ?_, bndH_of hok'.bnd, Nat.zero_le _⟩
    repeat' (first | rfl | exact e1 | refine and_t ?_ ?_)
  · rintro j i U ⟨hi, rfl, hU, hr⟩
    clear hrows' hok'
    rcases Int.lt_or_le i L.length with i2 | i2
    · rcases hr with ⟨hL, _⟩ | ⟨b, cs, hc, ok, le, mx, at', rows⟩
      · rw [hL] at i2; simp at i2; omega
      · subst hc
        have em : mulN i.toNat (Try.prog.types[22]).size = i.toNat := mulN1 i.toNat
        obtain ⟨y, hy⟩ : ∃ y, L[i.toNat]? = some y := ⟨_, List.getElem?_eq_getElem (by omega)⟩
        obtain ⟨d, hd1, hd2⟩ := rows _ _ hy
        obtain ⟨p, zs, hd, okq, hz, mz, atq⟩ := hd2
        subst hd
        have hmy := hmem y (List.mem_of_getElem? hy)
        have hry := hrank _ _ hy
        have lz : y.length ≤ zs.length := by have := congrArg List.length hz; simp at this; omega
        repeat' ((conv => whnf); first | (refine ask_true (by omega) ?_) | fail)
        conv => whnf
        refine And.intro (fun hn => absurd ⟨by omega, by omega⟩ hn) (fun _ A hA => ?_)
        obtain rfl : A = y := rank_inj (by rw [hA.1, hmy.1]) (by rw [hA.1]; omega) (k := q) (by omega) hA.2.1 hmy.2 (by rw [hA.2.2, hry]; omega)
        refine And.intro (fun hnil => ?_) (fun hne c2 rest g1 g2 g3 => ?_)
        · repeat' ((conv => whnf); first | (refine ask_false (by decide) ?_) | (refine And.intro (by omega) ?_) | fail)
          conv => whnf
          refine hGet_at at' ?_
          conv => whnf
          refine load_ones (by kernel_rfl) (by rw [Nat.zero_add]; exact em) hd1 ?_
          conv => whnf
          refine And.intro ⟨rfl, rfl⟩ ?_
          conv => whnf
          refine hGet_at atq ?_
          conv => whnf
          refine And.intro rfl ?_
          conv => whnf
          refine And.intro (by rw [hnil]; rfl) ?_
          repeat' ((conv => whnf); first | (refine ask_false (by decide) ?_) | (refine ask_wrap64 (by omega) (by omega) ?_) | fail)
          conv => whnf
          have e1 : (C.csl b 0 0 L.length cs.length).bnd U.length = true := by simp [C.bnd, (List.getElem?_eq_some_iff.1 at').1]
          refine ⟨(L.length - (i + 1)).toNat, (i + 1, U), by omega, ⟨⟨by show 0 ≤ i + 1; omega, by show i + 1 ≤ L.length; omega⟩, rfl, hU, .inr ⟨b, cs, rfl, ok, le, mx, at', rows⟩⟩, rfl, ⟨⟨Nat.le_of_ble_eq_true rfl, rfl⟩, trivial⟩, wkH_refl _, ?_, hU, Nat.zero_le _⟩
          repeat' (first | rfl | exact e1 | refine and_t ?_ ?_)
        · repeat' ((conv => whnf); first | (refine ask_false (by decide) ?_) | (refine And.intro (by omega) ?_) | fail)
          conv => whnf
          refine hGet_at (up_get at') ?_
          conv => whnf
          refine load_ones (by kernel_rfl) (by rw [Nat.zero_add]; exact em) hd1 ?_
          conv => whnf
          refine And.intro ⟨rfl, rfl⟩ ?_
          conv => whnf
          refine hGet_at (up_top _ _) ?_
          conv => whnf
          refine And.intro rfl ?_
          conv => whnf
          refine And.intro ⟨rfl, rfl⟩ ?_
          conv => whnf
          refine hGet_at (up_get atq) ?_
          conv => whnf
          refine And.intro rfl ?_
          conv => whnf
          refine And.intro ⟨rfl, fun p hp => ?_⟩ ?_
          · have hq := List.getElem?_take_of_lt (l := zs) hp
            rw [hz] at hq
            rw [List.getD_eq_getElem?_getD, List.getD_eq_getElem?_getD, List.getElem?_append_left hp, hq]
          repeat' ((conv => whnf); first | (refine ask_false (by decide) ?_) | (refine ask_wrap64 (by omega) (by omega) ?_) | fail)
          conv => whnf
          have hU2 : bndH (U ++ [Blk.own 3 [.ints .i64 c2 (A ++ rest)]]).length (U ++ [Blk.own 3 [.ints .i64 c2 (A ++ rest)]]) = true := bndH_of fun b hb => by
            rcases List.mem_append.1 hb with hb | hb
            · exact Blk.bnd_up (by simp) b (bndH_all hU b hb)
            · rw [List.mem_singleton.1 hb]; rfl
          have hr2 : RowsAt (fun _ => True) (U ++ [.own 3 [.ints .i64 c2 (A ++ rest)]]) (.csl b 0 0 L.length cs.length) L := RowsAt.mono (.inr ⟨b, cs, rfl, ok, le, mx, at', rows⟩) fun p b hp hb => ⟨trivial, up_get hb⟩
          have e1 := hr2.cell
          refine ⟨(L.length - (i + 1)).toNat, (i + 1, U ++ [.own 3 [.ints .i64 c2 (A ++ rest)]]), by omega, ⟨⟨by show 0 ≤ i + 1; omega, by show i + 1 ≤ L.length; omega⟩, rfl, hU2, hr2⟩, rfl, ⟨⟨Nat.le_of_ble_eq_true rfl, rfl⟩, trivial⟩, wkH_refl _, ?_, hU2, Nat.zero_le _⟩
          repeat' (first | rfl | exact e1 | refine and_t ?_ ?_)
    · have hi' : i = L.length := by omega
      rcases hr with ⟨hL, hc⟩ | ⟨b, cs, hc, ok, le, mx, at', rows⟩
      · subst hc
        rw [hL] at hlen i2
        repeat' ((conv => whnf); first | (refine ask_false (by omega) ?_) | (refine And.intro trivial ?_) | (refine ask_true hlen ?_) | rfl | fail)
      · subst hc
        repeat' ((conv => whnf); first | (refine ask_false (by omega) ?_) | (refine And.intro trivial ?_) | (refine ask_true hlen ?_) | rfl | fail)
theorem law_VectAll (n : Int) (hn : InK .u8 n) (k : Int) (hk : InK .u8 k) (w0 : World) : Calls Try.prog 10 #[.int .u8 n, .int .u8 k] w0 fun e w' => e = .returned (.bool true) ∧ Below w0.heap.size w0 w' :=
  walk_true FVA_ok Try.func10 (ws := [u8 n, u8 k]) ⟨hn, hk, trivial⟩ rfl (n := 0) (all_law n k hn hk) w0
end Go.Proofs.Ytmkdamfdlkpjdaa
