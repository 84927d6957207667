/- The coder of ranges: a decoder is made; a small number is taken. -/
import Derived.Test.YtaficaacogcblaaGreatDoorWu
import Derived.Test.YtaficaacogcblaaGreatDoorWv
import Derived.Test.YtaficaacogcblaaGreatDoorWl
set_option linter.all false
namespace Go.Proofs.YtaficaacogcblaaGreatDoor
namespace R
open Go.RowKit (Below)
set_option maxRecDepth 100000
set_option maxHeartbeats 16000000

/-- A decoder made, behind k bytes. -/
def newF (s : ByteArray) : Nat → DS
  | 0 => ⟨s, 0, 0, 4294967295, 0⟩
  | k + 1 => ⟨s, (newF s k).at' + 1, ((newF s k).code * 256) % 4294967296 + byteD s (newF s k).at', (newF s k).rng, 0⟩
theorem newF_ok (s : ByteArray) : ∀ k : Nat, (newF s k).s = s ∧ (newF s k).at' = k ∧ (0 ≤ (newF s k).code ∧ (newF s k).code ≤ 4294967295) ∧ (newF s k).rng = 4294967295 ∧ (newF s k).gone = 0
  | 0 => ⟨rfl, rfl, ⟨Int.le_refl _, by simp [newF]⟩, rfl, rfl⟩
  | k + 1 => by
    obtain ⟨h1, h2, h3, h4, h5⟩ := newF_ok s k
    have hb := byteD_in s (newF s k).at'
    exact ⟨rfl, by simp only [newF]; omega, by simp only [newF]; omega, h4, rfl⟩
@[irreducible] noncomputable def nwS (s : ByteArray) : DS := sealed (fun s => newF s 4) s
theorem nwS_def (s : ByteArray) : nwS s = newF s 4 := by unfold nwS; rw [sealed_eq]
theorem nwS_ok (s : ByteArray) : DIn (nwS s) 4 ∧ (nwS s).s = s ∧ (nwS s).gone = 0 := by
  rw [nwS_def]
  obtain ⟨h1, h2, h3, h4, h5⟩ := newF_ok s 4
  exact ⟨⟨⟨h3.1, h3.2, by omega, by omega⟩, by omega, by omega, by omega, by omega⟩, h1, h5⟩
noncomputable def FN : Fns := ((F0.over 113 hNext).every 113).every 999999
theorem FN_ok : FnsOk Tryz.prog FN := (F0_ok.over next_ct Tryz.func113 (by kernel_rfl) (by kernel_rfl)).every _ |>.every _
theorem new_walk (s : ByteArray) (hs : s.size ≤ 9223372036854775807) {H : List Blk} (hH : HOk H) : walkr FN 0 Tryz.f66 [.c (.cs s)] H fun x H' => x = .w (.c (.cp H.length 0)) ∧ H' = H ++ [dcB (nwS s)] := by
  have hget : ∀ b : Blk, (H ++ [b])[H.length]? = some b := fun b => up_top H b
  have hset : ∀ a b : Blk, (H ++ [a]).set H.length b = H ++ [b] := fun a b => by rw [List.set_append_right _ _ (Nat.le_refl _)]; simp
  have hlen : ∀ b : Blk, (H ++ [b]).length = H.length + 1 := fun b => by simp
  have hbH : ∀ d' : DS, bndH (H ++ [dcB d']).length (H ++ [dcB d']) = true := fun d' => bndH_of fun b hb => by
    rcases List.mem_append.1 hb with h | h
    · rw [hlen]; exact Blk.bnd_up (Nat.le_succ _) _ (hH.bnd b h)
    · rw [List.mem_singleton.1 h]; rfl
  have hlo : ∀ d' : DS, H.length ≤ (H ++ [dcB d']).length := fun d' => by rw [hlen]; exact Nat.le_succ _
  have d1 : ∀ d' : DS, decide (H.length < (H ++ [dcB d']).length) = true := fun d' => by simp
  repeat' ((conv => whnf); first | (refine lenH_is ?_) | (refine pushH_at ?_) | fail)
  conv => whnf
  refine loop_at (List.range' 10 14) (fun m (k : Nat) => k ≤ 4 ∧ m = 4 - k) (fun k => [(10, vi k)]) (fun k => H ++ [dcB (newF s k)]) 4 (0 : Nat) ⟨by omega, rfl⟩ ?_ ?_
  · refine ⟨rfl, ⟨⟨Nat.le_of_ble_eq_true rfl, rfl⟩, trivial⟩, wkH_refl _, ?_, hbH _, hlo _⟩
    repeat' (first | rfl | exact d1 _ | refine and_t ?_ ?_)
  · rintro m k ⟨h1, rfl⟩
    obtain ⟨n1, n2, n3, n4, n5⟩ := newF_ok s k
    have hb := byteD_in (newF s k).s (newF s k).at'
    rcases Nat.lt_or_ge k 4 with g | g
    · repeat' ((conv => whnf); first | (refine ask_true (by omega) ?_) | fail)
      conv => whnf
      refine red_each (by kernel_rfl) ?_
      conv => whnf
      refine ⟨?_, ?_, trivial⟩
      all_goals repeat' ((conv => whnf); first | (refine lenH_is ?_) | (refine And.intro (show (0 : Int) ≤ 8 by decide) fun r hr => ?_) | (refine ask_or hr hv n3 hb ?_) | (refine ask_wrap64 (by omega) (by omega) ?_) | (refine Exists.intro (newF s k) (And.intro (hget _) (And.intro ⟨by omega, by omega⟩ fun v hv => ?_))) | (refine hGet_at (hget _) ?_) | (refine hGet_at (List.getElem?_set_self (by simp)) ?_) | (refine setH_at ?_) | (refine And.intro ?_ trivial) | fail)
      all_goals
        refine ⟨4 - (k + 1), k + 1, by omega, ⟨by omega, rfl⟩, ⟨rfl, ⟨⟨Nat.le_of_ble_eq_true rfl, rfl⟩, trivial⟩, ?_, ?_, hbH _, hlo _⟩⟩
        · simp only [List.set_set, hset, n1, n5]
          simp only [newF, dcB, n1, n5]
          exact wkH_refl _
        · repeat' (first | rfl | exact d1 _ | refine and_t ?_ ?_)
    · obtain rfl : k = 4 := by omega
      repeat' ((conv => whnf); first | (refine ask_false (by omega) ?_) | fail)
      rw [nwS_def]
      exact ⟨rfl, rfl⟩
def hNew : HCt := fun ws H K => match ws with
  | [.c (.cs s)] => ∀ (j : Nat) (d : DS), j = H.length → d = nwS s → DIn d 4 → d.s = s → K (.w (.c (.cp j 0))) (H ++ [dcB d])
  | _ => False
theorem new_ct : HCtOk Tryz.prog 66 hNew := by
  intro ws H K h hr hb ho G σ base w₀ w hw
  unfold hNew at h
  split at h
  · rename_i s
    obtain ⟨o1, o2, o3⟩ := nwS_ok s
    exact heap_liftr FN_ok Tryz.func66 (n := 0) (ws := [.c (.cs s)]) hr hb ho (new_walk s hr.1 ho) (fun x H' hP => by
      obtain ⟨rfl, rfl⟩ := hP
      exact h _ _ rfl rfl o1 o2) G σ base w₀ w hw
  · exact h.elim

/-! ### a small number -/
noncomputable def ltV (d : DS) : Int := (P.placeS (atS d 32768)).v
noncomputable def ltD (d : DS) : DS := tkS d (P.placeS (atS d 32768)).s (P.placeS (atS d 32768)).w 32768
noncomputable def FT2 : Fns := (((F0.over 114 hAt).over 117 hTake).plus 115 P.ctFind).plus 116 P.ctCellV
theorem FT2_ok : FnsOk Tryz.prog FT2 := (((F0_ok.over at_ct Tryz.func114 (by kernel_rfl) (by kernel_rfl)).over take_ct Tryz.func117 (by kernel_rfl) (by kernel_rfl)).plus P.find_ct Tryz.func115 (by kernel_rfl) (by kernel_rfl)).plus P.cellV_ct Tryz.func116 (by kernel_rfl) (by kernel_rfl)
theorem lt_walk {H : List Blk} {j : Nat} {d : DS} (hj : H[j]? = some (dcB d)) (hd : DIn d 90000000) : walk FT2 0 Tryz.f67 [.c (.cp j 0)] H fun x H' => x = .tup [i64 (ltV d), i64 0] ∧ H' = H.set j (dcB (ltD d)) := by
  have ha := atS_in hd.ok (t := 32768) (by decide) (by decide)
  repeat' ((conv => whnf); first | (refine lenH_is ?_) | (refine Exists.intro d (And.intro hj (And.intro hd.ok (And.intro (And.intro (by decide) (by decide)) fun p hp => ?_)))) | (refine ask_true (by omega) ?_) | (refine ask_false (by omega) ?_) | fail)
  conv => whnf
  refine ⟨by omega, fun c hc c1 c2 c3 => ?_⟩
  have f := P.cells_facts c c1
  have hv := P.cellV_of c1
  repeat' ((conv => whnf); first | (refine lenH_is ?_) | fail)
  conv => whnf
  refine ⟨f.1, fun c' hc' _ _ => ?_⟩
  rw [hv] at hc'
  subst hc'
  repeat' ((conv => whnf); first | (refine lenH_is ?_) | fail)
  conv => whnf
  refine ⟨d, hj, hd.mono (by omega), by unfold cellP; omega, fun d' hd' => ?_⟩
  repeat' ((conv => whnf); first | (refine lenH_is ?_) | fail)
  rw [hp] at hc
  unfold ltV ltD
  rw [← hc, ← hd']
  exact ⟨rfl, rfl⟩
theorem ltV_in {d : DS} (h : DOk d) : (-24 ≤ ltV d ∧ ltV d ≤ 24) ∧ TkOk d (ltD d) 3 := by
  have ha := atS_in h (t := 32768) (by decide) (by decide)
  obtain ⟨g1, g2, g3⟩ := P.placeS_spec (p := atS d 32768) (by omega) (by omega)
  have f := P.cells_facts _ g1
  exact ⟨f.1, tkS_ok h (by unfold cellP; omega)⟩
def hLt : HCt := fun ws H K => match ws with
  | [.c (.cp j 0)] => ∃ d : DS, H[j]? = some (dcB d) ∧ DIn d 90000000 ∧ ∀ (v : Int) (d' : DS), v = ltV d → d' = ltD d → (-24 ≤ v ∧ v ≤ 24) → TkOk d d' 3 → K (.tup [i64 v, i64 0]) (H.set j (dcB d'))
  | _ => False
theorem lt_ct : HCtOk Tryz.prog 67 hLt := by
  intro ws H K h hr hb ho G σ base w₀ w hw
  unfold hLt at h
  split at h
  · rename_i j
    obtain ⟨d, hj, hd, hK⟩ := h
    obtain ⟨o1, o2⟩ := ltV_in hd.ok
    exact heap_lift FT2_ok Tryz.func67 (n := 0) (ws := [.c (.cp j 0)]) ⟨trivial, trivial⟩ (ptr_bnd hj) ho (lt_walk hj hd) (fun x H' hP => by
      obtain ⟨rfl, rfl⟩ := hP
      exact hK _ _ rfl rfl o1 o2) G σ base w₀ w hw
  · exact h.elim
end R

/- Packets, decoded: a band's waves. -/
namespace R
set_option maxRecDepth 100000
set_option maxHeartbeats 16000000

/-- A walk where level.first holds what it holds, as what a call leaves. -/
theorem heap_liftg {F : Fns} (hF : FnsOk Tryz.prog F D.G1) {n : Nat} {f : FuncId} {fn : Func} (hf : Tryz.prog.funcs[f]? = some fn) {ws : List W} (hr : rngW ws) {P : V → List Blk → Prop} {H : List Blk} (hb : bndW H.length ws = true) (ho : HOk H)
    (h : D.walkg F n fn ws H P) {K : V → List Blk → Prop} (hK : ∀ x H', P x H' → K x H') (σ : Sg) (base : Nat) (w₀ w : World) (hw : Rep D.G1 σ base w₀ w H) :
    Calls Tryz.prog f (ws.map (W.den σ)).toArray w (LeftG D.G1 σ base w₀ H.length K) := by
  refine (xfun_spec D.E1_ok (D.calg_ok hF n) (drwA_ok D.E1_ok hF mixed _ (D.calg_ok hF n)) hf h hr hb ho σ base w₀ w hw).mono ?_
  rintro e w' ⟨τ, x, H', v, rfl, h1, h2, h3, h4, h5, h6, h7⟩
  exact ⟨τ, x, H', v, rfl, h1, hK x H' h2, h3, h4, h5, h6, h7⟩

open Classical in
/-- The vector of a number. -/
noncomputable def vecA (n : Nat) (k i : Int) : List Int := if h : ∃ A, V.vecR n k i A then Classical.choose h else []
theorem vecA_eq {n : Nat} {k i : Int} {A : List Int} (hn : n ≤ 8) (hk : k ≤ 8) (h : V.vecR n k i A) : A = vecA n k i := by
  have hex : ∃ A, V.vecR n k i A := ⟨A, h⟩
  have h2 : V.vecR n k i (vecA n k i) := by unfold vecA; rw [dif_pos hex]; exact Classical.choose_spec hex
  exact V.rank_inj (by rw [h.1, h2.1]) (by rw [h.1]; exact hn) hk h.2.1 h2.2.1 (by rw [h.2.2, h2.2.2])
theorem vec_pos : (List.range 9).all (fun n => (List.range 9).all fun k => n == 0 || decide (1 ≤ (V.crow n).getD k 0)) = true := by kernel_rfl
theorem cC_pos {n k : Int} (hn : 1 ≤ n ∧ n ≤ 8) (hk : 0 ≤ k ∧ k ≤ 8) : 1 ≤ V.cC n k := by
  rw [V.cC_def, if_pos ⟨⟨by omega, hn.2⟩, hk⟩]
  obtain ⟨a, rfl⟩ : ∃ a : Nat, n = a := ⟨n.toNat, by omega⟩
  obtain ⟨b, rfl⟩ : ∃ b : Nat, k = b := ⟨k.toNat, by omega⟩
  rw [V.cN_nat]
  have h1 := List.all_eq_true.1 (List.all_eq_true.1 vec_pos a (List.mem_range.2 (by omega))) b (List.mem_range.2 (by omega))
  have : (a == 0) = false := by simp; omega
  simpa [this] using h1
theorem cost24 : (List.range 4).all (fun b => (List.range 9).all fun k => decide (0 ≤ D.costC b k ∧ D.costC b k ≤ 24)) = true := by kernel_rfl
theorem bitS24 {b k : Int} (hb : 0 ≤ b ∧ b ≤ 3) (hk : 0 ≤ k ∧ k ≤ 8) : 0 ≤ D.bitS (D.sizeS b) k ∧ D.bitS (D.sizeS b) k ≤ 24 := by
  rw [← D.costS_def, D.costS_tab hb hk]
  have h1 := List.all_eq_true.1 (List.all_eq_true.1 cost24 b.toNat (List.mem_range.2 (by omega))) k.toNat (List.mem_range.2 (by omega))
  simpa using h1
theorem size_is {b : Int} (hb : 0 ≤ b ∧ b ≤ 3) : 2 ≤ D.sizeS b ∧ D.sizeS b ≤ 8 := by
  obtain rfl | rfl | rfl | rfl : b = 0 ∨ b = 1 ∨ b = 2 ∨ b = 3 := by omega
  all_goals decide

noncomputable def bandI (d : DS) (b k : Int) : Int := (btS (D.bitS (D.sizeS b) k) d).1 % V.cC (D.sizeS b) k
noncomputable def bandY (d : DS) (b l k : Int) : List Int := if k = 0 then List.replicate (D.sizeS b).toNat 0 else D.L.flZ l (vecA (D.sizeS b).toNat k (bandI d b k))
noncomputable def bandD (d : DS) (b k : Int) : DS := if k = 0 then d else (btS (D.bitS (D.sizeS b) k) d).2
noncomputable def FBa : Fns := (((((F0.plus 103 (ct1 (fun _ => True) D.sizeS)).plus 102 (ct2 (fun _ _ => True) D.bitS)).over 71 hBits).plus 123 (ct2 (fun _ _ => True) V.cC)).over 122 V.hVector).over 124 D.L.hFill
theorem FBa_ok : FnsOk Tryz.prog FBa D.G1 := (((((D.F0_okg.plusG D.size_ct Tryz.func103 (by kernel_rfl) (by kernel_rfl)).plus D.bits_ct Tryz.func102 (by kernel_rfl) (by kernel_rfl)).over bits_ct Tryz.func71 (by kernel_rfl) (by kernel_rfl)).plus V.count_ct Tryz.func123 (by kernel_rfl) (by kernel_rfl)).over V.vector_ct Tryz.func122 (by kernel_rfl) (by kernel_rfl)).over D.L.fill_ct Tryz.func124 (by kernel_rfl) (by kernel_rfl)
def bandP (H : List Blk) (j : Nat) (d' : DS) (ys : List Int) (x : V) (H' : List Blk) : Prop := ∃ (N : List Blk) (q : Nat), x = .w (.c (.csl q 0 0 ys.length ys.length)) ∧ H' = H.set j (dcB d') ++ N ∧ H'[q]? = some (.own 3 [.ints .i64 ys.length ys])
theorem band_walk {H : List Blk} {j : Nat} {d : DS} (hj : H[j]? = some (dcB d)) (hd : DIn d 90000000) {b l k : Int} (hb : 0 ≤ b ∧ b ≤ 3) (hl : 0 ≤ l ∧ l ≤ 20) (hk : 0 ≤ k ∧ k ≤ 8) :
    D.walkg FBa 0 Tryz.f73 [.c (.cmv 71 j 0), i64 b, i64 l, i64 k] H (bandP H j (bandD d b k) (bandY d b l k)) := by
  have hs := size_is hb
  have h24 := bitS24 hb hk
  rcases Classical.em (k = 0) with hk0 | hk0
  · unfold bandD bandY
    rw [if_pos hk0, if_pos hk0]
    repeat' ((conv => whnf); first | (refine lenH_is ?_) | (refine And.intro trivial ?_) | (refine ask_true hk0 ?_) | (refine And.intro (And.intro (by omega) (And.intro (by omega) (And.intro (by omega) (by omega)))) ?_) | (refine pushH_at ?_) | fail)
    conv => whnf
    refine And.intro rfl ?_
    conv => whnf
    refine And.intro ⟨by omega, Int.le_refl _, by omega, by show (8 : Int) * _ ≤ _; omega⟩ ?_
    repeat' ((conv => whnf); first | (refine lenH_is ?_) | (refine pushH_at ?_) | fail)
    have e1 : natI (D.sizeS b) = (List.replicate (D.sizeS b).toNat (0 : Int)).length := by simp [natI]
    refine ⟨[.own 3 [.ints .i64 (natI (D.sizeS b)) (List.replicate (natI (D.sizeS b)) 0)]], H.length, ?_, ?_, ?_⟩
    · rw [← e1]; rfl
    · rw [set_same hj]; rfl
    · rw [← e1]; exact up_top _ _
  · unfold bandD bandY
    rw [if_neg hk0, if_neg hk0]
    have c1 := cC_pos (n := D.sizeS b) (k := k) ⟨by omega, hs.2⟩ hk
    repeat' ((conv => whnf); first | (refine lenH_is ?_) | (refine And.intro trivial ?_) | (refine ask_false hk0 ?_) | (refine Exists.intro d (And.intro hj (And.intro hd (And.intro h24 fun i d' hi hd' hix htk => ?_)))) | fail)
    conv => whnf
    refine And.intro (by omega) fun r hr => ?_
    have hr' : r = i % V.cC (D.sizeS b) k := hr.trans (Int.tmod_eq_emod_of_nonneg hix.1)
    have r0 : 0 ≤ r ∧ r < V.cC (D.sizeS b) k := by
      rw [hr']
      exact ⟨Int.emod_nonneg _ (by omega), Int.emod_lt_of_pos _ (by omega)⟩
    clear hr
    repeat' ((conv => whnf); first | (refine lenH_is ?_) | fail)
    conv => whnf
    refine And.intro (fun hn => absurd r0 hn) fun _ A hA => And.intro (fun e => ?_) fun hne c rest g1 g2 g3 => ?_
    · have := hA.1
      rw [e] at this
      simp only [List.length_nil] at this
      omega
    · have hA1 := hA.1
      have hAv := vecA_eq (by omega) hk.2 hA
      have hbi : bandI d b k = r := by unfold bandI; rw [← hi, ← hr']
      have hcl : (A ++ rest).take A.length = A := by simp
      repeat' ((conv => whnf); first | (refine lenH_is ?_) | (refine And.intro (And.intro rfl rfl) ?_) | (refine hGet_at (up_top _ _) ?_) | (refine And.intro rfl ?_) | (refine And.intro (show A.length ≤ 1000 by omega) ?_) | fail)
      rw [hbi, ← hAv, ← hd']
      have e3 : (D.L.flZ l A).length = A.length := D.L.flZ_len _ _
      refine ⟨[.own 3 [.ints .i64 c (A ++ rest)], .own 3 [.ints .i64 A.length (D.L.flZ l A)]], (H.set j (dcB d') ++ [Blk.own 3 [.ints .i64 c (A ++ rest)]]).length, ?_, ?_, ?_⟩
      · rw [e3]; rfl
      · rw [hcl]; simp
      · rw [e3, hcl]; exact up_top _ _
theorem bandD_ok {d : DS} (h : DOk d) (b k : Int) : TkOk d (bandD d b k) 9 := by
  unfold bandD
  split
  · exact (TkOk.refl h).mono (by decide)
  · exact (btS_ok h _).2
def hBa : HCt := fun ws H K => match ws with
  | [.c (.cmv f j 0), .c (.ci .i64 b), .c (.ci .i64 l), .c (.ci .i64 k)] => f = 71 ∧ ∃ d : DS, H[j]? = some (dcB d) ∧ DIn d 90000000 ∧ ((0 ≤ b ∧ b ≤ 3) ∧ (0 ≤ l ∧ l ≤ 20) ∧ (0 ≤ k ∧ k ≤ 8)) ∧
    ∀ (ys : List Int) (d' : DS) (N : List Blk) (q : Nat), ys = bandY d b l k → d' = bandD d b k → TkOk d d' 9 → (H.set j (dcB d') ++ N)[q]? = some (.own 3 [.ints .i64 ys.length ys]) → K (.w (.c (.csl q 0 0 ys.length ys.length))) (H.set j (dcB d') ++ N)
  | _ => False
theorem ba_ct : HCtOkG Tryz.prog D.G1 73 hBa := by
  intro ws H K h hr hb ho σ base w₀ w hw
  unfold hBa at h
  split at h
  · rename_i f j b l k
    obtain ⟨rfl, d, hj, hd, ⟨h1, h2, h3⟩, hK⟩ := h
    exact heap_liftg FBa_ok Tryz.func73 (n := 0) (ws := [.c (.cmv 71 j 0), i64 b, i64 l, i64 k]) hr hb ho (band_walk hj hd h1 h2 h3) (fun x H' hP => by
      obtain ⟨N, q, rfl, rfl, hq⟩ := hP
      exact hK _ _ N q rfl rfl (bandD_ok hd.ok _ _) hq) σ base w₀ w hw
  · exact h.elim
end R
end Go.Proofs.YtaficaacogcblaaGreatDoor
