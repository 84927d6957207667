/- enc.Encode: a packet of the size, and the coder is right. -/
import Derived.Test.YtaficaacogcblaaGreatDoorWee
import Derived.Test.YtaficaacogcblaaGreatDoorWt
set_option linter.all false
namespace Go.Proofs.YtaficaacogcblaaGreatDoor
namespace R
open Go.RowKit (Below)
set_option maxRecDepth 100000
set_option maxHeartbeats 16000000

abbrev snd (x : Int) : Prop := -32768 ≤ x ∧ x ≤ 32767
structure EncOk (p : List Int) (l : Int) (s : B.St) : Prop where
  len : p.length = 16
  pin : ∀ x ∈ p, -131072 ≤ x ∧ x ≤ 131072
  lin : snd l
  st : B.StOk s
  right : B.rightP s
abbrev encS (p : List Int) (l : Int) (s : B.St) : List Seg := [.ints .i64 16 p, .one (.ci .i64 l), .ints .i64 16 s.m, .one (.ci .i64 s.l), .ints .i64 4 s.v, .ints .i64 16 s.w, .one (.ci .i64 s.q)]
abbrev encW (p : List Int) (l : Int) (s : B.St) : W := .agg (encS p l s)
theorem cut_snd {x : Int} (h : snd x) : T.cutS x 16 = x := by
  have e : pw 15 = 32768 := by rw [pw_def]; decide
  rw [T.cutS_def, if_neg (by omega), show (16 : Int) - 1 = 15 from rfl, e]
  unfold snd at h
  omega
abbrev zE : List Seg := encS B.z16 0 ⟨B.z16, 0, [0, 0, 0, 0], B.z16, 0⟩
noncomputable def FEn : Fns := ((((((((((F0.into 58 Tryz.f58).into 59 Tryz.f59).into 89 Tryz.f89).into 60 Tryz.f60).plus 77 (ct2 (fun _ _ => True) T.cutS)).plus 39 (B.ctSt B.rightP)).plus 61 (T.ctLA (fun l xs => T.liftZ (T.c22 l) xs) (fun l xs => T.prevL (T.c22 l) xs 16))).plus 63 (B.ctAA (fun _ _ => True) B.wavesZ)).over 62 hPack).plus 18 ctDec).every 62
theorem FEn_ok : FnsOk Tryz.prog FEn D.G1 := ((((((((((D.F0_okg.into Tryz.func58 (by kernel_rfl) (by kernel_rfl)).into Tryz.func59 (by kernel_rfl) (by kernel_rfl)).into Tryz.func89 (by kernel_rfl) (by kernel_rfl)).into Tryz.func60 (by kernel_rfl) (by kernel_rfl)).plus T.cut_ct Tryz.func77 (by kernel_rfl) (by kernel_rfl)).plus B.right_ct Tryz.func39 (by kernel_rfl) (by kernel_rfl)).plus T.lift_ct Tryz.func61 (by kernel_rfl) (by kernel_rfl)).plus B.waves_ct Tryz.func63 (by kernel_rfl) (by kernel_rfl)).overG packet_ct Tryz.func62 (by kernel_rfl) (by kernel_rfl)).plusG decode_ct Tryz.func18 (by kernel_rfl) (by kernel_rfl)).every _
def encP (n : Int) (x : V) (N : List Blk) : Prop := (∃ (p : ByteArray) (ps : List Int) (l : Int) (s : B.St), x = .tup [.c (.cs p), encW ps l s, i64 0] ∧ (p.size : Int) = n ∧ EncOk ps l s) ∧ N = []
theorem c22_snd {x : Int} (h : snd x) : T.c22 x = x := by
  unfold snd at h
  rw [T.cut22]; omega
theorem prev_snd {l : Int} {xs : List Int} (hl : snd l) (hx : ∀ x ∈ xs, snd x) (hn : xs.length = 16) {i : Nat} (hi : i ≤ 16) : snd (T.prevL (T.c22 l) xs i) := by
  unfold T.prevL
  split
  · rw [c22_snd hl]; exact hl
  · have := hx _ (B.mem_at (xs := xs) (i := i - 1) (by omega))
    rw [c22_snd this]; exact this
theorem td_snd {a : Int} (h : snd a) : -27853 ≤ (27853 * a).tdiv 32768 ∧ (27853 * a).tdiv 32768 ≤ 27853 := by
  unfold snd at h
  rcases Int.lt_or_le a 0 with hn | hp
  · rw [tdiv_neg (by omega)]; omega
  · rw [tdiv_pos (by omega)]; omega
theorem lift_snd {l : Int} {xs : List Int} (hl : snd l) (hx : ∀ x ∈ xs, snd x) (hn : xs.length = 16) : (∀ x ∈ T.liftZ (T.c22 l) xs, -131072 ≤ x ∧ x ≤ 131072) ∧ snd (T.prevL (T.c22 l) xs 16) := by
  refine ⟨fun x hm => ?_, prev_snd hl hx hn (Nat.le_refl _)⟩
  unfold T.liftZ at hm
  obtain ⟨i, hi, rfl⟩ := List.mem_map.1 hm
  have i16 := List.mem_range.1 hi
  have h1 := td_snd (prev_snd hl hx hn (i := i) (by omega))
  have h2 := hx _ (B.mem_at (xs := xs) (i := i) (by omega))
  unfold T.lift1
  rw [c22_snd h2]
  unfold snd at h2
  omega
theorem right_st0 : B.rightP B.st0 := by
  rw [B.rightP_def]
  exact ⟨by decide, by decide, by decide, B.held_z16, by decide, by decide⟩
theorem stN_right {s : B.St} {lv wv : List Int} {q : Int} : B.rightP (B.stN s lv wv q) := by
  rcases Classical.em (B.okN s lv wv q) with h | h
  · rw [B.stN_ok h]
    have h2 := h.2
    rw [B.rightP_def] at h2 ⊢
    exact ⟨fun x hx => B.memZ_in hx, h2.2.1, B.laidP_in _ _, h2.2.2.2⟩
  · rw [B.stN_no h]; exact right_st0
structure StR (s : B.St) : Prop where
  ok : B.StOk s
  right : B.rightP s
/-- A packet's state is a state, and right. -/
theorem stD_ok {s : B.St} (ok : B.StOk s) (h1 : B.rightP s) {p : ByteArray} : StR (stD s p) := by
  have hl := lv_of ok h1
  have l4 := (lvF_ok hl p 4).1
  have w4 := wvF_in hl p 4
  refine ⟨B.stN_stok ⟨l4.1, fun x hx => ?_⟩ ⟨w4.1, fun x hx => ?_⟩ (by simp only [InK, lowK, highK]; omega), stN_right⟩
  · have := l4.2 x hx
    simp only [InK, lowK, highK]; omega
  · have := w4.2 x hx
    simp only [InK, lowK, highK]; omega
theorem enc_made {n : Int} {p : ByteArray} {ps : List Int} {l : Int} {s : B.St} {H' : List Blk} (hp : (p.size : Int) = n) (h1 : ∀ x ∈ ps, -131072 ≤ x ∧ x ≤ 131072) (hl : snd l) (hs : StR s) (h16 : ps.length = 16 := by exact T.liftZ_len _ _) : Made (encP n) (.tup [.c (.cs p), encW ps l s, i64 0]) H' :=
  made_of (.tup [.c (.cs p), encW ps l s, i64 0]) [] id ⟨⟨p, ps, l, s, rfl, hp, ⟨h16, h1, hl, hs.ok, hs.right⟩⟩, rfl⟩ rfl trivial (fun a b ha _ _ => absurd ha (Nat.not_lt_zero a)) rfl rfl (by intro e; cases e)
theorem encode_walk {ps : List Int} {l : Int} {s : B.St} (h : EncOk ps l s) {b : List Int} (hb : b.length = 16) (hs : ∀ x ∈ b, snd x) {n : Int} (hn : 10 ≤ n ∧ n ≤ 32) : walkgr FEn 3 Tryz.f37 [encW ps l s, .agg [.ints .i64 16 b], i64 n] [] (Made (encP n)) := by
  have hpl := h.len
  repeat' ((conv => whnf); first | (refine ask_false (by omega) ?_) | (refine ask_true (by omega) ?_) | (refine And.intro (by decide) (And.intro (by decide) ?_)) | fail)
  conv => whnf
  refine loop_at (6 :: List.range' 9 9) (fun m (k : Nat) => k ≤ 16 ∧ m = 16 - k) (fun k => [(9, vi k)]) (fun _ => [.own 61 (encS ps l s), .own 48 [.ints .i64 16 b], .own 61 zE, .own 61 (encS ps l s)]) 16 (0 : Nat) ⟨by omega, rfl⟩ ?_ ?_
  · exact ⟨rfl, ⟨⟨Nat.le_of_ble_eq_true rfl, rfl⟩, trivial⟩, ⟨rfl, rfl, rfl, rfl, trivial⟩, rfl, rfl, Nat.le_of_ble_eq_true rfl⟩
  rintro m k ⟨k1, rfl⟩
  rcases Nat.lt_or_ge k 16 with g | g
  · have em : mulN (k : Int).toNat (Tryz.prog.types[3]).size = k := (D.mulN1 _).trans (Int.toNat_natCast k)
    have em0 : mulN 0 (Tryz.prog.types[3]).size = 0 := D.mulN1 0
    have a1 := h.pin _ (B.mem_at (xs := ps) (i := mulN 0 (Tryz.prog.types[3]).size + mulN (k : Int).toNat (Tryz.prog.types[3]).size) (by omega))
    repeat' ((conv => whnf); first | (refine ask_true (by omega) ?_) | (refine And.intro (And.intro (by omega) (by omega)) ?_) | (refine And.intro (show mulN 0 (Tryz.prog.types[3]).size + mulN (k : Int).toNat (Tryz.prog.types[3]).size < 16 by omega) ?_) | (refine fun (_ : InK _ _) => ?_) | (refine ask_wrap64 (by omega) (by omega) ?_) | fail)
    exact ⟨16 - (k + 1), k + 1, by omega, ⟨by omega, rfl⟩, ⟨rfl, ⟨⟨Nat.le_of_ble_eq_true rfl, rfl⟩, trivial⟩, ⟨rfl, rfl, rfl, rfl, trivial⟩, rfl, rfl, Nat.le_of_ble_eq_true rfl⟩⟩
  obtain rfl : k = 16 := by omega
  repeat' ((conv => whnf); first | (refine ask_false (by omega) ?_) | (refine ask_true (by omega) ?_) | (refine And.intro ⟨rfl, rfl, rfl⟩ (ask_true h.right ?_)) | (refine And.intro (by decide) (And.intro (by decide) ?_)) | (refine And.intro trivial ?_) | (refine ask_true (cut_snd h.lin) ?_) | fail)
  conv => whnf
  refine loop_at (6 :: List.range' 9 9) (fun m (k : Nat) => k ≤ 16 ∧ m = 16 - k) (fun k => [(9, vi k)]) (fun _ => [.own 61 (encS ps l s), .own 48 [.ints .i64 16 b], .own 61 zE, .own 61 (encS ps l s)]) 16 (0 : Nat) ⟨by omega, rfl⟩ ?_ ?_
  · exact ⟨rfl, ⟨⟨Nat.le_of_ble_eq_true rfl, rfl⟩, trivial⟩, ⟨rfl, rfl, rfl, rfl, trivial⟩, rfl, rfl, Nat.le_of_ble_eq_true rfl⟩
  rintro m k ⟨k1, rfl⟩
  rcases Nat.lt_or_ge k 16 with g | g
  · have em : mulN (k : Int).toNat (Tryz.prog.types[3]).size = k := (D.mulN1 _).trans (Int.toNat_natCast k)
    have em0 : mulN 0 (Tryz.prog.types[3]).size = 0 := D.mulN1 0
    have a1 := cut_snd (hs _ (B.mem_at (xs := b) (i := mulN 0 (Tryz.prog.types[3]).size + mulN (k : Int).toNat (Tryz.prog.types[3]).size) (by omega)))
    repeat' ((conv => whnf); first | (refine ask_true (by omega) ?_) | (refine ask_true a1 ?_) | (refine And.intro (And.intro (by omega) (by omega)) ?_) | (refine And.intro (show mulN 0 (Tryz.prog.types[3]).size + mulN (k : Int).toNat (Tryz.prog.types[3]).size < 16 by omega) ?_) | (refine fun (_ : InK _ _) => ?_) | (refine And.intro trivial ?_) | (refine ask_wrap64 (by omega) (by omega) ?_) | fail)
    exact ⟨16 - (k + 1), k + 1, by omega, ⟨by omega, rfl⟩, ⟨rfl, ⟨⟨Nat.le_of_ble_eq_true rfl, rfl⟩, trivial⟩, ⟨rfl, rfl, rfl, rfl, trivial⟩, rfl, rfl, Nat.le_of_ble_eq_true rfl⟩⟩
  obtain rfl : k = 16 := by omega
  repeat' ((conv => whnf); first | (refine ask_false (by omega) ?_) | (refine And.intro rfl ?_) | fail)
  conv => whnf
  have lvo : LvOk s.v := ⟨h.st.v.1, ((B.rightP_def _).1 h.right).2.1⟩
  have hnew := lift_snd h.lin hs hb
  refine red_each (by kernel_rfl) ?_
  repeat' ((conv => whnf); first | (refine And.intro lvo (And.intro hn fun p hp => ?_)) | (refine And.intro ⟨rfl, rfl, rfl⟩ (And.intro h.right (And.intro (by omega) fun o x ho hx => ?_))) | (refine ask_false (by omega) ?_) | (refine And.intro (And.intro rfl rfl) ?_) | (refine And.intro trivial ?_) | (refine ⟨by kernel_rfl, ?_⟩) | (refine And.intro ?_ (And.intro ?_ (And.intro ?_ trivial))) | (refine And.intro ?_ (And.intro ?_ trivial)) | (refine And.intro ?_ trivial) | fail)
  all_goals exact enc_made hp hnew.1 hnew.2 (by rw [hx]; exact stD_ok h.st h.right)
def hEnc : HCt := fun ws H K => match ws with
  | [.agg [.ints .i64 a ps, .one (.ci .i64 l), .ints .i64 b m, .one (.ci .i64 sl), .ints .i64 c v, .ints .i64 d w, .one (.ci .i64 q)], .agg [.ints .i64 e xs], .c (.ci .i64 n)] => (a = 16 ∧ b = 16 ∧ c = 4 ∧ d = 16 ∧ e = 16) ∧ EncOk ps l ⟨m, sl, v, w, q⟩ ∧ (∀ x ∈ xs, snd x) ∧ (10 ≤ n ∧ n ≤ 32) ∧ ∀ (p : ByteArray) (ps' : List Int) (l' : Int) (s' : B.St), (p.size : Int) = n → EncOk ps' l' s' → K (.tup [.c (.cs p), encW ps' l' s', i64 0]) H
  | _ => False
theorem encode_ct : HCtOkG Tryz.prog D.G1 37 hEnc := by
  intro ws H K h hr hb ho σ base w₀ w hw
  unfold hEnc at h
  split at h
  · rename_i a ps l b m sl c v d w' q e xs n
    obtain ⟨⟨rfl, rfl, rfl, rfl, rfl⟩, h1, h2, h3, hK⟩ := h
    exact call_liftG D.E1_ok (G := D.G1) (fun g ss hg => hg) (calgr_ok FEn_ok 3) (drwR_ok D.E1_ok FEn_ok mixed _ (calgr_ok FEn_ok 3)) (ws := [encW ps l ⟨m, sl, v, w', q⟩, .agg [.ints .i64 16 xs], i64 n]) (R := []) (P0 := encP n) Tryz.func37 C.nil_ok hr rfl (encode_walk h1 hr.2.1.1.1 h2 h3) (fun x N hP b hb => by rw [hP.2] at hb; cases hb) (ρ := id) C.no_ro (fun x N hP => by
      obtain ⟨⟨p, ps', l', s', rfl, hp, he⟩, rfl⟩ := hP
      rw [List.map_nil, List.append_nil]
      exact hK p ps' l' s' hp he) ho σ base w₀ w hw
  · exact h.elim
end R

/- Frames of samples of 16 bits. -/
namespace R
set_option maxRecDepth 100000
set_option maxHeartbeats 16000000

/-- A walk over a heap, as a call's contract. -/
theorem heap_liftgr {F : Fns} (hF : FnsOk Tryz.prog F D.G1) {n : Nat} {f : FuncId} {fn : Func} (hf : Tryz.prog.funcs[f]? = some fn) {ws : List W} (hr : rngW ws) {P : V → List Blk → Prop} {H : List Blk} (hb : bndW H.length ws = true) (ho : HOk H)
    (h : walkgr F n fn ws H P) {K : V → List Blk → Prop} (hK : ∀ x H', P x H' → K x H') (σ : Sg) (base : Nat) (w₀ w : World) (hw : Rep D.G1 σ base w₀ w H) :
    Calls Tryz.prog f (ws.map (W.den σ)).toArray w (LeftG D.G1 σ base w₀ H.length K) := by
  refine (xfun_spec D.E1_ok (calgr_ok hF n) (drwR_ok D.E1_ok hF mixed _ (calgr_ok hF n)) hf h hr hb ho σ base w₀ w hw).mono ?_
  rintro e w' ⟨τ, x, H', v, rfl, h1, h2, h3, h4, h5, h6, h7⟩
  exact ⟨τ, x, H', v, rfl, h1, hK x H' h2, h3, h4, h5, h6, h7⟩
/-- A later heap, all of whose elder blocks are as they were. -/
structure UpH (H H' : List Blk) : Prop where
  len : H.length ≤ H'.length
  keep : ∀ (i : Nat) (b : Blk), H[i]? = some b → H'[i]? = some b
  bnd : ∀ b ∈ H', b.bnd H'.length = true
theorem UpH.refl {H : List Blk} (h : ∀ b ∈ H, b.bnd H.length = true) : UpH H H := ⟨Nat.le_refl _, fun _ _ h => h, h⟩
theorem UpH.trans {A B C : List Blk} (h : UpH A B) (k : UpH B C) : UpH A C := ⟨Nat.le_trans h.len k.len, fun i b hb => k.keep i b (h.keep i b hb), k.bnd⟩
theorem UpH.app {A H : List Blk} (h : UpH A H) {b : Blk} (hb : b.bnd (H.length + 1) = true) : UpH A (H ++ [b]) :=
  ⟨by rw [List.length_append]; exact Nat.le_trans h.len (Nat.le_add_right _ _), fun i x hx => up_get (h.keep i x hx), bnd_app h.bnd hb⟩
theorem UpH.set {A H : List Blk} (h : UpH A H) {q : Nat} (hq : A.length ≤ q) {b : Blk} (hb : b.bnd H.length = true) : UpH A (H.set q b) :=
  ⟨by rw [List.length_set]; exact h.len, fun i x hx => by
    have hi := (List.getElem?_eq_some_iff.1 hx).1
    rw [List.getElem?_set_ne (by omega)]
    exact h.keep i x hx, bnd_set h.bnd hb⟩
abbrev fB (c : Nat) (ys : List Int) : Blk := .own 48 [.ints .i64 (c * 16) ys]
/-- A slice of so many frames. -/
def FrAt (lo : Nat) (H : List Blk) (v : C) (k : Nat) : Prop := (k = 0 ∧ v = .csn) ∨ (k ≠ 0 ∧ ∃ q c ys, v = .csl q 0 0 k c ∧ (k ≤ c ∧ c ≤ 9223372036854775807) ∧ lo ≤ q ∧ ys.length = c * 16 ∧ H[q]? = some (fB c ys) ∧ ∀ y ∈ ys.take (k * 16), snd y)
theorem FrAt.up {lo : Nat} {H H' : List Blk} {v : C} {k : Nat} (h : FrAt lo H v k) (u : UpH H H') : FrAt lo H' v k := by
  rcases h with h | ⟨h0, q, c, ys, h1, h2, h3, h4, h5, h6⟩
  · exact .inl h
  · exact .inr ⟨h0, q, c, ys, h1, h2, h3, h4, u.keep _ _ h5, h6⟩
theorem fr_step {ys zs rest : List Int} {k : Nat} (h1 : k * 16 ≤ ys.length) (h2 : ∀ y ∈ ys.take (k * 16), snd y) (h3 : zs.length = 16) (h4 : ∀ z ∈ zs, snd z) : ∀ y ∈ (ys.take (k * 16) ++ (zs.drop 0).take (1 * 16) ++ rest).take ((k + 1) * 16), snd y := fun y hy => by
  have e : (ys.take (k * 16) ++ (zs.drop 0).take (1 * 16) ++ rest).take ((k + 1) * 16) = ys.take (k * 16) ++ (zs.drop 0).take (1 * 16) := by
    have hl : (ys.take (k * 16) ++ (zs.drop 0).take (1 * 16)).length = (k + 1) * 16 := by
      simp [h3]; omega
    rw [List.take_append_of_le_length (by omega), List.take_of_length_le (by omega)]
  rw [e] at hy
  rcases List.mem_append.1 hy with h | h
  · exact h2 y h
  · exact h4 y (List.mem_of_mem_take h)
theorem fr_mod {x r1 r2 : Int} (h1 : r1 = x.tmod 65536) (h2 : r2 = (r1 + 65536).tmod 65536) : (-65535 ≤ r1 ∧ r1 ≤ 65535) ∧ 0 ≤ r2 ∧ r2 ≤ 65535 := by
  have a1 : -65535 ≤ r1 ∧ r1 ≤ 65535 := by
    rw [h1]
    have := Int.tmod_lt_of_pos x (show (0 : Int) < 65536 by decide)
    have := Int.lt_tmod_of_pos x (show (0 : Int) < 65536 by decide)
    omega
  refine ⟨a1, ?_⟩
  rw [h2, Int.tmod_eq_emod_of_nonneg (by omega)]
  omega
structure FS where
  k : Nat
  v : C
  H : List Blk
structure IS where
  k : Nat
  zs : List Int
def fsJ (H : List Blk) (l : Nat) (m : Nat) (s : FS) : Prop := (m = 30 - s.k ∧ s.k ≤ 30 ∧ s.k ≤ l) ∧ UpH H s.H ∧ FrAt H.length s.H s.v s.k
def isJ (m : Nat) (s : IS) : Prop := (m = 16 - s.k ∧ s.k ≤ 16) ∧ s.zs.length = 16 ∧ ∀ i : Nat, i < s.k → snd (s.zs.getD i 0)
theorem frames_walk {H : List Blk} (hH : HOk H) {j l c : Nat} {xs : List Int} (hj : H[j]? = some (.ro [.ints .i64 (c * 16) xs])) (hl : l ≤ c) (hc : c ≤ 9223372036854775807) : walkgr F0 0 Tryz.f17 [.c (.csl j 0 0 l c)] H fun y H' => ∃ v k, y = .w (.c v) ∧ k ≤ 30 ∧ UpH H H' ∧ FrAt H.length H' v k := by
  have hjl := (List.getElem?_eq_some_iff.1 hj).1
  obtain ⟨⟨hx1, hx2⟩, _⟩ := hH.rng _ (List.mem_of_getElem? hj)
  repeat' ((conv => whnf); first | (refine lenH_is ?_) | fail)
  conv => whnf
  refine loop_upJ (3 :: List.range' 4 33) (fun m (s : FS) => fsJ H l m s) (fun s => [(3, .w (.c s.v)), (4, vi s.k)]) (fun s => s.H) 30 ⟨0, .csn, H⟩ ⟨⟨rfl, Nat.zero_le _, Nat.zero_le _⟩, UpH.refl hH.bnd, .inl ⟨rfl, rfl⟩⟩ ?_ ?_ ?_
  · rintro m s ⟨_, u, f⟩
    have dj := decide_eq_true (Nat.lt_of_lt_of_le hjl u.len)
    have dv : C.bnd s.H.length s.v = true := by
      rcases f with ⟨_, e⟩ | ⟨_, q, c, ys, e, _, _, _, e5, _⟩
      · rw [e]; rfl
      · rw [e]; exact decide_eq_true (List.getElem?_eq_some_iff.1 e5).1
    repeat' (first | rfl | exact dj | exact dv | refine and_t ?_ ?_)
  · exact ⟨rfl, ⟨⟨Nat.le_of_ble_eq_true rfl, rfl⟩, ⟨Nat.le_of_ble_eq_true rfl, rfl⟩, trivial⟩, wkH_refl _, bndH_of hH.bnd, Nat.le_refl _⟩
  · rintro m s ⟨⟨rfl, k1, k2⟩, u, f⟩
    have gj := u.keep _ _ hj
    have hfin : ∀ (y : V) (H' : List Blk), y = .w (.c s.v) → H' = s.H → ∃ v k, y = .w (.c v) ∧ k ≤ 30 ∧ UpH H H' ∧ FrAt H.length H' v k := fun y H' e1 e2 => ⟨s.v, s.k, e1, k1, by rw [e2]; exact u, by rw [e2]; exact f⟩
    rcases Nat.lt_or_ge s.k l with g | g
    · rcases Nat.lt_or_ge s.k 30 with g3 | g3
      · repeat' ((conv => whnf); first | (refine lenH_is ?_) | (refine ask_true (by omega) ?_) | (refine pushH_at ?_) | fail)
        conv => whnf
        refine loop_upJ (6 :: List.range' 17 16) (fun m (z : IS) => isJ m z) (fun z => [(6, vi z.k)]) (fun z => s.H ++ [iB 48 16 z.zs]) 16 ⟨0, B.z16⟩ ⟨⟨rfl, Nat.zero_le _⟩, rfl, fun i hi => absurd hi (Nat.not_lt_zero i)⟩ ?_ ?_ ?_
        · rintro m z _
          have hz : (s.H ++ [iB 48 16 z.zs]).length = s.H.length + 1 := by simp
          have dj := decide_eq_true (show j < (s.H ++ [iB 48 16 z.zs]).length by have := u.len; omega)
          have dt := decide_eq_true (show s.H.length < (s.H ++ [iB 48 16 z.zs]).length by omega)
          have dv : C.bnd (s.H ++ [iB 48 16 z.zs]).length s.v = true := by
            rcases f with ⟨_, e⟩ | ⟨_, q, c, ys, e, _, _, _, e5, _⟩
            · rw [e]; rfl
            · rw [e]; exact decide_eq_true (by have := (List.getElem?_eq_some_iff.1 e5).1; omega)
          repeat' (first | rfl | exact dj | exact dv | exact dt | refine and_t ?_ ?_)
        · exact ⟨rfl, ⟨⟨Nat.le_of_ble_eq_true rfl, rfl⟩, trivial⟩, wkH_refl _, bndH_of (bnd_app u.bnd rfl), by rw [List.length_append]; exact Nat.le_trans u.len (Nat.le_add_right _ _)⟩
        · rintro m z ⟨⟨rfl, z1⟩, z2, z3⟩
          rcases Nat.lt_or_ge z.k 16 with gz | gz
          · have em : mulN (z.k : Int).toNat (Tryz.prog.types[3]).size = z.k := (D.mulN1 _).trans (Int.toNat_natCast z.k)
            have e47 : mulN (s.k : Int).toNat (Tryz.prog.types[47]).size = s.k * 16 := by
              rw [show (Tryz.prog.types[47]).size = 16 by kernel_rfl, mulN_eq, Int.toNat_natCast]
            repeat' ((conv => whnf); first | (refine ask_true (by omega) ?_) | (refine And.intro (And.intro (by omega) (by omega)) ?_) | (refine hGet_at (up_get gj) ?_) | fail)
            conv => whnf
            refine And.intro (by omega) fun hq => ?_
            conv => whnf
            refine And.intro (by decide) fun r1 hr1 => ?_
            conv => whnf
            have hm1 := (fr_mod hr1 rfl).1
            refine ask_wrap64 (by omega) (by omega) ?_
            conv => whnf
            refine And.intro (by decide) fun r2 hr2 => ?_
            conv => whnf
            have hm2 := (fr_mod hr1 hr2).2
            clear hr1 hr2
            refine ask_wrap64 (by omega) (by omega) ?_
            repeat' ((conv => whnf); first | (refine And.intro (And.intro (by omega) (by omega)) ?_) | (refine hGet_at (up_top _ _) ?_) | (refine And.intro (show mulN (z.k : Int).toNat (Tryz.prog.types[3]).size < 16 by omega) ?_) | (refine setH_as (set_top s.H _ _) ?_) | (refine ask_wrap64 (by omega) (by omega) ?_) | fail)
            conv => whnf
            refine ⟨16 - (z.k + 1), ⟨z.k + 1, z.zs.set (mulN (z.k : Int).toNat (Tryz.prog.types[3]).size) (r2 - 32768)⟩, by omega, ⟨⟨rfl, gz⟩, (List.length_set ..).trans z2, fun i hi => ?_⟩, ⟨rfl, ⟨⟨Nat.le_of_ble_eq_true rfl, rfl⟩, trivial⟩, wkH_refl _, bndH_of (bnd_app u.bnd rfl), by rw [List.length_append]; exact Nat.le_trans u.len (Nat.le_add_right _ _)⟩⟩
            show snd ((z.zs.set (mulN (z.k : Int).toNat (Tryz.prog.types[3]).size) (r2 - 32768)).getD i 0)
            rw [em, D.getD_set]
            split
            · unfold snd; omega
            · exact z3 i (by have hi' : i < z.k + 1 := hi; omega)
          · obtain ⟨zk, ezk⟩ : ∃ zk, zk = z.k := ⟨_, rfl⟩
            have zall : ∀ y ∈ z.zs, snd y := fun y hy => by
              obtain ⟨i, hi, rfl⟩ := List.mem_iff_getElem.1 hy
              have := z3 i (by omega)
              rwa [List.getD_eq_getElem?_getD, List.getElem?_eq_getElem hi] at this
            have uz : UpH H (s.H ++ [iB 48 16 z.zs]) := u.app rfl
            rcases f with ⟨f0, fe⟩ | ⟨f0, q, cc, ys, fe, f1, f2, f3, f4, f5⟩
            · rw [fe]
              repeat' ((conv => whnf); first | (refine ask_false (by omega) ?_) | (refine hGet_at (up_top _ _) ?_) | (refine lenH_is ?_) | (refine pushH_at ?_) | (refine And.intro rfl ?_) | fail)
              conv => whnf
              refine And.intro (Nat.le_of_ble_eq_true (by kernel_rfl)) (And.intro ⟨by decide, by decide, Nat.le_of_ble_eq_true (by kernel_rfl)⟩ fun c' (h4 : 1 ≤ c') (h5 : c' ≤ 9223372036854775807) => ?_)
              repeat' ((conv => whnf); first | (refine lenH_is ?_) | (refine pushH_at ?_) | (refine ask_wrap64 (by omega) (by omega) ?_) | fail)
              conv => whnf
              refine ⟨30 - (s.k + 1), ⟨s.k + 1, .csl (s.H ++ [iB 48 16 z.zs] ++ [fB 1 z.zs]).length 0 0 1 c', s.H ++ [iB 48 16 z.zs] ++ [fB 1 z.zs] ++ [fB c' ((z.zs.drop 0).take (1 * 16) ++ List.replicate ((c' - 1) * 16) 0)]⟩, by omega, ⟨⟨rfl, g3, g⟩, (uz.app rfl).app rfl, .inr ⟨Nat.succ_ne_zero _, _, _, _, ?_, ?_, ?_, ?_, up_top _ _, ?_⟩⟩, ⟨rfl, ⟨⟨Nat.le_of_ble_eq_true rfl, rfl⟩, ⟨Nat.le_of_ble_eq_true rfl, rfl⟩, trivial⟩, wkH_refl _, bndH_of ((uz.app rfl).app rfl).bnd, ((uz.app rfl).app rfl).len⟩⟩
              · show _ = C.csl _ 0 0 (s.k + 1) c'
                rw [f0]
              · show s.k + 1 ≤ c' ∧ _
                omega
              · exact (uz.app rfl).len
              · simp [z2]; omega
              · show ∀ y ∈ ((z.zs.drop 0).take (1 * 16) ++ List.replicate ((c' - 1) * 16) 0).take ((s.k + 1) * 16), snd y
                rw [f0]
                have := fr_step (ys := []) (rest := List.replicate ((c' - 1) * 16) 0) (k := 0) (Nat.le_refl _) (fun y hy => by cases hy) z2 zall
                simpa using this
            · rw [fe]
              repeat' ((conv => whnf); first | (refine ask_false (by omega) ?_) | (refine hGet_at (up_top _ _) ?_) | (refine hGet_at (up_get (up_get f4)) ?_) | (refine lenH_is ?_) | (refine pushH_at ?_) | (refine And.intro rfl ?_) | fail)
              have eb : (Tryz.prog.types[48]).bytes = 128 := by kernel_rfl
              refine And.intro (Nat.le_of_ble_eq_true (by kernel_rfl)) ?_
              repeat' ((conv => whnf); first | (refine hGet_at (up_get (up_get f4)) ?_) | fail)
              conv => whnf
              refine (And.intro ⟨rfl, by omega, by rw [eb]; omega⟩ (And.intro (fun hroom => ?_) fun hg c' (h5 : s.k + 1 ≤ c') (h6 : c' ≤ 9223372036854775807) => ?_))
              · repeat' ((conv => whnf); first | (refine setH_at ?_) | (refine ask_wrap64 (by omega) (by omega) ?_) | fail)
                conv => whnf
                refine ⟨30 - (s.k + 1), ⟨s.k + 1, .csl q 0 0 (s.k + 1) cc, (s.H ++ [iB 48 16 z.zs] ++ [fB 1 z.zs]).set q (fB cc (ys.take (s.k * 16) ++ (z.zs.drop 0).take (1 * 16) ++ ys.drop ((s.k + 1) * 16)))⟩, by omega, ⟨⟨rfl, g3, g⟩, (uz.app rfl).set f2 rfl, .inr ⟨Nat.succ_ne_zero _, q, cc, ys.take (s.k * 16) ++ (z.zs.drop 0).take (1 * 16) ++ ys.drop ((s.k + 1) * 16), rfl, ⟨by show s.k + 1 ≤ cc; omega, f1.2⟩, f2, ?_, ?_, fr_step (by omega) f5 z2 zall⟩⟩, ⟨rfl, ⟨⟨Nat.le_of_ble_eq_true rfl, rfl⟩, ⟨Nat.le_of_ble_eq_true rfl, rfl⟩, trivial⟩, wkH_refl _, bndH_of ((uz.app rfl).set f2 rfl).bnd, ((uz.app rfl).set f2 rfl).len⟩⟩
                · simp [z2]; omega
                · exact List.getElem?_set_self (by have := (List.getElem?_eq_some_iff.1 f4).1; simp only [List.length_append, List.length_cons, List.length_nil]; omega)
              · repeat' ((conv => whnf); first | (refine lenH_is ?_) | (refine pushH_at ?_) | (refine ask_wrap64 (by omega) (by omega) ?_) | fail)
                conv => whnf
                refine ⟨30 - (s.k + 1), ⟨s.k + 1, .csl (s.H ++ [iB 48 16 z.zs] ++ [fB 1 z.zs]).length 0 0 (s.k + 1) c', s.H ++ [iB 48 16 z.zs] ++ [fB 1 z.zs] ++ [fB c' (ys.take (s.k * 16) ++ (z.zs.drop 0).take (1 * 16) ++ List.replicate ((c' - (s.k + 1)) * 16) 0)]⟩, by omega, ⟨⟨rfl, g3, g⟩, (uz.app rfl).app rfl, .inr ⟨Nat.succ_ne_zero _, _, c', ys.take (s.k * 16) ++ (z.zs.drop 0).take (1 * 16) ++ List.replicate ((c' - (s.k + 1)) * 16) 0, rfl, ⟨by show s.k + 1 ≤ c'; omega, h6⟩, (uz.app rfl).len, ?_, up_top _ _, fr_step (by omega) f5 z2 zall⟩⟩, ⟨rfl, ⟨⟨Nat.le_of_ble_eq_true rfl, rfl⟩, ⟨Nat.le_of_ble_eq_true rfl, rfl⟩, trivial⟩, wkH_refl _, bndH_of ((uz.app rfl).app rfl).bnd, ((uz.app rfl).app rfl).len⟩⟩
                simp [z2]; omega
      · repeat' ((conv => whnf); first | (refine ask_true (by omega) ?_) | (refine ask_false (by omega) ?_) | fail)
        exact hfin _ _ rfl rfl
    · repeat' ((conv => whnf); first | (refine ask_false (by omega) ?_) | fail)
      exact hfin _ _ rfl rfl
def hFr : HCt := fun ws H K => match ws with
  | [.c .csn] => K (.w (.c .csn)) H
  | [.c (.csl j 0 0 l c)] => (∃ xs, H[j]? = some (.ro [.ints .i64 (c * 16) xs])) ∧ (l ≤ c ∧ c ≤ 9223372036854775807) ∧ ∀ (v : C) (k : Nat) (H' : List Blk), k ≤ 30 → UpH H H' → FrAt H.length H' v k → K (.w (.c v)) H'
  | _ => False
theorem frames_nil {H : List Blk} (hH : HOk H) : walkgr F0 0 Tryz.f17 [.c .csn] H fun y H' => y = .w (.c .csn) ∧ H' = H := by
  repeat' ((conv => whnf); first | (refine lenH_is ?_) | fail)
  conv => whnf
  refine loop_at (3 :: List.range' 4 33) (fun m (k : Nat) => m = 0 ∧ k = 0) (fun k => [(3, .w (.c .csn)), (4, vi 0)]) (fun _ => H) 0 (0 : Nat) ⟨rfl, rfl⟩ ?_ ?_
  · exact ⟨rfl, ⟨⟨Nat.le_of_ble_eq_true rfl, rfl⟩, ⟨Nat.le_of_ble_eq_true rfl, rfl⟩, trivial⟩, wkH_refl _, rfl, bndH_of hH.bnd, Nat.le_refl _⟩
  · rintro m k ⟨rfl, rfl⟩
    repeat' ((conv => whnf); first | (refine ask_false (by omega) ?_) | fail)
    exact ⟨rfl, rfl⟩
theorem frames_ct : HCtOkG Tryz.prog D.G1 17 hFr := by
  intro ws H K h hr hb ho σ base w₀ w hw
  unfold hFr at h
  split at h
  · exact heap_liftgr D.F0_okg Tryz.func17 (n := 0) (ws := [.c .csn]) ⟨trivial, trivial⟩ rfl ho (frames_nil ho) (fun x H' hP => by
      obtain ⟨rfl, rfl⟩ := hP
      exact h) σ base w₀ w hw
  · rename_i j l c
    obtain ⟨⟨xs, hj⟩, hl, hK⟩ := h
    exact heap_liftgr D.F0_okg Tryz.func17 (n := 0) (ws := [.c (.csl j 0 0 l c)]) ⟨hr.1, trivial⟩ (by
      have := (List.getElem?_eq_some_iff.1 hj).1
      show (decide (j < H.length) && true) = true
      simp [this]) ho (frames_walk ho hj hl.1 hl.2) (fun x H' hP => by
      obtain ⟨v, k, rfl, h1, h2, h3⟩ := hP
      exact hK v k H' h1 h2 h3) σ base w₀ w hw
  · exact h.elim
end R

/- enc.All: frames, encoded. -/
namespace R
set_option maxRecDepth 100000
set_option maxHeartbeats 16000000

/-- Every open region in few orders. -/
def drwX (P : Program) (E : Env) (cal : Cal) : Drw := fun ops lo fr H K => XRed P E cal ops lo fr H K
theorem drwX_ok {P : Program} {E : Env} (hE : EnvOk P E) (hm : P.follows .mixedOrders = true) (cal : Cal) (hc : CalOk P E cal) : DrwOk P E (drwX P E cal) := by
  intro Df id ops lo fr H K h hf ho hlo σ base w₀ w a hr hw
  unfold drwX at h
  unfold XRed at h
  obtain ⟨hssa, S, L, h1, hL, h2⟩ := h
  refine wp_region_any hm ?_
  have hw' : Rep E.G σ base w₀ { w with drawn := w.drawn + 1 } H := hw.later ⟨rfl, rfl, rfl, Nat.le_refl _, fun _ _ => rfl⟩
  refine xred_spec hE hc ops hssa (σ₀ := σ) (base := base) (w₀ := w₀) (lo := lo) ?_ ?_ ops.size (Array.replicate ops.size false) [] (by simp) (by simp) (fun p => ?_) h2 hf ho hlo (Sg.agree.refl _ _) hr hw'
  · rintro c a w ⟨_, _, _, ex, he, _⟩
    cases ex <;> cases he
  · rintro τ fr' H' a' w' k0 k3 k4 k5 k6 k7 k8
    obtain ⟨frc, Hc, ρ, k2, k1⟩ := hL _ _ k0
    replace k2 := k2 k7 k5 k8
    obtain ⟨q1, q2⟩ := k2.ok k7 k5
    exact ⟨τ.ren ρ, frc, Hc, .normal, rfl, ⟨rfl, h1 _ _ k1⟩, k3.trans (fun j hj => by simp only [Sg.ren, k2.low j hj]), k4.ren k2.blk k2.inj, q2, k6.ren k2.len k2.fr, q1, k2.lo⟩
  · rcases Nat.lt_or_ge p ops.size with hlt | hge
    · simp [hlt]
    · simp [Array.getElem?_eq_none (xs := Array.replicate ops.size false) (i := p) (by simpa using hge)]
abbrev walkgx (F : Fns) (n : Nat) (fn : Func) (ws : List W) (H : List Blk) (K : V → List Blk → Prop) : Prop := xfun Tryz.prog D.E1 (calF Tryz.prog D.E1 F (drwX Tryz.prog D.E1) n) (drwX Tryz.prog D.E1 (calF Tryz.prog D.E1 F (drwX Tryz.prog D.E1) n)) fn ws H K
theorem calgx_ok {F : Fns} (hF : FnsOk Tryz.prog F D.G1) (n : Nat) : CalOk Tryz.prog D.E1 (calF Tryz.prog D.E1 F (drwX Tryz.prog D.E1) n) := calF_ok D.E1_ok hF (fun cal hc => drwX_ok D.E1_ok mixed cal hc) n
theorem heap_liftgx {F : Fns} (hF : FnsOk Tryz.prog F D.G1) {n : Nat} {f : FuncId} {fn : Func} (hf : Tryz.prog.funcs[f]? = some fn) {ws : List W} (hr : rngW ws) {P : V → List Blk → Prop} {H : List Blk} (hb : bndW H.length ws = true) (ho : HOk H)
    (h : walkgx F n fn ws H P) {K : V → List Blk → Prop} (hK : ∀ x H', P x H' → K x H') (σ : Sg) (base : Nat) (w₀ w : World) (hw : Rep D.G1 σ base w₀ w H) :
    Calls Tryz.prog f (ws.map (W.den σ)).toArray w (LeftG D.G1 σ base w₀ H.length K) := by
  refine (xfun_spec D.E1_ok (calgx_ok hF n) (drwX_ok D.E1_ok mixed _ (calgx_ok hF n)) hf h hr hb ho σ base w₀ w hw).mono ?_
  rintro e w' ⟨τ, x, H', v, rfl, h1, h2, h3, h4, h5, h6, h7⟩
  exact ⟨τ, x, H', v, rfl, h1, hK x H' h2, h3, h4, h5, h6, h7⟩
abbrev eB (ps : List Int) (l : Int) (s : B.St) : Blk := .own 61 (encS ps l s)
abbrev sB (cs : List C) : Blk := .own 9 (ones cs)
/-- A slice of so many packets of a size. -/
def StAt (lo : Nat) (H : List Blk) (v : C) (k : Nat) (n : Int) : Prop := (k = 0 ∧ v = .csn) ∨ (k ≠ 0 ∧ ∃ q cs, v = .csl q 0 0 k cs.length ∧ (k ≤ cs.length ∧ cs.length ≤ 9223372036854775807) ∧ lo ≤ q ∧ H[q]? = some (sB cs) ∧ ∀ i : Nat, i < k → ∃ p : ByteArray, cs[i]? = some (.cs p) ∧ (p.size : Int) = n)
theorem st_step {cs rest : List C} {k : Nat} {p : ByteArray} {n : Int} (h1 : k ≤ cs.length) (h2 : ∀ i : Nat, i < k → ∃ p : ByteArray, cs[i]? = some (.cs p) ∧ (p.size : Int) = n) (hp : (p.size : Int) = n) : ∀ i : Nat, i < k + 1 → ∃ p' : ByteArray, (cs.take k ++ [.cs p] ++ rest)[i]? = some (.cs p') ∧ (p'.size : Int) = n := fun i hi => by
  have hl : (cs.take k).length = k := by rw [List.length_take]; omega
  rcases Nat.lt_or_ge i k with h | h
  · obtain ⟨p', e1, e2⟩ := h2 i h
    refine ⟨p', ?_, e2⟩
    rw [List.append_assoc, List.getElem?_append_left (by omega), List.getElem?_take_of_lt h]
    exact e1
  · obtain rfl : i = k := by omega
    refine ⟨p, ?_, hp⟩
    rw [List.append_assoc, List.getElem?_append_right (by omega), hl, Nat.sub_self]; rfl
theorem fr_get {ys : List Int} {k m : Nat} (h : k < m) (hl : m * 16 ≤ ys.length) (hs : ∀ y ∈ ys.take (m * 16), snd y) : ((ys.drop (k * 16)).take 16).length = 16 ∧ ∀ y ∈ (ys.drop (k * 16)).take 16, snd y := by
  refine ⟨by rw [List.length_take, List.length_drop]; omega, fun y hy => hs y ?_⟩
  obtain ⟨i, hi, rfl⟩ := List.mem_iff_getElem.1 hy
  rw [List.length_take, List.length_drop] at hi
  rw [List.getElem_take, List.getElem_drop]
  have hk : k * 16 + i < m * 16 := by omega
  have : (ys.take (m * 16))[k * 16 + i]'(by rw [List.length_take]; omega) = ys[k * 16 + i]'(by omega) := List.getElem_take
  rw [← this]
  exact List.getElem_mem _
theorem StAt.set {lo : Nat} {H : List Blk} {v : C} {k : Nat} {n : Int} (h : StAt lo H v k n) {i : Nat} (hi : i < lo) (b : Blk) : StAt lo (H.set i b) v k n := by
  rcases h with h | ⟨h0, q, cs, h1, h2, h3, h5, h6⟩
  · exact .inl h
  · exact .inr ⟨h0, q, cs, h1, h2, h3, by rw [List.getElem?_set_ne (by omega)]; exact h5, h6⟩
structure AS where
  k : Nat
  v : C
  ps : List Int
  l : Int
  s : B.St
  H : List Blk
def asJ (H : List Blk) (K : Nat) (n : Int) (m : Nat) (t : AS) : Prop := (m = K - t.k ∧ t.k ≤ K) ∧ UpH H t.H ∧ t.H[H.length]? = some (.own 61 zE) ∧ t.H[H.length + 1]? = some (.own 61 (encS t.ps t.l t.s)) ∧ EncOk t.ps t.l t.s ∧ StAt (H.length + 2) t.H t.v t.k n
theorem as_next {H : List Blk} {K : Nat} {n : Int} {t : AS} {G : List Blk} {v' : C} {ps' : List Int} {l' : Int} {s' : B.St} {b8 : Blk} {j8 : Nat} (e8 : j8 = H.length + 1) (g : t.k < K) (u : UpH H G) (a5 : G[H.length]? = some (.own 61 zE)) (a8 : G[j8]? = some b8) (he : EncOk ps' l' s') (st : StAt (H.length + 2) G v' (t.k + 1) n) :
    asJ H K n (K - (t.k + 1)) ⟨t.k + 1, v', ps', l', s', G.set j8 (.own 61 (encS ps' l' s'))⟩ := by
  subst e8
  exact ⟨⟨rfl, g⟩, u.set (by omega) rfl, by rw [List.getElem?_set_ne (by omega)]; exact a5, List.getElem?_set_self (List.getElem?_eq_some_iff.1 a8).1, he, st.set (by omega) _⟩
theorem sB_bnd {n : Nat} {cs xs : List C} (h : (sB cs).bnd n = true) (k : ∀ c ∈ xs, c ∈ cs ∨ ∃ s, c = .cs s) : (sB xs).bnd n = true := bnds_ones.2 fun c hc => by
  rcases k c hc with hh | ⟨s, rfl⟩
  · exact bnds_ones.1 h c hh
  · rfl
theorem mem_new {p : ByteArray} {m : Nat} {cs : List C} : ∀ c ∈ [C.cs p] ++ List.replicate m (C.cs ⟨#[]⟩), c ∈ cs ∨ ∃ s, c = .cs s := fun c hc => by
  rcases List.mem_append.1 hc with h | h
  · exact .inr ⟨p, List.mem_singleton.1 h⟩
  · exact .inr ⟨_, (List.mem_replicate.1 h).2⟩
theorem mem_row {p : ByteArray} {k : Nat} {cs rest : List C} (hr : ∀ c ∈ rest, c ∈ cs ∨ ∃ s, c = .cs s) : ∀ c ∈ cs.take k ++ [C.cs p] ++ rest, c ∈ cs ∨ ∃ s, c = .cs s := fun c hc => by
  rcases List.mem_append.1 hc with h | h
  · rcases List.mem_append.1 h with h | h
    · exact .inl (List.mem_of_mem_take h)
    · exact .inr ⟨p, List.mem_singleton.1 h⟩
  · exact hr c h
theorem small_k {x : Int} (h : -32768 ≤ x ∧ x ≤ 32767) : InK .i64 x := by simp only [InK, lowK, highK]; omega
theorem zero_ok : EncOk B.z16 0 ⟨B.z16, 0, [0, 0, 0, 0], B.z16, 0⟩ := by
  refine ⟨rfl, by decide, ⟨by decide, by decide⟩, ⟨⟨rfl, fun x hx => small_k (show -32768 ≤ x ∧ x ≤ 32767 from (by decide : ∀ x ∈ B.z16, -32768 ≤ x ∧ x ≤ 32767) x hx)⟩, small_k (by decide : (-32768 : Int) ≤ 0 ∧ (0 : Int) ≤ 32767), ⟨rfl, fun x hx => small_k ((by decide : ∀ x ∈ ([0, 0, 0, 0] : List Int), -32768 ≤ x ∧ x ≤ 32767) x hx)⟩, ⟨rfl, fun x hx => small_k ((by decide : ∀ x ∈ B.z16, -32768 ≤ x ∧ x ≤ 32767) x hx)⟩, small_k (by decide : (-32768 : Int) ≤ 0 ∧ (0 : Int) ≤ 32767)⟩, right_st0⟩
noncomputable def FAl : Fns := F0.over 37 hEnc
theorem FAl_ok : FnsOk Tryz.prog FAl D.G1 := D.F0_okg.overG encode_ct Tryz.func37 (by kernel_rfl) (by kernel_rfl)
theorem all_walk {H : List Blk} (hH : HOk H) {q K c : Nat} {ys : List Int} (hq : H[q]? = some (fB c ys)) (hl : K ≤ c) (hc : c ≤ 9223372036854775807) (hK : K ≤ 30) (hy : ∀ y ∈ ys.take (K * 16), snd y) {n : Int} (hn : 10 ≤ n ∧ n ≤ 32) :
    walkgx FAl 0 Tryz.f16 [.c (.csl q 0 0 K c), i64 n] H fun y H' => ∃ v ps l s, y = .tup [.c v, encW ps l s, i64 0] ∧ UpH H H' ∧ StAt (H.length + 2) H' v K n := by
  have hql := (List.getElem?_eq_some_iff.1 hq).1
  obtain ⟨⟨hx1, hx2⟩, _⟩ := hH.rng _ (List.mem_of_getElem? hq)
  have u0 := UpH.refl hH.bnd
  have u1 : UpH H (H ++ [.own 61 zE]) := u0.app rfl
  have u2 : UpH H (H ++ [.own 61 zE] ++ [.own 61 zE]) := u1.app rfl
  have hl1 : (H ++ [Blk.own 61 zE]).length = H.length + 1 := by simp
  repeat' ((conv => whnf); first | (refine lenH_is ?_) | (refine pushH_as (b' := .own 61 zE) rfl ?_) | fail)
  conv => whnf
  refine loop_upJ (List.range' 7 1 ++ List.range' 10 4 ++ List.range' 16 22) (fun m (t : AS) => asJ H K n m t) (fun t => [(7, .w (.c t.v)), (16, vi t.k)]) (fun t => t.H) K ⟨0, .csn, B.z16, 0, ⟨B.z16, 0, [0, 0, 0, 0], B.z16, 0⟩, _⟩ ⟨⟨rfl, Nat.zero_le _⟩, u2, up_get (up_top _ _), by rw [← hl1]; exact up_top _ _, zero_ok, .inl ⟨rfl, rfl⟩⟩ ?_ ?_ ?_
  · rintro m t ⟨_, u, a5, a8, _, f⟩
    have dq := decide_eq_true (Nat.lt_of_lt_of_le hql u.len)
    have d5 := decide_eq_true (List.getElem?_eq_some_iff.1 a5).1
    have d8 : decide ((H ++ [Blk.own 61 zE]).length < t.H.length) = true := decide_eq_true (by rw [hl1]; exact (List.getElem?_eq_some_iff.1 a8).1)
    have dv : C.bnd t.H.length t.v = true := by
      rcases f with ⟨_, e⟩ | ⟨_, q, cs, e, _, _, e5, _⟩
      · rw [e]; rfl
      · rw [e]; exact decide_eq_true (List.getElem?_eq_some_iff.1 e5).1
    repeat' (first | rfl | exact dq | exact dv | exact d5 | exact d8 | refine and_t ?_ ?_)
  · exact ⟨rfl, ⟨⟨Nat.le_of_ble_eq_true rfl, rfl⟩, ⟨Nat.le_of_ble_eq_true rfl, rfl⟩, trivial⟩, wkH_refl _, bndH_of u2.bnd, u2.len⟩
  · rintro m t ⟨⟨rfl, k1⟩, u, a5, a8, eo, f⟩
    rw [← hl1] at a8
    have gq := u.keep _ _ hq
    rcases Nat.lt_or_ge t.k K with g | g
    · have em : mulN (t.k : Int).toNat (Tryz.prog.types[48]).size = t.k * 16 := by
        rw [show (Tryz.prog.types[48]).size = 16 by kernel_rfl, mulN_eq, Int.toNat_natCast]
      obtain ⟨w1, w2⟩ := fr_get g (by omega) hy
      repeat' ((conv => whnf); first | (refine ask_true (by omega) ?_) | (refine And.intro (And.intro (by omega) (by omega)) ?_) | (refine hGet_at gq ?_) | fail)
      conv => whnf
      refine And.intro (by rw [em, show (Tryz.prog.types[48]).size = 16 by kernel_rfl]; omega) ?_
      conv => whnf
      rw [em, Nat.zero_add, show (Tryz.prog.types[48]).size = 16 by kernel_rfl]
      obtain ⟨fr, efr⟩ : ∃ fr, fr = (ys.drop (t.k * 16)).take 16 := ⟨_, rfl⟩
      rw [← efr] at w1 w2 ⊢
      have ht2 : H.length + 2 ≤ t.H.length := by have := (List.getElem?_eq_some_iff.1 a8).1; omega
      repeat' ((conv => whnf); first | (refine lenH_is ?_) | (refine pushH_at ?_) | (refine hGet_at (up_top _ _) ?_) | (refine setH_as (set_top _ _ _) ?_) | (refine hGet_at (up_get a8) ?_) | (refine And.intro ⟨rfl, rfl, rfl, rfl, rfl⟩ (And.intro eo (And.intro w2 (And.intro hn fun p ps' l' s' hp he => ?_)))) | (refine ask_false (by omega) ?_) | fail)
      conv => whnf
      refine red_each (by kernel_rfl) ?_
      have u3 : UpH H (t.H ++ [iB 48 16 fr] ++ [eB ps' l' s'] ++ [sB [C.cs p]]) := ((u.app rfl).app rfl).app rfl
      have u4 : ∀ c', UpH H (t.H ++ [iB 48 16 fr] ++ [eB ps' l' s'] ++ [sB [C.cs p]] ++ [sB ([C.cs p] ++ List.replicate (c' - 1) (C.cs ⟨#[]⟩))]) := fun c' => u3.app (sB_bnd (cs := []) rfl mem_new)
      have h8 : H.length ≤ (H ++ [Blk.own 61 zE]).length := by rw [hl1]; omega
      rcases f with ⟨f0, fe⟩ | ⟨f0, r, cs, fe, f1, f2, f3, f4⟩
      · rw [fe]
        repeat' ((conv => whnf); first | (refine lenH_is ?_) | (refine pushH_at ?_) | (refine hGet_at (b := .own 61 (encS ps' l' s')) (by first | exact up_top _ _ | exact up_get (up_top _ _) | exact up_get (up_get (up_top _ _))) ?_) | (refine And.intro rfl ?_) | (refine hGet_at (up_top _ _) ?_) | (refine And.intro (Nat.le_of_ble_eq_true (by kernel_rfl)) fun c' (h4 : 1 ≤ c') (h5 : c' ≤ 9223372036854775807) => ?_) | (refine And.intro ?_ (And.intro ?_ trivial)) | (refine And.intro ?_ trivial) | fail)
        all_goals (conv => whnf)
        all_goals (refine hGet_at (up_get (up_get (up_get (up_get a8)))) ?_)
        all_goals (repeat' ((conv => whnf); first | (refine setH_at ?_) | (refine ask_wrap64 (by omega) (by omega) ?_) | fail))
        all_goals (conv => whnf)
        all_goals (refine ⟨K - (t.k + 1), ⟨t.k + 1, C.csl (t.H ++ [iB 48 16 fr] ++ [eB ps' l' s'] ++ [sB [C.cs p]]).length 0 0 1 c', ps', l', s', _⟩, by omega, as_next hl1 g (u4 c') (up_get (up_get (up_get (up_get a5)))) (up_get (up_get (up_get (up_get a8)))) he ?_, ⟨rfl, ⟨⟨Nat.le_of_ble_eq_true rfl, rfl⟩, ⟨Nat.le_of_ble_eq_true rfl, rfl⟩, trivial⟩, wkH_refl _, bndH_of ((u4 c').set h8 rfl).bnd, ((u4 c').set h8 rfl).len⟩⟩)
        all_goals
          have hcl : ([C.cs p] ++ List.replicate (c' - 1) (C.cs ⟨#[]⟩)).length = c' := by simp <;> omega
          refine .inr ⟨Nat.succ_ne_zero _, _, [C.cs p] ++ List.replicate (c' - 1) (C.cs ⟨#[]⟩), by rw [f0, hcl], ⟨by rw [hcl]; omega, by rw [hcl]; exact h5⟩, by simp <;> omega, up_top _ _, ?_⟩
          rw [f0]
          exact st_step (cs := []) (rest := List.replicate (c' - 1) (C.cs ⟨#[]⟩)) (k := 0) (Nat.le_refl _) (fun i hi => absurd hi (Nat.not_lt_zero i)) hp
      · rw [fe]
        have fr0 : (t.H ++ [iB 48 16 fr] ++ [.own 61 (encS ps' l' s')] ++ [sB [.cs p]])[r]? = some (sB cs) := up_get (up_get (up_get f3))
        have hrl := (List.getElem?_eq_some_iff.1 f3).1
        repeat' ((conv => whnf); first | (refine lenH_is ?_) | (refine pushH_at ?_) | (refine hGet_at (b := .own 61 (encS ps' l' s')) (by first | exact up_top _ _ | exact up_get (up_top _ _) | exact up_get (up_get (up_top _ _)) | (rw [List.getElem?_set_ne (by simp <;> omega)]; exact up_get (up_top _ _))) ?_) | (refine hGet_at fr0 ?_) | (refine And.intro rfl ?_) | (refine hGet_at (up_top _ _) ?_) | (refine setH_at ?_) | (refine Exists.intro cs (And.intro rfl (And.intro (And.intro rfl (And.intro (by omega) (Nat.le_trans (Nat.mul_le_mul_right _ (show t.k + 1 ≤ 31 by omega)) (Nat.le_of_ble_eq_true (by kernel_rfl))))) (And.intro (fun hroom => ?_) fun hg c' (h5 : t.k + 1 ≤ c') (h6 : c' ≤ 9223372036854775807) => ?_)))) | (refine And.intro ?_ (And.intro ?_ trivial)) | (refine And.intro ?_ trivial) | fail)
        all_goals (conv => whnf)
        all_goals (have cb : (sB cs).bnd (t.H ++ [iB 48 16 fr] ++ [eB ps' l' s'] ++ [sB [C.cs p]]).length = true := Blk.bnd_up (by simp <;> omega) _ (u.bnd _ (List.mem_of_getElem? f3)))
        all_goals first
          | (have ur := u3.set (q := r) (b := sB (cs.take t.k ++ [C.cs p] ++ cs.drop (t.k + 1))) (by omega) (sB_bnd cb (mem_row fun c hc => .inl (List.mem_of_mem_drop hc)))
             have g8 : ((t.H ++ [iB 48 16 fr] ++ [eB ps' l' s'] ++ [sB [C.cs p]]).set r (sB (cs.take t.k ++ [C.cs p] ++ cs.drop (t.k + 1))))[(H ++ [Blk.own 61 zE]).length]? = some (eB t.ps t.l t.s) := by
               rw [List.getElem?_set_ne (by omega)]; exact up_get (up_get (up_get a8))
             have g5 : ((t.H ++ [iB 48 16 fr] ++ [eB ps' l' s'] ++ [sB [C.cs p]]).set r (sB (cs.take t.k ++ [C.cs p] ++ cs.drop (t.k + 1))))[H.length]? = some (Blk.own 61 zE) := by
               rw [List.getElem?_set_ne (by omega)]; exact up_get (up_get (up_get a5))
             refine hGet_at g8 ?_
             repeat' ((conv => whnf); first | (refine setH_at ?_) | (refine ask_wrap64 (by omega) (by omega) ?_) | fail)
             conv => whnf
             have hcl : (cs.take t.k ++ [C.cs p] ++ cs.drop (t.k + 1)).length = cs.length := by simp <;> omega
             refine ⟨K - (t.k + 1), ⟨t.k + 1, C.csl r 0 0 (t.k + 1) cs.length, ps', l', s', _⟩, by omega, as_next hl1 g ur g5 g8 he ?_, ⟨rfl, ⟨⟨Nat.le_of_ble_eq_true rfl, rfl⟩, ⟨Nat.le_of_ble_eq_true rfl, rfl⟩, trivial⟩, wkH_refl _, bndH_of (ur.set h8 rfl).bnd, (ur.set h8 rfl).len⟩⟩
             exact .inr ⟨Nat.succ_ne_zero _, r, cs.take t.k ++ [C.cs p] ++ cs.drop (t.k + 1), by rw [hcl], ⟨by rw [hcl]; omega, by rw [hcl]; exact f1.2⟩, f2, List.getElem?_set_self (List.getElem?_eq_some_iff.1 fr0).1, st_step f1.1 f4 hp⟩)
          | (have ug := u3.app (b := sB (cs.take t.k ++ [C.cs p] ++ List.replicate (c' - (t.k + 1)) (C.cs ⟨#[]⟩))) (Blk.bnd_up (Nat.le_succ _) _ (sB_bnd cb (mem_row fun c hc => .inr ⟨_, (List.mem_replicate.1 hc).2⟩)))
             refine hGet_at (up_get (up_get (up_get (up_get a8)))) ?_
             repeat' ((conv => whnf); first | (refine setH_at ?_) | (refine ask_wrap64 (by omega) (by omega) ?_) | fail)
             conv => whnf
             have hcl : (cs.take t.k ++ [C.cs p] ++ List.replicate (c' - (t.k + 1)) (C.cs ⟨#[]⟩)).length = c' := by simp <;> omega
             refine ⟨K - (t.k + 1), ⟨t.k + 1, C.csl (t.H ++ [iB 48 16 fr] ++ [eB ps' l' s'] ++ [sB [C.cs p]]).length 0 0 (t.k + 1) c', ps', l', s', _⟩, by omega, as_next hl1 g ug (up_get (up_get (up_get (up_get a5)))) (up_get (up_get (up_get (up_get a8)))) he ?_, ⟨rfl, ⟨⟨Nat.le_of_ble_eq_true rfl, rfl⟩, ⟨Nat.le_of_ble_eq_true rfl, rfl⟩, trivial⟩, wkH_refl _, bndH_of (ug.set h8 rfl).bnd, (ug.set h8 rfl).len⟩⟩
             exact .inr ⟨Nat.succ_ne_zero _, _, cs.take t.k ++ [C.cs p] ++ List.replicate (c' - (t.k + 1)) (C.cs ⟨#[]⟩), by rw [hcl], ⟨by rw [hcl]; omega, by rw [hcl]; exact h6⟩, by simp <;> omega, up_top _ _, st_step f1.1 f4 hp⟩)
    · obtain ⟨kk, ekk⟩ : ∃ kk, kk = t.k := ⟨_, rfl⟩
      repeat' ((conv => whnf); first | (refine ask_false (by omega) ?_) | fail)
      conv => whnf
      refine red_each (by kernel_rfl) ?_
      repeat' ((conv => whnf); first | (refine hGet_at a8 ?_) | (refine hGet_at a5 ?_) | (refine setH_at ?_) | (refine And.intro ?_ (And.intro ?_ trivial)) | (refine And.intro ?_ trivial) | fail)
      all_goals (conv => whnf)
      refine hGet_at (List.getElem?_set_self (List.getElem?_eq_some_iff.1 a5).1) ?_
      repeat' ((conv => whnf); first | fail)
      obtain rfl : t.k = K := by omega
      exact ⟨t.v, t.ps, t.l, t.s, rfl, u.set (Nat.le_refl _) rfl, f.set (by omega) _⟩
noncomputable def hAll : HCt := fun ws H K => match ws with
  | [.c v, .c (.ci .i64 n)] => ∃ lo k, FrAt lo H v k ∧ k ≤ 30 ∧ (10 ≤ n ∧ n ≤ 32) ∧ ∀ (v' : C) (ps : List Int) (l : Int) (s : B.St) (H' : List Blk), UpH H H' → StAt (H.length + 2) H' v' k n → K (.tup [.c v', encW ps l s, i64 0]) H'
  | _ => False
theorem all_nil {H : List Blk} (hH : HOk H) {n : Int} : walkgx FAl 0 Tryz.f16 [.c .csn, i64 n] H fun y H' => ∃ ps l s, y = .tup [.c .csn, encW ps l s, i64 0] ∧ UpH H H' := by
  have u0 := UpH.refl hH.bnd
  have u1 : UpH H (H ++ [Blk.own 61 zE]) := u0.app rfl
  have u2 : UpH H (H ++ [Blk.own 61 zE] ++ [Blk.own 61 zE]) := u1.app rfl
  repeat' ((conv => whnf); first | (refine lenH_is ?_) | (refine pushH_as (b' := .own 61 zE) rfl ?_) | fail)
  conv => whnf
  refine loop_at (List.range' 7 1 ++ List.range' 10 4 ++ List.range' 16 22) (fun m (k : Nat) => m = 0 ∧ k = 0) (fun k => [(7, .w (.c .csn)), (16, vi 0)]) (fun _ => H ++ [Blk.own 61 zE] ++ [Blk.own 61 zE]) 0 (0 : Nat) ⟨rfl, rfl⟩ ?_ ?_
  · refine ⟨rfl, ⟨⟨Nat.le_of_ble_eq_true rfl, rfl⟩, ⟨Nat.le_of_ble_eq_true rfl, rfl⟩, trivial⟩, wkH_refl _, ?_, bndH_of u2.bnd, u2.len⟩
    have d5 : decide (H.length < (H ++ [Blk.own 61 zE] ++ [Blk.own 61 zE]).length) = true := decide_eq_true (by simp)
    have d8 : decide ((H ++ [Blk.own 61 zE]).length < (H ++ [Blk.own 61 zE] ++ [Blk.own 61 zE]).length) = true := decide_eq_true (by simp)
    repeat' (first | rfl | exact d5 | exact d8 | refine and_t ?_ ?_)
  · rintro m k ⟨rfl, rfl⟩
    have a8 : (H ++ [Blk.own 61 zE] ++ [Blk.own 61 zE])[(H ++ [Blk.own 61 zE]).length]? = some (Blk.own 61 zE) := up_top _ _
    have a5 : (H ++ [Blk.own 61 zE] ++ [Blk.own 61 zE])[H.length]? = some (Blk.own 61 zE) := up_get (up_top _ _)
    repeat' ((conv => whnf); first | (refine ask_false (by omega) ?_) | fail)
    conv => whnf
    refine red_each (by kernel_rfl) ?_
    repeat' ((conv => whnf); first | (refine hGet_at a8 ?_) | (refine hGet_at a5 ?_) | (refine setH_at ?_) | (refine And.intro ?_ (And.intro ?_ trivial)) | (refine And.intro ?_ trivial) | fail)
    all_goals (conv => whnf)
    refine hGet_at (List.getElem?_set_self (List.getElem?_eq_some_iff.1 a5).1) ?_
    repeat' ((conv => whnf); first | fail)
    exact ⟨B.z16, 0, ⟨B.z16, 0, [0, 0, 0, 0], B.z16, 0⟩, rfl, u2.set (Nat.le_refl _) rfl⟩
theorem all_ct : HCtOkG Tryz.prog D.G1 16 hAll := by
  intro ws H K h hr hb ho σ base w₀ w hw
  unfold hAll at h
  split at h
  · rename_i v n
    obtain ⟨lo, k, hf, hk, hn, hK⟩ := h
    rcases hf with ⟨rfl, rfl⟩ | ⟨h0, q, c, ys, rfl, h2, h3, h4, h5, h6⟩
    · exact heap_liftgx FAl_ok Tryz.func16 (n := 0) (ws := [.c .csn, i64 n]) ⟨trivial, hr.2.1, trivial⟩ rfl ho (all_nil ho) (fun x H' hP => by
        obtain ⟨ps, l, s, rfl, u⟩ := hP
        exact hK _ ps l s H' u (.inl ⟨rfl, rfl⟩)) σ base w₀ w hw
    · exact heap_liftgx FAl_ok Tryz.func16 (n := 0) (ws := [.c (.csl q 0 0 k c), i64 n]) ⟨hr.1, hr.2.1, trivial⟩ (by
        have := (List.getElem?_eq_some_iff.1 h5).1
        show (decide (q < H.length) && (true && true)) = true
        simp [this]) ho (all_walk ho h5 h2.1 h2.2 hk h6 hn) (fun x H' hP => by
        obtain ⟨v, ps, l, s, rfl, u, st⟩ := hP
        exact hK v ps l s H' u st) σ base w₀ w hw
  · exact h.elim
end R
end Go.Proofs.YtaficaacogcblaaGreatDoor
