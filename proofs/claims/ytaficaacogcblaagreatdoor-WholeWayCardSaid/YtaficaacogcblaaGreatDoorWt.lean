/- T: what is needed here of the texts XXt XXu XXv XXw XXtl. (Printed by fam.py.) -/
import Derived.Test.YtaficaacogcblaaGreatDoorXs
import Derived.Test.YtaficaacogcblaaGreatDoorXrs
import Derived.Test.YtaficaacogcblaaGreatDoorXr
set_option linter.all false
namespace Go.Proofs.YtaficaacogcblaaGreatDoor
namespace T
open Go.RowKit (Below)
set_option maxRecDepth 100000
set_option maxHeartbeats 32000000

@[irreducible] noncomputable def cutS : Int → Int → Int := sealed fun x n => if n < 1 ∨ 62 < n then x else max (min x (pw (n - 1) - 1)) (-pw (n - 1))
theorem cutS_def (x n : Int) : cutS x n = if n < 1 ∨ 62 < n then x else max (min x (pw (n - 1) - 1)) (-pw (n - 1)) := by unfold cutS; rw [sealed_eq]
theorem vi_eq {a b : Int} (h : a = b) : vi a = vi b := by rw [h]
theorem cut_walk (x n : Int) (hx : InK .i64 x) (hn : InK .i64 n) : walk F0 0 Tryz.f77 [i64 x, i64 n] [] fun y _ => y = vi (cutS x n) := by
  obtain ⟨x1, x2⟩ := hx
  obtain ⟨n1, n2⟩ := hn
  simp only [lowK, highK] at x1 x2 n1 n2
  conv => whnf
  refine ask_split (fun h1 => ?_) (fun h1 => ?_)
  · conv => whnf
    rw [cutS_def]; rw [if_pos (.inl h1)]; rfl
  · conv => whnf
    refine ask_split (fun h2 => ?_) (fun h2 => ?_)
    · conv => whnf
      rw [cutS_def]; rw [if_pos (.inr h2)]; rfl
    · conv => whnf
      refine ask_wrap64 (by omega) (by omega) ?_
      conv => whnf
      refine ⟨by omega, ?_⟩
      have e1 := pw_pos (n - 1)
      have e2 := pw62 (n := n - 1) (by omega)
      refine shl64 (by omega) (by omega) (by omega) (by omega) ?_
      have ec : cutS x n = max (min x (pw (n - 1) - 1)) (-pw (n - 1)) := by
        rw [cutS_def]; rw [if_neg (by omega)]
      rw [ec]
      clear ec
      generalize pw (n - 1) = p at *
      repeat' ((conv => whnf); first | (refine ask_wrap64 (by omega) (by omega) ?_) | (refine ask_true (by omega) ?_) | (refine ask_false (by omega) ?_) | (refine ⟨trivial, ?_⟩) | (refine ⟨by omega, ?_⟩) | (refine fun (_ : InK _ _) => ?_) | (refine ⟨by kernel_rfl, ?_⟩) | (refine ask_wrapu8 (by omega) (by omega) ?_) | (refine ask_wrapu64 (by omega) (by omega) ?_) | (refine ask_true (show (_ : Bool) = _ from rfl) ?_) | (refine ask_false (show ¬ ((_ : Bool) = _) from Bool.noConfusion) ?_) | fail)
      exact vi_eq (by omega)
theorem cut_eq (x : Int) {n : Int} (h1 : 1 ≤ n) (h2 : n ≤ 62) : cutS x n = max (min x (pw (n - 1) - 1)) (-pw (n - 1)) := by
  rw [cutS_def]; rw [if_neg (by omega)]
theorem cut_in {x n : Int} (hx : InK .i64 x) : InK .i64 (cutS x n) := by
  rw [cutS_def]
  split
  · exact hx
  · rename_i h
    have e1 := pw_pos (n - 1)
    have e2 := pw62 (n := n - 1) (by omega)
    simp only [InK, lowK, highK] at hx ⊢
    omega
theorem cut_ct : CtOk Tryz.prog 77 (ct2 (fun _ _ => True) cutS) := ct2_ok F0_ok Tryz.func77 (fun a b ha _ _ => cut_in ha) fun a b ha hb _ => cut_walk a b ha hb
@[irreducible] noncomputable def c16 : Int → Int := sealed fun x => cutS x 16
@[irreducible] noncomputable def c22 : Int → Int := sealed fun x => cutS x 22
theorem c16_def (x : Int) : c16 x = cutS x 16 := by unfold c16; rw [sealed_eq]
theorem c22_def (x : Int) : c22 x = cutS x 22 := by unfold c22; rw [sealed_eq]
noncomputable def FCut : Fns := F0.plus 77 (ct2 (fun _ _ => True) cutS)
theorem FCut_ok : FnsOk Tryz.prog FCut := F0_ok.plus cut_ct Tryz.func77 (by kernel_rfl) (by kernel_rfl)
theorem sound1_ct : CtOk Tryz.prog 127 (ct1 (fun _ => True) c16) := ct1_ok (n := 0) FCut_ok Tryz.func127 (fun a h _ => by rw [c16_def]; exact cut_in h) fun a ha _ => by
  rw [c16_def]
  repeat' ((conv => whnf); first | (refine ask_wrap64 (by omega) (by omega) ?_) | (refine ask_true (by omega) ?_) | (refine ask_false (by omega) ?_) | (refine ⟨trivial, ?_⟩) | (refine ⟨by omega, ?_⟩) | (refine fun (_ : InK _ _) => ?_) | (refine ⟨by kernel_rfl, ?_⟩) | (refine ask_wrapu8 (by omega) (by omega) ?_) | (refine ask_wrapu64 (by omega) (by omega) ?_) | (refine ask_true (show (_ : Bool) = _ from rfl) ?_) | (refine ask_false (show ¬ ((_ : Bool) = _) from Bool.noConfusion) ?_) | fail)
  rfl
theorem tcut_ct : CtOk Tryz.prog 90 (ct1 (fun _ => True) c22) := ct1_ok (n := 0) FCut_ok Tryz.func90 (fun a h _ => by rw [c22_def]; exact cut_in h) fun a ha _ => by
  rw [c22_def]
  repeat' ((conv => whnf); first | (refine ask_wrap64 (by omega) (by omega) ?_) | (refine ask_true (by omega) ?_) | (refine ask_false (by omega) ?_) | (refine ⟨trivial, ?_⟩) | (refine ⟨by omega, ?_⟩) | (refine fun (_ : InK _ _) => ?_) | (refine ⟨by kernel_rfl, ?_⟩) | (refine ask_wrapu8 (by omega) (by omega) ?_) | (refine ask_wrapu64 (by omega) (by omega) ?_) | (refine ask_true (show (_ : Bool) = _ from rfl) ?_) | (refine ask_false (show ¬ ((_ : Bool) = _) from Bool.noConfusion) ?_) | fail)
  rfl
noncomputable def FX : Fns := ((((F0.plus 127 (ct1 (fun _ => True) c16)).plus 90 (ct1 (fun _ => True) c22)).into 91 Tryz.f91).into 92 Tryz.f92).into 126 Tryz.f126
theorem FX_ok : FnsOk Tryz.prog FX := ((((F0_ok.plus sound1_ct Tryz.func127 (by kernel_rfl) (by kernel_rfl)).plus tcut_ct Tryz.func90 (by kernel_rfl) (by kernel_rfl)).into Tryz.func91 (by kernel_rfl) (by kernel_rfl)).into Tryz.func92 (by kernel_rfl) (by kernel_rfl)).into Tryz.func126 (by kernel_rfl) (by kernel_rfl)
abbrev ar (n : Nat) (xs : List Int) : W := .agg [.ints .i64 n xs]
abbrev ob (xs : List Int) : Blk := .own 48 [.ints .i64 16 xs]
/-- Some of a list's places have their new values. -/
def stg (zs xs : List Int) (i : Int) : List Int := zs.take i.toNat ++ xs.drop i.toNat
theorem stg_set {zs xs : List Int} {i : Int} {m : Nat} (hm : m = i.toNat) {v : Int} (h : zs.length = xs.length) (h0 : 0 ≤ i) (h1 : i < zs.length) (hv : zs.getD i.toNat 0 = v) : (stg zs xs i).set m v = stg zs xs (i + 1) := by
  subst hm hv
  have hlt : i.toNat < zs.length := by omega
  have hlt' : i.toNat < xs.length := by omega
  unfold stg
  rw [show (i + 1).toNat = i.toNat + 1 by omega]
  rw [List.set_append_right _ _ (by simp; omega)]
  have e : i.toNat - (zs.take i.toNat).length = 0 := by simp; omega
  rw [e, List.drop_eq_getElem_cons hlt', List.set_cons_zero, List.take_succ_eq_append_getElem hlt, List.append_assoc, List.singleton_append]
  congr 2
  rw [List.getD_eq_getElem?_getD, List.getElem?_eq_getElem hlt]; rfl
theorem stg_zero (zs xs : List Int) : stg zs xs 0 = xs := by simp [stg]
theorem stg_all {zs xs : List Int} (h : zs.length = xs.length) {i : Int} (hi : i = zs.length) : stg zs xs i = zs := by
  subst hi
  unfold stg
  rw [Int.toNat_natCast, List.take_length, List.drop_of_length_le (by omega), List.append_nil]
theorem mulN1 (n : Nat) : mulN n 1 = n := (mulN_eq n 1).trans (Nat.mul_one n)
def z16 : List Int := [0, 0, 0, 0, 0, 0, 0, 0, 0, 0, 0, 0, 0, 0, 0, 0]
noncomputable def lift1 (l x : Int) : Int := c22 x - (27853 * l).tdiv 32768
noncomputable def prevL (l : Int) (xs : List Int) (i : Nat) : Int := if i = 0 then l else c22 (xs.getD (i - 1) 0)
noncomputable def liftZ (l : Int) (xs : List Int) : List Int := (List.range 16).map fun i => lift1 (prevL l xs i) (xs.getD i 0)
theorem liftZ_len (l : Int) (xs : List Int) : (liftZ l xs).length = 16 := by simp [liftZ]
theorem getD_range {f : Nat → Int} {m i : Nat} (h : i < m) : ((List.range m).map f).getD i 0 = f i := by
  simp [List.getD_eq_getElem?_getD, h]
theorem p22 : pw 21 = 2097152 := by rw [pw_def]; decide
theorem cut22 (x : Int) : c22 x = max (min x 2097151) (-2097152) := by
  rw [c22_def, cut_eq x (by decide) (by decide), show (22 : Int) - 1 = 21 by decide, p22]; rfl
theorem td28 {a : Int} (h : -2097152 ≤ a ∧ a ≤ 2097151) : -1782592 ≤ (27853 * a).tdiv 32768 ∧ (27853 * a).tdiv 32768 ≤ 1782592 := by
  rcases Int.lt_or_le a 0 with hn | hp
  · rw [tdiv_neg (by omega)]; omega
  · rw [tdiv_pos (by omega)]; omega
theorem prev_next (l : Int) (xs : List Int) {i : Int} (h : 0 ≤ i) : prevL l xs (i + 1).toNat = c22 (xs.getD i.toNat 0) := by
  unfold prevL
  rw [if_neg (by omega), show (i + 1).toNat - 1 = i.toNat by omega]
theorem lift_walk (l : Int) (xs : List Int) (hl : InK .i64 l) (h : xs.length = 16) (hx : ∀ x ∈ xs, InK .i64 x) : walk FX 2 Tryz.f61 [i64 l, ar 16 xs] [] fun y _ => y = .tup [ar 16 (liftZ (c22 l) xs), i64 (prevL (c22 l) xs 16)] := by
  have pb : ∀ i, -2097152 ≤ prevL (c22 l) xs i ∧ prevL (c22 l) xs i ≤ 2097151 := fun i => by
    unfold prevL
    split
    · rw [cut22]; omega
    · rw [cut22]; omega
  conv => whnf
  refine ⟨trivial, ?_⟩
  conv => whnf
  refine loop_at (List.range' 5 2 ++ List.range' 8 10) (fun m (i : Int) => 0 ≤ i ∧ i ≤ 16 ∧ m = (16 - i).toNat) (fun i => [(8, vi i)]) (fun i => [.own 3 [.one (.ci .i64 (prevL (c22 l) xs i.toNat))], ob xs, ob z16, ob (stg (liftZ (c22 l) xs) xs i), ob z16]) 16 0 ⟨by decide, by decide, rfl⟩ ?_ ?_
  · exact ⟨rfl, ⟨⟨Nat.le_of_ble_eq_true rfl, rfl⟩, trivial⟩, ⟨rfl, rfl, rfl, by rw [stg_zero]; rfl, rfl, trivial⟩, rfl, rfl, Nat.le_of_ble_eq_true rfl⟩
  · rintro m i ⟨h0, h1, rfl⟩
    have b1 := pb i.toNat
    have b3 := td28 b1
    conv => whnf
    refine ask_split (fun h2 => ?_) (fun h2 => ?_)
    · conv => whnf
      refine ⟨⟨h0, by omega⟩, ?_⟩
      have em : mulN i.toNat (Tryz.prog.types[3]).size = i.toNat := mulN1 i.toNat
      conv => whnf
      refine ⟨Nat.lt_of_le_of_lt (Nat.le_of_eq em) (by omega), fun hin => ?_⟩
      have b2 := cut22 (xs.getD (mulN i.toNat (Tryz.prog.types[3]).size) 0)
      repeat' ((conv => whnf); first | (refine ⟨trivial, ?_⟩) | (refine ask_wrap64 (by omega) (by omega) ?_) | (refine ⟨by omega, ?_⟩) | (refine ⟨by kernel_rfl, ?_⟩) | fail)
      refine ⟨(16 - (i + 1)).toNat, i + 1, by omega, ⟨by omega, by omega, rfl⟩, rfl, ⟨⟨Nat.le_of_ble_eq_true rfl, rfl⟩, trivial⟩, ⟨?_, rfl, rfl, ?_, rfl, trivial⟩, rfl, rfl, Nat.le_of_ble_eq_true rfl⟩
      · rw [prev_next _ _ h0]
        exact congrArg (fun m => Blk.own 3 [.one (.ci .i64 (c22 (xs.getD m 0)))]) em.symm
      · refine congrArg ob (stg_set em (by rw [liftZ_len, h]) h0 (by rw [liftZ_len]; omega) ?_).symm
        unfold liftZ
        rw [getD_range (by omega)]
        exact congrArg (fun m => lift1 (prevL (c22 l) xs i.toNat) (xs.getD m 0)) em.symm
    · have hi : i = 16 := by omega
      subst hi
      repeat' ((conv => whnf); first | (refine ⟨by kernel_rfl, ?_⟩) | fail)
      conv => whnf
      show V.tup [ar 16 _, i64 _] = V.tup [ar 16 _, i64 _]
      rw [stg_all (by rw [liftZ_len, h]) (by rw [liftZ_len]; rfl)]
      rfl
def ctLA (f : Int → List Int → List Int) (g : Int → List Int → Int) : Ct := fun ws K => match ws with
  | [.c (.ci .i64 l), .agg [.ints .i64 n xs]] => n = 16 ∧ K (.tup [ar 16 (f l xs), i64 (g l xs)])
  | _ => False
theorem ar_rng {xs : List Int} (h : xs.length = 16) (hx : ∀ x ∈ xs, InK .i64 x) : (ar 16 xs).rng := ⟨⟨h, hx⟩, trivial⟩
theorem ctLA_ok {F : Fns} (hF : FnsOk Tryz.prog F) {n : Nat} {f : FuncId} {fn : Func} (hf : Tryz.prog.funcs[f]? = some fn) {g : Int → List Int → List Int} {k : Int → List Int → Int} (hg : ∀ l (xs : List Int), xs.length = 16 → (∀ x ∈ xs, InK .i64 x) → ((g l xs).length = 16 ∧ ∀ x ∈ g l xs, InK .i64 x) ∧ InK .i64 (k l xs))
    (h : ∀ l (xs : List Int), InK .i64 l → xs.length = 16 → (∀ x ∈ xs, InK .i64 x) → walk F n fn [i64 l, ar 16 xs] [] fun y _ => y = .tup [ar 16 (g l xs), i64 (k l xs)]) : CtOk Tryz.prog f (ctLA g k) := by
  intro ws K h' hr
  unfold ctLA at h'
  split at h'
  · rename_i l n xs
    obtain ⟨rfl, h'⟩ := h'
    obtain ⟨h0, ⟨⟨h1, h2⟩, _⟩, _⟩ := hr
    obtain ⟨g1, g2⟩ := hg l xs h1 h2
    exact ⟨_, h', ⟨⟨ar_rng g1.1 g1.2, g2, trivial⟩, rfl⟩, walk_calls hF hf rfl ⟨h0, ar_rng h1 h2, trivial⟩ rfl (h l xs h0 h1 h2)⟩
  · exact h'.elim
theorem small_in {x : Int} (h : -4194304 ≤ x ∧ x ≤ 4194303) : InK .i64 x := by simp only [InK, lowK, highK]; omega
theorem prev_bound {l : Int} {xs : List Int} (h : -2097152 ≤ l ∧ l ≤ 2097151) (i : Nat) : -2097152 ≤ prevL l xs i ∧ prevL l xs i ≤ 2097151 := by
  unfold prevL
  split
  · exact h
  · rw [cut22]; omega
theorem c22_bound (x : Int) : -2097152 ≤ c22 x ∧ c22 x ≤ 2097151 := by rw [cut22]; omega
theorem lift_ct : CtOk Tryz.prog 61 (ctLA (fun l xs => liftZ (c22 l) xs) (fun l xs => prevL (c22 l) xs 16)) := ctLA_ok FX_ok Tryz.func61 (fun l xs h _ => ⟨⟨liftZ_len _ _, fun x hx => by
  obtain ⟨i, _, rfl⟩ := List.mem_map.1 hx
  have := td28 (prev_bound (l := c22 l) (xs := xs) (c22_bound l) i)
  have := c22_bound (xs.getD i 0)
  exact small_in (by unfold lift1; omega)⟩, small_in (by have := prev_bound (l := c22 l) (xs := xs) (c22_bound l) 16; omega)⟩) lift_walk
end T
end Go.Proofs.YtaficaacogcblaaGreatDoor
