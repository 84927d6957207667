/- Wb: what the law wants of them. -/
import Derived.Test.YtaficaacogcblaaGreatDoorZg
set_option linter.all false
namespace Go.Proofs.YtaficaacogcblaaGreatDoor
namespace B
open Go.RowKit (Below)
set_option maxRecDepth 100000
set_option maxHeartbeats 32000000
@[irreducible] noncomputable def cutS : Int → Int → Int := sealed fun x n => if n < 1 ∨ 62 < n then x else max (min x (pw (n - 1) - 1)) (-pw (n - 1))
theorem cutS_def (x n : Int) : cutS x n = if n < 1 ∨ 62 < n then x else max (min x (pw (n - 1) - 1)) (-pw (n - 1)) := by unfold cutS; rw [sealed_eq]
@[irreducible] noncomputable def shiftS : Int → Int → Int := sealed fun x n => if x < -1099511627776 ∨ 1099511627776 < x ∨ 40 < n ∨ n < -20 then 0 else if n ≤ 0 then x * pw (-n) else (x + pw (n - 1)) / pw n
theorem shiftS_def (x n : Int) : shiftS x n = if x < -1099511627776 ∨ 1099511627776 < x ∨ 40 < n ∨ n < -20 then 0 else if n ≤ 0 then x * pw (-n) else (x + pw (n - 1)) / pw n := by unfold shiftS; rw [sealed_eq]
theorem vi_eq {a b : Int} (h : a = b) : vi a = vi b := by rw [h]
theorem ask_wrap64' {e f : Int} {K : Int → Prop} (h : e = f) (h1 : -9223372036854775808 ≤ f) (h2 : f ≤ 9223372036854775807) (hk : K f) : ∀ r, r = IntKind.i64.wrap e → K r := by
  subst h; exact ask_wrap64 h1 h2 hk
theorem cut_walk (x n : Int) (hx : InK .i64 x) (hn : InK .i64 n) : walk F0 0 Tryz.f77 [i64 x, i64 n] [] fun y _ => y = vi (cutS x n) := by
  obtain ⟨x1, x2⟩ := hx
  obtain ⟨n1, n2⟩ := hn
  simp only [lowK, highK] at x1 x2 n1 n2
  conv => whnf
  refine ask_split (fun h1 => ?_) (fun h1 => ?_)
  · conv => whnf
    rw [cutS_def]; rw [if_pos (.inl h1)]; rfl
  · conv => whnf
    refine ask_split (fun h2 => ?_) (fun h2 => ?_)
    · conv => whnf
      rw [cutS_def]; rw [if_pos (.inr h2)]; rfl
    · conv => whnf
      refine ask_wrap64 (by omega) (by omega) ?_
      conv => whnf
      refine ⟨by omega, ?_⟩
      have e1 := pw_pos (n - 1)
      have e2 := pw62 (n := n - 1) (by omega)
      refine shl64 (by omega) (by omega) (by omega) (by omega) ?_
      have ec : cutS x n = max (min x (pw (n - 1) - 1)) (-pw (n - 1)) := by
        rw [cutS_def]; rw [if_neg (by omega)]
      rw [ec]
      clear ec
      generalize pw (n - 1) = p at *
      repeat' ((conv => whnf); first | (refine ask_wrap64 (by omega) (by omega) ?_) | (refine ask_true (by omega) ?_) | (refine ask_false (by omega) ?_) | (refine ⟨trivial, ?_⟩) | (refine ⟨by omega, ?_⟩) | (refine fun (_ : InK _ _) => ?_) | (refine ⟨by kernel_rfl, ?_⟩) | (refine ask_wrapu8 (by omega) (by omega) ?_) | (refine ask_wrapu64 (by omega) (by omega) ?_) | (refine ask_true (show (_ : Bool) = _ from rfl) ?_) | (refine ask_false (show ¬ ((_ : Bool) = _) from Bool.noConfusion) ?_) | fail)
      exact vi_eq (by omega)
theorem cut_eq (x : Int) {n : Int} (h1 : 1 ≤ n) (h2 : n ≤ 62) : cutS x n = max (min x (pw (n - 1) - 1)) (-pw (n - 1)) := by
  rw [cutS_def]; rw [if_neg (by omega)]
theorem cut_in {x n : Int} (hx : InK .i64 x) : InK .i64 (cutS x n) := by
  rw [cutS_def]
  split
  · exact hx
  · rename_i h
    have e1 := pw_pos (n - 1)
    have e2 := pw62 (n := n - 1) (by omega)
    simp only [InK, lowK, highK] at hx ⊢
    omega
theorem cut_ct : CtOk Tryz.prog 77 (ct2 (fun _ _ => True) cutS) := ct2_ok F0_ok Tryz.func77 (fun a b ha _ _ => cut_in ha) fun a b ha hb _ => cut_walk a b ha hb
theorem prod_bound {a b m n : Int} (h1 : -m ≤ a) (h2 : a ≤ m) (h3 : -n ≤ b) (h4 : b ≤ n) : -(m * n) ≤ a * b ∧ a * b ≤ m * n := by
  have h5 : 0 ≤ (m - a) * (n - b) := Int.mul_nonneg (by omega) (by omega)
  have h6 : 0 ≤ (m + a) * (n + b) := Int.mul_nonneg (by omega) (by omega)
  have h7 : 0 ≤ (m - a) * (n + b) := Int.mul_nonneg (by omega) (by omega)
  have h8 : 0 ≤ (m + a) * (n - b) := Int.mul_nonneg (by omega) (by omega)
  simp only [Int.sub_mul, Int.mul_sub, Int.add_mul, Int.mul_add] at h5 h6 h7 h8
  constructor <;> omega
theorem shift_up {x n : Int} (hx : -1099511627776 ≤ x) (hx' : x ≤ 1099511627776) (h : -20 ≤ n) (h0 : n ≤ 0) : -1152921504606846976 ≤ x * pw (-n) ∧ x * pw (-n) ≤ 1152921504606846976 := by
  have e1 := pw_pos (-n)
  have e2 := pw_mono (a := -n) (b := 20) (by omega)
  have e : pw 20 = 1048576 := by rw [pw_def]; decide
  have := prod_bound (a := x) (b := pw (-n)) (m := 1099511627776) (n := 1048576) hx hx' (by omega) (by omega)
  omega
theorem shift_in {x n : Int} : InK .i64 (shiftS x n) := by
  rw [shiftS_def]
  split
  · exact ⟨by decide, by decide⟩
  · rename_i h
    split
    · have := shift_up (x := x) (n := n) (by omega) (by omega) (by omega) (by omega)
      simp only [InK, lowK, highK]
      omega
    · have e1 := pw_pos (n - 1)
      have e2 := pw62 (n := n - 1) (by omega)
      have e3 := pw_pos n
      have h1 : (x + pw (n - 1)) / pw n ≤ 4611687117939015680 := by
        refine Int.le_trans (Int.ediv_le_ediv (c := pw n) (b := 4611687117939015680) (by omega) (by omega)) ?_
        exact Int.ediv_le_self _ (by decide)
      have h2 : -1099511627776 ≤ (x + pw (n - 1)) / pw n := by
        refine (Int.le_ediv_iff_mul_le (by omega)).2 ?_
        have : (-1099511627776) * pw n ≤ (-1099511627776) * 1 := Int.mul_le_mul_of_nonpos_left (by decide) (by omega)
        omega
      simp only [InK, lowK, highK]
      omega
theorem shift_walk (x n : Int) (hx : InK .i64 x) (hn : InK .i64 n) : walk F0 0 Tryz.f109 [i64 x, i64 n] [] fun y _ => y = vi (shiftS x n) := by
  obtain ⟨x1, x2⟩ := hx
  obtain ⟨n1, n2⟩ := hn
  simp only [lowK, highK] at x1 x2 n1 n2
  by_cases h : x < -1099511627776 ∨ 1099511627776 < x ∨ 40 < n ∨ n < -20
  · rw [shiftS_def]
    rw [if_pos h]
    repeat' ((conv => whnf); first | (refine ask_true (by omega) ?_) | (refine ask_false (by omega) ?_) | (refine ask_split (fun _ => ?_) (fun _ => ?_)) | rfl)
  · rw [shiftS_def]
    rw [if_neg h]
    repeat' ((conv => whnf); first | (refine ask_false (by omega) ?_) | fail)
    conv => whnf
    refine ask_split (fun h2 => ?_) (fun h2 => ?_)
    · have hb := shift_up (x := x) (n := n) (by omega) (by omega) (by omega) h2
      rw [if_pos h2]
      conv => whnf
      refine ask_wrap64 (by omega) (by omega) ?_
      conv => whnf
      refine ⟨by omega, ?_⟩
      have e0 : 0 - n = -n := by omega
      first
        | (refine shl64 (n := -n) (by omega) (by omega) (by omega) (by omega) ?_)
        | (rw [e0]; refine shl64 (n := -n) (by omega) (by omega) (by omega) (by omega) ?_)
      rfl
    · rw [if_neg h2]
      have e1 := pw_pos (n - 1)
      have e2 := pw62 (n := n - 1) (by omega)
      conv => whnf
      refine ask_wrap64 (by omega) (by omega) ?_
      conv => whnf
      refine ⟨by omega, ?_⟩
      refine shl64 (by omega) (by omega) (by omega) (by omega) ?_
      conv => whnf
      refine ask_wrap64 (by omega) (by omega) ?_
      conv => whnf
      refine ⟨by omega, ?_⟩
      refine shr64 (by omega) ?_
      conv => whnf
      refine vi_eq ?_
      rw [Int.one_mul]
theorem shift_ct : CtOk Tryz.prog 109 (ct2 (fun _ _ => True) shiftS) := ct2_ok F0_ok Tryz.func109 (fun a b _ _ _ => shift_in) fun a b ha hb _ => shift_walk a b ha hb
@[irreducible] noncomputable def c16 : Int → Int := sealed fun x => cutS x 16
@[irreducible] noncomputable def c22 : Int → Int := sealed fun x => cutS x 22
theorem c16_def (x : Int) : c16 x = cutS x 16 := by unfold c16; rw [sealed_eq]
theorem c22_def (x : Int) : c22 x = cutS x 22 := by unfold c22; rw [sealed_eq]
noncomputable def FCut : Fns := F0.plus 77 (ct2 (fun _ _ => True) cutS)
theorem FCut_ok : FnsOk Tryz.prog FCut := F0_ok.plus cut_ct Tryz.func77 (by kernel_rfl) (by kernel_rfl)
theorem sound1_ct : CtOk Tryz.prog 127 (ct1 (fun _ => True) c16) := ct1_ok (n := 0) FCut_ok Tryz.func127 (fun a h _ => by rw [c16_def]; exact cut_in h) fun a ha _ => by
  rw [c16_def]
  repeat' ((conv => whnf); first | (refine ask_wrap64 (by omega) (by omega) ?_) | (refine ask_true (by omega) ?_) | (refine ask_false (by omega) ?_) | (refine ⟨trivial, ?_⟩) | (refine ⟨by omega, ?_⟩) | (refine fun (_ : InK _ _) => ?_) | (refine ⟨by kernel_rfl, ?_⟩) | (refine ask_wrapu8 (by omega) (by omega) ?_) | (refine ask_wrapu64 (by omega) (by omega) ?_) | (refine ask_true (show (_ : Bool) = _ from rfl) ?_) | (refine ask_false (show ¬ ((_ : Bool) = _) from Bool.noConfusion) ?_) | fail)
  rfl
theorem tcut_ct : CtOk Tryz.prog 90 (ct1 (fun _ => True) c22) := ct1_ok (n := 0) FCut_ok Tryz.func90 (fun a h _ => by rw [c22_def]; exact cut_in h) fun a ha _ => by
  rw [c22_def]
  repeat' ((conv => whnf); first | (refine ask_wrap64 (by omega) (by omega) ?_) | (refine ask_true (by omega) ?_) | (refine ask_false (by omega) ?_) | (refine ⟨trivial, ?_⟩) | (refine ⟨by omega, ?_⟩) | (refine fun (_ : InK _ _) => ?_) | (refine ⟨by kernel_rfl, ?_⟩) | (refine ask_wrapu8 (by omega) (by omega) ?_) | (refine ask_wrapu64 (by omega) (by omega) ?_) | (refine ask_true (show (_ : Bool) = _ from rfl) ?_) | (refine ask_false (show ¬ ((_ : Bool) = _) from Bool.noConfusion) ?_) | fail)
  rfl
noncomputable def FX : Fns := (((F0.plus 127 (ct1 (fun _ => True) c16)).plus 90 (ct1 (fun _ => True) c22)).into 91 Tryz.f91).into 126 Tryz.f126
theorem FX_ok : FnsOk Tryz.prog FX := (((F0_ok.plus sound1_ct Tryz.func127 (by kernel_rfl) (by kernel_rfl)).plus tcut_ct Tryz.func90 (by kernel_rfl) (by kernel_rfl)).into Tryz.func91 (by kernel_rfl) (by kernel_rfl)).into Tryz.func126 (by kernel_rfl) (by kernel_rfl)
abbrev ar (n : Nat) (xs : List Int) : W := .agg [.ints .i64 n xs]
abbrev ob (xs : List Int) : Blk := .own 48 [.ints .i64 16 xs]
def stg (zs xs : List Int) (i : Int) : List Int := zs.take i.toNat ++ xs.drop i.toNat
theorem stg_set {zs xs : List Int} {i : Int} {m : Nat} (hm : m = i.toNat) {v : Int} (h : zs.length = xs.length) (h0 : 0 ≤ i) (h1 : i < zs.length) (hv : zs.getD i.toNat 0 = v) : (stg zs xs i).set m v = stg zs xs (i + 1) := by
  subst hm hv
  have hlt : i.toNat < zs.length := by omega
  have hlt' : i.toNat < xs.length := by omega
  unfold stg
  rw [show (i + 1).toNat = i.toNat + 1 by omega]
  rw [List.set_append_right _ _ (by simp; omega)]
  have e : i.toNat - (zs.take i.toNat).length = 0 := by simp; omega
  rw [e, List.drop_eq_getElem_cons hlt', List.set_cons_zero, List.take_succ_eq_append_getElem hlt, List.append_assoc, List.singleton_append]
  congr 2
  rw [List.getD_eq_getElem?_getD, List.getElem?_eq_getElem hlt]; rfl
theorem stg_zero (zs xs : List Int) : stg zs xs 0 = xs := by simp [stg]
theorem stg_all {zs xs : List Int} (h : zs.length = xs.length) {i : Int} (hi : i = zs.length) : stg zs xs i = zs := by
  subst hi
  unfold stg
  rw [Int.toNat_natCast, List.take_length, List.drop_of_length_le (by omega), List.append_nil]
theorem getD_map {xs : List Int} {f : Int → Int} {i : Nat} (h : i < xs.length) : (xs.map f).getD i 0 = f (xs.getD i 0) := by
  simp [List.getD_eq_getElem?_getD, List.getElem?_eq_getElem h]
theorem mulN1 (n : Nat) : mulN n 1 = n := (mulN_eq n 1).trans (Nat.mul_one n)
def z16 : List Int := [0, 0, 0, 0, 0, 0, 0, 0, 0, 0, 0, 0, 0, 0, 0, 0]
theorem sound_walk (xs : List Int) (h : xs.length = 16) (hx : ∀ x ∈ xs, InK .i64 x) : walk FX 1 Tryz.f78 [ar 16 xs] [] fun y _ => y = .w (ar 16 (xs.map c16)) := by
  conv => whnf
  refine loop_at (List.range' 5 2 ++ List.range' 8 10) (fun m (i : Int) => 0 ≤ i ∧ i ≤ 16 ∧ m = (16 - i).toNat) (fun i => [(8, vi i)]) (fun i => [ob xs, ob z16, ob (stg (xs.map c16) xs i), ob z16]) 16 0 ⟨by decide, by decide, rfl⟩ ?_ ?_
  · exact ⟨rfl, ⟨⟨Nat.le_of_ble_eq_true rfl, rfl⟩, trivial⟩, ⟨rfl, rfl, by rw [stg_zero]; rfl, rfl, trivial⟩, rfl, rfl, Nat.le_of_ble_eq_true rfl⟩
  · rintro m i ⟨h0, h1, rfl⟩
    conv => whnf
    refine ask_split (fun h2 => ?_) (fun h2 => ?_)
    · conv => whnf
      refine ⟨⟨h0, by omega⟩, ?_⟩
      have em : mulN i.toNat (Tryz.prog.types[3]).size = i.toNat := mulN1 i.toNat
      conv => whnf
      refine ⟨Nat.lt_of_le_of_lt (Nat.le_of_eq em) (by omega), fun hin => ?_⟩
      conv => whnf
      refine ⟨trivial, ?_⟩
      conv => whnf
      refine ⟨⟨h0, by omega⟩, ?_⟩
      conv => whnf
      refine ⟨Nat.lt_of_le_of_lt (Nat.le_of_eq em) (by omega), ?_⟩
      repeat' ((conv => whnf); first | (refine ask_wrap64 (by omega) (by omega) ?_) | (refine ask_true (by omega) ?_) | (refine ask_false (by omega) ?_) | (refine ⟨trivial, ?_⟩) | (refine ⟨by omega, ?_⟩) | (refine fun (_ : InK _ _) => ?_) | (refine ⟨by kernel_rfl, ?_⟩) | (refine ask_wrapu8 (by omega) (by omega) ?_) | (refine ask_wrapu64 (by omega) (by omega) ?_) | (refine ask_true (show (_ : Bool) = _ from rfl) ?_) | (refine ask_false (show ¬ ((_ : Bool) = _) from Bool.noConfusion) ?_) | fail)
      refine ⟨(16 - (i + 1)).toNat, i + 1, by omega, ⟨by omega, by omega, rfl⟩, rfl, ⟨⟨Nat.le_of_ble_eq_true rfl, rfl⟩, trivial⟩, ⟨rfl, rfl, ?_, rfl, trivial⟩, rfl, rfl, Nat.le_of_ble_eq_true rfl⟩
      refine congrArg ob (stg_set em (by simp) h0 (by simp; omega) ?_).symm
      rw [getD_map (by omega)]
      exact congrArg (fun m => c16 (xs.getD m 0)) em.symm
    · conv => whnf
      show V.w (ar 16 _) = V.w (ar 16 _)
      rw [stg_all (by simp) (by simp; omega)]
theorem getD_range {f : Nat → Int} {m i : Nat} (h : i < m) : ((List.range m).map f).getD i 0 = f i := by
  simp [List.getD_eq_getElem?_getD, h]
theorem p22 : pw 21 = 2097152 := by rw [pw_def]; decide
theorem p16' : pw 15 = 32768 := by rw [pw_def]; decide
theorem cut22 (x : Int) : c22 x = max (min x 2097151) (-2097152) := by
  rw [c22_def, cut_eq x (by decide) (by decide), show (22 : Int) - 1 = 21 by decide, p22]; rfl
theorem cut16 (x : Int) : c16 x = max (min x 32767) (-32768) := by
  rw [c16_def, cut_eq x (by decide) (by decide), show (16 : Int) - 1 = 15 by decide, p16']; rfl
theorem td28 {a : Int} (h : -2097152 ≤ a ∧ a ≤ 2097151) : -1782592 ≤ (27853 * a).tdiv 32768 ∧ (27853 * a).tdiv 32768 ≤ 1782592 := by
  rcases Int.lt_or_le a 0 with hn | hp
  · rw [tdiv_neg (by omega)]; omega
  · rw [tdiv_pos (by omega)]; omega
noncomputable def lay1 (l x : Int) : Int := c22 (c22 x + (27853 * l).tdiv 32768)
noncomputable def layP (l : Int) (xs : List Int) : Nat → Int
  | 0 => l
  | n + 1 => lay1 (layP l xs n) (xs.getD n 0)
noncomputable def layZ (l : Int) (xs : List Int) : List Int := (List.range 16).map fun i => layP l xs (i + 1)
theorem layZ_len (l : Int) (xs : List Int) : (layZ l xs).length = 16 := by simp [layZ]
theorem lay_bound {l : Int} {xs : List Int} (h : -2097152 ≤ l ∧ l ≤ 2097151) : ∀ n, -2097152 ≤ layP l xs n ∧ layP l xs n ≤ 2097151
  | 0 => h
  | n + 1 => by rw [layP, lay1, cut22]; omega
theorem lay_walk (l : Int) (xs : List Int) (hl : InK .i64 l) (h : xs.length = 16) (hx : ∀ x ∈ xs, InK .i64 x) : walk FX 2 Tryz.f75 [i64 l, ar 16 xs] [] fun y _ => y = .tup [ar 16 (layZ (c22 l) xs), i64 (layP (c22 l) xs 16)] := by
  have pb := lay_bound (l := c22 l) (xs := xs) (by rw [cut22]; omega)
  conv => whnf
  refine ⟨trivial, ?_⟩
  conv => whnf
  refine loop_at (List.range' 5 2 ++ List.range' 8 10) (fun m (i : Int) => 0 ≤ i ∧ i ≤ 16 ∧ m = (16 - i).toNat) (fun i => [(8, vi i)]) (fun i => [.own 3 [.one (.ci .i64 (layP (c22 l) xs i.toNat))], ob xs, ob z16, ob (stg (layZ (c22 l) xs) xs i), ob z16]) 16 0 ⟨by decide, by decide, rfl⟩ ?_ ?_
  · exact ⟨rfl, ⟨⟨Nat.le_of_ble_eq_true rfl, rfl⟩, trivial⟩, ⟨rfl, rfl, rfl, by rw [stg_zero]; rfl, rfl, trivial⟩, rfl, rfl, Nat.le_of_ble_eq_true rfl⟩
  · rintro m i ⟨h0, h1, rfl⟩
    have b1 := pb i.toNat
    have b3 := td28 b1
    conv => whnf
    refine ask_split (fun h2 => ?_) (fun h2 => ?_)
    · conv => whnf
      refine ⟨⟨h0, by omega⟩, ?_⟩
      have em : mulN i.toNat (Tryz.prog.types[3]).size = i.toNat := mulN1 i.toNat
      conv => whnf
      refine ⟨Nat.lt_of_le_of_lt (Nat.le_of_eq em) (by omega), fun hin => ?_⟩
      have b2 := cut22 (xs.getD (mulN i.toNat (Tryz.prog.types[3]).size) 0)
      repeat' ((conv => whnf); first | (refine ⟨trivial, ?_⟩) | (refine ask_wrap64 (by omega) (by omega) ?_) | (refine ⟨by omega, ?_⟩) | (refine ⟨by kernel_rfl, ?_⟩) | fail)
      have en : layP (c22 l) xs (i + 1).toNat = lay1 (layP (c22 l) xs i.toNat) (xs.getD i.toNat 0) := by
        rw [show (i + 1).toNat = i.toNat + 1 by omega, layP]
      refine ⟨(16 - (i + 1)).toNat, i + 1, by omega, ⟨by omega, by omega, rfl⟩, rfl, ⟨⟨Nat.le_of_ble_eq_true rfl, rfl⟩, trivial⟩, ⟨?_, rfl, rfl, ?_, rfl, trivial⟩, rfl, rfl, Nat.le_of_ble_eq_true rfl⟩
      · rw [en]
        exact congrArg (fun m => Blk.own 3 [.one (.ci .i64 (lay1 (layP (c22 l) xs i.toNat) (xs.getD m 0)))]) em.symm
      · refine congrArg ob (stg_set em (by rw [layZ_len, h]) h0 (by rw [layZ_len]; omega) ?_).symm
        unfold layZ
        rw [getD_range (by omega)]
        exact congrArg (fun m => lay1 (layP (c22 l) xs i.toNat) (xs.getD m 0)) em.symm
    · have hi : i = 16 := by omega
      subst hi
      repeat' ((conv => whnf); first | (refine ⟨by kernel_rfl, ?_⟩) | fail)
      conv => whnf
      show V.tup [ar 16 _, i64 _] = V.tup [ar 16 _, i64 _]
      rw [stg_all (by rw [layZ_len, h]) (by rw [layZ_len]; rfl)]
      rfl
def ctA (f : List Int → List Int) : Ct := fun ws K => match ws with
  | [.agg [.ints .i64 n xs]] => n = 16 ∧ K (.w (ar 16 (f xs)))
  | _ => False
def ctLA (f : Int → List Int → List Int) (g : Int → List Int → Int) : Ct := fun ws K => match ws with
  | [.c (.ci .i64 l), .agg [.ints .i64 n xs]] => n = 16 ∧ K (.tup [ar 16 (f l xs), i64 (g l xs)])
  | _ => False
theorem ar_rng {xs : List Int} (h : xs.length = 16) (hx : ∀ x ∈ xs, InK .i64 x) : (ar 16 xs).rng := ⟨⟨h, hx⟩, trivial⟩
theorem ctA_ok {F : Fns} (hF : FnsOk Tryz.prog F) {n : Nat} {f : FuncId} {fn : Func} (hf : Tryz.prog.funcs[f]? = some fn) {g : List Int → List Int} (hg : ∀ xs : List Int, xs.length = 16 → (∀ x ∈ xs, InK .i64 x) → (g xs).length = 16 ∧ ∀ x ∈ g xs, InK .i64 x)
    (h : ∀ xs : List Int, xs.length = 16 → (∀ x ∈ xs, InK .i64 x) → walk F n fn [ar 16 xs] [] fun y _ => y = .w (ar 16 (g xs))) : CtOk Tryz.prog f (ctA g) := by
  intro ws K h' hr
  unfold ctA at h'
  split at h'
  · rename_i n xs
    obtain ⟨rfl, h'⟩ := h'
    obtain ⟨⟨⟨h1, h2⟩, _⟩, _⟩ := hr
    exact ⟨_, h', ⟨ar_rng (hg xs h1 h2).1 (hg xs h1 h2).2, rfl⟩, walk_calls hF hf rfl ⟨ar_rng h1 h2, trivial⟩ rfl (h xs h1 h2)⟩
  · exact h'.elim
theorem ctLA_ok {F : Fns} (hF : FnsOk Tryz.prog F) {n : Nat} {f : FuncId} {fn : Func} (hf : Tryz.prog.funcs[f]? = some fn) {g : Int → List Int → List Int} {k : Int → List Int → Int} (hg : ∀ l (xs : List Int), xs.length = 16 → (∀ x ∈ xs, InK .i64 x) → ((g l xs).length = 16 ∧ ∀ x ∈ g l xs, InK .i64 x) ∧ InK .i64 (k l xs))
    (h : ∀ l (xs : List Int), InK .i64 l → xs.length = 16 → (∀ x ∈ xs, InK .i64 x) → walk F n fn [i64 l, ar 16 xs] [] fun y _ => y = .tup [ar 16 (g l xs), i64 (k l xs)]) : CtOk Tryz.prog f (ctLA g k) := by
  intro ws K h' hr
  unfold ctLA at h'
  split at h'
  · rename_i l n xs
    obtain ⟨rfl, h'⟩ := h'
    obtain ⟨h0, ⟨⟨h1, h2⟩, _⟩, _⟩ := hr
    obtain ⟨g1, g2⟩ := hg l xs h1 h2
    exact ⟨_, h', ⟨⟨ar_rng g1.1 g1.2, g2, trivial⟩, rfl⟩, walk_calls hF hf rfl ⟨h0, ar_rng h1 h2, trivial⟩ rfl (h l xs h0 h1 h2)⟩
  · exact h'.elim
noncomputable def soundZ (xs : List Int) : List Int := xs.map c16
theorem sound_ct : CtOk Tryz.prog 78 (ctA soundZ) := ctA_ok FX_ok Tryz.func78 (fun xs h _ => ⟨by simp [soundZ, h], fun x hx => by
  obtain ⟨y, _, rfl⟩ := List.mem_map.1 hx
  have := cut16 y
  simp only [InK, lowK, highK]; omega⟩) sound_walk
theorem small_in {x : Int} (h : -4194304 ≤ x ∧ x ≤ 4194303) : InK .i64 x := by simp only [InK, lowK, highK]; omega
theorem c22_bound (x : Int) : -2097152 ≤ c22 x ∧ c22 x ≤ 2097151 := by rw [cut22]; omega
theorem lay_ct : CtOk Tryz.prog 75 (ctLA (fun l xs => layZ (c22 l) xs) (fun l xs => layP (c22 l) xs 16)) := ctLA_ok FX_ok Tryz.func75 (fun l xs h _ => ⟨⟨layZ_len _ _, fun x hx => by
  obtain ⟨i, _, rfl⟩ := List.mem_map.1 hx
  have := lay_bound (l := c22 l) (xs := xs) (c22_bound l) (i + 1)
  exact small_in (by omega)⟩, small_in (by have := lay_bound (l := c22 l) (xs := xs) (c22_bound l) 16; omega)⟩) lay_walk
def cosR (u : Int) : Int :=
  let x := u * 105414357 / 2
  let y := x * x / 1073741824
  let q := y * y / 1073741824
  1073741824 - y / 2 + y * y / 25769803776 - q * y / 773094113280 + q * q / 43293270343680
def sinR (u : Int) : Int :=
  let x := u * 105414357 / 2
  let y := x * x / 1073741824
  let q := y * y / 1073741824
  x - x * y / 6442450944 + x * q / 128849018880 - x * (q * y / 1073741824) / 5411658792960
def toldR (x : Int) : Int := (x + 16384) / 32768
def cos16 (u : Int) : Int := if 16 < u then toldR (sinR (32 - u)) else toldR (cosR u)
def cosRound (u : Int) : Int :=
  let v := if 64 < u then 128 - u else u
  if 32 < v then -cos16 (64 - v) else cos16 v
@[irreducible] noncomputable def cosB : Int → Int := sealed cosR
@[irreducible] noncomputable def sinB : Int → Int := sealed sinR
theorem cosB_def (u : Int) : cosB u = cosR u := by unfold cosB; rw [sealed_eq]
theorem sinB_def (u : Int) : sinB u = sinR u := by unfold sinB; rw [sealed_eq]
@[irreducible] noncomputable def cosS : Int → Int := sealed fun u => cosRound (u % 128)
theorem cosS_def (u : Int) : cosS u = cosRound (u % 128) := by unfold cosS; rw [sealed_eq]
theorem fin_all {p : Int → Bool} {m : Nat} (h : (List.range m).all (fun k => p k) = true) {u : Int} (h0 : 0 ≤ u) (h1 : u < m) : p u = true := by
  have := List.all_eq_true.1 h u.toNat (List.mem_range.2 (by omega))
  rwa [Int.toNat_of_nonneg h0] at this
theorem mul_bound {a b m n : Int} (h1 : 0 ≤ a) (h2 : a ≤ m) (h3 : 0 ≤ b) (h4 : b ≤ n) : 0 ≤ a * b ∧ a * b ≤ m * n := by
  have := prod_bound (a := a) (b := b) (m := m) (n := n) (by omega) h2 (by omega) h4
  exact ⟨Int.mul_nonneg h1 h3, this.2⟩
def ct2e (pre : Int → Int → Prop) (f : Int → Int → Int) : Ct := fun ws K => match ws with
  | [.c (.ci .i64 a), .c (.ci .i64 b)] => pre a b ∧ ∀ r, r = f a b → K (vi r)
  | _ => False
theorem ct2e_ok {F : Fns} (hF : FnsOk Tryz.prog F) {n : Nat} {f : FuncId} {fn : Func} (hf : Tryz.prog.funcs[f]? = some fn) {pre : Int → Int → Prop} {g : Int → Int → Int} (hg : ∀ a b, InK .i64 a → InK .i64 b → pre a b → InK .i64 (g a b))
    (h : ∀ a b, InK .i64 a → InK .i64 b → pre a b → walk F n fn [i64 a, i64 b] [] fun y _ => y = vi (g a b)) : CtOk Tryz.prog f (ct2e pre g) := by
  intro ws K h' hr
  unfold ct2e at h'
  split at h'
  · rename_i a b
    exact ⟨_, h'.2 _ rfl, ⟨hg a b hr.1 hr.2.1 h'.1, rfl⟩, walk_calls hF hf rfl hr rfl (h a b hr.1 hr.2.1 h'.1)⟩
  · exact h'.elim
def byOk (a b : Int) : Prop := 0 ≤ a ∧ a ≤ 2147483648 ∧ 0 ≤ b ∧ b ≤ 2147483648
def byV (a b : Int) : Int := a * b / 1073741824
theorem by_walk (a b : Int) (ha : InK .i64 a) (hb : InK .i64 b) (h : byOk a b) : walk F0 0 Tryz.f191 [i64 a, i64 b] [] fun y _ => y = vi (a * b / 1073741824) := by
  have := mul_bound h.1 h.2.1 h.2.2.1 h.2.2.2
  conv => whnf
  refine ask_wrap64 (by omega) (by omega) ?_
  conv => whnf
  refine ⟨by omega, ask_is (f := _ / 1073741824) (fdiv_ediv 30) ?_⟩
  repeat' ((conv => whnf); first | (refine ask_wrap64 (by omega) (by omega) ?_) | (refine ask_true (by omega) ?_) | (refine ask_false (by omega) ?_) | (refine ⟨trivial, ?_⟩) | (refine ⟨by omega, ?_⟩) | (refine fun (_ : InK _ _) => ?_) | (refine ⟨by kernel_rfl, ?_⟩) | (refine ask_wrapu8 (by omega) (by omega) ?_) | (refine ask_wrapu64 (by omega) (by omega) ?_) | (refine ask_true (show (_ : Bool) = _ from rfl) ?_) | (refine ask_false (show ¬ ((_ : Bool) = _) from Bool.noConfusion) ?_) | fail)
  rfl
theorem by_ct : CtOk Tryz.prog 191 (ct2e byOk byV) := ct2e_ok F0_ok Tryz.func191 (fun a b _ _ h => by
  have := mul_bound h.1 h.2.1 h.2.2.1 h.2.2.2
  simp only [InK, lowK, highK, byV]
  omega) fun a b ha hb h => by_walk a b ha hb h
def FA : Fns := (F0.plus 191 (ct2e byOk byV)).plus 109 (ct2 (fun _ _ => True) shiftS)
theorem FA_ok : FnsOk Tryz.prog FA := (F0_ok.plus by_ct Tryz.func191 (by kernel_rfl) (by kernel_rfl)).plus shift_ct Tryz.func109 (by kernel_rfl) (by kernel_rfl)
theorem ask_quo {a b : Int} {K : Int → Prop} (h : 0 ≤ a) (hb : 0 < b) (ha : a ≤ 9223372036854775807) (hk : K (a / b)) : ∀ r, r = IntKind.i64.wrap (a.tdiv b) → K r := by
  have h1 := Int.ediv_nonneg (a := a) (b := b) h (by omega)
  have h2 := Int.ediv_le_self (a := a) b h
  exact ask_wrap64' (Int.tdiv_eq_ediv_of_nonneg h) (by omega) (by omega) hk
theorem cosine_walk (u : Int) (hu : InK .i64 u) (h : 0 ≤ u ∧ u ≤ 16) : walk FA 0 Tryz.f185 [i64 u] [] fun y _ => y = vi (cosB u) := by
  rw [cosB_def]
  conv => whnf
  refine ask_wrap64 (by omega) (by omega) ?_
  conv => whnf
  refine ⟨by omega, fun x ex => ?_⟩
  replace ex : x = u * 105414357 / 2 := ex.trans (fdiv_ediv 1)
  have x0 : 0 ≤ x ∧ x ≤ 843314856 := by omega
  have xx := mul_bound x0.1 x0.2 x0.1 x0.2
  conv => whnf
  refine ⟨⟨by omega, by omega, by omega, by omega⟩, fun y ey => ?_⟩
  simp only [byV] at ey
  have y0 : 0 ≤ y ∧ y ≤ 662337938 := by omega
  have yy := mul_bound y0.1 y0.2 y0.1 y0.2
  conv => whnf
  refine ⟨⟨by omega, by omega, by omega, by omega⟩, fun q eq => ?_⟩
  simp only [byV] at eq
  have q0 : 0 ≤ q ∧ q ≤ 408563338 := by omega
  have qq := mul_bound q0.1 q0.2 q0.1 q0.2
  have qy := mul_bound q0.1 q0.2 y0.1 y0.2
  have e : cosR u = 1073741824 - y / 2 + y * y / 25769803776 - q * y / 773094113280 + q * q / 43293270343680 := by
    unfold cosR; simp only; rw [← ex, ← ey, ← eq]
  rw [e]
  clear e ex ey eq
  conv => whnf
  refine ⟨by omega, ask_is (f := y / 2) (fdiv_ediv 1) ?_⟩
  repeat' ((conv => whnf); first | (refine ask_wrap64 (by omega) (by omega) ?_) | (refine ⟨by omega, ask_quo (by omega) (by omega) (by omega) ?_⟩) | rfl | fail)
theorem sine_walk (u : Int) (hu : InK .i64 u) (h : 0 ≤ u ∧ u ≤ 16) : walk FA 0 Tryz.f184 [i64 u] [] fun y _ => y = vi (sinB u) := by
  rw [sinB_def]
  conv => whnf
  refine ask_wrap64 (by omega) (by omega) ?_
  conv => whnf
  refine ⟨by omega, fun x ex => ?_⟩
  replace ex : x = u * 105414357 / 2 := ex.trans (fdiv_ediv 1)
  have x0 : 0 ≤ x ∧ x ≤ 843314856 := by omega
  have xx := mul_bound x0.1 x0.2 x0.1 x0.2
  conv => whnf
  refine ⟨⟨by omega, by omega, by omega, by omega⟩, fun y ey => ?_⟩
  simp only [byV] at ey
  have y0 : 0 ≤ y ∧ y ≤ 662337938 := by omega
  have yy := mul_bound y0.1 y0.2 y0.1 y0.2
  conv => whnf
  refine ⟨⟨by omega, by omega, by omega, by omega⟩, fun q eq => ?_⟩
  simp only [byV] at eq
  have q0 : 0 ≤ q ∧ q ≤ 408563338 := by omega
  have qy := mul_bound q0.1 q0.2 y0.1 y0.2
  have xy := mul_bound x0.1 x0.2 y0.1 y0.2
  have xq := mul_bound x0.1 x0.2 q0.1 q0.2
  have e : sinR u = x - x * y / 6442450944 + x * q / 128849018880 - x * (q * y / 1073741824) / 5411658792960 := by
    unfold sinR; simp only; rw [← ex, ← ey, ← eq]
  rw [e]
  clear e ex ey eq
  repeat' ((conv => whnf); first | (refine ask_wrap64 (by omega) (by omega) ?_) | (refine ⟨by omega, ask_quo (by omega) (by omega) (by omega) ?_⟩) | fail)
  conv => whnf
  refine ⟨⟨by omega, by omega, by omega, by omega⟩, fun p ep => ?_⟩
  simp only [byV] at ep
  have p0 : 0 ≤ p ∧ p ≤ 252022406 := by omega
  have xp := mul_bound x0.1 x0.2 p0.1 p0.2
  rw [← ep]
  repeat' ((conv => whnf); first | (refine ask_wrap64 (by omega) (by omega) ?_) | (refine ⟨by omega, ask_quo (by omega) (by omega) (by omega) ?_⟩) | rfl | fail)
theorem cosB_in {u : Int} (h : 0 ≤ u ∧ u ≤ 16) : 0 ≤ cosB u ∧ cosB u ≤ 2147483647 := by
  rw [cosB_def]
  have := fin_all (p := fun u => decide (0 ≤ cosR u ∧ cosR u ≤ 2147483647)) (m := 17) (by decide +kernel) h.1 (by omega)
  simpa using this
theorem sinB_in {u : Int} (h : 0 ≤ u ∧ u ≤ 16) : 0 ≤ sinB u ∧ sinB u ≤ 2147483647 := by
  rw [sinB_def]
  have := fin_all (p := fun u => decide (0 ≤ sinR u ∧ sinR u ≤ 2147483647)) (m := 17) (by decide +kernel) h.1 (by omega)
  simpa using this
theorem cosine_ct : CtOk Tryz.prog 185 (ct1 (fun u => 0 ≤ u ∧ u ≤ 16) cosB) := ct1_ok FA_ok Tryz.func185 (fun a _ h => by
  have := cosB_in h
  simp only [InK, lowK, highK]; omega) fun a ha h => cosine_walk a ha h
theorem sine_ct : CtOk Tryz.prog 184 (ct1 (fun u => 0 ≤ u ∧ u ≤ 16) sinB) := ct1_ok FA_ok Tryz.func184 (fun a _ h => by
  have := sinB_in h
  simp only [InK, lowK, highK]; omega) fun a ha h => sine_walk a ha h
theorem told_walk (x : Int) (hx : InK .i64 x) (h : 0 ≤ x ∧ x ≤ 2147483647) : walk FA 0 Tryz.f183 [i64 x] [] fun y _ => y = vi ((x + 16384) / 32768) := by
  have e : shiftS x 15 = (x + 16384) / 32768 := by
    rw [shiftS_def, if_neg (by omega), if_neg (by omega), pw_def, pw_def]; rfl
  repeat' ((conv => whnf); first | (refine ask_wrap64 (by omega) (by omega) ?_) | (refine ask_true (by omega) ?_) | (refine ask_false (by omega) ?_) | (refine ⟨trivial, ?_⟩) | (refine ⟨by omega, ?_⟩) | (refine fun (_ : InK _ _) => ?_) | (refine ⟨by kernel_rfl, ?_⟩) | (refine ask_wrapu8 (by omega) (by omega) ?_) | (refine ask_wrapu64 (by omega) (by omega) ?_) | (refine ask_true (show (_ : Bool) = _ from rfl) ?_) | (refine ask_false (show ¬ ((_ : Bool) = _) from Bool.noConfusion) ?_) | fail)
  exact vi_eq e
theorem told_ct : CtOk Tryz.prog 183 (ct1 (fun x => 0 ≤ x ∧ x ≤ 2147483647) toldR) := ct1_ok FA_ok Tryz.func183 (fun a _ h => by
  simp only [InK, lowK, highK, toldR]; omega) fun a ha h => told_walk a ha h
def FB : Fns := (((F0.plus 185 (ct1 (fun u => 0 ≤ u ∧ u ≤ 16) cosB)).plus 184 (ct1 (fun u => 0 ≤ u ∧ u ≤ 16) sinB))).plus 183 (ct1 (fun x => 0 ≤ x ∧ x ≤ 2147483647) toldR)
theorem FB_ok : FnsOk Tryz.prog FB := (((F0_ok.plus cosine_ct Tryz.func185 (by kernel_rfl) (by kernel_rfl)).plus sine_ct Tryz.func184 (by kernel_rfl) (by kernel_rfl))).plus told_ct Tryz.func183 (by kernel_rfl) (by kernel_rfl)
theorem cosRound_bound {u : Int} (h0 : 0 ≤ u) (h1 : u < 128) : -32768 ≤ cosRound u ∧ cosRound u ≤ 32768 := by
  have := fin_all (p := fun u => decide (-32768 ≤ cosRound u ∧ cosRound u ≤ 32768)) (m := 128) (by decide +kernel) h0 h1
  simpa using this
theorem cosS_bound (u : Int) : -32768 ≤ cosS u ∧ cosS u ≤ 32768 := by
  rw [cosS_def]; exact cosRound_bound (by omega) (by omega)
theorem cosS_in (u : Int) : InK .i64 (cosS u) := by
  have := cosS_bound u
  simp only [InK, lowK, highK]; omega
theorem rem128 {u : Int} : (u.tmod 128 + 128).tmod 128 = u % 128 := by
  have := tmod_bound (a := u) (b := 128) (by decide)
  rw [Int.tmod_eq_emod_of_nonneg (by omega)]
  have e : u.tmod 128 = u - 128 * u.tdiv 128 := by have := Int.tmod_add_mul_tdiv u 128; omega
  omega
theorem cosS_mod (u : Int) : cosS u = cosS (u % 128) := by rw [cosS_def, cosS_def, Int.emod_emod]
theorem cosS_lt {u : Int} (h : 0 ≤ u) (h' : u < 128) : cosS u = cosRound u := by rw [cosS_def, Int.emod_eq_of_lt h h']
theorem cosS_back {u : Int} (h : 0 ≤ u) (h' : u < 128) (h1 : 64 < u) : cosS u = cosS (128 - u) := by
  rw [cosS_lt h h', cosS_lt (u := 128 - u) (by omega) (by omega)]
  have := fin_all (p := fun u => decide (64 < u → cosRound u = cosRound (128 - u))) (m := 128) (by decide +kernel) h h'
  exact (of_decide_eq_true this) h1
theorem cosS_neg {u : Int} (h : 0 ≤ u) (h' : u ≤ 64) (hl : 32 < u) : cosS u = 0 - cosS (64 - u) := by
  rw [cosS_lt h (by omega), cosS_lt (u := 64 - u) (by omega) (by omega)]
  have := fin_all (p := fun u => decide (32 < u → cosRound u = 0 - cosRound (64 - u))) (m := 65) (by decide +kernel) h (by omega)
  exact (of_decide_eq_true this) hl
theorem cosS_16 {u : Int} (h : 0 ≤ u) (h' : u ≤ 32) : cosS u = cos16 u := by
  rw [cosS_lt h (by omega)]
  have := fin_all (p := fun u => decide (cosRound u = cos16 u)) (m := 33) (by decide +kernel) h (by omega)
  exact of_decide_eq_true this
theorem cos32_walk (u : Int) (hu : InK .i64 u) (h : 0 ≤ u ∧ u ≤ 32) : walk FB 0 Tryz.f167 [i64 u] [] fun y _ => y = vi (cosS u) := by
  have e : cosS u = cos16 u := cosS_16 h.1 h.2
  have r := rem128 (u := u)
  have b := tmod_bound (a := u) (b := 128) (by decide)
  rw [e]
  conv => whnf
  refine ⟨by omega, fun s hs => ?_⟩
  rw [← hs] at r b
  conv => whnf
  refine ask_wrap64 (by omega) (by omega) ?_
  conv => whnf
  refine ⟨by omega, fun v hv => ?_⟩
  rw [← hv] at r
  have hv' : v = u := by omega
  subst hv'
  clear r b hs hv
  conv => whnf
  refine ask_false (by omega) ?_
  conv => whnf
  refine ask_false (by omega) ?_
  conv => whnf
  unfold cos16
  refine ask_split (fun h1 => ?_) (fun h1 => ?_)
  · rw [if_pos h1]
    have := sinB_in (u := 32 - v) (by omega)
    rw [← sinB_def]
    repeat' ((conv => whnf); first | (refine ask_wrap64 (by omega) (by omega) ?_) | (refine ⟨⟨by omega, by omega⟩, ?_⟩) | rfl | fail)
  · rw [if_neg h1]
    have := cosB_in (u := v) (by omega)
    rw [← cosB_def]
    repeat' ((conv => whnf); first | (refine ask_wrap64 (by omega) (by omega) ?_) | (refine ⟨⟨by omega, by omega⟩, ?_⟩) | rfl | fail)
theorem cos32_ct : CtOk Tryz.prog 167 (ct1 (fun u => 0 ≤ u ∧ u ≤ 32) cosS) := ct1_ok FB_ok Tryz.func167 (fun a _ _ => cosS_in a) fun a ha h => cos32_walk a ha h
def FC : Fns := FB.plus 167 (ct1 (fun u => 0 ≤ u ∧ u ≤ 32) cosS)
theorem FC_ok : FnsOk Tryz.prog FC := FB_ok.plus cos32_ct Tryz.func167 (by kernel_rfl) (by kernel_rfl)
theorem cos64_walk (u : Int) (hu : InK .i64 u) (h : 0 ≤ u ∧ u ≤ 64) : walk FC 0 Tryz.f167 [i64 u] [] fun y _ => y = vi (cosS u) := by
  rcases Int.lt_or_le 32 u with hl | hl
  · have e : cosS u = 0 - cosS (64 - u) := cosS_neg h.1 h.2 hl
    have bb := cosS_bound (64 - u)
    have r := rem128 (u := u)
    have b := tmod_bound (a := u) (b := 128) (by decide)
    rw [e]
    conv => whnf
    refine ⟨by omega, fun s hs => ?_⟩
    rw [← hs] at r b
    conv => whnf
    refine ask_wrap64 (by omega) (by omega) ?_
    conv => whnf
    refine ⟨by omega, fun v hv => ?_⟩
    rw [← hv] at r
    have hv' : v = u := by omega
    subst hv'
    clear r b hs hv
    conv => whnf
    refine ask_false (by omega) ?_
    conv => whnf
    refine ask_true (by omega) ?_
    repeat' ((conv => whnf); first | (refine ask_wrap64 (by omega) (by omega) ?_) | (refine ⟨⟨by omega, by omega⟩, ?_⟩) | rfl | fail)
  · have e : cosS u = cos16 u := cosS_16 h.1 hl
    have r := rem128 (u := u)
    have b := tmod_bound (a := u) (b := 128) (by decide)
    rw [e]
    conv => whnf
    refine ⟨by omega, fun s hs => ?_⟩
    rw [← hs] at r b
    conv => whnf
    refine ask_wrap64 (by omega) (by omega) ?_
    conv => whnf
    refine ⟨by omega, fun v hv => ?_⟩
    rw [← hv] at r
    have hv' : v = u := by omega
    subst hv'
    clear r b hs hv
    conv => whnf
    refine ask_false (by omega) ?_
    conv => whnf
    refine ask_false (by omega) ?_
    conv => whnf
    unfold cos16
    refine ask_split (fun h1 => ?_) (fun h1 => ?_)
    · rw [if_pos h1]
      have := sinB_in (u := 32 - v) (by omega)
      rw [← sinB_def]
      repeat' ((conv => whnf); first | (refine ask_wrap64 (by omega) (by omega) ?_) | (refine ⟨⟨by omega, by omega⟩, ?_⟩) | rfl | fail)
    · rw [if_neg h1]
      have := cosB_in (u := v) (by omega)
      rw [← cosB_def]
      repeat' ((conv => whnf); first | (refine ask_wrap64 (by omega) (by omega) ?_) | (refine ⟨⟨by omega, by omega⟩, ?_⟩) | rfl | fail)
theorem cos64_ct : CtOk Tryz.prog 167 (ct1 (fun u => 0 ≤ u ∧ u ≤ 64) cosS) := ct1_ok FC_ok Tryz.func167 (fun a _ _ => cosS_in a) fun a ha h => cos64_walk a ha h
def FD : Fns := FB.plus 167 (ct1 (fun u => 0 ≤ u ∧ u ≤ 64) cosS)
theorem FD_ok : FnsOk Tryz.prog FD := FB_ok.plus cos64_ct Tryz.func167 (by kernel_rfl) (by kernel_rfl)
theorem cos_walk (u : Int) (hu : InK .i64 u) : walk FD 0 Tryz.f167 [i64 u] [] fun y _ => y = vi (cosS u) := by
  have r := rem128 (u := u)
  have b := tmod_bound (a := u) (b := 128) (by decide)
  rw [cosS_mod]
  conv => whnf
  refine ⟨by omega, fun s hs => ?_⟩
  rw [← hs] at r b
  conv => whnf
  refine ask_wrap64 (by omega) (by omega) ?_
  conv => whnf
  refine ⟨by omega, fun v hv => ?_⟩
  rw [← hv] at r
  rw [← r]
  have v0 : 0 ≤ v ∧ v < 128 := by omega
  clear r b hs hv
  rcases Int.lt_or_le 64 v with h64 | h64
  · rw [cosS_back v0.1 v0.2 h64]
    repeat' ((conv => whnf); first | (refine ask_true (by omega) ?_) | (refine ask_wrap64 (by omega) (by omega) ?_) | (refine ⟨⟨by omega, by omega⟩, ?_⟩) | rfl | fail)
  · rcases Int.lt_or_le 32 v with h32 | h32
    · have bb := cosS_bound (64 - v)
      rw [cosS_neg v0.1 h64 h32]
      repeat' ((conv => whnf); first | (refine ask_true (by omega) ?_) | (refine ask_false (by omega) ?_) | (refine ask_wrap64 (by omega) (by omega) ?_) | (refine ⟨⟨by omega, by omega⟩, ?_⟩) | rfl | fail)
    · rw [cosS_16 v0.1 h32]
      unfold cos16
      rcases Int.lt_or_le 16 v with h1 | h1
      · rw [if_pos h1]
        have := sinB_in (u := 32 - v) (by omega)
        rw [← sinB_def]
        repeat' ((conv => whnf); first | (refine ask_true (by omega) ?_) | (refine ask_false (by omega) ?_) | (refine ask_wrap64 (by omega) (by omega) ?_) | (refine ⟨⟨by omega, by omega⟩, ?_⟩) | rfl | fail)
      · rw [if_neg (by omega)]
        have := cosB_in (u := v) (by omega)
        rw [← cosB_def]
        repeat' ((conv => whnf); first | (refine ask_true (by omega) ?_) | (refine ask_false (by omega) ?_) | (refine ask_wrap64 (by omega) (by omega) ?_) | (refine ⟨⟨by omega, by omega⟩, ?_⟩) | rfl | fail)
theorem cos_ct : CtOk Tryz.prog 167 (ct1 (fun _ => True) cosS) := ct1_ok FD_ok Tryz.func167 (fun a _ _ => cosS_in a) fun a ha _ => cos_walk a ha
def FE : Fns := F0.plus 167 (ct1 (fun _ => True) cosS)
theorem FE_ok : FnsOk Tryz.prog FE := F0_ok.plus cos_ct Tryz.func167 (by kernel_rfl) (by kernel_rfl)
@[irreducible] noncomputable def sinS (u : Int) : Int := cosS (u - 32)
theorem sin_walk (u : Int) (hu : InK .i64 u) : walk FE 0 Tryz.f168 [i64 u] [] fun y _ => y = vi (sinS u) := by
  have b := tmod_bound (a := u) (b := 128) (by decide)
  have e : sinS u = cosS (u.tmod 128 - 32) := by
    unfold sinS
    have e : u.tmod 128 = u - 128 * u.tdiv 128 := by have := Int.tmod_add_mul_tdiv u 128; omega
    rw [cosS_mod, cosS_mod (u.tmod 128 - 32), e]
    congr 1; omega
  rw [e]
  conv => whnf
  refine ⟨by omega, fun s hs => ?_⟩
  rw [← hs] at b ⊢
  repeat' ((conv => whnf); first | (refine ask_wrap64 (by omega) (by omega) ?_) | (refine ask_true (by omega) ?_) | (refine ask_false (by omega) ?_) | (refine ⟨trivial, ?_⟩) | (refine ⟨by omega, ?_⟩) | (refine fun (_ : InK _ _) => ?_) | (refine ⟨by kernel_rfl, ?_⟩) | (refine ask_wrapu8 (by omega) (by omega) ?_) | (refine ask_wrapu64 (by omega) (by omega) ?_) | (refine ask_true (show (_ : Bool) = _ from rfl) ?_) | (refine ask_false (show ¬ ((_ : Bool) = _) from Bool.noConfusion) ?_) | fail)
  rfl
theorem sin_ct : CtOk Tryz.prog 168 (ct1 (fun _ => True) sinS) := ct1_ok FE_ok Tryz.func168 (fun a _ _ => by unfold sinS; exact cosS_in _) fun a ha _ => sin_walk a ha
def FS : Fns := FE.plus 168 (ct1 (fun _ => True) sinS)
theorem FS_ok : FnsOk Tryz.prog FS := FE_ok.plus sin_ct Tryz.func168 (by kernel_rfl) (by kernel_rfl)
noncomputable def winZ : List Int := (List.range 32).map fun (n : Nat) => sinS (2 * (n : Int) + 1)
theorem winZ_len : winZ.length = 32 := by simp [winZ]
abbrev o32 (xs : List Int) : Blk := .own 190 [.ints .i64 32 xs]
def z32 : List Int := [0, 0, 0, 0, 0, 0, 0, 0, 0, 0, 0, 0, 0, 0, 0, 0, 0, 0, 0, 0, 0, 0, 0, 0, 0, 0, 0, 0, 0, 0, 0, 0]
theorem sinS_def (u : Int) : sinS u = cosS (u - 32) := by unfold sinS; rfl
theorem sin_bound (u : Int) : -32768 ≤ sinS u ∧ sinS u ≤ 32768 := by rw [sinS_def]; exact cosS_bound _
theorem window_walk : walk FS 0 Tryz.f146 [] [] fun y _ => y = .w (ar 32 winZ) := by
  conv => whnf
  refine loop_at (2 :: List.range' 3 10) (fun m (i : Int) => 0 ≤ i ∧ i ≤ 32 ∧ m = (32 - i).toNat) (fun i => [(3, vi i)]) (fun i => [o32 z32, o32 (stg winZ z32 i)]) 32 0 ⟨by decide, by decide, rfl⟩ ?_ ?_
  · exact ⟨rfl, ⟨⟨Nat.le_of_ble_eq_true rfl, rfl⟩, trivial⟩, ⟨rfl, by rw [stg_zero]; rfl, trivial⟩, rfl, rfl, Nat.le_of_ble_eq_true rfl⟩
  · rintro m i ⟨h0, h1, rfl⟩
    have em : mulN i.toNat (Tryz.prog.types[3]).size = i.toNat := mulN1 i.toNat
    rcases Int.lt_or_le i 32 with h2 | h2
    · repeat' ((conv => whnf); first | (refine ask_true (by omega) ?_) | (refine ask_wrap64 (by omega) (by omega) ?_) | (refine ⟨trivial, ?_⟩) | (refine ⟨by omega, ?_⟩) | fail)
      refine ⟨(32 - (i + 1)).toNat, i + 1, by omega, ⟨by omega, by omega, rfl⟩, rfl, ⟨⟨Nat.le_of_ble_eq_true rfl, rfl⟩, trivial⟩, ⟨rfl, ?_, trivial⟩, rfl, rfl, Nat.le_of_ble_eq_true rfl⟩
      refine congrArg o32 (stg_set em (by rw [winZ_len]; rfl) h0 (by rw [winZ_len]; omega) ?_).symm
      unfold winZ
      rw [getD_range (by omega), Int.toNat_of_nonneg h0]
    · have hi : i = 32 := by omega
      subst hi
      rw [stg_all (by rw [winZ_len]; rfl) (by rw [winZ_len]; rfl)]
      repeat' ((conv => whnf); first | (refine ask_false (by omega) ?_) | rfl | fail)
theorem window_ct : CtOk Tryz.prog 146 (ct0 (.w (ar 32 winZ))) := ct0_ok FS_ok Tryz.func146 ⟨⟨⟨winZ_len, fun x hx => by
  obtain ⟨i, _, rfl⟩ := List.mem_map.1 hx
  have := sin_bound (2 * (i : Int) + 1)
  simp only [InK, lowK, highK]; omega⟩, trivial⟩, rfl⟩ window_walk
noncomputable def tabZ : List Int := (List.range 128).map fun (n : Nat) => cosS (n : Int)
theorem tabZ_len : tabZ.length = 128 := by simp [tabZ]
abbrev o128 (xs : List Int) : Blk := .own 189 [.ints .i64 128 xs]
def z128 : List Int := List.replicate 128 0
theorem table_walk : walk FS 0 Tryz.f145 [] [] fun y _ => y = .w (ar 128 tabZ) := by
  conv => whnf
  refine loop_at (2 :: List.range' 3 8) (fun m (i : Int) => 0 ≤ i ∧ i ≤ 128 ∧ m = (128 - i).toNat) (fun i => [(3, vi i)]) (fun i => [o128 z128, o128 (stg tabZ z128 i)]) 128 0 ⟨by decide, by decide, rfl⟩ ?_ ?_
  · exact ⟨rfl, ⟨⟨Nat.le_of_ble_eq_true rfl, rfl⟩, trivial⟩, ⟨rfl, by rw [stg_zero]; rfl, trivial⟩, rfl, rfl, Nat.le_of_ble_eq_true rfl⟩
  · rintro m i ⟨h0, h1, rfl⟩
    have em : mulN i.toNat (Tryz.prog.types[3]).size = i.toNat := mulN1 i.toNat
    rcases Int.lt_or_le i 128 with h2 | h2
    · repeat' ((conv => whnf); first | (refine ask_true (by omega) ?_) | (refine ask_wrap64 (by omega) (by omega) ?_) | (refine ⟨trivial, ?_⟩) | (refine ⟨by omega, ?_⟩) | fail)
      refine ⟨(128 - (i + 1)).toNat, i + 1, by omega, ⟨by omega, by omega, rfl⟩, rfl, ⟨⟨Nat.le_of_ble_eq_true rfl, rfl⟩, trivial⟩, ⟨rfl, ?_, trivial⟩, rfl, rfl, Nat.le_of_ble_eq_true rfl⟩
      refine congrArg o128 (stg_set em (by rw [tabZ_len]; rfl) h0 (by rw [tabZ_len]; omega) ?_).symm
      unfold tabZ
      rw [getD_range (by omega), Int.toNat_of_nonneg h0]
    · have hi : i = 128 := by omega
      subst hi
      rw [stg_all (by rw [tabZ_len]; rfl) (by rw [tabZ_len]; rfl)]
      repeat' ((conv => whnf); first | (refine ask_false (by omega) ?_) | rfl | fail)
theorem table_ct : CtOk Tryz.prog 145 (ct0 (.w (ar 128 tabZ))) := ct0_ok FS_ok Tryz.func145 ⟨⟨⟨tabZ_len, fun x hx => by
  obtain ⟨i, _, rfl⟩ := List.mem_map.1 hx
  exact cosS_in _⟩, trivial⟩, rfl⟩ table_walk
def bad20 (x : Int) : Prop := x < -1048576 ∨ 1048576 < x
instance (x : Int) : Decidable (bad20 x) := by unfold bad20; infer_instance
@[irreducible] def held (xs : List Int) : Prop := ∀ x ∈ xs, -1048576 ≤ x ∧ x ≤ 1048576
theorem held_def (xs : List Int) : held xs ↔ ∀ x ∈ xs, -1048576 ≤ x ∧ x ≤ 1048576 := by unfold held; exact Iff.rfl
noncomputable instance (xs : List Int) : Decidable (held xs) := Classical.propDecidable _
def ctP (p : Int → Prop) [DecidablePred p] : Ct := fun ws K => match ws with
  | [.c (.ci .i64 a)] => ∀ τ, τ = decide (p a) → K (vb τ)
  | _ => False
theorem ctP_ok {F : Fns} (hF : FnsOk Tryz.prog F) {n : Nat} {f : FuncId} {fn : Func} (hf : Tryz.prog.funcs[f]? = some fn) {p : Int → Prop} [DecidablePred p]
    (h : ∀ a, InK .i64 a → walk F n fn [i64 a] [] fun y _ => y = vb (decide (p a))) : CtOk Tryz.prog f (ctP p) := by
  intro ws K h' hr
  unfold ctP at h'
  split at h'
  · rename_i a
    exact ⟨_, h' _ rfl, ⟨trivial, rfl⟩, walk_calls hF hf rfl hr rfl (h a hr.1)⟩
  · exact h'.elim
theorem ask_vb {p : Prop} [Decidable p] {t : Bool} (h : t = decide p) : vb t = vb (decide p) := by rw [h]
theorem bad_walk (x : Int) (hx : InK .i64 x) : walk F0 0 Tryz.f112 [i64 x] [] fun y _ => y = vb (decide (bad20 x)) := by
  conv => whnf
  refine ask_split (fun h => ?_) (fun h => ?_)
  · rw [decide_eq_true (show bad20 x from .inl h)]
    repeat' ((conv => whnf); first | (refine ask_wrap64 (by omega) (by omega) ?_) | (refine ask_true (by omega) ?_) | (refine ask_false (by omega) ?_) | (refine ⟨trivial, ?_⟩) | (refine ⟨by omega, ?_⟩) | (refine fun (_ : InK _ _) => ?_) | (refine ⟨by kernel_rfl, ?_⟩) | (refine ask_wrapu8 (by omega) (by omega) ?_) | (refine ask_wrapu64 (by omega) (by omega) ?_) | (refine ask_true (show (_ : Bool) = _ from rfl) ?_) | (refine ask_false (show ¬ ((_ : Bool) = _) from Bool.noConfusion) ?_) | fail)
    rfl
  · conv => whnf
    refine ask_split (fun h2 => ?_) (fun h2 => ?_)
    · rw [decide_eq_true (show bad20 x from .inr h2)]
      repeat' ((conv => whnf); first | (refine ask_wrap64 (by omega) (by omega) ?_) | (refine ask_true (by omega) ?_) | (refine ask_false (by omega) ?_) | (refine ⟨trivial, ?_⟩) | (refine ⟨by omega, ?_⟩) | (refine fun (_ : InK _ _) => ?_) | (refine ⟨by kernel_rfl, ?_⟩) | (refine ask_wrapu8 (by omega) (by omega) ?_) | (refine ask_wrapu64 (by omega) (by omega) ?_) | (refine ask_true (show (_ : Bool) = _ from rfl) ?_) | (refine ask_false (show ¬ ((_ : Bool) = _) from Bool.noConfusion) ?_) | fail)
      rfl
    · rw [decide_eq_false (show ¬ bad20 x from fun hb => by unfold bad20 at hb; omega)]
      repeat' ((conv => whnf); first | (refine ask_wrap64 (by omega) (by omega) ?_) | (refine ask_true (by omega) ?_) | (refine ask_false (by omega) ?_) | (refine ⟨trivial, ?_⟩) | (refine ⟨by omega, ?_⟩) | (refine fun (_ : InK _ _) => ?_) | (refine ⟨by kernel_rfl, ?_⟩) | (refine ask_wrapu8 (by omega) (by omega) ?_) | (refine ask_wrapu64 (by omega) (by omega) ?_) | (refine ask_true (show (_ : Bool) = _ from rfl) ?_) | (refine ask_false (show ¬ ((_ : Bool) = _) from Bool.noConfusion) ?_) | fail)
      rfl
theorem bad_ct : CtOk Tryz.prog 112 (ctP bad20) := ctP_ok F0_ok Tryz.func112 bad_walk
noncomputable def FH : Fns := ((F0.plus 112 (ctP bad20)).into 111 Tryz.f111).into 148 Tryz.f148
theorem FH_ok : FnsOk Tryz.prog FH := ((F0_ok.plus bad_ct Tryz.func112 (by kernel_rfl) (by kernel_rfl)).into Tryz.func111 (by kernel_rfl) (by kernel_rfl)).into Tryz.func148 (by kernel_rfl) (by kernel_rfl)
theorem held_walk (xs : List Int) (h : xs.length = 16) (hx : ∀ x ∈ xs, InK .i64 x) : walk FH 2 Tryz.f65 [ar 16 xs] [] fun y _ => y = vb (decide (held xs)) := by
  conv => whnf
  refine ⟨by decide, by decide, ?_⟩
  conv => whnf
  refine loop_at (4 :: 5 :: List.range' 8 11) (fun m (i : Int) => 0 ≤ i ∧ i ≤ 16 ∧ m = (16 - i).toNat ∧ ∀ k : Nat, (k : Int) < i → ¬ bad20 (xs.getD k 0)) (fun i => [(8, vi i)]) (fun _ => [ob xs]) 16 0 ⟨by decide, by decide, rfl, fun k hk => by omega⟩ ?_ ?_
  · exact ⟨rfl, ⟨⟨Nat.le_of_ble_eq_true rfl, rfl⟩, trivial⟩, ⟨rfl, trivial⟩, rfl, rfl, Nat.le_of_ble_eq_true rfl⟩
  · rintro m i ⟨h0, h1, rfl, h3⟩
    have em : mulN i.toNat (Tryz.prog.types[3]).size = i.toNat := mulN1 i.toNat
    have e0 : mulN 0 (Tryz.prog.types[3]).size = 0 := mulN1 0
    rcases Int.lt_or_le i 16 with h2 | h2
    · conv => whnf
      refine ask_true (by omega) ?_
      conv => whnf
      refine And.intro (by omega) ?_
      conv => whnf
      refine And.intro (by omega) fun hin => ?_
      conv => whnf
      have hat : xs.getD (mulN 0 (Tryz.prog.types[3]).size + mulN i.toNat (Tryz.prog.types[3]).size) 0 = xs.getD i.toNat 0 := by rw [e0, em, Nat.zero_add]
      refine ask_split (fun hb => ?_) (fun hb => ?_)
      · repeat' ((conv => whnf); first | (refine ask_true (by omega) ?_) | (refine ask_false (by omega) ?_) | fail)
        conv => whnf
        refine (ask_vb ?_)
        symm
        refine decide_eq_false fun hh => ?_
        rw [held_def] at hh
        rw [hat] at hb
        have hm : xs.getD i.toNat 0 ∈ xs := by
          rw [List.getD_eq_getElem?_getD, List.getElem?_eq_getElem (by omega)]
          exact List.getElem_mem _
        have := hh _ hm
        unfold bad20 at hb
        omega
      · repeat' ((conv => whnf); first | (refine ask_wrap64 (by omega) (by omega) ?_) | fail)
        refine ⟨(16 - (i + 1)).toNat, i + 1, by omega, ⟨by omega, by omega, rfl, fun k hk => ?_⟩, rfl, ⟨⟨Nat.le_of_ble_eq_true rfl, rfl⟩, trivial⟩, ⟨rfl, trivial⟩, rfl, rfl, Nat.le_of_ble_eq_true rfl⟩
        rcases Int.lt_or_le k i with hk2 | hk2
        · exact h3 k hk2
        · rw [hat] at hb
          obtain rfl : k = i.toNat := by omega
          exact hb
    · have hh : held xs := by
        rw [held_def]
        intro x hxm
        obtain ⟨k, hk, rfl⟩ := List.getElem_of_mem hxm
        have := h3 k (by omega)
        rw [List.getD_eq_getElem?_getD, List.getElem?_eq_getElem hk] at this
        unfold bad20 at this
        simp only [Option.getD_some] at this
        omega
      rw [decide_eq_true hh]
      repeat' ((conv => whnf); first | (refine ask_true (by omega) ?_) | (refine ask_false (by omega) ?_) | rfl | fail)
def ctHeld : Ct := fun ws K => match ws with
  | [.agg [.ints .i64 n xs]] => n = 16 ∧ ∀ τ, τ = decide (held xs) → K (vb τ)
  | _ => False
theorem ctHeld_ok {F : Fns} (hF : FnsOk Tryz.prog F) {n : Nat} {f : FuncId} {fn : Func} (hf : Tryz.prog.funcs[f]? = some fn)
    (h : ∀ xs : List Int, xs.length = 16 → (∀ x ∈ xs, InK .i64 x) → walk F n fn [ar 16 xs] [] fun y _ => y = vb (decide (held xs))) : CtOk Tryz.prog f ctHeld := by
  intro ws K h' hr
  unfold ctHeld at h'
  split at h'
  · rename_i m xs
    obtain ⟨rfl, h'⟩ := h'
    exact ⟨_, h' _ rfl, ⟨trivial, rfl⟩, walk_calls hF hf rfl hr rfl (h xs hr.1.1.1 hr.1.1.2)⟩
  · exact h'.elim
theorem held_ct : CtOk Tryz.prog 65 ctHeld := ctHeld_ok FH_ok Tryz.func65 held_walk
noncomputable def FCc : Fns := F0.into 147 Tryz.f147
theorem FCc_ok : FnsOk Tryz.prog FCc := F0_ok.into Tryz.func147 (by kernel_rfl) (by kernel_rfl)
abbrev rowsR (xs ys : List Int) : List Blk := [.ro [.ints .i64 16 xs], .ro [.ints .i64 16 ys], .ro [.one (.csl 0 0 0 16 16), .one (.csl 1 0 0 16 16)]]
def joined (xs ys : List Int) (x : V) (N : List Blk) : Prop := ∃ c : Nat, 32 ≤ c ∧ c ≤ 9223372036854775807 ∧ x = .w (.c (.csl 0 0 0 32 c)) ∧ N = [.own 3 [.ints .i64 c (xs ++ ys ++ List.replicate (c - 32) 0)]]
def cat2 (xs ys : List Int) (i : Int) : List Int := if i = 0 then [] else if i = 1 then xs else xs ++ ys
abbrev catB (xs ys : List Int) (i : Int) (c : Nat) : Blk := .own 3 [.ints .i64 c (cat2 xs ys i ++ List.replicate (c - (16 * i).toNat) 0)]
theorem cat_step0 {xs ys : List Int} (h : xs.length = 16) {c : Nat} (hc : 32 ≤ c) : List.take (16 * 0 : Int).toNat (cat2 xs ys 0 ++ List.replicate (c - (16 * 0 : Int).toNat) 0) ++ List.take 16 (List.drop 0 xs) ++ List.drop ((16 * 0 : Int).toNat + 16) (cat2 xs ys 0 ++ List.replicate (c - (16 * 0 : Int).toNat) 0) =
    cat2 xs ys 1 ++ List.replicate (c - (16 * 1 : Int).toNat) 0 := by
  have e0 : cat2 xs ys 0 = [] := rfl
  have e1 : cat2 xs ys 1 = xs := rfl
  have e2 : (16 * 0 : Int).toNat = 0 := rfl
  have e3 : (16 * 1 : Int).toNat = 16 := rfl
  rw [e0, e1, e2, e3, List.take_zero, List.drop_zero, List.take_of_length_le (by omega)]
  simp [List.drop_replicate]
theorem cat_step1 {xs ys : List Int} (h : xs.length = 16) (h' : ys.length = 16) {c : Nat} (hc : 32 ≤ c) : List.take (16 * 1 : Int).toNat (cat2 xs ys 1 ++ List.replicate (c - (16 * 1 : Int).toNat) 0) ++ List.take 16 (List.drop 0 ys) ++ List.drop ((16 * 1 : Int).toNat + 16) (cat2 xs ys 1 ++ List.replicate (c - (16 * 1 : Int).toNat) 0) =
    cat2 xs ys 2 ++ List.replicate (c - (16 * 2 : Int).toNat) 0 := by
  have e1 : cat2 xs ys 1 = xs := rfl
  have e2 : cat2 xs ys 2 = xs ++ ys := rfl
  have e3 : (16 * 1 : Int).toNat = 16 := rfl
  have e4 : (16 * 2 : Int).toNat = 32 := rfl
  rw [e1, e2, e3, e4, List.drop_zero, List.take_of_length_le (l := ys) (by omega), List.take_append_of_le_length (by omega), List.take_of_length_le (by omega)]
  have e5 : List.drop (16 + 16) xs = [] := List.drop_of_length_le (by omega)
  rw [List.drop_append, e5]
  simp [List.drop_replicate, h]
  omega
theorem concat_walk (xs ys : List Int) (h : xs.length = 16) (h' : ys.length = 16) (hx : ∀ x ∈ xs, InK .i64 x) (hy : ∀ x ∈ ys, InK .i64 x) :
    walk FCc 1 Tryz.f106 [.c (.csl 2 0 0 2 2)] (rowsR xs ys) (Made (joined xs ys)) := by
  conv => whnf
  refine loop_at (3 :: 5 :: List.range' 11 12) (fun m (i : Int) => (i = 0 ∨ i = 1 ∨ i = 2) ∧ m = (2 - i).toNat) (fun i => [(3, vi (16 * i)), (11, vi i)]) (fun _ => rowsR xs ys) 2 0 ⟨.inl rfl, rfl⟩ ?_ ?_
  · exact ⟨rfl, ⟨⟨Nat.le_of_ble_eq_true rfl, rfl⟩, ⟨Nat.le_of_ble_eq_true rfl, rfl⟩, trivial⟩, ⟨rfl, rfl, rfl, trivial⟩, rfl, rfl, Nat.le_of_ble_eq_true rfl⟩
  · rintro m i ⟨hi, rfl⟩
    rcases hi with rfl | rfl | rfl
    · repeat' ((conv => whnf); first | (refine ask_true (by omega) ?_) | (refine ask_false (by omega) ?_) | (refine ask_wrap64 (by omega) (by omega) ?_) | (refine And.intro (by omega) ?_) | fail)
      conv => whnf
      exact ⟨1, 1, by decide, ⟨.inr (.inl rfl), rfl⟩, rfl, ⟨⟨Nat.le_of_ble_eq_true rfl, rfl⟩, ⟨Nat.le_of_ble_eq_true rfl, rfl⟩, trivial⟩, ⟨rfl, rfl, rfl, trivial⟩, rfl, rfl, Nat.le_of_ble_eq_true rfl⟩
    · repeat' ((conv => whnf); first | (refine ask_true (by omega) ?_) | (refine ask_false (by omega) ?_) | (refine ask_wrap64 (by omega) (by omega) ?_) | (refine And.intro (by omega) ?_) | fail)
      conv => whnf
      exact ⟨0, 2, by decide, ⟨.inr (.inr rfl), rfl⟩, rfl, ⟨⟨Nat.le_of_ble_eq_true rfl, rfl⟩, ⟨Nat.le_of_ble_eq_true rfl, rfl⟩, trivial⟩, ⟨rfl, rfl, rfl, trivial⟩, rfl, rfl, Nat.le_of_ble_eq_true rfl⟩
    · repeat' ((conv => whnf); first | (refine ask_true (by omega) ?_) | (refine ask_false (by omega) ?_) | (refine ask_wrap64 (by omega) (by omega) ?_) | (refine And.intro (by omega) ?_) | fail)
      refine And.intro ⟨rfl, by omega, by omega, Nat.le_of_ble_eq_true (by kernel_rfl)⟩ fun c (hc : 32 ≤ c) (hc' : c ≤ 9223372036854775807) => ?_
      repeat' ((conv => whnf); first | (refine ask_true (by omega) ?_) | (refine ask_false (by omega) ?_) | (refine ask_wrap64 (by omega) (by omega) ?_) | (refine And.intro (by omega) ?_) | fail)
      conv => whnf
      refine loop_at (6 :: 8 :: List.range' 27 8) (fun m (i : Int) => (i = 0 ∨ i = 1 ∨ i = 2) ∧ m = (2 - i).toNat) (fun i => [(6, .w (.c (.csl 3 0 0 (16 * i).toNat c))), (27, vi i)]) (fun i => rowsR xs ys ++ [catB xs ys i c]) 2 0 ⟨.inl rfl, rfl⟩ ?_ ?_
      · refine ⟨rfl, ⟨⟨Nat.le_of_ble_eq_true rfl, ?_⟩, ⟨Nat.le_of_ble_eq_true rfl, rfl⟩, trivial⟩, ⟨rfl, rfl, rfl, ?_, trivial⟩, rfl, rfl, Nat.le_of_ble_eq_true rfl⟩
        · rfl
        · show catB xs ys 0 c = .own 3 [.ints .i64 c (List.replicate 32 0 ++ List.replicate (c - 32) 0)]
          have e : cat2 xs ys 0 = [] := rfl
          rw [List.replicate_append_replicate, show 32 + (c - 32) = c by omega]
          show Blk.own 3 [.ints .i64 c (cat2 xs ys 0 ++ List.replicate (c - 0) 0)] = _
          rw [e]
          rfl
      · rintro m i ⟨hi, rfl⟩
        rcases hi with rfl | rfl | rfl
        · repeat' ((conv => whnf); first | (refine ask_true (by omega) ?_) | (refine ask_false (by omega) ?_) | (refine ask_wrap64 (by omega) (by omega) ?_) | (refine And.intro (by omega) ?_) | fail)
          conv => whnf
          refine And.intro ⟨rfl, by omega, Nat.le_of_ble_eq_true (by kernel_rfl)⟩ (And.intro (fun _ => ?_) fun hg => absurd hg (by omega))
          repeat' ((conv => whnf); first | (refine ask_wrap64 (by omega) (by omega) ?_) | fail)
          conv => whnf
          refine ⟨1, 1, by decide, ⟨.inr (.inl rfl), rfl⟩, rfl, ⟨⟨Nat.le_of_ble_eq_true rfl, rfl⟩, ⟨Nat.le_of_ble_eq_true rfl, rfl⟩, trivial⟩, ⟨rfl, rfl, rfl, ?_, trivial⟩, rfl, rfl, Nat.le_of_ble_eq_true rfl⟩
          exact congrArg (fun zs => Blk.own 3 [.ints .i64 c zs]) (cat_step0 h hc).symm
        · repeat' ((conv => whnf); first | (refine ask_true (by omega) ?_) | (refine ask_false (by omega) ?_) | (refine ask_wrap64 (by omega) (by omega) ?_) | (refine And.intro (by omega) ?_) | fail)
          conv => whnf
          refine And.intro ⟨rfl, by omega, Nat.le_of_ble_eq_true (by kernel_rfl)⟩ (And.intro (fun _ => ?_) fun hg => absurd hg (by omega))
          repeat' ((conv => whnf); first | (refine ask_wrap64 (by omega) (by omega) ?_) | fail)
          conv => whnf
          refine ⟨0, 2, by decide, ⟨.inr (.inr rfl), rfl⟩, rfl, ⟨⟨Nat.le_of_ble_eq_true rfl, rfl⟩, ⟨Nat.le_of_ble_eq_true rfl, rfl⟩, trivial⟩, ⟨rfl, rfl, rfl, ?_, trivial⟩, rfl, rfl, Nat.le_of_ble_eq_true rfl⟩
          exact congrArg (fun zs => Blk.own 3 [.ints .i64 c zs]) (cat_step1 h h' hc).symm
        · repeat' ((conv => whnf); first | (refine ask_true (by omega) ?_) | (refine ask_false (by omega) ?_) | (refine ask_wrap64 (by omega) (by omega) ?_) | (refine And.intro (by omega) ?_) | fail)
          conv => whnf
          refine made_of (.w (.c (.csl 0 0 0 32 c))) [.own 3 [.ints .i64 c (xs ++ ys ++ List.replicate (c - 32) 0)]] (fun _ => 3) ⟨c, hc, hc', rfl, rfl⟩ rfl (And.intro rfl trivial) (fun p q hp hq _ => ?_) rfl rfl (by intro e; cases e)
          have hp' : p < 1 := hp
          have hq' : q < 1 := hq
          omega
def rowK (H : List Blk) (j : Nat) (K : List Int → Prop) : Prop := hGet H j fun b => match b with
  | .own _ [.ints .i64 n xs] => n = 16 ∧ K xs
  | .ro [.ints .i64 n xs] => n = 16 ∧ K xs
  | _ => False
theorem rowK_spec {H : List Blk} {j : Nat} {K : List Int → Prop} (h : rowK H j K) (ho : HOk H) : ∃ xs, K xs ∧ xs.length = 16 ∧ (∀ x ∈ xs, InK .i64 x) ∧ ((∃ T, H[j]? = some (.own T [.ints .i64 16 xs])) ∨ H[j]? = some (.ro [.ints .i64 16 xs])) := by
  obtain ⟨b, hb, h⟩ := hGet_spec h
  have hr := ho.rng b (List.mem_of_getElem? hb)
  split at h
  · obtain ⟨rfl, h⟩ := h; exact ⟨_, h, hr.1.1, hr.1.2, .inl ⟨_, hb⟩⟩
  · obtain ⟨rfl, h⟩ := h; exact ⟨_, h, hr.1.1, hr.1.2, .inr hb⟩
  · exact h.elim
def hConcat : HCt := fun ws H K => match ws with
  | [.c (.csl j o i l c)] => (o = 0 ∧ i = 0 ∧ l = 2 ∧ c = 2) ∧ hGet H j fun b => match b with
    | .own _ [.one (.csl j1 o1 i1 l1 c1), .one (.csl j2 o2 i2 l2 c2)] => (o1 = 0 ∧ i1 = 0 ∧ l1 = 16 ∧ c1 = 16 ∧ o2 = 0 ∧ i2 = 0 ∧ l2 = 16 ∧ c2 = 16) ∧ rowK H j1 fun xs => rowK H j2 fun ys =>
      ∀ c : Nat, 32 ≤ c → c ≤ 9223372036854775807 → lenH H 0 fun n => pushH H (.own 3 [.ints .i64 c (xs ++ ys ++ List.replicate (c - 32) 0)]) fun H' => K (.w (.c (.csl n 0 0 32 c))) H'
    | _ => False
  | _ => False
theorem concat_ct : HCtOk Tryz.prog 106 hConcat := by
  intro ws H K h hr hb ho G σ base w₀ w hw
  unfold hConcat at h
  split at h
  · rename_i j o i l cap
    obtain ⟨⟨rfl, rfl, rfl, rfl⟩, h⟩ := h
    obtain ⟨b, hj, h⟩ := hGet_spec h
    split at h
    · rename_i T j1 o1 i1 l1 c1 j2 o2 i2 l2 c2
      obtain ⟨⟨rfl, rfl, rfl, rfl, rfl, rfl, rfl, rfl⟩, h⟩ := h
      obtain ⟨xs, h, x1, x2, x3⟩ := rowK_spec h ho
      obtain ⟨ys, h, y1, y2, y3⟩ := rowK_spec h ho
      refine walk_lift FCc_ok Tryz.func106 (n := 1) (ws := [.c (.csl 2 0 0 2 2)]) (R := rowsR xs ys) (P0 := joined xs ys) ⟨fun b hb => ?_, fun b hb => ?_⟩ ⟨⟨by decide, by decide⟩, trivial⟩ rfl (concat_walk xs ys x1 y1 x2 y2) ?_ (fun k => if k = 0 then j1 else if k = 1 then j2 else j) ?_ rfl ?_ ho G σ base w₀ w hw
      · simp only [List.mem_cons, List.not_mem_nil, or_false] at hb
        rcases hb with rfl | rfl | rfl
        · exact ⟨⟨x1, x2⟩, trivial⟩
        · exact ⟨⟨y1, y2⟩, trivial⟩
        · exact ⟨⟨by decide, by decide⟩, ⟨by decide, by decide⟩, trivial⟩
      · simp only [List.mem_cons, List.not_mem_nil, or_false] at hb
        rcases hb with rfl | rfl | rfl <;> rfl
      · rintro x N ⟨c, _, _, _, rfl⟩ b hb
        simp only [List.mem_cons, List.not_mem_nil, or_false] at hb
        subst hb
        exact .inl rfl
      · intro k b hk
        match k, hk with
        | 0, hk => simp at hk; subst hk; exact .inr ⟨_, rfl, x3⟩
        | 1, hk => simp at hk; subst hk; exact .inr ⟨_, rfl, y3⟩
        | 2, hk => simp at hk; subst hk; exact .inr ⟨_, rfl, .inl ⟨_, hj⟩⟩
        | k + 3, hk => simp at hk
      · rintro x N ⟨c, c1, c2, rfl, rfl⟩
        have := h c c1 c2
        rw [lenH_iff, pushH_iff, Nat.zero_add] at this
        simpa [V.ren, W.ren, C.ren, sh, Blk.ren, rens, Seg.ren] using this
    · exact h.elim
  · exact h.elim
set_option maxRecDepth 100000
set_option maxHeartbeats 32000000
@[irreducible] noncomputable def kAt : Int → Int → Int := sealed fun n k => cosS ((2 * n + 17) * (2 * k + 1))
theorem kAt_def (n k : Int) : kAt n k = cosS ((2 * n + 17) * (2 * k + 1)) := by unfold kAt; rw [sealed_eq]
theorem kAt_bound (n k : Int) : -32768 ≤ kAt n k ∧ kAt n k ≤ 32768 := by rw [kAt_def]; exact cosS_bound _
@[irreducible] noncomputable def sumN (f : Int → Int) : Nat → Int := sealed fun n => ((List.range n).map fun (i : Nat) => f (i : Int)).sum
theorem sumN_zero (f : Int → Int) : sumN f 0 = 0 := by unfold sumN; rw [sealed_eq]; rfl
theorem sumN_succ (f : Int → Int) (n : Nat) : sumN f (n + 1) = sumN f n + f n := by
  unfold sumN; rw [sealed_eq, List.range_succ]; simp
theorem sumN_int (f : Int → Int) {i : Int} (h : 0 ≤ i) : sumN f (i + 1).toNat = sumN f i.toNat + f i := by
  rw [show (i + 1).toNat = i.toNat + 1 by omega, sumN_succ, Int.toNat_of_nonneg h]
theorem sumN_bound {f : Int → Int} {b : Int} {m : Nat} (h : ∀ i : Int, 0 ≤ i → i < m → -b ≤ f i ∧ f i ≤ b) : ∀ n : Nat, n ≤ m → -(b * n) ≤ sumN f n ∧ sumN f n ≤ b * n
  | 0, _ => by rw [sumN_zero]; simp
  | n + 1, hn => by
    have h1 := sumN_bound h n (by omega)
    have h2 := h n (by omega) (by omega)
    rw [sumN_succ]
    have : b * ((n + 1 : Nat) : Int) = b * n + b := by rw [Int.natCast_add, Int.mul_add]; simp
    omega
theorem shift_eq {x n : Int} (h : -1099511627776 ≤ x ∧ x ≤ 1099511627776) (h1 : 1 ≤ n) (h2 : n ≤ 40) : shiftS x n = (x + pw (n - 1)) / pw n := by
  rw [shiftS_def, if_neg (by omega), if_neg (by omega)]
theorem p14 : pw 14 = 16384 := by rw [pw_def]; decide
theorem p15' : pw 15 = 32768 := by rw [pw_def]; decide
theorem p16'' : pw 16 = 65536 := by rw [pw_def]; decide
theorem shift15 {x : Int} (h : -1099511627776 ≤ x ∧ x ≤ 1099511627776) : shiftS x 15 = (x + 16384) / 32768 := by
  rw [shift_eq h (by decide) (by decide)]
  show (x + pw 14) / pw 15 = _
  rw [p14, p15']
theorem shift16 {x : Int} (h : -1099511627776 ≤ x ∧ x ≤ 1099511627776) : shiftS x 16 = (x + 32768) / 65536 := by
  rw [shift_eq h (by decide) (by decide)]
  show (x + pw 15) / pw 16 = _
  rw [p15', p16'']
theorem held_at {xs : List Int} (h : held xs) (i : Nat) : -1048576 ≤ xs.getD i 0 ∧ xs.getD i 0 ≤ 1048576 := by
  rw [held_def] at h
  rw [List.getD_eq_getElem?_getD]
  cases hi : xs[i]? with
  | none => simp
  | some v => exact h v (List.mem_of_getElem? hi)
noncomputable def FM : Fns := ((((((((((F0.plus 65 ctHeld).plus 109 (ct2 (fun _ _ => True) shiftS)).plus 146 (ct0 (.w (ar 32 winZ)))).plus 145 (ct0 (.w (ar 128 tabZ)))).over 106 hConcat).every 106).into 105 Tryz.f105).into 107 Tryz.f107).into 108 Tryz.f108).into 125 Tryz.f125).into 110 Tryz.f110
theorem FM_ok : FnsOk Tryz.prog FM := ((((((((((F0_ok.plus held_ct Tryz.func65 (by kernel_rfl) (by kernel_rfl)).plus shift_ct Tryz.func109 (by kernel_rfl) (by kernel_rfl)).plus window_ct Tryz.func146 (by kernel_rfl) (by kernel_rfl)).plus table_ct Tryz.func145 (by kernel_rfl) (by kernel_rfl)).over concat_ct Tryz.func106 (by kernel_rfl) (by kernel_rfl)).every 106).into Tryz.func105 (by kernel_rfl) (by kernel_rfl)).into Tryz.func107 (by kernel_rfl) (by kernel_rfl)).into Tryz.func108 (by kernel_rfl) (by kernel_rfl)).into Tryz.func125 (by kernel_rfl) (by kernel_rfl)).into Tryz.func110 (by kernel_rfl) (by kernel_rfl)
theorem tab_at {r : Int} {m : Nat} (hm : m = r.toNat) (h0 : 0 ≤ r) (h1 : r < 128) : tabZ.getD m 0 = cosS r := by
  subst hm
  unfold tabZ
  rw [getD_range (by omega), Int.toNat_of_nonneg h0]
theorem win_of {i : Int} {m : Nat} (hm : m = i.toNat) (h0 : 0 ≤ i) (h1 : i < 32) : winZ.getD m 0 = sinS (2 * i + 1) := by
  subst hm
  unfold winZ
  rw [getD_range (by omega), Int.toNat_of_nonneg h0]
theorem kAt_mod {n k r : Int} (h0 : 0 ≤ n) (h1 : 0 ≤ k) (h : r = ((2 * n + 1 + 16) * (2 * k + 1)).tmod 128) (hp : 0 ≤ (2 * n + 1 + 16) * (2 * k + 1)) : cosS r = kAt n k := by
  rw [kAt_def, cosS_mod ((2 * n + 17) * (2 * k + 1)), h, Int.tmod_eq_emod_of_nonneg hp]
  congr 3
  omega
set_option maxRecDepth 100000
set_option maxHeartbeats 32000000
theorem p31 : pw 31 = 2147483648 := by rw [pw_def]; decide
theorem cut32 (x : Int) : cutS x 32 = max (min x 2147483647) (-2147483648) := by
  rw [cut_eq x (by decide) (by decide)]
  show max (min x (pw 31 - 1)) (-pw 31) = _
  rw [p31]; rfl
theorem cut32_bound (x : Int) : -2147483648 ≤ cutS x 32 ∧ cutS x 32 ≤ 2147483647 := by rw [cut32]; omega
noncomputable def over1 (x y : Int) : Int := cutS (cutS x 32 + cutS y 32) 32
noncomputable def overZ (xs ys : List Int) : List Int := (List.range 16).map fun i => over1 (xs.getD i 0) (ys.getD i 0)
theorem overZ_len (xs ys : List Int) : (overZ xs ys).length = 16 := by simp [overZ]
theorem over_walk (xs ys : List Int) (h : xs.length = 16) (h' : ys.length = 16) (hx : ∀ x ∈ xs, InK .i64 x) (hy : ∀ x ∈ ys, InK .i64 x) : walk FCut 0 Tryz.f76 [ar 16 xs, ar 16 ys] [] fun y _ => y = .w (ar 16 (overZ xs ys)) := by
  conv => whnf
  refine loop_at (6 :: List.range' 7 16) (fun m (i : Int) => 0 ≤ i ∧ i ≤ 16 ∧ m = (16 - i).toNat) (fun i => [(7, vi i)]) (fun i => [ob xs, ob ys, ob z16, ob (stg (overZ xs ys) z16 i)]) 16 0 ⟨by decide, by decide, rfl⟩ ?_ ?_
  · exact ⟨rfl, ⟨⟨Nat.le_of_ble_eq_true rfl, rfl⟩, trivial⟩, ⟨rfl, rfl, rfl, by rw [stg_zero]; rfl, trivial⟩, rfl, rfl, Nat.zero_le _⟩
  · rintro m i ⟨h0, h1, rfl⟩
    have em : mulN i.toNat (Tryz.prog.types[3]).size = i.toNat := mulN1 i.toNat
    rcases Int.lt_or_le i 16 with h2 | h2
    · have c1 := cut32_bound (xs.getD (mulN i.toNat (Tryz.prog.types[3]).size) 0)
      have c2 := cut32_bound (ys.getD (mulN i.toNat (Tryz.prog.types[3]).size) 0)
      repeat' ((conv => whnf); first | (refine ask_true (by omega) ?_) | (refine And.intro trivial ?_) | (refine And.intro (by omega) ?_) | (refine fun (_ : InK _ _) => ?_) | (refine ask_wrap64 (by omega) (by omega) ?_) | (refine ⟨by kernel_rfl, ?_⟩) | fail)
      conv => whnf
      refine ⟨(16 - (i + 1)).toNat, i + 1, by omega, ⟨by omega, by omega, rfl⟩, rfl, ⟨⟨Nat.le_of_ble_eq_true rfl, rfl⟩, trivial⟩, ⟨rfl, rfl, rfl, ?_, trivial⟩, rfl, rfl, Nat.zero_le _⟩
      refine congrArg ob (stg_set em (by rw [overZ_len]; rfl) h0 (by rw [overZ_len]; omega) ?_).symm
      unfold overZ
      rw [getD_range (by omega), em]
      rfl
    · have hi : i = 16 := by omega
      subst hi
      rw [stg_all (by rw [overZ_len]; rfl) (by rw [overZ_len]; rfl)]
      repeat' ((conv => whnf); first | (refine ask_false (by omega) ?_) | rfl | fail)
noncomputable def bTerm (w : List Int) (n k : Int) : Int := w.getD k.toNat 0 * kAt n k
theorem bTerm_bound {w : List Int} (h : held w) (n k : Int) : -34359738368 ≤ bTerm w n k ∧ bTerm w n k ≤ 34359738368 := by
  have h1 := held_at h k.toNat
  have h2 := kAt_bound n k
  have h3 := prod_bound h1.1 h1.2 h2.1 h2.2
  unfold bTerm
  omega
noncomputable def backS (w : List Int) (n : Int) : Int := shiftS (shiftS (sumN (bTerm w n) 16) 15 * sinS (2 * n + 1)) 16
noncomputable def backL (w : List Int) : List Int := (List.range 32).map fun (n : Nat) => backS w (n : Int)
theorem backL_len (w : List Int) : (backL w).length = 32 := by simp [backL]
noncomputable def backZ (w : List Int) : List Int := if held w then backL w else z32
theorem backZ_len (w : List Int) : (backZ w).length = 32 := by unfold backZ; split; exact backL_len w; rfl
noncomputable def back1 (w : List Int) : List Int := (backZ w).take 16
noncomputable def back2 (w : List Int) : List Int := (backZ w).drop 16
noncomputable abbrev bH (w out : List Int) : List Blk := [ob w, ob z16, ob z16, o32 out, .own 192 [.ints .i64 128 tabZ, .ints .i64 32 winZ], .own 185 [.one (.cp 4 0)]]
theorem sum16_bound {w : List Int} (h : held w) (n : Int) : -549755813888 ≤ sumN (bTerm w n) 16 ∧ sumN (bTerm w n) 16 ≤ 549755813888 := by
  have := sumN_bound (f := bTerm w n) (b := 34359738368) (m := 16) (fun i _ _ => bTerm_bound h n i) 16 (by omega)
  omega
theorem back_walk (w : List Int) (h : w.length = 16) (hx : ∀ x ∈ w, InK .i64 x) : walk FM 3 Tryz.f74 [ar 16 w] [] fun y _ => y = .tup [ar 16 (back1 w), ar 16 (back2 w)] := by
  have e0 : mulN (natI 16) (Tryz.prog.types[3]).size = 16 := mulN1 _
  have e00 : mulN 0 (Tryz.prog.types[3]).size = 0 := mulN1 _
  have fin : ∀ L : List Int, L.length = 32 → V.tup [W.agg [.ints .i64 16 ((L.drop (mulN 0 (Tryz.prog.types[3]).size)).take 16)], W.agg [.ints .i64 16 ((L.drop (mulN (natI 16) (Tryz.prog.types[3]).size)).take 16)]] = .tup [ar 16 (L.take 16), ar 16 (L.drop 16)] := fun L hL => by
    rw [e0, e00, List.drop_zero, List.take_of_length_le (l := L.drop 16) (by simp; omega)]
  conv => whnf
  refine And.intro rfl ?_
  conv => whnf
  refine ask_split (fun h1 => ?_) (fun h1 => ?_)
  · conv => whnf
    refine loop_at (6 :: 7 :: List.range' 11 18) (fun m (n : Int) => 0 ≤ n ∧ n ≤ 32 ∧ m = (32 - n).toNat) (fun n => [(11, vi n)]) (fun n => bH w (stg (backL w) z32 n)) 32 0 ⟨by decide, by decide, rfl⟩ ?_ ?_
    · exact ⟨rfl, ⟨⟨Nat.le_of_ble_eq_true rfl, rfl⟩, trivial⟩, ⟨rfl, rfl, rfl, by rw [stg_zero]; rfl, rfl, rfl, trivial⟩, rfl, rfl, Nat.zero_le _⟩
    · rintro m n ⟨n0, n1, rfl⟩
      have en : mulN n.toNat (Tryz.prog.types[3]).size = n.toNat := mulN1 _
      rcases Int.lt_or_le n 32 with n2 | n2
      · conv => whnf
        refine ask_true (by omega) ?_
        conv => whnf
        refine loop_at2 (5 :: 6 :: List.range' 8 9) (fun m (k s : Int) => 0 ≤ k ∧ k ≤ 16 ∧ s = sumN (bTerm w n) k.toNat ∧ m = (16 - k).toNat) (fun k s => [(5, vi s), (8, vi k)]) (fun _ _ => bH w (stg (backL w) z32 n) ++ [.own 3 [.one (.ci .i64 n)]]) 16 0 0 ⟨by decide, by decide, (sumN_zero _).symm, rfl⟩ ?_ ?_
        · exact ⟨rfl, ⟨⟨Nat.le_of_ble_eq_true rfl, rfl⟩, ⟨Nat.le_of_ble_eq_true rfl, rfl⟩, trivial⟩, ⟨rfl, rfl, rfl, rfl, rfl, rfl, rfl, trivial⟩, rfl, rfl, Nat.le_of_ble_eq_true rfl⟩
        · rintro m k s ⟨k0, k1, hs, rfl⟩
          have ek : mulN k.toNat (Tryz.prog.types[3]).size = k.toNat := mulN1 _
          rcases Int.lt_or_le k 16 with k2 | k2
          · have q1 := held_at h1 (mulN k.toNat (Tryz.prog.types[3]).size)
            have q2 := kAt_bound n k
            have q3 := prod_bound q1.1 q1.2 q2.1 q2.2
            have q4 := mul_bound (a := 2 * n + 1 + 16) (b := 2 * k + 1) (m := 79) (n := 31) (by omega) (by omega) (by omega) (by omega)
            have q7 := sumN_bound (f := bTerm w n) (b := 34359738368) (m := 16) (fun i _ _ => bTerm_bound h1 n i) k.toNat (by omega)
            rw [← hs] at q7
            have q8 : w.getD (mulN k.toNat (Tryz.prog.types[3]).size) 0 * kAt n k = bTerm w n k := by rw [ek]; rfl
            repeat' ((conv => whnf); first | (refine ask_true (by omega) ?_) | (refine And.intro (by omega) ?_) | (refine fun (_ : InK _ _) => ?_) | (refine ask_wrap64 (by omega) (by omega) ?_) | fail)
            conv => whnf
            refine ⟨[4], vi (kAt n k), rfl, ?_, ?_, ?_⟩
            · repeat' ((conv => whnf); first | (refine ask_wrap64 (by omega) (by omega) ?_) | (refine And.intro (by omega) fun r hr => ?_) | fail)
              have r0 : 0 ≤ r ∧ r < 128 := by
                rw [hr, Int.tmod_eq_emod_of_nonneg (by omega)]; omega
              have er : mulN r.toNat (Tryz.prog.types[3]).size = r.toNat := mulN1 _
              repeat' ((conv => whnf); first | (refine And.intro (by omega) ?_) | (refine fun (_ : InK _ _) => ?_) | fail)
              conv => whnf
              exact vi_eq ((tab_at er r0.1 r0.2).trans (kAt_mod n0 k0 hr q4.1))
            · show InK .i64 _
              simp only [InK, lowK, highK]; omega
            · repeat' ((conv => whnf); first | (refine ask_wrap64 (by omega) (by omega) ?_) | (refine ⟨by kernel_rfl, ?_⟩) | fail)
              conv => whnf
              refine ⟨(16 - (k + 1)).toNat, (k + 1, _), by show (16 - (k + 1)).toNat < (16 - k).toNat; omega, ⟨by show 0 ≤ k + 1; omega, by show k + 1 ≤ 16; omega, ?_, rfl⟩, rfl, ⟨⟨Nat.le_of_ble_eq_true rfl, rfl⟩, ⟨Nat.le_of_ble_eq_true rfl, rfl⟩, trivial⟩, ⟨rfl, rfl, rfl, rfl, rfl, rfl, rfl, trivial⟩, rfl, rfl, Nat.le_of_ble_eq_true rfl⟩
              show s + _ = sumN (bTerm w n) (k + 1).toNat
              rw [sumN_int _ k0, ← hs, q8]
          · have hk : k = 16 := by omega
            subst hk
            have hs' : s = sumN (bTerm w n) 16 := hs
            have b1 := sum16_bound h1 n
            rw [← hs'] at b1
            have b2 := shift15 (x := s) (by omega)
            have b3 := sin_bound (2 * n + 1)
            have hW : winZ.getD (mulN n.toNat (Tryz.prog.types[3]).size) 0 = sinS (2 * n + 1) := win_of en n0 n2
            rw [← hW] at b3
            have b4 := prod_bound (a := shiftS s 15) (b := winZ.getD (mulN n.toNat (Tryz.prog.types[3]).size) 0) (m := 16777216) (n := 32768) (by omega) (by omega) b3.1 b3.2
            repeat' ((conv => whnf); first | (refine ask_false (by omega) ?_) | (refine And.intro trivial ?_) | (refine And.intro (by omega) ?_) | (refine fun (_ : InK _ _) => ?_) | (refine ⟨by kernel_rfl, ?_⟩) | (refine ask_wrap64 (by omega) (by omega) ?_) | fail)
            conv => whnf
            refine ⟨(32 - (n + 1)).toNat, n + 1, by omega, ⟨by omega, by omega, rfl⟩, rfl, ⟨⟨Nat.le_of_ble_eq_true rfl, rfl⟩, trivial⟩, ⟨rfl, rfl, rfl, ?_, rfl, rfl, trivial⟩, rfl, rfl, Nat.zero_le _⟩
            refine congrArg o32 (stg_set en (by rw [backL_len]; rfl) n0 (by rw [backL_len]; omega) ?_).symm
            unfold backL
            rw [getD_range (by omega), Int.toNat_of_nonneg n0, hW, hs']
            rfl
      · have hn : n = 32 := by omega
        subst hn
        rw [stg_all (by rw [backL_len]; rfl) (by rw [backL_len]; rfl)]
        repeat' ((conv => whnf); first | (refine ask_false (by omega) ?_) | (refine And.intro (by omega) ?_) | (refine And.intro (by decide) ?_) | (refine ⟨by kernel_rfl, ?_⟩) | fail)
        conv => whnf
        unfold back1 back2
        rw [show backZ w = backL w from if_pos h1]
        exact fin _ (backL_len w)
  · repeat' ((conv => whnf); first | (refine And.intro (by omega) ?_) | (refine And.intro (by decide) ?_) | (refine ⟨by kernel_rfl, ?_⟩) | fail)
    conv => whnf
    unfold back1 back2
    rw [show backZ w = z32 from if_neg h1]
    exact fin _ rfl
def ctAA (p : List Int → List Int → Prop) (f : List Int → List Int → List Int) : Ct := fun ws K => match ws with
  | [.agg [.ints .i64 n xs], .agg [.ints .i64 m ys]] => (n = 16 ∧ m = 16) ∧ p xs ys ∧ K (.w (ar 16 (f xs ys)))
  | _ => False
theorem ctAA_ok {F : Fns} (hF : FnsOk Tryz.prog F) {n : Nat} {f : FuncId} {fn : Func} (hf : Tryz.prog.funcs[f]? = some fn) {p : List Int → List Int → Prop} {g : List Int → List Int → List Int}
    (hg : ∀ xs ys : List Int, xs.length = 16 → ys.length = 16 → p xs ys → (g xs ys).length = 16 ∧ ∀ x ∈ g xs ys, InK .i64 x)
    (h : ∀ xs ys : List Int, xs.length = 16 → ys.length = 16 → (∀ x ∈ xs, InK .i64 x) → (∀ x ∈ ys, InK .i64 x) → p xs ys → walk F n fn [ar 16 xs, ar 16 ys] [] fun y _ => y = .w (ar 16 (g xs ys))) : CtOk Tryz.prog f (ctAA p g) := by
  intro ws K h' hr
  unfold ctAA at h'
  split at h'
  · rename_i n xs m ys
    obtain ⟨⟨rfl, rfl⟩, hp, h'⟩ := h'
    obtain ⟨⟨⟨h1, h2⟩, _⟩, ⟨⟨h3, h4⟩, _⟩, _⟩ := hr
    have := hg xs ys h1 h3 hp
    exact ⟨_, h', ⟨ar_rng this.1 this.2, rfl⟩, walk_calls hF hf rfl ⟨ar_rng h1 h2, ar_rng h3 h4, trivial⟩ rfl (h xs ys h1 h3 h2 h4 hp)⟩
  · exact h'.elim
def ctAD (f g : List Int → List Int) : Ct := fun ws K => match ws with
  | [.agg [.ints .i64 n xs]] => n = 16 ∧ K (.tup [ar 16 (f xs), ar 16 (g xs)])
  | _ => False
theorem ctAD_ok {F : Fns} (hF : FnsOk Tryz.prog F) {n : Nat} {f : FuncId} {fn : Func} (hf : Tryz.prog.funcs[f]? = some fn) {g k : List Int → List Int} (hg : ∀ xs : List Int, xs.length = 16 → (∀ x ∈ xs, InK .i64 x) → ((g xs).length = 16 ∧ ∀ x ∈ g xs, InK .i64 x) ∧ ((k xs).length = 16 ∧ ∀ x ∈ k xs, InK .i64 x))
    (h : ∀ xs : List Int, xs.length = 16 → (∀ x ∈ xs, InK .i64 x) → walk F n fn [ar 16 xs] [] fun y _ => y = .tup [ar 16 (g xs), ar 16 (k xs)]) : CtOk Tryz.prog f (ctAD g k) := by
  intro ws K h' hr
  unfold ctAD at h'
  split at h'
  · rename_i n xs
    obtain ⟨rfl, h'⟩ := h'
    obtain ⟨⟨⟨h1, h2⟩, _⟩, _⟩ := hr
    have := hg xs h1 h2
    exact ⟨_, h', ⟨⟨ar_rng this.1.1 this.1.2, ar_rng this.2.1 this.2.2, trivial⟩, rfl⟩, walk_calls hF hf rfl ⟨ar_rng h1 h2, trivial⟩ rfl (h xs h1 h2)⟩
  · exact h'.elim
theorem backS_bound {w : List Int} (h : held w) (n : Int) : -8388608 ≤ backS w n ∧ backS w n ≤ 8388608 := by
  have b1 := sum16_bound h n
  have b2 := shift15 (x := sumN (bTerm w n) 16) (by omega)
  have b3 := sin_bound (2 * n + 1)
  have b4 := prod_bound (a := shiftS (sumN (bTerm w n) 16) 15) (b := sinS (2 * n + 1)) (m := 16777216) (n := 32768) (by omega) (by omega) b3.1 b3.2
  unfold backS
  rw [shift16 (by omega)]
  omega
theorem backL_bound {w : List Int} (h : held w) {x : Int} (hx : x ∈ backL w) : -8388608 ≤ x ∧ x ≤ 8388608 := by
  unfold backL at hx
  obtain ⟨k, _, rfl⟩ := List.mem_map.1 hx
  exact backS_bound h _
theorem backZ_bound (w : List Int) {x : Int} (hx : x ∈ backZ w) : -8388608 ≤ x ∧ x ≤ 8388608 := by
  unfold backZ at hx
  split at hx
  · rename_i hh
    exact backL_bound hh hx
  · simp only [z32, List.mem_cons, List.not_mem_nil, or_false, or_self] at hx
    omega
theorem small_k {x : Int} (h : -8388608 ≤ x ∧ x ≤ 8388608) : InK .i64 x := by simp only [InK, lowK, highK]; omega
theorem back1_len (w : List Int) : (back1 w).length = 16 := by unfold back1; rw [List.length_take, backZ_len]; rfl
theorem back2_len (w : List Int) : (back2 w).length = 16 := by unfold back2; rw [List.length_drop, backZ_len]
theorem back_ct : CtOk Tryz.prog 74 (ctAD back1 back2) := ctAD_ok FM_ok Tryz.func74 (fun xs _ _ => ⟨⟨back1_len xs, fun x hx => small_k (backZ_bound xs (List.mem_of_mem_take hx))⟩, back2_len xs, fun x hx => small_k (backZ_bound xs (List.mem_of_mem_drop hx))⟩) fun xs h1 h2 => back_walk xs h1 h2
theorem overZ_in (xs ys : List Int) {x : Int} (hx : x ∈ overZ xs ys) : -2147483648 ≤ x ∧ x ≤ 2147483647 := by
  unfold overZ at hx
  obtain ⟨k, _, rfl⟩ := List.mem_map.1 hx
  exact cut32_bound _
theorem over_ct : CtOk Tryz.prog 76 (ctAA (fun _ _ => True) overZ) := ctAA_ok FCut_ok Tryz.func76 (fun xs ys _ _ _ => ⟨overZ_len xs ys, fun x hx => by
  have := overZ_in xs ys hx
  simp only [InK, lowK, highK]; omega⟩) fun xs ys h1 h2 h3 h4 _ => over_walk xs ys h1 h2 h3 h4
theorem held_z16 : held z16 := by
  rw [held_def]; decide
structure St where
  m : List Int
  l : Int
  v : List Int
  w : List Int
  q : Int
abbrev stW (s : St) : W := .agg [.ints .i64 16 s.m, .one (.ci .i64 s.l), .ints .i64 4 s.v, .ints .i64 16 s.w, .one (.ci .i64 s.q)]
structure StOk (s : St) : Prop where
  m : s.m.length = 16 ∧ ∀ x ∈ s.m, InK .i64 x
  l : InK .i64 s.l
  v : s.v.length = 4 ∧ ∀ x ∈ s.v, InK .i64 x
  w : s.w.length = 16 ∧ ∀ x ∈ s.w, InK .i64 x
  q : InK .i64 s.q
theorem StOk.rng {s : St} (h : StOk s) : (stW s).rng := ⟨h.m, h.l, h.v, h.w, h.q, trivial⟩
theorem stOk_of {s : St} (h : (stW s).rng) : StOk s := ⟨h.1, h.2.1, h.2.2.1, h.2.2.2.1, h.2.2.2.2.1⟩
@[irreducible] def rightP (s : St) : Prop := (∀ x ∈ s.m, -2147483648 ≤ x ∧ x ≤ 2147483647) ∧ (∀ x ∈ s.v, 0 ≤ x ∧ x ≤ 20) ∧ (-2097152 ≤ s.l ∧ s.l ≤ 2097151) ∧ held s.w ∧ 0 ≤ s.q ∧ s.q ≤ 255
theorem rightP_def (s : St) : rightP s ↔ (∀ x ∈ s.m, -2147483648 ≤ x ∧ x ≤ 2147483647) ∧ (∀ x ∈ s.v, 0 ≤ x ∧ x ≤ 20) ∧ (-2097152 ≤ s.l ∧ s.l ≤ 2097151) ∧ held s.w ∧ 0 ≤ s.q ∧ s.q ≤ 255 := by unfold rightP; exact Iff.rfl
noncomputable instance (s : St) : Decidable (rightP s) := Classical.propDecidable _
def ctSt (p : St → Prop) [DecidablePred p] : Ct := fun ws K => match ws with
  | [.agg [.ints .i64 n m, .one (.ci .i64 l), .ints .i64 a v, .ints .i64 b w, .one (.ci .i64 q)]] => (n = 16 ∧ a = 4 ∧ b = 16) ∧ ∀ τ, τ = decide (p ⟨m, l, v, w, q⟩) → K (vb τ)
  | _ => False
theorem ctSt_ok {F : Fns} (hF : FnsOk Tryz.prog F) {n : Nat} {f : FuncId} {fn : Func} (hf : Tryz.prog.funcs[f]? = some fn) {p : St → Prop} [DecidablePred p]
    (h : ∀ s, StOk s → walk F n fn [stW s] [] fun y _ => y = vb (decide (p s))) : CtOk Tryz.prog f (ctSt p) := by
  intro ws K h' hr
  unfold ctSt at h'
  split at h'
  · rename_i n m l a v b w q
    obtain ⟨⟨rfl, rfl, rfl⟩, h'⟩ := h'
    have ok : StOk ⟨m, l, v, w, q⟩ := stOk_of hr.1
    exact ⟨_, h' _ rfl, ⟨trivial, rfl⟩, walk_calls hF hf rfl (ws := [stW ⟨m, l, v, w, q⟩]) ⟨ok.rng, trivial⟩ rfl (h _ ok)⟩
  · exact h'.elim
def ctFits : Ct := fun ws K => match ws with
  | [.c (.ci .i64 x), .c (.ci .i64 n)] => ∀ τ, τ = decide (cutS x n = x) → K (vb τ)
  | _ => False
theorem fits_ct : CtOk Tryz.prog 64 ctFits := by
  intro ws K h' hr
  unfold ctFits at h'
  split at h'
  · rename_i x n
    refine ⟨_, h' _ rfl, ⟨trivial, rfl⟩, walk_calls FCut_ok Tryz.func64 (n := 0) rfl hr rfl ?_⟩
    conv => whnf
    refine And.intro trivial ?_
    conv => whnf
    rintro τ rfl
    rfl
  · exact h'.elim
theorem c22_le (x : Int) : cutS x 22 = max (min x 2097151) (-2097152) := by rw [← c22_def, cut22]
abbrev sb (s : St) : Blk := .own 51 (stW s).segs
noncomputable def FRi : Fns := (F0.plus 64 ctFits).plus 65 ctHeld
theorem FRi_ok : FnsOk Tryz.prog FRi := (F0_ok.plus fits_ct Tryz.func64 (by kernel_rfl) (by kernel_rfl)).plus held_ct Tryz.func65 (by kernel_rfl) (by kernel_rfl)
theorem mem_at {xs : List Int} {i : Nat} (h : i < xs.length) : xs.getD i 0 ∈ xs := by
  rw [List.getD_eq_getElem?_getD, List.getElem?_eq_getElem h]
  exact List.getElem_mem _
theorem all_of_at {xs : List Int} {p : Int → Prop} (h : ∀ k : Nat, k < xs.length → p (xs.getD k 0)) : ∀ x ∈ xs, p x := by
  intro x hx
  obtain ⟨k, hk, rfl⟩ := List.getElem_of_mem hx
  have := h k hk
  rwa [List.getD_eq_getElem?_getD, List.getElem?_eq_getElem hk] at this
theorem right_walk (s : St) (h : StOk s) : walk FRi 0 Tryz.f39 [stW s] [] fun y _ => y = vb (decide (rightP s)) := by
  have wrong : ¬ rightP s → decide (rightP s) = false := fun h => decide_eq_false h
  have hm := h.m.1
  have hv := h.v.1
  conv => whnf
  refine loop_at (2 :: 4 :: List.range' 9 7) (fun m (i : Int) => 0 ≤ i ∧ i ≤ 16 ∧ m = (16 - i).toNat ∧ ∀ k : Nat, (k : Int) < i → -2147483648 ≤ s.m.getD k 0 ∧ s.m.getD k 0 ≤ 2147483647) (fun i => [(9, vi i)]) (fun _ => [sb s]) 16 0 ⟨by decide, by decide, rfl, fun k hk => by omega⟩ ?_ ?_
  · exact ⟨rfl, ⟨⟨Nat.le_of_ble_eq_true rfl, rfl⟩, trivial⟩, ⟨rfl, trivial⟩, rfl, rfl, Nat.zero_le _⟩
  · rintro m i ⟨h0, h1, rfl, h3⟩
    have em : mulN i.toNat (Tryz.prog.types[3]).size = i.toNat := mulN1 i.toNat
    rcases Int.lt_or_le i 16 with h2 | h2
    · have c := cut32 (s.m.getD (mulN i.toNat (Tryz.prog.types[3]).size) 0)
      repeat' ((conv => whnf); first | (refine ask_true (by omega) ?_) | (refine And.intro (by omega) ?_) | (refine fun (_ : InK _ _) => ?_) | fail)
      refine ask_split (fun hb => ?_) (fun hb => ?_)
      · repeat' ((conv => whnf); first | (refine ask_wrap64 (by omega) (by omega) ?_) | fail)
        conv => whnf
        refine ⟨(16 - (i + 1)).toNat, i + 1, by omega, ⟨by omega, by omega, rfl, fun k hk => ?_⟩, rfl, ⟨⟨Nat.le_of_ble_eq_true rfl, rfl⟩, trivial⟩, ⟨rfl, trivial⟩, rfl, rfl, Nat.zero_le _⟩
        rcases Int.lt_or_le k i with hk2 | hk2
        · exact h3 k hk2
        · obtain rfl : k = i.toNat := by omega
          rw [em] at hb c
          omega
      · rw [wrong (fun hr => by
          rw [rightP_def] at hr
          have := hr.1 _ (mem_at (i := i.toNat) (by omega))
          rw [em] at hb c
          omega)]
        repeat' ((conv => whnf); first | rfl | fail)
    · have hi : i = 16 := by omega
      subst hi
      repeat' ((conv => whnf); first | (refine ask_false (by omega) ?_) | fail)
      conv => whnf
      refine loop_at (2 :: 6 :: List.range' 18 10) (fun m (i : Int) => 0 ≤ i ∧ i ≤ 4 ∧ m = (4 - i).toNat ∧ ∀ k : Nat, (k : Int) < i → 0 ≤ s.v.getD k 0 ∧ s.v.getD k 0 ≤ 20) (fun i => [(18, vi i)]) (fun _ => [sb s]) 4 0 ⟨by decide, by decide, rfl, fun k hk => by omega⟩ ?_ ?_
      · exact ⟨rfl, ⟨⟨Nat.le_of_ble_eq_true rfl, rfl⟩, trivial⟩, ⟨rfl, trivial⟩, rfl, rfl, Nat.zero_le _⟩
      · rintro m i ⟨g0, g1, rfl, g3⟩
        have em : mulN i.toNat (Tryz.prog.types[3]).size = i.toNat := mulN1 i.toNat
        have bad : i < 4 → ∀ y, y = s.v.getD (mulN i.toNat (Tryz.prog.types[3]).size) 0 → (y < 0 ∨ 20 < y) → decide (rightP s) = false := fun hi y hy hb => wrong fun hr => by
          rw [rightP_def] at hr
          have := hr.2.1 _ (mem_at (i := i.toNat) (by omega))
          rw [hy, em] at hb
          omega
        rcases Int.lt_or_le i 4 with g2 | g2
        · repeat' ((conv => whnf); first | (refine ask_true (by omega) ?_) | (refine And.intro (by omega) ?_) | (refine fun (_ : InK _ _) => ?_) | fail)
          refine ask_split (fun hb => ?_) (fun hb => ?_)
          · rw [bad g2 _ rfl (.inl hb)]
            repeat' ((conv => whnf); first | rfl | fail)
          · conv => whnf
            refine ask_split (fun hb2 => ?_) (fun hb2 => ?_)
            · rw [bad g2 _ rfl (.inr hb2)]
              repeat' ((conv => whnf); first | rfl | fail)
            · repeat' ((conv => whnf); first | (refine ask_wrap64 (by omega) (by omega) ?_) | fail)
              conv => whnf
              refine ⟨(4 - (i + 1)).toNat, i + 1, by omega, ⟨by omega, by omega, rfl, fun k hk => ?_⟩, rfl, ⟨⟨Nat.le_of_ble_eq_true rfl, rfl⟩, trivial⟩, ⟨rfl, trivial⟩, rfl, rfl, Nat.zero_le _⟩
              rcases Int.lt_or_le k i with hk2 | hk2
              · exact g3 k hk2
              · obtain rfl : k = i.toNat := by omega
                rw [em] at hb hb2
                omega
        · have hi : i = 4 := by omega
          subst hi
          have c := c22_le s.l
          have a1 : ∀ x ∈ s.m, -2147483648 ≤ x ∧ x ≤ 2147483647 := all_of_at fun k hk => h3 k (by omega)
          have a2 : ∀ x ∈ s.v, 0 ≤ x ∧ x ≤ 20 := all_of_at fun k hk => g3 k (by omega)
          repeat' ((conv => whnf); first | (refine ask_false (by omega) ?_) | fail)
          refine ask_split (fun b1 => ?_) (fun b1 => ?_)
          · conv => whnf
            refine And.intro rfl ?_
            conv => whnf
            refine ask_split (fun b2 => ?_) (fun b2 => ?_)
            · conv => whnf
              refine ask_split (fun b3 => ?_) (fun b3 => ?_)
              · conv => whnf
                refine ask_split (fun b4 => ?_) (fun b4 => ?_)
                · rw [decide_eq_true (show rightP s from by rw [rightP_def]; exact ⟨a1, a2, by omega, b2, by omega, by omega⟩)]
                  repeat' ((conv => whnf); first | rfl | fail)
                · rw [wrong (fun hr => by rw [rightP_def] at hr; omega)]
                  repeat' ((conv => whnf); first | rfl | fail)
              · rw [wrong (fun hr => by rw [rightP_def] at hr; omega)]
                repeat' ((conv => whnf); first | rfl | fail)
            · rw [wrong (fun hr => by rw [rightP_def] at hr; exact b2 hr.2.2.2.1)]
              repeat' ((conv => whnf); first | rfl | fail)
          · rw [wrong (fun hr => by rw [rightP_def] at hr; omega)]
            repeat' ((conv => whnf); first | rfl | fail)
theorem right_ct : CtOk Tryz.prog 39 (ctSt rightP) := ctSt_ok FRi_ok Tryz.func39 right_walk
set_option maxRecDepth 100000
set_option maxHeartbeats 32000000
def z4 : List Int := [0, 0, 0, 0]
def st0 : St := ⟨z16, 0, z4, z16, 0⟩
noncomputable def laidZ (s : St) (wv : List Int) : List Int := layZ (c22 s.l) (overZ s.m (back1 wv))
noncomputable def laidP (s : St) (wv : List Int) : Int := layP (c22 s.l) (overZ s.m (back1 wv)) 16
noncomputable def memZ (wv : List Int) : List Int := (back2 wv).map fun x => cutS x 32
def okN (s : St) (lv wv : List Int) (q : Int) : Prop := rightP s ∧ rightP ⟨z16, 0, lv, wv, q⟩
noncomputable def outN (s : St) (lv wv : List Int) (q : Int) : List Int := open Classical in if okN s lv wv q then soundZ (laidZ s wv) else z16
noncomputable def stN (s : St) (lv wv : List Int) (q : Int) : St := open Classical in if okN s lv wv q then ⟨memZ wv, laidP s wv, lv, wv, q⟩ else st0
theorem outN_ok {s : St} {lv wv : List Int} {q : Int} (h : okN s lv wv q) : outN s lv wv q = soundZ (laidZ s wv) := if_pos h
theorem outN_no {s : St} {lv wv : List Int} {q : Int} (h : ¬ okN s lv wv q) : outN s lv wv q = z16 := if_neg h
theorem stN_ok {s : St} {lv wv : List Int} {q : Int} (h : okN s lv wv q) : stN s lv wv q = ⟨memZ wv, laidP s wv, lv, wv, q⟩ := if_pos h
theorem stN_no {s : St} {lv wv : List Int} {q : Int} (h : ¬ okN s lv wv q) : stN s lv wv q = st0 := if_neg h
theorem memZ_len (wv : List Int) : (memZ wv).length = 16 := by unfold memZ; rw [List.length_map, back2_len]
theorem memZ_in {wv : List Int} {x : Int} (hx : x ∈ memZ wv) : -2147483648 ≤ x ∧ x ≤ 2147483647 := by
  unfold memZ at hx
  obtain ⟨y, _, rfl⟩ := List.mem_map.1 hx
  exact cut32_bound y
theorem laidP_in (s : St) (wv : List Int) : -2097152 ≤ laidP s wv ∧ laidP s wv ≤ 2097151 := lay_bound (c22_bound _) _
theorem soundZ_in {xs : List Int} {x : Int} (hx : x ∈ soundZ xs) : -32768 ≤ x ∧ x ≤ 32767 := by
  unfold soundZ at hx
  obtain ⟨y, _, rfl⟩ := List.mem_map.1 hx
  have := cut16 y
  omega
theorem outN_len (s : St) (lv wv : List Int) (q : Int) : (outN s lv wv q).length = 16 := by
  unfold outN
  split
  · simp [soundZ, laidZ, layZ_len]
  · rfl
theorem outN_in {s : St} {lv wv : List Int} {q x : Int} (hx : x ∈ outN s lv wv q) : -32768 ≤ x ∧ x ≤ 32767 := by
  unfold outN at hx
  split at hx
  · exact soundZ_in hx
  · simp only [z16, List.mem_cons, List.not_mem_nil, or_false, or_self] at hx
    omega
theorem in_of {x : Int} (h : -2147483648 ≤ x ∧ x ≤ 2147483647) : InK .i64 x := by simp only [InK, lowK, highK]; omega
theorem zero_in : ∀ x ∈ z16, InK .i64 x := fun x hx => by
  simp only [z16, List.mem_cons, List.not_mem_nil, or_false, or_self] at hx
  subst hx; exact in_of (by decide)
theorem zero4_in : ∀ x ∈ z4, InK .i64 x := fun x hx => by
  simp only [z4, List.mem_cons, List.not_mem_nil, or_false, or_self] at hx
  subst hx; exact in_of (by decide)
theorem st0_ok : StOk st0 := ⟨⟨rfl, zero_in⟩, in_of (by decide), ⟨rfl, zero4_in⟩, ⟨rfl, zero_in⟩, in_of (by decide)⟩
theorem stN_stok {s : St} {lv wv : List Int} {q : Int} (hv : lv.length = 4 ∧ ∀ x ∈ lv, InK .i64 x) (hw : wv.length = 16 ∧ ∀ x ∈ wv, InK .i64 x) (hq : InK .i64 q) : StOk (stN s lv wv q) := by
  unfold stN
  split
  · exact ⟨⟨memZ_len wv, fun x hx => in_of (memZ_in hx)⟩, in_of (by have := laidP_in s wv; show -2147483648 ≤ laidP s wv ∧ laidP s wv ≤ 2147483647; omega), hv, hw, hq⟩
  · exact st0_ok
noncomputable def FNx : Fns := (((((F0.plus 39 (ctSt rightP)).plus 74 (ctAD back1 back2)).plus 76 (ctAA (fun _ _ => True) overZ)).plus 75 (ctLA (fun l xs => layZ (c22 l) xs) (fun l xs => layP (c22 l) xs 16))).plus 78 (ctA soundZ)).plus 77 (ct2 (fun _ _ => True) cutS)
theorem FNx_ok : FnsOk Tryz.prog FNx := (((((F0_ok.plus right_ct Tryz.func39 (by kernel_rfl) (by kernel_rfl)).plus back_ct Tryz.func74 (by kernel_rfl) (by kernel_rfl)).plus over_ct Tryz.func76 (by kernel_rfl) (by kernel_rfl)).plus lay_ct Tryz.func75 (by kernel_rfl) (by kernel_rfl)).plus sound_ct Tryz.func78 (by kernel_rfl) (by kernel_rfl)).plus cut_ct Tryz.func77 (by kernel_rfl) (by kernel_rfl)
theorem next_walk (s : St) (lv wv : List Int) (q : Int) (h : StOk s) (hv : lv.length = 4 ∧ ∀ x ∈ lv, InK .i64 x) (hw : wv.length = 16 ∧ ∀ x ∈ wv, InK .i64 x) (hq : InK .i64 q) :
    walk FNx 0 Tryz.f41 [stW s, ar 4 lv, ar 16 wv, i64 q] [] fun y _ => y = .tup [ar 16 (outN s lv wv q), stW (stN s lv wv q)] := by
  rcases Classical.em (rightP s) with h1 | h1
  · rcases Classical.em (rightP ⟨z16, 0, lv, wv, q⟩) with h2 | h2
    · rw [outN_ok ⟨h1, h2⟩, stN_ok ⟨h1, h2⟩]
      repeat' ((conv => whnf); first | (refine And.intro ⟨rfl, rfl, rfl⟩ ?_) | (refine ask_true h1 ?_) | (refine ask_true h2 ?_) | (refine And.intro ⟨rfl, rfl⟩ ?_) | (refine And.intro rfl ?_) | (refine And.intro trivial ?_) | (refine ⟨by kernel_rfl, ?_⟩) | fail)
      refine loop_at (15 :: 16 :: List.range' 47 10) (fun m (i : Int) => 0 ≤ i ∧ i ≤ 16 ∧ m = (16 - i).toNat) (fun i => [(47, vi i)]) (fun i => [sb s, .own 49 [.ints .i64 4 lv], ob wv, ob z16, sb st0, sb ⟨stg (memZ wv) z16 i, 0, lv, wv, q⟩, ob (back1 wv), ob (back2 wv), ob (laidZ s wv)]) 16 0 ⟨by decide, by decide, rfl⟩ ?_ ?_
      · exact ⟨rfl, ⟨⟨Nat.le_of_ble_eq_true rfl, rfl⟩, trivial⟩, ⟨rfl, rfl, rfl, rfl, rfl, by rw [stg_zero]; rfl, rfl, rfl, rfl, trivial⟩, rfl, rfl, Nat.zero_le _⟩
      · rintro m i ⟨i0, i1, rfl⟩
        have em : mulN i.toNat (Tryz.prog.types[3]).size = i.toNat := mulN1 i.toNat
        rcases Int.lt_or_le i 16 with i2 | i2
        · repeat' ((conv => whnf); first | (refine ask_true (by omega) ?_) | (refine And.intro trivial ?_) | (refine And.intro (by omega) ?_) | (refine fun (_ : InK _ _) => ?_) | (refine ask_wrap64 (by omega) (by omega) ?_) | (refine ⟨by kernel_rfl, ?_⟩) | fail)
          conv => whnf
          refine ⟨(16 - (i + 1)).toNat, i + 1, by omega, ⟨by omega, by omega, rfl⟩, rfl, ⟨⟨Nat.le_of_ble_eq_true rfl, rfl⟩, trivial⟩, ⟨rfl, rfl, rfl, rfl, rfl, ?_, rfl, rfl, rfl, trivial⟩, rfl, rfl, Nat.zero_le _⟩
          refine congrArg (fun zs => sb ⟨zs, 0, lv, wv, q⟩) (stg_set em (by rw [memZ_len]; rfl) i0 (by rw [memZ_len]; omega) ?_).symm
          unfold memZ
          rw [getD_map (by rw [back2_len]; omega), em]
        · have hi : i = 16 := by omega
          subst hi
          rw [stg_all (by rw [memZ_len]; rfl) (by rw [memZ_len]; rfl)]
          repeat' ((conv => whnf); first | (refine ask_false (by omega) ?_) | (refine And.intro rfl ?_) | (refine ⟨by kernel_rfl, ?_⟩) | rfl | fail)
    · rw [outN_no (fun hh => h2 hh.2), stN_no (fun hh => h2 hh.2)]
      repeat' ((conv => whnf); first | (refine And.intro ⟨rfl, rfl, rfl⟩ ?_) | (refine ask_true h1 ?_) | (refine ask_false h2 ?_) | rfl | fail)
  · rw [outN_no (fun hh => h1 hh.1), stN_no (fun hh => h1 hh.1)]
    repeat' ((conv => whnf); first | (refine And.intro ⟨rfl, rfl, rfl⟩ ?_) | (refine ask_false h1 ?_) | rfl | fail)
def ctNext : Ct := fun ws K => match ws with
  | [.agg [.ints .i64 n m, .one (.ci .i64 l), .ints .i64 a v, .ints .i64 b w, .one (.ci .i64 q)], .agg [.ints .i64 c lv], .agg [.ints .i64 d wv], .c (.ci .i64 lo)] => (n = 16 ∧ a = 4 ∧ b = 16 ∧ c = 4 ∧ d = 16) ∧ K (.tup [ar 16 (outN ⟨m, l, v, w, q⟩ lv wv lo), stW (stN ⟨m, l, v, w, q⟩ lv wv lo)])
  | _ => False
theorem next_ct : CtOk Tryz.prog 41 ctNext := by
  intro ws K h' hr
  unfold ctNext at h'
  split at h'
  · rename_i n m l a v b w q c lv d wv lo
    obtain ⟨⟨rfl, rfl, rfl, rfl, rfl⟩, h'⟩ := h'
    obtain ⟨r1, r2, r3, r4, _⟩ := hr
    have ok : StOk ⟨m, l, v, w, q⟩ := stOk_of r1
    refine ⟨_, h', ⟨⟨ar_rng (outN_len _ _ _ _) fun x hx => in_of (by have := outN_in hx; omega), (stN_stok r2.1 r3.1 r4).rng, trivial⟩, rfl⟩, walk_calls FNx_ok Tryz.func41 rfl (ws := [stW ⟨m, l, v, w, q⟩, ar 4 lv, ar 16 wv, i64 lo]) ⟨ok.rng, r2, r3, r4, trivial⟩ rfl (next_walk _ lv wv lo ok r2.1 r3.1 r4)⟩
  · exact h'.elim
noncomputable def halfZ (s : St) : List Int := if s.q < 8 then s.w.map (fun x => x.tdiv 2) else z16
noncomputable def lessZ (s : St) : List Int := s.v.map fun x => max (x - 1) 0
noncomputable def loseOut (s : St) : List Int := outN s (lessZ s) (halfZ s) (min (s.q + 1) 255)
noncomputable def loseSt (s : St) : St := stN s (lessZ s) (halfZ s) (min (s.q + 1) 255)
noncomputable def FLo : Fns := (F0.plus 39 (ctSt rightP)).plus 41 ctNext
theorem FLo_ok : FnsOk Tryz.prog FLo := (F0_ok.plus right_ct Tryz.func39 (by kernel_rfl) (by kernel_rfl)).plus next_ct Tryz.func41 (by kernel_rfl) (by kernel_rfl)
theorem half_bound {x : Int} (h : -9223372036854775808 ≤ x) (h' : x ≤ 9223372036854775807) : -9223372036854775808 ≤ x.tdiv 2 ∧ x.tdiv 2 ≤ 9223372036854775807 := by
  rcases Int.lt_or_le x 0 with h0 | h0
  · rw [tdiv_neg (by omega)]; omega
  · rw [tdiv_pos h0]; omega
theorem stg_at {zs xs : List Int} {i : Int} {m : Nat} (hm : m = i.toNat) (h : zs.length = xs.length) (h0 : 0 ≤ i) (h1 : i < xs.length) : (stg zs xs i).getD m 0 = xs.getD m 0 := by
  subst hm
  unfold stg
  rw [List.getD_eq_getElem?_getD, List.getD_eq_getElem?_getD, List.getElem?_append_right (by simp; omega), List.getElem?_drop]
  congr 2
  simp
  omega
theorem lose_walk (s : St) (h : StOk s) : walk FLo 0 Tryz.f20 [stW s] [] fun y _ => y = .tup [ar 16 (loseOut s), stW (loseSt s)] := by
  rcases Classical.em (rightP s) with h1 | h1
  · have hr := h1
    rw [rightP_def] at hr
    have hwl := h.w.1
    have hvl := h.v.1
    repeat' ((conv => whnf); first | (refine And.intro ⟨rfl, rfl, rfl⟩ ?_) | (refine ask_true h1 ?_) | (refine ⟨by kernel_rfl, ?_⟩) | fail)
    refine loop_at (6 :: List.range' 17 9) (fun m (i : Int) => 0 ≤ i ∧ i ≤ 16 ∧ m = (16 - i).toNat) (fun i => [(17, vi i)]) (fun i => [sb s, ob z16, sb st0, ob (stg (s.w.map fun x => x.tdiv 2) s.w i), .own 49 [.ints .i64 4 s.v]]) 16 0 ⟨by decide, by decide, rfl⟩ ?_ ?_
    · exact ⟨rfl, ⟨⟨Nat.le_of_ble_eq_true rfl, rfl⟩, trivial⟩, ⟨rfl, rfl, rfl, by rw [stg_zero], rfl, trivial⟩, rfl, rfl, Nat.zero_le _⟩
    · rintro m i ⟨i0, i1, rfl⟩
      have em : mulN i.toNat (Tryz.prog.types[3]).size = i.toNat := mulN1 i.toNat
      rcases Int.lt_or_le i 16 with i2 | i2
      · have e1 := stg_at (zs := s.w.map fun x => x.tdiv 2) (xs := s.w) em (by simp) i0 (by rw [hwl]; exact i2)
        repeat' ((conv => whnf); first | (refine ask_true (by omega) ?_) | (refine And.intro (by omega) ?_) | (refine ask_in64 fun b1 b2 => ?_) | (refine ask_wrap64 (half_bound (by assumption) (by assumption)).1 (half_bound (by assumption) (by assumption)).2 ?_) | (refine ask_wrap64 (by omega) (by omega) ?_) | fail)
        conv => whnf
        refine ⟨(16 - (i + 1)).toNat, i + 1, by omega, ⟨by omega, by omega, rfl⟩, rfl, ⟨⟨Nat.le_of_ble_eq_true rfl, rfl⟩, trivial⟩, ⟨rfl, rfl, rfl, ?_, rfl, trivial⟩, rfl, rfl, Nat.zero_le _⟩
        refine congrArg ob (stg_set em (by simp) i0 (by simp [hwl]; omega) ?_).symm
        rw [e1, getD_map (by omega), em]
      · have hi : i = 16 := by omega
        subst hi
        rw [stg_all (by simp) (by simp [hwl])]
        have tail : ∀ ws : List Int, ws = halfZ s → ob ws = ob (halfZ s) := fun ws h => by rw [h]
        rcases Int.lt_or_le s.q 8 with hq | hq
        · repeat' ((conv => whnf); first | (refine ask_false (by omega) ?_) | fail)
          conv => whnf
          refine loop_at (7 :: List.range' 30 11) (fun m (i : Int) => 0 ≤ i ∧ i ≤ 4 ∧ m = (4 - i).toNat) (fun i => [(30, vi i)]) (fun i => [sb s, ob z16, sb st0, ob (halfZ s), .own 49 [.ints .i64 4 (stg (lessZ s) s.v i)]]) 4 0 ⟨by decide, by decide, rfl⟩ ?_ ?_
          · exact ⟨rfl, ⟨⟨Nat.le_of_ble_eq_true rfl, rfl⟩, trivial⟩, ⟨rfl, rfl, rfl, congrArg ob (if_pos hq), by rw [stg_zero], trivial⟩, rfl, rfl, Nat.zero_le _⟩
          · rintro m i ⟨i0, i1, rfl⟩
            have em : mulN i.toNat (Tryz.prog.types[3]).size = i.toNat := mulN1 i.toNat
            rcases Int.lt_or_le i 4 with i2 | i2
            · have e1 := stg_at (zs := lessZ s) (xs := s.v) em (by simp [lessZ]) i0 (by rw [hvl]; exact i2)
              have e2 := hr.2.1 _ (mem_at (i := mulN i.toNat (Tryz.prog.types[3]).size) (by omega))
              rw [← e1] at e2
              repeat' ((conv => whnf); first | (refine ask_true (by omega) ?_) | (refine And.intro (by omega) ?_) | (refine fun (_ : InK _ _) => ?_) | (refine ask_wrap64 (by omega) (by omega) ?_) | fail)
              conv => whnf
              refine ⟨(4 - (i + 1)).toNat, i + 1, by omega, ⟨by omega, by omega, rfl⟩, rfl, ⟨⟨Nat.le_of_ble_eq_true rfl, rfl⟩, trivial⟩, ⟨rfl, rfl, rfl, rfl, ?_, trivial⟩, rfl, rfl, Nat.zero_le _⟩
              refine congrArg (fun zs => Blk.own 49 [.ints .i64 4 zs]) (stg_set em (by simp [lessZ]) i0 (by simp [lessZ, hvl]; omega) ?_).symm
              unfold lessZ
              unfold lessZ at e1
              rw [e1, getD_map (by omega), em]
            · have hi : i = 4 := by omega
              subst hi
              rw [stg_all (by simp [lessZ]) (by simp [lessZ, hvl])]
              repeat' ((conv => whnf); first | (refine ask_false (by omega) ?_) | (refine ask_wrap64 (by omega) (by omega) ?_) | (refine And.intro ⟨rfl, rfl, rfl, rfl, rfl⟩ ?_) | (refine ⟨by kernel_rfl, ?_⟩) | rfl | fail)
        · repeat' ((conv => whnf); first | (refine ask_false (by omega) ?_) | (refine ask_true (by omega) ?_) | fail)
          conv => whnf
          refine loop_at (7 :: List.range' 30 11) (fun m (i : Int) => 0 ≤ i ∧ i ≤ 4 ∧ m = (4 - i).toNat) (fun i => [(30, vi i)]) (fun i => [sb s, ob z16, sb st0, ob (halfZ s), .own 49 [.ints .i64 4 (stg (lessZ s) s.v i)]]) 4 0 ⟨by decide, by decide, rfl⟩ ?_ ?_
          · exact ⟨rfl, ⟨⟨Nat.le_of_ble_eq_true rfl, rfl⟩, trivial⟩, ⟨rfl, rfl, rfl, congrArg ob (if_neg (by omega)), by rw [stg_zero], trivial⟩, rfl, rfl, Nat.zero_le _⟩
          · rintro m i ⟨i0, i1, rfl⟩
            have em : mulN i.toNat (Tryz.prog.types[3]).size = i.toNat := mulN1 i.toNat
            rcases Int.lt_or_le i 4 with i2 | i2
            · have e1 := stg_at (zs := lessZ s) (xs := s.v) em (by simp [lessZ]) i0 (by rw [hvl]; exact i2)
              have e2 := hr.2.1 _ (mem_at (i := mulN i.toNat (Tryz.prog.types[3]).size) (by omega))
              rw [← e1] at e2
              repeat' ((conv => whnf); first | (refine ask_true (by omega) ?_) | (refine And.intro (by omega) ?_) | (refine fun (_ : InK _ _) => ?_) | (refine ask_wrap64 (by omega) (by omega) ?_) | fail)
              conv => whnf
              refine ⟨(4 - (i + 1)).toNat, i + 1, by omega, ⟨by omega, by omega, rfl⟩, rfl, ⟨⟨Nat.le_of_ble_eq_true rfl, rfl⟩, trivial⟩, ⟨rfl, rfl, rfl, rfl, ?_, trivial⟩, rfl, rfl, Nat.zero_le _⟩
              refine congrArg (fun zs => Blk.own 49 [.ints .i64 4 zs]) (stg_set em (by simp [lessZ]) i0 (by simp [lessZ, hvl]; omega) ?_).symm
              unfold lessZ
              unfold lessZ at e1
              rw [e1, getD_map (by omega), em]
            · have hi : i = 4 := by omega
              subst hi
              rw [stg_all (by simp [lessZ]) (by simp [lessZ, hvl])]
              repeat' ((conv => whnf); first | (refine ask_false (by omega) ?_) | (refine ask_wrap64 (by omega) (by omega) ?_) | (refine And.intro ⟨rfl, rfl, rfl, rfl, rfl⟩ ?_) | (refine ⟨by kernel_rfl, ?_⟩) | rfl | fail)
  · unfold loseOut loseSt
    rw [outN_no (fun hh => h1 hh.1), stN_no (fun hh => h1 hh.1)]
    repeat' ((conv => whnf); first | (refine And.intro ⟨rfl, rfl, rfl⟩ ?_) | (refine ask_false h1 ?_) | rfl | fail)
def ctSS (p : St → Prop) (f : St → List Int) (g : St → St) : Ct := fun ws K => match ws with
  | [.agg [.ints .i64 n m, .one (.ci .i64 l), .ints .i64 a v, .ints .i64 b w, .one (.ci .i64 q)]] => (n = 16 ∧ a = 4 ∧ b = 16) ∧ p ⟨m, l, v, w, q⟩ ∧ K (.tup [ar 16 (f ⟨m, l, v, w, q⟩), stW (g ⟨m, l, v, w, q⟩)])
  | _ => False
theorem ctSS_ok {F : Fns} (hF : FnsOk Tryz.prog F) {n : Nat} {f : FuncId} {fn : Func} (hf : Tryz.prog.funcs[f]? = some fn) {p : St → Prop} {k : St → List Int} {g : St → St} (hk : ∀ s, StOk s → p s → (k s).length = 16 ∧ ∀ x ∈ k s, InK .i64 x) (hg : ∀ s, StOk s → p s → StOk (g s))
    (h : ∀ s, StOk s → p s → walk F n fn [stW s] [] fun y _ => y = .tup [ar 16 (k s), stW (g s)]) : CtOk Tryz.prog f (ctSS p k g) := by
  intro ws K h' hr
  unfold ctSS at h'
  split at h'
  · rename_i n m l a v b w q
    obtain ⟨⟨rfl, rfl, rfl⟩, hp, h'⟩ := h'
    have ok : StOk ⟨m, l, v, w, q⟩ := stOk_of hr.1
    have h1 := hk _ ok hp
    exact ⟨_, h', ⟨⟨ar_rng h1.1 h1.2, (hg _ ok hp).rng, trivial⟩, rfl⟩, walk_calls hF hf rfl (ws := [stW ⟨m, l, v, w, q⟩]) ⟨ok.rng, trivial⟩ rfl (h _ ok hp)⟩
  · exact h'.elim
theorem held_half {xs : List Int} (h : held xs) : held (xs.map fun x => x.tdiv 2) := by
  rw [held_def] at *
  intro x hx
  obtain ⟨y, hy, rfl⟩ := List.mem_map.1 hx
  have := h y hy
  rcases Int.lt_or_le y 0 with h0 | h0
  · rw [tdiv_neg (by omega)]; omega
  · rw [tdiv_pos h0]; omega
theorem halfZ_held {s : St} (h : rightP s) : held (halfZ s) := by
  rw [rightP_def] at h
  unfold halfZ
  split
  · exact held_half h.2.2.2.1
  · exact held_z16
theorem halfZ_len {s : St} (h : StOk s) : (halfZ s).length = 16 := by
  unfold halfZ
  split
  · simp [h.w.1]
  · rfl
theorem held_in {xs : List Int} (h : held xs) : ∀ x ∈ xs, InK .i64 x := fun x hx => by
  rw [held_def] at h
  have := h x hx
  exact in_of (by omega)
theorem lessZ_len {s : St} (h : StOk s) : (lessZ s).length = 4 := by simp [lessZ, h.v.1]
theorem lessZ_in {s : St} (h : rightP s) : ∀ x ∈ lessZ s, 0 ≤ x ∧ x ≤ 20 := fun x hx => by
  rw [rightP_def] at h
  unfold lessZ at hx
  obtain ⟨y, hy, rfl⟩ := List.mem_map.1 hx
  have := h.2.1 y hy
  omega
theorem lose_right {s : St} (h : rightP s) : okN s (lessZ s) (halfZ s) (min (s.q + 1) 255) := by
  refine ⟨h, ?_⟩
  have hr := h
  rw [rightP_def] at hr ⊢
  refine ⟨fun x hx => ?_, lessZ_in h, ⟨show (-2097152 : Int) ≤ 0 by decide, show (0 : Int) ≤ 2097151 by decide⟩, halfZ_held h, ?_, ?_⟩
  · have hx : x ∈ z16 := hx
    simp only [z16, List.mem_cons, List.not_mem_nil, or_false, or_self] at hx
    omega
  · show 0 ≤ min (s.q + 1) 255; omega
  · show min (s.q + 1) 255 ≤ 255; omega
theorem loseSt_eq {s : St} (h : rightP s) : loseSt s = ⟨memZ (halfZ s), laidP s (halfZ s), lessZ s, halfZ s, min (s.q + 1) 255⟩ := stN_ok (lose_right h)
theorem loseSt_no {s : St} (h : ¬ rightP s) : loseSt s = st0 := stN_no fun hh => h hh.1
theorem loseOut_in (s : St) : ∀ x ∈ loseOut s, InK .i64 x := fun x hx => in_of (by have := outN_in hx; omega)
theorem loseSt_ok {s : St} (h : StOk s) : StOk (loseSt s) := by
  rcases Classical.em (rightP s) with h1 | h1
  · rw [loseSt_eq h1]
    rw [rightP_def] at h1
    refine ⟨⟨memZ_len _, fun x hx => in_of (memZ_in hx)⟩, in_of (by have := laidP_in s (halfZ s); show -2147483648 ≤ laidP s (halfZ s) ∧ laidP s (halfZ s) ≤ 2147483647; omega), ⟨lessZ_len h, fun x hx => in_of (by have := lessZ_in (by rw [rightP_def]; exact h1) x hx; omega)⟩, ⟨halfZ_len h, held_in (halfZ_held (by rw [rightP_def]; exact h1))⟩, in_of ?_⟩
    show -2147483648 ≤ min (s.q + 1) 255 ∧ min (s.q + 1) 255 ≤ 2147483647
    omega
  · rw [loseSt_no h1]; exact st0_ok
theorem lose_ct : CtOk Tryz.prog 20 (ctSS (fun _ => True) loseOut loseSt) := ctSS_ok FLo_ok Tryz.func20 (fun s _ _ => ⟨outN_len _ _ _ _, loseOut_in s⟩) (fun s h _ => loseSt_ok h) fun s h _ => lose_walk s h
theorem loseOut_len (s : St) : (loseOut s).length = 16 := outN_len _ _ _ _
end B
end Go.Proofs.YtaficaacogcblaaGreatDoor
