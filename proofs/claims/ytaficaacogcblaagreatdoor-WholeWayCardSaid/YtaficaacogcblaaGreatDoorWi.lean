/- The coder of ranges: a decoder takes a number of bits. -/
import Derived.Test.YtaficaacogcblaaGreatDoorWs
import Derived.Test.YtaficaacogcblaaGreatDoorWh
set_option linter.all false
namespace Go.Proofs.YtaficaacogcblaaGreatDoor
namespace R
open Go.RowKit (Below)
set_option maxRecDepth 100000
set_option maxHeartbeats 16000000

theorem or64 {x p a : Int} (ha : 0 ≤ a) (ha' : a ≤ 40) (hx : 0 ≤ x ∧ x < pw a) (hp : 0 ≤ p ∧ p ≤ 1048576) : bitsI .or .i64 x (p * pw a) = x + p * pw a := by
  obtain ⟨n, rfl⟩ : ∃ n : Nat, a = n := ⟨a.toNat, by omega⟩
  obtain ⟨y, rfl⟩ : ∃ y : Nat, x = y := ⟨x.toNat, by omega⟩
  obtain ⟨q, rfl⟩ : ∃ q : Nat, p = q := ⟨p.toNat, by omega⟩
  have e0 : pw (n : Int) = ((2 ^ n : Nat) : Int) := by rw [pw_def]; simp
  rw [e0] at hx ⊢
  have hp2 : 2 ^ n ≤ 2 ^ 40 := Nat.pow_le_pow_right (by decide) (by omega)
  have hq : q * 2 ^ n ≤ 1048576 * 2 ^ 40 := Nat.mul_le_mul (by omega) hp2
  have hy : y < 2 ^ n := by omega
  have e2 : ((q : Int) * ((2 ^ n : Nat) : Int)) = ((q * 2 ^ n : Nat) : Int) := by simp
  have o1 : (BitVec.ofInt 64 (y : Int)).toNat = y := by
    rw [BitVec.ofInt_natCast, BitVec.toNat_ofNat]; omega
  have o2 : (BitVec.ofInt 64 ((q : Int) * ((2 ^ n : Nat) : Int))).toNat = q * 2 ^ n := by
    rw [e2, BitVec.ofInt_natCast, BitVec.toNat_ofNat]; omega
  have o3 : y ||| q * 2 ^ n = y + q * 2 ^ n := by
    rw [Nat.or_comm, Nat.mul_comm, ← Nat.two_pow_add_eq_or_of_lt hy]; omega
  show IntKind.i64.wrap (((BitVec.ofInt 64 (y : Int) ||| BitVec.ofInt 64 ((q : Int) * ((2 ^ n : Nat) : Int))).toNat : Nat) : Int) = _
  rw [BitVec.toNat_or, o1, o2, o3, e2, wrap_of_in]
  · omega
  · simp only [InK, lowK, highK]; omega
theorem atS_in {d : DS} (h : DOk d) {t : Int} (h1 : 1 ≤ t) (h2 : t ≤ 32768) : 0 ≤ atS d t ∧ atS d t < t := by
  have hs := stepS_in h h1 h2
  have := Int.ediv_nonneg h.c0 (show 0 ≤ stepS d t by omega)
  unfold atS
  omega

theorem set_same {α : Type} {H : List α} {j : Nat} {b : α} (h : H[j]? = some b) : H.set j b = H := by
  have h1 := (List.getElem?_eq_some_iff.1 h)
  obtain ⟨h2, rfl⟩ := h1
  exact List.set_getElem_self h2
/-- A number of bits, eight at a time. -/
noncomputable def bitsF : Nat → Int → Int → Int → DS → Int × DS
  | 0, _, _, x, d => (x, d)
  | k + 1, n, a, x, d => if a < n then bitsF k n (a + 8) (x + atS d (pw (min (n - a) 8)) * pw a) (tkS d (atS d (pw (min (n - a) 8))) 1 (pw (min (n - a) 8))) else (x, d)
@[irreducible] noncomputable def btS (n : Int) (d : DS) : Int × DS := sealed (fun n d => bitsF 3 n 0 0 d) n d
theorem btS_def (n : Int) (d : DS) : btS n d = bitsF 3 n 0 0 d := by unfold btS; rw [sealed_eq]
structure BS where
  k : Nat
  x : Int
  d : DS
noncomputable def FB : Fns := (F0.over 114 hAt).over 117 hTake
theorem FB_ok : FnsOk Tryz.prog FB := (F0_ok.over at_ct Tryz.func114 (by kernel_rfl) (by kernel_rfl)).over take_ct Tryz.func117 (by kernel_rfl) (by kernel_rfl)
theorem pwm {n a : Int} (h : 1 ≤ min (n - a) 8) : 2 ≤ pw (min (n - a) 8) ∧ pw (min (n - a) 8) ≤ 256 := by
  have h1 := pw_mono (a := 1) (b := min (n - a) 8) h
  have h2 := pw_mono (a := min (n - a) 8) (b := 8) (by omega)
  have e1 : pw 1 = 2 := by rw [pw_def]; decide
  have e2 : pw 8 = 256 := by rw [pw_def]; decide
  omega
theorem bits_walk {H : List Blk} (hH : HOk H) {j : Nat} {d : DS} (hj : H[j]? = some (dcB d)) (hd : DIn d 90000000) {n : Int} (h0 : 0 ≤ n) (h24 : n ≤ 24) :
    walk FB 0 Tryz.f71 [.c (.cp j 0), i64 n] H fun x H' => x = .tup [.c (.ci .i64 (btS n d).1), .c (.ci .i64 0)] ∧ H' = H.set j (dcB (btS n d).2) := by
  have hjl := (List.getElem?_eq_some_iff.1 hj).1
  have hset : ∀ b : Blk, (H.set j b)[j]? = some b := fun b => List.getElem?_set_self hjl
  have hbH : ∀ d' : DS, bndH (H.set j (dcB d')).length (H.set j (dcB d')) = true := fun d' => bndH_of fun b hb => by
    rw [List.length_set]
    rcases List.mem_or_eq_of_mem_set hb with h | h
    · exact hH.bnd b h
    · rw [h]; rfl
  have hlo : ∀ d' : DS, H.length ≤ (H.set j (dcB d')).length := fun d' => by rw [List.length_set]; exact Nat.le_refl _
  have d1 : ∀ d' : DS, decide (j < (H.set j (dcB d')).length) = true := fun d' => by simp [hjl]
  repeat' ((conv => whnf); first | (refine lenH_is ?_) | (refine ask_true (by omega) ?_) | (refine ask_false (by omega) ?_) | fail)
  conv => whnf
  refine loop_at (List.range' 6 41) (fun m (s : BS) => s.k ≤ 3 ∧ m = 3 - s.k ∧ (0 ≤ s.x ∧ s.x < pw (8 * s.k)) ∧ DIn s.d (90000000 + 3 * s.k) ∧ bitsF (3 - s.k) n (8 * s.k) s.x s.d = btS n d) (fun s => [(6, vi s.x), (7, vi (8 * s.k))]) (fun s => H.set j (dcB s.d)) 3 ⟨0, 0, d⟩ ⟨Nat.zero_le _, rfl, ⟨Int.le_refl _, by have := pw_pos (8 * ((0 : Nat) : Int)); dsimp only; omega⟩, hd.mono (by dsimp only; omega), (btS_def _ _).symm⟩ ?_ ?_
  · refine ⟨rfl, ⟨⟨Nat.le_of_ble_eq_true rfl, rfl⟩, ⟨Nat.le_of_ble_eq_true rfl, rfl⟩, trivial⟩, ?_, ?_, hbH _, hlo _⟩
    · rw [set_same hj]; exact wkH_refl _
    · repeat' (first | rfl | exact d1 _ | refine and_t ?_ ?_)
  · rintro m s ⟨e1, rfl, e2, e3, e4⟩
    rcases Int.lt_or_le (8 * (s.k : Int)) n with g | g
    · have hm : 1 ≤ min (n - 8 * (s.k : Int)) 8 := by omega
      have hm8 : min (n - 8 * (s.k : Int)) 8 ≤ 8 := by omega
      have hp := pwm hm
      have hp1 : 1 * pw (min (n - 8 * (s.k : Int)) 8) = pw (min (n - 8 * (s.k : Int)) 8) := Int.one_mul _
      have ha := atS_in e3.ok (t := pw (min (n - 8 * (s.k : Int)) 8)) (by omega) (by omega)
      repeat' ((conv => whnf); first | (refine lenH_is ?_) | (refine ask_true (by omega) ?_) | (refine ask_false (by omega) ?_) | (refine ask_wrap64 (by omega) (by omega) ?_) | (refine And.intro (by omega) (shl64 (by omega) (by omega) (by omega) (by omega) ?_)) | (refine Exists.intro s.d (And.intro (hset _) (And.intro e3.ok (And.intro (And.intro (by omega) (by omega)) fun p hp' => ?_)))) | (refine And.intro (by omega) (shl64 (by omega) (by omega) ?_ ?_ ?_)) | fail)
      conv => whnf
      have hpp : 0 ≤ p ∧ p < pw (min (n - 8 * (s.k : Int)) 8) := by rw [hp', hp1]; exact ha
      have hk2 : s.k ≤ 2 := by omega
      have p16 := pw_mono (a := 8 * (s.k : Int)) (b := 16) (by omega)
      rw [show pw 16 = 65536 by rw [pw_def]; decide] at p16
      have p8 := pw_pos (8 * (s.k : Int))
      have hpm : p * pw (8 * (s.k : Int)) ≤ 256 * 65536 := Int.mul_le_mul (by omega) p16 (by omega) (by omega)
      have hp0 : 0 ≤ p * pw (8 * (s.k : Int)) := Int.mul_nonneg (by omega) (by omega)
      have hc : cellP p 1 (1 * pw (min (n - 8 * (s.k : Int)) 8)) := by unfold cellP; omega
      have hor := or64 (x := s.x) (p := p) (a := 8 * (s.k : Int)) (by omega) (by omega) e2 (by omega)
      have hadd : pw (8 * (s.k : Int) + 8) = pw (8 * (s.k : Int)) * 256 := by rw [pw_add (by omega) (by omega), show pw 8 = 256 by rw [pw_def]; decide]
      have hpx : p * pw (8 * (s.k : Int)) ≤ 255 * pw (8 * (s.k : Int)) := Int.mul_le_mul_of_nonneg_right (by omega) (by omega)
      have e5 : pw (8 * (s.k : Int)) ≤ 65536 := p16
      have hin : InK .i64 (s.x + p * pw (8 * (s.k : Int))) := by simp only [InK, lowK, highK]; omega
      refine ⟨s.d, hset _, e3.mono (by omega), hc, fun d2 hd2 => ?_⟩
      repeat' ((conv => whnf); first | (refine lenH_is ?_) | (refine ask_wrap64 (by omega) (by omega) ?_) | (refine And.intro (by omega) (shl64 (by omega) (by omega) (by omega) (by omega) ?_)) | (refine ask_is hor ?_) | fail)
      rw [hp1] at hd2 hp'
      have hd2' : DIn d2 (90000000 + 3 * (((s.k + 1 : Nat)) : Int)) := by
        have := e3.take (tkS_ok e3.ok (s := p) (w := 1) (t := pw (min (n - 8 * (s.k : Int)) 8)) (by rw [← hp1]; exact hc))
        rw [← hd2] at this
        exact this.mono (by omega)
      refine ⟨3 - (s.k + 1), ⟨s.k + 1, s.x + p * pw (8 * (s.k : Int)), d2⟩, by omega, ⟨by dsimp only; omega, rfl, ⟨by dsimp only; omega, ?_⟩, hd2', ?_⟩, ⟨rfl, ⟨⟨Nat.le_of_ble_eq_true rfl, rfl⟩, ⟨Nat.le_of_ble_eq_true rfl, ?_⟩, trivial⟩, ?_, ?_, hbH _, hlo _⟩⟩
      · dsimp only
        rw [show 8 * (((s.k + 1 : Nat)) : Int) = 8 * (s.k : Int) + 8 by omega, hadd]
        omega
      · dsimp only
        rw [← e4, show 3 - s.k = (3 - (s.k + 1)) + 1 by omega]
        simp only [bitsF]
        rw [if_pos g, ← hp', ← hd2, show 8 * (((s.k + 1 : Nat)) : Int) = 8 * (s.k : Int) + 8 by omega]
      · show vi (8 * (s.k : Int) + 8) = vi (8 * (((s.k + 1 : Nat)) : Int))
        rw [show 8 * (((s.k + 1 : Nat)) : Int) = 8 * (s.k : Int) + 8 by omega]
      · rw [List.set_set]; exact wkH_refl _
      · repeat' (first | rfl | exact d1 _ | refine and_t ?_ ?_)
    · repeat' ((conv => whnf); first | (refine lenH_is ?_) | (refine ask_false (by omega) ?_) | fail)
      have ee : bitsF (3 - s.k) n (8 * (s.k : Int)) s.x s.d = (s.x, s.d) := by
        cases h3 : 3 - s.k with
        | zero => rfl
        | succ m => simp only [bitsF]; rw [if_neg (by omega)]
      rw [← e4, ee]
      exact ⟨rfl, rfl⟩
theorem TkOk.refl {d : DS} (h : DOk d) : TkOk d d 0 := ⟨h, Int.le_refl _, by omega, Int.le_refl _, by omega, rfl⟩
theorem TkOk.trans {a b c : DS} {n m : Int} (h : TkOk a b n) (k : TkOk b c m) : TkOk a c (n + m) :=
  ⟨k.ok, Int.le_trans h.at0 k.at0, by have := h.at1; have := k.at1; omega, Int.le_trans h.g0 k.g0, by have := h.g1; have := k.g1; omega, k.s.trans h.s⟩
theorem TkOk.mono {a b : DS} {n m : Int} (h : TkOk a b n) (k : n ≤ m) : TkOk a b m := ⟨h.ok, h.at0, Int.le_trans h.at1 (by omega), h.g0, Int.le_trans h.g1 (by omega), h.s⟩
theorem bitsF_ok : ∀ (k : Nat) (n a x : Int) (d : DS), DOk d → 0 ≤ a → (0 ≤ x ∧ x < pw a) → (0 ≤ (bitsF k n a x d).1 ∧ (bitsF k n a x d).1 < pw (a + 8 * k)) ∧ TkOk d (bitsF k n a x d).2 (3 * k)
  | 0, n, a, x, d, h, ha, hx => by
    simp only [bitsF]
    exact ⟨⟨hx.1, by rw [show a + 8 * ((0 : Nat) : Int) = a by omega]; exact hx.2⟩, (TkOk.refl h).mono (by omega)⟩
  | k + 1, n, a, x, d, h, ha, hx => by
    simp only [bitsF]
    split
    · rename_i g
      have hp := pwm (n := n) (a := a) (by omega)
      have hat := atS_in h (t := pw (min (n - a) 8)) (by omega) (by omega)
      have pa := pw_pos a
      have hadd : pw (a + 8) = pw a * 256 := by rw [pw_add ha (by omega), show pw 8 = 256 by rw [pw_def]; decide]
      have h0 : 0 ≤ atS d (pw (min (n - a) 8)) * pw a := Int.mul_nonneg (by omega) (by omega)
      have h1 : atS d (pw (min (n - a) 8)) * pw a ≤ 255 * pw a := Int.mul_le_mul_of_nonneg_right (by omega) (by omega)
      have tk := tkS_ok h (s := atS d (pw (min (n - a) 8))) (w := 1) (t := pw (min (n - a) 8)) (by unfold cellP; omega)
      obtain ⟨q1, q2⟩ := bitsF_ok k n (a + 8) (x + atS d (pw (min (n - a) 8)) * pw a) _ tk.ok (by omega) (by omega)
      refine ⟨⟨q1.1, by rw [show a + 8 * ((k + 1 : Nat) : Int) = a + 8 + 8 * (k : Int) by omega]; exact q1.2⟩, (tk.trans q2).mono (by omega)⟩
    · have := pw_mono (a := a) (b := a + 8 * ((k + 1 : Nat) : Int)) (by omega)
      exact ⟨⟨hx.1, by dsimp only; omega⟩, (TkOk.refl h).mono (by omega)⟩
theorem btS_ok {d : DS} (h : DOk d) (n : Int) : (0 ≤ (btS n d).1 ∧ (btS n d).1 < 16777216) ∧ TkOk d (btS n d).2 9 := by
  rw [btS_def]
  obtain ⟨h1, h2⟩ := bitsF_ok 3 n 0 0 d h (by decide) ⟨by decide, by have := pw_pos 0; omega⟩
  rw [show (0 : Int) + 8 * ((3 : Nat) : Int) = 24 from rfl, show pw 24 = 16777216 by rw [pw_def]; decide] at h1
  exact ⟨h1, h2⟩
def hBits : HCt := fun ws H K => match ws with
  | [.c (.cp j 0), .c (.ci .i64 n)] => ∃ d : DS, H[j]? = some (dcB d) ∧ DIn d 90000000 ∧ (0 ≤ n ∧ n ≤ 24) ∧ ∀ (x : Int) (d' : DS), x = (btS n d).1 → d' = (btS n d).2 → (0 ≤ x ∧ x < 16777216) → TkOk d d' 9 → K (.tup [.c (.ci .i64 x), .c (.ci .i64 0)]) (H.set j (dcB d'))
  | _ => False
theorem bits_ct : HCtOk Tryz.prog 71 hBits := by
  intro ws H K h hr hb ho G σ base w₀ w hw
  unfold hBits at h
  split at h
  · rename_i j n
    obtain ⟨d, hj, hd, h0, hK⟩ := h
    have ok := btS_ok hd.ok n
    exact heap_lift FB_ok Tryz.func71 (n := 0) (ws := [.c (.cp j 0), i64 n]) ⟨trivial, hr.2.1, trivial⟩ (ptr_bnd2 hj) ho (bits_walk ho hj hd h0.1 h0.2) (fun x H' hP => by
      obtain ⟨rfl, rfl⟩ := hP
      exact hK _ _ rfl rfl ok.1 ok.2) G σ base w₀ w hw
  · exact h.elim
end R
end Go.Proofs.YtaficaacogcblaaGreatDoor
