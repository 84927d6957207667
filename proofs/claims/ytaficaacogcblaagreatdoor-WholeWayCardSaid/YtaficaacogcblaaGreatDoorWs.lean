/- The coder of ranges: a decoder takes a cell. -/
import Derived.Test.YtaficaacogcblaaGreatDoorWr
import Derived.Test.YtaficaacogcblaaGreatDoorXrd
set_option linter.all false
namespace Go.Proofs.YtaficaacogcblaaGreatDoor
namespace R
open Go.RowKit (Below)
set_option maxRecDepth 100000
set_option maxHeartbeats 16000000

/-- Bytes are taken till the range is wide again. -/
def dnorm : Nat → DS → DS
  | 0, d => d
  | n + 1, d => if d.rng < 16777216 then dnorm n ⟨d.s, d.at' + 1, (d.code * 256) % 4294967296 + byteD d.s d.at', d.rng * 256, d.gone + 1⟩ else d
def takeS (d : DS) (s w t : Int) : DS := dnorm 3 ⟨d.s, d.at', IntKind.u32.wrap (d.code - stepS d t * s), stepS d t * w, d.gone⟩
theorem shl8_nat (x : Int) : x * 2 ^ (min (Int.toNat 8) IntKind.u32.bits) = x * 256 := by
  rw [show min (Int.toNat 8) IntKind.u32.bits = 8 from rfl]; rfl
theorem ask_shl8 {x : Int} {K : Int → Prop} (h0 : 0 ≤ x) (h1 : x < 16777216) (hk : K (x * 256)) : ∀ r, r = IntKind.u32.wrap (x * 2 ^ (min (Int.toNat 8) IntKind.u32.bits)) → K r := by
  rintro r rfl
  rw [shl8_nat, wrap_of_in (by simp only [InK, lowK, highK]; omega)]
  exact hk
theorem or_byte {c b : Int} (hc : 0 ≤ c ∧ c ≤ 4294967295) (hb : 0 ≤ b ∧ b ≤ 255) : bitsI .or .u32 (IntKind.u32.wrap (c * 256)) b = (c * 256) % 4294967296 + b := by
  have e0 : IntKind.u32.wrap (c * 256) = (c * 256) % 4294967296 := by
    simp [IntKind.wrap, IntKind.bits, IntKind.signed]
  rw [e0]
  obtain ⟨x, hx⟩ : ∃ x : Nat, (c * 256) % 4294967296 = ((256 * x : Nat) : Int) := ⟨(c % 16777216).toNat, by omega⟩
  have hx1 : x < 16777216 := by omega
  obtain ⟨y, rfl⟩ : ∃ y : Nat, b = y := ⟨b.toNat, by omega⟩
  rw [hx]
  have o1 : (BitVec.ofInt 32 ((256 * x : Nat) : Int)).toNat = 256 * x := by
    rw [BitVec.ofInt_natCast, BitVec.toNat_ofNat]; omega
  have o2 : (BitVec.ofInt 32 (y : Int)).toNat = y := by
    rw [BitVec.ofInt_natCast, BitVec.toNat_ofNat]; omega
  have o3 : 256 * x ||| y = 256 * x + y := by
    rw [show 256 * x = 2 ^ 8 * x from rfl, ← Nat.two_pow_add_eq_or_of_lt (show y < 2 ^ 8 by omega)]
  show IntKind.u32.wrap (((BitVec.ofInt 32 ((256 * x : Nat) : Int) ||| BitVec.ofInt 32 (y : Int)).toNat : Nat) : Int) = _
  rw [BitVec.toNat_or, o1, o2, o3, wrap_of_in]
  · omega
  · simp only [InK, lowK, highK]; omega
theorem ask_or {c b r v : Int} {K : Int → Prop} (hr : r = IntKind.u32.wrap (c * 2 ^ (min (Int.toNat 8) IntKind.u32.bits))) (hv : v = b) (hc : 0 ≤ c ∧ c ≤ 4294967295) (hb : 0 ≤ b ∧ b ≤ 255) (hk : K ((c * 256) % 4294967296 + b)) : ∀ x, x = bitsI .or .u32 r v → K x := by
  rintro x rfl
  rw [hv, hr, shl8_nat, or_byte hc hb]
  exact hk
noncomputable def FT : Fns := ((F0.plus 150 ctCell).over 113 hNext).every 113
theorem FT_ok : FnsOk Tryz.prog FT := (F0_ok.plus cell_ct Tryz.func150 (by kernel_rfl) (by kernel_rfl)).over next_ct Tryz.func113 (by kernel_rfl) (by kernel_rfl) |>.every _
theorem take_walk {H : List Blk} (hH : HOk H) {j : Nat} {d : DS} (hj : H[j]? = some (dcB d)) (hd : DOk d) (ha : 0 ≤ d.at' ∧ d.at' ≤ 100000000) (hg : 0 ≤ d.gone ∧ d.gone ≤ 100000000) {s w t : Int} (hc : cellP s w t) :
    walkr FT 0 Tryz.f117 [.c (.cp j 0), i64 s, i64 w, i64 t] H fun x H' => x = .w (.c (.ci .i64 0)) ∧ H' = H.set j (dcB (takeS d s w t)) := by
  obtain ⟨c0, c1, r0, r1⟩ := hd
  have hjl := (List.getElem?_eq_some_iff.1 hj).1
  have hset : ∀ b : Blk, (H.set j b)[j]? = some b := fun b => List.getElem?_set_self hjl
  have hcc := hc
  unfold cellP at hcc
  have hs := stepS_in ⟨c0, c1, r0, r1⟩ (t := t) (by omega) (by omega)
  have q1 := divu32 (by omega) r1 (show 1 ≤ t by omega)
  repeat' ((conv => whnf); first | (refine lenH_is ?_) | (refine ask_true (by omega) ?_) | (refine ask_false (by omega) ?_) | (refine ask_true hc ?_) | (refine And.intro rfl ?_) | (refine ask_wrap64 (by omega) (by omega) ?_) | (refine hGet_at hj ?_) | (refine ⟨by kernel_rfl, ?_⟩) | (refine maskB_as fun Hm hl hm => ?_) | (refine hGet_at (hm j _ hj (by simp)) ?_) | (refine ask_wrapu32 (by omega) (by omega) ?_) | fail)
  conv => whnf
  have m1 : 0 ≤ stepS d t * s ∧ stepS d t * s ≤ 4294967295 := by
    have := Int.mul_le_mul_of_nonneg_left (show s ≤ t by omega) (show 0 ≤ stepS d t by omega)
    exact ⟨Int.mul_nonneg (by omega) (by omega), by omega⟩
  have m2 : 512 ≤ stepS d t * w ∧ stepS d t * w ≤ 4294967295 := by
    have h1 := Int.mul_le_mul_of_nonneg_left (show w ≤ t by omega) (show 0 ≤ stepS d t by omega)
    have h2 := Int.mul_le_mul_of_nonneg_left (show 1 ≤ w by omega) (show 0 ≤ stepS d t by omega)
    omega
  refine And.intro (by omega) fun r hr => ?_
  obtain rfl : r = stepS d t := hr.trans q1.1
  repeat' ((conv => whnf); first | (refine lenH_is ?_) | (refine ask_true (by omega) ?_) | (refine ask_false (by omega) ?_) | (refine ask_true hc ?_) | (refine And.intro rfl ?_) | (refine ask_wrap64 (by omega) (by omega) ?_) | (refine hGet_at hj ?_) | (refine ⟨by kernel_rfl, ?_⟩) | (refine maskB_as fun Hm hl hm => ?_) | (refine hGet_at (hm j _ hj (by simp)) ?_) | (refine ask_wrapu32 (by omega) (by omega) ?_) | (refine hGet_at (hset _) ?_) | (refine hGet_at (hm j _ (hset _) (by simp)) ?_) | (refine setH_at ?_) | fail)
  conv => whnf
  refine fun c hc' => ?_
  repeat' ((conv => whnf); first | (refine lenH_is ?_) | (refine ask_true (by omega) ?_) | (refine ask_false (by omega) ?_) | (refine ask_true hc ?_) | (refine And.intro rfl ?_) | (refine ask_wrap64 (by omega) (by omega) ?_) | (refine hGet_at hj ?_) | (refine ⟨by kernel_rfl, ?_⟩) | (refine maskB_as fun Hm hl hm => ?_) | (refine hGet_at (hm j _ hj (by simp)) ?_) | (refine ask_wrapu32 (by omega) (by omega) ?_) | (refine hGet_at (hset _) ?_) | (refine hGet_at (hm j _ (hset _) (by simp)) ?_) | (refine setH_at ?_) | fail)
  conv => whnf
  have hcr : 0 ≤ c ∧ c ≤ 4294967295 := by
    have := inK_wrap .u32 (d.code - stepS d t * s)
    rw [← hc'] at this
    simp only [InK, lowK, highK] at this
    exact this
  have hbH : ∀ d' : DS, bndH (H.set j (dcB d')).length (H.set j (dcB d')) = true := fun d' => bndH_of fun b hb => by
    rw [List.length_set]
    rcases List.mem_or_eq_of_mem_set hb with h | h
    · exact hH.bnd b h
    · rw [h]; rfl
  have hlo : ∀ d' : DS, H.length ≤ (H.set j (dcB d')).length := fun d' => by rw [List.length_set]; exact Nat.le_refl _
  have d1 : ∀ d' : DS, decide (j < (H.set j (dcB d')).length) = true := fun d' => by simp [hjl]
  refine loop_at (List.range' 44 30) (fun m (e : DS) => (0 ≤ e.code ∧ e.code ≤ 4294967295) ∧ (1 ≤ e.rng ∧ e.rng ≤ 4294967295) ∧ 16777216 ≤ e.rng * 256 ^ m ∧ (0 ≤ e.at' ∧ e.at' ≤ 100000003 - m) ∧ (0 ≤ e.gone ∧ e.gone ≤ 100000003 - m) ∧ m ≤ 3 ∧ dnorm m e = takeS d s w t) (fun _ => []) (fun e => H.set j (dcB e)) 3 ⟨d.s, d.at', c, stepS d t * w, d.gone⟩ ⟨hcr, ⟨by show 1 ≤ stepS d t * w; omega, m2.2⟩, by show 16777216 ≤ stepS d t * w * 256 ^ 3; omega, by show 0 ≤ d.at' ∧ d.at' ≤ _; omega, by show 0 ≤ d.gone ∧ d.gone ≤ _; omega, Nat.le_refl _, by rw [takeS, ← hc']⟩ ?_ ?_
  · refine ⟨rfl, trivial, by rw [List.set_set]; exact wkH_refl _, ?_, hbH _, hlo _⟩
    repeat' (first | rfl | exact d1 _ | refine and_t ?_ ?_)
  · rintro m e ⟨e1, e2, e3, e4, e5, e6, e7⟩
    rcases Int.lt_or_le e.rng 16777216 with g | g
    · repeat' ((conv => whnf); first | (refine lenH_is ?_) | (refine ask_true (by omega) ?_) | (refine ask_false (by omega) ?_) | (refine ask_true hc ?_) | (refine And.intro rfl ?_) | (refine ask_wrap64 (by omega) (by omega) ?_) | (refine hGet_at hj ?_) | (refine ⟨by kernel_rfl, ?_⟩) | (refine maskB_as fun Hm hl hm => ?_) | (refine hGet_at (hm j _ hj (by simp)) ?_) | (refine ask_wrapu32 (by omega) (by omega) ?_) | (refine hGet_at (hset _) ?_) | (refine hGet_at (hm j _ (hset _) (by simp)) ?_) | (refine setH_at ?_) | fail)
      conv => whnf
      refine red_each (by kernel_rfl) ?_
      repeat' ((conv => whnf); first | (refine lenH_is ?_) | (refine ask_true (by omega) ?_) | (refine ask_false (by omega) ?_) | (refine And.intro rfl ?_) | (refine ask_wrap64 (by omega) (by omega) ?_) | (refine hGet_at (hset _) ?_) | fail)
      conv => whnf
      have hsl : ∀ b : Blk, (H.set j b).length = H.length := fun b => List.length_set
      refine ⟨?_, ?_, trivial⟩
      all_goals repeat' ((conv => whnf); first | (refine lenH_is ?_) | (refine And.intro (show (0 : Int) ≤ 8 by decide) (ask_shl8 (by omega) (by omega) ?_)) | (refine And.intro (show (0 : Int) ≤ 8 by decide) fun r hr => ?_) | (refine ask_or hr hv e1 (byteD_in _ _) ?_) | (refine ask_wrap64 (by omega) (by omega) ?_) | (refine ask_true (by omega) ?_) | (refine Exists.intro e (And.intro (hset _) (And.intro ⟨by omega, by omega⟩ fun v hv => ?_))) | (refine hGet_at (List.getElem?_set_self (by first | exact hjl | (simp only [List.length_set]; exact hjl))) ?_) | (refine setH_at ?_) | (refine And.intro ?_ trivial) | fail)
      all_goals
        have hb := byteD_in e.s e.at'
        cases m with
        | zero => exact absurd e3 (by rw [Int.pow_zero]; omega)
        | succ m =>
          refine ⟨m, ⟨e.s, e.at' + 1, (e.code * 256) % 4294967296 + byteD e.s e.at', e.rng * 256, e.gone + 1⟩, Nat.lt_succ_self _, ⟨by dsimp only; omega, by dsimp only; omega, ?_, by dsimp only; omega, by dsimp only; omega, by omega, ?_⟩, ⟨rfl, trivial, ?_, ?_, hbH _, hlo _⟩⟩
          · dsimp only
            rw [Int.pow_succ, Int.mul_comm (256 ^ m) 256, ← Int.mul_assoc] at e3
            exact e3
          · rw [← e7]
            simp only [dnorm]
            rw [if_pos g]
          · simp only [List.set_set]
            exact wkH_refl _
          · repeat' (first | rfl | exact d1 _ | refine and_t ?_ ?_)
    · repeat' ((conv => whnf); first | (refine lenH_is ?_) | (refine ask_true (by omega) ?_) | (refine ask_false (by omega) ?_) | (refine ask_true hc ?_) | (refine And.intro rfl ?_) | (refine ask_wrap64 (by omega) (by omega) ?_) | (refine hGet_at hj ?_) | (refine ⟨by kernel_rfl, ?_⟩) | (refine maskB_as fun Hm hl hm => ?_) | (refine hGet_at (hm j _ hj (by simp)) ?_) | (refine ask_wrapu32 (by omega) (by omega) ?_) | (refine hGet_at (hset _) ?_) | (refine hGet_at (hm j _ (hset _) (by simp)) ?_) | (refine setH_at ?_) | fail)
      have ee : dnorm m e = e := by
        cases m with
        | zero => rfl
        | succ m => simp only [dnorm]; rw [if_neg (by omega)]
      rw [← e7, ee]

theorem dnorm_ok : ∀ (m : Nat) (e : DS), (0 ≤ e.code ∧ e.code ≤ 4294967295) → (1 ≤ e.rng ∧ e.rng ≤ 4294967295) → 16777216 ≤ e.rng * 256 ^ m →
    DOk (dnorm m e) ∧ (e.at' ≤ (dnorm m e).at' ∧ (dnorm m e).at' ≤ e.at' + m) ∧ (e.gone ≤ (dnorm m e).gone ∧ (dnorm m e).gone ≤ e.gone + m) ∧ (dnorm m e).s = e.s
  | 0, e, h1, h2, h3 => by
    rw [Int.pow_zero] at h3
    exact ⟨⟨h1.1, h1.2, by show 16777216 ≤ e.rng; omega, h2.2⟩, ⟨by simp [dnorm], by simp [dnorm]⟩, ⟨by simp [dnorm], by simp [dnorm]⟩, rfl⟩
  | m + 1, e, h1, h2, h3 => by
    simp only [dnorm]
    split
    · rename_i g
      have hb := byteD_in e.s e.at'
      have h3' : 16777216 ≤ e.rng * 256 * 256 ^ m := by
        rw [Int.pow_succ, Int.mul_comm (256 ^ m) 256, ← Int.mul_assoc] at h3
        exact h3
      obtain ⟨q1, q2, q3, q4⟩ := dnorm_ok m ⟨e.s, e.at' + 1, (e.code * 256) % 4294967296 + byteD e.s e.at', e.rng * 256, e.gone + 1⟩ (by dsimp only; omega) (by dsimp only; omega) h3'
      simp only at q2 q3 q4
      exact ⟨q1, by omega, by omega, q4⟩
    · rename_i g
      exact ⟨⟨h1.1, h1.2, by omega, h2.2⟩, by omega, by omega, rfl⟩
theorem takeS_ok {d : DS} (hd : DOk d) {s w t : Int} (hc : cellP s w t) : DOk (takeS d s w t) ∧ (d.at' ≤ (takeS d s w t).at' ∧ (takeS d s w t).at' ≤ d.at' + 3) ∧ (d.gone ≤ (takeS d s w t).gone ∧ (takeS d s w t).gone ≤ d.gone + 3) ∧ (takeS d s w t).s = d.s := by
  unfold cellP at hc
  have hs := stepS_in hd (t := t) (by omega) (by omega)
  have r1 := hd.r1
  have hcr := inK_wrap .u32 (d.code - stepS d t * s)
  simp only [InK, lowK, highK] at hcr
  have m2 : 512 ≤ stepS d t * w ∧ stepS d t * w ≤ 4294967295 := by
    have h1 := Int.mul_le_mul_of_nonneg_left (show w ≤ t by omega) (show 0 ≤ stepS d t by omega)
    have h2 := Int.mul_le_mul_of_nonneg_left (show 1 ≤ w by omega) (show 0 ≤ stepS d t by omega)
    omega
  exact dnorm_ok 3 _ hcr ⟨by show 1 ≤ stepS d t * w; omega, m2.2⟩ (by show 16777216 ≤ stepS d t * w * 256 ^ 3; omega)
/-- The decoder behind a cell that is taken. -/
@[irreducible] noncomputable def tkS (d : DS) (s w t : Int) : DS := sealed takeS d s w t
theorem tkS_def (d : DS) (s w t : Int) : tkS d s w t = takeS d s w t := by unfold tkS; rw [sealed_eq]
structure TkOk (d d' : DS) (n : Int) : Prop where
  ok : DOk d'
  at0 : d.at' ≤ d'.at'
  at1 : d'.at' ≤ d.at' + n
  g0 : d.gone ≤ d'.gone
  g1 : d'.gone ≤ d.gone + n
  s : d'.s = d.s
theorem tkS_ok {d : DS} (hd : DOk d) {s w t : Int} (hc : cellP s w t) : TkOk d (tkS d s w t) 3 := by
  rw [tkS_def]
  obtain ⟨h1, h2, h3, h4⟩ := takeS_ok hd hc
  exact ⟨h1, h2.1, h2.2, h3.1, h3.2, h4⟩
/-- A decoder that is at work. -/
structure DIn (d : DS) (n : Int) : Prop where
  ok : DOk d
  a0 : 0 ≤ d.at'
  a1 : d.at' ≤ n
  g0 : 0 ≤ d.gone
  g1 : d.gone ≤ n
theorem DIn.take {d d' : DS} {n m : Int} (h : DIn d n) (k : TkOk d d' m) : DIn d' (n + m) := ⟨k.ok, Int.le_trans h.a0 k.at0, by have := k.at1; have := h.a1; omega, Int.le_trans h.g0 k.g0, by have := k.g1; have := h.g1; omega⟩
theorem DIn.mono {d : DS} {n m : Int} (h : DIn d n) (k : n ≤ m) : DIn d m := ⟨h.ok, h.a0, Int.le_trans h.a1 k, h.g0, Int.le_trans h.g1 k⟩
def hTake : HCt := fun ws H K => match ws with
  | [.c (.cp j 0), .c (.ci .i64 s), .c (.ci .i64 w), .c (.ci .i64 t)] => ∃ d : DS, H[j]? = some (dcB d) ∧ DIn d 100000000 ∧ cellP s w t ∧ ∀ d' : DS, d' = tkS d s w t → K (.w (.c (.ci .i64 0))) (H.set j (dcB d'))
  | _ => False
theorem take_ct : HCtOk Tryz.prog 117 hTake := by
  intro ws H K h hr hb ho G σ base w₀ w hw
  unfold hTake at h
  split at h
  · rename_i j s w' t
    obtain ⟨d, hj, hd, hc, hK⟩ := h
    exact heap_liftr FT_ok Tryz.func117 (n := 0) (ws := [.c (.cp j 0), i64 s, i64 w', i64 t]) ⟨trivial, hr.2.1, hr.2.2.1, hr.2.2.2.1, trivial⟩ (by
      have := (List.getElem?_eq_some_iff.1 hj).1
      show (decide (j < H.length) && (true && (true && (true && true)))) = true
      simp [this]) ho (take_walk ho hj hd.ok ⟨hd.a0, hd.a1⟩ ⟨hd.g0, hd.g1⟩ hc) (fun x H' hP => by
      obtain ⟨rfl, rfl⟩ := hP
      exact hK _ (tkS_def _ _ _ _).symm) G σ base w₀ w hw
  · exact h.elim
end R
end Go.Proofs.YtaficaacogcblaaGreatDoor
