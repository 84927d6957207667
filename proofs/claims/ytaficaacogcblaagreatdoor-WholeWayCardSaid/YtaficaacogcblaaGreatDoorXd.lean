/- Operations on cells: arithmetic, comparisons, conversions, equality of rows. -/
import Derived.Test.YtaficaacogcblaaGreatDoorXc
set_option linter.all false
namespace Go.Proofs.YtaficaacogcblaaGreatDoor
open Go.RowKit (Below)

/-! ### arithmetic -/

def bitsI (op : BinOp) (k : IntKind) (x y : Int) : Int :=
  let a := BitVec.ofInt k.bits x
  let b := BitVec.ofInt k.bits y
  match op with
  | .and => k.wrap (a &&& b).toNat
  | .or => k.wrap (a ||| b).toNat
  | .xor => k.wrap (a ^^^ b).toNat
  | _ => k.wrap (a &&& ~~~b).toNat

def kBin (op : BinOp) (x y : C) (K : C → Prop) : Prop :=
  match x, y with
  | .ci k a, .ci k' b =>
    match op with
    | .shl => 0 ≤ b ∧ ∀ r, r = k.wrap (a * 2 ^ (min b.toNat k.bits)) → K (.ci k r)
    | .shr => 0 ≤ b ∧ ∀ r, r = a.fdiv (2 ^ (min b.toNat k.bits)) → K (.ci k r)
    | _ => match sameK k k' with
      | false => False
      | true => match op with
        | .add => ∀ r, r = k.wrap (a + b) → K (.ci k r)
        | .sub => ∀ r, r = k.wrap (a - b) → K (.ci k r)
        | .mul => ∀ r, r = k.wrap (a * b) → K (.ci k r)
        | .quo => b ≠ 0 ∧ ∀ r, r = k.wrap (a.tdiv b) → K (.ci k r)
        | .rem => b ≠ 0 ∧ ∀ r, r = a.tmod b → K (.ci k r)
        | .eql => ∀ t, t = decide (a = b) → K (.cb t)
        | .neq => ∀ t, t = decide (a ≠ b) → K (.cb t)
        | .lss => ∀ t, t = decide (a < b) → K (.cb t)
        | .leq => ∀ t, t = decide (a ≤ b) → K (.cb t)
        | .gtr => ∀ t, t = decide (b < a) → K (.cb t)
        | .geq => ∀ t, t = decide (b ≤ a) → K (.cb t)
        | .and | .or | .xor | .andNot => ∀ r, r = bitsI op k a b → K (.ci k r)
        | _ => False
  | .cs a, .cs b =>
    match op with
    | .add => a.size + b.size ≤ 9223372036854775807 ∧ K (.cs (a ++ b))
    | .eql => ∀ t, t = decide (a = b) → K (.cb t)
    | .neq => ∀ t, t = decide (a ≠ b) → K (.cb t)
    | _ => False
  | _, _ => False

theorem toList_inj {a b : ByteArray} : a.toList = b.toList ↔ a = b := by
  constructor
  · intro h
    rw [ByteArray.toList_eq, ByteArray.toList_eq] at h
    cases a; cases b; simp at h; simp [h]
  · rintro rfl; rfl
theorem toList_beq (a b : ByteArray) : (a.toList == b.toList) = decide (a = b) := by
  rw [Bool.eq_iff_iff]; simp [toList_inj]

theorem shr_in {k : IntKind} {a : Int} (h : InK k a) (n : Nat) : InK k (a.fdiv (2 ^ n)) := by
  have hp : (0 : Int) < 2 ^ n := Int.pow_pos (by omega)
  rw [Int.fdiv_eq_ediv_of_nonneg _ (Int.le_of_lt hp)]
  have key : ∀ lo hi : Int, lo ≤ 0 → 0 ≤ hi → lo ≤ a → a ≤ hi → lo ≤ a / 2 ^ n ∧ a / 2 ^ n ≤ hi := fun lo hi h1 h2 h3 h4 => by
    have h1p : (1 : Int) ≤ 2 ^ n := hp
    constructor
    · refine (Int.le_ediv_iff_mul_le hp).2 ?_
      have : lo * 2 ^ n ≤ lo * 1 := Int.mul_le_mul_of_nonpos_left h1 h1p
      omega
    · rcases Int.lt_or_le a 0 with h | h
      · have : a / 2 ^ n < 0 := Int.ediv_neg_of_neg_of_pos h hp
        omega
      · have : a / 2 ^ n ≤ a := Int.ediv_le_self _ h
        omega
  exact key _ _ (by cases k <;> simp [lowK]) (by cases k <;> simp [highK]) h.1 h.2

theorem rem_in {k : IntKind} {a b : Int} (h : InK k a) (h0 : b ≠ 0) : InK k (a.tmod b) := by
  have h1 : lowK k ≤ 0 := by cases k <;> simp [lowK]
  have h2 : 0 ≤ highK k := by cases k <;> simp [highK]
  obtain ⟨h3, h4⟩ := h
  rcases Int.lt_or_le a 0 with hn | hp
  · have e : a.tmod b = -((-a).tmod b) := by rw [Int.neg_tmod]; omega
    have h5 := Int.tmod_nonneg b (show 0 ≤ -a by omega)
    have h6 : (-a).tmod b ≤ -a := by
      have := Int.tmod_add_mul_tdiv (-a) b
      have hq : 0 ≤ b * (-a).tdiv b := by
        rcases Int.lt_or_le b 0 with hb | hb
        · have : (-a).tdiv b ≤ 0 := Int.tdiv_nonpos_of_nonneg_of_nonpos (by omega) (by omega)
          exact Int.mul_nonneg_of_nonpos_of_nonpos (by omega) this
        · exact Int.mul_nonneg hb (Int.tdiv_nonneg (by omega) hb)
      omega
    constructor <;> omega
  · have h5 := Int.tmod_nonneg b hp
    have h6 : a.tmod b ≤ a := by
      have := Int.tmod_add_mul_tdiv a b
      have hq : 0 ≤ b * a.tdiv b := by
        rcases Int.lt_or_le b 0 with hb | hb
        · have : a.tdiv b ≤ 0 := Int.tdiv_nonpos_of_nonneg_of_nonpos hp (by omega)
          exact Int.mul_nonneg_of_nonpos_of_nonpos (by omega) this
        · exact Int.mul_nonneg hb (Int.tdiv_nonneg hp hb)
      omega
    constructor <;> omega

theorem beq_dec (a b : Int) : (a == b) = decide (a = b) := by rw [Bool.eq_iff_iff]; simp

theorem kBin_spec {op : BinOp} {x y : C} {K : C → Prop} (h : kBin op x y K) (hx : x.rng) :
    ∃ c : C, c.rng ∧ c.bnd 0 = true ∧ K c ∧ ∀ P t σ w, (binOp op t (x.den σ) (y.den σ)).run P w = .ok (c.den σ) w ∧ ∀ u v, (eqGuard op t u v (x.den σ) (y.den σ)).run P w = .ok () w := by
  have hgi : ∀ (P : Program) (t : TypeId) (w : World) (u v : Operand) (k : IntKind) (a : Int) (b : Value), (eqGuard op t u v (.int k a) b).run P w = .ok () w := by
    intro P t w u v k a b
    unfold eqGuard
    cases op <;> simp
  have hgs : ∀ (P : Program) (t : TypeId) (w : World) (u v : Operand) (a : ByteArray) (b : Value), (eqGuard op t u v (.string a) b).run P w = .ok () w := by
    intro P t w u v a b
    unfold eqGuard
    cases op <;> simp
  unfold kBin at h
  split at h
  · rename_i k a k' b
    have eg : ∀ (P : Program) (t : TypeId) (σ : Sg) (w : World), ∀ u v, (eqGuard op t u v ((C.ci k a).den σ) ((C.ci k' b).den σ)).run P w = .ok () w := fun P t σ w u v => hgi P t w u v _ _ _
    split at h
    · refine ⟨.ci k _, inK_wrap k _, rfl, h.2 _ rfl, fun P t σ w => ⟨?_, eg P t σ w⟩⟩
      simp [C.den, binOp, Op.shift, Int.not_lt.2 h.1]
    · refine ⟨.ci k _, shr_in hx _, rfl, h.2 _ rfl, fun P t σ w => ⟨?_, eg P t σ w⟩⟩
      simp [C.den, binOp, Op.shift, Int.not_lt.2 h.1]
    · split at h
      · exact h.elim
      · rename_i hk
        obtain rfl := sameK_eq hk
        split at h
        · exact ⟨.ci k _, inK_wrap k _, rfl, h _ rfl, fun P t σ w => ⟨by simp [C.den, binOp, Op.intArith], eg P t σ w⟩⟩
        · exact ⟨.ci k _, inK_wrap k _, rfl, h _ rfl, fun P t σ w => ⟨by simp [C.den, binOp, Op.intArith], eg P t σ w⟩⟩
        · exact ⟨.ci k _, inK_wrap k _, rfl, h _ rfl, fun P t σ w => ⟨by simp [C.den, binOp, Op.intArith], eg P t σ w⟩⟩
        · exact ⟨.ci k _, inK_wrap k _, rfl, h.2 _ rfl, fun P t σ w => ⟨by simp [C.den, binOp, Op.intDiv, h.1], eg P t σ w⟩⟩
        · exact ⟨.ci k _, rem_in hx h.1, rfl, h.2 _ rfl, fun P t σ w => ⟨by simp [C.den, binOp, Op.intDiv, h.1], eg P t σ w⟩⟩
        · exact ⟨.cb _, trivial, rfl, h _ rfl, fun P t σ w => ⟨by simp [C.den, binOp, Op.intCmp, beq_dec], eg P t σ w⟩⟩
        · exact ⟨.cb _, trivial, rfl, h _ rfl, fun P t σ w => ⟨by simp [C.den, binOp, Op.intCmp, bne, beq_dec], eg P t σ w⟩⟩
        · exact ⟨.cb _, trivial, rfl, h _ rfl, fun P t σ w => ⟨by simp [C.den, binOp, Op.intCmp], eg P t σ w⟩⟩
        · exact ⟨.cb _, trivial, rfl, h _ rfl, fun P t σ w => ⟨by simp [C.den, binOp, Op.intCmp], eg P t σ w⟩⟩
        · exact ⟨.cb _, trivial, rfl, h _ rfl, fun P t σ w => ⟨by simp [C.den, binOp, Op.intCmp], eg P t σ w⟩⟩
        · exact ⟨.cb _, trivial, rfl, h _ rfl, fun P t σ w => ⟨by simp [C.den, binOp, Op.intCmp], eg P t σ w⟩⟩
        · exact ⟨.ci k _, inK_wrap k _, rfl, h _ rfl, fun P t σ w => ⟨by simp [C.den, binOp, Op.intBits, bitsI], eg P t σ w⟩⟩
        · exact ⟨.ci k _, inK_wrap k _, rfl, h _ rfl, fun P t σ w => ⟨by simp [C.den, binOp, Op.intBits, bitsI], eg P t σ w⟩⟩
        · exact ⟨.ci k _, inK_wrap k _, rfl, h _ rfl, fun P t σ w => ⟨by simp [C.den, binOp, Op.intBits, bitsI], eg P t σ w⟩⟩
        · exact ⟨.ci k _, inK_wrap k _, rfl, h _ rfl, fun P t σ w => ⟨by simp [C.den, binOp, Op.intBits, bitsI], eg P t σ w⟩⟩
        · exact h.elim
  · rename_i a b
    have eg : ∀ (P : Program) (t : TypeId) (σ : Sg) (w : World), ∀ u v, (eqGuard op t u v ((C.cs a).den σ) ((C.cs b).den σ)).run P w = .ok () w := fun P t σ w u v => hgs P t w u v _ _
    split at h
    · refine ⟨.cs (a ++ b), by simpa [C.rng, ByteArray.size_append] using h.1, rfl, h.2, fun P t σ w => ⟨?_, eg P t σ w⟩⟩
      have : ¬ ((a.size + b.size : Nat) : Int) > IntKind.i64.max := by
        have := h.1
        simp [IntKind.max, IntKind.signed, IntKind.bits]; omega
      simp only [C.den, binOp, Op.stringOp, this, if_false, Sem.run_pure]
    · exact ⟨.cb _, trivial, rfl, h _ rfl, fun P t σ w => ⟨by simp [C.den, binOp, Op.stringOp, toList_beq], eg P t σ w⟩⟩
    · exact ⟨.cb _, trivial, rfl, h _ rfl, fun P t σ w => ⟨by simp [C.den, binOp, Op.stringOp, toList_beq], eg P t σ w⟩⟩
    · exact h.elim
  · exact h.elim

def kUn (op : UnOp) (x : C) (K : C → Prop) : Prop :=
  match op, x with
  | .neg, .ci k n => ∀ r, r = k.wrap (0 - n) → K (.ci k r)
  | .not, .cb t => K (.cb (!t))
  | .xor, .ci k n => ∀ r, r = bitsI .xor k (if k.signed then -1 else k.max) n → K (.ci k r)
  | _, _ => False
theorem kUn_spec {op : UnOp} {x : C} {K : C → Prop} (h : kUn op x K) : ∃ c : C, c.rng ∧ c.bnd 0 = true ∧ K c ∧ ∀ P σ w, (Op.unary op (x.den σ)).run P w = .ok (c.den σ) w := by
  unfold kUn at h
  split at h
  · exact ⟨.ci _ _, inK_wrap _ _, rfl, h _ rfl, fun P σ w => by simp [C.den, Op.unary, Op.intArith]⟩
  · exact ⟨.cb _, trivial, rfl, h, fun P σ w => by simp [C.den, Op.unary]⟩
  · exact ⟨.ci _ _, inK_wrap _ _, rfl, h _ rfl, fun P σ w => by simp [C.den, Op.unary, Op.intBits, bitsI]⟩
  · exact h.elim

/-- A number of another kind. -/
def kConv (P : Program) (s d : TypeId) (x : C) (K : C → Prop) : Prop :=
  match tyOf P d, x with
  | .int k, .ci _ n => match P.underlying s with
    | some _ => ∀ r, r = k.wrap n → K (.ci k r)
    | none => False
  | _, _ => False
theorem kConv_spec {P : Program} {s d : TypeId} {x : C} {K : C → Prop} (h : kConv P s d x K) : ∃ c : C, c.rng ∧ c.bnd 0 = true ∧ K c ∧ ∀ σ w, (convert s d (x.den σ)).run P w = .ok (c.den σ) w := by
  unfold kConv at h
  split at h
  · rename_i k _ n ht
    split at h
    · rename_i u hs
      refine ⟨.ci k _, inK_wrap k n, rfl, h _ rfl, fun σ w => ?_⟩
      simp [C.den, convert, run_und w hs, run_und w (tyOf_int ht), Conv.intToInt]
    · exact h.elim
  · exact h.elim

/-! ### equality of rows -/
inductive K0 where
  | i (k : IntKind) | s
def cellIs : K0 → Value → Prop
  | .i k, .int k' _ => k = k'
  | .s, .string _ => True
  | _, _ => False
def shaped : List K0 → List Value → Prop
  | [], [] => True
  | k :: ks, v :: vs => cellIs k v ∧ shaped ks vs
  | _, _ => False

/-- Rows of that type are compared cell by cell. -/
def EqOk (P : Program) (t : TypeId) (ks : List K0) : Prop :=
  ∀ X Y : List Value, shaped ks X → shaped ks Y → ∀ w, (∃ r : Bool, (Op.equal t (.agg X.toArray) (.agg Y.toArray)).run P w = .ok r w ∧ (r = true ↔ X = Y)) ∧
    ∀ op u v, (eqGuard op t u v (.agg X.toArray) (.agg Y.toArray)).run P w = .ok () w

/-- Two rows alike in make: their kinds, and whether they hold the same. -/
def segsEq : List Seg → List Seg → (List K0 → Bool → Prop) → Prop
  | [], t, K => match t with
    | [] => K [] true
    | _ => False
  | .one (.ci k a) :: s, t, K => match t with
    | .one (.ci k' b) :: t => match sameK k k' with
      | true => segsEq s t fun ks r => K (.i k :: ks) (decide (a = b) && r)
      | false => False
    | _ => False
  | .one (.cs a) :: s, t, K => match t with
    | .one (.cs b) :: t => segsEq s t fun ks r => K (.s :: ks) (decide (a = b) && r)
    | _ => False
  | .one _ :: _, _, _ => False
  | .ints k n xs :: s, t, K => match t with
    | .ints k' m ys :: t => match sameK k k', Nat.beq n m with
      | true, true => segsEq s t fun ks r => K (List.replicate n (.i k) ++ ks) (decide (xs = ys) && r)
      | _, _ => False
    | _ => False

theorem shaped_append : ∀ {a b : List K0} {x y : List Value}, shaped a x → shaped b y → shaped (a ++ b) (x ++ y)
  | [], _, [], _, _, h => h
  | _ :: _, _, _ :: _, _, h, k => ⟨h.1, shaped_append h.2 k⟩
  | [], _, _ :: _, _, h, _ => h.elim
  | _ :: _, _, [], _, h, _ => h.elim
theorem shaped_ints (k : IntKind) : ∀ xs : List Int, shaped (List.replicate xs.length (.i k)) (xs.map (Value.int k))
  | [] => trivial
  | _ :: xs => ⟨rfl, shaped_ints k xs⟩
theorem map_int_inj {k : IntKind} : ∀ {xs ys : List Int}, xs.map (Value.int k) = ys.map (Value.int k) → xs = ys
  | [], [], _ => rfl
  | [], _ :: _, h => by simp at h
  | _ :: _, [], h => by simp at h
  | x :: xs, y :: ys, h => by simp at h; rw [h.1, map_int_inj h.2]

theorem segsEq_spec : ∀ {s t : List Seg} {K : List K0 → Bool → Prop}, segsEq s t K → rngs s → rngs t → ∃ ks r, K ks r ∧ ∀ σ, shaped ks (dens σ s) ∧ shaped ks (dens σ t) ∧ (r = true ↔ dens σ s = dens σ t)
  | [], [], K, h, _, _ => ⟨[], true, h, fun σ => ⟨trivial, trivial, by simp [dens]⟩⟩
  | [], _ :: _, K, h, _, _ => h.elim
  | .one (.ci k a) :: s, t, K, h, hs, ht => by
    simp only [segsEq] at h
    split at h
    · rename_i k' b t
      split at h
      · rename_i hk
        obtain rfl := sameK_eq hk
        obtain ⟨ks, r, h1, h2⟩ := segsEq_spec h hs.2 ht.2
        refine ⟨_, _, h1, fun σ => ?_⟩
        obtain ⟨h3, h4, h5⟩ := h2 σ
        refine ⟨⟨rfl, h3⟩, ⟨rfl, h4⟩, ?_⟩
        simp [dens, Seg.den, C.den, h5]
      · exact h.elim
    · exact h.elim
  | .one (.cs a) :: s, t, K, h, hs, ht => by
    simp only [segsEq] at h
    split at h
    · rename_i b t
      obtain ⟨ks, r, h1, h2⟩ := segsEq_spec h hs.2 ht.2
      refine ⟨_, _, h1, fun σ => ?_⟩
      obtain ⟨h3, h4, h5⟩ := h2 σ
      refine ⟨⟨trivial, h3⟩, ⟨trivial, h4⟩, ?_⟩
      simp [dens, Seg.den, C.den, h5]
    · exact h.elim
  | .one (.cb _) :: _, _, _, h, _, _ | .one (.cp _ _) :: _, _, _, h, _, _ | .one (.cpi _ _ _) :: _, _, _, h, _, _ | .one .cnil :: _, _, _, h, _, _ | .one (.cg _ _) :: _, _, _, h, _, _ | .one (.cgi _ _ _) :: _, _, _, h, _, _
  | .one (.csl _ _ _ _ _) :: _, _, _, h, _, _ | .one .csn :: _, _, _, h, _, _ | .one (.cm _) :: _, _, _, h, _, _ | .one (.cf _ _) :: _, _, _, h, _, _ | .one (.cv _) :: _, _, _, h, _, _ | .one (.cmv _ _ _) :: _, _, _, h, _, _ => h.elim
  | .ints k n xs :: s, t, K, h, hs, ht => by
    simp only [segsEq] at h
    split at h
    · rename_i k' m ys t
      split at h
      · rename_i hk hn
        obtain rfl := sameK_eq hk
        obtain rfl := Nat.eq_of_beq_eq_true hn
        obtain ⟨ks, r, h1, h2⟩ := segsEq_spec h hs.2 ht.2
        refine ⟨_, _, h1, fun σ => ?_⟩
        obtain ⟨h3, h4, h5⟩ := h2 σ
        have hl := hs.1.1
        have hl' := ht.1.1
        refine ⟨shaped_append ?_ h3, shaped_append ?_ h4, ?_⟩
        · rw [← hl]; exact shaped_ints k xs
        · rw [← hl']; exact shaped_ints k ys
        · simp only [Bool.and_eq_true, decide_eq_true_eq, h5, dens, Seg.den]
          constructor
          · rintro ⟨rfl, e⟩; rw [e]
          · intro e
            have hll : (xs.map (Value.int k)).length = (ys.map (Value.int k)).length := by simp; omega
            obtain ⟨e1, e2⟩ := List.append_inj e hll
            exact ⟨map_int_inj e1, e2⟩
      · exact h.elim
    · exact h.elim

def sameK0 : List K0 → List K0 → Bool
  | [], [] => true
  | .i k :: a, .i k' :: b => sameK k k' && sameK0 a b
  | .s :: a, .s :: b => sameK0 a b
  | _, _ => false
theorem sameK0_eq : ∀ {a b : List K0}, sameK0 a b = true → a = b
  | [], [], _ => rfl
  | .i k :: a, .i k' :: b, h => by simp only [sameK0, Bool.and_eq_true] at h; rw [sameK_eq h.1, sameK0_eq h.2]
  | .s :: a, .s :: b, h => by simp only [sameK0] at h; rw [sameK0_eq h]
  | [], _ :: _, h => by cases h
  | .i _ :: _, [], h => by cases h
  | .s :: _, [], h => by cases h
  | .i _ :: _, .s :: _, h => by cases h
  | .s :: _, .i _ :: _, h => by cases h

abbrev Eqs := TypeId → Option (List K0)

def kEq (EQ : Eqs) (neg : Bool) (t : TypeId) (a b : List Seg) (K : C → Prop) : Prop :=
  match EQ t with
  | none => False
  | some ks => segsEq a b fun ks' r => match sameK0 ks ks' with
    | true => ∀ τ, τ = (neg ^^ r) → K (.cb τ)
    | false => False
theorem kEq_spec {P : Program} {EQ : Eqs} (hE : ∀ t ks, EQ t = some ks → EqOk P t ks) {neg : Bool} {t : TypeId} {a b : List Seg} {K : C → Prop} (h : kEq EQ neg t a b K) (ha : rngs a) (hb : rngs b) :
    ∃ c : C, c.rng ∧ c.bnd 0 = true ∧ K c ∧ ∀ σ w, (binOp (if neg then .neq else .eql) t ((W.agg a).den σ) ((W.agg b).den σ)).run P w = .ok (c.den σ) w ∧ ∀ op u v, (eqGuard op t u v ((W.agg a).den σ) ((W.agg b).den σ)).run P w = .ok () w := by
  unfold kEq at h
  split at h
  · exact h.elim
  · rename_i ks hks
    obtain ⟨ks', r, h1, h2⟩ := segsEq_spec h ha hb
    split at h1
    · rename_i hs
      obtain rfl := sameK0_eq hs
      refine ⟨.cb _, trivial, rfl, h1 _ rfl, fun σ w => ?_⟩
      obtain ⟨h3, h4, h5⟩ := h2 σ
      obtain ⟨⟨r', h6, h7⟩, h8⟩ := hE t ks hks _ _ h3 h4 w
      have hrr : r' = r := by rw [Bool.eq_iff_iff, h7, h5]
      subst hrr
      refine ⟨?_, h8⟩
      cases neg <;> simp [W.den, C.den, binOp, h6]
    · exact h1.elim

end Go.Proofs.YtaficaacogcblaaGreatDoor
