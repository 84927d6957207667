/- Regions whose order is open: the calculus' step, and its soundness. -/
import Derived.Test.YtaficaacogcblaaGreatDoorXm
set_option linter.all false
namespace Go.Proofs.YtaficaacogcblaaGreatDoor
open Go.RowKit (Below)
variable {Df : List Deferred}

inductive EffD where
  | none
  | new (j : Nat) (T : TypeId) (ss : List Seg)
  | set (j : Nat) (T : TypeId) (ss : List Seg)
def EffD.wr : EffD → Option (Nat × Blk)
  | .none => Option.none
  | .new j T ss => some (j, .own T ss)
  | .set j T ss => some (j, .own T ss)
def EffD.fresh : EffD → Option Nat
  | .new j _ _ => some j
  | _ => Option.none
structure DEff where
  dst : Option Nat
  x : V
  e : EffD
  foot : List Nat
def DEff.fu (d : DEff) : Option (Nat × V) := match d.dst with | some s => some (s, d.x) | none => none
def DEff.wu (d : DEff) : Option (Nat × Blk) := d.e.wr

def bound (ops : Array Oper) (i p : Nat) : Bool := match ops[i]? with
  | some o => o.after.any fun e => Region.binds .any e && e.on == p
  | none => false

/-- Does what p does bear on i? -/
def clash (ops : Array Oper) (oi : Oper) (dp di : DEff) : Bool :=
  (match dp.dst with
   | some s => (oi.looksAt ops).contains s || di.dst == some s
   | none => false) ||
  (match dp.e.wr with
   | some (j, _) => di.foot.contains j || (match di.e.wr with | some (j', _) => j' == j | none => false)
   | none => false)
/-- Does it name this block? -/
def names (j : Nat) (d : DEff) : Bool :=
  !(d.x.on (fun k => k != j)) || (match d.e.wr with | some (_, b) => !(b.on (fun k => k != j)) | none => false)

def chkAt (ops : Array Oper) (effs : List DEff) (i : Nat) (o : Oper) (d : DEff) : Bool :=
  (o.after.all fun e => !(Region.binds .any e) || Nat.blt e.on i) &&
  (effs.zipIdx.all fun (dp, p) => p == i || bound ops i p || bound ops p i || !(clash ops o dp d)) &&
  (effs.zipIdx.all fun (dp, p) => p == i || bound ops i p || (match dp.e.fresh with | some j => !(names j d) | none => true))
def chk (ops : Array Oper) (effs : List DEff) : Bool :=
  effs.zipIdx.all fun (d, i) => match ops[i]? with | some o => chkAt ops effs i o d | none => false

/-- What one operation is known to do, from a masked state. -/
def SF (Df : List Deferred) (P : Program) (E : Env) (ops : Array Oper) (i : Nat) (o : Oper) (frm : List V) (Hm : List Blk) (d : DEff) : Prop :=
  ∀ σ a base w₀ w, FRep Df σ a frm → Rep E.G σ base w₀ w Hm → ∀ (N : Act → World → Prop) (Q : Exit → Act → World → Prop),
    (match d.e with
     | .none => ∀ v w', d.x.rep σ v → Below w.heap.size w w' → N (a.put o.dst v) w'
     | .new j T ss => ∀ v, d.x.rep (σ.upd j (w.heap.size, 0)) v → N (a.put o.dst v) (w.alloc (.cells (dens σ ss).toArray T))
     | .set j T ss => d.x = undefV → (∃ s₀, Hm[j]? = some (.own T s₀)) → N (a.put o.dst undef) (w.setRow (σ j).1 (dens σ ss).toArray)) → wpOp P ops Q i N a w

def runF (pre : List DEff) (fr : List V) : List V := pre.foldl (fun l d => upd1 true d.fu l) fr
def runH (pre : List DEff) (H : List Blk) : List Blk := pre.foldl (fun l d => upd1 true d.wu l) H

theorem upds_runF (effs : List DEff) (i : Nat) (fr : List V) : upds (effs.map DEff.fu) 0 (fun p => decide (p < i)) fr = runF (effs.take i) fr := by
  rw [upds_lt, Nat.sub_zero, ← List.map_take, List.foldl_map]; rfl
theorem upds_runH (effs : List DEff) (i : Nat) (H : List Blk) : upds (effs.map DEff.wu) 0 (fun p => decide (p < i)) H = runH (effs.take i) H := by
  rw [upds_lt, Nat.sub_zero, ← List.map_take, List.foldl_map]; rfl

/-- What is known of operation i: the region's start 'fr₀, H₀', n₀ names ahead of it, 'pre': what the text has ahead of i. -/
structure Fact (Df : List Deferred) (P : Program) (E : Env) (ops : Array Oper) (n₀ : Nat) (fr₀ : List V) (H₀ : List Blk) (pre : List DEff) (i : Nat) (d : DEff) : Prop where
  op : ∃ o, ops[i]? = some o ∧ o.dst = d.dst ∧ ∃ frm Hm, frm.length = fr₀.length ∧
    (∀ (s : Nat) (x : V), frm[s]? = some x → x = .any ∨ (s ∈ o.looksAt ops ∧ (runF pre fr₀)[s]? = some x)) ∧
    (∀ (j : Nat) (b : Blk), Hm[j]? = some b → b = .gone ∨ (j ∈ d.foot ∧ (runH pre H₀)[j]? = some b)) ∧ SF Df P E ops i o frm Hm d
  new : ∀ j T ss, d.e = .new j T ss → n₀ ≤ j ∧ (runH pre H₀)[j]? = some .gone ∧ ons (fun k => k != j) ss = true
  set : ∀ j T ss, d.e = .set j T ss → True

section
variable {P : Program} {E : Env} {ops : Array Oper} {n₀ : Nat} {fr₀ : List V} {H₀ : List Blk} {effs : List DEff} {σ₀ : Sg} {base : Nat} {w₀ : World}

def Good (Df : List Deferred) (E : Env) (n₀ : Nat) (fr₀ : List V) (H₀ : List Blk) (effs : List DEff) (σ₀ : Sg) (base : Nat) (w₀ : World) (D : Nat → Bool) (a : Act) (w : World) : Prop :=
  ∃ σ, Sg.agree n₀ σ₀ σ ∧ FRep Df σ a (upds (effs.map DEff.fu) 0 D fr₀) ∧ Rep E.G σ base w₀ w (upds (effs.map DEff.wu) 0 D H₀)

theorem chk_spec (hc : chk ops effs = true) {i : Nat} {d : DEff} (hd : effs[i]? = some d) {o : Oper} (ho : ops[i]? = some o) :
    (∀ p, bound ops i p = true → p < i) ∧
    (∀ p dp, effs[p]? = some dp → p ≠ i → clash ops o dp d = true → bound ops i p = true ∨ bound ops p i = true) ∧
    (∀ p dp, effs[p]? = some dp → p ≠ i → ∀ j, dp.e.fresh = some j → names j d = true → bound ops i p = true) := by
  have h1 := List.all_eq_true.1 hc (d, i) (List.mem_zipIdx_iff_getElem?.2 (by simpa using hd))
  simp only [ho, chkAt, Bool.and_eq_true] at h1
  obtain ⟨⟨h2, h3⟩, h4⟩ := h1
  refine ⟨fun p hp => ?_, fun p dp hdp hne hcl => ?_, fun p dp hdp hne j hj hn => ?_⟩
  · simp only [bound, ho] at hp
    rw [Array.any_eq_true'] at hp
    obtain ⟨e, he, hb⟩ := hp
    simp only [Bool.and_eq_true, beq_iff_eq] at hb
    have := Array.all_eq_true'.1 h2 e he
    simp only [hb.1, Bool.not_true, Bool.false_or, Nat.blt_eq] at this
    rw [← hb.2]; exact this
  · have := List.all_eq_true.1 h3 (dp, p) (List.mem_zipIdx_iff_getElem?.2 (by simpa using hdp))
    have hne' : (p == i) = false := by simpa using hne
    simp only [hne', hcl, Bool.false_or, Bool.not_true, Bool.or_false, Bool.or_eq_true] at this
    exact this
  · have := List.all_eq_true.1 h4 (dp, p) (List.mem_zipIdx_iff_getElem?.2 (by simpa using hdp))
    have hne' : (p == i) = false := by simpa using hne
    simp only [hne', hj, hn, Bool.false_or, Bool.not_true, Bool.or_false] at this
    exact this

theorem good_step (hc : chk ops effs = true) (hfr : ∀ x ∈ fr₀, x.bnd n₀ = true) (hH : ∀ b ∈ H₀, b.bnd n₀ = true) {i : Nat} {d : DEff} (hd : effs[i]? = some d)
    (hF : Fact Df P E ops n₀ fr₀ H₀ (effs.take i) i d) {D : Nat → Bool} (hDn : ∀ p, D p = true → p < effs.length) (hcl : ∀ q p, D q = true → bound ops q p = true → D p = true) (hi : D i = false) (hready : ∀ p, bound ops i p = true → D p = true)
    {a : Act} {w : World} (hg : Good Df E n₀ fr₀ H₀ effs σ₀ base w₀ D a w) {Q : Exit → Act → World → Prop} :
    wpOp P ops Q i (Good Df E n₀ fr₀ H₀ effs σ₀ base w₀ (fun p => p == i || D p)) a w := by
  obtain ⟨σ, g1, g2, g3⟩ := hg
  obtain ⟨o, ho, hdst, frm, Hm, hlen, hfm, hHm, hSF⟩ := hF.op
  obtain ⟨c1, c2, c3⟩ := chk_spec hc hd ho
  -- whoever bears on i has come just if the text has it ahead of i
  have same : ∀ (p : Nat) (dp : DEff), effs[p]? = some dp → p ≠ i → clash ops o dp d = true → decide (p < i) = D p := fun p dp hdp hne hc' => by
    rcases c2 p dp hdp hne hc' with h | h
    · rw [hready p h, decide_eq_true (c1 p h)]
    · have hop : ∃ op, ops[p]? = some op := by
        unfold bound at h
        cases hop : ops[p]? with
        | none => rw [hop] at h; cases h
        | some op => exact ⟨op, rfl⟩
      obtain ⟨op, hop⟩ := hop
      have := (chk_spec hc hdp hop).1 i h
      have hDp : D p = false := by
        cases hDp : D p with
        | false => rfl
        | true => rw [hcl p i hDp h] at hi; cases hi
      rw [hDp, decide_eq_false (by omega)]
  have later : ∀ (p : Nat) (dp : DEff), effs[p]? = some dp → i < p → clash ops o dp d = true → D p = false := fun p dp hdp hlt hc' => by
    rw [← same p dp hdp (by omega) hc', decide_eq_false (by omega)]
  have fuc : ∀ (p s : Nat) (v : V), (effs.map DEff.fu)[p]? = some (some (s, v)) → ∃ dp, effs[p]? = some dp ∧ dp.dst = some s ∧ dp.x = v := fun p s v h => by
    rw [List.getElem?_map] at h
    cases hp : effs[p]? with
    | none => rw [hp] at h; cases h
    | some dp =>
      rw [hp] at h
      simp only [Option.map_some, Option.some.injEq, DEff.fu] at h
      split at h
      · rename_i s' hs'
        simp at h
        exact ⟨dp, rfl, by rw [hs', h.1], h.2⟩
      · cases h
  have wuc : ∀ (p j : Nat) (b : Blk), (effs.map DEff.wu)[p]? = some (some (j, b)) → ∃ dp, effs[p]? = some dp ∧ dp.e.wr = some (j, b) := fun p j b h => by
    rw [List.getElem?_map] at h
    cases hp : effs[p]? with
    | none => rw [hp] at h; cases h
    | some dp => rw [hp] at h; simp only [Option.map_some, Option.some.injEq, DEff.wu] at h; exact ⟨dp, rfl, h⟩
  -- the masked state is told of the state as it is
  have r1 : FRep Df σ a frm := by
    refine g2.weak' (by rw [hlen, upds_length]) fun s x hx => ?_
    rcases hfm s x hx with h | ⟨h1, h2⟩
    · exact .inl h
    · refine .inr ?_
      rw [← upds_runF] at h2
      rw [← h2]
      refine (upds_congr _ 0 _ _ _ _ rfl fun p v hp => ?_).symm
      obtain ⟨dp, q1, q2, q3⟩ := fuc p s v hp
      rw [Nat.zero_add]
      by_cases hpi : p = i
      · subst hpi; rw [hi, decide_eq_false (Nat.lt_irrefl _)]
      · exact same p dp q1 hpi (by simp only [clash, q2]; rw [List.contains_iff_mem.2 h1]; rfl)
  have memE : ∀ (j : Nat), (j ∈ d.foot ∨ ∃ b, d.e.wr = some (j, b)) → (upds (effs.map DEff.wu) 0 D H₀)[j]? = (runH (effs.take i) H₀)[j]? := fun j hj => by
    rw [← upds_runH]
    refine (upds_congr _ 0 _ _ _ _ rfl fun p v hp => ?_).symm
    obtain ⟨dp, q1, q2⟩ := wuc p j v hp
    rw [Nat.zero_add]
    by_cases hpi : p = i
    · subst hpi; rw [hi, decide_eq_false (Nat.lt_irrefl _)]
    · refine same p dp q1 hpi ?_
      simp only [clash, q2]
      rcases hj with h | ⟨b, h⟩
      · rw [List.contains_iff_mem.2 h]; simp
      · rw [h]; simp
  have r2 : Rep E.G σ base w₀ w Hm := by
    refine g3.weak' fun j b hb => ?_
    rcases hHm j b hb with h | ⟨h1, h2⟩
    · exact .inl h
    · exact .inr (by rw [memE j (.inl h1)]; exact h2)
  -- the frame behind it
  have addF : ∀ (τ : Sg) (v : Value), FRep Df τ a (upds (effs.map DEff.fu) 0 D fr₀) → d.x.rep τ v → FRep Df τ (a.put o.dst v) (upds (effs.map DEff.fu) 0 (fun p => p == i || D p) fr₀) := fun τ v h1 h2 => by
    have hu : (effs.map DEff.fu)[i - 0]? = some d.fu := by simp [hd]
    rw [upds_add i d.fu _ 0 D fr₀ (Nat.zero_le _) hu hi (fun p s v w hs hp hpw => by
      obtain ⟨dp, q1, q2, q3⟩ := fuc p s w (by simpa using hpw)
      refine later p dp q1 hp ?_
      have hds : d.dst = some s := by
        unfold DEff.fu at hs
        split at hs
        · simp at hs; rename_i s' hs'; rw [hs', hs.1]
        · cases hs
      simp only [clash, q2, hds]; simp)]
    have h3 := h1.put (d := o.dst) h2
    rw [hdst] at h3 ⊢
    unfold DEff.fu
    cases hds : d.dst with
    | none => rw [hds] at h3; exact h3
    | some s => rw [hds] at h3; exact h3
  have huw : (effs.map DEff.wu)[i - 0]? = some d.wu := by simp [hd]
  have addH : upds (effs.map DEff.wu) 0 (fun p => p == i || D p) H₀ = upd1 true d.e.wr (upds (effs.map DEff.wu) 0 D H₀) :=
    upds_add i d.wu _ 0 D H₀ (Nat.zero_le _) huw hi (fun p s v w hs hp hpw => by
      obtain ⟨dp, q1, q2⟩ := wuc p s w (by simpa using hpw)
      refine later p dp q1 hp ?_
      simp only [DEff.wu] at hs
      simp only [clash, q2, hs]; simp)
  refine hSF σ a base w₀ w r1 r2 _ Q ?_
  cases he : d.e with
  | none =>
    intro v w' hv hb
    rw [he] at addH
    refine ⟨σ, g1, addF σ v g2 hv, ?_⟩
    rw [addH]
    exact g3.later hb
  | new j T ss =>
    intro v hv
    rw [he] at addH
    obtain ⟨n1, n2, n3⟩ := hF.new j T ss he
    have hav : ∀ (p : Nat) (dp : DEff), effs[p]? = some dp → D p = true → names j dp = false := fun p dp hdp hDp => by
      cases hn : names j dp with
      | false => rfl
      | true =>
        have hop : ∃ op, ops[p]? = some op := by
          have := List.all_eq_true.1 hc (dp, p) (List.mem_zipIdx_iff_getElem?.2 (by simpa using hdp))
          cases hop : ops[p]? with
          | none => simp [hop] at this
          | some op => exact ⟨op, rfl⟩
        obtain ⟨op, hop⟩ := hop
        have hne : i ≠ p := fun e => by subst e; rw [hi] at hDp; cases hDp
        have hb := (chk_spec hc hdp hop).2.2 i d hd hne j (by simp only [he, EffD.fresh]) hn
        rw [hcl p i hDp hb] at hi
        cases hi
    have hlt : ∀ k, k < n₀ → (k != j) = true := fun k hk => by simp; omega
    have hon : Sg.onA (fun k => k != j) σ (σ.upd j (w.heap.size, 0)) := fun k hk => by
      have : k ≠ j := by simpa using hk
      simp only [Sg.upd, if_neg this]
    have frOn : ∀ x ∈ upds (effs.map DEff.fu) 0 D fr₀, x.on (fun k => k != j) = true := fun x hx => by
      rcases upds_mem _ 0 D fr₀ hx with h | ⟨p, s, h1, h2⟩
      · exact V.on_of hlt x (hfr x h)
      · obtain ⟨dp, q1, q2, q3⟩ := fuc p s x h1
        have := hav p dp q1 (by simpa using h2)
        unfold names at this
        simp only [Bool.or_eq_false_iff, Bool.not_eq_false'] at this
        rw [← q3]; exact this.1
    have HOn : ∀ b ∈ upds (effs.map DEff.wu) 0 D H₀, b.on (fun k => k != j) = true := fun b hb => by
      rcases upds_mem _ 0 D H₀ hb with h | ⟨p, s, h1, h2⟩
      · exact Blk.on_of hlt b (hH b h)
      · obtain ⟨dp, q1, q2⟩ := wuc p s b h1
        have := hav p dp q1 (by simpa using h2)
        unfold names at this
        simp only [Bool.or_eq_false_iff, q2, Bool.not_eq_false'] at this
        exact this.2
    have hgone : (upds (effs.map DEff.wu) 0 D H₀)[j]? = some .gone := by rw [memE j (.inr ⟨_, by rw [he]; rfl⟩)]; exact n2
    refine ⟨σ.upd j (w.heap.size, 0), fun k hk => (g1 k hk).trans (hon k (hlt k hk)), addF _ v (g2.on hon frOn) hv, ?_⟩
    rw [addH]
    refine g3.fill hgone HOn _ (.own T ss) ?_
    refine ⟨by rw [Sg.upd_self], by rw [Sg.upd_self]; exact Nat.le_trans g3.size g3.below.size, ?_⟩
    rw [Sg.upd_self, ← dens_on hon ss n3]
    show (w.heap.push _)[w.heap.size]? = _
    simp
  | set j T ss =>
    intro hx hs
    rw [he] at addH
    obtain ⟨s₀, hs₀⟩ := hs
    have hj : (upds (effs.map DEff.wu) 0 D H₀)[j]? = some (.own T s₀) := by
      rcases hHm j _ hs₀ with h | ⟨h1, h2⟩
      · cases h
      · rw [memE j (.inl h1)]; exact h2
    have hb := g3.blk j _ hj
    refine ⟨σ, g1, addF σ undef g2 (by rw [hx]; exact undefV_rep σ), ?_⟩
    rw [addH]
    refine g3.set hj rfl (fun k hk => ?_) (by simp) rfl rfl rfl rfl ⟨hb.1, hb.2.1, ?_⟩
    · simp only [World.setRow, Array.getElem?_modify]; rw [if_neg (Ne.symm hk)]
    · exact setRow_heap w (σ j).1 _ _ T _ hb.2.2

/-- Every order, from whatever has come so far. -/
theorem good_any (hc : chk ops effs = true) (hfr : ∀ x ∈ fr₀, x.bnd n₀ = true) (hH : ∀ b ∈ H₀, b.bnd n₀ = true) (hlen : effs.length = ops.size)
    (hF : ∀ i d, effs[i]? = some d → Fact Df P E ops n₀ fr₀ H₀ (effs.take i) i d) {Q : Exit → Act → World → Prop}
    (fin : ∀ a w, Good Df E n₀ fr₀ H₀ effs σ₀ base w₀ (fun p => decide (p < ops.size)) a w → Q .normal a w) :
    ∀ (fuel : Nat) (listed : Array Bool), listed.size = ops.size → listed.toList.count false = fuel → (∀ q p, listed.getD q false = true → bound ops q p = true → listed.getD p false = true) →
      ∀ a w, Good Df E n₀ fr₀ H₀ effs σ₀ base w₀ (fun p => listed.getD p false) a w → wpAny P .any ops Q fuel listed a w := by
  have edges : ∀ i o, ops[i]? = some o → ∀ e ∈ o.after, Region.binds .any e = true → bound ops i e.on = true := fun i o ho e he hb => by
    simp only [bound, ho]
    rw [Array.any_eq_true']
    exact ⟨e, he, by simp [hb]⟩
  have hd : ∀ i, i < ops.size → ∃ d o, effs[i]? = some d ∧ ops[i]? = some o := fun i hi => ⟨effs[i], ops[i], List.getElem?_eq_getElem (by omega), Array.getElem?_eq_getElem hi⟩
  -- if someone is left, someone is ready
  have someone : ∀ listed : Array Bool, listed.size = ops.size → Region.ready .any ops listed = [] → ∀ i, i < ops.size → listed.getD i false = true := fun listed hs hr i => by
    induction i using Nat.strongRecOn with
    | _ i ih =>
      intro hi
      cases hl : listed.getD i false with
      | true => rfl
      | false =>
        obtain ⟨d, o, h1, h2⟩ := hd i hi
        have : i ∈ Region.ready .any ops listed := by
          rw [mem_ready]
          have hlt : i < listed.size := by omega
          refine ⟨by simp [hlt] at hl ⊢; exact hl, o, h2, fun e he hb => ?_⟩
          have hb' := (chk_spec hc h1 h2).1 e.on (edges i o h2 e he hb)
          exact ih e.on hb' (by omega)
        rw [hr] at this
        cases this
  have all : ∀ (listed : Array Bool) a w, listed.size = ops.size → (∀ i, i < ops.size → listed.getD i false = true) → Good Df E n₀ fr₀ H₀ effs σ₀ base w₀ (fun p => listed.getD p false) a w → Q .normal a w := fun listed a w hs hall hg => by
    have : (fun p => listed.getD p false) = fun p => decide (p < ops.size) := by
      funext p
      rcases Nat.lt_or_ge p ops.size with h | h
      · rw [hall p h, decide_eq_true h]
      · rw [decide_eq_false (by omega)]
        simp [Array.getElem?_eq_none (xs := listed) (i := p) (by omega)]
    rw [this] at hg
    exact fin a w hg
  intro fuel
  induction fuel with
  | zero =>
    intro listed hs hcnt hcl a w hg
    have hall : ∀ i, i < ops.size → listed.getD i false = true := fun i hi => by
      have hlt : i < listed.size := by omega
      have h0 := List.count_eq_zero.1 hcnt
      have : listed[i] ≠ false := fun e => h0 (by rw [← e]; exact Array.getElem_mem_toList hlt)
      simp [hlt]
      simpa using this
    refine ⟨?_, all listed a w hs hall hg⟩
    unfold Region.ready
    rw [List.filter_eq_nil_iff]
    intro i hi
    have hi' : i < ops.size := by simpa using hi
    have := hall i hi'
    have hlt : i < listed.size := by omega
    simp [hlt] at this ⊢
    simp [this]
  | succ fuel ih =>
    intro listed hs hcnt hcl a w hg
    refine ⟨fun hr => all listed a w hs (someone listed hs hr) hg, fun i hi => ?_⟩
    obtain ⟨h1, o, h2, h3⟩ := mem_ready.1 hi
    have hilt : i < ops.size := (Array.getElem?_eq_some_iff.1 h2).1
    have hlt : i < listed.size := by omega
    obtain ⟨d, _, hde, _⟩ := hd i hilt
    have hfalse : listed.getD i false = false := by simp [hlt] at h1 ⊢; exact h1
    have hready : ∀ p, bound ops i p = true → listed.getD p false = true := fun p hp => by
      simp only [bound, h2] at hp
      rw [Array.any_eq_true'] at hp
      obtain ⟨e, he, hb⟩ := hp
      simp only [Bool.and_eq_true, beq_iff_eq] at hb
      rw [← hb.2]; exact h3 e he hb.1
    have step := good_step (σ₀ := σ₀) (base := base) (w₀ := w₀) hc hfr hH hde (hF i d hde) (D := fun p => listed.getD p false) (fun p hp => by
      rcases Nat.lt_or_ge p effs.length with h | h
      · exact h
      · simp [Array.getElem?_eq_none (xs := listed) (i := p) (by omega)] at hp) hcl hfalse hready hg (Q := Q)
    refine wpOp_mono (fun a' w' hg' => ?_) step
    have hset : ∀ p, (listed.setIfInBounds i true).getD p false = (p == i || listed.getD p false) := fun p => by
      by_cases hpi : p = i
      · subst hpi; simp [hlt]
      · have : (p == i) = false := by simpa using hpi
        rw [this, Bool.false_or, getD_set_ne false (Ne.symm hpi)]
    refine ih _ (by simpa using hs) ?_ (fun q p hq hb => ?_) a' w' ?_
    · have e1 : (listed.setIfInBounds i true).toList = listed.toList.set i true := by simp
      have hl : listed.toList[i]? = some false := by
        have : listed[i] = false := by simpa [hlt] using hfalse
        simp [hlt, this]
      have hlt' : i < listed.toList.length := by simpa using hlt
      have hget : listed.toList[i] = false := by rw [List.getElem?_eq_getElem hlt'] at hl; simpa using hl
      rw [e1, List.count_set hlt', hget]
      have e2 : (true == false) = false := rfl
      simp only [beq_self_eq_true, if_true, e2, Bool.false_eq_true, if_false]
      omega
    · rw [hset] at hq ⊢
      simp only [Bool.or_eq_true, beq_iff_eq] at hq ⊢
      rcases hq with rfl | hq
      · exact .inr (hready p hb)
      · exact .inr (hcl q p hq hb)
    · have : (fun p => (listed.setIfInBounds i true).getD p false) = fun p => p == i || listed.getD p false := funext hset
      rw [this]; exact hg'
end

end Go.Proofs.YtaficaacogcblaaGreatDoor
