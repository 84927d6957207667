/- The step of one operation as a whole. -/
import Derived.Test.YtaficaacogcblaaGreatDoorXsu
import Derived.Laws.Pointers
set_option linter.all false
namespace Go.Proofs.YtaficaacogcblaaGreatDoor
open Go.RowKit (Below)
variable {Df : List Deferred}

def ptrT (P : Program) (t : TypeId) : Bool := match P.underlying t with
  | some (.pointer _) => true
  | _ => false
theorem ptrT_spec {P : Program} {t : TypeId} (h : ptrT P t = true) : P.underlying t = some (.pointer (P.pointee t)) := by
  unfold ptrT at h
  split at h
  · rename_i e he
    rw [he]
    simp only [Program.pointee, he]
  · cases h
/-- Operations that leave the world as it is. -/
def xpure (P : Program) (E : Env) (o : Oper) (fr : List V) (H : List Blk) (K : V → Prop) : Prop :=
  match o.op with
  | .move x => evK fr x K
  | .assign x => evK fr x K
  | .pick c a b => evC fr c fun vc => match vc with
    | .cb t => match t with
      | true => evK fr a K
      | false => evK fr b K
    | _ => False
  | .load t a => evC fr a fun c => lookA E.G H c fun ss o i => kLoad P t ss o i fun x => K (.w x)
  | .nilCheck x => evC fr x fun c => match c with
    | .cp j o => K (.w (.c (.cp j o)))
    | .cpi j o i => K (.w (.c (.cpi j o i)))
    | .cg g o => K (.w (.c (.cg g o)))
    | .cf f cs => K (.w (.c (.cf f cs)))
    | .cmv f j o => K (.w (.c (.cmv f j o)))
    | _ => False
  | .binOp op t x y _ => evW fr x fun a => evW fr y fun b => match a, b with
    | .c (.cb a), .c (.cb b) => match op, tyOf P t with
      | .eql, .bool => ∀ τ, τ = decide (a = b) → K (.w (.c (.cb τ)))
      | .neq, .bool => ∀ τ, τ = decide (a ≠ b) → K (.w (.c (.cb τ)))
      | _, _ => False
    | .c (.cp _ _), .c .cnil => match op, ptrT P t with
      | .eql, true => K (.w (.c (.cb false)))
      | .neq, true => K (.w (.c (.cb true)))
      | _, _ => False
    | .c a, .c b => kBin op a b fun c => K (.w (.c c))
    | .agg a, .agg b => match op with
      | .eql => kEq E.EQ false t a b fun c => K (.w (.c c))
      | .neq => kEq E.EQ true t a b fun c => K (.w (.c c))
      | _ => False
    | _, _ => False
  | .unOp op _ x => evC fr x fun c => kUn op c fun c => K (.w (.c c))
  | .convert s d x => evC fr x fun c => match tyOf P d with
    | .str => kStr P s d H c fun c => K (.w (.c c))
    | _ => kConv P s d c fun c => K (.w (.c c))
  | .makeFunc (.func f) first caps => match first.toList with
    | [] => evWs fr caps.toList fun ws => allC ws fun cs => K (.w (.c (.cf f cs)))
    | [x] => match caps.toList with
      | [] => evC fr x fun c => match c with
        | .cp j o => K (.w (.c (.cmv f j o)))
        | _ => False
      | _ => False
    | _ => False
  | .fieldAddr s x f => evC fr x fun c => match tyOf P s with
    | .st fs => nthP fs f fun off ft => match P.info? ft with
      | some inf => match inf.size with
        | 0 => False
        | _ + 1 => fieldC c off fun c => K (.w (.c c))
      | none => False
    | _ => False
  | .field s x f => evW fr x fun x => match tyOf P s, x with
    | .st fs, .agg ss => nthP fs f fun off ft => kLoad P ft ss off none fun x => K (.w x)
    | _, _ => False
  | .indexAddr t x i => evC fr x fun c => evC fr i fun d => kIndexAt P t c d fun c => K (.w (.c c))
  | .index t x i => evW fr x fun x => evC fr i fun d => kIndex P t x d fun x => K (.w x)
  | .extract x i => evK fr x fun v => match v with
    | .tup ws => nthW ws i fun w => K (.w w)
    | _ => False
  | .slice t x lo hi mx => evC fr x fun c => evO fr lo fun lo => evO fr hi fun hi => evO fr mx fun mx => kSlice P t c lo hi mx fun c => K (.w (.c c))
  | .sliceToArrayPointer t x => evC fr x fun c => match tyOf P t, c with
    | .arr n _, .csl j o i len _ => n ≤ len ∧ K (.w (.c (.cpi j o i)))
    | _, _ => False
  | .build t ps => evPs fr ps.toList fun ps => kBuild P t ps fun ss => K (.w (.agg ss))
  | .typeAssert x _ t ok => evC fr x fun c => match ok, tyOf P t, c with
    | false, .int k, .cv (.iface t' (.int k' n)) => (t' = t ∧ k' = k ∧ InK k n) ∧ K (.w (.c (.ci k n)))
    | _, _, _ => False
  | .call c => match c.callee with
    | .builtin .len => match c.args.toList, c.argTypes.toList with
      | [x], t :: _ => evW fr x fun x => match tyOf P t, x with
        | .str, .c (.cs s) => K (.w (.c (.ci .i64 s.size)))
        | .slice _, .c (.csl _ _ _ len _) => K (.w (.c (.ci .i64 len)))
        | .slice _, .c .csn => K (.w (.c (.ci .i64 (0 : Nat))))
        | .arr n _, _ => n ≤ 9223372036854775807 ∧ K (.w (.c (.ci .i64 n)))
        | _, _ => False
      | _, _ => False
    | .builtin .cap => match c.args.toList, c.argTypes.toList with
      | [x], t :: _ => evW fr x fun x => match tyOf P t, x with
        | .slice _, .c (.csl _ _ _ _ cap) => K (.w (.c (.ci .i64 cap)))
        | .slice _, .c .csn => K (.w (.c (.ci .i64 (0 : Nat))))
        | _, _ => False
      | _, _ => False
    | .builtin .max => match c.args.toList with
      | [x, y] => evC fr x fun a => evC fr y fun b => match a, b with
        | .ci k a, .ci k' b => match sameK k k' with
          | true => K (.w (.c (.ci k (max a b))))
          | false => False
        | _, _ => False
      | [x, y, z] => evC fr x fun a => evC fr y fun b => evC fr z fun c => match a, b, c with
        | .ci k a, .ci k' b, .ci k'' c => match sameK k k', sameK k k'' with
          | true, true => K (.w (.c (.ci k (max (max a b) c))))
          | _, _ => False
        | _, _, _ => False
      | _ => False
    | .builtin .min => match c.args.toList with
      | [x, y] => evC fr x fun a => evC fr y fun b => match a, b with
        | .ci k a, .ci k' b => match sameK k k' with
          | true => K (.w (.c (.ci k (min a b))))
          | false => False
        | _, _ => False
      | _ => False
    | _ => False
  | _ => False

theorem max_cond (a b : Int) : (if b > a then b else a) = max a b := by omega
theorem min_cond (a b : Int) : (if b < a then b else a) = min a b := by omega
theorem toList_toArray_map {α β : Type} (xs : Array α) (f : α → β) (l : List β) (h : xs.toList.map f = l) : xs.map f = l.toArray := by
  subst h; cases xs; simp

theorem max_in {k : IntKind} {a b : Int} (ha : InK k a) (hb : InK k b) : InK k (max a b) := by unfold InK at *; omega
theorem min_in {k : IntKind} {a b : Int} (ha : InK k a) (hb : InK k b) : InK k (min a b) := by unfold InK at *; omega

theorem tyOf_bool {P : Program} {t : TypeId} (h : tyOf P t = .bool) : P.underlying t = some .bool := by
  unfold tyOf at h
  cases hu : P.underlying t with
  | none => rw [hu] at h; cases h
  | some d => rw [hu] at h; cases d <;> simp [tyD] at h; rfl

theorem run_eqBool {P : Program} {t : TypeId} (h : P.underlying t = some .bool) (a b : Bool) (w : World) : (Op.equal t (.bool a) (.bool b)).run P w = .ok (decide (a = b)) w := by
  show (Op.equalIn (9999 + 1) t (.bool a) (.bool b)).run P w = _
  rw [Op.equalIn]
  simp only [Sem.run_bind, run_und w h, Result.andThen_ok, Sem.run_pure]
  cases a <;> cases b <;> rfl

set_option maxHeartbeats 1600000 in
theorem xpure_spec {P : Program} {E : Env} (hE : EnvOk P E) {o : Oper} {fr : List V} {H : List Blk} {K : V → Prop} (h : xpure P E o fr H K) (hf : FOk H.length fr) (ho : HOk H) :
    ∃ x : V, x.ok H.length ∧ K x ∧ ∀ {Df : List Deferred} σ a base w₀ w, FRep Df σ a fr → Rep E.G σ base w₀ w H → ∃ v, x.rep σ v ∧ (execOp a.eval o).run P w = .ok (.value v) w := by
  obtain ⟨dst, op, ty, pos, after, guard⟩ := o
  cases op <;> simp only [xpure] at h <;> try exact h.elim
  case move x =>
    obtain ⟨v, h1, h2, h3⟩ := evK_spec hf h
    exact ⟨v, h1, h2, fun σ a base w₀ w hr _ => ⟨_, h3 σ a hr, by simp [execOp]⟩⟩
  case assign x =>
    obtain ⟨v, h1, h2, h3⟩ := evK_spec hf h
    exact ⟨v, h1, h2, fun σ a base w₀ w hr _ => ⟨_, h3 σ a hr, by simp [execOp]⟩⟩
  case pick c x y =>
    obtain ⟨vc, c1, c2, h, c4⟩ := evC_spec hf h
    split at h
    · split at h
      · obtain ⟨v, h1, h2, h3⟩ := evK_spec hf h
        exact ⟨v, h1, h2, fun σ a base w₀ w hr _ => ⟨_, h3 σ a hr, by simp [execOp, c4 σ a hr, C.den, asBool]⟩⟩
      · obtain ⟨v, h1, h2, h3⟩ := evK_spec hf h
        exact ⟨v, h1, h2, fun σ a base w₀ w hr _ => ⟨_, h3 σ a hr, by simp [execOp, c4 σ a hr, C.den, asBool]⟩⟩
    · exact h.elim
  case load t x =>
    obtain ⟨c, c1, c2, h, c4⟩ := evC_spec hf h
    obtain ⟨ss, o, i, h, h2, h3, h4, h5⟩ := lookA_spec hE.glo ho h
    obtain ⟨y, y1, y2, y3, y4⟩ := kLoad_spec h h2 h3
    exact ⟨.w y, ⟨y1, y2⟩, y3, fun σ a base w₀ w hr hw => ⟨_, rfl, by simp [execOp, c4 σ a hr, h4 σ, Instr.loadAt, Instr.sureAddr, y4 σ w _ (h5 σ base w₀ w hw)]⟩⟩
  case nilCheck x =>
    obtain ⟨c, c1, c2, h, c4⟩ := evC_spec hf h
    split at h
    · rename_i j o
      exact ⟨.w (.c (.cp j o)), ⟨c1, c2⟩, h, fun σ a base w₀ w hr hw => ⟨_, rfl, by simp [execOp, c4 σ a hr, C.den, W.den]⟩⟩
    · rename_i j o i
      exact ⟨.w (.c (.cpi j o i)), ⟨c1, c2⟩, h, fun σ a base w₀ w hr hw => ⟨_, rfl, by simp [execOp, c4 σ a hr, C.den, W.den]⟩⟩
    · rename_i g o
      exact ⟨.w (.c (.cg g o)), ⟨c1, c2⟩, h, fun σ a base w₀ w hr hw => ⟨_, rfl, by simp [execOp, c4 σ a hr, C.den, W.den]⟩⟩
    · rename_i f cs
      exact ⟨.w (.c (.cf f cs)), ⟨c1, c2⟩, h, fun σ a base w₀ w hr hw => ⟨_, rfl, by simp [execOp, c4 σ a hr, C.den, W.den]⟩⟩
    · rename_i f j o
      exact ⟨.w (.c (.cmv f j o)), ⟨c1, c2⟩, h, fun σ a base w₀ w hr hw => ⟨_, rfl, by simp [execOp, c4 σ a hr, C.den, W.den]⟩⟩
    · exact h.elim
  case binOp op t x y yt =>
    obtain ⟨xa, a1, a2, h, a4⟩ := evW_spec hf h
    obtain ⟨xb, b1, b2, h, b4⟩ := evW_spec hf h
    split at h
    · split at h
      · refine ⟨.w (.c (.cb _)), ⟨trivial, rfl⟩, h _ rfl, fun σ a base w₀ w hr hw => ⟨_, rfl, ?_⟩⟩
        have hu := tyOf_bool (P := P) (t := t) (by assumption)
        simp [execOp, a4 σ a hr, b4 σ a hr, W.den, C.den, eqGuard, binOp, run_eqBool hu]
      · refine ⟨.w (.c (.cb _)), ⟨trivial, rfl⟩, h _ rfl, fun σ a base w₀ w hr hw => ⟨_, rfl, ?_⟩⟩
        have hu := tyOf_bool (P := P) (t := t) (by assumption)
        simp [execOp, a4 σ a hr, b4 σ a hr, W.den, C.den, eqGuard, binOp, run_eqBool hu]
      · exact h.elim
    · split at h
      · have hu := ptrT_spec (P := P) (t := t) (by assumption)
        refine ⟨.w (.c (.cb _)), ⟨trivial, rfl⟩, h, fun σ a base w₀ w hr hw => ⟨_, rfl, ?_⟩⟩
        simp [execOp, a4 σ a hr, b4 σ a hr, W.den, C.den, eqGuard, run_eql_pointer_nil w t _ hu]
      · have hu := ptrT_spec (P := P) (t := t) (by assumption)
        refine ⟨.w (.c (.cb _)), ⟨trivial, rfl⟩, h, fun σ a base w₀ w hr hw => ⟨_, rfl, ?_⟩⟩
        simp [execOp, a4 σ a hr, b4 σ a hr, W.den, C.den, eqGuard, run_neq_pointer_nil w t _ hu]
      · exact h.elim
    · obtain ⟨c, c1, c2, c3, c4⟩ := kBin_spec h a1
      refine ⟨.w (.c c), ⟨c1, C.bnd_mono (Nat.zero_le _) c c2⟩, c3, fun σ a base w₀ w hr hw => ⟨_, rfl, ?_⟩⟩
      simp [execOp, a4 σ a hr, b4 σ a hr, W.den, (c4 P t σ w).1, (c4 P t σ w).2]
    · split at h
      · obtain ⟨c, c1, c2, c3, c4⟩ := kEq_spec hE.eq h a1 b1
        refine ⟨.w (.c c), ⟨c1, C.bnd_mono (Nat.zero_le _) c c2⟩, c3, fun σ a base w₀ w hr hw => ⟨_, rfl, ?_⟩⟩
        have := c4 σ w
        simp only [Bool.false_eq_true, if_false] at this
        simp [execOp, a4 σ a hr, b4 σ a hr, this.1, this.2]
        simp [W.den]
      · obtain ⟨c, c1, c2, c3, c4⟩ := kEq_spec hE.eq h a1 b1
        refine ⟨.w (.c c), ⟨c1, C.bnd_mono (Nat.zero_le _) c c2⟩, c3, fun σ a base w₀ w hr hw => ⟨_, rfl, ?_⟩⟩
        have := c4 σ w
        simp only [if_true] at this
        simp [execOp, a4 σ a hr, b4 σ a hr, this.1, this.2]
        simp [W.den]
      · exact h.elim
    · exact h.elim
  case unOp op t x =>
    obtain ⟨c, c1, c2, h, c4⟩ := evC_spec hf h
    obtain ⟨d, d1, d2, d3, d4⟩ := kUn_spec h
    exact ⟨.w (.c d), ⟨d1, C.bnd_mono (Nat.zero_le _) d d2⟩, d3, fun σ a base w₀ w hr hw => ⟨_, rfl, by simp [execOp, c4 σ a hr, d4 P σ w, W.den]⟩⟩
  case convert s d x =>
    obtain ⟨c, c1, c2, h, c4⟩ := evC_spec hf h
    split at h
    · obtain ⟨e, d1, d2, d3, d4⟩ := kStr_spec (G := E.G) h ho
      exact ⟨.w (.c e), ⟨d1, C.bnd_mono (Nat.zero_le _) e d2⟩, d3, fun σ a base w₀ w hr hw => ⟨_, rfl, by simp [execOp, c4 σ a hr, d4 σ base w₀ w hw, W.den]⟩⟩
    · obtain ⟨e, d1, d2, d3, d4⟩ := kConv_spec h
      exact ⟨.w (.c e), ⟨d1, C.bnd_mono (Nat.zero_le _) e d2⟩, d3, fun σ a base w₀ w hr hw => ⟨_, rfl, by simp [execOp, c4 σ a hr, d4 σ w, W.den]⟩⟩
  case makeFunc fn first caps =>
    cases fn with
    | func f =>
      simp only at h
      split at h
      · rename_i hfst
        obtain ⟨ws, w1, w2, h, w4⟩ := evWs_spec hf h
        obtain ⟨l, l1, l2, l3, l4⟩ := allC_spec h w1 w2
        refine ⟨.w (.c (.cf f l)), ⟨by simpa only [V.rng, W.rng, C.rng] using l2, by simpa only [V.bnd, W.bnd, C.bnd] using l3⟩, l1, fun σ a base w₀ w hr hw => ⟨_, rfl, ?_⟩⟩
        have e1 : first.map a.eval = #[] := by rw [toList_toArray_map first a.eval [] (by rw [hfst]; rfl)]
        have e2 : caps.map a.eval = (C.denL σ l).toArray := toList_toArray_map caps a.eval _ (by rw [w4 σ a hr, l4 σ])
        simp [execOp, Instr.makeFunc, e1, e2, W.den, C.den]
      · rename_i x hfst
        split at h
        · rename_i hcap
          obtain ⟨c, c1, c2, h, c4⟩ := evC_spec hf h
          split at h
          · rename_i j o
            refine ⟨.w (.c (.cmv f j o)), ⟨trivial, c2⟩, h, fun σ a base w₀ w hr hw => ⟨_, rfl, ?_⟩⟩
            have e1 : first.map a.eval = #[.pointer (some (σ.at j o))] := by rw [toList_toArray_map first a.eval [.pointer (some (σ.at j o))] (by rw [hfst]; simp [c4 σ a hr, C.den])]
            have e2 : caps.map a.eval = #[] := by rw [toList_toArray_map caps a.eval [] (by rw [hcap]; rfl)]
            simp [execOp, Instr.makeFunc, e1, e2, W.den, C.den]
          · exact h.elim
        · exact h.elim
      · exact h.elim
    | _ => exact h.elim
  case fieldAddr s x f =>
    obtain ⟨c, c1, c2, h, c4⟩ := evC_spec hf h
    split at h
    · rename_i fs ht
      obtain ⟨F, hF, rfl⟩ := tyOf_st ht
      obtain ⟨fl, hfl, h⟩ := nthP_field h
      split at h
      · rename_i inf hi
        split at h
        · exact h.elim
        · rename_i sz hsz
          obtain ⟨d, d1, d2, d3, d4, d5, d6⟩ := fieldC_spec h c2
          refine ⟨.w (.c d), ⟨d1, d2⟩, d3, fun σ a base w₀ w hr hw => ⟨_, rfl, ?_⟩⟩
          have hne : ¬ inf.size = 0 := by omega
          simp [execOp, c4 σ a hr, d4 σ, Instr.fieldAt, run_und w hF, hfl, Instr.sureAddr, fieldPlace, run_sizeOf w hi, hne, W.den, d6 σ]
      · exact h.elim
    · exact h.elim
  case field s x f =>
    obtain ⟨xa, a1, a2, h, a4⟩ := evW_spec hf h
    split at h
    · rename_i fs ss ht
      obtain ⟨F, hF, rfl⟩ := tyOf_st ht
      obtain ⟨fl, hfl, h⟩ := nthP_field h
      obtain ⟨y, y1, y2, y3, y4⟩ := kLoad_val h a1 a2
      refine ⟨.w y, ⟨y1, y2⟩, y3, fun σ a base w₀ w hr hw => ⟨_, rfl, ?_⟩⟩
      have := y4 σ w
      simp only [Option.getD_none, Nat.add_zero] at this
      simp [execOp, a4 σ a hr, W.den, Instr.field, run_und w hF, hfl, asAgg, this]
    · exact h.elim
  case indexAddr t x i =>
    obtain ⟨c, c1, c2, h, c4⟩ := evC_spec hf h
    obtain ⟨d, d1, d2, h, d4⟩ := evC_spec hf h
    obtain ⟨e, e1, e2, e3, e4⟩ := kIndexAt_spec h c2
    exact ⟨.w (.c e), ⟨e1, e2⟩, e3, fun σ a base w₀ w hr hw => ⟨_, rfl, by simp [execOp, c4 σ a hr, d4 σ a hr, e4 σ w, W.den]⟩⟩
  case index t x i =>
    obtain ⟨xa, a1, a2, h, a4⟩ := evW_spec hf h
    obtain ⟨d, d1, d2, h, d4⟩ := evC_spec hf h
    obtain ⟨e, e1, e2, e3, e4⟩ := kIndex_spec h a1 a2
    exact ⟨.w e, ⟨e1, e2⟩, e3, fun σ a base w₀ w hr hw => ⟨_, rfl, by simp [execOp, a4 σ a hr, d4 σ a hr, e4 σ w]⟩⟩
  case extract x i =>
    obtain ⟨v, h1, h, h3⟩ := evK_spec hf h
    split at h
    · rename_i ws
      obtain ⟨y, y1, y2, y3, y4⟩ := nthW_spec h h1.1 h1.2
      refine ⟨.w y, ⟨y1, y2⟩, y4, fun σ a base w₀ w hr hw => ⟨_, rfl, ?_⟩⟩
      have := h3 σ a hr
      simp only [V.rep] at this
      simp [execOp, this, Instr.extract, y3]
    · exact h.elim
  case slice t x lo hi mx =>
    obtain ⟨c, c1, c2, h, c4⟩ := evC_spec hf h
    obtain ⟨lo', h, l4⟩ := evO_spec hf h
    obtain ⟨hi', h, i4⟩ := evO_spec hf h
    obtain ⟨mx', h, m4⟩ := evO_spec hf h
    obtain ⟨d, d1, d2, d3, d4⟩ := kSlice_spec h c1 c2
    exact ⟨.w (.c d), ⟨d1, d2⟩, d3, fun σ a base w₀ w hr hw => ⟨_, rfl, by simp [execOp, c4 σ a hr, l4 σ a hr, i4 σ a hr, m4 σ a hr, d4 σ w, W.den]⟩⟩
  case sliceToArrayPointer t x =>
    obtain ⟨c, c1, c2, h, c4⟩ := evC_spec hf h
    split at h
    · rename_i n e j o i len cap ht
      refine ⟨.w (.c (.cpi j o i)), ⟨trivial, c2⟩, h.2, fun σ a base w₀ w hr hw => ⟨_, rfl, ?_⟩⟩
      have hne : ¬ len < n := by omega
      simp [execOp, c4 σ a hr, C.den, Instr.arrayAt, run_und w (tyOf_arr ht), hne, W.den]
    · exact h.elim
  case typeAssert x xt t ok =>
    obtain ⟨c, c1, c2, h, c4⟩ := evC_spec hf h
    split at h
    · rename_i _ _ k t' k' n ht _
      obtain ⟨⟨rfl, rfl, hn⟩, h⟩ := h
      exact ⟨.w (.c (.ci k' n)), ⟨hn, rfl⟩, h, fun σ a base w₀ w hr hw => ⟨_, rfl, by simp [execOp, c4 σ a hr, C.den, W.den, Instr.typeAssert, run_und w (tyOf_int ht)]⟩⟩
    · exact h.elim
  case build t ps =>
    obtain ⟨qs, q1, q2, h, q4⟩ := evPs_spec hf h
    obtain ⟨ss, s1, s2, s3, s4⟩ := kBuild_spec h q1 q2
    refine ⟨.w (.agg ss), ⟨s2, s3⟩, s1, fun σ a base w₀ w hr hw => ⟨_, rfl, ?_⟩⟩
    have := toList_toArray_map ps (fun (i, x) => (i, a.eval x)) _ (q4 σ a hr)
    simp only [execOp, this, Sem.run_bind, s4 σ w, Result.andThen_ok, Sem.run_pure]
    rfl
  case call c =>
    obtain ⟨callee, args, argTypes⟩ := c
    cases callee with
    | value _ => exact h.elim
    | invoke _ _ => exact h.elim
    | builtin b =>
      have ext1 : ∀ {x : Operand}, args.toList = [x] → args = #[x] := fun {x} e => by cases args; simp at e; simp [e]
      have ext2 : ∀ {x y : Operand}, args.toList = [x, y] → args = #[x, y] := fun {x y} e => by cases args; simp at e; simp [e]
      have ext3 : ∀ {x y z : Operand}, args.toList = [x, y, z] → args = #[x, y, z] := fun {x y z} e => by cases args; simp at e; simp [e]
      cases b <;> try exact h.elim
      case len =>
        simp only at h
        split at h
        · rename_i x t ts hx htt
          obtain rfl := ext1 hx
          obtain ⟨xa, a1, a2, h, a4⟩ := evW_spec hf h
          have hty : argTypes[0]? = some t := by
            have : argTypes.toList[0]? = some t := by rw [htt]; rfl
            simpa using this
          split at h
          · rename_i s ht
            refine ⟨.w (.c (.ci .i64 s.size)), ⟨?_, rfl⟩, h, fun σ a base w₀ w hr hw => ⟨_, rfl, ?_⟩⟩
            · have : s.size ≤ 9223372036854775807 := a1
              simp only [V.rng, W.rng, C.rng, InK, lowK, highK]; omega
            · simp [execOp, resolve, invoke, builtin, Builtin.len_, a4 σ a hr, W.den, C.den, hty, run_und w (tyOf_str ht), goInt]
          · rename_i e j o i len cap ht
            refine ⟨.w (.c (.ci .i64 len)), ⟨?_, rfl⟩, h, fun σ a base w₀ w hr hw => ⟨_, rfl, ?_⟩⟩
            · have : len ≤ cap ∧ cap ≤ 9223372036854775807 := a1
              simp only [V.rng, W.rng, C.rng, InK, lowK, highK]; omega
            · simp [execOp, resolve, invoke, builtin, Builtin.len_, a4 σ a hr, W.den, C.den, hty, run_und w (tyOf_slice ht), goInt]
          · rename_i e ht
            refine ⟨.w (.c (.ci .i64 (0 : Nat))), ⟨?_, rfl⟩, h, fun σ a base w₀ w hr hw => ⟨_, rfl, ?_⟩⟩
            · simp only [V.rng, W.rng, C.rng, InK, lowK, highK]; omega
            · simp [execOp, resolve, invoke, builtin, Builtin.len_, a4 σ a hr, W.den, C.den, hty, run_und w (tyOf_slice ht), goInt]
          · rename_i n e ht
            refine ⟨.w (.c (.ci .i64 n)), ⟨?_, rfl⟩, h.2, fun σ a base w₀ w hr hw => ⟨_, rfl, ?_⟩⟩
            · have := h.1
              simp only [V.rng, W.rng, C.rng, InK, lowK, highK]; omega
            · simp [execOp, resolve, invoke, builtin, Builtin.len_, a4 σ a hr, W.den, C.den, hty, run_und w (tyOf_arr ht), goInt]
          · exact h.elim
        · exact h.elim
      case cap =>
        simp only at h
        split at h
        · rename_i x t ts hx htt
          obtain rfl := ext1 hx
          obtain ⟨xa, a1, a2, h, a4⟩ := evW_spec hf h
          have hty : argTypes[0]? = some t := by
            have : argTypes.toList[0]? = some t := by rw [htt]; rfl
            simpa using this
          split at h
          · rename_i e j o i len cap ht
            refine ⟨.w (.c (.ci .i64 cap)), ⟨?_, rfl⟩, h, fun σ a base w₀ w hr hw => ⟨_, rfl, ?_⟩⟩
            · have : len ≤ cap ∧ cap ≤ 9223372036854775807 := a1
              simp only [V.rng, W.rng, C.rng, InK, lowK, highK]; omega
            · simp [execOp, resolve, invoke, builtin, Builtin.cap_, a4 σ a hr, W.den, C.den, hty, run_und w (tyOf_slice ht), goInt]
          · rename_i e ht
            refine ⟨.w (.c (.ci .i64 (0 : Nat))), ⟨?_, rfl⟩, h, fun σ a base w₀ w hr hw => ⟨_, rfl, ?_⟩⟩
            · simp only [V.rng, W.rng, C.rng, InK, lowK, highK]; omega
            · simp [execOp, resolve, invoke, builtin, Builtin.cap_, a4 σ a hr, W.den, C.den, hty, run_und w (tyOf_slice ht), goInt]
          · exact h.elim
        · exact h.elim
      case max =>
        simp only at h
        split at h
        · rename_i x y hx
          obtain rfl := ext2 hx
          obtain ⟨p, p1, p2, h, p4⟩ := evC_spec hf h
          obtain ⟨q, q1, q2, h, q4⟩ := evC_spec hf h
          split at h
          · split at h
            · rename_i hk
              obtain rfl := sameK_eq hk
              refine ⟨_, ⟨?_, ?_⟩, h, fun σ a base w₀ w hr hw => ⟨_, rfl, ?_⟩⟩
              · exact max_in p1 q1
              · rfl
              · simp [execOp, resolve, invoke, builtin, Builtin.max_, Builtin.max2, p4 σ a hr, q4 σ a hr, C.den, W.den, max_cond]
            · exact h.elim
          · exact h.elim
        · rename_i x y z hx
          obtain rfl := ext3 hx
          obtain ⟨p, p1, p2, h, p4⟩ := evC_spec hf h
          obtain ⟨q, q1, q2, h, q4⟩ := evC_spec hf h
          obtain ⟨r, r1, r2, hm, r4⟩ := evC_spec hf h
          split at hm
          · split at hm
            · rename_i hk hk'
              obtain rfl := sameK_eq hk
              obtain rfl := sameK_eq hk'
              refine ⟨_, ⟨?_, ?_⟩, hm, fun σ a base w₀ w hr hw => ⟨_, rfl, ?_⟩⟩
              · exact max_in (max_in p1 q1) r1
              · rfl
              · simp [execOp, resolve, invoke, builtin, Builtin.max_, Builtin.max2, p4 σ a hr, q4 σ a hr, r4 σ a hr, C.den, W.den, max_cond]
            · exact hm.elim
          · exact hm.elim
        · exact h.elim
      case min =>
        simp only at h
        split at h
        · rename_i x y hx
          obtain rfl := ext2 hx
          obtain ⟨p, p1, p2, h, p4⟩ := evC_spec hf h
          obtain ⟨q, q1, q2, h, q4⟩ := evC_spec hf h
          split at h
          · split at h
            · rename_i hk
              obtain rfl := sameK_eq hk
              refine ⟨_, ⟨?_, ?_⟩, h, fun σ a base w₀ w hr hw => ⟨_, rfl, ?_⟩⟩
              · exact min_in p1 q1
              · rfl
              · simp [execOp, resolve, invoke, builtin, Builtin.min_, Builtin.min2, p4 σ a hr, q4 σ a hr, C.den, W.den, min_cond]
            · exact h.elim
          · exact h.elim
        · exact h.elim

end Go.Proofs.YtaficaacogcblaaGreatDoor
