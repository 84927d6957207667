/- Chapter entry: a record read: what panics is recovered. -/
import Derived.Test.YtbgjmlncdlcglaaBea
import Derived.Recover
import Derived.Defers
import Derived.WalkSmall
set_option linter.all false
namespace Go.Proofs.Ytbgjmlncdlcglaa
open Go.RowKit (Below)
set_option maxRecDepth 100000
set_option maxHeartbeats 32000000

def ctMust : Ct := fun ws K => match ws with
  | [.c (.cb b), .c (.ci .i64 _)] => b = true ∧ K (.tup [])
  | _ => False
theorem must_ct : CtOk Try.prog 64 ctMust := by
  intro ws K h' hr
  unfold ctMust at h'
  split at h'
  · rename_i b n
    obtain ⟨rfl, h'⟩ := h'
    refine ⟨_, h', ⟨trivial, rfl⟩, walk_calls F0_ok Try.func64 rfl hr rfl (n := 0) ?_⟩
    repeat' ((conv => whnf); first | rfl | fail)
  · exact h'.elim
abbrev errV (n : Int) : Value := .iface 26 (.int .i64 n)
theorem must_panics (n : Int) (w : World) : Calls Try.prog 64 #[.bool false, .int .i64 n] w fun e w' => e = .panicked [{ v := errV n, recovered := false }] ∧ w' = w := by
  go_enter Try.func64, Try.ntmps64
  go_wp2
  exact ⟨rfl, rfl, rfl⟩

/-! ### the closure that recovers -/
abbrev enB (k t : Int) (d : ByteArray) : Blk := .own 29 (enW k t d).segs
abbrev erB (n : Int) : Blk := .own 26 [.one (.ci .i64 n)]
theorem closure_idle (p q : Value) (w : World) : CallsD Try.prog 63 #[p, q] .returning w fun e u' w' => e = .returned (.tuple #[]) ∧ u' = .returning ∧ w' = w := by
  refine callsD_of_wpS Try.func63 rfl fun c₀ cs hu => ?_
  apply wpS_seq
  apply wpS_region
  simp [wpOpsS, go_sem, recoverD, hu, Try.ntmps63, Exit.thenS]
  apply wpS_seq
  apply wpS_region
  simp [wpOpsS, go_sem, Exit.thenS]
  refine wpS_cond (t := false) (by simp [Act.eval, Array.replicate]) ?_
  simp only [Bool.false_eq_true, if_false]
  refine wpS_of_wp (wp_skip ?_)
  cases c₀
  simp_all [bodyPostS, results, Try.results63]
/-- A piece of code, walked, with calls deferred already. -/
theorem code_run {Df : List Deferred} {F : Fns} (hF : FnsOk Try.prog F) (n : Nat) (c : Code) {lo : Nat} {fr : List V} {H : List Blk} {Q : XQ} (h : XC Try.prog E0 (calF Try.prog E0 F (drwA Try.prog E0 F) n) (drwA Try.prog E0 F (calF Try.prog E0 F (drwA Try.prog E0 F) n)) c lo fr H Q)
    (hf : FOk H.length fr) (ho : HOk H) (hl : lo ≤ H.length) {σ : Sg} {base : Nat} {w₀ w : World} {a : Act} (hr : FRep Df σ a fr) (hw : Rep E0.G σ base w₀ w H) : c.wp Try.prog (Post Df E0 σ base w₀ lo Q) a w :=
  XC_spec E0_ok (calF_ok E0_ok hF (fun cal hc => drwA_ok E0_ok hF mixed cal hc) n) (drwA_ok E0_ok hF mixed _ (calF_ok E0_ok hF (fun cal hc => drwA_ok E0_ok hF mixed cal hc) n)) c h hf ho hl hr hw
theorem closure_panics {τ : Sg} {base : Nat} {w₀ w : World} {k t m n : Int} {d : ByteArray} (hw : Rep E0.G τ base w₀ w [enB k t d, erB m]) (ho : HOk [enB k t d, erB m]) (hn : InK .i64 n) (older : List PanicEntry) :
    CallsD Try.prog 63 #[(C.cp 0 0).den τ, (C.cp 1 0).den τ] (.panicking ({ v := errV n, recovered := false } :: older)) w fun e u' w' =>
      e = .returned (.tuple #[]) ∧ u' = .panicking ({ v := errV n, recovered := true } :: older) ∧ ∃ τ', Sg.agree 2 τ τ' ∧ Rep E0.G τ' base w₀ w' [enB 0 0 noS, erB n] ∧ HOk [enB 0 0 noS, erB n] := by
  refine callsD_of_wpS Try.func63 rfl fun c₀ cs hu => ?_
  apply wpS_seq
  apply wpS_region
  simp [wpOpsS, go_sem, recoverD, hu, Try.ntmps63, Exit.thenS]
  apply wpS_seq
  apply wpS_region
  simp [wpOpsS, go_sem, Exit.thenS]
  refine wpS_cond (t := true) (by simp [Act.eval, Array.replicate]) ?_
  simp only [if_true]
  refine wpS_of_wp (wp_mono (code_run (Df := []) F0_ok 0 _ (lo := 2) (fr := [.w (.c (.cp 0 0)), .w (.c (.cp 1 0)), .w (.c (.cv (errV n))), .any, .any, .any, .any, .any, .any]) (H := [enB k t d, erB m]) (Q := fun ex _ H' => ex = .normal ∧ H' = [enB 0 0 noS, erB n]) ?_ ⟨fun x hx => ?_⟩ ho (Nat.le_refl _) (σ := τ) ⟨rfl, rfl, fun i x hx => ?_⟩ hw) ?_)
  · repeat' ((conv => whnf); first | (refine And.intro ⟨rfl, rfl, hn⟩ ?_) | (refine ⟨by kernel_rfl, ?_⟩) | fail)
    rfl
  · simp only [List.mem_cons, List.not_mem_nil, or_false] at hx
    rcases hx with rfl | rfl | rfl | rfl | rfl | rfl | rfl | rfl | rfl
    all_goals exact ⟨trivial, rfl⟩
  · have hi := (List.getElem?_eq_some_iff.1 hx).1
    simp only [List.length_cons, List.length_nil] at hi
    obtain rfl | rfl | rfl | rfl | rfl | rfl | rfl | rfl | rfl : i = 0 ∨ i = 1 ∨ i = 2 ∨ i = 3 ∨ i = 4 ∨ i = 5 ∨ i = 6 ∨ i = 7 ∨ i = 8 := by omega
    all_goals (simp at hx; subst hx; first | trivial | rfl)
  · rintro e a' w' ⟨τ', fr', H', ex, rfl, ⟨rfl, rfl⟩, g1, g2, g3, g4, g5, g6⟩
    exact ⟨g4.dfr, _, rfl, .tuple #[], by simp [results, Try.results63], rfl, rfl, τ', g1, g2, g3⟩

/- Chapter entry: a record read, walked. -/
set_option maxRecDepth 100000
set_option maxHeartbeats 32000000

def kE (s : ByteArray) : Int := ((s.get! 0).toNat : Nat)
def tE (s : ByteArray) : Int := le4 (bytesI (s.extract 1 5))
def dE (s : ByteArray) : ByteArray := s.extract 5 s.size
abbrev dfr (τ : Sg) : Deferred := { target := .fn (.func 63) #[(C.cp 0 0).den τ, (C.cp 1 0).den τ], args := #[] }
theorem dfr_agree {σ τ : Sg} (h : Sg.agree 2 σ τ) : dfr σ = dfr τ := by
  simp only [dfr, C.den, h.at (show 0 < 2 by decide), h.at (show 1 < 2 by decide)]
abbrev e0 : V := .w (.c (.cp 0 0))
abbrev e1 : V := .w (.c (.cp 1 0))
abbrev mask : List V := [.any, .any, e0, e1, .any, .any, .any, .any, .any, .any, .any, .any, .any, .any, .any, .any, .any, .any, .any, .any, .any, .any]
/-- What the frame holds throughout. -/
structure Holds (fr : List V) : Prop where
  len : fr.length = 22
  s2 : fr[2]? = some e0
  s3 : fr[3]? = some e1
theorem Holds.mask {Df : List Deferred} {τ : Sg} {a : Act} {fr : List V} (h : Holds fr) (hr : FRep Df τ a fr) : FRep Df τ a mask := by
  refine hr.weak' (by rw [h.len]; rfl) fun i x hx => ?_
  have hi := (List.getElem?_eq_some_iff.1 hx).1
  simp only [Go.Proofs.Ytbgjmlncdlcglaa.mask, List.length_cons, List.length_nil] at hi
  by_cases q2 : i = 2
  · subst q2
    right
    rw [h.s2, ← hx]; rfl
  · by_cases q3 : i = 3
    · subst q3
      right
      rw [h.s3, ← hx]; rfl
    · left
      obtain rfl | rfl | rfl | rfl | rfl | rfl | rfl | rfl | rfl | rfl | rfl | rfl | rfl | rfl | rfl | rfl | rfl | rfl | rfl | rfl : i = 0 ∨ i = 1 ∨ i = 4 ∨ i = 5 ∨ i = 6 ∨ i = 7 ∨ i = 8 ∨ i = 9 ∨ i = 10 ∨ i = 11 ∨ i = 12 ∨ i = 13 ∨ i = 14 ∨ i = 15 ∨ i = 16 ∨ i = 17 ∨ i = 18 ∨ i = 19 ∨ i = 20 ∨ i = 21 := by omega
      all_goals exact (Option.some.inj (show some V.any = some x from hx)).symm
theorem mask_ok : FOk 2 mask := ⟨fun x hx => by
  simp only [mask, List.mem_cons, List.not_mem_nil, or_false] at hx
  rcases hx with rfl | rfl | rfl | rfl | rfl | rfl | rfl | rfl | rfl | rfl | rfl | rfl | rfl | rfl | rfl | rfl | rfl | rfl | rfl | rfl | rfl | rfl
  all_goals exact ⟨trivial, rfl⟩⟩
/-- The results, read at the end. -/
theorem res_run {Df : List Deferred} {τ : Sg} {a : Act} {fr : List V} {base : Nat} {w₀ w : World} {k t n : Int} {d : ByteArray} (h : Holds fr) (hr : FRep Df τ a fr) (hw : Rep E0.G τ base w₀ w [enB k t d, erB n]) (ho : HOk [enB k t d, erB n]) :
    (results Try.f28 a.tmps).run Try.prog w = .ok (.tuple #[.agg #[.int .i64 k, .int .u32 t, .string d], .int .i64 n]) w := by
  obtain ⟨xs, hx, _, _, hrun⟩ := resK_spec E0_ok (fr := Go.Proofs.Ytbgjmlncdlcglaa.mask) (H := [enB k t d, erB n]) (rs := Try.f28.results.toList) (K := fun xs => xs = [enW k t d, i64 n]) mask_ok ho (by conv => whnf)
  subst hx
  have hh := hrun τ a base w₀ w (h.mask hr) hw
  have e : [enW k t d, i64 n].map (W.den τ) = [.agg #[.int .i64 k, .int .u32 t, .string d], .int .i64 n] := by
    simp only [List.map_cons, List.map_nil, enW_den]
    rfl
  rw [e] at hh
  exact results_run (vs := [.agg #[.int .i64 k, .int .u32 t, .string d], .int .i64 n]) hh
theorem leave_panic {τ : Sg} {a : Act} {fr : List V} {base : Nat} {w₀ w : World} {k t m n : Int} {d : ByteArray} {R : Ending → World → Prop} (h : Holds fr) (hr : FRep [dfr τ] τ a fr) (hw : Rep E0.G τ base w₀ w [enB k t d, erB m]) (ho : HOk [enB k t d, erB m]) (hn : InK .i64 n)
    (hR : ∀ w', Below base w₀ w' → R (.returned (.tuple #[.agg #[.int .i64 0, .int .u32 0, .string noS], .int .i64 n])) w') :
    Leaves Try.prog Try.f28 a.tmps R a.defers (.panicking [{ v := errV n, recovered := false }]) w := by
  rw [hr.dfr]
  refine leaves_cons (f := 63) (args := #[(C.cp 0 0).den τ, (C.cp 1 0).den τ]) (by simp) (by simp [go_sem]) ?_
  refine (closure_panics hw ho hn []).mono ?_
  rintro e u' w' ⟨rfl, rfl, τ', g1, g2, g3⟩
  have hr' : FRep [dfr τ] τ' a Go.Proofs.Ytbgjmlncdlcglaa.mask := (h.mask hr).agree g1 mask_ok
  refine ⟨_, res_run (fr := Go.Proofs.Ytbgjmlncdlcglaa.mask) ⟨rfl, rfl, rfl⟩ hr' g2 g3, hR _ g2.below⟩
theorem leave_ok {τ : Sg} {a : Act} {fr : List V} {base : Nat} {w₀ w : World} {k t n : Int} {d : ByteArray} {R : Ending → World → Prop} (h : Holds fr) (hr : FRep [dfr τ] τ a fr) (hw : Rep E0.G τ base w₀ w [enB k t d, erB n]) (ho : HOk [enB k t d, erB n])
    (hR : R (.returned (.tuple #[.agg #[.int .i64 k, .int .u32 t, .string d], .int .i64 n])) w) :
    Leaves Try.prog Try.f28 a.tmps R a.defers .returning w := by
  rw [hr.dfr]
  refine leaves_cons (f := 63) (args := #[(C.cp 0 0).den τ, (C.cp 1 0).den τ]) (by simp) (by simp [go_sem]) ?_
  refine (closure_idle _ _ w).mono ?_
  rintro e u' w' ⟨rfl, rfl, rfl⟩
  exact ⟨_, res_run h hr hw ho, hR⟩

/-! ### the body -/
abbrev fr0 (s : ByteArray) : List V := [.w (.c (.cs s)), undefV, e0, e1, undefV, undefV, undefV, undefV, undefV, undefV, undefV, undefV, undefV, undefV, undefV, undefV, undefV, undefV, undefV, undefV, undefV, undefV]
theorem code0 (s : ByteArray) (hs : s.size ≤ 9223372036854775807) (w : World) (rest : Code) (ops0 ops1 : Array Oper) (hbody : Try.f28.body = some (.seq (.region 0 ops0 false) (.seq (.region 1 ops1 false) rest))) (R : Ending → World → Prop)
    (h : ∀ τ a w', FRep [dfr τ] τ a ((fr0 s).set 4 (.w (.c (.cf 63 [.cp 0 0, .cp 1 0])))) → Rep E0.G τ w.heap.size w w' [enB 0 0 noS, erB 0] → rest.wp Try.prog (bodyPostD Try.prog Try.f28 R) a w') : Calls Try.prog 28 #[.string s] w R := by
  refine calls_of_wp_defers Try.func28 hbody ?_
  obtain ⟨rfl, rfl, rfl⟩ : ops0 = _ ∧ ops1 = _ ∧ rest = _ := by
    have := hbody
    simp only [Try.f28, Option.some.injEq, Code.seq.injEq, Code.region.injEq, true_and, and_true] at this
    exact ⟨this.1.symm, this.2.1.symm, this.2.2.symm⟩
  refine wp_seq (wp_mono (code_run (Df := []) F0_ok 0 _ (lo := 0) (fr := [V.w (.c (.cs s))] ++ List.replicate 21 undefV) (H := []) (Q := fun ex fr' H' => ex = .normal ∧ fr' = fr0 s ∧ H' = [enB 0 0 noS, erB 0]) ?_ (frame_ok (ws := [.c (.cs s)]) ⟨hs, trivial⟩ rfl 21) ⟨fun b hb => by simp at hb, fun b hb => by simp at hb⟩ (Nat.le_refl _) (σ := fun _ => (0, 0)) (base := w.heap.size) (w₀ := w) (frame_rep _ [.c (.cs s)] 21)
    ⟨Below.refl _ _, Nat.le_refl _, fun j b hj => by simp at hj, fun i j b c hi => by simp at hi, fun g ss hg => by cases hg⟩) ?_)
  · repeat' ((conv => whnf); first | (refine And.intro rfl ?_) | rfl | fail)
  · rintro e a w1 ⟨τ, fr', H', ex, rfl, ⟨rfl, rfl, rfl⟩, g1, g2, g3, g4, g5, g6⟩
    have t2 : a.tmps.getD 2 undef = (C.cp 0 0).den τ := g4.rep 2 _ rfl
    have t3 : a.tmps.getD 3 undef = (C.cp 1 0).den τ := g4.rep 3 _ rfl
    have hsz : a.tmps.size = 22 := g4.size
    show Code.wp _ _ _ a w1
    refine wp_seq ?_
    refine wp_region ?_
    show wpOps _ _ _ [0, 1] a w1
    simp [wpOps, Oper.wp, Region.wanted, go_sem, execOp, resolve, Deferred.ofValue, Act.eval, t2, t3, hsz]
    refine .inl (.inl ?_)
    have gp := g4.put (d := some 4) (x := .w (.c (.cf 63 [.cp 0 0, .cp 1 0]))) (v := .func (.func 63) #[] #[(C.cp 0 0).den τ, (C.cp 1 0).den τ]) rfl
    refine h τ _ w1 ?_ g2
    exact ⟨by rw [g4.dfr], gp.size, gp.rep⟩
theorem kE_in (s : ByteArray) : 0 ≤ kE s ∧ kE s ≤ 255 := by
  unfold kE
  have := (s.get! 0).toNat_lt
  omega
noncomputable def FRe : Fns := ((F0.plus 64 ctMust).plus 65 ctNum).plus 27 (ctEn fun k _ d => rightE k d)
theorem FRe_ok : FnsOk Try.prog FRe := ((F0_ok.plus must_ct Try.func64 (by kernel_rfl) (by kernel_rfl)).plus num_ct Try.func65 (by kernel_rfl) (by kernel_rfl)).plus enRight_ct Try.func27 (by kernel_rfl) (by kernel_rfl)
abbrev fr1 (s : ByteArray) : List V := (fr0 s).set 4 (.w (.c (.cf 63 [.cp 0 0, .cp 1 0])))
theorem fr1_ok (s : ByteArray) (hs : s.size ≤ 9223372036854775807) : FOk 2 (fr1 s) := ⟨fun x hx => by
  simp only [fr1, fr0, List.set_cons_succ, List.set_cons_zero, List.mem_cons, List.not_mem_nil, or_false] at hx
  rcases hx with rfl | rfl | rfl | rfl | rfl | rfl | rfl | rfl | rfl | rfl | rfl | rfl | rfl | rfl | rfl | rfl | rfl | rfl | rfl | rfl | rfl | rfl
  · exact ⟨hs, rfl⟩
  all_goals exact ⟨by simp only [V.rng, W.rng, C.rng, C.rngL, undefV, rngW]; try trivial, rfl⟩⟩
theorem e_ok : HOk [enB 0 0 noS, erB 0] := by
  refine ⟨fun b hb => ?_, fun b hb => ?_⟩ <;> (simp only [List.mem_cons, List.not_mem_nil, or_false] at hb; rcases hb with rfl | rfl)
  · exact ⟨by show InK .i64 0; simp only [InK, lowK, highK]; omega, by show InK .u32 0; simp only [InK, lowK, highK]; omega, Nat.zero_le _, trivial⟩
  · exact ⟨by show InK .i64 0; simp only [InK, lowK, highK]; omega, trivial⟩
  · rfl
  · rfl
theorem read_right (s : ByteArray) (hs : s.size ≤ 9223372036854775807) (h5 : 5 ≤ s.size) (hr : rightE (kE s) (dE s)) (w : World) :
    Calls Try.prog 28 #[.string s] w fun e w' => e = .returned (.tuple #[.agg #[.int .i64 (kE s), .int .u32 (tE s), .string (dE s)], .int .i64 0]) ∧ Below w.heap.size w w' := by
  refine code0 s hs w _ _ _ rfl _ fun τ a w' hf hw => ?_
  refine wp_mono (code_run FRe_ok 0 _ (lo := 2) (H := [enB 0 0 noS, erB 0]) (fr := fr1 s) (Q := fun ex fr' H' => ex = .ret ∧ Holds fr' ∧ H' = [enB (kE s) (tE s) (dE s), erB 0]) ?_ (fr1_ok s hs) e_ok (Nat.le_refl _) hf hw) ?_
  · repeat' ((conv => whnf); first | (refine ask_true (by omega) ?_) | (refine And.intro rfl ?_) | fail)
    conv => whnf
    refine And.intro ⟨Int.le_refl 0, by omega⟩ (fun r hr0 => ?_)
    obtain rfl : r = kE s := hr0
    have hk0 := kE_in s
    conv => whnf
    refine ask_wrap64 (by omega) (by omega) ?_
    conv => whnf
    refine And.intro (by omega) ?_
    conv => whnf
    refine And.intro (by decide) ?_
    conv => whnf
    refine And.intro (by rw [ByteArray.size_extract]; show 4 ≤ min 5 s.size - 1; omega) (fun v hv h0 h1 => ?_)
    obtain rfl : v = tE s := hv
    conv => whnf
    refine And.intro (by omega) ?_
    conv => whnf
    refine ⟨by kernel_rfl, ?_⟩
    conv => whnf
    refine ask_true hr ?_
    conv => whnf
    refine And.intro rfl ?_
    conv => whnf
    refine ⟨by kernel_rfl, ?_⟩
    conv => whnf
    exact ⟨⟨rfl, rfl, rfl⟩, rfl⟩
  · rintro e a' w'' ⟨τ', fr', H', ex, rfl, ⟨rfl, q1, rfl⟩, g1, g2, g3, g4, g5, g6⟩
    rw [dfr_agree g1] at g4
    exact leave_ok q1 g4 g2 g3 ⟨rfl, g2.below⟩
theorem must_last {dst : Option Tmp} {ty : TypeId} {pos : String} {after : Array Edge} {slot : Nat} {n : Int} {ops : Array Oper} {i : Nat} {Q : Exit → Act → World → Prop} {a : Act} {w : World}
    (hop : ops[i]? = some { dst, op := .call { callee := .value (.func 64), args := #[.tmp slot, .const (.int .i64 n)], argTypes := #[4, 26] }, type := ty, pos, after, guard := none }) (hv : a.tmps.getD slot undef = .bool false)
    (hq : Q (.panic [{ v := errV n, recovered := false }]) a w) : wpOps Try.prog ops Q [i] a w := by
  have hw : Region.wanted { dst := dst, op := Op.call { callee := Callee.value (.func 64), args := #[Operand.tmp slot, .const (.int .i64 n)], argTypes := #[4, 26] }, type := ty, pos := pos, after := after, guard := none } (yielded ops a.tmps) = true := rfl
  simp only [wpOps, hop, hw, if_true]
  refine .inl ?_
  unfold Oper.wp
  rw [call_enter (σ := fun _ => (0, 0)) (g := 64) (caps := []) (ws := [.c (.cb false), .c (.ci .i64 n)]) rfl (by simp [Act.eval, hv, W.den, C.den]) (enter_of Try.func64 (by kernel_rfl) (by kernel_rfl)) w, Oper.upon_enter]
  refine (must_panics n w).mono ?_
  rintro e w' ⟨rfl, rfl⟩
  exact hq
theorem region_pre {F : Fns} (hF : FnsOk Try.prog F) {Df : List Deferred} {σ : Sg} {id : Nat} {ops : Array Oper} {rest : Code} {n lo base : Nat} {fr : List V} {H : List Blk} {K : List V → List Blk → Prop} {Q : Exit → Act → World → Prop} {a : Act} {w₀ w : World} (hsz : ops.size = n + 1) (hlen : (ops.toList.take n).length = n)
    (h : xops Try.prog E0 (calF Try.prog E0 F (drwA Try.prog E0 F) 0) ops.toList (ops.toList.take n) fr H K) (hf : FOk H.length fr) (ho : HOk H) (hl : lo ≤ H.length) (hr : FRep Df σ a fr) (hw : Rep E0.G σ base w₀ w H)
    (fin : ∀ τ fr H a w, K fr H → Sg.agree lo σ τ → Rep E0.G τ base w₀ w H → HOk H → FRep Df τ a fr → wpOps Try.prog ops (Exit.then (rest.wp Try.prog Q) Q) [n] a w) : (Code.seq (.region id ops false) rest).wp Try.prog Q a w := by
  refine wp_seq (wp_region ?_)
  have e : List.range ops.size = List.range' 0 ((ops.toList.take n).length + 1) := by rw [hlen, hsz, List.range_eq_range']
  rw [e]
  refine xops_pre E0_ok (calF_ok E0_ok hF (fun cal hc => drwA_ok E0_ok hF mixed cal hc) 0) ops (ops.toList.take n) 0 (fun j hj => ?_) h hf ho hl (fun τ fr H a w k1 k2 k3 k4 k5 _ _ => ?_) (fun _ _ => rfl) hr hw
  · rw [hlen] at hj
    rw [List.getElem?_take, if_pos hj, Nat.zero_add]
    simp
  · rw [hlen, Nat.zero_add]
    exact fin τ fr H a w k1 k2 k3 k4 k5
theorem read_short (s : ByteArray) (hs : s.size ≤ 9223372036854775807) (h5 : s.size < 5) (w : World) :
    Calls Try.prog 28 #[.string s] w fun e w' => e = .returned (.tuple #[.agg #[.int .i64 0, .int .u32 0, .string noS], .int .i64 2]) ∧ Below w.heap.size w w' := by
  refine code0 s hs w _ _ _ rfl _ fun τ a w' hf hw => ?_
  refine region_pre FRe_ok (n := 3) (lo := 2) (fr := fr1 s) (H := [enB 0 0 noS, erB 0]) (K := fun fr' H' => Holds fr' ∧ fr'[7]? = some (vb false) ∧ H' = [enB 0 0 noS, erB 0]) rfl rfl ?_ (fr1_ok s hs) e_ok (Nat.le_refl _) hf hw ?_
  · repeat' ((conv => whnf); first | (refine ask_false (by omega) ?_) | fail)
    conv => whnf
    exact ⟨⟨rfl, rfl, rfl⟩, rfl, rfl⟩
  · rintro τ' fr' _ a' w'' ⟨k1, k2, rfl⟩ k3 k4 k5 k6
    refine must_last (slot := 7) rfl (k6.rep 7 _ k2) ?_
    show Leaves _ _ _ _ _ _ _
    rw [dfr_agree k3] at k6
    exact leave_panic k1 k6 k4 k5 (by simp only [InK, lowK, highK]; omega) fun w' hb => ⟨rfl, hb⟩
abbrev fr2 (s : ByteArray) : List V := [.w (.c (.cs s)), undefV, e0, e1, .w (.c (.cf 63 [.cp 0 0, .cp 1 0])), .w (.c (.cs s)), vi s.size, vb true, .tup [], undefV, undefV, undefV, undefV, undefV, undefV, undefV, undefV, undefV, undefV, undefV, undefV, undefV]
theorem read_wrong (s : ByteArray) (hs : s.size ≤ 9223372036854775807) (h5 : 5 ≤ s.size) (hr : ¬ rightE (kE s) (dE s)) (w : World) :
    Calls Try.prog 28 #[.string s] w fun e w' => e = .returned (.tuple #[.agg #[.int .i64 0, .int .u32 0, .string noS], .int .i64 4]) ∧ Below w.heap.size w w' := by
  refine code0 s hs w _ _ _ rfl _ fun τ a w' hf hw => ?_
  refine wp_seq (wp_mono (code_run FRe_ok 0 _ (lo := 2) (H := [enB 0 0 noS, erB 0]) (fr := fr1 s) (Q := fun ex fr' H' => ex = .normal ∧ fr' = fr2 s ∧ H' = [enB 0 0 noS, erB 0]) ?_ (fr1_ok s hs) e_ok (Nat.le_refl _) hf hw) ?_)
  · repeat' ((conv => whnf); first | (refine ask_true (by omega) ?_) | (refine And.intro rfl ?_) | fail)
    rfl
  rintro e a' w'' ⟨τ', _, _, ex, rfl, ⟨rfl, rfl, rfl⟩, g1, g2, g3, g4, g5, g6⟩
  show Code.wp _ _ _ a' w''
  have hk0 := kE_in s
  refine wp_seq (wp_mono (code_run FRe_ok 0 _ (lo := 2) (H := [enB 0 0 noS, erB 0]) (fr := fr2 s) (Q := fun ex fr' H' => ex = .normal ∧ Holds fr' ∧ H' = [enB (kE s) (tE s) (dE s), erB 0]) ?_ g5 g3 (Nat.le_refl _) g4 g2) ?_)
  · conv => whnf
    refine And.intro ⟨Int.le_refl 0, by omega⟩ (fun r hr0 => ?_)
    conv => whnf
    obtain rfl : r = kE s := hr0
    conv => whnf
    refine ask_wrap64 (by omega) (by omega) ?_
    conv => whnf
    refine And.intro (by omega) ?_
    conv => whnf
    refine And.intro (by decide) ?_
    conv => whnf
    refine And.intro (by rw [ByteArray.size_extract]; show 4 ≤ min 5 s.size - 1; omega) (fun v hv h0 h1 => ?_)
    obtain rfl : v = tE s := hv
    conv => whnf
    refine And.intro (by omega) ?_
    conv => whnf
    refine ⟨by kernel_rfl, ?_⟩
    conv => whnf
    exact ⟨rfl, ⟨rfl, rfl, rfl⟩, rfl⟩
  rintro e b wb ⟨τb, frb, _, ex, rfl, ⟨rfl, q1, rfl⟩, b1, b2, b3, b4, b5, b6⟩
  show Code.wp _ _ _ b wb
  refine region_pre FRe_ok (n := 2) (lo := 2) (fr := Go.Proofs.Ytbgjmlncdlcglaa.mask) (H := [enB (kE s) (tE s) (dE s), erB 0]) (K := fun fr' H' => Holds fr' ∧ fr'[19]? = some (vb false) ∧ H' = [enB (kE s) (tE s) (dE s), erB 0]) rfl rfl ?_ mask_ok b3 (Nat.le_refl _) (q1.mask b4) b2 ?_
  · repeat' ((conv => whnf); first | (refine ask_false hr ?_) | fail)
    conv => whnf
    exact ⟨⟨rfl, rfl, rfl⟩, rfl, rfl⟩
  · rintro τ' fr' _ a' w'' ⟨k1, k2, rfl⟩ k3 k4 k5 k6
    refine must_last (slot := 19) rfl (k6.rep 19 _ k2) ?_
    show Leaves _ _ _ _ _ _ _
    rw [dfr_agree g1, dfr_agree b1, dfr_agree k3] at k6
    exact leave_panic k1 k6 k4 k5 (by simp only [InK, lowK, highK]; omega) fun w' hb => ⟨rfl, hb⟩
theorem tE_in (s : ByteArray) : InK .u32 (tE s) := by
  have := le4_in (bytesI_in (s.extract 1 5))
  simp only [InK, lowK, highK]
  exact this
def ctReadE : Ct := fun ws K => match ws with
  | [.c (.cs s)] => (s.size < 5 → K (.tup [enW 0 0 noS, i64 2])) ∧ (5 ≤ s.size → rightE (kE s) (dE s) → ∀ k t d, k = kE s → t = tE s → d = dE s → K (.tup [enW k t d, i64 0])) ∧ (5 ≤ s.size → ¬ rightE (kE s) (dE s) → K (.tup [enW 0 0 noS, i64 4]))
  | _ => False
theorem readE_ct : CtOk Try.prog 28 ctReadE := by
  intro ws K h' hr
  unfold ctReadE at h'
  split at h'
  · rename_i s
    obtain ⟨h1, h2, h3⟩ := h'
    have hs : s.size ≤ 9223372036854775807 := hr.1
    have small : ∀ n : Int, 0 ≤ n → n ≤ 255 → InK .i64 n := fun n _ _ => by simp only [InK, lowK, highK]; omega
    have small' : InK .u32 0 := by simp only [InK, lowK, highK]; omega
    have fin : ∀ (k t n : Int) (d : ByteArray) (σ : Sg), (V.tup [enW k t d, i64 n]).rep σ (.tuple #[.agg #[.int .i64 k, .int .u32 t, .string d], .int .i64 n]) := fun k t n d σ => by
      show Value.tuple _ = Value.tuple _
      rfl
    have go : ∀ (k t n : Int) (d : ByteArray) (σ : Sg) (w : World), (Calls Try.prog 28 #[.string s] w fun e w' => e = .returned (.tuple #[.agg #[.int .i64 k, .int .u32 t, .string d], .int .i64 n]) ∧ Below w.heap.size w w') →
        Calls Try.prog 28 ([W.c (.cs s)].map (W.den σ)).toArray w fun e w' => ∃ v, e = .returned v ∧ (V.tup [enW k t d, i64 n]).rep σ v ∧ Below w.heap.size w w' := fun k t n d σ w h => by
      refine h.mono ?_
      rintro e w' ⟨rfl, hb⟩
      exact ⟨_, rfl, fin k t n d σ, hb⟩
    rcases Nat.lt_or_ge s.size 5 with h5 | h5
    · exact ⟨_, h1 h5, ⟨⟨⟨small 0 (by decide) (by decide), small', Nat.zero_le _, trivial⟩, small 2 (by decide) (by decide), trivial⟩, rfl⟩, fun σ w => go _ _ _ _ σ w (read_short s hs h5 w)⟩
    · rcases Classical.em (rightE (kE s) (dE s)) with hp | hp
      · have hk := kE_in s
        have hd : (dE s).size ≤ 9223372036854775807 := by rw [dE, ByteArray.size_extract]; omega
        exact ⟨_, h2 h5 hp _ _ _ rfl rfl rfl, ⟨⟨⟨small _ hk.1 hk.2, tE_in s, hd, trivial⟩, small 0 (by decide) (by decide), trivial⟩, rfl⟩, fun σ w => go _ _ _ _ σ w (read_right s hs h5 hp w)⟩
      · exact ⟨_, h3 h5 hp, ⟨⟨⟨small 0 (by decide) (by decide), small', Nat.zero_le _, trivial⟩, small 4 (by decide) (by decide), trivial⟩, rfl⟩, fun σ w => go _ _ _ _ σ w (read_wrong s hs h5 hp w)⟩
  · exact h'.elim
end Go.Proofs.Ytbgjmlncdlcglaa
