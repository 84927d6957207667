/- Chapter lost: the law LostPlays, walked. -/
import Derived.Test.YtbgjmlncdlcglaaBnd
import Derived.Test.YtbgjmlncdlcglaaBmh
set_option linter.all false
namespace Go.Proofs.Ytbgjmlncdlcglaa
open Go.RowKit (Below)
set_option maxRecDepth 100000
set_option maxHeartbeats 32000000

theorem flds_state : FldsOk Try.prog .i64 (Try.prog.fieldsOf 47).toList 0 38 := by
  have e : (Try.prog.fieldsOf 47).toList = (Try.prog.fieldsOf 47).toList := rfl
  conv => whnf
  refine ⟨16, by kernel_rfl, fld_arr (e := 3) (by decide) (by kernel_rfl) rfl (by kernel_rfl) (by kernel_rfl) (by kernel_rfl) rfl (by kernel_rfl) (by kernel_rfl), ?_⟩
  conv => whnf
  refine ⟨1, by kernel_rfl, fld_int (by decide) (by kernel_rfl) (by kernel_rfl), ?_⟩
  conv => whnf
  refine ⟨4, by kernel_rfl, fld_arr (e := 3) (by decide) (by kernel_rfl) rfl (by kernel_rfl) (by kernel_rfl) (by kernel_rfl) rfl (by kernel_rfl) (by kernel_rfl), ?_⟩
  conv => whnf
  refine ⟨16, by kernel_rfl, fld_arr (e := 3) (by decide) (by kernel_rfl) rfl (by kernel_rfl) (by kernel_rfl) (by kernel_rfl) rfl (by kernel_rfl) (by kernel_rfl), ?_⟩
  conv => whnf
  refine ⟨1, by kernel_rfl, fld_int (by decide) (by kernel_rfl) (by kernel_rfl), ?_⟩
  exact (rfl : (38 : Nat) = 38)
theorem flds_plain : FldsOk Try.prog .i64 (Try.prog.fieldsOf 44).toList 0 38 := by
  conv => whnf
  refine ⟨16, by kernel_rfl, fld_arr (e := 3) (by decide) (by kernel_rfl) rfl (by kernel_rfl) (by kernel_rfl) (by kernel_rfl) rfl (by kernel_rfl) (by kernel_rfl), ?_⟩
  conv => whnf
  refine ⟨1, by kernel_rfl, fld_int (by decide) (by kernel_rfl) (by kernel_rfl), ?_⟩
  conv => whnf
  refine ⟨4, by kernel_rfl, fld_arr (e := 3) (by decide) (by kernel_rfl) rfl (by kernel_rfl) (by kernel_rfl) (by kernel_rfl) rfl (by kernel_rfl) (by kernel_rfl), ?_⟩
  conv => whnf
  refine ⟨16, by kernel_rfl, fld_arr (e := 3) (by decide) (by kernel_rfl) rfl (by kernel_rfl) (by kernel_rfl) (by kernel_rfl) rfl (by kernel_rfl) (by kernel_rfl), ?_⟩
  conv => whnf
  refine ⟨1, by kernel_rfl, fld_int (by decide) (by kernel_rfl) (by kernel_rfl), ?_⟩
  exact (rfl : (38 : Nat) = 38)
def E2 : Env := ⟨fun _ => none, fun t => match Nat.beq t 47 with
  | true => some (List.replicate 38 (.i .i64))
  | false => match Nat.beq t 44 with
    | true => some (List.replicate 38 (.i .i64))
    | false => E1.EQ t⟩
theorem E2_ok : EnvOk Try.prog E2 := by
  refine ⟨⟨fun _ _ h => (by cases h)⟩, fun t ks h => ?_⟩
  simp only [E2] at h
  split at h
  · rename_i hb
    obtain rfl := Nat.eq_of_beq_eq_true hb
    cases h
    exact eqok_struct (by kernel_rfl) (by kernel_rfl) flds_state (by kernel_rfl)
  · split at h
    · rename_i hb
      obtain rfl := Nat.eq_of_beq_eq_true hb
      cases h
      exact eqok_struct (by kernel_rfl) (by kernel_rfl) flds_plain (by kernel_rfl)
    · exact E1_ok.eq t ks h
abbrev walk2 (F : Fns) (n : Nat) (fn : Func) (ws : List W) (H : List Blk) (K : V → List Blk → Prop) : Prop := xfun Try.prog E2 (calF Try.prog E2 F (drwA Try.prog E2 F) n) (drwA Try.prog E2 F (calF Try.prog E2 F (drwA Try.prog E2 F) n)) fn ws H K
theorem walk2_calls {F : Fns} (hF : FnsOk Try.prog F) {n : Nat} {f : FuncId} {fn : Func} (hf : Try.prog.funcs[f]? = some fn) {ws : List W} {x : V} (hx : x.bnd 0 = true) (hr : rngW ws) (hb : bndW 0 ws = true)
    (h : walk2 F n fn ws [] fun y _ => y = x) (σ : Sg) (w : World) : Calls Try.prog f (ws.map (W.den σ)).toArray w fun e w' => ∃ v, e = .returned v ∧ x.rep σ v ∧ Below w.heap.size w w' :=
  call_of E2_ok (fun _ => rfl) (calF_ok E2_ok hF (fun cal hc => drwA_ok E2_ok hF mixed cal hc) n) (drwA_ok E2_ok hF mixed _ (calF_ok E2_ok hF (fun cal hc => drwA_ok E2_ok hF mixed cal hc) n)) hf hx hr hb h σ w
theorem walk2_true {F : Fns} (hF : FnsOk Try.prog F) {n : Nat} {f : FuncId} {fn : Func} (hf : Try.prog.funcs[f]? = some fn) {ws : List W} (hr : rngW ws) (hb : bndW 0 ws = true)
    (h : walk2 F n fn ws [] fun y _ => y = .w (.c (.cb true))) (w : World) : Calls Try.prog f (ws.map (W.den fun _ => (0, 0))).toArray w fun e w' => e = .returned (.bool true) ∧ Below w.heap.size w w' := by
  refine (walk2_calls hF hf rfl hr hb h (fun _ => (0, 0)) w).mono ?_
  rintro e w' ⟨v, rfl, h1, h2⟩
  exact ⟨by rw [show v = _ from h1]; rfl, h2⟩
theorem ask_st (s t : St) {K : Bool → Prop} (h : s = t) (hk : K true) : ∀ τ, τ = (false ^^ (decide (s.m = t.m) && (decide (s.l = t.l) && (decide (s.v = t.v) && (decide (s.w = t.w) && (decide (s.q = t.q) && true)))))) → K τ := by
  rintro τ rfl
  subst h
  simpa using hk
/-- A state's cells. -/
theorem st_split (xs : List Int) (h : xs.length = 38) (hx : ∀ x ∈ xs, InK .i64 x) : ∃ s : St, StOk s ∧ W.den (fun _ => (0, 0)) (stW s) = Value.agg (xs.map (Value.int .i64)).toArray := by
  have i16 : 16 < xs.length := by omega
  have i37 : 37 < xs.length := by omega
  have e : xs = xs.take 16 ++ (xs[16] :: ((xs.drop 17).take 4 ++ ((xs.drop 21).take 16 ++ [xs[37]]))) := by
    have e1 : (xs.drop 21).drop 16 = [xs[37]] := by
      rw [List.drop_drop, List.drop_eq_getElem_cons i37, List.drop_of_length_le (by omega)]
    have e2 : (xs.drop 17).drop 4 = (xs.drop 21).take 16 ++ [xs[37]] := by
      rw [List.drop_drop, ← e1, List.take_append_drop]
    have e3 : xs.drop 16 = xs[16] :: ((xs.drop 17).take 4 ++ ((xs.drop 21).take 16 ++ [xs[37]])) := by
      rw [List.drop_eq_getElem_cons i16, ← e2, List.take_append_drop]
    rw [← e3, List.take_append_drop]
  refine ⟨⟨xs.take 16, xs[16], (xs.drop 17).take 4, (xs.drop 21).take 16, xs[37]⟩, ⟨⟨by simp; omega, fun x hm => hx x (List.mem_of_mem_take hm)⟩, hx _ (List.getElem_mem _), ⟨by simp; omega, fun x hm => hx x (List.mem_of_mem_drop (List.mem_of_mem_take hm))⟩, ⟨by simp; omega, fun x hm => hx x (List.mem_of_mem_drop (List.mem_of_mem_take hm))⟩, hx _ (List.getElem_mem _)⟩, ?_⟩
  conv => rhs; rw [e]
  simp [W.den, dens, Seg.den, C.den]

/-! ### the document's example -/
theorem cut_none (n : Int) (h : n = 22 ∨ n = 16 ∨ n = 32) : cutS 0 n = 0 := by
  rcases h with rfl | rfl | rfl
  · rw [c22_le]; rfl
  · rw [← c16_def, cut16]; rfl
  · rw [cut32]; rfl
theorem c22_none : c22 0 = 0 := by rw [c22_def, cut_none 22 (.inl rfl)]
theorem c16_none : c16 0 = 0 := by rw [c16_def, cut_none 16 (.inr (.inl rfl))]
theorem z16_map {f : Int → Int} (h : f 0 = 0) : z16.map f = z16 := by
  show [f 0, f 0, f 0, f 0, f 0, f 0, f 0, f 0, f 0, f 0, f 0, f 0, f 0, f 0, f 0, f 0] = _
  rw [h]; rfl
theorem overZ_zero : overZ z16 z16 = z16 := by
  unfold overZ
  refine map_range_const fun i => ?_
  unfold over1
  rw [z16_at, cut_none 32 (.inr (.inr rfl)), Int.add_zero, cut_none 32 (.inr (.inr rfl))]
theorem lay1_none : lay1 0 0 = 0 := by
  unfold lay1
  rw [c22_none]
  show c22 0 = 0
  exact c22_none
theorem layP_none : ∀ n, layP 0 z16 n = 0
  | 0 => rfl
  | n + 1 => by
    show lay1 (layP 0 z16 n) (z16.getD n 0) = 0
    rw [layP_none n, z16_at, lay1_none]
theorem laid_none (s : St) (hm : s.m = z16) (hl : s.l = 0) : laidZ s z16 = z16 ∧ laidP s z16 = 0 := by
  unfold laidZ laidP
  rw [hm, hl, c22_none, back1_none, overZ_zero]
  refine ⟨?_, layP_none 16⟩
  unfold layZ
  exact map_range_const fun i => layP_none _
theorem memZ_none : memZ z16 = z16 := by
  unfold memZ
  rw [back2_none]
  exact z16_map (cut_none 32 (.inr (.inr rfl)))
theorem right_st0 : rightP st0 := by
  rw [rightP_def]
  exact ⟨by decide, by decide, by decide, held_z16, by decide, by decide⟩
theorem lose_out0 : loseOut st0 = z16 := by
  rw [loseOut_eq right_st0]
  have e : halfZ st0 = z16 := (show halfZ st0 = z16.map (fun x => x.tdiv 2) from if_pos (show (0 : Int) < 8 by decide)).trans (z16_map (f := fun x => x.tdiv 2) rfl)
  rw [e, (laid_none st0 rfl rfl).1]
  exact z16_map c16_none
theorem lose_st0 : loseSt st0 = ⟨z16, 0, z4, z16, 1⟩ := by
  rw [loseSt_eq right_st0]
  have e : halfZ st0 = z16 := (show halfZ st0 = z16.map (fun x => x.tdiv 2) from if_pos (show (0 : Int) < 8 by decide)).trans (z16_map (f := fun x => x.tdiv 2) rfl)
  rw [e, (laid_none st0 rfl rfl).2, memZ_none]
  rfl
noncomputable def FLa : Fns := F0.plus 51 (ctSS (fun _ => True) loseOut loseSt)
theorem FLa_ok : FnsOk Try.prog FLa := F0_ok.plus lose_ct Try.func51 (by kernel_rfl) (by kernel_rfl)
theorem awake14_walk : walk2 FLa 0 Try.f50 [] [] fun y _ => y = vb true := by
  repeat' ((conv => whnf); first | (refine And.intro ⟨rfl, rfl, rfl⟩ ?_) | (refine And.intro trivial ?_) | (refine ask_same lose_out0 ?_) | (refine ask_st _ _ lose_st0 ?_) | (refine ⟨by kernel_rfl, ?_⟩) | rfl | fail)
theorem awake14_ct : CtOk Try.prog 50 (ct0 (vb true)) := by
  intro ws K h' hr
  unfold ct0 at h'
  split at h'
  · exact ⟨_, h', ⟨trivial, rfl⟩, walk2_calls FLa_ok Try.func50 rfl trivial rfl awake14_walk⟩
  · exact h'.elim
noncomputable def FLb : Fns := (((((FLa.plus 50 (ct0 (vb true))).plus 52 (ctSS (fun _ => True) loseOut (fun _ => st0))).plus 35 ctS1).plus 38 ctS1).plus 53 (ctSt rightP)).plus 54 (ctSS rightP loseOut loseSt)
theorem refLose_ct : CtOk Try.prog 54 (ctSS rightP loseOut loseSt) := ctSS_ok FRl_ok Try.func54 (fun s _ _ => ⟨outN_len _ _ _ _, loseOut_in s⟩) (fun s h _ => loseSt_ok h) fun s h h1 => refLose_walk s h h1
theorem FLb_ok : FnsOk Try.prog FLb := (((((FLa_ok.plus awake14_ct Try.func50 (by kernel_rfl) (by kernel_rfl)).plus gap_ct Try.func52 (by kernel_rfl) (by kernel_rfl)).plus of_ct Try.func35 (by kernel_rfl) (by kernel_rfl)).plus plain_ct Try.func38 (by kernel_rfl) (by kernel_rfl)).plus refRight_ct Try.func53 (by kernel_rfl) (by kernel_rfl)).plus refLose_ct Try.func54 (by kernel_rfl) (by kernel_rfl)
theorem law_LostPlays (xs : List Int) (h : xs.length = 38) (hx : ∀ x ∈ xs, InK .i64 x) (w0 : World) : Calls Try.prog 14 #[.agg (xs.map (Value.int .i64)).toArray] w0 fun e w' => e = .returned (.bool true) ∧ Below w0.heap.size w0 w' := by
  obtain ⟨s, hs, hd⟩ := st_split xs h hx
  have := walk2_true FLb_ok Try.func14 (ws := [stW s]) ⟨hs.rng, trivial⟩ rfl (n := 0) ?_ w0
  · have e : ([stW s].map (W.den fun _ => (0, 0))).toArray = #[Value.agg (xs.map (Value.int .i64)).toArray] := by rw [← hd]; rfl
    rw [e] at this; exact this
  rcases Classical.em (rightP s) with h1 | h1
  · repeat' ((conv => whnf); first | (refine And.intro ⟨rfl, rfl, rfl⟩ ?_) | (refine And.intro trivial ?_) | (refine And.intro h1 ?_) | (refine ask_true h1 ?_) | (with_reducible refine ask_same rfl ?_) | (refine ask_st (loseSt s) (loseSt s) rfl ?_) | (refine ask_st st0 st0 rfl ?_) | (refine ⟨by kernel_rfl, ?_⟩) | rfl | fail)
  · have e1 := loseOut_no h1
    have e2 := loseSt_no h1
    repeat' ((conv => whnf); first | (refine And.intro ⟨rfl, rfl, rfl⟩ ?_) | (refine And.intro trivial ?_) | (refine ask_false h1 ?_) | (with_reducible refine ask_same rfl ?_) | (refine ask_same e1 ?_) | (refine ask_st (loseSt s) st0 e2 ?_) | (refine ask_st st0 (loseSt s) e2.symm ?_) | (refine ask_st st0 st0 rfl ?_) | (refine ⟨by kernel_rfl, ?_⟩) | rfl | fail)
end Go.Proofs.Ytbgjmlncdlcglaa
