/- Chapter entry: entries are compared field by field. -/
import Derived.Test.YtbgjmlncdlcglaaBne
set_option linter.all false
namespace Go.Proofs.Ytbgjmlncdlcglaa
open Go.RowKit (Below)
set_option maxRecDepth 100000
set_option maxHeartbeats 4000000

theorem eqok_ent {P : Program} {t : TypeId} {f g h : Field} (hfs : (P.fieldsOf t).toList = [f, g, h]) (hu : P.underlying t = some (.struct (P.fieldsOf t))) (hs : P.stoodInHeld t = false) (hg : P.eqGuardType P.depth t = false)
    (f1 : f.name ≠ "_") (g1 : g.name ≠ "_") (h1 : h.name ≠ "_") (fo : f.offset = 0) (go : g.offset = 1) (ho : h.offset = 2) (ft : P.underlying f.type = some (.int .i64)) (gt : P.underlying g.type = some (.int .u32)) (ht : P.underlying h.type = some .string)
    (fp : P.plainKey f.type = true) (gp : P.plainKey g.type = true) (hp : P.plainKey h.type = true) : EqOk P t [.i .i64, .i .u32, .s] := by
  intro X Y hX hY w
  have laid : ∀ Z : List Value, shaped [.i .i64, .i .u32, .s] Z → ∃ a b s, Z = [.int .i64 a, .int .u32 b, .string s] := fun Z hz => by
    match Z, hz with
    | [x, y, z], ⟨q1, q2, q3, _⟩ =>
      cases x <;> simp only [cellIs] at q1
      cases y <;> simp only [cellIs] at q2
      cases z <;> simp only [cellIs] at q3
      subst q1 q2
      exact ⟨_, _, _, rfl⟩
  obtain ⟨a, b, s, rfl⟩ := laid X hX
  obtain ⟨a', b', s', rfl⟩ := laid Y hY
  refine ⟨?_, fun op u v => run_eqGuard_agg w op t u v _ _ hg⟩
  have p1 : ∀ (a b : Int) (s : ByteArray), (part f.type [Value.int .i64 a, .int .u32 b, .string s].toArray f.offset).run P w = .ok (.int .i64 a) w := fun a b s => run_part_plain (P := P) w fp (by rw [fo]; rfl)
  have p2 : ∀ (a b : Int) (s : ByteArray), (part g.type [Value.int .i64 a, .int .u32 b, .string s].toArray g.offset).run P w = .ok (.int .u32 b) w := fun a b s => run_part_plain (P := P) w gp (by rw [go]; rfl)
  have p3 : ∀ (a b : Int) (s : ByteArray), (part h.type [Value.int .i64 a, .int .u32 b, .string s].toArray h.offset).run P w = .ok (.string s) w := fun a b s => run_part_plain (P := P) w hp (by rw [ho]; rfl)
  have e1 := run_equalIn_int (P := P) w 9998 f.type .i64 .i64 a a' ft
  have e2 := run_equalIn_int (P := P) w 9998 g.type .u32 .u32 b b' gt
  have e3 := run_equalIn_string (P := P) w 9998 h.type s s' ht
  rw [toList_beq] at e3
  refine ⟨decide (a = a') && (decide (b = b') && decide (s = s')), ?_, ?_⟩
  · show (Op.equalIn 10000 t _ _).run P w = _
    rw [run_equalIn_struct w 9999 t _ _ hu hs, hfs]
    simp only [Op.eqFields, f1, ne_eq, not_false_eq_true, if_true, Sem.run_bind, p1, e1, Result.andThen_ok]
    cases hq1 : (a == a')
    · have : a ≠ a' := by simpa using hq1
      simp [this]
    · have r1 : a = a' := by simpa using hq1
      simp only [Bool.not_true, Bool.false_eq_true, if_false, g1, ne_eq, not_false_eq_true, if_true, Sem.run_bind, p2, e2, Result.andThen_ok]
      cases hq2 : (b == b')
      · have : b ≠ b' := by simpa using hq2
        simp [this]
      · have r2 : b = b' := by simpa using hq2
        simp only [Bool.not_true, Bool.false_eq_true, if_false, h1, ne_eq, not_false_eq_true, if_true, Sem.run_bind, p3, e3, Result.andThen_ok]
        by_cases r3 : s = s'
        · simp [r1, r2, r3]
        · simp [r3]
  · simp
def fdK : Field := { name := "Kind", type := 3, offset := 0, embedded := false, tag := "", pkgPath := "", byteOffset := 0 }
def fdS : Field := { name := "Stamp", type := 22, offset := 1, embedded := false, tag := "", pkgPath := "", byteOffset := 8 }
def fdD : Field := { name := "Data", type := 9, offset := 2, embedded := false, tag := "", pkgPath := "", byteOffset := 16 }
def E3 : Env := ⟨fun _ => none, fun t => match Nat.beq t 29 with
  | true => some [.i .i64, .i .u32, .s]
  | false => match Nat.beq t 24 with
    | true => some [.i .i64, .i .u32, .s]
    | false => E2.EQ t⟩
theorem E3_ok : EnvOk Try.prog E3 := by
  refine ⟨⟨fun _ _ h => (by cases h)⟩, fun t ks h => ?_⟩
  simp only [E3] at h
  split at h
  · rename_i hb
    obtain rfl := Nat.eq_of_beq_eq_true hb
    cases h
    exact eqok_ent (f := fdK) (g := fdS) (h := fdD) (by kernel_rfl) (by kernel_rfl) (by kernel_rfl) (by kernel_rfl) (by decide) (by decide) (by decide) rfl rfl rfl (by kernel_rfl) (by kernel_rfl) (by kernel_rfl) (by kernel_rfl) (by kernel_rfl) (by kernel_rfl)
  · split at h
    · rename_i hb
      obtain rfl := Nat.eq_of_beq_eq_true hb
      cases h
      exact eqok_ent (f := fdK) (g := fdS) (h := fdD) (by kernel_rfl) (by kernel_rfl) (by kernel_rfl) (by kernel_rfl) (by decide) (by decide) (by decide) rfl rfl rfl (by kernel_rfl) (by kernel_rfl) (by kernel_rfl) (by kernel_rfl) (by kernel_rfl) (by kernel_rfl)
    · exact E2_ok.eq t ks h
abbrev walk3 (F : Fns) (n : Nat) (fn : Func) (ws : List W) (H : List Blk) (K : V → List Blk → Prop) : Prop := xfun Try.prog E3 (calF Try.prog E3 F (drwA Try.prog E3 F) n) (drwA Try.prog E3 F (calF Try.prog E3 F (drwA Try.prog E3 F) n)) fn ws H K
theorem walk3_calls {F : Fns} (hF : FnsOk Try.prog F) {n : Nat} {f : FuncId} {fn : Func} (hf : Try.prog.funcs[f]? = some fn) {ws : List W} {x : V} (hx : x.bnd 0 = true) (hr : rngW ws) (hb : bndW 0 ws = true)
    (h : walk3 F n fn ws [] fun y _ => y = x) (σ : Sg) (w : World) : Calls Try.prog f (ws.map (W.den σ)).toArray w fun e w' => ∃ v, e = .returned v ∧ x.rep σ v ∧ Below w.heap.size w w' :=
  call_of E3_ok (fun _ => rfl) (calF_ok E3_ok hF (fun cal hc => drwA_ok E3_ok hF mixed cal hc) n) (drwA_ok E3_ok hF mixed _ (calF_ok E3_ok hF (fun cal hc => drwA_ok E3_ok hF mixed cal hc) n)) hf hx hr hb h σ w
theorem walk3_true {F : Fns} (hF : FnsOk Try.prog F) {n : Nat} {f : FuncId} {fn : Func} (hf : Try.prog.funcs[f]? = some fn) {ws : List W} (hr : rngW ws) (hb : bndW 0 ws = true)
    (h : walk3 F n fn ws [] fun y _ => y = .w (.c (.cb true))) (w : World) : Calls Try.prog f (ws.map (W.den fun _ => (0, 0))).toArray w fun e w' => e = .returned (.bool true) ∧ Below w.heap.size w w' := by
  refine (walk3_calls hF hf rfl hr hb h (fun _ => (0, 0)) w).mono ?_
  rintro e w' ⟨v, rfl, h1, h2⟩
  exact ⟨by rw [show v = _ from h1]; rfl, h2⟩
theorem ask_ent {k k' t t' : Int} {d d' : ByteArray} {K : Bool → Prop} (h : k = k' ∧ t = t' ∧ d = d') (hk : K true) : ∀ τ, τ = (false ^^ (decide (k = k') && (decide (t = t') && (decide (d = d') && true)))) → K τ := by
  rintro τ rfl
  obtain ⟨rfl, rfl, rfl⟩ := h
  simpa using hk
theorem ask_nent {k k' t t' : Int} {d d' : ByteArray} {K : Bool → Prop} (h : k = k' ∧ t = t' ∧ d = d') (hk : K false) : ∀ τ, τ = (true ^^ (decide (k = k') && (decide (t = t') && (decide (d = d') && true)))) → K τ := by
  rintro τ rfl
  obtain ⟨rfl, rfl, rfl⟩ := h
  simpa using hk
end Go.Proofs.Ytbgjmlncdlcglaa
