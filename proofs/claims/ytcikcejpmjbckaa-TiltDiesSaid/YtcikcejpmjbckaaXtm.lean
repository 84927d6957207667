/- Chapter tilt: the laws, walked. -/
import Derived.Test.YtcikcejpmjbckaaXtl
import Derived.Test.YtcikcejpmjbckaaXr
set_option linter.all false
namespace Go.Proofs.Ytcikcejpmjbckaa
open Go.RowKit (Below)
set_option maxRecDepth 100000
set_option maxHeartbeats 32000000

def E1 : Env := ⟨fun _ => none, fun t => match Nat.beq t 28 with
  | true => some (List.replicate 16 (.i .i64))
  | false => match Nat.beq t 27 with
    | true => some (List.replicate 16 (.i .i64))
    | false => none⟩
theorem E1_ok : EnvOk Try.prog E1 := by
  refine ⟨⟨fun _ _ h => (by cases h)⟩, fun t ks h => ?_⟩
  simp only [E1] at h
  split at h
  · rename_i hb
    obtain rfl := Nat.eq_of_beq_eq_true hb
    cases h
    exact eqok_ints (e := 3) (by kernel_rfl) (by kernel_rfl) rfl (by kernel_rfl) (by kernel_rfl) (by kernel_rfl)
  · split at h
    · rename_i hb
      obtain rfl := Nat.eq_of_beq_eq_true hb
      cases h
      exact eqok_ints (e := 3) (by kernel_rfl) (by kernel_rfl) rfl (by kernel_rfl) (by kernel_rfl) (by kernel_rfl)
    · cases h
abbrev walk1 (F : Fns) (n : Nat) (fn : Func) (ws : List W) (H : List Blk) (K : V → List Blk → Prop) : Prop := xfun Try.prog E1 (calF Try.prog E1 F (drwF Try.prog E1 F) n) (drwF Try.prog E1 F (calF Try.prog E1 F (drwF Try.prog E1 F) n)) fn ws H K
theorem walk1_calls {F : Fns} (hF : FnsOk Try.prog F) {n : Nat} {f : FuncId} {fn : Func} (hf : Try.prog.funcs[f]? = some fn) {ws : List W} {x : V} (hx : x.bnd 0 = true) (hr : rngW ws) (hb : bndW 0 ws = true)
    (h : walk1 F n fn ws [] fun y _ => y = x) (σ : Sg) (w : World) : Calls Try.prog f (ws.map (W.den σ)).toArray w fun e w' => ∃ v, e = .returned v ∧ x.rep σ v ∧ Below w.heap.size w w' :=
  call_of E1_ok (fun _ => rfl) (calF_ok E1_ok hF (fun cal hc => drwF_ok E1_ok hF mixed cal hc) n) (drwF_ok E1_ok hF mixed _ (calF_ok E1_ok hF (fun cal hc => drwF_ok E1_ok hF mixed cal hc) n)) hf hx hr hb h σ w
theorem walk1_true {F : Fns} (hF : FnsOk Try.prog F) {n : Nat} {f : FuncId} {fn : Func} (hf : Try.prog.funcs[f]? = some fn) {ws : List W} (hr : rngW ws) (hb : bndW 0 ws = true)
    (h : walk1 F n fn ws [] fun y _ => y = .w (.c (.cb true))) (w : World) : Calls Try.prog f (ws.map (W.den fun _ => (0, 0))).toArray w fun e w' => e = .returned (.bool true) ∧ Below w.heap.size w w' := by
  refine (walk1_calls hF hf rfl hr hb h (fun _ => (0, 0)) w).mono ?_
  rintro e w' ⟨v, rfl, h1, h2⟩
  exact ⟨by rw [show v = _ from h1]; rfl, h2⟩
theorem ask_same {xs ys : List Int} {K : Bool → Prop} (h : xs = ys) (hk : K true) : ∀ τ, τ = (false ^^ (decide (xs = ys) && true)) → K τ := by
  rintro τ rfl; rw [decide_eq_true h]; exact hk

noncomputable def FY : Fns := ((F0.plus 26 (ctA soundZ)).plus 24 (ctLA (fun l xs => liftZ (c22 l) xs) (fun l xs => prevL (c22 l) xs 16))).plus 28 (ctLA (fun l xs => layZ (c22 l) xs) (fun l xs => layP (c22 l) xs 16))
theorem FY_ok : FnsOk Try.prog FY := ((F0_ok.plus sound_ct Try.func26 (by kernel_rfl) (by kernel_rfl)).plus lift_ct Try.func24 (by kernel_rfl) (by kernel_rfl)).plus lay_ct Try.func28 (by kernel_rfl) (by kernel_rfl)

theorem awake_lift : liftZ (c22 0) [100, 100, 0, 0, 0, 0, 0, 0, 0, 0, 0, 0, 0, 0, 0, 0] = [100, 15, -85, 0, 0, 0, 0, 0, 0, 0, 0, 0, 0, 0, 0, 0] := by
  simp only [liftZ, lift1, prevL, cut22]; decide +kernel
theorem awake_last : prevL (c22 0) [100, 100, 0, 0, 0, 0, 0, 0, 0, 0, 0, 0, 0, 0, 0, 0] 16 = 0 := by
  simp only [prevL, cut22]; decide +kernel
theorem awake05_walk : walk1 FY 0 Try.f23 [] [] fun y _ => y = vb true := by
  conv => whnf
  refine ⟨rfl, ?_⟩
  conv => whnf
  refine ask_same awake_lift ?_
  conv => whnf
  refine ask_true awake_last ?_
  conv => whnf
  rfl
theorem awake05_ct : CtOk Try.prog 23 (ct0 (vb true)) := by
  intro ws K h' hr
  unfold ct0 at h'
  split at h'
  · exact ⟨_, h', ⟨trivial, rfl⟩, walk1_calls FY_ok Try.func23 rfl trivial rfl awake05_walk⟩
  · exact h'.elim
noncomputable def FZ : Fns := FY.plus 23 (ct0 (vb true))
theorem FZ_ok : FnsOk Try.prog FZ := FY_ok.plus awake05_ct Try.func23 (by kernel_rfl) (by kernel_rfl)
abbrev oa (xs : List Int) : Blk := .own 27 [.ints .i64 16 xs]
theorem law_TiltSounds (xs : List Int) (h : xs.length = 16) (hx : ∀ x ∈ xs, InK .i64 x) (w0 : World) : Calls Try.prog 7 #[.agg (xs.map (Value.int .i64)).toArray] w0 fun e w' => e = .returned (.bool true) ∧ Below w0.heap.size w0 w' := by
  have hden : (W.den (fun _ => (0, 0)) (ar 16 xs)) = Value.agg (xs.map (Value.int .i64)).toArray := by simp [W.den, dens, Seg.den]
  have := walk1_true FZ_ok Try.func7 (ws := [ar 16 xs]) ⟨ar_rng h hx, trivial⟩ rfl (n := 0) ?_ w0
  · simpa [hden] using this
  conv => whnf
  refine ⟨rfl, ?_⟩
  conv => whnf
  refine loop_at (4 :: List.range' 9 35) (fun m (i : Int) => 0 ≤ i ∧ i ≤ 16 ∧ m = (16 - i).toNat) (fun i => [(4, vi i)]) (fun i => [oa xs, ob (soundZ xs)]) 16 0 ⟨by decide, by decide, rfl⟩ ?_ ?_
  · exact ⟨rfl, ⟨⟨Nat.le_of_ble_eq_true rfl, rfl⟩, trivial⟩, ⟨rfl, rfl, trivial⟩, rfl, rfl, Nat.le_of_ble_eq_true rfl⟩
  · rintro m i ⟨h0, h1, rfl⟩
    have em : mulN i.toNat (Try.prog.types[3]).size = i.toNat := mulN1 i.toNat
    conv => whnf
    refine ask_split (fun h2 => ?_) (fun h2 => ?_)
    · have e1 : (soundZ xs).getD (mulN i.toNat (Try.prog.types[3]).size) 0 = c16 (xs.getD (mulN i.toNat (Try.prog.types[3]).size) 0) := getD_map (by omega)
      have e2 := cut16 (xs.getD (mulN i.toNat (Try.prog.types[3]).size) 0)
      repeat' ((conv => whnf); first | (refine ask_wrap64 (by omega) (by omega) ?_) | (refine ask_true (by omega) ?_) | (refine ask_false (by omega) ?_) | (refine ⟨trivial, ?_⟩) | (refine ⟨by omega, ?_⟩) | (refine fun (_ : InK _ _) => ?_) | (refine ⟨by kernel_rfl, ?_⟩) | (refine ask_wrapu8 (by omega) (by omega) ?_) | (refine ask_wrapu64 (by omega) (by omega) ?_) | (refine ask_true (show (_ : Bool) = _ from rfl) ?_) | (refine ask_false (show ¬ ((_ : Bool) = _) from Bool.noConfusion) ?_) | rfl | (refine ask_split (fun _ => ?_) (fun _ => ?_)) | fail)
      all_goals exact ⟨(16 - (i + 1)).toNat, i + 1, by omega, ⟨by omega, by omega, rfl⟩, rfl, ⟨⟨Nat.le_of_ble_eq_true rfl, rfl⟩, trivial⟩, ⟨rfl, rfl, trivial⟩, rfl, rfl, Nat.le_of_ble_eq_true rfl⟩
    · repeat' ((conv => whnf); first | (refine ask_wrap64 (by omega) (by omega) ?_) | (refine ask_true (by omega) ?_) | (refine ask_false (by omega) ?_) | (refine ⟨trivial, ?_⟩) | (refine ⟨by omega, ?_⟩) | (refine fun (_ : InK _ _) => ?_) | (refine ⟨by kernel_rfl, ?_⟩) | (refine ask_wrapu8 (by omega) (by omega) ?_) | (refine ask_wrapu64 (by omega) (by omega) ?_) | (refine ask_true (show (_ : Bool) = _ from rfl) ?_) | (refine ask_false (show ¬ ((_ : Bool) = _) from Bool.noConfusion) ?_) | rfl | (refine ask_split (fun _ => ?_) (fun _ => ?_)) | fail)
      conv => whnf
      refine ask_same ?_ ?_
      · unfold soundZ
        rw [List.map_map]
        refine List.map_congr_left fun x _ => ?_
        have := cut16 x
        have := cut16 (c16 x)
        show c16 (c16 x) = c16 x
        omega
      · repeat' ((conv => whnf); first | (refine ask_wrap64 (by omega) (by omega) ?_) | (refine ask_true (by omega) ?_) | (refine ask_false (by omega) ?_) | (refine ⟨trivial, ?_⟩) | (refine ⟨by omega, ?_⟩) | (refine fun (_ : InK _ _) => ?_) | (refine ⟨by kernel_rfl, ?_⟩) | (refine ask_wrapu8 (by omega) (by omega) ?_) | (refine ask_wrapu64 (by omega) (by omega) ?_) | (refine ask_true (show (_ : Bool) = _ from rfl) ?_) | (refine ask_false (show ¬ ((_ : Bool) = _) from Bool.noConfusion) ?_) | rfl | (refine ask_split (fun _ => ?_) (fun _ => ?_)) | fail)
end Go.Proofs.Ytcikcejpmjbckaa
