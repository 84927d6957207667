/- Chapter entry: an entry as a value; right entries; what is laid; packets, gaps, checks. -/
import Derived.Test.YtbgjmlncdlcglaaBsj
set_option linter.all false
namespace Go.Proofs.Ytbgjmlncdlcglaa
open Go.RowKit (Below)
set_option maxRecDepth 100000
set_option maxHeartbeats 32000000

abbrev enW (k t : Int) (d : ByteArray) : W := .agg [.one (.ci .i64 k), .one (.ci .u32 t), .one (.cs d)]
abbrev noS : ByteArray := ⟨#[]⟩
/-- An entry, handed in by value. -/
def EntV (v : Value) : Prop := ∃ k t d, v = .agg #[.int .i64 k, .int .u32 t, .string d] ∧ InK .i64 k ∧ InK .u32 t ∧ d.size ≤ 9223372036854775807
theorem open_ent {P : Program} {w : World} {r : Reach} {base : Nat} {t a b c : TypeId} {v : Value} (hag : isAg (tyOf P t) = some true) (hct : P.cellTypes P.depth t = some [a, b, c]) (ha : P.underlying a = some (.int .i64)) (hb : P.underlying b = some (.int .u32)) (hc : P.underlying c = some .string) (hn : P.cellsOf t = 3)
    (h : Value.okWide P w r base t v) : EntV v := by
  have h' : ∃ cs, v = .agg cs ∧ cs.size = P.cellsOf t ∧ Row.okWide P w r base t cs := by
    unfold Value.okWide at h
    unfold tyOf at hag
    cases hu : P.underlying t with
    | none => rw [hu] at hag; cases hag
    | some d =>
      rw [hu] at hag h
      cases d <;> simp [tyD, isAg] at hag <;> exact h
  obtain ⟨cs, rfl, hsz, ts', h1, _, h3⟩ := h'
  rw [hct] at h1
  cases h1
  rw [hn] at hsz
  have int : ∀ (i : Nat) (u : TypeId) (k : IntKind), [a, b, c][i % 3]? = some u → P.underlying u = some (.int k) → ∀ v, cs[i]? = some v → ∃ n, v = Value.int k n ∧ InK k n := fun i u k hi hu v hv => by
    obtain ⟨u', hu', hok⟩ := h3 i v hv
    obtain rfl : u' = u := by
      have : [a, b, c].length = 3 := rfl
      rw [this, hi] at hu'
      exact (Option.some.inj hu').symm
    unfold Cell.okWide at hok
    rw [hu] at hok
    unfold Cell.ok at hok
    rw [hu] at hok
    cases v <;> simp at hok
    rename_i k' n
    obtain ⟨rfl, h1, h2⟩ := hok
    refine ⟨n, rfl, inK_of_wf ?_⟩
    simp [Lit.wf, h1, h2]
  have str : ∀ v, cs[2]? = some v → ∃ s : ByteArray, v = Value.string s ∧ s.size ≤ 9223372036854775807 := fun v hv => by
    obtain ⟨u', hu', hok⟩ := h3 2 v hv
    obtain rfl : u' = c := (Option.some.inj (show some c = some u' from hu')).symm
    unfold Cell.okWide at hok
    rw [hc] at hok
    unfold Cell.ok at hok
    rw [hc] at hok
    cases v <;> simp at hok
    rename_i s
    refine ⟨s, rfl, ?_⟩
    have e : IntKind.i64.max = 9223372036854775807 := by decide
    first
      | omega
      | (rw [e] at hok; omega)
  obtain ⟨k, e0, i0⟩ := int 0 a .i64 rfl ha cs[0] (Array.getElem?_eq_getElem (by omega))
  obtain ⟨t', e1, i1⟩ := int 1 b .u32 rfl hb cs[1] (Array.getElem?_eq_getElem (by omega))
  obtain ⟨d, e2, i2⟩ := str cs[2] (Array.getElem?_eq_getElem (by omega))
  refine ⟨k, t', d, ?_, i0, i1, i2⟩
  congr 1
  rw [← e0, ← e1, ← e2]
  apply Array.ext
  · simp [hsz]
  · intro i h1 h2
    have : i < 3 := by omega
    obtain rfl | rfl | rfl : i = 0 ∨ i = 1 ∨ i = 2 := by omega
    · rfl
    · rfl
    · rfl
theorem enW_den (k t : Int) (d : ByteArray) (σ : Sg) : (enW k t d).den σ = .agg #[.int .i64 k, .int .u32 t, .string d] := by
  simp [W.den, dens, Seg.den, C.den]
theorem enW_rng {k t : Int} {d : ByteArray} (hk : InK .i64 k) (ht : InK .u32 t) (hd : d.size ≤ 9223372036854775807) : (enW k t d).rng := ⟨hk, ht, hd, trivial⟩

/-! ### right entries -/
@[irreducible] def rightE (k : Int) (d : ByteArray) : Prop := (k = 1 ∧ 10 ≤ d.size ∧ d.size ≤ 32) ∨ (k = 2 ∧ d = noS) ∨ (k = 3 ∧ d.size = 137 ∧ rightP (rdS (bytesI d)))
theorem rightE_def (k : Int) (d : ByteArray) : rightE k d ↔ (k = 1 ∧ 10 ≤ d.size ∧ d.size ≤ 32) ∨ (k = 2 ∧ d = noS) ∨ (k = 3 ∧ d.size = 137 ∧ rightP (rdS (bytesI d))) := by unfold rightE; exact Iff.rfl
noncomputable instance (k : Int) (d : ByteArray) : Decidable (rightE k d) := Classical.propDecidable _
theorem rightE1 (d : ByteArray) : rightE 1 d ↔ 10 ≤ d.size ∧ d.size ≤ 32 := by
  rw [rightE_def]
  constructor
  · rintro (h | h | h)
    · exact h.2
    · exact absurd h.1 (by decide)
    · exact absurd h.1 (by decide)
  · exact fun h => .inl ⟨rfl, h⟩
theorem rightE2 (d : ByteArray) : rightE 2 d ↔ d = noS := by
  rw [rightE_def]
  constructor
  · rintro (h | h | h)
    · exact absurd h.1 (by decide)
    · exact h.2
    · exact absurd h.1 (by decide)
  · exact fun h => .inr (.inl ⟨rfl, h⟩)
theorem rightE3 (d : ByteArray) : rightE 3 d ↔ d.size = 137 ∧ rightP (rdS (bytesI d)) := by
  rw [rightE_def]
  constructor
  · rintro (h | h | h)
    · exact absurd h.1 (by decide)
    · exact absurd h.1 (by decide)
    · exact h.2
  · exact fun h => .inr (.inr ⟨rfl, h⟩)
theorem rightE_other {k : Int} {d : ByteArray} (h1 : k ≠ 1) (h2 : k ≠ 2) (h3 : k ≠ 3) : ¬ rightE k d := by
  rw [rightE_def]
  rintro (h | h | h)
  · exact h1 h.1
  · exact h2 h.1
  · exact h3 h.1
theorem rightE_size {k : Int} {d : ByteArray} (h : rightE k d) : d.size ≤ 137 := by
  rw [rightE_def] at h
  rcases h with h | h | h
  · omega
  · rw [h.2]; decide
  · omega
def ctEn (p : Int → Int → ByteArray → Prop) [∀ k t d, Decidable (p k t d)] : Ct := fun ws K => match ws with
  | [.agg [.one (.ci .i64 k), .one (.ci .u32 t), .one (.cs d)]] => ∀ τ, τ = decide (p k t d) → K (vb τ)
  | _ => False
theorem ctEn_ok {F : Fns} (hF : FnsOk Try.prog F) {n : Nat} {f : FuncId} {fn : Func} (hf : Try.prog.funcs[f]? = some fn) {p : Int → Int → ByteArray → Prop} [∀ k t d, Decidable (p k t d)]
    (h : ∀ k t d, walk F n fn [enW k t d] [] fun y _ => y = vb (decide (p k t d))) : CtOk Try.prog f (ctEn p) := by
  intro ws K h' hr
  unfold ctEn at h'
  split at h'
  · rename_i k t d
    exact ⟨_, h' _ rfl, ⟨trivial, rfl⟩, walk_calls hF hf rfl (ws := [enW k t d]) hr rfl (h k t d)⟩
  · exact h'.elim
noncomputable def FEr : Fns := F0.plus 37 ctRead
theorem FEr_ok : FnsOk Try.prog FEr := F0_ok.plus read_ct Try.func37 (by kernel_rfl) (by kernel_rfl)
theorem enRight_walk (k t : Int) (d : ByteArray) : walk FEr 0 Try.f27 [enW k t d] [] fun y _ => y = vb (decide (rightE k d)) := by
  rcases Classical.em (k = 1) with h1 | h1
  · subst h1
    conv => whnf
    refine ask_true rfl ?_
    rcases Nat.lt_or_ge d.size 10 with g1 | g1
    · rw [decide_eq_false (show ¬ rightE 1 d by rw [rightE1]; omega)]
      repeat' ((conv => whnf); first | (refine ask_false (by omega) ?_) | rfl | fail)
    · rcases Nat.lt_or_ge 32 d.size with g2 | g2
      · rw [decide_eq_false (show ¬ rightE 1 d by rw [rightE1]; omega)]
        repeat' ((conv => whnf); first | (refine ask_true (by omega) ?_) | (refine ask_false (by omega) ?_) | rfl | fail)
      · rw [decide_eq_true (show rightE 1 d by rw [rightE1]; omega)]
        repeat' ((conv => whnf); first | (refine ask_true (by omega) ?_) | rfl | fail)
  · rcases Classical.em (k = 2) with h2 | h2
    · subst h2
      rcases Classical.em (d = noS) with g | g
      · rw [decide_eq_true (show rightE 2 d by rw [rightE2]; exact g)]
        repeat' ((conv => whnf); first | (refine ask_false (by decide) ?_) | (refine ask_true (by decide) ?_) | (refine ask_true g ?_) | rfl | fail)
      · rw [decide_eq_false (show ¬ rightE 2 d by rw [rightE2]; exact g)]
        repeat' ((conv => whnf); first | (refine ask_false (by decide) ?_) | (refine ask_true (by decide) ?_) | (refine ask_false g ?_) | rfl | fail)
    · rcases Classical.em (k = 3) with h3 | h3
      · subst h3
        rcases Classical.em (d.size = 137) with g | g
        · rcases Classical.em (rightP (rdS (bytesI d))) with g2 | g2
          · rw [decide_eq_true (show rightE 3 d by rw [rightE3]; exact ⟨g, g2⟩)]
            repeat' ((conv => whnf); first | (refine ask_false (by decide) ?_) | (refine ask_true (by decide) ?_) | (refine ⟨fun _ _ => ?_, fun _ hn => absurd g2 hn, fun hn => absurd g hn⟩) | (refine ⟨by kernel_rfl, ?_⟩) | rfl | fail)
          · rw [decide_eq_false (show ¬ rightE 3 d by rw [rightE3]; exact fun h => g2 h.2)]
            repeat' ((conv => whnf); first | (refine ask_false (by decide) ?_) | (refine ask_true (by decide) ?_) | (refine ⟨fun _ hn => absurd hn g2, fun _ _ => ?_, fun hn => absurd g hn⟩) | (refine ⟨by kernel_rfl, ?_⟩) | rfl | fail)
        · rw [decide_eq_false (show ¬ rightE 3 d by rw [rightE3]; exact fun h => g h.1)]
          repeat' ((conv => whnf); first | (refine ask_false (by decide) ?_) | (refine ask_true (by decide) ?_) | (refine ⟨fun hn => absurd hn g, fun hn => absurd hn g, fun _ => ?_⟩) | (refine ⟨by kernel_rfl, ?_⟩) | rfl | fail)
      · rw [decide_eq_false (rightE_other h1 h2 h3)]
        repeat' ((conv => whnf); first | (refine ask_false (by omega) ?_) | rfl | fail)
theorem enRight_ct : CtOk Try.prog 27 (ctEn fun k _ d => rightE k d) := ctEn_ok FEr_ok Try.func27 enRight_walk

/-! ### what is laid -/
/-- An entry's record. -/
def layE (k t : Int) (d : ByteArray) : List Int := [k % 256] ++ four t ++ bytesI d
noncomputable def FEl : Fns := (F0.plus 27 (ctEn fun k _ d => rightE k d)).plus 62 ctFour
theorem FEl_ok : FnsOk Try.prog FEl := (F0_ok.plus enRight_ct Try.func27 (by kernel_rfl) (by kernel_rfl)).plus four_ct Try.func62 (by kernel_rfl) (by kernel_rfl)
theorem lay_eq (k t : Int) (d : ByteArray) : strOfNums [k % 256] ++ strOfNums (four t) ++ d = strOfNums (layE k t d) := by
  have e : d = strOfNums (bytesI d) := (str_bytesI d).symm
  conv => lhs; rw [e]
  rw [str_append, str_append]; rfl
theorem layE_in (k t : Int) (d : ByteArray) : ∀ y ∈ layE k t d, InK .u8 y := by
  intro y hy
  simp only [layE, List.mem_append, List.mem_singleton] at hy
  rcases hy with (h | h) | h
  · simp only [InK, lowK, highK]; omega
  · exact four_in y h
  · exact bytesI_in d y h
theorem layE_len (k t : Int) (d : ByteArray) : (layE k t d).length = 5 + d.size := by
  simp only [layE, List.length_append, bytesI_len]
  show 1 + 4 + d.size = _
  omega
theorem layE_get {k t : Int} {d : ByteArray} {i : Nat} (h : i < 5 + d.size) : ((((strOfNums (layE k t d)).get! i).toNat : Nat) : Int) = (layE k t d).getD i 0 := by
  rw [get_bytesI (by rw [strOfNums_size, layE_len]; exact h), bytesI_str (layE_in k t d)]
theorem layE_rest (k t : Int) (d : ByteArray) : (strOfNums (layE k t d)).extract 5 (strOfNums (layE k t d)).size = d := by
  rw [str_drop _ (layE_in k t d)]
  exact str_bytesI d
theorem enLay_walk (k t : Int) (d : ByteArray) (hr : rightE k d) : walk FEl 0 Try.f25 [enW k t d] [] fun y _ => y = .tup [.c (.cs (strOfNums (layE k t d))), i64 0] := by
  have hd := rightE_size hr
  have e := lay_eq k t d
  repeat' ((conv => whnf); first | (refine ask_true hr ?_) | fail)
  conv => whnf
  refine ask_is (wrap8 _) ?_
  conv => whnf
  refine And.intro rfl ?_
  conv => whnf
  refine And.intro (by decide) ?_
  conv => whnf
  refine And.intro (by decide) ?_
  conv => whnf
  refine fun s hs => ?_
  subst hs
  conv => whnf
  refine And.intro (by rw [strOfNums_size, strOfNums_size]; exact (by decide : 1 + 4 ≤ 9223372036854775807)) ?_
  conv => whnf
  refine And.intro (by rw [ByteArray.size_append, strOfNums_size, strOfNums_size]; show 1 + 4 + d.size ≤ _; omega) ?_
  conv => whnf
  refine ⟨by kernel_rfl, ?_⟩
  conv => whnf
  exact congrArg (fun s => V.tup [.c (.cs s), i64 0]) e
theorem enLay_no_walk (k t : Int) (d : ByteArray) (hr : ¬ rightE k d) : walk FEl 0 Try.f25 [enW k t d] [] fun y _ => y = .tup [.c (.cs noS), i64 1] := by
  repeat' ((conv => whnf); first | (refine ask_false hr ?_) | rfl | fail)
def ctLayE : Ct := fun ws K => match ws with
  | [.agg [.one (.ci .i64 k), .one (.ci .u32 t), .one (.cs d)]] => (rightE k d → ∀ s, s = strOfNums (layE k t d) → K (.tup [.c (.cs s), i64 0])) ∧ (¬ rightE k d → K (.tup [.c (.cs noS), i64 1]))
  | _ => False
theorem enLay_ct : CtOk Try.prog 25 ctLayE := by
  intro ws K h' hr
  unfold ctLayE at h'
  split at h'
  · rename_i k t d
    obtain ⟨h1, h2⟩ := h'
    have small : ∀ n : Int, 0 ≤ n → n ≤ 10 → InK .i64 n := fun n _ _ => by simp only [InK, lowK, highK]; omega
    rcases Classical.em (rightE k d) with hp | hp
    · have hd := rightE_size hp
      exact ⟨_, h1 hp _ rfl, ⟨⟨by show (strOfNums _).size ≤ _; rw [strOfNums_size, layE_len]; omega, small 0 (by decide) (by decide), trivial⟩, rfl⟩, walk_calls FEl_ok Try.func25 rfl (ws := [enW k t d]) hr rfl (enLay_walk k t d hp)⟩
    · exact ⟨_, h2 hp, ⟨⟨Nat.zero_le _, small 1 (by decide) (by decide), trivial⟩, rfl⟩, walk_calls FEl_ok Try.func25 rfl (ws := [enW k t d]) hr rfl (enLay_no_walk k t d hp)⟩
  · exact h'.elim

/-! ### the small ones -/
def ctEnId : Ct := fun ws K => match ws with
  | [.agg [.one (.ci .i64 k), .one (.ci .u32 t), .one (.cs d)]] => K (.w (enW k t d))
  | _ => False
theorem ctEnId_ok {f : FuncId} {fn : Func} (hf : Try.prog.funcs[f]? = some fn) (h : ∀ k t d, walk F0 0 fn [enW k t d] [] fun y _ => y = .w (enW k t d)) : CtOk Try.prog f ctEnId := by
  intro ws K h' hr
  unfold ctEnId at h'
  split at h'
  · rename_i k t d
    exact ⟨_, h', ⟨hr.1, rfl⟩, walk_calls F0_ok hf rfl (ws := [enW k t d]) hr rfl (h k t d)⟩
  · exact h'.elim
theorem enOf_ct : CtOk Try.prog 26 ctEnId := ctEnId_ok Try.func26 fun k t d => by
  repeat' ((conv => whnf); first | (refine ⟨by kernel_rfl, ?_⟩) | rfl | fail)
theorem enPlain_ct : CtOk Try.prog 29 ctEnId := ctEnId_ok Try.func29 fun k t d => by
  repeat' ((conv => whnf); first | (refine ⟨by kernel_rfl, ?_⟩) | rfl | fail)
def ctPacket : Ct := fun ws K => match ws with
  | [.c (.ci .u32 t), .c (.cs d)] => K (.w (enW 1 t d))
  | _ => False
theorem packet_ct : CtOk Try.prog 48 ctPacket := by
  intro ws K h' hr
  unfold ctPacket at h'
  split at h'
  · rename_i t d
    refine ⟨_, h', ⟨⟨(show InK .i64 1 from by simp only [InK, lowK, highK]; omega), hr.1, hr.2.1, trivial⟩, rfl⟩, walk_calls F0_ok Try.func48 rfl (ws := [u32 t, .c (.cs d)]) hr rfl (n := 0) ?_⟩
    repeat' ((conv => whnf); first | (refine ⟨by kernel_rfl, ?_⟩) | rfl | fail)
  · exact h'.elim
def ctGap : Ct := fun ws K => match ws with
  | [.c (.ci .u32 t)] => K (.w (enW 2 t noS))
  | _ => False
theorem gapE_ct : CtOk Try.prog 49 ctGap := by
  intro ws K h' hr
  unfold ctGap at h'
  split at h'
  · rename_i t
    refine ⟨_, h', ⟨⟨(show InK .i64 2 from by simp only [InK, lowK, highK]; omega), hr.1, Nat.zero_le _, trivial⟩, rfl⟩, walk_calls F0_ok Try.func49 rfl (ws := [u32 t]) hr rfl (n := 0) ?_⟩
    repeat' ((conv => whnf); first | (refine ⟨by kernel_rfl, ?_⟩) | rfl | fail)
  · exact h'.elim
noncomputable def FEc : Fns := F0.plus 34 ctBytes
theorem FEc_ok : FnsOk Try.prog FEc := F0_ok.plus bytes_ct Try.func34 (by kernel_rfl) (by kernel_rfl)
def ctCheck : Ct := fun ws K => match ws with
  | [.c (.ci .u32 t), .agg [.ints .i64 n m, .one (.ci .i64 l), .ints .i64 a v, .ints .i64 b w, .one (.ci .i64 q)]] => (n = 16 ∧ a = 4 ∧ b = 16) ∧ (rightP ⟨m, l, v, w, q⟩ → ∀ s, s = strOfNums (byZ ⟨m, l, v, w, q⟩) → K (.tup [enW 3 t s, i64 0])) ∧ (¬ rightP ⟨m, l, v, w, q⟩ → K (.tup [enW 0 0 noS, i64 1]))
  | _ => False
theorem check_ct : CtOk Try.prog 47 ctCheck := by
  intro ws K h' hr
  unfold ctCheck at h'
  split at h'
  · rename_i t n m l a v b w q
    obtain ⟨⟨rfl, rfl, rfl⟩, h1, h2⟩ := h'
    have ok : StOk ⟨m, l, v, w, q⟩ := stOk_of hr.2.1
    have small : ∀ n : Int, 0 ≤ n → n ≤ 10 → InK .i64 n := fun n _ _ => by simp only [InK, lowK, highK]; omega
    have small' : InK .u32 0 := by simp only [InK, lowK, highK]; omega
    rcases Classical.em (rightP ⟨m, l, v, w, q⟩) with hp | hp
    · refine ⟨_, h1 hp _ rfl, ⟨⟨⟨small 3 (by decide) (by decide), hr.1, by show (strOfNums _).size ≤ _; rw [strOfNums_size, byZ_len ok]; decide, trivial⟩, small 0 (by decide) (by decide), trivial⟩, rfl⟩, walk_calls FEc_ok Try.func47 rfl (ws := [u32 t, stW ⟨m, l, v, w, q⟩]) ⟨hr.1, ok.rng, trivial⟩ rfl (n := 0) ?_⟩
      repeat' ((conv => whnf); first | (refine And.intro ⟨rfl, rfl, rfl⟩ (And.intro (fun _ s hs => ?_) (fun hn => absurd hp hn))) | (refine ask_false (by decide) ?_) | (refine ⟨by kernel_rfl, ?_⟩) | fail)
      conv => whnf
      exact congrArg (fun s => V.tup [enW 3 t s, i64 0]) hs
    · refine ⟨_, h2 hp, ⟨⟨⟨small 0 (by decide) (by decide), small', Nat.zero_le _, trivial⟩, small 1 (by decide) (by decide), trivial⟩, rfl⟩, walk_calls FEc_ok Try.func47 rfl (ws := [u32 t, stW ⟨m, l, v, w, q⟩]) ⟨hr.1, ok.rng, trivial⟩ rfl (n := 0) ?_⟩
      repeat' ((conv => whnf); first | (refine And.intro ⟨rfl, rfl, rfl⟩ (And.intro (fun hn => absurd hn hp) (fun _ => ?_))) | (refine ask_true (by decide) ?_) | (refine ⟨by kernel_rfl, ?_⟩) | rfl | fail)
  · exact h'.elim

/-! ### the document's example -/
noncomputable def FEa : Fns := (F0.plus 49 ctGap).plus 25 ctLayE
theorem FEa_ok : FnsOk Try.prog FEa := (F0_ok.plus gapE_ct Try.func49 (by kernel_rfl) (by kernel_rfl)).plus enLay_ct Try.func25 (by kernel_rfl) (by kernel_rfl)
theorem awake20_walk : walk FEa 0 Try.f24 [] [] fun y _ => y = vb true := by
  conv => whnf
  refine And.intro (fun _ s hs => ?_) (fun hn => absurd ((rightE2 _).2 rfl) hn)
  conv => whnf
  refine ask_true rfl ?_
  conv => whnf
  refine ask_true (hs.trans (by decide)) ?_
  conv => whnf
  rfl
theorem awake20_ct : CtOk Try.prog 24 (ct0 (vb true)) := ct0_ok FEa_ok Try.func24 ⟨trivial, rfl⟩ awake20_walk
end Go.Proofs.Ytbgjmlncdlcglaa
