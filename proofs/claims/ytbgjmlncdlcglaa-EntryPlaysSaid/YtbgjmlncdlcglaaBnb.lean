/- Chapter state: what is right. -/
import Derived.Test.YtbgjmlncdlcglaaBmd
import Derived.Test.YtbgjmlncdlcglaaXrs
set_option linter.all false
namespace Go.Proofs.Ytbgjmlncdlcglaa
open Go.RowKit (Below)
set_option maxRecDepth 100000
set_option maxHeartbeats 32000000

structure St where
  m : List Int
  l : Int
  v : List Int
  w : List Int
  q : Int
abbrev stW (s : St) : W := .agg [.ints .i64 16 s.m, .one (.ci .i64 s.l), .ints .i64 4 s.v, .ints .i64 16 s.w, .one (.ci .i64 s.q)]
structure StOk (s : St) : Prop where
  m : s.m.length = 16 ∧ ∀ x ∈ s.m, InK .i64 x
  l : InK .i64 s.l
  v : s.v.length = 4 ∧ ∀ x ∈ s.v, InK .i64 x
  w : s.w.length = 16 ∧ ∀ x ∈ s.w, InK .i64 x
  q : InK .i64 s.q
theorem StOk.rng {s : St} (h : StOk s) : (stW s).rng := ⟨h.m, h.l, h.v, h.w, h.q, trivial⟩
theorem stOk_of {s : St} (h : (stW s).rng) : StOk s := ⟨h.1, h.2.1, h.2.2.1, h.2.2.2.1, h.2.2.2.2.1⟩
@[irreducible] def rightP (s : St) : Prop := (∀ x ∈ s.m, -2147483648 ≤ x ∧ x ≤ 2147483647) ∧ (∀ x ∈ s.v, 0 ≤ x ∧ x ≤ 20) ∧ (-2097152 ≤ s.l ∧ s.l ≤ 2097151) ∧ held s.w ∧ 0 ≤ s.q ∧ s.q ≤ 255
theorem rightP_def (s : St) : rightP s ↔ (∀ x ∈ s.m, -2147483648 ≤ x ∧ x ≤ 2147483647) ∧ (∀ x ∈ s.v, 0 ≤ x ∧ x ≤ 20) ∧ (-2097152 ≤ s.l ∧ s.l ≤ 2097151) ∧ held s.w ∧ 0 ≤ s.q ∧ s.q ≤ 255 := by unfold rightP; exact Iff.rfl
noncomputable instance (s : St) : Decidable (rightP s) := Classical.propDecidable _
def ctSt (p : St → Prop) [DecidablePred p] : Ct := fun ws K => match ws with
  | [.agg [.ints .i64 n m, .one (.ci .i64 l), .ints .i64 a v, .ints .i64 b w, .one (.ci .i64 q)]] => (n = 16 ∧ a = 4 ∧ b = 16) ∧ ∀ τ, τ = decide (p ⟨m, l, v, w, q⟩) → K (vb τ)
  | _ => False
theorem ctSt_ok {F : Fns} (hF : FnsOk Try.prog F) {n : Nat} {f : FuncId} {fn : Func} (hf : Try.prog.funcs[f]? = some fn) {p : St → Prop} [DecidablePred p]
    (h : ∀ s, StOk s → walk F n fn [stW s] [] fun y _ => y = vb (decide (p s))) : CtOk Try.prog f (ctSt p) := by
  intro ws K h' hr
  unfold ctSt at h'
  split at h'
  · rename_i n m l a v b w q
    obtain ⟨⟨rfl, rfl, rfl⟩, h'⟩ := h'
    have ok : StOk ⟨m, l, v, w, q⟩ := stOk_of hr.1
    exact ⟨_, h' _ rfl, ⟨trivial, rfl⟩, walk_calls hF hf rfl (ws := [stW ⟨m, l, v, w, q⟩]) ⟨ok.rng, trivial⟩ rfl (h _ ok)⟩
  · exact h'.elim
def ctFits : Ct := fun ws K => match ws with
  | [.c (.ci .i64 x), .c (.ci .i64 n)] => ∀ τ, τ = decide (cutS x n = x) → K (vb τ)
  | _ => False
theorem fits_ct : CtOk Try.prog 76 ctFits := by
  intro ws K h' hr
  unfold ctFits at h'
  split at h'
  · rename_i x n
    refine ⟨_, h' _ rfl, ⟨trivial, rfl⟩, walk_calls FCut_ok Try.func76 (n := 0) rfl hr rfl ?_⟩
    conv => whnf
    refine And.intro trivial ?_
    conv => whnf
    rintro τ rfl
    rfl
  · exact h'.elim
theorem c22_le (x : Int) : cutS x 22 = max (min x 2097151) (-2097152) := by rw [← c22_def, cut22]
abbrev sb (s : St) : Blk := .own 47 (stW s).segs
abbrev rb (s : St) : Blk := .own 44 (stW s).segs
noncomputable def FRi : Fns := (F0.plus 76 ctFits).plus 40 ctHeld
theorem FRi_ok : FnsOk Try.prog FRi := (F0_ok.plus fits_ct Try.func76 (by kernel_rfl) (by kernel_rfl)).plus held_ct Try.func40 (by kernel_rfl) (by kernel_rfl)
theorem mem_at {xs : List Int} {i : Nat} (h : i < xs.length) : xs.getD i 0 ∈ xs := by
  rw [List.getD_eq_getElem?_getD, List.getElem?_eq_getElem h]
  exact List.getElem_mem _
theorem all_of_at {xs : List Int} {p : Int → Prop} (h : ∀ k : Nat, k < xs.length → p (xs.getD k 0)) : ∀ x ∈ xs, p x := by
  intro x hx
  obtain ⟨k, hk, rfl⟩ := List.getElem_of_mem hx
  have := h k hk
  rwa [List.getD_eq_getElem?_getD, List.getElem?_eq_getElem hk] at this
theorem right_walk (s : St) (h : StOk s) : walk FRi 0 Try.f36 [stW s] [] fun y _ => y = vb (decide (rightP s)) := by
  have wrong : ¬ rightP s → decide (rightP s) = false := fun h => decide_eq_false h
  have hm := h.m.1
  have hv := h.v.1
  conv => whnf
  refine loop_at (2 :: 4 :: List.range' 9 7) (fun m (i : Int) => 0 ≤ i ∧ i ≤ 16 ∧ m = (16 - i).toNat ∧ ∀ k : Nat, (k : Int) < i → -2147483648 ≤ s.m.getD k 0 ∧ s.m.getD k 0 ≤ 2147483647) (fun i => [(9, vi i)]) (fun _ => [sb s]) 16 0 ⟨by decide, by decide, rfl, fun k hk => by omega⟩ ?_ ?_
  · exact ⟨rfl, ⟨⟨Nat.le_of_ble_eq_true rfl, rfl⟩, trivial⟩, ⟨rfl, trivial⟩, rfl, rfl, Nat.zero_le _⟩
  · rintro m i ⟨h0, h1, rfl, h3⟩
    have em : mulN i.toNat (Try.prog.types[3]).size = i.toNat := mulN1 i.toNat
    rcases Int.lt_or_le i 16 with h2 | h2
    · have c := cut32 (s.m.getD (mulN i.toNat (Try.prog.types[3]).size) 0)
      repeat' ((conv => whnf); first | (refine ask_true (by omega) ?_) | (refine And.intro (by omega) ?_) | (refine fun (_ : InK _ _) => ?_) | fail)
      refine ask_split (fun hb => ?_) (fun hb => ?_)
      · repeat' ((conv => whnf); first | (refine ask_wrap64 (by omega) (by omega) ?_) | fail)
        conv => whnf
        refine ⟨(16 - (i + 1)).toNat, i + 1, by omega, ⟨by omega, by omega, rfl, fun k hk => ?_⟩, rfl, ⟨⟨Nat.le_of_ble_eq_true rfl, rfl⟩, trivial⟩, ⟨rfl, trivial⟩, rfl, rfl, Nat.zero_le _⟩
        rcases Int.lt_or_le k i with hk2 | hk2
        · exact h3 k hk2
        · obtain rfl : k = i.toNat := by omega
          rw [em] at hb c
          omega
      · rw [wrong (fun hr => by
          rw [rightP_def] at hr
          have := hr.1 _ (mem_at (i := i.toNat) (by omega))
          rw [em] at hb c
          omega)]
        repeat' ((conv => whnf); first | rfl | fail)
    · have hi : i = 16 := by omega
      subst hi
      repeat' ((conv => whnf); first | (refine ask_false (by omega) ?_) | fail)
      conv => whnf
      refine loop_at (2 :: 6 :: List.range' 18 10) (fun m (i : Int) => 0 ≤ i ∧ i ≤ 4 ∧ m = (4 - i).toNat ∧ ∀ k : Nat, (k : Int) < i → 0 ≤ s.v.getD k 0 ∧ s.v.getD k 0 ≤ 20) (fun i => [(18, vi i)]) (fun _ => [sb s]) 4 0 ⟨by decide, by decide, rfl, fun k hk => by omega⟩ ?_ ?_
      · exact ⟨rfl, ⟨⟨Nat.le_of_ble_eq_true rfl, rfl⟩, trivial⟩, ⟨rfl, trivial⟩, rfl, rfl, Nat.zero_le _⟩
      · rintro m i ⟨g0, g1, rfl, g3⟩
        have em : mulN i.toNat (Try.prog.types[3]).size = i.toNat := mulN1 i.toNat
        have bad : i < 4 → ∀ y, y = s.v.getD (mulN i.toNat (Try.prog.types[3]).size) 0 → (y < 0 ∨ 20 < y) → decide (rightP s) = false := fun hi y hy hb => wrong fun hr => by
          rw [rightP_def] at hr
          have := hr.2.1 _ (mem_at (i := i.toNat) (by omega))
          rw [hy, em] at hb
          omega
        rcases Int.lt_or_le i 4 with g2 | g2
        · repeat' ((conv => whnf); first | (refine ask_true (by omega) ?_) | (refine And.intro (by omega) ?_) | (refine fun (_ : InK _ _) => ?_) | fail)
          refine ask_split (fun hb => ?_) (fun hb => ?_)
          · rw [bad g2 _ rfl (.inl hb)]
            repeat' ((conv => whnf); first | rfl | fail)
          · conv => whnf
            refine ask_split (fun hb2 => ?_) (fun hb2 => ?_)
            · rw [bad g2 _ rfl (.inr hb2)]
              repeat' ((conv => whnf); first | rfl | fail)
            · repeat' ((conv => whnf); first | (refine ask_wrap64 (by omega) (by omega) ?_) | fail)
              conv => whnf
              refine ⟨(4 - (i + 1)).toNat, i + 1, by omega, ⟨by omega, by omega, rfl, fun k hk => ?_⟩, rfl, ⟨⟨Nat.le_of_ble_eq_true rfl, rfl⟩, trivial⟩, ⟨rfl, trivial⟩, rfl, rfl, Nat.zero_le _⟩
              rcases Int.lt_or_le k i with hk2 | hk2
              · exact g3 k hk2
              · obtain rfl : k = i.toNat := by omega
                rw [em] at hb hb2
                omega
        · have hi : i = 4 := by omega
          subst hi
          have c := c22_le s.l
          have a1 : ∀ x ∈ s.m, -2147483648 ≤ x ∧ x ≤ 2147483647 := all_of_at fun k hk => h3 k (by omega)
          have a2 : ∀ x ∈ s.v, 0 ≤ x ∧ x ≤ 20 := all_of_at fun k hk => g3 k (by omega)
          repeat' ((conv => whnf); first | (refine ask_false (by omega) ?_) | fail)
          refine ask_split (fun b1 => ?_) (fun b1 => ?_)
          · conv => whnf
            refine And.intro rfl ?_
            conv => whnf
            refine ask_split (fun b2 => ?_) (fun b2 => ?_)
            · conv => whnf
              refine ask_split (fun b3 => ?_) (fun b3 => ?_)
              · conv => whnf
                refine ask_split (fun b4 => ?_) (fun b4 => ?_)
                · rw [decide_eq_true (show rightP s from by rw [rightP_def]; exact ⟨a1, a2, by omega, b2, by omega, by omega⟩)]
                  repeat' ((conv => whnf); first | rfl | fail)
                · rw [wrong (fun hr => by rw [rightP_def] at hr; omega)]
                  repeat' ((conv => whnf); first | rfl | fail)
              · rw [wrong (fun hr => by rw [rightP_def] at hr; omega)]
                repeat' ((conv => whnf); first | rfl | fail)
            · rw [wrong (fun hr => by rw [rightP_def] at hr; exact b2 hr.2.2.2.1)]
              repeat' ((conv => whnf); first | rfl | fail)
          · rw [wrong (fun hr => by rw [rightP_def] at hr; omega)]
            repeat' ((conv => whnf); first | rfl | fail)
theorem right_ct : CtOk Try.prog 36 (ctSt rightP) := ctSt_ok FRi_ok Try.func36 right_walk

/- Chapters state and lost: the next state, a lost frame. -/
set_option maxRecDepth 100000
set_option maxHeartbeats 32000000

def z4 : List Int := [0, 0, 0, 0]
def st0 : St := ⟨z16, 0, z4, z16, 0⟩
noncomputable def laidZ (s : St) (wv : List Int) : List Int := layZ (c22 s.l) (overZ s.m (back1 wv))
noncomputable def laidP (s : St) (wv : List Int) : Int := layP (c22 s.l) (overZ s.m (back1 wv)) 16
noncomputable def memZ (wv : List Int) : List Int := (back2 wv).map fun x => cutS x 32
def okN (s : St) (lv wv : List Int) (q : Int) : Prop := rightP s ∧ rightP ⟨z16, 0, lv, wv, q⟩
noncomputable def outN (s : St) (lv wv : List Int) (q : Int) : List Int := open Classical in if okN s lv wv q then soundZ (laidZ s wv) else z16
noncomputable def stN (s : St) (lv wv : List Int) (q : Int) : St := open Classical in if okN s lv wv q then ⟨memZ wv, laidP s wv, lv, wv, q⟩ else st0
theorem outN_ok {s : St} {lv wv : List Int} {q : Int} (h : okN s lv wv q) : outN s lv wv q = soundZ (laidZ s wv) := if_pos h
theorem outN_no {s : St} {lv wv : List Int} {q : Int} (h : ¬ okN s lv wv q) : outN s lv wv q = z16 := if_neg h
theorem stN_ok {s : St} {lv wv : List Int} {q : Int} (h : okN s lv wv q) : stN s lv wv q = ⟨memZ wv, laidP s wv, lv, wv, q⟩ := if_pos h
theorem stN_no {s : St} {lv wv : List Int} {q : Int} (h : ¬ okN s lv wv q) : stN s lv wv q = st0 := if_neg h
theorem memZ_len (wv : List Int) : (memZ wv).length = 16 := by unfold memZ; rw [List.length_map, back2_len]
theorem memZ_in {wv : List Int} {x : Int} (hx : x ∈ memZ wv) : -2147483648 ≤ x ∧ x ≤ 2147483647 := by
  unfold memZ at hx
  obtain ⟨y, _, rfl⟩ := List.mem_map.1 hx
  exact cut32_bound y
theorem laidZ_in {s : St} {wv : List Int} {x : Int} (hx : x ∈ laidZ s wv) : -2097152 ≤ x ∧ x ≤ 2097151 := by
  unfold laidZ layZ at hx
  obtain ⟨i, _, rfl⟩ := List.mem_map.1 hx
  exact lay_bound (c22_bound _) _
theorem laidP_in (s : St) (wv : List Int) : -2097152 ≤ laidP s wv ∧ laidP s wv ≤ 2097151 := lay_bound (c22_bound _) _
theorem soundZ_in {xs : List Int} {x : Int} (hx : x ∈ soundZ xs) : -32768 ≤ x ∧ x ≤ 32767 := by
  unfold soundZ at hx
  obtain ⟨y, _, rfl⟩ := List.mem_map.1 hx
  have := cut16 y
  omega
theorem outN_len (s : St) (lv wv : List Int) (q : Int) : (outN s lv wv q).length = 16 := by
  unfold outN
  split
  · simp [soundZ, laidZ, layZ_len]
  · rfl
theorem outN_in {s : St} {lv wv : List Int} {q x : Int} (hx : x ∈ outN s lv wv q) : -32768 ≤ x ∧ x ≤ 32767 := by
  unfold outN at hx
  split at hx
  · exact soundZ_in hx
  · simp only [z16, List.mem_cons, List.not_mem_nil, or_false, or_self] at hx
    omega
theorem in_of {x : Int} (h : -2147483648 ≤ x ∧ x ≤ 2147483647) : InK .i64 x := by simp only [InK, lowK, highK]; omega
theorem zero_in : ∀ x ∈ z16, InK .i64 x := fun x hx => by
  simp only [z16, List.mem_cons, List.not_mem_nil, or_false, or_self] at hx
  subst hx; exact in_of (by decide)
theorem zero4_in : ∀ x ∈ z4, InK .i64 x := fun x hx => by
  simp only [z4, List.mem_cons, List.not_mem_nil, or_false, or_self] at hx
  subst hx; exact in_of (by decide)
theorem st0_ok : StOk st0 := ⟨⟨rfl, zero_in⟩, in_of (by decide), ⟨rfl, zero4_in⟩, ⟨rfl, zero_in⟩, in_of (by decide)⟩
theorem stN_stok {s : St} {lv wv : List Int} {q : Int} (hv : lv.length = 4 ∧ ∀ x ∈ lv, InK .i64 x) (hw : wv.length = 16 ∧ ∀ x ∈ wv, InK .i64 x) (hq : InK .i64 q) : StOk (stN s lv wv q) := by
  unfold stN
  split
  · exact ⟨⟨memZ_len wv, fun x hx => in_of (memZ_in hx)⟩, in_of (by have := laidP_in s wv; show -2147483648 ≤ laidP s wv ∧ laidP s wv ≤ 2147483647; omega), hv, hw, hq⟩
  · exact st0_ok

noncomputable def FNx : Fns := (((((F0.plus 36 (ctSt rightP)).plus 39 (ctAD back1 back2)).plus 42 (ctAA (fun _ _ => True) overZ)).plus 90 (ctLA (fun l xs => layZ (c22 l) xs) (fun l xs => layP (c22 l) xs 16))).plus 91 (ctA soundZ)).plus 82 (ct2 (fun _ _ => True) cutS)
theorem FNx_ok : FnsOk Try.prog FNx := (((((F0_ok.plus right_ct Try.func36 (by kernel_rfl) (by kernel_rfl)).plus back_ct Try.func39 (by kernel_rfl) (by kernel_rfl)).plus over_ct Try.func42 (by kernel_rfl) (by kernel_rfl)).plus lay_ct Try.func90 (by kernel_rfl) (by kernel_rfl)).plus sound_ct Try.func91 (by kernel_rfl) (by kernel_rfl)).plus cut_ct Try.func82 (by kernel_rfl) (by kernel_rfl)
theorem next_walk (s : St) (lv wv : List Int) (q : Int) (h : StOk s) (hv : lv.length = 4 ∧ ∀ x ∈ lv, InK .i64 x) (hw : wv.length = 16 ∧ ∀ x ∈ wv, InK .i64 x) (hq : InK .i64 q) :
    walk FNx 0 Try.f60 [stW s, ar 4 lv, ar 16 wv, i64 q] [] fun y _ => y = .tup [ar 16 (outN s lv wv q), stW (stN s lv wv q)] := by
  rcases Classical.em (rightP s) with h1 | h1
  · rcases Classical.em (rightP ⟨z16, 0, lv, wv, q⟩) with h2 | h2
    · rw [outN_ok ⟨h1, h2⟩, stN_ok ⟨h1, h2⟩]
      repeat' ((conv => whnf); first | (refine And.intro ⟨rfl, rfl, rfl⟩ ?_) | (refine ask_true h1 ?_) | (refine ask_true h2 ?_) | (refine And.intro ⟨rfl, rfl⟩ ?_) | (refine And.intro rfl ?_) | (refine And.intro trivial ?_) | (refine ⟨by kernel_rfl, ?_⟩) | fail)
      refine loop_at (15 :: 16 :: List.range' 47 10) (fun m (i : Int) => 0 ≤ i ∧ i ≤ 16 ∧ m = (16 - i).toNat) (fun i => [(47, vi i)]) (fun i => [sb s, .own 42 [.ints .i64 4 lv], ob wv, ob z16, sb st0, sb ⟨stg (memZ wv) z16 i, 0, lv, wv, q⟩, ob (back1 wv), ob (back2 wv), ob (laidZ s wv)]) 16 0 ⟨by decide, by decide, rfl⟩ ?_ ?_
      · exact ⟨rfl, ⟨⟨Nat.le_of_ble_eq_true rfl, rfl⟩, trivial⟩, ⟨rfl, rfl, rfl, rfl, rfl, by rw [stg_zero]; rfl, rfl, rfl, rfl, trivial⟩, rfl, rfl, Nat.zero_le _⟩
      · rintro m i ⟨i0, i1, rfl⟩
        have em : mulN i.toNat (Try.prog.types[3]).size = i.toNat := mulN1 i.toNat
        rcases Int.lt_or_le i 16 with i2 | i2
        · repeat' ((conv => whnf); first | (refine ask_true (by omega) ?_) | (refine And.intro trivial ?_) | (refine And.intro (by omega) ?_) | (refine fun (_ : InK _ _) => ?_) | (refine ask_wrap64 (by omega) (by omega) ?_) | (refine ⟨by kernel_rfl, ?_⟩) | fail)
          conv => whnf
          refine ⟨(16 - (i + 1)).toNat, i + 1, by omega, ⟨by omega, by omega, rfl⟩, rfl, ⟨⟨Nat.le_of_ble_eq_true rfl, rfl⟩, trivial⟩, ⟨rfl, rfl, rfl, rfl, rfl, ?_, rfl, rfl, rfl, trivial⟩, rfl, rfl, Nat.zero_le _⟩
          refine congrArg (fun zs => sb ⟨zs, 0, lv, wv, q⟩) (stg_set em (by rw [memZ_len]; rfl) i0 (by rw [memZ_len]; omega) ?_).symm
          unfold memZ
          rw [getD_map (by rw [back2_len]; omega), em]
        · have hi : i = 16 := by omega
          subst hi
          rw [stg_all (by rw [memZ_len]; rfl) (by rw [memZ_len]; rfl)]
          repeat' ((conv => whnf); first | (refine ask_false (by omega) ?_) | (refine And.intro rfl ?_) | (refine ⟨by kernel_rfl, ?_⟩) | rfl | fail)
    · rw [outN_no (fun hh => h2 hh.2), stN_no (fun hh => h2 hh.2)]
      repeat' ((conv => whnf); first | (refine And.intro ⟨rfl, rfl, rfl⟩ ?_) | (refine ask_true h1 ?_) | (refine ask_false h2 ?_) | rfl | fail)
  · rw [outN_no (fun hh => h1 hh.1), stN_no (fun hh => h1 hh.1)]
    repeat' ((conv => whnf); first | (refine And.intro ⟨rfl, rfl, rfl⟩ ?_) | (refine ask_false h1 ?_) | rfl | fail)
def ctNext : Ct := fun ws K => match ws with
  | [.agg [.ints .i64 n m, .one (.ci .i64 l), .ints .i64 a v, .ints .i64 b w, .one (.ci .i64 q)], .agg [.ints .i64 c lv], .agg [.ints .i64 d wv], .c (.ci .i64 lo)] => (n = 16 ∧ a = 4 ∧ b = 16 ∧ c = 4 ∧ d = 16) ∧ K (.tup [ar 16 (outN ⟨m, l, v, w, q⟩ lv wv lo), stW (stN ⟨m, l, v, w, q⟩ lv wv lo)])
  | _ => False
theorem next_ct : CtOk Try.prog 60 ctNext := by
  intro ws K h' hr
  unfold ctNext at h'
  split at h'
  · rename_i n m l a v b w q c lv d wv lo
    obtain ⟨⟨rfl, rfl, rfl, rfl, rfl⟩, h'⟩ := h'
    obtain ⟨r1, r2, r3, r4, _⟩ := hr
    have ok : StOk ⟨m, l, v, w, q⟩ := stOk_of r1
    refine ⟨_, h', ⟨⟨ar_rng (outN_len _ _ _ _) fun x hx => in_of (by have := outN_in hx; omega), (stN_stok r2.1 r3.1 r4).rng, trivial⟩, rfl⟩, walk_calls FNx_ok Try.func60 rfl (ws := [stW ⟨m, l, v, w, q⟩, ar 4 lv, ar 16 wv, i64 lo]) ⟨ok.rng, r2, r3, r4, trivial⟩ rfl (next_walk _ lv wv lo ok r2.1 r3.1 r4)⟩
  · exact h'.elim

/-! ### a lost frame -/
noncomputable def halfZ (s : St) : List Int := if s.q < 8 then s.w.map (fun x => x.tdiv 2) else z16
noncomputable def lessZ (s : St) : List Int := s.v.map fun x => max (x - 1) 0
noncomputable def loseOut (s : St) : List Int := outN s (lessZ s) (halfZ s) (min (s.q + 1) 255)
noncomputable def loseSt (s : St) : St := stN s (lessZ s) (halfZ s) (min (s.q + 1) 255)
noncomputable def FLo : Fns := (F0.plus 36 (ctSt rightP)).plus 60 ctNext
theorem FLo_ok : FnsOk Try.prog FLo := (F0_ok.plus right_ct Try.func36 (by kernel_rfl) (by kernel_rfl)).plus next_ct Try.func60 (by kernel_rfl) (by kernel_rfl)
theorem half_len (xs : List Int) : (xs.map fun x => x.tdiv 2).length = xs.length := by simp
theorem half_bound {x : Int} (h : -9223372036854775808 ≤ x) (h' : x ≤ 9223372036854775807) : -9223372036854775808 ≤ x.tdiv 2 ∧ x.tdiv 2 ≤ 9223372036854775807 := by
  rcases Int.lt_or_le x 0 with h0 | h0
  · rw [tdiv_neg (by omega)]; omega
  · rw [tdiv_pos h0]; omega
theorem stg_at {zs xs : List Int} {i : Int} {m : Nat} (hm : m = i.toNat) (h : zs.length = xs.length) (h0 : 0 ≤ i) (h1 : i < xs.length) : (stg zs xs i).getD m 0 = xs.getD m 0 := by
  subst hm
  unfold stg
  rw [List.getD_eq_getElem?_getD, List.getD_eq_getElem?_getD, List.getElem?_append_right (by simp; omega), List.getElem?_drop]
  congr 2
  simp
  omega
theorem lose_walk (s : St) (h : StOk s) : walk FLo 0 Try.f51 [stW s] [] fun y _ => y = .tup [ar 16 (loseOut s), stW (loseSt s)] := by
  rcases Classical.em (rightP s) with h1 | h1
  · have hr := h1
    rw [rightP_def] at hr
    have hwl := h.w.1
    have hvl := h.v.1
    repeat' ((conv => whnf); first | (refine And.intro ⟨rfl, rfl, rfl⟩ ?_) | (refine ask_true h1 ?_) | (refine ⟨by kernel_rfl, ?_⟩) | fail)
    refine loop_at (6 :: List.range' 17 9) (fun m (i : Int) => 0 ≤ i ∧ i ≤ 16 ∧ m = (16 - i).toNat) (fun i => [(17, vi i)]) (fun i => [sb s, ob z16, sb st0, ob (stg (s.w.map fun x => x.tdiv 2) s.w i), .own 42 [.ints .i64 4 s.v]]) 16 0 ⟨by decide, by decide, rfl⟩ ?_ ?_
    · exact ⟨rfl, ⟨⟨Nat.le_of_ble_eq_true rfl, rfl⟩, trivial⟩, ⟨rfl, rfl, rfl, by rw [stg_zero], rfl, trivial⟩, rfl, rfl, Nat.zero_le _⟩
    · rintro m i ⟨i0, i1, rfl⟩
      have em : mulN i.toNat (Try.prog.types[3]).size = i.toNat := mulN1 i.toNat
      rcases Int.lt_or_le i 16 with i2 | i2
      · have e1 := stg_at (zs := s.w.map fun x => x.tdiv 2) (xs := s.w) em (by simp) i0 (by rw [hwl]; exact i2)
        repeat' ((conv => whnf); first | (refine ask_true (by omega) ?_) | (refine And.intro (by omega) ?_) | (refine ask_in64 fun b1 b2 => ?_) | (refine ask_wrap64 (half_bound (by assumption) (by assumption)).1 (half_bound (by assumption) (by assumption)).2 ?_) | (refine ask_wrap64 (by omega) (by omega) ?_) | fail)
        conv => whnf
        refine ⟨(16 - (i + 1)).toNat, i + 1, by omega, ⟨by omega, by omega, rfl⟩, rfl, ⟨⟨Nat.le_of_ble_eq_true rfl, rfl⟩, trivial⟩, ⟨rfl, rfl, rfl, ?_, rfl, trivial⟩, rfl, rfl, Nat.zero_le _⟩
        refine congrArg ob (stg_set em (by simp) i0 (by simp [hwl]; omega) ?_).symm
        rw [e1, getD_map (by omega), em]
      · have hi : i = 16 := by omega
        subst hi
        rw [stg_all (by simp) (by simp [hwl])]
        have tail : ∀ ws : List Int, ws = halfZ s → ob ws = ob (halfZ s) := fun ws h => by rw [h]
        rcases Int.lt_or_le s.q 8 with hq | hq
        · repeat' ((conv => whnf); first | (refine ask_false (by omega) ?_) | fail)
          conv => whnf
          refine loop_at (7 :: List.range' 30 11) (fun m (i : Int) => 0 ≤ i ∧ i ≤ 4 ∧ m = (4 - i).toNat) (fun i => [(30, vi i)]) (fun i => [sb s, ob z16, sb st0, ob (halfZ s), .own 42 [.ints .i64 4 (stg (lessZ s) s.v i)]]) 4 0 ⟨by decide, by decide, rfl⟩ ?_ ?_
          · exact ⟨rfl, ⟨⟨Nat.le_of_ble_eq_true rfl, rfl⟩, trivial⟩, ⟨rfl, rfl, rfl, congrArg ob (if_pos hq), by rw [stg_zero], trivial⟩, rfl, rfl, Nat.zero_le _⟩
          · rintro m i ⟨i0, i1, rfl⟩
            have em : mulN i.toNat (Try.prog.types[3]).size = i.toNat := mulN1 i.toNat
            rcases Int.lt_or_le i 4 with i2 | i2
            · have e1 := stg_at (zs := lessZ s) (xs := s.v) em (by simp [lessZ]) i0 (by rw [hvl]; exact i2)
              have e2 := hr.2.1 _ (mem_at (i := mulN i.toNat (Try.prog.types[3]).size) (by omega))
              rw [← e1] at e2
              repeat' ((conv => whnf); first | (refine ask_true (by omega) ?_) | (refine And.intro (by omega) ?_) | (refine fun (_ : InK _ _) => ?_) | (refine ask_wrap64 (by omega) (by omega) ?_) | fail)
              conv => whnf
              refine ⟨(4 - (i + 1)).toNat, i + 1, by omega, ⟨by omega, by omega, rfl⟩, rfl, ⟨⟨Nat.le_of_ble_eq_true rfl, rfl⟩, trivial⟩, ⟨rfl, rfl, rfl, rfl, ?_, trivial⟩, rfl, rfl, Nat.zero_le _⟩
              refine congrArg (fun zs => Blk.own 42 [.ints .i64 4 zs]) (stg_set em (by simp [lessZ]) i0 (by simp [lessZ, hvl]; omega) ?_).symm
              unfold lessZ
              unfold lessZ at e1
              rw [e1, getD_map (by omega), em]
            · have hi : i = 4 := by omega
              subst hi
              rw [stg_all (by simp [lessZ]) (by simp [lessZ, hvl])]
              repeat' ((conv => whnf); first | (refine ask_false (by omega) ?_) | (refine ask_wrap64 (by omega) (by omega) ?_) | (refine And.intro ⟨rfl, rfl, rfl, rfl, rfl⟩ ?_) | (refine ⟨by kernel_rfl, ?_⟩) | rfl | fail)
        · repeat' ((conv => whnf); first | (refine ask_false (by omega) ?_) | (refine ask_true (by omega) ?_) | fail)
          conv => whnf
          refine loop_at (7 :: List.range' 30 11) (fun m (i : Int) => 0 ≤ i ∧ i ≤ 4 ∧ m = (4 - i).toNat) (fun i => [(30, vi i)]) (fun i => [sb s, ob z16, sb st0, ob (halfZ s), .own 42 [.ints .i64 4 (stg (lessZ s) s.v i)]]) 4 0 ⟨by decide, by decide, rfl⟩ ?_ ?_
          · exact ⟨rfl, ⟨⟨Nat.le_of_ble_eq_true rfl, rfl⟩, trivial⟩, ⟨rfl, rfl, rfl, congrArg ob (if_neg (by omega)), by rw [stg_zero], trivial⟩, rfl, rfl, Nat.zero_le _⟩
          · rintro m i ⟨i0, i1, rfl⟩
            have em : mulN i.toNat (Try.prog.types[3]).size = i.toNat := mulN1 i.toNat
            rcases Int.lt_or_le i 4 with i2 | i2
            · have e1 := stg_at (zs := lessZ s) (xs := s.v) em (by simp [lessZ]) i0 (by rw [hvl]; exact i2)
              have e2 := hr.2.1 _ (mem_at (i := mulN i.toNat (Try.prog.types[3]).size) (by omega))
              rw [← e1] at e2
              repeat' ((conv => whnf); first | (refine ask_true (by omega) ?_) | (refine And.intro (by omega) ?_) | (refine fun (_ : InK _ _) => ?_) | (refine ask_wrap64 (by omega) (by omega) ?_) | fail)
              conv => whnf
              refine ⟨(4 - (i + 1)).toNat, i + 1, by omega, ⟨by omega, by omega, rfl⟩, rfl, ⟨⟨Nat.le_of_ble_eq_true rfl, rfl⟩, trivial⟩, ⟨rfl, rfl, rfl, rfl, ?_, trivial⟩, rfl, rfl, Nat.zero_le _⟩
              refine congrArg (fun zs => Blk.own 42 [.ints .i64 4 zs]) (stg_set em (by simp [lessZ]) i0 (by simp [lessZ, hvl]; omega) ?_).symm
              unfold lessZ
              unfold lessZ at e1
              rw [e1, getD_map (by omega), em]
            · have hi : i = 4 := by omega
              subst hi
              rw [stg_all (by simp [lessZ]) (by simp [lessZ, hvl])]
              repeat' ((conv => whnf); first | (refine ask_false (by omega) ?_) | (refine ask_wrap64 (by omega) (by omega) ?_) | (refine And.intro ⟨rfl, rfl, rfl, rfl, rfl⟩ ?_) | (refine ⟨by kernel_rfl, ?_⟩) | rfl | fail)
  · unfold loseOut loseSt
    rw [outN_no (fun hh => h1 hh.1), stN_no (fun hh => h1 hh.1)]
    repeat' ((conv => whnf); first | (refine And.intro ⟨rfl, rfl, rfl⟩ ?_) | (refine ask_false h1 ?_) | rfl | fail)
end Go.Proofs.Ytbgjmlncdlcglaa
