/- Chapter level: the law LevelSigns, walked. (Printed by mksg.py.) -/
import Derived.Test.YtmkdamfdlkpjdaaDoorDk
set_option linter.all false
namespace Go.Proofs.YtmkdamfdlkpjdaaDoor
open Go.RowKit (Below)
set_option maxRecDepth 100000
set_option maxHeartbeats 64000000

theorem loop_ren5 {body : List V → List Blk → XQ → Prop} {lo : Nat} {fr : List V} {H : List Blk} {Q : XQ} {α β γ δ ε : Type} (ds : List Nat) (J : Nat → α → β → γ → δ → ε → Prop) (sel : α → β → γ → δ → ε → List (Nat × V)) (Hs : α → β → γ → δ → ε → List Blk) (m₀ : Nat) (a₀ : α) (b₀ : β) (c₀ : γ) (d₀ : δ) (e₀ : ε) (h₀ : J m₀ a₀ b₀ c₀ d₀ e₀) (ρ₀ : Nat → Nat)
    (start : Next2 ρ₀ ds lo fr (sel a₀ b₀ c₀ d₀ e₀) (Hs a₀ b₀ c₀ d₀ e₀) fr H)
    (round : ∀ m a b c d e, J m a b c d e → havK ds 0 fr fun f₁ => setLK (sel a b c d e) f₁ fun f₂ => body f₂ (Hs a b c d e) fun ex fr' H' => match ex with
      | .normal => ∃ m' s' ρ, m' < m ∧ J m' (Prod.fst s') (Prod.fst (Prod.snd s')) (Prod.fst (Prod.snd (Prod.snd s'))) (Prod.fst (Prod.snd (Prod.snd (Prod.snd s')))) (Prod.snd (Prod.snd (Prod.snd (Prod.snd s')))) ∧ Next2 ρ ds lo fr (sel (Prod.fst s') (Prod.fst (Prod.snd s')) (Prod.fst (Prod.snd (Prod.snd s'))) (Prod.fst (Prod.snd (Prod.snd (Prod.snd s')))) (Prod.snd (Prod.snd (Prod.snd (Prod.snd s'))))) (Hs (Prod.fst s') (Prod.fst (Prod.snd s')) (Prod.fst (Prod.snd (Prod.snd s'))) (Prod.fst (Prod.snd (Prod.snd (Prod.snd s')))) (Prod.snd (Prod.snd (Prod.snd (Prod.snd s'))))) fr' H'
      | .exit id => Q (.exit id) fr' H'
      | .ret => Q .ret fr' H') : XLoop body lo fr H Q :=
  loop_ren ds (fun m s => J m s.1 s.2.1 s.2.2.1 s.2.2.2.1 s.2.2.2.2) (fun s => sel s.1 s.2.1 s.2.2.1 s.2.2.2.1 s.2.2.2.2) (fun s => Hs s.1 s.2.1 s.2.2.1 s.2.2.2.1 s.2.2.2.2) m₀ (a₀, b₀, c₀, d₀, e₀) h₀ ρ₀ start fun m s h => round m s.1 s.2.1 s.2.2.1 s.2.2.2.1 s.2.2.2.2 h

/-! ### other signs, one level more -/
noncomputable def n9 (zs : List Int) (n : Nat) : List Int := (q9 zs n).map fun x => 0 - x
theorem n9_len (zs : List Int) (n : Nat) : (n9 zs n).length = n := by simp [n9, q9_len]
theorem n9_at {zs : List Int} {n i : Nat} (h : i < n) : (n9 zs n).getD i 0 = 0 - (q9 zs n).getD i 0 := by
  unfold n9; rw [getD_map (by rw [q9_len]; exact h)]
theorem n9_in {zs : List Int} {n : Nat} : ∀ y ∈ n9 zs n, -8 ≤ y ∧ y ≤ 8 := fun y hy => by
  unfold n9 at hy
  obtain ⟨x, hx, rfl⟩ := List.mem_map.1 hy
  have := q9_in x hx
  omega
theorem n9_sum (zs : List Int) (n : Nat) : sumF (n9 zs n) n = sumF (q9 zs n) n := by
  have := sumF_rel' (c := 1) (xs := q9 zs n) (ys := n9 zs n) n fun i hi => by
    rw [n9_at hi, Int.one_mul, szF_def, szF_def]; omega
  rw [this, Int.one_mul]
theorem dbl {a D : Int} (hD : 0 < D) : 2 * (a / D) ≤ (2 * a) / D ∧ (2 * a) / D ≤ 2 * (a / D) + 1 := by
  have d := div_bounds (a := a) hD
  constructor
  · refine (Int.le_ediv_iff_mul_le hD).2 ?_
    rw [Int.mul_assoc, Int.mul_comm (a / D) D]
    omega
  · have : (2 * a) / D < 2 * (a / D) + 1 + 1 := by
      refine (Int.ediv_lt_iff_lt_mul hD).2 ?_
      rw [show 2 * (a / D) + 1 + 1 = 2 * (a / D + 1) by omega, Int.mul_assoc, Int.mul_comm (a / D + 1) D]
      omega
    omega
theorem flZ_zero {ys : List Int} {i : Nat} : (flZ 0 ys).getD i 0 = 0 := by
  unfold flZ
  rw [if_neg (fun h => h.2 rfl), List.getD_eq_getElem?_getD, List.getElem?_replicate]
  split <;> rfl
/-- What the three have. -/
theorem signs {zs : List Int} {l : Nat} {k : Int} (hl : l ≤ 8) (hk : 0 ≤ k ∧ k ≤ 19) {i : Nat} (hi : i < l) :
    (flZ k (q9 zs l)).getD i 0 = 0 - (flZ k (n9 zs l)).getD i 0 ∧ (0 < k → 2 * max ((flZ k (q9 zs l)).getD i 0) (0 - (flZ k (q9 zs l)).getD i 0) ≤ max ((flZ (k + 1) (q9 zs l)).getD i 0) (0 - (flZ (k + 1) (q9 zs l)).getD i 0) ∧ max ((flZ (k + 1) (q9 zs l)).getD i 0) (0 - (flZ (k + 1) (q9 zs l)).getD i 0) ≤ 2 * max ((flZ k (q9 zs l)).getD i 0) (0 - (flZ k (q9 zs l)).getD i 0) + 1) := by
  have ql := q9_len zs l
  have nl := n9_len zs l
  rcases Classical.em (k = 0) with h0 | h0
  · subst h0
    rw [flZ_zero, flZ_zero]
    exact ⟨rfl, fun h => by omega⟩
  · have r1 : rightL k (q9 zs l) := by rw [rightL_def]; exact ⟨by omega, by omega, q9_in⟩
    have r2 : rightL k (n9 zs l) := by rw [rightL_def]; exact ⟨by omega, by omega, n9_in⟩
    have r3 : rightL (k + 1) (q9 zs l) := by rw [rightL_def]; exact ⟨by omega, by omega, q9_in⟩
    have hy := q9_in (zs := zs) (n := l) ((q9 zs l).getD i 0) (mem_at (by omega))
    rw [flZ_at r1 h0 (by omega), flZ_at r2 h0 (by omega), flZ_at r3 (by omega) (by omega), ql, nl, n9_sum, n9_at hi, fillN_neg]
    refine ⟨by omega, fun _ => ?_⟩
    generalize (q9 zs l).getD i 0 = y at *
    have sb := sumF_in (q9 zs l) l
    generalize sumF (q9 zs l) l = S at *
    rcases Int.lt_or_le 0 S with hS | hS
    · have b1 := fillN_in (S := S) (lv := k) (by omega) hy
      have b3 := fillN_in (S := S) (lv := k + 1) (by omega) hy
      have e1 := fillN_size (lv := k) (by omega) hS hy
      have e3 := fillN_size (lv := k + 1) (by omega) hS hy
      have d := dbl (a := szF y * 3 * pw k) (D := 4 * S) (by omega)
      rw [pw_succ hk.1, Int.mul_left_comm (szF y * 3) 2 (pw k)] at e3
      rw [← e1, ← e3] at d
      rw [szF_def, szF_def] at d
      omega
    · obtain rfl : S = 0 := by omega
      rw [fillN_zero, fillN_zero]; decide
theorem signs_row (zs : List Int) (l : Nat) (hl : l ≤ zs.length) (hc : zs.length ≤ 9223372036854775807) (k0 : Int) (hk : 0 ≤ k0 ∧ k0 ≤ 255) : walkg FFl 0 Tryd.f8 [u8 k0, .c (.csl 0 0 0 l zs.length)] [.ro [.ints .i8 zs.length zs]] fun y _ => y = vb true := by
  by_cases h8 : 8 < l
  · repeat' ((conv => whnf); first | (refine ask_true (by omega) ?_) | (refine ask_false (by omega) ?_) | rfl | fail)
  · repeat' ((conv => whnf); first | (refine ask_true (by omega) ?_) | (refine ask_false (by omega) ?_) | (refine ask_wrap64 (by omega) (by omega) ?_) | (refine And.intro (by omega) ?_) | fail)
    conv => whnf
    intro k hkr
    have hk20 : 0 ≤ k ∧ k ≤ 19 := by rw [hkr, Int.tmod_eq_emod_of_nonneg hk.1]; omega
    clear hkr
    repeat' ((conv => whnf); first | fail)
    conv => whnf
    refine loop_ren5 (6 :: 7 :: 8 :: List.range' 24 23) (fun m (i : Int) (v : V) (b : Blk) (v' : V) (b' : Blk) => 0 ≤ i ∧ i ≤ l ∧ m = (l - i).toNat ∧ rowS 1 (q9 zs i.toNat) v b ∧ rowS 2 (n9 zs i.toNat) v' b') (fun i v _ v' _ => [(6, v), (7, v'), (8, vi i)]) (fun _ _ b _ b' => [.ro [.ints .i8 zs.length zs], b, b']) l 0 (.w (.c .csn)) .gone (.w (.c .csn)) .gone ⟨by decide, by omega, by omega, .inl ⟨rfl, rfl, rfl⟩, .inl ⟨rfl, rfl, rfl⟩⟩ id ?_ ?_
    · refine ⟨?_, ?_, fun _ _ _ _ h => h, fun _ _ => rfl, rfl, rfl, Nat.le_of_ble_eq_true rfl⟩
      · repeat' (first | exact trivial | refine And.intro rfl ?_ | fail)
      · repeat' (first | exact trivial | refine And.intro rfl ?_ | fail)
    · rintro _ i v b v' b' ⟨i0, i1, rfl, hr1, hr2⟩
      have em : mulN i.toNat (Tryd.prog.types[3]).size = i.toNat := mulN1 _
      have em8 : mulN i.toNat (Tryd.prog.types[35]).size = i.toNat := mulN1 _
      have tl := q9_len zs i.toNat
      have ol := n9_len zs i.toNat
      rcases Int.lt_or_le i l with i2 | i2
      · rcases hr1 with ⟨t0, rfl, rfl⟩ | ⟨t0, d1, s1, f1, f2, f3, rfl, rfl⟩
        · have i00 : i.toNat = 0 := by rw [← tl, t0]; rfl
          obtain rfl : i = 0 := by omega
          rcases hr2 with ⟨o0, rfl, rfl⟩ | ⟨o0, d2, s2, g1, g2, g3, rfl, rfl⟩
          · skip
            repeat' ((conv => whnf); first | (refine ask_true (by omega) ?_) | (refine And.intro (by omega) ?_) | (refine fun (_ : InK _ _) => ?_) | fail)
            conv => whnf
            intro r hr'
            have rb := tmod_bound (a := zs.getD (0 + mulN (0 : Int).toNat (Tryd.prog.types[35]).size) 0) (b := 9) (by decide)
            rw [← hr'] at rb
            have qn : q9 zs ((0 : Int) + 1).toNat = q9 zs (0 : Int).toNat ++ [r] := by rw [show ((0 : Int) + 1).toNat = (0 : Int).toNat + 1 by omega, q9_next, hr', em8, Nat.zero_add]
            have nn : n9 zs ((0 : Int) + 1).toNat = n9 zs (0 : Int).toNat ++ [0 - r] := by unfold n9; rw [qn, List.map_append]; rfl
            have e1 : ∀ R, (q9 zs (0 : Int).toNat ++ [r] ++ R).getD (0 + mulN (0 : Int).toNat (Tryd.prog.types[3]).size) 0 = r := fun R => by rw [em, Nat.zero_add]; exact mid_at tl
            clear hr'
            repeat' ((conv => whnf); first | (refine ask_wrap64 (by omega) (by omega) ?_) | (refine And.intro (by omega) ?_) | fail)
            conv => whnf
            refine And.intro ⟨by decide, by decide, Nat.le_of_ble_eq_true (by kernel_rfl)⟩ (fresh_as (zs := q9 zs (0 : Int).toNat ++ [r]) (by rw [t0]; rfl) fun c1 R1 f1 f2 f3 => ?_)
            have f1' : (0 : Int).toNat + 1 ≤ c1 := f1
            have e : ((q9 zs (0 : Int).toNat ++ [r] ++ R1).getD (0 + mulN (0 : Int).toNat (Tryd.prog.types[3]).size) 0) = r := by exact e1 _
            repeat' ((conv => whnf); first | (refine ask_true (by omega) ?_) | (refine ask_false (by omega) ?_) | (refine And.intro (by omega) ?_) | (refine fun (_ : InK _ _) => ?_) | (refine ask_wrap64 (by omega) (by omega) ?_) | (refine ⟨by kernel_rfl, ?_⟩) | fail)
            conv => whnf
            refine And.intro ⟨by decide, by decide, Nat.le_of_ble_eq_true (by kernel_rfl)⟩ (fresh_as (zs := n9 zs (0 : Int).toNat ++ [0 - r]) (by rw [o0, e]; rfl) fun c2 R2 g1 g2 g3 => ?_)
            repeat' ((conv => whnf); first | (refine ask_true (by omega) ?_) | (refine ask_false (by omega) ?_) | (refine And.intro (by omega) ?_) | (refine fun (_ : InK _ _) => ?_) | (refine ask_wrap64 (by omega) (by omega) ?_) | (refine ⟨by kernel_rfl, ?_⟩) | fail)
            conv => whnf
            refine ⟨(l - ((0 : Int) + 1)).toNat, ((0 : Int) + 1, .w (.c (.csl 1 0 0 ((0 : Int).toNat + 1) c1)), .own 3 [.ints .i64 c1 (q9 zs (0 : Int).toNat ++ [r] ++ R1)], .w (.c (.csl 2 0 0 ((0 : Int).toNat + 1) c2)), .own 3 [.ints .i64 c2 (n9 zs (0 : Int).toNat ++ [0 - r] ++ R2)]), rhoS 1 2 4 6, by omega, ⟨by show (0 : Int) ≤ 0 + 1; omega, by show (0 : Int) + 1 ≤ (l : Int); omega, rfl, ?_, ?_⟩, ⟨?_, ?_, fun _ _ hp hq => rhoS_inj (p := 1) (q := 2) (a := 4) (b := 6) (n := 3) (.inr (by decide)) (.inr (by decide)) (by decide) (by decide) (by decide) (by decide) hp hq, fun _ hp => rhoS_low (p := 1) (q := 2) (a := 4) (b := 6) (lo := 1) (by decide) (by decide) hp, rfl, rfl, Nat.le_of_ble_eq_true rfl⟩⟩
            · show rowS 1 (q9 zs ((0 : Int) + 1).toNat) _ _
              rw [qn]; exact rowS_next tl.symm (by omega) (by omega) (by omega)
            · show rowS 2 (n9 zs ((0 : Int) + 1).toNat) _ _
              rw [nn]; exact rowS_next ol.symm (by omega) (by omega) (by omega)
            · repeat' (first | exact trivial | refine And.intro rfl ?_ | fail)
            · exact ⟨rfl, rfl, rfl, trivial⟩
          · exact absurd (List.eq_nil_of_length_eq_zero (by omega)) o0
        · rw [tl] at f1 f3
          rcases hr2 with ⟨o0, rfl, rfl⟩ | ⟨o0, d2, s2, g1, g2, g3, rfl, rfl⟩
          · exact absurd (List.eq_nil_of_length_eq_zero (by rw [o0] at ol; have : (0 : Nat) = i.toNat := ol; omega)) t0
          · rw [ol] at g1 g3
            rw [tl, ol]
            repeat' ((conv => whnf); first | (refine ask_true (by omega) ?_) | (refine And.intro (by omega) ?_) | (refine fun (_ : InK _ _) => ?_) | fail)
            conv => whnf
            intro r hr'
            have rb := tmod_bound (a := zs.getD (0 + mulN i.toNat (Tryd.prog.types[35]).size) 0) (b := 9) (by decide)
            rw [← hr'] at rb
            have qn : q9 zs (i + 1).toNat = q9 zs i.toNat ++ [r] := by rw [show (i + 1).toNat = i.toNat + 1 by omega, q9_next, hr', em8, Nat.zero_add]
            have nn : n9 zs (i + 1).toNat = n9 zs i.toNat ++ [0 - r] := by unfold n9; rw [qn, List.map_append]; rfl
            have e1 : ∀ R, (q9 zs i.toNat ++ [r] ++ R).getD (0 + mulN i.toNat (Tryd.prog.types[3]).size) 0 = r := fun R => by rw [em, Nat.zero_add]; exact mid_at tl
            clear hr'
            repeat' ((conv => whnf); first | (refine ask_wrap64 (by omega) (by omega) ?_) | (refine And.intro (by omega) ?_) | fail)
            conv => whnf
            refine And.intro ⟨rfl, by omega, by rw [bytes3]; omega⟩ (And.intro (fun hroom1 => ?_) fun hg1 => fresh_as (zs := q9 zs i.toNat ++ [r]) (grow_eq tl.symm) fun c1 R1 p1 p2 p3 => ?_)
            · have hcc : i.toNat + 1 ≤ d1 := hroom1
              have er : (List.take i.toNat (q9 zs i.toNat ++ s1) ++ List.take 1 (List.drop 0 ((List.replicate (1 * (Tryd.prog.types[3]).size) 0).set 0 r)) ++ List.drop (i.toNat + 1) (q9 zs i.toNat ++ s1)) = q9 zs i.toNat ++ [r] ++ s1.drop 1 := room_eq tl.symm
              have e : ((List.take i.toNat (q9 zs i.toNat ++ s1) ++ List.take 1 (List.drop 0 ((List.replicate (1 * (Tryd.prog.types[3]).size) 0).set 0 r)) ++ List.drop (i.toNat + 1) (q9 zs i.toNat ++ s1)).getD (0 + mulN i.toNat (Tryd.prog.types[3]).size) 0) = r := by rw [er]; exact e1 _
              repeat' ((conv => whnf); first | (refine ask_true (by omega) ?_) | (refine ask_false (by omega) ?_) | (refine And.intro (by omega) ?_) | (refine fun (_ : InK _ _) => ?_) | (refine ask_wrap64 (by omega) (by omega) ?_) | (refine ⟨by kernel_rfl, ?_⟩) | fail)
              conv => whnf
              refine And.intro ⟨rfl, by omega, by rw [bytes3]; omega⟩ (And.intro (fun hroom => ?_) fun hg => fresh_as (zs := n9 zs i.toNat ++ [0 - r]) ((grow_eq ol.symm).trans (by rw [e])) fun c2 R2 g1 g2 g3 => ?_)
              · have hc2 : i.toNat + 1 ≤ d2 := hroom
                repeat' ((conv => whnf); first | (refine ask_true (by omega) ?_) | (refine ask_false (by omega) ?_) | (refine And.intro (by omega) ?_) | (refine fun (_ : InK _ _) => ?_) | (refine ask_wrap64 (by omega) (by omega) ?_) | (refine ⟨by kernel_rfl, ?_⟩) | fail)
                conv => whnf
                refine ⟨(l - (i + 1)).toNat, (i + 1, .w (.c (.csl 1 0 0 (i.toNat + 1) d1)), .own 3 [.ints .i64 d1 (q9 zs i.toNat ++ [r] ++ s1.drop 1)], .w (.c (.csl 2 0 0 (i.toNat + 1) d2)), .own 3 [.ints .i64 d2 (n9 zs i.toNat ++ [0 - r] ++ s2.drop 1)]), rhoS 1 2 1 2, by omega, ⟨by show 0 ≤ i + 1; omega, by show i + 1 ≤ (l : Int); omega, rfl, ?_, ?_⟩, ⟨?_, ?_, fun _ _ hp hq => rhoS_inj (p := 1) (q := 2) (a := 1) (b := 2) (n := 3) (.inl rfl) (.inl rfl) (by decide) (by decide) (by decide) (by decide) hp hq, fun _ hp => rhoS_low (p := 1) (q := 2) (a := 1) (b := 2) (lo := 1) (by decide) (by decide) hp, rfl, rfl, Nat.le_of_ble_eq_true rfl⟩⟩
                · show rowS 1 (q9 zs (i + 1).toNat) _ _
                  rw [qn]; exact rowS_next tl.symm (by omega) (by omega) (by rw [List.length_drop]; omega)
                · show rowS 2 (n9 zs (i + 1).toNat) _ _
                  rw [nn]; exact rowS_next ol.symm (by omega) (by omega) (by rw [List.length_drop]; omega)
                · repeat' (first | exact trivial | refine And.intro rfl ?_ | fail)
                · exact ⟨rfl, congrArg some (congrArg (fun ys => Blk.own 3 [.ints .i64 _ ys]) er), congrArg some (congrArg (fun ys => Blk.own 3 [.ints .i64 _ ys]) ((room_eq ol.symm).trans (by rw [e]))), trivial⟩
              · have hc2 : i.toNat + 1 ≤ c2 := g1
                repeat' ((conv => whnf); first | (refine ask_true (by omega) ?_) | (refine ask_false (by omega) ?_) | (refine And.intro (by omega) ?_) | (refine fun (_ : InK _ _) => ?_) | (refine ask_wrap64 (by omega) (by omega) ?_) | (refine ⟨by kernel_rfl, ?_⟩) | fail)
                conv => whnf
                refine ⟨(l - (i + 1)).toNat, (i + 1, .w (.c (.csl 1 0 0 (i.toNat + 1) d1)), .own 3 [.ints .i64 d1 (q9 zs i.toNat ++ [r] ++ s1.drop 1)], .w (.c (.csl 2 0 0 (i.toNat + 1) c2)), .own 3 [.ints .i64 c2 (n9 zs i.toNat ++ [0 - r] ++ R2)]), rhoS 1 2 1 5, by omega, ⟨by show 0 ≤ i + 1; omega, by show i + 1 ≤ (l : Int); omega, rfl, ?_, ?_⟩, ⟨?_, ?_, fun _ _ hp hq => rhoS_inj (p := 1) (q := 2) (a := 1) (b := 5) (n := 3) (.inl rfl) (.inr (by decide)) (by decide) (by decide) (by decide) (by decide) hp hq, fun _ hp => rhoS_low (p := 1) (q := 2) (a := 1) (b := 5) (lo := 1) (by decide) (by decide) hp, rfl, rfl, Nat.le_of_ble_eq_true rfl⟩⟩
                · show rowS 1 (q9 zs (i + 1).toNat) _ _
                  rw [qn]; exact rowS_next tl.symm (by omega) (by omega) (by rw [List.length_drop]; omega)
                · show rowS 2 (n9 zs (i + 1).toNat) _ _
                  rw [nn]; exact rowS_next ol.symm (by omega) (by omega) (by omega)
                · repeat' (first | exact trivial | refine And.intro rfl ?_ | fail)
                · exact ⟨rfl, congrArg some (congrArg (fun ys => Blk.own 3 [.ints .i64 _ ys]) er), rfl, trivial⟩
            · have hcc : i.toNat + 1 ≤ c1 := p1
              have e : ((q9 zs i.toNat ++ [r] ++ R1).getD (0 + mulN i.toNat (Tryd.prog.types[3]).size) 0) = r := by exact e1 _
              repeat' ((conv => whnf); first | (refine ask_true (by omega) ?_) | (refine ask_false (by omega) ?_) | (refine And.intro (by omega) ?_) | (refine fun (_ : InK _ _) => ?_) | (refine ask_wrap64 (by omega) (by omega) ?_) | (refine ⟨by kernel_rfl, ?_⟩) | fail)
              conv => whnf
              refine And.intro ⟨rfl, by omega, by rw [bytes3]; omega⟩ (And.intro (fun hroom => ?_) fun hg => fresh_as (zs := n9 zs i.toNat ++ [0 - r]) ((grow_eq ol.symm).trans (by rw [e])) fun c2 R2 g1 g2 g3 => ?_)
              · have hc2 : i.toNat + 1 ≤ d2 := hroom
                repeat' ((conv => whnf); first | (refine ask_true (by omega) ?_) | (refine ask_false (by omega) ?_) | (refine And.intro (by omega) ?_) | (refine fun (_ : InK _ _) => ?_) | (refine ask_wrap64 (by omega) (by omega) ?_) | (refine ⟨by kernel_rfl, ?_⟩) | fail)
                conv => whnf
                refine ⟨(l - (i + 1)).toNat, (i + 1, .w (.c (.csl 1 0 0 (i.toNat + 1) c1)), .own 3 [.ints .i64 c1 (q9 zs i.toNat ++ [r] ++ R1)], .w (.c (.csl 2 0 0 (i.toNat + 1) d2)), .own 3 [.ints .i64 d2 (n9 zs i.toNat ++ [0 - r] ++ s2.drop 1)]), rhoS 1 2 4 2, by omega, ⟨by show 0 ≤ i + 1; omega, by show i + 1 ≤ (l : Int); omega, rfl, ?_, ?_⟩, ⟨?_, ?_, fun _ _ hp hq => rhoS_inj (p := 1) (q := 2) (a := 4) (b := 2) (n := 3) (.inr (by decide)) (.inl rfl) (by decide) (by decide) (by decide) (by decide) hp hq, fun _ hp => rhoS_low (p := 1) (q := 2) (a := 4) (b := 2) (lo := 1) (by decide) (by decide) hp, rfl, rfl, Nat.le_of_ble_eq_true rfl⟩⟩
                · show rowS 1 (q9 zs (i + 1).toNat) _ _
                  rw [qn]; exact rowS_next tl.symm (by omega) (by omega) (by omega)
                · show rowS 2 (n9 zs (i + 1).toNat) _ _
                  rw [nn]; exact rowS_next ol.symm (by omega) (by omega) (by rw [List.length_drop]; omega)
                · repeat' (first | exact trivial | refine And.intro rfl ?_ | fail)
                · exact ⟨rfl, rfl, congrArg some (congrArg (fun ys => Blk.own 3 [.ints .i64 _ ys]) ((room_eq ol.symm).trans (by rw [e]))), trivial⟩
              · have hc2 : i.toNat + 1 ≤ c2 := g1
                repeat' ((conv => whnf); first | (refine ask_true (by omega) ?_) | (refine ask_false (by omega) ?_) | (refine And.intro (by omega) ?_) | (refine fun (_ : InK _ _) => ?_) | (refine ask_wrap64 (by omega) (by omega) ?_) | (refine ⟨by kernel_rfl, ?_⟩) | fail)
                conv => whnf
                refine ⟨(l - (i + 1)).toNat, (i + 1, .w (.c (.csl 1 0 0 (i.toNat + 1) c1)), .own 3 [.ints .i64 c1 (q9 zs i.toNat ++ [r] ++ R1)], .w (.c (.csl 2 0 0 (i.toNat + 1) c2)), .own 3 [.ints .i64 c2 (n9 zs i.toNat ++ [0 - r] ++ R2)]), rhoS 1 2 4 6, by omega, ⟨by show 0 ≤ i + 1; omega, by show i + 1 ≤ (l : Int); omega, rfl, ?_, ?_⟩, ⟨?_, ?_, fun _ _ hp hq => rhoS_inj (p := 1) (q := 2) (a := 4) (b := 6) (n := 3) (.inr (by decide)) (.inr (by decide)) (by decide) (by decide) (by decide) (by decide) hp hq, fun _ hp => rhoS_low (p := 1) (q := 2) (a := 4) (b := 6) (lo := 1) (by decide) (by decide) hp, rfl, rfl, Nat.le_of_ble_eq_true rfl⟩⟩
                · show rowS 1 (q9 zs (i + 1).toNat) _ _
                  rw [qn]; exact rowS_next tl.symm (by omega) (by omega) (by omega)
                · show rowS 2 (n9 zs (i + 1).toNat) _ _
                  rw [nn]; exact rowS_next ol.symm (by omega) (by omega) (by omega)
                · repeat' (first | exact trivial | refine And.intro rfl ?_ | fail)
                · exact ⟨rfl, rfl, rfl, trivial⟩
      · have it : i.toNat = l := by omega
        rw [it] at hr1 hr2 tl ol
        rcases hr1 with ⟨t0, rfl, rfl⟩ | ⟨t0, d1, s1, f1, f2, f3, rfl, rfl⟩
        · have l0 : l = 0 := by rw [← tl, t0]; rfl
          subst l0
          rcases hr2 with ⟨o0, rfl, rfl⟩ | ⟨o0, d2, s2, g1, g2, g3, rfl, rfl⟩
          · repeat' ((conv => whnf); first | (refine ask_false (by omega) ?_) | (refine ask_wrap64 (by omega) (by omega) ?_) | fail)
            conv => whnf
            refine loop_at (12 :: List.range' 57 76) (fun m (i : Int) => i = 0 ∧ m = 0) (fun i => [(12, vi i)]) (fun _ => [.ro [.ints .i8 zs.length zs], .gone, .gone, .own 3 [.ints .i64 0 []], .own 3 [.ints .i64 0 []], .own 3 [.ints .i64 0 []]]) 0 0 ⟨rfl, rfl⟩ ?_ ?_
            · exact ⟨rfl, ⟨⟨Nat.le_of_ble_eq_true rfl, rfl⟩, trivial⟩, ⟨rfl, rfl, rfl, rfl, trivial⟩, rfl, rfl, Nat.le_of_ble_eq_true rfl⟩
            · rintro m i ⟨rfl, rfl⟩
              repeat' ((conv => whnf); first | (refine ask_false (by decide) ?_) | (refine ask_true (by decide) ?_) | (refine ask_true rfl ?_) | rfl | fail)
          · exact absurd (List.eq_nil_of_length_eq_zero ol) o0
        · have lp : 0 < l := by
            rcases Nat.eq_zero_or_pos l with h | h
            · rw [h] at t0; exact absurd rfl t0
            · exact h
          rcases hr2 with ⟨o0, rfl, rfl⟩ | ⟨o0, d2, s2, g1, g2, g3, rfl, rfl⟩
          · exact absurd ol (by rw [o0]; show ¬ (0 = l); omega)
          · rw [tl] at f1 f3 ⊢
            rw [ol] at g1 g3 ⊢
            have et : List.take l (q9 zs l ++ s1) = q9 zs l := take_all tl.symm
            have eo : List.take l (n9 zs l ++ s2) = n9 zs l := take_all ol.symm
            repeat' ((conv => whnf); first | (refine ask_false (by omega) ?_) | (refine ask_wrap64 (by omega) (by omega) ?_) | (refine And.intro ⟨rfl, rfl⟩ ?_) | (refine And.intro rfl ?_) | (refine And.intro (by omega) ?_) | fail)
            conv => whnf
            obtain ⟨A, eA⟩ : ∃ A, A = flZ k (List.take l (q9 zs l ++ s1)) := ⟨_, rfl⟩
            obtain ⟨B, eB⟩ : ∃ B, B = flZ k (List.take l (n9 zs l ++ s2)) := ⟨_, rfl⟩
            obtain ⟨C', eC⟩ : ∃ C', C' = flZ (k + 1) (List.take l (q9 zs l ++ s1)) := ⟨_, rfl⟩
            refine loop_at (12 :: List.range' 57 76) (fun m (i : Int) => 0 ≤ i ∧ i ≤ l ∧ m = (l - i).toNat) (fun i => [(12, vi i)]) (fun _ => [.ro [.ints .i8 zs.length zs], .own 3 [.ints .i64 d1 (q9 zs l ++ s1)], .own 3 [.ints .i64 d2 (n9 zs l ++ s2)], .own 3 [.ints .i64 l A], .own 3 [.ints .i64 l B], .own 3 [.ints .i64 l C']]) l 0 ⟨by decide, by omega, by omega⟩ ?_ ?_
            · rw [eA, eB, eC]
              exact ⟨rfl, ⟨⟨Nat.le_of_ble_eq_true rfl, rfl⟩, trivial⟩, ⟨rfl, rfl, rfl, rfl, rfl, rfl, trivial⟩, rfl, rfl, Nat.le_of_ble_eq_true rfl⟩
            · rw [et] at eA eC
              rw [eo] at eB
              clear it i0 i1 i2 em em8
              rintro _ i ⟨i0, i1, rfl⟩
              have em : mulN i.toNat (Tryd.prog.types[3]).size = i.toNat := mulN1 _
              rcases Int.lt_or_le i l with i2 | i2
              · have sg := signs (zs := zs) (k := k) (l := l) (by omega) hk20 (i := i.toNat) (by omega)
                have b1 := flZ_in (lv := k) (ys := q9 zs l) (i := i.toNat) (by omega)
                have b2 := flZ_in (lv := k) (ys := n9 zs l) (i := i.toNat) (by omega)
                have b3 := flZ_in (lv := k + 1) (ys := q9 zs l) (i := i.toNat) (by omega)
                rw [← eA, ← eB, ← eC] at sg
                rw [← eA] at b1
                rw [← eB] at b2
                rw [← eC] at b3
                have x1 : A.getD (0 + mulN i.toNat (Tryd.prog.types[3]).size) 0 = A.getD i.toNat 0 := by rw [em, Nat.zero_add]
                have x2 : B.getD (0 + mulN i.toNat (Tryd.prog.types[3]).size) 0 = B.getD i.toNat 0 := by rw [em, Nat.zero_add]
                have x3 : C'.getD (0 + mulN i.toNat (Tryd.prog.types[3]).size) 0 = C'.getD i.toNat 0 := by rw [em, Nat.zero_add]
                by_cases hk0 : 0 < k
                all_goals repeat' ((conv => whnf); first | (refine ask_true (by omega) ?_) | (refine ask_false (by omega) ?_) | (refine And.intro (by omega) ?_) | (refine fun (_ : InK _ _) => ?_) | (refine ask_wrap64 (by omega) (by omega) ?_) | (refine ⟨by kernel_rfl, ?_⟩) | fail)
                all_goals (conv => whnf)
                all_goals exact ⟨(l - (i + 1)).toNat, i + 1, by omega, ⟨by omega, by omega, rfl⟩, rfl, ⟨⟨Nat.le_of_ble_eq_true rfl, rfl⟩, trivial⟩, ⟨rfl, rfl, rfl, rfl, rfl, rfl, trivial⟩, rfl, rfl, Nat.le_of_ble_eq_true rfl⟩
              · repeat' ((conv => whnf); first | (refine ask_false (by omega) ?_) | (refine ask_true rfl ?_) | rfl | fail)
theorem signs_nil (k0 : Int) (hk : 0 ≤ k0 ∧ k0 ≤ 255) : walkg FFl 0 Tryd.f8 [u8 k0, .c .csn] [] fun y _ => y = vb true := by
  repeat' ((conv => whnf); first | (refine ask_true (by omega) ?_) | (refine ask_false (by omega) ?_) | (refine ask_wrap64 (by omega) (by omega) ?_) | (refine And.intro (by omega) ?_) | fail)
  conv => whnf
  intro k hkr
  have hk20 : 0 ≤ k ∧ k ≤ 19 := by rw [hkr, Int.tmod_eq_emod_of_nonneg hk.1]; omega
  clear hkr
  repeat' ((conv => whnf); first | fail)
  conv => whnf
  refine loop_at (6 :: 7 :: 8 :: List.range' 24 23) (fun m (i : Int) => i = 0 ∧ m = 0) (fun i => [(6, .w (.c .csn)), (7, .w (.c .csn)), (8, vi i)]) (fun _ => []) 0 0 ⟨rfl, rfl⟩ ?_ ?_
  · exact ⟨rfl, ⟨⟨Nat.le_of_ble_eq_true rfl, rfl⟩, ⟨Nat.le_of_ble_eq_true rfl, rfl⟩, ⟨Nat.le_of_ble_eq_true rfl, rfl⟩, trivial⟩, trivial, rfl, rfl, Nat.zero_le _⟩
  · rintro m i ⟨rfl, rfl⟩
    repeat' ((conv => whnf); first | (refine ask_false (by decide) ?_) | (refine ask_wrap64 (by omega) (by omega) ?_) | fail)
    conv => whnf
    refine loop_at (12 :: List.range' 57 76) (fun m (i : Int) => i = 0 ∧ m = 0) (fun i => [(12, vi i)]) (fun _ => [.own 3 [.ints .i64 0 []], .own 3 [.ints .i64 0 []], .own 3 [.ints .i64 0 []]]) 0 0 ⟨rfl, rfl⟩ ?_ ?_
    · exact ⟨rfl, ⟨⟨Nat.le_of_ble_eq_true rfl, rfl⟩, trivial⟩, ⟨rfl, rfl, rfl, trivial⟩, rfl, rfl, Nat.zero_le _⟩
    · rintro m i ⟨rfl, rfl⟩
      repeat' ((conv => whnf); first | (refine ask_false (by decide) ?_) | (refine ask_true (by decide) ?_) | (refine ask_true rfl ?_) | rfl | fail)
theorem law_LevelSigns (W0 : World) (k : Int) (hk : InK .u8 k) (v : Value) (wv : SlIn .i8 W0 v) (hg : GW G1 W0) : Calls Tryd.prog 8 #[.int .u8 k, v] W0 fun e w' => e = .returned (.bool true) ∧ Below W0.heap.size W0 w' := by
  rcases wv with rfl | ⟨bk, o, len, cap, zs, rfl, hl, hc, hbw, hz, hzx, hcell⟩
  · exact walkg_true FFl_ok Tryd.func8 (ws := [u8 k, .c .csn]) ⟨hk, trivial, trivial⟩ rfl (n := 0) (signs_nil k hk) W0 hg
  · subst hz
    exact walkg_true_ro FFl_ok Tryd.func8 (ws := [u8 k, .c (.csl 0 0 0 len zs.length)]) (R := [.ro [.ints .i8 zs.length zs]]) ⟨hk, ⟨hl, hc⟩, trivial⟩ rfl (n := 0) (signs_row zs len hl hc k hk) (ro_ok8 hzx) (fun _ => (bk, o)) W0 (by
      intro j c hj
      match j, hj with
      | 0, hj => simp at hj; subst hj; exact ⟨rfl, ro_of_slIn rfl hbw hcell⟩
      | j + 1, hj => simp at hj) hg
end Go.Proofs.YtmkdamfdlkpjdaaDoor
