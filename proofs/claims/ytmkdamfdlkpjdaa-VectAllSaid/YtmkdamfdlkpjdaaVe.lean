/- Chapter vect: Vector, walked. (Printed by mkvv.py.) -/
import Derived.Test.YtmkdamfdlkpjdaaVd
set_option linter.all false
namespace Go.Proofs.Ytmkdamfdlkpjdaa
open Go.RowKit (Below)
open Go.WideMaps
set_option maxRecDepth 100000
set_option maxHeartbeats 64000000

/-! ### all that open with any number -/
def rnkc (row : List Int) (k : Nat) : Nat → Int
  | 0 => 0
  | s + 1 => rnkc row k s + row.getD (k - ((s : Int) - k).natAbs) 0
theorem rnkc_all : (List.range 8).all (fun m => (List.range 9).all fun k => decide (rnkc (crow m) k (2 * k + 1) = (crow (m + 1)).getD k 0)) = true := by kernel_rfl
theorem rnk_c (m k : Nat) (hk : k ≤ 8) : ∀ s : Nat, s ≤ 2 * k + 1 → rnk m k s = rnkc (crow m) k s
  | 0, _ => rfl
  | s + 1, hs => by
    show rnk m k s + cN m (k - szV (s - k)) = rnkc (crow m) k s + (crow m).getD (k - ((s : Int) - k).natAbs) 0
    rw [rnk_c m k hk s (by omega), szV_abs (by omega)]
    have e : (k : Int) - absI (s - k) = ((k - ((s : Int) - k).natAbs : Nat) : Int) := by unfold absI; omega
    rw [e, cN_nat]
theorem rnk_all {m k : Int} (hm : 0 ≤ m ∧ m ≤ 7) (hk : 0 ≤ k ∧ k ≤ 8) : rnk m k (2 * k + 1).toNat = cN (m + 1) k := by
  obtain ⟨m', rfl⟩ : ∃ m' : Nat, m = m' := ⟨m.toNat, by omega⟩
  obtain ⟨k', rfl⟩ : ∃ k' : Nat, k = k' := ⟨k.toNat, by omega⟩
  rw [show (2 * (k' : Int) + 1).toNat = 2 * k' + 1 by omega, rnk_c m' k' (by omega) _ (Nat.le_refl _), show (m' : Int) + 1 = ((m' + 1 : Nat) : Int) by omega, cN_nat]
  have h1 := List.all_eq_true.1 rnkc_all m' (List.mem_range.2 (by omega))
  exact of_decide_eq_true (List.all_eq_true.1 h1 k' (List.mem_range.2 (by omega)))
/-- What is found: so many numbers, with so many pulses, of that number. -/
def vecR (n : Nat) (k i : Int) (A : List Int) : Prop := A.length = n ∧ sumA A A.length = k ∧ rank A k = i
def vecP (n : Nat) (k i : Int) (x : V) (N : List Blk) : Prop := ∃ A, vecR n k i A ∧ ((A = [] ∧ x = .tup [.c .csn, i64 0] ∧ N = []) ∨ (A ≠ [] ∧ ∃ (c : Nat) (rest : List Int), A.length ≤ c ∧ c ≤ 9223372036854775807 ∧ rest.length = c - A.length ∧ x = .tup [.c (.csl 0 0 0 A.length c), i64 0] ∧ N = [.own 3 [.ints .i64 c (A ++ rest)]]))
theorem sumA_snoc (A : List Int) (x : Int) : sumA (A ++ [x]) (A ++ [x]).length = sumA A A.length + szV x := by
  have key : ∀ n : Nat, n ≤ A.length → sumA (A ++ [x]) n = sumA A n := fun n => by
    induction n with
    | zero => intro _; rfl
    | succ n ih =>
      intro h
      show sumA (A ++ [x]) n + szV ((A ++ [x]).getD n 0) = sumA A n + szV (A.getD n 0)
      rw [ih (by omega), left_at (by omega)]
  rw [List.length_append, List.length_singleton]
  show sumA (A ++ [x]) A.length + szV ((A ++ [x]).getD A.length 0) = _
  rw [key _ (Nat.le_refl _), List.getD_eq_getElem?_getD, List.getElem?_append_right (Nat.le_refl _), Nat.sub_self]; rfl
/-- What holds at the head of a round: what is there, and what is still to be found. -/
structure Got (n : Nat) (k i : Int) (at' : Int) (A : List Int) (k' i' : Int) : Prop where
  len : (A.length : Int) = at'
  sum : sumA A A.length + k' = k
  k0 : 0 ≤ k' ∧ k' ≤ 8
  i0 : 0 ≤ i' ∧ i' < cN (n - at') k'
  rk : ∀ B : List Int, (B.length : Int) = n - at' → rank (A ++ B) k = i - i' + rank B k'
theorem Got.next {n : Nat} {k i at' k' i' : Int} {A : List Int} (g : Got n k i at' A k' i') {x : Int} (hx : -k' ≤ x ∧ x ≤ k') (h : 0 ≤ i' - rnk (n - at' - 1) k' (x + k').toNat ∧ i' - rnk (n - at' - 1) k' (x + k').toNat < cN (n - at' - 1) (k' - szV x)) :
    Got n k i (at' + 1) (A ++ [x]) (k' - szV x) (i' - rnk (n - at' - 1) k' (x + k').toNat) := by
  have hk := g.k0
  have sx := szV_abs (x := x) (by omega)
  refine ⟨by have := g.len; rw [List.length_append, List.length_singleton]; omega, ?_, by rw [sx]; unfold absI; omega, ⟨h.1, by rw [show (n : Int) - (at' + 1) = n - at' - 1 by omega]; exact h.2⟩, fun B hB => ?_⟩
  · have := g.sum
    rw [sumA_snoc]
    omega
  · rw [List.append_assoc, List.singleton_append, g.rk (x :: B) (by rw [List.length_cons]; omega)]
    show i - i' + (rnk (B.length : Int) k' (x + k').toNat + rank B (k' - szV x)) = _
    rw [show (B.length : Int) = n - at' - 1 by omega]
    omega
theorem Got.done {n : Nat} {k i k' i' : Int} {A : List Int} (g : Got n k i n A k' i') : vecR n k i A := by
  have hi := g.i0
  rw [Int.sub_self] at hi
  have hk : k' = 0 := by
    rcases Int.lt_or_le 0 k' with h | h
    · rw [cN_none (by omega) g.k0.2] at hi; omega
    · have := g.k0; omega
  subst hk
  rw [cN_zero] at hi
  have h1 := g.rk [] (by simp)
  rw [List.append_nil] at h1
  have h2 := g.sum
  refine ⟨by have := g.len; omega, by omega, ?_⟩
  rw [h1]
  show i - i' + 0 = i
  omega
theorem loop_ren7 {body : List V → List Blk → XQ → Prop} {lo : Nat} {fr : List V} {H : List Blk} {Q : XQ} {α β γ δ ε ζ η : Type} (ds : List Nat) (J : Nat → α → β → γ → δ → ε → ζ → η → Prop) (sel : α → β → γ → δ → ε → ζ → η → List (Nat × V)) (Hs : α → β → γ → δ → ε → ζ → η → List Blk) (m₀ : Nat) (a₀ : α) (b₀ : β) (c₀ : γ) (d₀ : δ) (e₀ : ε) (f₀ : ζ) (g₀ : η) (h₀ : J m₀ a₀ b₀ c₀ d₀ e₀ f₀ g₀) (ρ₀ : Nat → Nat)
    (start : Next2 ρ₀ ds lo fr (sel a₀ b₀ c₀ d₀ e₀ f₀ g₀) (Hs a₀ b₀ c₀ d₀ e₀ f₀ g₀) fr H)
    (round : ∀ m a b c d e f g, J m a b c d e f g → havK ds 0 fr fun f₁ => setLK (sel a b c d e f g) f₁ fun f₂ => body f₂ (Hs a b c d e f g) fun ex fr' H' => match ex with
      | .normal => ∃ m' s' ρ, m' < m ∧ J m' (Prod.fst s') (Prod.fst (Prod.snd s')) (Prod.fst (Prod.snd (Prod.snd s'))) (Prod.fst (Prod.snd (Prod.snd (Prod.snd s')))) (Prod.fst (Prod.snd (Prod.snd (Prod.snd (Prod.snd s'))))) (Prod.fst (Prod.snd (Prod.snd (Prod.snd (Prod.snd (Prod.snd s')))))) (Prod.snd (Prod.snd (Prod.snd (Prod.snd (Prod.snd (Prod.snd s')))))) ∧ Next2 ρ ds lo fr (sel (Prod.fst s') (Prod.fst (Prod.snd s')) (Prod.fst (Prod.snd (Prod.snd s'))) (Prod.fst (Prod.snd (Prod.snd (Prod.snd s')))) (Prod.fst (Prod.snd (Prod.snd (Prod.snd (Prod.snd s'))))) (Prod.fst (Prod.snd (Prod.snd (Prod.snd (Prod.snd (Prod.snd s')))))) (Prod.snd (Prod.snd (Prod.snd (Prod.snd (Prod.snd (Prod.snd s'))))))) (Hs (Prod.fst s') (Prod.fst (Prod.snd s')) (Prod.fst (Prod.snd (Prod.snd s'))) (Prod.fst (Prod.snd (Prod.snd (Prod.snd s')))) (Prod.fst (Prod.snd (Prod.snd (Prod.snd (Prod.snd s'))))) (Prod.fst (Prod.snd (Prod.snd (Prod.snd (Prod.snd (Prod.snd s')))))) (Prod.snd (Prod.snd (Prod.snd (Prod.snd (Prod.snd (Prod.snd s'))))))) fr' H'
      | .exit id => Q (.exit id) fr' H'
      | .ret => Q .ret fr' H') : XLoop body lo fr H Q :=
  loop_ren ds (fun m s => J m (Prod.fst s) (Prod.fst (Prod.snd s)) (Prod.fst (Prod.snd (Prod.snd s))) (Prod.fst (Prod.snd (Prod.snd (Prod.snd s)))) (Prod.fst (Prod.snd (Prod.snd (Prod.snd (Prod.snd s))))) (Prod.fst (Prod.snd (Prod.snd (Prod.snd (Prod.snd (Prod.snd s)))))) (Prod.snd (Prod.snd (Prod.snd (Prod.snd (Prod.snd (Prod.snd s))))))) (fun s => sel (Prod.fst s) (Prod.fst (Prod.snd s)) (Prod.fst (Prod.snd (Prod.snd s))) (Prod.fst (Prod.snd (Prod.snd (Prod.snd s)))) (Prod.fst (Prod.snd (Prod.snd (Prod.snd (Prod.snd s))))) (Prod.fst (Prod.snd (Prod.snd (Prod.snd (Prod.snd (Prod.snd s)))))) (Prod.snd (Prod.snd (Prod.snd (Prod.snd (Prod.snd (Prod.snd s))))))) (fun s => Hs (Prod.fst s) (Prod.fst (Prod.snd s)) (Prod.fst (Prod.snd (Prod.snd s))) (Prod.fst (Prod.snd (Prod.snd (Prod.snd s)))) (Prod.fst (Prod.snd (Prod.snd (Prod.snd (Prod.snd s))))) (Prod.fst (Prod.snd (Prod.snd (Prod.snd (Prod.snd (Prod.snd s)))))) (Prod.snd (Prod.snd (Prod.snd (Prod.snd (Prod.snd (Prod.snd s))))))) m₀ (a₀, b₀, c₀, d₀, e₀, f₀, g₀) h₀ ρ₀ start fun m s h => round m (Prod.fst s) (Prod.fst (Prod.snd s)) (Prod.fst (Prod.snd (Prod.snd s))) (Prod.fst (Prod.snd (Prod.snd (Prod.snd s)))) (Prod.fst (Prod.snd (Prod.snd (Prod.snd (Prod.snd s))))) (Prod.fst (Prod.snd (Prod.snd (Prod.snd (Prod.snd (Prod.snd s)))))) (Prod.snd (Prod.snd (Prod.snd (Prod.snd (Prod.snd (Prod.snd s)))))) h
def rho13 (j : Nat) : Nat := if j = 1 then 3 else j
theorem rho13_inj {i j : Nat} (hi : i < 2) (hj : j < 2) (h : rho13 i = rho13 j) : i = j := by unfold rho13 at h; split at h <;> split at h <;> omega
theorem bytes3 : (Try.prog.types[3]).bytes = 8 := by kernel_rfl
noncomputable def FVe : Fns := ((F0.over 39 (hOf 8)).plus 38 (ct1 (fun _ => True) szV)).plus 24 (ct2 (fun _ _ => True) cC)
theorem FVe_ok : FnsOk Try.prog FVe := ((F0_ok.over (of_ct 8) Try.func39 (by kernel_rfl) (by kernel_rfl)).plus vsize_ct Try.func38 (by kernel_rfl) (by kernel_rfl)).plus count_ct Try.func24 (by kernel_rfl) (by kernel_rfl)
theorem vector_walk (n k i : Int) (hi : InK .i64 i) (hn : 0 ≤ n ∧ n ≤ 8) (hk : 0 ≤ k ∧ k ≤ 8) (h0 : 0 ≤ i ∧ i < cN n k) : walk FVe 0 Try.f22 [i64 n, i64 k, i64 i] [] (Made (vecP n.toNat k i)) := by
  have ec : cC n k = cN n k := by rw [cC_def, if_pos ⟨hn, hk⟩]
  have cb := cN_in hn.2 hk.2
  have nn : ((n.toNat : Nat) : Int) = n := by omega
  have g0 : Got n.toNat k i 0 [] k i := ⟨rfl, by show (0 : Int) + k = k; omega, hk, by rw [nn, Int.sub_zero]; exact h0, fun B _ => by show rank B k = i - i + rank B k; omega⟩
  repeat' ((conv => whnf); first | (refine ask_true (by omega) ?_) | (refine ask_false (by omega) ?_) | (refine And.intro trivial ?_) | (refine And.intro mty ?_) | fail)
  conv => whnf
  refine loop_ren7 (1 :: 2 :: 9 :: 10 :: 11 :: List.range' 23 40) (fun m (a : Int) (R : Obj → Prop) (v : V) (b : Blk) (A : List Int) (k' i' : Int) => 0 ≤ a ∧ a ≤ n ∧ m = (n - a).toNat ∧ (∀ o, R o → mapI cntQ o) ∧ rowS 1 A v b ∧ Got n.toNat k i a A k' i') (fun a _ v _ _ k' i' => [(1, vi k'), (2, vi i'), (9, v), (23, vi a)]) (fun _ R _ b _ _ _ => [.obj R, b]) n.toNat 0 emptyM (.w (.c .csn)) .gone [] k i ⟨by decide, by omega, by omega, empty_mapI _, .inl ⟨rfl, rfl, rfl⟩, g0⟩ id ?_ ?_
  · refine ⟨?_, And.intro rfl trivial, fun _ _ _ _ h => h, fun _ _ => rfl, rfl, rfl, Nat.le_of_ble_eq_true rfl⟩
    repeat' (first | exact trivial | refine And.intro rfl ?_ | fail)
  · rintro _ a R v b A k' i' ⟨a0, a1, rfl, hR, hr, g⟩
    have g : Got n.toNat k i a A k' i' := g
    have hr : rowS 1 A v b := hr
    have hk0 := g.k0
    have hi0 := g.i0
    have hl := g.len
    simp only [nn] at hi0
    rcases Int.lt_or_le a n with a2 | a2
    · have gN : ∀ {x : Int}, (-k' ≤ x ∧ x ≤ k') → (0 ≤ i' - rnk (n - a - 1) k' (x + k').toNat ∧ i' - rnk (n - a - 1) k' (x + k').toNat < cN (n - a - 1) (k' - szV x)) → Got n.toNat k i (a + 1) (A ++ [x]) (k' - szV x) (i' - rnk (n - a - 1) k' (x + k').toNat) := fun {x} h1 h2 => by
        have := g.next (x := x) h1 (by rw [nn]; exact h2)
        rwa [nn] at this
      have cb' := cN_in (n := n - a) (k := k') (by omega) (by omega)
      rcases hr with ⟨rfl, rfl, rfl⟩ | ⟨t0, d, s, f1, f2, f3, rfl, rfl⟩
      · skip
        repeat' ((conv => whnf); first | (refine ask_true (by omega) ?_) | (refine ask_wrap64 (by omega) (by omega) ?_) | fail)
        conv => whnf
        refine loop_at2 (2 :: 11 :: List.range' 28 26) (fun m (x : Int) (R : Obj → Prop) => (-k' ≤ x ∧ x ≤ k') ∧ m = (k' - x).toNat ∧ 0 ≤ i' - rnk (n - a - 1) k' (x + k').toNat ∧ ∀ o, R o → mapI cntQ o) (fun x _ => [(2, vi (i' - rnk (n - a - 1) k' (x + k').toNat)), (11, vi x)]) (fun _ R => [.obj R, .gone]) (k' - (0 - k')).toNat (0 - k') R ⟨by omega, rfl, by rw [show (0 - k' + k').toNat = 0 by omega]; show 0 ≤ i' - 0; omega, hR⟩ ?_ ?_
        · refine ⟨rfl, ⟨⟨Nat.le_of_ble_eq_true rfl, congrArg vi ?_⟩, ⟨Nat.le_of_ble_eq_true rfl, rfl⟩, trivial⟩, ⟨rfl, trivial⟩, rfl, rfl, Nat.le_of_ble_eq_true rfl⟩
          rw [show (0 - k' + k').toNat = 0 by omega]
          show i' = i' - 0
          omega
        · rintro m x R ⟨hx, rfl, hi, hR⟩
          have hs := szV_in x
          have ss := szV_abs (x := x) (by omega)
          have cc := cN_in (n := n - a - 1) (k := k' - szV x) (by omega) (by omega)
          have rn := rnk_next (n := n - a - 1) (k := k') (z := x) (by omega)
          have rb := rnk_in (n := n - a - 1) (k := k') (by omega) (by omega) (x + k').toNat
          repeat' ((conv => whnf); first | (refine And.intro trivial ?_) | (refine ask_wrap64 (by omega) (by omega) ?_) | fail)
          conv => whnf
          refine And.intro ⟨R, rfl, hR⟩ (And.intro ⟨by omega, by omega, by omega⟩ fun H' eH => ?_)
          have eH' : H' = [.obj (mapI cntQ), .gone] := eH
          clear eH
          subst eH'
          rcases Int.lt_or_le (i' - rnk (n - a - 1) k' (x + k').toNat) (cN (n - a - 1) (k' - szV x)) with hlt | hge
          · have gn := gN (x := x) ⟨by omega, by omega⟩ ⟨hi, hlt⟩
            repeat' ((conv => whnf); first | (refine ask_false (by omega) ?_) | (refine And.intro (by omega) ?_) | fail)
            conv => whnf
            refine And.intro ⟨by decide, by decide, Nat.le_of_ble_eq_true (by kernel_rfl)⟩ (fresh_as (zs := [] ++ [x]) rfl fun c R1 h1 h2 h3 => ?_)
            repeat' ((conv => whnf); first | (refine And.intro trivial ?_) | (refine ask_wrap64 (by omega) (by omega) ?_) | fail)
            conv => whnf
            refine ⟨(n - (a + 1)).toNat, (a + 1, mapI cntQ, .w (.c (.csl 1 0 0 (([] : List Int).length + 1) c)), .own 3 [.ints .i64 c ([] ++ [x] ++ R1)], [] ++ [x], k' - szV x, i' - rnk (n - a - 1) k' (x + k').toNat), rho13, by omega, ⟨by show 0 ≤ a + 1; omega, by show a + 1 ≤ n; omega, rfl, fun o h => h, rowS_next rfl (h1) (h2) (h3), gn⟩, ⟨?_, ?_, fun _ _ hp hq => rho13_inj hp hq, fun _ hp => absurd hp (Nat.not_lt_zero _), rfl, rfl, Nat.le_of_ble_eq_true rfl⟩⟩
            · repeat' (first | exact trivial | refine And.intro rfl ?_ | fail)
            · exact And.intro rfl (And.intro rfl trivial)
          · have hxk : x < k' := by
              rcases Int.lt_or_le x k' with h | h
              · exact h
              · exfalso
                have ex : x = k' := by omega
                have ra := rnk_all (m := n - a - 1) (k := k') (by omega) hk0
                rw [show (2 * k' + 1).toNat = (x + 1 + k').toNat by omega, show n - a - 1 + 1 = n - a by omega] at ra
                omega
            repeat' ((conv => whnf); first | (refine ask_true (by omega) ?_) | (refine And.intro trivial ?_) | (refine ask_wrap64 (by omega) (by omega) ?_) | fail)
            conv => whnf
            refine And.intro ⟨mapI cntQ, rfl, fun o h => h⟩ (And.intro ⟨by omega, by omega, by omega⟩ fun H' eH => ?_)
            have eH' : H' = [.obj (mapI cntQ), .gone] := eH
            clear eH
            subst eH'
            repeat' ((conv => whnf); first | (refine ask_wrap64 (by omega) (by omega) ?_) | fail)
            conv => whnf
            refine ⟨(k' - (x + 1)).toNat, (x + 1, mapI cntQ), by omega, ⟨by show -k' ≤ x + 1 ∧ x + 1 ≤ k'; omega, rfl, ?_, fun o h => h⟩, rfl, ⟨⟨Nat.le_of_ble_eq_true rfl, congrArg vi ?_⟩, ⟨Nat.le_of_ble_eq_true rfl, rfl⟩, trivial⟩, ⟨rfl, trivial⟩, rfl, rfl, Nat.le_of_ble_eq_true rfl⟩
            · show 0 ≤ i' - rnk (n - a - 1) k' (x + 1 + k').toNat
              omega
            · show _ = i' - rnk (n - a - 1) k' (x + 1 + k').toNat
              omega
      · skip
        repeat' ((conv => whnf); first | (refine ask_true (by omega) ?_) | (refine ask_wrap64 (by omega) (by omega) ?_) | fail)
        conv => whnf
        refine loop_at2 (2 :: 11 :: List.range' 28 26) (fun m (x : Int) (R : Obj → Prop) => (-k' ≤ x ∧ x ≤ k') ∧ m = (k' - x).toNat ∧ 0 ≤ i' - rnk (n - a - 1) k' (x + k').toNat ∧ ∀ o, R o → mapI cntQ o) (fun x _ => [(2, vi (i' - rnk (n - a - 1) k' (x + k').toNat)), (11, vi x)]) (fun _ R => [.obj R, .own 3 [.ints .i64 d (A ++ s)]]) (k' - (0 - k')).toNat (0 - k') R ⟨by omega, rfl, by rw [show (0 - k' + k').toNat = 0 by omega]; show 0 ≤ i' - 0; omega, hR⟩ ?_ ?_
        · refine ⟨rfl, ⟨⟨Nat.le_of_ble_eq_true rfl, congrArg vi ?_⟩, ⟨Nat.le_of_ble_eq_true rfl, rfl⟩, trivial⟩, ⟨rfl, rfl, trivial⟩, rfl, rfl, Nat.le_of_ble_eq_true rfl⟩
          rw [show (0 - k' + k').toNat = 0 by omega]
          show i' = i' - 0
          omega
        · rintro m x R ⟨hx, rfl, hi, hR⟩
          have hs := szV_in x
          have ss := szV_abs (x := x) (by omega)
          have cc := cN_in (n := n - a - 1) (k := k' - szV x) (by omega) (by omega)
          have rn := rnk_next (n := n - a - 1) (k := k') (z := x) (by omega)
          have rb := rnk_in (n := n - a - 1) (k := k') (by omega) (by omega) (x + k').toNat
          repeat' ((conv => whnf); first | (refine And.intro trivial ?_) | (refine ask_wrap64 (by omega) (by omega) ?_) | fail)
          conv => whnf
          refine And.intro ⟨R, rfl, hR⟩ (And.intro ⟨by omega, by omega, by omega⟩ fun H' eH => ?_)
          have eH' : H' = [.obj (mapI cntQ), .own 3 [.ints .i64 d (A ++ s)]] := eH
          clear eH
          subst eH'
          rcases Int.lt_or_le (i' - rnk (n - a - 1) k' (x + k').toNat) (cN (n - a - 1) (k' - szV x)) with hlt | hge
          · have gn := gN (x := x) ⟨by omega, by omega⟩ ⟨hi, hlt⟩
            repeat' ((conv => whnf); first | (refine ask_false (by omega) ?_) | (refine And.intro (by omega) ?_) | fail)
            conv => whnf
            refine And.intro ⟨rfl, by omega, by rw [bytes3]; omega⟩ (And.intro (fun hroom => ?_) fun hg => fresh_as (zs := A ++ [x]) (grow_eq rfl) fun c R1 h1 h2 h3 => ?_)
            · have hroom' : A.length + 1 ≤ d := hroom
              repeat' ((conv => whnf); first | (refine And.intro trivial ?_) | (refine ask_wrap64 (by omega) (by omega) ?_) | fail)
              conv => whnf
              refine ⟨(n - (a + 1)).toNat, (a + 1, mapI cntQ, .w (.c (.csl 1 0 0 (A.length + 1) d)), .own 3 [.ints .i64 d (A ++ [x] ++ s.drop 1)], A ++ [x], k' - szV x, i' - rnk (n - a - 1) k' (x + k').toNat), id, by omega, ⟨by show 0 ≤ a + 1; omega, by show a + 1 ≤ n; omega, rfl, fun o h => h, rowS_next rfl (by omega) (by omega) (by rw [List.length_drop]; omega), gn⟩, ⟨?_, ?_, fun _ _ _ _ h => h, fun _ _ => rfl, rfl, rfl, Nat.le_of_ble_eq_true rfl⟩⟩
              · repeat' (first | exact trivial | refine And.intro rfl ?_ | fail)
              · exact And.intro rfl (And.intro (congrArg some (congrArg (fun ys => Blk.own 3 [.ints .i64 _ ys]) (room_eq rfl))) trivial)
            · have hroom' : A.length + 1 ≤ c := h1
              repeat' ((conv => whnf); first | (refine And.intro trivial ?_) | (refine ask_wrap64 (by omega) (by omega) ?_) | fail)
              conv => whnf
              refine ⟨(n - (a + 1)).toNat, (a + 1, mapI cntQ, .w (.c (.csl 1 0 0 (A.length + 1) c)), .own 3 [.ints .i64 c (A ++ [x] ++ R1)], A ++ [x], k' - szV x, i' - rnk (n - a - 1) k' (x + k').toNat), rho13, by omega, ⟨by show 0 ≤ a + 1; omega, by show a + 1 ≤ n; omega, rfl, fun o h => h, rowS_next rfl (by omega) (by omega) (by omega), gn⟩, ⟨?_, ?_, fun _ _ hp hq => rho13_inj hp hq, fun _ hp => absurd hp (Nat.not_lt_zero _), rfl, rfl, Nat.le_of_ble_eq_true rfl⟩⟩
              · repeat' (first | exact trivial | refine And.intro rfl ?_ | fail)
              · exact And.intro rfl (And.intro rfl trivial)
          · have hxk : x < k' := by
              rcases Int.lt_or_le x k' with h | h
              · exact h
              · exfalso
                have ex : x = k' := by omega
                have ra := rnk_all (m := n - a - 1) (k := k') (by omega) hk0
                rw [show (2 * k' + 1).toNat = (x + 1 + k').toNat by omega, show n - a - 1 + 1 = n - a by omega] at ra
                omega
            repeat' ((conv => whnf); first | (refine ask_true (by omega) ?_) | (refine And.intro trivial ?_) | (refine ask_wrap64 (by omega) (by omega) ?_) | fail)
            conv => whnf
            refine And.intro ⟨mapI cntQ, rfl, fun o h => h⟩ (And.intro ⟨by omega, by omega, by omega⟩ fun H' eH => ?_)
            have eH' : H' = [.obj (mapI cntQ), .own 3 [.ints .i64 d (A ++ s)]] := eH
            clear eH
            subst eH'
            repeat' ((conv => whnf); first | (refine ask_wrap64 (by omega) (by omega) ?_) | fail)
            conv => whnf
            refine ⟨(k' - (x + 1)).toNat, (x + 1, mapI cntQ), by omega, ⟨by show -k' ≤ x + 1 ∧ x + 1 ≤ k'; omega, rfl, ?_, fun o h => h⟩, rfl, ⟨⟨Nat.le_of_ble_eq_true rfl, congrArg vi ?_⟩, ⟨Nat.le_of_ble_eq_true rfl, rfl⟩, trivial⟩, ⟨rfl, rfl, trivial⟩, rfl, rfl, Nat.le_of_ble_eq_true rfl⟩
            · show 0 ≤ i' - rnk (n - a - 1) k' (x + 1 + k').toNat
              omega
            · show _ = i' - rnk (n - a - 1) k' (x + 1 + k').toNat
              omega
    · have ea : a = n := by omega
      subst ea
      have gd : vecR a.toNat k i A := by
        have g' : Got a.toNat k i ((a.toNat : Nat) : Int) A k' i' := by rw [nn]; exact g
        exact g'.done
      rcases hr with ⟨rfl, rfl, rfl⟩ | ⟨t0, d, s, f1, f2, f3, rfl, rfl⟩
      · repeat' ((conv => whnf); first | (refine ask_false (by omega) ?_) | fail)
        conv => whnf
        exact made_of (P0 := vecP a.toNat k i) (.tup [.c .csn, i64 0]) [] id ⟨[], gd, .inl ⟨rfl, rfl, rfl⟩⟩ rfl trivial (fun p q hp _ _ => absurd hp (Nat.not_lt_zero p)) rfl rfl (by intro e; cases e)
      · repeat' ((conv => whnf); first | (refine ask_false (by omega) ?_) | fail)
        conv => whnf
        exact made_of (P0 := vecP a.toNat k i) (.tup [.c (.csl 0 0 0 A.length d), i64 0]) [.own 3 [.ints .i64 d (A ++ s)]] (fun _ => 1) ⟨A, gd, .inr ⟨t0, d, s, f1, f2, f3, rfl, rfl⟩⟩ rfl (And.intro rfl trivial) (fun p q hp hq _ => by have hp' : p < 1 := hp; have hq' : q < 1 := hq; omega) rfl rfl (by intro e; cases e)

theorem vector_bad (n k i : Int) (hn : InK .i64 n) (hk : InK .i64 k) (hi : InK .i64 i) (h : ¬ (0 ≤ i ∧ i < cC n k)) : walk FVe 0 Try.f22 [i64 n, i64 k, i64 i] [] (Made (noneP 1)) := by
  rcases Int.lt_or_le i 0 with h1 | h1
  all_goals repeat' ((conv => whnf); first | (refine ask_true (by omega) ?_) | (refine ask_false (by omega) ?_) | (refine And.intro trivial ?_) | fail)
  all_goals (conv => whnf)
  all_goals exact made_of (.tup [.c .csn, i64 1]) [] id ⟨rfl, rfl⟩ rfl trivial (fun p q hp _ _ => absurd hp (Nat.not_lt_zero p)) rfl rfl (by intro e; cases e)
def hVector : HCt := fun ws H K => match ws with
  | [.c (.ci .i64 n), .c (.ci .i64 k), .c (.ci .i64 i)] => (¬ (0 ≤ i ∧ i < cC n k) → K (.tup [.c .csn, i64 1]) H) ∧ ((0 ≤ i ∧ i < cC n k) → ∀ A, vecR n.toNat k i A → (A = [] → K (.tup [.c .csn, i64 0]) H) ∧ (A ≠ [] → ∀ (c : Nat) (rest : List Int), A.length ≤ c → c ≤ 9223372036854775807 → rest.length = c - A.length → K (.tup [.c (.csl H.length 0 0 A.length c), i64 0]) (H ++ [.own 3 [.ints .i64 c (A ++ rest)]])))
  | _ => False
theorem vector_ct : HCtOk Try.prog 22 hVector := by
  intro ws H K h hr hb ho G σ base w₀ w hw
  unfold hVector at h
  split at h
  · rename_i n k i
    rcases Classical.em (0 ≤ i ∧ i < cC n k) with hi | hi
    · have hc := cC_def n k
      have hin : (0 ≤ n ∧ n ≤ 8) ∧ 0 ≤ k ∧ k ≤ 8 := by
        by_cases hh : (0 ≤ n ∧ n ≤ 8) ∧ 0 ≤ k ∧ k ≤ 8
        · exact hh
        · rw [if_neg hh] at hc; omega
      rw [if_pos hin] at hc
      refine walk_lift FVe_ok Try.func22 (n := 0) (ws := [i64 n, i64 k, i64 i]) (R := []) nil_ok ⟨hr.1, hr.2.1, hr.2.2.1, trivial⟩ rfl (vector_walk n k i hr.2.2.1 hin.1 hin.2 (by rw [← hc]; exact hi)) ?_ id no_ro rfl ?_ ho G σ base w₀ w hw
      · rintro x N ⟨A, _, ⟨_, _, rfl⟩ | ⟨_, c, rest, _, _, _, _, rfl⟩⟩ b hb
        · cases hb
        · rw [List.mem_singleton.1 hb]; exact .inl rfl
      · rintro x N ⟨A, hA, ⟨e, rfl, rfl⟩ | ⟨e, c, rest, h1, h2, h3, rfl, rfl⟩⟩
        · simpa [V.ren, renW, W.ren, C.ren] using (h.2 hi A hA).1 e
        · have := (h.2 hi A hA).2 e c rest h1 h2 h3
          simpa [V.ren, renW, W.ren, C.ren, Blk.ren, rens, Seg.ren, sh] using this
    · exact walk_lift FVe_ok Try.func22 (n := 0) (ws := [i64 n, i64 k, i64 i]) (R := []) nil_ok ⟨hr.1, hr.2.1, hr.2.2.1, trivial⟩ rfl (vector_bad n k i hr.1 hr.2.1 hr.2.2.1 hi) none_mine id no_ro rfl (none_K (h.1 hi)) ho G σ base w₀ w hw
  · exact h.elim

end Go.Proofs.Ytmkdamfdlkpjdaa
