/- Chapter shape: the law ShapeScales, walked, the turns nil. (Printed by mks.py.) -/
import Derived.Test.YtmkdamfdlkpjdaaCo
set_option linter.all false
namespace Go.Proofs.Ytmkdamfdlkpjdaa
open Go.RowKit (Below)
set_option maxRecDepth 100000
set_option maxHeartbeats 64000000
theorem bytes3 : (Try.prog.types[3]).bytes = 8 := by kernel_rfl
theorem loop_ren5 {body : List V → List Blk → XQ → Prop} {lo : Nat} {fr : List V} {H : List Blk} {Q : XQ} {α β γ δ ε : Type} (ds : List Nat) (J : Nat → α → β → γ → δ → ε → Prop) (sel : α → β → γ → δ → ε → List (Nat × V)) (Hs : α → β → γ → δ → ε → List Blk) (m₀ : Nat) (a₀ : α) (b₀ : β) (c₀ : γ) (d₀ : δ) (e₀ : ε) (h₀ : J m₀ a₀ b₀ c₀ d₀ e₀) (ρ₀ : Nat → Nat)
    (start : Next2 ρ₀ ds lo fr (sel a₀ b₀ c₀ d₀ e₀) (Hs a₀ b₀ c₀ d₀ e₀) fr H)
    (round : ∀ m a b c d e, J m a b c d e → havK ds 0 fr fun f₁ => setLK (sel a b c d e) f₁ fun f₂ => body f₂ (Hs a b c d e) fun ex fr' H' => match ex with
      | .normal => ∃ m' s' ρ, m' < m ∧ J m' (Prod.fst s') (Prod.fst (Prod.snd s')) (Prod.fst (Prod.snd (Prod.snd s'))) (Prod.fst (Prod.snd (Prod.snd (Prod.snd s')))) (Prod.snd (Prod.snd (Prod.snd (Prod.snd s')))) ∧ Next2 ρ ds lo fr (sel (Prod.fst s') (Prod.fst (Prod.snd s')) (Prod.fst (Prod.snd (Prod.snd s'))) (Prod.fst (Prod.snd (Prod.snd (Prod.snd s')))) (Prod.snd (Prod.snd (Prod.snd (Prod.snd s'))))) (Hs (Prod.fst s') (Prod.fst (Prod.snd s')) (Prod.fst (Prod.snd (Prod.snd s'))) (Prod.fst (Prod.snd (Prod.snd (Prod.snd s')))) (Prod.snd (Prod.snd (Prod.snd (Prod.snd s'))))) fr' H'
      | .exit id => Q (.exit id) fr' H'
      | .ret => Q .ret fr' H') : XLoop body lo fr H Q :=
  loop_ren ds (fun m s => J m s.1 s.2.1 s.2.2.1 s.2.2.2.1 s.2.2.2.2) (fun s => sel s.1 s.2.1 s.2.2.1 s.2.2.2.1 s.2.2.2.2) (fun s => Hs s.1 s.2.1 s.2.2.1 s.2.2.2.1 s.2.2.2.2) m₀ (a₀, b₀, c₀, d₀, e₀) h₀ ρ₀ start fun m s h => round m s.1 s.2.1 s.2.2.1 s.2.2.2.1 s.2.2.2.2 h
/-- Is the sign turned? -/
def tn (bs : List Bool) (l : Nat) (i : Nat) : Bool := decide (i < l) && bs.getD i false
theorem tn_at {bs : List Bool} {l : Nat} {i : Int} (h : i < l) (h0 : 0 ≤ i) : tn bs l i.toNat = bs.getD i.toNat false := by
  unfold tn; rw [decide_eq_true (show i.toNat < l by omega)]; rfl
theorem tn_out {bs : List Bool} {l : Nat} {i : Int} (h : (l : Int) ≤ i) (h0 : 0 ≤ i) : tn bs l i.toNat = false := by
  unfold tn; rw [decide_eq_false (show ¬ i.toNat < l by omega)]; rfl
theorem scales_nil (zs : List Int) (l : Nat) (hl : l ≤ zs.length) (hc : zs.length ≤ 9223372036854775807) (hx : ∀ z ∈ zs, InK .i64 z) (k : Int) (hk : 0 ≤ k ∧ k ≤ 255) : walk FL 0 Try.f3 [.c (.csl 0 0 0 l zs.length), u8 k, .c .csn] [.ro [.ints .i64 zs.length zs]] fun y _ => y = vb true := by
  obtain ⟨k0, k1⟩ := hk
  repeat' ((conv => whnf); first | (refine And.intro ⟨rfl, rfl⟩ ?_) | (refine And.intro rfl ?_) | fail)
  refine And.intro (fun _ => ?_) fun ne c rest h1 h2 h3 => ?_
  · repeat' ((conv => whnf); first | (refine ask_true (by decide) ?_) | (refine ask_false (by decide) ?_) | rfl | fail)
  · have n1 := wav_len (zs := zs) (n := min l 8) (by omega)
    have hR0 := fun k hk => wav_right hl (k := k) hk ne
    obtain ⟨X, hX⟩ : ∃ X, X = wav zs (min l 8) := ⟨_, rfl⟩
    rw [← hX] at ne h1 h3 hR0 n1 ⊢
    obtain ⟨n, hn⟩ : ∃ n, n = X.length := ⟨_, rfl⟩
    rw [← hn] at h1 h3 n1 ⊢
    have bX : ∀ j, -524287 ≤ X.getD j 0 ∧ X.getD j 0 ≤ 524287 := fun j => by
      rcases Nat.lt_or_ge j X.length with h | h
      · exact wav_in (n := min l 8) (zs := zs) (by rw [← hX]; exact mem_at h)
      · rw [List.getD_eq_getElem?_getD, List.getElem?_eq_none h]; decide
    have et : List.take n (X ++ rest) = X := take_all hn
    have hR' := hR0 0 (by decide)
    have hcb := right_in hR'
    rw [rightC_def, ← hn] at hR'
    have em : ∀ i : Int, mulN i.toNat (Try.prog.types[3]).size = i.toNat := fun i => mulN1 _
    have em4 : ∀ i : Int, mulN i.toNat (Try.prog.types[4]).size = i.toNat := fun i => mulN1 _
    repeat' ((conv => whnf); first | (refine ask_true (by omega) ?_) | (refine ask_false (by omega) ?_) | (refine ask_true (by decide) ?_) | (refine ask_false (by decide) ?_) | fail)
    conv => whnf
    refine loop_ren5 (8 :: 9 :: 10 :: List.range' 29 39) (fun m (i : Int) (v : V) (b : Blk) (v' : V) (b' : Blk) => 0 ≤ i ∧ i ≤ n ∧ m = (n - i).toNat ∧ rowS 2 (twoL X i.toNat) v b ∧ rowS 3 (othL X (tn [] 0) i.toNat) v' b') (fun i v _ v' _ => [(8, v), (9, v'), (10, vi i)]) (fun _ _ b _ b' => [.ro [.ints .i64 zs.length zs], .own 3 [.ints .i64 c (X ++ rest)], b, b']) n 0 (.w (.c .csn)) .gone (.w (.c .csn)) .gone ⟨by decide, by omega, by omega, .inl ⟨rfl, rfl, rfl⟩, .inl ⟨rfl, rfl, rfl⟩⟩ id ?_ ?_
    · refine ⟨?_, ?_, fun _ _ _ _ h => h, fun _ _ => rfl, rfl, rfl, Nat.le_of_ble_eq_true rfl⟩
      · repeat' (first | exact trivial | refine And.intro rfl ?_ | fail)
      · repeat' (first | exact trivial | refine And.intro rfl ?_ | fail)
    · rintro _ i v b v' b' ⟨i0, i1, rfl, hr1, hr2⟩
      have ei := em i
      have ei4 := em4 i
      have tl := twoL_len X i.toNat
      have ol := othL_len X (tn [] 0) i.toNat
      rcases Int.lt_or_le i n with i2 | i2
      · have xi : X.getD i.toNat 0 = ((X ++ rest).getD (0 + mulN i.toNat (Try.prog.types[3]).size) 0) := by rw [em, Nat.zero_add]; exact (left_at (by omega)).symm
        have bx := bX i.toNat
        have nx : (i + 1).toNat = i.toNat + 1 := by omega
        have e1 : twoL X (i + 1).toNat = twoL X i.toNat ++ [(2 : Int) * ((X ++ rest).getD (0 + mulN i.toNat (Try.prog.types[3]).size) 0)] := by rw [nx, twoL_next, xi]
        have e2 : ∀ u, (if tn [] 0 i.toNat then 0 - X.getD i.toNat 0 else X.getD i.toNat 0) = u → othL X (tn [] 0) (i + 1).toNat = othL X (tn [] 0) i.toNat ++ [u] := fun u hu => by rw [nx, othL_next, hu]
        rw [xi] at bx
        rcases hr1 with ⟨t0, rfl, rfl⟩ | ⟨t0, d1, s1, f1, f2, f3, rfl, rfl⟩
        · have i00 : i.toNat = 0 := by rw [← tl, t0]; rfl
          obtain rfl : i = 0 := by omega
          rcases hr2 with ⟨o0, rfl, rfl⟩ | ⟨o0, d2, s2, g1, g2, g3, rfl, rfl⟩
          · repeat' ((conv => whnf); first | (refine ask_true (by omega) ?_) | (refine ask_false (by omega) ?_) | (refine And.intro (by omega) ?_) | (refine fun (_ : InK _ _) => ?_) | (refine ask_wrap64 (by omega) (by omega) ?_) | (refine ⟨by kernel_rfl, ?_⟩) | fail)
            conv => whnf
            refine And.intro ⟨by decide, by decide, Nat.le_of_ble_eq_true (by kernel_rfl)⟩ (fresh_as (zs := twoL X (0 : Int).toNat ++ [(2 : Int) * ((X ++ rest).getD (0 + mulN (0 : Int).toNat (Try.prog.types[3]).size) 0)]) (by rw [t0]; rfl) fun c1 R1 f1 f2 f3 => ?_)
            have f1' : (0 : Int).toNat + 1 ≤ c1 := by omega
            have hv : (if tn [] 0 (0 : Int).toNat then 0 - X.getD (0 : Int).toNat 0 else X.getD (0 : Int).toNat 0) = ((X ++ rest).getD (0 + mulN (0 : Int).toNat (Try.prog.types[3]).size) 0) := by rw [xi]; rfl
            repeat' ((conv => whnf); first | (refine ask_true (by omega) ?_) | (refine ask_false (by omega) ?_) | (refine And.intro (by omega) ?_) | (refine fun (_ : InK _ _) => ?_) | (refine ask_wrap64 (by omega) (by omega) ?_) | (refine ⟨by kernel_rfl, ?_⟩) | fail)
            conv => whnf
            refine And.intro ⟨by decide, by decide, Nat.le_of_ble_eq_true (by kernel_rfl)⟩ (fresh_as (zs := othL X (tn [] 0) (0 : Int).toNat ++ [((X ++ rest).getD (0 + mulN (0 : Int).toNat (Try.prog.types[3]).size) 0)]) (by rw [o0]; rfl) fun c2 R2 g1 g2 g3 => ?_)
            repeat' ((conv => whnf); first | (refine And.intro (by omega) ?_) | (refine fun (_ : InK _ _) => ?_) | (refine ask_wrap64 (by omega) (by omega) ?_) | (refine ⟨by kernel_rfl, ?_⟩) | fail)
            conv => whnf
            refine ⟨(n - ((0 : Int) + 1)).toNat, ((0 : Int) + 1, .w (.c (.csl 2 0 0 ((0 : Int).toNat + 1) c1)), .own 3 [.ints .i64 c1 (twoL X (0 : Int).toNat ++ [(2 : Int) * ((X ++ rest).getD (0 + mulN (0 : Int).toNat (Try.prog.types[3]).size) 0)] ++ R1)], .w (.c (.csl 3 0 0 ((0 : Int).toNat + 1) c2)), .own 3 [.ints .i64 c2 (othL X (tn [] 0) (0 : Int).toNat ++ [((X ++ rest).getD (0 + mulN (0 : Int).toNat (Try.prog.types[3]).size) 0)] ++ R2)]), rhoS 2 3 5 7, by omega, ⟨by show (0 : Int) ≤ 0 + 1; omega, by show (0 : Int) + 1 ≤ (n : Int); omega, rfl, ?_, ?_⟩, ⟨?_, ?_, fun _ _ hp hq => rhoS_inj (p := 2) (q := 3) (a := 5) (b := 7) (n := 4) (.inr (by decide)) (.inr (by decide)) (by decide) (by decide) (by decide) (by decide) hp hq, fun _ hp => rhoS_low (p := 2) (q := 3) (a := 5) (b := 7) (lo := 1) (by decide) (by decide) hp, rfl, rfl, Nat.le_of_ble_eq_true rfl⟩⟩
            · show rowS 2 (twoL X ((0 : Int) + 1).toNat) _ _
              rw [e1]; exact rowS_next tl.symm (by omega) (by omega) (by omega)
            · show rowS 3 (othL X (tn [] 0) ((0 : Int) + 1).toNat) _ _
              rw [e2 _ hv]; exact rowS_next ol.symm (by omega) (by omega) (by omega)
            · repeat' (first | exact trivial | refine And.intro rfl ?_ | fail)
            · exact ⟨rfl, rfl, rfl, rfl, trivial⟩
          · exact absurd (List.eq_nil_of_length_eq_zero (by omega)) o0
        · rw [tl] at f1 f3
          rcases hr2 with ⟨o0, rfl, rfl⟩ | ⟨o0, d2, s2, g1, g2, g3, rfl, rfl⟩
          · exact absurd (List.eq_nil_of_length_eq_zero (by rw [o0] at ol; have : (0 : Nat) = i.toNat := ol; omega)) t0
          · rw [ol] at g1 g3
            rw [tl, ol]
            repeat' ((conv => whnf); first | (refine ask_true (by omega) ?_) | (refine ask_false (by omega) ?_) | (refine And.intro (by omega) ?_) | (refine fun (_ : InK _ _) => ?_) | (refine ask_wrap64 (by omega) (by omega) ?_) | (refine ⟨by kernel_rfl, ?_⟩) | fail)
            conv => whnf
            refine And.intro ⟨rfl, by omega, by rw [bytes3]; omega⟩ (And.intro (fun hroom1 => ?_) fun hg1 => fresh_as (zs := twoL X i.toNat ++ [(2 : Int) * ((X ++ rest).getD (0 + mulN i.toNat (Try.prog.types[3]).size) 0)]) (grow_eq tl.symm) fun c1 R1 p1 p2 p3 => ?_)
            · have hcc : i.toNat + 1 ≤ d1 := hroom1
              have hv : (if tn [] 0 i.toNat then 0 - X.getD i.toNat 0 else X.getD i.toNat 0) = ((X ++ rest).getD (0 + mulN i.toNat (Try.prog.types[3]).size) 0) := by rw [xi]; rfl
              repeat' ((conv => whnf); first | (refine ask_true (by omega) ?_) | (refine ask_false (by omega) ?_) | (refine And.intro (by omega) ?_) | (refine fun (_ : InK _ _) => ?_) | (refine ask_wrap64 (by omega) (by omega) ?_) | (refine ⟨by kernel_rfl, ?_⟩) | fail)
              conv => whnf
              refine And.intro ⟨rfl, by omega, by rw [bytes3]; omega⟩ (And.intro (fun hroom => ?_) fun hg => fresh_as (zs := othL X (tn [] 0) i.toNat ++ [((X ++ rest).getD (0 + mulN i.toNat (Try.prog.types[3]).size) 0)]) (grow_eq ol.symm) fun c2 R2 g1 g2 g3 => ?_)
              · repeat' ((conv => whnf); first | (refine And.intro (by omega) ?_) | (refine fun (_ : InK _ _) => ?_) | (refine ask_wrap64 (by omega) (by omega) ?_) | (refine ⟨by kernel_rfl, ?_⟩) | fail)
                conv => whnf
                refine ⟨(n - (i + 1)).toNat, (i + 1, .w (.c (.csl 2 0 0 (i.toNat + 1) d1)), .own 3 [.ints .i64 d1 (twoL X i.toNat ++ [(2 : Int) * ((X ++ rest).getD (0 + mulN i.toNat (Try.prog.types[3]).size) 0)] ++ (s1.drop 1))], .w (.c (.csl 3 0 0 (i.toNat + 1) d2)), .own 3 [.ints .i64 d2 (othL X (tn [] 0) i.toNat ++ [((X ++ rest).getD (0 + mulN i.toNat (Try.prog.types[3]).size) 0)] ++ (s2.drop 1))]), rhoS 2 3 2 3, by omega, ⟨by show 0 ≤ i + 1; omega, by show i + 1 ≤ (n : Int); omega, rfl, ?_, ?_⟩, ⟨?_, ?_, fun _ _ hp hq => rhoS_inj (p := 2) (q := 3) (a := 2) (b := 3) (n := 4) (.inl rfl) (.inl rfl) (by decide) (by decide) (by decide) (by decide) hp hq, fun _ hp => rhoS_low (p := 2) (q := 3) (a := 2) (b := 3) (lo := 1) (by decide) (by decide) hp, rfl, rfl, Nat.le_of_ble_eq_true rfl⟩⟩
                · show rowS 2 (twoL X (i + 1).toNat) _ _
                  rw [e1]; exact rowS_next tl.symm (by omega) (by omega) (by rw [List.length_drop]; omega)
                · show rowS 3 (othL X (tn [] 0) (i + 1).toNat) _ _
                  rw [e2 _ hv]; exact rowS_next ol.symm (by omega) (by omega) (by rw [List.length_drop]; omega)
                · repeat' (first | exact trivial | refine And.intro rfl ?_ | fail)
                · exact ⟨rfl, rfl, congrArg some (congrArg (fun ys => Blk.own 3 [.ints .i64 _ ys]) (room_eq tl.symm)), congrArg some (congrArg (fun ys => Blk.own 3 [.ints .i64 _ ys]) (room_eq ol.symm)), trivial⟩
              · repeat' ((conv => whnf); first | (refine And.intro (by omega) ?_) | (refine fun (_ : InK _ _) => ?_) | (refine ask_wrap64 (by omega) (by omega) ?_) | (refine ⟨by kernel_rfl, ?_⟩) | fail)
                conv => whnf
                refine ⟨(n - (i + 1)).toNat, (i + 1, .w (.c (.csl 2 0 0 (i.toNat + 1) d1)), .own 3 [.ints .i64 d1 (twoL X i.toNat ++ [(2 : Int) * ((X ++ rest).getD (0 + mulN i.toNat (Try.prog.types[3]).size) 0)] ++ (s1.drop 1))], .w (.c (.csl 3 0 0 (i.toNat + 1) c2)), .own 3 [.ints .i64 c2 (othL X (tn [] 0) i.toNat ++ [((X ++ rest).getD (0 + mulN i.toNat (Try.prog.types[3]).size) 0)] ++ R2)]), rhoS 2 3 2 6, by omega, ⟨by show 0 ≤ i + 1; omega, by show i + 1 ≤ (n : Int); omega, rfl, ?_, ?_⟩, ⟨?_, ?_, fun _ _ hp hq => rhoS_inj (p := 2) (q := 3) (a := 2) (b := 6) (n := 4) (.inl rfl) (.inr (by decide)) (by decide) (by decide) (by decide) (by decide) hp hq, fun _ hp => rhoS_low (p := 2) (q := 3) (a := 2) (b := 6) (lo := 1) (by decide) (by decide) hp, rfl, rfl, Nat.le_of_ble_eq_true rfl⟩⟩
                · show rowS 2 (twoL X (i + 1).toNat) _ _
                  rw [e1]; exact rowS_next tl.symm (by omega) (by omega) (by rw [List.length_drop]; omega)
                · show rowS 3 (othL X (tn [] 0) (i + 1).toNat) _ _
                  rw [e2 _ hv]; exact rowS_next ol.symm (by omega) (by omega) (by omega)
                · repeat' (first | exact trivial | refine And.intro rfl ?_ | fail)
                · exact ⟨rfl, rfl, congrArg some (congrArg (fun ys => Blk.own 3 [.ints .i64 _ ys]) (room_eq tl.symm)), rfl, trivial⟩
            · have hcc : i.toNat + 1 ≤ c1 := p1
              have hv : (if tn [] 0 i.toNat then 0 - X.getD i.toNat 0 else X.getD i.toNat 0) = ((X ++ rest).getD (0 + mulN i.toNat (Try.prog.types[3]).size) 0) := by rw [xi]; rfl
              repeat' ((conv => whnf); first | (refine ask_true (by omega) ?_) | (refine ask_false (by omega) ?_) | (refine And.intro (by omega) ?_) | (refine fun (_ : InK _ _) => ?_) | (refine ask_wrap64 (by omega) (by omega) ?_) | (refine ⟨by kernel_rfl, ?_⟩) | fail)
              conv => whnf
              refine And.intro ⟨rfl, by omega, by rw [bytes3]; omega⟩ (And.intro (fun hroom => ?_) fun hg => fresh_as (zs := othL X (tn [] 0) i.toNat ++ [((X ++ rest).getD (0 + mulN i.toNat (Try.prog.types[3]).size) 0)]) (grow_eq ol.symm) fun c2 R2 g1 g2 g3 => ?_)
              · repeat' ((conv => whnf); first | (refine And.intro (by omega) ?_) | (refine fun (_ : InK _ _) => ?_) | (refine ask_wrap64 (by omega) (by omega) ?_) | (refine ⟨by kernel_rfl, ?_⟩) | fail)
                conv => whnf
                refine ⟨(n - (i + 1)).toNat, (i + 1, .w (.c (.csl 2 0 0 (i.toNat + 1) c1)), .own 3 [.ints .i64 c1 (twoL X i.toNat ++ [(2 : Int) * ((X ++ rest).getD (0 + mulN i.toNat (Try.prog.types[3]).size) 0)] ++ R1)], .w (.c (.csl 3 0 0 (i.toNat + 1) d2)), .own 3 [.ints .i64 d2 (othL X (tn [] 0) i.toNat ++ [((X ++ rest).getD (0 + mulN i.toNat (Try.prog.types[3]).size) 0)] ++ (s2.drop 1))]), rhoS 2 3 5 3, by omega, ⟨by show 0 ≤ i + 1; omega, by show i + 1 ≤ (n : Int); omega, rfl, ?_, ?_⟩, ⟨?_, ?_, fun _ _ hp hq => rhoS_inj (p := 2) (q := 3) (a := 5) (b := 3) (n := 4) (.inr (by decide)) (.inl rfl) (by decide) (by decide) (by decide) (by decide) hp hq, fun _ hp => rhoS_low (p := 2) (q := 3) (a := 5) (b := 3) (lo := 1) (by decide) (by decide) hp, rfl, rfl, Nat.le_of_ble_eq_true rfl⟩⟩
                · show rowS 2 (twoL X (i + 1).toNat) _ _
                  rw [e1]; exact rowS_next tl.symm (by omega) (by omega) (by omega)
                · show rowS 3 (othL X (tn [] 0) (i + 1).toNat) _ _
                  rw [e2 _ hv]; exact rowS_next ol.symm (by omega) (by omega) (by rw [List.length_drop]; omega)
                · repeat' (first | exact trivial | refine And.intro rfl ?_ | fail)
                · exact ⟨rfl, rfl, rfl, congrArg some (congrArg (fun ys => Blk.own 3 [.ints .i64 _ ys]) (room_eq ol.symm)), trivial⟩
              · repeat' ((conv => whnf); first | (refine And.intro (by omega) ?_) | (refine fun (_ : InK _ _) => ?_) | (refine ask_wrap64 (by omega) (by omega) ?_) | (refine ⟨by kernel_rfl, ?_⟩) | fail)
                conv => whnf
                refine ⟨(n - (i + 1)).toNat, (i + 1, .w (.c (.csl 2 0 0 (i.toNat + 1) c1)), .own 3 [.ints .i64 c1 (twoL X i.toNat ++ [(2 : Int) * ((X ++ rest).getD (0 + mulN i.toNat (Try.prog.types[3]).size) 0)] ++ R1)], .w (.c (.csl 3 0 0 (i.toNat + 1) c2)), .own 3 [.ints .i64 c2 (othL X (tn [] 0) i.toNat ++ [((X ++ rest).getD (0 + mulN i.toNat (Try.prog.types[3]).size) 0)] ++ R2)]), rhoS 2 3 5 7, by omega, ⟨by show 0 ≤ i + 1; omega, by show i + 1 ≤ (n : Int); omega, rfl, ?_, ?_⟩, ⟨?_, ?_, fun _ _ hp hq => rhoS_inj (p := 2) (q := 3) (a := 5) (b := 7) (n := 4) (.inr (by decide)) (.inr (by decide)) (by decide) (by decide) (by decide) (by decide) hp hq, fun _ hp => rhoS_low (p := 2) (q := 3) (a := 5) (b := 7) (lo := 1) (by decide) (by decide) hp, rfl, rfl, Nat.le_of_ble_eq_true rfl⟩⟩
                · show rowS 2 (twoL X (i + 1).toNat) _ _
                  rw [e1]; exact rowS_next tl.symm (by omega) (by omega) (by omega)
                · show rowS 3 (othL X (tn [] 0) (i + 1).toNat) _ _
                  rw [e2 _ hv]; exact rowS_next ol.symm (by omega) (by omega) (by omega)
                · repeat' (first | exact trivial | refine And.intro rfl ?_ | fail)
                · exact ⟨rfl, rfl, rfl, rfl, trivial⟩
      · have it : i.toNat = n := by omega
        rw [it] at hr1 hr2 tl ol
        rcases hr1 with ⟨t0, rfl, rfl⟩ | ⟨t0, d1, s1, f1, f2, f3, rfl, rfl⟩
        · exact absurd tl (by rw [t0]; show ¬ (0 = n); omega)
        rcases hr2 with ⟨o0, rfl, rfl⟩ | ⟨o0, d2, s2, g1, g2, g3, rfl, rfl⟩
        · exact absurd ol (by rw [o0]; show ¬ (0 = n); omega)
        rw [tl] at f1 f3 ⊢
        rw [ol] at g1 g3 ⊢
        have et2 : List.take n (twoL X n ++ s1) = twoL X n := take_all tl.symm
        have et3 : List.take n (othL X (tn [] 0) n ++ s2) = othL X (tn [] 0) n := take_all ol.symm
        have hR2 : ∀ k, 0 ≤ k ∧ k ≤ 8 → rightC (twoL X n) k := fun k hk => by
          rw [rightC_def, tl]
          exact ⟨by omega, hk, all_of_at fun j hj => by
            have := bX j
            rw [tl] at hj
            rw [show (twoL X n).getD j 0 = 2 * X.getD j 0 from getD_range hj]; omega⟩
        have hR3 : ∀ k, 0 ≤ k ∧ k ≤ 8 → rightC (othL X (tn [] 0) n) k := fun k hk => by
          rw [rightC_def, ol]
          exact ⟨by omega, hk, all_of_at fun j hj => by
            have := bX j
            rw [ol] at hj
            rw [show (othL X (tn [] 0) n).getD j 0 = if tn [] 0 j then 0 - X.getD j 0 else X.getD j 0 from getD_range hj]
            split <;> omega⟩
        repeat' ((conv => whnf); first | (refine ask_true (by omega) ?_) | (refine ask_false (by omega) ?_) | (refine And.intro (by omega) fun r hr => ?_) | (refine ask_wrap64 (by omega) (by omega) ?_) | (refine And.intro ⟨rfl, rfl⟩ ?_) | (refine And.intro rfl ?_) | fail)
        have r0 : 0 ≤ r ∧ r ≤ 8 := by rw [hr, Int.tmod_eq_emod_of_nonneg k0]; omega
        refine And.intro (fun h => absurd (by rw [et]; exact hR0 r (by omega)) h) fun _ => ?_
        repeat' ((conv => whnf); first | (refine And.intro ⟨rfl, rfl⟩ ?_) | (refine And.intro rfl ?_) | fail)
        refine And.intro (fun h => absurd (by rw [et2]; exact hR2 r (by omega)) h) fun _ => ?_
        repeat' ((conv => whnf); first | (refine And.intro ⟨rfl, rfl⟩ ?_) | (refine And.intro rfl ?_) | fail)
        refine And.intro (fun h => absurd (by rw [et3]; exact hR3 r (by omega)) h) fun _ => ?_
        have sc := scales (X := X) (t := tn [] 0) (n := n) (k := r.toNat) (by omega) (by omega) hcb
        conv => whnf
        obtain ⟨Y, eY⟩ : ∃ Y, Y = findZ (List.take n (X ++ rest)) n r.toNat := ⟨_, rfl⟩
        obtain ⟨Z, eZ⟩ : ∃ Z, Z = findZ (List.take n (twoL X n ++ s1)) n r.toNat := ⟨_, rfl⟩
        obtain ⟨U, eU⟩ : ∃ U, U = findZ (List.take n (othL X (tn [] 0) n ++ s2)) n r.toNat := ⟨_, rfl⟩
        refine loop_at (18 :: List.range' 89 59) (fun m (i : Int) => 0 ≤ i ∧ i ≤ n ∧ m = (n - i).toNat) (fun i => [(18, vi i)]) (fun _ => [.ro [.ints .i64 zs.length zs], .own 3 [.ints .i64 c (X ++ rest)], .own 3 [.ints .i64 d1 (twoL X n ++ s1)], .own 3 [.ints .i64 d2 (othL X (tn [] 0) n ++ s2)], .own 3 [.ints .i64 n Y], .own 3 [.ints .i64 n Z], .own 3 [.ints .i64 n U]]) n 0 ⟨by decide, by omega, by omega⟩ ?_ ?_
        · rw [eY, eZ, eU]
          exact ⟨rfl, ⟨⟨Nat.le_of_ble_eq_true rfl, rfl⟩, trivial⟩, ⟨rfl, rfl, rfl, rfl, rfl, rfl, rfl, trivial⟩, rfl, rfl, Nat.le_of_ble_eq_true rfl⟩
        · rw [et] at eY
          rw [et2] at eZ
          rw [et3] at eU
          rw [← eY, ← eZ, ← eU] at sc
          rintro _ i ⟨i0, i1, rfl⟩
          have ei := em i
          rcases Int.lt_or_le i n with i2 | i2
          · have hs := sc i.toNat (by omega)
            rw [show Y.getD i.toNat 0 = Y.getD (0 + mulN i.toNat (Try.prog.types[3]).size) 0 by rw [em, Nat.zero_add], show Z.getD i.toNat 0 = Z.getD (0 + mulN i.toNat (Try.prog.types[3]).size) 0 by rw [em, Nat.zero_add], show U.getD i.toNat 0 = U.getD (0 + mulN i.toNat (Try.prog.types[3]).size) 0 by rw [em, Nat.zero_add]] at hs
            unfold absI at hs
            repeat' ((conv => whnf); first | (refine ask_true (by omega) ?_) | (refine ask_false (by omega) ?_) | (refine And.intro (by omega) ?_) | (refine fun (_ : InK _ _) => ?_) | (refine ask_wrap64 (by omega) (by omega) ?_) | (refine ⟨by kernel_rfl, ?_⟩) | fail)
            conv => whnf
            exact ⟨(n - (i + 1)).toNat, i + 1, by omega, ⟨by omega, by omega, rfl⟩, rfl, ⟨⟨Nat.le_of_ble_eq_true rfl, rfl⟩, trivial⟩, ⟨rfl, rfl, rfl, rfl, rfl, rfl, rfl, trivial⟩, rfl, rfl, Nat.le_of_ble_eq_true rfl⟩
          · repeat' ((conv => whnf); first | (refine ask_true (by omega) ?_) | (refine ask_false (by omega) ?_) | (refine ask_true (by decide) ?_) | (refine ask_false (by decide) ?_) | rfl | fail)
end Go.Proofs.Ytmkdamfdlkpjdaa
