/- Chapter shape: contracts of the waves and of what is found; the example. -/
import Derived.Test.YtmkdamfdlkpjdaaCd
set_option linter.all false
namespace Go.Proofs.Ytmkdamfdlkpjdaa
open Go.RowKit (Below)
set_option maxRecDepth 100000
set_option maxHeartbeats 32000000

/-- What is done with a row that was made. -/
def rowK (H : List Blk) (xs : List Int) (K : V → List Blk → Prop) : Prop :=
  (xs = [] → K (.w (.c .csn)) H) ∧ (xs ≠ [] → ∀ (c : Nat) (rest : List Int), xs.length ≤ c → c ≤ 9223372036854775807 → rest.length = c - xs.length → K (.w (.c (.csl H.length 0 0 xs.length c))) (H ++ [.own 3 [.ints .i64 c (xs ++ rest)]]))
theorem row_mine {xs : List Int} : ∀ x N, rowP xs x N → ∀ b ∈ N, b.mine = true ∨ b = .gone := by
  rintro x N (⟨_, _, rfl⟩ | ⟨_, c, rest, _, _, _, _, rfl⟩) b hb
  · cases hb
  · rw [List.mem_singleton.1 hb]; exact .inl rfl
theorem row_K {xs : List Int} {H : List Blk} {K : V → List Blk → Prop} (h : rowK H xs K) : ∀ x N, rowP xs x N → K (x.ren (sh H.length)) (H ++ N.map (Blk.ren (sh H.length))) := by
  rintro x N (⟨e, rfl, rfl⟩ | ⟨e, c, rest, h1, h2, h3, rfl, rfl⟩)
  · simpa [V.ren, W.ren, C.ren] using h.1 e
  · have := h.2 e c rest h1 h2 h3
    simpa [V.ren, W.ren, C.ren, Blk.ren, rens, Seg.ren, sh] using this

def hWaves : HCt := fun ws H K => match ws with
  | [.c .csn] => rowK H [] K
  | [.c x] => slK H x fun _ l xs => rowK H (wav xs (min l 8)) K
  | _ => False
theorem waves_nil : walk F0 0 Try.f14 [.c .csn] [] (Made (rowP [])) := by
  conv => whnf
  refine loop_at [3, 4, 5, 6, 7, 8, 9, 10, 11, 12, 13, 14, 15, 16, 17, 18, 19, 20, 21, 22] (fun m (i : Int) => i = 0 ∧ m = 0) (fun i => [(3, .w (.c .csn)), (4, vi i)]) (fun _ => []) 0 0 ⟨rfl, rfl⟩ ?_ ?_
  · exact ⟨rfl, ⟨⟨Nat.le_of_ble_eq_true rfl, rfl⟩, ⟨Nat.le_of_ble_eq_true rfl, rfl⟩, trivial⟩, trivial, rfl, rfl, Nat.le_of_ble_eq_true rfl⟩
  · rintro m i ⟨rfl, rfl⟩
    repeat' ((conv => whnf); first | (refine ask_true (by omega) ?_) | (refine ask_false (by omega) ?_) | fail)
    conv => whnf
    exact made_of (.w (.c .csn)) [] id (.inl ⟨rfl, rfl, rfl⟩) rfl trivial (fun p q hp _ _ => absurd hp (Nat.not_lt_zero p)) rfl rfl (by intro e; cases e)
theorem waves_ct : HCtOk Try.prog 14 hWaves := by
  intro ws H K h hr hb ho G σ base w₀ w hw
  unfold hWaves at h
  split at h
  · exact walk_lift F0_ok Try.func14 (n := 0) (ws := [.c .csn]) (R := []) nil_ok ⟨trivial, trivial⟩ rfl waves_nil row_mine id no_ro rfl (row_K h) ho G σ base w₀ w hw
  · rename_i x _
    obtain ⟨j, l, xs, h', hx, g1, g2, g3, g4⟩ := slK_spec h ho hr.1
    clear h
    subst hx
    exact walk_lift F0_ok Try.func14 (n := 0) (ws := [.c (.csl 0 0 0 l xs.length)]) (R := [.ro [.ints .i64 xs.length xs]]) (ro_ok g3) ⟨⟨g1, g2⟩, trivial⟩ rfl (waves_walk xs l xs.length rfl g1 g2 g3) row_mine (fun _ => j) (ro_at g4) rfl (row_K h') ho G σ base w₀ w hw
  · exact h.elim

/-! ### Find -/
def noneP (e : Int) (x : V) (N : List Blk) : Prop := x = .tup [.c .csn, i64 e] ∧ N = []
def hFind : HCt := fun ws H K => match ws with
  | [.c .csn, .c (.ci .i64 _)] => K (.tup [.c .csn, i64 1]) H
  | [.c x, .c (.ci .i64 k)] => slK H x fun _ l xs => (¬ rightC (xs.take l) k → K (.tup [.c .csn, i64 1]) H) ∧ (rightC (xs.take l) k → K (.tup [.c (.csl H.length 0 0 l l), i64 0]) (H ++ [.own 3 [.ints .i64 l (findZ (xs.take l) l k.toNat)]]))
  | _ => False
theorem find_nil (k : Int) (hk : InK .i64 k) : walk FF 2 Try.f16 [.c .csn, i64 k] [] (Made (noneP 1)) := by
  repeat' ((conv => whnf); first | (refine And.intro ⟨rfl, rfl⟩ ?_) | (refine And.intro rfl ?_) | (refine ask_true (by omega) ?_) | (refine ask_false (by omega) ?_) | fail)
  conv => whnf
  exact made_of (.tup [.c .csn, i64 1]) [] id ⟨rfl, rfl⟩ rfl trivial (fun p q hp _ _ => absurd hp (Nat.not_lt_zero p)) rfl rfl (by intro e; cases e)
theorem find_not (zs : List Int) (l : Nat) (k : Int) (hl : l ≤ zs.length) (hc : zs.length ≤ 9223372036854775807) (hx : ∀ x ∈ zs, InK .i64 x) (hr : ¬ rightC (zs.take l) k) :
    walk FF 2 Try.f16 [.c (.csl 0 0 0 l zs.length), i64 k] [.ro [.ints .i64 zs.length zs]] (Made (noneP 1)) := by
  repeat' ((conv => whnf); first | (refine And.intro ⟨rfl, rfl⟩ ?_) | (refine And.intro rfl ?_) | (refine ask_false hr ?_) | fail)
  conv => whnf
  exact made_of (.tup [.c .csn, i64 1]) [] id ⟨rfl, rfl⟩ rfl trivial (fun p q hp _ _ => absurd hp (Nat.not_lt_zero p)) rfl rfl (by intro e; cases e)
theorem none_K {H : List Blk} {K : V → List Blk → Prop} {e : Int} (h : K (.tup [.c .csn, i64 e]) H) : ∀ x N, noneP e x N → K (x.ren (sh H.length)) (H ++ N.map (Blk.ren (sh H.length))) := by
  rintro x N ⟨rfl, rfl⟩
  simpa [V.ren, renW, W.ren, C.ren] using h
theorem none_mine {e : Int} : ∀ x N, noneP e x N → ∀ b ∈ N, b.mine = true ∨ b = .gone := by
  rintro x N ⟨_, rfl⟩ b hb; cases hb
theorem find_ct : HCtOk Try.prog 16 hFind := by
  intro ws H K h hr hb ho G σ base w₀ w hw
  unfold hFind at h
  split at h
  · rename_i k
    exact walk_lift FF_ok Try.func16 (n := 2) (ws := [.c .csn, i64 k]) (R := []) nil_ok ⟨trivial, hr.2.1, trivial⟩ rfl (find_nil k hr.2.1) none_mine id no_ro rfl (none_K h) ho G σ base w₀ w hw
  · rename_i x k _
    obtain ⟨j, l, xs, h', hx, g1, g2, g3, g4⟩ := slK_spec h ho hr.1
    clear h
    subst hx
    rcases Classical.em (rightC (xs.take l) k) with hk | hk
    · have hk0 := hk
      rw [rightC_def] at hk0
      have e : ((k.toNat : Nat) : Int) = k := by omega
      have fw := find_walk xs l k.toNat g1 g2 g3 (by rw [e]; exact hk)
      rw [e] at fw
      have fl : (findZ (xs.take l) l k.toNat).length = l := signF_len _ _ _
      refine walk_lift FF_ok Try.func16 (n := 2) (ws := [.c (.csl 0 0 0 l xs.length), i64 k]) (R := [.ro [.ints .i64 xs.length xs]]) (ro_ok g3) ⟨⟨g1, g2⟩, hr.2.1, trivial⟩ rfl fw ?_ (fun _ => j) (ro_at g4) rfl ?_ ho G σ base w₀ w hw
      · rintro x N ⟨_, rfl⟩ b hb
        rw [List.mem_singleton.1 hb]; exact .inl rfl
      · rintro x N ⟨rfl, rfl⟩
        have := h'.2 hk
        rw [fl]
        simpa [V.ren, renW, W.ren, C.ren, Blk.ren, rens, Seg.ren, sh] using this
    · exact walk_lift FF_ok Try.func16 (n := 2) (ws := [.c (.csl 0 0 0 l xs.length), i64 k]) (R := [.ro [.ints .i64 xs.length xs]]) (ro_ok g3) ⟨⟨g1, g2⟩, hr.2.1, trivial⟩ rfl (find_not xs l k g1 g2 g3 hk) none_mine (fun _ => j) (ro_at g4) rfl (none_K (h'.1 hk)) ho G σ base w₀ w hw
  · exact h.elim

/-! ### the example -/
noncomputable def FA : Fns := F0.over 16 hFind
theorem FA_ok : FnsOk Try.prog FA := F0_ok.over find_ct Try.func16 (by kernel_rfl) (by kernel_rfl)
theorem find_ex : findZ [3, -4] 2 (Int.toNat 2) = [1, -1] := by decide +kernel
theorem right_ex : rightC [3, -4] 2 := by rw [rightC_def]; decide
theorem awake_walk : walk FA 0 Try.f15 [] [] fun y _ => y = vb true := by
  repeat' ((conv => whnf); first | (refine And.intro ⟨rfl, rfl⟩ ?_) | (refine And.intro rfl ?_) | fail)
  have e : List.take 2 (((List.replicate (2 * (Try.prog.types[3]).size) (0 : Int)).set 0 3).set (0 + 1) (-4)) = [3, -4] := by kernel_rfl
  refine And.intro (fun h => absurd right_ex h) fun _ => ?_
  repeat' ((conv => whnf); first | (refine ask_true (by omega) ?_) | fail)
  conv => whnf
  rw [e, find_ex]
  repeat' ((conv => whnf); first | (refine And.intro ⟨by decide, by decide⟩ ?_) | (refine And.intro (by decide +kernel) ?_) | (refine fun (_ : InK _ _) => ?_) | (refine ask_true (by decide +kernel) ?_) | rfl | fail)
theorem awake_ct : CtOk Try.prog 15 (ct0 (vb true)) := ct0_ok FA_ok Try.func15 ⟨trivial, rfl⟩ awake_walk
end Go.Proofs.Ytmkdamfdlkpjdaa
