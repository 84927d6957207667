/- Packets, decoded: levels and waves. -/
import Derived.Test.YtaficaacogcblaaGreatDoorWk
import Derived.Test.YtaficaacogcblaaGreatDoorWb
set_option linter.all false
namespace Go.Proofs.YtaficaacogcblaaGreatDoor
namespace R
open Go.RowKit (Below)
set_option maxRecDepth 100000
set_option maxHeartbeats 16000000

abbrev walkgr (F : Fns) (n : Nat) (fn : Func) (ws : List W) (H : List Blk) (K : V → List Blk → Prop) : Prop := xfun Tryz.prog D.E1 (calF Tryz.prog D.E1 F (drwR Tryz.prog D.E1 F) n) (drwR Tryz.prog D.E1 F (calF Tryz.prog D.E1 F (drwR Tryz.prog D.E1 F) n)) fn ws H K
theorem calgr_ok {F : Fns} (hF : FnsOk Tryz.prog F D.G1) (n : Nat) : CalOk Tryz.prog D.E1 (calF Tryz.prog D.E1 F (drwR Tryz.prog D.E1 F) n) := calF_ok D.E1_ok hF (fun cal hc => drwR_ok D.E1_ok hF mixed cal hc) n
theorem walkgr_calls {F : Fns} (hF : FnsOk Tryz.prog F D.G1) {n : Nat} {f : FuncId} {fn : Func} (hf : Tryz.prog.funcs[f]? = some fn) {ws : List W} {x : V} (hx : x.bnd 0 = true) (hr : rngW ws) (hb : bndW 0 ws = true)
    (h : walkgr F n fn ws [] fun y _ => y = x) (σ : Sg) (w : World) (hg : GW D.G1 w) : Calls Tryz.prog f (ws.map (W.den σ)).toArray w fun e w' => ∃ v, e = .returned v ∧ x.rep σ v ∧ Below w.heap.size w w' :=
  call_roG D.E1_ok (calgr_ok hF n) (drwR_ok D.E1_ok hF mixed _ (calgr_ok hF n)) (R := []) hf hx hr hb h D.nil_okB σ w (fun j b hj => by simp at hj) hg

abbrev iB (T n : Nat) (xs : List Int) : Blk := .own T [.ints .i64 n xs]
abbrev z4 : List Int := [0, 0, 0, 0]
/-- A packet's levels, so far; the decoder behind them. -/
noncomputable def lvF (ls : List Int) (s : ByteArray) : Nat → List Int × DS
  | 0 => (ls, nwS s)
  | k + 1 => ((lvF ls s k).1.set k (max (min ((lvF ls s k).1.getD k 0 + ltV (lvF ls s k).2) 20) 0), ltD (lvF ls s k).2)
noncomputable def lvA (ls : List Int) (s : ByteArray) : List Int := (lvF ls s 4).1
noncomputable def lvD (ls : List Int) (s : ByteArray) : DS := (lvF ls s 4).2
noncomputable def ksA (ls : List Int) (s : ByteArray) : List Int := D.pulS (lvA ls s) (D.roomS s.size (usedS (lvD ls s).gone (lvD ls s).rng))
noncomputable def wvF (ls : List Int) (s : ByteArray) : Nat → List Int × DS
  | 0 => (B.z16, lvD ls s)
  | k + 1 => (D.putZ (wvF ls s k).1 k (bandY (wvF ls s k).2 k ((lvA ls s).getD k 0) ((ksA ls s).getD k 0)), bandD (wvF ls s k).2 k ((ksA ls s).getD k 0))
noncomputable def wvA (ls : List Int) (s : ByteArray) : List Int := (wvF ls s 4).1

def LvOk (ls : List Int) : Prop := ls.length = 4 ∧ ∀ x ∈ ls, 0 ≤ x ∧ x ≤ 20
theorem LvOk.at {ls : List Int} (h : LvOk ls) (k : Nat) : 0 ≤ ls.getD k 0 ∧ ls.getD k 0 ≤ 20 := by
  rcases Nat.lt_or_ge k ls.length with g | g
  · have := h.2 ls[k] (List.getElem_mem g)
    simpa [List.getD_eq_getElem?_getD, List.getElem?_eq_getElem g] using this
  · simp [List.getD_eq_getElem?_getD, List.getElem?_eq_none g]
theorem LvOk.set {ls : List Int} (h : LvOk ls) (k : Nat) {x : Int} (hx : 0 ≤ x ∧ x ≤ 20) : LvOk (ls.set k x) := by
  refine ⟨by simp [h.1], fun y hy => ?_⟩
  rcases List.mem_or_eq_of_mem_set hy with g | rfl
  · exact h.2 y g
  · exact hx
theorem lvF_ok {ls : List Int} (h : LvOk ls) (s : ByteArray) : ∀ k : Nat, LvOk (lvF ls s k).1 ∧ DIn (lvF ls s k).2 (4 + 3 * k) ∧ (lvF ls s k).2.s = s
  | 0 => ⟨h, (nwS_ok s).1.mono (by omega), (nwS_ok s).2.1⟩
  | k + 1 => by
    obtain ⟨h1, h2, h3⟩ := lvF_ok h s k
    obtain ⟨g1, g2⟩ := ltV_in h2.ok
    have := h1.at k
    exact ⟨h1.set k (by omega), (h2.take g2).mono (by omega), by rw [lvF]; exact g2.s.trans h3⟩
theorem ksA_at (ls : List Int) (s : ByteArray) (k : Nat) : 0 ≤ (ksA ls s).getD k 0 ∧ (ksA ls s).getD k 0 ≤ 8 := (D.pulS_ok _ _).at' k
theorem wvF_ok {ls : List Int} (h : LvOk ls) (s : ByteArray) : ∀ k : Nat, DIn (wvF ls s k).2 (16 + 9 * k)
  | 0 => (lvF_ok h s 4).2.1.mono (by omega)
  | k + 1 => by
    have h1 := wvF_ok h s k
    exact (h1.take (bandD_ok h1.ok _ _)).mono (by omega)

noncomputable def FPa : Fns := ((((((((((F0.into 38 Tryz.f38).plus 39 (B.ctSt B.rightP)).over 66 hNew).over 67 hLt).over 70 hDUsed).plus 69 (ct2 (fun _ _ => True) D.roomS)).plus 68 (D.ctP4 D.pulS)).over 73 hBa).over 72 D.hPut).every 73)
theorem FPa_ok : FnsOk Tryz.prog FPa D.G1 := (((((((((D.F0_okg.into Tryz.func38 (by kernel_rfl) (by kernel_rfl)).plus B.right_ct Tryz.func39 (by kernel_rfl) (by kernel_rfl)).over new_ct Tryz.func66 (by kernel_rfl) (by kernel_rfl)).over lt_ct Tryz.func67 (by kernel_rfl) (by kernel_rfl)).over dused_ct Tryz.func70 (by kernel_rfl) (by kernel_rfl)).plus D.room_ct Tryz.func69 (by kernel_rfl) (by kernel_rfl)).plusG D.pulsesS_ct Tryz.func68 (by kernel_rfl) (by kernel_rfl)).overG ba_ct Tryz.func73 (by kernel_rfl) (by kernel_rfl)).overG D.put_ct Tryz.func72 (by kernel_rfl) (by kernel_rfl)).every _
theorem right_lv {ls : List Int} (h : LvOk ls) : B.rightP ⟨B.z16, 0, ls, B.z16, 0⟩ := by
  rw [B.rightP_def]
  refine ⟨?_, h.2, ⟨?_, ?_⟩, B.held_z16, ?_, ?_⟩
  · show ∀ x ∈ B.z16, _
    decide
  · show -2097152 ≤ (0 : Int); decide
  · show (0 : Int) ≤ 2097151; decide
  · show (0 : Int) ≤ 0; decide
  · show (0 : Int) ≤ 255; decide
theorem parts_walk {ls : List Int} (h : LvOk ls) {s : ByteArray} (hs : 10 ≤ s.size ∧ s.size ≤ 32) : walkgr FPa 1 Tryz.f40 [.agg [.ints .i64 4 ls], .c (.cs s)] [] fun y _ => y = .tup [.agg [.ints .i64 4 (lvA ls s)], .agg [.ints .i64 16 (wvA ls s)], i64 0] := by
  have hl := h.1
  repeat' ((conv => whnf); first | (refine ask_false (by omega) ?_) | (refine ask_true (by omega) ?_) | (refine And.intro (And.intro rfl (And.intro rfl rfl)) (ask_true (right_lv h) ?_)) | (refine And.intro (And.intro rfl (And.intro rfl (And.intro rfl (And.intro rfl rfl)))) (ask_true (right_lv h) ?_)) | fail)
  conv => whnf
  refine fun j d hj hd h4 hds => ?_
  obtain rfl : j = 4 := hj
  subst hd
  repeat' ((conv => whnf); first | fail)
  conv => whnf
  refine loop_at (List.range' 9 3 ++ List.range' 31 18) (fun m (k : Nat) => k ≤ 4 ∧ m = 4 - k) (fun k => [(31, vi k)]) (fun k => [iB 49 4 (lvF ls s k).1, iB 49 4 z4, iB 48 16 B.z16, iB 48 16 B.z16, dcB (lvF ls s k).2]) 4 (0 : Nat) ⟨by omega, rfl⟩ ?_ ?_
  · exact ⟨rfl, ⟨⟨Nat.le_of_ble_eq_true rfl, rfl⟩, trivial⟩, ⟨rfl, rfl, rfl, rfl, rfl, trivial⟩, rfl, rfl, Nat.zero_le _⟩
  · rintro m k ⟨h1, rfl⟩
    obtain ⟨l1, l2, l3⟩ := lvF_ok h s k
    rcases Nat.lt_or_ge k 4 with g | g
    · have em : mulN (k : Int).toNat (Tryz.prog.types[3]).size = k := (D.mulN1 _).trans (Int.toNat_natCast k)
      repeat' ((conv => whnf); first | (refine ask_true (by omega) ?_) | fail)
      conv => whnf
      refine ⟨(lvF ls s k).2, rfl, l2.mono (by omega), fun v d' hv hd' hvr htk => ?_⟩
      have hat := l1.at k
      have hat' : 0 ≤ (lvF ls s k).1.getD (mulN (k : Int).toNat (Tryz.prog.types[3]).size) 0 ∧ (lvF ls s k).1.getD (mulN (k : Int).toNat (Tryz.prog.types[3]).size) 0 ≤ 20 := by rw [em]; exact hat
      repeat' ((conv => whnf); first | (refine And.intro (And.intro (by omega) (by omega)) ?_) | (refine And.intro (show mulN (k : Int).toNat (Tryz.prog.types[3]).size < 4 by omega) ?_) | (refine fun (_ : InK _ _) => ?_) | (refine ask_wrap64 (by omega) (by omega) ?_) | fail)
      refine ⟨4 - (k + 1), k + 1, by omega, ⟨by omega, rfl⟩, ⟨rfl, ⟨⟨Nat.le_of_ble_eq_true rfl, rfl⟩, trivial⟩, ⟨?_, rfl, rfl, rfl, ?_, trivial⟩, rfl, rfl, Nat.zero_le _⟩⟩
      · show iB 49 4 (lvF ls s (k + 1)).1 = _
        rw [em, hv]; rfl
      · show dcB (lvF ls s (k + 1)).2 = _
        rw [hd']; rfl
    · obtain rfl : k = 4 := by omega
      have e1 : (lvF ls s 4).1 = lvA ls s := rfl
      have e2 : (lvF ls s 4).2 = lvD ls s := rfl
      rw [e1, e2]
      rw [e1] at l1
      rw [e2] at l2
      repeat' ((conv => whnf); first | (refine ask_false (by omega) ?_) | fail)
      conv => whnf
      have hu : InK .i64 (usedS (lvD ls s).gone (lvD ls s).rng) := by
        have h1 := len_32 l2.ok.r1
        have h2 := l2.g0
        have h3 := l2.g1
        unfold usedS lz32
        simp only [InK, lowK, highK]
        omega
      refine ⟨[4], vi (usedS (lvD ls s).gone (lvD ls s).rng), rfl, ?_, hu, ?_⟩
      · conv => whnf
        exact ⟨lvD ls s, .inr rfl, l2.mono (by omega), fun u hu => by rw [hu]⟩
      repeat' ((conv => whnf); first | (refine And.intro trivial ?_) | (refine ⟨by kernel_rfl, ?_⟩) | fail)
      conv => whnf
      refine loop_at (List.range' 14 2 ++ List.range' 59 15) (fun m (k : Nat) => k ≤ 4 ∧ m = 4 - k) (fun k => [(59, vi k)]) (fun k => [iB 49 4 (lvA ls s), iB 49 4 z4, iB 48 16 B.z16, iB 48 16 (wvF ls s k).1, dcB (wvF ls s k).2, iB 49 4 (ksA ls s)]) 4 (0 : Nat) ⟨by omega, rfl⟩ ?_ ?_
      · exact ⟨rfl, ⟨⟨Nat.le_of_ble_eq_true rfl, rfl⟩, trivial⟩, ⟨rfl, rfl, rfl, rfl, rfl, rfl, trivial⟩, rfl, rfl, Nat.zero_le _⟩
      · rintro m k ⟨k1, rfl⟩
        have w1 := wvF_ok h s k
        rcases Nat.lt_or_ge k 4 with g | g
        · have em : mulN (k : Int).toNat (Tryz.prog.types[3]).size = k := (D.mulN1 _).trans (Int.toNat_natCast k)
          have a1 := l1.at k
          have a2 := ksA_at ls s k
          have a1' : 0 ≤ (lvA ls s).getD (mulN (k : Int).toNat (Tryz.prog.types[3]).size) 0 ∧ (lvA ls s).getD (mulN (k : Int).toNat (Tryz.prog.types[3]).size) 0 ≤ 20 := by rw [em]; exact a1
          have a2' : 0 ≤ (ksA ls s).getD (mulN (k : Int).toNat (Tryz.prog.types[3]).size) 0 ∧ (ksA ls s).getD (mulN (k : Int).toNat (Tryz.prog.types[3]).size) 0 ≤ 8 := by rw [em]; exact a2
          repeat' ((conv => whnf); first | (refine ask_true (by omega) ?_) | (refine And.intro (And.intro (by omega) (by omega)) ?_) | (refine And.intro (show mulN (k : Int).toNat (Tryz.prog.types[3]).size < 4 by omega) ?_) | (refine fun (_ : InK _ _) => ?_) | fail)
          conv => whnf
          refine red_each (by kernel_rfl) ?_
          repeat' ((conv => whnf); first | (refine And.intro (And.intro (by omega) (by omega)) ?_) | (refine And.intro (show mulN (k : Int).toNat (Tryz.prog.types[3]).size < 4 by omega) ?_) | (refine fun (_ : InK _ _) => ?_) | (refine And.intro rfl (Exists.intro (wvF ls s k).2 (And.intro rfl (And.intro (w1.mono (by omega)) (And.intro (And.intro (by omega) (And.intro (by omega) (by omega))) fun ys d' N q hys hd' htk hq => ?_))))) | (refine And.intro (And.intro rfl rfl) ?_) | (refine hGet_at hq ?_) | (refine And.intro rfl ?_) | (refine ask_wrap64 (by omega) (by omega) ?_) | (refine And.intro ?_ (And.intro ?_ trivial)) | (refine And.intro ?_ trivial) | fail)
          all_goals
            refine ⟨4 - (k + 1), k + 1, by omega, ⟨by omega, rfl⟩, ⟨rfl, ⟨⟨Nat.le_of_ble_eq_true rfl, rfl⟩, trivial⟩, ⟨rfl, rfl, rfl, ?_, ?_, rfl, trivial⟩, rfl, rfl, Nat.zero_le _⟩⟩
            · show iB 48 16 (wvF ls s (k + 1)).1 = _
              rw [List.take_length, hys, em]; rfl
            · show dcB (wvF ls s (k + 1)).2 = _
              rw [hd', em]; rfl
        · obtain rfl : k = 4 := by omega
          have e3 : (wvF ls s 4).1 = wvA ls s := rfl
          rw [e3]
          repeat' ((conv => whnf); first | (refine ask_false (by omega) ?_) | (refine ⟨by kernel_rfl, ?_⟩) | fail)
          rfl
/-- A row's bounds and length, out of the walk of a contract's own. -/
theorem putZ_len {xs ys : List Int} {b : Int} (h : xs.length = 16) : (D.putZ xs b ys).length = 16 := by
  unfold D.putZ
  split
  · rename_i hh
    obtain ⟨⟨h0, h3⟩, hl⟩ := hh
    obtain rfl | rfl | rfl | rfl : b = 0 ∨ b = 1 ∨ b = 2 ∨ b = 3 := by omega
    all_goals
      simp only [List.length_append, List.length_take, List.length_drop, h]
      simp only [D.sizeS, D.fst] at hl ⊢
      simp at hl ⊢
      omega
  · exact h
def ctParts : Ct := fun ws K => match ws with
  | [.agg [.ints .i64 4 ls], .c (.cs s)] => LvOk ls ∧ (10 ≤ s.size ∧ s.size ≤ 32) ∧ K (.tup [.agg [.ints .i64 4 (lvA ls s)], .agg [.ints .i64 16 (wvA ls s)], i64 0])
  | _ => False
theorem flZ_in {l : Int} (hl : 0 ≤ l ∧ l ≤ 20) (ys : List Int) : ∀ x ∈ D.L.flZ l ys, -25165824 ≤ x ∧ x ≤ 25165824 := by
  unfold D.L.flZ
  split
  · rename_i h
    intro x hx
    obtain ⟨y, hy, rfl⟩ := List.mem_map.1 hx
    refine D.L.fillN_in hl ?_
    exact ((D.L.rightL_def _ _).1 h.1).2.2 y hy
  · intro x hx
    rw [(List.mem_replicate.1 hx).2]; decide
theorem bandY_in (d : DS) (b : Int) {l : Int} (hl : 0 ≤ l ∧ l ≤ 20) (k : Int) : ∀ x ∈ bandY d b l k, -25165824 ≤ x ∧ x ≤ 25165824 := by
  unfold bandY
  split
  · intro x hx
    rw [(List.mem_replicate.1 hx).2]; decide
  · exact flZ_in hl _
theorem putZ_mem {xs ys : List Int} {b x : Int} (h : x ∈ D.putZ xs b ys) : x ∈ xs ∨ x ∈ ys := by
  unfold D.putZ at h
  split at h
  · rcases List.mem_append.1 h with h | h
    · rcases List.mem_append.1 h with h | h
      · exact .inl (List.mem_of_mem_take h)
      · exact .inr h
    · exact .inl (List.mem_of_mem_drop h)
  · exact .inl h
theorem wvF_in {ls : List Int} (h : LvOk ls) (s : ByteArray) : ∀ k : Nat, (wvF ls s k).1.length = 16 ∧ ∀ x ∈ (wvF ls s k).1, -25165824 ≤ x ∧ x ≤ 25165824
  | 0 => ⟨rfl, by show ∀ x ∈ B.z16, _; decide⟩
  | k + 1 => by
    obtain ⟨h1, h2⟩ := wvF_in h s k
    refine ⟨putZ_len h1, fun x hx => ?_⟩
    rcases putZ_mem hx with g | g
    · exact h2 x g
    · exact bandY_in _ _ ((lvF_ok h s 4).1.at k) _ x g
theorem parts_ct : CtOkG Tryz.prog D.G1 40 ctParts := by
  intro ws K h' hr
  unfold ctParts at h'
  split at h'
  · rename_i ls s
    obtain ⟨h1, h2, h'⟩ := h'
    have l4 := (lvF_ok h1 s 4).1
    have w4 := wvF_in h1 s 4
    refine ⟨_, h', ⟨⟨⟨⟨l4.1, fun x hx => ?_⟩, trivial⟩, ⟨⟨w4.1, fun x hx => ?_⟩, trivial⟩, by simp only [W.rng, C.rng, InK, lowK, highK]; omega, trivial⟩, rfl⟩, walkgr_calls FPa_ok Tryz.func40 rfl hr rfl (parts_walk h1 h2)⟩
    · have := l4.2 x hx
      simp only [InK, lowK, highK]; omega
    · have := w4.2 x hx
      simp only [InK, lowK, highK]; omega
  · exact h'.elim
end R
end Go.Proofs.YtaficaacogcblaaGreatDoor
