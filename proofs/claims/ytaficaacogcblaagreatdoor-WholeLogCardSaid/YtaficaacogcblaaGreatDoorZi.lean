/- Wx, Wy, Wc, Wee, Wjj, Wkk, Ye: what the law wants of them. -/
import Derived.Test.YtaficaacogcblaaGreatDoorZh
import Derived.Deep.Grids
import Derived.Recover
import Derived.Defers
import Derived.WalkSmall
set_option linter.all false
namespace Go.Proofs.YtaficaacogcblaaGreatDoor
namespace R
open Go.RowKit (Below)
set_option maxRecDepth 100000
set_option maxHeartbeats 16000000
abbrev walkgr (F : Fns) (n : Nat) (fn : Func) (ws : List W) (H : List Blk) (K : V → List Blk → Prop) : Prop := xfun Tryz.prog D.E1 (calF Tryz.prog D.E1 F (drwR Tryz.prog D.E1 F) n) (drwR Tryz.prog D.E1 F (calF Tryz.prog D.E1 F (drwR Tryz.prog D.E1 F) n)) fn ws H K
theorem calgr_ok {F : Fns} (hF : FnsOk Tryz.prog F D.G1) (n : Nat) : CalOk Tryz.prog D.E1 (calF Tryz.prog D.E1 F (drwR Tryz.prog D.E1 F) n) := calF_ok D.E1_ok hF (fun cal hc => drwR_ok D.E1_ok hF mixed cal hc) n
theorem walkgr_calls {F : Fns} (hF : FnsOk Tryz.prog F D.G1) {n : Nat} {f : FuncId} {fn : Func} (hf : Tryz.prog.funcs[f]? = some fn) {ws : List W} {x : V} (hx : x.bnd 0 = true) (hr : rngW ws) (hb : bndW 0 ws = true)
    (h : walkgr F n fn ws [] fun y _ => y = x) (σ : Sg) (w : World) (hg : GW D.G1 w) : Calls Tryz.prog f (ws.map (W.den σ)).toArray w fun e w' => ∃ v, e = .returned v ∧ x.rep σ v ∧ Below w.heap.size w w' :=
  call_roG D.E1_ok (calgr_ok hF n) (drwR_ok D.E1_ok hF mixed _ (calgr_ok hF n)) (R := []) hf hx hr hb h D.nil_okB σ w (fun j b hj => by simp at hj) hg
abbrev iB (T n : Nat) (xs : List Int) : Blk := .own T [.ints .i64 n xs]
abbrev z4 : List Int := [0, 0, 0, 0]
noncomputable def lvF (ls : List Int) (s : ByteArray) : Nat → List Int × DS
  | 0 => (ls, nwS s)
  | k + 1 => ((lvF ls s k).1.set k (max (min ((lvF ls s k).1.getD k 0 + ltV (lvF ls s k).2) 20) 0), ltD (lvF ls s k).2)
noncomputable def lvA (ls : List Int) (s : ByteArray) : List Int := (lvF ls s 4).1
noncomputable def lvD (ls : List Int) (s : ByteArray) : DS := (lvF ls s 4).2
noncomputable def ksA (ls : List Int) (s : ByteArray) : List Int := D.pulS (lvA ls s) (D.roomS s.size (usedS (lvD ls s).gone (lvD ls s).rng))
noncomputable def wvF (ls : List Int) (s : ByteArray) : Nat → List Int × DS
  | 0 => (B.z16, lvD ls s)
  | k + 1 => (D.putZ (wvF ls s k).1 k (bandY (wvF ls s k).2 k ((lvA ls s).getD k 0) ((ksA ls s).getD k 0)), bandD (wvF ls s k).2 k ((ksA ls s).getD k 0))
noncomputable def wvA (ls : List Int) (s : ByteArray) : List Int := (wvF ls s 4).1
def LvOk (ls : List Int) : Prop := ls.length = 4 ∧ ∀ x ∈ ls, 0 ≤ x ∧ x ≤ 20
theorem LvOk.at {ls : List Int} (h : LvOk ls) (k : Nat) : 0 ≤ ls.getD k 0 ∧ ls.getD k 0 ≤ 20 := by
  rcases Nat.lt_or_ge k ls.length with g | g
  · have := h.2 ls[k] (List.getElem_mem g)
    simpa [List.getD_eq_getElem?_getD, List.getElem?_eq_getElem g] using this
  · simp [List.getD_eq_getElem?_getD, List.getElem?_eq_none g]
theorem LvOk.set {ls : List Int} (h : LvOk ls) (k : Nat) {x : Int} (hx : 0 ≤ x ∧ x ≤ 20) : LvOk (ls.set k x) := by
  refine ⟨by simp [h.1], fun y hy => ?_⟩
  rcases List.mem_or_eq_of_mem_set hy with g | rfl
  · exact h.2 y g
  · exact hx
theorem lvF_ok {ls : List Int} (h : LvOk ls) (s : ByteArray) : ∀ k : Nat, LvOk (lvF ls s k).1 ∧ DIn (lvF ls s k).2 (4 + 3 * k) ∧ (lvF ls s k).2.s = s
  | 0 => ⟨h, (nwS_ok s).1.mono (by omega), (nwS_ok s).2.1⟩
  | k + 1 => by
    obtain ⟨h1, h2, h3⟩ := lvF_ok h s k
    obtain ⟨g1, g2⟩ := ltV_in h2.ok
    have := h1.at k
    exact ⟨h1.set k (by omega), (h2.take g2).mono (by omega), by rw [lvF]; exact g2.s.trans h3⟩
theorem ksA_at (ls : List Int) (s : ByteArray) (k : Nat) : 0 ≤ (ksA ls s).getD k 0 ∧ (ksA ls s).getD k 0 ≤ 8 := (D.pulS_ok _ _).at' k
theorem wvF_ok {ls : List Int} (h : LvOk ls) (s : ByteArray) : ∀ k : Nat, DIn (wvF ls s k).2 (16 + 9 * k)
  | 0 => (lvF_ok h s 4).2.1.mono (by omega)
  | k + 1 => by
    have h1 := wvF_ok h s k
    exact (h1.take (bandD_ok h1.ok _ _)).mono (by omega)
noncomputable def FPa : Fns := ((((((((((F0.into 38 Tryz.f38).plus 39 (B.ctSt B.rightP)).over 66 hNew).over 67 hLt).over 70 hDUsed).plus 69 (ct2 (fun _ _ => True) D.roomS)).plus 68 (D.ctP4 D.pulS)).over 73 hBa).over 72 D.hPut).every 73)
theorem FPa_ok : FnsOk Tryz.prog FPa D.G1 := (((((((((D.F0_okg.into Tryz.func38 (by kernel_rfl) (by kernel_rfl)).plus B.right_ct Tryz.func39 (by kernel_rfl) (by kernel_rfl)).over new_ct Tryz.func66 (by kernel_rfl) (by kernel_rfl)).over lt_ct Tryz.func67 (by kernel_rfl) (by kernel_rfl)).over dused_ct Tryz.func70 (by kernel_rfl) (by kernel_rfl)).plus D.room_ct Tryz.func69 (by kernel_rfl) (by kernel_rfl)).plusG D.pulsesS_ct Tryz.func68 (by kernel_rfl) (by kernel_rfl)).overG ba_ct Tryz.func73 (by kernel_rfl) (by kernel_rfl)).overG D.put_ct Tryz.func72 (by kernel_rfl) (by kernel_rfl)).every _
theorem right_lv {ls : List Int} (h : LvOk ls) : B.rightP ⟨B.z16, 0, ls, B.z16, 0⟩ := by
  rw [B.rightP_def]
  refine ⟨?_, h.2, ⟨?_, ?_⟩, B.held_z16, ?_, ?_⟩
  · show ∀ x ∈ B.z16, _
    decide
  · show -2097152 ≤ (0 : Int); decide
  · show (0 : Int) ≤ 2097151; decide
  · show (0 : Int) ≤ 0; decide
  · show (0 : Int) ≤ 255; decide
theorem parts_walk {ls : List Int} (h : LvOk ls) {s : ByteArray} (hs : 10 ≤ s.size ∧ s.size ≤ 32) : walkgr FPa 1 Tryz.f40 [.agg [.ints .i64 4 ls], .c (.cs s)] [] fun y _ => y = .tup [.agg [.ints .i64 4 (lvA ls s)], .agg [.ints .i64 16 (wvA ls s)], i64 0] := by
  have hl := h.1
  repeat' ((conv => whnf); first | (refine ask_false (by omega) ?_) | (refine ask_true (by omega) ?_) | (refine And.intro (And.intro rfl (And.intro rfl rfl)) (ask_true (right_lv h) ?_)) | (refine And.intro (And.intro rfl (And.intro rfl (And.intro rfl (And.intro rfl rfl)))) (ask_true (right_lv h) ?_)) | fail)
  conv => whnf
  refine fun j d hj hd h4 hds => ?_
  obtain rfl : j = 4 := hj
  subst hd
  repeat' ((conv => whnf); first | fail)
  conv => whnf
  refine loop_at (List.range' 9 3 ++ List.range' 31 18) (fun m (k : Nat) => k ≤ 4 ∧ m = 4 - k) (fun k => [(31, vi k)]) (fun k => [iB 49 4 (lvF ls s k).1, iB 49 4 z4, iB 48 16 B.z16, iB 48 16 B.z16, dcB (lvF ls s k).2]) 4 (0 : Nat) ⟨by omega, rfl⟩ ?_ ?_
  · exact ⟨rfl, ⟨⟨Nat.le_of_ble_eq_true rfl, rfl⟩, trivial⟩, ⟨rfl, rfl, rfl, rfl, rfl, trivial⟩, rfl, rfl, Nat.zero_le _⟩
  · rintro m k ⟨h1, rfl⟩
    obtain ⟨l1, l2, l3⟩ := lvF_ok h s k
    rcases Nat.lt_or_ge k 4 with g | g
    · have em : mulN (k : Int).toNat (Tryz.prog.types[3]).size = k := (D.mulN1 _).trans (Int.toNat_natCast k)
      repeat' ((conv => whnf); first | (refine ask_true (by omega) ?_) | fail)
      conv => whnf
      refine ⟨(lvF ls s k).2, rfl, l2.mono (by omega), fun v d' hv hd' hvr htk => ?_⟩
      have hat := l1.at k
      have hat' : 0 ≤ (lvF ls s k).1.getD (mulN (k : Int).toNat (Tryz.prog.types[3]).size) 0 ∧ (lvF ls s k).1.getD (mulN (k : Int).toNat (Tryz.prog.types[3]).size) 0 ≤ 20 := by rw [em]; exact hat
      repeat' ((conv => whnf); first | (refine And.intro (And.intro (by omega) (by omega)) ?_) | (refine And.intro (show mulN (k : Int).toNat (Tryz.prog.types[3]).size < 4 by omega) ?_) | (refine fun (_ : InK _ _) => ?_) | (refine ask_wrap64 (by omega) (by omega) ?_) | fail)
      refine ⟨4 - (k + 1), k + 1, by omega, ⟨by omega, rfl⟩, ⟨rfl, ⟨⟨Nat.le_of_ble_eq_true rfl, rfl⟩, trivial⟩, ⟨?_, rfl, rfl, rfl, ?_, trivial⟩, rfl, rfl, Nat.zero_le _⟩⟩
      · show iB 49 4 (lvF ls s (k + 1)).1 = _
        rw [em, hv]; rfl
      · show dcB (lvF ls s (k + 1)).2 = _
        rw [hd']; rfl
    · obtain rfl : k = 4 := by omega
      have e1 : (lvF ls s 4).1 = lvA ls s := rfl
      have e2 : (lvF ls s 4).2 = lvD ls s := rfl
      rw [e1, e2]
      rw [e1] at l1
      rw [e2] at l2
      repeat' ((conv => whnf); first | (refine ask_false (by omega) ?_) | fail)
      conv => whnf
      have hu : InK .i64 (usedS (lvD ls s).gone (lvD ls s).rng) := by
        have h1 := len_32 l2.ok.r1
        have h2 := l2.g0
        have h3 := l2.g1
        unfold usedS lz32
        simp only [InK, lowK, highK]
        omega
      refine ⟨[4], vi (usedS (lvD ls s).gone (lvD ls s).rng), rfl, ?_, hu, ?_⟩
      · conv => whnf
        exact ⟨lvD ls s, .inr rfl, l2.mono (by omega), fun u hu => by rw [hu]⟩
      repeat' ((conv => whnf); first | (refine And.intro trivial ?_) | (refine ⟨by kernel_rfl, ?_⟩) | fail)
      conv => whnf
      refine loop_at (List.range' 14 2 ++ List.range' 59 15) (fun m (k : Nat) => k ≤ 4 ∧ m = 4 - k) (fun k => [(59, vi k)]) (fun k => [iB 49 4 (lvA ls s), iB 49 4 z4, iB 48 16 B.z16, iB 48 16 (wvF ls s k).1, dcB (wvF ls s k).2, iB 49 4 (ksA ls s)]) 4 (0 : Nat) ⟨by omega, rfl⟩ ?_ ?_
      · exact ⟨rfl, ⟨⟨Nat.le_of_ble_eq_true rfl, rfl⟩, trivial⟩, ⟨rfl, rfl, rfl, rfl, rfl, rfl, trivial⟩, rfl, rfl, Nat.zero_le _⟩
      · rintro m k ⟨k1, rfl⟩
        have w1 := wvF_ok h s k
        rcases Nat.lt_or_ge k 4 with g | g
        · have em : mulN (k : Int).toNat (Tryz.prog.types[3]).size = k := (D.mulN1 _).trans (Int.toNat_natCast k)
          have a1 := l1.at k
          have a2 := ksA_at ls s k
          have a1' : 0 ≤ (lvA ls s).getD (mulN (k : Int).toNat (Tryz.prog.types[3]).size) 0 ∧ (lvA ls s).getD (mulN (k : Int).toNat (Tryz.prog.types[3]).size) 0 ≤ 20 := by rw [em]; exact a1
          have a2' : 0 ≤ (ksA ls s).getD (mulN (k : Int).toNat (Tryz.prog.types[3]).size) 0 ∧ (ksA ls s).getD (mulN (k : Int).toNat (Tryz.prog.types[3]).size) 0 ≤ 8 := by rw [em]; exact a2
          repeat' ((conv => whnf); first | (refine ask_true (by omega) ?_) | (refine And.intro (And.intro (by omega) (by omega)) ?_) | (refine And.intro (show mulN (k : Int).toNat (Tryz.prog.types[3]).size < 4 by omega) ?_) | (refine fun (_ : InK _ _) => ?_) | fail)
          conv => whnf
          refine red_each (by kernel_rfl) ?_
          repeat' ((conv => whnf); first | (refine And.intro (And.intro (by omega) (by omega)) ?_) | (refine And.intro (show mulN (k : Int).toNat (Tryz.prog.types[3]).size < 4 by omega) ?_) | (refine fun (_ : InK _ _) => ?_) | (refine And.intro rfl (Exists.intro (wvF ls s k).2 (And.intro rfl (And.intro (w1.mono (by omega)) (And.intro (And.intro (by omega) (And.intro (by omega) (by omega))) fun ys d' N q hys hd' htk hq => ?_))))) | (refine And.intro (And.intro rfl rfl) ?_) | (refine hGet_at hq ?_) | (refine And.intro rfl ?_) | (refine ask_wrap64 (by omega) (by omega) ?_) | (refine And.intro ?_ (And.intro ?_ trivial)) | (refine And.intro ?_ trivial) | fail)
          all_goals
            refine ⟨4 - (k + 1), k + 1, by omega, ⟨by omega, rfl⟩, ⟨rfl, ⟨⟨Nat.le_of_ble_eq_true rfl, rfl⟩, trivial⟩, ⟨rfl, rfl, rfl, ?_, ?_, rfl, trivial⟩, rfl, rfl, Nat.zero_le _⟩⟩
            · show iB 48 16 (wvF ls s (k + 1)).1 = _
              rw [List.take_length, hys, em]; rfl
            · show dcB (wvF ls s (k + 1)).2 = _
              rw [hd', em]; rfl
        · obtain rfl : k = 4 := by omega
          have e3 : (wvF ls s 4).1 = wvA ls s := rfl
          rw [e3]
          repeat' ((conv => whnf); first | (refine ask_false (by omega) ?_) | (refine ⟨by kernel_rfl, ?_⟩) | fail)
          rfl
theorem putZ_len {xs ys : List Int} {b : Int} (h : xs.length = 16) : (D.putZ xs b ys).length = 16 := by
  unfold D.putZ
  split
  · rename_i hh
    obtain ⟨⟨h0, h3⟩, hl⟩ := hh
    obtain rfl | rfl | rfl | rfl : b = 0 ∨ b = 1 ∨ b = 2 ∨ b = 3 := by omega
    all_goals
      simp only [List.length_append, List.length_take, List.length_drop, h]
      simp only [D.sizeS, D.fst] at hl ⊢
      simp at hl ⊢
      omega
  · exact h
def ctParts : Ct := fun ws K => match ws with
  | [.agg [.ints .i64 4 ls], .c (.cs s)] => LvOk ls ∧ (10 ≤ s.size ∧ s.size ≤ 32) ∧ K (.tup [.agg [.ints .i64 4 (lvA ls s)], .agg [.ints .i64 16 (wvA ls s)], i64 0])
  | _ => False
theorem flZ_in {l : Int} (hl : 0 ≤ l ∧ l ≤ 20) (ys : List Int) : ∀ x ∈ D.L.flZ l ys, -25165824 ≤ x ∧ x ≤ 25165824 := by
  unfold D.L.flZ
  split
  · rename_i h
    intro x hx
    obtain ⟨y, hy, rfl⟩ := List.mem_map.1 hx
    refine D.L.fillN_in hl ?_
    exact ((D.L.rightL_def _ _).1 h.1).2.2 y hy
  · intro x hx
    rw [(List.mem_replicate.1 hx).2]; decide
theorem bandY_in (d : DS) (b : Int) {l : Int} (hl : 0 ≤ l ∧ l ≤ 20) (k : Int) : ∀ x ∈ bandY d b l k, -25165824 ≤ x ∧ x ≤ 25165824 := by
  unfold bandY
  split
  · intro x hx
    rw [(List.mem_replicate.1 hx).2]; decide
  · exact flZ_in hl _
theorem putZ_mem {xs ys : List Int} {b x : Int} (h : x ∈ D.putZ xs b ys) : x ∈ xs ∨ x ∈ ys := by
  unfold D.putZ at h
  split at h
  · rcases List.mem_append.1 h with h | h
    · rcases List.mem_append.1 h with h | h
      · exact .inl (List.mem_of_mem_take h)
      · exact .inr h
    · exact .inl (List.mem_of_mem_drop h)
  · exact .inl h
theorem wvF_in {ls : List Int} (h : LvOk ls) (s : ByteArray) : ∀ k : Nat, (wvF ls s k).1.length = 16 ∧ ∀ x ∈ (wvF ls s k).1, -25165824 ≤ x ∧ x ≤ 25165824
  | 0 => ⟨rfl, by show ∀ x ∈ B.z16, _; decide⟩
  | k + 1 => by
    obtain ⟨h1, h2⟩ := wvF_in h s k
    refine ⟨putZ_len h1, fun x hx => ?_⟩
    rcases putZ_mem hx with g | g
    · exact h2 x g
    · exact bandY_in _ _ ((lvF_ok h s 4).1.at k) _ x g
theorem parts_ct : CtOkG Tryz.prog D.G1 40 ctParts := by
  intro ws K h' hr
  unfold ctParts at h'
  split at h'
  · rename_i ls s
    obtain ⟨h1, h2, h'⟩ := h'
    have l4 := (lvF_ok h1 s 4).1
    have w4 := wvF_in h1 s 4
    refine ⟨_, h', ⟨⟨⟨⟨l4.1, fun x hx => ?_⟩, trivial⟩, ⟨⟨w4.1, fun x hx => ?_⟩, trivial⟩, by simp only [W.rng, C.rng, InK, lowK, highK]; omega, trivial⟩, rfl⟩, walkgr_calls FPa_ok Tryz.func40 rfl hr rfl (parts_walk h1 h2)⟩
    · have := l4.2 x hx
      simp only [InK, lowK, highK]; omega
    · have := w4.2 x hx
      simp only [InK, lowK, highK]; omega
  · exact h'.elim
end R
end Go.Proofs.YtaficaacogcblaaGreatDoor
set_option linter.all false
namespace Go.Proofs.YtaficaacogcblaaGreatDoor
namespace R
open Go.RowKit (Below)
set_option maxRecDepth 100000
set_option maxHeartbeats 16000000
noncomputable def FDe : Fns := (((F0.into 38 Tryz.f38).plus 39 (B.ctSt B.rightP)).plus 40 ctParts).plus 41 B.ctNext
theorem FDe_ok : FnsOk Tryz.prog FDe D.G1 := (((D.F0_okg.into Tryz.func38 (by kernel_rfl) (by kernel_rfl)).plus B.right_ct Tryz.func39 (by kernel_rfl) (by kernel_rfl)).plusG parts_ct Tryz.func40 (by kernel_rfl) (by kernel_rfl)).plus B.next_ct Tryz.func41 (by kernel_rfl) (by kernel_rfl)
noncomputable def outD (s : B.St) (p : ByteArray) : List Int := B.outN s (lvA s.v p) (wvA s.v p) 0
noncomputable def stD (s : B.St) (p : ByteArray) : B.St := B.stN s (lvA s.v p) (wvA s.v p) 0
theorem lv_of {s : B.St} (h : B.StOk s) (hr : B.rightP s) : LvOk s.v := ⟨h.v.1, ((B.rightP_def s).1 hr).2.1⟩
theorem decode_walk {s : B.St} (h : B.StOk s) (hr : B.rightP s) {p : ByteArray} (hp : 10 ≤ p.size ∧ p.size ≤ 32) : walkgr FDe 1 Tryz.f18 [B.stW s, .c (.cs p)] [] fun y _ => y = .tup [.agg [.ints .i64 16 (outD s p)], B.stW (stD s p), i64 0] := by
  have hl := lv_of h hr
  repeat' ((conv => whnf); first | (refine ask_false (by omega) ?_) | (refine ask_true (by omega) ?_) | (refine And.intro (And.intro rfl (And.intro rfl rfl)) (ask_true hr ?_)) | (refine And.intro hl (And.intro hp ?_)) | (refine And.intro (And.intro rfl (And.intro rfl (And.intro rfl (And.intro rfl rfl)))) ?_) | (refine ⟨by kernel_rfl, ?_⟩) | fail)
  rfl
def ctDec : Ct := fun ws K => match ws with
  | [.agg [.ints .i64 n m, .one (.ci .i64 l), .ints .i64 a v, .ints .i64 b w, .one (.ci .i64 q)], .c (.cs p)] => (n = 16 ∧ a = 4 ∧ b = 16) ∧ B.rightP ⟨m, l, v, w, q⟩ ∧ (10 ≤ p.size ∧ p.size ≤ 32) ∧ ∀ (o : List Int) (x : B.St), o = outD ⟨m, l, v, w, q⟩ p → x = stD ⟨m, l, v, w, q⟩ p → K (.tup [.agg [.ints .i64 16 o], B.stW x, i64 0])
  | _ => False
theorem decode_ct : CtOkG Tryz.prog D.G1 18 ctDec := by
  intro ws K h' hr
  unfold ctDec at h'
  split at h'
  · rename_i n m l a v b w q p
    obtain ⟨⟨rfl, rfl, rfl⟩, h1, h2, h'⟩ := h'
    have ok : B.StOk ⟨m, l, v, w, q⟩ := B.stOk_of hr.1
    have hl := lv_of ok h1
    have l4 := (lvF_ok hl p 4).1
    have w4 := wvF_in hl p 4
    refine ⟨_, h' _ _ rfl rfl, ⟨⟨⟨⟨B.outN_len _ _ _ _, fun x hx => ?_⟩, trivial⟩, (B.stN_stok ⟨l4.1, fun x hx => ?_⟩ ⟨w4.1, fun x hx => ?_⟩ (by simp only [InK, lowK, highK]; omega)).rng, by simp only [W.rng, C.rng, InK, lowK, highK]; omega, trivial⟩, rfl⟩, walkgr_calls FDe_ok Tryz.func18 rfl (ws := [B.stW ⟨m, l, v, w, q⟩, .c (.cs p)]) hr rfl (decode_walk ok h1 h2)⟩
    · have := B.outN_in hx
      simp only [InK, lowK, highK]; omega
    · have := l4.2 x hx
      simp only [InK, lowK, highK]; omega
    · have := w4.2 x hx
      simp only [InK, lowK, highK]; omega
  · exact h'.elim
end R
end Go.Proofs.YtaficaacogcblaaGreatDoor
set_option linter.all false
namespace Go.Proofs.YtaficaacogcblaaGreatDoor
namespace C
open Go.RowKit (Below)
set_option maxRecDepth 100000
set_option maxHeartbeats 32000000
theorem nil_ok : HOk [] := ⟨fun b hb => (by cases hb), fun b hb => (by cases hb)⟩
end C
end Go.Proofs.YtaficaacogcblaaGreatDoor
set_option linter.all false
namespace Go.Proofs.YtaficaacogcblaaGreatDoor
namespace D
open Go.RowKit (Below)
set_option maxRecDepth 100000
set_option maxHeartbeats 64000000
end D
namespace R
set_option maxRecDepth 100000
set_option maxHeartbeats 16000000
end R
namespace R
set_option maxRecDepth 100000
set_option maxHeartbeats 16000000
theorem loop_upJ {body : List V → List Blk → XQ → Prop} {lo : Nat} {fr : List V} {H : List Blk} {Q : XQ} {α : Type} (ds : List Nat) (J : Nat → α → Prop) (sel : α → List (Nat × V)) (Hs : α → List Blk) (m₀ : Nat) (s₀ : α) (h₀ : J m₀ s₀)
    (hbs : ∀ (m : Nat) (s : α), J m s → bndF (Hs s).length (setL (sel s) (hav ds 0 fr)) = true)
    (start : NextU ds lo fr (sel s₀) (Hs s₀) fr H)
    (round : ∀ m s, J m s → havK ds 0 fr fun f₁ => setLK (sel s) f₁ fun f₂ => body f₂ (Hs s) fun ex fr' H' => match ex with
      | .normal => ∃ m' s', m' < m ∧ J m' s' ∧ NextU ds lo fr (sel s') (Hs s') fr' H'
      | .exit id => Q (.exit id) fr' H'
      | .ret => Q .ret fr' H') : XLoop body lo fr H Q := by
  have up : ∀ m s fr' H', J m s → NextU ds lo fr (sel s) (Hs s) fr' H' → Next' ds lo fr (sel s) (Hs s) fr' H' := fun m s fr' H' hj h => ⟨h.same, h.hold, h.heap, hbs m s hj, h.bh, h.lo⟩
  unfold XLoop
  refine ⟨fun m f h => ∃ s, J m s ∧ f = setL (sel s) (hav ds 0 fr) ∧ h = Hs s, fun m fr' H' => ∃ m' s', m' < m ∧ J m' s' ∧ NextU ds lo fr (sel s') (Hs s') fr' H', ?_, ?_, ?_⟩
  · have st := up _ _ _ _ h₀ start
    exact ⟨m₀, _, _, id, ⟨s₀, h₀, rfl, rfl⟩, Seen.of_wk (wkF_len (wkF_sel st.same _ st.hold)) (wkF_sel st.same _ st.hold) st.heap st.bf st.bh st.lo⟩
  · rintro m f h ⟨s, hs, rfl, rfl⟩ _ _ _
    have := round m s hs
    rw [havK_iff, setLK_iff] at this
    exact this
  · rintro m fr' H' ⟨m', s', h1, h2, h3⟩
    have st := up _ _ _ _ h2 h3
    exact ⟨m', _, _, id, h1, ⟨s', h2, rfl, rfl⟩, Seen.of_wk (wkF_len (wkF_sel st.same _ st.hold)) (wkF_sel st.same _ st.hold) st.heap st.bf st.bh st.lo⟩
theorem set_top (H : List Blk) (a b : Blk) : (H ++ [a]).set H.length b = H ++ [b] := by
  rw [List.set_append_right _ _ (Nat.le_refl _), Nat.sub_self]; rfl
end R
end Go.Proofs.YtaficaacogcblaaGreatDoor
set_option linter.all false
namespace Go.Proofs.YtaficaacogcblaaGreatDoor
namespace R
open Go.RowKit (Below)
set_option maxRecDepth 100000
set_option maxHeartbeats 16000000
abbrev snd (x : Int) : Prop := -32768 ≤ x ∧ x ≤ 32767
structure EncOk (p : List Int) (l : Int) (s : B.St) : Prop where
  len : p.length = 16
  pin : ∀ x ∈ p, -131072 ≤ x ∧ x ≤ 131072
  lin : snd l
  st : B.StOk s
  right : B.rightP s
theorem right_st0 : B.rightP B.st0 := by
  rw [B.rightP_def]
  exact ⟨by decide, by decide, by decide, B.held_z16, by decide, by decide⟩
theorem stN_right {s : B.St} {lv wv : List Int} {q : Int} : B.rightP (B.stN s lv wv q) := by
  rcases Classical.em (B.okN s lv wv q) with h | h
  · rw [B.stN_ok h]
    have h2 := h.2
    rw [B.rightP_def] at h2 ⊢
    exact ⟨fun x hx => B.memZ_in hx, h2.2.1, B.laidP_in _ _, h2.2.2.2⟩
  · rw [B.stN_no h]; exact right_st0
structure StR (s : B.St) : Prop where
  ok : B.StOk s
  right : B.rightP s
theorem stD_ok {s : B.St} (ok : B.StOk s) (h1 : B.rightP s) {p : ByteArray} : StR (stD s p) := by
  have hl := lv_of ok h1
  have l4 := (lvF_ok hl p 4).1
  have w4 := wvF_in hl p 4
  refine ⟨B.stN_stok ⟨l4.1, fun x hx => ?_⟩ ⟨w4.1, fun x hx => ?_⟩ (by simp only [InK, lowK, highK]; omega), stN_right⟩
  · have := l4.2 x hx
    simp only [InK, lowK, highK]; omega
  · have := w4.2 x hx
    simp only [InK, lowK, highK]; omega
end R
namespace R
set_option maxRecDepth 100000
set_option maxHeartbeats 16000000
end R
namespace R
set_option maxRecDepth 100000
set_option maxHeartbeats 16000000
def drwX (P : Program) (E : Env) (cal : Cal) : Drw := fun ops lo fr H K => XRed P E cal ops lo fr H K
theorem drwX_ok {P : Program} {E : Env} (hE : EnvOk P E) (hm : P.follows .mixedOrders = true) (cal : Cal) (hc : CalOk P E cal) : DrwOk P E (drwX P E cal) := by
  intro Df id ops lo fr H K h hf ho hlo σ base w₀ w a hr hw
  unfold drwX at h
  unfold XRed at h
  obtain ⟨hssa, S, L, h1, hL, h2⟩ := h
  refine wp_region_any hm ?_
  have hw' : Rep E.G σ base w₀ { w with drawn := w.drawn + 1 } H := hw.later ⟨rfl, rfl, rfl, Nat.le_refl _, fun _ _ => rfl⟩
  refine xred_spec hE hc ops hssa (σ₀ := σ) (base := base) (w₀ := w₀) (lo := lo) ?_ ?_ ops.size (Array.replicate ops.size false) [] (by simp) (by simp) (fun p => ?_) h2 hf ho hlo (Sg.agree.refl _ _) hr hw'
  · rintro c a w ⟨_, _, _, ex, he, _⟩
    cases ex <;> cases he
  · rintro τ fr' H' a' w' k0 k3 k4 k5 k6 k7 k8
    obtain ⟨frc, Hc, ρ, k2, k1⟩ := hL _ _ k0
    replace k2 := k2 k7 k5 k8
    obtain ⟨q1, q2⟩ := k2.ok k7 k5
    exact ⟨τ.ren ρ, frc, Hc, .normal, rfl, ⟨rfl, h1 _ _ k1⟩, k3.trans (fun j hj => by simp only [Sg.ren, k2.low j hj]), k4.ren k2.blk k2.inj, q2, k6.ren k2.len k2.fr, q1, k2.lo⟩
  · rcases Nat.lt_or_ge p ops.size with hlt | hge
    · simp [hlt]
    · simp [Array.getElem?_eq_none (xs := Array.replicate ops.size false) (i := p) (by simpa using hge)]
theorem small_k {x : Int} (h : -32768 ≤ x ∧ x ≤ 32767) : InK .i64 x := by simp only [InK, lowK, highK]; omega
theorem zero_ok : EncOk B.z16 0 ⟨B.z16, 0, [0, 0, 0, 0], B.z16, 0⟩ := by
  refine ⟨rfl, by decide, ⟨by decide, by decide⟩, ⟨⟨rfl, fun x hx => small_k (show -32768 ≤ x ∧ x ≤ 32767 from (by decide : ∀ x ∈ B.z16, -32768 ≤ x ∧ x ≤ 32767) x hx)⟩, small_k (by decide : (-32768 : Int) ≤ 0 ∧ (0 : Int) ≤ 32767), ⟨rfl, fun x hx => small_k ((by decide : ∀ x ∈ ([0, 0, 0, 0] : List Int), -32768 ≤ x ∧ x ≤ 32767) x hx)⟩, ⟨rfl, fun x hx => small_k ((by decide : ∀ x ∈ B.z16, -32768 ≤ x ∧ x ≤ 32767) x hx)⟩, small_k (by decide : (-32768 : Int) ≤ 0 ∧ (0 : Int) ≤ 32767)⟩, right_st0⟩
end R
end Go.Proofs.YtaficaacogcblaaGreatDoor
set_option linter.all false
namespace Go.Proofs.YtaficaacogcblaaGreatDoor
namespace Q
open Go.RowKit (Below)
set_option maxRecDepth 100000
set_option maxHeartbeats 32000000
theorem wrap8 (x : Int) : IntKind.u8.wrap x = x % 256 := by simp [IntKind.wrap, IntKind.bits, IntKind.signed]
theorem shrK {x : Int} {k : IntKind} (m : Nat) (h : m ≤ k.bits) : x.fdiv (2 ^ (min ((m : Int)).toNat k.bits)) = x / 2 ^ m := by
  rw [Int.toNat_natCast, Nat.min_eq_left h, Int.fdiv_eq_ediv_of_nonneg _ (Int.le_of_lt (Int.pow_pos (by decide)))]
def four (x : Int) : List Int := [x % 256, x / 256 % 256, x / 65536 % 256, x / 16777216 % 256]
def ctFour : Ct := fun ws K => match ws with
  | [.c (.ci .u32 x)] => ∀ s, s = strOfNums (four x) → K (.w (.c (.cs s)))
  | _ => False
theorem four_walk (x : Int) : walk F0 0 Tryz.f22 [u32 x] [] fun y _ => y = .w (.c (.cs (strOfNums (four x)))) := by
  conv => whnf
  refine ask_is (wrap8 x) ?_
  conv => whnf
  refine ⟨by decide, ask_is (shrK 8 (by decide)) ?_⟩
  conv => whnf
  refine ask_is (wrap8 _) ?_
  conv => whnf
  refine ⟨by decide, ask_is (shrK 16 (by decide)) ?_⟩
  conv => whnf
  refine ask_is (wrap8 _) ?_
  conv => whnf
  refine ⟨by decide, ask_is (shrK 24 (by decide)) ?_⟩
  conv => whnf
  refine ask_is (wrap8 _) ?_
  conv => whnf
  refine And.intro rfl ?_
  conv => whnf
  refine And.intro (by decide) ?_
  conv => whnf
  refine And.intro (by decide) ?_
  conv => whnf
  rfl
theorem four_ct : CtOk Tryz.prog 22 ctFour := by
  intro ws K h' hr
  unfold ctFour at h'
  split at h'
  · rename_i x
    exact ⟨_, h' _ rfl, ⟨by show (strOfNums (four x)).size ≤ _; rw [strOfNums_size]; exact (by decide : 4 ≤ 9223372036854775807), rfl⟩, walk_calls F0_ok Tryz.func22 (n := 0) rfl hr rfl (four_walk x)⟩
  · exact h'.elim
end Q
namespace Q
set_option maxRecDepth 100000
set_option maxHeartbeats 32000000
theorem mulN_u (n : Nat) : mulN n 1 = n := (mulN_eq n 1).trans (Nat.mul_one n)
def turnF (r : Int) : Int := if bitsI .and .u32 r 1 = 1 then bitsI .xor .u32 (r.fdiv (2 ^ (min ((1 : Int)).toNat IntKind.u32.bits))) 2197175160 else r.fdiv (2 ^ (min ((1 : Int)).toNat IntKind.u32.bits))
@[irreducible] noncomputable def turnS : Int → Int := sealed turnF
theorem turnS_def : turnS = turnF := by unfold turnS; rw [sealed_eq]
theorem bits_in (op : BinOp) (k : IntKind) (x y : Int) : InK k (bitsI op k x y) := by
  unfold bitsI
  split <;> exact inK_wrap _ _
theorem turn_in {r : Int} (h : InK .u32 r) : InK .u32 (turnF r) := by
  unfold turnF
  split
  · exact bits_in _ _ _ _
  · obtain ⟨h1, h2⟩ := h
    simp only [InK, lowK, highK] at h1 h2 ⊢
    show 0 ≤ r.fdiv 2 ∧ r.fdiv 2 ≤ 4294967295
    rw [Int.fdiv_eq_ediv_of_nonneg _ (by decide)]
    omega
def ctTurn : Ct := fun ws K => match ws with
  | [.c (.ci .u32 r)] => ∀ y, y = turnS r → InK .u32 y → K (.w (.c (.ci .u32 y)))
  | _ => False
theorem turn_walk (r : Int) : walk F0 0 Tryz.f128 [u32 r] [] fun y _ => y = .w (.c (.ci .u32 (turnF r))) := by
  repeat' ((conv => whnf); first | fail)
  conv => whnf
  intro a ha
  conv => whnf
  unfold turnF
  rw [← ha]
  refine ask_split (fun h => ?_) (fun h => ?_)
  · rw [if_pos h]
    repeat' ((conv => whnf); first | (refine And.intro (by decide) fun b hb => ?_) | fail)
    conv => whnf
    intro c hc
    rw [hc, hb]
    repeat' ((conv => whnf); first | fail)
    rfl
  · rw [if_neg h]
    repeat' ((conv => whnf); first | (refine And.intro (by decide) fun b hb => ?_) | fail)
    rw [hb]
    repeat' ((conv => whnf); first | fail)
    rfl
theorem turn_ct : CtOk Tryz.prog 128 ctTurn := by
  intro ws K h' hr
  unfold ctTurn at h'
  split at h'
  · rename_i r
    have hi := turn_in hr.1
    exact ⟨_, h' _ (by rw [turnS_def]) hi, ⟨hi, rfl⟩, walk_calls F0_ok Tryz.func128 (n := 0) rfl hr rfl (turn_walk r)⟩
  · exact h'.elim
def turnN (f : Int → Int) (x : Int) : Nat → Int
  | 0 => x
  | n + 1 => f (turnN f x n)
noncomputable def tabL : Nat → List Int
  | 0 => List.replicate 256 0
  | i + 1 => (tabL i).set i (turnN turnS i 8)
theorem tabL_len : ∀ i, (tabL i).length = 256
  | 0 => rfl
  | i + 1 => by show ((tabL i).set i _).length = 256; rw [List.length_set]; exact tabL_len i
theorem tabL_at {k : Nat} : ∀ {i : Nat}, i ≤ 256 → k < i → (tabL i).getD k 0 = turnN turnS k 8
  | 0, _, h => absurd h (Nat.not_lt_zero k)
  | i + 1, hi, h => by
    show ((tabL i).set i _).getD k 0 = _
    rw [List.getD_eq_getElem?_getD, List.getElem?_set]
    split
    · rename_i e
      subst e
      rw [if_pos (by rw [tabL_len]; omega)]; rfl
    · rw [← List.getD_eq_getElem?_getD]
      exact tabL_at (by omega) (by omega)
abbrev tB (xs : List Int) : Blk := .own 207 [.ints .u32 256 xs]
noncomputable def FTu : Fns := F0.plus 128 ctTurn
theorem FTu_ok : FnsOk Tryz.prog FTu := F0_ok.plus turn_ct Tryz.func128 (by kernel_rfl) (by kernel_rfl)
def madeP (x : V) (N : List Blk) : Prop := x = .w (.c (.cp 0 0)) ∧ N = [tB (tabL 256)]
theorem made_walk : walk FTu 0 Tryz.f79 [] [] (Made madeP) := by
  repeat' ((conv => whnf); first | fail)
  conv => whnf
  refine loop_at (List.range' 3 19) (fun m (i : Nat) => i ≤ 256 ∧ m = 256 - i) (fun i => [(4, vi i)]) (fun i => [tB (tabL i)]) 256 (0 : Nat) ⟨by omega, rfl⟩ ?_ ?_
  · exact ⟨rfl, ⟨⟨Nat.le_of_ble_eq_true rfl, rfl⟩, trivial⟩, ⟨rfl, trivial⟩, rfl, rfl, Nat.zero_le _⟩
  · rintro m i ⟨i1, rfl⟩
    have em : mulN (i : Int).toNat (Tryz.prog.types[31]).size = i := (mulN_u _).trans (Int.toNat_natCast i)
    have hll := tabL_len i
    rcases Nat.lt_or_ge i 256 with g | g
    · repeat' ((conv => whnf); first | (refine ask_true (by omega) ?_) | (refine And.intro (And.intro (by omega) (by omega)) ?_) | (refine ask_is (wrap_of_in (k := .u32) (n := (i : Int)) ⟨by simp only [lowK]; omega, by simp only [highK]; omega⟩) ?_) | (refine And.intro (show mulN (i : Int).toNat (Tryz.prog.types[31]).size < 256 by omega) ?_) | fail)
      conv => whnf
      rw [em]
      refine loop_at (List.range' 11 10) (fun m (n : Nat) => n ≤ 8 ∧ m = 8 - n) (fun n => [(11, vi n)]) (fun n => [tB ((tabL i).set i (turnN turnS i n))]) 8 (0 : Nat) ⟨by omega, rfl⟩ ?_ ?_
      · exact ⟨rfl, ⟨⟨Nat.le_of_ble_eq_true rfl, rfl⟩, trivial⟩, ⟨rfl, trivial⟩, rfl, rfl, Nat.zero_le _⟩
      · rintro m n ⟨n1, rfl⟩
        have ei : ((tabL i).set i (turnN turnS i n)).getD i 0 = turnN turnS i n := by
          rw [List.getD_eq_getElem?_getD, List.getElem?_set_self (by omega)]; rfl
        rcases Nat.lt_or_ge n 8 with gn | gn
        · repeat' ((conv => whnf); first | (refine ask_true (by omega) ?_) | (refine And.intro (And.intro (by omega) (by omega)) ?_) | (refine And.intro (show mulN (i : Int).toNat (Tryz.prog.types[31]).size < 256 by omega) ?_) | (refine fun (_ : InK _ _) => ?_) | (refine fun y hy hyi => ?_) | (refine ask_wrap64 (by omega) (by omega) ?_) | fail)
          conv => whnf
          rw [em, ei] at hy
          refine ⟨8 - (n + 1), n + 1, by omega, ⟨by omega, rfl⟩, ⟨rfl, ⟨⟨Nat.le_of_ble_eq_true rfl, rfl⟩, trivial⟩, ⟨?_, trivial⟩, rfl, rfl, Nat.zero_le _⟩⟩
          show tB ((tabL i).set i (turnN turnS i (n + 1))) = _
          rw [em, List.set_set, hy]; rfl
        · obtain rfl : n = 8 := by omega
          repeat' ((conv => whnf); first | (refine ask_false (by omega) ?_) | (refine ask_wrap64 (by omega) (by omega) ?_) | fail)
          exact ⟨256 - (i + 1), i + 1, by omega, ⟨by omega, rfl⟩, ⟨rfl, ⟨⟨Nat.le_of_ble_eq_true rfl, rfl⟩, trivial⟩, ⟨rfl, trivial⟩, rfl, rfl, Nat.zero_le _⟩⟩
    · obtain rfl : i = 256 := by omega
      repeat' ((conv => whnf); first | (refine ask_false (by omega) ?_) | fail)
      conv => whnf
      exact made_of (.w (.c (.cp 0 0))) [tB (tabL 256)] id ⟨rfl, rfl⟩ rfl ⟨rfl, trivial⟩ (fun a b _ _ h => h) rfl rfl (by intro e; cases e)
def hMade : HCt := fun ws H K => match ws with
  | [] => lenH H 0 fun j => pushH H (tB (tabL 256)) fun H' => K (.w (.c (.cp j 0))) H'
  | _ => False
theorem made_ct : HCtOk Tryz.prog 79 hMade := by
  intro ws H K h hr hb ho G σ base w₀ w hw
  unfold hMade at h
  split at h
  · refine walk_lift FTu_ok Tryz.func79 (n := 0) (ws := []) (R := []) (P0 := madeP) ⟨fun b hb => (by cases hb), fun b hb => (by cases hb)⟩ trivial rfl made_walk (fun x N hP b hb => ?_) id (fun j b hj => by simp at hj) rfl (fun x N hP => ?_) ho G σ base w₀ w hw
    · rw [hP.2] at hb
      rw [List.mem_singleton.1 hb]; exact .inl rfl
    · obtain ⟨rfl, rfl⟩ := hP
      rw [lenH_iff, pushH_iff, Nat.zero_add] at h
      simpa [V.ren, renW, W.ren, C.ren, sh, Blk.ren, rens, Seg.ren] using h
  · exact h.elim
noncomputable def sumN (f : Int → Int) (x : Int) (s : List Int) : Nat → Int
  | 0 => bitsI .xor .u32 x 4294967295
  | n + 1 => bitsI .xor .u32 ((sumN f x s n).fdiv (2 ^ (min ((8 : Int)).toNat IntKind.u32.bits))) (turnN f (bitsI .xor .u8 (IntKind.u8.wrap (sumN f x s n)) (s.getD n 0)) 8)
noncomputable def FMo : Fns := F0.over 79 hMade
theorem FMo_ok : FnsOk Tryz.prog FMo := F0_ok.over made_ct Tryz.func79 (by kernel_rfl) (by kernel_rfl)
theorem get_bytesI {s : ByteArray} {i : Nat} (h : i < s.size) : (((s.get! i).toNat : Nat) : Int) = (bytesI s).getD i 0 := by
  have hl : i < (bytesI s).length := by rw [bytesI_len]; exact h
  rw [List.getD_eq_getElem?_getD, List.getElem?_eq_getElem hl]
  cases s with
  | mk d =>
    have hd : i < d.size := h
    simp only [bytesI, List.getElem_map, Option.getD_some, Array.getElem_toList]
    congr 1
    show (d[i]!).toNat = _
    rw [getElem!_pos d i hd]
theorem more_walk (x : Int) (s : ByteArray) (hs : s.size ≤ 9223372036854775807) : walk FMo 0 Tryz.f42 [u32 x, .c (.cs s)] [] fun y _ => y = .w (.c (.ci .u32 (bitsI .xor .u32 (sumN turnS x (bytesI s) s.size) 4294967295))) := by
  repeat' ((conv => whnf); first | (refine ask_is (show _ = sumN turnS x (bytesI s) 0 from rfl) ?_) | fail)
  conv => whnf
  refine loop_at (6 :: 7 :: List.range' 13 17) (fun m (i : Nat) => i ≤ s.size ∧ m = s.size - i) (fun i => [(6, .w (u32 (sumN turnS x (bytesI s) i))), (13, vi i)]) (fun i => [tB (tabL 256)]) s.size (0 : Nat) ⟨by omega, rfl⟩ ?_ ?_
  · exact ⟨rfl, ⟨⟨Nat.le_of_ble_eq_true rfl, rfl⟩, ⟨Nat.le_of_ble_eq_true rfl, rfl⟩, trivial⟩, ⟨rfl, trivial⟩, rfl, rfl, Nat.zero_le _⟩
  · rintro m i ⟨i1, rfl⟩
    rcases Nat.lt_or_ge i s.size with g | g
    · repeat' ((conv => whnf); first | (refine ask_true (by omega) ?_) | (refine And.intro (And.intro (by omega) (by omega)) ?_) | (refine ⟨by kernel_rfl, ?_⟩) | (refine And.intro (by decide) fun b hb => ?_) | fail)
      conv => whnf
      refine fun r1 hr1 => ?_
      repeat' ((conv => whnf); first | (refine And.intro (And.intro (by omega) (by omega)) ?_) | fail)
      conv => whnf
      refine fun c hc => ?_
      conv => whnf
      refine fun r2 hr2 => ?_
      have b2 := bits_in .xor .u8 r1 c
      rw [← hr2] at b2
      obtain ⟨b3, b4⟩ := b2
      simp only [lowK, highK] at b3 b4
      have em : mulN r2.toNat (Tryz.prog.types[31]).size = r2.toNat := mulN_u _
      have ht := tabL_at (k := r2.toNat) (i := 256) (Nat.le_refl _) (by omega)
      rw [Int.toNat_of_nonneg b3] at ht
      have hg := get_bytesI (s := s) (i := i) (by omega)
      repeat' ((conv => whnf); first | (refine And.intro (And.intro (by omega) (by omega)) ?_) | (refine And.intro (show mulN r2.toNat (Tryz.prog.types[31]).size < 256 by omega) ?_) | (refine fun (_ : InK _ _) => ?_) | fail)
      conv => whnf
      refine fun r3 hr3 => ?_
      rw [em, ht] at hr3
      rw [Int.toNat_natCast, hg] at hc
      have er : r3 = sumN turnS x (bytesI s) (i + 1) := by rw [hr3, hr2, hr1, hc, hb]; rfl
      repeat' ((conv => whnf); first | (refine ⟨by kernel_rfl, ?_⟩) | (refine ask_wrap64 (by omega) (by omega) ?_) | fail)
      refine ⟨s.size - (i + 1), i + 1, by omega, ⟨by omega, rfl⟩, ⟨rfl, ⟨⟨Nat.le_of_ble_eq_true rfl, ?_⟩, ⟨Nat.le_of_ble_eq_true rfl, rfl⟩, trivial⟩, ⟨rfl, trivial⟩, rfl, rfl, Nat.zero_le _⟩⟩
      show V.w (u32 r3) = V.w (u32 (sumN turnS x (bytesI s) (i + 1)))
      rw [er]
    · obtain rfl : i = s.size := by omega
      repeat' ((conv => whnf); first | (refine ask_false (by omega) ?_) | (refine ask_is rfl ?_) | fail)
      rfl
noncomputable def sumS (s : ByteArray) : Int := bitsI .xor .u32 (sumN turnS 0 (bytesI s) s.size) 4294967295
def ctMore : Ct := fun ws K => match ws with
  | [.c (.ci .u32 x), .c (.cs s)] => ∀ y, y = bitsI .xor .u32 (sumN turnS x (bytesI s) s.size) 4294967295 → K (.w (.c (.ci .u32 y)))
  | _ => False
theorem more_ct : CtOk Tryz.prog 42 ctMore := by
  intro ws K h' hr
  unfold ctMore at h'
  split at h'
  · rename_i x s
    exact ⟨_, h' _ rfl, ⟨bits_in _ _ _ _, rfl⟩, walk_calls FMo_ok Tryz.func42 (n := 0) rfl hr rfl (more_walk x s hr.2.1)⟩
  · exact h'.elim
def ctSum : Ct := fun ws K => match ws with
  | [.c (.cs s)] => ∀ y, y = sumS s → K (.w (.c (.ci .u32 y)))
  | _ => False
noncomputable def FSu : Fns := F0.plus 42 ctMore
theorem FSu_ok : FnsOk Tryz.prog FSu := F0_ok.plus more_ct Tryz.func42 (by kernel_rfl) (by kernel_rfl)
theorem sum_ct : CtOk Tryz.prog 21 ctSum := by
  intro ws K h' hr
  unfold ctSum at h'
  split at h'
  · rename_i s
    refine ⟨_, h' _ rfl, ⟨bits_in _ _ _ _, rfl⟩, walk_calls FSu_ok Tryz.func21 (n := 0) rfl hr rfl ?_⟩
    repeat' ((conv => whnf); first | (refine ask_is (show _ = sumS s from rfl) ?_) | fail)
    rfl
  · exact h'.elim
abbrev nine : ByteArray := ⟨#[49, 50, 51, 52, 53, 54, 55, 56, 57]⟩
theorem sum_nine : sumS nine = 3808858755 := by
  unfold sumS
  rw [turnS_def]
  kernel_rfl
noncomputable def FGo : Fns := (F0.plus 21 ctSum).plus 22 ctFour
theorem FGo_ok : FnsOk Tryz.prog FGo := (F0_ok.plus sum_ct Tryz.func21 (by kernel_rfl) (by kernel_rfl)).plus four_ct Tryz.func22 (by kernel_rfl) (by kernel_rfl)
theorem goes_ct : CtOk Tryz.prog 5 (ct0 (vb true)) := ct0_ok (n := 0) FGo_ok Tryz.func5 ⟨trivial, rfl⟩ (by
  repeat' ((conv => whnf); first | (refine ask_is sum_nine ?_) | (refine ask_true (by decide) ?_) | (refine ask_true rfl ?_) | (refine ask_is rfl ?_) | fail)
  rfl)
end Q
namespace W2
set_option maxRecDepth 100000
set_option maxHeartbeats 32000000
end W2
namespace W2
set_option maxRecDepth 100000
set_option maxHeartbeats 32000000
theorem flds_state : FldsOk Tryz.prog .i64 (Tryz.prog.fieldsOf 51).toList 0 38 := by
  have e : (Tryz.prog.fieldsOf 51).toList = (Tryz.prog.fieldsOf 51).toList := rfl
  conv => whnf
  refine ⟨16, by kernel_rfl, fld_arr (e := 3) (by decide) (by kernel_rfl) rfl (by kernel_rfl) (by kernel_rfl) (by kernel_rfl) rfl (by kernel_rfl) (by kernel_rfl), ?_⟩
  conv => whnf
  refine ⟨1, by kernel_rfl, fld_int (by decide) (by kernel_rfl) (by kernel_rfl), ?_⟩
  conv => whnf
  refine ⟨4, by kernel_rfl, fld_arr (e := 3) (by decide) (by kernel_rfl) rfl (by kernel_rfl) (by kernel_rfl) (by kernel_rfl) rfl (by kernel_rfl) (by kernel_rfl), ?_⟩
  conv => whnf
  refine ⟨16, by kernel_rfl, fld_arr (e := 3) (by decide) (by kernel_rfl) rfl (by kernel_rfl) (by kernel_rfl) (by kernel_rfl) rfl (by kernel_rfl) (by kernel_rfl), ?_⟩
  conv => whnf
  refine ⟨1, by kernel_rfl, fld_int (by decide) (by kernel_rfl) (by kernel_rfl), ?_⟩
  exact (rfl : (38 : Nat) = 38)
end W2
namespace R
set_option maxRecDepth 100000
set_option maxHeartbeats 16000000
def E5 : Env := ⟨D.G1, fun t => match Nat.beq t 51 with
  | true => some (List.replicate 38 (.i .i64))
  | false => D.E1.EQ t, fun _ => false, noX⟩
theorem E5_ok : EnvOk Tryz.prog E5 := by
  refine ⟨D.E1_ok.glo, fun t ks h => ?_, noX_ok _ _⟩
  simp only [E5] at h
  split at h
  · rename_i hb
    obtain rfl := Nat.eq_of_beq_eq_true hb
    cases h
    exact eqok_struct (by kernel_rfl) (by kernel_rfl) W2.flds_state (by kernel_rfl)
  · exact D.E1_ok.eq t ks h
theorem red_up {P : Program} {E : Env} {cal : Cal} {ops : Array Oper} {lo : Nat} {fr : List V} {H : List Blk} {K : List V → List Blk → Prop} {α : Type} (ds : List Nat) (J : α → Prop) (sel : α → List (Nat × V)) (Hs : α → List Blk) (hssa : ssaB ops = true)
    (hbs : ∀ s, J s → bndF (Hs s).length (setL (sel s) (hav ds 0 fr)) = true)
    (rest : ∀ s, J s → havK ds 0 fr fun f₁ => setLK (sel s) f₁ fun f₂ => K f₂ (Hs s))
    (walk : xred P E cal ops.toList ops.size [] fr H fun fr' H' => ∃ s, J s ∧ NextU ds lo fr (sel s) (Hs s) fr' H') : XRed P E cal ops lo fr H K := by
  unfold XRed
  refine ⟨hssa, fun frc Hc => ∃ s, J s ∧ frc = setL (sel s) (hav ds 0 fr) ∧ Hc = Hs s, _, ?_, ?_, walk⟩
  · rintro frc Hc ⟨s, hs, rfl, rfl⟩
    have := rest s hs
    rw [havK_iff, setLK_iff] at this
    exact this
  · rintro fr' H' ⟨s, h1, st⟩
    exact ⟨_, _, id, fun _ _ _ => Seen.of_wk (wkF_len (wkF_sel st.same _ st.hold)) (wkF_sel st.same _ st.hold) st.heap (hbs s h1) st.bh st.lo, s, h1, rfl, rfl⟩
theorem set_low (H : List Blk) (a b x : Blk) : (H ++ [a] ++ [b]).set H.length x = H ++ [x] ++ [b] := by
  rw [List.set_append_left _ _ (by simp), set_top]
theorem len_one (H : List Blk) (a x : Blk) : (H ++ [a]).length = (H ++ [x]).length := by simp
theorem up_top' (H : List Blk) (a x b : Blk) : (H ++ [x] ++ [b])[(H ++ [a]).length]? = some b := by rw [len_one H a x]; exact up_top _ _
theorem set_top' (H : List Blk) (a x b y : Blk) : (H ++ [x] ++ [b]).set (H ++ [a]).length y = H ++ [x] ++ [y] := by rw [len_one H a x]; exact set_top _ _ _
theorem ask_neq {xs ys : List Int} {K : Bool → Prop} (h : xs = ys) (hk : K false) : ∀ τ, τ = (true ^^ (decide (xs = ys) && true)) → K τ := by
  rintro τ rfl; rw [decide_eq_true h]; exact hk
theorem st0_ok : StR B.st0 := ⟨⟨zero_ok.st.m, zero_ok.st.l, zero_ok.st.v, zero_ok.st.w, zero_ok.st.q⟩, right_st0⟩
end R
end Go.Proofs.YtaficaacogcblaaGreatDoor
set_option linter.all false
namespace Go.Proofs.YtaficaacogcblaaGreatDoor
namespace B
open Go.RowKit (Below)
set_option maxRecDepth 100000
set_option maxHeartbeats 32000000
set_option maxRecDepth 100000
set_option maxHeartbeats 4000000
theorem wrap8 (x : Int) : IntKind.u8.wrap x = x % 256 := by simp [IntKind.wrap, IntKind.bits, IntKind.signed]
theorem shrK {x : Int} {k : IntKind} (m : Nat) (h : m ≤ k.bits) : x.fdiv (2 ^ (min ((m : Int)).toNat k.bits)) = x / 2 ^ m := by
  rw [Int.toNat_natCast, Nat.min_eq_left h, Int.fdiv_eq_ediv_of_nonneg _ (Int.le_of_lt (Int.pow_pos (by decide)))]
def four (x : Int) : List Int := [x % 256, x / 256 % 256, x / 65536 % 256, x / 16777216 % 256]
def ctFour : Ct := fun ws K => match ws with
  | [.c (.ci .u32 x)] => ∀ s, s = strOfNums (four x) → K (.w (.c (.cs s)))
  | _ => False
theorem four_walk (x : Int) : walk F0 0 Tryz.f22 [u32 x] [] fun y _ => y = .w (.c (.cs (strOfNums (four x)))) := by
  conv => whnf
  refine ask_is (wrap8 x) ?_
  conv => whnf
  refine ⟨by decide, ask_is (shrK 8 (by decide)) ?_⟩
  conv => whnf
  refine ask_is (wrap8 _) ?_
  conv => whnf
  refine ⟨by decide, ask_is (shrK 16 (by decide)) ?_⟩
  conv => whnf
  refine ask_is (wrap8 _) ?_
  conv => whnf
  refine ⟨by decide, ask_is (shrK 24 (by decide)) ?_⟩
  conv => whnf
  refine ask_is (wrap8 _) ?_
  conv => whnf
  refine And.intro rfl ?_
  conv => whnf
  refine And.intro (by decide) ?_
  conv => whnf
  refine And.intro (by decide) ?_
  conv => whnf
  rfl
theorem four_ct : CtOk Tryz.prog 22 ctFour := by
  intro ws K h' hr
  unfold ctFour at h'
  split at h'
  · rename_i x
    exact ⟨_, h' _ rfl, ⟨by show (strOfNums (four x)).size ≤ _; rw [strOfNums_size]; exact (by decide : 4 ≤ 9223372036854775807), rfl⟩, walk_calls F0_ok Tryz.func22 (n := 0) rfl hr rfl (four_walk x)⟩
  · exact h'.elim
theorem get_bytesI {s : ByteArray} {i : Nat} (h : i < s.size) : (((s.get! i).toNat : Nat) : Int) = (bytesI s).getD i 0 := by
  have hl : i < (bytesI s).length := by rw [bytesI_len]; exact h
  rw [List.getD_eq_getElem?_getD, List.getElem?_eq_getElem hl]
  cases s with
  | mk d =>
    have hd : i < d.size := h
    simp only [bytesI, List.getElem_map, Option.getD_some, Array.getElem_toList]
    congr 1
    show (d[i]!).toNat = _
    rw [getElem!_pos d i hd]
theorem bytesI_ext (s : ByteArray) (l u : Nat) : bytesI (s.extract l u) = ((bytesI s).take u).drop l := by
  simp only [bytesI, ByteArray.data_extract, Array.toList_extract, List.map_take, List.map_drop]
  rw [List.drop_take]
theorem str_drop (xs : List Int) (h : ∀ x ∈ xs, InK .u8 x) (l : Nat) : (strOfNums xs).extract l (strOfNums xs).size = strOfNums (xs.drop l) := by
  rw [← str_bytesI ((strOfNums xs).extract l _), bytesI_ext, bytesI_str h, strOfNums_size, List.take_length]
def le4 (xs : List Int) : Int := xs.getD 0 0 + 256 * xs.getD 1 0 + 65536 * xs.getD 2 0 + 16777216 * xs.getD 3 0
theorem u8_at {xs : List Int} (h : ∀ x ∈ xs, InK .u8 x) (i : Nat) : 0 ≤ xs.getD i 0 ∧ xs.getD i 0 ≤ 255 := by
  rw [List.getD_eq_getElem?_getD]
  rcases Nat.lt_or_ge i xs.length with hi | hi
  · rw [List.getElem?_eq_getElem hi]
    exact h _ (List.getElem_mem hi)
  · rw [List.getElem?_eq_none hi]; decide
theorem le4_in {xs : List Int} (h : ∀ x ∈ xs, InK .u8 x) : 0 ≤ le4 xs ∧ le4 xs ≤ 4294967295 := by
  have h0 := u8_at h 0
  have h1 := u8_at h 1
  have h2 := u8_at h 2
  have h3 := u8_at h 3
  unfold le4; omega
theorem or_add {a b : Int} {k : Nat} (hk : k ≤ 24) (ha : 0 ≤ a ∧ a < 2 ^ k) (hb : 0 ≤ b ∧ b ≤ 255) : bitsI .or .u32 a (b * 2 ^ k) = a + b * 2 ^ k := by
  obtain ⟨x, rfl⟩ : ∃ x : Nat, a = x := ⟨a.toNat, by omega⟩
  obtain ⟨y, rfl⟩ : ∃ y : Nat, b = y := ⟨b.toNat, by omega⟩
  have hp : 2 ^ k ≤ 2 ^ 24 := Nat.pow_le_pow_right (by decide) hk
  have e1 : ((2 : Int) ^ k) = ((2 ^ k : Nat) : Int) := by simp
  have hx : x < 2 ^ k := by have := ha.2; rw [e1] at this; omega
  have hy : y * 2 ^ k ≤ 255 * 2 ^ k := Nat.mul_le_mul_right _ (by omega)
  have e2 : ((y : Int) * 2 ^ k) = ((y * 2 ^ k : Nat) : Int) := by simp
  have o1 : (BitVec.ofInt 32 (x : Int)).toNat = x := by
    rw [BitVec.ofInt_natCast, BitVec.toNat_ofNat]; omega
  have o2 : (BitVec.ofInt 32 ((y : Int) * 2 ^ k)).toNat = y * 2 ^ k := by
    rw [e2, BitVec.ofInt_natCast, BitVec.toNat_ofNat]; omega
  have o3 : x ||| y * 2 ^ k = x + y * 2 ^ k := by
    rw [Nat.or_comm, Nat.mul_comm, ← Nat.two_pow_add_eq_or_of_lt hx]; omega
  show IntKind.u32.wrap (((BitVec.ofInt 32 (x : Int) ||| BitVec.ofInt 32 ((y : Int) * 2 ^ k)).toNat : Nat) : Int) = _
  rw [BitVec.toNat_or, o1, o2, o3, e2, wrap_of_in]
  · omega
  · simp only [InK, lowK, highK]; omega
def ctNum : Ct := fun ws K => match ws with
  | [.c (.cs s)] => 4 ≤ s.size ∧ ∀ v, v = le4 (bytesI s) → 0 ≤ v → v ≤ 4294967295 → K (.w (.c (.ci .u32 v)))
  | _ => False
theorem shlu32 {x : Int} (m : Nat) (h : m ≤ 24) (h0 : 0 ≤ x) (h1 : x ≤ 255) : IntKind.u32.wrap (x * 2 ^ (min ((m : Int)).toNat IntKind.u32.bits)) = x * 2 ^ m := by
  rw [Int.toNat_natCast, Nat.min_eq_left (by simp only [IntKind.bits]; omega)]
  have hp : 2 ^ m ≤ 2 ^ 24 := Nat.pow_le_pow_right (by decide) h
  have e1 : ((2 : Int) ^ m) = ((2 ^ m : Nat) : Int) := by simp
  obtain ⟨y, rfl⟩ : ∃ y : Nat, x = y := ⟨x.toNat, by omega⟩
  have hy : y * 2 ^ m ≤ 255 * 2 ^ m := Nat.mul_le_mul_right _ (by omega)
  have e2 : ((y : Int) * 2 ^ m) = ((y * 2 ^ m : Nat) : Int) := by simp
  rw [wrap_of_in]
  rw [e2]; simp only [InK, lowK, highK]; omega
def leN (xs : List Int) : Nat → Int
  | 0 => 0
  | n + 1 => leN xs n + xs.getD n 0 * 2 ^ (8 * n)
theorem leN_in {xs : List Int} (h : ∀ x ∈ xs, InK .u8 x) : ∀ n, 0 ≤ leN xs n ∧ leN xs n < 2 ^ (8 * n)
  | 0 => by show (0 : Int) ≤ 0 ∧ (0 : Int) < 1; decide
  | n + 1 => by
    have ih := leN_in h n
    have hb := u8_at h n
    have e : (2 : Int) ^ (8 * (n + 1)) = 256 * 2 ^ (8 * n) := by rw [show 8 * (n + 1) = 8 * n + 8 by omega, Int.pow_add, Int.mul_comm]; rfl
    have hp : (0 : Int) < 2 ^ (8 * n) := Int.pow_pos (by decide)
    have h1 : 0 ≤ xs.getD n 0 * 2 ^ (8 * n) := Int.mul_nonneg hb.1 (Int.le_of_lt hp)
    have h2 : xs.getD n 0 * 2 ^ (8 * n) ≤ 255 * 2 ^ (8 * n) := Int.mul_le_mul_of_nonneg_right hb.2 (Int.le_of_lt hp)
    show 0 ≤ leN xs n + _ ∧ leN xs n + _ < _
    rw [e]
    generalize xs.getD n 0 * 2 ^ (8 * n) = A at h1 h2 ⊢
    generalize (2 : Int) ^ (8 * n) = B at *
    omega
theorem leN4 (xs : List Int) : leN xs 4 = le4 xs := by
  show 0 + xs.getD 0 0 * 2 ^ 0 + xs.getD 1 0 * 2 ^ 8 + xs.getD 2 0 * 2 ^ 16 + xs.getD 3 0 * 2 ^ 24 = _
  unfold le4; omega
theorem num_walk (s : ByteArray) (h : 4 ≤ s.size) (hs : s.size ≤ 9223372036854775807) : walk F0 0 Tryz.f45 [.c (.cs s)] [] fun y _ => y = .w (.c (.ci .u32 (le4 (bytesI s)))) := by
  have hin := bytesI_in s
  conv => whnf
  refine loop_at (3 :: 4 :: List.range' 8 13) (fun m (i : Int) => 0 ≤ i ∧ i ≤ 4 ∧ m = (4 - i).toNat) (fun i => [(3, .w (u32 (leN (bytesI s) i.toNat))), (8, vi i)]) (fun _ => []) 4 0 ⟨by decide, by decide, rfl⟩ ?_ ?_
  · exact ⟨rfl, ⟨⟨Nat.le_of_ble_eq_true rfl, rfl⟩, ⟨Nat.le_of_ble_eq_true rfl, rfl⟩, trivial⟩, trivial, rfl, rfl, Nat.zero_le _⟩
  · rintro m i ⟨i0, i1, rfl⟩
    rcases Int.lt_or_le i 4 with i2 | i2
    · have hb := u8_at hin i.toNat
      have hg := get_bytesI (s := s) (i := i.toNat) (by omega)
      have hl := leN_in hin i.toNat
      obtain ⟨k, rfl⟩ : ∃ k : Nat, i = k := ⟨i.toNat, by omega⟩
      rw [Int.toNat_natCast] at hb hg hl ⊢
      conv => whnf
      refine ask_true (by omega) ?_
      conv => whnf
      refine And.intro (by omega) ?_
      conv => whnf
      refine ask_is (f := (bytesI s).getD k 0) (by rw [Int.toNat_natCast]; exact hg) ?_
      conv => whnf
      refine ask_is (wrap_of_in (k := .u32) ⟨by simp only [lowK]; omega, by simp only [highK]; omega⟩) ?_
      conv => whnf
      refine ask_wrap64 (by omega) (by omega) ?_
      rw [show (8 : Int) * (k : Int) = ((8 * k : Nat) : Int) by omega]
      conv => whnf
      refine And.intro (by omega) (ask_is (shlu32 (8 * k) (by omega) hb.1 hb.2) ?_)
      conv => whnf
      refine ask_is (or_add (by omega) hl hb) ?_
      conv => whnf
      refine ask_wrap64 (by omega) (by omega) ?_
      conv => whnf
      refine ⟨(4 - ((k : Int) + 1)).toNat, (k : Int) + 1, by omega, ⟨by omega, by omega, rfl⟩, rfl, ⟨⟨Nat.le_of_ble_eq_true rfl, ?_⟩, ⟨Nat.le_of_ble_eq_true rfl, rfl⟩, trivial⟩, trivial, rfl, rfl, Nat.zero_le _⟩
      show V.w (u32 _) = V.w (u32 (leN (bytesI s) ((k : Int) + 1).toNat))
      rw [show ((k : Int) + 1).toNat = k + 1 by omega]
      rfl
    · have hi : i = 4 := by omega
      subst hi
      conv => whnf
      refine ask_false (by omega) ?_
      conv => whnf
      exact congrArg (fun x => V.w (u32 x)) (leN4 (bytesI s))
theorem num_ct : CtOk Tryz.prog 45 ctNum := by
  intro ws K h' hr
  unfold ctNum at h'
  split at h'
  · rename_i s
    have hv := le4_in (bytesI_in s)
    exact ⟨_, h'.2 _ rfl hv.1 hv.2, ⟨by simp only [V.rng, W.rng, C.rng, InK, lowK, highK]; omega, rfl⟩, walk_calls F0_ok Tryz.func45 (n := 0) rfl hr rfl (num_walk s h'.1 hr.1)⟩
  · exact h'.elim
def s32 (v : Int) : Int := if v < 2147483648 then v else v - 4294967296
theorem s32_in {v : Int} (h : 0 ≤ v ∧ v ≤ 4294967295) : -2147483648 ≤ s32 v ∧ s32 v ≤ 2147483647 := by unfold s32; split <;> omega
theorem wrap_s32 {v : Int} (h0 : 0 ≤ v) (h1 : v ≤ 4294967295) : IntKind.i32.wrap v = s32 v := by
  unfold s32
  simp only [IntKind.wrap, IntKind.bits, IntKind.signed]
  simp
  split <;> omega
def nb (bs : List Int) (k : Nat) : Int := s32 (le4 (bs.drop k))
def mS (bs : List Int) : List Int := (List.range 16).map fun i => nb bs (4 * i)
def wS (bs : List Int) : List Int := (List.range 16).map fun i => nb bs (72 + 4 * i)
def vS (bs : List Int) : List Int := (List.range 4).map fun b => bs.getD (68 + b) 0
def rdS (bs : List Int) : St := ⟨mS bs, nb bs 64, vS bs, wS bs, bs.getD 136 0⟩
theorem drop_in {bs : List Int} (h : ∀ x ∈ bs, InK .u8 x) (k : Nat) : ∀ x ∈ bs.drop k, InK .u8 x := fun x hx => h x (List.mem_of_mem_drop hx)
theorem nb_in {bs : List Int} (h : ∀ x ∈ bs, InK .u8 x) (k : Nat) : -2147483648 ≤ nb bs k ∧ nb bs k ≤ 2147483647 := s32_in (le4_in (drop_in h k))
theorem rdS_ok {bs : List Int} (h : ∀ x ∈ bs, InK .u8 x) : StOk (rdS bs) := by
  refine ⟨⟨by simp [rdS, mS], fun x hx => ?_⟩, in_of (nb_in h _), ⟨by simp [rdS, vS], fun x hx => ?_⟩, ⟨by simp [rdS, wS], fun x hx => ?_⟩, in_of (by have := u8_at h 136; show -2147483648 ≤ bs.getD 136 0 ∧ bs.getD 136 0 ≤ 2147483647; omega)⟩
  · obtain ⟨i, _, rfl⟩ := List.mem_map.1 hx
    exact in_of (nb_in h _)
  · obtain ⟨i, _, rfl⟩ := List.mem_map.1 hx
    exact in_of (by have := u8_at h (68 + i); omega)
  · obtain ⟨i, _, rfl⟩ := List.mem_map.1 hx
    exact in_of (nb_in h _)
abbrev rdr (xs : List Int) : Blk := .own 171 [.one (.cs (strOfNums xs))]
theorem rdr_next {bs : List Int} (h : ∀ x ∈ bs, InK .u8 x) {k l m : Nat} (hm : m = k + l) : Blk.own 171 [.one (.cs ((strOfNums (bs.drop k)).extract l (strOfNums (bs.drop k)).size))] = rdr (bs.drop m) := by
  rw [str_drop _ (drop_in h k), List.drop_drop, hm]
theorem sz_drop (bs : List Int) (k : Nat) : (strOfNums (bs.drop k)).size = bs.length - k := by rw [strOfNums_size, List.length_drop]
theorem le_drop {bs : List Int} (h : ∀ x ∈ bs, InK .u8 x) {k : Nat} {v : Int} (hv : v = le4 (bytesI (strOfNums (bs.drop k)))) : s32 v = nb bs k := by
  rw [hv, bytesI_str (drop_in h k)]; rfl
noncomputable def FRd : Fns := (((F0.plus 45 ctNum).plus 39 (ctSt rightP)).into 87 Tryz.f87).into 88 Tryz.f88
theorem FRd_ok : FnsOk Tryz.prog FRd := (((F0_ok.plus num_ct Tryz.func45 (by kernel_rfl) (by kernel_rfl)).plus right_ct Tryz.func39 (by kernel_rfl) (by kernel_rfl)).into Tryz.func87 (by kernel_rfl) (by kernel_rfl)).into Tryz.func88 (by kernel_rfl) (by kernel_rfl)
theorem read_walk (bs : List Int) (hl : bs.length = 137) (hin : ∀ x ∈ bs, InK .u8 x) : walk FRd 1 Tryz.f56 [.c (.cs (strOfNums bs))] [] fun y _ => y = open Classical in if rightP (rdS bs) then .tup [stW (rdS bs), i64 0] else .tup [stW st0, i64 4] := by
  have hz : (strOfNums bs).size = 137 := by rw [strOfNums_size, hl]
  conv => whnf
  refine ask_false (by rw [hz]; decide) ?_
  conv => whnf
  refine loop_at (6 :: List.range' 16 9) (fun m (i : Int) => 0 ≤ i ∧ i ≤ 16 ∧ m = (16 - i).toNat) (fun i => [(16, vi i)]) (fun i => [sb st0, rdr (bs.drop (0 + 4 * i.toNat)), sb ⟨(stg (mS bs) z16 i), 0, z4, z16, 0⟩]) 16 0 ⟨by decide, by decide, rfl⟩ ?_ ?_
  · exact ⟨rfl, ⟨⟨Nat.le_of_ble_eq_true rfl, rfl⟩, trivial⟩, ⟨rfl, rfl, (by (rw [stg_zero]; try rfl)), trivial⟩, rfl, rfl, Nat.zero_le _⟩
  · rintro m i ⟨i0, i1, rfl⟩
    have em : mulN i.toNat (Tryz.prog.types[3]).size = i.toNat := mulN1 i.toNat
    rcases Int.lt_or_le i 16 with i2 | i2
    · conv => whnf
      refine ask_true (by omega) ?_
      conv => whnf
      refine And.intro (by rw [sz_drop, hl]; omega) fun v hv v0 v1 => ?_
      have hn := le_drop hin hv
      have hb := s32_in ⟨v0, v1⟩
      conv => whnf
      refine ask_is (wrap_s32 v0 v1) ?_
      conv => whnf
      refine ask_wrap64 (by omega) (by omega) ?_
      conv => whnf
      refine And.intro ⟨by decide, by rw [sz_drop, hl]; omega⟩ ?_
      repeat' ((conv => whnf); first | (refine And.intro (by omega) ?_) | (refine ask_wrap64 (by omega) (by omega) ?_) | fail)
      conv => whnf
      refine ⟨(16 - (i + 1)).toNat, i + 1, by omega, ⟨by omega, by omega, rfl⟩, rfl, ⟨⟨Nat.le_of_ble_eq_true rfl, rfl⟩, trivial⟩, ⟨rfl, ?_, ?_, trivial⟩, rfl, rfl, Nat.zero_le _⟩
      · exact (rdr_next hin (k := 0 + 4 * i.toNat) (l := 4) (by omega)).symm
      · refine congrArg (fun zs => sb ⟨zs, 0, z4, z16, 0⟩) (stg_set em (by simp [mS, z16]) i0 (by simp [mS, z16]; omega) ?_).symm
        unfold mS; rw [getD_range (by omega)]; rw [Nat.zero_add] at hn; exact hn.symm
    · have hi : i = 16 := by omega
      subst hi
      rw [stg_all (by simp [mS, z16]) (by simp [mS, z16])]
      clear i0 i1 i2 em
      conv => whnf
      refine ask_false (by omega) ?_
      conv => whnf
      refine And.intro (by rw [sz_drop, hl]; omega) fun v hv v0 v1 => ?_
      have hn := le_drop hin hv
      have hb := s32_in ⟨v0, v1⟩
      conv => whnf
      refine ask_is (wrap_s32 v0 v1) ?_
      conv => whnf
      refine ask_wrap64 (by omega) (by omega) ?_
      conv => whnf
      refine And.intro ⟨by decide, by rw [sz_drop, hl]; omega⟩ ?_
      conv => whnf
      refine loop_at (7 :: List.range' 28 9) (fun m (i : Int) => 0 ≤ i ∧ i ≤ 4 ∧ m = (4 - i).toNat) (fun i => [(28, vi i)]) (fun i => [sb st0, rdr (bs.drop (68 + i.toNat)), sb ⟨mS bs, nb bs (0 + 4 * Int.toNat 16), (stg (vS bs) z4 i), z16, 0⟩]) 4 0 ⟨by decide, by decide, rfl⟩ ?_ ?_
      · exact ⟨rfl, ⟨⟨Nat.le_of_ble_eq_true rfl, rfl⟩, trivial⟩, ⟨rfl, (rdr_next hin (k := 0 + 4 * Int.toNat 16) (l := 4) rfl).symm, (by (rw [stg_zero, ← hn]; try rfl)), trivial⟩, rfl, rfl, Nat.zero_le _⟩
      · rintro m i ⟨i0, i1, rfl⟩
        have em : mulN i.toNat (Tryz.prog.types[3]).size = i.toNat := mulN1 i.toNat
        rcases Int.lt_or_le i 4 with i2 | i2
        · conv => whnf
          refine ask_true (by omega) ?_
          conv => whnf
          refine And.intro ⟨by decide, by rw [sz_drop, hl]; omega⟩ ?_
          conv => whnf
          refine ask_is (f := bs.getD (68 + i.toNat) 0) (by
            rw [show Int.toNat 0 = 0 from rfl, get_bytesI (by rw [sz_drop, hl]; omega), bytesI_str (drop_in hin _), List.getD_eq_getElem?_getD, List.getElem?_drop, ← List.getD_eq_getElem?_getD]; rfl) ?_
          have hb := u8_at hin (68 + i.toNat)
          conv => whnf
          refine ask_wrap64 (by omega) (by omega) ?_
          conv => whnf
          refine And.intro ⟨by decide, by rw [sz_drop, hl]; omega⟩ ?_
          repeat' ((conv => whnf); first | (refine And.intro (by omega) ?_) | (refine ask_wrap64 (by omega) (by omega) ?_) | fail)
          conv => whnf
          refine ⟨(4 - (i + 1)).toNat, i + 1, by omega, ⟨by omega, by omega, rfl⟩, rfl, ⟨⟨Nat.le_of_ble_eq_true rfl, rfl⟩, trivial⟩, ⟨rfl, ?_, ?_, trivial⟩, rfl, rfl, Nat.zero_le _⟩
          · exact (rdr_next hin (k := 68 + i.toNat) (l := 1) (by omega)).symm
          · refine congrArg (fun zs => sb ⟨mS bs, nb bs (0 + 4 * Int.toNat 16), zs, z16, 0⟩) (stg_set em (by simp [vS, z4]) i0 (by simp [vS, z4]; omega) ?_).symm
            unfold vS; rw [getD_range (by omega)]
        · have hi : i = 4 := by omega
          subst hi
          rw [stg_all (by simp [vS, z4]) (by simp [vS, z4])]
          clear i0 i1 i2 em
          conv => whnf
          refine ask_false (by omega) ?_
          conv => whnf
          refine loop_at (8 :: List.range' 37 9) (fun m (i : Int) => 0 ≤ i ∧ i ≤ 16 ∧ m = (16 - i).toNat) (fun i => [(37, vi i)]) (fun i => [sb st0, rdr (bs.drop (72 + 4 * i.toNat)), sb ⟨mS bs, nb bs (0 + 4 * Int.toNat 16), vS bs, (stg (wS bs) z16 i), 0⟩]) 16 0 ⟨by decide, by decide, rfl⟩ ?_ ?_
          · exact ⟨rfl, ⟨⟨Nat.le_of_ble_eq_true rfl, rfl⟩, trivial⟩, ⟨rfl, rfl, (by (rw [stg_zero]; try rfl)), trivial⟩, rfl, rfl, Nat.zero_le _⟩
          · rintro m i ⟨i0, i1, rfl⟩
            have em : mulN i.toNat (Tryz.prog.types[3]).size = i.toNat := mulN1 i.toNat
            rcases Int.lt_or_le i 16 with i2 | i2
            · conv => whnf
              refine ask_true (by omega) ?_
              conv => whnf
              refine And.intro (by rw [sz_drop, hl]; omega) fun v hv v0 v1 => ?_
              have hn := le_drop hin hv
              have hb := s32_in ⟨v0, v1⟩
              conv => whnf
              refine ask_is (wrap_s32 v0 v1) ?_
              conv => whnf
              refine ask_wrap64 (by omega) (by omega) ?_
              conv => whnf
              refine And.intro ⟨by decide, by rw [sz_drop, hl]; omega⟩ ?_
              repeat' ((conv => whnf); first | (refine And.intro (by omega) ?_) | (refine ask_wrap64 (by omega) (by omega) ?_) | fail)
              conv => whnf
              refine ⟨(16 - (i + 1)).toNat, i + 1, by omega, ⟨by omega, by omega, rfl⟩, rfl, ⟨⟨Nat.le_of_ble_eq_true rfl, rfl⟩, trivial⟩, ⟨rfl, ?_, ?_, trivial⟩, rfl, rfl, Nat.zero_le _⟩
              · exact (rdr_next hin (k := 72 + 4 * i.toNat) (l := 4) (by omega)).symm
              · refine congrArg (fun zs => sb ⟨mS bs, nb bs (0 + 4 * Int.toNat 16), vS bs, zs, 0⟩) (stg_set em (by simp [wS, z16]) i0 (by simp [wS, z16]; omega) ?_).symm
                unfold wS; rw [getD_range (by omega)]; exact hn.symm
            · have hi : i = 16 := by omega
              subst hi
              rw [stg_all (by simp [wS, z16]) (by simp [wS, z16])]
              clear i0 i1 i2 em
              conv => whnf
              refine ask_false (by omega) ?_
              conv => whnf
              refine And.intro ⟨by decide, by rw [sz_drop, hl]; omega⟩ ?_
              conv => whnf
              refine ask_is (f := bs.getD (72 + 4 * Int.toNat 16) 0) (by
                rw [show Int.toNat 0 = 0 from rfl, get_bytesI (by rw [sz_drop, hl]; omega), bytesI_str (drop_in hin _), List.getD_eq_getElem?_getD, List.getElem?_drop, ← List.getD_eq_getElem?_getD]; rfl) ?_
              have hb := u8_at hin (72 + 4 * Int.toNat 16)
              conv => whnf
              refine ask_wrap64 (by omega) (by omega) ?_
              conv => whnf
              refine And.intro ⟨by decide, by rw [sz_drop, hl]; omega⟩ ?_
              conv => whnf
              refine And.intro ⟨rfl, rfl, rfl⟩ ?_
              rcases Classical.em (rightP (rdS bs)) with hr | hr
              · rw [if_pos hr]
                refine ask_true hr ?_
                repeat' ((conv => whnf); first | (refine ⟨by kernel_rfl, ?_⟩) | rfl | fail)
              · rw [if_neg hr]
                refine ask_false hr ?_
                repeat' ((conv => whnf); first | (refine ⟨by kernel_rfl, ?_⟩) | rfl | fail)
theorem read_no_walk (s : ByteArray) (h : s.size ≠ 137) : walk FRd 1 Tryz.f56 [.c (.cs s)] [] fun y _ => y = .tup [stW st0, i64 10] := by
  conv => whnf
  refine ask_true (by omega) ?_
  repeat' ((conv => whnf); first | (refine ⟨by kernel_rfl, ?_⟩) | rfl | fail)
def ctRead : Ct := fun ws K => match ws with
  | [.c (.cs s)] => (s.size = 137 → rightP (rdS (bytesI s)) → K (.tup [stW (rdS (bytesI s)), i64 0])) ∧ (s.size = 137 → ¬ rightP (rdS (bytesI s)) → K (.tup [stW st0, i64 4])) ∧ (s.size ≠ 137 → K (.tup [stW st0, i64 10]))
  | _ => False
theorem read_ct : CtOk Tryz.prog 56 ctRead := by
  intro ws K h' hr
  unfold ctRead at h'
  split at h'
  · rename_i s
    obtain ⟨h1, h2, h3⟩ := h'
    have small : ∀ n : Int, 0 ≤ n → n ≤ 10 → InK .i64 n := fun n _ _ => by simp only [InK, lowK, highK]; omega
    have hin := bytesI_in s
    rcases Classical.em (s.size = 137) with hs | hs
    · have hw := read_walk (bytesI s) (by rw [bytesI_len]; exact hs) hin
      rw [str_bytesI] at hw
      rcases Classical.em (rightP (rdS (bytesI s))) with hp | hp
      · rw [if_pos hp] at hw
        exact ⟨_, h1 hs hp, ⟨⟨(rdS_ok hin).rng, small 0 (by decide) (by decide), trivial⟩, rfl⟩, walk_calls FRd_ok Tryz.func56 rfl hr rfl hw⟩
      · rw [if_neg hp] at hw
        exact ⟨_, h2 hs hp, ⟨⟨st0_ok.rng, small 4 (by decide) (by decide), trivial⟩, rfl⟩, walk_calls FRd_ok Tryz.func56 rfl hr rfl hw⟩
    · exact ⟨_, h3 hs, ⟨⟨st0_ok.rng, small 10 (by decide) (by decide), trivial⟩, rfl⟩, walk_calls FRd_ok Tryz.func56 rfl hr rfl (read_no_walk s hs)⟩
  · exact h'.elim
abbrev enW (k t : Int) (d : ByteArray) : W := .agg [.one (.ci .i64 k), .one (.ci .u32 t), .one (.cs d)]
abbrev noS : ByteArray := ⟨#[]⟩
@[irreducible] def rightE (k : Int) (d : ByteArray) : Prop := (k = 1 ∧ 10 ≤ d.size ∧ d.size ≤ 32) ∨ (k = 2 ∧ d = noS) ∨ (k = 3 ∧ d.size = 137 ∧ rightP (rdS (bytesI d)))
theorem rightE_def (k : Int) (d : ByteArray) : rightE k d ↔ (k = 1 ∧ 10 ≤ d.size ∧ d.size ≤ 32) ∨ (k = 2 ∧ d = noS) ∨ (k = 3 ∧ d.size = 137 ∧ rightP (rdS (bytesI d))) := by unfold rightE; exact Iff.rfl
noncomputable instance (k : Int) (d : ByteArray) : Decidable (rightE k d) := Classical.propDecidable _
theorem rightE1 (d : ByteArray) : rightE 1 d ↔ 10 ≤ d.size ∧ d.size ≤ 32 := by
  rw [rightE_def]
  constructor
  · rintro (h | h | h)
    · exact h.2
    · exact absurd h.1 (by decide)
    · exact absurd h.1 (by decide)
  · exact fun h => .inl ⟨rfl, h⟩
theorem rightE2 (d : ByteArray) : rightE 2 d ↔ d = noS := by
  rw [rightE_def]
  constructor
  · rintro (h | h | h)
    · exact absurd h.1 (by decide)
    · exact h.2
    · exact absurd h.1 (by decide)
  · exact fun h => .inr (.inl ⟨rfl, h⟩)
theorem rightE3 (d : ByteArray) : rightE 3 d ↔ d.size = 137 ∧ rightP (rdS (bytesI d)) := by
  rw [rightE_def]
  constructor
  · rintro (h | h | h)
    · exact absurd h.1 (by decide)
    · exact absurd h.1 (by decide)
    · exact h.2
  · exact fun h => .inr (.inr ⟨rfl, h⟩)
theorem rightE_other {k : Int} {d : ByteArray} (h1 : k ≠ 1) (h2 : k ≠ 2) (h3 : k ≠ 3) : ¬ rightE k d := by
  rw [rightE_def]
  rintro (h | h | h)
  · exact h1 h.1
  · exact h2 h.1
  · exact h3 h.1
theorem rightE_size {k : Int} {d : ByteArray} (h : rightE k d) : d.size ≤ 137 := by
  rw [rightE_def] at h
  rcases h with h | h | h
  · omega
  · rw [h.2]; decide
  · omega
def ctEn (p : Int → Int → ByteArray → Prop) [∀ k t d, Decidable (p k t d)] : Ct := fun ws K => match ws with
  | [.agg [.one (.ci .i64 k), .one (.ci .u32 t), .one (.cs d)]] => ∀ τ, τ = decide (p k t d) → K (vb τ)
  | _ => False
theorem ctEn_ok {F : Fns} (hF : FnsOk Tryz.prog F) {n : Nat} {f : FuncId} {fn : Func} (hf : Tryz.prog.funcs[f]? = some fn) {p : Int → Int → ByteArray → Prop} [∀ k t d, Decidable (p k t d)]
    (h : ∀ k t d, walk F n fn [enW k t d] [] fun y _ => y = vb (decide (p k t d))) : CtOk Tryz.prog f (ctEn p) := by
  intro ws K h' hr
  unfold ctEn at h'
  split at h'
  · rename_i k t d
    exact ⟨_, h' _ rfl, ⟨trivial, rfl⟩, walk_calls hF hf rfl (ws := [enW k t d]) hr rfl (h k t d)⟩
  · exact h'.elim
noncomputable def FEr : Fns := F0.plus 56 ctRead
theorem FEr_ok : FnsOk Tryz.prog FEr := F0_ok.plus read_ct Tryz.func56 (by kernel_rfl) (by kernel_rfl)
theorem enRight_walk (k t : Int) (d : ByteArray) : walk FEr 0 Tryz.f34 [enW k t d] [] fun y _ => y = vb (decide (rightE k d)) := by
  rcases Classical.em (k = 1) with h1 | h1
  · subst h1
    conv => whnf
    refine ask_true rfl ?_
    rcases Nat.lt_or_ge d.size 10 with g1 | g1
    · rw [decide_eq_false (show ¬ rightE 1 d by rw [rightE1]; omega)]
      repeat' ((conv => whnf); first | (refine ask_false (by omega) ?_) | rfl | fail)
    · rcases Nat.lt_or_ge 32 d.size with g2 | g2
      · rw [decide_eq_false (show ¬ rightE 1 d by rw [rightE1]; omega)]
        repeat' ((conv => whnf); first | (refine ask_true (by omega) ?_) | (refine ask_false (by omega) ?_) | rfl | fail)
      · rw [decide_eq_true (show rightE 1 d by rw [rightE1]; omega)]
        repeat' ((conv => whnf); first | (refine ask_true (by omega) ?_) | rfl | fail)
  · rcases Classical.em (k = 2) with h2 | h2
    · subst h2
      rcases Classical.em (d = noS) with g | g
      · rw [decide_eq_true (show rightE 2 d by rw [rightE2]; exact g)]
        repeat' ((conv => whnf); first | (refine ask_false (by decide) ?_) | (refine ask_true (by decide) ?_) | (refine ask_true g ?_) | rfl | fail)
      · rw [decide_eq_false (show ¬ rightE 2 d by rw [rightE2]; exact g)]
        repeat' ((conv => whnf); first | (refine ask_false (by decide) ?_) | (refine ask_true (by decide) ?_) | (refine ask_false g ?_) | rfl | fail)
    · rcases Classical.em (k = 3) with h3 | h3
      · subst h3
        rcases Classical.em (d.size = 137) with g | g
        · rcases Classical.em (rightP (rdS (bytesI d))) with g2 | g2
          · rw [decide_eq_true (show rightE 3 d by rw [rightE3]; exact ⟨g, g2⟩)]
            repeat' ((conv => whnf); first | (refine ask_false (by decide) ?_) | (refine ask_true (by decide) ?_) | (refine ⟨fun _ _ => ?_, fun _ hn => absurd g2 hn, fun hn => absurd g hn⟩) | (refine ⟨by kernel_rfl, ?_⟩) | rfl | fail)
          · rw [decide_eq_false (show ¬ rightE 3 d by rw [rightE3]; exact fun h => g2 h.2)]
            repeat' ((conv => whnf); first | (refine ask_false (by decide) ?_) | (refine ask_true (by decide) ?_) | (refine ⟨fun _ hn => absurd hn g2, fun _ _ => ?_, fun hn => absurd g hn⟩) | (refine ⟨by kernel_rfl, ?_⟩) | rfl | fail)
        · rw [decide_eq_false (show ¬ rightE 3 d by rw [rightE3]; exact fun h => g h.1)]
          repeat' ((conv => whnf); first | (refine ask_false (by decide) ?_) | (refine ask_true (by decide) ?_) | (refine ⟨fun hn => absurd hn g, fun hn => absurd hn g, fun _ => ?_⟩) | (refine ⟨by kernel_rfl, ?_⟩) | rfl | fail)
      · rw [decide_eq_false (rightE_other h1 h2 h3)]
        repeat' ((conv => whnf); first | (refine ask_false (by omega) ?_) | rfl | fail)
theorem enRight_ct : CtOk Tryz.prog 34 (ctEn fun k _ d => rightE k d) := ctEn_ok FEr_ok Tryz.func34 enRight_walk
def layE (k t : Int) (d : ByteArray) : List Int := [k % 256] ++ four t ++ bytesI d
noncomputable def FEl : Fns := (F0.plus 34 (ctEn fun k _ d => rightE k d)).plus 22 ctFour
theorem FEl_ok : FnsOk Tryz.prog FEl := (F0_ok.plus enRight_ct Tryz.func34 (by kernel_rfl) (by kernel_rfl)).plus four_ct Tryz.func22 (by kernel_rfl) (by kernel_rfl)
theorem lay_eq (k t : Int) (d : ByteArray) : strOfNums [k % 256] ++ strOfNums (four t) ++ d = strOfNums (layE k t d) := by
  have e : d = strOfNums (bytesI d) := (str_bytesI d).symm
  conv => lhs; rw [e]
  rw [str_append, str_append]; rfl
theorem layE_len (k t : Int) (d : ByteArray) : (layE k t d).length = 5 + d.size := by
  simp only [layE, List.length_append, bytesI_len]
  show 1 + 4 + d.size = _
  omega
theorem enLay_walk (k t : Int) (d : ByteArray) (hr : rightE k d) : walk FEl 0 Tryz.f12 [enW k t d] [] fun y _ => y = .tup [.c (.cs (strOfNums (layE k t d))), i64 0] := by
  have hd := rightE_size hr
  have e := lay_eq k t d
  repeat' ((conv => whnf); first | (refine ask_true hr ?_) | fail)
  conv => whnf
  refine ask_is (wrap8 _) ?_
  conv => whnf
  refine And.intro rfl ?_
  conv => whnf
  refine And.intro (by decide) ?_
  conv => whnf
  refine And.intro (by decide) ?_
  conv => whnf
  refine fun s hs => ?_
  subst hs
  conv => whnf
  refine And.intro (by rw [strOfNums_size, strOfNums_size]; exact (by decide : 1 + 4 ≤ 9223372036854775807)) ?_
  conv => whnf
  refine And.intro (by rw [ByteArray.size_append, strOfNums_size, strOfNums_size]; show 1 + 4 + d.size ≤ _; omega) ?_
  conv => whnf
  refine ⟨by kernel_rfl, ?_⟩
  conv => whnf
  exact congrArg (fun s => V.tup [.c (.cs s), i64 0]) e
theorem enLay_no_walk (k t : Int) (d : ByteArray) (hr : ¬ rightE k d) : walk FEl 0 Tryz.f12 [enW k t d] [] fun y _ => y = .tup [.c (.cs noS), i64 1] := by
  repeat' ((conv => whnf); first | (refine ask_false hr ?_) | rfl | fail)
def ctLayE : Ct := fun ws K => match ws with
  | [.agg [.one (.ci .i64 k), .one (.ci .u32 t), .one (.cs d)]] => (rightE k d → ∀ s, s = strOfNums (layE k t d) → K (.tup [.c (.cs s), i64 0])) ∧ (¬ rightE k d → K (.tup [.c (.cs noS), i64 1]))
  | _ => False
theorem enLay_ct : CtOk Tryz.prog 12 ctLayE := by
  intro ws K h' hr
  unfold ctLayE at h'
  split at h'
  · rename_i k t d
    obtain ⟨h1, h2⟩ := h'
    have small : ∀ n : Int, 0 ≤ n → n ≤ 10 → InK .i64 n := fun n _ _ => by simp only [InK, lowK, highK]; omega
    rcases Classical.em (rightE k d) with hp | hp
    · have hd := rightE_size hp
      exact ⟨_, h1 hp _ rfl, ⟨⟨by show (strOfNums _).size ≤ _; rw [strOfNums_size, layE_len]; omega, small 0 (by decide) (by decide), trivial⟩, rfl⟩, walk_calls FEl_ok Tryz.func12 rfl (ws := [enW k t d]) hr rfl (enLay_walk k t d hp)⟩
    · exact ⟨_, h2 hp, ⟨⟨Nat.zero_le _, small 1 (by decide) (by decide), trivial⟩, rfl⟩, walk_calls FEl_ok Tryz.func12 rfl (ws := [enW k t d]) hr rfl (enLay_no_walk k t d hp)⟩
  · exact h'.elim
def ctEnId : Ct := fun ws K => match ws with
  | [.agg [.one (.ci .i64 k), .one (.ci .u32 t), .one (.cs d)]] => K (.w (enW k t d))
  | _ => False
theorem ctEnId_ok {f : FuncId} {fn : Func} (hf : Tryz.prog.funcs[f]? = some fn) (h : ∀ k t d, walk F0 0 fn [enW k t d] [] fun y _ => y = .w (enW k t d)) : CtOk Tryz.prog f ctEnId := by
  intro ws K h' hr
  unfold ctEnId at h'
  split at h'
  · rename_i k t d
    exact ⟨_, h', ⟨hr.1, rfl⟩, walk_calls F0_ok hf rfl (ws := [enW k t d]) hr rfl (h k t d)⟩
  · exact h'.elim
theorem enOf_ct : CtOk Tryz.prog 9 ctEnId := ctEnId_ok Tryz.func9 fun k t d => by
  repeat' ((conv => whnf); first | (refine ⟨by kernel_rfl, ?_⟩) | rfl | fail)
set_option maxRecDepth 100000
set_option maxHeartbeats 32000000
end B
end Go.Proofs.YtaficaacogcblaaGreatDoor
