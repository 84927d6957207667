/- Chapter entry: the laws EntryBack and EntryOnly, walked. -/
import Derived.Test.YtbgjmlncdlcglaaBee
import Derived.Test.YtbgjmlncdlcglaaBef
set_option linter.all false
namespace Go.Proofs.Ytbgjmlncdlcglaa
open Go.RowKit (Below)
set_option maxRecDepth 100000
set_option maxHeartbeats 32000000

theorem kE_lay {k t : Int} {d : ByteArray} (hr : rightE k d) : kE (strOfNums (layE k t d)) = k := by
  have h := hr
  rw [rightE_def] at h
  unfold kE
  rw [layE_get (by omega)]
  show k % 256 = k
  omega
theorem tE_lay {k t : Int} {d : ByteArray} (ht : InK .u32 t) : tE (strOfNums (layE k t d)) = t := by
  unfold tE
  rw [bytesI_ext, bytesI_str (layE_in k t d)]
  exact le4_four ht.1 ht.2 []
theorem dE_lay (k t : Int) (d : ByteArray) : dE (strOfNums (layE k t d)) = d := layE_rest k t d
theorem lay_back {s : ByteArray} (h5 : 5 ≤ s.size) : strOfNums (layE (kE s) (tE s) (dE s)) = s := by
  have hin := bytesI_in s
  have hl : (bytesI s).length = s.size := bytesI_len s
  have e0 : kE s = (bytesI s).getD 0 0 := get_bytesI (by omega)
  have e1 : tE s = le4 (((bytesI s).take 5).drop 1) := by rw [← bytesI_ext]; rfl
  have e2 : bytesI (dE s) = (bytesI s).drop 5 := by
    rw [dE, bytesI_ext, ← hl, List.take_length]
  have key : layE (kE s) (tE s) (dE s) = bytesI s := by
    unfold layE
    rw [e0, e1, e2]
    generalize bytesI s = bs at hin hl
    match bs, hin, hl with
    | a :: b :: c :: d :: e :: r, hin, hl =>
      have ha := hin a (by simp)
      have hb := hin b (by simp)
      have hc := hin c (by simp)
      have hd := hin d (by simp)
      have he := hin e (by simp)
      simp only [InK, lowK, highK] at ha hb hc hd he
      have el : le4 (((a :: b :: c :: d :: e :: r).take 5).drop 1) = b + 256 * c + 65536 * d + 16777216 * e := rfl
      rw [el]
      have q : (a :: b :: c :: d :: e :: r).getD 0 0 = a := rfl
      have q2 : (a :: b :: c :: d :: e :: r).drop 5 = r := rfl
      rw [q, q2]
      simp only [four, List.cons_append, List.nil_append, List.cons.injEq, and_true]
      omega
    | [], _, h | [_], _, h | [_, _], _, h | [_, _, _], _, h | [_, _, _, _], _, h => simp at h; omega
  rw [key, str_bytesI]
noncomputable def FEb : Fns := (((((F0.plus 24 (ct0 (vb true))).plus 26 ctEnId).plus 29 ctEnId).plus 25 ctLayE).plus 28 ctReadE).plus 27 (ctEn fun k _ d => rightE k d)
theorem FEb_ok : FnsOk Try.prog FEb := (((((F0_ok.plus awake20_ct Try.func24 (by kernel_rfl) (by kernel_rfl)).plus enOf_ct Try.func26 (by kernel_rfl) (by kernel_rfl)).plus enPlain_ct Try.func29 (by kernel_rfl) (by kernel_rfl)).plus enLay_ct Try.func25 (by kernel_rfl) (by kernel_rfl)).plus readE_ct Try.func28 (by kernel_rfl) (by kernel_rfl)).plus enRight_ct Try.func27 (by kernel_rfl) (by kernel_rfl)
theorem back_lawE (k t : Int) (d : ByteArray) (ht : InK .u32 t) (hd : d.size ≤ 9223372036854775807) : walk3 FEb 0 Try.f4 [enW k t d] [] fun y _ => y = vb true := by
  rcases Nat.lt_or_ge 500 d.size with hl | hl
  · repeat' ((conv => whnf); first | (refine ask_true (by omega) ?_) | rfl | fail)
  · rcases Classical.em (rightE k d) with hr | hr
    · repeat' ((conv => whnf); first | (refine ask_false (by omega) ?_) | (refine And.intro (fun _ s hs => ?_) (fun hn => absurd hr hn)) | fail)
      have hs5 : 5 ≤ s.size := by rw [hs, strOfNums_size, layE_len]; omega
      have hk : kE s = k := by rw [hs]; exact kE_lay hr
      have ht' : tE s = t := by rw [hs]; exact tE_lay ht
      have hd' : dE s = d := by rw [hs]; exact dE_lay k t d
      have hr' : rightE (kE s) (dE s) := by rw [hk, hd']; exact hr
      repeat' ((conv => whnf); first | (refine ask_false (by decide) ?_) | (refine And.intro (fun hn => by omega) (And.intro (fun _ _ k' t' d' hk2 ht2 hd2 => ?_) (fun _ hn => absurd hr' hn))) | (refine ask_true (by decide) ?_) | fail)
      obtain rfl : k' = k := hk2.trans hk
      obtain rfl : t' = t := ht2.trans ht'
      obtain rfl : d' = d := hd2.trans hd'
      repeat' ((conv => whnf); first | (refine ask_true (by decide) ?_) | (refine ask_ent ⟨rfl, rfl, rfl⟩ ?_) | (refine ask_true hr ?_) | (refine ⟨by kernel_rfl, ?_⟩) | rfl | fail)
    · repeat' ((conv => whnf); first | (refine ask_false (by omega) ?_) | (refine And.intro (fun hn => absurd hn hr) (fun _ => ?_)) | (refine ask_true (by decide) ?_) | (refine ask_true rfl ?_) | (refine ask_false hr ?_) | (refine ⟨by kernel_rfl, ?_⟩) | rfl | fail)
theorem only_lawE (s : ByteArray) (hs : s.size ≤ 9223372036854775807) : walk3 FEb 0 Try.f5 [.c (.cs s)] [] fun y _ => y = vb true := by
  rcases Nat.lt_or_ge 500 s.size with hl | hl
  · repeat' ((conv => whnf); first | (refine ask_true (by omega) ?_) | rfl | fail)
  · rcases Nat.lt_or_ge s.size 5 with h5 | h5
    · repeat' ((conv => whnf); first | (refine ask_false (by omega) ?_) | (refine And.intro (fun _ => ?_) (And.intro (fun hn => by omega) (fun hn => by omega))) | (refine ask_true (by decide) ?_) | (refine ask_ent ⟨rfl, rfl, rfl⟩ ?_) | (refine ask_true (by omega) ?_) | (refine ask_true rfl ?_) | (refine ⟨by kernel_rfl, ?_⟩) | rfl | fail)
    · rcases Classical.em (rightE (kE s) (dE s)) with hr | hr
      · repeat' ((conv => whnf); first | (refine ask_false (by omega) ?_) | (refine And.intro (fun hn => by omega) (And.intro (fun _ _ k t d hk ht hd => ?_) (fun _ hn => absurd hr hn))) | fail)
        subst hk ht hd
        repeat' ((conv => whnf); first | (refine ask_false (by decide) ?_) | (refine And.intro (fun _ s2 hs2 => ?_) (fun hn => absurd hr hn)) | fail)
        have e : s2 = s := hs2.trans (lay_back h5)
        repeat' ((conv => whnf); first | (refine ask_true (by decide) ?_) | (refine ask_true e ?_) | (refine ⟨by kernel_rfl, ?_⟩) | rfl | fail)
      · repeat' ((conv => whnf); first | (refine ask_false (by omega) ?_) | (refine And.intro (fun hn => by omega) (And.intro (fun _ hn => absurd hn hr) (fun _ _ => ?_))) | (refine ask_true (by decide) ?_) | (refine ask_ent ⟨rfl, rfl, rfl⟩ ?_) | (refine ask_false (by decide) ?_) | (refine ask_true rfl ?_) | (refine ⟨by kernel_rfl, ?_⟩) | rfl | fail)
theorem law_EntryBack (v : Value) (hv : EntV v) (w0 : World) : Calls Try.prog 4 #[v] w0 fun e w' => e = .returned (.bool true) ∧ Below w0.heap.size w0 w' := by
  obtain ⟨k, t, d, rfl, hk, ht, hd⟩ := hv
  have := walk3_true FEb_ok Try.func4 (ws := [enW k t d]) ⟨enW_rng hk ht hd, trivial⟩ rfl (n := 0) (back_lawE k t d ht hd) w0
  rw [show ([enW k t d].map (W.den fun _ => (0, 0))).toArray = #[Value.agg #[.int .i64 k, .int .u32 t, .string d]] by simp [W.den, dens, Seg.den, C.den]] at this
  exact this
theorem law_EntryOnly (s : ByteArray) (hs : s.size ≤ 140737488351232) (w0 : World) : Calls Try.prog 5 #[.string s] w0 fun e w' => e = .returned (.bool true) ∧ Below w0.heap.size w0 w' :=
  walk3_true FEb_ok Try.func5 (ws := [.c (.cs s)]) ⟨(show s.size ≤ 9223372036854775807 by omega), trivial⟩ rfl (n := 0) (only_lawE s (by omega)) w0
end Go.Proofs.Ytbgjmlncdlcglaa
