/- Yc, Yd: what the law wants of them. -/
import Derived.Test.YtaficaacogcblaaGreatDoorZj
set_option linter.all false
namespace Go.Proofs.YtaficaacogcblaaGreatDoor
namespace R
open Go.RowKit (Below)
set_option maxRecDepth 100000
set_option maxHeartbeats 16000000
abbrev pq (e n k : Int) (f l : Bool) (d : ByteArray) : List Seg := [.one (.ci .u32 e), .one (.ci .u32 n), .one (.ci .i64 k), .one (.cb f), .one (.cb l), .one (.cs d)]
abbrev pqW (e n k : Int) (f l : Bool) (d : ByteArray) : W := .agg (pq e n k f l d)
def pgR (k : Int) (f l : Bool) (d : ByteArray) : Prop := (k = 2 ∨ (k = 1 ∧ f = false ∧ l = false)) ∧ 1 ≤ d.size ∧ d.size ≤ 49
theorem pright_walk {e n k : Int} {f l : Bool} {d : ByteArray} (h : pgR k f l d) : walk6 F0 0 Tryz.f84 [pqW e n k f l d] [] fun y _ => y = vb true := by
  obtain ⟨hk, h1, h2⟩ := h
  rcases hk with rfl | ⟨rfl, rfl, rfl⟩
  · repeat' ((conv => whnf); first | (refine lenH_is ?_) | (refine pushH_at ?_) | (refine setH_as (set_top _ _ _) ?_) | (refine setH_as (set_low _ _ _ _) ?_) | (refine setH_as (set_top' _ _ _ _ _) ?_) | (refine hGet_at (up_top _ _) ?_) | (refine And.intro ?_ trivial) | (refine And.intro rfl ?_) | (refine And.intro (And.intro (by decide) (by decide)) ?_) | (refine And.intro (And.intro (by decide) (And.intro (by decide) (by decide))) ?_) | (refine And.intro (Nat.le_of_ble_eq_true rfl) (And.intro (Nat.le_of_ble_eq_true rfl) ?_)) | (refine And.intro (Nat.le_of_ble_eq_true rfl) ?_) | (refine ask_false (by omega) ?_) | (refine ask_true (by omega) ?_) | (refine ask_wrap64 (by omega) (by omega) ?_) | (refine And.intro (And.intro (by omega) (by omega)) ?_) | (refine fun (_ : InK _ _) => ?_) | (refine ⟨by kernel_rfl, ?_⟩) | fail)
    rfl
  · repeat' ((conv => whnf); first | (refine lenH_is ?_) | (refine pushH_at ?_) | (refine setH_as (set_top _ _ _) ?_) | (refine setH_as (set_low _ _ _ _) ?_) | (refine setH_as (set_top' _ _ _ _ _) ?_) | (refine hGet_at (up_top _ _) ?_) | (refine And.intro ?_ trivial) | (refine And.intro rfl ?_) | (refine And.intro (And.intro (by decide) (by decide)) ?_) | (refine And.intro (And.intro (by decide) (And.intro (by decide) (by decide))) ?_) | (refine And.intro (Nat.le_of_ble_eq_true rfl) (And.intro (Nat.le_of_ble_eq_true rfl) ?_)) | (refine And.intro (Nat.le_of_ble_eq_true rfl) ?_) | (refine ask_false (by omega) ?_) | (refine ask_true (by omega) ?_) | (refine ask_wrap64 (by omega) (by omega) ?_) | (refine And.intro (And.intro (by omega) (by omega)) ?_) | (refine fun (_ : InK _ _) => ?_) | (refine ⟨by kernel_rfl, ?_⟩) | fail)
    rfl
def ctPRight : Ct := fun ws K => match ws with
  | [.agg [.one (.ci .u32 _), .one (.ci .u32 _), .one (.ci .i64 k), .one (.cb f), .one (.cb l), .one (.cs d)]] => pgR k f l d ∧ K (vb true)
  | _ => False
theorem pright_ct : CtOkG Tryz.prog D.G1 84 ctPRight := by
  intro ws K h hr
  unfold ctPRight at h
  split at h
  · obtain ⟨h1, hK⟩ := h
    exact ⟨_, hK, ⟨trivial, rfl⟩, fun σ w hg => val_lift6 D.F0_okg Tryz.func84 (n := 0) rfl hr rfl (pright_walk h1) σ w hg⟩
  · exact h.elim
def bitI (b : Bool) (m : Int) : Int := match b with
  | true => m
  | false => 0
theorem bit_walk (b : Bool) (m : Int) : walk6 F0 0 Tryz.f132 [.c (.cb b), u8 m] [] fun y _ => y = .w (u8 (bitI b m)) := by
  cases b
  · repeat' ((conv => whnf); first | (refine lenH_is ?_) | (refine pushH_at ?_) | (refine setH_as (set_top _ _ _) ?_) | (refine setH_as (set_low _ _ _ _) ?_) | (refine setH_as (set_top' _ _ _ _ _) ?_) | (refine hGet_at (up_top _ _) ?_) | (refine And.intro ?_ trivial) | (refine And.intro rfl ?_) | (refine And.intro (And.intro (by decide) (by decide)) ?_) | (refine And.intro (And.intro (by decide) (And.intro (by decide) (by decide))) ?_) | (refine And.intro (Nat.le_of_ble_eq_true rfl) (And.intro (Nat.le_of_ble_eq_true rfl) ?_)) | (refine And.intro (Nat.le_of_ble_eq_true rfl) ?_) | (refine ask_false (by omega) ?_) | (refine ask_true (by omega) ?_) | (refine ask_wrap64 (by omega) (by omega) ?_) | (refine And.intro (And.intro (by omega) (by omega)) ?_) | (refine fun (_ : InK _ _) => ?_) | (refine ⟨by kernel_rfl, ?_⟩) | fail)
    rfl
  · repeat' ((conv => whnf); first | (refine lenH_is ?_) | (refine pushH_at ?_) | (refine setH_as (set_top _ _ _) ?_) | (refine setH_as (set_low _ _ _ _) ?_) | (refine setH_as (set_top' _ _ _ _ _) ?_) | (refine hGet_at (up_top _ _) ?_) | (refine And.intro ?_ trivial) | (refine And.intro rfl ?_) | (refine And.intro (And.intro (by decide) (by decide)) ?_) | (refine And.intro (And.intro (by decide) (And.intro (by decide) (by decide))) ?_) | (refine And.intro (Nat.le_of_ble_eq_true rfl) (And.intro (Nat.le_of_ble_eq_true rfl) ?_)) | (refine And.intro (Nat.le_of_ble_eq_true rfl) ?_) | (refine ask_false (by omega) ?_) | (refine ask_true (by omega) ?_) | (refine ask_wrap64 (by omega) (by omega) ?_) | (refine And.intro (And.intro (by omega) (by omega)) ?_) | (refine fun (_ : InK _ _) => ?_) | (refine ⟨by kernel_rfl, ?_⟩) | fail)
    rfl
def ctBit : Ct := fun ws K => match ws with
  | [.c (.cb b), .c (.ci .u8 m)] => K (.w (u8 (bitI b m)))
  | _ => False
theorem bit_ct : CtOkG Tryz.prog D.G1 132 ctBit := by
  intro ws K h hr
  unfold ctBit at h
  split at h
  · rename_i b m
    refine ⟨_, h, ⟨?_, rfl⟩, fun σ w hg => val_lift6 D.F0_okg Tryz.func132 (n := 0) rfl hr rfl (bit_walk b m) σ w hg⟩
    have := hr.2.1
    cases b
    · show InK .u8 0
      exact ⟨by decide, by decide⟩
    · exact this
  · exact h.elim
def bodyP (e n k : Int) (f l : Bool) (d : ByteArray) : List Int := Q.four e ++ Q.four n ++ [k, bitI f 1 + bitI l 2, d.size] ++ bytesI d ++ List.replicate (49 - d.size) 0
noncomputable def layP (e n k : Int) (f l : Bool) (d : ByteArray) : List Int := Q.four (Q.sumS (strOfNums (bodyP e n k f l d))) ++ bodyP e n k f l d
noncomputable def FLd : Fns := ((((F0.plus 22 Q.ctFour).plus 21 Q.ctSum).plus 132 ctBit).every 22).every 21
theorem FLd_ok : FnsOk Tryz.prog FLd D.G1 := ((((D.F0_okg.plus Q.four_ct Tryz.func22 (by kernel_rfl) (by kernel_rfl)).plus Q.sum_ct Tryz.func21 (by kernel_rfl) (by kernel_rfl)).plusG bit_ct Tryz.func132 (by kernel_rfl) (by kernel_rfl)).every _).every _
theorem four_u8 (x : Int) : ∀ y ∈ Q.four x, InK .u8 y := by
  intro y hy
  simp only [Q.four, List.mem_cons, List.not_mem_nil, or_false] at hy
  rcases hy with rfl | rfl | rfl | rfl <;> (simp only [InK, lowK, highK]; omega)
theorem bytes_four (x : Int) : bytesI (strOfNums (Q.four x)) = Q.four x := bytesI_str (four_u8 x)
theorem size_four (x : Int) : (strOfNums (Q.four x)).size = 4 := by rw [strOfNums_size]; rfl
theorem len_bytesI (d : ByteArray) : (bytesI d).length = d.size := by simp [bytesI]
theorem laid_plain {e n k b : Int} {d : ByteArray} (h2 : d.size ≤ 49) {s1 s2 s4 : ByteArray} {z1 z2 z3 z4 : List Int} {y : Int} (hs1 : s1 = strOfNums (Q.four e)) (hz1 : z1 = List.take 4 pgZ ++ List.take 60 (bytesI s1) ++ List.drop (4 + min s1.size 60) pgZ)
    (hs2 : s2 = strOfNums (Q.four n)) (hz2 : z2 = List.take 8 z1 ++ List.take 56 (bytesI s2) ++ List.drop (8 + min s2.size 56) z1)
    (hz3 : z3 = List.take 15 (((z2.set 12 k).set 13 b).set 14 d.size) ++ List.take 49 (bytesI d) ++ List.drop (15 + min d.size 49) (((z2.set 12 k).set 13 b).set 14 d.size))
    (hy : y = Q.sumS (strOfNums (List.take 60 (List.drop 4 z3)))) (hs4 : s4 = strOfNums (Q.four y)) (hz4 : z4 = List.take 0 z3 ++ List.take 4 (bytesI s4) ++ List.drop (0 + min s4.size 4) z3) :
    z4 = Q.four (Q.sumS (strOfNums (Q.four e ++ Q.four n ++ [k, b, d.size] ++ bytesI d ++ List.replicate (49 - d.size) 0))) ++ (Q.four e ++ Q.four n ++ [k, b, d.size] ++ bytesI d ++ List.replicate (49 - d.size) 0) := by
  have e1 : z1 = [0, 0, 0, 0] ++ Q.four e ++ List.replicate 56 0 := by
    rw [hz1, hs1, bytes_four, size_four]; rfl
  have e2 : z2 = [0, 0, 0, 0] ++ Q.four e ++ Q.four n ++ List.replicate 52 0 := by
    rw [hz2, hs2, bytes_four, size_four, e1]; rfl
  have e3 : ((z2.set 12 k).set 13 b).set 14 (d.size : Int) = [0, 0, 0, 0] ++ Q.four e ++ Q.four n ++ [k, b, (d.size : Int)] ++ List.replicate 49 0 := by
    rw [e2]; rfl
  have hl := len_bytesI d
  have e4 : z3 = [0, 0, 0, 0] ++ (Q.four e ++ Q.four n ++ [k, b, d.size] ++ bytesI d ++ List.replicate (49 - d.size) 0) := by
    rw [hz3, e3, List.take_of_length_le (l := bytesI d) (by omega), Nat.min_eq_left h2, ← List.drop_drop]
    have a : List.take 15 ([0, 0, 0, 0] ++ Q.four e ++ Q.four n ++ [k, b, (d.size : Int)] ++ List.replicate 49 0) = [0, 0, 0, 0] ++ Q.four e ++ Q.four n ++ [k, b, (d.size : Int)] := rfl
    have c : List.drop 15 ([0, 0, 0, 0] ++ Q.four e ++ Q.four n ++ [k, b, (d.size : Int)] ++ List.replicate 49 0) = List.replicate 49 0 := rfl
    rw [a, c, List.drop_replicate]
    simp only [List.append_assoc]
  have e5 : List.drop 4 z3 = Q.four e ++ Q.four n ++ [k, b, d.size] ++ bytesI d ++ List.replicate (49 - d.size) 0 := by rw [e4]; rfl
  rw [hz4, hs4, bytes_four, size_four, hy]
  show [] ++ List.take 4 (Q.four _) ++ List.drop 4 z3 = _
  rw [e5, List.take_of_length_le (l := Q.four e ++ Q.four n ++ [k, b, (d.size : Int)] ++ bytesI d ++ List.replicate (49 - d.size) 0) (by simp [Q.four]; omega)]
  rfl
theorem or_bits (f l : Bool) : bitsI .or .u8 (bitI f 1) (bitI l 2) = bitI f 1 + bitI l 2 := by cases f <;> cases l <;> kernel_rfl
theorem laid_walk {e n k : Int} {f l : Bool} {d : ByteArray} (h : pgR k f l d) : walk6 FLd 0 Tryz.f85 [pqW e n k f l d] [] fun y _ => y = .w (pgW (layP e n k f l d)) := by
  obtain ⟨hk, h1, h2⟩ := h
  repeat' ((conv => whnf); first | (refine lenH_is ?_) | (refine pushH_at ?_) | (refine setH_as (set_top _ _ _) ?_) | (refine setH_as (set_low _ _ _ _) ?_) | (refine setH_as (set_top' _ _ _ _ _) ?_) | (refine hGet_at (up_top _ _) ?_) | (refine And.intro ?_ trivial) | (refine And.intro rfl ?_) | (refine And.intro (And.intro (by decide) (by decide)) ?_) | (refine And.intro (And.intro (by decide) (And.intro (by decide) (by decide))) ?_) | (refine And.intro (Nat.le_of_ble_eq_true rfl) (And.intro (Nat.le_of_ble_eq_true rfl) ?_)) | (refine And.intro (Nat.le_of_ble_eq_true rfl) ?_) | (refine ask_false (by omega) ?_) | (refine ask_true (by omega) ?_) | (refine ask_wrap64 (by omega) (by omega) ?_) | (refine And.intro (And.intro (by omega) (by omega)) ?_) | (refine fun (_ : InK _ _) => ?_) | (refine ⟨by kernel_rfl, ?_⟩) | fail)
  conv => whnf
  refine red_each (by kernel_rfl) ?_
  repeat' ((conv => whnf); first | (refine lenH_is ?_) | (refine pushH_at ?_) | (refine setH_as (set_top _ _ _) ?_) | (refine setH_as (set_low _ _ _ _) ?_) | (refine setH_as (set_top' _ _ _ _ _) ?_) | (refine And.intro ?_ trivial) | (refine And.intro rfl ?_) | (refine And.intro (And.intro (by decide) (by decide)) ?_) | (refine And.intro (And.intro (by decide) (And.intro (by decide) (by decide))) ?_) | (refine And.intro (Nat.le_of_ble_eq_true rfl) (And.intro (Nat.le_of_ble_eq_true rfl) ?_)) | (refine And.intro (Nat.le_of_ble_eq_true rfl) ?_) | (refine ask_false (by omega) ?_) | (refine ask_true (by omega) ?_) | (refine ask_wrap64 (by omega) (by omega) ?_) | (refine And.intro (And.intro (by omega) (by omega)) ?_) | (refine fun (_ : InK _ _) => ?_) | (refine ⟨by kernel_rfl, ?_⟩) | fail)
  refine fun s1 hs1 => ?_
  repeat' ((conv => whnf); first | (refine lenH_is ?_) | (refine pushH_at ?_) | (refine setH_as (set_top _ _ _) ?_) | (refine setH_as (set_low _ _ _ _) ?_) | (refine setH_as (set_top' _ _ _ _ _) ?_) | (refine And.intro ?_ trivial) | (refine And.intro rfl ?_) | (refine And.intro (And.intro (by decide) (by decide)) ?_) | (refine And.intro (And.intro (by decide) (And.intro (by decide) (by decide))) ?_) | (refine And.intro (Nat.le_of_ble_eq_true rfl) (And.intro (Nat.le_of_ble_eq_true rfl) ?_)) | (refine And.intro (Nat.le_of_ble_eq_true rfl) ?_) | (refine ask_false (by omega) ?_) | (refine ask_true (by omega) ?_) | (refine ask_wrap64 (by omega) (by omega) ?_) | (refine And.intro (And.intro (by omega) (by omega)) ?_) | (refine fun (_ : InK _ _) => ?_) | (refine ⟨by kernel_rfl, ?_⟩) | fail)
  refine fun z1 hz1 => ?_
  repeat' ((conv => whnf); first | (refine lenH_is ?_) | (refine pushH_at ?_) | (refine setH_as (set_top _ _ _) ?_) | (refine setH_as (set_low _ _ _ _) ?_) | (refine setH_as (set_top' _ _ _ _ _) ?_) | (refine And.intro ?_ trivial) | (refine And.intro rfl ?_) | (refine And.intro (And.intro (by decide) (by decide)) ?_) | (refine And.intro (And.intro (by decide) (And.intro (by decide) (by decide))) ?_) | (refine And.intro (Nat.le_of_ble_eq_true rfl) (And.intro (Nat.le_of_ble_eq_true rfl) ?_)) | (refine And.intro (Nat.le_of_ble_eq_true rfl) ?_) | (refine ask_false (by omega) ?_) | (refine ask_true (by omega) ?_) | (refine ask_wrap64 (by omega) (by omega) ?_) | (refine And.intro (And.intro (by omega) (by omega)) ?_) | (refine fun (_ : InK _ _) => ?_) | (refine ⟨by kernel_rfl, ?_⟩) | fail)
  conv => whnf
  refine red_each (by kernel_rfl) ?_
  repeat' ((conv => whnf); first | (refine lenH_is ?_) | (refine pushH_at ?_) | (refine setH_as (set_top _ _ _) ?_) | (refine setH_as (set_low _ _ _ _) ?_) | (refine setH_as (set_top' _ _ _ _ _) ?_) | (refine And.intro ?_ trivial) | (refine And.intro rfl ?_) | (refine And.intro (And.intro (by decide) (by decide)) ?_) | (refine And.intro (And.intro (by decide) (And.intro (by decide) (by decide))) ?_) | (refine And.intro (Nat.le_of_ble_eq_true rfl) (And.intro (Nat.le_of_ble_eq_true rfl) ?_)) | (refine And.intro (Nat.le_of_ble_eq_true rfl) ?_) | (refine ask_false (by omega) ?_) | (refine ask_true (by omega) ?_) | (refine ask_wrap64 (by omega) (by omega) ?_) | (refine And.intro (And.intro (by omega) (by omega)) ?_) | (refine fun (_ : InK _ _) => ?_) | (refine ⟨by kernel_rfl, ?_⟩) | fail)
  refine fun s2 hs2 => ?_
  repeat' ((conv => whnf); first | (refine lenH_is ?_) | (refine pushH_at ?_) | (refine setH_as (set_top _ _ _) ?_) | (refine setH_as (set_low _ _ _ _) ?_) | (refine setH_as (set_top' _ _ _ _ _) ?_) | (refine And.intro ?_ trivial) | (refine And.intro rfl ?_) | (refine And.intro (And.intro (by decide) (by decide)) ?_) | (refine And.intro (And.intro (by decide) (And.intro (by decide) (by decide))) ?_) | (refine And.intro (Nat.le_of_ble_eq_true rfl) (And.intro (Nat.le_of_ble_eq_true rfl) ?_)) | (refine And.intro (Nat.le_of_ble_eq_true rfl) ?_) | (refine ask_false (by omega) ?_) | (refine ask_true (by omega) ?_) | (refine ask_wrap64 (by omega) (by omega) ?_) | (refine And.intro (And.intro (by omega) (by omega)) ?_) | (refine fun (_ : InK _ _) => ?_) | (refine ⟨by kernel_rfl, ?_⟩) | fail)
  refine fun z2 hz2 => ?_
  have hk' : 1 ≤ k ∧ k ≤ 2 := by
    rcases hk with rfl | ⟨rfl, _⟩ <;> omega
  repeat' ((conv => whnf); first | (refine lenH_is ?_) | (refine pushH_at ?_) | (refine setH_as (set_top _ _ _) ?_) | (refine setH_as (set_low _ _ _ _) ?_) | (refine setH_as (set_top' _ _ _ _ _) ?_) | (refine And.intro ?_ trivial) | (refine And.intro rfl ?_) | (refine And.intro (And.intro (by decide) (by decide)) ?_) | (refine And.intro (And.intro (by decide) (And.intro (by decide) (by decide))) ?_) | (refine And.intro (Nat.le_of_ble_eq_true rfl) (And.intro (Nat.le_of_ble_eq_true rfl) ?_)) | (refine And.intro (Nat.le_of_ble_eq_true rfl) ?_) | (refine ask_false (by omega) ?_) | (refine ask_true (by omega) ?_) | (refine ask_wrap64 (by omega) (by omega) ?_) | (refine And.intro (And.intro (by omega) (by omega)) ?_) | (refine fun (_ : InK _ _) => ?_) | (refine ⟨by kernel_rfl, ?_⟩) | fail)
  refine ask_wrapu8 (by omega) (by omega) ?_
  repeat' ((conv => whnf); first | (refine lenH_is ?_) | (refine pushH_at ?_) | (refine setH_as (set_top _ _ _) ?_) | (refine setH_as (set_low _ _ _ _) ?_) | (refine setH_as (set_top' _ _ _ _ _) ?_) | (refine And.intro ?_ trivial) | (refine And.intro rfl ?_) | (refine And.intro (And.intro (by decide) (by decide)) ?_) | (refine And.intro (And.intro (by decide) (And.intro (by decide) (by decide))) ?_) | (refine And.intro (Nat.le_of_ble_eq_true rfl) (And.intro (Nat.le_of_ble_eq_true rfl) ?_)) | (refine And.intro (Nat.le_of_ble_eq_true rfl) ?_) | (refine ask_false (by omega) ?_) | (refine ask_true (by omega) ?_) | (refine ask_wrap64 (by omega) (by omega) ?_) | (refine And.intro (And.intro (by omega) (by omega)) ?_) | (refine fun (_ : InK _ _) => ?_) | (refine ⟨by kernel_rfl, ?_⟩) | fail)
  refine fun r hr => ?_
  obtain rfl : r = bitI f 1 + bitI l 2 := hr.trans (or_bits f l)
  repeat' ((conv => whnf); first | (refine lenH_is ?_) | (refine pushH_at ?_) | (refine setH_as (set_top _ _ _) ?_) | (refine setH_as (set_low _ _ _ _) ?_) | (refine setH_as (set_top' _ _ _ _ _) ?_) | (refine And.intro ?_ trivial) | (refine And.intro rfl ?_) | (refine And.intro (And.intro (by decide) (by decide)) ?_) | (refine And.intro (And.intro (by decide) (And.intro (by decide) (by decide))) ?_) | (refine And.intro (Nat.le_of_ble_eq_true rfl) (And.intro (Nat.le_of_ble_eq_true rfl) ?_)) | (refine And.intro (Nat.le_of_ble_eq_true rfl) ?_) | (refine ask_false (by omega) ?_) | (refine ask_true (by omega) ?_) | (refine ask_wrap64 (by omega) (by omega) ?_) | (refine And.intro (And.intro (by omega) (by omega)) ?_) | (refine fun (_ : InK _ _) => ?_) | (refine ⟨by kernel_rfl, ?_⟩) | fail)
  refine ask_wrapu8 (by omega) (by omega) ?_
  repeat' ((conv => whnf); first | (refine lenH_is ?_) | (refine pushH_at ?_) | (refine setH_as (set_top _ _ _) ?_) | (refine setH_as (set_low _ _ _ _) ?_) | (refine setH_as (set_top' _ _ _ _ _) ?_) | (refine And.intro ?_ trivial) | (refine And.intro rfl ?_) | (refine And.intro (And.intro (by decide) (by decide)) ?_) | (refine And.intro (And.intro (by decide) (And.intro (by decide) (by decide))) ?_) | (refine And.intro (Nat.le_of_ble_eq_true rfl) (And.intro (Nat.le_of_ble_eq_true rfl) ?_)) | (refine And.intro (Nat.le_of_ble_eq_true rfl) ?_) | (refine ask_false (by omega) ?_) | (refine ask_true (by omega) ?_) | (refine ask_wrap64 (by omega) (by omega) ?_) | (refine And.intro (And.intro (by omega) (by omega)) ?_) | (refine fun (_ : InK _ _) => ?_) | (refine ⟨by kernel_rfl, ?_⟩) | fail)
  conv => whnf
  refine red_each (by kernel_rfl) ?_
  repeat' ((conv => whnf); first | (refine lenH_is ?_) | (refine pushH_at ?_) | (refine setH_as (set_top _ _ _) ?_) | (refine setH_as (set_low _ _ _ _) ?_) | (refine setH_as (set_top' _ _ _ _ _) ?_) | (refine And.intro ?_ trivial) | (refine And.intro rfl ?_) | (refine And.intro (And.intro (by decide) (by decide)) ?_) | (refine And.intro (And.intro (by decide) (And.intro (by decide) (by decide))) ?_) | (refine And.intro (Nat.le_of_ble_eq_true rfl) (And.intro (Nat.le_of_ble_eq_true rfl) ?_)) | (refine And.intro (Nat.le_of_ble_eq_true rfl) ?_) | (refine ask_false (by omega) ?_) | (refine ask_true (by omega) ?_) | (refine ask_wrap64 (by omega) (by omega) ?_) | (refine And.intro (And.intro (by omega) (by omega)) ?_) | (refine fun (_ : InK _ _) => ?_) | (refine ⟨by kernel_rfl, ?_⟩) | fail)
  refine fun z3 hz3 => ?_
  repeat' ((conv => whnf); first | (refine lenH_is ?_) | (refine pushH_at ?_) | (refine setH_as (set_top _ _ _) ?_) | (refine setH_as (set_low _ _ _ _) ?_) | (refine setH_as (set_top' _ _ _ _ _) ?_) | (refine And.intro ?_ trivial) | (refine And.intro rfl ?_) | (refine And.intro (And.intro (by decide) (by decide)) ?_) | (refine And.intro (And.intro (by decide) (And.intro (by decide) (by decide))) ?_) | (refine And.intro (Nat.le_of_ble_eq_true rfl) (And.intro (Nat.le_of_ble_eq_true rfl) ?_)) | (refine And.intro (Nat.le_of_ble_eq_true rfl) ?_) | (refine ask_false (by omega) ?_) | (refine ask_true (by omega) ?_) | (refine ask_wrap64 (by omega) (by omega) ?_) | (refine And.intro (And.intro (by omega) (by omega)) ?_) | (refine fun (_ : InK _ _) => ?_) | (refine ⟨by kernel_rfl, ?_⟩) | fail)
  conv => whnf
  refine red_each (by kernel_rfl) ?_
  repeat' ((conv => whnf); first | (refine lenH_is ?_) | (refine pushH_at ?_) | (refine setH_as (set_top _ _ _) ?_) | (refine setH_as (set_low _ _ _ _) ?_) | (refine setH_as (set_top' _ _ _ _ _) ?_) | (refine And.intro ?_ trivial) | (refine And.intro rfl ?_) | (refine And.intro (And.intro (by decide) (by decide)) ?_) | (refine And.intro (And.intro (by decide) (And.intro (by decide) (by decide))) ?_) | (refine And.intro (Nat.le_of_ble_eq_true rfl) (And.intro (Nat.le_of_ble_eq_true rfl) ?_)) | (refine And.intro (Nat.le_of_ble_eq_true rfl) ?_) | (refine ask_false (by omega) ?_) | (refine ask_true (by omega) ?_) | (refine ask_wrap64 (by omega) (by omega) ?_) | (refine And.intro (And.intro (by omega) (by omega)) ?_) | (refine fun (_ : InK _ _) => ?_) | (refine ⟨by kernel_rfl, ?_⟩) | fail)
  refine fun y hy => ?_
  repeat' ((conv => whnf); first | (refine lenH_is ?_) | (refine pushH_at ?_) | (refine setH_as (set_top _ _ _) ?_) | (refine setH_as (set_low _ _ _ _) ?_) | (refine setH_as (set_top' _ _ _ _ _) ?_) | (refine And.intro ?_ trivial) | (refine And.intro rfl ?_) | (refine And.intro (And.intro (by decide) (by decide)) ?_) | (refine And.intro (And.intro (by decide) (And.intro (by decide) (by decide))) ?_) | (refine And.intro (Nat.le_of_ble_eq_true rfl) (And.intro (Nat.le_of_ble_eq_true rfl) ?_)) | (refine And.intro (Nat.le_of_ble_eq_true rfl) ?_) | (refine ask_false (by omega) ?_) | (refine ask_true (by omega) ?_) | (refine ask_wrap64 (by omega) (by omega) ?_) | (refine And.intro (And.intro (by omega) (by omega)) ?_) | (refine fun (_ : InK _ _) => ?_) | (refine ⟨by kernel_rfl, ?_⟩) | fail)
  refine fun s4 hs4 => ?_
  repeat' ((conv => whnf); first | (refine lenH_is ?_) | (refine pushH_at ?_) | (refine setH_as (set_top _ _ _) ?_) | (refine setH_as (set_low _ _ _ _) ?_) | (refine setH_as (set_top' _ _ _ _ _) ?_) | (refine And.intro ?_ trivial) | (refine And.intro rfl ?_) | (refine And.intro (And.intro (by decide) (by decide)) ?_) | (refine And.intro (And.intro (by decide) (And.intro (by decide) (by decide))) ?_) | (refine And.intro (Nat.le_of_ble_eq_true rfl) (And.intro (Nat.le_of_ble_eq_true rfl) ?_)) | (refine And.intro (Nat.le_of_ble_eq_true rfl) ?_) | (refine ask_false (by omega) ?_) | (refine ask_true (by omega) ?_) | (refine ask_wrap64 (by omega) (by omega) ?_) | (refine And.intro (And.intro (by omega) (by omega)) ?_) | (refine fun (_ : InK _ _) => ?_) | (refine ⟨by kernel_rfl, ?_⟩) | fail)
  refine fun z4 hz4 => ?_
  repeat' ((conv => whnf); first | (refine lenH_is ?_) | (refine pushH_at ?_) | (refine setH_as (set_top _ _ _) ?_) | (refine setH_as (set_low _ _ _ _) ?_) | (refine setH_as (set_top' _ _ _ _ _) ?_) | (refine And.intro ?_ trivial) | (refine And.intro rfl ?_) | (refine And.intro (And.intro (by decide) (by decide)) ?_) | (refine And.intro (And.intro (by decide) (And.intro (by decide) (by decide))) ?_) | (refine And.intro (Nat.le_of_ble_eq_true rfl) (And.intro (Nat.le_of_ble_eq_true rfl) ?_)) | (refine And.intro (Nat.le_of_ble_eq_true rfl) ?_) | (refine ask_false (by omega) ?_) | (refine ask_true (by omega) ?_) | (refine ask_wrap64 (by omega) (by omega) ?_) | (refine And.intro (And.intro (by omega) (by omega)) ?_) | (refine fun (_ : InK _ _) => ?_) | (refine ⟨by kernel_rfl, ?_⟩) | fail)
  show V.w (pgW z4) = V.w (pgW (layP e n k f l d))
  rw [laid_plain (e := e) (n := n) (k := k) (b := bitI f 1 + bitI l 2) h2 hs1 hz1 hs2 hz2 hz3 hy hs4 hz4]
  rfl
theorem layP_len {e n k : Int} {f l : Bool} {d : ByteArray} (h2 : d.size ≤ 49) : (layP e n k f l d).length = 64 := by
  have := len_bytesI d
  simp [layP, bodyP, Q.four]
  omega
theorem bodyP_u8 {e n k : Int} {f l : Bool} {d : ByteArray} (h : pgR k f l d) : ∀ y ∈ bodyP e n k f l d, InK .u8 y := by
  obtain ⟨hk, h1, h2⟩ := h
  have hk' : 0 ≤ k ∧ k ≤ 255 := by rcases hk with rfl | ⟨rfl, _⟩ <;> omega
  have hb : 0 ≤ bitI f 1 + bitI l 2 ∧ bitI f 1 + bitI l 2 ≤ 255 := by cases f <;> cases l <;> decide
  intro y hy
  unfold bodyP at hy
  rcases List.mem_append.1 hy with hy | hy
  · rcases List.mem_append.1 hy with hy | hy
    · rcases List.mem_append.1 hy with hy | hy
      · rcases List.mem_append.1 hy with hy | hy
        · exact four_u8 _ y hy
        · exact four_u8 _ y hy
      · simp only [List.mem_cons, List.not_mem_nil, or_false] at hy
        rcases hy with rfl | rfl | rfl <;> (simp only [InK, lowK, highK]; omega)
    · simp only [bytesI, List.mem_map] at hy
      obtain ⟨b, _, rfl⟩ := hy
      have := b.toNat_lt
      simp only [InK, lowK, highK]; omega
  · rw [(List.mem_replicate.1 hy).2]; exact ⟨by decide, by decide⟩
theorem layP_u8 {e n k : Int} {f l : Bool} {d : ByteArray} (h : pgR k f l d) : ∀ y ∈ layP e n k f l d, InK .u8 y := fun y hy => by
  rcases List.mem_append.1 hy with hy | hy
  · exact four_u8 _ y hy
  · exact bodyP_u8 h y hy
def ctLaid : Ct := fun ws K => match ws with
  | [.agg [.one (.ci .u32 e), .one (.ci .u32 n), .one (.ci .i64 k), .one (.cb f), .one (.cb l), .one (.cs d)]] => pgR k f l d ∧ ∀ bs, bs = layP e n k f l d → K (.w (pgW bs))
  | _ => False
theorem laid_ct : CtOkG Tryz.prog D.G1 85 ctLaid := by
  intro ws K h hr
  unfold ctLaid at h
  split at h
  · obtain ⟨h1, hK⟩ := h
    exact ⟨_, hK _ rfl, ⟨⟨⟨layP_len h1.2.2, layP_u8 h1⟩, trivial⟩, rfl⟩, fun σ w hg => val_lift6 FLd_ok Tryz.func85 (n := 0) rfl hr rfl (laid_walk h1) σ w hg⟩
  · exact h.elim
def ctLayP : Ct := fun ws K => match ws with
  | [.agg [.one (.ci .u32 e), .one (.ci .u32 n), .one (.ci .i64 k), .one (.cb f), .one (.cb l), .one (.cs d)]] => pgR k f l d ∧ ∀ bs, bs = layP e n k f l d → K (.tup [pgW bs, i64 0])
  | _ => False
noncomputable def FLy : Fns := (F0.plus 84 ctPRight).plus 85 ctLaid
theorem FLy_ok : FnsOk Tryz.prog FLy D.G1 := (D.F0_okg.plusG pright_ct Tryz.func84 (by kernel_rfl) (by kernel_rfl)).plusG laid_ct Tryz.func85 (by kernel_rfl) (by kernel_rfl)
theorem layP_walk {e n k : Int} {f l : Bool} {d : ByteArray} (h : pgR k f l d) : walk6 FLy 0 Tryz.f130 [pqW e n k f l d] [] fun y _ => y = .tup [pgW (layP e n k f l d), i64 0] := by
  repeat' ((conv => whnf); first | (refine lenH_is ?_) | (refine pushH_at ?_) | (refine setH_as (set_top _ _ _) ?_) | (refine setH_as (set_low _ _ _ _) ?_) | (refine setH_as (set_top' _ _ _ _ _) ?_) | (refine And.intro ?_ trivial) | (refine And.intro rfl ?_) | (refine And.intro (And.intro (by decide) (by decide)) ?_) | (refine And.intro (And.intro (by decide) (And.intro (by decide) (by decide))) ?_) | (refine And.intro (Nat.le_of_ble_eq_true rfl) (And.intro (Nat.le_of_ble_eq_true rfl) ?_)) | (refine And.intro (Nat.le_of_ble_eq_true rfl) ?_) | (refine ask_false (by omega) ?_) | (refine ask_true (by omega) ?_) | (refine ask_wrap64 (by omega) (by omega) ?_) | (refine And.intro (And.intro (by omega) (by omega)) ?_) | (refine fun (_ : InK _ _) => ?_) | (refine ⟨by kernel_rfl, ?_⟩) | fail)
  refine And.intro h ?_
  repeat' ((conv => whnf); first | (refine lenH_is ?_) | (refine pushH_at ?_) | (refine setH_as (set_top _ _ _) ?_) | (refine setH_as (set_low _ _ _ _) ?_) | (refine setH_as (set_top' _ _ _ _ _) ?_) | (refine And.intro ?_ trivial) | (refine And.intro rfl ?_) | (refine And.intro (And.intro (by decide) (by decide)) ?_) | (refine And.intro (And.intro (by decide) (And.intro (by decide) (by decide))) ?_) | (refine And.intro (Nat.le_of_ble_eq_true rfl) (And.intro (Nat.le_of_ble_eq_true rfl) ?_)) | (refine And.intro (Nat.le_of_ble_eq_true rfl) ?_) | (refine ask_false (by omega) ?_) | (refine ask_true (by omega) ?_) | (refine ask_wrap64 (by omega) (by omega) ?_) | (refine And.intro (And.intro (by omega) (by omega)) ?_) | (refine fun (_ : InK _ _) => ?_) | (refine ⟨by kernel_rfl, ?_⟩) | fail)
  refine And.intro h fun bs hbs => ?_
  repeat' ((conv => whnf); first | (refine lenH_is ?_) | (refine pushH_at ?_) | (refine setH_as (set_top _ _ _) ?_) | (refine setH_as (set_low _ _ _ _) ?_) | (refine setH_as (set_top' _ _ _ _ _) ?_) | (refine And.intro ?_ trivial) | (refine And.intro rfl ?_) | (refine And.intro (And.intro (by decide) (by decide)) ?_) | (refine And.intro (And.intro (by decide) (And.intro (by decide) (by decide))) ?_) | (refine And.intro (Nat.le_of_ble_eq_true rfl) (And.intro (Nat.le_of_ble_eq_true rfl) ?_)) | (refine And.intro (Nat.le_of_ble_eq_true rfl) ?_) | (refine ask_false (by omega) ?_) | (refine ask_true (by omega) ?_) | (refine ask_wrap64 (by omega) (by omega) ?_) | (refine And.intro (And.intro (by omega) (by omega)) ?_) | (refine fun (_ : InK _ _) => ?_) | (refine ⟨by kernel_rfl, ?_⟩) | fail)
  rw [hbs]; rfl
theorem play_ct : CtOkG Tryz.prog D.G1 130 ctLayP := by
  intro ws K h hr
  unfold ctLayP at h
  split at h
  · obtain ⟨h1, hK⟩ := h
    exact ⟨_, hK _ rfl, ⟨⟨⟨⟨layP_len h1.2.2, layP_u8 h1⟩, trivial⟩, ⟨by decide, by decide⟩, trivial⟩, rfl⟩, fun σ w hg => val_lift6 FLy_ok Tryz.func130 (n := 0) rfl hr rfl (layP_walk h1) σ w hg⟩
  · exact h.elim
noncomputable def FPr : Fns := (((F0.plus 84 ctPRight).plus 85 ctLaid).plus 45 B.ctNum).plus 21 Q.ctSum
theorem FPr_ok : FnsOk Tryz.prog FPr D.G1 := (((D.F0_okg.plusG pright_ct Tryz.func84 (by kernel_rfl) (by kernel_rfl)).plusG laid_ct Tryz.func85 (by kernel_rfl) (by kernel_rfl)).plus B.num_ct Tryz.func45 (by kernel_rfl) (by kernel_rfl)).plus Q.sum_ct Tryz.func21 (by kernel_rfl) (by kernel_rfl)
theorem pread_bad {bs : List Int} (hl : bs.length = 64) (hin : ∀ y ∈ bs, InK .u8 y) (h : B.le4 bs ≠ Q.sumS (strOfNums (bs.drop 4))) : walk6 FPr 0 Tryz.f52 [pgW bs] [] fun y _ => y = .tup [pqW 0 0 0 false false ⟨#[]⟩, i64 3] := by
  have E0 : List.take (64 - 0) (List.drop (mulN 0 (Tryz.prog.types[5]).size) bs) = bs := by
    show List.take 64 (List.drop 0 bs) = bs
    rw [List.drop_zero, List.take_of_length_le (by omega)]
  have E1 : 4 ≤ (strOfNums (List.take (64 - 0) (List.drop (mulN 0 (Tryz.prog.types[5]).size) bs))).size ∧ (strOfNums (List.take (64 - 0) (List.drop (mulN 0 (Tryz.prog.types[5]).size) bs))).size = 64 := by
    rw [E0, strOfNums_size, hl]; decide
  repeat' ((conv => whnf); first | (refine lenH_is ?_) | (refine pushH_at ?_) | (refine setH_as (set_top _ _ _) ?_) | (refine setH_as (set_low _ _ _ _) ?_) | (refine setH_as (set_top' _ _ _ _ _) ?_) | (refine And.intro ?_ trivial) | (refine And.intro rfl ?_) | (refine And.intro (And.intro (by decide) (by decide)) ?_) | (refine And.intro (And.intro (by decide) (And.intro (by decide) (by decide))) ?_) | (refine And.intro (Nat.le_of_ble_eq_true rfl) (And.intro (Nat.le_of_ble_eq_true rfl) ?_)) | (refine And.intro (Nat.le_of_ble_eq_true rfl) ?_) | (refine ask_false (by omega) ?_) | (refine ask_true (by omega) ?_) | (refine ask_wrap64 (by omega) (by omega) ?_) | (refine And.intro (And.intro (by omega) (by omega)) ?_) | (refine fun (_ : InK _ _) => ?_) | (refine ⟨by kernel_rfl, ?_⟩) | fail)
  refine And.intro E1.1 fun v hv h0 h1 => ?_
  rw [E0, bytesI_str hin] at hv
  repeat' ((conv => whnf); first | (refine lenH_is ?_) | (refine pushH_at ?_) | (refine setH_as (set_top _ _ _) ?_) | (refine setH_as (set_low _ _ _ _) ?_) | (refine setH_as (set_top' _ _ _ _ _) ?_) | (refine And.intro ?_ trivial) | (refine And.intro rfl ?_) | (refine And.intro (And.intro (by decide) (by decide)) ?_) | (refine And.intro (And.intro (by decide) (And.intro (by decide) (by decide))) ?_) | (refine And.intro (Nat.le_of_ble_eq_true rfl) (And.intro (Nat.le_of_ble_eq_true rfl) ?_)) | (refine And.intro (Nat.le_of_ble_eq_true rfl) ?_) | (refine ask_false (by omega) ?_) | (refine ask_true (by omega) ?_) | (refine ask_wrap64 (by omega) (by omega) ?_) | (refine And.intro (And.intro (by omega) (by omega)) ?_) | (refine fun (_ : InK _ _) => ?_) | (refine ⟨by kernel_rfl, ?_⟩) | fail)
  refine fun y hy => ?_
  have hs : (strOfNums (List.take (64 - 0) (List.drop (mulN 0 (Tryz.prog.types[5]).size) bs))).extract (natI 4) (strOfNums (List.take (64 - 0) (List.drop (mulN 0 (Tryz.prog.types[5]).size) bs))).size = strOfNums (bs.drop 4) := by
    rw [E0]; exact B.str_drop bs hin 4
  rw [hs] at hy
  have hne : v ≠ y := by rw [hv, hy]; exact h
  repeat' ((conv => whnf); first | (refine lenH_is ?_) | (refine pushH_at ?_) | (refine setH_as (set_top _ _ _) ?_) | (refine setH_as (set_low _ _ _ _) ?_) | (refine setH_as (set_top' _ _ _ _ _) ?_) | (refine And.intro ?_ trivial) | (refine And.intro rfl ?_) | (refine And.intro (And.intro (by decide) (by decide)) ?_) | (refine And.intro (And.intro (by decide) (And.intro (by decide) (by decide))) ?_) | (refine And.intro (Nat.le_of_ble_eq_true rfl) (And.intro (Nat.le_of_ble_eq_true rfl) ?_)) | (refine And.intro (Nat.le_of_ble_eq_true rfl) ?_) | (refine ask_false (by omega) ?_) | (refine ask_true (by omega) ?_) | (refine ask_wrap64 (by omega) (by omega) ?_) | (refine And.intro (And.intro (by omega) (by omega)) ?_) | (refine fun (_ : InK _ _) => ?_) | (refine ⟨by kernel_rfl, ?_⟩) | fail)
  rfl
theorem layP_facts {e n k : Int} {f l : Bool} {d : ByteArray} (he : InK .u32 e) (hn : InK .u32 n) (h2 : d.size ≤ 49) (bs : List Int) (hbs : bs = layP e n k f l d) :
    B.le4 bs = Q.sumS (strOfNums (bs.drop 4)) ∧ B.le4 (bs.drop 4) = e ∧ B.le4 (bs.drop 8) = n ∧ bs.getD 12 0 = k ∧ bs.getD 13 0 = bitI f 1 + bitI l 2 ∧ bs.getD 14 0 = d.size ∧ ((bs.drop 15).take d.size) = bytesI d := by
  have four4 : ∀ (x : Int) (t : List Int), InK .u32 x → B.le4 (Q.four x ++ t) = x := fun x t hx => by
    have h1 := hx.1
    have h2 := hx.2
    simp only [lowK, highK] at h1 h2
    show x % 256 + 256 * (x / 256 % 256) + 65536 * (x / 65536 % 256) + 16777216 * (x / 16777216 % 256) = x
    omega
  have hsum : InK .u32 (Q.sumS (strOfNums (bodyP e n k f l d))) := Q.bits_in _ _ _ _
  subst hbs
  have hl := len_bytesI d
  refine ⟨?_, ?_, ?_, rfl, rfl, rfl, ?_⟩
  · rw [show (layP e n k f l d).drop 4 = bodyP e n k f l d from rfl]
    exact four4 _ _ hsum
  · rw [show (layP e n k f l d).drop 4 = bodyP e n k f l d from rfl]
    unfold bodyP
    rw [List.append_assoc, List.append_assoc, List.append_assoc]
    exact four4 _ _ he
  · rw [show (layP e n k f l d).drop 8 = Q.four n ++ ([k, bitI f 1 + bitI l 2, (d.size : Int)] ++ bytesI d ++ List.replicate (49 - d.size) 0) from rfl]
    exact four4 _ _ hn
  · rw [show (layP e n k f l d).drop 15 = bytesI d ++ List.replicate (49 - d.size) 0 from rfl, ← hl, List.take_left' rfl]
theorem pread_ok {e n k : Int} {f l : Bool} {d : ByteArray} (he : InK .u32 e) (hn : InK .u32 n) (hp : pgR k f l d) {bs : List Int} (hbs : bs = layP e n k f l d) : walk6 FPr 0 Tryz.f52 [pgW bs] [] fun y _ => y = .tup [pqW e n k f l d, i64 0] := by
  obtain ⟨q1, q2, q3, q4, q5, q6, q7⟩ := layP_facts he hn hp.2.2 bs hbs
  have hl : bs.length = 64 := by rw [hbs]; exact layP_len hp.2.2
  have hin : ∀ y ∈ bs, InK .u8 y := by rw [hbs]; exact layP_u8 hp
  have E0 : List.take (64 - 0) (List.drop (mulN 0 (Tryz.prog.types[5]).size) bs) = bs := by
    show List.take 64 (List.drop 0 bs) = bs
    rw [List.drop_zero, List.take_of_length_le (by omega)]
  have E1 : 4 ≤ (strOfNums (List.take (64 - 0) (List.drop (mulN 0 (Tryz.prog.types[5]).size) bs))).size ∧ (strOfNums (List.take (64 - 0) (List.drop (mulN 0 (Tryz.prog.types[5]).size) bs))).size = 64 := by
    rw [E0, strOfNums_size, hl]; decide
  repeat' ((conv => whnf); first | (refine lenH_is ?_) | (refine pushH_at ?_) | (refine setH_as (set_top _ _ _) ?_) | (refine setH_as (set_low _ _ _ _) ?_) | (refine setH_as (set_top' _ _ _ _ _) ?_) | (refine And.intro ?_ trivial) | (refine And.intro rfl ?_) | (refine And.intro (And.intro (by decide) (by decide)) ?_) | (refine And.intro (And.intro (by decide) (And.intro (by decide) (by decide))) ?_) | (refine And.intro (Nat.le_of_ble_eq_true rfl) (And.intro (Nat.le_of_ble_eq_true rfl) ?_)) | (refine And.intro (Nat.le_of_ble_eq_true rfl) ?_) | (refine ask_false (by omega) ?_) | (refine ask_true (by omega) ?_) | (refine ask_wrap64 (by omega) (by omega) ?_) | (refine And.intro (And.intro (by omega) (by omega)) ?_) | (refine fun (_ : InK _ _) => ?_) | (refine ⟨by kernel_rfl, ?_⟩) | fail)
  refine And.intro E1.1 fun v hv h0 h1 => ?_
  rw [E0, bytesI_str hin] at hv
  repeat' ((conv => whnf); first | (refine lenH_is ?_) | (refine pushH_at ?_) | (refine setH_as (set_top _ _ _) ?_) | (refine setH_as (set_low _ _ _ _) ?_) | (refine setH_as (set_top' _ _ _ _ _) ?_) | (refine And.intro ?_ trivial) | (refine And.intro rfl ?_) | (refine And.intro (And.intro (by decide) (by decide)) ?_) | (refine And.intro (And.intro (by decide) (And.intro (by decide) (by decide))) ?_) | (refine And.intro (Nat.le_of_ble_eq_true rfl) (And.intro (Nat.le_of_ble_eq_true rfl) ?_)) | (refine And.intro (Nat.le_of_ble_eq_true rfl) ?_) | (refine ask_false (by omega) ?_) | (refine ask_true (by omega) ?_) | (refine ask_wrap64 (by omega) (by omega) ?_) | (refine And.intro (And.intro (by omega) (by omega)) ?_) | (refine fun (_ : InK _ _) => ?_) | (refine ⟨by kernel_rfl, ?_⟩) | fail)
  refine fun y hy => ?_
  have hs : (strOfNums (List.take (64 - 0) (List.drop (mulN 0 (Tryz.prog.types[5]).size) bs))).extract (natI 4) (strOfNums (List.take (64 - 0) (List.drop (mulN 0 (Tryz.prog.types[5]).size) bs))).size = strOfNums (bs.drop 4) := by
    rw [E0]; exact B.str_drop bs hin 4
  rw [hs] at hy
  have heq : v = y := by rw [hv, hy]; exact q1
  have g12 : bs.getD (mulN (Int.toNat 12) (Tryz.prog.types[5]).size) 0 = k := q4
  have g13 : bs.getD (mulN (Int.toNat 13) (Tryz.prog.types[5]).size) 0 = bitI f 1 + bitI l 2 := q5
  have g14 : bs.getD (mulN (Int.toNat 14) (Tryz.prog.types[5]).size) 0 = (d.size : Int) := q6
  have h49 := hp.2
  have hk' : 1 ≤ k ∧ k ≤ 2 := by rcases hp.1 with h | ⟨h, _⟩ <;> omega
  have hs8 : (strOfNums (List.take (64 - 0) (List.drop (mulN 0 (Tryz.prog.types[5]).size) bs))).extract (natI 8) (strOfNums (List.take (64 - 0) (List.drop (mulN 0 (Tryz.prog.types[5]).size) bs))).size = strOfNums (bs.drop 8) := by
    rw [E0]; exact B.str_drop bs hin 8
  have eN : natI ((15 : Int) + min (bs.getD (mulN (Int.toNat 14) (Tryz.prog.types[5]).size) 0) 49) = 15 + d.size := by
    rw [g14]; unfold natI; omega
  have hd : (strOfNums (List.take (64 - 0) (List.drop (mulN 0 (Tryz.prog.types[5]).size) bs))).extract (natI 15) (natI ((15 : Int) + min (bs.getD (mulN (Int.toNat 14) (Tryz.prog.types[5]).size) 0) 49)) = d := by
    rw [E0, eN]
    show (strOfNums bs).extract 15 (15 + d.size) = d
    have : bytesI ((strOfNums bs).extract 15 (15 + d.size)) = bytesI d := by
      rw [B.bytesI_ext, bytesI_str hin, List.drop_take, Nat.add_sub_cancel_left]
      exact q7
    rw [← str_bytesI ((strOfNums bs).extract 15 (15 + d.size)), this, str_bytesI]
  have sz4 : 4 ≤ (strOfNums (bs.drop 4)).size := by rw [strOfNums_size, List.length_drop]; omega
  have sz8 : 4 ≤ (strOfNums (bs.drop 8)).size := by rw [strOfNums_size, List.length_drop]; omega
  repeat' ((conv => whnf); first | (refine lenH_is ?_) | (refine pushH_at ?_) | (refine setH_as (set_top _ _ _) ?_) | (refine setH_as (set_low _ _ _ _) ?_) | (refine setH_as (set_top' _ _ _ _ _) ?_) | (refine And.intro ?_ trivial) | (refine And.intro rfl ?_) | (refine And.intro (And.intro (by decide) (by decide)) ?_) | (refine And.intro (And.intro (by decide) (And.intro (by decide) (by decide))) ?_) | (refine And.intro (Nat.le_of_ble_eq_true rfl) (And.intro (Nat.le_of_ble_eq_true rfl) ?_)) | (refine And.intro (Nat.le_of_ble_eq_true rfl) ?_) | (refine ask_false (by omega) ?_) | (refine ask_true (by omega) ?_) | (refine ask_wrap64 (by omega) (by omega) ?_) | (refine And.intro (And.intro (by omega) (by omega)) ?_) | (refine fun (_ : InK _ _) => ?_) | (refine ⟨by kernel_rfl, ?_⟩) | fail)
  refine And.intro (by rw [hs]; exact sz4) fun v1 hv1 _ _ => ?_
  obtain rfl : v1 = e := by rw [hv1, hs, bytesI_str fun y hy => hin y (List.mem_of_mem_drop hy)]; exact q2
  repeat' ((conv => whnf); first | (refine lenH_is ?_) | (refine pushH_at ?_) | (refine setH_as (set_top _ _ _) ?_) | (refine setH_as (set_low _ _ _ _) ?_) | (refine setH_as (set_top' _ _ _ _ _) ?_) | (refine And.intro ?_ trivial) | (refine And.intro rfl ?_) | (refine And.intro (And.intro (by decide) (by decide)) ?_) | (refine And.intro (And.intro (by decide) (And.intro (by decide) (by decide))) ?_) | (refine And.intro (Nat.le_of_ble_eq_true rfl) (And.intro (Nat.le_of_ble_eq_true rfl) ?_)) | (refine And.intro (Nat.le_of_ble_eq_true rfl) ?_) | (refine ask_false (by omega) ?_) | (refine ask_true (by omega) ?_) | (refine ask_wrap64 (by omega) (by omega) ?_) | (refine And.intro (And.intro (by omega) (by omega)) ?_) | (refine fun (_ : InK _ _) => ?_) | (refine ⟨by kernel_rfl, ?_⟩) | fail)
  refine And.intro (by rw [hs8]; exact sz8) fun v2 hv2 _ _ => ?_
  obtain rfl : v2 = n := by rw [hv2, hs8, bytesI_str fun y hy => hin y (List.mem_of_mem_drop hy)]; exact q3
  repeat' ((conv => whnf); first | (refine lenH_is ?_) | (refine pushH_at ?_) | (refine setH_as (set_top _ _ _) ?_) | (refine setH_as (set_low _ _ _ _) ?_) | (refine setH_as (set_top' _ _ _ _ _) ?_) | (refine And.intro ?_ trivial) | (refine And.intro rfl ?_) | (refine And.intro (And.intro (by decide) (by decide)) ?_) | (refine And.intro (And.intro (by decide) (And.intro (by decide) (by decide))) ?_) | (refine And.intro (Nat.le_of_ble_eq_true rfl) (And.intro (Nat.le_of_ble_eq_true rfl) ?_)) | (refine And.intro (Nat.le_of_ble_eq_true rfl) ?_) | (refine ask_false (by omega) ?_) | (refine ask_true (by omega) ?_) | (refine ask_wrap64 (by omega) (by omega) ?_) | (refine And.intro (And.intro (by omega) (by omega)) ?_) | (refine fun (_ : InK _ _) => ?_) | (refine ⟨by kernel_rfl, ?_⟩) | fail)
  conv => whnf
  refine fun r1 hr1 => ?_
  rw [g13] at hr1
  have hr1' : r1 = bitI f 1 := by rw [hr1]; cases f <;> cases l <;> kernel_rfl
  conv => whnf
  refine ask_is (f := f) (by rw [hr1']; cases f <;> rfl) ?_
  repeat' ((conv => whnf); first | (refine lenH_is ?_) | (refine pushH_at ?_) | (refine setH_as (set_top _ _ _) ?_) | (refine setH_as (set_low _ _ _ _) ?_) | (refine setH_as (set_top' _ _ _ _ _) ?_) | (refine And.intro ?_ trivial) | (refine And.intro rfl ?_) | (refine And.intro (And.intro (by decide) (by decide)) ?_) | (refine And.intro (And.intro (by decide) (And.intro (by decide) (by decide))) ?_) | (refine And.intro (Nat.le_of_ble_eq_true rfl) (And.intro (Nat.le_of_ble_eq_true rfl) ?_)) | (refine And.intro (Nat.le_of_ble_eq_true rfl) ?_) | (refine ask_false (by omega) ?_) | (refine ask_true (by omega) ?_) | (refine ask_wrap64 (by omega) (by omega) ?_) | (refine And.intro (And.intro (by omega) (by omega)) ?_) | (refine fun (_ : InK _ _) => ?_) | (refine ⟨by kernel_rfl, ?_⟩) | fail)
  conv => whnf
  refine fun r2 hr2 => ?_
  rw [g13] at hr2
  have hr2' : r2 = bitI l 2 := by rw [hr2]; cases f <;> cases l <;> kernel_rfl
  conv => whnf
  refine ask_is (f := l) (by rw [hr2']; cases l <;> rfl) ?_
  repeat' ((conv => whnf); first | (refine lenH_is ?_) | (refine pushH_at ?_) | (refine setH_as (set_top _ _ _) ?_) | (refine setH_as (set_low _ _ _ _) ?_) | (refine setH_as (set_top' _ _ _ _ _) ?_) | (refine And.intro ?_ trivial) | (refine And.intro rfl ?_) | (refine And.intro (And.intro (by decide) (by decide)) ?_) | (refine And.intro (And.intro (by decide) (And.intro (by decide) (by decide))) ?_) | (refine And.intro (Nat.le_of_ble_eq_true rfl) (And.intro (Nat.le_of_ble_eq_true rfl) ?_)) | (refine And.intro (Nat.le_of_ble_eq_true rfl) ?_) | (refine ask_false (by omega) ?_) | (refine ask_true (by omega) ?_) | (refine ask_wrap64 (by omega) (by omega) ?_) | (refine And.intro (And.intro (by omega) (by omega)) ?_) | (refine fun (_ : InK _ _) => ?_) | (refine ⟨by kernel_rfl, ?_⟩) | fail)
  refine And.intro (by rw [g12, hd]; exact hp) ?_
  repeat' ((conv => whnf); first | (refine lenH_is ?_) | (refine pushH_at ?_) | (refine setH_as (set_top _ _ _) ?_) | (refine setH_as (set_low _ _ _ _) ?_) | (refine setH_as (set_top' _ _ _ _ _) ?_) | (refine And.intro ?_ trivial) | (refine And.intro rfl ?_) | (refine And.intro (And.intro (by decide) (by decide)) ?_) | (refine And.intro (And.intro (by decide) (And.intro (by decide) (by decide))) ?_) | (refine And.intro (Nat.le_of_ble_eq_true rfl) (And.intro (Nat.le_of_ble_eq_true rfl) ?_)) | (refine And.intro (Nat.le_of_ble_eq_true rfl) ?_) | (refine ask_false (by omega) ?_) | (refine ask_true (by omega) ?_) | (refine ask_wrap64 (by omega) (by omega) ?_) | (refine And.intro (And.intro (by omega) (by omega)) ?_) | (refine fun (_ : InK _ _) => ?_) | (refine ⟨by kernel_rfl, ?_⟩) | fail)
  refine And.intro (by rw [g12, hd]; exact hp) fun b1 hb1 => ?_
  rw [g12, hd, ← hbs] at hb1
  repeat' ((conv => whnf); first | (refine lenH_is ?_) | (refine pushH_at ?_) | (refine setH_as (set_top _ _ _) ?_) | (refine setH_as (set_low _ _ _ _) ?_) | (refine setH_as (set_top' _ _ _ _ _) ?_) | (refine And.intro ?_ trivial) | (refine And.intro rfl ?_) | (refine And.intro (And.intro (by decide) (by decide)) ?_) | (refine And.intro (And.intro (by decide) (And.intro (by decide) (by decide))) ?_) | (refine And.intro (Nat.le_of_ble_eq_true rfl) (And.intro (Nat.le_of_ble_eq_true rfl) ?_)) | (refine And.intro (Nat.le_of_ble_eq_true rfl) ?_) | (refine ask_false (by omega) ?_) | (refine ask_true (by omega) ?_) | (refine ask_wrap64 (by omega) (by omega) ?_) | (refine And.intro (And.intro (by omega) (by omega)) ?_) | (refine fun (_ : InK _ _) => ?_) | (refine ⟨by kernel_rfl, ?_⟩) | fail)
  refine ask_neq hb1 ?_
  repeat' ((conv => whnf); first | (refine lenH_is ?_) | (refine pushH_at ?_) | (refine setH_as (set_top _ _ _) ?_) | (refine setH_as (set_low _ _ _ _) ?_) | (refine setH_as (set_top' _ _ _ _ _) ?_) | (refine And.intro ?_ trivial) | (refine And.intro rfl ?_) | (refine And.intro (And.intro (by decide) (by decide)) ?_) | (refine And.intro (And.intro (by decide) (And.intro (by decide) (by decide))) ?_) | (refine And.intro (Nat.le_of_ble_eq_true rfl) (And.intro (Nat.le_of_ble_eq_true rfl) ?_)) | (refine And.intro (Nat.le_of_ble_eq_true rfl) ?_) | (refine ask_false (by omega) ?_) | (refine ask_true (by omega) ?_) | (refine ask_wrap64 (by omega) (by omega) ?_) | (refine And.intro (And.intro (by omega) (by omega)) ?_) | (refine fun (_ : InK _ _) => ?_) | (refine ⟨by kernel_rfl, ?_⟩) | fail)
  show V.tup [pqW v1 v2 (bs.getD (mulN (Int.toNat 12) (Tryz.prog.types[5]).size) 0) f l _, i64 0] = _
  rw [g12, hd]
def ctPRead : Ct := fun ws K => match ws with
  | [.agg [.ints .u8 m bs]] => m = 64 ∧ ((∃ e n k f l d, (InK .u32 e ∧ InK .u32 n ∧ pgR k f l d) ∧ bs = layP e n k f l d ∧ K (.tup [pqW e n k f l d, i64 0])) ∨ (B.le4 bs ≠ Q.sumS (strOfNums (bs.drop 4)) ∧ K (.tup [pqW 0 0 0 false false ⟨#[]⟩, i64 3])))
  | _ => False
theorem pread_ct : CtOkG Tryz.prog D.G1 52 ctPRead := by
  intro ws K h hr
  unfold ctPRead at h
  split at h
  · rename_i m bs
    obtain ⟨rfl, ⟨e, n, k, f, l, d, ⟨he, hn, hp⟩, hbs, hK⟩ | ⟨hne, hK⟩⟩ := h
    · refine ⟨_, hK, ⟨⟨⟨he, hn, ?_, trivial, trivial, ?_, trivial⟩, ⟨by decide, by decide⟩, trivial⟩, rfl⟩, fun σ w hg => val_lift6 FPr_ok Tryz.func52 (n := 0) rfl hr rfl (pread_ok he hn hp hbs) σ w hg⟩
      · have : 1 ≤ k ∧ k ≤ 2 := by rcases hp.1 with h | ⟨h, _⟩ <;> omega
        show InK .i64 k
        simp only [InK, lowK, highK]; omega
      · have := hp.2
        show d.size ≤ _
        omega
    · exact ⟨_, hK, ⟨⟨⟨⟨by decide, by decide⟩, ⟨by decide, by decide⟩, ⟨by decide, by decide⟩, trivial, trivial, Nat.zero_le _, trivial⟩, ⟨by decide, by decide⟩, trivial⟩, rfl⟩, fun σ w hg => val_lift6 FPr_ok Tryz.func52 (n := 0) rfl hr rfl (pread_bad hr.1.1.1 hr.1.1.2 hne) σ w hg⟩
  · exact h.elim
theorem zero_bad : B.le4 pgZ ≠ Q.sumS (strOfNums (pgZ.drop 4)) := by
  have e : Q.sumS (strOfNums (pgZ.drop 4)) = 1510671665 := by
    unfold Q.sumS
    rw [Q.turnS_def]
    kernel_rfl
  rw [e]
  decide
end R
end Go.Proofs.YtaficaacogcblaaGreatDoor
set_option linter.all false
namespace Go.Proofs.YtaficaacogcblaaGreatDoor
namespace R
open Go.RowKit (Below)
set_option maxRecDepth 100000
set_option maxHeartbeats 16000000
abbrev joS (b : Bool) (e : Int) (r : ByteArray) (rest : List Seg) : List Seg := .one (.cb b) :: .one (.ci .u32 e) :: .one (.cs r) :: rest
theorem fits_walk {H : List Blk} (hH : HOk H) {j T : Nat} {b : Bool} {e0 : Int} {r : ByteArray} {rest : List Seg} (hj : H[j]? = some (.own T (joS b e0 r rest))) {e n k : Int} {f l : Bool} {d : ByteArray} (hf : f = !b) (he : b = false ∨ e = e0) (hs : r.size + d.size ≤ 4096) :
    walk6 F0 0 Tryz.f86 [.c (.cp j 0), pqW e n k f l d] H fun y H' => y = vb true ∧ UpT [] H H' := by
  subst hf
  have u1 : UpT [] H (H ++ [.own 127 (pq e n k (!b) l d)]) := (UpT.refl hH.bnd).app rfl
  cases b
  · repeat' ((conv => whnf); first | (refine lenH_is ?_) | (refine pushH_at ?_) | (refine maskB_as fun Hm hl hm => ?_) | (refine hGet_at (hm j _ (up_get hj) (by simp)) ?_) | (refine hGet_at (hm _ _ (up_top _ _) (by simp)) ?_) | (refine ⟨by kernel_rfl, ?_⟩) | (refine ask_true rfl ?_) | (refine ask_true (by omega) ?_) | (refine ask_true (by decide) ?_) | (refine ask_wrap64 (by omega) (by omega) ?_) | (refine ask_false (by omega) ?_) | (refine ask_true he' ?_) | fail)
    exact u1
  · have he' : e = e0 := by rcases he with h | h; cases h; exact h
    repeat' ((conv => whnf); first | (refine lenH_is ?_) | (refine pushH_at ?_) | (refine maskB_as fun Hm hl hm => ?_) | (refine hGet_at (hm j _ (up_get hj) (by simp)) ?_) | (refine hGet_at (hm _ _ (up_top _ _) (by simp)) ?_) | (refine ⟨by kernel_rfl, ?_⟩) | (refine ask_true rfl ?_) | (refine ask_true (by omega) ?_) | (refine ask_true (by decide) ?_) | (refine ask_wrap64 (by omega) (by omega) ?_) | (refine ask_false (by omega) ?_) | (refine ask_true he' ?_) | fail)
    exact u1
def hFits : HCt := fun ws H K => match ws with
  | [.c (.cp j 0), .agg [.one (.ci .u32 e), .one (.ci .u32 _), .one (.ci .i64 _), .one (.cb f), .one (.cb _), .one (.cs d)]] => ∃ T b e0 r rest, H[j]? = some (.own T (joS b e0 r rest)) ∧ (f = (!b) ∧ (b = false ∨ e = e0) ∧ r.size + d.size ≤ 4096) ∧ ∀ H', UpT [] H H' → K (vb true) H'
  | _ => False
theorem fits_ct : HCtOkG Tryz.prog D.G1 86 hFits := by
  intro ws H K h hr hb ho σ base w₀ w hw
  unfold hFits at h
  split at h
  · rename_i j e n k f l d
    obtain ⟨T, b, e0, r, rest, hj, ⟨h1, h2, h3⟩, hK⟩ := h
    exact heap_lift6 D.F0_okg Tryz.func86 (n := 0) (ws := [.c (.cp j 0), pqW e n k f l d]) hr hb ho (fits_walk ho hj h1 h2 h3) (fun x H' hP => by
      obtain ⟨rfl, u⟩ := hP
      exact hK H' u) σ base w₀ w hw
  · exact h.elim
abbrev scS (b : Bool) (e : Int) (r : ByteArray) (v : C) (at' nx ep ms : Int) (br : Bool) : List Seg := joS b e r [.one v, .one (.ci .i64 at'), .one (.ci .i64 nx), .one (.ci .u32 ep), .one (.ci .u32 ms), .one (.cb br)]
abbrev scB (b : Bool) (e : Int) (r : ByteArray) (v : C) (at' nx ep ms : Int) (br : Bool) : Blk := .own 96 (scS b e r v at' nx ep ms br)
noncomputable def FTk : Fns := (((F0.plus 84 ctPRight).over 86 hFits).every 86).every 777777
theorem FTk_ok : FnsOk Tryz.prog FTk D.G1 := (((D.F0_okg.plusG pright_ct Tryz.func84 (by kernel_rfl) (by kernel_rfl)).overG fits_ct Tryz.func86 (by kernel_rfl) (by kernel_rfl)).every _).every _
theorem take_head {H : List Blk} (hH : HOk H) {j : Nat} {e n k : Int} {f l : Bool} {d : ByteArray} (hp : pgR k f l d) (hk : k ≠ 2) : walk6 FTk 0 Tryz.f55 [.c (.cp j 0), pqW e n k f l d] H fun y H' => y = .tup [.c (.cs ⟨#[]⟩), .c (.cb false), i64 0] ∧ UpT [] H H' := by
  have u1 : UpT [] H (H ++ [.own 127 (pq e n k f l d)]) := (UpT.refl hH.bnd).app rfl
  repeat' ((conv => whnf); first | (refine lenH_is ?_) | (refine pushH_at ?_) | (refine setH_as (set_top _ _ _) ?_) | (refine setH_as (set_low _ _ _ _) ?_) | (refine setH_as (set_top' _ _ _ _ _) ?_) | (refine hGet_at (up_top _ _) ?_) | (refine And.intro ?_ trivial) | (refine And.intro rfl ?_) | (refine And.intro (And.intro (by decide) (by decide)) ?_) | (refine And.intro (And.intro (by decide) (And.intro (by decide) (by decide))) ?_) | (refine And.intro (Nat.le_of_ble_eq_true rfl) (And.intro (Nat.le_of_ble_eq_true rfl) ?_)) | (refine And.intro (Nat.le_of_ble_eq_true rfl) ?_) | (refine ask_false (by omega) ?_) | (refine ask_true (by omega) ?_) | (refine ask_wrap64 (by omega) (by omega) ?_) | (refine And.intro (And.intro (by omega) (by omega)) ?_) | (refine fun (_ : InK _ _) => ?_) | (refine ⟨by kernel_rfl, ?_⟩) | fail)
  refine And.intro hp ?_
  repeat' ((conv => whnf); first | (refine lenH_is ?_) | (refine pushH_at ?_) | (refine setH_as (set_top _ _ _) ?_) | (refine setH_as (set_low _ _ _ _) ?_) | (refine setH_as (set_top' _ _ _ _ _) ?_) | (refine hGet_at (up_top _ _) ?_) | (refine And.intro ?_ trivial) | (refine And.intro rfl ?_) | (refine And.intro (And.intro (by decide) (by decide)) ?_) | (refine And.intro (And.intro (by decide) (And.intro (by decide) (by decide))) ?_) | (refine And.intro (Nat.le_of_ble_eq_true rfl) (And.intro (Nat.le_of_ble_eq_true rfl) ?_)) | (refine And.intro (Nat.le_of_ble_eq_true rfl) ?_) | (refine ask_false (by omega) ?_) | (refine ask_true (by omega) ?_) | (refine ask_wrap64 (by omega) (by omega) ?_) | (refine And.intro (And.intro (by omega) (by omega)) ?_) | (refine fun (_ : InK _ _) => ?_) | (refine ⟨by kernel_rfl, ?_⟩) | fail)
  exact u1
theorem segPut_nil {K : List Seg → Prop} : ∀ {ss : List Seg}, K ss → segPut ss [] K
  | [], h => by simpa [segPut] using h
  | .one _ :: _, h => by simpa [segPut] using h
  | .ints _ _ _ :: _, h => by simpa [segPut] using h
theorem take_data {H : List Blk} (hH : HOk H) {j : Nat} {b : Bool} {e0 : Int} {r : ByteArray} {rest : List Seg} (hj : H[j]? = some (.own 96 (joS b e0 r rest))) {e n : Int} {f l : Bool} {d : ByteArray} (hp : pgR 2 f l d) (hf : f = !b) (he : b = false ∨ e = e0) (hs : r.size + d.size ≤ 4096) :
    walk6 FTk 0 Tryz.f55 [.c (.cp j 0), pqW e n 2 f l d] H fun y H' => (l = true → y = .tup [.c (.cs (r ++ d)), .c (.cb true), i64 0] ∧ UpT [96] H H' ∧ H'[j]? = some (.own 96 (joS false 0 ⟨#[]⟩ rest))) ∧
      (l = false → y = .tup [.c (.cs ⟨#[]⟩), .c (.cb false), i64 0] ∧ UpT [96] H H' ∧ H'[j]? = some (.own 96 (joS true e (r ++ d) rest))) := by
  have hjl := (List.getElem?_eq_some_iff.1 hj).1
  repeat' ((conv => whnf); first | (refine lenH_is ?_) | (refine pushH_at ?_) | (refine setH_as (set_top _ _ _) ?_) | (refine setH_as (set_low _ _ _ _) ?_) | (refine setH_as (set_top' _ _ _ _ _) ?_) | (refine hGet_at (up_top _ _) ?_) | (refine And.intro ?_ trivial) | (refine And.intro rfl ?_) | (refine And.intro (And.intro (by decide) (by decide)) ?_) | (refine And.intro (And.intro (by decide) (And.intro (by decide) (by decide))) ?_) | (refine And.intro (Nat.le_of_ble_eq_true rfl) (And.intro (Nat.le_of_ble_eq_true rfl) ?_)) | (refine And.intro (Nat.le_of_ble_eq_true rfl) ?_) | (refine ask_false (by omega) ?_) | (refine ask_true (by omega) ?_) | (refine ask_wrap64 (by omega) (by omega) ?_) | (refine And.intro (And.intro (by omega) (by omega)) ?_) | (refine fun (_ : InK _ _) => ?_) | (refine ⟨by kernel_rfl, ?_⟩) | fail)
  refine And.intro hp ?_
  repeat' ((conv => whnf); first | (refine lenH_is ?_) | (refine pushH_at ?_) | (refine setH_as (set_top _ _ _) ?_) | (refine setH_as (set_low _ _ _ _) ?_) | (refine setH_as (set_top' _ _ _ _ _) ?_) | (refine hGet_at (up_top _ _) ?_) | (refine And.intro ?_ trivial) | (refine And.intro rfl ?_) | (refine And.intro (And.intro (by decide) (by decide)) ?_) | (refine And.intro (And.intro (by decide) (And.intro (by decide) (by decide))) ?_) | (refine And.intro (Nat.le_of_ble_eq_true rfl) (And.intro (Nat.le_of_ble_eq_true rfl) ?_)) | (refine And.intro (Nat.le_of_ble_eq_true rfl) ?_) | (refine ask_false (by omega) ?_) | (refine ask_true (by omega) ?_) | (refine ask_wrap64 (by omega) (by omega) ?_) | (refine And.intro (And.intro (by omega) (by omega)) ?_) | (refine fun (_ : InK _ _) => ?_) | (refine ⟨by kernel_rfl, ?_⟩) | fail)
  refine ⟨_, b, e0, r, rest, up_get hj, ⟨hf, he, hs⟩, fun H1 u1 => ?_⟩
  have g1j := u1.keep _ _ (up_get (N := [.own 127 (pq e n 2 f l d)]) hj) rfl
  have g1x := u1.keep _ _ (up_top H (.own 127 (pq e n 2 f l d))) rfl
  have hb1 : bnds H1.length rest = true := u1.bnd _ (List.mem_of_getElem? g1j)
  have u0 : UpT [96] H H1 := (((UpT.refl hH.bnd).app rfl).trans u1).any
  repeat' ((conv => whnf); first | (refine lenH_is ?_) | (refine pushH_at ?_) | (refine setH_as (set_top _ _ _) ?_) | (refine setH_as (set_low _ _ _ _) ?_) | (refine setH_as (set_top' _ _ _ _ _) ?_) | (refine hGet_at (g1j) ?_) | (refine hGet_at (g1x) ?_) | (refine And.intro ?_ trivial) | (refine And.intro rfl ?_) | (refine And.intro (And.intro (by decide) (by decide)) ?_) | (refine And.intro (And.intro (by decide) (And.intro (by decide) (by decide))) ?_) | (refine And.intro (Nat.le_of_ble_eq_true rfl) (And.intro (Nat.le_of_ble_eq_true rfl) ?_)) | (refine And.intro (Nat.le_of_ble_eq_true rfl) ?_) | (refine ask_false (by omega) ?_) | (refine ask_true (by omega) ?_) | (refine ask_wrap64 (by omega) (by omega) ?_) | (refine And.intro (And.intro (by omega) (by omega)) ?_) | (refine fun (_ : InK _ _) => ?_) | (refine ⟨by kernel_rfl, ?_⟩) | fail)
  refine red_each (by kernel_rfl) ?_
  repeat' ((conv => whnf); first | (refine And.intro (show r.size + d.size ≤ 9223372036854775807 by omega) ?_) | (refine hGet_at g1j ?_) | (refine hGet_at g1x ?_) | (refine And.intro ?_ (And.intro ?_ (And.intro ?_ trivial))) | (refine And.intro ?_ (And.intro ?_ trivial)) | (refine And.intro ?_ trivial) | (refine segPut_nil ?_) | (refine setH_up g1j u1.bnd hb1 fun H2 _ u2 g2j => ?_) | fail)
  all_goals
    have g2x := u2.keep _ _ g1x rfl
    have hb2 : bnds H2.length rest = true := u2.bnd _ (List.mem_of_getElem? g2j)
    cases l
    · repeat' ((conv => whnf); first | (refine lenH_is ?_) | (refine pushH_at ?_) | (refine setH_as (set_top _ _ _) ?_) | (refine setH_as (set_low _ _ _ _) ?_) | (refine setH_as (set_top' _ _ _ _ _) ?_) | (refine hGet_at (g2j) ?_) | (refine hGet_at (g2x) ?_) | (refine And.intro ?_ trivial) | (refine And.intro rfl ?_) | (refine And.intro (And.intro (by decide) (by decide)) ?_) | (refine And.intro (And.intro (by decide) (And.intro (by decide) (by decide))) ?_) | (refine And.intro (Nat.le_of_ble_eq_true rfl) (And.intro (Nat.le_of_ble_eq_true rfl) ?_)) | (refine And.intro (Nat.le_of_ble_eq_true rfl) ?_) | (refine ask_false (by omega) ?_) | (refine ask_true (by omega) ?_) | (refine ask_wrap64 (by omega) (by omega) ?_) | (refine And.intro (And.intro (by omega) (by omega)) ?_) | (refine fun (_ : InK _ _) => ?_) | (refine ⟨by kernel_rfl, ?_⟩) | fail)
      exact ⟨(fun h => by cases h), fun _ => ⟨rfl, u0.trans u2, g2j⟩⟩
    · repeat' ((conv => whnf); first | (refine hGet_at g2j ?_) | (refine hGet_at g2x ?_) | (refine segPut_nil ?_) | (refine setH_up g2j u2.bnd hb2 fun H3 _ u3 g3j => ?_) | fail)
      exact ⟨fun _ => ⟨rfl, (u0.trans u2).trans u3, g3j⟩, (fun h => by cases h)⟩
def hJTake : HCt := fun ws H K => match ws with
  | [.c (.cp j 0), .agg [.one (.ci .u32 e), .one (.ci .u32 _), .one (.ci .i64 k), .one (.cb f), .one (.cb l), .one (.cs d)]] => pgR k f l d ∧
      ((k ≠ 2 ∧ ∀ H', UpT [] H H' → K (.tup [.c (.cs ⟨#[]⟩), .c (.cb false), i64 0]) H') ∨
       (∃ b e0 r rest, H[j]? = some (.own 96 (joS b e0 r rest)) ∧ (k = 2 ∧ f = (!b) ∧ (b = false ∨ e = e0) ∧ r.size + d.size ≤ 4096) ∧ ∀ H', UpT [96] H H' →
         (l = true → H'[j]? = some (.own 96 (joS false 0 ⟨#[]⟩ rest)) → K (.tup [.c (.cs (r ++ d)), .c (.cb true), i64 0]) H') ∧ (l = false → H'[j]? = some (.own 96 (joS true e (r ++ d) rest)) → K (.tup [.c (.cs ⟨#[]⟩), .c (.cb false), i64 0]) H')))
  | _ => False
theorem jtake_ct : HCtOkG Tryz.prog D.G1 55 hJTake := by
  intro ws H K h hr hb ho σ base w₀ w hw
  unfold hJTake at h
  split at h
  · rename_i j e n k f l d
    obtain ⟨hp, ⟨hk, hK⟩ | ⟨b, e0, r, rest, hj, ⟨rfl, h1, h2, h3⟩, hK⟩⟩ := h
    · exact heap_lift6 FTk_ok Tryz.func55 (n := 0) (ws := [.c (.cp j 0), pqW e n k f l d]) hr hb ho (take_head ho hp hk) (fun x H' hP => by
        obtain ⟨rfl, u⟩ := hP
        exact hK H' u) σ base w₀ w hw
    · exact heap_lift6 FTk_ok Tryz.func55 (n := 0) (ws := [.c (.cp j 0), pqW e n 2 f l d]) hr hb ho (take_data ho hj hp h1 h2 h3) (fun x H' hP => by
        cases hl : l with
        | true =>
          obtain ⟨rfl, u, g⟩ := hP.1 hl
          exact (hK H' u).1 hl g
        | false =>
          obtain ⟨rfl, u, g⟩ := hP.2 hl
          exact (hK H' u).2 hl g) σ base w₀ w hw
  · exact h.elim
end R
end Go.Proofs.YtaficaacogcblaaGreatDoor
