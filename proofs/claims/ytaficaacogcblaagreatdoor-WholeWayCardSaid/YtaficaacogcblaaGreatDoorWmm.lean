/- WholeWay, walked: a row of losses. (Printed by mkway.py.) -/
import Derived.Test.YtaficaacogcblaaGreatDoorWkk
set_option linter.all false
namespace Go.Proofs.YtaficaacogcblaaGreatDoor
namespace R
open Go.RowKit (Below)
set_option maxRecDepth 100000
set_option maxHeartbeats 64000000

theorem way_bool {H : List Blk} (hH : HOk H) {v : C} (hv : FrIn H v) {jb lb cb : Nat} {bs : List Bool} (hbj : H[jb]? = some (.ro (W2.boolS bs))) (hbl : lb ≤ bs.length) {sz : Int} (hz : 0 ≤ sz ∧ sz ≤ 255) : walk5 FWw 0 Tryz.f4 [.c v, .c (.csl jb 0 0 lb cb), .c (.ci .u8 sz)] H fun y _ => y = vb true := by
  repeat' ((conv => whnf); first | (refine lenH_is ?_) | (refine ask_false (by omega) ?_) | (refine ask_true (by omega) ?_) | (refine ask_wrap64 (by omega) (by omega) ?_) | fail)
  conv => whnf
  refine ask_split (fun _ => ?_) (fun hlb => ?_)
  · repeat' ((conv => whnf); first | fail)
    rfl
  repeat' ((conv => whnf); first | (refine lenH_is ?_) | (refine ask_false (by omega) ?_) | (refine ask_true (by omega) ?_) | (refine ask_wrap64 (by omega) (by omega) ?_) | fail)
  conv => whnf
  refine And.intro (by decide) fun r hr => ?_
  have hr' : 0 ≤ r ∧ r ≤ 22 := by rw [hr, Int.tmod_eq_emod_of_nonneg hz.1]; omega
  clear hr
  conv => whnf
  refine ask_wrap64 (by omega) (by omega) ?_
  repeat' ((conv => whnf); first | fail)
  conv => whnf
  refine And.intro hv fun v1 k1 H1 hk1 u1 f1 => ?_
  repeat' ((conv => whnf); first | fail)
  conv => whnf
  refine Exists.intro _ (Exists.intro k1 (And.intro f1 (And.intro hk1 (And.intro (And.intro (by omega) (by omega)) fun v2 ps l s H2 u2 st => ?_))))
  have hn0 : (10 : Int) + r = r + 10 := by omega
  repeat' ((conv => whnf); first | (refine lenH_is ?_) | (refine pushH_as (b' := .own 61 zE) rfl ?_) | (refine pushH_as (b' := stB B.st0) rfl ?_) | (refine hGet_at (up_top _ _) ?_) | (refine setH_as (set_top _ _ _) ?_) | (refine ask_false (by omega) ?_) | fail)
  conv => whnf
  have uB : UpH H2 (H2 ++ [eB ps l s]) := (UpH.refl u2.bnd).app rfl
  have uC : UpH (H2 ++ [eB ps l s]) (H2 ++ [eB ps l s] ++ [stB B.st0] ++ [stB B.st0]) := ((UpH.refl uB.bnd).app rfl).app rfl
  have lB : (H2 ++ [eB ps l s]).length = H2.length + 1 := by simp
  have lC : (H2 ++ [eB ps l s] ++ [stB B.st0]).length = (H2 ++ [eB ps l s]).length + 1 := by simp
  have dv : ∀ n, H.length ≤ n → C.bnd n v = true := fun n hn => by
    rcases hv with rfl | ⟨j, l, c, xs, rfl, h1, _⟩
    · rfl
    · exact decide_eq_true (Nat.lt_of_lt_of_le (List.getElem?_eq_some_iff.1 h1).1 hn)
  have dvb : ∀ n, H.length ≤ n → decide (jb < n) = true := fun n hn => decide_eq_true (Nat.lt_of_lt_of_le (List.getElem?_eq_some_iff.1 hbj).1 hn)
  have dv1 : ∀ n, H1.length ≤ n → C.bnd n v1 = true := fun n hn => by
    rcases f1 with ⟨_, rfl⟩ | ⟨_, q, c, ys, rfl, _, _, _, h1, _⟩
    · rfl
    · exact decide_eq_true (Nat.lt_of_lt_of_le (List.getElem?_eq_some_iff.1 h1).1 hn)
  have dv2 : ∀ n, H2.length ≤ n → C.bnd n v2 = true := fun n hn => by
    rcases st with ⟨_, rfl⟩ | ⟨_, q, cs, rfl, _, _, h1, _⟩
    · rfl
    · exact decide_eq_true (Nat.lt_of_lt_of_le (List.getElem?_eq_some_iff.1 h1).1 hn)
  refine loop_upJ (List.range' 13 11 ++ List.range' 46 87) (fun m (z : WS) => wsJ (H2 ++ [eB ps l s]) k1 m z) (fun z => [(13, vb z.f), (14, vi z.k)]) (fun z => z.H) k1 ⟨0, true, B.st0, B.st0, H2 ++ [eB ps l s] ++ [stB B.st0] ++ [stB B.st0]⟩ ⟨⟨rfl, Nat.zero_le _⟩, uC, up_get (up_top _ _), by rw [← lC]; exact up_top _ _, st0_ok, st0_ok, fun _ => rfl⟩ ?_ ?_ ?_
  · rintro m z ⟨_, u, a1, a2, _, _, _⟩
    have hlen := u.len
    have d1 := dv z.H.length (by have := u1.len; have := u2.len; omega)
    have d0 := dvb z.H.length (by have := u1.len; have := u2.len; omega)
    have d2 := dv1 z.H.length (by have := u2.len; omega)
    have d3 := dv2 z.H.length (by omega)
    have d4 := decide_eq_true (show H2.length < z.H.length by omega)
    have d5 := decide_eq_true (show (H2 ++ [eB ps l s]).length < z.H.length from (List.getElem?_eq_some_iff.1 a1).1)
    have d6 := decide_eq_true (show (H2 ++ [eB ps l s] ++ [stB B.st0]).length < z.H.length by rw [lC]; exact (List.getElem?_eq_some_iff.1 a2).1)
    repeat' (first | rfl | exact d0 | exact d1 | exact d2 | exact d3 | exact d4 | exact d5 | exact d6 | refine and_t ?_ ?_)
  · exact ⟨rfl, ⟨⟨Nat.le_of_ble_eq_true rfl, rfl⟩, ⟨Nat.le_of_ble_eq_true rfl, rfl⟩, trivial⟩, wkH_refl _, bndH_of uC.bnd, by have := u1.len; have := u2.len; have := uC.len; show H.length ≤ (H2 ++ [eB ps l s] ++ [stB B.st0] ++ [stB B.st0]).length; omega⟩
  rintro m z ⟨⟨rfl, z1⟩, u, a1, a2, rs, rt, hf⟩
  rw [← lC] at a2
  have done : ∀ (y : V), y = vb true → y = vb true := fun y h => h
  rcases st with ⟨rfl, rfl⟩ | ⟨st0, q, cs, rfl, st1, st2, st3, st4⟩
  · obtain ⟨zk, ezk⟩ : ∃ zk, zk = z.k := ⟨_, rfl⟩
    rcases Bool.eq_false_or_eq_true z.f with hzf | hzf
    · have est := hf hzf
      rw [hzf]
      repeat' ((conv => whnf); first | (refine ask_false (by omega) ?_) | (refine hGet_at a1 ?_) | (refine hGet_at a2 ?_) | fail)
      refine fun τ hτ => ?_
      rw [est] at hτ
      simp at hτ
      subst hτ
      repeat' ((conv => whnf); first | fail)
      rfl
    · rw [hzf]
      repeat' ((conv => whnf); first | (refine ask_false (by omega) ?_) | (refine hGet_at a1 ?_) | (refine hGet_at a2 ?_) | fail)
      rfl
  · have gq := (uB.trans u).keep _ _ st3
    rcases Nat.lt_or_ge z.k k1 with g | g
    · obtain ⟨p, hp1, hp2⟩ := st4 z.k g
      have hps : 10 ≤ p.size ∧ p.size ≤ 32 := by omega
      have em : mulN (z.k : Int).toNat (Tryz.prog.types[9]).size = z.k := by
        rw [show (Tryz.prog.types[9]).size = 1 by kernel_rfl, mulN_eq, Int.toNat_natCast, Nat.mul_one]
      repeat' ((conv => whnf); first | (refine ask_true (by omega) ?_) | fail)
      conv => whnf
      refine red_up (15 :: 16 :: 17 :: List.range' 52 10) (fun (d : DS2) => ds2J z.H (outD z.t p) (stD z.t p) d) (fun d => [(15, .w (.c (.cp d.a 0))), (16, .w (.c (.cp d.b 0))), (17, vi 0)]) (fun d => d.H) (by kernel_rfl) ?_ ?_ ?_
      · rintro d ⟨ud, da, e1, e2⟩
        have hlen := u.len
        have hud := ud.len
        have hb : (H2 ++ [eB ps l s]).length < z.H.length := (List.getElem?_eq_some_iff.1 a1).1
        have hc : (H2 ++ [eB ps l s] ++ [stB B.st0]).length < z.H.length := (List.getElem?_eq_some_iff.1 a2).1
        have d1 := dv d.H.length (by have := u1.len; have := u2.len; omega)
        have d0 := dvb d.H.length (by have := u1.len; have := u2.len; omega)
        have d2 := dv1 d.H.length (by have := u2.len; omega)
        have d3 := dv2 d.H.length (by omega)
        have d4 := decide_eq_true (show H2.length < d.H.length by omega)
        have d5 := decide_eq_true (show (H2 ++ [eB ps l s]).length < d.H.length by omega)
        have d6 := decide_eq_true (show (H2 ++ [eB ps l s] ++ [stB B.st0]).length < d.H.length by omega)
        have d7 := decide_eq_true (List.getElem?_eq_some_iff.1 e1).1
        have d8 := decide_eq_true (List.getElem?_eq_some_iff.1 e2).1
        repeat' (first | rfl | exact d0 | exact d1 | exact d2 | exact d3 | exact d4 | exact d5 | exact d6 | exact d7 | exact d8 | refine and_t ?_ ?_)
      · rintro d ⟨ud, da, e1, e2⟩
        have b1 := ud.keep _ _ a1
        have b2 := ud.keep _ _ a2
        have bq := ud.keep _ _ gq
        have o1 : ∀ i : Nat, i < 16 → -32768 ≤ (outD z.t p).getD i 0 ∧ (outD z.t p).getD i 0 ≤ 32767 := fun i hi => B.outN_in (B.mem_at (by show i < (B.outN _ _ _ _).length; rw [B.outN_len]; exact hi))
        have rt' := stD_ok rt.ok rt.right (p := p)
        have hj1 : (H2 ++ [eB ps l s]).length < z.H.length := (List.getElem?_eq_some_iff.1 a1).1
        have hj2 : (H2 ++ [eB ps l s] ++ [stB B.st0]).length < z.H.length := (List.getElem?_eq_some_iff.1 a2).1
        have hud := ud.len
        have us := (u.trans ud).set (q := (H2 ++ [eB ps l s] ++ [stB B.st0]).length) (b := stB (stD z.t p)) (by rw [lC]; omega) rfl
        have ub : UpH (H2 ++ [eB ps l s]) (d.H.set (H2 ++ [eB ps l s] ++ [stB B.st0]).length (stB (stD z.t p)) ++ [iB 48 16 B.z16]) := us.app rfl
        have c1 : (d.H.set (H2 ++ [eB ps l s] ++ [stB B.st0]).length (stB (stD z.t p)))[(H2 ++ [eB ps l s]).length]? = some (stB z.s) := by rw [List.getElem?_set_ne (by rw [lC]; omega)]; exact b1
        have c2 : (d.H.set (H2 ++ [eB ps l s] ++ [stB B.st0]).length (stB (stD z.t p)))[(H2 ++ [eB ps l s] ++ [stB B.st0]).length]? = some (stB (stD z.t p)) := List.getElem?_set_self (by omega)
        have ca : (d.H.set (H2 ++ [eB ps l s] ++ [stB B.st0]).length (stB (stD z.t p)))[d.a]? = some (iB 48 16 (outD z.t p)) := by rw [List.getElem?_set_ne (by omega)]; exact e1
        have hq1 := (List.getElem?_eq_some_iff.1 st3).1
        have cq : (d.H.set (H2 ++ [eB ps l s] ++ [stB B.st0]).length (stB (stD z.t p)))[q]? = some (sB cs) := by rw [List.getElem?_set_ne (by rw [lC, lB]; omega)]; exact bq
        obtain ⟨G0, eG0⟩ : ∃ G0, G0 = d.H.set (H2 ++ [eB ps l s] ++ [stB B.st0]).length (stB (stD z.t p)) := ⟨_, rfl⟩
        rw [← eG0] at us ub c1 c2 ca cq
        have gl0 : G0.length = d.H.length := by rw [eG0, List.length_set]
        have em4 : mulN (z.k : Int).toNat (Tryz.prog.types[4]).size = z.k := by
          rw [show (Tryz.prog.types[4]).size = 1 by kernel_rfl, mulN_eq, Int.toNat_natCast, Nat.mul_one]
        have hgb : G0[jb]? = some (.ro (W2.boolS bs)) := by
          have hjb := (List.getElem?_eq_some_iff.1 hbj).1
          have h1 := u1.len
          have h2 := u2.len
          rw [eG0, List.getElem?_set_ne (by omega)]
          exact ud.keep _ _ (u.keep _ _ (uB.keep _ _ (u2.keep _ _ (u1.keep _ _ hbj))))
        have hcase : (z.k < lb ∧ bs.getD z.k false = true) ∨ ((z.k < lb ∧ bs.getD z.k false = false) ∨ lb ≤ z.k) := by
          rcases Nat.lt_or_ge z.k lb with h | h
          · rcases Bool.eq_false_or_eq_true (bs.getD z.k false) with e | e
            · exact .inl ⟨h, e⟩
            · exact .inr (.inl ⟨h, e⟩)
          · exact .inr (.inr h)
        rcases hcase with ⟨hk, hbit⟩ | hBC
        · have rl : StR (B.loseSt z.s) := ⟨B.loseSt_ok rs.ok, stN_right⟩
          repeat' ((conv => whnf); first | (refine ask_true (by omega) ?_) | (refine hGet_at (up_get hgb) ?_) | (refine And.intro (And.intro (by omega) (by omega)) ?_) | (refine hGet_at e2 ?_) | (refine hGet_at b2 ?_) | (refine setH_as eG0.symm ?_) | (refine ask_false (by omega) ?_) | (refine lenH_is ?_) | (refine pushH_as (b' := iB 48 16 B.z16) rfl ?_) | (refine hGet_at (up_get c1) ?_) | fail)
          conv => whnf
          refine W2.kLoad_bools (P := Tryz.prog) (T := 4) (bs := bs) (i := 0 + mulN (z.k : Int).toNat (Tryz.prog.types[4]).size) (b := true) (by kernel_rfl) (by omega) (by rw [Nat.zero_add, em4]; exact hbit) ?_
          repeat' ((conv => whnf); first | (refine hGet_at (up_get c1) ?_) | (refine And.intro ⟨rfl, rfl, rfl⟩ (And.intro (fun h => absurd h (by decide)) (And.intro (fun _ _ cr rest hr1 hr2 hr3 => ?_) (by decide)))) | fail)
          conv => whnf
          refine lenH_is (pushH_as (b' := .own 48 [.ints .i64 (cr * 16) (B.loseOut z.s ++ rest)]) rfl ?_)
          repeat' ((conv => whnf); first | (refine lenH_is ?_) | (refine pushH_as (b' := stB B.st0) rfl ?_) | (refine hGet_at (up_top _ _) ?_) | (refine setH_as (set_top _ _ _) ?_) | (refine hGet_at (up_get (up_top _ _)) ?_) | (refine And.intro (And.intro (by decide) (by decide)) ?_) | fail)
          conv => whnf
          have e16 : (Tryz.prog.types[48]).size = 16 := by kernel_rfl
          have e00 : mulN (Int.toNat 0) (Tryz.prog.types[48]).size = 0 := (mulN_eq _ _).trans (Nat.zero_mul _)
          have etk : List.take 16 (List.drop 0 (B.loseOut z.s ++ rest)) = B.loseOut z.s := by
            rw [List.drop_zero, List.take_append_of_le_length (by rw [B.loseOut_len]; exact Nat.le_refl _), List.take_of_length_le (by rw [B.loseOut_len]; exact Nat.le_refl _)]
          have hr1' : 1 ≤ cr := hr1
          refine And.intro (by rw [e00, e16]; omega) ?_
          conv => whnf
          rw [e00, e16, Nat.zero_add, etk]
          have usL : UpH (H2 ++ [eB ps l s]) ((G0 ++ [iB 48 16 B.z16] ++ [Blk.own 48 [.ints .i64 (cr * 16) (B.loseOut z.s ++ rest)]] ++ [stB (B.loseSt z.s)]).set G0.length (iB 48 16 (B.loseOut z.s))) := (((us.app rfl).app rfl).app rfl).set (by omega) rfl
          have l1 : ((G0 ++ [iB 48 16 B.z16] ++ [Blk.own 48 [.ints .i64 (cr * 16) (B.loseOut z.s ++ rest)]] ++ [stB (B.loseSt z.s)]).set G0.length (iB 48 16 (B.loseOut z.s)))[(H2 ++ [eB ps l s]).length]? = some (stB z.s) := by rw [List.getElem?_set_ne (by omega)]; exact up_get (up_get (up_get c1))
          have l2 : ((G0 ++ [iB 48 16 B.z16] ++ [Blk.own 48 [.ints .i64 (cr * 16) (B.loseOut z.s ++ rest)]] ++ [stB (B.loseSt z.s)]).set G0.length (iB 48 16 (B.loseOut z.s)))[(H2 ++ [eB ps l s] ++ [stB B.st0]).length]? = some (stB (stD z.t p)) := by rw [List.getElem?_set_ne (by omega)]; exact up_get (up_get (up_get c2))
          have la : ((G0 ++ [iB 48 16 B.z16] ++ [Blk.own 48 [.ints .i64 (cr * 16) (B.loseOut z.s ++ rest)]] ++ [stB (B.loseSt z.s)]).set G0.length (iB 48 16 (B.loseOut z.s)))[d.a]? = some (iB 48 16 (outD z.t p)) := by rw [List.getElem?_set_ne (by have := (List.getElem?_eq_some_iff.1 ca).1; omega)]; exact up_get (up_get (up_get ca))
          have l18 : ((G0 ++ [iB 48 16 B.z16] ++ [Blk.own 48 [.ints .i64 (cr * 16) (B.loseOut z.s ++ rest)]] ++ [stB (B.loseSt z.s)]).set G0.length (iB 48 16 (B.loseOut z.s)))[G0.length]? = some (iB 48 16 (B.loseOut z.s)) := List.getElem?_set_self (by simp only [List.length_append, List.length_cons, List.length_nil]; omega)
          have l20 : ((G0 ++ [iB 48 16 B.z16] ++ [Blk.own 48 [.ints .i64 (cr * 16) (B.loseOut z.s ++ rest)]] ++ [stB (B.loseSt z.s)]).set G0.length (iB 48 16 (B.loseOut z.s)))[(G0 ++ [iB 48 16 B.z16] ++ [Blk.own 48 [.ints .i64 (cr * 16) (B.loseOut z.s ++ rest)]]).length]? = some (stB (B.loseSt z.s)) := by rw [List.getElem?_set_ne (by simp only [List.length_append, List.length_cons, List.length_nil]; omega)]; exact up_top _ _
          obtain ⟨GL, eGL⟩ : ∃ GL, GL = (G0 ++ [iB 48 16 B.z16] ++ [Blk.own 48 [.ints .i64 (cr * 16) (B.loseOut z.s ++ rest)]] ++ [stB (B.loseSt z.s)]).set G0.length (iB 48 16 (B.loseOut z.s)) := ⟨_, rfl⟩
          rw [← eGL] at usL l1 l2 la l18 l20
          repeat' ((conv => whnf); first | (refine hGet_at (up_get (up_get (up_top _ _))) ?_) | (refine hGet_at (up_get (up_get (up_get c1))) ?_) | (refine setH_as eGL.symm ?_) | fail)
          repeat' ((conv => whnf); first | (refine hGet_at l1 ?_) | (refine And.intro ⟨rfl, rfl, rfl⟩ (And.intro trivial ?_)) | (refine lenH_is ?_) | (refine pushH_as (b' := iB 48 16 B.z16) rfl ?_) | (refine pushH_as (b' := stB B.st0) rfl ?_) | (refine hGet_at (up_get (up_top _ _)) ?_) | (refine hGet_at (up_top _ _) ?_) | (refine hGet_at (up_top' _ _ _ _) ?_) | (refine setH_as (set_low _ _ _ _) ?_) | (refine setH_as (set_top _ _ _) ?_) | (refine setH_as (set_top' _ _ _ _ _) ?_) | (refine hGet_at (up_get (up_get l18)) ?_) | fail)
          conv => whnf
          refine ask_neq rfl ?_
          repeat' ((conv => whnf); first | (refine hGet_at (up_get (up_get l20)) ?_) | (refine hGet_at (up_top _ _) ?_) | (refine hGet_at (up_top' _ _ _ _) ?_) | fail)
          conv => whnf
          refine ask_neq5 rfl rfl rfl rfl rfl ?_
          repeat' ((conv => whnf); first | (refine hGet_at (up_top' _ _ _ _) ?_) | (refine hGet_at (up_top _ _) ?_) | (refine hGet_at (up_get (up_get l1)) ?_) | (refine setH_at ?_) | fail)
          conv => whnf
          have gll : GL.length = G0.length + 3 := by rw [eGL]; simp
          have uG : UpH (H2 ++ [eB ps l s]) ((GL ++ [iB 48 16 (B.loseOut z.s)] ++ [stB (B.loseSt z.s)]).set (H2 ++ [eB ps l s]).length (stB (B.loseSt z.s))) := ((usL.app rfl).app rfl).set (Nat.le_refl _) rfl
          have g1 : ((GL ++ [iB 48 16 (B.loseOut z.s)] ++ [stB (B.loseSt z.s)]).set (H2 ++ [eB ps l s]).length (stB (B.loseSt z.s)))[(H2 ++ [eB ps l s]).length]? = some (stB (B.loseSt z.s)) := List.getElem?_set_self (by simp only [List.length_append, List.length_cons, List.length_nil] at hj1 ⊢; omega)
          have g2 : ((GL ++ [iB 48 16 (B.loseOut z.s)] ++ [stB (B.loseSt z.s)]).set (H2 ++ [eB ps l s]).length (stB (B.loseSt z.s)))[(H2 ++ [eB ps l s] ++ [stB B.st0]).length]? = some (stB (stD z.t p)) := by rw [List.getElem?_set_ne (by rw [lC]; omega)]; exact up_get (up_get l2)
          have ga : ((GL ++ [iB 48 16 (B.loseOut z.s)] ++ [stB (B.loseSt z.s)]).set (H2 ++ [eB ps l s]).length (stB (B.loseSt z.s)))[d.a]? = some (iB 48 16 (outD z.t p)) := by rw [List.getElem?_set_ne (by omega)]; exact up_get (up_get la)
          have gb : ((GL ++ [iB 48 16 (B.loseOut z.s)] ++ [stB (B.loseSt z.s)]).set (H2 ++ [eB ps l s]).length (stB (B.loseSt z.s)))[G0.length]? = some (iB 48 16 (B.loseOut z.s)) := by rw [List.getElem?_set_ne (by omega)]; exact up_get (up_get l18)
          have hG : ((GL ++ [iB 48 16 (B.loseOut z.s)] ++ [stB (B.loseSt z.s)]).set (H2 ++ [eB ps l s]).length (stB (B.loseSt z.s))).length = GL.length + 2 := by simp
          have o2 : ∀ i : Nat, i < 16 → -32768 ≤ (B.loseOut z.s).getD i 0 ∧ (B.loseOut z.s).getD i 0 ≤ 32767 := fun i hi => B.outN_in (B.mem_at (by show i < (B.outN _ _ _ _).length; rw [B.outN_len]; exact hi))
          have hlG := uG.len
          refine loop_upJ (23 :: List.range' 107 26) (fun m (k : Nat) => k ≤ 16 ∧ m = 16 - k) (fun k => [(23, vi k)]) (fun _ => (GL ++ [iB 48 16 (B.loseOut z.s)] ++ [stB (B.loseSt z.s)]).set (H2 ++ [eB ps l s]).length (stB (B.loseSt z.s))) 16 (0 : Nat) ⟨by omega, rfl⟩ ?_ ?_ ?_
          · intro m k _
            generalize ((GL ++ [iB 48 16 (B.loseOut z.s)] ++ [stB (B.loseSt z.s)]).set (H2 ++ [eB ps l s]).length (stB (B.loseSt z.s))).length = gn at hG hlG ⊢
            have h1 := u1.len
            have h2 := u2.len
            have d0 := dvb gn (by omega)
            have d1 := dv gn (by omega)
            have d2 := dv1 gn (by omega)
            have d3 := dv2 gn (by omega)
            have d4 := decide_eq_true (show H2.length < gn by omega)
            have d5 := decide_eq_true (show (H2 ++ [eB ps l s]).length < gn by omega)
            have d6 := decide_eq_true (show (H2 ++ [eB ps l s] ++ [stB B.st0]).length < gn by omega)
            have d7 := decide_eq_true (show d.a < gn by have := (List.getElem?_eq_some_iff.1 ca).1; omega)
            have d8 := decide_eq_true (show G0.length < gn by omega)
            have d9 := decide_eq_true (show d.b < gn by have := (List.getElem?_eq_some_iff.1 e2).1; omega)
            have d10 := decide_eq_true (show (G0 ++ [iB 48 16 B.z16]).length < gn by simp only [List.length_append, List.length_cons, List.length_nil]; omega)
            have d11 := decide_eq_true (show (G0 ++ [iB 48 16 B.z16] ++ [Blk.own 48 [.ints .i64 (cr * 16) (B.loseOut z.s ++ rest)]]).length < gn by simp only [List.length_append, List.length_cons, List.length_nil]; omega)
            have d12 := decide_eq_true (show GL.length < gn by omega)
            have d13 := decide_eq_true (show (GL ++ [iB 48 16 B.z16]).length < gn by simp only [List.length_append, List.length_cons, List.length_nil]; omega)
            repeat' (first | rfl | exact d0 | exact d1 | exact d2 | exact d3 | exact d4 | exact d5 | exact d6 | exact d7 | exact d8 | exact d9 | exact d10 | exact d11 | exact d12 | exact d13 | refine and_t ?_ ?_)
          · exact ⟨rfl, ⟨⟨Nat.le_of_ble_eq_true rfl, rfl⟩, trivial⟩, wkH_refl _, bndH_of uG.bnd, by have h1 := u1.len; have h2 := u2.len; rw [hG]; omega⟩
          · rintro m k ⟨k0, rfl⟩
            rcases Nat.lt_or_ge k 16 with gk | gk
            · have ek : mulN (k : Int).toNat (Tryz.prog.types[3]).size = k := (D.mulN1 _).trans (Int.toNat_natCast k)
              have x1 := o2 (mulN (k : Int).toNat (Tryz.prog.types[3]).size) (by omega)
              repeat' ((conv => whnf); first | (refine ask_true (by omega) ?_) | fail)
              conv => whnf
              refine red_each (by kernel_rfl) ?_
              repeat' ((conv => whnf); first | (refine hGet_at gb ?_) | (refine hGet_at ga ?_) | (refine And.intro (And.intro (by omega) (by omega)) ?_) | (refine And.intro (show mulN (k : Int).toNat (Tryz.prog.types[3]).size < 16 by omega) ?_) | (refine fun (_ : InK _ _) => ?_) | (refine ask_false (by omega) ?_) | (refine ask_wrap64 (by omega) (by omega) ?_) | (refine And.intro ?_ (And.intro ?_ trivial)) | (refine And.intro ?_ trivial) | fail)
              all_goals (conv => whnf)
              all_goals exact ⟨16 - (k + 1), k + 1, by omega, ⟨by omega, rfl⟩, ⟨rfl, ⟨⟨Nat.le_of_ble_eq_true rfl, rfl⟩, trivial⟩, wkH_refl _, bndH_of uG.bnd, by have h1 := u1.len; have h2 := u2.len; rw [hG]; omega⟩⟩
            · obtain rfl : k = 16 := by omega
              repeat' ((conv => whnf); first | (refine ask_false (by omega) ?_) | (refine ask_wrap64 (by omega) (by omega) ?_) | fail)
              exact ⟨k1 - (z.k + 1), ⟨z.k + 1, false, B.loseSt z.s, stD z.t p, _⟩, by omega, ⟨⟨rfl, g⟩, uG, g1, by rw [← lC]; exact g2, rl, rt', fun h => (by cases h)⟩, ⟨rfl, ⟨⟨Nat.le_of_ble_eq_true rfl, rfl⟩, ⟨Nat.le_of_ble_eq_true rfl, rfl⟩, trivial⟩, wkH_refl _, bndH_of uG.bnd, by have h1 := u1.len; have h2 := u2.len; rw [hG]; omega⟩⟩
        · rcases hBC with ⟨hk, hbit⟩ | hk
          all_goals
            repeat' ((conv => whnf); first | (refine ask_true (by omega) ?_) | (refine hGet_at (up_get hgb) ?_) | (refine And.intro (And.intro (by omega) (by omega)) ?_) | (refine W2.kLoad_bools (P := Tryz.prog) (T := 4) (bs := bs) (i := 0 + mulN (z.k : Int).toNat (Tryz.prog.types[4]).size) (b := false) (by kernel_rfl) (by omega) (by rw [Nat.zero_add, em4]; exact hbit) ?_) | (refine hGet_at e2 ?_) | (refine hGet_at b2 ?_) | (refine setH_as eG0.symm ?_) | (refine ask_false (by omega) ?_) | (refine lenH_is ?_) | (refine pushH_as (b' := iB 48 16 B.z16) rfl ?_) | fail)
            conv => whnf
            refine red_up (List.range' 97 10) (fun (G : List Blk) => w25J (H2 ++ [eB ps l s]) (H2 ++ [eB ps l s]).length (H2 ++ [eB ps l s] ++ [stB B.st0]).length d.a G0.length (outD z.t p) (outD z.s p) (stD z.s p) (stD z.t p) G) (fun _ => []) (fun G => G) (by kernel_rfl) ?_ ?_ ?_
            · rintro G ⟨uG, g1, g2, ga, gb⟩
              have hlG := uG.len
              have d1 := dv G.length (by have := u1.len; have := u2.len; omega)
              have d0 := dvb G.length (by have := u1.len; have := u2.len; omega)
              have d2 := dv1 G.length (by have := u2.len; omega)
              have d3 := dv2 G.length (by omega)
              have d4 := decide_eq_true (show H2.length < G.length by omega)
              have d5 := decide_eq_true (List.getElem?_eq_some_iff.1 g1).1
              have d6 := decide_eq_true (List.getElem?_eq_some_iff.1 g2).1
              have d7 := decide_eq_true (List.getElem?_eq_some_iff.1 ga).1
              have d8 := decide_eq_true (List.getElem?_eq_some_iff.1 gb).1
              have d9 : decide (d.b < G.length) = true := decide_eq_true (by have := (List.getElem?_eq_some_iff.1 e2).1; have := (List.getElem?_eq_some_iff.1 gb).1; omega)
              repeat' (first | rfl | exact d0 | exact d1 | exact d2 | exact d3 | exact d4 | exact d5 | exact d6 | exact d7 | exact d8 | exact d9 | refine and_t ?_ ?_)
            · rintro G ⟨uG, g1, g2, ga, gb⟩
              have rs' := stD_ok rs.ok rs.right (p := p)
              have o2 : ∀ i : Nat, i < 16 → -32768 ≤ (outD z.s p).getD i 0 ∧ (outD z.s p).getD i 0 ≤ 32767 := fun i hi => B.outN_in (B.mem_at (by show i < (B.outN _ _ _ _).length; rw [B.outN_len]; exact hi))
              have hlG := uG.len
              repeat' ((conv => whnf); first | fail)
              conv => whnf
              refine loop_upJ (23 :: List.range' 107 26) (fun m (k : Nat) => k ≤ 16 ∧ m = 16 - k) (fun k => [(23, vi k)]) (fun _ => G) 16 (0 : Nat) ⟨by omega, rfl⟩ ?_ ?_ ?_
              · intro m k _
                have d1 := dv G.length (by have := u1.len; have := u2.len; omega)
                have d0 := dvb G.length (by have := u1.len; have := u2.len; omega)
                have d2 := dv1 G.length (by have := u2.len; omega)
                have d3 := dv2 G.length (by omega)
                have d4 := decide_eq_true (show H2.length < G.length by omega)
                have d5 := decide_eq_true (List.getElem?_eq_some_iff.1 g1).1
                have d6 := decide_eq_true (List.getElem?_eq_some_iff.1 g2).1
                have d7 := decide_eq_true (List.getElem?_eq_some_iff.1 ga).1
                have d8 := decide_eq_true (List.getElem?_eq_some_iff.1 gb).1
                have d9 : decide (d.b < G.length) = true := decide_eq_true (by have := (List.getElem?_eq_some_iff.1 e2).1; have := (List.getElem?_eq_some_iff.1 gb).1; omega)
                repeat' (first | rfl | exact d0 | exact d1 | exact d2 | exact d3 | exact d4 | exact d5 | exact d6 | exact d7 | exact d8 | exact d9 | refine and_t ?_ ?_)
              · exact ⟨rfl, ⟨⟨Nat.le_of_ble_eq_true rfl, rfl⟩, trivial⟩, wkH_refl _, bndH_of uG.bnd, by have h1 := u1.len; have h2 := u2.len; omega⟩
              · rintro m k ⟨k0, rfl⟩
                rcases Nat.lt_or_ge k 16 with gk | gk
                · have ek : mulN (k : Int).toNat (Tryz.prog.types[3]).size = k := (D.mulN1 _).trans (Int.toNat_natCast k)
                  have x1 := o2 (mulN (k : Int).toNat (Tryz.prog.types[3]).size) (by omega)
                  repeat' ((conv => whnf); first | (refine ask_true (by omega) ?_) | fail)
                  conv => whnf
                  refine red_each (by kernel_rfl) ?_
                  rcases Bool.eq_false_or_eq_true z.f with hzf | hzf
                  · have est := hf hzf
                    rw [hzf]
                    repeat' ((conv => whnf); first | (refine hGet_at gb ?_) | (refine hGet_at ga ?_) | (refine And.intro (And.intro (by omega) (by omega)) ?_) | (refine And.intro (show mulN (k : Int).toNat (Tryz.prog.types[3]).size < 16 by omega) ?_) | (refine fun (_ : InK _ _) => ?_) | (refine ask_false (by omega) ?_) | (refine ask_false (fun h => h (by rw [est])) ?_) | (refine ask_wrap64 (by omega) (by omega) ?_) | (refine And.intro ?_ (And.intro ?_ trivial)) | (refine And.intro ?_ trivial) | fail)
                    all_goals (conv => whnf)
                    all_goals exact ⟨16 - (k + 1), k + 1, by omega, ⟨by omega, rfl⟩, ⟨rfl, ⟨⟨Nat.le_of_ble_eq_true rfl, rfl⟩, trivial⟩, wkH_refl _, bndH_of uG.bnd, by have h1 := u1.len; have h2 := u2.len; omega⟩⟩
                  · rw [hzf]
                    repeat' ((conv => whnf); first | (refine hGet_at gb ?_) | (refine hGet_at ga ?_) | (refine And.intro (And.intro (by omega) (by omega)) ?_) | (refine And.intro (show mulN (k : Int).toNat (Tryz.prog.types[3]).size < 16 by omega) ?_) | (refine fun (_ : InK _ _) => ?_) | (refine ask_false (by omega) ?_) | (refine ask_wrap64 (by omega) (by omega) ?_) | (refine And.intro ?_ (And.intro ?_ trivial)) | (refine And.intro ?_ trivial) | fail)
                    all_goals (conv => whnf)
                    all_goals exact ⟨16 - (k + 1), k + 1, by omega, ⟨by omega, rfl⟩, ⟨rfl, ⟨⟨Nat.le_of_ble_eq_true rfl, rfl⟩, trivial⟩, wkH_refl _, bndH_of uG.bnd, by have h1 := u1.len; have h2 := u2.len; omega⟩⟩
                · obtain rfl : k = 16 := by omega
                  repeat' ((conv => whnf); first | (refine ask_false (by omega) ?_) | (refine ask_wrap64 (by omega) (by omega) ?_) | fail)
                  exact ⟨k1 - (z.k + 1), ⟨z.k + 1, z.f, stD z.s p, stD z.t p, G⟩, by omega, ⟨⟨rfl, g⟩, uG, g1, by rw [← lC]; exact g2, rs', rt', fun h => by show stD z.s p = stD z.t p; rw [hf h]⟩, ⟨rfl, ⟨⟨Nat.le_of_ble_eq_true rfl, rfl⟩, ⟨Nat.le_of_ble_eq_true rfl, rfl⟩, trivial⟩, wkH_refl _, bndH_of uG.bnd, by have h1 := u1.len; have h2 := u2.len; show H.length ≤ G.length; omega⟩⟩
            · repeat' ((conv => whnf); first | (refine And.intro ⟨rfl, rfl, rfl⟩ (And.intro rs.right (And.intro hps fun o x ho hx => ?_))) | (refine And.intro (And.intro (by omega) (by omega)) ?_) | (refine load_ones (by kernel_rfl) (by first | exact em | (rw [Nat.zero_add]; exact em)) hp1 ?_) | (refine hGet_at (up_get c1) ?_) | (refine hGet_at (up_get cq) ?_) | (refine hGet_at (up_top _ _) ?_) | (refine setH_as (set_top _ _ _) ?_) | (refine setH_at ?_) | (refine And.intro ?_ (And.intro ?_ (And.intro ?_ trivial))) | (refine And.intro ?_ (And.intro ?_ trivial)) | (refine And.intro ?_ trivial) | fail)
              all_goals (conv => whnf)
              all_goals (subst ho hx)
              all_goals (have hl0 : (H2 ++ [eB ps l s]).length < G0.length := by omega)
              all_goals (have uf : UpH (H2 ++ [eB ps l s]) ((G0 ++ [iB 48 16 (outD z.s p)]).set (H2 ++ [eB ps l s]).length (stB (stD z.s p))) := (us.app rfl).set (Nat.le_refl _) rfl)
              all_goals exact ⟨(G0 ++ [iB 48 16 (outD z.s p)]).set (H2 ++ [eB ps l s]).length (stB (stD z.s p)), ⟨uf, List.getElem?_set_self (by simp only [List.length_append, List.length_cons, List.length_nil]; omega), by rw [List.getElem?_set_ne (by rw [lC]; omega)]; exact up_get c2, by rw [List.getElem?_set_ne (by omega)]; exact up_get ca, by rw [List.getElem?_set_ne (by omega)]; exact up_top _ _⟩, ⟨rfl, trivial, wkH_refl _, bndH_of uf.bnd, by have h1 := u1.len; have h2 := u2.len; have h3 := uf.len; show H.length ≤ ((G0 ++ [iB 48 16 (outD z.s p)]).set (H2 ++ [eB ps l s]).length (stB (stD z.s p))).length; omega⟩⟩
      · repeat' ((conv => whnf); first | (refine And.intro ⟨rfl, rfl, rfl⟩ (And.intro rt.right (And.intro hps fun o x ho hx => ?_))) | (refine And.intro (And.intro (by omega) (by omega)) ?_) | (refine load_ones (by kernel_rfl) (by first | exact em | (rw [Nat.zero_add]; exact em)) hp1 ?_) | (refine hGet_at a2 ?_) | (refine hGet_at gq ?_) | (refine hGet_at (up_get a2) ?_) | (refine hGet_at (up_get gq) ?_) | (refine hGet_at (up_get (up_get a2)) ?_) | (refine hGet_at (up_get (up_get gq)) ?_) | (refine lenH_is ?_) | (refine pushH_at ?_) | (refine hGet_at (up_top _ _) ?_) | (refine hGet_at (up_get (up_top _ _)) ?_) | (refine setH_as (set_top _ _ _) ?_) | (refine setH_as (set_low _ _ _ _) ?_) | (refine hGet_at (up_top' _ _ _ _) ?_) | (refine setH_as (set_top' _ _ _ _ _) ?_) | (refine And.intro ?_ (And.intro ?_ (And.intro ?_ (And.intro ?_ trivial)))) | (refine And.intro ?_ (And.intro ?_ (And.intro ?_ trivial))) | (refine And.intro ?_ (And.intro ?_ trivial)) | (refine And.intro ?_ trivial) | fail)
        all_goals (conv => whnf)
        all_goals (subst ho hx)
        all_goals (have uu := UpH.refl u.bnd; have hzl : H.length ≤ z.H.length := by have h1 := u1.len; have h2 := u2.len; have h3 := u.len; omega)
        all_goals first
          | exact ⟨⟨z.H.length, _, z.H ++ [iB 48 16 (outD z.t p)] ++ [stB (stD z.t p)]⟩, ⟨(uu.app rfl).app rfl, ⟨Nat.le_refl _, by simp⟩, up_get (up_top _ _), up_top' _ _ _ _⟩, ⟨rfl, ⟨⟨Nat.le_of_ble_eq_true rfl, rfl⟩, ⟨Nat.le_of_ble_eq_true rfl, rfl⟩, ⟨Nat.le_of_ble_eq_true rfl, rfl⟩, trivial⟩, wkH_refl _, bndH_of ((uu.app rfl).app rfl).bnd, Nat.le_trans hzl ((uu.app rfl).app rfl).len⟩⟩
          | exact ⟨⟨_, z.H.length, z.H ++ [stB (stD z.t p)] ++ [iB 48 16 (outD z.t p)]⟩, ⟨(uu.app rfl).app rfl, ⟨by simp, Nat.le_refl _⟩, up_top' _ _ _ _, up_get (up_top _ _)⟩, ⟨rfl, ⟨⟨Nat.le_of_ble_eq_true rfl, rfl⟩, ⟨Nat.le_of_ble_eq_true rfl, rfl⟩, ⟨Nat.le_of_ble_eq_true rfl, rfl⟩, trivial⟩, wkH_refl _, bndH_of ((uu.app rfl).app rfl).bnd, Nat.le_trans hzl ((uu.app rfl).app rfl).len⟩⟩
    · have e1 : z.k = k1 := by omega
      rcases Bool.eq_false_or_eq_true z.f with hzf | hzf
      · have est := hf hzf
        rw [hzf]
        repeat' ((conv => whnf); first | (refine ask_false (by omega) ?_) | (refine hGet_at a1 ?_) | (refine hGet_at a2 ?_) | fail)
        refine fun τ hτ => ?_
        rw [est] at hτ
        simp at hτ
        subst hτ
        repeat' ((conv => whnf); first | fail)
        rfl
      · rw [hzf]
        repeat' ((conv => whnf); first | (refine ask_false (by omega) ?_) | (refine hGet_at a1 ?_) | (refine hGet_at a2 ?_) | fail)
        rfl
end R
end Go.Proofs.YtaficaacogcblaaGreatDoor
