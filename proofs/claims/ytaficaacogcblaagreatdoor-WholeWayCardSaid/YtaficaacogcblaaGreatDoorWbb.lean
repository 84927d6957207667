/- The library's TrimRight and Repeat, laid at this program (the layings are written by the kit's own tool), as contracts. -/
import Derived.Shelf.Strings.Trim
import Derived.Shelf.Strings.Repeat
import Derived.Test.YtaficaacogcblaaGreatDoorXs
import Derived.Test.YtaficaacogcblaaGreatDoorWaa
set_option linter.all false
namespace Go.Proofs.YtaficaacogcblaaGreatDoor
namespace S
open Go.Shelf Go.RowKit
def Tryz.lays162_ren : Go.Shelf.Ren := ⟨fun | 162 => 143 | 232 => 157 | 227 => 158 | 234 => 159 | 236 => 160 | 228 => 175 | 271 => 176 | 151 => 177 | 120 => 186 | 197 => 187 | 152 => 188 | 260 => 192 | 137 => 193 | 119 => 194 | 224 => 195 | 225 => 196 | 217 => 197 | 266 => 198 | n => n, fun | 9 => 9 | 4 => 4 | 3 => 3 | 5 => 5 | 117 => 241 | 116 => 240 | 0 => 0 | 124 => 244 | 21 => 21 | 105 => 259 | 46 => 115 | 119 => 274 | 139 => 277 | 138 => 276 | n => n, fun | 3 => 2 | 4 => 3 | n => n⟩
theorem Tryz.lays162 : Go.Proofs.Lays.n162 Tryz.prog Tryz.lays162_ren := {
  mixed := by kernel_rfl
  f119 := Tryz.func194.trans (congrArg some (by kernel_rfl))
  f120 := Tryz.func186.trans (congrArg some (by kernel_rfl))
  f137 := Tryz.func193.trans (congrArg some (by kernel_rfl))
  f151 := Tryz.func177.trans (congrArg some (by kernel_rfl))
  f152 := Tryz.func188.trans (congrArg some (by kernel_rfl))
  f162 := Tryz.func143.trans (congrArg some (by kernel_rfl))
  f197 := Tryz.func187.trans (congrArg some (by kernel_rfl))
  f217 := Tryz.func197.trans (congrArg some (by kernel_rfl))
  f224 := Tryz.func195.trans (congrArg some (by kernel_rfl))
  f225 := Tryz.func196.trans (congrArg some (by kernel_rfl))
  f227 := Tryz.func158.trans (congrArg some (by kernel_rfl))
  f228 := Tryz.func175.trans (congrArg some (by kernel_rfl))
  f232 := Tryz.func157.trans (congrArg some (by kernel_rfl))
  f234 := Tryz.func159.trans (congrArg some (by kernel_rfl))
  f236 := Tryz.func160.trans (congrArg some (by kernel_rfl))
  f260 := Tryz.func192.trans (congrArg some (by kernel_rfl))
  f266 := Tryz.func198.trans (congrArg some (by kernel_rfl))
  f271 := Tryz.func176.trans (congrArg some (by kernel_rfl))
  t0 := Tryz.underlying0
  a0 := Tryz.isAgg0
  z0 := Tryz.sizeOf0
  v0 := Tryz.zeroValue0
  t3 := Tryz.underlying3
  a3 := Tryz.isAgg3
  z3 := Tryz.sizeOf3
  v3 := Tryz.zeroValue3
  t4 := Tryz.underlying4
  a4 := Tryz.isAgg4
  z4 := Tryz.sizeOf4
  v4 := Tryz.zeroValue4
  t5 := Tryz.underlying5
  a5 := Tryz.isAgg5
  z5 := Tryz.sizeOf5
  v5 := Tryz.zeroValue5
  t9 := Tryz.underlying9
  a9 := Tryz.isAgg9
  z9 := Tryz.sizeOf9
  v9 := Tryz.zeroValue9
  t21 := Tryz.underlying21
  a21 := Tryz.isAgg21
  z21 := Tryz.sizeOf21
  v21 := Tryz.zeroValue21
  t46 := Tryz.underlying115
  a46 := Tryz.isAgg115
  z46 := Tryz.sizeOf115
  v46 := Tryz.zeroValue115
  t105 := Tryz.underlying259
  a105 := Tryz.isAgg259
  z105 := Tryz.sizeOf259
  v105 := Tryz.zeroValue259
  t116 := Tryz.underlying240
  a116 := Tryz.isAgg240
  z116 := Tryz.sizeOf240
  t117 := Tryz.underlying241
  a117 := Tryz.isAgg241
  z117 := Tryz.sizeOf241
  v117 := Tryz.zeroValue241
  t119 := Tryz.underlying274
  a119 := Tryz.isAgg274
  z119 := Tryz.sizeOf274
  t124 := Tryz.underlying244
  a124 := Tryz.isAgg244
  z124 := Tryz.sizeOf244
  v124 := Tryz.zeroValue244
  t138 := Tryz.underlying276
  a138 := Tryz.isAgg276
  z138 := Tryz.sizeOf276
  v138 := Tryz.zeroValue276
  t139 := Tryz.underlying277
  a139 := Tryz.isAgg277
  z139 := Tryz.sizeOf277
  v139 := Tryz.zeroValue277
  g3 := by kernel_rfl
  g4 := by kernel_rfl }
def Tryz.lays105_ren : Go.Shelf.Ren := ⟨fun | 105 => 144 | 212 => 161 | 99 => 162 | 165 => 163 | 166 => 164 | 170 => 165 | 169 => 166 | 263 => 178 | 264 => 179 | 206 => 180 | 240 => 181 | 241 => 182 | 276 => 189 | 277 => 190 | n => n, fun | 9 => 9 | 3 => 3 | 4 => 4 | 20 => 20 | 0 => 0 | 46 => 115 | 109 => 245 | 5 => 5 | 72 => 250 | 76 => 254 | 51 => 31 | 146 => 262 | 53 => 213 | 148 => 264 | 70 => 248 | 37 => 105 | 75 => 253 | 127 => 266 | 164 => 268 | 80 => 256 | n => n, fun | n => n⟩
theorem Tryz.lays105 : Go.Proofs.Lays.n105 Tryz.prog Tryz.lays105_ren := {
  mixed := by kernel_rfl
  f99 := Tryz.func162.trans (congrArg some (by kernel_rfl))
  f105 := Tryz.func144.trans (congrArg some (by kernel_rfl))
  f165 := Tryz.func163.trans (congrArg some (by kernel_rfl))
  f166 := Tryz.func164.trans (congrArg some (by kernel_rfl))
  f169 := Tryz.func166.trans (congrArg some (by kernel_rfl))
  f170 := Tryz.func165.trans (congrArg some (by kernel_rfl))
  f206 := Tryz.func180.trans (congrArg some (by kernel_rfl))
  f212 := Tryz.func161.trans (congrArg some (by kernel_rfl))
  f240 := Tryz.func181.trans (congrArg some (by kernel_rfl))
  f241 := Tryz.func182.trans (congrArg some (by kernel_rfl))
  f263 := Tryz.func178.trans (congrArg some (by kernel_rfl))
  f264 := Tryz.func179.trans (congrArg some (by kernel_rfl))
  f276 := Tryz.func189.trans (congrArg some (by kernel_rfl))
  f277 := Tryz.func190.trans (congrArg some (by kernel_rfl))
  t0 := Tryz.underlying0
  a0 := Tryz.isAgg0
  z0 := Tryz.sizeOf0
  v0 := Tryz.zeroValue0
  t3 := Tryz.underlying3
  a3 := Tryz.isAgg3
  z3 := Tryz.sizeOf3
  v3 := Tryz.zeroValue3
  t4 := Tryz.underlying4
  a4 := Tryz.isAgg4
  z4 := Tryz.sizeOf4
  v4 := Tryz.zeroValue4
  t5 := Tryz.underlying5
  a5 := Tryz.isAgg5
  z5 := Tryz.sizeOf5
  v5 := Tryz.zeroValue5
  t9 := Tryz.underlying9
  a9 := Tryz.isAgg9
  z9 := Tryz.sizeOf9
  v9 := Tryz.zeroValue9
  t20 := Tryz.underlying20
  a20 := Tryz.isAgg20
  z20 := Tryz.sizeOf20
  v20 := Tryz.zeroValue20
  t37 := Tryz.underlying105
  a37 := Tryz.isAgg105
  z37 := Tryz.sizeOf105
  v37 := Tryz.zeroValue105
  t46 := Tryz.underlying115
  a46 := Tryz.isAgg115
  z46 := Tryz.sizeOf115
  v46 := Tryz.zeroValue115
  t51 := Tryz.underlying31
  a51 := Tryz.isAgg31
  z51 := Tryz.sizeOf31
  v51 := Tryz.zeroValue31
  t53 := Tryz.underlying213
  a53 := Tryz.isAgg213
  z53 := Tryz.sizeOf213
  v53 := Tryz.zeroValue213
  t70 := Tryz.underlying248
  a70 := Tryz.isAgg248
  z70 := Tryz.sizeOf248
  v70 := Tryz.zeroValue248
  t72 := Tryz.underlying250
  a72 := Tryz.isAgg250
  z72 := Tryz.sizeOf250
  v72 := Tryz.zeroValue250
  t75 := Tryz.underlying253
  a75 := Tryz.isAgg253
  z75 := Tryz.sizeOf253
  v75 := Tryz.zeroValue253
  t76 := Tryz.underlying254
  a76 := Tryz.isAgg254
  z76 := Tryz.sizeOf254
  v76 := Tryz.zeroValue254
  t109 := Tryz.underlying245
  a109 := Tryz.isAgg245
  z109 := Tryz.sizeOf245
  v109 := Tryz.zeroValue245
  t127 := Tryz.underlying266
  a127 := Tryz.isAgg266
  z127 := Tryz.sizeOf266
  v127 := Tryz.zeroValue266
  t146 := Tryz.underlying262
  a146 := Tryz.isAgg262
  z146 := Tryz.sizeOf262
  v146 := Tryz.zeroValue262
  t148 := Tryz.underlying264
  a148 := Tryz.isAgg264
  z148 := Tryz.sizeOf264
  v148 := Tryz.zeroValue264
  t164 := Tryz.underlying268
  a164 := Tryz.isAgg268
  z164 := Tryz.sizeOf268
  v164 := Tryz.zeroValue268 }
theorem Tryz.Builder_Extra_105 : Builder.Extra Tryz.prog Tryz.lays105_ren := {
  sizeBuilder := by kernel_rfl
  liesBuilder := by kernel_rfl
  t5 := Tryz.underlying5
  a5 := Tryz.isAgg5
  z5 := Tryz.sizeOf5
  v5 := Tryz.zeroValue5
  infoByte := by kernel_rfl
  cellsByte := by kernel_rfl
  sizeByte := by kernel_rfl
  neB5 := by decide }

theorem trimB_le (l : List UInt8) (c : UInt8) : (Lib.trimRightB l c).length ≤ l.length := by
  unfold Lib.trimRightB
  rw [List.length_reverse]
  have := (List.dropWhile_suffix (· == c) (l := l.reverse)).length_le
  rwa [List.length_reverse] at this
theorem repeatL_len (l : List UInt8) (c : Nat) : (Lib.repeatL l c).length = l.length * c := by
  rw [Lib.repeatL_length, Nat.mul_comm]
/-- What TrimRight gives of bytes at one byte: no longer than they are. -/
noncomputable def trimS (s : ByteArray) : ByteArray := ⟨(Lib.trimRightB s.data.toList 0).toArray⟩
theorem trimS_le (s : ByteArray) : (trimS s).size ≤ s.size := by
  show ((Lib.trimRightB s.data.toList 0).toArray).size ≤ _
  have := trimB_le s.data.toList 0
  simpa using this
noncomputable def ctTrim : Ct := fun ws K => match ws with
  | [.c (.cs s), .c (.cs z)] => z = ⟨#[0]⟩ ∧ ∀ t : ByteArray, t.size ≤ s.size → t = trimS s → K (.w (.c (.cs t)))
  | _ => False
theorem trim_ct : CtOk Tryz.prog 143 ctTrim := by
  intro ws K h' hr
  unfold ctTrim at h'
  split at h'
  · rename_i s z
    obtain ⟨rfl, hK⟩ := h'
    have hs : s.size ≤ 9223372036854775807 := hr.1
    refine ⟨_, hK _ (trimS_le s) rfl, ⟨Nat.le_trans (trimS_le s) hs, rfl⟩, fun σ w => ?_⟩
    refine (Any.strings_TrimRight_one Tryz.lays162 s 0 (by decide) w hs).mono ?_
    rintro e w' ⟨rfl, rfl⟩
    exact ⟨_, rfl, rfl, Below.refl _ _⟩
  · exact h'.elim
noncomputable def repS (c : Nat) : ByteArray := ⟨(Lib.repeatL [0] c).toArray⟩
theorem repS_len (c : Nat) : (repS c).size = c := by
  show ((Lib.repeatL [0] c).toArray).size = c
  have := repeatL_len [0] c
  simpa using this
noncomputable def ctRep : Ct := fun ws K => match ws with
  | [.c (.cs z), .c (.ci .i64 n)] => z = ⟨#[0]⟩ ∧ (0 ≤ n ∧ n ≤ 1000) ∧ ∀ t : ByteArray, (t.size : Int) = n → t = repS n.toNat → K (.w (.c (.cs t)))
  | _ => False
theorem rep_ct : CtOk Tryz.prog 144 ctRep := by
  intro ws K h' hr
  unfold ctRep at h'
  split at h'
  · rename_i z n
    obtain ⟨rfl, ⟨h0, h1⟩, hK⟩ := h'
    obtain ⟨c, rfl⟩ : ∃ c : Nat, n = c := ⟨n.toNat, by omega⟩
    have e1 : ((c : Int)).toNat = c := Int.toNat_natCast c
    refine ⟨_, hK (repS c) (by rw [repS_len]) (by rw [e1]), ⟨by show (repS c).size ≤ _; rw [repS_len]; omega, rfl⟩, fun σ w => ?_⟩
    refine (Any.strings_Repeat Tryz.lays105 Tryz.Builder_Extra_105 ⟨#[0]⟩ c w (by omega) (by show 1 * c ≤ _; omega)).mono ?_
    rintro e w' ⟨rfl, hb⟩
    exact ⟨_, rfl, rfl, hb⟩
  · exact h'.elim
end S

/- The coder of ranges: the bytes. -/
namespace R
open Go.RowKit (Below)
set_option maxRecDepth 100000
set_option maxHeartbeats 16000000

noncomputable def FDn : Fns := (F0.plus 143 S.ctTrim).plus 144 S.ctRep
theorem FDn_ok : FnsOk Tryz.prog FDn := (F0_ok.plus S.trim_ct Tryz.func143 (by kernel_rfl) (by kernel_rfl)).plus S.rep_ct Tryz.func144 (by kernel_rfl) (by kernel_rfl)
theorem e4 (xs : List Int) : (strOfNums (List.take 4 xs)).size ≤ 4 := by
  rw [strOfNums_size, List.length_take]; omega
def doneP (sz : Int) (x : V) (N : List Blk) : Prop := (∃ p : ByteArray, x = .tup [.c (.cs p), i64 0] ∧ (p.size : Int) = sz) ∧ N = []
theorem done_made {sz : Int} {p : ByteArray} {H' : List Blk} (h : (p.size : Int) = sz) : Made (doneP sz) (.tup [.c (.cs p), i64 0]) H' :=
  made_of (.tup [.c (.cs p), i64 0]) [] id ⟨⟨p, rfl, h⟩, rfl⟩ rfl trivial (fun a b ha _ _ => absurd ha (Nat.not_lt_zero a)) rfl rfl (by intro e; cases e)
abbrev nRo (sz lo rg : Int) : Blk := .ro [.one (.ci .i64 sz), .one (.ci .u64 lo), .one (.ci .u32 rg), .one .csn, .one (.ci .i64 0)]
abbrev sRo (sz lo rg : Int) (q g cap : Nat) : Blk := .ro [.one (.ci .i64 sz), .one (.ci .u64 lo), .one (.ci .u32 rg), .one (.csl q 0 0 g cap), .one (.ci .i64 g)]
theorem done_nil {sz lo rg : Int} (hs : 4 ≤ sz ∧ sz ≤ 100) : walk FDn 0 Tryz.f104 [.c (.cp 0 0)] [nRo sz lo rg] (Made (doneP sz)) := by
  repeat' ((conv => whnf); first | (refine And.intro (show (0 : Int) ≤ _ by decide) fun r1' hr1' => ?_) | (refine fun (r2 : Int) (hr2 : r2 = IntKind.u8.wrap _) => ?_) | (refine And.intro (Nat.le_refl _) ?_) | (refine And.intro (by decide) ?_) | (refine And.intro (Nat.le_trans (Nat.add_le_add_left (e4 _) _) (Nat.le_of_ble_eq_true rfl)) ?_) | (refine ⟨by kernel_rfl, ?_⟩) | (refine And.intro rfl ?_) | fail)
  all_goals (conv => whnf)
  all_goals (refine fun t ht _ => ?_)
  all_goals (replace ht : t.size ≤ 4 := Nat.le_trans ht (by rw [ByteArray.size_append]; exact Nat.le_trans (Nat.add_le_add_left (e4 _) _) (Nat.le_of_ble_eq_true rfl)))
  all_goals (repeat' ((conv => whnf); first | (refine ask_false (by omega) ?_) | (refine ask_wrap64 (by omega) (by omega) ?_) | fail))
  all_goals (conv => whnf)
  all_goals (refine And.intro rfl (And.intro (And.intro (by omega) (by omega)) fun u hu _ => ?_))
  all_goals (repeat' ((conv => whnf); first | (refine And.intro (by omega) ?_) | fail))
  all_goals (conv => whnf)
  all_goals exact done_made (by rw [ByteArray.size_append]; omega)
theorem eg {g : Nat} (xs : List Int) : (strOfNums (List.take g xs)).size ≤ g := by
  rw [strOfNums_size, List.length_take]; omega
theorem done_own {sz lo rg : Int} {g cap : Nat} {ys : List Int} (hy : ys.length = cap) (hg : g ≤ cap) (hs : g + 4 ≤ sz ∧ sz ≤ 100) : walk FDn 0 Tryz.f104 [.c (.cp 0 0)] [sRo sz lo rg 1 g cap, .ro [.ints .u8 cap ys]] (Made (doneP sz)) := by
  repeat' ((conv => whnf); first | (refine And.intro (show (0 : Int) ≤ _ by decide) fun r1' hr1' => ?_) | (refine fun (r2 : Int) (hr2 : r2 = IntKind.u8.wrap _) => ?_) | (refine And.intro (Nat.le_refl _) ?_) | (refine And.intro (by decide) ?_) | (refine And.intro (Nat.le_trans (Nat.add_le_add (eg _) (e4 _)) (by omega)) ?_) | (refine ⟨by kernel_rfl, ?_⟩) | (refine And.intro (show 0 + g ≤ cap by omega) ?_) | (refine And.intro (show g ≤ 9223372036854775807 by omega) ?_) | (refine And.intro rfl ?_) | fail)
  all_goals (conv => whnf)
  all_goals (refine fun t ht _ => ?_)
  all_goals (replace ht : t.size ≤ g + 4 := Nat.le_trans ht (by rw [ByteArray.size_append]; exact Nat.add_le_add (eg _) (e4 _)))
  all_goals (repeat' ((conv => whnf); first | (refine ask_false (by omega) ?_) | (refine ask_wrap64 (by omega) (by omega) ?_) | fail))
  all_goals (conv => whnf)
  all_goals (refine And.intro rfl (And.intro (And.intro (by omega) (by omega)) fun u hu _ => ?_))
  all_goals (repeat' ((conv => whnf); first | (refine And.intro (by omega) ?_) | fail))
  all_goals (conv => whnf)
  all_goals exact done_made (by rw [ByteArray.size_append]; omega)
def hDone : HCt := fun ws H K => match ws with
  | [.c (.cp j 0)] => ∃ e : ES, EAt H j e ∧ (((e.g : Nat) : Int) + 4 ≤ e.sz ∧ e.sz ≤ 100) ∧ ∀ p : ByteArray, (p.size : Int) = e.sz → K (.tup [.c (.cs p), i64 0]) H
  | _ => False
theorem cons_rng {b : Blk} {H : List Blk} (h : b.rng) (k : ∀ c ∈ H, c.rng) : ∀ c ∈ b :: H, c.rng := fun c hc => by
  rcases List.mem_cons.1 hc with rfl | g
  · exact h
  · exact k c g
theorem done_ct : HCtOk Tryz.prog 104 hDone := by
  intro ws H K h hr hb ho G σ base w₀ w hw
  unfold hDone at h
  split at h
  · rename_i j
    obtain ⟨e, he, hs, hK⟩ := h
    have hk : ∀ (x : V) (N : List Blk), doneP e.sz x N → K (x.ren (sh H.length)) (H ++ N.map (Blk.ren (sh H.length))) := fun x N hP => by
      obtain ⟨⟨p, rfl, hp⟩, rfl⟩ := hP
      rw [List.map_nil, List.append_nil]
      exact hK p hp
    have hm : ∀ (x : V) (N : List Blk), doneP e.sz x N → ∀ b ∈ N, b.mine = true ∨ b = .gone := fun x N hP b hb => by rw [hP.2] at hb; cases hb
    rcases he with ⟨h1, h2, h3⟩ | ⟨⟨h1, h2, h3⟩, h4, h5, h6⟩
    · have hg := ho.rng _ (List.mem_of_getElem? h3)
      refine walk_lift FDn_ok Tryz.func104 (n := 0) (ws := [.c (.cp 0 0)]) (R := [nRo e.sz e.lo e.rg]) ⟨cons_rng hg (fun _ h => (by cases h)), fun b hb => by rw [List.mem_singleton.1 hb]; rfl⟩ ⟨trivial, trivial⟩ rfl (done_nil (by omega)) hm (fun _ => j) ?_ rfl hk ho G σ base w₀ w hw
      intro k b hk
      match k, hk with
      | 0, hk => simp at hk; subst hk; exact .inr ⟨_, rfl, .inl ⟨_, h3⟩⟩
      | k + 1, hk => simp at hk
    · have hg := ho.rng _ (List.mem_of_getElem? h5)
      have hq := ho.rng _ (List.mem_of_getElem? h6)
      refine walk_lift FDn_ok Tryz.func104 (n := 0) (ws := [.c (.cp 0 0)]) (R := [sRo e.sz e.lo e.rg 1 e.g e.cap, .ro [.ints .u8 e.cap e.ys]]) ⟨cons_rng hg (cons_rng hq (fun _ h => (by cases h))), fun b hb => ?_⟩ ⟨trivial, trivial⟩ rfl (done_own h3 h2 (by omega)) hm (fun k => if k = 0 then j else e.q) ?_ rfl hk ho G σ base w₀ w hw
      · rcases List.mem_cons.1 hb with rfl | hb
        · rfl
        · rw [List.mem_singleton.1 hb]; rfl
      · intro k b hk
        match k, hk with
        | 0, hk => simp at hk; subst hk; exact .inr ⟨_, rfl, .inl ⟨_, h5⟩⟩
        | 1, hk => simp at hk; subst hk; exact .inr ⟨_, rfl, .inl ⟨_, h6⟩⟩
        | k + 2, hk => simp at hk
  · exact h.elim

/-! ### the bits that have gone out -/
noncomputable def FEu : Fns := F0.plus 120 ctUsed
theorem FEu_ok : FnsOk Tryz.prog FEu := F0_ok.plus used_ct Tryz.func120 (by kernel_rfl) (by kernel_rfl)
theorem eused_walk {H : List Blk} {j : Nat} {sz lo rg : Int} {g : Nat} {c : C} (hj : H[j]? = some (.own 215 [.one (.ci .i64 sz), .one (.ci .u64 lo), .one (.ci .u32 rg), .one c, .one (.ci .i64 g)])) (hg : g ≤ 100000000) : walk FEu 0 Tryz.f96 [.c (.cp j 0)] H fun x H' => x = vi (usedS g rg) ∧ H' = H := by
  repeat' ((conv => whnf); first | (refine lenH_at ?_) | (refine hGet_at hj ?_) | (refine ⟨by kernel_rfl, ?_⟩) | (refine maskB_as fun Hm hl hm => ?_) | (refine hGet_at (hm j _ hj (by simp)) ?_) | (refine And.intro (And.intro (by omega) (by omega)) ?_) | fail)
  rfl
def hEUsed : HCt := fun ws H K => match ws with
  | [.c (.cp j 0)] => ∃ e : ES, EAt H j e ∧ e.g ≤ 100000000 ∧ ∀ u, u = usedE e → K (vi u) H
  | _ => False
theorem eused_ct : HCtOk Tryz.prog 96 hEUsed := by
  intro ws H K h hr hb ho G σ base w₀ w hw
  unfold hEUsed at h
  split at h
  · rename_i j
    obtain ⟨e, he, hg, hK⟩ := h
    have hw' : walk FEu 0 Tryz.f96 [.c (.cp j 0)] H fun x H' => x = vi (usedS e.g e.rg) ∧ H' = H := by
      rcases he with ⟨h1, h2, h3⟩ | ⟨⟨h1, h2, h3⟩, h4, h5, h6⟩
      · rw [h2]; exact eused_walk h3 (by decide)
      · exact eused_walk h5 hg
    exact heap_lift FEu_ok Tryz.func96 (n := 0) (ws := [.c (.cp j 0)]) ⟨trivial, trivial⟩ (by
      have := he.ptr
      show (decide (j < H.length) && true) = true
      simp [this]) ho hw' (fun x H' hP => by
      obtain ⟨rfl, rfl⟩ := hP
      exact hK _ rfl) G σ base w₀ w hw
  · exact h.elim
end R
end Go.Proofs.YtaficaacogcblaaGreatDoor
