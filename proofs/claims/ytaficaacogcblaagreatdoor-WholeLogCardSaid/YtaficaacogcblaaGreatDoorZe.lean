/- Xrs, Wd, Wt: what the law wants of them. -/
import Derived.Test.YtaficaacogcblaaGreatDoorZd
set_option linter.all false
namespace Go.Proofs.YtaficaacogcblaaGreatDoor
open Go.RowKit (Below)
def FldOk (P : Program) (k : IntKind) (f : Field) (n : Nat) : Prop :=
  f.name ≠ "_" ∧ ∀ (w : World) (X Y : Array Value) (xs ys : List Int), xs.length = n → ys.length = n → (X.toList.drop f.offset).take n = xs.map (Value.int k) → (Y.toList.drop f.offset).take n = ys.map (Value.int k) →
    ∃ a b r, (part f.type X f.offset).run P w = .ok a w ∧ (part f.type Y f.offset).run P w = .ok b w ∧ (Op.equalIn 9999 f.type a b).run P w = .ok r w ∧ (r = true ↔ xs = ys)
theorem fld_int {P : Program} {k : IntKind} {f : Field} (hn : f.name ≠ "_") (hu : P.underlying f.type = some (.int k)) (hp : P.plainKey f.type = true) : FldOk P k f 1 := by
  refine ⟨hn, fun w X Y xs ys hx hy eX eY => ?_⟩
  obtain ⟨x, rfl⟩ : ∃ x, xs = [x] := by
    match xs, hx with
    | [x], _ => exact ⟨x, rfl⟩
  obtain ⟨y, rfl⟩ : ∃ x, ys = [x] := by
    match ys, hy with
    | [x], _ => exact ⟨x, rfl⟩
  have cell : ∀ (X : Array Value) (x : Int), (X.toList.drop f.offset).take 1 = [x].map (Value.int k) → X[f.offset]? = some (.int k x) := fun X x e => by
    have e2 : ((X.toList.drop f.offset).take 1)[0]? = some (Value.int k x) := by rw [e]; rfl
    rw [List.getElem?_take_of_lt (by decide), List.getElem?_drop, Nat.add_zero] at e2
    simpa using e2
  refine ⟨.int k x, .int k y, x == y, run_part_plain (P := P) w hp (cell X x eX), run_part_plain (P := P) w hp (cell Y y eY), run_equalIn_int (P := P) w 9998 f.type k k x y hu, ?_⟩
  simp
theorem fld_arr {P : Program} {k : IntKind} {f : Field} {n : Nat} {e : TypeId} {inf ie : TypeInfo} (hn : f.name ≠ "_") (hu : P.underlying f.type = some (.array n e)) (hi : P.info? f.type = some inf) (hs : inf.size = n) (hag : isAg (tyOf P f.type) = some true)
    (he : P.underlying e = some (.int k)) (hie : P.info? e = some ie) (hc : P.cellsOf e = 1) (hp : P.plainKey e = true) : FldOk P k f n := by
  refine ⟨hn, fun w X Y xs ys hx hy eX eY => ?_⟩
  have row : ∀ (X : Array Value) (xs : List Int), (X.toList.drop f.offset).take n = xs.map (Value.int k) → xs.length = n → (part f.type X f.offset).run P w = .ok (.agg (xs.map (Value.int k)).toArray) w := fun X xs e hl => by
    have hlen : f.offset + n ≤ X.size ∨ n = 0 := by
      have := congrArg List.length e
      simp at this
      omega
    have e2 : (X.extract f.offset (f.offset + n)) = (xs.map (Value.int k)).toArray := by
      apply Array.ext'
      rw [← e]
      simp [List.drop_take]
    have hle : ¬ X.size < f.offset + n ∨ n = 0 := by omega
    simp only [part, Sem.run_bind, run_isAgg w hag, run_sizeOf w hi, Result.andThen_ok, if_true, hs, e2, Sem.run_pure]
  have cell : ∀ (zs : List Int) (i : Nat), i < zs.length → (zs.map (Value.int k)).toArray[i]? = some (.int k (zs.getD i 0)) := fun zs i h => by
    simp [List.getD_eq_getElem?_getD, h]
  have main : ∀ is : List Nat, (∀ i ∈ is, i < n) → (Op.eqItems 9998 e 1 (xs.map (Value.int k)).toArray (ys.map (Value.int k)).toArray is).run P w = .ok (is.all fun i => xs.getD i 0 == ys.getD i 0) w := by
    intro is
    induction is with
    | nil => intro _; rfl
    | cons i is ih =>
      intro h
      have h1 := run_part_plain (P := P) w hp (cell xs i (by rw [hx]; exact h i (by simp)))
      have h2 := run_part_plain (P := P) w hp (cell ys i (by rw [hy]; exact h i (by simp)))
      have h3 := run_equalIn_int (P := P) w 9997 e k k (xs.getD i 0) (ys.getD i 0) he
      have h4 := ih fun j hj => h j (by simp [hj])
      simp only [Op.eqItems, Nat.mul_one, Sem.run_bind, h1, h2, h3, Result.andThen_ok, List.all_cons]
      cases hb : (xs.getD i 0 == ys.getD i 0)
      · simp
      · simp only [Bool.not_true, Bool.false_eq_true, if_false, Bool.true_and]
        exact h4
  refine ⟨_, _, (List.range n).all fun i => xs.getD i 0 == ys.getD i 0, row X xs eX hx, row Y ys eY hy, ?_, ?_⟩
  · rw [run_equalIn_array w 9998 _ _ hu hie, hc]
    exact main _ fun i h => List.mem_range.1 h
  · rw [List.all_eq_true]
    constructor
    · intro h
      refine List.ext_getElem (by rw [hx, hy]) fun i h1 h2 => ?_
      have := h i (List.mem_range.2 (by omega))
      simpa [List.getD_eq_getElem?_getD, h1, h2] using this
    · rintro rfl i hi
      simp
def FldsOk (P : Program) (k : IntKind) : List Field → Nat → Nat → Prop
  | [], off, tot => off = tot
  | f :: fs, off, tot => ∃ n, f.offset = off ∧ FldOk P k f n ∧ FldsOk P k fs (off + n) tot
theorem flds_run {P : Program} {k : IntKind} (w : World) {X Y : Array Value} {xs ys : List Int} (hX : X.toList = xs.map (Value.int k)) (hY : Y.toList = ys.map (Value.int k)) : ∀ (fs : List Field) (off tot : Nat), FldsOk P k fs off tot → xs.length = tot → ys.length = tot → off ≤ tot →
    ∃ r, (Op.eqFields 9999 X Y fs).run P w = .ok r w ∧ (r = true ↔ xs.drop off = ys.drop off)
  | [], off, tot, h, hx, hy, _ => by
    have h : off = tot := h
    subst h
    refine ⟨true, rfl, ?_⟩
    rw [List.drop_of_length_le (by omega), List.drop_of_length_le (by omega)]
    simp
  | f :: fs, off, tot, h, hx, hy, hle => by
    obtain ⟨n, rfl, ⟨hn, hf⟩, hrest⟩ := h
    have le : ∀ (fs : List Field) (off : Nat), FldsOk P k fs off tot → off ≤ tot := fun fs => by
      induction fs with
      | nil => intro off h; exact Nat.le_of_eq h
      | cons g gs ih =>
        rintro off ⟨m, _, _, h⟩
        have := ih _ h
        omega
    have hle' := le _ _ hrest
    obtain ⟨a, b, r, p1, p2, p3, hiff⟩ := hf w X Y ((xs.drop f.offset).take n) ((ys.drop f.offset).take n) (by simp; omega) (by simp; omega) (by rw [hX]; simp) (by rw [hY]; simp)
    obtain ⟨r', hr', hiff'⟩ := flds_run w hX hY fs (f.offset + n) tot hrest hx hy hle'
    have split : ∀ zs : List Int, zs.drop f.offset = (zs.drop f.offset).take n ++ zs.drop (f.offset + n) := fun zs => by
      rw [← List.drop_drop, List.take_append_drop]
    have both : xs.drop f.offset = ys.drop f.offset ↔ (xs.drop f.offset).take n = (ys.drop f.offset).take n ∧ xs.drop (f.offset + n) = ys.drop (f.offset + n) := by
      constructor
      · intro e
        refine ⟨by rw [e], ?_⟩
        rw [← List.drop_drop, ← List.drop_drop, e]
      · rintro ⟨e1, e2⟩
        rw [split xs, split ys, e1, e2]
    simp only [Op.eqFields, hn, ne_eq, not_false_eq_true, if_true, Sem.run_bind, p1, p2, p3, Result.andThen_ok]
    cases r
    · refine ⟨false, by simp, ?_⟩
      rw [both]
      constructor
      · intro e; cases e
      · rintro ⟨e1, _⟩; exact absurd (hiff.2 e1) (by simp)
    · refine ⟨r', by simpa using hr', ?_⟩
      rw [hiff', both]
      simp [hiff.1 rfl]
theorem eqok_struct {P : Program} {t : TypeId} {n : Nat} {k : IntKind} (hu : P.underlying t = some (.struct (P.fieldsOf t))) (hs : P.stoodInHeld t = false) (hf : FldsOk P k (P.fieldsOf t).toList 0 n)
    (hg : P.eqGuardType P.depth t = false) : EqOk P t (List.replicate n (.i k)) := by
  intro X Y hX hY w
  obtain ⟨xs, rfl, hx⟩ := shaped_rep hX
  obtain ⟨ys, rfl, hy⟩ := shaped_rep hY
  refine ⟨?_, fun op u v => run_eqGuard_agg w op t u v _ _ hg⟩
  obtain ⟨r, h1, h2⟩ := flds_run (P := P) (k := k) w (X := (xs.map (Value.int k)).toArray) (Y := (ys.map (Value.int k)).toArray) (xs := xs) (ys := ys) (by simp) (by simp) _ 0 n hf hx hy (Nat.zero_le _)
  refine ⟨r, ?_, ?_⟩
  · show (Op.equalIn 10000 t _ _).run P w = _
    rw [run_equalIn_struct w 9999 t _ _ hu hs]
    exact h1
  · rw [h2, List.drop_zero, List.drop_zero]
    exact ⟨fun e => by rw [e], fun e => map_int_inj e⟩
end Go.Proofs.YtaficaacogcblaaGreatDoor
set_option linter.all false
namespace Go.Proofs.YtaficaacogcblaaGreatDoor
namespace D
open Go.RowKit (Below)
set_option maxRecDepth 100000
set_option maxHeartbeats 64000000
theorem vi_eq {a b : Int} (h : a = b) : vi a = vi b := by rw [h]
theorem prod_bound {a b m n : Int} (h1 : -m ≤ a) (h2 : a ≤ m) (h3 : -n ≤ b) (h4 : b ≤ n) : -(m * n) ≤ a * b ∧ a * b ≤ m * n := by
  have h5 : 0 ≤ (m - a) * (n - b) := Int.mul_nonneg (by omega) (by omega)
  have h6 : 0 ≤ (m + a) * (n + b) := Int.mul_nonneg (by omega) (by omega)
  have h7 : 0 ≤ (m - a) * (n + b) := Int.mul_nonneg (by omega) (by omega)
  have h8 : 0 ≤ (m + a) * (n - b) := Int.mul_nonneg (by omega) (by omega)
  simp only [Int.sub_mul, Int.mul_sub, Int.add_mul, Int.mul_add] at h5 h6 h7 h8
  constructor <;> omega
def stg (zs xs : List Int) (i : Int) : List Int := zs.take i.toNat ++ xs.drop i.toNat
theorem stg_set {zs xs : List Int} {i : Int} {m : Nat} (hm : m = i.toNat) {v : Int} (h : zs.length = xs.length) (h0 : 0 ≤ i) (h1 : i < zs.length) (hv : zs.getD i.toNat 0 = v) : (stg zs xs i).set m v = stg zs xs (i + 1) := by
  subst hm hv
  have hlt : i.toNat < zs.length := by omega
  have hlt' : i.toNat < xs.length := by omega
  unfold stg
  rw [show (i + 1).toNat = i.toNat + 1 by omega]
  rw [List.set_append_right _ _ (by simp; omega)]
  have e : i.toNat - (zs.take i.toNat).length = 0 := by simp; omega
  rw [e, List.drop_eq_getElem_cons hlt', List.set_cons_zero, List.take_succ_eq_append_getElem hlt, List.append_assoc, List.singleton_append]
  congr 2
  rw [List.getD_eq_getElem?_getD, List.getElem?_eq_getElem hlt]; rfl
theorem stg_zero (zs xs : List Int) : stg zs xs 0 = xs := by simp [stg]
theorem stg_all {zs xs : List Int} (h : zs.length = xs.length) {i : Int} (hi : i = zs.length) : stg zs xs i = zs := by
  subst hi
  unfold stg
  rw [Int.toNat_natCast, List.take_length, List.drop_of_length_le (by omega), List.append_nil]
theorem getD_map {xs : List Int} {f : Int → Int} {i : Nat} (h : i < xs.length) : (xs.map f).getD i 0 = f (xs.getD i 0) := by
  simp [List.getD_eq_getElem?_getD, List.getElem?_eq_getElem h]
theorem mulN1 (n : Nat) : mulN n 1 = n := (mulN_eq n 1).trans (Nat.mul_one n)
theorem getD_range {f : Nat → Int} {m i : Nat} (h : i < m) : ((List.range m).map f).getD i 0 = f i := by
  simp [List.getD_eq_getElem?_getD, h]
def ctP (p : Int → Prop) [DecidablePred p] : Ct := fun ws K => match ws with
  | [.c (.ci .i64 a)] => ∀ τ, τ = decide (p a) → K (vb τ)
  | _ => False
theorem ctP_ok {F : Fns} (hF : FnsOk Tryz.prog F) {n : Nat} {f : FuncId} {fn : Func} (hf : Tryz.prog.funcs[f]? = some fn) {p : Int → Prop} [DecidablePred p]
    (h : ∀ a, InK .i64 a → walk F n fn [i64 a] [] fun y _ => y = vb (decide (p a))) : CtOk Tryz.prog f (ctP p) := by
  intro ws K h' hr
  unfold ctP at h'
  split at h'
  · rename_i a
    exact ⟨_, h' _ rfl, ⟨trivial, rfl⟩, walk_calls hF hf rfl hr rfl (h a hr.1)⟩
  · exact h'.elim
theorem mem_at {xs : List Int} {i : Nat} (h : i < xs.length) : xs.getD i 0 ∈ xs := by
  rw [List.getD_eq_getElem?_getD, List.getElem?_eq_getElem h]
  exact List.getElem_mem _
theorem all_of_at {xs : List Int} {p : Int → Prop} (h : ∀ k : Nat, k < xs.length → p (xs.getD k 0)) : ∀ x ∈ xs, p x := by
  intro x hx
  obtain ⟨k, hk, rfl⟩ := List.getElem_of_mem hx
  have := h k hk
  rwa [List.getD_eq_getElem?_getD, List.getElem?_eq_getElem hk] at this
@[irreducible] noncomputable def lenS : Int → Int := sealed fun x => if x ≤ 0 then 0 else (Nat.log2 x.toNat : Int) + 1
theorem lenS_def (x : Int) : lenS x = if x ≤ 0 then 0 else (Nat.log2 x.toNat : Int) + 1 := by unfold lenS; rw [sealed_eq]
theorem len_zero {x : Int} (h : x ≤ 0) : lenS x = 0 := by rw [lenS_def, if_pos h]
theorem len_nonneg (x : Int) : 0 ≤ lenS x := by rw [lenS_def]; split <;> omega
theorem len_bounds {x : Int} (h : 1 ≤ x) : pw (lenS x - 1) ≤ x ∧ x < pw (lenS x) ∧ 1 ≤ lenS x := by
  rw [lenS_def, if_neg (by omega)]
  have h0 : x.toNat ≠ 0 := by omega
  have h1 := Nat.log2_self_le h0
  have h2 := Nat.lt_log2_self (n := x.toNat)
  have e1 : pw ((Nat.log2 x.toNat : Int) + 1 - 1) = ((2 ^ Nat.log2 x.toNat : Nat) : Int) := by
    rw [pw_def, show ((Nat.log2 x.toNat : Int) + 1 - 1).toNat = Nat.log2 x.toNat by omega]; simp
  have e2 : pw ((Nat.log2 x.toNat : Int) + 1) = ((2 ^ (Nat.log2 x.toNat + 1) : Nat) : Int) := by
    rw [pw_def, show ((Nat.log2 x.toNat : Int) + 1).toNat = Nat.log2 x.toNat + 1 by omega]; simp
  rw [e1, e2]
  refine ⟨by omega, by omega, by omega⟩
theorem len_uniq {x l : Int} (h1 : 1 ≤ x) (h2 : pw (l - 1) ≤ x) (h3 : x < pw l) (h4 : 1 ≤ l) : lenS x = l := by
  obtain ⟨b1, b2, b3⟩ := len_bounds h1
  rcases Int.lt_trichotomy (lenS x) l with h | h | h
  · have := pw_mono (a := lenS x) (b := l - 1) (by omega); omega
  · exact h
  · have := pw_mono (a := l) (b := lenS x - 1) (by omega); omega
theorem len_le {x l : Int} (h : x < pw l) (hl : 0 ≤ l) : lenS x ≤ l := by
  rcases Int.lt_or_le 0 x with h0 | h0
  · obtain ⟨b1, b2, b3⟩ := len_bounds (x := x) (by omega)
    rcases Int.lt_or_le l (lenS x) with hh | hh
    · have := pw_mono (a := l) (b := lenS x - 1) (by omega); omega
    · exact hh
  · rw [len_zero h0]; exact hl
theorem len_half {x k : Int} (hk : 0 ≤ k) (h : pw k ≤ x) : lenS x = lenS (x / pw k) + k := by
  have hp := pw_pos k
  have hq : 1 ≤ x / pw k := (Int.le_ediv_iff_mul_le (by omega)).2 (by omega)
  obtain ⟨b1, b2, b3⟩ := len_bounds hq
  refine len_uniq (by omega) ?_ ?_ (by omega)
  · rw [show lenS (x / pw k) + k - 1 = (lenS (x / pw k) - 1) + k by omega, pw_add (by omega) hk]
    exact Int.le_trans (Int.mul_le_mul_of_nonneg_right b1 (by omega)) (Int.ediv_mul_le x (by omega))
  · rw [pw_add (by omega) hk]
    exact (Int.ediv_lt_iff_lt_mul (by omega)).1 b2
theorem pw_vals : pw 32 = 4294967296 ∧ pw 16 = 65536 ∧ pw 8 = 256 ∧ pw 1 = 2 ∧ pw 64 = 18446744073709551616 ∧ pw 62 = 4611686018427387904 := by simp only [pw_def]; decide
theorem tab_ask {s : ByteArray} {i : Int} {K : Int → Prop} (hi : 0 ≤ i ∧ i ≤ 255) (hs : s.size = 256) (ht : ((List.range 256).all fun n => (s.get! n).toNat == if n == 0 then 0 else Nat.log2 n + 1) = true)
    (hk : 0 ≤ lenS i → lenS i ≤ 8 → K (lenS i)) : (0 ≤ i ∧ i < s.size) ∧ ∀ r : Int, r = (s.get! i.toNat).toNat → K r := by
  refine ⟨by omega, ?_⟩
  rintro r rfl
  have h := List.all_eq_true.1 ht i.toNat (List.mem_range.2 (by omega))
  have e : ((s.get! i.toNat).toNat : Int) = lenS i := by
    rw [beq_iff_eq.1 h, lenS_def]
    simp only [beq_iff_eq]
    split
    · rw [if_pos (by omega)]; rfl
    · rw [if_neg (by omega)]; simp
  rw [e]
  exact hk (len_nonneg i) (len_le (by have := pw_vals.2.2.1; omega) (by decide))
theorem len64_walk (x : Int) (hx : InK .u64 x) : walk F0 0 Tryz.f154 [u64 x] [] fun y _ => y = vi (lenS x) := by
  obtain ⟨x1, x2⟩ := hx
  simp only [lowK, highK] at x1 x2
  obtain ⟨p32, p16, p8, -⟩ := pw_vals
  have h32 := fun y : Int => len_half (x := y) (k := 32) (by decide)
  have h16 := fun y : Int => len_half (x := y) (k := 16) (by decide)
  have h8 := fun y : Int => len_half (x := y) (k := 8) (by decide)
  rw [p32] at h32
  rw [p16] at h16
  rw [p8] at h8
  have a1 := h32 x
  have a2 := h16 x
  have a3 := h16 (x / 4294967296)
  have a4 := h8 x
  have a5 := h8 (x / 4294967296)
  have a6 := h8 (x / 65536)
  have a7 := h8 (x / 4294967296 / 65536)
  clear h32 h16 h8 p32 p16 p8
  repeat' ((conv => whnf); first | (refine ask_split (fun _ => ?_) (fun _ => ?_)) | (refine tab_ask (by omega) (by kernel_rfl) (by kernel_rfl) (fun _ _ => ?_)) | (refine ⟨by omega, ?_⟩) | (refine ask_is (f := _ / 4294967296) (fdiv_ediv 32) ?_) | (refine ask_is (f := _ / 65536) (fdiv_ediv 16) ?_) | (refine ask_is (f := _ / 256) (fdiv_ediv 8) ?_) | (refine ask_wrap64 (by omega) (by omega) ?_) | (refine ask_wrapu8 (by omega) (by omega) ?_) | (exact vi_eq (by omega)) | fail)
def ctU (pre : Int → Prop) (f : Int → Int) : Ct := fun ws K => match ws with
  | [.c (.ci .u64 a)] => pre a ∧ K (vi (f a))
  | _ => False
theorem ctU_ok {F : Fns} (hF : FnsOk Tryz.prog F) {n : Nat} {f : FuncId} {fn : Func} (hf : Tryz.prog.funcs[f]? = some fn) {pre : Int → Prop} {g : Int → Int} (hg : ∀ a, InK .u64 a → pre a → InK .i64 (g a))
    (h : ∀ a, InK .u64 a → pre a → walk F n fn [u64 a] [] fun y _ => y = vi (g a)) : CtOk Tryz.prog f (ctU pre g) := by
  intro ws K h' hr
  unfold ctU at h'
  split at h'
  · rename_i a
    exact ⟨_, h'.2, ⟨hg a hr.1 h'.1, rfl⟩, walk_calls hF hf rfl hr rfl (h a hr.1 h'.1)⟩
  · exact h'.elim
theorem len_small {x : Int} (h : x ≤ 18446744073709551615) : 0 ≤ lenS x ∧ lenS x ≤ 64 := ⟨len_nonneg x, len_le (by have := pw_vals.2.2.2.2.1; omega) (by decide)⟩
theorem len_in {x : Int} (h : x ≤ 18446744073709551615) : InK .i64 (lenS x) := by
  have := len_small h
  simp only [InK, lowK, highK]; omega
theorem len64_ct : CtOk Tryz.prog 154 (ctU (fun _ => True) lenS) := ctU_ok F0_ok Tryz.func154 (fun a h _ => len_in h.2) fun a ha _ => len64_walk a ha
def FL : Fns := F0.plus 154 (ctU (fun _ => True) lenS)
theorem FL_ok : FnsOk Tryz.prog FL := F0_ok.plus len64_ct Tryz.func154 (by kernel_rfl) (by kernel_rfl)
@[irreducible] noncomputable def lengthS : Int → Int := sealed fun x => lenS (if x < 0 then -x else x)
theorem lengthS_def (x : Int) : lengthS x = lenS (if x < 0 then -x else x) := by unfold lengthS; rw [sealed_eq]
theorem length_walk (x : Int) (hx : InK .i64 x) (h : -9223372036854775808 < x) : walk FL 0 Tryz.f133 [i64 x] [] fun y _ => y = vi (lengthS x) := by
  obtain ⟨x1, x2⟩ := hx
  simp only [lowK, highK] at x1 x2
  rw [lengthS_def]
  conv => whnf
  refine ask_split (fun h1 => ?_) (fun h1 => ?_)
  · rw [if_pos h1]
    repeat' ((conv => whnf); first | (refine ask_wrap64 (by omega) (by omega) ?_) | (refine ask_true (by omega) ?_) | (refine ask_false (by omega) ?_) | (refine ⟨trivial, ?_⟩) | (refine ⟨by omega, ?_⟩) | (refine fun (_ : InK _ _) => ?_) | (refine ⟨by kernel_rfl, ?_⟩) | (refine ask_wrapu8 (by omega) (by omega) ?_) | (refine ask_wrapu64 (by omega) (by omega) ?_) | (refine ask_true (show (_ : Bool) = _ from rfl) ?_) | (refine ask_false (show ¬ ((_ : Bool) = _) from Bool.noConfusion) ?_) | fail)
    exact vi_eq (by rw [Int.zero_sub])
  · rw [if_neg h1]
    repeat' ((conv => whnf); first | (refine ask_wrap64 (by omega) (by omega) ?_) | (refine ask_true (by omega) ?_) | (refine ask_false (by omega) ?_) | (refine ⟨trivial, ?_⟩) | (refine ⟨by omega, ?_⟩) | (refine fun (_ : InK _ _) => ?_) | (refine ⟨by kernel_rfl, ?_⟩) | (refine ask_wrapu8 (by omega) (by omega) ?_) | (refine ask_wrapu64 (by omega) (by omega) ?_) | (refine ask_true (show (_ : Bool) = _ from rfl) ?_) | (refine ask_false (show ¬ ((_ : Bool) = _) from Bool.noConfusion) ?_) | fail)
    rfl
theorem length_ct : CtOk Tryz.prog 133 (ct1 (fun x => -9223372036854775808 < x) lengthS) := ct1_ok FL_ok Tryz.func133 (fun a h _ => by
  rw [lengthS_def]
  have h2 := h.2
  have h1 := h.1
  simp only [lowK, highK] at h1 h2
  exact len_in (by split <;> omega)) fun a ha h => length_walk a ha h
def slK (H : List Blk) (x : C) (K : Nat → Nat → List Int → Prop) : Prop :=
  match x with
  | .csl j o i l c => (o = 0 ∧ i = 0) ∧ hGet H j fun b => match b with
    | .own _ [.ints .i64 n xs] => n = c ∧ K j l xs
    | .ro [.ints .i64 n xs] => n = c ∧ K j l xs
    | _ => False
  | _ => False
theorem slK_spec {H : List Blk} {x : C} {K : Nat → Nat → List Int → Prop} (h : slK H x K) (ho : HOk H) (hx : x.rng) : ∃ j l xs, K j l xs ∧ x = .csl j 0 0 l xs.length ∧ l ≤ xs.length ∧ xs.length ≤ 9223372036854775807 ∧ (∀ y ∈ xs, InK .i64 y) ∧ ((∃ T, H[j]? = some (.own T [.ints .i64 xs.length xs])) ∨ H[j]? = some (.ro [.ints .i64 xs.length xs])) := by
  unfold slK at h
  split at h
  · rename_i j o i l c
    obtain ⟨⟨rfl, rfl⟩, h0⟩ := h
    obtain ⟨b, hb, h⟩ := hGet_spec h0
    clear h0
    have hr := ho.rng b (List.mem_of_getElem? hb)
    obtain ⟨h1, h2⟩ : l ≤ c ∧ c ≤ 9223372036854775807 := hx
    split at h
    · rename_i T n xs
      obtain ⟨hn, hK⟩ := h
      subst hn
      have hl : xs.length = n := hr.1.1
      subst hl
      exact ⟨j, l, xs, hK, rfl, h1, h2, hr.1.2, .inl ⟨_, hb⟩⟩
    · rename_i n xs
      obtain ⟨hn, hK⟩ := h
      subst hn
      have hl : xs.length = n := hr.1.1
      subst hl
      exact ⟨j, l, xs, hK, rfl, h1, h2, hr.1.2, .inr hb⟩
    · exact h.elim
  · exact h.elim
theorem ro_ok {xs : List Int} (hx : ∀ y ∈ xs, InK .i64 y) : HOk [.ro [.ints .i64 xs.length xs]] := ⟨fun b hb => by rw [List.mem_singleton.1 hb]; exact ⟨⟨rfl, hx⟩, trivial⟩, fun b hb => by rw [List.mem_singleton.1 hb]; rfl⟩
theorem ro_at {H : List Blk} {xs : List Int} {j : Nat} (h : (∃ T, H[j]? = some (.own T [.ints .i64 xs.length xs])) ∨ H[j]? = some (.ro [.ints .i64 xs.length xs])) : ∀ (k : Nat) (b : Blk), ([.ro [.ints .i64 xs.length xs]] : List Blk)[k]? = some b → b = .gone ∨ ∃ ss, b = .ro ss ∧ ((∃ T, H[(fun _ => j) k]? = some (.own T (rens (fun _ => j) ss))) ∨ H[(fun _ => j) k]? = some (.ro (rens (fun _ => j) ss))) := by
  intro k b hk
  match k, hk with
  | 0, hk => simp at hk; subst hk; exact .inr ⟨_, rfl, h⟩
  | k + 1, hk => simp at hk
theorem getD_take {xs : List Int} {n i : Nat} (h : i < n) : (xs.take n).getD i 0 = xs.getD i 0 := by
  rw [List.getD_eq_getElem?_getD, List.getD_eq_getElem?_getD, List.getElem?_take_of_lt h]
theorem no_ro {H : List Blk} {ρ : Nat → Nat} : ∀ (k : Nat) (b : Blk), ([] : List Blk)[k]? = some b → b = .gone ∨ ∃ ss, b = .ro ss ∧ ((∃ T, H[ρ k]? = some (.own T (rens ρ ss))) ∨ H[ρ k]? = some (.ro (rens ρ ss))) := fun k b hb => by simp at hb
theorem nil_ok : HOk [] := ⟨fun b hb => (by cases hb), fun b hb => (by cases hb)⟩
def G1 : Glo := fun g => match Nat.beq g 0 with
  | true => some [.ints .i64 5 [0, 2, 4, 8, 16]]
  | false => none
def E1 : Env := ⟨G1, fun t => match Nat.beq t 48 with
  | true => some (List.replicate 16 (.i .i64))
  | false => none, fun _ => false, noX⟩
theorem E1_ok : EnvOk Tryz.prog E1 := by
  refine ⟨⟨fun g ss h => ?_⟩, fun t ks h => ?_, noX_ok _ _⟩
  · simp only [E1, G1] at h
    split at h
    · cases h
      refine ⟨⟨⟨rfl, fun x hx => ?_⟩, trivial⟩, rfl⟩
      simp only [List.mem_cons, List.not_mem_nil, or_false] at hx
      simp only [InK, lowK, highK]
      omega
    · cases h
  · simp only [E1] at h
    split at h
    · rename_i hb
      obtain rfl := Nat.eq_of_beq_eq_true hb
      cases h
      exact eqok_ints (e := 3) (by kernel_rfl) (by kernel_rfl) rfl (by kernel_rfl) (by kernel_rfl) (by kernel_rfl)
    · cases h
abbrev walkg (F : Fns) (n : Nat) (fn : Func) (ws : List W) (H : List Blk) (K : V → List Blk → Prop) : Prop := xfun Tryz.prog E1 (calF Tryz.prog E1 F (drwA Tryz.prog E1 F) n) (drwA Tryz.prog E1 F (calF Tryz.prog E1 F (drwA Tryz.prog E1 F) n)) fn ws H K
theorem calg_ok {F : Fns} (hF : FnsOk Tryz.prog F G1) (n : Nat) : CalOk Tryz.prog E1 (calF Tryz.prog E1 F (drwA Tryz.prog E1 F) n) := calF_ok E1_ok hF (fun cal hc => drwA_ok E1_ok hF mixed cal hc) n
theorem walkg_ro {F : Fns} (hF : FnsOk Tryz.prog F G1) {n : Nat} {f : FuncId} {fn : Func} (hf : Tryz.prog.funcs[f]? = some fn) {ws : List W} {R : List Blk} {x : V} (hx : x.bnd 0 = true) (hr : rngW ws) (hb : bndW R.length ws = true)
    (h : walkg F n fn ws R fun y _ => y = x) (hR : HOk R) (σ : Sg) (w : World) (hro : ∀ (j : Nat) (b : Blk), R[j]? = some b → b.mine = false ∧ b.rep σ w.heap.size w j) (hg : GW G1 w) :
    Calls Tryz.prog f (ws.map (W.den σ)).toArray w fun e w' => ∃ v, e = .returned v ∧ x.rep σ v ∧ Below w.heap.size w w' :=
  call_roG E1_ok (calg_ok hF n) (drwA_ok E1_ok hF mixed _ (calg_ok hF n)) hf hx hr hb h hR σ w hro hg
theorem nil_okB : HOk [] := ⟨fun b hb => (by cases hb), fun b hb => (by cases hb)⟩
theorem walkg_calls {F : Fns} (hF : FnsOk Tryz.prog F G1) {n : Nat} {f : FuncId} {fn : Func} (hf : Tryz.prog.funcs[f]? = some fn) {ws : List W} {x : V} (hx : x.bnd 0 = true) (hr : rngW ws) (hb : bndW 0 ws = true)
    (h : walkg F n fn ws [] fun y _ => y = x) (σ : Sg) (w : World) (hg : GW G1 w) : Calls Tryz.prog f (ws.map (W.den σ)).toArray w fun e w' => ∃ v, e = .returned v ∧ x.rep σ v ∧ Below w.heap.size w w' :=
  walkg_ro (R := []) hF hf hx hr hb h nil_okB σ w (fun j b hj => by simp at hj) hg
theorem walkg_lift {F : Fns} (hF : FnsOk Tryz.prog F G1) {n : Nat} {f : FuncId} {fn : Func} (hf : Tryz.prog.funcs[f]? = some fn) {ws ws' : List W} {R : List Blk} {P0 : V → List Blk → Prop} (hR : HOk R) (hr : rngW ws) (hb : bndW R.length ws = true) (h : walkg F n fn ws R (Made P0))
    (hm : ∀ x N, P0 x N → ∀ b ∈ N, b.mine = true ∨ b = .gone) {H : List Blk} (ρ : Nat → Nat) (hro : ∀ (j : Nat) (b : Blk), R[j]? = some b → b = .gone ∨ ∃ ss, b = .ro ss ∧ ((∃ T, H[ρ j]? = some (.own T (rens ρ ss))) ∨ H[ρ j]? = some (.ro (rens ρ ss)))) (hws : ws' = renW ρ ws)
    {K : V → List Blk → Prop} (hK : ∀ x N, P0 x N → K (x.ren (sh H.length)) (H ++ N.map (Blk.ren (sh H.length)))) (ho : HOk H) (σ : Sg) (base : Nat) (w₀ w : World) (hw : Rep G1 σ base w₀ w H) :
    Calls Tryz.prog f (ws'.map (W.den σ)).toArray w (LeftG G1 σ base w₀ H.length K) := by
  subst hws
  exact call_liftG E1_ok (G := G1) (fun g ss hg => hg) (calg_ok hF n) (drwA_ok E1_ok hF mixed _ (calg_ok hF n)) hf hR hr hb h hm hro hK ho σ base w₀ w hw
theorem ctg1_ok {F : Fns} (hF : FnsOk Tryz.prog F G1) {n : Nat} {f : FuncId} {fn : Func} (hf : Tryz.prog.funcs[f]? = some fn) {pre : Int → Prop} {g : Int → Int} (hg : ∀ a, InK .i64 a → pre a → InK .i64 (g a))
    (h : ∀ a, InK .i64 a → pre a → walkg F n fn [i64 a] [] fun y _ => y = vi (g a)) : CtOkG Tryz.prog G1 f (ct1 pre g) := by
  intro ws K h' hr
  unfold ct1 at h'
  split at h'
  · rename_i a
    exact ⟨_, h'.2, ⟨hg a hr.1 h'.1, rfl⟩, walkg_calls hF hf rfl hr rfl (h a hr.1 h'.1)⟩
  · exact h'.elim
theorem F0_okg : FnsOk Tryz.prog F0 G1 := ⟨fun _ _ h => (by cases h), fun _ _ h => (by cases h), fun _ _ h => (by cases h)⟩
def fst (b : Int) : Int := [0, 2, 4, 8, 16].getD b.toNat 0
theorem fst_ok {b : Int} (h : 0 ≤ b ∧ b ≤ 3) : 0 ≤ fst b ∧ fst b < fst (b + 1) ∧ fst (b + 1) ≤ 16 := by
  obtain rfl | rfl | rfl | rfl : b = 0 ∨ b = 1 ∨ b = 2 ∨ b = 3 := by omega
  all_goals decide
def sizeS (b : Int) : Int := if 0 ≤ b ∧ b ≤ 3 then fst (b + 1) - fst b else 0
theorem sizeS_in (b : Int) : 0 ≤ sizeS b ∧ sizeS b ≤ 16 := by
  unfold sizeS
  split
  · rename_i h; have := fst_ok h; omega
  · omega
theorem fst_at {b : Int} : ([0, 2, 4, 8, 16] : List Int).getD (mulN b.toNat (Tryz.prog.types[3]).size) 0 = fst b := by
  have em : mulN b.toNat (Tryz.prog.types[3]).size = b.toNat := mulN1 _
  rw [em]; rfl
noncomputable def FM : Fns := F0.into 121 Tryz.f121
theorem FM_ok : FnsOk Tryz.prog FM G1 := F0_okg.into Tryz.func121 (by kernel_rfl) (by kernel_rfl)
theorem size_walk (b : Int) (hb : InK .i64 b) : walkg FM 1 Tryz.f103 [i64 b] [] fun y _ => y = vi (sizeS b) := by
  obtain ⟨b1, b2⟩ := hb
  simp only [lowK, highK] at b1 b2
  unfold sizeS
  rcases Classical.em (0 ≤ b ∧ b ≤ 3) with h | h
  · rw [if_pos h]
    have e0 := @fst_at b
    have e1 := @fst_at (b + 1)
    have em0 : mulN b.toNat (Tryz.prog.types[3]).size = b.toNat := mulN1 _
    have em1 : mulN (b + 1).toNat (Tryz.prog.types[3]).size = (b + 1).toNat := mulN1 _
    have f := fst_ok h
    repeat' ((conv => whnf); first | (refine ask_true (by omega) ?_) | (refine ask_false (by omega) ?_) | (refine ask_wrap64 (by omega) (by omega) ?_) | (refine And.intro (by omega) ?_) | (refine fun (_ : InK _ _) => ?_) | (refine ⟨by kernel_rfl, ?_⟩) | fail)
    refine vi_eq ?_
    rw [e0, e1]
  · rw [if_neg h]
    rcases Int.lt_or_le b 0 with h2 | h2
    all_goals repeat' ((conv => whnf); first | (refine ask_true (by omega) ?_) | (refine ask_false (by omega) ?_) | rfl | fail)
theorem size_ct : CtOkG Tryz.prog G1 103 (ct1 (fun _ => True) sizeS) := ctg1_ok FM_ok Tryz.func103 (fun a _ _ => by have := sizeS_in a; simp only [InK, lowK, highK]; omega) fun a h _ => size_walk a h
@[irreducible] def szF (x : Int) : Int := max (max (min x 1099511627776) (-1099511627776)) (0 - max (min x 1099511627776) (-1099511627776))
theorem szF_def (x : Int) : szF x = max (max (min x 1099511627776) (-1099511627776)) (0 - max (min x 1099511627776) (-1099511627776)) := by unfold szF; rfl
theorem szF_in (x : Int) : 0 ≤ szF x ∧ szF x ≤ 1099511627776 := by rw [szF_def]; omega
def sumF (xs : List Int) : Nat → Int
  | 0 => 0
  | i + 1 => sumF xs i + szF (xs.getD i 0)
theorem sumF_in (xs : List Int) : ∀ i : Nat, 0 ≤ sumF xs i ∧ sumF xs i ≤ 1099511627776 * i
  | 0 => ⟨Int.le_refl 0, Int.le_refl 0⟩
  | i + 1 => by
    have := sumF_in xs i
    have := szF_in (xs.getD i 0)
    show 0 ≤ sumF xs i + szF (xs.getD i 0) ∧ sumF xs i + szF (xs.getD i 0) ≤ 1099511627776 * ((i + 1 : Nat) : Int)
    omega
theorem sum_walk (xs : List Int) (l : Nat) (hl : l ≤ xs.length) (hc : xs.length ≤ 9223372036854775807) (hx : ∀ x ∈ xs, InK .i64 x) (h10 : l ≤ 1000) :
    walk F0 0 Tryz.f134 [.c (.csl 0 0 0 l xs.length)] [.ro [.ints .i64 xs.length xs]] (Made fun x N => x = vi (sumF xs l) ∧ N = []) := by
  conv => whnf
  refine loop_at (3 :: 4 :: 5 :: List.range' 8 14) (fun m (i : Int) => 0 ≤ i ∧ i ≤ l ∧ m = (l - i).toNat) (fun i => [(3, vi (sumF xs i.toNat)), (8, vi i)]) (fun _ => [.ro [.ints .i64 xs.length xs]]) l 0 ⟨by decide, by omega, by omega⟩ ?_ ?_
  · exact ⟨rfl, ⟨⟨Nat.le_of_ble_eq_true rfl, rfl⟩, ⟨Nat.le_of_ble_eq_true rfl, rfl⟩, trivial⟩, ⟨rfl, trivial⟩, rfl, rfl, Nat.le_of_ble_eq_true rfl⟩
  · rintro m i ⟨i0, i1, rfl⟩
    have em : mulN i.toNat (Tryz.prog.types[3]).size = i.toNat := mulN1 _
    have si := sumF_in xs i.toNat
    rcases Int.lt_or_le i l with i2 | i2
    · have ex : xs.getD (0 + mulN i.toNat (Tryz.prog.types[3]).size) 0 = xs.getD i.toNat 0 := by rw [em, Nat.zero_add]
      have hs : sumF xs (i + 1).toNat = sumF xs i.toNat + szF (xs.getD i.toNat 0) := by rw [show (i + 1).toNat = i.toNat + 1 by omega]; rfl
      rw [szF_def, ← ex] at hs
      repeat' ((conv => whnf); first | (refine ask_true (by omega) ?_) | (refine And.intro (by omega) ?_) | (refine fun (_ : InK _ _) => ?_) | (refine ask_wrap64 (by omega) (by omega) ?_) | fail)
      conv => whnf
      exact ⟨(l - (i + 1)).toNat, i + 1, by omega, ⟨by omega, by omega, rfl⟩, rfl, ⟨⟨Nat.le_of_ble_eq_true rfl, congrArg vi hs.symm⟩, ⟨Nat.le_of_ble_eq_true rfl, rfl⟩, trivial⟩, ⟨rfl, trivial⟩, rfl, rfl, Nat.le_of_ble_eq_true rfl⟩
    · repeat' ((conv => whnf); first | (refine ask_false (by omega) ?_) | fail)
      conv => whnf
      have e : i.toNat = l := by omega
      show Made (fun x N => x = vi (sumF xs l) ∧ N = []) (vi (sumF xs i.toNat)) _
      rw [e]
      exact made_of (vi (sumF xs l)) [] id ⟨rfl, rfl⟩ rfl trivial (fun p q hp _ _ => absurd hp (Nat.not_lt_zero p)) rfl rfl (by intro e; cases e)
theorem sum_nil : walk F0 0 Tryz.f134 [.c .csn] [] (Made fun x N => x = vi 0 ∧ N = []) := by
  conv => whnf
  refine loop_at (3 :: 4 :: 5 :: List.range' 8 14) (fun m (i : Int) => i = 0 ∧ m = 0) (fun i => [(3, vi 0), (8, vi i)]) (fun _ => []) 0 0 ⟨rfl, rfl⟩ ?_ ?_
  · exact ⟨rfl, ⟨⟨Nat.le_of_ble_eq_true rfl, rfl⟩, ⟨Nat.le_of_ble_eq_true rfl, rfl⟩, trivial⟩, trivial, rfl, rfl, Nat.le_of_ble_eq_true rfl⟩
  · rintro m i ⟨rfl, rfl⟩
    repeat' ((conv => whnf); first | (refine ask_false (by decide) ?_) | fail)
    conv => whnf
    exact made_of (vi 0) [] id ⟨rfl, rfl⟩ rfl trivial (fun p q hp _ _ => absurd hp (Nat.not_lt_zero p)) rfl rfl (by intro e; cases e)
def hSum : HCt := fun ws H K => match ws with
  | [.c .csn] => K (vi 0) H
  | [.c x] => slK H x fun _ l xs => l ≤ 1000 ∧ K (vi (sumF xs l)) H
  | _ => False
theorem int_mine {v : Int} : ∀ (x : V) (N : List Blk), (x = vi v ∧ N = []) → ∀ b ∈ N, b.mine = true ∨ b = .gone := by
  rintro x N ⟨_, rfl⟩ b hb; cases hb
theorem int_K {v : Int} {H : List Blk} {K : V → List Blk → Prop} (h : K (vi v) H) : ∀ x N, (x = vi v ∧ N = []) → K (x.ren (sh H.length)) (H ++ N.map (Blk.ren (sh H.length))) := by
  rintro x N ⟨rfl, rfl⟩
  simpa [V.ren, W.ren, C.ren] using h
theorem sum_ct : HCtOk Tryz.prog 134 hSum := by
  intro ws H K h hr hb ho G σ base w₀ w hw
  unfold hSum at h
  split at h
  · exact walk_lift F0_ok Tryz.func134 (n := 0) (ws := [.c .csn]) (R := []) nil_ok ⟨trivial, trivial⟩ rfl sum_nil int_mine id no_ro rfl (int_K h) ho G σ base w₀ w hw
  · rename_i x _
    obtain ⟨j, l, xs, h', hx, g1, g2, g3, g4⟩ := slK_spec h ho hr.1
    clear h
    subst hx
    exact walk_lift F0_ok Tryz.func134 (n := 0) (ws := [.c (.csl 0 0 0 l xs.length)]) (R := [.ro [.ints .i64 xs.length xs]]) (ro_ok g3) ⟨⟨g1, g2⟩, trivial⟩ rfl (sum_walk xs l g1 g2 g3 h'.1) int_mine (fun _ => j) (ro_at g4) rfl (int_K h'.2) ho G σ base w₀ w hw
  · exact h.elim
def bandZ (xs : List Int) (b : Int) : List Int := if 0 ≤ b ∧ b ≤ 3 then (xs.drop (fst b).toNat).take (sizeS b).toNat else []
def putZ (xs : List Int) (b : Int) (cs : List Int) : List Int := if (0 ≤ b ∧ b ≤ 3) ∧ (cs.length : Int) = sizeS b then xs.take (fst b).toNat ++ cs ++ xs.drop (fst (b + 1)).toNat else xs
noncomputable def FU : Fns := FM.plus 103 (ct1 (fun _ => True) sizeS)
theorem FU_ok : FnsOk Tryz.prog FU G1 := FM_ok.plusG size_ct Tryz.func103 (by kernel_rfl) (by kernel_rfl)
def putP (xs : List Int) (x : V) (N : List Blk) : Prop := x = .w (.agg [.ints .i64 16 xs]) ∧ N = []
theorem put_made {xs : List Int} {H' : List Blk} : Made (putP xs) (.w (.agg [.ints .i64 16 xs])) H' := made_of (.w (.agg [.ints .i64 16 xs])) [] id ⟨rfl, rfl⟩ rfl trivial (fun p q hp _ _ => absurd hp (Nat.not_lt_zero p)) rfl rfl (by intro e; cases e)
theorem put_mine {xs : List Int} : ∀ (x : V) (N : List Blk), putP xs x N → ∀ b ∈ N, b.mine = true ∨ b = .gone := by
  rintro x N ⟨_, rfl⟩ b hb; cases hb
theorem put_K {xs : List Int} {H : List Blk} {K : V → List Blk → Prop} (h : K (.w (.agg [.ints .i64 16 xs])) H) : ∀ x N, putP xs x N → K (x.ren (sh H.length)) (H ++ N.map (Blk.ren (sh H.length))) := by
  rintro x N ⟨rfl, rfl⟩
  simpa [V.ren, W.ren, rens, Seg.ren] using h
theorem put_nil (xs : List Int) (b : Int) (h : xs.length = 16) (hb : InK .i64 b) : walkg FU 1 Tryz.f72 [.agg [.ints .i64 16 xs], i64 b, .c .csn] [] (Made (putP (putZ xs b []))) := by
  obtain ⟨b1, b2⟩ := hb
  simp only [lowK, highK] at b1 b2
  have e : putZ xs b [] = xs := by
    unfold putZ
    refine if_neg fun hh => ?_
    have f := fst_ok hh.1
    have e := hh.2
    unfold sizeS at e
    rw [if_pos hh.1] at e
    simp at e; omega
  rw [e]
  rcases Classical.em (0 ≤ b ∧ b ≤ 3) with hh | hh
  · have f := fst_ok hh
    have hs : sizeS b = fst (b + 1) - fst b := by unfold sizeS; rw [if_pos hh]
    repeat' ((conv => whnf); first | (refine ask_true (by omega) ?_) | (refine ask_false (by omega) ?_) | (refine And.intro trivial ?_) | (refine ⟨by kernel_rfl, ?_⟩) | fail)
    exact put_made
  · rcases Int.lt_or_le b 0 with h2 | h2
    all_goals repeat' ((conv => whnf); first | (refine ask_true (by omega) ?_) | (refine ask_false (by omega) ?_) | fail)
    all_goals exact put_made
theorem put_walk (xs : List Int) (b : Int) (h : xs.length = 16) (hb : InK .i64 b) (ys : List Int) (l : Nat) (hl : l ≤ ys.length) (hc : ys.length ≤ 9223372036854775807) (hy : ∀ y ∈ ys, InK .i64 y) :
    walkg FU 1 Tryz.f72 [.agg [.ints .i64 16 xs], i64 b, .c (.csl 0 0 0 l ys.length)] [.ro [.ints .i64 ys.length ys]] (Made (putP (putZ xs b (ys.take l)))) := by
  obtain ⟨b1, b2⟩ := hb
  simp only [lowK, highK] at b1 b2
  have lt : (ys.take l).length = l := by simp; omega
  rcases Classical.em (0 ≤ b ∧ b ≤ 3) with hh | hh
  · have f := fst_ok hh
    have hs : sizeS b = fst (b + 1) - fst b := by unfold sizeS; rw [if_pos hh]
    rcases Classical.em ((l : Int) = sizeS b) with hz | hz
    · have e : putZ xs b (ys.take l) = xs.take (fst b).toNat ++ ys.take l ++ xs.drop (fst (b + 1)).toNat := by unfold putZ; rw [if_pos ⟨hh, by rw [lt]; exact hz⟩]
      rw [e]
      have e0 := @fst_at b
      have em0 : mulN b.toNat (Tryz.prog.types[3]).size = b.toNat := mulN1 _
      have n0 : natI (([0, 2, 4, 8, 16] : List Int).getD (mulN b.toNat (Tryz.prog.types[3]).size) 0) = (fst b).toNat := by rw [e0]; rfl
      have em2 : mulN (natI (([0, 2, 4, 8, 16] : List Int).getD (mulN b.toNat (Tryz.prog.types[3]).size) 0)) (Tryz.prog.types[3]).size = natI (([0, 2, 4, 8, 16] : List Int).getD (mulN b.toNat (Tryz.prog.types[3]).size) 0) := mulN1 _
      repeat' ((conv => whnf); first | (refine ask_true (by omega) ?_) | (refine ask_false (by omega) ?_) | (refine And.intro trivial ?_) | (refine And.intro (by omega) ?_) | (refine fun (_ : InK _ _) => ?_) | (refine ⟨by kernel_rfl, ?_⟩) | fail)
      have ez : (List.take (mulN (natI (([0, 2, 4, 8, 16] : List Int).getD (mulN b.toNat (Tryz.prog.types[3]).size) 0)) (Tryz.prog.types[3]).size) xs ++ List.take (16 - natI (([0, 2, 4, 8, 16] : List Int).getD (mulN b.toNat (Tryz.prog.types[3]).size) 0)) (List.take l (List.drop 0 ys)) ++ List.drop (mulN (natI (([0, 2, 4, 8, 16] : List Int).getD (mulN b.toNat (Tryz.prog.types[3]).size) 0)) (Tryz.prog.types[3]).size + min l (16 - natI (([0, 2, 4, 8, 16] : List Int).getD (mulN b.toNat (Tryz.prog.types[3]).size) 0))) xs) = xs.take (fst b).toNat ++ ys.take l ++ xs.drop (fst (b + 1)).toNat := by
        rw [em2, n0, List.drop_zero, List.take_of_length_le (l := List.take l ys) (by omega)]
        congr 2
        omega
      rw [ez]
      repeat' ((conv => whnf); first | fail)
      exact put_made
    · have e : putZ xs b (ys.take l) = xs := by unfold putZ; rw [if_neg fun hq => hz (by rw [lt] at hq; exact hq.2)]
      rw [e]
      repeat' ((conv => whnf); first | (refine ask_true (by omega) ?_) | (refine ask_false (by omega) ?_) | (refine And.intro trivial ?_) | (refine ⟨by kernel_rfl, ?_⟩) | fail)
      exact put_made
  · have e : putZ xs b (ys.take l) = xs := by unfold putZ; rw [if_neg fun hq => hh hq.1]
    rw [e]
    rcases Int.lt_or_le b 0 with h2 | h2
    all_goals repeat' ((conv => whnf); first | (refine ask_true (by omega) ?_) | (refine ask_false (by omega) ?_) | fail)
    all_goals exact put_made
def hPut : HCt := fun ws H K => match ws with
  | [.agg [.ints .i64 16 xs], .c (.ci .i64 b), .c .csn] => K (.w (.agg [.ints .i64 16 (putZ xs b [])])) H
  | [.agg [.ints .i64 16 xs], .c (.ci .i64 b), .c x] => slK H x fun _ l ys => K (.w (.agg [.ints .i64 16 (putZ xs b (ys.take l))])) H
  | _ => False
theorem put_ct : HCtOkG Tryz.prog G1 72 hPut := by
  intro ws H K h hr hb ho σ base w₀ w hw
  unfold hPut at h
  split at h
  · rename_i xs b
    exact walkg_lift FU_ok Tryz.func72 (n := 1) (ws := [.agg [.ints .i64 16 xs], i64 b, .c .csn]) (R := []) nil_ok ⟨hr.1, hr.2.1, trivial, trivial⟩ rfl (put_nil xs b hr.1.1.1 hr.2.1) put_mine id no_ro rfl (put_K h) ho σ base w₀ w hw
  · rename_i xs b x _
    obtain ⟨j, l, ys, h', hx, g1, g2, g3, g4⟩ := slK_spec h ho hr.2.2.1
    clear h
    subst hx
    exact walkg_lift FU_ok Tryz.func72 (n := 1) (ws := [.agg [.ints .i64 16 xs], i64 b, .c (.csl 0 0 0 l ys.length)]) (R := [.ro [.ints .i64 ys.length ys]]) (ro_ok g3) ⟨hr.1, hr.2.1, ⟨g1, g2⟩, trivial⟩ rfl (put_walk xs b hr.1.1.1 hr.2.1 ys l g1 g2 g3) put_mine (fun _ => j) (ro_at g4) rfl (put_K h') ho σ base w₀ w hw
  · exact h.elim
abbrev ar4 (xs : List Int) : W := .agg [.ints .i64 4 xs]
def z4 : List Int := [0, 0, 0, 0]
def E4 : Env := ⟨G1, fun t => match Nat.beq t 49 with
  | true => some (List.replicate 4 (.i .i64))
  | false => none, fun _ => false, noX⟩
theorem E4_ok : EnvOk Tryz.prog E4 := by
  refine ⟨⟨fun g ss h => ?_⟩, fun t ks h => ?_, noX_ok _ _⟩
  · simp only [E4, G1] at h
    split at h
    · cases h
      refine ⟨⟨⟨rfl, fun x hx => ?_⟩, trivial⟩, rfl⟩
      simp only [List.mem_cons, List.not_mem_nil, or_false] at hx
      simp only [InK, lowK, highK]
      omega
    · cases h
  · simp only [E4] at h
    split at h
    · rename_i hb
      obtain rfl := Nat.eq_of_beq_eq_true hb
      cases h
      exact eqok_ints (e := 3) (by kernel_rfl) (by kernel_rfl) rfl (by kernel_rfl) (by kernel_rfl) (by kernel_rfl)
    · cases h
abbrev walkq (F : Fns) (n : Nat) (fn : Func) (ws : List W) (H : List Blk) (K : V → List Blk → Prop) : Prop := xfun Tryz.prog E4 (calF Tryz.prog E4 F (drwA Tryz.prog E4 F) n) (drwA Tryz.prog E4 F (calF Tryz.prog E4 F (drwA Tryz.prog E4 F) n)) fn ws H K
theorem calq_ok {F : Fns} (hF : FnsOk Tryz.prog F G1) (n : Nat) : CalOk Tryz.prog E4 (calF Tryz.prog E4 F (drwA Tryz.prog E4 F) n) := calF_ok E4_ok hF (fun cal hc => drwA_ok E4_ok hF mixed cal hc) n
theorem walkq_ro {F : Fns} (hF : FnsOk Tryz.prog F G1) {n : Nat} {f : FuncId} {fn : Func} (hf : Tryz.prog.funcs[f]? = some fn) {ws : List W} {R : List Blk} {x : V} (hx : x.bnd 0 = true) (hr : rngW ws) (hb : bndW R.length ws = true)
    (h : walkq F n fn ws R fun y _ => y = x) (hR : HOk R) (σ : Sg) (w : World) (hro : ∀ (j : Nat) (b : Blk), R[j]? = some b → b.mine = false ∧ b.rep σ w.heap.size w j) (hg : GW G1 w) :
    Calls Tryz.prog f (ws.map (W.den σ)).toArray w fun e w' => ∃ v, e = .returned v ∧ x.rep σ v ∧ Below w.heap.size w w' :=
  call_roG E4_ok (calq_ok hF n) (drwA_ok E4_ok hF mixed _ (calq_ok hF n)) hf hx hr hb h hR σ w hro hg
theorem walkq_calls {F : Fns} (hF : FnsOk Tryz.prog F G1) {n : Nat} {f : FuncId} {fn : Func} (hf : Tryz.prog.funcs[f]? = some fn) {ws : List W} {x : V} (hx : x.bnd 0 = true) (hr : rngW ws) (hb : bndW 0 ws = true)
    (h : walkq F n fn ws [] fun y _ => y = x) (σ : Sg) (w : World) (hg : GW G1 w) : Calls Tryz.prog f (ws.map (W.den σ)).toArray w fun e w' => ∃ v, e = .returned v ∧ x.rep σ v ∧ Below w.heap.size w w' :=
  walkq_ro (R := []) hF hf hx hr hb h nil_okB σ w (fun j b hj => by simp at hj) hg
open Go.WideMaps
set_option maxRecDepth 100000
set_option maxHeartbeats 32000000
theorem map_lift {F : Fns} (hF : FnsOk Tryz.prog F) {d : Nat} {f : FuncId} {fn : Func} (hf : Tryz.prog.funcs[f]? = some fn) {ws : List W} {Q : Int → Int → Int → Prop} {y : V} (hy : y.ok 0) (hr : rngW ws) (hb : bndW 0 ws = true) {R : Obj → Prop}
    (h : ∀ T : List Blk, HOk (T ++ [.obj R]) → walk F d fn (.c (.cm T.length) :: ws) (T ++ [.obj R]) fun x H' => x = y ∧ ∃ R' B, H' = T ++ .obj R' :: B ∧ ∀ o, R' o → mapI Q o)
    {H : List Blk} {j : Nat} (hj : H[j]? = some (.obj R)) {K : V → List Blk → Prop} (hK : K y (H.set j (.obj (mapI Q)))) (ho : HOk H) (G : Glo) (σ : Sg) (base : Nat) (w₀ w : World) (hw : Rep G σ base w₀ w H) :
    Calls Tryz.prog f ((W.c (.cm j) :: ws).map (W.den σ)).toArray w (LeftG G σ base w₀ H.length K) := by
  have hjl := (List.getElem?_eq_some_iff.1 hj).1
  obtain ⟨T, eT⟩ : ∃ T, T = H.set j .gone := ⟨_, rfl⟩
  have Tl : T.length = H.length := by rw [eT]; simp
  have Tat : ∀ i, i ≠ j → T[i]? = H[i]? := fun i hi => by rw [eT, List.getElem?_set_ne (Ne.symm hi)]
  have Tj : T[j]? = some .gone := by rw [eT, List.getElem?_set_self hjl]
  have ha := Sg.upd_agree σ H.length (σ j)
  have mono : ∀ b : Blk, b.bnd H.length = true → b.bnd (T ++ [Blk.obj R]).length = true := fun b hb => by
    cases b with
    | own X ss => exact bnds_mono (by simp [Tl]) ss hb
    | ro ss => exact bnds_mono (by simp [Tl]) ss hb
    | obj R => rfl
    | gone => rfl
  have ho' : HOk (T ++ [.obj R]) := by
    refine ⟨fun b hb => ?_, fun b hb => ?_⟩ <;> rcases List.mem_append.1 hb with h | h
    · rw [eT] at h
      rcases List.mem_or_eq_of_mem_set h with h | h
      · exact ho.rng b h
      · rw [h]; trivial
    · rw [List.mem_singleton.1 h]; trivial
    · rw [eT] at h
      rcases List.mem_or_eq_of_mem_set h with h | h
      · exact mono b (ho.bnd b h)
      · rw [h]; rfl
    · rw [List.mem_singleton.1 h]; rfl
  have at0 : ∀ (i : Nat) (b : Blk), (T ++ [Blk.obj R])[i]? = some b → b = .gone ∨ (i ≠ j ∧ i < H.length ∧ H[i]? = some b) ∨ (i = H.length ∧ b = .obj R) := fun i b hi => by
    rcases Nat.lt_or_ge i H.length with hlt | hge
    · rw [List.getElem?_append_left (by omega)] at hi
      by_cases hij : i = j
      · subst hij
        rw [Tj] at hi
        exact .inl (Option.some.inj hi).symm
      · rw [Tat i hij] at hi
        exact .inr (.inl ⟨hij, hlt, hi⟩)
    · rw [List.getElem?_append_right (by omega)] at hi
      have hl := (List.getElem?_eq_some_iff.1 hi).1
      simp at hl
      obtain rfl : i = H.length := by omega
      rw [Tl, Nat.sub_self] at hi
      exact .inr (.inr ⟨rfl, (Option.some.inj hi).symm⟩)
  have hw0 : Rep E0.G (σ.upd H.length (σ j)) base w₀ w (T ++ [.obj R]) := by
    refine ⟨hw.below, hw.size, fun i b hi => ?_, fun i i' b c hi hi' hbm hcm hne => ?_, fun g ss hg => by cases hg⟩
    · rcases at0 i b hi with rfl | ⟨hij, hlt, hH⟩ | ⟨rfl, rfl⟩
      · trivial
      · exact Blk.rep_agree ha hlt (ho.bnd b (List.mem_of_getElem? hH)) (hw.blk i b hH)
      · have := hw.blk j _ hj
        simpa only [Blk.rep, Sg.upd_self] using this
    · rcases at0 i b hi with rfl | ⟨hij, hlt, hH⟩ | ⟨rfl, rfl⟩
      · cases hbm
      · rcases at0 i' c hi' with rfl | ⟨hij', hlt', hH'⟩ | ⟨rfl, rfl⟩
        · cases hcm
        · rw [← ha i hlt, ← ha i' hlt']
          exact hw.sep i i' b c hH hH' hbm hcm hne
        · rw [← ha i hlt, Sg.upd_self]
          exact hw.sep i j b _ hH hj hbm rfl hij
      · rcases at0 i' c hi' with rfl | ⟨hij', hlt', hH'⟩ | ⟨rfl, rfl⟩
        · cases hcm
        · rw [← ha i' hlt', Sg.upd_self]
          exact hw.sep j i' _ c hj hH' rfl hcm (Ne.symm hij')
        · exact absurd rfl hne
  have eσ : (σ.upd H.length (σ j)) T.length = σ j := by rw [Tl, Sg.upd_self]
  have eargs : ((W.c (.cm j) :: ws).map (W.den σ)) = ((W.c (.cm T.length) :: ws).map (W.den (σ.upd H.length (σ j)))) := by
    rw [List.map_cons, List.map_cons, denW_agree (n := 0) (τ := σ.upd H.length (σ j)) (fun i hi => absurd hi (Nat.not_lt_zero i)) ws hb]
    congr 1
    simp only [W.den, C.den, eσ]
  rw [eargs]
  refine (xfun_spec E0_ok (calF_ok E0_ok hF (fun cal hc => drwA_ok E0_ok hF mixed cal hc) d) (drwA_ok E0_ok hF mixed _ (calF_ok E0_ok hF (fun cal hc => drwA_ok E0_ok hF mixed cal hc) d)) hf (h T ho') ⟨trivial, hr⟩ (by
    show (decide (T.length < (T ++ [Blk.obj R]).length) && bndW _ ws) = true
    rw [bndW_mono (Nat.zero_le _) ws hb]; simp) ho' (σ.upd H.length (σ j)) base w₀ w hw0).mono ?_
  rintro e w' ⟨τ, x, H', v, rfl, h1, ⟨rfl, R', B, rfl, hR'⟩, h3, h4, h5, h6, h7⟩
  have hag : Sg.agree H.length σ τ := fun i hi => (ha i hi).trans (h3 i (by simp; omega))
  have eτ : τ H.length = τ j := by
    rw [← h3 H.length (by simp; omega), ← h3 j (by simp; omega), Sg.upd_self, ← ha j hjl]
  have mapAtEnd := h4.blk H.length (.obj R') (by rw [List.getElem?_append_right (by omega), Tl, Nat.sub_self]; rfl)
  have low : ∀ i b, i ≠ j → i < H.length → H[i]? = some b → (T ++ Blk.obj R' :: B)[i]? = some b := fun i b hij hlt hi => by
    rw [List.getElem?_append_left (by omega), Tat i hij]; exact hi
  have top : (T ++ Blk.obj R' :: B)[H.length]? = some (.obj R') := by rw [List.getElem?_append_right (by omega), Tl, Nat.sub_self]; rfl
  have at1 : ∀ (i : Nat) (b : Blk), (H.set j (Blk.obj (mapI Q)))[i]? = some b → (i = j ∧ b = .obj (mapI Q)) ∨ (i ≠ j ∧ i < H.length ∧ H[i]? = some b) := fun i b hi => by
    by_cases hij : i = j
    · subst hij
      rw [List.getElem?_set_self hjl] at hi
      exact .inl ⟨rfl, (Option.some.inj hi).symm⟩
    · rw [List.getElem?_set_ne (Ne.symm hij)] at hi
      exact .inr ⟨hij, (List.getElem?_eq_some_iff.1 hi).1, hi⟩
  refine ⟨τ, _, _, v, rfl, h1, hK, hag, ⟨h4.below, h4.size, fun i b hi => ?_, fun i i' b c hi hi' hbm hcm hne => ?_, fun g ss hg => ?_⟩, ho.set trivial rfl, V.ok_mono (Nat.zero_le _) hy, by simp⟩
  · rcases at1 i b hi with ⟨rfl, rfl⟩ | ⟨hij, hlt, hH⟩
    · obtain ⟨q1, q2, o, q3, q4⟩ := mapAtEnd
      rw [eτ] at q1 q2 q3
      exact ⟨q1, q2, o, q3, hR' o q4⟩
    · exact h4.blk i b (low i b hij hlt hH)
  · rcases at1 i b hi with ⟨rfl, rfl⟩ | ⟨hij, hlt, hH⟩ <;> rcases at1 i' c hi' with ⟨e', rfl⟩ | ⟨hij', hlt', hH'⟩
    · exact absurd e'.symm hne
    · rw [← eτ]
      exact h4.sep H.length i' _ c top (low i' c hij' hlt' hH') rfl hcm (by omega)
    · subst e'
      rw [← eτ]
      exact h4.sep i H.length b _ (low i b hij hlt hH) top hbm rfl (by omega)
    · exact h4.sep i i' b c (low i b hij hlt hH) (low i' c hij' hlt' hH') hbm hcm hne
  · obtain ⟨g1, g2, g3⟩ := hw.glo g ss hg
    refine ⟨g1, g2, fun i u hu => ?_⟩
    have hu' : (dens σ ss)[i]? = some u := by
      rw [dens_agree (n := 0) (τ := τ) (fun j hj => absurd hj (Nat.not_lt_zero j)) ss g2]; exact hu
    have := g3 i u hu'
    rw [cell_eq_of_block (w := w) (w' := w')]
    · exact this
    · show w'.heap[g]? = w.heap[g]?
      rw [h4.below.block g g1, hw.below.block g g1]
def sumTo (xs : List Int) : Nat → Int
  | 0 => 0
  | j + 1 => sumTo xs j + xs.getD j 0
def crow : Nat → List Int
  | 0 => [1, 0, 0, 0, 0, 0, 0, 0, 0]
  | n + 1 => (List.range 9).map fun k => (crow n).getD k 0 + 2 * sumTo (crow n) k
@[irreducible] noncomputable def cN : Int → Int → Int := sealed fun n k => if n < 0 ∨ k < 0 then 0 else (crow n.toNat).getD k.toNat 0
theorem cN_def (n k : Int) : cN n k = if n < 0 ∨ k < 0 then 0 else (crow n.toNat).getD k.toNat 0 := by unfold cN; rw [sealed_eq]
theorem cN_neg {n k : Int} (h : n < 0 ∨ k < 0) : cN n k = 0 := by rw [cN_def, if_pos h]
theorem cN_nat (n k : Nat) : cN n k = (crow n).getD k 0 := by rw [cN_def, if_neg (by omega), Int.toNat_natCast, Int.toNat_natCast]
theorem crow_in : (List.range 9).all (fun n => (List.range 9).all fun k => decide (0 ≤ (crow n).getD k 0 ∧ (crow n).getD k 0 ≤ 4294967296)) = true := by kernel_rfl
theorem cN_in {n k : Int} (hn : n ≤ 8) (hk : k ≤ 8) : 0 ≤ cN n k ∧ cN n k ≤ 4294967296 := by
  rcases Classical.em (n < 0 ∨ k < 0) with h | h
  · rw [cN_neg h]; decide
  · rw [cN_def, if_neg h]
    have h1 := List.all_eq_true.1 crow_in n.toNat (List.mem_range.2 (by omega))
    exact of_decide_eq_true (List.all_eq_true.1 h1 k.toNat (List.mem_range.2 (by omega)))
theorem cN_zero : cN 0 0 = 1 := by rw [cN_def]; decide
theorem cN_none {k : Int} (h : 1 ≤ k) (hk : k ≤ 8) : cN 0 k = 0 := by
  obtain rfl | rfl | rfl | rfl | rfl | rfl | rfl | rfl : k = 1 ∨ k = 2 ∨ k = 3 ∨ k = 4 ∨ k = 5 ∨ k = 6 ∨ k = 7 ∨ k = 8 := by omega
  all_goals rw [cN_def]; decide
noncomputable def partC (n k : Int) : Nat → Int
  | 0 => cN (n - 1) k
  | j + 1 => partC n k j + 2 * cN (n - 1) j
theorem partC_in {n k : Int} (hn : n ≤ 9) (hk : k ≤ 8) : ∀ j : Nat, j ≤ 9 → 0 ≤ partC n k j ∧ partC n k j ≤ 4294967296 * (1 + 2 * j)
  | 0, _ => by have := cN_in (n := n - 1) (k := k) (by omega) hk; show 0 ≤ cN _ _ ∧ cN _ _ ≤ _; omega
  | j + 1, hj => by
    have := partC_in hn hk j (by omega)
    have := cN_in (n := n - 1) (k := j) (by omega) (by omega)
    show 0 ≤ partC n k j + 2 * cN (n - 1) j ∧ partC n k j + 2 * cN (n - 1) j ≤ _
    omega
theorem partC_all {n k : Int} (h1 : 1 ≤ n) (hk : 0 ≤ k ∧ k ≤ 8) : partC n k k.toNat = cN n k := by
  have key : ∀ j : Nat, partC n k j = cN (n - 1) k + 2 * sumTo (crow (n - 1).toNat) j := fun j => by
    induction j with
    | zero => show cN _ _ = _ + 2 * (0 : Int); omega
    | succ j ih =>
      show partC n k j + 2 * cN (n - 1) j = _ + 2 * (sumTo _ j + _)
      rw [ih, show cN (n - 1) j = (crow (n - 1).toNat).getD j 0 by rw [cN_def, if_neg (by omega), Int.toNat_natCast]]
      omega
  rw [key, cN_def n k, if_neg (by omega), cN_def, if_neg (by omega), show n.toNat = (n - 1).toNat + 1 by omega]
  show _ = ((List.range 9).map fun k => (crow (n - 1).toNat).getD k 0 + 2 * sumTo (crow (n - 1).toNat) k).getD k.toNat 0
  rw [getD_range (by omega)]
def cntQ (a b v : Int) : Prop := v = cN a b
def hOf (m : Nat) : HCt := fun ws H K => match ws with
  | [.c (.cm j), .c (.ci .i64 n), .c (.ci .i64 k)] => mapAt H j cntQ ∧ (n ≤ m ∧ n ≤ 8 ∧ k ≤ 8) ∧ ∀ H', H' = H.set j (.obj (mapI cntQ)) → K (vi (cN n k)) H'
  | _ => False
theorem mty : MapTy Tryz.prog 219 := ⟨237, 3, 3, _, by kernel_rfl, ⟨by kernel_rfl, by kernel_rfl, by kernel_rfl, by kernel_rfl⟩, by kernel_rfl, ⟨Tryz.prog.types.size.pred, (Nat.succ_pred_eq_of_pos (of_decide_eq_true (by kernel_rfl))).symm⟩, rfl, by kernel_rfl⟩
theorem lenH_at {H : List Blk} {n : Nat} {K : Nat → Prop} (h : K (n + H.length)) : lenH H n K := (lenH_iff _ _ _).2 h
theorem pushH_at {H : List Blk} {b : Blk} {K : List Blk → Prop} (h : K (H ++ [b])) : pushH H b K := (pushH_iff _ _ _).2 h
theorem setH_at {H : List Blk} {n : Nat} {b : Blk} {K : List Blk → Prop} (h : K (H.set n b)) : setH H n b K := (setH_iff _ _ _ _).2 h
theorem wkH_refl : ∀ H : List Blk, wkH H H
  | [] => trivial
  | .gone :: H => wkH_refl H
  | .own _ _ :: H => ⟨rfl, wkH_refl H⟩
  | .ro _ :: H => ⟨rfl, wkH_refl H⟩
  | .obj _ :: H => ⟨rfl, wkH_refl H⟩
theorem bndH_of {n : Nat} : ∀ {H : List Blk}, (∀ b ∈ H, b.bnd n = true) → bndH n H = true
  | [], _ => rfl
  | b :: H, h => by
    show (b.bnd n && bndH n H) = true
    rw [h b (by simp), bndH_of fun c hc => h c (by simp [hc])]; rfl
theorem and_t {a b : Bool} (h : a = true) (k : b = true) : (a && b) = true := by rw [h, k]; rfl
theorem Blk.bnd_up {n m : Nat} (h : n ≤ m) : ∀ b : Blk, b.bnd n = true → b.bnd m = true
  | .own _ ss, hb => bnds_mono h ss hb
  | .ro ss, hb => bnds_mono h ss hb
  | .obj _, _ => rfl
  | .gone, _ => rfl
theorem setH_as {H H' : List Blk} {n : Nat} {b : Blk} {K : List Blk → Prop} (h : H.set n b = H') (hk : K H') : setH H n b K := by
  subst h; exact setH_at hk
theorem hGet_at {b : Blk} : ∀ {H : List Blk} {n : Nat} {K : Blk → Prop}, H[n]? = some b → K b → hGet H n K
  | [], _, _, h, _ => by simp at h
  | _ :: _, 0, _, h, hk => by simp at h; subst h; exact hk
  | _ :: H, n + 1, _, h, hk => hGet_at (H := H) (n := n) (by simpa using h) hk
noncomputable def FO (m : Nat) : Fns := F0.over 141 (hOf m)
theorem of_walk (m : Nat) {n k : Int} (hn : n ≤ m + 1 ∧ n ≤ 8) (hk : k ≤ 8) (hni : InK .i64 n) (hki : InK .i64 k) {R : Obj → Prop} (hR : ∀ o, R o → mapI cntQ o) (T : List Blk) (hT : HOk (T ++ [.obj R])) :
    walk (FO m) 0 Tryz.f141 (.c (.cm T.length) :: [i64 n, i64 k]) (T ++ [.obj R]) fun x H' => x = vi (cN n k) ∧ ∃ R' B, H' = T ++ .obj R' :: B ∧ ∀ o, R' o → mapI cntQ o := by
  have stop : ∃ R' B, T ++ [.obj R] = T ++ .obj R' :: B ∧ ∀ o, R' o → mapI cntQ o := ⟨R, [], rfl, hR⟩
  obtain ⟨n1, n2⟩ := hni
  obtain ⟨k1, k2⟩ := hki
  simp only [lowK, highK] at n1 n2 k1 k2
  rcases Int.lt_or_le k 0 with hk0 | hk0
  · rw [cN_neg (.inr hk0)]
    repeat' ((conv => whnf); first | (refine lenH_at ?_) | (refine ask_true (by omega) ?_) | (refine ask_false (by omega) ?_) | fail)
    conv => whnf
    exact ⟨rfl, stop⟩
  · rcases Int.lt_or_le n 0 with hn0 | hn0
    · rw [cN_neg (.inl hn0)]
      repeat' ((conv => whnf); first | (refine lenH_at ?_) | (refine pushH_at ?_) | (refine setH_at ?_) | (refine ask_true (by omega) ?_) | (refine ask_false (by omega) ?_) | fail)
      conv => whnf
      exact ⟨rfl, stop⟩
    · rcases Classical.em (n = 0) with h0 | h0
      · subst h0
        rcases Classical.em (k = 0) with h1 | h1
        · subst h1
          rw [cN_zero]
          repeat' ((conv => whnf); first | (refine lenH_at ?_) | (refine pushH_at ?_) | (refine setH_at ?_) | (refine ask_true (by omega) ?_) | (refine ask_false (by omega) ?_) | fail)
          conv => whnf
          exact ⟨rfl, stop⟩
        · rw [cN_none (by omega) hk]
          repeat' ((conv => whnf); first | (refine lenH_at ?_) | (refine pushH_at ?_) | (refine setH_at ?_) | (refine ask_true (by omega) ?_) | (refine ask_false (by omega) ?_) | fail)
          conv => whnf
          exact ⟨rfl, stop⟩
      · repeat' ((conv => whnf); first | (refine lenH_at ?_) | (refine pushH_at ?_) | (refine setH_at ?_) | (refine ask_true (by omega) ?_) | (refine ask_false (by omega) ?_) | fail)
        conv => whnf
        refine hGet_at (b := .own 237 [.ints .i64 2 [0, 0]]) (by simp) ?_
        conv => whnf
        have eS : (T ++ [Blk.obj R] ++ [Blk.own 237 [.ints .i64 2 [0, 0]]]).set (0 + (T ++ [Blk.obj R]).length) (.own 237 [.ints .i64 2 [n, k]]) = T ++ [Blk.obj R] ++ [Blk.own 237 [.ints .i64 2 [n, k]]] := by simp
        refine setH_as (H' := T ++ [Blk.obj R] ++ [Blk.own 237 [.ints .i64 2 [n, k]]]) eS ?_
        repeat' ((conv => whnf); first | (refine lenH_at ?_) | (refine pushH_at ?_) | (refine ask_true (by omega) ?_) | (refine ask_false (by omega) ?_) | (refine hGet_at (b := .own 237 [.ints .i64 2 [n, k]]) (by simp) ?_) | fail)
        conv => whnf
        refine And.intro ⟨mty, rfl⟩ ⟨cntQ, ⟨R, by simp, hR⟩, fun v hv hq => ?_, ?_⟩
        · repeat' ((conv => whnf); first | (refine lenH_at ?_) | (refine pushH_at ?_) | (refine ask_true (by omega) ?_) | (refine ask_false (by omega) ?_) | (refine hGet_at (b := .own 237 [.ints .i64 2 [n, k]]) (by simp) ?_) | fail)
          conv => whnf
          exact ⟨congrArg vi hq, R, [Blk.own 237 [.ints .i64 2 [n, k]]], by simp, hR⟩
        · repeat' ((conv => whnf); first | (refine lenH_at ?_) | (refine pushH_at ?_) | (refine ask_true (by omega) ?_) | (refine ask_false (by omega) ?_) | (refine hGet_at (b := .own 237 [.ints .i64 2 [n, k]]) (by simp) ?_) | (refine ask_wrap64 (by omega) (by omega) ?_) | fail)
          conv => whnf
          refine And.intro ⟨R, by simp, hR⟩ (And.intro ⟨by omega, by omega, hk⟩ fun H' eH => ?_)
          have eH' : H' = T ++ [Blk.obj (mapI cntQ)] ++ [Blk.own 237 [.ints .i64 2 [n, k]]] := by rw [eH]; simp
          clear eH
          subst eH'
          repeat' ((conv => whnf); first | (refine lenH_at ?_) | (refine pushH_at ?_) | (refine ask_true (by omega) ?_) | (refine ask_false (by omega) ?_) | (refine hGet_at (b := .own 237 [.ints .i64 2 [n, k]]) (by simp) ?_) | fail)
          conv => whnf
          obtain ⟨HS, eHS⟩ : ∃ HS, HS = T ++ [Blk.obj (mapI cntQ)] ++ [Blk.own 237 [.ints .i64 2 [n, k]]] := ⟨_, rfl⟩
          have d1 : decide (T.length < HS.length) = true := by rw [eHS]; simp
          have d2 : decide (0 + (T ++ [Blk.obj R]).length < HS.length) = true := by rw [eHS]; simp
          have hbh : bndH HS.length HS = true := bndH_of fun b hb => by
            rw [eHS] at hb
            rcases List.mem_append.1 hb with hb | hb
            · rcases List.mem_append.1 hb with hb | hb
              · exact Blk.bnd_up (by rw [eHS]; simp) b (hT.bnd b (List.mem_append_left _ hb))
              · rw [List.mem_singleton.1 hb]; rfl
            · rw [List.mem_singleton.1 hb]; rfl
          have hlo : 0 + (T ++ [Blk.obj R]).length ≤ HS.length := by rw [eHS]; simp
          have hat : HS[T.length]? = some (.obj (mapI cntQ)) := by rw [eHS]; simp
          have hset : HS.set T.length (.obj (mapI cntQ)) = HS := by rw [eHS]; simp
          have hkey : HS[0 + (T ++ [Blk.obj R]).length]? = some (.own 237 [.ints .i64 2 [n, k]]) := by rw [eHS]; simp
          have hfin : HS = T ++ .obj (mapI cntQ) :: [Blk.own 237 [.ints .i64 2 [n, k]]] := by rw [eHS]; simp
          rw [← eHS]
          clear eHS
          refine loop_at (10 :: 11 :: List.range' 46 12) (fun m (j : Int) => 0 ≤ j ∧ j ≤ k ∧ m = (k - j).toNat) (fun j => [(10, vi (partC n k j.toNat)), (46, vi j)]) (fun _ => HS) k.toNat 0 ⟨by decide, by omega, by omega⟩ ?_ ?_
          · refine ⟨rfl, ⟨⟨Nat.le_of_ble_eq_true rfl, rfl⟩, ⟨Nat.le_of_ble_eq_true rfl, rfl⟩, trivial⟩, wkH_refl _, ?_, hbh, hlo⟩
            repeat' (first | rfl | exact d1 | exact d2 | refine and_t ?_ ?_)
          · rintro mm j ⟨j0, j1, rfl⟩
            have pc := partC_in (n := n) (k := k) (by omega) hk j.toNat (by omega)
            have cc := cN_in (n := n - 1) (k := j) (by omega) (by omega)
            have pn : partC n k j.toNat + 2 * cN (n - 1) j = partC n k (j + 1).toNat := by
              rw [show (j + 1).toNat = j.toNat + 1 by omega]
              show _ = partC n k j.toNat + 2 * cN (n - 1) (j.toNat : Int)
              rw [show ((j.toNat : Nat) : Int) = j by omega]
            rcases Int.lt_or_le j k with j2 | j2
            · repeat' ((conv => whnf); first | (refine lenH_at ?_) | (refine pushH_at ?_) | (refine ask_true (by omega) ?_) | (refine ask_false (by omega) ?_) | (refine hGet_at (b := .own 237 [.ints .i64 2 [n, k]]) (by simp) ?_) | (refine ask_wrap64 (by omega) (by omega) ?_) | fail)
              conv => whnf
              refine And.intro ⟨_, hat, fun o h => h⟩ (And.intro ⟨by omega, by omega, by omega⟩ fun H' eH => ?_)
              rw [hset] at eH
              subst eH
              repeat' ((conv => whnf); first | (refine lenH_at ?_) | (refine pushH_at ?_) | (refine ask_true (by omega) ?_) | (refine ask_false (by omega) ?_) | (refine hGet_at (b := .own 237 [.ints .i64 2 [n, k]]) (by simp) ?_) | (refine ask_wrap64 (by omega) (by omega) ?_) | fail)
              conv => whnf
              refine ⟨(k - (j + 1)).toNat, j + 1, by omega, ⟨by omega, by omega, rfl⟩, rfl, ⟨⟨Nat.le_of_ble_eq_true rfl, congrArg vi pn⟩, ⟨Nat.le_of_ble_eq_true rfl, rfl⟩, trivial⟩, wkH_refl _, ?_, hbh, hlo⟩
              repeat' (first | rfl | exact d1 | exact d2 | refine and_t ?_ ?_)
            · have ej : j = k := by omega
              have pa := partC_all (n := n) (k := k) (by omega) ⟨hk0, hk⟩
              rw [← ej] at pa
              repeat' ((conv => whnf); first | (refine lenH_at ?_) | (refine pushH_at ?_) | (refine ask_true (by omega) ?_) | (refine ask_false (by omega) ?_) | (refine hGet_at hkey ?_) | fail)
              conv => whnf
              refine And.intro ⟨mty, rfl⟩ ⟨cntQ, ⟨_, hat, fun o h => h⟩, by rw [ej] at pa ⊢; exact pa, fun H' eH => ?_⟩
              rw [hset] at eH
              subst eH
              repeat' ((conv => whnf); first | (refine lenH_at ?_) | (refine pushH_at ?_) | (refine ask_true (by omega) ?_) | (refine ask_false (by omega) ?_) | fail)
              conv => whnf
              refine ⟨congrArg vi (by rw [← ej]; exact pa), mapI cntQ, _, hfin, fun o h => h⟩
theorem of_base {n k : Int} (hn : n ≤ 0) (hk : k ≤ 8) (hni : InK .i64 n) (hki : InK .i64 k) {R : Obj → Prop} (hR : ∀ o, R o → mapI cntQ o) (T : List Blk) :
    walk F0 0 Tryz.f141 (.c (.cm T.length) :: [i64 n, i64 k]) (T ++ [.obj R]) fun x H' => x = vi (cN n k) ∧ ∃ R' B, H' = T ++ .obj R' :: B ∧ ∀ o, R' o → mapI cntQ o := by
  have stop : ∃ R' B, T ++ [.obj R] = T ++ .obj R' :: B ∧ ∀ o, R' o → mapI cntQ o := ⟨R, [], rfl, hR⟩
  obtain ⟨n1, n2⟩ := hni
  obtain ⟨k1, k2⟩ := hki
  simp only [lowK, highK] at n1 n2 k1 k2
  rcases Int.lt_or_le k 0 with hk0 | hk0
  · rw [cN_neg (.inr hk0)]
    repeat' ((conv => whnf); first | (refine lenH_at ?_) | (refine pushH_at ?_) | (refine ask_true (by omega) ?_) | (refine ask_false (by omega) ?_) | fail)
    conv => whnf
    exact ⟨rfl, stop⟩
  · rcases Int.lt_or_le n 0 with hn0 | hn0
    · rw [cN_neg (.inl hn0)]
      repeat' ((conv => whnf); first | (refine lenH_at ?_) | (refine pushH_at ?_) | (refine ask_true (by omega) ?_) | (refine ask_false (by omega) ?_) | fail)
      conv => whnf
      exact ⟨rfl, stop⟩
    · obtain rfl : n = 0 := by omega
      rcases Classical.em (k = 0) with h1 | h1
      · subst h1
        rw [cN_zero]
        repeat' ((conv => whnf); first | (refine lenH_at ?_) | (refine pushH_at ?_) | (refine ask_true (by omega) ?_) | (refine ask_false (by omega) ?_) | fail)
        conv => whnf
        exact ⟨rfl, stop⟩
      · rw [cN_none (by omega) hk]
        repeat' ((conv => whnf); first | (refine lenH_at ?_) | (refine pushH_at ?_) | (refine ask_true (by omega) ?_) | (refine ask_false (by omega) ?_) | fail)
        conv => whnf
        exact ⟨rfl, stop⟩
theorem of_ct : ∀ m : Nat, HCtOk Tryz.prog 141 (hOf m)
  | 0 => by
    intro ws H K h hr hb ho G σ base w₀ w hw
    unfold hOf at h
    split at h
    · rename_i j n k
      obtain ⟨⟨R, hj, hR⟩, ⟨h1, h2, h3⟩, hK⟩ := h
      have ci := cN_in h2 h3
      exact map_lift (Q := cntQ) F0_ok Tryz.func141 (d := 0) (ws := [i64 n, i64 k]) ⟨by show InK .i64 _; simp only [InK, lowK, highK]; omega, rfl⟩ ⟨hr.2.1, hr.2.2.1, trivial⟩ rfl (fun T _ => of_base (by omega) h3 hr.2.1 hr.2.2.1 hR T) hj (hK _ rfl) ho G σ base w₀ w hw
    · exact h.elim
  | m + 1 => by
    intro ws H K h hr hb ho G σ base w₀ w hw
    unfold hOf at h
    split at h
    · rename_i j n k
      obtain ⟨⟨R, hj, hR⟩, ⟨h1, h2, h3⟩, hK⟩ := h
      have ci := cN_in h2 h3
      have hF : FnsOk Tryz.prog (FO m) := F0_ok.over (of_ct m) Tryz.func141 (by kernel_rfl) (by kernel_rfl)
      exact map_lift (Q := cntQ) hF Tryz.func141 (d := 0) (ws := [i64 n, i64 k]) ⟨by show InK .i64 _; simp only [InK, lowK, highK]; omega, rfl⟩ ⟨hr.2.1, hr.2.2.1, trivial⟩ rfl (fun T hT => of_walk m ⟨by omega, h2⟩ h3 hr.2.1 hr.2.2.1 hR T hT) hj (hK _ rfl) ho G σ base w₀ w hw
    · exact h.elim
noncomputable def FC : Fns := F0.over 141 (hOf 8)
theorem FC_ok : FnsOk Tryz.prog FC := F0_ok.over (of_ct 8) Tryz.func141 (by kernel_rfl) (by kernel_rfl)
@[irreducible] noncomputable def cC (n k : Int) : Int := if (0 ≤ n ∧ n ≤ 8) ∧ 0 ≤ k ∧ k ≤ 8 then cN n k else 0
theorem cC_def (n k : Int) : cC n k = if (0 ≤ n ∧ n ≤ 8) ∧ 0 ≤ k ∧ k ≤ 8 then cN n k else 0 := by unfold cC; rfl
theorem cC_in (n k : Int) : 0 ≤ cC n k ∧ cC n k ≤ 4294967296 := by
  rw [cC_def]
  split
  · rename_i h; exact cN_in h.1.2 h.2.2
  · decide
theorem count_walk (n k : Int) (hn : InK .i64 n) (hk : InK .i64 k) : walk FC 0 Tryz.f123 [i64 n, i64 k] [] fun y _ => y = vi (cC n k) := by
  obtain ⟨n1, n2⟩ := hn
  obtain ⟨k1, k2⟩ := hk
  simp only [lowK, highK] at n1 n2 k1 k2
  rw [cC_def]
  rcases Classical.em ((0 ≤ n ∧ n ≤ 8) ∧ 0 ≤ k ∧ k ≤ 8) with h | h
  · rw [if_pos h]
    repeat' ((conv => whnf); first | (refine ask_true (by omega) ?_) | (refine ask_false (by omega) ?_) | (refine And.intro mty ?_) | fail)
    conv => whnf
    refine And.intro ⟨emptyM, rfl, empty_mapI _⟩ (And.intro ⟨by omega, by omega, by omega⟩ fun H' eH => ?_)
    repeat' ((conv => whnf); first | rfl | fail)
  · rw [if_neg h]
    rcases Int.lt_or_le n 0 with h1 | h1
    · repeat' ((conv => whnf); first | (refine ask_true (by omega) ?_) | (refine ask_false (by omega) ?_) | rfl | fail)
    · rcases Int.lt_or_le 8 n with h2 | h2
      · repeat' ((conv => whnf); first | (refine ask_true (by omega) ?_) | (refine ask_false (by omega) ?_) | rfl | fail)
      · rcases Int.lt_or_le k 0 with h3 | h3
        · repeat' ((conv => whnf); first | (refine ask_true (by omega) ?_) | (refine ask_false (by omega) ?_) | rfl | fail)
        · repeat' ((conv => whnf); first | (refine ask_true (by omega) ?_) | (refine ask_false (by omega) ?_) | rfl | fail)
theorem count_ct : CtOk Tryz.prog 123 (ct2 (fun _ _ => True) cC) := ct2_ok FC_ok Tryz.func123 (fun a b _ _ _ => by have := cC_in a b; simp only [InK, lowK, highK]; omega) fun a b ha hb _ => count_walk a b ha hb
theorem cC_nat {a b : Nat} (ha : a ≤ 8) (hb : b ≤ 8) : cC a b = (crow a).getD b 0 := by rw [cC_def, if_pos (by omega), cN_nat]
noncomputable def FBi : Fns := (F0.plus 123 (ct2 (fun _ _ => True) cC)).plus 133 (ct1 (fun x => -9223372036854775808 < x) lengthS)
theorem FBi_ok : FnsOk Tryz.prog FBi := (F0_ok.plus count_ct Tryz.func123 (by kernel_rfl) (by kernel_rfl)).plus length_ct Tryz.func133 (by kernel_rfl) (by kernel_rfl)
noncomputable def bitS (n k : Int) : Int := lenS (max (cC n k - 1) 0)
theorem len_pos {x : Int} (h : 0 ≤ x) : lengthS x = lenS x := by rw [lengthS_def, if_neg (by omega)]
theorem bits_walk (n k : Int) (hn : InK .i64 n) (hk : InK .i64 k) : walk FBi 0 Tryz.f102 [i64 n, i64 k] [] fun y _ => y = vi (bitS n k) := by
  have c1 := cC_in n k
  repeat' ((conv => whnf); first | (refine And.intro trivial ?_) | (refine ask_wrap64 (by omega) (by omega) ?_) | (refine And.intro (by omega) ?_) | fail)
  conv => whnf
  exact congrArg vi (len_pos (by omega))
theorem bitS_in (n k : Int) : 0 ≤ bitS n k ∧ bitS n k ≤ 64 := by
  have c1 := cC_in n k
  exact len_small (by omega)
theorem bits_ct : CtOk Tryz.prog 102 (ct2 (fun _ _ => True) bitS) := ct2_ok FBi_ok Tryz.func102 (fun a b _ _ _ => by have := bitS_in a b; simp only [InK, lowK, highK]; omega) fun a b ha hb _ => bits_walk a b ha hb
theorem ctq2_ok {F : Fns} (hF : FnsOk Tryz.prog F G1) {n : Nat} {f : FuncId} {fn : Func} (hf : Tryz.prog.funcs[f]? = some fn) {pre : Int → Int → Prop} {g : Int → Int → Int} (hg : ∀ a b, InK .i64 a → InK .i64 b → pre a b → InK .i64 (g a b))
    (h : ∀ a b, InK .i64 a → InK .i64 b → pre a b → walkq F n fn [i64 a, i64 b] [] fun y _ => y = vi (g a b)) : CtOkG Tryz.prog G1 f (ct2 pre g) := by
  intro ws K h' hr
  unfold ct2 at h'
  split at h'
  · rename_i a b
    exact ⟨_, h'.2, ⟨hg a b hr.1 hr.2.1 h'.1, rfl⟩, walkq_calls hF hf rfl hr rfl (h a b hr.1 hr.2.1 h'.1)⟩
  · exact h'.elim
@[irreducible] noncomputable def costS : Int → Int → Int := sealed fun b k => bitS (sizeS b) k
theorem costS_def (b k : Int) : costS b k = bitS (sizeS b) k := by unfold costS; rw [sealed_eq]
theorem costS_in (b k : Int) : 0 ≤ costS b k ∧ costS b k ≤ 64 := by rw [costS_def]; exact bitS_in _ _
noncomputable def FCo : Fns := (F0.plus 103 (ct1 (fun _ => True) sizeS)).plus 102 (ct2 (fun _ _ => True) bitS)
theorem FCo_ok : FnsOk Tryz.prog FCo G1 := (F0_okg.plusG size_ct Tryz.func103 (by kernel_rfl) (by kernel_rfl)).plus bits_ct Tryz.func102 (by kernel_rfl) (by kernel_rfl)
theorem cost_walk (b k : Int) (hb : InK .i64 b) (hk : InK .i64 k) : walkq FCo 0 Tryz.f119 [i64 b, i64 k] [] fun y _ => y = vi (costS b k) := by
  rw [costS_def]
  repeat' ((conv => whnf); first | (refine And.intro trivial ?_) | rfl | fail)
theorem cost_ct : CtOkG Tryz.prog G1 119 (ct2 (fun _ _ => True) costS) := ctq2_ok FCo_ok Tryz.func119 (fun a b _ _ _ => by have := costS_in a b; simp only [InK, lowK, highK]; omega) fun a b ha hb _ => cost_walk a b ha hb
def lenC (x : Int) : Int := if x ≤ 0 then 0 else (Nat.log2 x.toNat : Int) + 1
def costC (b k : Nat) : Int := lenC (max ((crow ([2, 2, 4, 8].getD b 0)).getD k 0 - 1) 0)
theorem costS_tab {b k : Int} (hb : 0 ≤ b ∧ b ≤ 3) (hk : 0 ≤ k ∧ k ≤ 8) : costS b k = costC b.toNat k.toNat := by
  have hs : sizeS b = (([2, 2, 4, 8].getD b.toNat 0 : Nat) : Int) := by
    obtain rfl | rfl | rfl | rfl : b = 0 ∨ b = 1 ∨ b = 2 ∨ b = 3 := by omega
    all_goals decide
  have h8 : ([2, 2, 4, 8].getD b.toNat 0 : Nat) ≤ 8 := by
    obtain rfl | rfl | rfl | rfl : b = 0 ∨ b = 1 ∨ b = 2 ∨ b = 3 := by omega
    all_goals decide
  rw [costS_def]
  unfold bitS costC lenC
  rw [lenS_def, hs, show k = ((k.toNat : Nat) : Int) by omega, cC_nat h8 (by omega), Int.toNat_natCast]
theorem cost_up : (List.range 4).all (fun b => (List.range 8).all fun k => decide (costC b k ≤ costC b (k + 1))) = true := by kernel_rfl
theorem cost_mono {b k : Int} (hb : 0 ≤ b ∧ b ≤ 3) (hk : 0 ≤ k ∧ k ≤ 7) : costS b k ≤ costS b (k + 1) := by
  rw [costS_tab hb (by omega), costS_tab hb (by omega), show (k + 1).toNat = k.toNat + 1 by omega]
  have h1 := List.all_eq_true.1 cost_up b.toNat (List.mem_range.2 (by omega))
  exact of_decide_eq_true (List.all_eq_true.1 h1 k.toNat (List.mem_range.2 (by omega)))
@[irreducible] def rightP (ls : List Int) (bits : Int) : Prop := (∀ i : Nat, i < 4 → 0 ≤ ls.getD i 0 ∧ ls.getD i 0 ≤ 20) ∧ 0 ≤ bits ∧ bits ≤ 1048576
theorem rightP_def (ls : List Int) (bits : Int) : rightP ls bits ↔ (∀ i : Nat, i < 4 → 0 ≤ ls.getD i 0 ∧ ls.getD i 0 ≤ 20) ∧ 0 ≤ bits ∧ bits ≤ 1048576 := by unfold rightP; exact Iff.rfl
noncomputable instance (ls : List Int) (bits : Int) : Decidable (rightP ls bits) := Classical.propDecidable _
theorem right_walk (ls : List Int) (h : ls.length = 4) (bits : Int) (hb : InK .i64 bits) : walk F0 0 Tryz.f118 [ar4 ls, i64 bits] [] fun y _ => y = vb (decide (rightP ls bits)) := by
  conv => whnf
  refine loop_at (6 :: List.range' 8 10) (fun m (i : Int) => 0 ≤ i ∧ i ≤ 4 ∧ m = (4 - i).toNat ∧ ∀ j : Nat, (j : Int) < i → 0 ≤ ls.getD j 0 ∧ ls.getD j 0 ≤ 20) (fun i => [(8, vi i)]) (fun _ => [.own 49 [.ints .i64 4 ls]]) 4 0 ⟨by decide, by decide, rfl, fun j hj => by omega⟩ ?_ ?_
  · exact ⟨rfl, ⟨⟨Nat.le_of_ble_eq_true rfl, rfl⟩, trivial⟩, ⟨rfl, trivial⟩, rfl, rfl, Nat.zero_le _⟩
  · rintro m i ⟨i0, i1, rfl, hj⟩
    have em : mulN i.toNat (Tryz.prog.types[3]).size = i.toNat := mulN1 _
    rcases Int.lt_or_le i 4 with i2 | i2
    · have e : ls.getD (mulN i.toNat (Tryz.prog.types[3]).size) 0 = ls.getD i.toNat 0 := by rw [em]
      rcases Classical.em (0 ≤ ls.getD i.toNat 0 ∧ ls.getD i.toNat 0 ≤ 20) with hr | hr
      · repeat' ((conv => whnf); first | (refine ask_true (by omega) ?_) | (refine ask_false (by omega) ?_) | (refine And.intro (by omega) ?_) | (refine fun (_ : InK _ _) => ?_) | (refine ask_wrap64 (by omega) (by omega) ?_) | fail)
        conv => whnf
        refine ⟨(4 - (i + 1)).toNat, i + 1, by omega, ⟨by omega, by omega, rfl, fun j hj' => ?_⟩, rfl, ⟨⟨Nat.le_of_ble_eq_true rfl, rfl⟩, trivial⟩, ⟨rfl, trivial⟩, rfl, rfl, Nat.zero_le _⟩
        rcases Int.lt_or_le (j : Int) i with h1 | h1
        · exact hj j h1
        · have : j = i.toNat := by omega
          rw [this]; exact hr
      · have no : ¬ rightP ls bits := fun hp => hr ((rightP_def ls bits).1 hp |>.1 i.toNat (by omega))
        rw [decide_eq_false no]
        rcases Int.lt_or_le (ls.getD i.toNat 0) 0 with h1 | h1
        all_goals repeat' ((conv => whnf); first | (refine ask_true (by omega) ?_) | (refine ask_false (by omega) ?_) | (refine And.intro (by omega) ?_) | (refine fun (_ : InK _ _) => ?_) | rfl | fail)
    · rcases Classical.em (0 ≤ bits ∧ bits ≤ 1048576) with hr | hr
      · have yes : rightP ls bits := (rightP_def ls bits).2 ⟨fun j h4 => hj j (by omega), hr⟩
        rw [decide_eq_true yes]
        repeat' ((conv => whnf); first | (refine ask_true (by omega) ?_) | (refine ask_false (by omega) ?_) | rfl | fail)
      · have no : ¬ rightP ls bits := fun hp => hr ((rightP_def ls bits).1 hp).2
        rw [decide_eq_false no]
        rcases Int.lt_or_le bits 0 with h1 | h1
        all_goals repeat' ((conv => whnf); first | (refine ask_true (by omega) ?_) | (refine ask_false (by omega) ?_) | rfl | fail)
def ctR (f : List Int → Int → Prop) [∀ a b, Decidable (f a b)] : Ct := fun ws K => match ws with
  | [.agg [.ints .i64 4 xs], .c (.ci .i64 b)] => ∀ τ, τ = decide (f xs b) → K (vb τ)
  | _ => False
theorem right_ct : CtOk Tryz.prog 118 (ctR rightP) := by
  intro ws K h' hr
  unfold ctR at h'
  split at h'
  · rename_i xs b
    exact ⟨_, h' _ rfl, ⟨trivial, rfl⟩, walk_calls F0_ok Tryz.func118 (n := 0) rfl hr rfl (right_walk xs hr.1.1.1 b hr.2.1)⟩
  · exact h'.elim
def roomS (s u : Int) : Int := if s < 10 ∨ s > 32 ∨ u < 0 then 0 else max (8 * s - 40 - u) 0
theorem room_walk (s u : Int) (hs : InK .i64 s) (hu : InK .i64 u) : walk F0 0 Tryz.f69 [i64 s, i64 u] [] fun y _ => y = vi (roomS s u) := by
  obtain ⟨u1, u2⟩ := hu
  simp only [lowK, highK] at u1 u2
  unfold roomS
  rcases Classical.em (s < 10 ∨ s > 32 ∨ u < 0) with h | h
  · rw [if_pos h]
    rcases Int.lt_or_le s 10 with h1 | h1
    · repeat' ((conv => whnf); first | (refine ask_true (by omega) ?_) | (refine ask_false (by omega) ?_) | rfl | fail)
    · rcases Int.lt_or_le 32 s with h2 | h2
      all_goals repeat' ((conv => whnf); first | (refine ask_true (by omega) ?_) | (refine ask_false (by omega) ?_) | rfl | fail)
  · rw [if_neg h]
    repeat' ((conv => whnf); first | (refine ask_true (by omega) ?_) | (refine ask_false (by omega) ?_) | (refine ask_wrap64 (by omega) (by omega) ?_) | rfl | fail)
theorem room_ct : CtOk Tryz.prog 69 (ct2 (fun _ _ => True) roomS) := ct2_ok F0_ok Tryz.func69 (fun a b _ _ _ => by unfold roomS; simp only [InK, lowK, highK]; split <;> omega) fun a b ha hb _ => room_walk a b ha hb
open Go.WideMaps
set_option maxRecDepth 100000
set_option maxHeartbeats 64000000
noncomputable def prS (ks : List Int) (b : Int) : Int := costS b (ks.getD b.toNat 0 + 1) - costS b (ks.getD b.toNat 0)
def valS (ls ks : List Int) (b : Int) : Int := 2 * ls.getD b.toNat 0 - 3 * ks.getD b.toNat 0
def takes (ls ks : List Int) (bits b j : Int) : Prop := ¬ (ls.getD j.toNat 0 = 0 ∨ ks.getD j.toNat 0 = 8 ∨ (0 ≤ b ∧ valS ls ks j ≤ valS ls ks b)) ∧ prS ks j ≤ bits
noncomputable instance (ls ks : List Int) (bits b j : Int) : Decidable (takes ls ks bits b j) := Classical.propDecidable _
noncomputable def bestS (ls ks : List Int) (bits : Int) : Nat → Int
  | 0 => -1
  | i + 1 => if takes ls ks bits (bestS ls ks bits i) i then i else bestS ls ks bits i
theorem best_next {ls ks : List Int} {t i : Int} (h : 0 ≤ i) : bestS ls ks t (i + 1).toNat = if takes ls ks t (bestS ls ks t i.toNat) i then i else bestS ls ks t i.toNat := by
  rw [show (i + 1).toNat = i.toNat + 1 by omega]
  show (if takes ls ks t (bestS ls ks t i.toNat) (i.toNat : Int) then ((i.toNat : Nat) : Int) else bestS ls ks t i.toNat) = _
  rw [show ((i.toNat : Nat) : Int) = i by omega]
theorem best_in (ls ks : List Int) (bits : Int) : ∀ i : Nat, -1 ≤ bestS ls ks bits i ∧ bestS ls ks bits i < i
  | 0 => ⟨Int.le_refl _, by show (-1 : Int) < 0; decide⟩
  | i + 1 => by
    have := best_in ls ks bits i
    show -1 ≤ (if _ then (i : Int) else bestS ls ks bits i) ∧ (if _ then (i : Int) else bestS ls ks bits i) < ((i + 1 : Nat) : Int)
    split <;> omega
theorem best_pays (ls ks : List Int) (bits : Int) : ∀ i : Nat, 0 ≤ bestS ls ks bits i → ls.getD (bestS ls ks bits i).toNat 0 ≠ 0 ∧ ks.getD (bestS ls ks bits i).toNat 0 ≠ 8 ∧ prS ks (bestS ls ks bits i) ≤ bits
  | 0, h => absurd h (by show ¬ (0 : Int) ≤ -1; decide)
  | i + 1, h => by
    have ih := best_pays ls ks bits i
    have e : bestS ls ks bits (i + 1) = if takes ls ks bits (bestS ls ks bits i) i then (i : Int) else bestS ls ks bits i := rfl
    rw [e] at h ⊢
    split
    · rename_i ht
      exact ⟨fun h1 => ht.1 (.inl h1), fun h1 => ht.1 (.inr (.inl h1)), ht.2⟩
    · rename_i ht
      rw [if_neg ht] at h
      exact ih h
noncomputable def goP (ls : List Int) : Nat → List Int → Int → List Int
  | 0, ks, _ => ks
  | n + 1, ks, bits => if bestS ls ks bits 4 < 0 then ks else goP ls n (ks.set (bestS ls ks bits 4).toNat (ks.getD (bestS ls ks bits 4).toNat 0 + 1)) (bits - prS ks (bestS ls ks bits 4))
theorem goP_next (ls : List Int) (n : Nat) (ks : List Int) (bits : Int) : goP ls (n + 1) ks bits = if bestS ls ks bits 4 < 0 then ks else goP ls n (ks.set (bestS ls ks bits 4).toNat (ks.getD (bestS ls ks bits 4).toNat 0 + 1)) (bits - prS ks (bestS ls ks bits 4)) := rfl
noncomputable def pulF (ls : List Int) (bits : Int) : List Int := if rightP ls bits then goP ls 33 z4 bits else z4
def sumK (ks : List Int) : Int := ks.getD 0 0 + ks.getD 1 0 + ks.getD 2 0 + ks.getD 3 0
theorem sumK_set {ks : List Int} (h : ks.length = 4) {b : Int} (hb : 0 ≤ b ∧ b ≤ 3) : sumK (ks.set b.toNat (ks.getD b.toNat 0 + 1)) = sumK ks + 1 := by
  match ks, h with
  | [x, y, z, w], _ =>
    obtain rfl | rfl | rfl | rfl : b = 0 ∨ b = 1 ∨ b = 2 ∨ b = 3 := by omega
    · show x + 1 + y + z + w = x + y + z + w + 1; omega
    · show x + (y + 1) + z + w = x + y + z + w + 1; omega
    · show x + y + (z + 1) + w = x + y + z + w + 1; omega
    · show x + y + z + (w + 1) = x + y + z + w + 1; omega
structure KOk (ks : List Int) : Prop where
  len : ks.length = 4
  at' : ∀ i : Nat, 0 ≤ ks.getD i 0 ∧ ks.getD i 0 ≤ 8
theorem getD_set {ks : List Int} {i j : Nat} {v : Int} : (ks.set i v).getD j 0 = if i = j ∧ j < ks.length then v else ks.getD j 0 := by
  rw [List.getD_eq_getElem?_getD, List.getD_eq_getElem?_getD, List.getElem?_set]
  by_cases h : i = j
  · subst h
    by_cases h2 : i < ks.length
    · simp [h2]
    · simp [h2]
  · simp [h]
theorem KOk.next {ks : List Int} (h : KOk ks) {b : Int} (hb : 0 ≤ b ∧ b ≤ 3) (h8 : ks.getD b.toNat 0 ≠ 8) : KOk (ks.set b.toNat (ks.getD b.toNat 0 + 1)) := by
  refine ⟨by rw [List.length_set]; exact h.len, fun i => ?_⟩
  have h1 := h.at' b.toNat
  have h2 := h.at' i
  rw [getD_set]
  split <;> omega
theorem KOk.sum {ks : List Int} (h : KOk ks) : 0 ≤ sumK ks ∧ sumK ks ≤ 32 := by
  have h0 := h.at' 0
  have h1 := h.at' 1
  have h2 := h.at' 2
  have h3 := h.at' 3
  unfold sumK
  omega
theorem KOk.rng {ks : List Int} (h : KOk ks) : ∀ x ∈ ks, InK .i64 x := fun x hx => by
  obtain ⟨i, hi, rfl⟩ := List.getElem_of_mem hx
  have := h.at' i
  rw [List.getD_eq_getElem?_getD, List.getElem?_eq_getElem hi] at this
  have h' : 0 ≤ ks[i] ∧ ks[i] ≤ 8 := this
  simp only [InK, lowK, highK]; omega
theorem z4_ok : KOk z4 := ⟨rfl, fun i => by
  match i with
  | 0 | 1 | 2 | 3 => decide
  | n + 4 => show (0 : Int) ≤ 0 ∧ (0 : Int) ≤ 8; decide⟩
theorem goP_ok (ls : List Int) : ∀ (n : Nat) (ks : List Int) (bits : Int), KOk ks → KOk (goP ls n ks bits)
  | 0, _, _, h => h
  | n + 1, ks, bits, h => by
    have b1 := best_in ls ks bits 4
    unfold goP
    split
    · exact h
    · rename_i hb
      have b2 := best_pays ls ks bits 4 (by omega)
      exact goP_ok ls n _ _ (h.next (by omega) b2.2.1)
theorem pulF_ok (ls : List Int) (bits : Int) : KOk (pulF ls bits) := by
  unfold pulF
  split
  · exact goP_ok _ _ _ _ z4_ok
  · exact z4_ok
noncomputable def FPu : Fns := (F0.plus 118 (ctR rightP)).plus 119 (ct2 (fun _ _ => True) costS)
theorem FPu_ok : FnsOk Tryz.prog FPu G1 := (F0_okg.plus right_ct Tryz.func118 (by kernel_rfl) (by kernel_rfl)).plusG cost_ct Tryz.func119 (by kernel_rfl) (by kernel_rfl)
theorem pulsesS_walk (ls : List Int) (h : ls.length = 4) (bits : Int) (hb : InK .i64 bits) : walkq FPu 0 Tryz.f68 [ar4 ls, i64 bits] [] fun y _ => y = .w (ar4 (pulF ls bits)) := by
  unfold pulF
  rcases Classical.em (rightP ls bits) with hr | hr
  · rw [if_pos hr]
    obtain ⟨hl, hbb⟩ := (rightP_def ls bits).1 hr
    repeat' ((conv => whnf); first | (refine ask_true hr ?_) | fail)
    conv => whnf
    refine loop_at2 (1 :: 6 :: 7 :: 8 :: 9 :: 10 :: List.range' 16 64) (fun m (ks : List Int) (t : Int) => KOk ks ∧ (0 ≤ t ∧ t ≤ 1048576) ∧ m = (33 - sumK ks).toNat ∧ goP ls m ks t = goP ls 33 z4 bits) (fun _ t => [(1, vi t)]) (fun ks _ => [.own 49 [.ints .i64 4 ls], .own 49 [.ints .i64 4 z4], .own 49 [.ints .i64 4 ks]]) 33 z4 bits ⟨z4_ok, hbb, rfl, rfl⟩ ?_ ?_
    · exact ⟨rfl, ⟨⟨Nat.le_of_ble_eq_true rfl, rfl⟩, trivial⟩, ⟨rfl, rfl, rfl, trivial⟩, rfl, rfl, Nat.zero_le _⟩
    · rintro m ks t ⟨hk, ht, rfl, hgo⟩
      conv => whnf
      refine loop_at2 (6 :: 7 :: 8 :: 9 :: 10 :: List.range' 17 53) (fun m (i : Int) (b : Int) => 0 ≤ i ∧ i ≤ 4 ∧ m = (4 - i).toNat ∧ b = bestS ls ks t i.toNat) (fun i b => [(17, vi i), (6, vi b), (7, vi (if b < 0 then 0 else prS ks b))]) (fun _ _ => [.own 49 [.ints .i64 4 ls], .own 49 [.ints .i64 4 z4], .own 49 [.ints .i64 4 ks]]) 4 0 (-1) ⟨by decide, by decide, rfl, rfl⟩ ?_ ?_
      · exact ⟨rfl, ⟨⟨Nat.le_of_ble_eq_true rfl, rfl⟩, ⟨Nat.le_of_ble_eq_true rfl, rfl⟩, ⟨Nat.le_of_ble_eq_true rfl, rfl⟩, trivial⟩, ⟨rfl, rfl, rfl, trivial⟩, rfl, rfl, Nat.zero_le _⟩
      · rintro m i b ⟨i0, i1, rfl, hbs⟩
        have bi := best_in ls ks t i.toNat
        rw [← hbs] at bi
        rcases Int.lt_or_le i 4 with i2 | i2
        · have em : mulN i.toNat (Tryz.prog.types[3]).size = i.toNat := mulN1 _
          have eb : mulN b.toNat (Tryz.prog.types[3]).size = b.toNat := mulN1 _
          have eli : ls.getD (mulN i.toNat (Tryz.prog.types[3]).size) 0 = ls.getD i.toNat 0 := by rw [em]
          have eki : ks.getD (mulN i.toNat (Tryz.prog.types[3]).size) 0 = ks.getD i.toNat 0 := by rw [em]
          have elb : ls.getD (mulN b.toNat (Tryz.prog.types[3]).size) 0 = ls.getD b.toNat 0 := by rw [eb]
          have ekb : ks.getD (mulN b.toNat (Tryz.prog.types[3]).size) 0 = ks.getD b.toNat 0 := by rw [eb]
          have li := hl i.toNat (by omega)
          have ki := hk.at' i.toNat
          have kb := hk.at' b.toNat
          have nx := best_next (ls := ls) (ks := ks) (t := t) i0
          rw [← hbs] at nx
          have cA := costS_in i (ks.getD (mulN i.toNat (Tryz.prog.types[3]).size) 0 + 1)
          have cB := costS_in i (ks.getD (mulN i.toNat (Tryz.prog.types[3]).size) 0)
          have ePr : costS i (ks.getD (mulN i.toNat (Tryz.prog.types[3]).size) 0 + 1) - costS i (ks.getD (mulN i.toNat (Tryz.prog.types[3]).size) 0) = prS ks i := by rw [eki]; rfl
          have evi : valS ls ks i = 2 * ls.getD i.toNat 0 - 3 * ks.getD i.toNat 0 := rfl
          have evb : valS ls ks b = 2 * ls.getD b.toNat 0 - 3 * ks.getD b.toNat 0 := rfl
          have keep : ¬ takes ls ks t b i → b = bestS ls ks t (i + 1).toNat := fun hn => by rw [nx, if_neg hn]
          have turn : takes ls ks t b i → i = bestS ls ks t (i + 1).toNat := fun hn => by rw [nx, if_pos hn]
          rcases Classical.em (ls.getD i.toNat 0 = 0) with h1 | h1
          · have hn : ¬ takes ls ks t b i := fun hh => hh.1 (.inl h1)
            repeat' ((conv => whnf); first | (refine ask_true (by omega) ?_) | (refine ask_false (by omega) ?_) | (refine And.intro trivial ?_) | (refine And.intro (by omega) ?_) | (refine fun (_ : InK _ _) => ?_) | (refine ask_wrap64 (by omega) (by omega) ?_) | (refine ⟨by kernel_rfl, ?_⟩) | fail)
            conv => whnf
            exact ⟨(4 - (i + 1)).toNat, (i + 1, b), by omega, ⟨by show 0 ≤ i + 1; omega, by show i + 1 ≤ 4; omega, rfl, keep hn⟩, rfl, ⟨⟨Nat.le_of_ble_eq_true rfl, rfl⟩, ⟨Nat.le_of_ble_eq_true rfl, rfl⟩, ⟨Nat.le_of_ble_eq_true rfl, rfl⟩, trivial⟩, ⟨rfl, rfl, rfl, trivial⟩, rfl, rfl, Nat.zero_le _⟩
          · rcases Classical.em (ks.getD i.toNat 0 = 8) with h2 | h2
            · have hn : ¬ takes ls ks t b i := fun hh => hh.1 (.inr (.inl h2))
              repeat' ((conv => whnf); first | (refine ask_true (by omega) ?_) | (refine ask_false (by omega) ?_) | (refine And.intro trivial ?_) | (refine And.intro (by omega) ?_) | (refine fun (_ : InK _ _) => ?_) | (refine ask_wrap64 (by omega) (by omega) ?_) | (refine ⟨by kernel_rfl, ?_⟩) | fail)
              conv => whnf
              exact ⟨(4 - (i + 1)).toNat, (i + 1, b), by omega, ⟨by show 0 ≤ i + 1; omega, by show i + 1 ≤ 4; omega, rfl, keep hn⟩, rfl, ⟨⟨Nat.le_of_ble_eq_true rfl, rfl⟩, ⟨Nat.le_of_ble_eq_true rfl, rfl⟩, ⟨Nat.le_of_ble_eq_true rfl, rfl⟩, trivial⟩, ⟨rfl, rfl, rfl, trivial⟩, rfl, rfl, Nat.zero_le _⟩
            · rcases Int.lt_or_le b 0 with h3 | h3
              · rcases Int.lt_or_le t (prS ks i) with h4 | h4
                · have hn : ¬ takes ls ks t b i := fun hh => absurd hh.2 (by omega)
                  repeat' ((conv => whnf); first | (refine ask_true (by omega) ?_) | (refine ask_false (by omega) ?_) | (refine And.intro trivial ?_) | (refine And.intro (by omega) ?_) | (refine fun (_ : InK _ _) => ?_) | (refine ask_wrap64 (by omega) (by omega) ?_) | (refine ⟨by kernel_rfl, ?_⟩) | fail)
                  conv => whnf
                  exact ⟨(4 - (i + 1)).toNat, (i + 1, b), by omega, ⟨by show 0 ≤ i + 1; omega, by show i + 1 ≤ 4; omega, rfl, keep hn⟩, rfl, ⟨⟨Nat.le_of_ble_eq_true rfl, rfl⟩, ⟨Nat.le_of_ble_eq_true rfl, rfl⟩, ⟨Nat.le_of_ble_eq_true rfl, rfl⟩, trivial⟩, ⟨rfl, rfl, rfl, trivial⟩, rfl, rfl, Nat.zero_le _⟩
                · have hn : takes ls ks t b i := ⟨fun hh => by rcases hh with hh | hh | hh <;> omega, h4⟩
                  repeat' ((conv => whnf); first | (refine ask_true (by omega) ?_) | (refine ask_false (by omega) ?_) | (refine And.intro trivial ?_) | (refine And.intro (by omega) ?_) | (refine fun (_ : InK _ _) => ?_) | (refine ask_wrap64 (by omega) (by omega) ?_) | (refine ⟨by kernel_rfl, ?_⟩) | fail)
                  conv => whnf
                  refine ⟨(4 - (i + 1)).toNat, (i + 1, i), by omega, ⟨by show 0 ≤ i + 1; omega, by show i + 1 ≤ 4; omega, rfl, turn hn⟩, rfl, ⟨⟨Nat.le_of_ble_eq_true rfl, rfl⟩, ⟨Nat.le_of_ble_eq_true rfl, rfl⟩, ⟨Nat.le_of_ble_eq_true rfl, congrArg vi ?_⟩, trivial⟩, ⟨rfl, rfl, rfl, trivial⟩, rfl, rfl, Nat.zero_le _⟩
                  show _ = if i < 0 then 0 else prS ks i
                  rw [if_neg (by omega)]; exact ePr
              · have lb := hl b.toNat (by omega)
                rcases Int.lt_or_le (valS ls ks b) (valS ls ks i) with h5 | h5
                · rcases Int.lt_or_le t (prS ks i) with h4 | h4
                  · have hn : ¬ takes ls ks t b i := fun hh => absurd hh.2 (by omega)
                    repeat' ((conv => whnf); first | (refine ask_true (by omega) ?_) | (refine ask_false (by omega) ?_) | (refine And.intro trivial ?_) | (refine And.intro (by omega) ?_) | (refine fun (_ : InK _ _) => ?_) | (refine ask_wrap64 (by omega) (by omega) ?_) | (refine ⟨by kernel_rfl, ?_⟩) | fail)
                    conv => whnf
                    exact ⟨(4 - (i + 1)).toNat, (i + 1, b), by omega, ⟨by show 0 ≤ i + 1; omega, by show i + 1 ≤ 4; omega, rfl, keep hn⟩, rfl, ⟨⟨Nat.le_of_ble_eq_true rfl, rfl⟩, ⟨Nat.le_of_ble_eq_true rfl, rfl⟩, ⟨Nat.le_of_ble_eq_true rfl, rfl⟩, trivial⟩, ⟨rfl, rfl, rfl, trivial⟩, rfl, rfl, Nat.zero_le _⟩
                  · have hn : takes ls ks t b i := ⟨fun hh => by rcases hh with hh | hh | hh <;> omega, h4⟩
                    repeat' ((conv => whnf); first | (refine ask_true (by omega) ?_) | (refine ask_false (by omega) ?_) | (refine And.intro trivial ?_) | (refine And.intro (by omega) ?_) | (refine fun (_ : InK _ _) => ?_) | (refine ask_wrap64 (by omega) (by omega) ?_) | (refine ⟨by kernel_rfl, ?_⟩) | fail)
                    conv => whnf
                    refine ⟨(4 - (i + 1)).toNat, (i + 1, i), by omega, ⟨by show 0 ≤ i + 1; omega, by show i + 1 ≤ 4; omega, rfl, turn hn⟩, rfl, ⟨⟨Nat.le_of_ble_eq_true rfl, rfl⟩, ⟨Nat.le_of_ble_eq_true rfl, rfl⟩, ⟨Nat.le_of_ble_eq_true rfl, congrArg vi ?_⟩, trivial⟩, ⟨rfl, rfl, rfl, trivial⟩, rfl, rfl, Nat.zero_le _⟩
                    show _ = if i < 0 then 0 else prS ks i
                    rw [if_neg (by omega)]; exact ePr
                · have hn : ¬ takes ls ks t b i := fun hh => hh.1 (.inr (.inr ⟨h3, h5⟩))
                  repeat' ((conv => whnf); first | (refine ask_true (by omega) ?_) | (refine ask_false (by omega) ?_) | (refine And.intro trivial ?_) | (refine And.intro (by omega) ?_) | (refine fun (_ : InK _ _) => ?_) | (refine ask_wrap64 (by omega) (by omega) ?_) | (refine ⟨by kernel_rfl, ?_⟩) | fail)
                  conv => whnf
                  exact ⟨(4 - (i + 1)).toNat, (i + 1, b), by omega, ⟨by show 0 ≤ i + 1; omega, by show i + 1 ≤ 4; omega, rfl, keep hn⟩, rfl, ⟨⟨Nat.le_of_ble_eq_true rfl, rfl⟩, ⟨Nat.le_of_ble_eq_true rfl, rfl⟩, ⟨Nat.le_of_ble_eq_true rfl, rfl⟩, trivial⟩, ⟨rfl, rfl, rfl, trivial⟩, rfl, rfl, Nat.zero_le _⟩
        · have i4 : i.toNat = 4 := by omega
          rw [i4] at hbs
          have hsum := hk.sum
          obtain ⟨n, en⟩ : ∃ n, (33 - sumK ks).toNat = n + 1 := ⟨(33 - sumK ks).toNat - 1, by omega⟩
          rw [en, goP_next, ← hbs] at hgo
          rcases Int.lt_or_le b 0 with h3 | h3
          · rw [if_pos h3] at hgo
            rw [← hgo]
            repeat' ((conv => whnf); first | (refine ask_true (by omega) ?_) | (refine ask_false (by omega) ?_) | rfl | fail)
          · rw [if_neg (by omega)] at hgo
            have bp := best_pays ls ks t 4 (by omega)
            rw [← hbs] at bp
            have eb : mulN b.toNat (Tryz.prog.types[3]).size = b.toNat := mulN1 _
            have kb := hk.at' b.toNat
            have ekb : ks.getD (mulN b.toNat (Tryz.prog.types[3]).size) 0 = ks.getD b.toNat 0 := by rw [eb]
            have pe : (if b < 0 then 0 else prS ks b) = prS ks b := if_neg (by omega)
            have p0 : 0 ≤ prS ks b := by
              have := cost_mono (b := b) (k := ks.getD b.toNat 0) (by omega) (by omega)
              unfold prS; omega
            have es : ks.set (mulN b.toNat (Tryz.prog.types[3]).size) (ks.getD (mulN b.toNat (Tryz.prog.types[3]).size) 0 + 1) = ks.set b.toNat (ks.getD b.toNat 0 + 1) := by rw [ekb, eb]
            have ss := sumK_set hk.len (b := b) (by omega)
            repeat' ((conv => whnf); first | (refine ask_true (by omega) ?_) | (refine ask_false (by omega) ?_) | (refine And.intro (by omega) ?_) | (refine fun (_ : InK _ _) => ?_) | (refine ask_wrap64 (by omega) (by omega) ?_) | (refine ⟨by kernel_rfl, ?_⟩) | fail)
            conv => whnf
            refine ⟨n, (ks.set (mulN b.toNat (Tryz.prog.types[3]).size) (ks.getD (mulN b.toNat (Tryz.prog.types[3]).size) 0 + 1), t - (if b < 0 then 0 else prS ks b)), by omega, ⟨?_, ?_, ?_, ?_⟩, rfl, ⟨⟨Nat.le_of_ble_eq_true rfl, rfl⟩, trivial⟩, ⟨rfl, rfl, rfl, trivial⟩, rfl, rfl, Nat.zero_le _⟩
            · show KOk (ks.set (mulN b.toNat (Tryz.prog.types[3]).size) (ks.getD (mulN b.toNat (Tryz.prog.types[3]).size) 0 + 1))
              rw [es]; exact hk.next (by omega) bp.2.1
            · show 0 ≤ t - (if b < 0 then 0 else prS ks b) ∧ t - (if b < 0 then 0 else prS ks b) ≤ 1048576
              omega
            · show n = (33 - sumK (ks.set (mulN b.toNat (Tryz.prog.types[3]).size) (ks.getD (mulN b.toNat (Tryz.prog.types[3]).size) 0 + 1))).toNat
              rw [es, ss]; omega
            · show goP ls n (ks.set (mulN b.toNat (Tryz.prog.types[3]).size) (ks.getD (mulN b.toNat (Tryz.prog.types[3]).size) 0 + 1)) (t - (if b < 0 then 0 else prS ks b)) = _
              rw [es, pe]; exact hgo
  · rw [if_neg hr]
    repeat' ((conv => whnf); first | (refine ask_false hr ?_) | rfl | fail)
@[irreducible] noncomputable def pulS : List Int → Int → List Int := sealed pulF
theorem pulS_def (ls : List Int) (bits : Int) : pulS ls bits = pulF ls bits := by unfold pulS; rw [sealed_eq]
theorem pulS_ok (ls : List Int) (bits : Int) : KOk (pulS ls bits) := by rw [pulS_def]; exact pulF_ok _ _
def ctP4 (f : List Int → Int → List Int) : Ct := fun ws K => match ws with
  | [.agg [.ints .i64 4 xs], .c (.ci .i64 b)] => K (.w (ar4 (f xs b)))
  | _ => False
theorem pulsesS_ct : CtOkG Tryz.prog G1 68 (ctP4 pulS) := by
  intro ws K h' hr
  unfold ctP4 at h'
  split at h'
  · rename_i xs b
    exact ⟨_, h', ⟨⟨⟨(pulS_ok xs b).len, (pulS_ok xs b).rng⟩, trivial⟩, rfl⟩, walkq_calls FPu_ok Tryz.func68 rfl hr rfl (by rw [pulS_def]; exact pulsesS_walk xs hr.1.1.1 b hr.2.1)⟩
  · exact h'.elim
end D
end Go.Proofs.YtaficaacogcblaaGreatDoor
set_option linter.all false
namespace Go.Proofs.YtaficaacogcblaaGreatDoor
namespace T
open Go.RowKit (Below)
set_option maxRecDepth 100000
set_option maxHeartbeats 32000000
@[irreducible] noncomputable def cutS : Int → Int → Int := sealed fun x n => if n < 1 ∨ 62 < n then x else max (min x (pw (n - 1) - 1)) (-pw (n - 1))
theorem cutS_def (x n : Int) : cutS x n = if n < 1 ∨ 62 < n then x else max (min x (pw (n - 1) - 1)) (-pw (n - 1)) := by unfold cutS; rw [sealed_eq]
theorem cut_eq (x : Int) {n : Int} (h1 : 1 ≤ n) (h2 : n ≤ 62) : cutS x n = max (min x (pw (n - 1) - 1)) (-pw (n - 1)) := by
  rw [cutS_def]; rw [if_neg (by omega)]
@[irreducible] noncomputable def c22 : Int → Int := sealed fun x => cutS x 22
theorem c22_def (x : Int) : c22 x = cutS x 22 := by unfold c22; rw [sealed_eq]
theorem p22 : pw 21 = 2097152 := by rw [pw_def]; decide
theorem cut22 (x : Int) : c22 x = max (min x 2097151) (-2097152) := by
  rw [c22_def, cut_eq x (by decide) (by decide), show (22 : Int) - 1 = 21 by decide, p22]; rfl
end T
end Go.Proofs.YtaficaacogcblaaGreatDoor
