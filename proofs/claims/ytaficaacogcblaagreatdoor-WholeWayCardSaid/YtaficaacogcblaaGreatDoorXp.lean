/- Blocks renumbered: what is told over one numbering holds over another one. -/
import Derived.Test.YtaficaacogcblaaGreatDoorXa
set_option linter.all false
namespace Go.Proofs.YtaficaacogcblaaGreatDoor
open Go.RowKit (Below)
variable {Df : List Deferred}

mutual
/-- A cell with its blocks renumbered. -/
def C.ren (ρ : Nat → Nat) : C → C
  | .cp j o => .cp (ρ j) o
  | .cpi j o i => .cpi (ρ j) o i
  | .csl j o i l c => .csl (ρ j) o i l c
  | .cm j => .cm (ρ j)
  | .cf f caps => .cf f (C.renL ρ caps)
  | .cmv f j o => .cmv f (ρ j) o
  | .cb t => .cb t
  | .ci k n => .ci k n
  | .cs x => .cs x
  | .cnil => .cnil
  | .cg g o => .cg g o
  | .cgi g o i => .cgi g o i
  | .csn => .csn
  | .cv x => .cv x
def C.renL (ρ : Nat → Nat) : List C → List C
  | [] => []
  | c :: l => c.ren ρ :: C.renL ρ l
end
def Seg.ren (ρ : Nat → Nat) : Seg → Seg
  | .one c => .one (c.ren ρ)
  | .ints k n xs => .ints k n xs
def rens (ρ : Nat → Nat) : List Seg → List Seg
  | [] => []
  | s :: ss => s.ren ρ :: rens ρ ss
def W.ren (ρ : Nat → Nat) : W → W
  | .c x => .c (x.ren ρ)
  | .agg ss => .agg (rens ρ ss)
def renW (ρ : Nat → Nat) : List W → List W
  | [] => []
  | x :: xs => x.ren ρ :: renW ρ xs
def V.ren (ρ : Nat → Nat) : V → V
  | .w x => .w (x.ren ρ)
  | .tup ws => .tup (renW ρ ws)
  | .any => .any
def Blk.ren (ρ : Nat → Nat) : Blk → Blk
  | .own T ss => .own T (rens ρ ss)
  | .ro ss => .ro (rens ρ ss)
  | .obj R => .obj R
  | .gone => .gone

def Sg.ren (σ : Sg) (ρ : Nat → Nat) : Sg := fun j => σ (ρ j)
mutual
theorem C.den_ren (σ : Sg) (ρ : Nat → Nat) : (c : C) → (c.ren ρ).den σ = c.den (σ.ren ρ)
  | .cb _ | .ci _ _ | .cs _ | .cnil | .cg _ _ | .cgi _ _ _ | .csn | .cv _ => by simp only [C.ren, C.den]
  | .cp j o | .cpi j o i | .csl j o i l c | .cm j | .cmv f j o => by simp only [C.ren, C.den, Sg.at, Sg.ren]
  | .cf f caps => by simp only [C.ren, C.den, C.denL_ren σ ρ caps]
theorem C.denL_ren (σ : Sg) (ρ : Nat → Nat) : (l : List C) → C.denL σ (C.renL ρ l) = C.denL (σ.ren ρ) l
  | [] => by simp only [C.renL, C.denL]
  | c :: l => by simp only [C.renL, C.denL, C.den_ren σ ρ c, C.denL_ren σ ρ l]
end
theorem Seg.den_ren (σ : Sg) (ρ : Nat → Nat) : (s : Seg) → (s.ren ρ).den σ = s.den (σ.ren ρ)
  | .one c => by simp only [Seg.ren, Seg.den, C.den_ren]
  | .ints _ _ _ => rfl
theorem dens_ren (σ : Sg) (ρ : Nat → Nat) : (ss : List Seg) → dens σ (rens ρ ss) = dens (σ.ren ρ) ss
  | [] => rfl
  | s :: ss => by simp only [rens, dens, Seg.den_ren, dens_ren σ ρ ss]
theorem W.den_ren (σ : Sg) (ρ : Nat → Nat) : (x : W) → (x.ren ρ).den σ = x.den (σ.ren ρ)
  | .c x => by simp only [W.ren, W.den, C.den_ren]
  | .agg ss => by simp only [W.ren, W.den, dens_ren]
theorem renW_den (σ : Sg) (ρ : Nat → Nat) : (xs : List W) → (renW ρ xs).map (W.den σ) = xs.map (W.den (σ.ren ρ))
  | [] => rfl
  | x :: xs => by simp only [renW, List.map_cons, W.den_ren, renW_den σ ρ xs]
theorem V.rep_ren (σ : Sg) (ρ : Nat → Nat) (x : V) (v : Value) : (x.ren ρ).rep σ v ↔ x.rep (σ.ren ρ) v := by
  cases x with
  | w x => simp only [V.ren, V.rep, W.den_ren]
  | tup ws => simp only [V.ren, V.rep, renW_den]
  | any => exact Iff.rfl
theorem Blk.rep_ren {σ : Sg} {ρ : Nat → Nat} {base : Nat} {w : World} {j : Nat} {b : Blk} (h : (b.ren ρ).rep σ base w (ρ j)) : b.rep (σ.ren ρ) base w j := by
  cases b with
  | own T ss => simpa only [Blk.ren, Blk.rep, dens_ren, Sg.ren] using h
  | ro ss => simpa only [Blk.ren, Blk.rep, dens_ren, Sg.ren, Sg.at] using h
  | obj R => simpa only [Blk.ren, Blk.rep, Sg.ren] using h
  | gone => trivial

/-- A heap seen under another numbering: each block told is one of those that stand there. -/
theorem Rep.ren {G : Glo} {σ : Sg} {base : Nat} {w₀ w : World} {H H' : List Blk} (h : Rep G σ base w₀ w H) {ρ : Nat → Nat}
    (hb : ∀ (j : Nat) (b : Blk), H'[j]? = some b → b = .gone ∨ H[ρ j]? = some (b.ren ρ)) (hi : ∀ (i j : Nat) (b c : Blk), H'[i]? = some b → H'[j]? = some c → b.mine = true → c.mine = true → ρ i = ρ j → i = j) : Rep G (σ.ren ρ) base w₀ w H' := by
  refine ⟨h.below, h.size, fun j b hj => ?_, fun i j b c hbi hcj hm hn hij => ?_, fun g ss hg => ?_⟩
  · rcases hb j b hj with rfl | hh
    · trivial
    · exact Blk.rep_ren (h.blk _ _ hh)
  · rcases hb i b hbi with rfl | h1
    · cases hm
    · rcases hb j c hcj with rfl | h2
      · cases hn
      · exact h.sep _ _ _ _ h1 h2 (by cases b <;> exact hm) (by cases c <;> exact hn) fun e => hij (hi i j b c hbi hcj hm hn e)
  · obtain ⟨g1, g2, g3⟩ := h.glo g ss hg
    refine ⟨g1, g2, fun i v hv => g3 i v ?_⟩
    rw [dens_agree (n := 0) (fun j hj => absurd hj (Nat.not_lt_zero j)) ss g2]
    exact hv
/-- A frame seen so. -/
theorem FRep.ren {σ : Sg} {a : Act} {F F' : List V} (h : FRep Df σ a F) {ρ : Nat → Nat} (hl : F'.length = F.length) (hf : ∀ (i : Nat) (x : V), F'[i]? = some x → x = .any ∨ F[i]? = some (x.ren ρ)) : FRep Df (σ.ren ρ) a F' := by
  refine ⟨h.dfr, by rw [h.size, hl], fun i x hx => ?_⟩
  rcases hf i x hx with rfl | hh
  · trivial
  · exact (V.rep_ren σ ρ x _).1 (h.rep _ _ hh)

mutual
theorem C.ren_id : (c : C) → c.ren id = c
  | .cb _ | .ci _ _ | .cs _ | .cnil | .cg _ _ | .cgi _ _ _ | .csn | .cv _ => by simp only [C.ren]
  | .cp j o | .cpi j o i | .csl j o i l c | .cm j | .cmv f j o => by simp only [C.ren, id]
  | .cf f caps => by simp only [C.ren, C.renL_id caps]
theorem C.renL_id : (l : List C) → C.renL id l = l
  | [] => by simp only [C.renL]
  | c :: l => by simp only [C.renL, C.ren_id c, C.renL_id l]
end
theorem Seg.ren_id : (s : Seg) → s.ren id = s
  | .one c => by simp only [Seg.ren, C.ren_id]
  | .ints _ _ _ => rfl
theorem rens_id : (ss : List Seg) → rens id ss = ss
  | [] => rfl
  | s :: ss => by simp only [rens, Seg.ren_id, rens_id ss]
theorem W.ren_id : (x : W) → x.ren id = x
  | .c x => by simp only [W.ren, C.ren_id]
  | .agg ss => by simp only [W.ren, rens_id]
theorem renW_id : (xs : List W) → renW id xs = xs
  | [] => rfl
  | x :: xs => by simp only [renW, W.ren_id, renW_id xs]
theorem V.ren_id (x : V) : x.ren id = x := by
  cases x with
  | w x => simp only [V.ren, W.ren_id]
  | tup ws => simp only [V.ren, renW_id]
  | any => rfl
theorem Blk.ren_id (b : Blk) : b.ren id = b := by
  cases b with
  | own T ss => simp only [Blk.ren, rens_id]
  | ro ss => simp only [Blk.ren, rens_id]
  | obj R => rfl
  | gone => rfl

mutual
theorem C.rng_ren (ρ : Nat → Nat) : (c : C) → (c.ren ρ).rng → c.rng
  | .cb _, _ | .cnil, _ | .cg _ _, _ | .cgi _ _ _, _ | .csn, _ | .cp _ _, _ | .cpi _ _ _, _ | .cm _, _ | .cmv _ _ _, _ => by simp only [C.rng]
  | .ci _ _, h => by simpa only [C.ren, C.rng] using h
  | .cs _, h => by simpa only [C.ren, C.rng] using h
  | .cv _, h => by simpa only [C.ren, C.rng] using h
  | .csl _ _ _ _ _, h => by simpa only [C.ren, C.rng] using h
  | .cf f caps, h => by
    simp only [C.ren, C.rng] at h ⊢
    exact C.rngL_ren ρ caps h
theorem C.rngL_ren (ρ : Nat → Nat) : (l : List C) → C.rngL (C.renL ρ l) → C.rngL l
  | [], _ => by simp only [C.rngL]
  | c :: l, h => by
    simp only [C.renL, C.rngL] at h ⊢
    exact ⟨C.rng_ren ρ c h.1, C.rngL_ren ρ l h.2⟩
end
theorem Seg.rng_ren (ρ : Nat → Nat) : (s : Seg) → (s.ren ρ).rng → s.rng
  | .one c, h => C.rng_ren ρ c h
  | .ints _ _ _, h => h
theorem rngs_ren (ρ : Nat → Nat) : (ss : List Seg) → rngs (rens ρ ss) → rngs ss
  | [], _ => trivial
  | s :: ss, h => ⟨Seg.rng_ren ρ s h.1, rngs_ren ρ ss h.2⟩
theorem W.rng_ren (ρ : Nat → Nat) : (x : W) → (x.ren ρ).rng → x.rng
  | .c x, h => C.rng_ren ρ x h
  | .agg ss, h => rngs_ren ρ ss h
theorem rngW_ren (ρ : Nat → Nat) : (xs : List W) → rngW (renW ρ xs) → rngW xs
  | [], _ => trivial
  | x :: xs, h => ⟨W.rng_ren ρ x h.1, rngW_ren ρ xs h.2⟩
theorem V.rng_ren (ρ : Nat → Nat) (x : V) (h : (x.ren ρ).rng) : x.rng := by
  cases x with
  | w x => exact W.rng_ren ρ x h
  | tup ws => exact rngW_ren ρ ws h
  | any => trivial
theorem Blk.rng_ren (ρ : Nat → Nat) (b : Blk) (h : (b.ren ρ).rng) : b.rng := by
  cases b with
  | own T ss => exact rngs_ren ρ ss h
  | ro ss => exact rngs_ren ρ ss h
  | obj R => trivial
  | gone => trivial

/-- A state seen under another numbering, and in less detail. -/
structure Seen (ρ : Nat → Nat) (lo : Nat) (F : List V) (H : List Blk) (F' : List V) (H' : List Blk) : Prop where
  len : F.length = F'.length
  fr : ∀ (i : Nat) (x : V), F[i]? = some x → x = .any ∨ F'[i]? = some (x.ren ρ)
  blk : ∀ (j : Nat) (b : Blk), H[j]? = some b → b = .gone ∨ H'[ρ j]? = some (b.ren ρ)
  inj : ∀ (i j : Nat) (b c : Blk), H[i]? = some b → H[j]? = some c → b.mine = true → c.mine = true → ρ i = ρ j → i = j
  low : ∀ j : Nat, j < lo → ρ j = j
  bf : bndF H.length F = true
  bh : bndH H.length H = true
  lo : lo ≤ H.length
theorem Seen.of_wk {lo : Nat} {F F' : List V} {H H' : List Blk} (hl : F.length = F'.length) (h1 : wkF F F') (h2 : wkH H H') (h3 : bndF H.length F = true) (h4 : bndH H.length H = true) (h5 : lo ≤ H.length) : Seen id lo F H F' H' :=
  ⟨hl, fun i x hx => by rw [V.ren_id]; exact wkF_get h1 i x hx, fun j b hb => by rw [Blk.ren_id]; exact wkH_get h2 j b hb, fun _ _ _ _ _ _ _ _ h => h, fun _ _ => rfl, h3, h4, h5⟩
theorem Seen.ok {ρ : Nat → Nat} {lo : Nat} {F F' : List V} {H H' : List Blk} (h : Seen ρ lo F H F' H') (hF : FOk H'.length F') (hH : HOk H') : FOk H.length F ∧ HOk H := by
  refine ⟨⟨fun x hx => ⟨?_, bndF_mem h.bf x hx⟩⟩, ⟨fun b hb => ?_, fun b hb => bndH_mem h.bh b hb⟩⟩
  · obtain ⟨i, hi⟩ := List.getElem?_of_mem hx
    rcases h.fr i x hi with rfl | hh
    · trivial
    · exact V.rng_ren ρ x (hF.ok _ (List.mem_of_getElem? hh)).1
  · obtain ⟨i, hi⟩ := List.getElem?_of_mem hb
    rcases h.blk i b hi with rfl | hh
    · trivial
    · exact Blk.rng_ren ρ b (hH.rng _ (List.mem_of_getElem? hh))
end Go.Proofs.YtaficaacogcblaaGreatDoor
