/- What the arguments' readings say, in our words: lists of numbers, of pairs, systems. The arguments' readings as trees; a law's contract as the statement wants it. -/
import Derived.Test.YtahnebicgbjonaaBase
import Derived.Deep.Slices
import Derived.ProofKit
import Derived.Test.YtahnebicgbjonaaMF
import Derived.Test.YtahnebicgbjonaaRows
import Derived.OpenShut
namespace Go.Proofs.Ytahnebicgbjonaa
set_option linter.unusedVariables false
set_option linter.unusedSimpArgs false
open Go.RowKit Go.Deep Go.ChangeShapes

theorem cell_lt {w : World} {a : Addr} {v : Value} (h : w.cell? a = some v) : a.spot = none ∧ a.block < w.heap.size := by
 constructor
 ·unfold World.cell? at h
  split at h
  ·split at h
   ·cases h
   ·rename_i hs; cases hsp : a.spot with
    | none => rfl
    | some x => simp [hsp] at hs
  ·cases h
 ·rcases Nat.lt_or_ge a.block w.heap.size with hl | hl
  ·exact hl
  ·simp [World.cell?, Array.getElem?_eq_none hl] at h
variable {H : Type} {enc : TypeId × Value → H}
end Go.Proofs.Ytahnebicgbjonaa
namespace Go.Proofs.Ytahnebicgbjonaa
set_option linter.unusedVariables false
set_option linter.unusedSimpArgs false
open Go.RowKit Go.Deep Go.ChangeShapes Go.WideShapes

def noM : Nat → Prop := fun _ => False
variable {H : Type} {enc : TypeId × Value → H}
theorem ints_tr {P : Program} {w : World} {t e : TypeId} {fuel : Nat} {v : Value} {x : DataW H × List MemPlace} (ht : P.underlying t = some (.slice e)) (he : P.underlying e = some (.int .i64)) (hc : P.cellsOf e = 1) (h : DataW.trod enc P w 0 (fun _ => true) true fuel t [v] = some x) :
  ∃ zs, Rd noM w (.l 1 (tInts zs)) v ∧ zs.length ≤ 9223372036854775807 ∧ ∀ y ∈ zs, in64 y := by
 rcases open_ints ht he hc h with ⟨hcs, _⟩ | ⟨a, l, c, zs, hcs, _, hl, hm, hz, _, hcell, hwz⟩
 ·simp at hcs; subst hcs
  exact ⟨[], .e _ _ _, by simp, by simp⟩
 ·simp at hcs; subst hcs
  have hzl : zs.length = c := by simpa using hz
  simp only [maxLen] at hm
  refine ⟨zs.take l, ?_, by simp; omega, fun y hy => ?_⟩
  ·rcases Nat.eq_zero_or_pos l with h0 | h0
   ·subst h0; exact .e _ _ _
   ·have hX0 := hcell 0 (by omega)
    simp [Addr.add] at hX0
    obtain ⟨hsp, hlt⟩ := cell_lt hX0
    obtain ⟨b, off, rfl⟩ : ∃ b off, a = ⟨b, off, none⟩ := ⟨a.block, a.off, by cases a; simp at hsp; subst hsp; rfl⟩
    have hadd : ∀ q, (⟨b, off, none⟩ : Addr).add q = ⟨b, off + q, none⟩ := fun q => by unfold Addr.add; split <;> simp_all
    refine .l 1 _ b off l c (fun j => .int .i64 (zs.getD j 0)) (by simp [tInts]; omega) h0 hl (fun h => h) hlt (fun j t hj => ?_) (fun j t hj => ?_)
    ·have hj2 : j < l := by
      have := (List.getElem?_eq_some_iff.1 hj).1
      simp [tInts] at this; omega
     rw [← hadd]; exact hcell j (by omega)
    ·have hj2 : j < l := by
      have := (List.getElem?_eq_some_iff.1 hj).1
      simp [tInts] at this; omega
     simp only [tInts, List.getElem?_map, List.getElem?_take, if_pos hj2] at hj
     rw [List.getElem?_eq_getElem (by omega)] at hj
     simp at hj
     subst hj
     rw [List.getD, List.getElem?_eq_getElem (by omega)]
     exact .v _ rfl
  ·have := hwz y (List.mem_of_mem_take hy)
   have h2 : -9223372036854775808 ≤ y ∧ y ≤ 9223372036854775807 := by simpa [Lit.wf, IntKind.min, IntKind.max, IntKind.signed, IntKind.bits] using this
   exact ⟨h2.1, by omega⟩
theorem law_calls {P : Program} {f : FuncId} {args : List AV} (h : FC P f args [] (fun r _ => r = .b true)) (W : World) (vals : List Value) (hl : vals.length = args.length)
  (ha : ∀ (i : Nat) (x : AV), args[i]? = some x → ∃ v, vals[i]? = some v ∧ ∀ g : Gh, g.M = noM → AVR (CR g [] W) x v) (hgl : GlR noM W := by intro n vs h; cases h) : Calls P f vals.toArray W fun e W' => e = .returned (.bool true) ∧ Fr [] W W' := by
 let g : Gh := ⟨fun _ => 0, fun _ => 0, noM⟩
 have lv : ∀ ℓ, ¬ Lv [] g ℓ := by
  intro ℓ hl
  cases ℓ with
  | ob i => rcases hl with ⟨r, e, _⟩ | ⟨kv, e⟩ <;> simp at e
  | cl i j => obtain ⟨r, k, cs, e, _⟩ := hl; simp at e
 have hr : HR g [] W := ⟨fun b hb => hb.elim, fun ℓ hl => (lv ℓ hl).elim, fun ℓ _ hl _ _ => (lv ℓ hl).elim, fun id r e => by simp at e, fun id kv e => by simp at e, hgl.keep (Nat.le_refl _) (fun _ _ _ => rfl) (fun k _ ho => ho.elim (fun h => h) (fun ⟨ℓ, hl, _⟩ => (lv ℓ hl).elim))⟩
 refine (h g W vals hr ⟨hl, fun i x hx => by obtain ⟨v, h1, h2⟩ := ha i x hx; exact ⟨v, h1, h2 g rfl⟩⟩).mono ?_
 rintro e W' ⟨v, r, outs, g', rfl, rfl, _, _, _, hv, hf⟩
 exact ⟨by rw [show v = .bool true from hv], hf.fr fun k _ ⟨ℓ, hl, _⟩ => (lv ℓ hl).elim⟩
theorem ow_none {g : Gh} (h : g.M = noM) {b : Nat} : ¬ Ow [] g b := by
 rintro (ho | ⟨ℓ, hl, _⟩)
 ·rw [h] at ho; exact ho
 ·cases ℓ with
  | ob i => rcases hl with ⟨r, e, _⟩ | ⟨kv, e⟩ <;> simp at e
  | cl i j => obtain ⟨r, k, cs, e, _⟩ := hl; simp at e
theorem avr_tr {g : Gh} {W : World} {k : Nat} {cs : List Tr} {v : Value} (h : Rd noM W (.l k cs) v) (hg : g.M = noM) : AVR (CR g [] W) (.a (.c (.t k cs))) v := h.mono fun _ _ ho => absurd ho (ow_none hg)
theorem own_ : ownKnob Try.prog.godebug = none := by kernel_rfl
theorem laidOut_ : laidOutB Try.prog = true := by kernel_rfl
end Go.Proofs.Ytahnebicgbjonaa
