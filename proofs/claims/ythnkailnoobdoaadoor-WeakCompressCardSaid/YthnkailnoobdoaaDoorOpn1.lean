/- Lemmas. -/
import Derived.Test.YthnkailnoobdoaaDoorBase
import Derived.Deep.Slices
import Derived.ProofKit
import Derived.Test.YthnkailnoobdoaaDoorMF
import Derived.Test.YthnkailnoobdoaaDoorRows
import Derived.OpenShut
import Derived.Test.YthnkailnoobdoaaDoorMA
import Derived.Lib.LaidTab
import Derived.LaidMore
namespace Go.Proofs.YthnkailnoobdoaaDoor
set_option linter.unusedVariables false
set_option linter.unusedSimpArgs false
open Go.RowKit Go.Deep Go.ChangeShapes

theorem Nh {w : World} {a : Addr} {v : Value} (h : w.cell? a = some v) : a.spot = none /\ a.block < w.heap.size := by
 constructor
 rotate_left
 ·rcases Nat.lt_or_ge a.block w.heap.size with hl | hl
  ·exact hl
  simp [World.cell?, Array.getElem?_eq_none hl] at h
 unfold World.cell? at h
 split at h
 rotate_left
 ·cases h
 split at h
 ·cases h
 rename_i hs; cases hsp : a.spot with
 | none => rfl
 | some x => simp [hsp] at hs
variable {H : Type} {enc : TypeId × Value -> H}
end Go.Proofs.YthnkailnoobdoaaDoor
namespace Go.Proofs.YthnkailnoobdoaaDoor
set_option linter.unusedVariables false
set_option linter.unusedSimpArgs false
open Go.RowKit Go.Deep Go.ChangeShapes Go.WideShapes

def WT : Nat -> Prop := fun _ => False
variable {H : Type} {enc : TypeId × Value -> H}
theorem RB {P : Program} {w : World} {t e : TypeId} {fuel : Nat} {v : Value} {x : DataW H × List MemPlace} (ht : P.underlying t = some (.slice e)) (he : P.underlying e = some (.int .i64)) (hc : P.cellsOf e = 1) (h : DataW.trod enc P w 0 (fun _ => true) true fuel t [v] = some x) :
  ∃ zs, Rd WT w (.l 1 (Ad zs)) v /\ zs.length <= 9223372036854775807 /\ ∀ y ∈ zs, Kt y := by
 rcases open_ints ht he hc h with ⟨hcs, _⟩ | ⟨a, l, c, zs, hcs, _, hl, hm, hz, _, hcell, hwz⟩
 ·simp at hcs; subst hcs
  exact ⟨[], .e _ _ _, by simp, by simp⟩
 simp at hcs; subst hcs
 have hzl : zs.length = c := by simpa using hz
 simp only [maxLen] at hm
 refine ⟨zs.take l, ?_, by simp; omega, fun y hy => ?_⟩
 rotate_left
 ·have := hwz y (List.mem_of_mem_take hy)
  have h2 : -9223372036854775808 <= y /\ y <= 9223372036854775807 := by simpa [Lit.wf, IntKind.min, IntKind.max, IntKind.signed, IntKind.bits] using this
  exact ⟨h2.1, by omega⟩
 rcases Nat.eq_zero_or_pos l with h0 | h0
 ·subst h0; exact .e _ _ _
 have hX0 := hcell 0 (by omega)
 simp [Addr.add] at hX0
 obtain ⟨hsp, hlt⟩ := Nh hX0
 obtain ⟨b, off, rfl⟩ : ∃ b off, a = ⟨b, off, none⟩ := ⟨a.block, a.off, by cases a; simp at hsp; subst hsp; rfl⟩
 have hadd : ∀ q, (⟨b, off, none⟩ : Addr).add q = ⟨b, off + q, none⟩ := fun q => by unfold Addr.add; split <;> simp_all
 refine .l 1 _ b off l c (fun j => .int .i64 (zs.getD j 0)) (by simp [Ad]; omega) h0 hl (fun h => h) hlt (fun j t hj => ?_) (fun j t hj => ?_)
 ·have hj2 : j < l := by
   have := (List.getElem?_eq_some_iff.1 hj).1
   simp [Ad] at this; omega
  rw [<- hadd]; exact hcell j (by omega)
 have hj2 : j < l := by
  have := (List.getElem?_eq_some_iff.1 hj).1
  simp [Ad] at this; omega
 simp only [Ad, List.getElem?_map, List.getElem?_take, if_pos hj2] at hj
 rw [gE1 (by omega)] at hj
 simp at hj
 subst hj
 rw [List.getD, gE1 (by omega)]
 exact .v _ rfl
theorem Ni {P : Program} {f : FuncId} {args : List AV} (h : FC P f args [] (fun r _ => r = .b true)) (W : World) (vals : List Value) (hl : vals.length = args.length)
  (ha : ∀ (i : Nat) (x : AV), args[i]? = some x -> ∃ v, vals[i]? = some v /\ ∀ g : Gh, g.M = WT -> AVR (CR g [] W) x v) (hgl : GlR WT W := by intro n vs h; cases h) : Calls P f vals.toArray W fun e W' => e = .returned (.bool true) /\ Fr [] W W' := by
 let g : Gh := ⟨fun _ => 0, fun _ => 0, WT⟩
 have lv : ∀ ℓ, ¬ Lv [] g ℓ := by
  intro ℓ hl
  cases ℓ with
  | ob i => rcases hl with ⟨r, e, _⟩ | ⟨kv, e⟩ <;> simp at e
  | cl i j => obtain ⟨r, k, cs, e, _⟩ := hl; simp at e
 have hr : HR g [] W := ⟨fun b hb => hb.elim, fun ℓ hl => (lv ℓ hl).elim, fun ℓ _ hl _ _ => (lv ℓ hl).elim, fun id r e => by simp at e, fun id kv e => by simp at e, hgl.keep (Nat.le_refl _) (fun _ _ _ => rfl) (fun k _ ho => ho.elim (fun h => h) (fun ⟨ℓ, hl, _⟩ => (lv ℓ hl).elim))⟩
 refine (h g W vals hr ⟨hl, fun i x hx => by obtain ⟨v, h1, h2⟩ := ha i x hx; exact ⟨v, h1, h2 g rfl⟩⟩).mono ?_
 rintro e W' ⟨v, r, outs, g', rfl, rfl, _, _, _, hv, hf⟩
 exact ⟨by rw [show v = .bool true from hv], hf.fr fun k _ ⟨ℓ, hl, _⟩ => (lv ℓ hl).elim⟩
theorem RC {g : Gh} (h : g.M = WT) {b : Nat} : ¬ Ow [] g b := by
 rintro (ho | ⟨ℓ, hl, _⟩)
 ·rw [h] at ho; exact ho
 cases ℓ with
 | ob i => rcases hl with ⟨r, e, _⟩ | ⟨kv, e⟩ <;> simp at e
 | cl i j => obtain ⟨r, k, cs, e, _⟩ := hl; simp at e
theorem SX {g : Gh} {W : World} {k : Nat} {cs : List Tr} {v : Value} (h : Rd WT W (.l k cs) v) (hg : g.M = WT) : AVR (CR g [] W) (.a (.c (.t k cs))) v := h.mono fun _ _ ho => absurd ho (RC hg)
theorem U3 : ownKnob Tryd.prog.godebug = none := by kernel_rfl
theorem Pi : laidOutB Tryd.prog = true := by kernel_rfl
end Go.Proofs.YthnkailnoobdoaaDoor
namespace Go.Proofs.YthnkailnoobdoaaDoor
set_option linter.unusedVariables false
set_option linter.unusedSimpArgs false
open Go.ChangeShapes Go.WideShapes Go.ChangeAt Go.RowKit

def Pj : List Int := Lib.deBruijn64tab.map fun (k : Nat) => (k : Int)
def Nj : List (String × DataW Unit) := [("math/bits.deBruijn64tab", Lib.tabData .u8 Pj)]
theorem TL : Tryd.prog.globalNamed "math/bits.deBruijn64tab" = some 0 := by kernel_rfl
theorem Jf {W : World} (h : laidMetH Tryd.prog Nj W) : GlR (fun _ => False) W := by
 rw [MakeChecks.laidMetH_plain _ _ _ (by kernel_rfl)] at h
 have hT := Lib.tabIs_of_head (n := 64) (k := .u8) TL (by kernel_rfl) Tryd.underlying146 Tryd.underlying5 (by kernel_rfl) (by kernel_rfl) h
 intro n vs hn
 unfold PY at hn
 rw [List.lookup_cons] at hn
 split at hn
 rotate_left
 ·cases hn
 rename_i e
 have e2 : n = 0 := by simpa using e
 subst e2
 cases hn
 have hl : (Lib.deBruijn64tab).length = 64 := by decide
 have hc : ∀ j, j < 64 -> W.cell? ⟨0, j, none⟩ = some (.int .u8 (Pj.getD j 0)) := fun j hj => hT.cell TL j (by simp [Pj, hl, hj])
 refine ⟨fun h => h, (Nh (hc 0 (by omega))).2, fun j v hj => ?_⟩
 rw [List.getElem?_map, Option.map_eq_some_iff] at hj
 obtain ⟨k, hk, rfl⟩ := hj
 have hj2 : j < 64 := by have := (List.getElem?_eq_some_iff.1 hk).1; omega
 refine ⟨rfl, ?_⟩
 rw [hc j hj2]
 simp [Pj, gE2, hk]
end Go.Proofs.YthnkailnoobdoaaDoor
