/- slices.SortFunc at rows of one cell, from a contract of the shelf's form. diamond.Minimal. diamond.Minimal, walked. -/
import Derived.Test.YthlckclbjknldaaMD
import Derived.Shelf.SlSortCmp.Kit1
import Derived.Test.YthlckclbjknldaaMG
namespace Go.Proofs.Ythlckclbjknldaa
set_option linter.unusedVariables false
set_option linter.unusedSimpArgs false
open Go.RowKit Go.Shelf Go.Sort

section
variable {α : Type} [Inhabited α] {enc : α → Value} {w : World} {blk off m : Nat} {dk : Array α} {os : Array Obj}
theorem sw_size : w.heap.size ≤ (sortWorld enc w blk off m dk os).heap.size := by
 simp [sortWorld, grow, putRow, mapBlock, Sort.ahead]
theorem sw_block {k : Nat} (hk : k < w.heap.size) (hne : k ≠ blk) : (sortWorld enc w blk off m dk os).heap[k]? = w.heap[k]? := by
 simp only [sortWorld, grow, putRow, mapBlock, Sort.ahead]
 rw [Array.getElem?_append_left (by simpa using hk), Array.getElem?_modify, if_neg (Ne.symm hne)]
theorem sw_self {arr : Array Value} {e : TypeId} {fz : Nat × Nat} (h : w.heap[blk]? = some (.cells arr e fz)) : (sortWorld enc w blk off m dk os).heap[blk]? = some (.cells (putCells enc off dk arr) e fz) := by
 have hk := (Array.getElem?_eq_some_iff.1 h).1
 simp only [sortWorld, grow, putRow, mapBlock, Sort.ahead]
 rw [Array.getElem?_append_left (by simpa using hk), Array.getElem?_modify, if_pos rfl, h]
 rfl
theorem sw_fp {M : Nat → Prop} (hM : M blk) : Fp M w (sortWorld enc w blk off m dk os) :=
 ⟨rfl, rfl, rfl, sw_size, fun k hk hm => sw_block hk (fun e => hm (e ▸ hM)), by simp [sortWorld, grow, putRow, mapBlock, Sort.ahead]⟩
end
theorem grown_of_fp {w w' : World} (h : Fp (fun _ => False) w w') : ∃ q os, w' = grow (w.drewN q) os := by
 refine ⟨w'.drawn - w.drawn, w'.heap.extract w.heap.size w'.heap.size, ?_⟩
 obtain ⟨hp, tp, dr, o, ou⟩ := w'
 obtain ⟨h1, h2, h3, h4, h5, h6⟩ := h
 simp only at h1 h2 h3 h4 h5 h6
 subst h1; subst h2; subst h3
 simp only [grow, World.drewN]
 congr 1
 ·apply Array.ext'
  simp only [Array.toList_append, Array.toList_extract]
  apply List.ext_getElem?
  intro i
  by_cases hi : i < w.heap.size
  ·rw [List.getElem?_append_left (by simpa using hi)]
   have := h5 i hi (fun h => h)
   simpa using this
  ·rw [List.getElem?_append_right (by simpa using hi)]
   simp only [List.extract_eq_take_drop, Array.length_toList, List.getElem?_take, List.getElem?_drop]
   split
   ·congr 1; omega
   ·rename_i hn; simp; omega
 ·omega
def SortC (P : Program) (fs : FuncId) : Prop :=
 ∀ (α : Type) [Inhabited α] (enc : α → Value) (_ : OneCell enc) (cf : α → α → Int) (_ : SWO (ltOf cf)) (g : Nat) (cb : Array Value) (blk off cap : Nat) (d : Array α) (w : World)
  (_ : ∀ args w, (callFunc g args).run P w = .ok (.enter g args) w) (_ : CmpLays1 P g cb enc cf blk off d.size w) (_ : Holds enc w blk off d) (_ : blk < w.heap.size) (_ : d.size < 4611686018427387904),
  Calls P fs #[.slice (some ⟨blk, off, none⟩) d.size cap, .func (.func g) #[] cb] w fun e w' =>
   e = .returned (.tuple #[]) ∧ ∃ d' n os, PermIn 0 d.size d d' ∧ SortedIn (ltOf cf) 0 d.size d' ∧ w' = sortWorld enc w blk off n d' os
def SortC0 (P : Program) (fs : FuncId) : Prop := ∀ (p : Option Addr) (cap : Nat) (fv : Value) (w : World), Calls P fs #[.slice p 0 cap, fv] w fun e w' => e = .returned (.tuple #[]) ∧ w' = w
theorem ofTr_no {t : Tr} {k : Nat × Nat} {cs : List Tr} : C.ofTr t ≠ .o k cs := by cases t <;> simp [C.ofTr]
section
variable {g : Gh} {hp : List Ob} {w : World}
theorem rd_ofTr {t : Tr} {v : Value} (h : Rd (Ow hp g) w t v) : CR g hp w (C.ofTr t) v := by
 cases t with
 | v x => cases h; rfl
 | l k cs => exact h
theorem rd_one {M : Nat → Prop} {t : Tr} {v : Value} (h : Rd M w t v) : v.oneCell' = true := by
 cases h <;> first | assumption | rfl
end
theorem lv1 {g : Gh} {α0 : Type} {tr : α0 → Tr} {e : TypeId} {L : List α0} {ℓ : Loc} : Lv [.r ⟨e, 1, true, L.map fun x => C.ofTr (tr x)⟩] g ℓ ↔ ℓ = .ob 0 ∧ g.κ 0 ≠ 0 := by
 cases ℓ with
 | ob id =>
  constructor
  ·rintro (⟨r, h1, h2⟩ | ⟨kv, h1⟩)
   ·cases id with
    | zero => exact ⟨rfl, h2⟩
    | succ i => simp at h1
   ·cases id with
    | zero => simp at h1
    | succ i => simp at h1
  ·rintro ⟨h1, h2⟩
   cases h1
   exact .inl ⟨_, rfl, h2⟩
 | cl id j =>
  constructor
  ·rintro ⟨r, k, cs, h1, h2, h3⟩
   cases id with
   | zero =>
    simp at h1; subst h1
    rw [List.getElem?_map, Option.map_eq_some_iff] at h2
    obtain ⟨x, _, h2⟩ := h2
    exact absurd h2 ofTr_no
   | succ i => simp at h1
  ·rintro ⟨h1, h2⟩; cases h1
theorem sort_fc {α0 : Type} {P : Program} {fs f : FuncId} (tr : α0 → Tr) (ok : α0 → Prop) (cf : α0 → α0 → Int) (hO : SWO (ltOf cf)) (e : TypeId) (hS : SortC P fs) (hS0 : SortC0 P fs) (hf : callable P f = true)
  (hcmp : ∀ x y, ok x → ok y → FC P f [.a (.c (C.ofTr (tr x))), .a (.c (C.ofTr (tr y)))] [] (fun r o => o = [] ∧ r = .i (cf x y))) (L : List α0) (hL : ∀ x ∈ L, ok x) (hsz : L.length ≤ 100000000) (h1c : ∀ x v, tr x = .v v → v.oneCell' = true) :
  FC P fs [.a (.c (.s 0 L.length)), .a (.c (.f f []))] [.r ⟨e, 1, true, L.map fun x => C.ofTr (tr x)⟩]
   (fun r o => r = .u ∧ ∃ L' : List α0, L'.Perm L ∧ L'.Pairwise (fun a b => ¬ cf b a < 0) ∧ o = [.r ⟨e, 1, true, L'.map fun x => C.ofTr (tr x)⟩]) := by
 intro g w vals hr hargs
 obtain ⟨hlen, hargs⟩ := hargs
 obtain ⟨v1, e1, b1, b2, A, rfl, b4, b5⟩ := hargs 0 _ rfl
 obtain ⟨v2, e2, c1, c2⟩ := hargs 1 _ rfl
 have hv2 : v2 = .func (.func f) #[] #[] := by rw [c2]; simp [clo]
 subst hv2
 have hvals : vals = [.slice A L.length (g.κ 0), .func (.func f) #[] #[]] := by
  match vals, hlen with
  | [a, b], _ => simp at e1 e2; simp [e1, e2]
 subst hvals
 rcases hr.row 0 _ rfl with ⟨h0, hnil⟩ | ⟨h0, hne, arr, ha, hle, hs, hmx, hcells⟩
 ·have hL0 : L = [] := by simpa using hnil
  subst hL0
  refine (hS0 A (g.κ 0) (.func (.func f) #[] #[]) w).mono ?_
  rintro e' w' ⟨rfl, rfl⟩
  exact ⟨.tuple #[], .u, _, g, rfl, ⟨rfl, [], List.Perm.refl _, List.Pairwise.nil, rfl⟩, hr, ⟨Nat.le_refl _, Ext.refl _ _⟩, fun ℓ hl => .inl ⟨ℓ, hl, rfl⟩, trivial, Fp.refl _ _⟩
 ·have hne' : L ≠ [] := by simpa using hne rfl
  rw [b4 h0] at *
  have hblk : g.γ (.ob 0) < w.heap.size := (Array.getElem?_eq_some_iff.1 ha).1
  have hOw : Ow [.r ⟨e, 1, true, L.map fun x => C.ofTr (tr x)⟩] g (g.γ (.ob 0)) := .inr ⟨.ob 0, lv1.2 ⟨rfl, h0⟩, rfl⟩
  have hle' : L.length ≤ arr.size := by simpa using hle
  have hget : ∀ j (hj : j < L.length), Rd (Ow [.r ⟨e, 1, true, L.map fun x => C.ofTr (tr x)⟩] g) w (tr L[j]) (arr[j]'(by omega)) := by
   intro j hj
   obtain ⟨u, u1, u2⟩ := hcells j (C.ofTr (tr L[j])) (by simp [hj])
   have hu : arr[j]'(by omega) = u := by
    have := (Array.getElem?_eq_some_iff.1 u1).2; exact this
   rw [hu]
   have h1c' := h1c L[j]
   generalize tr L[j] = t at u2 h1c'
   cases t with
   | v x => cases (show u = x from u2); exact .v _ (h1c' _ rfl)
   | l k cs => exact u2
  have hrd : ∀ {t : Tr} {v : Value} {W : World}, w.heap.size ≤ W.heap.size → (∀ k, k < w.heap.size → k ≠ g.γ (.ob 0) → W.heap[k]? = w.heap[k]?) → ∀ {M : Nat → Prop}, (∀ k, M k → Ow [.r ⟨e, 1, true, L.map fun x => C.ofTr (tr x)⟩] g k) →
    Rd (Ow [.r ⟨e, 1, true, L.map fun x => C.ofTr (tr x)⟩] g) w t v → Rd M W t v := fun h1 h2 M h3 h => h.keep h1 (fun k hk hn => h2 k hk (fun e => hn (e ▸ hOw))) (fun k _ hk => h3 k hk)
  have x0 : 0 < L.length := List.length_pos_iff.2 hne'
  let α := { p : Value × α0 // Rd (Ow [.r ⟨e, 1, true, L.map fun x => C.ofTr (tr x)⟩] g) w (tr p.2) p.1 ∧ ok p.2 }
  haveI : Inhabited α := ⟨⟨(arr[0]'(by omega), L[0]), hget 0 x0, hL _ (List.getElem_mem _)⟩⟩
  let enc : α → Value := fun p => p.1.1
  let d : Array α := Array.ofFn (n := L.length) fun j => ⟨(arr[j.1]'(by omega), L[j.1]), hget j.1 j.2, hL _ (List.getElem_mem _)⟩
  have hds : d.size = L.length := by simp [d]
  have hO' : SWO (ltOf fun x y : α => cf x.1.2 y.1.2) := ⟨fun x => hO.irrefl x.1.2, fun x y z => hO.trans x.1.2 y.1.2 z.1.2, fun x y z => hO.ntrans x.1.2 y.1.2 z.1.2⟩
  have h1 : OneCell enc := fun p => rd_one p.2.1
  have hcmp' : CmpLays1 P f #[] enc (fun x y : α => cf x.1.2 y.1.2) (g.γ (.ob 0)) 0 d.size w := by
   intro m os dk hdk x y
   have hbl : ∀ k, k < w.heap.size → k ≠ g.γ (.ob 0) → (sortWorld enc w (g.γ (.ob 0)) 0 m dk os).heap[k]? = w.heap[k]? := fun k hk hn => sw_block hk hn
   have hnl : ∀ (gg : Gh) ℓ, ¬ Lv [] gg ℓ := by
    intro gg ℓ hl
    cases ℓ with
    | ob id => rcases hl with ⟨r, h, _⟩ | ⟨kv, h⟩ <;> simp at h
    | cl id j => obtain ⟨r, k, cs, h, _⟩ := hl; simp at h
   have hM : ∀ k, Ow [] ⟨g.γ, g.κ, Ow [.r ⟨e, 1, true, L.map fun x => C.ofTr (tr x)⟩] g⟩ k → Ow [.r ⟨e, 1, true, L.map fun x => C.ofTr (tr x)⟩] g k := fun k hk => by
    rcases hk with hk | ⟨ℓ, hl, _⟩
    ·exact hk
    ·exact absurd hl (hnl _ ℓ)
   have hHR : HR ⟨g.γ, g.κ, Ow [.r ⟨e, 1, true, L.map fun x => C.ofTr (tr x)⟩] g⟩ [] (sortWorld enc w (g.γ (.ob 0)) 0 m dk os) := by
    refine ⟨fun b hb => ?_, fun ℓ hl => absurd hl (hnl _ ℓ), fun ℓ _ hl => absurd hl (hnl _ ℓ), fun id r h => by simp at h, fun id r h => by simp at h, hr.gl.keep sw_size (fun k hk hn => hbl k hk (fun e => hn (e ▸ hOw))) (fun k _ hk => hM k hk)⟩
    refine Nat.lt_of_lt_of_le ?_ sw_size
    rcases hb with hb | ⟨ℓ, hl, rfl⟩
    ·exact hr.ml b hb
    ·exact hr.lt hl
   have hA : argsR ⟨g.γ, g.κ, Ow [.r ⟨e, 1, true, L.map fun x => C.ofTr (tr x)⟩] g⟩ [] (sortWorld enc w (g.γ (.ob 0)) 0 m dk os) [.a (.c (C.ofTr (tr x.1.2))), .a (.c (C.ofTr (tr y.1.2)))] [x.1.1, y.1.1] := by
    refine ⟨rfl, fun i a hi => ?_⟩
    match i, hi with
    | 0, hi => cases hi; exact ⟨_, rfl, rd_ofTr (hrd sw_size hbl hM x.2.1)⟩
    | 1, hi => cases hi; exact ⟨_, rfl, rd_ofTr (hrd sw_size hbl hM y.2.1)⟩
   have := hcmp x.1.2 y.1.2 x.2.2 y.2.2 _ _ _ hHR hA
   refine Calls.mono this ?_
   rintro e' w' ⟨v, r, outs, g', rfl, ⟨rfl, rfl⟩, _, _, _, hv, hfp⟩
   refine ⟨by rw [show v = _ from hv], ?_⟩
   exact grown_of_fp (hfp.mono fun k _ ⟨ℓ, hl, _⟩ => absurd hl (hnl _ ℓ))
  have hdj : ∀ j (hj : j < L.length), d[j]! = ⟨(arr[j]'(by omega), L[j]), hget j hj, hL _ (List.getElem_mem _)⟩ := by
   intro j hj
   rw [getElem!_pos d j (by omega)]
   simp [d]
  have hH : Holds enc w (g.γ (.ob 0)) 0 d := by
   intro j hj
   rw [hds] at hj
   rw [hdj j hj]
   refine ⟨?_, ?_⟩
   ·rw [Nat.zero_add, cell_of_row _ _ _ _ _ _ ha]
    simp [enc, show j < arr.size by omega]
   ·simp [World.frozen?, ha]
  have hcall := hS α enc h1 (fun x y => cf x.1.2 y.1.2) hO' f #[] (g.γ (.ob 0)) 0 (g.κ 0) d w (run_callFunc_body hf) hcmp' hH hblk (by omega)
  rw [hds] at hcall
  refine hcall.mono ?_
  rintro e' w' ⟨rfl, d', n, os, hperm, hsorted, rfl⟩
  have hd's : d'.size = L.length := by rw [hperm.1, hds]
  have hcov : ∀ ℓ, Lv [.r ⟨e, 1, true, (d'.toList.map fun p => p.1.2).map fun x => C.ofTr (tr x)⟩] g ℓ → Lv [.r ⟨e, 1, true, L.map fun x => C.ofTr (tr x)⟩] g ℓ := fun ℓ hl => lv1.2 (lv1.1 hl)
  have hM' : ∀ k, Ow [.r ⟨e, 1, true, (d'.toList.map fun p => p.1.2).map fun x => C.ofTr (tr x)⟩] g k → Ow [.r ⟨e, 1, true, L.map fun x => C.ofTr (tr x)⟩] g k := fun k hk => hk.imp (fun h => h) (fun ⟨ℓ, hl, h⟩ => ⟨ℓ, hcov ℓ hl, h⟩)
  refine ⟨.tuple #[], .u, _, g, rfl, ⟨rfl, d'.toList.map fun p => p.1.2, ?_, ?_, rfl⟩, ?_, ⟨by simp, Ext.refl _ _⟩, fun ℓ hl => .inl ⟨ℓ, hcov ℓ hl, rfl⟩, trivial, ?_⟩
  ·have h2 := hperm.2.2
   have e0 : d.toList.map (fun p => p.1.2) = L := by
    apply List.ext_getElem (by simp [d])
    intro i h3 h4
    simp [d]
   have e1 : (d'.extract 0 L.length).toList = d'.toList := by rw [← hd's]; simp
   have e2 : (d.extract 0 L.length).toList = d.toList := by rw [← hds]; simp
   rw [e1, e2] at h2
   have h5 := h2.map (fun p : α => p.1.2)
   rw [e0] at h5
   exact h5
  ·rw [List.pairwise_map, List.pairwise_iff_getElem]
   intro i j hi hj hij
   have := hsorted i j (Nat.zero_le _) hij (by simpa [hd's] using hj)
   simp only [ltOf, decide_eq_false_iff_not] at this
   rw [getElem!_pos d' j (by simpa using hj), getElem!_pos d' i (by simpa using hi)] at this
   simpa using this
  ·refine ⟨fun b hb => Nat.lt_of_lt_of_le (hr.ml b hb) sw_size, fun ℓ hl => hr.md ℓ (hcov ℓ hl), fun ℓ ℓ' hl hl' => hr.inj ℓ ℓ' (hcov ℓ hl) (hcov ℓ' hl'), fun id r hid => ?_, fun id r hid => ?_, hr.gl.keep sw_size (fun k hk hn => sw_block hk (fun e => hn (e ▸ hOw))) (fun k _ hk => hM' k hk)⟩
   ·cases id with
    | succ i => simp at hid
    | zero =>
     simp at hid
     subst hid
     refine .inr ⟨h0, fun _ hn => ?_, _, sw_self ha, ?_, ?_, hmx, fun j c hj => ?_⟩
     ·simp at hn
      rw [hn] at hd's; simp at hd's; omega
     ·simp [putCells, hd's]; exact hle'
     ·simpa [putCells] using hs
     ·simp only [List.getElem?_map, Option.map_map, Option.map_eq_some_iff] at hj
      obtain ⟨q, q1, rfl⟩ := hj
      have hjlt : j < d'.size := by have := (List.getElem?_eq_some_iff.1 q1).1; simpa using this
      have hq : d'[j]! = q := by
       rw [getElem!_pos d' j hjlt]
       have := (List.getElem?_eq_some_iff.1 q1).2
       simpa using this
      refine ⟨q.1.1, ?_, ?_⟩
      ·unfold putCells
       rw [Array.getElem?_mapIdx, Array.getElem?_eq_getElem (by omega)]
       have hq2 : d'[j] = q := by rw [← hq, getElem!_pos d' j hjlt]
       simp [hjlt, hq2, enc]
      ·have hread := hrd (M := Ow [.r ⟨e, 1, true, (d'.toList.map fun p => p.1.2).map fun x => C.ofTr (tr x)⟩] g) (W := sortWorld enc w (g.γ (.ob 0)) 0 n d' os) sw_size (fun k hk hn => sw_block hk hn) hM' q.2.1
       have hcr := rd_ofTr hread
       show CellR _ _ _ _ _ (C.ofTr (tr q.1.2)) _
       generalize tr q.1.2 = t at hcr ⊢
       cases t <;> exact hcr
   ·cases id <;> simp at hid
  ·exact sw_fp ⟨.ob 0, lv1.2 ⟨rfl, h0⟩, rfl⟩
end Go.Proofs.Ythlckclbjknldaa
namespace Go.Proofs.Ythlckclbjknldaa
set_option linter.unusedVariables false
set_option linter.unusedSimpArgs false
open Go.RowKit Go.Sort
set_option maxRecDepth 100000

theorem cmpL_lt : ∀ a b : List Int, decide (cmpL a b < 0) = lessI a b
 | [], [] => rfl
 | [], _ :: _ => rfl
 | _ :: _, [] => rfl
 | a :: r, b :: q => by
  simp only [cmpL, lessI]
  by_cases e : a = b
  ·subst e
   have : cmpI a a = 0 := (cmpI_zero a a).2 rfl
   simp [this, cmpL_lt r q]
  ·have h1 : cmpI a b ≠ 0 := fun h => e ((cmpI_zero a b).1 h)
   simp [h1, e, cmpI_lt]
theorem cmpL_swo : SWO (ltOf cmpL) := by
 have h : ∀ x y, ltOf cmpL x y = lessI x y := fun x y => cmpL_lt x y
 refine ⟨fun x => by rw [h]; exact lessI_irr x, fun x y z => by rw [h, h, h]; exact lessI_trans, fun x y z h1 h2 => ?_⟩
 rw [h] at *
 cases hz : lessI x z with
 | false => rfl
 | true =>
  rcases lessI_tri x y with e | e | e
  ·rw [e] at h1; cases h1
  ·subst e; rw [hz] at h2; cases h2
  ·rw [lessI_trans e hz] at h2; cases h2
theorem sort_sets (hS : SortC Try.prog 42) (hS0 : SortC0 Try.prog 42) (L : List (List Int)) (hL : ∀ x ∈ L, x.length ≤ 140737488355328) (hsz : L.length ≤ 100000000) :
  FC Try.prog 42 [.a (.c (.s 0 L.length)), .a (.c (.f 43 []))] [.r ⟨22, 1, true, cSets L⟩]
   (fun r o => r = .u ∧ ∃ L' : List (List Int), L'.Perm L ∧ L'.Pairwise (fun a b => lessI b a = false) ∧ o = [.r ⟨22, 1, true, cSets L'⟩]) := by
 have := sort_fc (fun x : List Int => Tr.l 1 (tInts x)) (fun x => x.length ≤ 140737488355328) cmpL cmpL_swo 22 hS hS0 (by kernel_rfl : callable Try.prog 43 = true) (fun x y hx hy => cmpL_fc x y hx hy) L hL hsz (fun x v h => by cases h)
 refine this.mono ?_
 rintro r o ⟨h1, L', h2, h3, h4⟩
 refine ⟨h1, L', h2, h3.imp (fun {a b} h => ?_), h4⟩
 have e := cmpL_lt b a
 rw [← e]; simpa using h
end Go.Proofs.Ythlckclbjknldaa
namespace Go.Proofs.Ythlckclbjknldaa
set_option linter.unusedVariables false
set_option linter.unusedSimpArgs false
open Go.RowKit Go.Sort
set_option maxRecDepth 100000

theorem cSets_tr (L : List (List Int)) : (tSets L).map C.ofTr = cSets L := by rw [tSets_of]; rfl
theorem fz_sets (L : List (List Int)) : Fz (cSets L) (tSets L) := Fz.map fun x _ => .inl rfl
theorem fz_ints (L : List Int) : Fz ((tInts L).map C.ofTr) (tInts L) := by
 have : tInts L = (tInts L).map id := by simp
 conv => rhs; rw [this]
 exact Fz.map fun t ht => by
  simp only [tInts, List.mem_map] at ht
  obtain ⟨x, _, rfl⟩ := ht
  exact .inl rfl
set_option maxHeartbeats 1000000 in
theorem dmin_fc (hS : SortC Try.prog 42) (hS0 : SortC0 Try.prog 42) (L : List (List Int)) (hn : L.length ≤ 1000000) (hb : ∀ x ∈ L, x.length ≤ 100000000) :
  FC Try.prog 27 [aSets L] [] (fun r o => r = .a (.c (.s 0 (minR L).length)) ∧ o = [.r ⟨22, 1, true, cSets (minR L)⟩]) := by
 refine fc_intro Try.func27 rfl (by rw [Try.ntmps27]; simp) ?_
 rw [Try.ntmps27]
 simp only [enum, aSets]
 (repeat (first | (refine aw_seq ?_; intro K hK) | refine aw_block ?_ | refine aw_region ?_ | (refine lst_x rfl rfl ?_; intro K1 hK1; simp only [go_sem]; (first | refine hK1 _ ?_ | refine andk (hK1 _ ?_)); clear hK1 K1) | ((first | refine lst_nil ?_ | refine aw_skip ?_); refine hK _ ?_; clear hK K)))
 refine aw_loop (fun k : Nat => { tm := [(0, .a (.c (.t 1 (tSets L)))), (12, .a (.c (.t 1 (tSets L)))), (13, .i L.length), (14, .i k)], hp := [], n := 59, pin := 0 }) (fun k => k ≤ L.length ∧ ∀ i x, i < k → L[i]? = some x → ascB x = true) (fun k => L.length - k) 0 ?_ ?_ ?_
 ·exact ⟨by omega, by intro i x hi; omega⟩
 ·(refine le_tm ?_; simp only [LeTm, go_sem, tSets_len]; try simp)
 ·rintro k ⟨hk, hno⟩ K hK
  (repeat (first | (refine aw_seq ?_; intro K hK) | refine aw_block ?_ | refine aw_region ?_ | (refine lst_x rfl rfl ?_; intro K1 hK1; simp only [go_sem]; (first | refine hK1 _ ?_ | refine andk (hK1 _ ?_)); clear hK1 K1) | ((first | refine lst_nil ?_ | refine aw_skip ?_); refine hK _ ?_; clear hK K)))
  (refine aw_cnd ?_; intro X Y hX hY; simp only [go_sem])
  refine ⟨fun h => hX ?_, fun h => hY ?_⟩
  ·have hlt : k < L.length := by simpa using h
   clear hX hY X Y h
   (repeat (first | (refine aw_seq ?_; intro K hK) | refine aw_block ?_ | refine aw_region ?_ | (refine lst_x rfl rfl ?_; intro K1 hK1; simp only [go_sem, tSets_len, tSets_get (List.getElem?_eq_getElem hlt)]; (first | refine hK1 _ ?_ | refine andk (hK1 _ ?_)); clear hK1 K1) | ((first | refine lst_nil ?_ | refine aw_skip ?_); refine hK _ ?_; clear hK K)))
   (refine lst_cons rfl ?_; intro K1 hK1; refine (stp_call0 (ids := []) (dasc L[k] (Nat.le_trans (hb _ (List.getElem_mem hlt)) (by omega))) rfl rfl (by simp only [go_sem]) (by kernel_rfl) (by (simp only [List.append_nil, go_sem]) <;> rfl) ?_).stp)
   rintro _ _ ⟨rfl, rfl⟩
   (simp only [aInts, aSets, List.append_nil, List.nil_append, List.length_map, go_sem]; refine hK1 _ ?_; clear hK1 K1)
   (repeat (first | (refine aw_seq ?_; intro K hK) | refine aw_block ?_ | refine aw_region ?_ | (refine lst_x rfl rfl ?_; intro K1 hK1; simp only [go_sem]; (first | refine hK1 _ ?_ | refine andk (hK1 _ ?_)); clear hK1 K1) | ((first | refine lst_nil ?_ | refine aw_skip ?_); refine hK _ ?_; clear hK K)))
   (refine aw_cnd ?_; intro X Y hX hY; simp only [go_sem])
   refine ⟨fun h => hX ?_, fun h => hY ?_⟩
   ·clear hX hY X Y
    (repeat (first | (refine aw_seq ?_; intro K hK) | refine aw_block ?_ | refine aw_region ?_ | (refine lst_x rfl rfl ?_; intro K1 hK1; simp only [go_sem]; (first | refine hK1 _ ?_ | refine andk (hK1 _ ?_)); clear hK1 K1) | ((first | refine lst_nil ?_ | refine aw_skip ?_); refine hK _ ?_; clear hK K)))
    refine aw_ret ?_
    simp only [ThenA, InBl]
    refine ret_le (le_nil 2 22 1 ?_) ?_
    ·simp only [go_sem]
    ((try refine aw_ret ?_); (try refine lst_nil ?_); (try simp only [ThenA, InBl]); refine ret_mk (by first | exact .inl rfl | exact .inr rfl) rfl ?_; simp only [rtn, resA, resL, resV, Try.results27, go_sem])
    have h1 : ascB L[k] = false := by simpa using h
    have h2 : L.all ascB = false := by
     rw [List.all_eq_false]
     exact ⟨L[k], List.getElem_mem hlt, by simp [h1]⟩
    simp [minR, h2, cSets]
   ·clear hX hY X Y
    have h1 : ascB L[k] = true := by simpa using h
    (repeat (first | (refine aw_seq ?_; intro K hK) | refine aw_block ?_ | refine aw_region ?_ | (refine lst_x rfl rfl ?_; intro K1 hK1; simp only [go_sem]; (first | refine hK1 _ ?_ | refine andk (hK1 _ ?_)); clear hK1 K1) | ((first | refine lst_nil ?_ | refine aw_skip ?_); refine hK _ ?_; clear hK K)))
    ((try refine lst_nil ?_); (try refine aw_skip ?_); try simp only [ThenA])
    refine hK _ (k + 1) ⟨by omega, fun i x hi hx => ?_⟩ (by omega) ?_
    ·by_cases e : i = k
     ·subst e; rw [List.getElem?_eq_getElem hlt] at hx; cases hx; exact h1
     ·exact hno i x (by omega) hx
    ·(refine le_tm ?_; simp only [LeTm, go_sem]; try simp)
  ·have hge : k = L.length := by simp at h; omega
   clear hX hY X Y
   have hasc : ∀ s ∈ L, Asc s := by
    intro s hs
    obtain ⟨i, hi⟩ := List.mem_iff_getElem?.1 hs
    exact (ascB_iff s).1 (hno i s (by rw [hge]; exact (List.getElem?_eq_some_iff.1 hi).1) hi)
   clear hno
   (refine aw_exit ?_; simp only [ThenA, InBl, reduceIte, Nat.reduceEqDiff]; (first | refine hK _ ?_ | (clear hK K; refine hK _ ?_) | (clear hK K; clear hK K; refine hK _ ?_) | (clear hK K; clear hK K; clear hK K; refine hK _ ?_) | (clear hK K; clear hK K; clear hK K; clear hK K; refine hK _ ?_) | (clear hK K; clear hK K; clear hK K; clear hK K; clear hK K; refine hK _ ?_)); clear hK K)
   (repeat (first | (refine aw_seq ?_; intro K hK) | refine aw_block ?_ | refine aw_region ?_ | (refine lst_x rfl rfl ?_; intro K1 hK1; simp only [go_sem]; (first | refine hK1 _ ?_ | refine andk (hK1 _ ?_)); clear hK1 K1) | ((first | refine lst_nil ?_ | refine aw_skip ?_); refine hK _ ?_; clear hK K)))
   (refine lst_cons rfl ?_; intro K1 hK1; refine (stp_call0 (ids := []) (clone_sets (tSets L) (by rw [tSets_len]; omega)) rfl rfl (by simp only [go_sem]) (by kernel_rfl) (by (simp only [List.append_nil, go_sem]) <;> rfl) ?_).stp)
   rintro _ _ ⟨rfl, rfl⟩
   rw [cSets_tr, tSets_len]
   (simp only [aInts, aSets, List.append_nil, List.nil_append, List.length_map, go_sem]; refine hK1 _ ?_; clear hK1 K1)
   simp only [cSets_up]
   (repeat (first | (refine aw_seq ?_; intro K hK) | refine aw_block ?_ | refine aw_region ?_ | (refine lst_x rfl rfl ?_; intro K1 hK1; simp only [go_sem]; (first | refine hK1 _ ?_ | refine andk (hK1 _ ?_)); clear hK1 K1) | ((first | refine lst_nil ?_ | refine aw_skip ?_); refine hK _ ?_; clear hK K)))
   (refine lst_cons rfl ?_; intro K1 hK1; refine stp_callσ (ids := []) [0] (sort_sets hS hS0 L (fun x hx => Nat.le_trans (hb x hx) (by omega)) (by omega)) rfl rfl (by simp only [go_sem]) (by first | assumption | kernel_rfl) rfl rfl (by (simp only [List.map_append, List.append_nil, go_sem]) <;> rfl) (by (simp only [pkh, cSets_ren, go_sem]) <;> rfl) ?_ ?_)
   ·rintro _ _ ⟨rfl, L', _, _, rfl⟩; rfl
   rintro _ _ ⟨rfl, L', hperm, hsort, rfl⟩
   (simp only [aInts, aSets, List.append_nil, List.nil_append, List.length_map, go_sem]; refine hK1 _ ?_; clear hK1 K1)
   simp only [cSets_up]
   have hlen : L.length = L'.length := hperm.length_eq.symm
   rw [hlen]
   (repeat (first | (refine aw_seq ?_; intro K hK) | refine aw_block ?_ | refine aw_region ?_ | (refine lst_x rfl rfl ?_; intro K1 hK1; simp only [go_sem]; (first | refine hK1 _ ?_ | refine andk (hK1 _ ?_)); clear hK1 K1) | ((first | refine lst_nil ?_ | refine aw_skip ?_); refine hK _ ?_; clear hK K)))
   (refine lst_cons rfl ?_; intro K1 hK1; refine stp_callσ (ids := []) [0] (compact_sets L' (by omega) (fun x hx => Nat.le_trans (hb x (hperm.mem_iff.1 hx)) (by omega))) rfl rfl (by simp only [go_sem]) (by first | assumption | kernel_rfl) rfl rfl (by (simp only [List.map_append, List.append_nil, go_sem]) <;> rfl) (by (simp only [pkh, cSets_ren, go_sem]) <;> rfl) ?_ ?_)
   ·rintro _ _ ⟨rfl, rest, us, _, rfl⟩; rfl
   rintro _ _ ⟨rfl, rest, us, hus, rfl⟩
   have hr_up : ∀ f : Nat → Nat, rest.map (C.up f) = rest := fun f => by
    have : ∀ {xs : List C} {ts : List Tr}, Fz xs ts → xs.map (C.up f) = xs := by
     intro xs
     induction xs with
     | nil => intros; rfl
     | cons c r ih =>
      intro ts h
      cases ts with
      | nil => exact h.elim
      | cons t ts =>
       simp only [List.map_cons]
       rw [ih h.2]
       rcases h.1 with h | ⟨h, _⟩
       ·cases c <;> first | rfl | cases h
       ·subst h; rfl
    exact this hus
   (simp only [aInts, aSets, List.append_nil, List.nil_append, List.length_map, go_sem]; refine hK1 _ ?_; clear hK1 K1)
   simp only [List.map_append, cSets_up, hr_up]
   refine lst_le (le_frz (r := ⟨22, 1, true, cSets (cmpA L') ++ rest⟩) 0 (tSets (cmpA L') ++ us) rfl ((fz_sets _).append hus) Nat.zero_lt_one) ?_
   simp only [ST.frz, A0.frz, AV.frz, C.frz, tSets_len, List.length_append, Nat.le_add_right, go_sem]
   have hSS : SortS (cmpA L') := cmpA_sort hsort
   have hSm : ∀ s, s ∈ cmpA L' ↔ s ∈ L := fun s => mem_cmpA.trans hperm.mem_iff
   have hSl : (cmpA L').length ≤ 1000000 := by
    have nd : (cmpA L').Nodup := List.Pairwise.imp (fun h e => by subst e; rw [lessI_irr] at h; cases h) hSS
    exact Nat.le_trans (nd.length_le_of_subset fun s hs => (hSm s).1 hs) hn
   have htake : (tSets (cmpA L') ++ us).take (cmpA L').length = tSets (cmpA L') := by rw [← tSets_len (cmpA L')]; simp
   rw [← minF_eq hasc hSS hSm] at *
   generalize hS' : cmpA L' = S at *
   rw [htake]
   (repeat (first | (refine aw_seq ?_; intro K hK) | refine aw_block ?_ | refine aw_region ?_ | (refine lst_x rfl rfl ?_; intro K1 hK1; simp only [go_sem, tSets_len]; (first | refine hK1 _ ?_ | refine andk (hK1 _ ?_)); clear hK1 K1) | ((first | refine lst_nil ?_ | refine aw_skip ?_); refine hK _ ?_; clear hK K)))
   refine aw_le (le_nil 6 22 1 ?_) ?_
   ·simp only [go_sem]
   refine aw_le (le_pick [1] rfl rfl) ?_
   (try simp only [List.set_nil, List.take_nil, List.take_zero, List.map_append, go_sem])
   refine aw_loop (fun k : Nat => { tm := [(5, .a (.c (.t 1 (tSets S)))), (6, .a (.c (.s 0 (((S.take k).filter fun s => S.all fun o => decide (o = s) || !subB o s).length)))), (28, .a (.c (.t 1 (tSets S)))), (29, .i S.length), (30, .i k)], hp := [.r ⟨22, 1, true, cSets ((S.take k).filter fun s => S.all fun o => decide (o = s) || !subB o s)⟩], n := 59, pin := 0 }) (fun k => k ≤ S.length) (fun k => S.length - k) 0 ?_ ?_ ?_
   ·omega
   ·(refine le_tm ?_; simp only [LeTm, go_sem]; try simp)
   ·rintro k hk K hK
    (repeat (first | (refine aw_seq ?_; intro K hK) | refine aw_block ?_ | refine aw_region ?_ | (refine lst_x rfl rfl ?_; intro K1 hK1; simp only [go_sem]; (first | refine hK1 _ ?_ | refine andk (hK1 _ ?_)); clear hK1 K1) | ((first | refine lst_nil ?_ | refine aw_skip ?_); refine hK _ ?_; clear hK K)))
    (refine aw_cnd ?_; intro X Y hX hY; simp only [go_sem])
    refine ⟨fun h => hX ?_, fun h => hY ?_⟩
    ·have hlt : k < S.length := by simpa using h
     clear hX hY X Y h
     have hin : S[k] ∈ S := List.getElem_mem hlt
     have hbk : S[k].length ≤ 100000000 := hb _ ((hSm _).1 hin)
     have hnd : S.Nodup := List.Pairwise.imp (fun h e => by subst e; rw [lessI_irr] at h; cases h) hSS
     have hfl : (S.take k).filter (fun s => S.all fun o => decide (o = s) || !subB o s) = (S.take k).filter (fun s => S.all fun o => decide (o = s) || !subB o s) := rfl
     have hflen : ((S.take k).filter fun s => S.all fun o => decide (o = s) || !subB o s).length ≤ k := Nat.le_trans (List.length_filter_le _ _) (by rw [List.length_take]; omega)
     have hstep : ∀ b : Bool, (S.all fun o => decide (o = S[k]) || !subB o S[k]) = b → (S.take (k + 1)).filter (fun s => S.all fun o => decide (o = s) || !subB o s) = (S.take k).filter (fun s => S.all fun o => decide (o = s) || !subB o s) ++ (if b then [S[k]] else []) := by
      intro b hb
      rw [List.take_succ_eq_append_getElem hlt, List.filter_append]
      congr 1
      cases b <;> simp [List.filter, hb]
     generalize hF : (S.take k).filter (fun s => S.all fun o => decide (o = s) || !subB o s) = F at *
     (repeat (first | (refine aw_seq ?_; intro K hK) | refine aw_block ?_ | refine aw_region ?_ | (refine lst_x rfl rfl ?_; intro K1 hK1; simp only [go_sem, tSets_len, tSets_get (List.getElem?_eq_getElem hlt)]; (first | refine hK1 _ ?_ | refine andk (hK1 _ ?_)); clear hK1 K1) | ((first | refine lst_nil ?_ | refine aw_skip ?_); refine hK _ ?_; clear hK K)))
     refine aw_loop (fun j : Nat => { tm := [(5, .a (.c (.t 1 (tSets S)))), (6, .a (.c (.s 0 F.length))), (28, .a (.c (.t 1 (tSets S)))), (29, .i S.length), (30, .i k), (7, .i k), (8, .a (.c (.t 1 (tInts S[k])))), (9, .b true), (35, .a (.c (.t 1 (tSets S)))), (36, .i S.length), (37, .i j)], hp := [.r ⟨22, 1, true, cSets F⟩], n := 59, pin := 0 })
      (fun j => j ≤ S.length ∧ ∀ i o, i < j → S[i]? = some o → i ≠ k → subB o S[k] = false) (fun j => S.length - j) 0 ?_ ?_ ?_
     ·exact ⟨by omega, by intro i o hi; omega⟩
     ·(refine le_tm ?_; simp only [LeTm, go_sem, tSets_len]; try simp)
     ·rintro j ⟨hj, hno⟩ K hK
      (repeat (first | (refine aw_seq ?_; intro K hK) | refine aw_block ?_ | refine aw_region ?_ | (refine lst_x rfl rfl ?_; intro K1 hK1; simp only [go_sem]; (first | refine hK1 _ ?_ | refine andk (hK1 _ ?_)); clear hK1 K1) | ((first | refine lst_nil ?_ | refine aw_skip ?_); refine hK _ ?_; clear hK K)))
      (refine aw_cnd ?_; intro X Y hX hY; simp only [go_sem])
      refine ⟨fun h => hX ?_, fun h => hY ?_⟩
      ·have hltj : j < S.length := by simpa using h
       clear hX hY X Y h
       by_cases hjk : j = k
       ·have hb1 : ((j : Int) != (k : Int)) = false := by simp [hjk]
        (repeat (first | (refine aw_seq ?_; intro K hK) | refine aw_block ?_ | refine aw_region ?_ | (refine lst_x rfl rfl ?_; intro K1 hK1; simp only [go_sem, tSets_len, tSets_get (List.getElem?_eq_getElem hltj), hb1]; (first | refine hK1 _ ?_ | refine andk (hK1 _ ?_)); clear hK1 K1) | ((first | refine lst_nil ?_ | refine aw_skip ?_); refine hK _ ?_; clear hK K)))
        (refine aw_cnd ?_; intro X Y hX hY; simp only [go_sem])
        refine hY ?_; clear hX hY X Y
        (repeat (first | (refine aw_seq ?_; intro K hK) | refine aw_block ?_ | refine aw_region ?_ | (refine lst_x rfl rfl ?_; intro K1 hK1; simp only [go_sem]; (first | refine hK1 _ ?_ | refine andk (hK1 _ ?_)); clear hK1 K1) | ((first | refine lst_nil ?_ | refine aw_skip ?_); refine hK _ ?_; clear hK K)))
        ((try refine lst_nil ?_); (try refine aw_skip ?_); try simp only [ThenA])
        refine hK _ (j + 1) ⟨by omega, fun i o hi ho hne => ?_⟩ (by omega) ?_
        ·exact hno i o (by omega) ho hne
        ·(refine le_tm ?_; simp only [LeTm, go_sem]; try simp)
       ·have hb1 : ((j : Int) != (k : Int)) = true := by simp; omega
        (repeat (first | (refine aw_seq ?_; intro K hK) | refine aw_block ?_ | refine aw_region ?_ | (refine lst_x rfl rfl ?_; intro K1 hK1; simp only [go_sem, tSets_len, tSets_get (List.getElem?_eq_getElem hltj), hb1]; (first | refine hK1 _ ?_ | refine andk (hK1 _ ?_)); clear hK1 K1) | ((first | refine lst_nil ?_ | refine aw_skip ?_); refine hK _ ?_; clear hK K)))
        refine lst_guard (t := true) (want := true) rfl rfl ?_ rfl ?_ (fun h => absurd rfl h)
        ·simp only [go_sem]
        intro _ K1 hK1
        refine (stp_call0 (ids := []) (subset_fc S[j] S[k] (Nat.le_trans (hb _ ((hSm _).1 (List.getElem_mem hltj))) (by omega)) (Nat.le_trans hbk (by omega)) (hasc _ ((hSm _).1 (List.getElem_mem hltj))) (hasc _ ((hSm _).1 hin))) rfl rfl (by simp only [go_sem]) (by kernel_rfl) (by (simp only [clos, List.append_nil, AV.ren, A0.ren, C.ren, go_sem]) <;> rfl) ?_).stp
        rintro _ _ ⟨rfl, rfl⟩
        (simp only [aInts, aSets, List.append_nil, List.nil_append, List.length_map, go_sem]; refine hK1 _ ?_; clear hK1 K1)
        (repeat (first | (refine aw_seq ?_; intro K hK) | refine aw_block ?_ | refine aw_region ?_ | (refine lst_x rfl rfl ?_; intro K1 hK1; simp only [go_sem]; (first | refine hK1 _ ?_ | refine andk (hK1 _ ?_)); clear hK1 K1) | ((first | refine lst_nil ?_ | refine aw_skip ?_); refine hK _ ?_; clear hK K)))
        (refine aw_cnd ?_; intro X Y hX hY; simp only [go_sem])
        refine ⟨fun h => hX ?_, fun h => hY ?_⟩
        ·clear hX hY X Y
         have hbad : (S.all fun o => decide (o = S[k]) || !subB o S[k]) = false := by
          rw [List.all_eq_false]
          refine ⟨S[j], List.getElem_mem hltj, ?_⟩
          have : S[j] ≠ S[k] := fun e => hjk ((List.getElem_inj hnd).1 e)
          simp [this, h]
         (repeat (first | (refine aw_seq ?_; intro K hK) | refine aw_block ?_ | refine aw_region ?_ | (refine lst_x rfl rfl ?_; intro K1 hK1; simp only [go_sem]; (first | refine hK1 _ ?_ | refine andk (hK1 _ ?_)); clear hK1 K1) | ((first | refine lst_nil ?_ | refine aw_skip ?_); refine hK _ ?_; clear hK K)))
         (refine aw_exit ?_; simp only [ThenA, InBl, reduceIte, Nat.reduceEqDiff]; (first | refine hK _ ?_ | (clear hK K; refine hK _ ?_) | (clear hK K; clear hK K; refine hK _ ?_) | (clear hK K; clear hK K; clear hK K; refine hK _ ?_) | (clear hK K; clear hK K; clear hK K; clear hK K; refine hK _ ?_) | (clear hK K; clear hK K; clear hK K; clear hK K; clear hK K; refine hK _ ?_)); clear hK K)
         (repeat (first | (refine aw_seq ?_; intro K hK) | refine aw_block ?_ | refine aw_region ?_ | (refine lst_x rfl rfl ?_; intro K1 hK1; simp only [go_sem]; (first | refine hK1 _ ?_ | refine andk (hK1 _ ?_)); clear hK1 K1) | ((first | refine lst_nil ?_ | refine aw_skip ?_); refine hK _ ?_; clear hK K)))
         (refine aw_cnd ?_; intro X Y hX hY; simp only [go_sem])
         refine hY ?_; clear hX hY X Y
         (repeat (first | (refine aw_seq ?_; intro K hK) | refine aw_block ?_ | refine aw_region ?_ | (refine lst_x rfl rfl ?_; intro K1 hK1; simp only [go_sem]; (first | refine hK1 _ ?_ | refine andk (hK1 _ ?_)); clear hK1 K1) | ((first | refine lst_nil ?_ | refine aw_skip ?_); refine hK _ ?_; clear hK K)))
         ((try refine lst_nil ?_); (try refine aw_skip ?_); try simp only [ThenA])
         refine hK _ (k + 1) (by omega) (by omega) ?_
         have hs := hstep false hbad
         simp only [Bool.false_eq_true, if_false, List.append_nil] at hs
         simp only [hs]
         (refine le_tm ?_; simp only [LeTm, go_sem]; try simp)
        ·clear hX hY X Y
         (repeat (first | (refine aw_seq ?_; intro K hK) | refine aw_block ?_ | refine aw_region ?_ | (refine lst_x rfl rfl ?_; intro K1 hK1; simp only [go_sem]; (first | refine hK1 _ ?_ | refine andk (hK1 _ ?_)); clear hK1 K1) | ((first | refine lst_nil ?_ | refine aw_skip ?_); refine hK _ ?_; clear hK K)))
         ((try refine lst_nil ?_); (try refine aw_skip ?_); try simp only [ThenA])
         refine hK _ (j + 1) ⟨by omega, fun i o hi ho hne => ?_⟩ (by omega) ?_
         ·by_cases e : i = j
          ·subst e; rw [List.getElem?_eq_getElem hltj] at ho; cases ho; exact h
          ·exact hno i o (by omega) ho hne
         ·(refine le_tm ?_; simp only [LeTm, go_sem]; try simp)
      ·have hge : j = S.length := by simp at h; omega
       clear hX hY X Y
       have hgood : (S.all fun o => decide (o = S[k]) || !subB o S[k]) = true := by
        rw [List.all_eq_true]
        intro o ho
        obtain ⟨i, hi⟩ := List.mem_iff_getElem?.1 ho
        have hil := (List.getElem?_eq_some_iff.1 hi)
        by_cases e : i = k
        ·subst e; simp [← hil.2]
        ·have := hno i o (by rw [hge]; exact hil.1) hi e
         simp [this]
       (refine aw_exit ?_; simp only [ThenA, InBl, reduceIte, Nat.reduceEqDiff]; (first | refine hK _ ?_ | (clear hK K; refine hK _ ?_) | (clear hK K; clear hK K; refine hK _ ?_) | (clear hK K; clear hK K; clear hK K; refine hK _ ?_) | (clear hK K; clear hK K; clear hK K; clear hK K; refine hK _ ?_) | (clear hK K; clear hK K; clear hK K; clear hK K; clear hK K; refine hK _ ?_)); clear hK K)
       (repeat (first | (refine aw_seq ?_; intro K hK) | refine aw_block ?_ | refine aw_region ?_ | (refine lst_x rfl rfl ?_; intro K1 hK1; simp only [go_sem]; (first | refine hK1 _ ?_ | refine andk (hK1 _ ?_)); clear hK1 K1) | ((first | refine lst_nil ?_ | refine aw_skip ?_); refine hK _ ?_; clear hK K)))
       (refine aw_cnd ?_; intro X Y hX hY; simp only [go_sem])
       refine hX ?_; clear hX hY X Y
       (repeat (first | (refine aw_seq ?_; intro K hK) | refine aw_block ?_ | refine aw_region ?_ | (refine lst_x rfl rfl ?_; intro K1 hK1; simp only [go_sem]; (first | refine hK1 _ ?_ | refine andk (hK1 _ ?_)); clear hK1 K1) | ((first | refine lst_nil ?_ | refine aw_skip ?_); refine hK _ ?_; clear hK K)))
       (refine lst_cons rfl ?_; intro K1 hK1; refine (stp_call0 (ids := []) (clone_ints (tInts S[k]) (by rw [tInts_len]; omega)) rfl rfl (by simp only [go_sem]) (by kernel_rfl) (by (simp only [List.append_nil, go_sem]) <;> rfl) ?_).stp)
       rintro _ _ ⟨rfl, rfl⟩
       (simp only [aInts, aSets, List.append_nil, List.nil_append, List.length_map, go_sem]; refine hK1 _ ?_; clear hK1 K1)
       refine lst_le (le_frz (r := ⟨3, 1, true, (tInts S[k]).map C.ofTr⟩) 1 (tInts S[k]) rfl (fz_ints _) Nat.zero_lt_one) ?_
       simp only [ST.frz, A0.frz, AV.frz, C.frz, Nat.le_refl, List.take_length, List.set_cons_zero, List.set_cons_succ, go_sem]
       (repeat (first | (refine aw_seq ?_; intro K hK) | refine aw_block ?_ | refine aw_region ?_ | (refine lst_x rfl rfl ?_; intro K1 hK1; simp only [go_sem, cSets_len, List.take_of_length_le (Nat.le_of_eq (cSets_len F)), List.set_cons_zero, List.set_cons_succ, List.take_succ_cons, List.take_zero]; (first | refine hK1 _ ?_ | refine andk (hK1 _ ?_)); clear hK1 K1) | ((first | refine lst_nil ?_ | refine aw_skip ?_); refine hK _ ?_; clear hK K)))
       ((try refine lst_nil ?_); (try refine aw_skip ?_); try simp only [ThenA])
       refine hK _ (k + 1) (by omega) (by omega) ?_
       have hs := hstep true hgood
       simp only [if_true] at hs
       refine Le.trans (le_pick [3] rfl rfl) ?_
       (try simp only [List.set_nil, List.take_nil, List.take_zero, List.map_append, go_sem])
       have e2 : cSets (F ++ [S[k]]) = cSets F ++ [.t 1 (tInts S[k])] := by simp [cSets]
       have e3 : (F ++ [S[k]]).length = F.length + 1 := by simp
       simp only [hs, e2, e3, cSets_ren]
       (refine le_tm ?_; simp only [LeTm, go_sem]; try simp)
    ·have hge : k = S.length := by simp at h; omega
     clear hX hY X Y
     (refine aw_exit ?_; simp only [ThenA, InBl, reduceIte, Nat.reduceEqDiff]; (first | refine hK _ ?_ | (clear hK K; refine hK _ ?_) | (clear hK K; clear hK K; refine hK _ ?_) | (clear hK K; clear hK K; clear hK K; refine hK _ ?_) | (clear hK K; clear hK K; clear hK K; clear hK K; refine hK _ ?_) | (clear hK K; clear hK K; clear hK K; clear hK K; clear hK K; refine hK _ ?_)); clear hK K)
     (repeat (first | (refine aw_seq ?_; intro K hK) | refine aw_block ?_ | refine aw_region ?_ | (refine lst_x rfl rfl ?_; intro K1 hK1; simp only [go_sem]; (first | refine hK1 _ ?_ | refine andk (hK1 _ ?_)); clear hK1 K1) | ((first | refine lst_nil ?_ | refine aw_skip ?_); refine hK _ ?_; clear hK K)))
     ((try refine aw_ret ?_); (try refine lst_nil ?_); (try simp only [ThenA, InBl]); refine ret_mk (by first | exact .inl rfl | exact .inr rfl) rfl ?_; simp only [rtn, resA, resL, resV, Try.results27, go_sem])
     subst hge
     simp only [List.take_length]
     exact ⟨rfl, rfl⟩
end Go.Proofs.Ythlckclbjknldaa
