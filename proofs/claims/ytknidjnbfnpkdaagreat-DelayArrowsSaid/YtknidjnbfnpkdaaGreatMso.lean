/- slices.Sort at numbers, from the shelf's contract. -/
import Derived.Test.YtknidjnbfnpkdaaGreatMD
import Derived.Shelf.SlSortCmp.Kit1
import Derived.Test.YtknidjnbfnpkdaaGreatMF
import Derived.Test.YtknidjnbfnpkdaaGreatShlfS
import Derived.Shelf.Sort.Plain
import Derived.Shelf.Slices.In.SortNone
namespace Go.Proofs.YtknidjnbfnpkdaaGreat
set_option linter.unusedVariables false
set_option linter.unusedSimpArgs false
open Go.RowKit Go.Shelf Go.Sort
set_option maxRecDepth 100000

section
variable {α : Type} [Inhabited α] {enc : α → Value} {w : World} {blk off m : Nat} {dk : Array α} {os : Array Obj}
theorem sx_size : w.heap.size ≤ (sortWorld enc w blk off m dk os).heap.size := by
  simp [sortWorld, grow, putRow, mapBlock, Sort.ahead]
theorem sx_block {k : Nat} (hk : k < w.heap.size) (hne : k ≠ blk) : (sortWorld enc w blk off m dk os).heap[k]? = w.heap[k]? := by
  simp only [sortWorld, grow, putRow, mapBlock, Sort.ahead]
  rw [Array.getElem?_append_left (by simpa using hk), Array.getElem?_modify, if_neg (Ne.symm hne)]
theorem sx_self {arr : Array Value} {e : TypeId} {fz : Nat × Nat} (h : w.heap[blk]? = some (.cells arr e fz)) : (sortWorld enc w blk off m dk os).heap[blk]? = some (.cells (putCells enc off dk arr) e fz) := by
  have hk := (Array.getElem?_eq_some_iff.1 h).1
  simp only [sortWorld, grow, putRow, mapBlock, Sort.ahead]
  rw [Array.getElem?_append_left (by simpa using hk), Array.getElem?_modify, if_pos rfl, h]
  rfl
theorem sx_fp {M : Nat → Prop} (hM : M blk) : Fp M w (sortWorld enc w blk off m dk os) :=
  ⟨rfl, rfl, rfl, sx_size, fun k hk hm => sx_block hk (fun e => hm (e ▸ hM)), by simp [sortWorld, grow, putRow, mapBlock, Sort.ahead]⟩
end
theorem ofTr_nx {t : Tr} {k : Nat × Nat} {cs : List Tr} : C.ofTr t ≠ .o k cs := by cases t <;> simp [C.ofTr]
theorem lvx {g : Gh} {α0 : Type} {tr : α0 → Tr} {e : TypeId} {L : List α0} {ℓ : Loc} : Lv [.r ⟨e, 1, true, L.map fun x => C.ofTr (tr x)⟩] g ℓ ↔ ℓ = .ob 0 ∧ g.κ 0 ≠ 0 := by
  cases ℓ with
  | ob id =>
    constructor
    · rintro (⟨r, h1, h2⟩ | ⟨kv, h1⟩)
      · cases id with
        | zero => exact ⟨rfl, h2⟩
        | succ i => simp at h1
      · cases id with
        | zero => simp at h1
        | succ i => simp at h1
    · rintro ⟨h1, h2⟩
      cases h1
      exact .inl ⟨_, rfl, h2⟩
  | cl id j =>
    constructor
    · rintro ⟨r, k, cs, h1, h2, h3⟩
      cases id with
      | zero =>
        simp at h1; subst h1
        rw [List.getElem?_map, Option.map_eq_some_iff] at h2
        obtain ⟨x, _, h2⟩ := h2
        exact absurd h2 ofTr_nx
      | succ i => simp at h1
    · rintro ⟨h1, h2⟩; cases h1
def trI (x : Int) : Tr := .v (.int .i64 x)
theorem sortI_fc (L : List Int) (hsz : L.length ≤ 100000000) : FC Tryz.prog 36 [.a (.c (.s 0 L.length))] [.r ⟨3, 1, true, cInts L⟩] (fun r o => r = .u ∧ ∃ L' : List Int, L'.Perm L ∧ L'.Pairwise (fun a b => a ≤ b) ∧ o = [.r ⟨3, 1, true, cInts L'⟩]) := by
  intro g w vals hr hargs
  obtain ⟨hlen, hargs⟩ := hargs
  obtain ⟨v1, e1, b1, b2, A, rfl, b4, b5⟩ := hargs 0 _ rfl
  have hvals : vals = [.slice A L.length (g.κ 0)] := by
    match vals, hlen with
    | [a], _ => simp at e1; simp [e1]
  subst hvals
  have lvI : ∀ {L : List Int} {ℓ : Loc}, Lv [.r ⟨3, 1, true, cInts L⟩] g ℓ ↔ ℓ = .ob 0 ∧ g.κ 0 ≠ 0 := fun {L ℓ} => lvx (tr := trI) (L := L)
  rcases hr.row 0 _ rfl with ⟨h0, hnil⟩ | ⟨h0, hne, arr, ha, hle, hs, hmx, hcells⟩
  · have hL0 : L = [] := by
      have h : cInts L = [] := hnil
      simpa [cInts] using h
    subst hL0
    refine (Any.slices_Sort_int_none Tryz.sortInts A (g.κ 0) w).mono ?_
    rintro e' w' ⟨rfl, rfl⟩
    exact ⟨.tuple #[], .u, _, g, rfl, ⟨rfl, [], List.Perm.refl _, List.Pairwise.nil, rfl⟩, hr, ⟨Nat.le_refl _, Ext.refl _ _⟩, fun ℓ hl => .inl ⟨ℓ, hl, rfl⟩, trivial, Fp.refl _ _⟩
  · rw [b4 h0] at *
    have hblk : g.γ (.ob 0) < w.heap.size := (Array.getElem?_eq_some_iff.1 ha).1
    have hOw : Ow [.r ⟨3, 1, true, cInts L⟩] g (g.γ (.ob 0)) := .inr ⟨.ob 0, lvI.2 ⟨rfl, h0⟩, rfl⟩
    have hle' : L.length ≤ arr.size := by simpa [cInts_len] using hle
    have hget : ∀ j (hj : j < L.length), arr[j]? = some (.int .i64 L[j]) := by
      intro j hj
      obtain ⟨u, u1, u2⟩ := hcells j (.v (.int .i64 L[j])) (cInts_get (List.getElem?_eq_getElem hj))
      rw [u1, show u = .int .i64 L[j] from u2]
    have hH : Holds (Value.int .i64) w (g.γ (.ob 0)) 0 L.toArray := by
      intro j hj
      simp only [List.size_toArray] at hj
      constructor
      · rw [Nat.zero_add, cell_of_row w _ j arr _ (0, 0) ha, hget j hj, getElem!_pos _ j (by simpa using hj)]
        simp
      · simp [World.frozen?, ha]
    refine (Any.slices_Sort_int Tryz.sortInts (g.γ (.ob 0)) 0 (g.κ 0) L w hH hblk (by omega)).mono ?_
    rintro e' w' ⟨rfl, m, os, rfl⟩
    obtain ⟨L', hL'⟩ : ∃ L', L' = L.mergeSort fun x y => decide (x ≤ y) := ⟨_, rfl⟩
    have hperm : L'.Perm L := by rw [hL']; exact List.mergeSort_perm _ _
    have hsort : L'.Pairwise (fun a b => a ≤ b) := by
      rw [hL']
      have := List.pairwise_mergeSort (le := fun x y : Int => decide (x ≤ y)) (fun a b c h1 h2 => by simp at *; omega) (fun a b => by simp; omega) L
      exact this.imp fun h => by simpa using h
    rw [← hL']
    have hll := hperm.length_eq
    show FPost _ _ _ _ _ (sortWorld (Value.int .i64) w (g.γ (.ob 0)) 0 m L'.toArray os)
    refine ⟨.tuple #[], .u, _, g, rfl, ⟨rfl, L', hperm, hsort, rfl⟩, ?_, ⟨Nat.le_refl _, Ext.refl _ _⟩, fun ℓ hl => .inl ⟨ℓ, lvI.2 (lvI.1 hl), rfl⟩, trivial, sx_fp ⟨.ob 0, lvI.2 ⟨rfl, h0⟩, rfl⟩⟩
    refine ⟨fun b hb => Nat.lt_of_lt_of_le (hr.ml b hb) sx_size, fun ℓ hl => hr.md ℓ (lvI.2 (lvI.1 hl)), fun ℓ ℓ' hl hl' => hr.inj ℓ ℓ' (lvI.2 (lvI.1 hl)) (lvI.2 (lvI.1 hl')), fun id r hid => ?_, fun id r hid => ?_, hr.gl.keep sx_size (fun k hk hn => sx_block hk (fun e => hn (e ▸ hOw))) (fun k _ hk => hk.imp (fun h => h) (fun ⟨ℓ, hl, e⟩ => ⟨ℓ, lvI.2 (lvI.1 hl), e⟩))⟩
    · cases id with
      | succ i => simp at hid
      | zero =>
        simp at hid
        subst hid
        refine .inr ⟨h0, fun _ hn => ?_, _, sx_self ha, ?_, ?_, hmx, fun j c hj => ?_⟩
        · have h1 : L' = [] := by simpa [cInts] using hn
          rw [h1] at hll
          have h2 : L = [] := List.length_eq_zero_iff.1 hll.symm
          exact hne rfl (by simp [h2, cInts])
        · simp only [cInts_len, putCells, Array.size_mapIdx]; omega
        · simpa [putCells] using hs
        · have hjl : j < L'.length := by have := (List.getElem?_eq_some_iff.1 hj).1; rw [cInts_len] at this; exact this
          have hc : c = .v (.int .i64 L'[j]) := by
            rw [cInts_get (List.getElem?_eq_getElem hjl)] at hj
            exact (Option.some.inj hj).symm
          subst hc
          refine ⟨.int .i64 L'[j], ?_, rfl⟩
          unfold putCells
          rw [Array.getElem?_mapIdx, Array.getElem?_eq_getElem (by omega)]
          simp [hjl]
    · cases id with
      | zero => simp at hid
      | succ i => simp at hid
end Go.Proofs.YtknidjnbfnpkdaaGreat
