/- The canonical form as a function, and the memory in the midst of the reference's Canonical. -/
import Derived.Test.YtfkpjnmngafnmaaRf4
import Derived.Test.YtfkpjnmngafnmaaGen1
namespace Go.Proofs.Ytfkpjnmngafnmaa
set_option linter.unusedVariables false
set_option linter.unusedSimpArgs false
open Go.RowKit

def rowOf (r : List Arc) : List Arc := r.foldl (fun acc a => ins a acc) []
def numOne (num old : List Int) (t : Int) : List Int × List Int := if num.getD t.toNat 0 < 0 then (num.set t.toNat old.length, old ++ [t]) else (num, old)
def rowGo : List Arc → List Int → List Int → List Arc → List Int × List Int × List Arc
  | [], num, old, nxt => (num, old, nxt)
  | a :: tl, num, old, nxt => rowGo tl (numOne num old a.2).1 (numOne num old a.2).2 (ins (a.1, (numOne num old a.2).1.getD a.2.toNat 0) nxt)
def canGo (rows : List (List Arc)) : Nat → Nat → List Int → List Int → List (List Arc) → List (List Arc) × List Int
  | 0, _, _, old, out => (out, old)
  | f + 1, i, num, old, out => match old[i]? with
    | none => (out, old)
    | some s => canGo rows f (i + 1) (rowGo (rowOf (rows.getD s.toNat [])) num old []).1 (rowGo (rowOf (rows.getD s.toNat [])) num old []).2.1 (out ++ [(rowGo (rowOf (rows.getD s.toNat [])) num old []).2.2])
def canonR (rows : List (List Arc)) : List (List Arc) × List Int := canGo rows rows.length 0 ((List.replicate rows.length (-1)).set 0 0) [0] []

theorem mem_foldl_ins (r acc : List Arc) (a : Arc) : a ∈ r.foldl (fun acc a => ins a acc) acc ↔ a ∈ acc ∨ a ∈ r := by
  induction r generalizing acc with
  | nil => simp
  | cons x xs ih => rw [List.foldl_cons, ih, mem_ins, List.mem_cons, or_comm (a := a = x), or_assoc]
theorem mem_rowOf (r : List Arc) (a : Arc) : a ∈ rowOf r ↔ a ∈ r := by unfold rowOf; rw [mem_foldl_ins]; simp
theorem len_foldl_ins (r acc : List Arc) : (r.foldl (fun acc a => ins a acc) acc).length ≤ acc.length + r.length := by
  induction r generalizing acc with
  | nil => simp
  | cons x xs ih => rw [List.foldl_cons, List.length_cons]; have := ih (ins x acc); have := ins_len x acc; omega
theorem len_rowOf (r : List Arc) : (rowOf r).length ≤ r.length := by have := len_foldl_ins r []; simpa [rowOf] using this

/-- numbers and queue fit -/
structure NumOk (n : Nat) (num old : List Int) : Prop where
  len : num.length = n
  rng : ∀ x ∈ num, -1 ≤ x ∧ x < n
  st : ∀ s ∈ old, 0 ≤ s ∧ s < n
  cnt : old.length + num.countP (fun x => decide (x < 0)) = n
theorem countP_set {p : Int → Bool} {l : List Int} {i : Nat} {x y : Int} (h : l[i]? = some x) (hx : p x = true) (hy : p y = false) : (l.set i y).countP p + 1 = l.countP p := by
  induction l generalizing i with
  | nil => simp at h
  | cons z zs ih =>
    cases i with
    | zero => simp at h; subst h; simp [List.countP_cons, hx, hy]
    | succ i =>
      simp only [List.getElem?_cons_succ] at h
      have := ih h
      simp only [List.set_cons_succ, List.countP_cons]
      omega
theorem NumOk.le {n : Nat} {num old : List Int} (h : NumOk n num old) : old.length ≤ n := by have := h.cnt; omega
theorem NumOk.get {n : Nat} {num old : List Int} (h : NumOk n num old) {t : Int} (h0 : 0 ≤ t) (h1 : t < n) : ∃ x, num[t.toNat]? = some x ∧ num.getD t.toNat 0 = x ∧ -1 ≤ x ∧ x < n := by
  have hl : t.toNat < num.length := by rw [h.len]; omega
  exact ⟨num[t.toNat], List.getElem?_eq_getElem hl, by simp [hl], h.rng _ (List.getElem_mem hl)⟩
theorem NumOk.one {n : Nat} {num old : List Int} (h : NumOk n num old) {t : Int} (h0 : 0 ≤ t) (h1 : t < n) : NumOk n (numOne num old t).1 (numOne num old t).2 := by
  obtain ⟨x, hx, hd, hb⟩ := h.get h0 h1
  unfold numOne
  rw [hd]
  split
  · rename_i hneg
    have hc := countP_set (p := fun x => decide (x < 0)) (y := (old.length : Int)) hx (by simpa using hneg) (by simp)
    have hcnt := h.cnt
    refine ⟨by simp [h.len], fun y hy => ?_, fun s hs => ?_, by simp; omega⟩
    · rcases List.mem_or_eq_of_mem_set hy with hy | hy
      · exact h.rng y hy
      · subst hy; omega
    · rcases List.mem_append.1 hs with hs | hs
      · exact h.st s hs
      · simp at hs; subst hs; exact ⟨h0, h1⟩
  · exact h
theorem NumOk.go {n : Nat} : ∀ (r : List Arc) {num old : List Int} (nxt : List Arc), NumOk n num old → (∀ a ∈ r, 0 ≤ a.2 ∧ a.2 < n) → NumOk n (rowGo r num old nxt).1 (rowGo r num old nxt).2.1
  | [], _, _, _, h, _ => h
  | a :: tl, _, _, nxt, h, hr => NumOk.go tl _ (h.one (hr a (by simp)).1 (hr a (by simp)).2) (fun b hb => hr b (List.mem_cons_of_mem _ hb))
theorem NumOk.start {n : Nat} (hn : 0 < n) : NumOk n ((List.replicate n (-1)).set 0 0) [0] := by
  obtain ⟨k, rfl⟩ : ∃ k, n = k + 1 := ⟨n - 1, by omega⟩
  refine ⟨by simp, fun x hx => ?_, fun s hs => ?_, ?_⟩
  · rcases List.mem_or_eq_of_mem_set hx with h | h
    · rw [(List.mem_replicate.1 h).2]; omega
    · subst h; omega
  · simp at hs; subst hs; omega
  · simp [List.replicate_succ, List.countP_replicate]; omega

/-- the blocks that what is kept avoids -/
def MB (X : List Nat) (vold vout : Value) (i0 : Nat) : List Nat := bl vold ++ (bl vout ++ ([i0 + 2, i0 + 4, i0 + 1] ++ X))
theorem mem_MB {X : List Nat} {vold vout : Value} {i0 b : Nat} : b ∈ MB X vold vout i0 ↔ b ∈ bl vold ∨ b ∈ bl vout ∨ b = i0 + 2 ∨ b = i0 + 4 ∨ b = i0 + 1 ∨ b ∈ X := by simp [MB]

/-- in the midst of Canonical -/
structure CI (X : List Nat) (w wr : World) (i0 : Nat) (A : Option Addr) (n c : Nat) (rows : List (List Arc)) (num old : List Int) (L : Nat) (vold vout : Value) (outs : List (List Arc)) : Prop where
  hl : old.length = L
  sz : w.heap.size = i0
  hX : ∀ x ∈ X, x < i0
  bi : Blk wr i0 25 [.slice A n c]
  br : Blk wr (i0 + 1) 25 [.slice none 0 0]
  bn : Blk wr (i0 + 2) 3 (num.map (Value.int .i64))
  bo : Blk wr (i0 + 4) 25 [vout]
  old : Own wr (i0 + 3) 3 1 vold L (old.flatMap ci)
  out : ∃ vs, Own wr (i0 + 5) 44 1 vout outs.length (vs.flatMap cv) ∧ LRel (LsV cp 2 (MB X vold vout i0) wr) vs outs
  rows : Ll cp 2 (MB X vold vout i0) wr A n c rows
  fr : Fr [] w wr
  sep : ∀ b ∈ bl vold, b ∉ bl vout ∧ b ≠ i0 + 4
section
variable {X : List Nat} {w wr w' : World} {i0 : Nat} {A : Option Addr} {n c : Nat} {rows : List (List Arc)} {num old : List Int} {L : Nat} {vold vout : Value} {outs : List (List Arc)}
theorem CI.mlt (h : CI X w wr i0 A n c rows num old L vold vout outs) : ∀ m ∈ MB X vold vout i0, m < wr.heap.size := by
  intro m hm
  obtain ⟨vs, ho, _⟩ := h.out
  rcases mem_MB.1 hm with hm | hm | hm | hm | hm | hm
  · exact (h.old.blt m hm).2
  · exact (ho.blt m hm).2
  · subst hm; exact h.bn.lt
  · subst hm; exact h.bo.lt
  · subst hm; exact h.br.lt
  · have := h.hX m hm; have := h.bn.lt; omega
theorem CI.pure (h : CI X w wr i0 A n c rows num old L vold vout outs) (hf : Fr [] wr w') : CI X w w' i0 A n c rows num old L vold vout outs := by
  obtain ⟨vs, ho, hr⟩ := h.out
  exact ⟨h.hl, h.sz, h.hX, h.bi.fr hf (by simp), h.br.fr hf (by simp), h.bn.fr hf (by simp), h.bo.fr hf (by simp), h.old.fr hf (by simp), ⟨vs, ho.fr hf (by simp), hr.imp fun _ _ hv => hv.keep hf.any⟩, h.rows.keep hf.any, h.fr.trans hf, h.sep⟩
theorem CI.num_ (h : CI X w wr i0 A n c rows num old L vold vout outs) (j : Nat) (x : Int) : CI X w (wr.setCell ⟨i0 + 2, j, none⟩ (.int .i64 x)) i0 A n c rows (num.set j x) old L vold vout outs := by
  have hf : Fr [i0 + 2] wr (wr.setCell ⟨i0 + 2, j, none⟩ (.int .i64 x)) := (Fr.refl _ _).setCell (.inl (by simp)) _
  have hfM : Fr (MB X vold vout i0) wr (wr.setCell ⟨i0 + 2, j, none⟩ (.int .i64 x)) := hf.mono (fun k hk _ => by simp at hk; subst hk; exact mem_MB.2 (.inr (.inr (.inl rfl))))
  obtain ⟨vs, ho, hr⟩ := h.out
  refine ⟨h.hl, h.sz, h.hX, h.bi.fr hf (by simp), h.br.fr hf (by simp), ?_, h.bo.fr hf (by simp), h.old.fr hf (by simp), ⟨vs, ho.fr hf (by simp), hr.imp fun _ _ hv => hv.keep hfM⟩, h.rows.keep hfM, h.fr.setCell (.inr (by rw [h.sz]; show i0 ≤ i0 + 2; omega)) _, h.sep⟩
  rw [List.map_set]; exact h.bn.set_ j _
theorem CI.app (h : CI X w wr i0 A n c rows num old L vold vout outs) {vold' : Value} {t : Int} (ho' : Own w' (i0 + 3) 3 1 vold' (L + 1) (old.flatMap ci ++ [.int .i64 t])) (hf : Fr (bl vold) wr w')
    (hv : vold'.ownBlock = vold.ownBlock ∨ vold'.ownBlock = some wr.heap.size) : CI X w w' i0 A n c rows num (old ++ [t]) (L + 1) vold' vout outs := by
  have hb := h.old.blt
  have hs := h.sep
  have hMs : ∀ b ∈ bl vold, b ∈ MB X vold vout i0 := fun b hb => mem_MB.2 (.inl hb)
  have hsub : ∀ m ∈ MB X vold' vout i0, m ∈ bl vold' ++ MB X vold vout i0 := by
    intro m hm
    rw [List.mem_append, mem_MB]
    rcases mem_MB.1 hm with hm | hm | hm | hm | hm | hm <;> simp [hm]
  obtain ⟨vs, ho, hr⟩ := h.out
  refine ⟨by simp [h.hl], h.sz, h.hX, h.bi.fr hf (fun hin => by have := (hb _ hin).1; omega), h.br.fr hf (fun hin => by have := (hb _ hin).1; omega), h.bn.fr hf (fun hin => by have := (hb _ hin).1; omega), h.bo.fr hf (fun hin => (hs _ hin).2 rfl),
    by simpa [List.flatMap_append, ci] using ho', ⟨vs, ?_, hr.imp fun _ _ hv' => (hv'.app hMs hf hv).sub hsub⟩, (h.rows.app hMs hf hv).sub hsub, ((h.fr.any).trans hf).mono (fun k hk hlt => by have := (hb k hk).1; have := h.sz; omega), ?_⟩
  · have hf2 := hf
    rcases ho with ho | ⟨A', rfl, ho, hA'⟩
    · left
      refine ⟨ho.1, ?_⟩
      rcases ho.2 with h0 | ⟨g, cap, cur, rfl, hg, hh, rest⟩
      · exact .inl h0
      · refine .inr ⟨g, cap, cur, rfl, hg, ?_, rest⟩
        rw [hf.block g (Array.getElem?_eq_some_iff.1 hh).1 (fun hin => (hs g hin).1 (by simp [bl, Value.ownBlock]))]
        exact hh
    · right
      refine ⟨A', rfl, ⟨ho.len, ho.cap, fun hn => ?_⟩, fun a ha => ⟨(hA' a ha).1, Nat.lt_of_lt_of_le (hA' a ha).2 hf.size⟩⟩
      obtain ⟨b, off, hA, _, hlt, hc⟩ := ho.at_ hn
      subst hA
      exact ⟨b, off, rfl, by simp, Nat.lt_of_lt_of_le hlt hf.size, fun j u hu => (hf.cell (p := ⟨b, off + j, none⟩) hlt (fun hin => (hs b hin).1 (by simp [bl, Value.ownBlock]))).trans (hc j u hu)⟩
  · intro b hb'
    rcases hv with e | e
    · exact hs b (by simpa [bl, e] using hb')
    · simp [bl, e] at hb'
      subst hb'
      exact ⟨fun hin => by have := (ho.blt _ hin).2; omega, by have := h.bo.lt; omega⟩
theorem CI.push (h : CI X w wr i0 A n c rows num old L vold vout outs) {vs : List Value} (hr : LRel (LsV cp 2 (MB X vold vout i0) wr) vs outs) {u vout' : Value} {nxt : List Arc} (hn : LsV cp 2 (MB X vold vout i0) wr u nxt)
    (ho' : Own w' (i0 + 5) 44 1 vout' (outs.length + 1) (vs.flatMap cv ++ [u])) (hf : Fr (bl vout) wr w')
    (hv : vout'.ownBlock = vout.ownBlock ∨ vout'.ownBlock = some wr.heap.size) : CI X w (w'.setCell ⟨i0 + 4, 0, none⟩ vout') i0 A n c rows num old L vold vout' (outs ++ [nxt]) := by
  have hs := h.sep
  have hob := h.old.blt
  have hbo := h.bo.lt
  obtain ⟨vs0, ho, _⟩ := h.out
  have hb := ho.blt
  have hMs : ∀ b ∈ bl vout, b ∈ MB X vold vout i0 := fun b hb => mem_MB.2 (.inr (.inl hb))
  have hsub : ∀ m ∈ MB X vold vout' i0, m ∈ bl vout' ++ MB X vold vout i0 := by
    intro m hm
    rw [List.mem_append, mem_MB]
    rcases mem_MB.1 hm with hm | hm | hm | hm | hm | hm <;> simp [hm]
  have hne : ∀ b ∈ bl vout', i0 + 5 ≤ b := (ho'.blt · · |>.1)
  have hf2 : Fr [i0 + 4] w' (w'.setCell ⟨i0 + 4, 0, none⟩ vout') := (Fr.refl _ _).setCell (.inl (by simp)) _
  have hfM : Fr (MB X vold vout' i0) w' (w'.setCell ⟨i0 + 4, 0, none⟩ vout') := hf2.mono (fun k hk _ => by simp at hk; subst hk; exact mem_MB.2 (.inr (.inr (.inr (.inl rfl)))))
  have no : ∀ k, k < i0 + 5 → k ∉ bl vout := fun k hk hin => by have := (hb k hin).1; omega
  refine ⟨h.hl, h.sz, h.hX, (h.bi.fr hf (no _ (by omega))).fr hf2 (by simp), (h.br.fr hf (no _ (by omega))).fr hf2 (by simp), (h.bn.fr hf (no _ (by omega))).fr hf2 (by simp), ?_, ?_, ⟨vs ++ [u], ?_, ?_⟩, ((h.rows.app hMs hf hv).sub hsub).keep hfM, ?_, ?_⟩
  · exact (h.bo.fr hf (no _ (by omega))).set_ 0 vout'
  · have h1 : Own w' (i0 + 3) 3 1 vold L (old.flatMap ci) := by
      rcases h.old with ho | ⟨A', rfl, ho, hA'⟩
      · left
        refine ⟨ho.1, ?_⟩
        rcases ho.2 with h0 | ⟨g, cap, cur, rfl, hg, hh, rest⟩
        · exact .inl h0
        · refine .inr ⟨g, cap, cur, rfl, hg, ?_, rest⟩
          rw [hf.block g (Array.getElem?_eq_some_iff.1 hh).1 (fun hin => (hs g (by simp [bl, Value.ownBlock])).1 hin)]
          exact hh
      · right
        refine ⟨A', rfl, ⟨ho.len, ho.cap, fun hn => ?_⟩, fun a ha => ⟨(hA' a ha).1, Nat.lt_of_lt_of_le (hA' a ha).2 hf.size⟩⟩
        obtain ⟨b, off, hA, _, hlt, hc⟩ := ho.at_ hn
        subst hA
        exact ⟨b, off, rfl, by simp, Nat.lt_of_lt_of_le hlt hf.size, fun j u hu => (hf.cell (p := ⟨b, off + j, none⟩) hlt (fun hin => (hs b (by simp [bl, Value.ownBlock])).1 hin)).trans (hc j u hu)⟩
    rcases h1 with ho | ⟨A', rfl, ho, hA'⟩
    · left
      refine ⟨ho.1, ?_⟩
      rcases ho.2 with h0 | ⟨g, cap, cur, rfl, hg, hh, rest⟩
      · exact .inl h0
      · refine .inr ⟨g, cap, cur, rfl, hg, ?_, rest⟩
        rw [hf2.block g (Array.getElem?_eq_some_iff.1 hh).1 (fun hin => (hs g (by simp [bl, Value.ownBlock])).2 (by simpa using hin))]
        exact hh
    · right
      refine ⟨A', rfl, ⟨ho.len, ho.cap, fun hn => ?_⟩, fun a ha => ⟨(hA' a ha).1, Nat.lt_of_lt_of_le (hA' a ha).2 hf2.size⟩⟩
      obtain ⟨b, off, hA, _, hlt, hc⟩ := ho.at_ hn
      subst hA
      exact ⟨b, off, rfl, by simp, Nat.lt_of_lt_of_le hlt hf2.size, fun j u hu => (hf2.cell (p := ⟨b, off + j, none⟩) hlt (fun hin => (hs b (by simp [bl, Value.ownBlock])).2 (by simpa using hin))).trans (hc j u hu)⟩
  · have := ho'.fr hf2 (by simp)
    simpa [List.flatMap_append, cv] using this
  · exact ((hr.imp fun _ _ hv' => (hv'.app hMs hf hv).sub hsub).snoc ((hn.app hMs hf hv).sub hsub)).imp fun _ _ hv' => hv'.keep hfM
  · exact (((h.fr.any).trans hf).mono (fun k hk hlt => by have := (hb k hk).1; have := h.sz; omega)).setCell (.inr (by rw [h.sz]; show i0 ≤ i0 + 4; omega)) _
  · intro b hb'
    refine ⟨fun hin => ?_, (hs b hb').2⟩
    rcases hv with e | e
    · exact (hs b hb').1 (by simpa [bl, e] using hin)
    · simp [bl, e] at hin
      have := (hob b hb').2
      omega
end
end Go.Proofs.Ytfkpjnmngafnmaa
