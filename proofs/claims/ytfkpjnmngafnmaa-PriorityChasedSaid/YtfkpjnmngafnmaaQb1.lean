/- A boxed system to which rows are appended: q.Out = append(q.Out, row). -/
import Derived.Test.YtfkpjnmngafnmaaCan2
namespace Go.Proofs.Ytfkpjnmngafnmaa
set_option linter.unusedVariables false
set_option linter.unusedSimpArgs false
open Go.RowKit

structure QB (w wr : World) (qb : Nat) (Xs : List Nat) (vout : Value) (outs : List (List Arc)) : Prop where
  sz : w.heap.size ≤ qb
  bq : Blk wr qb 25 [vout]
  out : ∃ vs, Own wr (qb + 1) 44 1 vout outs.length (vs.flatMap cv) ∧ LRel (LsV cp 2 (bl vout ++ (qb :: Xs)) wr) vs outs
  xs : ∀ x ∈ Xs, x < qb
  fr : Fr [] w wr
section
variable {w wr w' : World} {qb : Nat} {Xs : List Nat} {vout : Value} {outs : List (List Arc)}
theorem QB.start {w wr : World} {Xs : List Nat} (hf : Fr [] w wr) (hx : ∀ x ∈ Xs, x < wr.heap.size) : QB w (wr.alloc (.cells #[.slice none 0 0] 25)) wr.heap.size Xs (.slice none 0 0) [] :=
  ⟨hf.size, Blk.new wr _ [_], ⟨[], Own.nil _ _ _ _, LRel.nil⟩, hx, hf.alloc _⟩
theorem QB.mlt (h : QB w wr qb Xs vout outs) : ∀ m ∈ bl vout ++ (qb :: Xs), m < wr.heap.size := by
  intro m hm
  obtain ⟨vs, ho, _⟩ := h.out
  have hq := h.bq.lt
  rcases List.mem_append.1 hm with hm | hm
  · exact (ho.blt m hm).2
  · rcases List.mem_cons.1 hm with rfl | hm
    · exact hq
    · have := h.xs m hm; omega
theorem QB.pure (h : QB w wr qb Xs vout outs) (hf : Fr [] wr w') : QB w w' qb Xs vout outs := by
  obtain ⟨vs, ho, hr⟩ := h.out
  exact ⟨h.sz, h.bq.fr hf (by simp), ⟨vs, ho.fr hf (by simp), hr.imp fun _ _ hv => hv.keep hf.any⟩, h.xs, h.fr.trans hf⟩
theorem QB.push (h : QB w wr qb Xs vout outs) {vs : List Value} (hr : LRel (LsV cp 2 (bl vout ++ (qb :: Xs)) wr) vs outs) {u vout' : Value} {nxt : List Arc} (hn : LsV cp 2 (bl vout ++ (qb :: Xs)) wr u nxt)
    (ho' : Own w' (qb + 1) 44 1 vout' (outs.length + 1) (vs.flatMap cv ++ [u])) (hf : Fr (bl vout) wr w')
    (hv : vout'.ownBlock = vout.ownBlock ∨ vout'.ownBlock = some wr.heap.size) : QB w (w'.setCell ⟨qb, 0, none⟩ vout') qb Xs vout' (outs ++ [nxt]) := by
  obtain ⟨vs0, ho, _⟩ := h.out
  have hb := ho.blt
  have hMs : ∀ b ∈ bl vout, b ∈ bl vout ++ (qb :: Xs) := fun b hb => List.mem_append_left _ hb
  have hsub : ∀ m ∈ bl vout' ++ (qb :: Xs), m ∈ bl vout' ++ (bl vout ++ (qb :: Xs)) := by
    intro m hm
    rcases List.mem_append.1 hm with hm | hm
    · exact List.mem_append_left _ hm
    · exact List.mem_append_right _ (List.mem_append_right _ hm)
  have hf2 : Fr [qb] w' (w'.setCell ⟨qb, 0, none⟩ vout') := (Fr.refl _ _).setCell (.inl (by simp)) _
  have hfM : Fr (bl vout' ++ (qb :: Xs)) w' (w'.setCell ⟨qb, 0, none⟩ vout') := hf2.mono (fun k hk _ => by simp at hk; subst hk; simp)
  have hsz := h.sz
  refine ⟨h.sz, ?_, ⟨vs ++ [u], ?_, ?_⟩, h.xs, ?_⟩
  · exact (h.bq.fr hf (fun hin => by have := (hb _ hin).1; omega)).set_ 0 vout'
  · have := ho'.fr hf2 (by simp)
    simpa [List.flatMap_append, cv] using this
  · exact ((hr.imp fun _ _ hv' => (hv'.app hMs hf hv).sub hsub).snoc ((hn.app hMs hf hv).sub hsub)).imp fun _ _ hv' => hv'.keep hfM
  · exact (((h.fr.any).trans hf).mono (fun k hk hlt => by have := (hb k hk).1; omega)).setCell (.inr hsz) _
/-- what the walk wants behind the append -/
theorem QB.cell (h : QB w wr qb Xs vout outs) : wr.cell? ⟨qb, 0, none⟩ = some vout := h.bq.cellS (i := 0) rfl
theorem QB.after (h : QB w wr qb Xs vout outs) (hf : Fr (bl vout) wr w') : w'.cell? ⟨qb, 0, none⟩ = some vout ∧ w'.frozen? ⟨qb, 0, none⟩ = false := by
  obtain ⟨vs, ho, _⟩ := h.out
  have hb := h.bq.fr hf (fun hin => by have := (ho.blt _ hin).1; omega)
  exact ⟨hb.cellS (i := 0) rfl, hb.frozen 0⟩
/-- what has been collected -/
theorem QB.ll (h : QB w wr qb Xs vout outs) {M : List Nat} (hM : ∀ m ∈ M, m < qb + 1) (hMX : ∀ m ∈ M, m = qb ∨ m ∈ Xs) : ∃ A c, vout = .slice A outs.length c ∧ Ll cp 2 M wr A outs.length c outs := by
  obtain ⟨vs, ho, hr⟩ := h.out
  have hfl : vs.flatMap cv = vs := by show vs.flatMap (fun x => [x]) = vs; simp
  obtain ⟨A, c, rfl, _⟩ := ho.form
  exact ⟨A, c, rfl, vs, ⟨ho.sl hM, hr.1⟩, hr.imp fun _ _ h => h.sub (fun m hm => by
    rcases hMX m hm with rfl | hm
    · simp
    · simp [hm])⟩
end
end Go.Proofs.Ytfkpjnmngafnmaa
