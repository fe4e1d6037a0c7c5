/- The program's Canonical (rows): the memory in its midst. -/
import Derived.Test.YtfkpjnmngafnmaaCan3
import Derived.Test.YtfkpjnmngafnmaaCpt2
import Derived.Test.YtfkpjnmngafnmaaRows1
namespace Go.Proofs.Ytfkpjnmngafnmaa
set_option linter.unusedVariables false
set_option linter.unusedSimpArgs false
open Go.RowKit Go.Shelf Go.Sort

/-- rows that have been collected: they avoid the blocks of F -/
structure RO (F : List Nat) (B : Nat) (wr : World) (vout : Value) (outs : List (List Arc)) : Prop where
  out : ∃ vs, Own wr B 44 1 vout outs.length (vs.flatMap cv) ∧ LRel (LsV cp 2 (bl vout ++ F) wr) vs outs
  sep : ∀ b ∈ bl vout, b ∉ F
section
variable {F F' M : List Nat} {B : Nat} {wr w' : World} {vout vout' u : Value} {outs : List (List Arc)} {nxt : List Arc} {vs : List Value}
theorem RO.start (F : List Nat) (B : Nat) (wr : World) : RO F B wr (.slice none 0 0) [] := ⟨⟨[], Own.nil _ _ _ _, LRel.nil⟩, by simp [bl, Value.ownBlock]⟩
theorem RO.keep (h : RO F B wr vout outs) (hf : Fr M wr w') (hM : ∀ m ∈ M, m < wr.heap.size → m ∈ F) : RO F B w' vout outs := by
  obtain ⟨vs, ho, hr⟩ := h.out
  refine ⟨⟨vs, ho.keep hf fun b hb hin => ?_, hr.imp fun _ _ hv => hv.keep (hf.mono fun k hk hlt => List.mem_append_right _ (hM k hk hlt))⟩, h.sep⟩
  have hb' : b ∈ bl vout := by simp [bl, hb]
  exact h.sep b hb' (hM b hin (ho.blt b hb').2)
theorem RO.new (h : RO F B wr vout outs) {g : Nat} (hg : wr.heap.size ≤ g) : RO (g :: F) B wr vout outs := by
  obtain ⟨vs, ho, hr⟩ := h.out
  refine ⟨⟨vs, ho, hr.imp fun _ _ hv => (hv.new hg).sub (fun m hm => by simp at hm ⊢; rcases hm with hm | hm | hm <;> simp [hm])⟩, fun b hb hin => ?_⟩
  rcases List.mem_cons.1 hin with rfl | hin
  · have := (ho.blt _ hb).2; omega
  · exact h.sep b hb hin
theorem RO.sub (h : RO F B wr vout outs) (hs : ∀ m ∈ F', m ∈ F) : RO F' B wr vout outs := by
  obtain ⟨vs, ho, hr⟩ := h.out
  exact ⟨⟨vs, ho, hr.imp fun _ _ hv => hv.sub (fun m hm => by
    rcases List.mem_append.1 hm with hm | hm
    · exact List.mem_append_left _ hm
    · exact List.mem_append_right _ (hs m hm))⟩, fun b hb hin => h.sep b hb (hs b hin)⟩
/-- behind an append to another value of one's own -/
theorem RO.app {v v' : Value} (h : RO F B wr vout outs) (hv : ∀ b ∈ bl v, b ∈ F) (hf : Fr (bl v) wr w') (hv' : v'.ownBlock = v.ownBlock ∨ v'.ownBlock = some wr.heap.size) : RO (bl v' ++ F) B w' vout outs := by
  have h1 : RO F B w' vout outs := h.keep hf (fun m hm _ => hv m hm)
  rcases hv' with e | e
  · exact h1.sub (fun m hm => by
      rcases List.mem_append.1 hm with hm | hm
      · exact hv m (by simpa [bl, e] using hm)
      · exact hm)
  · have h2 := (h.new (Nat.le_refl _)).keep hf (fun m hm _ => List.mem_cons_of_mem _ (hv m hm))
    exact h2.sub (fun m hm => by simpa [bl, e] using hm)
theorem RO.push (h : RO F B wr vout outs) (hr : LRel (LsV cp 2 (bl vout ++ F) wr) vs outs) (hn : LsV cp 2 (bl vout ++ F) wr u nxt) (ho' : Own w' B 44 1 vout' (outs.length + 1) (vs.flatMap cv ++ [u])) (hf : Fr (bl vout) wr w')
    (hv : vout'.ownBlock = vout.ownBlock ∨ vout'.ownBlock = some wr.heap.size) (hF : ∀ m ∈ F, m < wr.heap.size) : RO F B w' vout' (outs ++ [nxt]) := by
  have hMs : ∀ b ∈ bl vout, b ∈ bl vout ++ F := fun b hb => List.mem_append_left _ hb
  have hsub : ∀ m ∈ bl vout' ++ F, m ∈ bl vout' ++ (bl vout ++ F) := by
    intro m hm
    rcases List.mem_append.1 hm with hm | hm
    · exact List.mem_append_left _ hm
    · exact List.mem_append_right _ (List.mem_append_right _ hm)
  refine ⟨⟨vs ++ [u], by simpa [List.flatMap_append, cv] using ho', ((hr.imp fun _ _ hv' => (hv'.app hMs hf hv).sub hsub).snoc ((hn.app hMs hf hv).sub hsub))⟩, fun b hb hin => ?_⟩
  rcases hv with e | e
  · exact h.sep b (by simpa [bl, e] using hb) hin
  · simp [bl, e] at hb
    subst hb
    have := hF _ hin; omega
theorem RO.ll (h : RO F B wr vout outs) {X : List Nat} (hX : ∀ m ∈ X, m < B) (hXF : ∀ m ∈ X, m ∈ F) : ∃ A c, vout = .slice A outs.length c ∧ Ll cp 2 X wr A outs.length c outs := by
  obtain ⟨vs, ho, hr⟩ := h.out
  have hfl : vs.flatMap cv = vs := by show vs.flatMap (fun x => [x]) = vs; simp
  obtain ⟨A, c, rfl, _⟩ := ho.form
  exact ⟨A, c, rfl, vs, ⟨ho.sl hX, hr.1⟩, hr.imp fun _ _ h => h.sub (fun m hm => List.mem_append_right _ (hXF m hm))⟩
end

/-- in the midst of the program's Canonical, between rounds -/
structure PI (X : List Nat) (w wr : World) (nb B : Nat) (num old : List Int) (L : Nat) (vold vout : Value) (outs : List (List Arc)) : Prop where
  hl : old.length = L
  fr : Fr [] w wr
  wnb : w.heap.size ≤ nb
  nbB : nb < B
  Bs : B ≤ wr.heap.size
  bn : Blk wr nb 3 (num.map (Value.int .i64))
  old : Own wr B 3 1 vold L (old.flatMap ci)
  out : RO (bl vold ++ nb :: X) B wr vout outs
section
variable {X M : List Nat} {w wr w' : World} {nb B L : Nat} {num old : List Int} {vold vout vold' vout' u : Value} {outs : List (List Arc)} {nxt : List Arc} {vs : List Value}
theorem PI.pure (h : PI X w wr nb B num old L vold vout outs) (hf : Fr [] wr w') : PI X w w' nb B num old L vold vout outs :=
  ⟨h.hl, h.fr.trans hf, h.wnb, h.nbB, Nat.le_trans h.Bs hf.size, h.bn.fr hf (by simp), h.old.fr hf (by simp), h.out.keep hf (by simp)⟩
/-- another block of one's own is turned -/
theorem PI.aside (h : PI X w wr nb B num old L vold vout outs) {g : Nat} (hf : Fr [g] wr w') (hg : B ≤ g) (h1 : g ∉ bl vold) (h3 : RO (g :: (bl vold ++ nb :: X)) B wr vout outs) :
    PI X w w' nb B num old L vold vout outs ∧ RO (g :: (bl vold ++ nb :: X)) B w' vout outs := by
  have h4 : RO (g :: (bl vold ++ nb :: X)) B w' vout outs := h3.keep hf (by simp)
  have hw := h.wnb; have hn := h.nbB
  exact ⟨⟨h.hl, (h.fr.any.trans hf).drop (by omega), h.wnb, h.nbB, Nat.le_trans h.Bs hf.size, h.bn.fr hf (by simp; omega), h.old.keep hf (fun b hb hin => h1 (by simp at hin; subst hin; simp [bl, hb])), h4.sub (by simp; intro a ha; exact .inr ha)⟩, h4⟩
theorem PI.num_ (h : PI X w wr nb B num old L vold vout outs) (j : Nat) (x : Int) : PI X w (wr.setCell ⟨nb, j, none⟩ (.int .i64 x)) nb B (num.set j x) old L vold vout outs := by
  have hf : Fr [nb] wr (wr.setCell ⟨nb, j, none⟩ (.int .i64 x)) := (Fr.refl _ _).setCell (.inl (by simp)) _
  have hn := h.nbB
  refine ⟨h.hl, h.fr.setCell (.inr h.wnb) _, h.wnb, h.nbB, by simpa [size_setCell] using h.Bs, by rw [List.map_set]; exact h.bn.set_ j _, h.old.fr hf (by simp; omega), h.out.keep hf (by simp)⟩
end

/-- .. in the midst of a round: with the row in hand -/
structure PJ (X : List Nat) (w wr : World) (nb B : Nat) (num old : List Int) (L : Nat) (vold vout : Value) (outs : List (List Arc)) (va : Value) (ya : List Arc) (m : Nat) : Prop where
  p : PI X w wr nb B num old L vold vout outs
  row : Row wr B 46 2 va m (ya.flatMap cp)
  hm : ya.length = m
  sep : ∀ b ∈ bl va, b ∉ bl vold
  out : RO (bl va ++ (bl vold ++ nb :: X)) B wr vout outs
section
variable {X M : List Nat} {w wr w' : World} {nb B L m m' : Nat} {num old : List Int} {vold vout vold' vout' va va' u : Value} {outs : List (List Arc)} {ya ya' : List Arc} {vs : List Value}
theorem PJ.start (h : PI X w wr nb B num old L vold vout outs) (hf : Fr [] wr w') (hrow : Row w' wr.heap.size 46 2 va m (ya.flatMap cp)) (hm : ya.length = m) : PJ X w w' nb B num old L vold vout outs va ya m := by
  have hb := hrow.own.blt
  have hB := h.Bs
  have hrow' : Row w' B 46 2 va m (ya.flatMap cp) := by
    rcases hrow with ⟨h1, h2, A, h3, h4⟩ | ⟨h1, h2, h3 | ⟨g, cap, cur, h3, h4, h5⟩⟩
    · exact .inl ⟨h1, h2, A, h3, fun a ha => ⟨Nat.le_trans hB (h4 a ha).1, (h4 a ha).2⟩⟩
    · exact .inr ⟨h1, h2, .inl h3⟩
    · exact .inr ⟨h1, h2, .inr ⟨g, cap, cur, h3, Nat.le_trans hB h4, h5⟩⟩
  refine ⟨h.pure hf, hrow', hm, fun b hbv hin => by have := (hb b hbv).1; have := (h.old.blt b hin).2; omega, ?_⟩
  have h0 := h.out
  cases hv : va.ownBlock with
  | none => simpa [bl, hv] using h0.keep hf (by simp)
  | some g =>
    have hg := (hb g (by simp [bl, hv])).1
    simpa [bl, hv] using (h0.new hg).keep hf (by simp)
theorem PJ.pure (h : PJ X w wr nb B num old L vold vout outs va ya m) (hf : Fr [] wr w') : PJ X w w' nb B num old L vold vout outs va ya m :=
  ⟨h.p.pure hf, h.row.keep hf (by simp), h.hm, h.sep, h.out.keep hf (by simp)⟩
theorem PJ.aside (h : PJ X w wr nb B num old L vold vout outs va ya m) (hf : Fr (bl va) wr w') (hrow : Row w' B 46 2 va' m' (ya'.flatMap cp)) (hm : ya'.length = m') (hs : ∀ b, va'.ownBlock = some b → va.ownBlock = some b) : PJ X w w' nb B num old L vold vout outs va' ya' m' := by
  have hb := h.row.own.blt
  have hw := h.p.wnb; have hn := h.p.nbB
  have hsub : ∀ b ∈ bl va', b ∈ bl va := fun b hb => by simp [bl] at hb ⊢; exact hs b hb
  have h4 := h.out.keep hf (fun k hk _ => List.mem_append_left _ hk)
  refine ⟨⟨h.p.hl, ?_, h.p.wnb, h.p.nbB, Nat.le_trans h.p.Bs hf.size, h.p.bn.fr hf (fun hin => by have := (hb _ hin).1; omega), h.p.old.keep hf (fun b hbv hin => h.sep b hin (by simp [bl, hbv])), h4.sub (fun k hk => List.mem_append_right _ hk)⟩, hrow, hm, fun b hb' => h.sep b (hsub b hb'), h4.sub (fun k hk => ?_)⟩
  · exact (h.p.fr.any.trans hf).mono (fun k hk hlt => by have := (hb k hk).1; omega)
  · rcases List.mem_append.1 hk with hk | hk
    · exact List.mem_append_left _ (hsub k hk)
    · exact List.mem_append_right _ hk
theorem PJ.num_ (h : PJ X w wr nb B num old L vold vout outs va ya m) (j : Nat) (x : Int) : PJ X w (wr.setCell ⟨nb, j, none⟩ (.int .i64 x)) nb B (num.set j x) old L vold vout outs va ya m := by
  have hf : Fr [nb] wr (wr.setCell ⟨nb, j, none⟩ (.int .i64 x)) := (Fr.refl _ _).setCell (.inl (by simp)) _
  have hn := h.p.nbB
  exact ⟨h.p.num_ j x, h.row.keep hf (fun b hb hin => by have := (h.row.own.blk2 b hb).1; simp at hin; omega), h.hm, h.sep, h.out.keep hf (by simp)⟩
theorem PJ.set1 {ga cap k : Nat} {e t : Int} (h : PJ X w wr nb B num old L vold vout outs (.slice (some ⟨ga, 0, none⟩) m cap) ya m) (hk : ya[k]? = some (e, t)) (y : Int) :
    PJ X w (wr.setCell ⟨ga, k * 2 + 1, none⟩ (.int .i64 y)) nb B num old L vold vout outs (.slice (some ⟨ga, 0, none⟩) m cap) (ya.set k (e, y)) m := by
  have hl := (List.getElem?_eq_some_iff.1 hk).1
  have hm := h.hm
  obtain ⟨g, cap', rest, hv, hB, hc1, hc2, hAB, hlen⟩ := AB.of_row h.row hm (by omega)
  injection hv with e1 e2 e3
  injection e1 with e1; injection e1 with e1
  subst e1; subst e3
  have hf : Fr (bl (.slice (some ⟨ga, 0, none⟩) m cap)) wr (wr.setCell ⟨ga, k * 2 + 1, none⟩ (.int .i64 y)) := (Fr.refl _ _).setCell (.inl (by simp [bl, Value.ownBlock])) _
  refine h.aside hf ((hAB.set1 hk y).row (by omega) hB hc1 hc2 ?_) (by simp [hm]) (fun _ h => h)
  rw [← hlen]
  simp only [List.length_append, flat_len cp 2 (fun _ => rfl), List.length_set]
theorem PJ.app (h : PJ X w wr nb B num old L vold vout outs va ya m) {t : Int} (ho' : Own w' B 3 1 vold' (L + 1) (old.flatMap ci ++ [.int .i64 t])) (hf : Fr (bl vold) wr w')
    (hv : vold'.ownBlock = vold.ownBlock ∨ vold'.ownBlock = some wr.heap.size) : PJ X w w' nb B num (old ++ [t]) (L + 1) vold' vout outs va ya m := by
  have hb := h.p.old.blt
  have hw := h.p.wnb; have hn := h.p.nbB
  have h4 := h.out.app (v := vold) (v' := vold') (fun b hb => by simp [hb]) hf hv
  have h5 : ∀ b ∈ bl va, b ∉ bl vold' := fun b hbv hin => by
    rcases hv with e | e
    · exact h.sep b hbv (by simpa [bl, e] using hin)
    · simp [bl, e] at hin
      subst hin
      have := (h.row.own.blt _ hbv).2; omega
  refine ⟨⟨by simp [h.p.hl], ?_, h.p.wnb, h.p.nbB, Nat.le_trans h.p.Bs hf.size, h.p.bn.fr hf (fun hin => by have := (hb _ hin).1; omega), by simpa [List.flatMap_append, ci] using ho', h4.sub (fun k hk => ?_)⟩, h.row.keep hf (fun b hbv hin => h.sep b (by simp [bl, hbv]) hin), h.hm, h5, h4.sub (fun k hk => ?_)⟩
  · exact (h.p.fr.any.trans hf).mono (fun k hk hlt => by have := (hb k hk).1; omega)
  · simp only [List.mem_append, List.mem_cons] at hk ⊢
    rcases hk with hk | hk | hk <;> simp [hk]
  · simp only [List.mem_append, List.mem_cons] at hk ⊢
    rcases hk with hk | hk | hk | hk <;> simp [hk]
theorem PJ.finish (h : PJ X w wr nb B num old L vold vout outs va ya m) (hr : LRel (LsV cp 2 (bl vout ++ (bl va ++ (bl vold ++ nb :: X))) wr) vs outs) (ho' : Own w' B 44 1 vout' (outs.length + 1) (vs.flatMap cv ++ [va])) (hf : Fr (bl vout) wr w')
    (hv : vout'.ownBlock = vout.ownBlock ∨ vout'.ownBlock = some wr.heap.size) (hX : ∀ x ∈ X, x < w.heap.size) : PI X w w' nb B num old L vold vout' (outs ++ [ya]) := by
  have hb := h.p.old.blt
  have hw := h.p.wnb; have hn := h.p.nbB; have hBs := h.p.Bs
  obtain ⟨vs0, ho, _⟩ := h.p.out.out
  have hbo := ho.blt
  have hsv : ∀ b, vold.ownBlock = some b → b ∉ bl vout := fun b hbv hin => h.p.out.sep b hin (by simp [bl, hbv])
  refine ⟨h.p.hl, (h.p.fr.any.trans hf).mono (fun k hk hlt => by have := (hbo k hk).1; omega), h.p.wnb, h.p.nbB, Nat.le_trans h.p.Bs hf.size, h.p.bn.fr hf (fun hin => by have := (hbo _ hin).1; omega), h.p.old.keep hf hsv, ?_⟩
  refine h.p.out.push (vs := vs) (u := va) (hr.imp fun _ _ hv => hv.sub fun k hk => ?_) ?_ ho' hf hv ?_
  · simp only [List.mem_append, List.mem_cons] at hk ⊢
    rcases hk with hk | hk | hk | hk <;> simp [hk]
  · obtain ⟨A, c, rfl, _⟩ := h.row.own.form
    refine ⟨A, m, c, rfl, ?_, h.hm⟩
    have hbl := h.row.own.blt
    have h0 := h.row.own.sl (M := []) (by simp)
    refine ⟨h0.len, h0.cap, fun hp => ?_⟩
    obtain ⟨b, off, hA, _, hlt, hc⟩ := h0.at_ hp
    subst hA
    refine ⟨b, off, rfl, ?_, hlt, hc⟩
    have hbm : b ∈ bl (.slice (some ⟨b, off, none⟩) m c) := by simp [bl, Value.ownBlock]
    have hB := (hbl b hbm).1
    simp only [List.mem_append, List.mem_cons, not_or]
    refine ⟨fun hin => ?_, h.sep b hbm, by omega, fun hin => by have := hX b hin; omega⟩
    exact h.out.sep b hin (List.mem_append_left _ hbm)
  · intro k hk
    simp only [List.mem_append, List.mem_cons] at hk
    rcases hk with hk | rfl | hk
    · exact (hb k hk).2
    · exact h.p.bn.lt
    · have := hX k hk; omega
end
end Go.Proofs.Ytfkpjnmngafnmaa
