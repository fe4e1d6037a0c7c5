/- The runner: regions in all orders. -/
import Derived.Test.YtglchakimolfdaaDoorAm37
namespace Go.Proofs.YtglchakimolfdaaDoor
set_option linter.unusedVariables false
set_option linter.unusedSimpArgs false
open Go.RowKit

def wpO (P : Program) (ops : Array Oper) (Q : Exit → Act → World → Prop) : Od → Act → World → Prop
 | .nil, a, w => Q .normal a w
 | .pu i r, a, w => ∃ oi v, ops[i]? = some oi ∧ YieldsIf P ops (fun _ => True) oi v a ∧ wpO P ops Q r (a.put oi.dst v) w
 | .fk i r rest, a, w => wpOp P ops Q i (fun a' w' => wpO P ops Q r a' w') a w ∧ wpO P ops Q rest a w
 | .al i j p r, a, w => wpOp P ops Q i (fun a' w' => ∃ oi v, ops[p]? = some oi ∧ YieldsIf P ops (fun _ => True) oi v a' ∧ wpOp P ops Q j (fun a' w' => wpO P ops Q r a' w') (a'.put oi.dst v) w') a w ∧
   wpOp P ops Q j (fun a' w' => wpOp P ops Q i (fun a' w' => ∃ oi v, ops[p]? = some oi ∧ YieldsIf P ops (fun _ => True) oi v a' ∧ wpO P ops Q r (a'.put oi.dst v) w') a' w') a w
 | .no, _, _ => True
section
variable {P : Program} {ops : Array Oper} {Q : Exit → Act → World → Prop}
theorem anyP_of_any {md : Region.Mode} {stop : Nat} : ∀ (fuel : Nat) (listed : Array Bool) (a : Act) (w : World), wpAny P md ops Q fuel listed a w → wpAnyP P md ops Q (fun _ => True) stop fuel listed a w
 | 0, _, _, _, h => h
 | fuel + 1, _, _, _, h => ⟨h.1, fun i hi => wpOp_mono (fun a' w' h' => ⟨.inr trivial, anyP_of_any fuel _ a' w' h'⟩) (h.2 i hi)⟩
theorem pu_any (hs : Region.noSelect ops = true) (hQ : ∀ c (a : Act) (d : Option Tmp) (v : Value) w, Q (.panic c) (a.put d v) w → Q (.panic c) a w) {i m : Nat} {listed : Array Bool} {a : Act} {w : World} (hcl : Closed .any ops listed) (hf : Region.free .any ops listed i = true) (hr : i ∈ Region.ready .any ops listed)
  {oi : Oper} {v : Value} (hi : ops[i]? = some oi) (hy : YieldsIf P ops (fun _ => True) oi v a) (h : wpAny P .any ops Q m (listed.setIfInBounds i true) (a.put oi.dst v) w) : wpAny P .any ops Q (m + 1) listed a w := by
 refine wpAny_of_P (S := fun _ => True) (stop := i + 1) _ _ _ _ ?_
 exact wpAnyP_first' (S1 := fun _ => True) hi (Region.noSelect_spec hs) hQ (by omega) (fun _ _ _ _ _ => trivial) m listed a w hcl (Region.free_spec hi hf) hr hy (.inr trivial) (anyP_of_any m _ _ w h)
theorem any_of_O (hs : Region.noSelect ops = true) (hQ : ∀ c (a : Act) (d : Option Tmp) (v : Value) w, Q (.panic c) (a.put d v) w → Q (.panic c) a w) :
  ∀ (t : Od) (c : Bool) (n : Nat) (listed : Array Bool) (a : Act) (w : World), Closed .any ops listed → chkO ops t c n listed = true → wpO P ops Q t a w →
   (c = false → wpAny P .any ops Q n listed a w) ∧ (c = true → (∀ i ∈ t.ids, i ∈ Region.ready .any ops listed) → ∀ m, n = m + 1 → ∀ i ∈ t.ids, wpOp P ops Q i (wpAny P .any ops Q m (listed.setIfInBounds i true)) a w)
 | .nil, c, n, listed, a, w, hcl, hc, h => by
  simp only [chkO, beqT, Bool.and_eq_true, decide_eq_true_eq, List.isEmpty_iff, Bool.not_eq_true'] at hc
  obtain ⟨rfl, rfl, he⟩ := hc
  exact ⟨fun _ => ⟨he, h⟩, fun e => (by cases e)⟩
 | .pu i r, c, n, listed, a, w, hcl, hc, h => by
  cases n with
  | zero => simp [chkO] at hc
  | succ m =>
   simp only [chkO, Bool.and_eq_true, Bool.not_eq_true', List.contains_eq_mem, decide_eq_true_eq] at hc
   obtain ⟨rfl, hf, hr, hc⟩ := hc
   obtain ⟨oi, v, hi, hy, hT⟩ := h
   refine ⟨fun _ => ?_, fun e => (by cases e)⟩
   have ih := (any_of_O hs hQ r false m _ _ w (hcl.step hr) hc hT).1 rfl
   refine wpAny_of_P (S := fun _ => True) (stop := i + 1) _ _ _ _ ?_
   exact wpAnyP_first' (S1 := fun _ => True) hi (Region.noSelect_spec hs) hQ (by omega) (fun _ _ _ _ _ => trivial) m listed a w hcl (Region.free_spec hi hf) hr hy (.inr trivial) (anyP_of_any m _ _ w ih)
 | .fk i r rest, c, n, listed, a, w, hcl, hc, h => by
  cases n with
  | zero => simp [chkO] at hc
  | succ m =>
   simp only [chkO, Bool.and_eq_true, Bool.or_eq_true, beq_iff_eq] at hc
   obtain ⟨h0, h1, h2⟩ := hc
   have key : (∀ j ∈ (Od.fk i r rest).ids, j ∈ Region.ready .any ops listed) → ∀ j ∈ (Od.fk i r rest).ids, wpOp P ops Q j (wpAny P .any ops Q m (listed.setIfInBounds j true)) a w := by
    intro hall j hj
    simp only [Od.ids, List.mem_cons] at hj
    rcases hj with rfl | hj
    ·exact wpOp_mono (fun a' w' h' => (any_of_O hs hQ r false m _ a' w' (hcl.step (hall j (by simp [Od.ids]))) h1 h').1 rfl) h.1
    ·exact (any_of_O hs hQ rest true (m + 1) listed a w hcl h2 h.2).2 rfl (fun q hq => hall q (by simp [Od.ids, hq])) m rfl j hj
   refine ⟨fun e => ?_, fun _ hall m' hm j hj => ?_⟩
   ·subst e
    have hrd : Region.ready .any ops listed = i :: rest.ids := by simpa using h0
    refine ⟨fun e => (by rw [hrd] at e; cases e), fun j hj => ?_⟩
    exact key (fun q hq => by rw [hrd]; exact hq) j (by rw [hrd] at hj; exact hj)
   ·obtain rfl : m = m' := by omega
    exact key hall j hj
 | .al i j p r, c, n, listed, a, w, hcl, hc, h => by
  match n, hc with
  | 0, hc => simp [chkO] at hc
  | 1, hc => simp [chkO] at hc
  | 2, hc => simp [chkO] at hc
  | m + 3, hc =>
   simp only [chkO, Bool.and_eq_true, Bool.not_eq_true', beq_iff_eq, List.contains_eq_mem, decide_eq_true_eq] at hc
   obtain ⟨rfl, h0, f1, f2, h1, h3, h2, f3, f4, h4⟩ := hc
   refine ⟨fun _ => ?_, fun e => (by cases e)⟩
   have hi : i ∈ Region.ready .any ops listed := by rw [h0]; simp
   have hj : j ∈ Region.ready .any ops listed := by rw [h0]; simp
   have hpj : j ∈ Region.ready .any ops ((listed.setIfInBounds i true).setIfInBounds p true) := by rw [h1]; simp
   have hji : i ∈ Region.ready .any ops (listed.setIfInBounds j true) := by rw [h2]; simp
   refine ⟨fun e => (by rw [h0] at e; cases e), fun q hq => ?_⟩
   rw [h0] at hq
   simp only [List.mem_cons, List.not_mem_nil, or_false] at hq
   rcases hq with rfl | rfl
   ·refine wpOp_mono (fun a' w' ⟨oi, v, e1, e2, h'⟩ => pu_any hs hQ (hcl.step hi) f1 f2 e1 e2 ⟨fun e => (by rw [h1] at e; cases e), fun q' hq' => ?_⟩) h.1
    rw [h1] at hq'
    simp only [List.mem_cons, List.not_mem_nil, or_false] at hq'
    subst hq'
    exact wpOp_mono (fun a' w' h' => (any_of_O hs hQ r false m _ a' w' (((hcl.step hi).step f2).step hpj) h3 h').1 rfl) h'
   ·refine wpOp_mono (fun a' w' h' => ⟨fun e => (by rw [h2] at e; cases e), fun q' hq' => ?_⟩) h.2
    rw [h2] at hq'
    simp only [List.mem_cons, List.not_mem_nil, or_false] at hq'
    subst hq'
    exact wpOp_mono (fun a' w' ⟨oi, v, e1, e2, h'⟩ => pu_any hs hQ ((hcl.step hj).step hji) f3 f4 e1 e2 ((any_of_O hs hQ r false m _ _ w' (((hcl.step hj).step hji).step f4) h4 h').1 rfl)) h'
 | .no, c, n, listed, a, w, hcl, hc, h => by
  simp only [chkO] at hc
  subst hc
  exact ⟨fun e => (by cases e), fun _ _ _ _ i hi => (by simp [Od.ids] at hi)⟩
end
def LstO (P : Program) (ops : Array Oper) (t : Od) (st : ST) (K : ST → Prop) : Prop :=
 ∀ (M0 : Fm) (w0 : World) (a : Act) (w : World) (Q : Exit → Act → World → Prop), Rel M0 w0 st a w → (∀ st' a' w', K st' → Rel M0 w0 st' a' w' → Q .normal a' w') → wpO P ops Q t a w
section
variable {P : Program} {T : Tb} {ops : Array Oper} {st : ST}
theorem aw_regionO {Q : Exit → ST → Prop} {id : Nat} {l : List Oper} (t : Od) (hm : P.follows .mixedOrders = true) (hs : (Region.noSelect l.toArray && chkO l.toArray t false l.toArray.size (Array.replicate l.toArray.size false)) = true)
  (hQ : ∀ c st, ¬ Q (.panic c) st) (h : LstO P l.toArray t st (Q .normal)) : AW P (.region id l.toArray true) st Q := by
 intro M0 w0 a w hR
 simp only [Bool.and_eq_true] at hs
 refine wp_region_any hm ?_
 refine (any_of_O hs.1 (fun c a d v w ⟨st', _, h⟩ => (hQ c st' h).elim) t false _ _ a _ ?_ hs.2 (h M0 w0 a w.drew _ hR.drew fun st' a' w' h1 h2 => ⟨st', h2, h1⟩)).1 rfl
 intro j o hj hlist
 exfalso
 simp [Array.getElem?_replicate] at hlist
 split at hlist <;> simp at hlist

/-! states that are the same -/
theorem eqL_ok {α : Type} {f : α → α → Bool} (hf : ∀ a b, f a b = true → a = b) : ∀ (l m : List α), eqL f l m = true → l = m
 | [], [], _ => rfl
 | a :: r, b :: s, h => by
  simp only [eqL, Bool.and_eq_true] at h
  rw [hf a b h.1, eqL_ok hf r s h.2]
 | [], _ :: _, h => by simp [eqL] at h
 | _ :: _, [], h => by simp [eqL] at h
theorem eqIL_ok : ∀ (l m : List Value), eqIL l m = true → l = m := by
 intro l
 induction l with
 | nil => intro m h; cases m with
  | nil => rfl
  | cons y ys => simp [eqIL] at h
 | cons x xs ih =>
  intro m h
  unfold eqIL at h
  split at h
  ·rename_i h1; cases h1
  ·rename_i k a r k' b s h1
   cases h1
   simp only [Bool.and_eq_true, decide_eq_true_eq, beq_iff_eq] at h
   obtain ⟨rfl, rfl, h⟩ := h
   rw [ih _ h]
  ·cases h
theorem eqV_ok : ∀ a b : Value, eqV a b = true → a = b := by
 intro a b h
 unfold eqV at h
 split at h
 ·simp only [Bool.and_eq_true, decide_eq_true_eq, beq_iff_eq] at h
  obtain ⟨rfl, rfl⟩ := h
  rfl
 ·simp only [beq_iff_eq] at h; rw [h]
 ·simp only [beqT, Bool.and_eq_true, decide_eq_true_eq] at h
  obtain ⟨rfl, rfl⟩ := h
  rfl
 ·simp only [beq_iff_eq] at h; rw [h]
 ·rfl
 ·rw [eqIL_ok _ _ h]
 ·rfl
 ·rfl
 ·rfl
 ·cases h
theorem eqC_ok : ∀ a b : C, eqC a b = true → a = b := by
 intro a b h
 unfold eqC at h
 split at h
 ·rfl
 ·rw [eqV_ok _ _ h]
 ·simp only [beqT, Bool.and_eq_true, decide_eq_true_eq] at h; rw [h.1, h.2]
 ·simp only [beqT, Bool.and_eq_true, decide_eq_true_eq] at h; rw [h.1, h.2]
 ·simp only [beqT, decide_eq_true_eq] at h; rw [h]
 ·simp only [beqT, Bool.and_eq_true, decide_eq_true_eq] at h; rw [h.1, h.2.1, h.2.2.1, h.2.2.2]
 ·simp only [beqT, decide_eq_true_eq] at h; rw [h]
 ·simp only [beqT, Bool.and_eq_true, decide_eq_true_eq] at h
  rw [h.1, eqL_ok (f := Nat.beq) (fun a b e => by simpa [beqT] using e) _ _ h.2]
 ·simp only [beqT, Bool.and_eq_true, decide_eq_true_eq] at h
  rw [h.1, h.2.1, h.2.2.1, eqL_ok (f := Nat.beq) (fun a b e => by simpa [beqT] using e) _ _ h.2.2.2]
 ·cases h
theorem eqA_ok : ∀ a b : A0, eqA a b = true → a = b := by
 intro a b h
 unfold eqA at h
 split at h
 ·rw [eqC_ok _ _ h]
 ·rw [eqL_ok eqC_ok _ _ h]
 ·cases h
theorem eqAV_ok : ∀ a b : AV, eqAV a b = true → a = b := by
 intro a b h
 unfold eqAV at h
 split at h
 ·rw [eqA_ok _ _ h]
 ·rw [eqL_ok eqA_ok _ _ h]
 ·cases h
theorem eqO_ok : ∀ a b : Ob, eqO a b = true → a = b := by
 intro a b h
 unfold eqO at h
 split at h
 ·rfl
 ·rfl
 ·simp only [beqT, Bool.and_eq_true, decide_eq_true_eq, beq_iff_eq] at h
  obtain ⟨rfl, rfl, rfl, h⟩ := h
  rw [eqL_ok eqC_ok _ _ h]
 ·rw [eqL_ok (f := fun (p q : Value × C) => eqV p.1 q.1 && eqC p.2 q.2) (fun p q e => by
   simp only [Bool.and_eq_true] at e
   obtain ⟨p1, p2⟩ := p
   obtain ⟨q1, q2⟩ := q
   simp only at e
   rw [eqV_ok _ _ e.1, eqC_ok _ _ e.2]) _ _ h]
 ·cases h
theorem eqBt_ok {α : Type} {f : α → α → Bool} (hf : ∀ a b, f a b = true → a = b) : ∀ (l m : Bt α), eqBt f l m = true → l = m
 | .e, .e, _ => rfl
 | .n none l r, .n none l' r', h => by
  simp only [eqBt, Bool.and_eq_true] at h
  rw [eqBt_ok hf l l' h.1, eqBt_ok hf r r' h.2]
 | .n (some x) l r, .n (some x') l' r', h => by
  simp only [eqBt, Bool.and_eq_true] at h
  rw [hf _ _ h.1, eqBt_ok hf l l' h.2.1, eqBt_ok hf r r' h.2.2]
 | .e, .n _ _ _, h => by simp [eqBt] at h
 | .n _ _ _, .e, h => by simp [eqBt] at h
 | .n none _ _, .n (some _) _ _, h => by simp [eqBt] at h
 | .n (some _) _ _, .n none _ _, h => by simp [eqBt] at h
theorem eqRS_ok {a b : RS} (h : eqRS a b = true) : a = b := by
 obtain ⟨a1, a2, a3, a4, a5⟩ := a
 obtain ⟨b1, b2, b3, b4, b5⟩ := b
 simp only [eqRS, beqT, Bool.and_eq_true, decide_eq_true_eq] at h
 obtain ⟨h1, h2, rfl, rfl, rfl⟩ := h
 rw [eqBt_ok eqAV_ok _ _ h1, eqBt_ok eqO_ok _ _ h2]
theorem Bt.get_map {α β : Type} (f : α → β) : ∀ (t : Bt α) (i : Nat), (t.map f).get i = (t.get i).map f
 | .e, i => rfl
 | .n none l r, i => by
  simp only [Bt.map, Bt.get_n]
  split
  ·rfl
  ·split
   ·exact Bt.get_map f l _
   ·exact Bt.get_map f r _
 | .n (some x) l r, i => by
  simp only [Bt.map, Bt.get_n]
  split
  ·rfl
  ·split
   ·exact Bt.get_map f l _
   ·exact Bt.get_map f r _
theorem bFrom_ok : ∀ (l : List Ob) (i : Nat) (t : Bt Ob) (k : Bt Ob → Ans), bFrom l i t k = .ok → ∃ t', k t' = .ok ∧ (∀ d, t'.get d = if i ≤ d then (match l[d - i]? with | some ob => some ob | none => t.get d) else t.get d) ∧ ∀ o ∈ l, okOb o = true
 | [], i, t, k, h => ⟨t, h, fun d => by simp, by simp⟩
 | ob :: r, i, t, k, h => by
  simp only [bFrom, fO_eq] at h
  obtain ⟨h0, h⟩ := condB h
  obtain ⟨t1, h1, h2⟩ := Bt.set_ok _ _ _ _ _ h
  obtain ⟨t2, h3, h4, h5⟩ := bFrom_ok r (i + 1) t1 k h1
  refine ⟨t2, h3, fun d => ?_, fun o ho => ?_⟩
  ·rw [h4, h2]
   by_cases e : d = i
   ·subst e; rw [if_neg (by omega)]; simp
   ·by_cases hl : i ≤ d
    ·obtain ⟨j, hj⟩ : ∃ j, d - i = j + 1 := ⟨d - i - 1, by omega⟩
     rw [if_pos (by omega), if_pos hl, if_neg e, hj, show d - (i + 1) = j from by omega]
     simp
    ·rw [if_neg (by omega), if_neg hl, if_neg e]
  ·rcases List.mem_cons.1 ho with rfl | ho
   ·exact h0
   ·exact h5 o ho
theorem pick_ok {ρ : List Nat} {rs : RS} {st : ST} {k : RS → Ans} (hR : RR rs st) (h : pickRS ρ rs k = .ok) : Le st (st.pick ρ) ∧ ∃ rs', RR rs' (st.pick ρ) ∧ k rs' = .ok := by
 obtain ⟨hc, h⟩ := condB h
 simp only [Bool.and_eq_true] at hc
 obtain ⟨t, h1, h2, h3⟩ := bFrom_ok _ _ _ _ h
 refine ⟨le_pick ρ hc.1 (by rw [hR.2.2.2.2.1]; exact hc.2), ⟨rs.tm.map (AV.ren ρ), t, ρ.length, rs.n, rs.pin⟩, ⟨fun d => ?_, fun i => ?_, ?_, hR.2.2.2.1, hR.2.2.2.2.1, fun i o ho => ?_⟩, h1⟩
 ·show look (st.tm.map fun p => (p.1, p.2.ren ρ)) d = _
  rw [look_map (AV.ren ρ) rfl st.tm d, show look st.tm d = _ from hR.1 d, Bt.get_map]
  cases rs.tm.get d <;> rfl
 ·show (ρ.map fun id => (st.hp.getD id .d).ren ρ)[i]? = t.get i
  rw [h2]
  simp only [Nat.zero_le, if_true, Nat.sub_zero, Bt.get_e, List.getElem?_map]
  cases hi : ρ[i]? with
  | none => rfl
  | some id =>
   simp only [Option.map_some]
   rw [List.getD_eq_getElem?_getD, hR.2.1 id]
 ·show (ρ.map fun id => (st.hp.getD id .d).ren ρ).length = ρ.length
  simp
 ·have ho : t.get i = some o := ho
  rw [h2] at ho
  simp only [Nat.zero_le, if_true, Nat.sub_zero, Bt.get_e] at ho
  split at ho
  ·rename_i ob hx
   cases ho
   exact h3 o (List.mem_of_getElem? hx)
  ·cases ho
theorem eqTo_kk {loc al : List Nat} {f : RS} {k : RS → Ans} (hk : k f = .ok) {s : ST} (h : KK (eqTo loc al f) s) : ∃ s', Le s s' ∧ KK k s' := by
 obtain ⟨rs, h1, h2⟩ := h
 unfold eqTo at h2
 split at h2
 ·rename_i h3
  rw [eqRS_ok h3] at h1
  exact ⟨s, Le.refl s, f, h1, hk⟩
 ·split at h2
  ·obtain ⟨q1, rs', q2, q3⟩ := pick_ok h1 h2
   obtain ⟨h3, _⟩ := condB (x := .ok) q3
   rw [eqRS_ok h3] at q2
   exact ⟨_, q1, f, q2, hk⟩
  ·cases h2
theorem LstO.mono {t : Od} {K K' : ST → Prop} (h : LstO P ops t st K) (hk : ∀ s, K s → ∃ s', Le s s' ∧ K' s') : LstO P ops t st K' := fun M0 w0 a w Q hR hN => h M0 w0 a w Q hR fun st' a' w' h1 h2 => by
 obtain ⟨s', q1, q2⟩ := hk _ h1
 exact hN s' a' w' q2 (q1 M0 w0 a' w' h2)
theorem rOp_ok (hT : TbOk P T) {rc : RC} (hrc : RcOk P rc) {loc : List Nat} {i : Nat} {rs : RS} {k : RS → Ans} (hR : RR rs st) (h : rOp T rc loc ops i rs k = .ok) {M0 : Fm} {w0 : World} {a : Act} {w : World} {Q : Exit → Act → World → Prop} {N : Act → World → Prop}
  (hRel : Rel M0 w0 st a w) (hN : ∀ st' a' w', KK k st' → Rel M0 w0 st' a' w' → N a' w') : wpOp P ops Q i N a w := by
 unfold rOp at h
 split at h
 ·rename_i o hi
  unfold wpOp
  rw [hi]
  split at h
  ·rename_i hw
   simp only [want_ok hR hw hRel, if_true]
   exact .inl (rStep_ok hT hrc hR h M0 w0 a w N Q hRel hN)
  ·rename_i hw
   simp only [want_ok hR hw hRel, Bool.false_eq_true, if_false]
   obtain ⟨h1, h2⟩ := put_kk hR h
   exact hN _ _ _ h2 (rel_undef h1 hRel)
  ·cases h
 ·cases h
theorem notDst_eval {d : Option Nat} {x : Operand} (h : notDst d x = true) (a : Act) (v : Value) : (a.put d v).eval x = a.eval x := by
 refine Act.eval_put (fun e he hx => ?_)
 subst hx
 subst he
 simp [notDst, beqT] at h
theorem mk_vals {ev : Operand → AV} {t : TypeId} {l c : Operand} {p : Prop} {ob : Ob} {f : Nat → AV} (ha : aMakeV P ev t l c = some (p, ob, f)) {g : Gh} {hp : List Ob} {w : World} {vl vc : Value} (h1 : AVR (CR g hp w) (ev l) vl) (h2 : AVR (CR g hp w) (ev c) vc) :
  (∀ (g : Gh) (hp : List Ob) (w : World), AVR (CR g hp w) (ev l) vl) ∧ ∀ (g : Gh) (hp : List Ob) (w : World), AVR (CR g hp w) (ev c) vc := by
 unfold aMakeV at ha
 split at ha
 ·split at ha
  ·split at ha
   ·rename_i k1 n k2 m hl hc
    rw [hl] at h1
    rw [hc] at h2
    rw [hl, hc]
    exact ⟨fun _ _ _ => h1, fun _ _ _ => h2⟩
   ·cases ha
  ·cases ha
 ·cases ha
theorem mk_op {Q : Exit → Act → World → Prop} {N : Act → World → Prop} {ev : Operand → AV} {i d : Nat} {t ty : TypeId} {l c : Operand} {pos : String} {af : Array Edge} {p : Prop} {ob : Ob} {f : Nat → AV} (hi : ops[i]? = some ⟨some d, .makeSlice t l c, ty, pos, af, none⟩) (ha : aMakeV P ev t l c = some (p, ob, f)) (hp : p)
  {s : ST} {hp' : List Ob} {id : Nat} (hid : ¬ Bn s.hp id) (hne : ∀ i, i ≠ id → hp'[i]? = s.hp[i]?) (h1 : hp'[id]? = some ob) (hd : d < s.n) {M0 : Fm} {w0 : World} {a : Act} {w : World} {g : Gh} (hG : RelG g M0.P w0 s a w) (hpin : s.pin ≤ id) (hlen : s.pin ≤ hp'.length) (hx : Ext s.pin M0.g g)
  (hvl : ∀ (g : Gh) (hp : List Ob) (w : World), AVR (CR g hp w) (ev l) (a.eval l)) (hvc : ∀ (g : Gh) (hp : List Ob) (w : World), AVR (CR g hp w) (ev c) (a.eval c))
  (hN : ∀ a' w' g', RelG g' M0.P w0 ({ s with hp := hp' }.put (some d) (f id)) a' w' → Ext s.pin M0.g g' → (∃ v, a' = a.put (some d) v) → N a' w') : wpOp P ops Q i N a w := by
 obtain ⟨v, w', g', q1, q2, q3, q4, q5⟩ := aMakeV_at (P := P) hG hid hne h1 ha (hvl _ _ _) (hvc _ _ _) hp
 unfold wpOp
 rw [hi]
 simp only [Region.wanted, if_true]
 refine .inl ?_
 have hrun : (execOp a.eval ⟨some d, .makeSlice t l c, ty, pos, af, none⟩).run P w = .ok (.value v) w' := by
  unfold execOp
  simp [q1]
 unfold Oper.wp
 rw [hrun]
 exact hN _ _ g' (q4.put (d := some d) (fun e he => by cases he; exact hd) q5) (hx.trans (q2.le hpin)) ⟨v, rfl⟩
theorem rT_ok (hT : TbOk P T) {rc : RC} (hrc : RcOk P rc) {loc : List Nat} : ∀ (t : Od) (rs : RS) (st : ST) (k : RS → Ans), RR rs st → rT T rc loc ops t rs k = .ok → LstO P ops t st (KK k)
 | .nil, rs, st, k, hR, h => fun M0 w0 a w Q hRel hN => hN _ _ _ ⟨rs, hR, h⟩ hRel
 | .no, rs, st, k, hR, h => fun M0 w0 a w Q hRel hN => trivial
 | .pu i r, rs, st, k, hR, h => by
  intro M0 w0 a w Q hRel hN
  simp only [rT, rPu] at h
  split at h
  ·rename_i o hi
   split at h
   ·rename_i hw
    have hwn := want_ok hR hw hRel
    split at h
    ·rename_i v hv
     obtain ⟨h1, rs', q1, q2⟩ := put_kk (o := o) hR h
     obtain ⟨g, hpp, hG⟩ := hRel
     obtain ⟨u, h5, h6⟩ := rDE_sound hT hv g st.hp w a.eval (by rw [← hR.ev]; exact hG.ev)
     exact ⟨o, u, hi, .inl ⟨hwn, fun W _ => h5 W⟩, rT_ok hT hrc r rs' _ k q1 q2 M0 w0 _ w Q ⟨g, by cases o.dst <;> exact hpp, hG.put (dok_lt h1) h6⟩ hN⟩
    ·cases h
   ·rename_i hw
    have hwn := want_ok hR hw hRel
    obtain ⟨h1, rs', q1, q2⟩ := put_kk (o := o) hR h
    exact ⟨o, undef, hi, .inr ⟨hwn, rfl⟩, rT_ok hT hrc r rs' _ k q1 q2 M0 w0 _ w Q (rel_undef h1 hRel) hN⟩
   ·cases h
  ·cases h
 | .fk i r rest, rs, st, k, hR, h => by
  unfold rT at h
  split at h
  ·intro M0 w0 a w Q hRel hN
   refine ⟨rOp_ok hT hrc hR h hRel ?_, trivial⟩
   rintro st' a' w' ⟨rs', q1, q2⟩ hRel'
   exact rT_ok hT hrc r rs' st' k q1 q2 M0 w0 a' w' Q hRel' hN
  ·split at h
   ·rename_i f _
    obtain ⟨h1, h2⟩ := Ans.and_ok h
    obtain ⟨h3, h4⟩ := Ans.and_ok h2
    intro M0 w0 a w Q hRel hN
    refine ⟨rOp_ok hT hrc hR h1 hRel ?_, ((rT_ok hT hrc rest rs st _ hR h3).mono fun s => eqTo_kk h4) M0 w0 a w Q hRel hN⟩
    rintro st' a' w' ⟨rs', q1, q2⟩ hRel'
    exact ((rT_ok hT hrc r rs' st' _ q1 q2).mono fun s => eqTo_kk h4) M0 w0 a' w' Q hRel' hN
   ·cases h
   ·cases h
 | .al i j p r, rs, st, k, hR, h => by
  unfold rT at h
  split at h
  rotate_left
  ·cases h
  rename_i d t l c ty pos af d' t' l' c' ty' pos' af' e d2 ty2 pos2 af2 hi hj hpp
  split at h
  rotate_left
  ·cases h
  rename_i ob f ob' f' hm hm'
  obtain ⟨hc, hh⟩ := condB h
  clear h
  simp only [beqT, Bool.and_eq_true, Bool.not_eq_true', decide_eq_false_iff_not, decide_eq_true_eq] at hc
  obtain ⟨rfl, hdd, hed, hed', n1, n2, n3, n4, n5, n6⟩ := hc
  rw [fN_eq] at hh
  obtain ⟨rs1, h1, R1⟩ := RS.push_ok hR hh
  obtain ⟨hd, rs20, h20, R20⟩ := RS.put_ok R1 h1
  obtain ⟨he, rs2, h2, R2⟩ := RS.put_ok R20 h20
  rw [fN_eq] at h2
  obtain ⟨rs3, h3, R3⟩ := RS.push_ok R2 h2
  obtain ⟨hd', rs4, h4, R4⟩ := RS.put_ok R3 h3
  have hn : rs.hn = st.hp.length := hR.2.2.1.symm
  have hn2 : rs2.hn = st.hp.length + 1 := by rw [← R2.2.2.1]; simp [ST.put]
  have hd := hd d rfl
  have hd' := hd' d' rfl
  have he := he e rfl
  rw [hn] at R4
  rw [hn2] at R4
  obtain ⟨pp, ha, hp⟩ := rMake_ok hT hm
  obtain ⟨p', ha', hp'⟩ := rMake_ok hT hm'
  rw [← hR.ev] at ha ha'
  intro M0 w0 a w Q hRel hN
  obtain ⟨g, ⟨hp1, hp2⟩, hG⟩ := hRel
  obtain ⟨v1, v2⟩ := mk_vals ha (hG.ev l) (hG.ev c)
  obtain ⟨v3, v4⟩ := mk_vals ha' (hG.ev l') (hG.ev c')
  have fin : ∀ (s : ST) (a' : Act) (w' : World), (∀ x, s.get x = (({ (({ st with hp := st.hp ++ [ob] }.put (some d) (f st.hp.length)).put (some e) (f st.hp.length)) with hp := (({ st with hp := st.hp ++ [ob] }.put (some d) (f st.hp.length)).put (some e) (f st.hp.length)).hp ++ [ob'] } : ST).put (some d') (f' (st.hp.length + 1))).get x) → s.hp = st.hp ++ [ob, ob'] → s.n = st.n → s.pin = st.pin →
    Rel M0 w0 s a' w' → wpO P ops Q r a' w' := by
   intro s a' w' q1 q2 q3 q4 hRel'
   refine rT_ok hT hrc r rs4 s k ⟨fun e => (q1 e).trans (R4.1 e), fun i => ?_, ?_, q3.trans R4.2.2.2.1, q4.trans R4.2.2.2.2.1, R4.2.2.2.2.2⟩ h4 M0 w0 a' w' Q hRel' hN
   ·have := R4.2.1 i
    simp only [ST.put, List.append_assoc, List.cons_append, List.nil_append] at this
    rw [q2]
    exact this
   ·have := R4.2.2.1
    simp only [ST.put, List.append_assoc, List.cons_append, List.nil_append] at this
    rw [q2]
    exact this
  constructor
  ·refine mk_op hi ha hp (s := st) (hp' := st.hp ++ [ob]) (id := st.hp.length) bn_len (push_ne _) (push_self _) hd hG hp1 (by simp; omega) hp2 v1 v2 ?_
   intro a1 w1 g1 G1 X1 ⟨u1, e1⟩
   have hdv : AVR (CR g1 (st.hp ++ [ob]) w1) (f st.hp.length) (a1.eval (.tmp d)) := by
    have := G1.ev (.tmp d)
    simpa [ST.ev, ST.get, ST.put, look] using this
   refine ⟨_, a1.eval (.tmp d), hpp, .inl ⟨rfl, fun W _ => by simp [execOp]⟩, ?_⟩
   have G1' : RelG g1 M0.P w0 (({ st with hp := st.hp ++ [ob] }.put (some d) (f st.hp.length)).put (some e) (f st.hp.length)) (a1.put (some e) (a1.eval (.tmp d))) w1 := G1.put (d := some e) (fun x hx => by cases hx; exact he) hdv
   have e3 : (a1.put (some e) (a1.eval (.tmp d))).eval l' = a.eval l' := by rw [notDst_eval n5, e1]; exact notDst_eval n1 a u1
   have e4 : (a1.put (some e) (a1.eval (.tmp d))).eval c' = a.eval c' := by rw [notDst_eval n6, e1]; exact notDst_eval n2 a u1
   refine mk_op hj ha' hp' (s := (({ st with hp := st.hp ++ [ob] }.put (some d) (f st.hp.length)).put (some e) (f st.hp.length))) (hp' := (st.hp ++ [ob]) ++ [ob']) (id := st.hp.length + 1) ?_ ?_ ?_ hd' G1' (by simp [ST.put]; omega) (by simp [ST.put]; omega) X1 (by rw [e3]; exact v3) (by rw [e4]; exact v4) ?_
   ·have := bn_len (hp := st.hp ++ [ob])
    simpa [ST.put] using this
   ·intro q hq
    exact push_ne _ _ (by simpa using hq)
   ·simp
   intro a2 w2 g2 G2 X2 _
   exact fin _ a2 w2 (fun e => rfl) (by simp [ST.put]) rfl rfl ⟨g2, ⟨by simp [ST.put]; omega, X2⟩, G2⟩
  ·have G0 : RelG g M0.P w0 { st with hp := st.hp ++ [.x, .x] } a w := by
    have lo : ∀ (i : Nat) (o : Ob), (st.hp ++ [Ob.x, Ob.x])[i]? = some o → o ≠ .x → st.hp[i]? = some o := by
     intro i o e hne
     rcases Nat.lt_or_ge i st.hp.length with hl | hl
     ·rwa [List.getElem?_append_left hl] at e
     ·rw [List.getElem?_append_right hl] at e
      have := List.mem_of_getElem? e
      simp at this
      exact absurd this hne
    refine hG.kill (fun i hi => ?_) (fun i r e => lo i _ e (by simp)) (fun i kv e => lo i _ e (by simp))
    obtain ⟨o, e1, e2⟩ := hi
    exact ⟨o, by rw [List.getElem?_append_left (List.getElem?_eq_some_iff.1 e1).1]; exact e1, e2⟩
   refine mk_op hj ha' hp' (s := { st with hp := st.hp ++ [.x, .x] }) (hp' := st.hp ++ [.x, ob']) (id := st.hp.length + 1) ?_ ?_ ?_ hd' G0 (by show st.pin ≤ _; omega) (by simp; omega) hp2 v3 v4 ?_
   ·rintro ⟨o, e1, e2⟩
    rw [List.getElem?_append_right (by omega)] at e1
    simp at e1
    subst e1
    cases e2
   ·intro q hq
    rcases Nat.lt_or_ge q st.hp.length with hl | hl
    ·rw [List.getElem?_append_left hl, List.getElem?_append_left hl]
    ·rw [List.getElem?_append_right hl, List.getElem?_append_right hl]
     obtain ⟨z, hz⟩ : ∃ z, q - st.hp.length = z := ⟨_, rfl⟩
     rw [hz]
     match z, hz with
     | 0, _ => rfl
     | 1, hz => omega
     | z + 2, _ => rfl
   ·rw [List.getElem?_append_right (by omega)]
    simp
   intro a1 w1 g1 G1 X1 ⟨u1, e1⟩
   have e3 : a1.eval l = a.eval l := by rw [e1]; exact notDst_eval n3 a u1
   have e4 : a1.eval c = a.eval c := by rw [e1]; exact notDst_eval n4 a u1
   refine mk_op hi ha hp (s := ({ st with hp := st.hp ++ [Ob.x, ob'] } : ST).put (some d') (f' (st.hp.length + 1))) (hp' := st.hp ++ [ob, ob']) (id := st.hp.length) ?_ ?_ ?_ hd G1 hp1 (by simp [ST.put]; omega) X1 (by rw [e3]; exact v1) (by rw [e4]; exact v2) ?_
   ·rintro ⟨o, e1, e2⟩
    simp [ST.put] at e1
    subst e1
    cases e2
   ·intro q hq
    show (st.hp ++ [ob, ob'])[q]? = (st.hp ++ [Ob.x, ob'])[q]?
    rcases Nat.lt_or_ge q st.hp.length with hl | hl
    ·rw [List.getElem?_append_left hl, List.getElem?_append_left hl]
    ·rw [List.getElem?_append_right hl, List.getElem?_append_right hl]
     obtain ⟨z, hz⟩ : ∃ z, q - st.hp.length = z := ⟨_, rfl⟩
     rw [hz]
     match z, hz with
     | 0, hz => omega
     | z + 1, _ => rfl
   ·simp
   intro a2 w2 g2 G2 X2 _
   have hdv : AVR (CR g2 (st.hp ++ [ob, ob']) w2) (f st.hp.length) (a2.eval (.tmp d)) := by
    have := G2.ev (.tmp d)
    simpa [ST.ev, ST.get, ST.put, look] using this
   refine ⟨_, a2.eval (.tmp d), hpp, .inl ⟨rfl, fun W _ => by simp [execOp]⟩, ?_⟩
   have G2' := G2.put (d := some e) (x := f st.hp.length) (v := a2.eval (.tmp d)) (fun x hx => by cases hx; exact he) hdv
   refine fin (ST.put (ST.put { (({ st with hp := st.hp ++ [Ob.x, ob'] } : ST).put (some d') (f' (st.hp.length + 1))) with hp := st.hp ++ [ob, ob'] } (some d) (f st.hp.length)) (some e) (f st.hp.length)) _ w2 ?_ ?_ ?_ ?_ ⟨g2, ⟨?_, X2⟩, G2'⟩
   rotate_left
   ·rfl
   ·rfl
   ·rfl
   ·simp [ST.put]; omega
   intro x
   simp only [ST.get, ST.put, look]
   by_cases e1 : x = d'
   ·subst e1; simp [Ne.symm hed', Ne.symm hdd]
   ·simp [e1]
end
end Go.Proofs.YtglchakimolfdaaDoor
