/- Regions that draw, in one order: loads that may come before or behind other operations. The runner: regions that draw, in one order. The runner, sixth part: code; closed calls. -/
import Derived.Test.YtglchakimolfdaaDoorAm39
import Derived.Scope
namespace Go.Proofs.YtglchakimolfdaaDoor
set_option linter.unusedVariables false
set_option linter.unusedSimpArgs false
open Go.RowKit

section
variable {P : Program} {ops : Array Oper} {Q : Exit → Act → World → Prop}
def wpAnyH (P : Program) (ops : Array Oper) (Q : Exit → Act → World → Prop) (H : Array Bool → World → Prop) : Nat → Array Bool → Act → World → Prop
 | 0, listed, a, w => Region.ready .any ops listed = [] ∧ Q .normal a w
 | fuel + 1, listed, a, w => (Region.ready .any ops listed = [] → Q .normal a w) ∧
  ∀ i ∈ Region.ready .any ops listed, wpOp P ops Q i (fun a' w' => H (listed.setIfInBounds i true) w' ∧ wpAnyH P ops Q H fuel (listed.setIfInBounds i true) a' w') a w
theorem any_of_H {H : Array Bool → World → Prop} : ∀ (fuel : Nat) (listed : Array Bool) (a : Act) (w : World), wpAnyH P ops Q H fuel listed a w → wpAny P .any ops Q fuel listed a w
 | 0, _, _, _, h => h
 | fuel + 1, _, _, _, h => ⟨h.1, fun i hi => wpOp_mono (fun a' w' h' => any_of_H fuel _ a' w' h'.2) (h.2 i hi)⟩
theorem anyH_mono {H H' : Array Bool → World → Prop} (hm : ∀ l w, H l w → H' l w) : ∀ (fuel : Nat) (listed : Array Bool) (a : Act) (w : World), wpAnyH P ops Q H fuel listed a w → wpAnyH P ops Q H' fuel listed a w
 | 0, _, _, _, h => h
 | fuel + 1, _, _, _, h => ⟨h.1, fun i hi => wpOp_mono (fun a' w' h' => ⟨hm _ _ h'.1, anyH_mono hm fuel _ a' w' h'.2⟩) (h.2 i hi)⟩
theorem anyH_first {i : Nat} {oi : Oper} {v : Value} {S1 : World → Prop} {H0 H1 : Array Bool → World → Prop} (hi : ops[i]? = some oi) (hsel : ∀ (j : Nat) (o : Oper) cs b, ops[j]? = some o → o.op ≠ .select cs b)
  (hQ : ∀ c (a : Act) (d : Option Tmp) (v : Value) w, Q (.panic c) (a.put d v) w → Q (.panic c) a w) (hm : ∀ l w, H1 l w → H0 l w) (hH : ∀ l w, H1 (l.setIfInBounds i true) w → H0 l w)
  (hS : ∀ (l : Array Bool) (w : World), Closed .any ops l → i ∈ Region.ready .any ops l → H1 (l.setIfInBounds i true) w → S1 w) :
  ∀ (fuel : Nat) (listed : Array Bool) (a : Act) (w : World), Closed .any ops listed →
   (∀ j oj, ops[j]? = some oj → j ≠ i → listed.getD j true = false → (∀ e ∈ oj.after, Region.binds .any e = true → e.on ≠ i) → oi.apart ops oj = true) →
   i ∈ Region.ready .any ops listed → YieldsIf P ops S1 oi v a → H1 (listed.setIfInBounds i true) w →
   wpAnyH P ops Q H1 fuel (listed.setIfInBounds i true) (a.put oi.dst v) w → wpAnyH P ops Q H0 (fuel + 1) listed a w := by
 intro fuel
 induction fuel with
 | zero =>
  intro listed a w hcl _ hr hy hp H
  refine ⟨fun h => (by rw [h] at hr; cases hr), fun j hj => ?_⟩
  by_cases hji : j = i
  ·subst hji; exact hy.wpOp hi (hS listed w hcl hr hp) ⟨hm _ _ hp, H⟩
  ·have := ready_mono hj hji
   rw [H.1] at this
   cases this
 | succ fuel ih =>
  intro listed a w hcl hfree hr hy hp H
  refine ⟨fun h => (by rw [h] at hr; cases hr), fun j hj => ?_⟩
  by_cases hji : j = i
  ·subst hji; exact hy.wpOp hi (hS listed w hcl hr hp) ⟨hm _ _ hp, anyH_mono hm _ _ _ _ H⟩
  ·have h1 := H.2 j (ready_mono hj hji)
   obtain ⟨hjun, oj, hoj, hall⟩ := mem_ready.1 hj
   have hnot : ∀ e ∈ oj.after, Region.binds .any e = true → e.on ≠ i := fun e he hb heq => by
    have h1 := hall e he hb
    rw [heq, getD_ft (mem_ready.1 hr).1] at h1
    cases h1
   have h2 := wpOp_putIf hoj (hfree j oj hoj hji hjun hnot) (fun cs b => hsel i oi cs b hi) (fun cs b => hsel j oj cs b hoj) (fun c a w h => hQ c a _ _ w h) hy h1
   have hfree' : ∀ k ok, ops[k]? = some ok → k ≠ i → (listed.setIfInBounds j true).getD k true = false →
     (∀ e ∈ ok.after, Region.binds .any e = true → e.on ≠ i) → oi.apart ops ok = true := fun k ok hk hki hun hno => by
    refine hfree k ok hk hki ?_ hno
    by_cases hjk : j = k
    ·subst hjk; exact hjun
    ·rw [getD_set_ne true hjk] at hun; exact hun
   refine wpOp_mono (fun a' w' h3 => ?_) h2
   have hc := h3.2.1
   rw [Array.setIfInBounds_comm _ _ (Ne.symm hji)] at hc
   refine ⟨hH _ _ hc, ih (listed.setIfInBounds j true) a' w' (hcl.step hj) hfree' (ready_mono hr (Ne.symm hji)) h3.1 hc ?_⟩
   rw [Array.setIfInBounds_comm _ _ hji]
   exact h3.2.2

/-! the walk: (number, kind: 0 computes, 1 a load that holds until the operation stop comes up, 2 acts; stop) -/
abbrev Cs := List (Nat × (World → Prop))
def HC (cs : Cs) (l : Array Bool) (w : World) : Prop := ∀ c ∈ cs, l.getD c.1 false = true ∨ c.2 w
def wpG (P : Program) (ops : Array Oper) (Q : Exit → Act → World → Prop) : List (Nat × Nat × Nat) → List Nat → Cs → Act → World → Prop
 | [], _, _, a, w => Q .normal a w
 | (i, 0, _) :: r, done, cs, a, w => ∃ oi v, ops[i]? = some oi ∧ YieldsIf P ops (fun _ => True) oi v a ∧ wpG P ops Q r done cs (a.put oi.dst v) w
 | (i, 1, s) :: r, done, cs, a, w => ∃ oi v S, ops[i]? = some oi ∧ YieldsIf P ops S oi v a ∧ S w ∧ wpG P ops Q r done ((s, S) :: cs) (a.put oi.dst v) w
 | (i, _, _) :: r, done, cs, a, w => wpOp P ops Q i (fun a' w' => (∀ c ∈ cs, c.1 ∈ i :: done ∨ c.2 w') ∧ wpG P ops Q r (i :: done) cs a' w') a w
theorem markE_ok {listed : Array Bool} : ∀ (es : List Edge) (m : Array Bool), (∀ i, m.getD i false = true → listed.getD i false = true) → (∀ e ∈ es, Region.binds .any e = true → listed.getD e.on false = true) → ∀ i, (markE m es).getD i false = true → listed.getD i false = true
 | [], _, hm, _, i, h => hm i h
 | e :: r, m, hm, he, i, h => by
  unfold markE at h
  split at h
  ·rename_i hb
   refine markE_ok r _ (fun q hq => ?_) (fun e' he' => he e' (by simp [he'])) i h
   by_cases hqe : e.on = q
   ·subst hqe; exact he e (by simp) hb
   ·rw [getD_set_ne false hqe] at hq
    exact hm q hq
  ·exact markE_ok r m hm (fun e' he' => he e' (by simp [he'])) i h
theorem closW_ok {listed : Array Bool} (hcl : Closed .any ops listed) : ∀ (k : Nat) (m : Array Bool), (∀ i, m.getD i false = true → listed.getD i false = true) → ∀ i, (closW ops k m).getD i false = true → listed.getD i false = true
 | 0, _, hm, i, h => hm i h
 | k + 1, m, hm, i, h => by
  unfold closW at h
  refine closW_ok hcl k _ ?_ i h
  split
  ·rename_i o hk ho
   exact markE_ok _ m hm (fun e he hb => hcl k o ho (hm k hk) e (by simpa using he) hb)
  ·exact hm
theorem waits_ok {listed : Array Bool} (hcl : Closed .any ops listed) {j i : Nat} (hj : listed.getD j false = true) (h : waits ops j i = true) : listed.getD i false = true := by
 refine closW_ok hcl ops.size _ (fun q hq => ?_) i h
 by_cases hqj : j = q
 ·subst hqj; exact hj
 ·rw [getD_set_ne false hqj] at hq
  simp [Array.getElem?_replicate] at hq
  split at hq <;> simp at hq
theorem HC.unset {cs : Cs} {l : Array Bool} {w : World} {i : Nat} (hi : i ∉ cs.map (·.1)) (h : HC cs (l.setIfInBounds i true) w) : HC cs l w := by
 intro c hc
 rcases h c hc with h1 | h1
 ·left
  rwa [getD_set_ne false (by rintro rfl; exact hi (List.mem_map.2 ⟨c, hc, rfl⟩))] at h1
 ·exact .inr h1
theorem HC.set {cs : Cs} {l : Array Bool} {w : World} {i : Nat} (h : HC cs l w) : HC cs (l.setIfInBounds i true) w := fun c hc => (h c hc).imp getD_set_true (fun h => h)
theorem anyH_of_G (hs : Region.noSelect ops = true) (hQ : ∀ c (a : Act) (d : Option Tmp) (v : Value) w, Q (.panic c) (a.put d v) w → Q (.panic c) a w) :
  ∀ (l : List (Nat × Nat × Nat)) (done : List Nat) (cs : Cs) (listed : Array Bool) (a : Act) (w : World), Closed .any ops listed → chkG ops l (cs.map (·.1)) listed = true → (∀ d ∈ done, listed.getD d false = true) → HC cs listed w → wpG P ops Q l done cs a w →
   wpAnyH P ops Q (HC cs) l.length listed a w
 | [], done, cs, listed, a, w, _, hc, _, _, h => by
  simp only [chkG, List.isEmpty_iff] at hc
  exact ⟨hc, h⟩
 | (i, 0, s) :: r, done, cs, listed, a, w, hcl, hc, hdn, hh, h => by
  simp only [chkG, Bool.and_eq_true, Bool.not_eq_true', List.contains_eq_mem, decide_eq_true_eq, decide_eq_false_iff_not] at hc
  obtain ⟨hf, hr, hni, hc⟩ := hc
  obtain ⟨oi, v, hi, hy, hT⟩ := h
  have ih := anyH_of_G hs hQ r done cs _ _ w (hcl.step hr) hc (fun d hd => getD_set_true (hdn d hd)) hh.set hT
  exact anyH_first (S1 := fun _ => True) hi (Region.noSelect_spec hs) hQ (fun _ _ h => h) (fun l w h => h.unset hni) (fun _ _ _ _ _ => trivial) r.length listed a w hcl (Region.free_spec hi hf) hr hy hh.set ih
 | (i, 1, s) :: r, done, cs, listed, a, w, hcl, hc, hdn, hh, h => by
  simp only [chkG, Bool.and_eq_true, Bool.not_eq_true', List.contains_eq_mem, decide_eq_true_eq, decide_eq_false_iff_not, bne_iff_ne, ne_eq] at hc
  obtain ⟨hf, hr, hdep, hne, hni, hc⟩ := hc
  obtain ⟨oi, v, S, hi, hy, hSw, hT⟩ := h
  have hh1 : HC ((s, S) :: cs) (listed.setIfInBounds i true) w := by
   intro c hc
   rcases List.mem_cons.1 hc with rfl | hc
   ·exact .inr hSw
   ·exact hh.set c hc
  have ih := anyH_of_G hs hQ r done ((s, S) :: cs) _ _ w (hcl.step hr) hc (fun d hd => getD_set_true (hdn d hd)) hh1 hT
  refine anyH_first (S1 := S) (H1 := HC ((s, S) :: cs)) hi (Region.noSelect_spec hs) hQ (fun l w h c hc => h c (List.mem_cons_of_mem _ hc)) (fun l w h => HC.unset hni (fun c hc => h c (List.mem_cons_of_mem _ hc))) ?_ r.length listed a w hcl (Region.free_spec hi hf) hr hy hh1 ih
  intro l w hcl hr h
  rcases h (s, S) (by simp) with h1 | h1
  ·rw [getD_set_ne false hne] at h1
   have h2 := waits_ok hcl h1 hdep
   rw [getD_ft (mem_ready.1 hr).1] at h2
   cases h2
  ·exact h1
 | (i, k + 2, s) :: r, done, cs, listed, a, w, hcl, hc, hdn, hh, h => by
  simp only [chkG, Bool.and_eq_true, beq_iff_eq, decide_eq_true_eq] at hc
  obtain ⟨hr, hlt, hc⟩ := hc
  refine ⟨fun h0 => absurd (h0 ▸ hr) (by simp), fun j hj => ?_⟩
  have hji : j = i := by rw [hr] at hj; simpa using hj
  subst hji
  have h : wpOp P ops Q j (fun a' w' => (∀ c ∈ cs, c.1 ∈ j :: done ∨ c.2 w') ∧ wpG P ops Q r (j :: done) cs a' w') a w := h
  refine wpOp_mono (fun a' w' h' => ?_) h
  have hdn' : ∀ d ∈ j :: done, (listed.setIfInBounds j true).getD d false = true := by
   intro d hd
   rcases List.mem_cons.1 hd with rfl | hd
   ·simp [hlt]
   ·exact getD_set_true (hdn d hd)
  have hh' : HC cs (listed.setIfInBounds j true) w' := fun c hc => (h'.1 c hc).imp (hdn' c.1) (fun h => h)
  exact ⟨hh', anyH_of_G hs hQ r (j :: done) cs _ a' w' (hcl.step hj) hc hdn' hh' h'.2⟩
end
end Go.Proofs.YtglchakimolfdaaDoor
namespace Go.Proofs.YtglchakimolfdaaDoor
set_option linter.unusedVariables false
set_option linter.unusedSimpArgs false
open Go.RowKit

def Kp (dst : Option Nat) (a a' : Act) : Prop := ∀ d, dst ≠ some d → a'.tmps.getD d undef = a.tmps.getD d undef
theorem kp_put (dst : Option Nat) (a : Act) (v : Value) : Kp dst a (a.put dst v) := by
 intro d hd
 cases dst with
 | none => rfl
 | some e =>
  have he : e ≠ d := fun h => hd (by rw [h])
  simp [Act.put, Array.getD_eq_getD_getElem?, Array.getElem?_setIfInBounds_ne he]
section
variable {P : Program} {ops : Array Oper} {Q : Exit → Act → World → Prop}
theorem wp_keep {o : Oper} {a : Act} {w : World} {N : Act → World → Prop} (h : o.wp P a w N Q) : o.wp P a w (fun a' w' => N a' w' ∧ Kp o.dst a a') Q := by
 unfold Oper.wp at *
 cases hr : (execOp a.eval o).run P w with
 | ok n w' =>
  rw [hr] at h
  cases n with
  | value v => exact ⟨h, kp_put _ _ _⟩
  | skip => exact ⟨h, kp_put _ _ _⟩
  | defer d => exact ⟨h, fun e he => kp_put o.dst { a with defers := d :: a.defers } undef e he⟩
  | enter f args =>
   refine Calls.mono h fun e w'' he => ?_
   cases e with
   | returned v => exact ⟨he, kp_put _ _ _⟩
   | panicked c => exact he
   | outgrown => exact he
  | row r args => exact Rows.mono h fun v w'' he => ⟨he, kp_put _ _ _⟩
  | _ => exact h
 | halt x w' =>
  rw [hr] at h
  cases x <;> exact h
theorem wpOp_keep {i : Nat} {o : Oper} {a : Act} {w : World} {N : Act → World → Prop} (hi : ops[i]? = some o) (h : wpOp P ops Q i N a w) : wpOp P ops Q i (fun a' w' => N a' w' ∧ Kp o.dst a a') a w := by
 unfold wpOp at *
 rw [hi] at *
 simp only at *
 split
 ·rename_i hw
  rw [if_pos hw] at h
  exact h.imp wp_keep (fun h => h)
 ·rename_i hw
  rw [if_neg hw] at h
  exact ⟨h, kp_put _ _ _⟩
def FlS (P : Program) (a : Act) : Option (Nat × TypeId × Operand × AV) → World → Prop
 | none => fun _ => True
 | some (d, t, x, _) => fun W => (Instr.loadAt t (a.eval x)).run P W = .ok (a.tmps.getD d undef) W
def csOf (P : Program) (a : Act) (fl : List Fl) : Cs := fl.map fun f => (f.1, FlS P a f.2)
theorem kp_eval {dst : Option Nat} {a a' : Act} (h : Kp dst a a') {x : Operand} (hx : notDst dst x = true) : a'.eval x = a.eval x := by
 cases x with
 | tmp t =>
  refine h t (fun e => ?_)
  subst e
  simp [notDst, beqT] at hx
 | _ => rfl
theorem csOf_keep {dst : Option Nat} {a a' : Act} (h : Kp dst a a') : ∀ {fl : List Fl}, flDst dst fl = true → csOf P a' fl = csOf P a fl
 | [], _ => rfl
 | (s, none) :: r, hf => by
  simp only [csOf, List.map_cons, FlS] at *
  have := csOf_keep h (fl := r) (by simpa [flDst] using hf)
  simp only [csOf, FlS] at this
  rw [this]
 | (s, some (d, t, x, v)) :: r, hf => by
  simp only [flDst, Bool.and_eq_true] at hf
  obtain ⟨h1, h2, h3⟩ := hf
  have := csOf_keep h (fl := r) h3
  simp only [csOf, FlS] at this
  simp only [csOf, List.map_cons, FlS]
  rw [this, kp_eval h h2, h d (by
   rintro rfl
   simp [beqT] at h1)]
theorem detC_eq {g : Gh} {hp : List Ob} {w : World} {c : C} (hc : detC c = true) {y z : Value} (h1 : CR g hp w c y) (h2 : CR g hp w c z) : y = z := by
 unfold detC at hc
 split at hc
 ·rw [show y = _ from h1, show z = _ from h2]
 ·obtain ⟨_, a1, A, a2, a3, _⟩ := h1
  obtain ⟨_, b1, B, b2, b3, _⟩ := h2
  rw [a2, b2, a3 (by omega), b3 (by omega)]
 ·rw [h1.2, h2.2]
 ·rw [h1.2, h2.2]
 ·obtain ⟨_, _, _, h1⟩ := h1
  obtain ⟨_, _, _, h2⟩ := h2
  rw [h1, h2]
 ·rw [h1.2, h2.2]
 ·cases hc
theorem detB_eq {g : Gh} {hp : List Ob} {w : World} {v : AV} (hc : detB v = true) {y z : Value} (h1 : AVR (CR g hp w) v y) (h2 : AVR (CR g hp w) v z) : y = z := by
 unfold detB at hc
 split at hc
 ·exact detC_eq hc h1 h2
 ·rename_i l
  obtain ⟨us, rfl, l1, l2⟩ := h1
  obtain ⟨vs, rfl, m1, m2⟩ := h2
  have : us = vs := by
   apply List.ext_getElem?
   intro i
   cases hi : l[i]? with
   | none =>
    have hl : l.length ≤ i := List.getElem?_eq_none_iff.1 hi
    rw [List.getElem?_eq_none (by omega), List.getElem?_eq_none (by omega)]
   | some c =>
    obtain ⟨u, e1, e2⟩ := l2 i c hi
    obtain ⟨v, e3, e4⟩ := m2 i c hi
    rw [e1, e3, detC_eq (List.all_eq_true.1 hc c (List.mem_of_getElem? hi)) e2 e4]
  rw [this]
 ·cases hc
end
def LstG (P : Program) (ops : Array Oper) (l : List (Nat × Nat × Nat)) (done : List Nat) (fl : List Fl) (st : ST) (K : ST → Prop) : Prop :=
 ∀ (M0 : Fm) (w0 : World) (a : Act) (w : World) (Q : Exit → Act → World → Prop), Rel M0 w0 st a w → (∀ st' a' w', K st' → Rel M0 w0 st' a' w' → Q .normal a' w') → wpG P ops Q l done (csOf P a fl) a w
def flDet (fl : List Fl) : Prop := ∀ s d t x v, (s, some (d, t, x, v)) ∈ fl → detB v = true
section
variable {P : Program} {T : Tb} {ops : Array Oper} {k : RS → Ans}
theorem flOk_ok (hT : TbOk P T) {rs : RS} {st : ST} (hR : RR rs st) {done : List Nat} {M0 : Fm} {w0 : World} {a : Act} {w : World} (hRel : Rel M0 w0 st a w) : ∀ {fl : List Fl}, flDet fl → flOk T rs done fl = true → ∀ c ∈ csOf P a fl, c.1 ∈ done ∨ c.2 w
 | [], _, _, c, hc => by simp [csOf] at hc
 | (s, none) :: r, hd, h, c, hc => by
  simp only [csOf, List.map_cons, List.mem_cons] at hc
  rcases hc with rfl | hc
  ·exact .inr trivial
  ·exact flOk_ok hT hR hRel (fun s d t x v hm => hd s d t x v (by simp [hm])) (by simpa [flOk] using h) c hc
 | (s, some (d, t, x, v)) :: r, hd, h, c, hc => by
  simp only [flOk, Bool.and_eq_true] at h
  simp only [csOf, List.map_cons, List.mem_cons] at hc
  rcases hc with rfl | hc
  ·simp only [Bool.or_eq_true, Bool.and_eq_true, List.contains_eq_mem, decide_eq_true_eq] at h
   rcases h.1 with h1 | ⟨h1, h2⟩
   ·exact .inl h1
   ·right
    split at h1
    ·rename_i u hu
     have e1 := eqAV_ok _ _ h1
     have e2 := eqAV_ok _ _ h2
     subst e1
     obtain ⟨c, h3, h4⟩ := rLoad_ok hT hR hu
     obtain ⟨g, _, hG⟩ := hRel
     obtain ⟨y, h5, h6⟩ := lLoad_sound (P := P) hG.hr hG.ev h3 h4
     have h7 := hG.tm d
     rw [hR.1 d, e2] at h7
     have := detB_eq (hd s d t x u (by simp)) h6 h7
     show (Instr.loadAt t (a.eval x)).run P w = .ok (a.tmps.getD d undef) w
     rw [← this]
     exact h5 w (Fp.refl _ _)
    ·cases h1
  ·exact flOk_ok hT hR hRel (fun s d t x v hm => hd s d t x v (by simp [hm])) h.2 c hc
theorem rG_ok (hT : TbOk P T) {rc : RC} (hrc : RcOk P rc) {loc : List Nat} : ∀ (l : List (Nat × Nat × Nat)) (done : List Nat) (fl : List Fl) (rs : RS) (st : ST), RR rs st → flDet fl → rG T rc loc ops l done fl rs k = .ok → LstG P ops l done fl st (KK k)
 | [], done, fl, rs, st, hR, hd, h => fun M0 w0 a w Q hRel hN => hN _ _ _ ⟨rs, hR, by simpa [rG] using h⟩ hRel
 | (i, 0, s) :: r, done, fl, rs, st, hR, hd, h => by
  intro M0 w0 a w Q hRel hN
  simp only [rG] at h
  split at h
  rotate_left
  ·cases h
  rename_i o hi
  obtain ⟨hf, h⟩ := condB h
  unfold rPu at h
  rw [hi] at h
  simp only at h
  split at h
  ·rename_i hw
   have hwn := want_ok hR hw hRel
   split at h
   ·rename_i v hv
    obtain ⟨h1, rs', q1, q2⟩ := put_kk (o := o) hR h
    obtain ⟨g, hpp, hG⟩ := hRel
    obtain ⟨u, h5, h6⟩ := rDE_sound hT hv g st.hp w a.eval (by rw [← hR.ev]; exact hG.ev)
    refine ⟨o, u, hi, .inl ⟨hwn, fun W _ => h5 W⟩, ?_⟩
    have := rG_ok hT hrc r done fl rs' _ q1 hd q2 M0 w0 _ w Q ⟨g, by cases o.dst <;> exact hpp, hG.put (dok_lt h1) h6⟩ hN
    rwa [csOf_keep (kp_put _ _ _) hf] at this
   ·cases h
  ·rename_i hw
   have hwn := want_ok hR hw hRel
   obtain ⟨h1, rs', q1, q2⟩ := put_kk (o := o) hR h
   refine ⟨o, undef, hi, .inr ⟨hwn, rfl⟩, ?_⟩
   have := rG_ok hT hrc r done fl rs' _ q1 hd q2 M0 w0 _ w Q (rel_undef h1 hRel) hN
   rwa [csOf_keep (kp_put _ _ _) hf] at this
  ·cases h
 | (i, 1, s) :: r, done, fl, rs, st, hR, hd, h => by
  intro M0 w0 a w Q hRel hN
  simp only [rG] at h
  split at h
  rotate_left
  ·cases h
  rename_i o hi
  obtain ⟨hf, h⟩ := condB h
  split at h
  ·rename_i hw
   have hwn := want_ok hR hw hRel
   split at h
   ·rename_i t x d ho hdst
    split at h
    ·rename_i v hv
     obtain ⟨hc, h⟩ := condB h
     simp only [bltT, Bool.and_eq_true, decide_eq_true_eq] at hc
     obtain ⟨hdet, hnx, hlt⟩ := hc
     rw [fAV_eq] at h
     obtain ⟨h1, rs', q1, q2⟩ := put_kk (o := o) hR h
     obtain ⟨c, h3, h4⟩ := rLoad_ok hT hR hv
     obtain ⟨g, hpp, hG⟩ := hRel
     obtain ⟨u, h5, h6⟩ := lLoad_sound (P := P) hG.hr hG.ev h3 h4
     have hsz : d < a.tmps.size := by rw [hG.n, hR.2.2.2.1]; exact hlt
     have hval : (a.put o.dst u).tmps.getD d undef = u := by
      rw [hdst]
      simp [Act.put, Array.getD_eq_getD_getElem?, hsz]
     have hev : (a.put o.dst u).eval x = a.eval x := by rw [hdst]; exact notDst_eval hnx a u
     have hS : FlS P (a.put o.dst u) (some (d, t, x, v)) = fun W => (Instr.loadAt t (a.eval x)).run P W = .ok u W := by
      simp only [FlS, hval, hev]
     refine ⟨o, u, FlS P (a.put o.dst u) (some (d, t, x, v)), hi, .inl ⟨hwn, fun W hW => ?_⟩, ?_, ?_⟩
     ·rw [hS] at hW
      simp [execOp, ho, hW]
     ·rw [hS]
      exact h5 w (Fp.refl _ _)
     ·have := rG_ok hT hrc r done ((s, some (d, t, x, v)) :: fl) rs' _ q1 (by
       intro s' d' t' x' v' hm
       rcases List.mem_cons.1 hm with e | hm
       ·cases e; exact hdet
       ·exact hd s' d' t' x' v' hm) q2 M0 w0 _ w Q ⟨g, by cases o.dst <;> exact hpp, hG.put (dok_lt h1) h6⟩ hN
      have e := csOf_keep (P := P) (kp_put o.dst a u) hf
      simp only [csOf, List.map_cons] at this e ⊢
      rw [e] at this
      exact this
    ·cases h
   ·cases h
  ·rename_i hw
   have hwn := want_ok hR hw hRel
   obtain ⟨h1, rs', q1, q2⟩ := put_kk (o := o) hR h
   refine ⟨o, undef, fun _ => True, hi, .inr ⟨hwn, rfl⟩, trivial, ?_⟩
   have := rG_ok hT hrc r done ((s, none) :: fl) rs' _ q1 (by
    intro s' d' t' x' v' hm
    rcases List.mem_cons.1 hm with e | hm
    ·cases e
    ·exact hd s' d' t' x' v' hm) q2 M0 w0 _ w Q (rel_undef h1 hRel) hN
   have e := csOf_keep (P := P) (kp_put o.dst a undef) hf
   simp only [csOf, List.map_cons, FlS] at this e ⊢
   rw [e] at this
   exact this
  ·cases h
 | (i, kk + 2, s) :: r, done, fl, rs, st, hR, hd, h => by
  intro M0 w0 a w Q hRel hN
  simp only [rG] at h
  split at h
  rotate_left
  ·cases h
  rename_i o hi
  obtain ⟨hf, h⟩ := condB h
  show wpOp P ops Q i _ a w
  refine wpOp_mono ?_ (wpOp_keep hi (rOp_ok hT hrc hR h hRel (N := fun a' w' => ∃ st', KK (fun rs => bif flOk T rs (i :: done) fl then rG T rc loc ops r (i :: done) fl rs k else .bad (63 :: i :: loc)) st' ∧ Rel M0 w0 st' a' w') fun st' a' w' h1 h2 => ⟨st', h1, h2⟩))
  rintro a' w' ⟨⟨st', ⟨rs', q1, q2⟩, hRel'⟩, hkp⟩
  obtain ⟨q3, q4⟩ := condB q2
  have e := csOf_keep (P := P) hkp hf
  refine ⟨fun c hc => ?_, ?_⟩
  ·rw [← e] at hc
   exact flOk_ok hT q1 hRel' hd q3 c hc
  ·have := rG_ok hT hrc r (i :: done) fl rs' st' q1 hd q4 M0 w0 a' w' Q hRel' hN
   rwa [e] at this
theorem aw_regionG {st : ST} {Q : Exit → ST → Prop} {id : Nat} {l : List Oper} (p : List (Nat × Nat × Nat)) (hm : P.follows .mixedOrders = true) (hs : (Region.noSelect l.toArray && (chkG l.toArray p [] (Array.replicate l.toArray.size false) && p.length.beq l.toArray.size)) = true)
  (hQ : ∀ c st, ¬ Q (.panic c) st) (h : LstG P l.toArray p [] [] st (Q .normal)) : AW P (.region id l.toArray true) st Q := by
 intro M0 w0 a w hR
 simp only [beqT, Bool.and_eq_true, decide_eq_true_eq] at hs
 refine wp_region_any hm ?_
 have key : wpAny P .any l.toArray (fun e a' w' => ∃ st', Rel M0 w0 st' a' w' ∧ Q e st') p.length (Array.replicate l.toArray.size false) a w.drew := any_of_H _ _ _ _ (anyH_of_G (cs := []) hs.1 (fun c a d v w ⟨st', _, h⟩ => (hQ c st' h).elim) p [] _ a _ ?_ hs.2.1 (by simp) (by intro c hc; simp at hc) (h M0 w0 a w.drew _ hR.drew fun st' a' w' h1 h2 => ⟨st', h2, h1⟩))
 ·rw [hs.2.2] at key
  exact key
 ·intro j o hj hlist
  exfalso
  simp [Array.getElem?_replicate] at hlist
  split at hlist <;> simp at hlist
end
end Go.Proofs.YtglchakimolfdaaDoor
namespace Go.Proofs.YtglchakimolfdaaDoor
set_option linter.unusedVariables false
set_option linter.unusedSimpArgs false
open Go.RowKit

section
variable {P : Program} {T : Tb} {k : RS → Ans}
theorem aw_scope {c : Code} {st : ST} {Q : Exit → ST → Prop} (h : AW P c st (fun e s => match e with | .goto _ => False | e => Q e s)) : AW P (.scope c) st Q := by
 intro M0 w0 a w hR
 refine wp_scope_straight (wp_mono (h M0 w0 a w hR) ?_)
 rintro e a' w' ⟨st', h1, h2⟩
 cases e <;> first | exact h2.elim | exact ⟨st', h1, h2⟩
theorem aw_label {l : Nat} {st : ST} {Q : Exit → ST → Prop} (h : Q .normal st) : AW P (.label l) st Q := fun _ _ _ _ hR => wp_label ⟨st, hR, h⟩
theorem run_ok (hT : TbOk P T) : ∀ (n : Nat) (f : Nat) (c : Code) (rs : RS) (Q : Exit → RS → Ans), run T n f c rs Q = .ok → ∀ st, RR rs st → AW P c st (KQ fun e rs => match e with | .panic _ => .bad [] | e => Q e rs) := by
 intro n
 induction n using Nat.strongRecOn with
 | ind n ih =>
  intro f c rs Q h st hR
  cases n with
  | zero => cases h
  | succ n =>
   have hrc : RcOk P (run T n) := fun f c rs Q h st hR => aw_mono (ih n (Nat.lt_succ_self n) f c rs Q h st hR) (by
    rintro e st' ⟨rs', h1, h2⟩
    refine ⟨rs', h1, ?_⟩
    cases e <;> first | exact h2 | cases h2)
   have hrec : ∀ c rs Q, run T n f c rs Q = .ok → ∀ st, RR rs st → AW P c st (KQ fun e rs => match e with | .panic _ => .bad [] | e => Q e rs) := fun c rs Q => ih n (Nat.lt_succ_self n) f c rs Q
   unfold run at h
   split at h
   ·exact aw_skip ⟨rs, hR, h⟩
   ·rename_i id ops
    have := rLst_ok (k := Q .normal) hT hrc ops.toList rs st hR h
    have h2 : AW P (.region id ops.toList.toArray false) st (KQ fun e rs => match e with | .panic _ => .bad [] | e => Q e rs) := aw_region (by
     simp only [Array.toArray_toList]
     exact this)
    simpa using h2
   ·rename_i id ops
    split at h
    ·rename_i hck
     have := rG_ok (k := Q .normal) hT hrc _ [] [] rs st hR (by intro s d t x v hm; simp at hm) h
     have h2 : AW P (.region id ops.toList.toArray true) st (KQ fun e rs => match e with | .panic _ => .bad [] | e => Q e rs) := aw_regionG (planG ops ops.size (Array.replicate ops.size false)) hT.mx (by
      simp only [Array.toArray_toList]
      exact hck) (by
      rintro c st ⟨rs', _, h2⟩
      cases h2) (by
      simp only [Array.toArray_toList]
      exact this)
     simpa using h2
    ·split at h
     rotate_left
     ·cases h
     rename_i hck
     have := rT_ok hT hrc _ rs st (Q .normal) hR h
     have h2 : AW P (.region id ops.toList.toArray true) st (KQ fun e rs => match e with | .panic _ => .bad [] | e => Q e rs) := aw_regionO (planT ops ops.size (Array.replicate ops.size false)) hT.mx (by
      simp only [Array.toArray_toList]
      exact hck) (by
      rintro c st ⟨rs', _, h2⟩
      cases h2) (by
      simp only [Array.toArray_toList]
      exact this)
     simpa using h2
   ·rename_i x y
    refine aw_seq fun K hK => aw_mono (hrec _ _ _ h st hR) ?_
    rintro e st' ⟨rs', h1, h2⟩
    cases e with
    | normal => exact hK st' (hrec _ _ _ h2 st' h1)
    | panic c => cases h2
    | _ => exact ⟨rs', h1, h2⟩
   ·rename_i op x y
    split at h
    ·rename_i t ht
     refine aw_cond (t := t) ((congrFun hR.ev op).trans ht) (fun e => ?_) (fun e => ?_)
     ·subst e; exact hrec _ _ _ h st hR
     ·subst e; exact hrec _ _ _ h st hR
    ·cases h
   ·rename_i id c
    refine aw_block (aw_mono (hrec _ _ _ h st hR) ?_)
    rintro e st' ⟨rs', h1, h2⟩
    cases e with
    | exit i =>
     simp only at h2
     simp only [InBl]
     rw [Bool.cond_eq_ite, beqT] at h2
     by_cases e : i = id
     ·subst e
      rw [if_pos (by simp)] at h2
      rw [if_pos rfl]
      exact ⟨rs', h1, h2⟩
     ·rw [if_neg (by simpa using e)] at h2
      rw [if_neg e]
      exact ⟨rs', h1, h2⟩
    | panic c => cases h2
    | _ => exact ⟨rs', h1, h2⟩
   ·rename_i c
    refine aw_loop (α := Nat × ST) (fun x => x.2) (fun x => x.1 ≤ n + 1 ∧ ∃ rs, RR rs x.2 ∧ run T x.1 f (.loop c) rs Q = .ok) (fun x => x.1) (n + 1, st) ⟨Nat.le_refl _, rs, hR, by unfold run; exact h⟩ (Le.refl _) ?_
    rintro ⟨m, s⟩ ⟨hm, rs1, hR1, h1⟩ K hK
    cases m with
    | zero => cases h1
    | succ m =>
     unfold run at h1
     simp only at h1 hm
     refine aw_mono (ih m (by omega) f c rs1 _ h1 s hR1) ?_
     rintro e st' ⟨rs', h2, h3⟩
     cases e with
     | normal => exact hK st' (m, st') ⟨by omega, rs', h2, h3⟩ (Nat.lt_succ_self m) (Le.refl _)
     | panic c => cases h3
     | _ => exact ⟨rs', h2, h3⟩
   ·exact aw_exit ⟨rs, hR, h⟩
   ·exact aw_ret ⟨rs, hR, h⟩
   ·rename_i c
    refine aw_scope (aw_mono (hrec _ _ _ h st hR) ?_)
    rintro e st' ⟨rs', h1, h2⟩
    cases e with
    | goto l => cases h2
    | panic c => cases h2
    | _ => exact ⟨rs', h1, h2⟩
   ·exact aw_label ⟨rs, hR, h⟩
   ·cases h
end
end Go.Proofs.YtglchakimolfdaaDoor
