/- A region that draws, walked in a tree of orders: where two effects are ready, both ways. -/
import Derived.Test.YtfkpjnmngafnmaaRegn
namespace Go.Proofs.Ytfkpjnmngafnmaa
set_option linter.unusedVariables false
set_option linter.unusedSimpArgs false
open Go.RowKit
inductive Ow where
  | nil
  | pu (i : Nat) (r : Ow)
  | ef (i : Nat) (r : Ow)
  | fk (i : Nat) (r : Ow) (j : Nat) (s : Ow)
def Ow.isNil : Ow → Bool
  | .nil => true
  | _ => false
def Ow.len : Ow → Nat
  | .nil => 0
  | .pu _ r => r.len + 1
  | .ef _ r => r.len + 1
  | .fk _ r _ _ => r.len + 1
section
variable {P : Program} {ops : Array Oper} {Q : Exit → Act → World → Prop} {md : Region.Mode} {S : World → Prop} {stop : Nat}
def wpF (P : Program) (ops : Array Oper) (Q : Exit → Act → World → Prop) (S : World → Prop) : Ow → Act → World → Prop
  | .nil, a, w => Q .normal a w
  | .pu i r, a, w => ∃ oi v, ops[i]? = some oi ∧ YieldsIf P ops S oi v a ∧ wpF P ops Q S r (a.put oi.dst v) w
  | .ef i r, a, w => wpOp P ops Q i (fun a' w' => (r.isNil = true ∨ S w') ∧ wpF P ops Q S r a' w') a w
  | .fk i r j s, a, w => wpOp P ops Q i (fun a' w' => S w' ∧ wpF P ops Q S r a' w') a w ∧ wpOp P ops Q j (fun a' w' => S w' ∧ wpF P ops Q S s a' w') a w
def chkF (md : Region.Mode) (ops : Array Oper) (stop : Nat) : Ow → Array Bool → Bool
  | .nil, listed => (Region.ready md ops listed).isEmpty
  | .pu i r, listed => Region.free md ops listed i && (Region.ready md ops listed).contains i && (depsOf md ops ops.size stop).contains i && i != stop && chkF md ops stop r (listed.setIfInBounds i true)
  | .ef i r, listed => (Region.ready md ops listed == [i]) && (!r.isNil || i == stop) && decide (i < listed.size) && chkF md ops stop r (listed.setIfInBounds i true)
  | .fk i r j s, listed => (Region.ready md ops listed == [i, j]) && r.len == s.len && chkF md ops stop r (listed.setIfInBounds i true) && chkF md ops stop s (listed.setIfInBounds j true)
theorem wpAnyP_of_F (hs : Region.noSelect ops = true) (hQ : ∀ c (a : Act) (d : Option Tmp) (v : Value) w, Q (.panic c) (a.put d v) w → Q (.panic c) a w) :
    ∀ (l : Ow) (listed : Array Bool) (a : Act) (w : World), Closed md ops listed → chkF md ops stop l listed = true → Ph S stop listed w → wpF P ops Q S l a w → wpAnyP P md ops Q S stop l.len listed a w
  | .nil, listed, a, w, _, hc, _, h => by
    simp only [chkF, List.isEmpty_iff] at hc
    exact ⟨hc, h⟩
  | .pu i rest, listed, a, w, hcl, hc, hp, h => by
    simp only [chkF, Bool.and_eq_true, bne_iff_ne, ne_eq, List.contains_eq_mem, decide_eq_true_eq] at hc
    obtain ⟨⟨⟨⟨hf, hr⟩, hd⟩, hne⟩, hrest⟩ := hc
    obtain ⟨oi, v, hi, hy, hT⟩ := h
    have hp' : Ph S stop (listed.setIfInBounds i true) w := by
      rcases hp with hp | hp
      · left; rwa [getD_set_ne false hne]
      · exact .inr hp
    exact wpAnyP_first hi (Region.noSelect_spec hs) hQ hne hd rest.len listed a w hcl (Region.free_spec hi hf) hr hy hp
      (wpAnyP_of_F hs hQ rest _ _ w (hcl.step hr) hrest hp' hT)
  | .ef i rest, listed, a, w, hcl, hc, hp, h => by
    simp only [chkF, Bool.and_eq_true, Bool.or_eq_true, Bool.not_eq_true', beq_iff_eq, decide_eq_true_eq] at hc
    obtain ⟨⟨⟨hr, hl⟩, hlt⟩, hrest⟩ := hc
    refine ⟨fun h0 => absurd (h0 ▸ hr) (by simp), fun j hj => ?_⟩
    have hji : j = i := by rw [hr] at hj; simpa using hj
    subst hji
    refine wpOp_mono (fun a' w' h' => ?_) h
    have hp' : Ph S stop (listed.setIfInBounds j true) w' := by
      rcases h'.1 with h0 | h0
      · left
        rcases hl with hl | hl
        · rw [h0] at hl; cases hl
        · subst hl
          simp [hlt]
      · exact .inr h0
    exact ⟨hp', wpAnyP_of_F hs hQ rest _ a' w' (hcl.step hj) hrest hp' h'.2⟩
  | .fk i r j s, listed, a, w, hcl, hc, hp, h => by
    simp only [chkF, Bool.and_eq_true, beq_iff_eq] at hc
    obtain ⟨⟨⟨hr, hl⟩, h1⟩, h2⟩ := hc
    refine ⟨fun h0 => absurd (h0 ▸ hr) (by simp), fun x hx => ?_⟩
    have hx2 : x = i ∨ x = j := by rw [hr] at hx; simpa using hx
    rcases hx2 with rfl | rfl
    · exact wpOp_mono (fun a' w' h' => ⟨.inr h'.1, wpAnyP_of_F hs hQ r _ a' w' (hcl.step hx) h1 (.inr h'.1) h'.2⟩) h.1
    · refine wpOp_mono (fun a' w' h' => ⟨.inr h'.1, ?_⟩) h.2
      have := wpAnyP_of_F hs hQ s _ a' w' (hcl.step hx) h2 (.inr h'.1) h'.2
      show wpAnyP P md ops Q S stop r.len _ a' w'
      rw [hl]; exact this
theorem wp_region_F {id : Nat} {a : Act} {w : World} (S : World → Prop) (stop : Nat) (l : Ow) (hm : P.follows .mixedOrders = true)
    (hs : (Region.noSelect ops && chkF .any ops stop l (Array.replicate ops.size false) && (l.len == ops.size)) = true)
    (hQ : ∀ c (a : Act) (d : Option Tmp) (v : Value) w, Q (.panic c) (a.put d v) w → Q (.panic c) a w) (hS : S w.drew) (h : wpF P ops Q S l a w.drew) : (Code.region id ops true).wp P Q a w := by
  simp only [Bool.and_eq_true, beq_iff_eq] at hs
  obtain ⟨⟨hs, hc⟩, hl⟩ := hs
  refine wp_region_any hm (wpAny_of_P (S := S) (stop := stop) _ _ _ _ ?_)
  rw [← hl]
  refine wpAnyP_of_F hs hQ l _ a w.drew ?_ (by rw [hl]; exact hc) (.inr hS) h
  intro j o hj hlist
  exfalso
  simp [Array.getElem?_replicate] at hlist
  split at hlist <;> simp at hlist
theorem wpF_pure' {i : Nat} {rest : Ow} {a : Act} {w : World} {oi : Oper} (hi : ops[i]? = some oi) (hg : Region.wanted oi (yielded ops a.tmps) = true)
    (h : ∃ v, (∀ w', S w' → (execOp a.eval oi).run P w' = .ok (.value v) w') ∧ wpF P ops Q S rest (a.put oi.dst v) w) : wpF P ops Q S (.pu i rest) a w :=
  let ⟨v, hy, hr⟩ := h; ⟨oi, v, hi, .inl ⟨hg, hy⟩, hr⟩
theorem wpF_eff {i : Nat} {rest : Ow} (hn : rest.isNil = false) {a : Act} {w : World} {oi : Oper} (hi : ops[i]? = some oi) (hg : Region.wanted oi (yielded ops a.tmps) = true)
    (h : ∀ K : Act → World → Prop, Hid (∀ a' w', S w' → wpF P ops Q S rest a' w' → K a' w') → oi.wp P a w K Q) : wpF P ops Q S (.ef i rest) a w := by
  unfold wpF wpOp
  simp only [hi, hg, if_true]
  exact .inl (h _ (fun a' w' hS hT => ⟨.inr hS, hT⟩))
theorem wpF_fk {i j : Nat} {r s : Ow} {a : Act} {w : World} {oi oj : Oper} (hi : ops[i]? = some oi) (hg : Region.wanted oi (yielded ops a.tmps) = true) (hj : ops[j]? = some oj) (hgj : Region.wanted oj (yielded ops a.tmps) = true)
    (h1 : ∀ K : Act → World → Prop, Hid (∀ a' w', S w' → wpF P ops Q S r a' w' → K a' w') → oi.wp P a w K Q)
    (h2 : ∀ K : Act → World → Prop, Hid (∀ a' w', S w' → wpF P ops Q S s a' w' → K a' w') → oj.wp P a w K Q) : wpF P ops Q S (.fk i r j s) a w := by
  unfold wpF wpOp
  simp only [hi, hg, hj, hgj, if_true]
  exact ⟨.inl (h1 _ (fun a' w' hS hT => ⟨hS, hT⟩)), .inl (h2 _ (fun a' w' hS hT => ⟨hS, hT⟩))⟩
theorem wpF_last {i : Nat} {a : Act} {w : World} {oi : Oper} (hi : ops[i]? = some oi) (hg : Region.wanted oi (yielded ops a.tmps) = true)
    (h : oi.wp P a w (fun a' w' => Q .normal a' w') Q) : wpF P ops Q S (.ef i .nil) a w := by
  unfold wpF wpOp
  simp only [hi, hg, if_true]
  refine .inl ?_
  unfold Oper.wp at *
  generalize (execOp a.eval oi).run P w = r at *
  cases r with
  | ok n w' =>
    cases n <;> simp only [Oper.upon] at h ⊢
    case value u => exact ⟨.inl rfl, h⟩
    case skip => exact ⟨.inl rfl, h⟩
    case defer d => exact ⟨.inl rfl, h⟩
    case enter f args =>
      refine Calls.mono h fun e w'' he => ?_
      cases e with
      | returned u => exact ⟨.inl rfl, he⟩
      | panicked c => exact he
      | outgrown => exact he
    case row row args => exact Rows.mono h fun u w'' he => ⟨.inl rfl, he⟩
  | halt x w' =>
    cases x <;> simp only [Oper.upon] at h ⊢
    case panic u => exact h
end
end Go.Proofs.Ytfkpjnmngafnmaa
