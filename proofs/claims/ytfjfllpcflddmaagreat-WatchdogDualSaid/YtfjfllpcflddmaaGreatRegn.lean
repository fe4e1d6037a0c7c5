/- A region that draws its order, whose last operation waits for all others: loads may be taken first though the last operation writes what they read. -/
import Derived.Test.YtfjfllpcflddmaaGreatBase
import Derived.OrdersHeld
namespace Go.Proofs.YtfjfllpcflddmaaGreat
set_option linter.unusedVariables false
set_option linter.unusedSimpArgs false
open Go.RowKit

section
variable {P : Program} {ops : Array Oper} {Q : Exit → Act → World → Prop} {md : Region.Mode} {S : World → Prop} {stop : Nat}

/-- S holds as long as the last operation has not come up -/
def Ph (S : World → Prop) (stop : Nat) (listed : Array Bool) (w : World) : Prop := listed.getD stop false = true ∨ S w

def wpAnyP (P : Program) (md : Region.Mode) (ops : Array Oper) (Q : Exit → Act → World → Prop) (S : World → Prop) (stop : Nat) : Nat → Array Bool → Act → World → Prop
  | 0, listed, a, w => Region.ready md ops listed = [] ∧ Q .normal a w
  | fuel + 1, listed, a, w =>
    (Region.ready md ops listed = [] → Q .normal a w) ∧
    ∀ i ∈ Region.ready md ops listed, wpOp P ops Q i (fun a' w' => Ph S stop (listed.setIfInBounds i true) w' ∧ wpAnyP P md ops Q S stop fuel (listed.setIfInBounds i true) a' w') a w

theorem wpAny_of_P : ∀ (fuel : Nat) (listed : Array Bool) (a : Act) (w : World), wpAnyP P md ops Q S stop fuel listed a w → wpAny P md ops Q fuel listed a w
  | 0, _, _, _, h => h
  | fuel + 1, _, _, _, h => ⟨h.1, fun i hi => wpOp_mono (fun a' w' h' => wpAny_of_P fuel _ a' w' h'.2) (h.2 i hi)⟩

/-- whatever has come up, what it waits for has come up -/
def Closed (md : Region.Mode) (ops : Array Oper) (listed : Array Bool) : Prop :=
  ∀ j o, ops[j]? = some o → listed.getD j false = true → ∀ e ∈ o.after, Region.binds md e = true → listed.getD e.on false = true
theorem Closed.step {listed : Array Bool} {j : Nat} (h : Closed md ops listed) (hj : j ∈ Region.ready md ops listed) : Closed md ops (listed.setIfInBounds j true) := by
  intro k o hk hl e he hb
  by_cases hkj : j = k
  · subst hkj
    obtain ⟨_, o', ho', hall⟩ := mem_ready.1 hj
    rw [hk] at ho'
    cases ho'
    exact getD_set_true (hall e he hb)
  · rw [getD_set_ne false hkj] at hl
    exact getD_set_true (h k o hk hl e he hb)
/-- what j waits for, through others -/
def depsOf (md : Region.Mode) (ops : Array Oper) : Nat → Nat → List Nat
  | 0, j => [j]
  | f + 1, j => j :: (match ops[j]? with
    | some o => (o.after.toList.filter (Region.binds md)).flatMap fun e => depsOf md ops f e.on
    | none => [])
theorem Closed.deps {listed : Array Bool} (h : Closed md ops listed) : ∀ (f j : Nat), listed.getD j false = true → ∀ i ∈ depsOf md ops f j, listed.getD i false = true
  | 0, j, hj, i, hi => by
    simp only [depsOf, List.mem_singleton] at hi
    rw [hi]; exact hj
  | f + 1, j, hj, i, hi => by
    simp only [depsOf, List.mem_cons] at hi
    rcases hi with rfl | hi
    · exact hj
    · cases ho : ops[j]? with
      | none => rw [ho] at hi; cases hi
      | some o =>
        rw [ho] at hi
        simp only [List.mem_flatMap, List.mem_filter] at hi
        obtain ⟨e, ⟨he, hb⟩, hi⟩ := hi
        exact Closed.deps h f e.on (h j o ho hj e (by simpa using he) hb) i hi

theorem getD_ft {listed : Array Bool} {i : Nat} (h : listed.getD i true = false) : listed.getD i false = false := by
  rcases Nat.lt_or_ge i listed.size with h' | h'
  · simpa [h'] using h
  · simp [Array.getElem?_eq_none h'] at h

theorem wpAnyP_first {i : Nat} {oi : Oper} {v : Value} (hi : ops[i]? = some oi) (hsel : ∀ (j : Nat) (o : Oper) cs b, ops[j]? = some o → o.op ≠ .select cs b)
    (hQ : ∀ c (a : Act) (d : Option Tmp) (v : Value) w, Q (.panic c) (a.put d v) w → Q (.panic c) a w) (hst : i ≠ stop) {f : Nat} (hdep : i ∈ depsOf md ops f stop) :
    ∀ (fuel : Nat) (listed : Array Bool) (a : Act) (w : World), Closed md ops listed →
      (∀ j oj, ops[j]? = some oj → j ≠ i → listed.getD j true = false → (∀ e ∈ oj.after, Region.binds md e = true → e.on ≠ i) → oi.apart ops oj = true) →
      i ∈ Region.ready md ops listed → YieldsIf P ops S oi v a → Ph S stop listed w →
      wpAnyP P md ops Q S stop fuel (listed.setIfInBounds i true) (a.put oi.dst v) w → wpAnyP P md ops Q S stop (fuel + 1) listed a w := by
  have hS : ∀ (listed : Array Bool) (w : World), Closed md ops listed → i ∈ Region.ready md ops listed → Ph S stop listed w → S w := by
    intro listed w hcl hr hp
    rcases hp with hp | hp
    · have h1 := hcl.deps f stop hp i hdep
      rw [getD_ft (mem_ready.1 hr).1] at h1
      cases h1
    · exact hp
  have hPh : ∀ (listed : Array Bool) (w : World), Ph S stop (listed.setIfInBounds i true) w → Ph S stop listed w := by
    intro listed w h
    rcases h with h | h
    · left; rwa [getD_set_ne false hst] at h
    · exact .inr h
  have hPh' : ∀ (listed : Array Bool) (w : World), Ph S stop listed w → Ph S stop (listed.setIfInBounds i true) w := by
    intro listed w h
    rcases h with h | h
    · left; rwa [getD_set_ne false hst]
    · exact .inr h
  intro fuel
  induction fuel with
  | zero =>
    intro listed a w hcl _ hr hy hp H
    refine ⟨fun h => (by rw [h] at hr; cases hr), fun j hj => ?_⟩
    by_cases hji : j = i
    · subst hji; exact hy.wpOp hi (hS listed w hcl hr hp) ⟨hPh' _ _ hp, H⟩
    · have := ready_mono hj hji
      rw [H.1] at this
      cases this
  | succ fuel ih =>
    intro listed a w hcl hfree hr hy hp H
    refine ⟨fun h => (by rw [h] at hr; cases hr), fun j hj => ?_⟩
    by_cases hji : j = i
    · subst hji; exact hy.wpOp hi (hS listed w hcl hr hp) ⟨hPh' _ _ hp, H⟩
    · have h1 := H.2 j (ready_mono hj hji)
      obtain ⟨hjun, oj, hoj, hall⟩ := mem_ready.1 hj
      have hnot : ∀ e ∈ oj.after, Region.binds md e = true → e.on ≠ i := fun e he hb heq => by
        have h1 := hall e he hb
        rw [heq, getD_ft (mem_ready.1 hr).1] at h1
        cases h1
      have h2 := wpOp_putIf hoj (hfree j oj hoj hji hjun hnot) (fun cs b => hsel i oi cs b hi) (fun cs b => hsel j oj cs b hoj) (fun c a w h => hQ c a _ _ w h) hy h1
      have hfree' : ∀ k ok, ops[k]? = some ok → k ≠ i → (listed.setIfInBounds j true).getD k true = false →
          (∀ e ∈ ok.after, Region.binds md e = true → e.on ≠ i) → oi.apart ops ok = true := fun k ok hk hki hun hno => by
        refine hfree k ok hk hki ?_ hno
        by_cases hjk : j = k
        · subst hjk; exact hjun
        · rw [getD_set_ne true hjk] at hun; exact hun
      refine wpOp_mono (fun a' w' h3 => ?_) h2
      have hc := h3.2.1
      rw [Array.setIfInBounds_comm _ _ (Ne.symm hji)] at hc
      have hp' := hPh _ _ hc
      refine ⟨hp', ih (listed.setIfInBounds j true) a' w' (hcl.step hj) hfree' (ready_mono hr (Ne.symm hji)) h3.1 hp' ?_⟩
      rw [Array.setIfInBounds_comm _ _ hji]
      exact h3.2.2

/-- the walk in one order: (number, may it be taken first?) -/
def wpT (P : Program) (ops : Array Oper) (Q : Exit → Act → World → Prop) (S : World → Prop) : List (Nat × Bool) → Act → World → Prop
  | [], a, w => Q .normal a w
  | (i, true) :: rest, a, w => ∃ oi v, ops[i]? = some oi ∧ YieldsIf P ops S oi v a ∧ wpT P ops Q S rest (a.put oi.dst v) w
  | (i, false) :: rest, a, w => wpOp P ops Q i (fun a' w' => (rest = [] ∨ S w') ∧ wpT P ops Q S rest a' w') a w
def chkT (md : Region.Mode) (ops : Array Oper) (stop : Nat) : List (Nat × Bool) → Array Bool → Bool
  | [], listed => (Region.ready md ops listed).isEmpty
  | (i, true) :: rest, listed => Region.free md ops listed i && (Region.ready md ops listed).contains i && (depsOf md ops ops.size stop).contains i && i != stop && chkT md ops stop rest (listed.setIfInBounds i true)
  | (i, false) :: rest, listed => (Region.ready md ops listed == [i]) && (!rest.isEmpty || i == stop) && decide (i < listed.size) && chkT md ops stop rest (listed.setIfInBounds i true)
theorem wpAnyP_of_T (hs : Region.noSelect ops = true) (hQ : ∀ c (a : Act) (d : Option Tmp) (v : Value) w, Q (.panic c) (a.put d v) w → Q (.panic c) a w) :
    ∀ (l : List (Nat × Bool)) (listed : Array Bool) (a : Act) (w : World), Closed md ops listed → chkT md ops stop l listed = true → Ph S stop listed w → wpT P ops Q S l a w → wpAnyP P md ops Q S stop l.length listed a w
  | [], listed, a, w, _, hc, _, h => by
    simp only [chkT, List.isEmpty_iff] at hc
    exact ⟨hc, h⟩
  | (i, true) :: rest, listed, a, w, hcl, hc, hp, h => by
    simp only [chkT, Bool.and_eq_true, bne_iff_ne, ne_eq, List.contains_eq_mem, decide_eq_true_eq] at hc
    obtain ⟨⟨⟨⟨hf, hr⟩, hd⟩, hne⟩, hrest⟩ := hc
    obtain ⟨oi, v, hi, hy, hT⟩ := h
    have hp' : Ph S stop (listed.setIfInBounds i true) w := by
      rcases hp with hp | hp
      · left; rwa [getD_set_ne false hne]
      · exact .inr hp
    exact wpAnyP_first hi (Region.noSelect_spec hs) hQ hne hd rest.length listed a w hcl (Region.free_spec hi hf) hr hy hp
      (wpAnyP_of_T hs hQ rest _ _ w (hcl.step hr) hrest hp' hT)
  | (i, false) :: rest, listed, a, w, hcl, hc, hp, h => by
    simp only [chkT, Bool.and_eq_true, Bool.or_eq_true, Bool.not_eq_true', List.isEmpty_eq_false_iff, beq_iff_eq, decide_eq_true_eq] at hc
    obtain ⟨⟨⟨hr, hl⟩, hlt⟩, hrest⟩ := hc
    refine ⟨fun h0 => absurd (h0 ▸ hr) (by simp), fun j hj => ?_⟩
    have hji : j = i := by rw [hr] at hj; simpa using hj
    subst hji
    refine wpOp_mono (fun a' w' h' => ?_) h
    have hp' : Ph S stop (listed.setIfInBounds j true) w' := by
      rcases h'.1 with h0 | h0
      · left
        rcases hl with hl | hl
        · exact absurd h0 hl
        · subst hl
          simp [hlt]
      · exact .inr h0
    exact ⟨hp', wpAnyP_of_T hs hQ rest _ a' w' (hcl.step hj) hrest hp' h'.2⟩

/-- THE LAW: a region that draws, walked in the order that is given -/
theorem wp_region_T {id : Nat} {a : Act} {w : World} (S : World → Prop) (stop : Nat) (l : List (Nat × Bool)) (hm : P.follows .mixedOrders = true)
    (hs : (Region.noSelect ops && chkT .any ops stop l (Array.replicate ops.size false) && (l.length == ops.size)) = true)
    (hQ : ∀ c (a : Act) (d : Option Tmp) (v : Value) w, Q (.panic c) (a.put d v) w → Q (.panic c) a w) (hS : S w.drew) (h : wpT P ops Q S l a w.drew) : (Code.region id ops true).wp P Q a w := by
  simp only [Bool.and_eq_true, beq_iff_eq] at hs
  obtain ⟨⟨hs, hc⟩, hl⟩ := hs
  refine wp_region_any hm (wpAny_of_P (S := S) (stop := stop) _ _ _ _ ?_)
  rw [← hl]
  refine wpAnyP_of_T hs hQ l _ a w.drew ?_ (by rw [hl]; exact hc) (.inr hS) h
  intro j o hj hlist
  exfalso
  simp [Array.getElem?_replicate] at hlist
  split at hlist <;> simp at hlist

theorem wpT_pure {i : Nat} {rest : List (Nat × Bool)} {a : Act} {w : World} (oi : Oper) (v : Value) (hi : ops[i]? = some oi) (hg : Region.wanted oi (yielded ops a.tmps) = true)
    (hy : ∀ w', S w' → (execOp a.eval oi).run P w' = .ok (.value v) w') (h : wpT P ops Q S rest (a.put oi.dst v) w) : wpT P ops Q S ((i, true) :: rest) a w :=
  ⟨oi, v, hi, .inl ⟨hg, hy⟩, h⟩
theorem wpT_pure' {i : Nat} {rest : List (Nat × Bool)} {a : Act} {w : World} {oi : Oper} (hi : ops[i]? = some oi) (hg : Region.wanted oi (yielded ops a.tmps) = true)
    (h : ∃ v, (∀ w', S w' → (execOp a.eval oi).run P w' = .ok (.value v) w') ∧ wpT P ops Q S rest (a.put oi.dst v) w) : wpT P ops Q S ((i, true) :: rest) a w :=
  let ⟨v, hy, hr⟩ := h; ⟨oi, v, hi, .inl ⟨hg, hy⟩, hr⟩
theorem wpT_skip {i : Nat} {rest : List (Nat × Bool)} {a : Act} {w : World} {oi : Oper} (hi : ops[i]? = some oi) (hg : Region.wanted oi (yielded ops a.tmps) = false)
    (h : wpT P ops Q S rest (a.put oi.dst undef) w) : wpT P ops Q S ((i, true) :: rest) a w :=
  ⟨oi, undef, hi, .inr ⟨hg, rfl⟩, h⟩
theorem wpT_skipE {i : Nat} {x : Nat × Bool} {rest : List (Nat × Bool)} {a : Act} {w : World} {oi : Oper} (hi : ops[i]? = some oi) (hg : Region.wanted oi (yielded ops a.tmps) = false)
    (hS : S w) (h : wpT P ops Q S (x :: rest) (a.put oi.dst undef) w) : wpT P ops Q S ((i, false) :: x :: rest) a w := by
  unfold wpT wpOp
  simp only [hi, hg, Bool.false_eq_true, if_false]
  exact ⟨.inr hS, h⟩
theorem wpT_eff {i : Nat} {x : Nat × Bool} {rest : List (Nat × Bool)} {a : Act} {w : World} (oi : Oper) (hi : ops[i]? = some oi) (hg : Region.wanted oi (yielded ops a.tmps) = true)
    (h : ∀ K : Act → World → Prop, Hid (∀ a' w', S w' → wpT P ops Q S (x :: rest) a' w' → K a' w') → oi.wp P a w K Q) : wpT P ops Q S ((i, false) :: x :: rest) a w := by
  unfold wpT wpOp
  simp only [hi, hg, if_true]
  exact .inl (h _ (fun a' w' hS hT => ⟨.inr hS, hT⟩))
theorem wpT_last {i : Nat} {a : Act} {w : World} (oi : Oper) (hi : ops[i]? = some oi) (hg : Region.wanted oi (yielded ops a.tmps) = true)
    (h : oi.wp P a w (fun a' w' => Q .normal a' w') Q) : wpT P ops Q S [(i, false)] a w := by
  unfold wpT wpOp
  simp only [hi, hg, if_true]
  refine .inl ?_
  unfold Oper.wp at *
  generalize (execOp a.eval oi).run P w = r at *
  cases r with
  | ok n w' =>
    cases n <;> simp only [Oper.upon] at h ⊢
    case value u => exact ⟨.inl trivial, h⟩
    case skip => exact ⟨.inl trivial, h⟩
    case defer d => exact ⟨.inl trivial, h⟩
    case enter f args =>
      refine Calls.mono h fun e w'' he => ?_
      cases e with
      | returned u => exact ⟨.inl trivial, he⟩
      | panicked c => exact he
      | outgrown => exact he
    case row row args => exact Rows.mono h fun u w'' he => ⟨.inl trivial, he⟩
  | halt x w' =>
    cases x <;> simp only [Oper.upon] at h ⊢
    case panic u => exact h
end
end Go.Proofs.YtfjfllpcflddmaaGreat
