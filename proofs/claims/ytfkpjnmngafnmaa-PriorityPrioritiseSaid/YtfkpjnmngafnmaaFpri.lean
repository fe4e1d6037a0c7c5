/-
  PriorityPrioritise returns true for every tape, every system and every list of pairs, and leaves what came in as it was. No condition.
-/
import Derived.Test.YtfkpjnmngafnmaaLpri2
import Derived.Test.YtfkpjnmngafnmaaOpn2
namespace Go.Proofs.Ytfkpjnmngafnmaa
set_option linter.unusedVariables false
set_option linter.unusedSimpArgs false
open Go.ChangeShapes Go.WideShapes Go.ChangeAt Go.RowKit

set_option maxRecDepth 100000 in
theorem prio_lifted (os : Os) (started : os.Started) (H : Type) (enc : TypeId × Value → H) :
    ReturnsInHanded {} Try.checked os 3 .any (Rows.priorityPrioritiseSpec.pre6 enc Try.prog Try.f3 Rows.priorityPrioritiseRow.domain false) (Rows.priorityPrioritiseSpec.post enc Try.prog Try.f3 false true false false) := by
  refine returnsInHanded_of_change_sized (C := Try.checked) own_ started (by kernel_rfl) Try.func3
    (ChangeSpec.witness6 (enc := enc) (C := Try.checked) false ⟨#[], #[.slice none 0 0, .agg #[.slice none 0 0], .slice none 0 0], []⟩ 8 (by kernel_rfl) (by kernel_rfl) (by kernel_rfl) (by kernel_rfl)) ?_
  intro W base args ds gs before hval0 hW hcnd hsz _
  have hval : ∀ (j : Nat) t v, Try.f3.params[j]? = some t → args[j]? = some v → Value.okWide Try.prog W .any base t v := hval0
  have hW' := hW
  obtain ⟨p, q, hA0, hV, rfl, hfz, hnd⟩ := hW
  have hA : DataW.TrodAll enc Try.prog W 0 (fun _ => true) true Try.f3.params.toList args.toList ds p := hA0
  have hsz2 : (DataW.weightsEach Try.prog Try.f3.params.toList (ds ++ gs)).all (· ≤ reachBytes) = true := by
    have : Try.f3.params.toList ++ Rows.priorityPrioritiseSpec.plain.varTypes Try.checked.prog = Try.f3.params.toList := by simp [Rows.priorityPrioritiseSpec, ChangeSpec.plain, DataSpec.varTypes]
    rw [← this]; exact hsz
  rw [Try.params3] at hA hval hsz2
  obtain ⟨v0, vs0, d0, ds0, p0, q0, hargs, rfl, rfl, h0, r0⟩ := trodAll_cons hA
  obtain ⟨v1, vs1, d1, ds1, p1, q1, rfl, rfl, rfl, h1, r1⟩ := trodAll_cons r0
  obtain ⟨v2, vs2, d2, ds2, p2, q2, rfl, rfl, rfl, h2, r2⟩ := trodAll_cons r1
  obtain ⟨rfl, rfl, rfl⟩ := trodAll_nil r2
  obtain rfl : args = #[v0, v1, v2] := by cases args; simp_all
  obtain ⟨rfl, rfl⟩ := trodVars_none hV
  have hs1 : ∀ k ∈ d1.weights Try.prog 25, k ≤ reachBytes := fun k hk => by
    have := List.all_eq_true.1 hsz2 k (DataW.weights_mem_each (j := 1) rfl rfl k hk); simpa using this
  have hs2 : ∀ k ∈ d2.weights Try.prog 26, k ≤ reachBytes := fun k hk => by
    have := List.all_eq_true.1 hsz2 k (DataW.weights_mem_each (j := 2) rfl rfl k hk); simpa using this
  obtain ⟨a0, len0, cap0, rfl⟩ := okWide_slice Try.underlying22 (hval 0 22 v0 rfl rfl)
  obtain ⟨zs, hz1, hz2, hz3⟩ := tape_open h0
  obtain ⟨A, n, c, rows, rfl, hr, hn, hrl⟩ := lts_open (hval 1 25 v1 rfl rfl) h1 hs1
  obtain ⟨B, m, d, o, rfl, ho, hm⟩ := order_open h2 (okWide_slice Try.underlying26 (hval 2 26 v2 rfl rfl)) hs2
  have lt0 : ∀ x ∈ p0, x.block < W.heap.size := by obtain ⟨m, hm⟩ := h0; exact DataW.trod_lt m _ _ _ hm
  have lt1 : ∀ x ∈ p1, x.block < W.heap.size := by obtain ⟨m, hm⟩ := h1; exact DataW.trod_lt m _ _ _ hm
  have lt2 : ∀ x ∈ p2, x.block < W.heap.size := by obtain ⟨m, hm⟩ := h2; exact DataW.trod_lt m _ _ _ hm
  clear hA0 hval0
  refine (lawPrio_any a0 A B len0 cap0 n c m d zs rows o W hz1 hz2 hz3 hr hn hrl ho hm).mono fun e W' ⟨he, hf⟩ => ?_
  subst he
  have bel := hf.below
  exact ⟨_, rfl, _, _, _, [], _, [], hW', trodAll_mk1 (shut_bool Try.underlying4 _), (trodAll_cons_mk (Below.trod laidOut_ (by kernel_rfl) (of_decide_eq_true (by kernel_rfl)) h0 bel lt0)
    (trodAll_cons_mk (Below.trod laidOut_ (by kernel_rfl) (of_decide_eq_true (by kernel_rfl)) h1 bel lt1) (trodAll_cons_mk (Below.trod laidOut_ (by kernel_rfl) (of_decide_eq_true (by kernel_rfl)) h2 bel lt2) trodAll_mk0))), rfl, bel.frame _, fun h => by cases h⟩

theorem prio_over : Rows.priorityPrioritiseRow.holds Try.pinned (OpenSpec.ofChange Rows.priorityPrioritiseSpec) :=
  OpenClaim.holds_of_wide 3 Try.f3 rfl rfl rfl rfl rfl rfl rfl ⟨rfl, rfl, rfl, rfl, rfl⟩ rfl rfl rfl rfl rfl (by kernel_rfl) Try.func3 (by kernel_rfl)
    (of_decide_eq_true (by kernel_rfl)) (by unfold Func.isWrapper; first | (rw [if_pos (by decide +kernel)]; kernel_rfl) | (rw [if_neg (by decide +kernel)]; exact ⟨rfl, rfl⟩))
    (fun os started H enc _ => prio_lifted os started H enc)
/-- the statement -/
theorem prioritise_holds : Rows.PriorityPrioritiseSaid := prio_over
end Go.Proofs.Ytfkpjnmngafnmaa
