/-
 DelayCompress returns true for every tape, and leaves what came in as it was. No condition.
-/
import Derived.Test.YtahnebicgbjonaaG68
import Derived.Test.YtahnebicgbjonaaOpn1
import Derived.Test.YtahnebicgbjonaaJdco
namespace Go.Proofs.Ytahnebicgbjonaa
set_option linter.unusedVariables false
set_option linter.unusedSimpArgs false
open Go.ChangeShapes Go.WideShapes Go.ChangeAt Go.RowKit

set_option maxRecDepth 100000 in
theorem dco_lifted (os : Os) (started : os.Started) (H : Type) (enc : TypeId × Value → H) :
  ReturnsInHanded {} Try.checked os 3 .any (Rows.delayCompressSpec.pre6 enc Try.prog Try.f3 Rows.delayCompressRow.domain false) (Rows.delayCompressSpec.post enc Try.prog Try.f3 false true false false) := by
 refine returnsInHanded_of_change_sized (C := Try.checked) own_ started (by kernel_rfl) Try.func3
  (ChangeSpec.witness6 (enc := enc) (C := Try.checked) false ⟨#[], #[.slice none 0 0], []⟩ 8 (by kernel_rfl) (by kernel_rfl) (by kernel_rfl) (by kernel_rfl)) ?_
 intro W base args ds gs before hval0 hW hcnd hsz _
 have hval : ∀ (j : Nat) t v, Try.f3.params[j]? = some t → args[j]? = some v → Value.okWide Try.prog W .any base t v := hval0
 have hW' := hW
 obtain ⟨p, q, hA0, hV, rfl, hfz, hnd⟩ := hW
 have hA : DataW.TrodAll enc Try.prog W 0 (fun _ => true) true Try.f3.params.toList args.toList ds p := hA0
 have hsz2 : (DataW.weightsEach Try.prog Try.f3.params.toList (ds ++ gs)).all (· ≤ reachBytes) = true := by
  have : Try.f3.params.toList ++ Rows.delayCompressSpec.plain.varTypes Try.checked.prog = Try.f3.params.toList := by simp [Rows.delayCompressSpec, ChangeSpec.plain, DataSpec.varTypes]
  rw [← this]; exact hsz
 rw [Try.params3] at hA hval hsz2
 obtain ⟨v0, vs0, d0, ds0, p0, q0, hargs, rfl, rfl, h0, r0⟩ := trodAll_cons hA
 obtain ⟨rfl, rfl, rfl⟩ := trodAll_nil r0
 obtain rfl : args = #[v0] := by cases args; simp_all
 obtain ⟨rfl, rfl⟩ := trodVars_none hV
 have hs0 : ∀ k ∈ d0.weights Try.prog 22, k ≤ reachBytes := fun k hk => by
  have := List.all_eq_true.1 hsz2 k (DataW.weights_mem_each (j := 0) rfl rfl k hk); simpa using this
 obtain ⟨a0, len0, cap0, rfl⟩ := okWide_slice Try.underlying22 (hval 0 22 v0 rfl rfl)
 obtain ⟨T0, hT0, hTl0, hTx0⟩ : ∃ zs, Rd noM W (.l 1 (tInts zs)) (.slice a0 len0 cap0) ∧ zs.length ≤ 9223372036854775807 ∧ ∀ y ∈ zs, in64 y := by
  obtain ⟨fuel, hf⟩ := h0
  exact ints_tr Try.underlying22 Try.underlying3 (by kernel_rfl) (by simpa [Value.cells] using hf)
 have lt0 : ∀ x ∈ p0, x.block < W.heap.size := by obtain ⟨m, hm⟩ := h0; exact DataW.trod_lt m _ _ _ hm
 clear hA0 hval0
 refine (law_calls (lawCmp_fc T0 ⟨hTl0, hTx0⟩) W [.slice a0 len0 cap0] rfl (fun i x hx => ?_)).mono fun e W' ⟨he, hf⟩ => ?_
 ·match i, hx with
  | 0, hx => simp at hx; subst hx; exact ⟨_, rfl, fun g hg => avr_tr hT0 hg⟩
  | i + 1, hx => simp at hx
 subst he
 have bel := hf.below
 exact ⟨_, rfl, _, _, _, [], _, [], hW', trodAll_mk1 (shut_bool Try.underlying4 _), (trodAll_cons_mk (Below.trod laidOut_ (by kernel_rfl) (of_decide_eq_true (by kernel_rfl)) h0 bel lt0) trodAll_mk0), rfl, bel.frame _, fun h => by cases h⟩

theorem dco_over : Rows.delayCompressRow.holds Try.pinned (OpenSpec.ofChange Rows.delayCompressSpec) :=
 OpenClaim.holds_of_wide 3 Try.f3 rfl rfl rfl rfl rfl rfl rfl ⟨rfl, rfl, rfl, rfl, rfl⟩ rfl rfl rfl rfl rfl (by kernel_rfl) Try.func3 dco_joined
  (of_decide_eq_true (by kernel_rfl)) (by unfold Func.isWrapper; first | (rw [if_pos (by decide +kernel)]; kernel_rfl) | (rw [if_neg (by decide +kernel)]; exact ⟨rfl, rfl⟩))
  (fun os started H enc _ => dco_lifted os started H enc)
theorem delayCompress_holds : Rows.DelayCompressSaid := dco_over
end Go.Proofs.Ytahnebicgbjonaa
