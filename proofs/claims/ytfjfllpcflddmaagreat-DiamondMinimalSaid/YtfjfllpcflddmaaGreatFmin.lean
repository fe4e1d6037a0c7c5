/-
  DiamondMinimal returns true for every tape and every list of lists of numbers, and leaves what came in as it was. No condition.
-/
import Derived.Test.YtfjfllpcflddmaaGreatG05
import Derived.Test.YtfjfllpcflddmaaGreatOpn3
import Derived.Test.YtfjfllpcflddmaaGreatJmin
namespace Go.Proofs.YtfjfllpcflddmaaGreat
set_option linter.unusedVariables false
set_option linter.unusedSimpArgs false
open Go.ChangeShapes Go.WideShapes Go.ChangeAt Go.RowKit

set_option maxRecDepth 100000 in
theorem min_lifted (os : Os) (started : os.Started) (H : Type) (enc : TypeId × Value → H) :
    ReturnsInHanded {} Tryz.checked os 9 .any (Rows.diamondMinimalSpec.pre6 enc Tryz.prog Tryz.f9 Rows.diamondMinimalRow.domain false) (Rows.diamondMinimalSpec.post enc Tryz.prog Tryz.f9 false true false false) := by
  refine returnsInHanded_of_change_sized (C := Tryz.checked) own_ started (by kernel_rfl) Tryz.func9
    (ChangeSpec.witness6 (enc := enc) (C := Tryz.checked) false ⟨#[], #[.slice none 0 0, .slice none 0 0], []⟩ 8 (by kernel_rfl) (by kernel_rfl) (by kernel_rfl) (by kernel_rfl)) ?_
  intro W base args ds gs before hval0 hW hcnd hsz _
  have hval : ∀ (j : Nat) t v, Tryz.f9.params[j]? = some t → args[j]? = some v → Value.okWide Tryz.prog W .any base t v := hval0
  have hW' := hW
  obtain ⟨p, q, hA0, hV, rfl, hfz, hnd⟩ := hW
  have hA : DataW.TrodAll enc Tryz.prog W 0 (fun _ => true) true Tryz.f9.params.toList args.toList ds p := hA0
  rw [Tryz.params9] at hA hval
  obtain ⟨v0, vs0, d0, ds0, p0, q0, hargs, rfl, rfl, h0, r0⟩ := trodAll_cons hA
  obtain ⟨v1, vs1, d1, ds1, p1, q1, rfl, rfl, rfl, h1, r1⟩ := trodAll_cons r0
  obtain ⟨rfl, rfl, rfl⟩ := trodAll_nil r1
  obtain rfl : args = #[v0, v1] := by cases args; simp_all
  obtain ⟨rfl, rfl⟩ := trodVars_none hV
  obtain ⟨a0, len0, cap0, rfl⟩ := okWide_slice Tryz.underlying22 (hval 0 22 v0 rfl rfl)
  obtain ⟨a1, len1, cap1, rfl⟩ := okWide_slice Tryz.underlying36 (hval 1 36 v1 rfl rfl)
  obtain ⟨T, hT1, hT2, hT3⟩ : ∃ zs, Rd noM W (.l 1 (tInts zs)) (.slice a0 len0 cap0) ∧ zs.length ≤ 9223372036854775807 ∧ ∀ y ∈ zs, in64 y := by
    obtain ⟨fuel, hf⟩ := h0
    exact ints_tr Tryz.underlying22 Tryz.underlying3 (by kernel_rfl) (by simpa [Value.cells] using hf)
  obtain ⟨L, hL1, _, _⟩ : ∃ L : List (List Int), Rd noM W (.l 1 (tSets L)) (.slice a1 len1 cap1) ∧ L.length ≤ 9223372036854775807 ∧ ∀ s ∈ L, s.length ≤ 9223372036854775807 ∧ ∀ y ∈ s, in64 y := by
    obtain ⟨fuel, hf⟩ := h1
    exact sets_tr Tryz.underlying36 (by kernel_rfl) Tryz.underlying22 Tryz.underlying3 (by kernel_rfl) (by simpa [Value.cells] using hf)
  have lt0 : ∀ x ∈ p0, x.block < W.heap.size := by obtain ⟨m, hm⟩ := h0; exact DataW.trod_lt m _ _ _ hm
  have lt1 : ∀ x ∈ p1, x.block < W.heap.size := by obtain ⟨m, hm⟩ := h1; exact DataW.trod_lt m _ _ _ hm
  clear hA0 hval0
  refine (law_calls (lawMin_fc T ⟨hT2, hT3⟩ L) W [.slice a0 len0 cap0, .slice a1 len1 cap1] rfl (fun i x hx => ?_)).mono fun e W' ⟨he, hf⟩ => ?_
  · match i, hx with
    | 0, hx => simp at hx; subst hx; exact ⟨_, rfl, fun g hg => avr_tr hT1 hg⟩
    | 1, hx => simp at hx; subst hx; exact ⟨_, rfl, fun g hg => avr_tr hL1 hg⟩
    | i + 2, hx => simp at hx
  subst he
  have bel := hf.below
  exact ⟨_, rfl, _, _, _, [], _, [], hW', trodAll_mk1 (shut_bool Tryz.underlying4 _), (trodAll_cons_mk (Below.trod laidOut_ (by kernel_rfl) (of_decide_eq_true (by kernel_rfl)) h0 bel lt0)
    (trodAll_cons_mk (Below.trod laidOut_ (by kernel_rfl) (of_decide_eq_true (by kernel_rfl)) h1 bel lt1) trodAll_mk0)), rfl, bel.frame _, fun h => by cases h⟩

theorem min_over : Rows.diamondMinimalRow.holds Tryz.pinned (OpenSpec.ofChange Rows.diamondMinimalSpec) :=
  OpenClaim.holds_of_wide 9 Tryz.f9 rfl rfl rfl rfl rfl rfl rfl ⟨rfl, rfl, rfl, rfl, rfl⟩ rfl rfl rfl rfl rfl (by kernel_rfl) Tryz.func9 min_joined
    (of_decide_eq_true (by kernel_rfl)) (by unfold Func.isWrapper; first | (rw [if_pos (by decide +kernel)]; kernel_rfl) | (rw [if_neg (by decide +kernel)]; exact ⟨rfl, rfl⟩))
    (fun os started H enc _ => min_lifted os started H enc)
/-- the statement -/
theorem diamondMinimal_holds : Rows.DiamondMinimalSaid := min_over
end Go.Proofs.YtfjfllpcflddmaaGreat
