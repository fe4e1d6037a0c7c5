/- Lemmas. -/
import Derived.Test.YtjijjfkalheokaaDoorMM
import Derived.Test.YtjijjfkalheokaaDoorRows
import Derived.ProofKit
import Derived.OpenShut
namespace Go.Proofs.YtjijjfkalheokaaDoor
set_option linter.unusedVariables false
set_option linter.unusedSimpArgs false
open Go.ChangeShapes Go.WideShapes Go.ChangeAt Go.RowKit

theorem T6 : ownKnob Tryd.prog.godebug = none := by kernel_rfl
def TW : AV -> Bool
 | .a (.c (.v (.bool true))) => true
 | _ => false
theorem I6 {P : Program} {f : FuncId} (h : FC P f [] [] (fun r _ => TW r = true)) (W : World) (hgl : GlR (fun _ => False) W := by intro n vs h; cases h) : Calls P f #[] W fun e W' => e = .returned (.bool true) /\ Fr [] W W' := by
 let g : Gh := ⟨fun _ => 0, fun _ => 0, fun _ => False⟩
 have lv : ∀ ℓ, ¬ Lv [] g ℓ := by
  intro ℓ hl
  cases ℓ with
  | ob i => rcases hl with ⟨r, e, _⟩ | ⟨kv, e⟩ <;> simp at e
  | cl i j => obtain ⟨r, k, cs, e, _⟩ := hl; simp at e
 have hr : HR g [] W := ⟨fun b hb => hb.elim, fun ℓ hl => (lv ℓ hl).elim, fun ℓ _ hl _ _ => (lv ℓ hl).elim, fun id r e => by simp at e, fun id kv e => by simp at e, hgl.keep (Nat.le_refl _) (fun _ _ _ => rfl) (fun k _ ho => ho.elim (fun h => h) (fun ⟨ℓ, hl, _⟩ => (lv ℓ hl).elim))⟩
 refine (h g W [] hr ⟨rfl, fun i x hx => by simp at hx⟩).mono ?_
 rintro e W' ⟨v, r, outs, g', rfl, hok, _, _, _, hv, hf⟩
 refine ⟨?_, hf.fr fun k _ ⟨ℓ, hl, _⟩ => (lv ℓ hl).elim⟩
 unfold TW at hok
 split at hok
 ·rw [show v = .bool true from hv]
 cases hok
end Go.Proofs.YtjijjfkalheokaaDoor
