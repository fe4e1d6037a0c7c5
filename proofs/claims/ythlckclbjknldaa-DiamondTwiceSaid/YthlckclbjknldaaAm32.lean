/- The runner, third part: new rows of nil slices, appends of nothing, calls that may touch all objects. -/
import Derived.Test.YthlckclbjknldaaAm31
namespace Go.Proofs.Ythlckclbjknldaa
set_option linter.unusedVariables false
set_option linter.unusedSimpArgs false
open Go.RowKit

section
variable {P : Program} {g : Gh} {M0 : Nat → Prop} {w0 w : World} {st : ST} {a : Act} {c : Prop} {ob : Ob} {f : Nat → AV}
end
section
variable {P : Program} {o : Oper} {st : ST} {K : ST → Prop}
theorem Stp.mono {K' : ST → Prop} (h : Stp P o st K) (hk : ∀ s, K s → K' s) : Stp P o st K' := fun M0 w0 a w N Q hR hN => h M0 w0 a w N Q hR fun st' a' w' h1 h2 => hN st' a' w' (hk _ h1) h2
end
end Go.Proofs.Ythlckclbjknldaa
