/- Lemmas. -/
import Derived.Test.YtbnabodoabimnaaGreatMit
namespace Go.Proofs.YtbnabodoabimnaaGreat
set_option linter.unusedVariables false
set_option linter.unusedSimpArgs false
open Go.RowKit
def VC (P:Program) (ops:Array Oper) (Q:Exit->Act->World->Prop):Od->Act->World->Prop
 | .nil,a,w=>Q .normal a w
 | .pu i r,a,w=>∃ oi v,ops[i]?=some oi/\YieldsIf P ops (fun _=>True) oi v a/\VC P ops Q r (a.put oi.dst v) w
 | .fk i r rest,a,w=>wpOp P ops Q i (fun a' w'=>VC P ops Q r a' w') a w/\VC P ops Q rest a w
 | .al i j p r,a,w=>wpOp P ops Q i (fun a' w'=>∃ oi v,ops[p]?=some oi/\YieldsIf P ops (fun _=>True) oi v a'/\wpOp P ops Q j (fun a' w'=>VC P ops Q r a' w') (a'.put oi.dst v) w') a w/\
  wpOp P ops Q j (fun a' w'=>wpOp P ops Q i (fun a' w'=>∃ oi v,ops[p]?=some oi/\YieldsIf P ops (fun _=>True) oi v a'/\VC P ops Q r (a'.put oi.dst v) w') a' w') a w
 | .no,_,_=>True
section
variable {P : Program} {ops : Array Oper} {Q : Exit -> Act -> World -> Prop}
end
def LstO (P:Program) (ops:Array Oper) (t:Od) (st:ST) (K:ST->Prop):Prop:=
 ∀ (M0:Fm) (w0:World) (a:Act) (w:World) (Q:Exit->Act->World->Prop),Rel M0 w0 st a w->(∀ st' a' w',K st'->Rel M0 w0 st' a' w'->Q .normal a' w')->VC P ops Q t a w
section
variable {P : Program} {T : Tb} {ops : Array Oper} {st : ST}
/-! states that are the same -/
theorem LstO.mono {t:Od} {K K':ST->Prop} (h:LstO P ops t st K) (hk:∀ s,K s->∃ s',Le s s'/\K' s'):LstO P ops t st K':=fun M0 w0 a w Q hR hN=>h M0 w0 a w Q hR fun st' a' w' h1 h2=>by
 obtain ⟨s',q1,q2⟩:=hk _ h1
 exact hN s' a' w' q2 (q1 M0 w0 a' w' h2)
end
end Go.Proofs.YtbnabodoabimnaaGreat
