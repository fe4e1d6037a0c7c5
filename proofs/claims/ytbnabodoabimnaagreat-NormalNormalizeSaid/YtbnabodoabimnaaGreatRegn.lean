/- Lemmas. -/
import Derived.Test.YtbnabodoabimnaaGreatBase
import Derived.OrdersHeld
namespace Go.Proofs.YtbnabodoabimnaaGreat
set_option linter.unusedVariables false
set_option linter.unusedSimpArgs false
open Go.RowKit
section
variable {P : Program} {ops : Array Oper} {Q : Exit -> Act -> World -> Prop} {md : Region.Mode} {S : World -> Prop} {stop : Nat}

def Ph (S:World->Prop) (stop:Nat) (listed:Array Bool) (w:World):Prop:=listed.getD stop false=true\/S w

def HU (P:Program) (md:Region.Mode) (ops:Array Oper) (Q:Exit->Act->World->Prop) (S:World->Prop) (stop:Nat):Nat->Array Bool->Act->World->Prop
 | 0,listed,a,w=>Region.ready md ops listed=[]/\Q .normal a w
 | fuel+1,listed,a,w=>
  (Region.ready md ops listed=[]->Q .normal a w)/\
  ∀ i∈Region.ready md ops listed,wpOp P ops Q i (fun a' w'=>Ph S stop (listed.setIfInBounds i true) w'/\HU P md ops Q S stop fuel (listed.setIfInBounds i true) a' w') a w

theorem Gt:∀ (fuel:Nat) (listed:Array Bool) (a:Act) (w:World),HU P md ops Q S stop fuel listed a w->wpAny P md ops Q fuel listed a w
 | 0,_,_,_,h=>h
 | fuel+1,_,_,_,h=>⟨h.1,fun i hi=>wpOp_mono (fun a' w' h'=>Gt fuel _ a' w' h'.2) (h.2 i hi)⟩

def Closed (md:Region.Mode) (ops:Array Oper) (listed:Array Bool):Prop:=
 ∀ j o,ops[j]?=some o->listed.getD j false=true->∀ e∈o.after,Region.binds md e=true->listed.getD e.on false=true
theorem Closed.step {listed:Array Bool} {j:Nat} (h:Closed md ops listed) (hj:j∈Region.ready md ops listed):Closed md ops (listed.setIfInBounds j true):=by
 intro k o hk hl e he hb
 by_cases hkj:j=k
 rotate_left
 ·rw [getD_set_ne false hkj] at hl
  exact getD_set_true (h k o hk hl e he hb)
 subst hkj
 obtain ⟨_,o',ho',hall⟩:=mem_ready.1 hj
 rw [hk] at ho'
 cases ho'
 exact getD_set_true (hall e he hb)
def HV (md:Region.Mode) (ops:Array Oper):Nat->Nat->List Nat
 | 0,j=>[j]
 | f+1,j=>j :: (match ops[j]? with
  | some o=>(o.after.toList.filter (Region.binds md)).flatMap fun e=>HV md ops f e.on
  | none=>[])
theorem Closed.deps {listed:Array Bool} (h:Closed md ops listed):∀ (f j:Nat),listed.getD j false=true->∀ i∈HV md ops f j,listed.getD i false=true
 | 0,j,hj,i,hi=>by
  simp only [HV,gBb] at hi
  rw [hi];exact hj
 | f+1,j,hj,i,hi=>by
  simp only [HV,gB2] at hi
  rcases hi with rfl | hi
  ·exact hj
  ·cases ho:ops[j]? with
   | none=>rw [ho] at hi;cases hi
   | some o=>
    rw [ho] at hi
    simp only [gB5,gB4] at hi
    obtain ⟨e,⟨he,hb⟩,hi⟩:=hi
    exact Closed.deps h f e.on (h j o ho hj e (by simpa using he) hb) i hi

theorem FK {listed:Array Bool} {i:Nat} (h:listed.getD i true=false):listed.getD i false=false:=by
 rcases gBx i listed.size with h' | h'
 ·simpa [h'] using h
 simp [Array.getElem?_eq_none h'] at h

end
end Go.Proofs.YtbnabodoabimnaaGreat
