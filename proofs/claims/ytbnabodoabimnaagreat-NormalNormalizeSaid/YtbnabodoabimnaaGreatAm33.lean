/- Lemmas. -/
import Derived.Test.YtbnabodoabimnaaGreatAm30
namespace Go.Proofs.YtbnabodoabimnaaGreat
set_option linter.unusedVariables false
set_option linter.unusedSimpArgs false
open Go.RowKit
def Mn:List C->Option (List Value)
 | []=>some []
 | .v v :: r=>match Mn r with
  | some l=>some (v :: l)
  | none=>none
 | _=>none
def Ef:AV->Option Value
 | .a (.c (.v v))=>some v
 | .a (.g xs)=>match Mn xs with
  | some vs=>some (.agg ⟨vs⟩)
  | none=>none
 | _=>none
def Bd (s:Ks) (key:Value):List (Value × C)->Nat->Option (Option (Nat × C))
 | [],_=>some none
 | (k,c) :: r,i=>match Cr s key k with
  | some true=>some (some (i,c))
  | some false=>Bd s key r (i+1)
  | none=>none
def E0 (s:Ks) (key:Value):Bool:=match Cr s key key with
 | some _=>true
 | none=>false
def Ti:List (Value × C)->Bool
 | [(_,.it _ _ _ _)]=>true
 | _=>false
def Q8 (k:Nat):AV->Option (Nat × Nat × Nat)
 | .a (.c (.s id n))=>some (id,0,n)
 | .a (.c (.w id off n z))=>bif z.beq k then some (id,off,n) else none
 | _=>none
/-! regions in all orders -/
inductive Od where
 | nil
 | pu (i:Nat) (r:Od)
 | fk (i:Nat) (r rest:Od)
 | al (i j p:Nat) (r:Od)
 | no
def Od.ids:Od->List Nat
 | .fk i _ rest=>i :: rest.ids
 | _=>[]
def Bt.map {α β:Type} (f:α->β):Bt α->Bt β
 | .e=>.e
 | .n none l r=>.n none (l.map f) (r.map f)
 | .n (some x) l r=>.n (some (f x)) (l.map f) (r.map f)
def OE (m:Array Bool):List Edge->Array Bool
 | []=>m
 | e :: r=>OE (match Region.binds .any e with
  | true=>m.setIfInBounds e.on true
  | false=>m) r
def OG (ops:Array Oper):Nat->Array Bool->Array Bool
 | 0,m=>m
 | k+1,m=>OG ops k (match m.getD k false,ops[k]? with
  | true,some o=>OE m o.after.toList
  | _,_=>m)
def QS (ops:Array Oper) (j i:Nat):Bool:=(OG ops ops.size ((Array.replicate ops.size false).setIfInBounds j true)).getD i false
def OH (ops:Array Oper):List (Nat × Nat × Nat)->List Nat->Array Bool->Bool
 | [],_,listed=>(Region.ready .any ops listed).isEmpty
 | (i,0,_) :: r,stops,listed=>Region.free .any ops listed i && ((Region.ready .any ops listed).contains i && (!stops.contains i && OH ops r stops (listed.setIfInBounds i true)))
 | (i,1,s) :: r,stops,listed=>Region.free .any ops listed i && ((Region.ready .any ops listed).contains i && (QS ops s i && (i != s && (!stops.contains i && OH ops r (s :: stops) (listed.setIfInBounds i true)))))
 | (i,_,_) :: r,stops,listed=>(Region.ready .any ops listed == [i]) && (decide (i<listed.size) && OH ops r stops (listed.setIfInBounds i true))
end Go.Proofs.YtbnabodoabimnaaGreat
