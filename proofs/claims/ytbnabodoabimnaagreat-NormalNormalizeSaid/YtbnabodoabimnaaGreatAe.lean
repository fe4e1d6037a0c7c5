/- Lemmas. -/
import Derived.Test.YtbnabodoabimnaaGreatAm33
import Derived.MapKept
namespace Go.Proofs.YtbnabodoabimnaaGreat
set_option linter.unusedVariables false
set_option linter.unusedSimpArgs false
open Go.RowKit
def UD (P:Program) (t n:Nat):Prop:=∀ (x y:Operand) (us vs:List C) (a b:List Value),us.length=n->vs.length=n->FB us=some a->FB vs=some b->Gf P .eql t x y a b (V6 us vs)/\Gf P .neq t x y a b (!V6 us vs)
theorem Fk {c:C} {r:List C} {us:List Value} (h:FB (c :: r)=some us):∃ n l,c=.v (.int .i64 n)/\us=.int .i64 n :: l/\FB r=some l:=by
 cases c with
 | v v=>
  cases v with
  | int k n=>
   cases k <;> simp only [FB,reduceCtorEq] at h
   cases hr:FB r with
   | none=>rw [hr] at h;cases h
   | some l=>rw [hr] at h;cases h;exact ⟨n,l,rfl,rfl,rfl⟩
  | _=>simp [FB] at h
 | _=>simp [FB] at h
theorem Ui {P:Program} {t:TypeId} {f g:Field} (hu:P.underlying t=some (.struct #[f,g])) (hf:P.underlying f.type=some (.int .i64)) (hg:P.underlying g.type=some (.int .i64))
  (n1:f.name ≠ "_") (n2:g.name ≠ "_") (o1:f.offset=0) (o2:g.offset=1) (hq:P.eqGuardType P.depth t=false) (hs:P.stoodInHeld t=false):UD P t 2:=by
 intro x y us vs a b h1 h2 ha hb
 obtain ⟨c1,c2,rfl⟩:∃ c1 c2,us=[c1,c2]:=by
  match us,h1 with
  | [c1,c2],_=>exact ⟨c1,c2,rfl⟩
 obtain ⟨d1,d2,rfl⟩:∃ c1 c2,vs=[c1,c2]:=by
  match vs,h2 with
  | [c1,c2],_=>exact ⟨c1,c2,rfl⟩
 obtain ⟨p1,l1,rfl,rfl,ha1⟩:=Fk ha
 obtain ⟨p2,l2,rfl,rfl,ha2⟩:=Fk ha1
 cases ha2
 obtain ⟨q1,l1,rfl,rfl,hb1⟩:=Fk hb
 obtain ⟨q2,l2,rfl,rfl,hb2⟩:=Fk hb1
 cases hb2
 have ag:∀ {t:TypeId} (w:World),P.underlying t=some (.int .i64)->(isAgg t).run P w=.ok false w:=by
  intro t w h
  simp [isAgg,run_underlying h]
 have eq1:∀ (d:Nat) {t:TypeId} (w:World) (m n:Int),P.underlying t=some (.int .i64)->(Op.equalIn (d+1) t (.int .i64 m) (.int .i64 n)).run P w=.ok (m == n) w:=by
  intro d t w m n h
  simp [Op.equalIn,run_underlying h]
 have hpr:∀ w,(program).run P w=.ok P w:=fun w=>by simp [program,Sem.run]
 have hE:∀ w,(Op.equal t (.agg #[.int .i64 p1,.int .i64 p2]) (.agg #[.int .i64 q1,.int .i64 q2])).run P w=.ok (p1 == q1 && (p2 == q2 && true)) w:=by
  intro w
  have e1:=fun w=>eq1 9998 w p1 q1 hf
  have e2:=fun w=>eq1 9998 w p2 q2 hg
  unfold Op.equal Op.maxDepth
  show (Op.equalIn (9999+1) _ _ _).run P w=_
  unfold Op.equalIn
  simp only [Sem.run_bind,run_underlying hu,Result.andThen_ok]
  cases c1:(p1 == q1) <;> cases c2:(p2 == q2) <;> simp [hpr,hs,n1,n2,o1,o2,part,ag _ hf,ag _ hg,Sem.run_bind,e1,e2,c1,c2]
 constructor
 ·intro w
  simp [eqGuard,hq,hpr,binOp,hE,V6]
 intro w
 simp [eqGuard,hq,hpr,binOp,hE,V6]
theorem CJ {P:Program} {kt:TypeId} (h:P.underlying kt=some .string):KeyOk P kt .ks:=by
 refine ⟨⟨_,h,.inl fun a b t e=>?_⟩,fun a t e q w=>?_⟩
 ·unfold Cr at e
  split at e
  all_goals first | (cases e;rfl) | (cases e;done) | (rename_i hk;cases hk)
 unfold Cr at e
 split at e
 all_goals first | (rename_i hk _;cases hk;done) | (cases e;done) | (refine MapKept.run_checkKey h ?_ q 9999;simp [MapKept.IsKey];done)
end Go.Proofs.YtbnabodoabimnaaGreat
