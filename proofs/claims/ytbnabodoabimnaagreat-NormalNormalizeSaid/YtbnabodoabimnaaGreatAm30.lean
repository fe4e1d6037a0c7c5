/- Lemmas. -/
import Derived.Test.YtbnabodoabimnaaGreatME
namespace Go.Proofs.YtbnabodoabimnaaGreat
set_option linter.unusedVariables false
set_option linter.unusedSimpArgs false
open Go.RowKit
/-! trees: slot 0 at the root, odd ones left, even ones right -/
inductive Bt (α:Type) where
 | e
 | n (x:Option α) (l r:Bt α)
/-! the runner's states -/
structure RS where
 tm:Bt AV
 hp:Bt Ob
 hn:Nat
 n:Nat
 pin:Nat
/-! answers -/
inductive Ans where
 | ok
 | bad (l:List Nat)
 | st (rs:RS)
def Ans.and:Ans->(Unit->Ans)->Ans
 | .ok,k=>k ()
 | .bad l,_=>.bad l
 | .st _,_=>.bad [5]
def Bt.get {α:Type}:Bt α->Nat->Option α
 | .e,_=>none
 | .n x l r,i=>bif i.beq 0 then x else bif (i % 2).beq 1 then l.get (i / 2) else r.get (i / 2 - 1)
def Bt.set {α:Type}:Nat->Bt α->Nat->α->(Bt α->Ans)->Ans
 | 0,_,_,_,_=>.bad [1]
 | f+1,.e,i,x,k=>bif i.beq 0 then k (.n (some x) .e .e) else bif (i % 2).beq 1 then Bt.set f .e (i / 2) x (fun l=>k (.n none l .e)) else Bt.set f .e (i / 2 - 1) x (fun r=>k (.n none .e r))
 | f+1,.n y l r,i,x,k=>bif i.beq 0 then k (.n (some x) l r) else bif (i % 2).beq 1 then Bt.set f l (i / 2) x (fun l=>k (.n y l r)) else Bt.set f r (i / 2 - 1) x (fun r=>k (.n y l r))
theorem U7 (a b:Nat):a.beq b=decide (a=b):=by
 rw [gA4,decide_eq_true_iff]
 exact Iff.of_eq Nat.beq_eq
/-! forced values -/
def fN (n:Nat) (k:Nat->Ans):Ans:=
 match n with
 | 0=>k 0
 | m+1=>k (Nat.succ m)
def fI (n:Int) (k:Int->Ans):Ans:=
 match n with
 | .ofNat n=>fN n fun n=>k (.ofNat n)
 | .negSucc n=>fN n fun n=>k (.negSucc n)
def fB (b:Bool) (k:Bool->Ans):Ans:=
 match b with
 | true=>k true
 | false=>k false
def fV (v:Value) (k:Value->Ans):Ans:=
 match v with
 | .int t n=>fI n fun n=>k (.int t n)
 | .bool b=>fB b fun b=>k (.bool b)
 | v=>k v
def fL (l:List Nat) (k:List Nat->Ans):Ans:=
 match l with
 | []=>k []
 | n :: r=>fN n fun n=>fL r fun r=>k (n :: r)
def fC (c:C) (k:C->Ans):Ans:=
 match c with
 | .v v=>fV v fun v=>k (.v v)
 | .s id n=>fN id fun id=>fN n fun n=>k (.s id n)
 | .p id off=>fN id fun id=>fN off fun off=>k (.p id off)
 | .m id=>fN id fun id=>k (.m id)
 | .w id off n z=>fN id fun id=>fN off fun off=>fN n fun n=>fN z fun z=>k (.w id off n z)
 | .f fn ids=>fN fn fun fn=>fL ids fun ids=>k (.f fn ids)
 | .q cs off=>fN off fun off=>k (.q cs off)
 | .it (some m) s l e=>fN m fun m=>fN s fun s=>fL l fun l=>fN e fun e=>k (.it (some m) s l e)
 | c=>k c
def Vx (l:List C) (k:List C->Ans):Ans:=
 match l with
 | []=>k []
 | c :: r=>fC c fun c=>Vx r fun r=>k (c :: r)
def fA (x:A0) (k:A0->Ans):Ans:=
 match x with
 | .c c=>fC c fun c=>k (.c c)
 | .g l=>Vx l fun l=>k (.g l)
def Vy (l:List A0) (k:List A0->Ans):Ans:=
 match l with
 | []=>k []
 | c :: r=>fA c fun c=>Vy r fun r=>k (c :: r)
def Vz (x:AV) (k:AV->Ans):Ans:=
 match x with
 | .a x=>fA x fun x=>k (.a x)
 | .tup l=>Vy l fun l=>k (.tup l)
def VA (l:List (Value × C)) (k:List (Value × C)->Ans):Ans:=
 match l with
 | []=>k []
 | (a,c) :: r=>fV a fun a=>fC c fun c=>VA r fun r=>k ((a,c) :: r)
def fO (o:Ob) (k:Ob->Ans):Ans:=
 match o with
 | .r ⟨e,z,sl,cs⟩=>fN z fun z=>fB sl fun sl=>Vx cs fun cs=>k (.r ⟨e,z,sl,cs⟩)
 | .m kv=>VA kv fun kv=>k (.m kv)
 | o=>k o
def Ug:Ob->Bool
 | .r q=>q.cells.all C.pl
 | .m kv=>kv.all fun p=>p.2.pl
 | .d=>true
 | .x=>false
def RR (rs:RS) (st:ST):Prop:=
 (∀ d,st.get d=(rs.tm.get d).getD .u)/\(∀ i,st.hp[i]?=rs.hp.get i)/\st.hp.length=rs.hn/\st.n=rs.n/\st.pin=rs.pin/\∀ i o,rs.hp.get i=some o->Ug o=true
def RS.ev (rs:RS):Operand->AV
 | .tmp t=>(rs.tm.get t).getD .u
 | .const v=>.a (.c (.v v))
 | .global n=>Om n
 | .func f=>.a (.c (.f f []))
theorem RR.ev {rs:RS} {st:ST} (h:RR rs st):st.ev=rs.ev:=by
 funext x
 cases x <;> first | exact h.1 _ | rfl
def RS.put (rs:RS) (d:Option Nat) (x:AV) (k:RS->Ans):Ans:=
 match d with
 | none=>k rs
 | some d=>match rs with
  | ⟨tm,hp,hn,n,pin⟩=>bif Nat.blt d n then Vz x fun x=>Bt.set 30 tm d x fun tm=>k ⟨tm,hp,hn,n,pin⟩ else .bad [2]
def RS.push (rs:RS) (o:Ob) (k:RS->Ans):Ans:=
 match rs with
 | ⟨tm,hp,hn,n,pin⟩=>fO o fun o=>bif Ug o then Bt.set 30 hp hn o fun hp=>fN (hn+1) fun hn=>k ⟨tm,hp,hn,n,pin⟩ else .bad [3]
def RS.upd (rs:RS) (id:Nat) (o:Ob) (k:RS->Ans):Ans:=
 match rs with
 | ⟨tm,hp,hn,n,pin⟩=>fO o fun o=>bif Ug o then bif Nat.blt id hn then Bt.set 30 hp id o fun hp=>k ⟨tm,hp,hn,n,pin⟩ else .bad [4] else .bad [5]
/-! tables -/
def asc {α:Type}:List (Nat × α)->Nat->Option α
 | [],_=>none
 | (k,v) :: r,i=>bif k.beq i then some v else asc r i
def OD {α:Type} (p:Nat->α->Prop):List (Nat × α)->Prop
 | []=>True
 | (k,v) :: r=>p k v/\OD p r
theorem IU {α:Type} {p:Nat->α->Prop}:∀ {l:List (Nat × α)},OD p l->∀ {i:Nat} {v:α},asc l i=some v->p i v
 | [],_,_,_,h=>by cases h
 | (k,u) :: r,ha,i,v,h=>by
  simp only [asc,U7] at h
  by_cases e:k=i
  ·subst e;simp at h;subst h;exact ha.1
  ·simp [e] at h;exact IU ha.2 h
/-! keys of maps: numbers, strings, structs of n numbers -/
inductive Ks where
 | ki
 | ks
 | kg (n:Nat)
def Q7:List Value->List Value->Option Bool
 | [],[]=>some true
 | .int .i64 a :: r,.int .i64 b :: s=>match Q7 r s with
  | some t=>some ((a == b) && t)
  | none=>none
 | _,_=>none
def Cr:Ks->Value->Value->Option Bool
 | .ki,.int .i64 a,.int .i64 b=>some (a == b)
 | .ks,.string a,.string b=>some (a == b)
 | .kg n,.agg ⟨xs⟩,.agg ⟨ys⟩=>match xs.length.beq n && ys.length.beq n with
  | true=>Q7 xs ys
  | false=>none
 | _,_,_=>none
structure KeyOk (P:Program) (kt:TypeId) (s:Ks):Prop where
 eq:∃ kd,P.underlying kt=some kd/\((∀ a b t,Cr s a b=some t->Instr.sameNow kd a b=some t)\/(∀ a b t,Cr s a b=some t->Instr.sameNow kd a b=none/\∀ w,(Op.equal kt a b).run P w=.ok t w))
 ck:∀ a t,Cr s a a=some t->∀ e w,(Instr.checkKey e 10000 kt a).run P w=.ok () w
structure Tb where
 ty:List (Nat × Ty)
 ik:List (Nat × IntKind)
 fn:List (Nat × Func)
 ae:List (Nat × Nat)
 orc:List (Nat × (List AV->Option AV))
 mp:List (Nat × (Ks × Value))
 bl:List (Nat × Bool)
structure TbOk (P:Program) (T:Tb):Prop where
 ty:OD (fun t y=>tyOf P t=some y) T.ty
 ik:OD (fun t k=>P.underlying t=some (.int k)) T.ik
 fn:OD (fun f x=>P.funcs[f]?=some x/\B3 P f=true) T.fn
 ae:OD (fun t n=>∀ (x y:Operand) (us vs:List C) (a b:List Value),us.length=n->vs.length=n->FB us=some a->FB vs=some b->Gf P .eql t x y a b (V6 us vs)/\Gf P .neq t x y a b (!V6 us vs)) T.ae
 orc:OD (fun f g=>B3 P f=true/\∀ args r,g args=some r->args.map (AV.ren [])=args/\(∀ h,r.up h=r)/\FC P f args [] (fun x o=>o=[]/\x=r)) T.orc
 mp:OD (fun t s=>∃ kt e,P.underlying t=some (.map kt e)/\KeyOk P kt s.1/\(P.info? e).bind (·.zero)=some s.2) T.mp
 bl:OD (fun t _=>P.underlying t=some .bool) T.bl
 mx:P.follows .mixedOrders=true
section
variable {P : Program} {T : Tb}
theorem TbOk.t (h:TbOk P T) {t:Nat} {y:Ty} (e:asc T.ty t=some y):tyOf P t=some y:=IU h.ty e
theorem TbOk.k (h:TbOk P T) {t:Nat} {y:IntKind} (e:asc T.ik t=some y):P.underlying t=some (.int y):=IU h.ik e
end

/-! operations that compute -/
theorem Uh {b:Bool} {α:Type} {x y:α} (h:(bif b then some x else none)=some y):b=true/\x=y:=by
 cases b with
 | false=>cases h
 | true=>cases h;exact ⟨rfl,rfl⟩
section
variable {P : Program} {T : Tb} {ev : Operand -> AV} {v : AV}
end
section
variable {P : Program} {g : Gh} {M0 : Nat -> Prop} {w0 w : World} {st : ST} {a : Act} {c : Prop} {ob : Ob} {f : Nat -> AV}
end
section
variable {P : Program} {o : Oper} {st : ST} {K : ST -> Prop}
theorem Stp.mono {K':ST->Prop} (h:Stp P o st K) (hk:∀ s,K s->K' s):Stp P o st K':=fun M0 w0 a w N Q hR hN=>h M0 w0 a w N Q hR fun st' a' w' h1 h2=>hN st' a' w' (hk _ h1) h2
end
end Go.Proofs.YtbnabodoabimnaaGreat
