/- Lemmas. -/
import Derived.Test.YtjijjfkalheokaaGreatDoorME
namespace Go.Proofs.YtjijjfkalheokaaGreatDoor
set_option linter.unusedVariables false
set_option linter.unusedSimpArgs false
open Go.RowKit

/-! trees: slot 0 at the root, odd ones left, even ones right -/
inductive Bt (α:Type) where
 | e
 | n (x:Option α) (l r:Bt α)
/-! the runner's states -/
structure RS where
 tm:Bt AV
 hp:Bt Ob
 hn:Nat
 n:Nat
 pin:Nat
/-! answers -/
inductive Ans where
 | ok
 | bad (l:List Nat)
 | st (rs:RS)
def Ans.and:Ans->(Unit->Ans)->Ans
 | .ok,k=>k ()
 | .bad l,_=>.bad l
 | .st _,_=>.bad [5]
def Bt.get {α:Type}:Bt α->Nat->Option α
 | .e,_=>none
 | .n x l r,i=>bif i.beq 0 then x else bif (i % 2).beq 1 then l.get (i / 2) else r.get (i / 2 - 1)
def Bt.set {α:Type}:Nat->Bt α->Nat->α->(Bt α->Ans)->Ans
 | 0,_,_,_,_=>.bad [1]
 | f+1,.e,i,x,k=>bif i.beq 0 then k (.n (some x) .e .e) else bif (i % 2).beq 1 then Bt.set f .e (i / 2) x (fun l=>k (.n none l .e)) else Bt.set f .e (i / 2 - 1) x (fun r=>k (.n none .e r))
 | f+1,.n y l r,i,x,k=>bif i.beq 0 then k (.n (some x) l r) else bif (i % 2).beq 1 then Bt.set f l (i / 2) x (fun l=>k (.n y l r)) else Bt.set f r (i / 2 - 1) x (fun r=>k (.n y l r))
theorem UC (a b:Nat):a.beq b=decide (a=b):=by
 rw [Bool.eq_iff_iff,decide_eq_true_iff]
 exact Iff.of_eq Nat.beq_eq
/-! forced values -/
def fN (n:Nat) (k:Nat->Ans):Ans:=
 match n with
 | 0=>k 0
 | m+1=>k (Nat.succ m)
def fI (n:Int) (k:Int->Ans):Ans:=
 match n with
 | .ofNat n=>fN n fun n=>k (.ofNat n)
 | .negSucc n=>fN n fun n=>k (.negSucc n)
def fB (b:Bool) (k:Bool->Ans):Ans:=
 match b with
 | true=>k true
 | false=>k false
def fV (v:Value) (k:Value->Ans):Ans:=
 match v with
 | .int t n=>fI n fun n=>k (.int t n)
 | .bool b=>fB b fun b=>k (.bool b)
 | v=>k v
def fL (l:List Nat) (k:List Nat->Ans):Ans:=
 match l with
 | []=>k []
 | n :: r=>fN n fun n=>fL r fun r=>k (n :: r)
def fC (c:C) (k:C->Ans):Ans:=
 match c with
 | .v v=>fV v fun v=>k (.v v)
 | .s id n=>fN id fun id=>fN n fun n=>k (.s id n)
 | .p id off=>fN id fun id=>fN off fun off=>k (.p id off)
 | .m id=>fN id fun id=>k (.m id)
 | .w id off n z=>fN id fun id=>fN off fun off=>fN n fun n=>fN z fun z=>k (.w id off n z)
 | .f fn ids=>fN fn fun fn=>fL ids fun ids=>k (.f fn ids)
 | .q cs off=>fN off fun off=>k (.q cs off)
 | .it (some m) s l e=>fN m fun m=>fN s fun s=>fL l fun l=>fN e fun e=>k (.it (some m) s l e)
 | c=>k c
def W5 (l:List C) (k:List C->Ans):Ans:=
 match l with
 | []=>k []
 | c :: r=>fC c fun c=>W5 r fun r=>k (c :: r)
def fA (x:A0) (k:A0->Ans):Ans:=
 match x with
 | .c c=>fC c fun c=>k (.c c)
 | .g l=>W5 l fun l=>k (.g l)
def W6 (l:List A0) (k:List A0->Ans):Ans:=
 match l with
 | []=>k []
 | c :: r=>fA c fun c=>W6 r fun r=>k (c :: r)
def W7 (x:AV) (k:AV->Ans):Ans:=
 match x with
 | .a x=>fA x fun x=>k (.a x)
 | .tup l=>W6 l fun l=>k (.tup l)
def W8 (l:List (Value × C)) (k:List (Value × C)->Ans):Ans:=
 match l with
 | []=>k []
 | (a,c) :: r=>fV a fun a=>fC c fun c=>W8 r fun r=>k ((a,c) :: r)
def fO (o:Ob) (k:Ob->Ans):Ans:=
 match o with
 | .r ⟨e,z,sl,cs⟩=>fN z fun z=>fB sl fun sl=>W5 cs fun cs=>k (.r ⟨e,z,sl,cs⟩)
 | .m kv=>W8 kv fun kv=>k (.m kv)
 | o=>k o
def Cd:Ob->Bool
 | .r q=>q.cells.all C.pl
 | .m kv=>kv.all fun p=>p.2.pl
 | .d=>true
 | .x=>false
theorem My {o:Ob} (h:Cd o=true):o.born=true:=by cases o <;> first | rfl | cases h
def RR (rs:RS) (st:ST):Prop:=
 (∀ d,st.get d=(rs.tm.get d).getD .u)/\(∀ i,st.hp[i]?=rs.hp.get i)/\st.hp.length=rs.hn/\st.n=rs.n/\st.pin=rs.pin/\∀ i o,rs.hp.get i=some o->Cd o=true
def RS.ev (rs:RS):Operand->AV
 | .tmp t=>(rs.tm.get t).getD .u
 | .const v=>.a (.c (.v v))
 | .global n=>OX n
 | .func f=>.a (.c (.f f []))
theorem RR.ev {rs:RS} {st:ST} (h:RR rs st):st.ev=rs.ev:=by
 funext x
 cases x <;> first | exact h.1 _ | rfl
def RS.put (rs:RS) (d:Option Nat) (x:AV) (k:RS->Ans):Ans:=
 match d with
 | none=>k rs
 | some d=>match rs with
  | ⟨tm,hp,hn,n,pin⟩=>bif Nat.blt d n then W7 x fun x=>Bt.set 30 tm d x fun tm=>k ⟨tm,hp,hn,n,pin⟩ else .bad [2]
def RS.push (rs:RS) (o:Ob) (k:RS->Ans):Ans:=
 match rs with
 | ⟨tm,hp,hn,n,pin⟩=>fO o fun o=>bif Cd o then Bt.set 30 hp hn o fun hp=>fN (hn+1) fun hn=>k ⟨tm,hp,hn,n,pin⟩ else .bad [3]
def RS.upd (rs:RS) (id:Nat) (o:Ob) (k:RS->Ans):Ans:=
 match rs with
 | ⟨tm,hp,hn,n,pin⟩=>fO o fun o=>bif Cd o then bif Nat.blt id hn then Bt.set 30 hp id o fun hp=>k ⟨tm,hp,hn,n,pin⟩ else .bad [4] else .bad [5]
/-! tables -/
def asc {α:Type}:List (Nat × α)->Nat->Option α
 | [],_=>none
 | (k,v) :: r,i=>bif k.beq i then some v else asc r i
def Pc {α:Type} (p:Nat->α->Prop):List (Nat × α)->Prop
 | []=>True
 | (k,v) :: r=>p k v/\Pc p r
theorem J8 {α:Type} {p:Nat->α->Prop}:∀ {l:List (Nat × α)},Pc p l->∀ {i:Nat} {v:α},asc l i=some v->p i v
 | [],_,_,_,h=>by cases h
 | (k,u) :: r,ha,i,v,h=>by
  simp only [asc,UC] at h
  by_cases e:k=i
  ·subst e;simp at h;subst h;exact ha.1
  ·simp [e] at h;exact J8 ha.2 h
/-! keys of maps: numbers, strings, structs of n numbers -/
inductive Ks where
 | ki
 | ks
 | kg (n:Nat)
def QW:List Value->List Value->Option Bool
 | [],[]=>some true
 | .int .i64 a :: r,.int .i64 b :: s=>match QW r s with
  | some t=>some ((a == b) && t)
  | none=>none
 | _,_=>none
def BZ:Ks->Value->Value->Option Bool
 | .ki,.int .i64 a,.int .i64 b=>some (a == b)
 | .ks,.string a,.string b=>some (a == b)
 | .kg n,.agg ⟨xs⟩,.agg ⟨ys⟩=>match xs.length.beq n && ys.length.beq n with
  | true=>QW xs ys
  | false=>none
 | _,_,_=>none
structure KeyOk (P:Program) (kt:TypeId) (s:Ks):Prop where
 eq:∃ kd,P.underlying kt=some kd/\((∀ a b t,BZ s a b=some t->Instr.sameNow kd a b=some t)\/(∀ a b t,BZ s a b=some t->Instr.sameNow kd a b=none/\∀ w,(Op.equal kt a b).run P w=.ok t w))
 ck:∀ a t,BZ s a a=some t->∀ e w,(Instr.checkKey e 10000 kt a).run P w=.ok () w
structure Tb where
 ty:List (Nat × Ty)
 ik:List (Nat × IntKind)
 fn:List (Nat × Func)
 ae:List (Nat × Nat)
 orc:List (Nat × (List AV->Option AV))
 mp:List (Nat × (Ks × Value))
 bl:List (Nat × Bool)
structure TbOk (P:Program) (T:Tb):Prop where
 ty:Pc (fun t y=>tyOf P t=some y) T.ty
 ik:Pc (fun t k=>P.underlying t=some (.int k)) T.ik
 fn:Pc (fun f x=>P.funcs[f]?=some x/\Bh P f=true) T.fn
 ae:Pc (fun t n=>∀ (x y:Operand) (us vs:List C) (a b:List Value),us.length=n->vs.length=n->FQ us=some a->FQ vs=some b->FR P .eql t x y a b (VD us vs)/\FR P .neq t x y a b (!VD us vs)) T.ae
 orc:Pc (fun f g=>Bh P f=true/\∀ args r,g args=some r->args.map (AV.ren [])=args/\(∀ h,r.up h=r)/\FC P f args [] (fun x o=>o=[]/\x=r)) T.orc
 mp:Pc (fun t s=>∃ kt e,P.underlying t=some (.map kt e)/\KeyOk P kt s.1/\(P.info? e).bind (·.zero)=some s.2) T.mp
 bl:Pc (fun t _=>P.underlying t=some .bool) T.bl
 mx:P.follows .mixedOrders=true
section
variable {P : Program} {T : Tb}
theorem TbOk.t (h:TbOk P T) {t:Nat} {y:Ty} (e:asc T.ty t=some y):tyOf P t=some y:=J8 h.ty e
theorem TbOk.k (h:TbOk P T) {t:Nat} {y:IntKind} (e:asc T.ik t=some y):P.underlying t=some (.int y):=J8 h.ik e
end

/-! operations that compute -/
theorem UL {b:Bool} {α:Type} {x y:α} (h:(bif b then some x else none)=some y):b=true/\x=y:=by
 cases b with
 | false=>cases h
 | true=>cases h;exact ⟨rfl,rfl⟩
section
variable {P : Program} {T : Tb} {ev : Operand -> AV} {v : AV}
end
section
variable {P : Program} {g : Gh} {M0 : Nat -> Prop} {w0 w : World} {st : ST} {a : Act} {c : Prop} {ob : Ob} {f : Nat -> AV}
end
section
variable {P : Program} {o : Oper} {st : ST} {K : ST -> Prop}
theorem Stp.mono {K':ST->Prop} (h:Stp P o st K) (hk:∀ s,K s->K' s):Stp P o st K':=fun M0 w0 a w N Q hR hN=>h M0 w0 a w N Q hR fun st' a' w' h1 h2=>hN st' a' w' (hk _ h1) h2
theorem Pd (hd:VJ o st.n=true) {op:BinOp} {t e yt:TypeId} {x:Operand} (ho:o.op=.binOp op t x (.const (.slice none 0 0)) yt) (ht:P.underlying t=some (.slice e)) (hop:op=.eql\/op=.neq)
  {b:Bool} (hx:(b=true/\st.ev x=.a (.c (.v (.slice none 0 0))))\/(b=false/\∃ id off n k,st.ev x=.a (.c (.w id off n k)))) (h:K (st.put o.dst (.b (if op=.eql then b else !b)))):Stp P o st K:=by
 intro M0 w0 a w N Q hR hN
 obtain ⟨g,hpp,hR⟩:=hR
 have hv:=hR.ev x
 obtain ⟨A,n,c,hv,hA⟩:∃ A n c,a.eval x=.slice A n c/\A.isNone=b:=by
  rcases hx with ⟨rfl,hx⟩ | ⟨rfl,id,off,n,k,hx⟩
  ·rw [hx] at hv;exact ⟨_,_,_,hv,rfl⟩
  rw [hx] at hv;obtain ⟨_,_,_,hv⟩:=hv;exact ⟨_,_,_,hv,rfl⟩
 have q1:=Lib.run_eql_slice_nil (P:=P) w t e A n c 0 0 ht
 have q2:=Go.run_neq_slice_nil (P:=P) w t e A n c ht
 have hrun:(execOp a.eval o).run P w=.ok (.value (.bool (if op=.eql then b else !b))) w:=by
  unfold execOp
  have hv2:a.eval (.const (.slice none 0 0))=.slice none 0 0:=rfl
  subst hA
  rcases hop with rfl | rfl
  ·simp only [ho,hv,hv2,Sem.run_bind,eqGuard,q1]
   simp [q1]
  simp only [ho,hv,hv2,Sem.run_bind,eqGuard,q2]
  simp [q2]
 unfold Oper.wp
 rw [hrun]
 exact hN _ _ _ h ⟨g,by cases o.dst <;> exact hpp,hR.put (B3 hd) rfl⟩
theorem Di {fop:Operand} {args:Array Operand} {ts:Array TypeId} {f:FuncId} {ids:List Nat} {R:AV->List Ob->Prop}
  (hd:VJ o st.n=true) (ho:o.op=.call { callee:=.value fop,args:=args,argTypes:=ts }) (hf:st.ev fop=.a (.c (.f f ids))) (hcal:Bh P f=true)
  (hFC:FC P f (args.toList.map st.ev++Em ids) st.hp R)
  (hb:∀ r outs,R r outs->∀ (i:Nat) (o:Ob),outs[i]?=some o->Cd o=true)
  (hK:∀ r outs,R r outs->K ({ st with hp:=outs }.put o.dst r)):Stp P o st K:=by
 intro M0 w0 a w N Q hR hN
 obtain ⟨g,⟨hp1,hp2⟩,hR⟩:=hR
 have hfv:=hR.ev fop
 rw [hf] at hfv
 obtain ⟨hids,hfv⟩:=hfv
 have hargs:GA g st.hp w (args.toList.map st.ev++Em ids) ((args.map a.eval).toList++ids.map fun id=>Value.pointer (some ⟨g.γ (.ob id),0,none⟩)):=by
  refine ⟨by simp [Em],fun i y hy=>?_⟩
  rcases Nat.lt_or_ge i (args.toList.map st.ev).length with hl | hl
  ·rw [gEa hl,List.getElem?_map,Option.map_eq_some_iff] at hy
   obtain ⟨q,hq,rfl⟩:=hy
   refine ⟨a.eval q,?_,hR.ev q⟩
   rw [gEa (by simpa using hl)]
   simp only [Array.toList_map,List.getElem?_map,hq,Option.map_some]
  rw [gEb hl] at hy
  unfold Em at hy
  rw [List.getElem?_map,Option.map_eq_some_iff] at hy
  obtain ⟨id,hid,rfl⟩:=hy
  refine ⟨.pointer (some ⟨g.γ (.ob id),0,none⟩),?_,⟨hids id (gE9 hid),rfl⟩⟩
  rw [gEb (by simpa using hl)]
  simp only [List.length_map,Array.toList_map] at hid ⊢
  rw [List.getElem?_map,hid];rfl
 have hcall:=hFC g w _ hR.hr hargs
 unfold Oper.wp execOp
 simp only [ho,resolve,hfv,Vz,Deferred.ofValue,Sem.run_bind,Sem.run_pure,Result.andThen_ok,invoke]
 have e1:(#[]++args.map a.eval++(ids.map fun id=>Value.pointer (some ⟨g.γ (.ob id),0,none⟩)).toArray)=((args.map a.eval).toList++ids.map fun id=>Value.pointer (some ⟨g.γ (.ob id),0,none⟩)).toArray:=by simp
 rw [e1,BP hcal]
 refine Calls.mono hcall ?_
 rintro e w' ⟨v,r,outs,g',rfl,hr,hHR',⟨hlen,hext⟩,hnew,hv,hfp⟩
 have hmo:Mo g st.hp w g' outs w' (fun _=>True):=by
  refine ⟨fun id hid=>?_,fun b hb ho=>?_,hfp.size,fun b hb ho=>hfp.block b hb (fun ⟨ℓ,hl,e⟩=>ho (.inr ⟨ℓ,hl,e⟩)),fun id _ _ r' j k cs e1 e2=>?_⟩
  rotate_left
  ·rcases ho with ho | ⟨ℓ,hl,e⟩
   ·rw [hext.1] at ho;exact .inl ho
   rcases hnew ℓ hl with ⟨ℓ0,h1,h2⟩ | h1
   ·exact .inr ⟨ℓ0,h1,h2.trans e⟩
   omega
  ·have:=hb r outs hr id _ e1
   have:=List.all_eq_true.1 (show r'.cells.all C.pl=true from this) _ (gE9 e2)
   cases this
  obtain ⟨o1,h1,_⟩:=hid
  have hlt:id<st.hp.length:=(List.getElem?_eq_some_iff.1 h1).1
  have hlt':id<outs.length:=by omega
  exact ⟨⟨outs[id],gE1 hlt',My (hb r outs hr id _ (gE1 hlt'))⟩,hext.2 id hlt⟩
 have hback:RelG g' M0.P w0 { st with hp:=outs } a w':=by
  refine ⟨hHR',fun ℓ hl=>?_,fun d=>AVR.mo hmo (hR.tm d),hR.n,hR.df,?_⟩
  ·rcases hnew ℓ hl with ⟨ℓ0,h1,h2⟩ | h1
   ·rw [<- h2];exact hR.new ℓ0 h1
   exact .inr (Nat.le_trans hR.fp.size h1)
  refine ⟨hfp.os.trans hR.fp.os,hfp.tape.trans hR.fp.tape,hfp.output.trans hR.fp.output,Nat.le_trans hR.fp.size hfp.size,fun k hk hMk=>?_,Nat.le_trans hR.fp.drawn hfp.drawn⟩
  rw [<- hR.fp.block k hk hMk]
  refine hfp.block k (Nat.lt_of_lt_of_le hk hR.fp.size) (fun ⟨ℓ,hl,e⟩=>?_)
  rcases hR.new ℓ hl with q | q
  ·exact hMk (e ▸ q)
  omega
 have hp3:st.pin<=outs.length:=by omega
 exact hN _ _ _ (hK r outs hr) ⟨g',⟨by cases o.dst <;> exact hp3,by cases o.dst <;> exact hp2.trans (hext.le hp1)⟩,hback.put (B3 hd) hv⟩
end
end Go.Proofs.YtjijjfkalheokaaGreatDoor
