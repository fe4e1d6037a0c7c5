/- Lemmas. -/
import Derived.Test.YtbnabodoabimnaaGreatMfl
namespace Go.Proofs.YtbnabodoabimnaaGreat
set_option linter.unusedVariables false
set_option linter.unusedSimpArgs false
open Go.RowKit
set_option maxRecDepth 100000
def Uj (x:AV) (ℓ:Loc):Prop:=(∃ id n,x=.a (.c (.s id n))/\ℓ=.ob id)\/(∃ id j n,x=.a (.c (.b id j n))/\ℓ=.cl id j)
theorem ApR.fp {w:World} {e:TypeId} {k n m:Nat} {v v':Value} {old news:List Value} {w':World} (h:ApR w e k v n m old news v' w'):Fp (fun q=>∃ n' c,v=.slice (some ⟨q,0,none⟩) n' c/\c ≠ 0) w w':=by
 rcases h with ⟨_,_,rfl⟩ | ⟨b,cap,arr,hm,rfl,hc,h2,h3,h4,h5,h6,h7⟩
 ·exact Fp.refl _ _
 rcases h7 with ⟨_,h7⟩ | ⟨bo,capo,rfl,h8,_,h9⟩
 ·exact h7.mono fun _ _ h=>h.elim
 exact h9.mono fun q _ h=>by subst h;exact ⟨n,capo,rfl,h8⟩
section
variable {P : Program} {g : Gh} {M0 : Nat -> Prop} {w0 w : World} {st : ST} {a : Act} {c : Prop}
theorem HZ (h:RelG g M0 w0 st a w) {o:Oper} {cl:Call} (ho:o.op=.call cl) {hp':List Ob} {x:AV} (ha:QH P st.ev st.hp cl=some (c,hp',x)) (hc:c):
  ∃ v w' g',(execOp a.eval o).run P w=.ok (.value v) w'/\RelG g' M0 w0 { st with hp:=hp' } a w'/\AVR (CR g' hp' w') x v/\(Ext st.hp.length g g'/\st.hp.length<=hp'.length)/\∃ s,cl.args.toList.head?=some s/\Fp (fun q=>∃ ℓ,q=g.γ ℓ/\Lv st.hp g ℓ/\Uj (st.ev s) ℓ) w w':=by
 obtain ⟨callee,args,ts⟩:=cl
 unfold QH at ha
 simp only at ha
 split at ha
 rotate_left
 ·cases ha
 rename_i s src t t' hargs hts
 have ha':args=#[s,src]:=by apply gA0;simpa using hargs
 have ht':ts=#[t,t']:=by apply gA0;simpa using hts
 subst ha';subst ht'
 split at ha
 rotate_left
 ·cases ha
 rename_i y hty
 split at ha
 rotate_left
 ·cases ha
 rename_i z hk hz
 split at ha
 rotate_left
 ·cases ha
 rename_i c1 news m hsrc
 split at ha
 rotate_left
 ·cases ha
 rename_i c2 hp2 n hbase
 split at ha
 rotate_left
 ·cases ha
 rename_i hcond
 simp only [gA1,gBM,beq_iff_eq] at hcond
 obtain ⟨⟨d1,d2⟩,rfl⟩:=hcond
 simp only [gBI,gBJ] at ha
 obtain ⟨rfl,rfl,rfl⟩:=ha
 obtain ⟨hc1,hc2,hc3,hc4⟩:=hc
 obtain ⟨A,cp,us,hsv,hsl,hlr,hone1,hone⟩:=HN h.hr d1 (h.ev src) hsrc hc1
 have E:=UB hty hk hz d1 d2
 have hrun:∀ {v':Value} {w':World},(Builtin.append_ #[t,t] o.type #[a.eval s,.slice A m cp]).run P w=.ok v' w'->(execOp a.eval o).run P w=.ok (.value v') w':=by
  intro v' w' hr
  unfold execOp
  simp only [ho,resolve,invoke,builtin,Sem.run_bind,Sem.run_pure,Result.andThen_ok,gAZ,gAV,gAX,hsv,hr]
 have hs:=h.ev s
 generalize hsx:st.ev s=sx at hbase hs
 unfold Dt at hbase
 split at hbase
 rotate_left 2
 ·rename_i id j n'
  split at hbase
  rotate_left
  ·cases hbase
  rename_i r hrow
  split at hbase
  rotate_left
  ·cases hbase
  rename_i k' cs hcell
  simp only [gBI,gBJ] at hbase
  obtain ⟨rfl,rfl,rfl⟩:=hbase
  subst hc2
  have hfr:∀ q n c,a.eval s=.slice (some ⟨q,0,none⟩) n c->c ≠ 0->q=g.γ (.cl id j)/\cs ≠ []:=by
   intro q n c hv hc0
   obtain ⟨_,hb2⟩:=hs
   obtain ⟨v1,v2,v3,A1,cp1,v4⟩:=hb2 r _ cs hrow hcell
   rcases h.hr.row id r hrow with ⟨_,h2⟩ | ⟨h0,htight,arr1,har,hl,hsz,hm,hcells⟩
   ·rw [h2] at hcell;simp at hcell
   obtain ⟨u,u1,u2⟩:=hcells j _ hcell
   rw [cell_of_row _ _ _ _ _ _ har,u1] at v2
   injection v2 with v2
   rcases u2 with ⟨hcs,A,hA,hAb⟩ | ⟨hne,n2,c',arr',hA,k1,k2,k3,k4,k5,k6⟩
   ·rw [<- v2,hA] at hv;cases hv;exact absurd rfl hc0
   rw [<- v2,hA] at hv;cases hv;exact ⟨rfl,hne⟩
  have hbase2:∃ old,Oy w y.elem z.size (a.eval s) n' old:=by
   obtain ⟨_,hb2⟩:=hs
   obtain ⟨v1,v2,v3,A1,cp1,v4⟩:=hb2 r _ cs hrow hcell
   rcases h.hr.row id r hrow with ⟨_,h2⟩ | ⟨h0,htight,arr1,har,hl,hsz,hm,hcells⟩
   ·rw [h2] at hcell;simp at hcell
   obtain ⟨u,u1,u2⟩:=hcells j _ hcell
   rw [cell_of_row _ _ _ _ _ _ har,u1] at v2
   injection v2 with v2
   rcases u2 with ⟨hcs,A,hA,hAb⟩ | ⟨hne,n2,c',arr',hA,k1,k2,k3,k4,k5,k6⟩
   ·refine ⟨[],.inl ⟨A,by rw [<- v2];exact hA,?_,rfl,hAb⟩⟩
    rw [<- v2,hA] at v4;cases v4;rfl
   have hn2:n2=n':=by rw [<- v2,hA] at v4;cases v4;rfl
   subst hn2
   refine ⟨arr'.toList.take (n2*z.size),.inr ⟨_,c',arr',by rw [<- v2];exact hA,?_,k4,k2,k3,k5,rfl,?_⟩⟩
   ·rintro rfl
    have:n2=0:=by omega
    rw [this] at k1;simp at k1;exact hne k1
   rw [gAS]
   have:n2*z.size<=c'*z.size:=gBA _ k2
   simp only at k5
   simp;omega
  obtain ⟨old,hbase2⟩:=hbase2
  obtain ⟨v',w',r1,r2⟩:=F8 E w o.type hbase2 hsl hone1 hc3 hc4
  obtain ⟨g',q1,q2,q3⟩:=Q4 h hrow hcell d1 hlr hone hsl.len hs (v':=v') (w':=w') (fun old' hb'=>by
   have:old'=old:=by
    rcases hb' with ⟨A,hA,h1,h2,_⟩ | ⟨b,cap,arr,hA,h1,h2,h3,h4,h5,h6,h7⟩
    ·rcases hbase2 with ⟨A',_,_,h2',_⟩ | ⟨b',cap',arr',hA',h1',_⟩
     ·rw [h2,h2']
     rw [hA] at hA';cases hA';exact absurd rfl h1'
    rcases hbase2 with ⟨A',hA',_,h2',_⟩ | ⟨b',cap',arr',hA',h1',h2',h3',h4',h5',h6',h7'⟩
    ·rw [hA] at hA';cases hA';exact absurd rfl h1
    rw [hA] at hA';cases hA'
    rw [h2] at h2';cases h2'
    rw [<- h6,<- h6']
   rw [this];exact r2)
  refine ⟨v',w',g',hrun r1,q1,q2,⟨q3,by simp⟩,s,rfl,r2.fp.mono fun q _ ⟨n,c,e1,e2⟩=>?_⟩
  obtain ⟨f1,f2⟩:=hfr q n c e1 e2
  exact ⟨.cl id j,f1,⟨r,_,cs,hrow,hcell,f2⟩,.inr ⟨id,j,n',hsx,rfl⟩⟩
 ·cases hbase
 ·simp only [gBI,gBJ] at hbase
  obtain ⟨_,rfl,rfl⟩:=hbase
  have hsv0:a.eval s=.slice none 0 0:=hs
  rw [hsv0] at hrun
  obtain ⟨v',w',r1,r2⟩:=F8 E w o.type (v:=.slice none 0 0) (n:=0) (old:=[]) (.inl ⟨none,rfl,rfl,rfl,by simp⟩) hsl hone1 (by rw [gBD];exact hc3) (by omega)
  obtain ⟨g',q1,q2,q3⟩:=Fj h d1 hlr hone hsl.len (by simp) r2 CH (BO (.r ⟨y.elem,z.size,true,news⟩)) (Bb _)
  refine ⟨v',w',g',hrun r1,q1,q2,⟨q3 _ (gBu _),by simp⟩,s,rfl,r2.fp.mono fun q _ ⟨n,c,e1,e2⟩=>?_⟩
  cases e1
 rename_i id n'
 split at hbase
 rotate_left
 ·cases hbase
 rename_i r hrow
 simp only [gBI,gBJ] at hbase
 obtain ⟨rfl,rfl,rfl⟩:=hbase
 obtain ⟨e1,e2,e3,e4⟩:=hc2
 obtain ⟨b1,b2,A0,b3,b4,b5⟩:=hs
 obtain ⟨er,kr,slr,cellsr⟩:=r
 simp only at e1 e2 e3 e4
 subst e1
 subst e2
 rw [b3] at hrun
 rcases h.hr.row id _ hrow with ⟨h0,h2⟩ | ⟨h0,htight,arr,har,hl,hsz,hm,hcells⟩
 rotate_left
 ·rw [b4 h0] at hrun
  have hol:(arr.toList.take (n'*z.size)).length=n'*z.size:=by
   rw [gAS]
   have:n'*z.size<=g.κ id*z.size:=gBA _ b2
   have hsz2:arr.size=g.κ id*z.size:=hsz
   simp;omega
  obtain ⟨v',w',r1,r2⟩:=F8 E w o.type (n:=n') (old:=arr.toList.take (n'*z.size)) (.inr ⟨g.γ (.ob id),g.κ id,arr,rfl,h0,har,b2,hm,hsz,rfl,hol⟩) hsl hone1 hc3 hc4
  obtain ⟨g',q1,q2,q3⟩:=Q3 h hrow d1 h0 e3 e4 b2 hlr hone hsl.len har rfl r2
  refine ⟨v',w',g',hrun r1,q1,q2,⟨q3,by simp⟩,s,rfl,r2.fp.mono fun q _ ⟨n,c,e1,e2⟩=>?_⟩
  cases e1
  exact ⟨.ob id,rfl,.inl ⟨_,hrow,h0⟩,.inl ⟨id,n',hsx,rfl⟩⟩
 have hn0:n'=0:=by omega
 subst hn0
 rw [h0] at hrun
 obtain ⟨v',w',r1,r2⟩:=F8 E w o.type (v:=.slice A0 0 0) (n:=0) (old:=[]) (.inl ⟨A0,rfl,rfl,rfl,b5⟩) hsl hone1 (by simpa using hc3) (by omega)
 subst h2
 have hid:id<st.hp.length:=(List.getElem?_eq_some_iff.1 hrow).1
 have hkill:=h.kill (hp':=st.hp.set id .d) (fun i hi=>by
  obtain ⟨x0,x1,x2⟩:=hi
  by_cases e:i=id
  ·subst e;exact ⟨.d,by simp [hid],rfl⟩
  ·exact ⟨x0,by rw [gE5 (Ne.symm e)];exact x1,x2⟩) (fun i r' e=>by
  rw [gAE] at e
  split at e
  ·(try split at e) <;> cases e
  ·exact e) (fun i kv e=>by
  rw [gAE] at e
  split at e
  ·(try split at e) <;> cases e
  ·exact e)
 have hlr2:LR (CR g (st.hp.set id .d) w) news us:=hlr.imp (fun x hx u hu=>by
  refine CR.mo (Eb (fun i hi=>by
   obtain ⟨x0,x1,x2⟩:=hi
   by_cases e:i=id
   ·subst e;exact ⟨.d,by simp [hid],rfl⟩
   ·exact ⟨x0,by rw [gE5 (Ne.symm e)];exact x1,x2⟩) (fun i r' e=>by
   rw [gAE] at e
   split at e
   ·(try split at e) <;> cases e
   ·exact e) (fun i kv e=>by
   rw [gAE] at e
   split at e
   ·(try split at e) <;> cases e
   ·exact e)) (by
    have:=gAg.1 hone x hx
    cases x <;> first | trivial | cases this) hu)
 obtain ⟨g',q1,q2,q3⟩:=Fj (st:={ st with hp:=st.hp.set id .d }) (hp':=st.hp.set id .d++[.r ⟨y.elem,z.size,slr,news⟩]) (id:=st.hp.length) (sl:=slr) hkill d1 hlr2 hone hsl.len b5 r2 (by
  have:=CH (hp:=st.hp.set id .d);simpa using this) (by
  have:=BO (hp:=st.hp.set id .d) (.r ⟨y.elem,z.size,slr,news⟩);simpa using this) (by
  have:=Bb (hp:=st.hp.set id .d) (.r ⟨y.elem,z.size,slr,news⟩);simp)
 refine ⟨v',w',g',hrun r1,?_,?_,⟨q3 _ (gBu _),by simp⟩,s,rfl,r2.fp.mono fun q _ ⟨n,c,e1,e2⟩=>?_⟩
 rotate_left 2
 ·cases e1;exact absurd rfl e2
 ·simpa using q1
 have:CR g' (st.hp.set id .d++[.r ⟨y.elem,z.size,slr,List.take (0*z.size) []++news⟩]) w' (.s st.hp.length (0+m)) v':=by simpa using q2
 exact this
end
/-! plans: an order of the operations, that may fork where two acts are ready -/
inductive PT where
 | e
 | m (i k s:Nat) (r:PT)
 | a (i:Nat) (r:PT)
 | f (i:Nat) (r:PT) (j:Nat) (r':PT)
def PT.len:PT->Nat
 | .e=>0
 | .m _ _ _ r=>r.len+1
 | .a _ r=>r.len+1
 | .f _ r _ _=>r.len+1
def Fc (ops:Array Oper):PT->List Nat->Array Bool->Bool
 | .e,_,listed=>(Region.ready .any ops listed).isEmpty
 | .m i 0 _ r,stops,listed=>Region.free .any ops listed i && ((Region.ready .any ops listed).contains i && (!stops.contains i && Fc ops r stops (listed.setIfInBounds i true)))
 | .m i _ s r,stops,listed=>Region.free .any ops listed i && ((Region.ready .any ops listed).contains i && (QS ops s i && (i != s && (!stops.contains i && Fc ops r (s :: stops) (listed.setIfInBounds i true)))))
 | .a i r,stops,listed=>(Region.ready .any ops listed == [i]) && (decide (i<listed.size) && Fc ops r stops (listed.setIfInBounds i true))
 | .f i r j r',stops,listed=>(Region.ready .any ops listed == [i,j]) && (decide (i<listed.size) && (decide (j<listed.size) && (r.len == r'.len && (Fc ops r stops (listed.setIfInBounds i true) && Fc ops r' stops (listed.setIfInBounds j true)))))
def ON (P:Program) (ops:Array Oper) (Q:Exit->Act->World->Prop):PT->List Nat->Cs->Act->World->Prop
 | .e,_,_,a,w=>Q .normal a w
 | .m i 0 _ r,done,cs,a,w=>∃ oi v,ops[i]?=some oi/\YieldsIf P ops (fun _=>True) oi v a/\ON P ops Q r done cs (a.put oi.dst v) w
 | .m i (_+1) s r,done,cs,a,w=>∃ oi v S,ops[i]?=some oi/\YieldsIf P ops S oi v a/\S w/\ON P ops Q r done ((s,S) :: cs) (a.put oi.dst v) w
 | .a i r,done,cs,a,w=>wpOp P ops Q i (fun a' w'=>(∀ c∈cs,c.1∈i :: done\/c.2 w')/\ON P ops Q r (i :: done) cs a' w') a w
 | .f i r j r',done,cs,a,w=>wpOp P ops Q i (fun a' w'=>(∀ c∈cs,c.1∈i :: done\/c.2 w')/\ON P ops Q r (i :: done) cs a' w') a w/\
  wpOp P ops Q j (fun a' w'=>(∀ c∈cs,c.1∈j :: done\/c.2 w')/\ON P ops Q r' (j :: done) cs a' w') a w
section
variable {P : Program} {ops : Array Oper} {o : Oper} {st : ST} {K : ST -> Prop} {i s : Nat} {want : Bool} {dd : Option Nat} {rest : PT} {fl done sa sb : List Nat}
def Ms (st:ST) (x:AV):Bool:=
 match x with
 | .a (.c (.v (.slice none 0 0)))=>true
 | .a (.c (.s id _))=>match st.hp.getD id .d with | .r r=>r.sl && r.cells.isEmpty | _=>false
 | _=>false
theorem QW {cl:Call} {s:Operand} (hd:Vc o st.n=true) (ho:o.op=.call cl) (hs:cl.args.toList.head?=some s) (he:Ms st (st.ev s)=true) (h:OB P o st K cl):Ud P o st K:=by
 intro M0 w0 a w N Q hR hN
 obtain ⟨g,⟨hp1,hp2⟩,hR⟩:=hR
 unfold OB at h
 split at h
 rotate_left
 ·exact h.elim
 rename_i c hp' x hop
 obtain ⟨v,w',g',h1,h2,h3,h4,s',h5,h6⟩:=HZ (P:=P) hR ho hop h.1
 rw [hs] at h5;cases h5
 unfold Oper.wp
 rw [h1]
 refine hN _ _ _ h.2 ⟨g',⟨by cases o.dst <;> (simp [ST.put];omega),by cases o.dst <;> exact hp2.trans (h4.1.le hp1)⟩,h2.put (B5 hd) h3⟩ (h6.mono ?_)
 rintro q _ ⟨ℓ,_,hl,hloc⟩
 rcases hloc with ⟨id,n,e1,rfl⟩ | ⟨id,j,n,e1,rfl⟩
 rotate_left
 ·rw [e1] at he;cases he
 rw [e1] at he
 simp only [Ms] at he
 split at he
 rotate_left
 ·cases he
 rename_i r hr
 simp only [gA1,List.isEmpty_iff] at he
 have hrow:st.hp[id]?=some (.r r):=by
  cases hh:st.hp[id]? with
  | none=>rw [List.getD,hh] at hr;cases hr
  | some ob=>rw [List.getD,hh] at hr;simp at hr;rw [hr]
 rcases hl with ⟨r',q1,q2⟩ | ⟨kv,q1⟩
 rotate_left
 ·rw [hrow] at q1;cases q1
 rw [hrow] at q1;cases q1
 rcases hR.hr.row id r hrow with ⟨z,_⟩ | ⟨_,z,_⟩
 ·exact q2 z
 exact z he.1 he.2
def Tj (P:Program) (o:Oper) (st:ST) (K:ST->Prop) (fl:List Nat):Prop:=
 ∀ (M0:Fm) (w0:World) (a:Act) (w:World) (N:Act->World->Prop) (Q:Exit->Act->World->Prop),Rel M0 w0 st a w->(∀ st' a' w',K st'->Rel M0 w0 st' a' w'->(∀ id∈fl,∀ x,w.heap[M0.g.γ (.ob id)]?=some x->w'.heap[M0.g.γ (.ob id)]?=some x)->N a' w')->o.wp P a w N Q
def Tk (x:AV) (fl:List Nat):Bool:=
 match x with
 | .a (.c (.s id _))=>!fl.contains id
 | _=>true
theorem Cl {cl:Call} {s:Operand} (hd:Vc o st.n=true) (ho:o.op=.call cl) (hs:cl.args.toList.head?=some s) (he:Tk (st.ev s) fl=true) (hrows:Ct st.hp fl=true) (hlt:Dy st.pin fl=true) (h:OB P o st K cl):Tj P o st K fl:=by
 intro M0 w0 a w N Q hR hN
 obtain ⟨g,⟨hp1,hp2⟩,hR⟩:=hR
 unfold OB at h
 split at h
 rotate_left
 ·exact h.elim
 rename_i c hp' x hop
 obtain ⟨v,w',g',h1,h2,h3,h4,s',h5,h6⟩:=HZ (P:=P) hR ho hop h.1
 rw [hs] at h5;cases h5
 unfold Oper.wp
 rw [h1]
 refine hN _ _ _ h.2 ⟨g',⟨by cases o.dst <;> (simp [ST.put];omega),by cases o.dst <;> exact hp2.trans (h4.1.le hp1)⟩,h2.put (B5 hd) h3⟩ fun id0 hid x hx=>?_
 have hsz:M0.g.γ (.ob id0)<w.heap.size:=(Array.getElem?_eq_some_iff.1 hx).1
 rw [h6.block _ hsz ?_];exact hx
 rintro ⟨ℓ,hq,hl,hloc⟩
 obtain ⟨r',q1,q2⟩:=D6 hrows hid
 have hl':Lv st.hp g (.ob id0):=.inl ⟨r',q1,fun h0=>by
  rcases hR.hr.row id0 r' q1 with ⟨_,z⟩ | ⟨z,_⟩
  ·exact q2 z
  ·exact z h0⟩
 rw [<- (hp2.2 id0 (Cb hlt hid)).1] at hq
 have:=hR.hr.inj _ _ hl' hl hq
 subst this
 rcases hloc with ⟨id,n,e1,e2⟩ | ⟨id,j,n,e1,e2⟩
 rotate_left
 ·cases e2
 cases e2
 rw [e1] at he
 simp only [Tk,gA7,gAn,gBL] at he
 exact he hid

theorem GU {Q:Exit->Act->World->Prop} {r:PT} {done:List Nat} {cs:Cs} {listed:Array Bool} {a:Act} {w:World} {j n:Nat} (hlt:j<listed.size) (hdn:∀ d∈done,listed.getD d false=true)
  (ih:∀ (a':Act) (w':World),(∀ d∈j :: done,(listed.setIfInBounds j true).getD d false=true)->HC cs (listed.setIfInBounds j true) w'->ON P ops Q r (j :: done) cs a' w'->E2 P ops Q (HC cs) n (listed.setIfInBounds j true) a' w')
  (h:wpOp P ops Q j (fun a' w'=>(∀ c∈cs,c.1∈j :: done\/c.2 w')/\ON P ops Q r (j :: done) cs a' w') a w):
  wpOp P ops Q j (fun a' w'=>HC cs (listed.setIfInBounds j true) w'/\E2 P ops Q (HC cs) n (listed.setIfInBounds j true) a' w') a w:=by
 refine wpOp_mono (fun a' w' h'=>?_) h
 have hdn':∀ d∈j :: done,(listed.setIfInBounds j true).getD d false=true:=by
  intro d hd
  rcases gB2.1 hd with rfl | hd
  ·simp [hlt]
  exact getD_set_true (hdn d hd)
 have hh':HC cs (listed.setIfInBounds j true) w':=fun c hc=>(h'.1 c hc).imp (hdn' c.1) (fun h=>h)
 exact ⟨hh',ih a' w' hdn' hh' h'.2⟩
theorem Cz {Q:Exit->Act->World->Prop} (hs:Region.noSelect ops=true) (hQ:∀ c (a:Act) (d:Option Tmp) (v:Value) w,Q (.panic c) (a.put d v) w->Q (.panic c) a w):
  ∀ (l:PT) (done:List Nat) (cs:Cs) (listed:Array Bool) (a:Act) (w:World),Closed .any ops listed->Fc ops l (cs.map (·.1)) listed=true->(∀ d∈done,listed.getD d false=true)->HC cs listed w->ON P ops Q l done cs a w->
   E2 P ops Q (HC cs) l.len listed a w
 | .e,done,cs,listed,a,w,_,hc,_,_,h=>by
  simp only [Fc,List.isEmpty_iff] at hc
  exact ⟨hc,h⟩
 | .m i 0 s r,done,cs,listed,a,w,hcl,hc,hdn,hh,h=>by
  simp only [Fc,gA1,gA7,gAn,gBM,gBL] at hc
  obtain ⟨hf,hr,hni,hc⟩:=hc
  obtain ⟨oi,v,hi,hy,hT⟩:=h
  have ih:=Cz hs hQ r done cs _ _ w (hcl.step hr) hc (fun d hd=>getD_set_true (hdn d hd)) hh.set hT
  exact DL (S1:=fun _=>True) hi (Region.noSelect_spec hs) hQ (fun _ _ h=>h) (fun l w h=>h.unset hni) (fun _ _ _ _ _=>trivial) r.len listed a w hcl (Region.free_spec hi hf) hr hy hh.set ih
 | .m i (k+1) s r,done,cs,listed,a,w,hcl,hc,hdn,hh,h=>by
  simp only [Fc,gA1,gA7,gAn,gBM,gBL,bne_iff_ne,ne_eq] at hc
  obtain ⟨hf,hr,hdep,hne,hni,hc⟩:=hc
  obtain ⟨oi,v,S,hi,hy,hSw,hT⟩:=h
  have hh1:HC ((s,S) :: cs) (listed.setIfInBounds i true) w:=by
   intro c hc
   rcases gB2.1 hc with rfl | hc
   ·exact .inr hSw
   ·exact hh.set c hc
  have ih:=Cz hs hQ r done ((s,S) :: cs) _ _ w (hcl.step hr) hc (fun d hd=>getD_set_true (hdn d hd)) hh1 hT
  refine DL (S1:=S) (H1:=HC ((s,S) :: cs)) hi (Region.noSelect_spec hs) hQ (fun l w h c hc=>h c (gEf _ hc)) (fun l w h=>HC.unset hni (fun c hc=>h c (gEf _ hc))) ?_ r.len listed a w hcl (Region.free_spec hi hf) hr hy hh1 ih
  intro l w hcl hr h
  rcases h (s,S) (by simp) with h1 | h1
  ·rw [getD_set_ne false hne] at h1
   have h2:=JS hcl h1 hdep
   rw [FK (mem_ready.1 hr).1] at h2
   cases h2
  ·exact h1
 | .a i r,done,cs,listed,a,w,hcl,hc,hdn,hh,h=>by
  simp only [Fc,gA1,beq_iff_eq,gBM] at hc
  obtain ⟨hr,hlt,hc⟩:=hc
  refine ⟨fun h0=>absurd (h0 ▸ hr) (by simp),fun j hj=>?_⟩
  have hji:j=i:=by rw [hr] at hj;simpa using hj
  subst hji
  exact GU hlt hdn (fun a' w' q1 q2 q3=>Cz hs hQ r (j :: done) cs _ a' w' (hcl.step hj) hc q1 q2 q3) h
 | .f i r i2 r2,done,cs,listed,a,w,hcl,hc,hdn,hh,h=>by
  simp only [Fc,gA1,beq_iff_eq,gBM] at hc
  obtain ⟨hr,hlt,hlt2,hlen,hc,hc2⟩:=hc
  refine ⟨fun h0=>absurd (h0 ▸ hr) (by simp),fun j hj=>?_⟩
  have hji:j=i\/j=i2:=by rw [hr] at hj;simpa using hj
  rcases hji with rfl | rfl
  ·exact GU hlt hdn (fun a' w' q1 q2 q3=>Cz hs hQ r (j :: done) cs _ a' w' (hcl.step hj) hc q1 q2 q3) h.1
  ·exact GU hlt2 hdn (fun a' w' q1 q2 q3=>by
    have:=Cz hs hQ r2 (j :: done) cs _ a' w' (hcl.step hj) hc2 q1 q2 q3
    rw [<- hlen] at this;exact this) h.2

def Fd (P:Program) (ops:Array Oper) (fl:List Nat) (l:PT) (done sa sb:List Nat) (st:ST) (K:ST->Prop):Prop:=
 ∀ (M0:Fm) (w0:World) (a:Act) (w:World) (Q:Exit->Act->World->Prop) (cs:Cs),
  (∀ c∈cs,(c.1∈sa/\∃ id∈fl,∃ x,c.2=fun W=>W.heap[M0.g.γ (.ob id)]?=some x)\/(c.1∈sb/\∀ W W',c.2 W->Fp (fun _=>False) W W'->c.2 W'))->(∀ c∈cs,c.1∈done\/c.2 w)->Rel M0 w0 st a w->(∀ st' a' w',K st'->Rel M0 w0 st' a' w'->Q .normal a' w')->
  ON P ops Q l done cs a w
theorem DY (h:K st):Fd P ops fl .e done sa sb st K:=fun _ _ _ _ _ _ _ _ hR hN=>hN _ _ _ h hR
theorem VJ (hi:ops[i]?=some o) (hx:JO ops o=some (dd,want)) (hd:Vc o st.n=true) (h:∀ K':ST->Prop,(∀ st',Fd P ops fl rest done sa sb st' K->K' st')->gv (Iy st dd) want (Vd P o st K') (K' (st.put o.dst (.a (.c (.v undef)))))):Fd P ops fl (.m i 0 s rest) done sa sb st K:=by
 intro M0 w0 a w Q cs h1 h2 hR hN
 obtain ⟨g,hpp,hR'⟩:=hR
 rcases FM hx hR' (h (fun st'=>Fd P ops fl rest done sa sb st' K) (fun _ h=>h)) with ⟨hw,he⟩ | ⟨hw,he⟩
 rotate_left
 ·exact ⟨o,undef,hi,.inr ⟨hw,rfl⟩,he M0 w0 _ w Q cs h1 h2 ⟨g,by cases o.dst <;> exact hpp,hR'.put (B5 hd) rfl⟩ hN⟩
 unfold Vd at he
 split at he
 rotate_left
 ·exact he.elim
 rename_i c x hop
 obtain ⟨v,e1,e2⟩:=FE (P:=P) (ρ:=a.eval) (ev:=st.ev) hR'.ev hop he.1
 exact ⟨o,v,hi,.inl ⟨hw,fun W _=>e1 W⟩,he.2 M0 w0 _ w Q cs h1 h2 ⟨g,by cases o.dst <;> exact hpp,hR'.put (B5 hd) e2⟩ hN⟩
theorem VK {t:TypeId} {y:Operand} {id off:Nat} (hi:ops[i]?=some o) (hx:JO ops o=some (dd,want)) (hd:Vc o st.n=true) (ho:o.op=.load t y) (hy:st.ev y=.a (.c (.p id off))) (hpin:Nat.blt id st.pin=true) (hfl:fl.contains id=true)
  (h:∀ K':ST->Prop,(∀ st',Fd P ops fl rest done (s :: sa) sb st' K->K' st')->gv (Iy st dd) want (Ve P o st K') False):Fd P ops fl (.m i 1 s rest) done sa sb st K:=by
 intro M0 w0 a w Q cs h1 h2 hR hN
 obtain ⟨g,hpp,hR'⟩:=hR
 have hpin':id<st.pin:=by simpa [Nat.blt_eq] using hpin
 have hfl':id∈fl:=by simpa using hfl
 rcases FM hx hR' (h (fun st'=>Fd P ops fl rest done (s :: sa) sb st' K) (fun _ h=>h)) with ⟨hw,he⟩ | ⟨hw,he⟩
 rotate_left
 ·exact he.elim
 unfold Ve at he
 split at he
 rotate_left
 ·exact he.elim
 rename_i c x hop
 have hop':DX P st.ev st.hp t y=some (c,x):=by rw [ho] at hop;exact hop
 obtain ⟨⟨r,hrow,hk⟩,v,e1,e2⟩:=FL (P:=P) (ρ:=a.eval) hR'.hr hR'.ev hy hop' he.1
 have hlive:Lv st.hp g (.ob id):=.inl ⟨r,hrow,hk⟩
 have hbl:=hR'.hr.lt hlive
 obtain ⟨X,hX⟩:∃ X,w.heap[g.γ (.ob id)]?=some X:=⟨_,gEd hbl⟩
 have eγ:=(hpp.2.2 id hpin').1
 refine ⟨o,v,fun W=>W.heap[M0.g.γ (.ob id)]?=some X,hi,.inl ⟨hw,fun W hW=>?_⟩,by rw [<- eγ];exact hX,he.2 M0 w0 _ w Q _ (fun c hc=>?_) (fun c hc=>?_) ⟨g,by cases o.dst <;> exact hpp,hR'.put (B5 hd) e2⟩ hN⟩
 rotate_left 2
 ·rcases gB2.1 hc with rfl | hc
  ·exact .inr (by rw [<- eγ];exact hX)
  exact h2 c hc
 ·have:=e1 W (by rw [hX,eγ];exact hW)
  unfold execOp
  simp [ho,this]
 rcases gB2.1 hc with rfl | hc
 ·exact .inl ⟨by simp,id,hfl',X,rfl⟩
 exact (h1 c hc).imp (fun h=>⟨by simp [h.1],h.2⟩) (fun h=>h)
theorem OO (hi:ops[i]?=some o) (hx:JO ops o=some (dd,want)) (hd:Vc o st.n=true)
  (h:∀ K':ST->Prop,(∀ st',Fd P ops fl rest done sa (s :: sb) st' K->K' st')->gv (Iy st dd) want (Ve P o st K') (K' (st.put o.dst (.a (.c (.v undef)))))):Fd P ops fl (.m i 1 s rest) done sa sb st K:=by
 intro M0 w0 a w Q cs h1 h2 hR hN
 obtain ⟨g,hpp,hR'⟩:=hR
 have up:∀ c∈cs,(c.1∈sa/\∃ id∈fl,∃ x,c.2=fun W=>W.heap[M0.g.γ (.ob id)]?=some x)\/(c.1∈s :: sb/\∀ W W',c.2 W->Fp (fun _=>False) W W'->c.2 W'):=fun c hc=>(h1 c hc).imp (fun h=>h) (fun h=>⟨by simp [h.1],h.2⟩)
 rcases FM hx hR' (h (fun st'=>Fd P ops fl rest done sa (s :: sb) st' K) (fun _ h=>h)) with ⟨hw,he⟩ | ⟨hw,he⟩
 rotate_left
 ·refine ⟨o,undef,fun _=>True,hi,.inr ⟨hw,rfl⟩,trivial,he M0 w0 _ w Q _ (fun c hc=>?_) (fun c hc=>?_) ⟨g,by cases o.dst <;> exact hpp,hR'.put (B5 hd) rfl⟩ hN⟩
  rotate_left
  ·rcases gB2.1 hc with rfl | hc
   ·exact .inr trivial
   exact h2 c hc
  rcases gB2.1 hc with rfl | hc
  ·exact .inr ⟨by simp,fun _ _ _ _=>trivial⟩
  exact up c hc
 unfold Ve at he
 split at he
 rotate_left
 ·exact he.elim
 rename_i c x hop
 obtain ⟨v,e1,e2⟩:=GO (P:=P) hR'.hr hR'.ev hop he.1
 refine ⟨o,v,fun W=>Fp (fun _=>False) w W,hi,.inl ⟨hw,fun W hW=>e1 W hW⟩,Fp.refl _ _,he.2 M0 w0 _ w Q _ (fun c hc=>?_) (fun c hc=>?_) ⟨g,by cases o.dst <;> exact hpp,hR'.put (B5 hd) e2⟩ hN⟩
 rotate_left
 ·rcases gB2.1 hc with rfl | hc
  ·exact .inr (Fp.refl _ _)
  exact h2 c hc
 rcases gB2.1 hc with rfl | hc
 ·exact .inr ⟨by simp,fun W W' q1 q2=>Fp.trans q1 q2⟩
 exact up c hc
theorem VL (hi:ops[i]?=some o) (hg:o.guard=none) (h:∀ K':ST->Prop,(∀ st',Fd P ops fl rest (i :: done) sa sb st' K->K' st')->Ud P o st K'):Fd P ops fl (.a i rest) done sa sb st K:=by
 intro M0 w0 a w Q cs h1 h2 hR hN
 show wpOp P ops Q i _ a w
 unfold wpOp
 rw [hi]
 simp only [Region.wanted,hg,if_true]
 refine .inl (h (fun st'=>Fd P ops fl rest (i :: done) sa sb st' K) (fun _ h=>h) M0 w0 a w _ Q hR fun st' a' w' q1 q2 q3=>?_)
 have h2':∀ c∈cs,c.1∈i :: done\/c.2 w':=fun c hc=>(h2 c hc).imp (fun h=>gEf _ h) (fun h=>by
  rcases h1 c hc with ⟨_,id,_,x,e⟩ | ⟨_,e⟩
  ·rw [e] at h ⊢
   have hl:=(Array.getElem?_eq_some_iff.1 h).1
   exact (q3.block _ hl (fun h=>h)).trans h
  ·exact e w w' h q3)
 exact ⟨h2',q1 M0 w0 a' w' Q cs h1 h2' q2 hN⟩
theorem E3 (hi:ops[i]?=some o) (hg:o.guard=none) (hsb:FN sb (i :: done)=true) (h:∀ K':ST->Prop,(∀ st',Fd P ops fl rest (i :: done) sa sb st' K->K' st')->Tj P o st K' fl):Fd P ops fl (.a i rest) done sa sb st K:=by
 intro M0 w0 a w Q cs h1 h2 hR hN
 show wpOp P ops Q i _ a w
 unfold wpOp
 rw [hi]
 simp only [Region.wanted,hg,if_true]
 refine .inl (h (fun st'=>Fd P ops fl rest (i :: done) sa sb st' K) (fun _ h=>h) M0 w0 a w _ Q hR fun st' a' w' q1 q2 q3=>?_)
 have h2':∀ c∈cs,c.1∈i :: done\/c.2 w':=fun c hc=>by
  rcases h1 c hc with ⟨_,id,hid,x,e⟩ | ⟨e,_⟩
  rotate_left
  ·exact .inl (DM hsb e)
  refine (h2 c hc).imp (fun h=>gEf _ h) (fun h=>?_)
  rw [e] at h ⊢
  exact q3 id hid x h
 exact ⟨h2',q1 M0 w0 a' w' Q cs h1 h2' q2 hN⟩
theorem VM (hi:ops[i]?=some o) (hg:o.guard=none) (hsa:FN sa (i :: done)=true) (hsb:FN sb (i :: done)=true) (h:∀ K':ST->Prop,(∀ st',Fd P ops fl rest (i :: done) sa sb st' K->K' st')->Stp P o st K'):Fd P ops fl (.a i rest) done sa sb st K:=by
 intro M0 w0 a w Q cs h1 h2 hR hN
 show wpOp P ops Q i _ a w
 unfold wpOp
 rw [hi]
 simp only [Region.wanted,hg,if_true]
 refine .inl (h (fun st'=>Fd P ops fl rest (i :: done) sa sb st' K) (fun _ h=>h) M0 w0 a w _ Q hR fun st' a' w' q1 q2=>?_)
 have h2':∀ c∈cs,c.1∈i :: done\/c.2 w':=fun c hc=>.inl (by
  rcases h1 c hc with ⟨e,_⟩ | ⟨e,_⟩
  ·exact DM hsa e
  ·exact DM hsb e)
 exact ⟨h2',q1 M0 w0 a' w' Q cs h1 h2' q2 hN⟩
theorem VN {j:Nat} {rest':PT} (h1:Fd P ops fl (.a i rest) done sa sb st K) (h2:Fd P ops fl (.a j rest') done sa sb st K):Fd P ops fl (.f i rest j rest') done sa sb st K:=
 fun M0 w0 a w Q cs q1 q2 hR hN=>⟨h1 M0 w0 a w Q cs q1 q2 hR hN,h2 M0 w0 a w Q cs q1 q2 hR hN⟩
def Uk (fl σ:List Nat):Bool:=fl.all fun i=>!σ.contains i
theorem Tl {σ:List Nat} (hrows:Ct st.hp fl=true) (hrows':Ct st.hp σ=true) (hlt:Dy st.pin fl=true) (hlt':Dy st.pin σ=true) (hdis:Uk fl σ=true) (h:Mq P o st K σ):Tj P o st K fl:=by
 intro M0 w0 a w N Q hR hN
 have live:∀ g,RelG g M0.P w0 st a w->∀ id (r:Row),st.hp[id]?=some (.r r)->r.cells ≠ []->Lv st.hp g (.ob id):=fun g hg id r q1 q2=>.inl ⟨r,q1,fun h0=>by
  rcases hg.hr.row id r q1 with ⟨_,z⟩ | ⟨z,_⟩
  ·exact q2 z
  ·exact z h0⟩
 have hR':=hR
 obtain ⟨g,hpp,hg⟩:=hR'
 refine h M0 w0 a w N Q hR fun st' a' w' h1 h2 h3=>hN st' a' w' h1 h2 fun id0 hid x hx=>?_
 have hsz:M0.g.γ (.ob id0)<w.heap.size:=(Array.getElem?_eq_some_iff.1 hx).1
 rw [h3.block _ hsz ?_];exact hx
 rintro ⟨id,hσ,he⟩
 obtain ⟨r0,q1,q2⟩:=D6 hrows hid
 obtain ⟨r1,q3,q4⟩:=D6 hrows' hσ
 rw [<- (hpp.2.2 id0 (Cb hlt hid)).1,<- (hpp.2.2 id (Cb hlt' hσ)).1] at he
 have:=hg.hr.inj _ _ (live g hg id0 r0 q1 q2) (live g hg id r1 q3 q4) he
 cases this
 have:=gAg.1 hdis id0 hid
 simp at this;exact this hσ
theorem UU {t:ST} (h:Le st t) (k:Fd P ops fl rest done sa sb t K):Fd P ops fl rest done sa sb st K:=fun M0 w0 a w Q cs h1 h2 hR hN=>k M0 w0 a w Q cs h1 h2 (h M0 w0 a w hR) hN
theorem AF {Q:Exit->ST->Prop} {id:Nat} {l:List Oper} (fl:List Nat) (p:PT) (hm:P.follows .mixedOrders=true) (hs:(Region.noSelect l.toArray && (Fc l.toArray p [] (Array.replicate l.toArray.size false) && p.len.beq l.toArray.size))=true)
  (hQ:∀ c st,¬ Q (.panic c) st) (h:Fd P l.toArray fl p [] [] [] { st with pin:=st.hp.length } (fun s=>st.pin<=s.pin/\s.pin<=s.hp.length/\Q .normal { s with pin:=st.pin })):AW P (.region id l.toArray true) st Q:=by
 intro M0 w0 a w hR
 simp only [U7,gA1,gBM] at hs
 refine wp_region_any hm ?_
 obtain ⟨g,hpp,hR'⟩:=hR.drew
 have hR2:Rel ⟨M0.P,g⟩ w0 { st with pin:=st.hp.length } a w.drew:=⟨g,⟨gBu _,Ext.refl _ _⟩,⟨hR'.hr,hR'.new,hR'.tm,hR'.n,hR'.df,hR'.fp⟩⟩
 have key:wpAny P .any l.toArray (fun e a' w'=>∃ st',Rel M0 w0 st' a' w'/\Q e st') p.len (Array.replicate l.toArray.size false) a w.drew:=GS _ _ _ _ (Cz (cs:=[]) hs.1 (fun c a d v w ⟨st',_,h⟩=>(hQ c st' h).elim) p [] _ a _ ?_ hs.2.1 (by simp) (by intro c hc;simp at hc) (h ⟨M0.P,g⟩ w0 a w.drew _ [] (by simp) (by simp) hR2 fun st' a' w' ⟨k1,k2,h1⟩ h2=>?_))
 ·rw [hs.2.2] at key
  exact key
 ·intro j o hj hlist
  exfalso
  simp [Array.getElem?_replicate] at hlist
  split at hlist <;> simp at hlist
 obtain ⟨g2,hpp2,hR3⟩:=h2
 exact ⟨{ st' with pin:=st.pin },⟨g2,⟨gBv k1 k2,hpp.2.trans (hpp2.2.le k1)⟩,⟨hR3.hr,hR3.new,hR3.tm,hR3.n,hR3.df,hR3.fp⟩⟩,h1⟩
end
end Go.Proofs.YtbnabodoabimnaaGreat
