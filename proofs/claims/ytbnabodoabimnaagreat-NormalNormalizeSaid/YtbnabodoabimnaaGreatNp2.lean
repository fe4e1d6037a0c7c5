/- Lemmas. -/
import Derived.Test.YtbnabodoabimnaaGreatG53
import Derived.Test.YtbnabodoabimnaaGreatG70
import Derived.Test.YtbnabodoabimnaaGreatMK
import Derived.Test.YtbnabodoabimnaaGreatZk
import Derived.Test.YtbnabodoabimnaaGreatMF
import Derived.Test.YtbnabodoabimnaaGreatG45
import Derived.Test.YtbnabodoabimnaaGreatTs1
import Derived.Test.YtbnabodoabimnaaGreatG43
import Derived.Test.YtbnabodoabimnaaGreatMD
import Derived.Shelf.SlSortCmp.Kit1
import Derived.Test.YtbnabodoabimnaaGreatMit
import Derived.Test.YtbnabodoabimnaaGreatShlf
import Derived.Shelf.SlSortCmp.NoneTotal
namespace Go.Proofs.YtbnabodoabimnaaGreat
set_option linter.unusedVariables false
set_option linter.unusedSimpArgs false
open Go.RowKit
structure PrI (R:List (List Ar)) (k:Nat) (p:List (List Nat) × List Xh):Prop where
 st:StI R p.1
 z:p.1[0]?=some (WL R 0)
 n:p.2.length=k
 le:k<=p.1.length
 to:∀ x∈p.2,∀ a∈x.1,0<=a.2/\a.2<(p.1.length:Int)
theorem Qn {R:List (List Ar)} {S:List (List Nat)} (h:StI R S) (m:Int) (X:List Nat):StI R (Xn R m X S).2/\S.length<=(Xn R m X S).2.length/\(∀ j,j<S.length->(Xn R m X S).2[j]?=S[j]?)/\∀ a∈(Xn R m X S).1.1,0<=a.2/\a.2<((Xn R m X S).2.length:Int):=by
 unfold Xn
 split
 ·exact ⟨h,gBu _,fun _ _=>rfl,by simp⟩
 have:=ArI.all h X (Xf R X)
 exact ⟨this.st,this.ge,this.pre,this.to⟩
theorem C0 {R:List (List Ar)} {m:Int} {k:Nat} {X:List Nat} (h:(B8 R m k).1[k]?=some X):B8 R m (k+1)=((Xn R m X (B8 R m k).1).2,(B8 R m k).2++[(Xn R m X (B8 R m k).1).1]):=by
 rw [B8,h]
theorem EK {R:List (List Ar)} {m:Int} {k:Nat} (h:(B8 R m k).1[k]?=none):B8 R m (k+1)=B8 R m k:=by
 rw [B8,h]
theorem PrI.zero (R:List (List Ar)) (m:Int):PrI R 0 (B8 R m 0):=⟨StI.zero R,rfl,rfl,by simp [B8],by simp [B8]⟩
theorem PrI.step {R:List (List Ar)} {m:Int} {k:Nat} (h:PrI R k (B8 R m k)) (hk:k<(B8 R m k).1.length):PrI R (k+1) (B8 R m (k+1)):=by
 have hg:=gE1 hk
 obtain ⟨q1,q2,q3,q4⟩:=Qn h.st m (B8 R m k).1[k]
 rw [C0 hg]
 refine ⟨q1,by rw [q3 0 (by omega)];exact h.z,by simp [h.n],by simp only;omega,fun x hx a ha=>?_⟩
 rcases gB0.1 hx with e | e
 ·have:=h.to x e a ha
  simp only
  omega
 rw [gBb.1 e] at ha
 exact q4 a ha
def PreE (R:List (List Ar)) (m:Int) (p:List (List Nat) × List Xh):Prop:=∃ K,B8 R m K=p/\p.1.length=K/\PrI R K p
theorem PreE.stay {R:List (List Ar)} {m:Int} {K:Nat} (h:(B8 R m K).1.length=K):∀ j,K<=j->B8 R m j=B8 R m K:=by
 intro j
 induction j with
 | zero=>
  intro hj
  have:K=0:=by omega
  rw [this]
 | succ j ih=>
  intro hj
  by_cases e:K=j+1
  ·rw [e]
  have h1:=ih (by omega)
  rw [EK (by rw [h1];exact gAB (by omega)),h1]
theorem PreE.uniq {R:List (List Ar)} {m:Int} {p q:List (List Nat) × List Xh} (h1:PreE R m p) (h2:PreE R m q):p=q:=by
 obtain ⟨K,e1,l1,_⟩:=h1
 obtain ⟨J,e2,l2,_⟩:=h2
 rw [<- e1,<- e2]
 rcases Nat.le_total K J with h | h
 ·exact (PreE.stay (by rw [e1];exact l1) J h).symm
 exact PreE.stay (by rw [e2];exact l2) K h
def Xo (x:Xh):List Tr:=[.l 2 (Aw x.1),.l 1 (Az x.2.1),.v (.bool x.2.2)]
def tN (L:List Xh):List Tr:=L.flatMap Xo
def Xp (x:Xh):List C:=[.t 2 (Aw x.1),.t 1 (Az x.2.1),.v (.bool x.2.2)]
def cN (L:List Xh):List C:=L.flatMap Xp
theorem Bz (L:List Xh):(tN L).length=L.length*3:=by
 induction L with
 | nil=>rfl
 | cons x l ih=>rw [show tN (x :: l)=Xo x++tN l from rfl,gAI,ih];simp [Xo];omega
theorem Im (L:List Xh):(cN L).length=L.length*3:=by
 induction L with
 | nil=>rfl
 | cons x l ih=>rw [show cN (x :: l)=Xp x++cN l from rfl,gAI,ih];simp [Xp];omega
theorem Nm:∀ (L:List Xh) (i:Nat),(tN L).drop (i*3)=tN (L.drop i)
 | _,0=>rfl
 | [],i+1=>by simp [tN]
 | x :: l,i+1=>by
  rw [show tN (x :: l)=Xo x++tN l from rfl,show (i+1)*3=(Xo x).length+i*3 from by simp [Xo];omega,<- List.drop_drop,List.drop_left,Nm l i]
  rfl
theorem LF {L:List Xh} {i:Nat} (h:i<L.length):((tN L).drop (i*3)).take 3=Xo L[i]:=by
 rw [Nm,gAp h]
 rfl
theorem Nn (L:List Xh):(tN L).take (L.length*3)=tN L:=gE7 (by rw [Bz];exact gBu _)
theorem Jh (L:List Xh) (x:Xh):cN L++Xp x=cN (L++[x]):=by simp [cN]
theorem Cw (n:Nat):n*3 / 3=n:=by omega
theorem Pu (L:List Xh):Fz (cN L) (tN L):=by
 induction L with
 | nil=>trivial
 | cons x l ih=>exact ⟨.inl rfl,.inl rfl,.inl rfl,ih⟩
set_option maxRecDepth 100000
attribute [local go_sem] lga C.pl C.one
theorem Np {l:List Int} (h:∀ x∈l,0<=x):(l.map Int.toNat).map Int.ofNat=l:=by
 rw [gAW]
 have:∀ x∈l,(Int.ofNat ∘ Int.toNat) x=id x:=fun x hx=>by
  have:=h x hx
  simp only [Function.comp_apply,Int.ofNat_eq_natCast,id_eq];omega
 rw [gAU this,List.map_id]
section
variable {P : Program} {o : Oper} {st : ST} {K : ST -> Prop} {t kt e : TypeId} {s : Ks} {zv : Value} {id : Nat} {kv : List (Value × C)} {key : Value}
def Xq (zv:Value) (ok:Bool):Option (Nat × C)->AV
 | some (_,c)=>match ok with
  | true=>.tup [.c c,.c (.v (.bool true))]
  | false=>.a (.c c)
 | none=>match ok with
  | true=>.tup [.c (.v zv),.c (.v (.bool false))]
  | false=>.a (.c (.v zv))
theorem BV {x ix:Operand} {ok:Bool} {r:Option (Nat × C)} (hu:P.underlying t=some (.map kt e)) (hK:KeyOk P kt s) (hze:(P.info? e).bind (·.zero)=some zv)
  (hd:Vc o st.n=true) (ho:o.op=.lookup t x ix ok) (hx:st.ev x=.a (.c (.m id))) (hm:st.hp[id]?=some (.m kv)) (hpl:kv.all (fun p=>p.2.pl)=true) (hkey:Ef (st.ev ix)=some key) (hfit:E0 s key=true) (hf:Bd s key kv 0=some r)
  (h:K (st.put o.dst (Xq zv ok r))):Stp P o st K:=by
 refine GR hd (fun g w ρ hr hR=>?_) h
 obtain ⟨dst,op,ty,pos,af,gd⟩:=o
 simp only at ho
 subst ho
 have hz1:∀ w,(zeroValue e).run P w=.ok zv w:=by
  intro w
  cases hi:P.info? e with
  | none=>rw [hi] at hze;cases hze
  | some i=>
   rw [hi] at hze
   simp only [Option.bind_some] at hze
   simp [zeroValue,CT hi,hze]
 obtain ⟨es,clock,m1,m2,m3,m4⟩:=(hr.mp id kv hm).map hf
 have e1:=hR x
 rw [hx] at e1
 obtain ⟨_,e1⟩:=e1
 have e2:=hR ix
 have e2:=JP hkey e2
 have hKv:KvOk kv es.toList:=⟨by simpa using m2,fun i p hp=>by
  obtain ⟨⟨e,f1,f2,_⟩,_⟩:=m3 i p hp
  exact ⟨e,by simpa using f1,f2⟩⟩
 obtain ⟨q,hq⟩:∃ q,Cr s key key=some q:=by
  unfold E0 at hfit
  split at hfit
  ·exact ⟨_,‹_›⟩
  cases hfit
 have hck:=hK.ck key q hq es.isEmpty w
 cases r with
 | some p=>
  obtain ⟨j,c⟩:=p
  obtain ⟨h1,h2⟩:=IV hK key w hKv hf
  obtain ⟨k',h3,h4⟩:=h2 j c rfl
  obtain ⟨⟨e,f1,f2,f3⟩,f4⟩:=m3 j _ h3
  have hc:CR g st.hp w c e.val:=by
   have:=gAg.1 hpl _ (gE9 h3)
   exact CellR.cr this f3
  have hfnd:VB es.toList 0 (some (j,c))=some (j,e.val):=by simp [VB,f1]
  rw [hfnd] at h1
  cases ok with
  | true=>
   refine ⟨.tuple #[e.val,.bool true],?_,[e.val,.bool true],rfl,rfl,fun i a ha=>?_⟩
   ·simp [execOp,Instr.lookup,run_underlying hu,e1,MapKept.run_getObj_map m1,e2,hck,h1]
   match i,ha with
   | 0,ha=>cases ha;exact ⟨_,rfl,hc⟩
   | 1,ha=>cases ha;exact ⟨_,rfl,rfl⟩
  | false=>
   refine ⟨e.val,?_,hc⟩
   simp [execOp,Instr.lookup,run_underlying hu,e1,MapKept.run_getObj_map m1,e2,hck,h1]
 | none=>
  obtain ⟨h1,_⟩:=IV hK key w hKv hf
  have hfnd:VB es.toList 0 none=none:=rfl
  rw [hfnd] at h1
  cases ok with
  | true=>
   refine ⟨.tuple #[zv,.bool false],?_,[zv,.bool false],rfl,rfl,fun i a ha=>?_⟩
   ·simp [execOp,Instr.lookup,run_underlying hu,e1,MapKept.run_getObj_map m1,e2,hck,h1,hz1 w]
   match i,ha with
   | 0,ha=>cases ha;exact ⟨_,rfl,rfl⟩
   | 1,ha=>cases ha;exact ⟨_,rfl,rfl⟩
  | false=>
   refine ⟨zv,?_,rfl⟩
   simp [execOp,Instr.lookup,run_underlying hu,e1,MapKept.run_getObj_map m1,e2,hck,h1,hz1 w]
theorem F4 {m kx v:Operand} {c:C} (hu:P.underlying t=some (.map kt e)) (hK:KeyOk P kt s) (hd:Vc o st.n=true) (ho:o.op=.mapUpdate t m kx v) (hm:st.ev m=.a (.c (.m id))) (hmm:st.hp[id]?=some (.m kv)) (hpl:kv.all (fun p=>p.2.pl)=true)
  (hkey:Ef (st.ev kx)=some key) (hfit:E0 s key=true) (hv:st.ev v=.a (.c c)) (hone:c.one=true) (hf:Bd s key kv 0=some none)
  (h:K ({ st with hp:=st.hp.set id (.m (kv++[(key,c)])) }.put o.dst .u)):Stp P o st K:=by
 obtain ⟨q,hq⟩:∃ q,Cr s key key=some q:=by
  unfold E0 at hfit
  split at hfit
  ·exact ⟨_,‹_›⟩
  cases hfit
 have hcell:∀ {g:Gh} {w:World} {u:Value},CR g st.hp w c u->CellR g st.hp w id 0 c u:=fun h=>F7 hone h
 have hcpl:c.pl=true:=by cases c <;> first | rfl | cases hone
 intro M0 w0 a w N Q hR hN
 obtain ⟨g,⟨hp1,hp2⟩,hR⟩:=hR
 have e1:=hR.ev m
 rw [hm] at e1
 obtain ⟨_,e1⟩:=e1
 have e2:=hR.ev kx
 have e2:=JP hkey e2
 have e3:=hR.ev v
 rw [hv] at e3
 obtain ⟨es,clock,m1,m2,m3,m4⟩:=(hR.hr.mp id kv hmm).map hf
 have hKv:KvOk kv es.toList:=⟨by simpa using m2,fun i p hp=>by
  obtain ⟨⟨e,f1,f2,_⟩,_⟩:=m3 i p hp
  exact ⟨e,by simpa using f1,f2⟩⟩
 obtain ⟨h1,_⟩:=IV hK key w hKv hf
 have hfnd:VB es.toList 0 none=none:=rfl
 rw [hfnd] at h1
 have hl:es.size=kv.length:=by simpa using hKv.1
 have r1:(Instr.mapUpdate t (.map (some (g.γ (.ob id)))) key (a.eval v)).run P w=.ok () { w with heap:=w.heap.setIfInBounds (g.γ (.ob id)) (.map (es.push { key:=key,val:=a.eval v,born:=clock }) (clock+1)) }:=by
  simp [Instr.mapUpdate,run_underlying hu,MapKept.run_getObj_map m1,hK.ck key q hq,h1,MapKept.run_setObj_map _ m1]
 have hset:=hR.mapset (es':=es.push { key:=key,val:=a.eval v,born:=clock }) (clock:=clock+1) (kv':=kv++[(key,c)]) hmm (by simp [hl]) (fun i p hp=>by
  rcases gBx i kv.length with hi | hi
  ·rw [gEa hi] at hp
   obtain ⟨⟨e',g1,g2,g3⟩,g4⟩:=m3 i p hp
   exact ⟨⟨e',by rw [Array.getElem?_push_lt (by omega)];rw [<- g1];simp [show i<es.size by omega],g2,g3⟩,g4⟩
  ·rw [gEb hi] at hp
   have hi':i=kv.length:=by
    have:=(List.getElem?_eq_some_iff.1 hp).1
    simp at this
    omega
   subst hi'
   simp at hp
   subst hp
   exact ⟨⟨{ key:=key,val:=a.eval v,born:=clock },by rw [<- hl];simp,rfl,hcell e3⟩,fun k' cs e=>by
    simp only at e
    rw [e] at hcpl;cases hcpl⟩) (m4.push _ _)
 have hrun:(execOp a.eval o).run P w=.ok .skip { w with heap:=w.heap.setIfInBounds (g.γ (.ob id)) (.map (es.push { key:=key,val:=a.eval v,born:=clock }) (clock+1)) }:=by
  unfold execOp
  simp [ho,e1,e2,r1]
 unfold Oper.wp
 rw [hrun]
 exact hN _ _ _ h ⟨g,⟨by cases o.dst <;> (simp [ST.put];omega),by cases o.dst <;> exact hp2⟩,hset.put (B5 hd) trivial⟩
theorem RP {src d el:TypeId} {x:Operand} {n q:Nat} {sl:Bool} {cells:List C} {ns:List Int} (hu1:P.underlying src=some (.slice el)) (hu2:P.underlying d=some .string) (hu3:P.underlying el=some (.int .u8))
  (hd:Vc o st.n=true) (ho:o.op=.convert src d x) (hx:st.ev x=.a (.c (.s id n))) (hrow':st.hp[id]?=some (.r ⟨q,1,sl,cells⟩)) (hns:ns.length=n) (e1:cells.take n=ns.map (fun m=>C.v (.int .u8 m)))
  (h:K (st.put o.dst (.a (.c (.v (.string ⟨⟨ns.map fun (m:Int)=>UInt8.ofNat m.toNat⟩⟩)))))):Stp P o st K:=by
 refine GR hd (fun g w ρ hr hR=>?_) h
 obtain ⟨dst,op,ty,pos,af,gd⟩:=o
 simp only at ho
 subst ho
 have e2:=hR x
 rw [hx] at e2
 obtain ⟨_,hn,A,e2,e3,_⟩:=e2
 refine ⟨.string ⟨⟨ns.map fun (m:Int)=>UInt8.ofNat m.toNat⟩⟩,?_,rfl⟩
 have hconv:(Conv.bytesToString (.slice A n (g.κ id))).run P w=.ok (.string ⟨⟨ns.map fun (m:Int)=>UInt8.ofNat m.toNat⟩⟩) w:=by
  rcases hr.row id _ hrow' with ⟨h0,h2⟩ | ⟨h0,_,arr,ha,hla,hs,_,hcells⟩
  ·have hn0:n=0:=by omega
   subst hn0
   have:ns=[]:=gAt hns
   subst this
   cases A with
   | none=>simp [Conv.bytesToString,ByteArray.empty,ByteArray.emptyWithCapacity];rfl
   | some a=>simp [Conv.bytesToString,loadCells,loadCellsFrom,ByteArray.empty,ByteArray.emptyWithCapacity];rfl
  rw [e3 h0]
  have hload:(loadCells ⟨g.γ (.ob id),0,none⟩ n).run P w=.ok (ns.map (Value.int .u8)).toArray w:=by
   unfold loadCells
   rw [BE _ _ _ 0 (ns.map (Value.int .u8)) #[] (by simpa using hns) (fun q u hq=>?_)]
   ·simp
   rw [cell_of_row _ _ _ _ _ _ ha]
   rw [gAC,gBG] at hq
   obtain ⟨m,hm,rfl⟩:=hq
   have hlt:q<n:=by rw [<- hns];exact (List.getElem?_eq_some_iff.1 hm).1
   have hcq:cells[q]?=some (.v (.int .u8 m)):=by
    have:(cells.take n)[q]?=some (.v (.int .u8 m)):=by rw [e1];simp [hm]
    rw [gAF,if_pos hlt] at this
    exact this
   obtain ⟨u,f1,f2⟩:=hcells q _ hcq
   have f2:u=.int .u8 m:=f2
   subst f2
   simpa using f1
  simp only [Conv.bytesToString,Sem.run_bind,hload,Result.andThen_ok]
  rw [Mp (fun n s w=>by simp)]
  simp [ByteArray.empty,ByteArray.emptyWithCapacity]
  rfl
 simp [execOp,convert,run_underlying hu1,run_underlying hu2,e2,run_underlying hu3,hconv]
end
def kb (n:Int):List Int:=[IntKind.u8.wrap (n.fdiv (2 ^ (24:Int).toNat)),IntKind.u8.wrap (n.fdiv (2 ^ (16:Int).toNat)),IntKind.u8.wrap (n.fdiv (2 ^ (8:Int).toNat)),IntKind.u8.wrap n]
def Ji (xs:List Int):List Int:=xs.flatMap kb
def Dg (xs:List Int):Value:=.string ⟨⟨(Ji xs).map fun (m:Int)=>UInt8.ofNat m.toNat⟩⟩
def Xr (l:List Int):List C:=l.map fun m=>C.v (.int .u8 m)
theorem Jj (l:List Int):(Xr l).length=l.length:=by simp [Xr]
theorem RQ (f:List Nat) (l:List Int):(Xr l).map (C.ren f)=Xr l:=by simp [Xr,C.ren,gAb]
theorem CW (xs:List Int):(Ji xs).length=xs.length*4:=by
 unfold Ji
 induction xs with
 | nil=>rfl
 | cons x r ih=>rw [gAu,gAI,ih,gAJ];simp [kb];omega
theorem Nq (xs:List Int) (x:Int):(Xr (Ji xs)).take (xs.length*4)++[C.v (.int .u8 (IntKind.u8.wrap (x.fdiv (2 ^ (24:Int).toNat)))),C.v (.int .u8 (IntKind.u8.wrap (x.fdiv (2 ^ (16:Int).toNat)))),C.v (.int .u8 (IntKind.u8.wrap (x.fdiv (2 ^ (8:Int).toNat)))),C.v (.int .u8 (IntKind.u8.wrap x))]=Xr (Ji (xs++[x])):=by
 rw [gE7 (by rw [Jj,CW];exact gBu _)]
 unfold Ji Xr
 simp [kb]
theorem Tz (n:Int):IntKind.u8.wrap n=n % 256:=by simp [IntKind.wrap,IntKind.signed,IntKind.bits]
theorem TA {x y:Int} (hx:0<=x/\x<2147483648) (hy:0<=y/\y<2147483648) (h:kb x=kb y):x=y:=by
 unfold kb at h
 simp only [gAl,and_true,Tz] at h
 obtain ⟨h1,h2,h3,h4⟩:=h
 have e:∀ z:Int,z.fdiv (2 ^ (24:Int).toNat)=z / 16777216/\z.fdiv (2 ^ (16:Int).toNat)=z / 65536/\z.fdiv (2 ^ (8:Int).toNat)=z / 256:=fun z=>⟨Int.fdiv_eq_ediv_of_nonneg z (by decide),Int.fdiv_eq_ediv_of_nonneg z (by decide),Int.fdiv_eq_ediv_of_nonneg z (by decide)⟩
 rw [(e x).1,(e y).1] at h1
 rw [(e x).2.1,(e y).2.1] at h2
 rw [(e x).2.2,(e y).2.2] at h3
 omega
theorem TB (x:Int):∀ m∈kb x,0<=m/\m<256:=by
 intro m hm
 unfold kb at hm
 simp only [gB2,List.not_mem_nil,or_false,Tz] at hm
 rcases hm with rfl | rfl | rfl | rfl <;> omega
theorem KF:∀ {xs ys:List Int},(∀ x∈xs,0<=x/\x<2147483648)->(∀ y∈ys,0<=y/\y<2147483648)->Ji xs=Ji ys->xs=ys
 | [],[],_,_,_=>rfl
 | [],y :: ys,_,_,h=>by have:=congrArg List.length h;rw [CW,CW] at this;simp at this
 | x :: xs,[],_,_,h=>by have:=congrArg List.length h;rw [CW,CW] at this;simp at this
 | x :: xs,y :: ys,hx,hy,h=>by
  have h1:kb x++Ji xs=kb y++Ji ys:=h
  obtain ⟨h2,h3⟩:=List.append_inj h1 rfl
  rw [TA (hx x (by simp)) (hy y (by simp)) h2,KF (fun a ha=>hx a (gEf _ ha)) (fun a ha=>hy a (gEf _ ha)) h3]
theorem KG (xs:List Int):∀ m∈Ji xs,0<=m/\m<256:=by
 intro m hm
 obtain ⟨x,_,hx⟩:=gB5.1 hm
 exact TB x m hx
theorem GD:∀ {l m:List Int},(∀ x∈l,0<=x/\x<256)->(∀ x∈m,0<=x/\x<256)->(l.map fun (m:Int)=>UInt8.ofNat m.toNat)=(m.map fun (m:Int)=>UInt8.ofNat m.toNat)->l=m
 | [],[],_,_,_=>rfl
 | [],y :: ys,_,_,h=>by simp at h
 | x :: xs,[],_,_,h=>by simp at h
 | x :: xs,y :: ys,hx,hy,h=>by
  simp only [gAV,gAl] at h
  have h1:=hx x (by simp)
  have h2:=hy y (by simp)
  have h3:=congrArg UInt8.toNat h.1
  simp only [UInt8.toNat_ofNat'] at h3
  have:x=y:=by omega
  rw [this,GD (fun a ha=>hx a (gEf _ ha)) (fun a ha=>hy a (gEf _ ha)) h.2]
theorem KH {xs ys:List Int} (hx:∀ x∈xs,0<=x/\x<2147483648) (hy:∀ y∈ys,0<=y/\y<2147483648) (h:Dg xs=Dg ys):xs=ys:=by
 unfold Dg at h
 injection h with h
 injection h with h
 injection h with h
 exact KF hx hy (GD (KG _) (KG _) h)
set_option maxHeartbeats 1000000 in
theorem KI (xs:List Int) (hn:xs.length<=100000000):FC Tryz.prog 109 [Ap xs] [] (fun r o=>o=[]/\r=.a (.c (.v (Dg xs)))):=by
 refine A7 Tryz.func109 rfl (by rw [Tryz.ntmps109];simp) ?_
 rw [Tryz.ntmps109]
 simp only [B4,Ap]
 (refine aj @A2 ?_;(repeat clear hK K);repeat refine kq fun K hK=>?_)
 refine Ab (fun k:Nat=>{ tm:=[(3,.a (.c (.s 0 (k*4)))),(10,.a (.c (.t 1 (Ac xs)))),(11,.i xs.length),(12,.i k)],hp:=[.r ⟨5,1,false,Xr (Ji (xs.take k))⟩],n:=33,pin:=0 }) (fun k=>k<=xs.length) (fun k=>xs.length - k) 0 ?_ ?_ ?_
 ·omega
 ·simp only [show Int.toNat 0=0 from rfl,List.replicate_zero,gBq,Ji,List.flatMap_nil,Xr,gAX,Nat.zero_mul]
  exact W5
 rintro k hk K hK
 have htl:(xs.take k).length=k:=by simp;omega
 by_cases hlt:k<xs.length
 ·have d1:=Yp hlt
  have hg:=Al (gE1 hlt)
  have hp:=Nq (xs.take k) xs[k]
  rw [htl,<- gE8 hlt] at hp
  (refine aj @d1 ?_;repeat refine kq fun K hK=>?_)
  refine W2 ?_
  (refine aj (an @hg (an @A2 (an @Jj (an @CW (an @htl @hp))))) ?_;(repeat clear hK K);repeat refine kq fun K hK=>?_)
  refine W4 ?_
  refine hK _ (k+1) (by omega) (by omega) ?_
  refine Le.trans (A8 [2] rfl rfl) ?_
  (try simp only [Yn,go_sem])
  (try simp only [RQ])
  have e4:k*4+4=(k+1)*4:=by omega
  (try simp only [e4])
  exact W5
 have d1:=Yq hlt
 have hke:xs.take k=xs:=gE7 (by omega)
 have hkl:k=xs.length:=by omega
 rw [hke]
 (refine aj @d1 ?_;repeat refine kq fun K hK=>?_)
 refine W3 ?_
 (refine VZ ?_;repeat clear hK K)
 (refine ai ?_;repeat refine kq fun K hK=>?_)
 (refine Aj rfl ?_;intro K1 hK1;refine RP (id:=0) (n:=k*4) (q:=5) (sl:=false) (cells:=Xr (Ji xs)) (ns:=Ji xs) Tryz.underlying151 Tryz.underlying9 Tryz.underlying5 rfl rfl (by simp only [go_sem]) rfl (by rw [CW];omega) (by rw [hkl,gE7 (by rw [Jj,CW];exact gBu _)];rfl) ?_;simp only [go_sem];refine hK1 _ ?_;clear hK1 K1)
 (refine ai ?_;(repeat clear hK K);repeat refine kq fun K hK=>?_)
 ((try refine Ak ?_);(try simp only [Ad,Ay]);refine AB (A8 [] rfl rfl) ?_;(try simp only [Yn,go_sem]);((try refine Ak ?_);(try refine Aa ?_);(try simp only [Ad,Ay]);refine AN (by first | exact .inl rfl | exact .inr rfl) rfl ?_;simp only [Vm,Cq,Ck,Cx,Tryz.results109,go_sem,true_and,and_true,Dg]))
attribute [local go_sem] gAV gAX gBp gBq gAs gAr C.pl C.one gAf gAh gA3 gBB gAd
theorem TC (L:List Int) (i:Nat) (x:Int):(A9 L).set i (.v (.int .i64 x))=A9 (L.set i x):=by simp [A9,gAY]
theorem G4:∀ (l:List Int) (p:Int),(p :: l).Pairwise (·<=·)->W9 (p :: Cf p l)
 | [],p,_=>by simp [Cf,W9]
 | y :: ys,p,h=>by
  have h1:=gBe.1 h
  have h2:=gBe.1 h1.2
  unfold Cf
  split
  ·rename_i e
   subst e
   exact G4 ys _ h1.2
  ·rename_i e
   have hy:=G4 ys y h1.2
   have hpy:=h1.1 y gB3
   refine gBe.2 ⟨fun a ha=>?_,hy⟩
   rcases gB2.1 ha with rfl | ha
   ·omega
   ·have:=(gBe.1 hy).1 a ha
    omega
theorem Pv {l:List Int} (h:l.Pairwise (·<=·)):W9 (D3 l):=by
 cases l with
 | nil=>simp [D3,W9]
 | cons x xs=>exact G4 xs x h
set_option maxHeartbeats 1000000 in
theorem Io (L:List Int) (hn:L.length<=100000000):FC Tryz.prog 136 [.a (.c (.s 0 L.length))] [.r ⟨3,1,true,A9 L⟩]
  (fun r o=>r=.a (.c (.s 0 (D3 L).length))/\∃ rest us,Fz rest us/\(L=[]->rest=[])/\o=[.r ⟨3,1,true,A9 (D3 L)++rest⟩]):=by
 refine A7 Tryz.func136 rfl (by rw [Tryz.ntmps136];simp) ?_
 rw [Tryz.ntmps136]
 simp only [B4]
 (refine ai ?_;(repeat clear hK K);repeat refine kq fun K hK=>?_)
 (refine Ah ?_;intro X Y hX hY;simp only [go_sem])
 refine ⟨fun h=>hX ?_,fun h=>hY ?_⟩
 ·clear hX hY X Y
  (refine ai ?_;(repeat clear hK K);repeat refine kq fun K hK=>?_)
  refine W8 Tryz.results136 ?_
  have hc:D3 L=L:=by
   match L,h with
   | [],_=>rfl
   | [x],_=>rfl
   | _ :: _ :: _,h=>simp at h;omega
  rw [hc]
  exact ⟨rfl,[],[],trivial,fun _=>rfl,by simp⟩
 clear hX hY X Y
 have h2:2<=L.length:=by simp at h;omega
 clear h
 (refine ai ?_;(repeat clear hK K);repeat refine kq fun K hK=>?_)
 refine Ab (fun k:Nat=>{ tm:=[(0,.a (.c (.s 0 L.length))),(3,.i (k+1:Nat))],hp:=[.r ⟨3,1,true,A9 L⟩],n:=61,pin:=1 }) (fun k=>k+1<=L.length/\D3 L=L.take (k+1)++Cf (L.getD k 0) (L.drop (k+1))) (fun k=>L.length - k) 0 ?_ ?_ ?_
 ·refine ⟨by omega,?_⟩
  match L,h2 with
  | x :: r,_=>simp [D3]
 ·exact W5
 rintro k ⟨hk,he⟩ K hK
 (refine ai ?_;(repeat clear hK K);repeat refine kq fun K hK=>?_)
 (refine Ah ?_;intro X Y hX hY;simp only [go_sem])
 refine ⟨fun h=>hX ?_,fun h=>hY ?_⟩
 rotate_left
 ·have hge:k+1=L.length:=by simp at h;omega
  clear hX hY X Y
  (refine VZ ?_;repeat clear hK K)
  (refine ai ?_;(repeat clear hK K);repeat refine kq fun K hK=>?_)
  refine W8 Tryz.results136 ?_
  have hc:D3 L=L:=by rw [he,hge];simp [Cf]
  rw [hc]
  exact ⟨rfl,[],[],trivial,fun _=>rfl,by simp⟩
 have hlt:k+1<L.length:=by simp at h;omega
 have hlt0:k<L.length:=by omega
 clear hX hY X Y h
 have e1:((k+1:Nat):Int) - 1=(k:Int):=by omega
 have g0:L.getD k 0=L[k]:=by simp [List.getD,hlt0]
 rw [g0] at he
 have hst:=DU he (gBu _) (gE1 hlt)
 (refine ai ?_;repeat refine kq fun K hK=>?_)
 refine Yr 9 [(0,0),(1,0),(2,0),(3,1),(4,0),(5,0),(6,0),(7,0),(8,1),(9,2)] ?_
 (refine VS (an @e1 (an (At (gE1 hlt)) (an (At (gE1 hlt0)) @A4))) ?_;repeat clear hK K)
 (refine Ah ?_;intro X Y hX hY;simp only [go_sem])
 refine ⟨fun h=>hX ?_,fun h=>hY ?_⟩
 rotate_left
 ·clear hX hY X Y
  have hne:L[k+1] ≠ L[k]:=by simpa using h
  clear h
  (refine ai ?_;(repeat clear hK K);repeat refine kq fun K hK=>?_)
  refine W4 ?_
  refine hK _ (k+1) ⟨hlt,?_⟩ (by omega) ?_
  rotate_left
  ·exact W5
  have h1:=hst.2.1 hne
  rw [hst.2.2 hne rfl] at h1
  have:L.getD (k+1) 0=L[k+1]:=by simp [List.getD,hlt]
  rw [this]
  exact h1
 clear hX hY X Y
 have heq:L[k+1]=L[k]:=by simpa using h
 clear h
 have hI:=hst.1 heq
 clear hst he
 (refine ai ?_;(repeat clear hK K);repeat refine kq fun K hK=>?_)
 refine Ab (fun q:Nat × Nat × List Int=>{ tm:=[(0,.a (.c (.s 0 L.length))),(3,.i q.1),(4,.a (.c (.w 0 (k+1) (L.length - (k+1)) 1))),(5,.i (q.2.1+1:Nat))],hp:=[.r ⟨3,1,true,A9 q.2.2⟩],n:=61,pin:=1 })
  (fun q=>q.2.2.length=L.length/\(∀ x∈q.2.2,x∈L)/\q.1<=k+1+q.2.1/\k+2+q.2.1<=L.length/\D3 L=q.2.2.take q.1++Cf (q.2.2.getD (k+1+q.2.1) 0) (q.2.2.drop (k+2+q.2.1))) (fun q=>L.length - q.2.1) (k+1,0,L) ?_ ?_ ?_
 ·refine ⟨rfl,fun x h=>h,by simp,by simp only;omega,?_⟩
  have:L.getD (k+1) 0=L[k+1]:=by simp [List.getD,hlt]
  simp only [gBr,this]
  exact hI
 ·exact W5
 clear hI
 rintro ⟨m,j,ys⟩ ⟨hyl,hys,hm,hj,he⟩ K hK
 simp only at hyl hys hm hj he
 (refine ai ?_;(repeat clear hK K);repeat refine kq fun K hK=>?_)
 (refine Ah ?_;intro X Y hX hY;simp only [go_sem])
 refine ⟨fun h=>hX ?_,fun h=>hY ?_⟩
 rotate_left
 ·clear hX hY X Y
  (refine VZ ?_;repeat clear hK K)
  have hend:ys.length<=k+2+j:=by simp at h;omega
  have hfin:=Ib he hend
  have hm2:m<L.length:=by omega
  (refine ai ?_;(repeat clear hK K);repeat refine kq fun K hK=>?_)
  refine Aj rfl ?_;intro K1 hK1
  refine HW (n:=L.length - m) (off:=m) (k:=1) (id:=0) rfl rfl Tryz.underlying37 ty3 (by simp only [go_sem]) rfl (by omega) rfl rfl (by simp only [A4];omega) ?_
  intro zs hz1 hz2
  have hset:De (A9 ys) m zs=A9 (ys.take m)++zs:=by
   rw [Hc _ _ _ (by rw [A4];omega),BF]
  simp only [hset,gBj,go_sem]
  refine hK1 _ ?_;clear hK1 K1
  (refine ai ?_;(repeat clear hK K);repeat refine kq fun K hK=>?_)
  refine W8 Tryz.results136 ?_
  have hc:D3 L=ys.take m:=hfin
  rw [hc]
  refine ⟨by rw [gAS,gBy (by omega)],zs,zs.map fun _=>Tr.v (.int .i64 0),?_,fun h0=>by rw [h0] at h2;simp at h2,rfl⟩
  have:zs=zs.map id:=by simp
  rw [this,gAW]
  exact Fz.map fun c hc=>by
   have:=hz2 c hc
   simp at this
   subst this
   exact .inl rfl
 have hlt:k+1+(j+1)<ys.length:=by simp at h;omega
 have hlt0:k+1+j<ys.length:=by omega
 have hw:((j+1:Nat):Int)<((L.length - (k+1):Nat):Int):=by omega
 have hw0:(j:Int)<((L.length - (k+1):Nat):Int):=by omega
 clear hX hY X Y h
 have e1:((j+1:Nat):Int) - 1=(j:Int):=by omega
 have g0:ys.getD (k+1+j) 0=ys[k+1+j]:=by simp [List.getD,hlt0]
 rw [g0,show k+2+j=k+1+(j+1) from by omega] at he
 have hst:=DU he (by omega) (gE1 hlt)
 (refine ai ?_;repeat refine kq fun K hK=>?_)
 have hk1:k+1+(j+1)=k+1+(j+1):=rfl
 refine Yr 9 [(0,0),(1,0),(2,0),(3,1),(4,0),(5,0),(6,0),(7,0),(8,1),(9,2)] ?_
 (refine VS (an @e1 (an (At (gE1 hlt)) (an (At (gE1 hlt0)) @A4))) ?_;repeat clear hK K)
 (refine Ah ?_;intro X Y hX hY;simp only [go_sem])
 refine ⟨fun h=>hX ?_,fun h=>hY ?_⟩
 rotate_left
 ·clear hX hY X Y
  have heq:ys[k+1+(j+1)]=ys[k+1+j]:=by simpa using h
  clear h
  (refine ai ?_;(repeat clear hK K);repeat refine kq fun K hK=>?_)
  refine W4 ?_
  refine hK _ (m,j+1,ys) ⟨hyl,hys,by simp only;omega,by simp only;omega,?_⟩ (by simp only;omega) ?_
  rotate_left
  ·exact W5
  have h1:=hst.1 heq
  have:ys.getD (k+1+(j+1)) 0=ys[k+1+(j+1)]:=by simp [List.getD,hlt]
  simp only
  rw [this,show k+2+(j+1)=k+1+(j+1)+1 from by omega]
  exact h1
 clear hX hY X Y
 have hne:ys[k+1+(j+1)] ≠ ys[k+1+j]:=by simpa using h
 clear h
 have hm1:m<ys.length:=by omega
 (refine Zk (an (At (gE1 hlt)) (an @A4 @TC)) ?_;(repeat clear hK K);repeat refine kq fun K hK=>?_)
 refine W4 ?_
 have hst2:=hst.2.1 hne
 have hpp:(ys.set m ys[k+1+(j+1)]).getD (k+1+(j+1)) 0=ys[k+1+(j+1)]:=by
  rw [List.getD,gE5 (by omega),gE1 hlt];rfl
 refine hK _ (m+1,j+1,ys.set m ys[k+1+(j+1)]) ⟨by simp [hyl],?_,by simp only;omega,by simp only;omega,?_⟩ (by simp only;omega) ?_
 rotate_left
 ·simp only
  rw [hpp,show k+2+(j+1)=k+1+(j+1)+1 from by omega]
  exact hst2
 ·exact W5
 intro x hx
 rcases gB9 hx with hx | rfl
 ·exact hys x hx
 exact hys _ (gE6 hlt)

theorem Ur {R:List (List Ar)} {X:List Nat} {L':List Int} (hp:L'.Perm (Xe R X)) (hs:L'.Pairwise (fun a b=>a<=b)):D3 L'=Xf R X:=by
 refine GV (Pv hs) (Hm R X) fun a=>?_
 rw [Kl,hp.mem_iff]
 unfold Xf Uq
 rw [Hl]
 simp
theorem RT (R:List (List Ar)) (X:List Nat) (s:Nat):Xe R (X++[s])=Xe R X++Xd (R.getD s []):=by simp [Xe]
theorem Pw {row:List Ar} {k:Nat} (h:k<row.length):Xd (row.take (k+1))=Xd (row.take k)++(if row[k].1 != 0 then [row[k].1] else []):=by
 unfold Xd
 rw [gE8 h,List.filter_append,gAT]
 congr 1
 cases e:(row[k].1 != 0) <;> simp [e]
theorem Nr (row:List Ar):(Xd row).length<=row.length:=by
 unfold Xd
 rw [gAN]
 exact gAM _ _
theorem Jk {R:List (List Ar)} {n:Nat} (hr:∀ r∈R,r.length<=n):∀ X:List Nat,(Xe R X).length<=X.length*n
 | []=>by simp [Xe]
 | s :: X=>by
  have ih:=Jk hr X
  rw [show Xe R (s :: X)=Xd (R.getD s [])++Xe R X from rfl,gAI,gAJ,Nat.succ_mul]
  have h1:=Nr (R.getD s [])
  have h2:(R.getD s []).length<=n:=by
   rcases gBx s R.length with h | h
   ·rw [gE2,gE1 h];exact hr _ (gE6 h)
   ·rw [gE2,gAB h];exact gBE _
  omega
theorem Qo (q:List Int) (ys:List C) (f:C->C) (hf:(A9 q).map f=A9 q):((A9 q++ys).map f).take q.length=A9 q:=by
 rw [gAT,hf,gBm (by rw [A4];exact gBu _),gE7 (by rw [A4];exact gBu _)]
theorem UJ (L:List Int) (x:Int) {n:Nat} (h:L.length=n):(A9 L).take n++[C.v (.int .i64 x)]=A9 (L++[x]):=by
 subst h
 rw [gE7 (by rw [A4];exact gBu _)];simp [A9]
set_option maxHeartbeats 4000000 in
theorem TD (R:List (List Ar)) (Z:List Nat) (hlo:BZ R=true) (hZ:∀ s∈Z,s<R.length) (hn:R.length<=1000000) (hZn:Z.length<=1000) (hr:∀ r∈R,r.length<=10000) (rd:Int) (seen:List Int) (hs:seen.length=R.length):
  FC Tryz.prog 113 [.a (.c (.p 0 0)),.a (.c (.t 1 (Ac (Z.map Int.ofNat))))] [Wy R 1 rd,.r ⟨3,1,true,A9 seen⟩] (fun r o=>o=[Wy R 1 rd,.r ⟨3,1,true,A9 seen⟩]/\r=Ap (Xf R Z)):=by
 refine A7 Tryz.func113 rfl (by rw [Tryz.ntmps113];simp) ?_
 rw [Tryz.ntmps113]
 have hbd:=(gE4 hlo).2.2.2
 simp only [B4,Wy]
 have hZl:(Z.map Int.ofNat).length=Z.length:=gAN _
 (refine aj (an @A2 @hZl) ?_;(repeat clear hK K);repeat refine kq fun K hK=>?_)
 refine As (BJ 5 3 1 ?_) ?_
 ·simp only [go_sem]
 refine Ab (fun i:Nat=>{ tm:=[(0,.a (.c (.p 0 0))),(5,.a (.c (.s 2 (Xe R (Z.take i)).length))),(10,.a (.c (.t 1 (Ac (Z.map Int.ofNat))))),(11,.i Z.length),(12,.i i)],hp:=[Wy R 1 rd,.r ⟨3,1,true,A9 seen⟩,.r ⟨3,1,true,A9 (Xe R (Z.take i))⟩],n:=43,pin:=2 }) (fun i=>i<=Z.length) (fun i=>Z.length - i) 0 ?_ ?_ ?_
 ·omega
 ·simp only [gBq,Xe,List.flatMap_nil,A9,gAX,gAO,Wy]
  exact W5
 rintro i hi K hK
 simp only [Wy]
 by_cases hlt:i<Z.length
 rotate_left
 ·have d1:=Yq hlt
  have hke:Z.take i=Z:=gE7 (by omega)
  have hol:=Jk hr Z
  have hol2:(Xe R Z).length<=10000000:=gBv hol (gBv (gBz hZn (gBu _)) (by omega))
  have hof:=fun (L':List Int) (h1:L'.Perm (Xe R Z)) h2=>Ur h1 h2
  rw [hke]
  obtain ⟨O,hO⟩:∃ O,Xe R Z=O:=⟨_,rfl⟩
  rw [hO] at hof hol2 ⊢
  (refine aj @d1 ?_;repeat refine kq fun K hK=>?_)
  refine W3 ?_
  (refine VZ ?_;repeat clear hK K)
  (refine ai ?_;(repeat clear hK K);repeat refine kq fun K hK=>?_)
  (refine Aj rfl ?_;intro K1 hK1;refine Ax (ids:=[]) [2] (He O (by omega)) rfl rfl (by simp only [go_sem]) (by first | assumption | kernel_rfl) rfl rfl (by (simp only [gAT,gAk,go_sem]) <;> rfl) (by (simp only [Vk,A5,go_sem]) <;> rfl) ?_ ?_)
  ·rintro _ _ ⟨rfl,L',_,_,rfl⟩;rfl
  rintro _ _ ⟨rfl,L',hperm,hsort,rfl⟩
  (simp only [Ap,AC,AL,Ys,go_sem];refine hK1 _ ?_;clear hK1 K1)
  have hL2:=hperm.length_eq
  have hq:=hof L' hperm hsort
  rw [<- hL2]
  (refine ai ?_;(repeat clear hK K);repeat refine kq fun K hK=>?_)
  (refine Aj rfl ?_;intro K1 hK1;refine Ax (ids:=[]) [2] (Io L' (by omega)) rfl rfl (by simp only [go_sem]) (by first | assumption | kernel_rfl) rfl rfl (by (simp only [gAT,gAk,go_sem]) <;> rfl) (by (simp only [Vk,A5,go_sem]) <;> rfl) ?_ ?_)
  ·rintro _ _ ⟨rfl,rest,us,_,_,rfl⟩;rfl
  rintro _ _ ⟨rfl,rest,us,hz,hr0,rfl⟩
  (simp only [Ap,AC,AL,Ys,go_sem];refine hK1 _ ?_;clear hK1 K1)
  refine Bw (Rq 2 (D3 L').length rfl ?_) ?_
  ·intro _ h
   rw [Qo _ _ _ (AL _ _)] at h
   have hq0:D3 L'=[]:=by
    have:=congrArg List.length h
    rw [A4] at this
    exact gAL.1 this
   have hL0:L'=[]:=by
    cases L' with
    | nil=>rfl
    | cons x xs=>simp [D3] at hq0
   rw [hr0 hL0,hq0];rfl
  simp only [Qo _ _ _ (AL _ _),go_sem]
  have hfo:(if (D3 L').length<=(Ac (D3 L')).length then C.t 1 ((Ac (D3 L')).take (D3 L').length) else C.u)=C.t 1 (Ac (Xf R Z)):=by
   rw [if_pos (by rw [A2];exact gBu _),gE7 (by rw [A2];exact gBu _),hq]
  (refine Bw (B6 (r:=⟨3,1,true,A9 (D3 L')⟩) 2 (Ac (D3 L')) rfl (ES _) (show 0<(1:Nat) by omega)) ?_;simp only [ST.frz,A0.frz,AV.frz,C.frz,gBu,gBj,gBi,go_sem,hfo])
  (refine ai ?_;(repeat clear hK K);repeat refine kq fun K hK=>?_)
  ((try refine Ak ?_);(try simp only [Ad,Ay]);refine AB (A8 [0,1] rfl rfl) ?_;(try simp only [Yn,go_sem]);((try refine Ak ?_);(try refine Aa ?_);(try simp only [Ad,Ay]);refine AN (by first | exact .inl rfl | exact .inr rfl) rfl ?_;simp only [Vm,Cq,Ck,Cx,Tryz.results113,go_sem,true_and,and_true,Wy,A5,Ap]))
 have d1:=Yp hlt
 have gZ:(Ac (Z.map Int.ofNat))[i]?=some (.v (.int .i64 (Z[i]:Nat))):=Al (by rw [gAC,gE1 hlt];rfl)
 have hsl:=hZ _ (gE6 hlt)
 have hTk:Z.take (i+1)=Z.take i++[Z[i]]:=gE8 hlt
 have hsn:=RT R (Z.take i) Z[i]
 rw [<- hTk] at hsn
 have hol:=Jk hr (Z.take i)
 rw [gAS] at hol
 generalize Z[i]=u at *
 have hgR:=Ao (gE1 hsl)
 have hRu:R.getD u []=R[u]:=by rw [gE2,gE1 hsl];rfl
 have hrl:=hr _ (gE6 hsl)
 rw [hRu] at hsn
 generalize hrr:R[u]=row at *
 have hol2:(Xe R (Z.take i)).length<=10000000:=gBv hol (gBv (gBz (show min i Z.length<=1000 by omega) (gBu _)) (by omega))
 generalize Xe R (Z.take i)=O at *
 (refine aj @d1 ?_;repeat refine kq fun K hK=>?_)
 refine W2 ?_
 (refine aj (an @gZ (an @A2 (an @hZl (an @A6 (an @hgR (an @A3 @Aq)))))) ?_;(repeat clear hK K);repeat refine kq fun K hK=>?_)
 refine Ab (fun k:Nat=>{ tm:=[(0,.a (.c (.p 0 0))),(5,.a (.c (.s 2 (O++Xd (row.take k)).length))),(10,.a (.c (.t 1 (Ac (Z.map Int.ofNat))))),(11,.i Z.length),(12,.i i),(23,.a (.c (.t 2 (Aw row)))),(24,.i row.length),(25,.i k)],hp:=[Wy R 1 rd,.r ⟨3,1,true,A9 seen⟩,.r ⟨3,1,true,A9 (O++Xd (row.take k))⟩],n:=43,pin:=2 }) (fun k=>k<=row.length) (fun k=>row.length - k) 0 ?_ ?_ ?_
 ·omega
 ·simp only [gBq,Xd,List.filter_nil,gAX,gAk,Wy]
  exact W5
 rintro k hk K hK
 simp only [Wy]
 by_cases hlk:k<row.length
 rotate_left
 ·have d2:decide ((k:Int)<(row.length:Int))=false:=by simpa using hlk
  have hke:row.take k=row:=gE7 (by omega)
  rw [hke,<- hsn]
  (refine aj @d2 ?_;repeat refine kq fun K hK=>?_)
  refine W3 ?_
  (refine VZ ?_;repeat clear hK K)
  (refine ai ?_;(repeat clear hK K);repeat refine kq fun K hK=>?_)
  refine W4 ?_
  refine hK _ (i+1) (by omega) (by omega) ?_
  simp only [Wy]
  exact W5
 have d2:decide ((k:Int)<(row.length:Int))=true:=by simpa using hlk
 have hat:=AS hlk
 have hnt:=Pw hlk
 have hnl:=Nr (row.take k)
 rw [gAS] at hnl
 have hO2:(O++Xd (row.take k)).length<=20000000:=by rw [gAI];omega
 have hnx:O++Xd (row.take (k+1))=(O++Xd (row.take k))++(if row[k].1 != 0 then [row[k].1] else []):=by rw [hnt,gAj]
 generalize O++Xd (row.take k)=Q at *
 generalize row[k]=a at *
 obtain ⟨e,t⟩:=a
 simp only at hat hnx
 (refine aj @d2 ?_;(repeat clear hK K);repeat refine kq fun K hK=>?_)
 refine W2 ?_
 cases he:(e != 0) with
 | true=>
  rw [he] at hnx
  simp only [if_true] at hnx
  have ca:=UJ Q e (n:=Q.length) rfl
  (refine Zk (an @hat (an @A3 (an @Aq @he))) ?_;repeat refine kq fun K hK=>?_)
  refine W2 ?_
  (refine aj (an @A4 @ca) ?_;(repeat clear hK K);repeat refine kq fun K hK=>?_)
  refine W4 ?_
  refine hK _ (k+1) (by omega) (by omega) ?_
  refine Le.trans (A8 [0,1,5] rfl rfl) ?_
  (try simp only [Yn,go_sem])
  (try simp only [A5])
  rw [hnx]
  simp only [gAI,gAJ,gAO,Wy]
  exact W5
 | false=>
  rw [he] at hnx
  simp only [gA5,if_false,gAk] at hnx
  (refine Zk (an @hat (an @A3 (an @Aq @he))) ?_;repeat refine kq fun K hK=>?_)
  refine W3 ?_
  (refine ai ?_;(repeat clear hK K);repeat refine kq fun K hK=>?_)
  refine W4 ?_
  refine hK _ (k+1) (by omega) (by omega) ?_
  refine Le.trans (A8 [0,1,2] rfl rfl) ?_
  (try simp only [Yn,go_sem])
  (try simp only [A5])
  rw [hnx]
  simp only [Wy]
  exact W5
end Go.Proofs.YtbnabodoabimnaaGreat
namespace Go.Proofs.YtbnabodoabimnaaGreat
set_option linter.unusedVariables false
set_option linter.unusedSimpArgs false
open Go.RowKit Go.Shelf Go.Sort
section
variable {α : Type} [Inhabited α] {enc : α -> Value} {w : World} {blk off m : Nat} {dk : Array α} {os : Array Obj}
theorem DH:w.heap.size<=(sortWorld enc w blk off m dk os).heap.size:=by
 simp [sortWorld,grow,putRow,mapBlock,Sort.ahead]
theorem Fu {k:Nat} (hk:k<w.heap.size) (hne:k ≠ blk):(sortWorld enc w blk off m dk os).heap[k]?=w.heap[k]?:=by
 simp only [sortWorld,grow,putRow,mapBlock,Sort.ahead]
 rw [Array.getElem?_append_left (by simpa using hk),Array.getElem?_modify,if_neg (Ne.symm hne)]
theorem RU {arr:Array Value} {e:TypeId} {fz:Nat × Nat} (h:w.heap[blk]?=some (.cells arr e fz)):(sortWorld enc w blk off m dk os).heap[blk]?=some (.cells (putCells enc off dk arr) e fz):=by
 have hk:=(Array.getElem?_eq_some_iff.1 h).1
 simp only [sortWorld,grow,putRow,mapBlock,Sort.ahead]
 rw [Array.getElem?_append_left (by simpa using hk),Array.getElem?_modify,if_pos rfl,h]
 rfl
theorem Us {M:Nat->Prop} (hM:M blk):Fp M w (sortWorld enc w blk off m dk os):=
 ⟨rfl,rfl,rfl,DH,fun k hk hm=>Fu hk (fun e=>hm (e ▸ hM)),by simp [sortWorld,grow,putRow,mapBlock,Sort.ahead]⟩
end
theorem Jl {w w':World} (h:Fp (fun _=>False) w w'):∃ q os,w'=grow (w.drewN q) os:=by
 refine ⟨w'.drawn - w.drawn,w'.heap.extract w.heap.size w'.heap.size,?_⟩
 obtain ⟨hp,tp,dr,o,ou⟩:=w'
 obtain ⟨h1,h2,h3,h4,h5,h6⟩:=h
 simp only at h1 h2 h3 h4 h5 h6
 subst h1;subst h2;subst h3
 simp only [grow,World.drewN]
 congr 1
 rotate_left
 ·omega
 apply gA0
 simp only [Array.toList_append,Array.toList_extract]
 apply List.ext_getElem?
 intro i
 by_cases hi:i<w.heap.size
 ·rw [gEa (by simpa using hi)]
  have:=h5 i hi (fun h=>h)
  simpa using this
 rw [gEb (by simpa using hi)]
 simp only [List.extract_eq_take_drop,Array.length_toList,gAF,gAA]
 split
 ·congr 1;omega
 rename_i hn;simp;omega
def Px (P:Program) (fs:FuncId):Prop:=
 ∀ (α:Type) [Inhabited α] (enc:α->Value) (_:OneCell enc) (cf:α->α->Int) (_:SWO (ltOf cf)) (g:Nat) (cb:Array Value) (blk off cap:Nat) (d:Array α) (w:World)
  (_:∀ args w,(callFunc g args).run P w=.ok (.enter g args) w) (_:CmpLays1 P g cb enc cf blk off d.size w) (_:Holds enc w blk off d) (_:blk<w.heap.size) (_:d.size<4611686018427387904),
  Calls P fs #[.slice (some ⟨blk,off,none⟩) d.size cap,.func (.func g) #[] cb] w fun e w'=>
   e=.returned (.tuple #[])/\∃ d' n os,PermIn 0 d.size d d'/\SortedIn (ltOf cf) 0 d.size d'/\w'=sortWorld enc w blk off n d' os
def KJ (P:Program) (fs:FuncId):Prop:=∀ (p:Option Addr) (cap:Nat) (fv:Value) (w:World),Calls P fs #[.slice p 0 cap,fv] w fun e w'=>e=.returned (.tuple #[])/\w'=w
theorem RV {t:Tr} {k:Nat × Nat} {cs:List Tr}:C.ofTr t ≠ .o k cs:=by cases t <;> simp [C.ofTr]
section
variable {g : Gh} {hp : List Ob} {w : World}
theorem Jm {t:Tr} {v:Value} (h:Rd (Ow hp g) w t v):CR g hp w (C.ofTr t) v:=by
 cases t with
 | v x=>cases h;rfl
 | l k cs=>exact h
theorem TE {M:Nat->Prop} {t:Tr} {v:Value} (h:Rd M w t v):v.oneCell'=true:=by
 cases h <;> first | assumption | rfl
end
theorem Xs {g:Gh} {α0:Type} {tr:α0->Tr} {e:TypeId} {L:List α0} {ℓ:Loc}:Lv [.r ⟨e,1,true,L.map fun x=>C.ofTr (tr x)⟩] g ℓ↔ℓ=.ob 0/\g.κ 0 ≠ 0:=by
 cases ℓ with
 | ob id=>
  constructor
  rotate_left
  ·rintro ⟨h1,h2⟩
   cases h1
   exact .inl ⟨_,rfl,h2⟩
  rintro (⟨r,h1,h2⟩ | ⟨kv,h1⟩)
  rotate_left
  ·cases id with
   | zero=>simp at h1
   | succ i=>simp at h1
  cases id with
  | zero=>exact ⟨rfl,h2⟩
  | succ i=>simp at h1
 | cl id j=>
  constructor
  rotate_left
  ·rintro ⟨h1,h2⟩;cases h1
  rintro ⟨r,k,cs,h1,h2,h3⟩
  cases id with
  | zero=>
   simp at h1;subst h1
   rw [gAC,gBG] at h2
   obtain ⟨x,_,h2⟩:=h2
   exact absurd h2 RV
  | succ i=>simp at h1
theorem RW {α0:Type} {P:Program} {fs f:FuncId} (tr:α0->Tr) (ok:α0->Prop) (cf:α0->α0->Int) (hO:SWO (ltOf cf)) (e:TypeId) (hS:Px P fs) (hS0:KJ P fs) (hf:B3 P f=true)
  (hcmp:∀ x y,ok x->ok y->FC P f [.a (.c (C.ofTr (tr x))),.a (.c (C.ofTr (tr y)))] [] (fun r o=>o=[]/\r=.i (cf x y))) (L:List α0) (hL:∀ x∈L,ok x) (hsz:L.length<=100000000) (h1c:∀ x v,tr x=.v v->v.oneCell'=true):
  FC P fs [.a (.c (.s 0 L.length)),.a (.c (.f f []))] [.r ⟨e,1,true,L.map fun x=>C.ofTr (tr x)⟩]
   (fun r o=>r=.u/\∃ L':List α0,L'.Perm L/\L'.Pairwise (fun a b=>¬ cf b a<0)/\o=[.r ⟨e,1,true,L'.map fun x=>C.ofTr (tr x)⟩]):=by
 intro g w vals hr hargs
 obtain ⟨hlen,hargs⟩:=hargs
 obtain ⟨v1,e1,b1,b2,A,rfl,b4,b5⟩:=hargs 0 _ rfl
 obtain ⟨v2,e2,c1,c2⟩:=hargs 1 _ rfl
 have hv2:v2=.func (.func f) #[] #[]:=by rw [c2];simp [V2]
 subst hv2
 have hvals:vals=[.slice A L.length (g.κ 0),.func (.func f) #[] #[]]:=by
  match vals,hlen with
  | [a,b],_=>simp at e1 e2;simp [e1,e2]
 subst hvals
 rcases hr.row 0 _ rfl with ⟨h0,hnil⟩ | ⟨h0,hne,arr,ha,hle,hs,hmx,hcells⟩
 ·have hL0:L=[]:=by simpa using hnil
  subst hL0
  refine (hS0 A (g.κ 0) (.func (.func f) #[] #[]) w).mono ?_
  rintro e' w' ⟨rfl,rfl⟩
  exact ⟨.tuple #[],.u,_,g,rfl,⟨rfl,[],List.Perm.refl _,List.Pairwise.nil,rfl⟩,hr,⟨gBu _,Ext.refl _ _⟩,fun ℓ hl=>.inl ⟨ℓ,hl,rfl⟩,trivial,Fp.refl _ _⟩
 have hne':L ≠ []:=by simpa using hne rfl
 rw [b4 h0] at *
 have hblk:g.γ (.ob 0)<w.heap.size:=(Array.getElem?_eq_some_iff.1 ha).1
 have hOw:Ow [.r ⟨e,1,true,L.map fun x=>C.ofTr (tr x)⟩] g (g.γ (.ob 0)):=.inr ⟨.ob 0,Xs.2 ⟨rfl,h0⟩,rfl⟩
 have hle':L.length<=arr.size:=by simpa using hle
 have hget:∀ j (hj:j<L.length),Rd (Ow [.r ⟨e,1,true,L.map fun x=>C.ofTr (tr x)⟩] g) w (tr L[j]) (arr[j]'(by omega)):=by
  intro j hj
  obtain ⟨u,u1,u2⟩:=hcells j (C.ofTr (tr L[j])) (by simp [hj])
  have hu:arr[j]'(by omega)=u:=by
   have:=(Array.getElem?_eq_some_iff.1 u1).2;exact this
  rw [hu]
  have h1c':=h1c L[j]
  generalize tr L[j]=t at u2 h1c'
  cases t with
  | v x=>cases (show u=x from u2);exact .v _ (h1c' _ rfl)
  | l k cs=>exact u2
 have hrd:∀ {t:Tr} {v:Value} {W:World},w.heap.size<=W.heap.size->(∀ k,k<w.heap.size->k ≠ g.γ (.ob 0)->W.heap[k]?=w.heap[k]?)->∀ {M:Nat->Prop},(∀ k,M k->Ow [.r ⟨e,1,true,L.map fun x=>C.ofTr (tr x)⟩] g k)->
   Rd (Ow [.r ⟨e,1,true,L.map fun x=>C.ofTr (tr x)⟩] g) w t v->Rd M W t v:=fun h1 h2 M h3 h=>h.keep h1 (fun k hk hn=>h2 k hk (fun e=>hn (e ▸ hOw))) (fun k _ hk=>h3 k hk)
 have x0:0<L.length:=List.length_pos_iff.2 hne'
 let α:={ p:Value × α0 // Rd (Ow [.r ⟨e,1,true,L.map fun x=>C.ofTr (tr x)⟩] g) w (tr p.2) p.1/\ok p.2 }
 haveI:Inhabited α:=⟨⟨(arr[0]'(by omega),L[0]),hget 0 x0,hL _ (gE6 _)⟩⟩
 let enc:α->Value:=fun p=>p.1.1
 let d:Array α:=Array.ofFn (n:=L.length) fun j=>⟨(arr[j.1]'(by omega),L[j.1]),hget j.1 j.2,hL _ (gE6 _)⟩
 have hds:d.size=L.length:=by simp [d]
 have hO':SWO (ltOf fun x y:α=>cf x.1.2 y.1.2):=⟨fun x=>hO.irrefl x.1.2,fun x y z=>hO.trans x.1.2 y.1.2 z.1.2,fun x y z=>hO.ntrans x.1.2 y.1.2 z.1.2⟩
 have h1:OneCell enc:=fun p=>TE p.2.1
 have hcmp':CmpLays1 P f #[] enc (fun x y:α=>cf x.1.2 y.1.2) (g.γ (.ob 0)) 0 d.size w:=by
  intro m os dk hdk x y
  have hbl:∀ k,k<w.heap.size->k ≠ g.γ (.ob 0)->(sortWorld enc w (g.γ (.ob 0)) 0 m dk os).heap[k]?=w.heap[k]?:=fun k hk hn=>Fu hk hn
  have hnl:∀ (gg:Gh) ℓ,¬ Lv [] gg ℓ:=by
   intro gg ℓ hl
   cases ℓ with
   | ob id=>rcases hl with ⟨r,h,_⟩ | ⟨kv,h⟩ <;> simp at h
   | cl id j=>obtain ⟨r,k,cs,h,_⟩:=hl;simp at h
  have hM:∀ k,Ow [] ⟨g.γ,g.κ,Ow [.r ⟨e,1,true,L.map fun x=>C.ofTr (tr x)⟩] g⟩ k->Ow [.r ⟨e,1,true,L.map fun x=>C.ofTr (tr x)⟩] g k:=fun k hk=>by
   rcases hk with hk | ⟨ℓ,hl,_⟩
   ·exact hk
   exact absurd hl (hnl _ ℓ)
  have hHR:HR ⟨g.γ,g.κ,Ow [.r ⟨e,1,true,L.map fun x=>C.ofTr (tr x)⟩] g⟩ [] (sortWorld enc w (g.γ (.ob 0)) 0 m dk os):=by
   refine ⟨fun b hb=>?_,fun ℓ hl=>absurd hl (hnl _ ℓ),fun ℓ _ hl=>absurd hl (hnl _ ℓ),fun id r h=>by simp at h,fun id r h=>by simp at h,hr.gl.keep DH (fun k hk hn=>hbl k hk (fun e=>hn (e ▸ hOw))) (fun k _ hk=>hM k hk)⟩
   refine gBw ?_ DH
   rcases hb with hb | ⟨ℓ,hl,rfl⟩
   ·exact hr.ml b hb
   exact hr.lt hl
  have hA:HQ ⟨g.γ,g.κ,Ow [.r ⟨e,1,true,L.map fun x=>C.ofTr (tr x)⟩] g⟩ [] (sortWorld enc w (g.γ (.ob 0)) 0 m dk os) [.a (.c (C.ofTr (tr x.1.2))),.a (.c (C.ofTr (tr y.1.2)))] [x.1.1,y.1.1]:=by
   refine ⟨rfl,fun i a hi=>?_⟩
   match i,hi with
   | 0,hi=>cases hi;exact ⟨_,rfl,Jm (hrd DH hbl hM x.2.1)⟩
   | 1,hi=>cases hi;exact ⟨_,rfl,Jm (hrd DH hbl hM y.2.1)⟩
  have:=hcmp x.1.2 y.1.2 x.2.2 y.2.2 _ _ _ hHR hA
  refine Calls.mono this ?_
  rintro e' w' ⟨v,r,outs,g',rfl,⟨rfl,rfl⟩,_,_,_,hv,hfp⟩
  refine ⟨by rw [show v=_ from hv],?_⟩
  exact Jl (hfp.mono fun k _ ⟨ℓ,hl,_⟩=>absurd hl (hnl _ ℓ))
 have hdj:∀ j (hj:j<L.length),d[j]! = ⟨(arr[j]'(by omega),L[j]),hget j hj,hL _ (gE6 _)⟩:=by
  intro j hj
  rw [getElem!_pos d j (by omega)]
  simp [d]
 have hH:Holds enc w (g.γ (.ob 0)) 0 d:=by
  intro j hj
  rw [hds] at hj
  rw [hdj j hj]
  refine ⟨?_,?_⟩
  rotate_left
  ·simp [World.frozen?,ha]
  rw [gBD,cell_of_row _ _ _ _ _ _ ha]
  simp [enc,show j<arr.size by omega]
 have hcall:=hS α enc h1 (fun x y=>cf x.1.2 y.1.2) hO' f #[] (g.γ (.ob 0)) 0 (g.κ 0) d w (C4 hf) hcmp' hH hblk (by omega)
 rw [hds] at hcall
 refine hcall.mono ?_
 rintro e' w' ⟨rfl,d',n,os,hperm,hsorted,rfl⟩
 have hd's:d'.size=L.length:=by rw [hperm.1,hds]
 have hcov:∀ ℓ,Lv [.r ⟨e,1,true,(d'.toList.map fun p=>p.1.2).map fun x=>C.ofTr (tr x)⟩] g ℓ->Lv [.r ⟨e,1,true,L.map fun x=>C.ofTr (tr x)⟩] g ℓ:=fun ℓ hl=>Xs.2 (Xs.1 hl)
 have hM':∀ k,Ow [.r ⟨e,1,true,(d'.toList.map fun p=>p.1.2).map fun x=>C.ofTr (tr x)⟩] g k->Ow [.r ⟨e,1,true,L.map fun x=>C.ofTr (tr x)⟩] g k:=fun k hk=>hk.imp (fun h=>h) (fun ⟨ℓ,hl,h⟩=>⟨ℓ,hcov ℓ hl,h⟩)
 refine ⟨.tuple #[],.u,_,g,rfl,⟨rfl,d'.toList.map fun p=>p.1.2,?_,?_,rfl⟩,?_,⟨by simp,Ext.refl _ _⟩,fun ℓ hl=>.inl ⟨ℓ,hcov ℓ hl,rfl⟩,trivial,?_⟩
 rotate_left 3
 ·exact Us ⟨.ob 0,Xs.2 ⟨rfl,h0⟩,rfl⟩
 ·have h2:=hperm.2.2
  have e0:d.toList.map (fun p=>p.1.2)=L:=by
   apply List.ext_getElem (by simp [d])
   intro i h3 h4
   simp [d]
  have e1:(d'.extract 0 L.length).toList=d'.toList:=by rw [<- hd's];simp
  have e2:(d.extract 0 L.length).toList=d.toList:=by rw [<- hds];simp
  rw [e1,e2] at h2
  have h5:=h2.map (fun p:α=>p.1.2)
  rw [e0] at h5
  exact h5
 ·rw [List.pairwise_map,gBf]
  intro i j hi hj hij
  have:=hsorted i j (gBE _) hij (by simpa [hd's] using hj)
  simp only [ltOf,gBL] at this
  rw [getElem!_pos d' j (by simpa using hj),getElem!_pos d' i (by simpa using hi)] at this
  simpa using this
 refine ⟨fun b hb=>gBw (hr.ml b hb) DH,fun ℓ hl=>hr.md ℓ (hcov ℓ hl),fun ℓ ℓ' hl hl'=>hr.inj ℓ ℓ' (hcov ℓ hl) (hcov ℓ' hl'),fun id r hid=>?_,fun id r hid=>?_,hr.gl.keep DH (fun k hk hn=>Fu hk (fun e=>hn (e ▸ hOw))) (fun k _ hk=>hM' k hk)⟩
 rotate_left
 ·cases id <;> simp at hid
 cases id with
 | succ i=>simp at hid
 | zero=>
  simp at hid
  subst hid
  refine .inr ⟨h0,fun _ hn=>?_,_,RU ha,?_,?_,hmx,fun j c hj=>?_⟩
  ·simp at hn
   rw [hn] at hd's;simp at hd's;omega
  ·simp [putCells,hd's];exact hle'
  ·simpa [putCells] using hs
  simp only [gAC,Option.map_map,gBG] at hj
  obtain ⟨q,q1,rfl⟩:=hj
  have hjlt:j<d'.size:=by have:=(List.getElem?_eq_some_iff.1 q1).1;simpa using this
  have hq:d'[j]! = q:=by
   rw [getElem!_pos d' j hjlt]
   have:=(List.getElem?_eq_some_iff.1 q1).2
   simpa using this
  refine ⟨q.1.1,?_,?_⟩
  ·unfold putCells
   rw [Array.getElem?_mapIdx,gEd (by omega)]
   have hq2:d'[j]=q:=by rw [<- hq,getElem!_pos d' j hjlt]
   simp [hjlt,hq2,enc]
  have hread:=hrd (M:=Ow [.r ⟨e,1,true,(d'.toList.map fun p=>p.1.2).map fun x=>C.ofTr (tr x)⟩] g) (W:=sortWorld enc w (g.γ (.ob 0)) 0 n d' os) DH (fun k hk hn=>Fu hk hn) hM' q.2.1
  have hcr:=Jm hread
  show CellR _ _ _ _ _ (C.ofTr (tr q.1.2)) _
  generalize tr q.1.2=t at hcr ⊢
  cases t <;> exact hcr
end Go.Proofs.YtbnabodoabimnaaGreat
namespace Go.Proofs.YtbnabodoabimnaaGreat
set_option linter.unusedVariables false
set_option linter.unusedSimpArgs false
open Go.RowKit Go.Sort
set_option maxRecDepth 100000
theorem Jn:∀ a b:List Int,decide (Kk a b<0)=Bi a b
 | [],[]=>rfl
 | [],_ :: _=>rfl
 | _ :: _,[]=>rfl
 | a :: r,b :: q=>by
  simp only [Kk,Bi]
  by_cases e:a=b
  ·subst e
   have:Ex a a=0:=(I3 a a).2 rfl
   simp [this,Jn r q]
  ·have h1:Ex a b ≠ 0:=fun h=>e ((I3 a b).1 h)
   simp [h1,e,R6]
theorem Py:SWO (ltOf Kk):=by
 have h:∀ x y,ltOf Kk x y=Bi x y:=fun x y=>Jn x y
 refine ⟨fun x=>by rw [h];exact CK x,fun x y z=>by rw [h,h,h];exact C6,fun x y z h1 h2=>?_⟩
 rw [h] at *
 cases hz:Bi x z with
 | false=>rfl
 | true=>
  rcases Ep x y with e | e | e
  ·rw [e] at h1;cases h1
  ·subst e;rw [hz] at h2;cases h2
  rw [C6 e hz] at h2;cases h2
theorem Ns (hS:Px Tryz.prog 143) (hS0:KJ Tryz.prog 143) (L:List (List Int)) (hL:∀ x∈L,x.length<=140737488355328) (hsz:L.length<=100000000):
  FC Tryz.prog 143 [.a (.c (.s 0 L.length)),.a (.c (.f 144 []))] [.r ⟨37,1,true,Au L⟩]
   (fun r o=>r=.u/\∃ L':List (List Int),L'.Perm L/\L'.Pairwise (fun a b=>Bi b a=false)/\o=[.r ⟨37,1,true,Au L'⟩]):=by
 have:=RW (fun x:List Int=>Tr.l 1 (Ac x)) (fun x=>x.length<=140737488355328) Kk Py 37 hS hS0 (by kernel_rfl:B3 Tryz.prog 144=true) (fun x y hx hy=>Ro x y hx hy) L hL hsz (fun x v h=>by cases h)
 refine this.mono ?_
 rintro r o ⟨h1,L',h2,h3,h4⟩
 refine ⟨h1,L',h2,h3.imp (fun {a b} h=>?_),h4⟩
 have e:=Jn b a
 rw [<- e];simpa using h
theorem Fv (L:List (List Int)):(Az L).map C.ofTr=Au L:=by rw [JW];rfl
theorem D0 (L:List (List Int)):Fz (Au L) (Az L):=Fz.map fun x _=>.inl rfl
theorem Nt (L:List Int):Fz ((Ac L).map C.ofTr) (Ac L):=by
 have:Ac L=(Ac L).map id:=by simp
 conv=>rhs;rw [this]
 exact Fz.map fun t ht=>by
  simp only [Ac,gB7] at ht
  obtain ⟨x,_,rfl⟩:=ht
  exact .inl rfl
set_option maxHeartbeats 1000000 in
theorem RX (hS:Px Tryz.prog 143) (hS0:KJ Tryz.prog 143) (L:List (List Int)) (hn:L.length<=1000000) (hb:∀ x∈L,x.length<=100000000):
  FC Tryz.prog 116 [AC L] [] (fun r o=>r=.a (.c (.s 0 (D2 L).length))/\o=[.r ⟨37,1,true,Au (D2 L)⟩]):=by
 refine A7 Tryz.func116 rfl (by rw [Tryz.ntmps116];simp) ?_
 rw [Tryz.ntmps116]
 simp only [B4,AC]
 (refine ai ?_;(repeat clear hK K);repeat refine kq fun K hK=>?_)
 refine Ab (fun k:Nat=>{ tm:=[(0,.a (.c (.t 1 (Az L)))),(12,.a (.c (.t 1 (Az L)))),(13,.i L.length),(14,.i k)],hp:=[],n:=59,pin:=0 }) (fun k=>k<=L.length/\∀ i x,i<k->L[i]?=some x->Gb x=true) (fun k=>L.length - k) 0 ?_ ?_ ?_
 ·exact ⟨by omega,by intro i x hi;omega⟩
 ·(refine Bh ?_;simp only [CS,go_sem,Ae];try simp)
 rintro k ⟨hk,hno⟩ K hK
 (refine ai ?_;(repeat clear hK K);repeat refine kq fun K hK=>?_)
 (refine Ah ?_;intro X Y hX hY;simp only [go_sem])
 refine ⟨fun h=>hX ?_,fun h=>hY ?_⟩
 ·have hlt:k<L.length:=by simpa using h
  clear hX hY X Y h
  (refine aj (an @Ae (AR (gE1 hlt))) ?_;repeat refine kq fun K hK=>?_)
  refine Yt (UV L[k] (gBv (hb _ (gE6 hlt)) (by omega))) ?_
  (refine ai ?_;(repeat clear hK K);repeat refine kq fun K hK=>?_)
  (refine Ah ?_;intro X Y hX hY;simp only [go_sem])
  refine ⟨fun h=>hX ?_,fun h=>hY ?_⟩
  rotate_left
  ·clear hX hY X Y
   have h1:Gb L[k]=true:=by simpa using h
   (refine ai ?_;(repeat clear hK K);repeat refine kq fun K hK=>?_)
   refine W4 ?_
   refine hK _ (k+1) ⟨by omega,fun i x hi hx=>?_⟩ (by omega) ?_
   rotate_left
   ·exact W5
   by_cases e:i=k
   ·subst e;rw [gE1 hlt] at hx;cases hx;exact h1
   exact hno i x (by omega) hx
  clear hX hY X Y
  (refine ai ?_;(repeat clear hK K);repeat refine kq fun K hK=>?_)
  refine Ak ?_
  simp only [Ad,Ay]
  refine AB (BJ 2 37 1 ?_) ?_
  ·simp only [go_sem]
  refine W8 Tryz.results116 ?_
  have h1:Gb L[k]=false:=by simpa using h
  have h2:L.all Gb=false:=by
   rw [List.all_eq_false]
   exact ⟨L[k],gE6 hlt,by simp [h1]⟩
  simp [D2,h2,Au]
 have hge:k=L.length:=by simp at h;omega
 clear hX hY X Y
 have hasc:∀ s∈L,W9 s:=by
  intro s hs
  obtain ⟨i,hi⟩:=gB6.1 hs
  exact (Fl s).1 (hno i s (by rw [hge];exact (List.getElem?_eq_some_iff.1 hi).1) hi)
 clear hno
 (refine VZ ?_;repeat clear hK K)
 (refine ai ?_;repeat refine kq fun K hK=>?_)
 (refine W0 (Lm (Az L) (by rw [Ae];omega)) ?_;intro K1 hK1)
 rintro _ _ ⟨rfl,rfl⟩
 rw [Fv,Ae]
 (refine W1 ?_;clear hK1 K1)
 simp only [Ft]
 (refine ai ?_;(repeat clear hK K);repeat refine kq fun K hK=>?_)
 (refine Aj rfl ?_;intro K1 hK1;refine Ax (ids:=[]) [0] (Ns hS hS0 L (fun x hx=>gBv (hb x hx) (by omega)) (by omega)) rfl rfl (by simp only [go_sem]) (by first | assumption | kernel_rfl) rfl rfl (by (simp only [gAT,gAk,go_sem]) <;> rfl) (by (simp only [Vk,BD,go_sem]) <;> rfl) ?_ ?_)
 ·rintro _ _ ⟨rfl,L',_,_,rfl⟩;rfl
 rintro _ _ ⟨rfl,L',hperm,hsort,rfl⟩
 (refine W1 ?_;clear hK1 K1)
 simp only [Ft]
 have hlen:L.length=L'.length:=hperm.length_eq.symm
 rw [hlen]
 (refine ai ?_;(repeat clear hK K);repeat refine kq fun K hK=>?_)
 (refine Aj rfl ?_;intro K1 hK1;refine Ax (ids:=[]) [0] (Ic L' (by omega) (fun x hx=>gBv (hb x (hperm.mem_iff.1 hx)) (by omega))) rfl rfl (by simp only [go_sem]) (by first | assumption | kernel_rfl) rfl rfl (by (simp only [gAT,gAk,go_sem]) <;> rfl) (by (simp only [Vk,BD,go_sem]) <;> rfl) ?_ ?_)
 ·rintro _ _ ⟨rfl,rest,us,_,rfl⟩;rfl
 rintro _ _ ⟨rfl,rest,us,hus,rfl⟩
 have hr_up:∀ f:Nat->Nat,rest.map (C.up f)=rest:=fun f=>by
  have:∀ {xs:List C} {ts:List Tr},Fz xs ts->xs.map (C.up f)=xs:=by
   intro xs
   induction xs with
   | nil=>intros;rfl
   | cons c r ih=>
    intro ts h
    cases ts with
    | nil=>exact h.elim
    | cons t ts=>
     simp only [gAV]
     rw [ih h.2]
     rcases h.1 with h | ⟨h,_⟩
     ·cases c <;> first | rfl | cases h
     subst h;rfl
  exact this hus
 (refine W1 ?_;clear hK1 K1)
 simp only [gAT,Ft,hr_up]
 refine Bw (B6 (r:=⟨37,1,true,Au (D3 L')++rest⟩) 0 (Az (D3 L')++us) rfl ((D0 _).append hus) Nat.zero_lt_one) ?_
 simp only [ST.frz,A0.frz,AV.frz,C.frz,Ae,gAI,Nat.le_add_right,go_sem]
 have hSS:Er (D3 L'):=N0 hsort
 have hSm:∀ s,s∈D3 L'↔s∈L:=fun s=>Kl.trans hperm.mem_iff
 have hSl:(D3 L').length<=1000000:=by
  have nd:(D3 L').Nodup:=List.Pairwise.imp (fun h e=>by subst e;rw [CK] at h;cases h) hSS
  exact gBv (nd.length_le_of_subset fun s hs=>(hSm s).1 hs) hn
 have htake:(Az (D3 L')++us).take (D3 L').length=Az (D3 L'):=by rw [<- Ae (D3 L')];simp
 rw [<- QY hasc hSS hSm] at *
 generalize hS':D3 L'=S at *
 rw [htake]
 (refine aj @Ae ?_;(repeat clear hK K);repeat refine kq fun K hK=>?_)
 refine As (BJ 6 37 1 ?_) ?_
 ·simp only [go_sem]
 refine As (A8 [1] rfl rfl) ?_
 (try simp only [Yn,go_sem])
 refine Ab (fun k:Nat=>{ tm:=[(5,.a (.c (.t 1 (Az S)))),(6,.a (.c (.s 0 (((S.take k).filter fun s=>S.all fun o=>decide (o=s) || !Dp o s).length)))),(28,.a (.c (.t 1 (Az S)))),(29,.i S.length),(30,.i k)],hp:=[.r ⟨37,1,true,Au ((S.take k).filter fun s=>S.all fun o=>decide (o=s) || !Dp o s)⟩],n:=59,pin:=0 }) (fun k=>k<=S.length) (fun k=>S.length - k) 0 ?_ ?_ ?_
 ·omega
 ·exact W5
 rintro k hk K hK
 (refine ai ?_;(repeat clear hK K);repeat refine kq fun K hK=>?_)
 (refine Ah ?_;intro X Y hX hY;simp only [go_sem])
 refine ⟨fun h=>hX ?_,fun h=>hY ?_⟩
 rotate_left
 ·have hge:k=S.length:=by simp at h;omega
  clear hX hY X Y
  (refine VZ ?_;repeat clear hK K)
  (refine ai ?_;(repeat clear hK K);repeat refine kq fun K hK=>?_)
  refine W8 Tryz.results116 ?_
  subst hge
  simp only [gBn]
  exact ⟨rfl,rfl⟩
 have hlt:k<S.length:=by simpa using h
 clear hX hY X Y h
 have hin:S[k]∈S:=gE6 hlt
 have hbk:S[k].length<=100000000:=hb _ ((hSm _).1 hin)
 have hnd:S.Nodup:=List.Pairwise.imp (fun h e=>by subst e;rw [CK] at h;cases h) hSS
 have hfl:(S.take k).filter (fun s=>S.all fun o=>decide (o=s) || !Dp o s)=(S.take k).filter (fun s=>S.all fun o=>decide (o=s) || !Dp o s):=rfl
 have hflen:((S.take k).filter fun s=>S.all fun o=>decide (o=s) || !Dp o s).length<=k:=gBv (gAM _ _) (by rw [gAS];omega)
 have hstep:∀ b:Bool,(S.all fun o=>decide (o=S[k]) || !Dp o S[k])=b->(S.take (k+1)).filter (fun s=>S.all fun o=>decide (o=s) || !Dp o s)=(S.take k).filter (fun s=>S.all fun o=>decide (o=s) || !Dp o s)++(if b then [S[k]] else []):=by
  intro b hb
  rw [gE8 hlt,List.filter_append]
  congr 1
  cases b <;> simp [List.filter,hb]
 generalize hF:(S.take k).filter (fun s=>S.all fun o=>decide (o=s) || !Dp o s)=F at *
 (refine aj (an @Ae (AR (gE1 hlt))) ?_;(repeat clear hK K);repeat refine kq fun K hK=>?_)
 refine Ab (fun j:Nat=>{ tm:=[(5,.a (.c (.t 1 (Az S)))),(6,.a (.c (.s 0 F.length))),(28,.a (.c (.t 1 (Az S)))),(29,.i S.length),(30,.i k),(7,.i k),(8,.a (.c (.t 1 (Ac S[k])))),(9,.b true),(35,.a (.c (.t 1 (Az S)))),(36,.i S.length),(37,.i j)],hp:=[.r ⟨37,1,true,Au F⟩],n:=59,pin:=0 })
  (fun j=>j<=S.length/\∀ i o,i<j->S[i]?=some o->i ≠ k->Dp o S[k]=false) (fun j=>S.length - j) 0 ?_ ?_ ?_
 ·exact ⟨by omega,by intro i o hi;omega⟩
 ·(refine Bh ?_;simp only [CS,go_sem,Ae];try simp)
 rintro j ⟨hj,hno⟩ K hK
 (refine ai ?_;(repeat clear hK K);repeat refine kq fun K hK=>?_)
 (refine Ah ?_;intro X Y hX hY;simp only [go_sem])
 refine ⟨fun h=>hX ?_,fun h=>hY ?_⟩
 rotate_left
 ·have hge:j=S.length:=by simp at h;omega
  clear hX hY X Y
  have hgood:(S.all fun o=>decide (o=S[k]) || !Dp o S[k])=true:=by
   rw [gAg]
   intro o ho
   obtain ⟨i,hi⟩:=gB6.1 ho
   have hil:=(List.getElem?_eq_some_iff.1 hi)
   by_cases e:i=k
   ·subst e;simp [<- hil.2]
   have:=hno i o (by rw [hge];exact hil.1) hi e
   simp [this]
  (refine VZ ?_;repeat clear hK K)
  (refine ai ?_;repeat refine kq fun K hK=>?_)
  (refine Ah ?_;intro X Y hX hY;simp only [go_sem])
  refine hX ?_;clear hX hY X Y
  (refine ai ?_;repeat refine kq fun K hK=>?_)
  refine Yt (GA (Ac S[k]) (by rw [A2];omega)) ?_
  refine Bw (B6 (r:=⟨3,1,true,(Ac S[k]).map C.ofTr⟩) 1 (Ac S[k]) rfl (Nt _) Nat.zero_lt_one) ?_
  simp only [ST.frz,A0.frz,AV.frz,C.frz,gBu,gBn,gBj,gBi,go_sem]
  (refine aj (an @CP (an (gE7 (gBt (CP F))) (an @gBj.{0} (an @gBi.{0} (an @gBp.{0} @gBq.{0}))))) ?_;(repeat clear hK K);repeat refine kq fun K hK=>?_)
  refine W4 ?_
  refine hK _ (k+1) (by omega) (by omega) ?_
  have hs:=hstep true hgood
  simp only [if_true] at hs
  refine Le.trans (A8 [3] rfl rfl) ?_
  (try simp only [Yn,go_sem])
  have e2:Au (F++[S[k]])=Au F++[.t 1 (Ac S[k])]:=by simp [Au]
  have e3:(F++[S[k]]).length=F.length+1:=by simp
  simp only [hs,e2,e3,BD]
  exact W5
 have hltj:j<S.length:=by simpa using h
 clear hX hY X Y h
 by_cases hjk:j=k
 ·have hb1:((j:Int) != (k:Int))=false:=by simp [hjk]
  (refine aj (an @Ae (an (AR (gE1 hltj)) @hb1)) ?_;repeat refine kq fun K hK=>?_)
  (refine Ah ?_;intro X Y hX hY;simp only [go_sem])
  refine hY ?_;clear hX hY X Y
  (refine ai ?_;(repeat clear hK K);repeat refine kq fun K hK=>?_)
  refine W4 ?_
  refine hK _ (j+1) ⟨by omega,fun i o hi ho hne=>?_⟩ (by omega) ?_
  ·exact hno i o (by omega) ho hne
  exact W5
 have hb1:((j:Int) != (k:Int))=true:=by simp;omega
 (refine aj (an @Ae (an (AR (gE1 hltj)) @hb1)) ?_;(repeat clear hK K);repeat refine kq fun K hK=>?_)
 refine Me (t:=true) (want:=true) rfl rfl ?_ rfl ?_ (fun h=>absurd rfl h)
 ·simp only [go_sem]
 intro _ K1 hK1
 refine (Av (ids:=[]) (MX S[j] S[k] (gBv (hb _ ((hSm _).1 (gE6 hltj))) (by omega)) (gBv hbk (by omega)) (hasc _ ((hSm _).1 (gE6 hltj))) (hasc _ ((hSm _).1 hin))) rfl rfl (by simp only [go_sem]) (by kernel_rfl) (by (simp only [F9,gAk,AV.ren,A0.ren,C.ren,go_sem]) <;> rfl) ?_).stp
 rintro _ _ ⟨rfl,rfl⟩
 (refine W1 ?_;clear hK1 K1)
 (refine ai ?_;(repeat clear hK K);repeat refine kq fun K hK=>?_)
 (refine Ah ?_;intro X Y hX hY;simp only [go_sem])
 refine ⟨fun h=>hX ?_,fun h=>hY ?_⟩
 rotate_left
 ·clear hX hY X Y
  (refine ai ?_;(repeat clear hK K);repeat refine kq fun K hK=>?_)
  refine W4 ?_
  refine hK _ (j+1) ⟨by omega,fun i o hi ho hne=>?_⟩ (by omega) ?_
  rotate_left
  ·exact W5
  by_cases e:i=j
  ·subst e;rw [gE1 hltj] at ho;cases ho;exact h
  exact hno i o (by omega) ho hne
 clear hX hY X Y
 have hbad:(S.all fun o=>decide (o=S[k]) || !Dp o S[k])=false:=by
  rw [List.all_eq_false]
  refine ⟨S[j],gE6 hltj,?_⟩
  have:S[j] ≠ S[k]:=fun e=>hjk ((List.getElem_inj hnd).1 e)
  simp [this,h]
 (refine ai ?_;repeat refine kq fun K hK=>?_)
 (refine VZ ?_;repeat clear hK K)
 (refine ai ?_;repeat refine kq fun K hK=>?_)
 (refine Ah ?_;intro X Y hX hY;simp only [go_sem])
 refine hY ?_;clear hX hY X Y
 (refine ai ?_;(repeat clear hK K);repeat refine kq fun K hK=>?_)
 refine W4 ?_
 refine hK _ (k+1) (by omega) (by omega) ?_
 have hs:=hstep false hbad
 simp only [gA5,if_false,gAk] at hs
 simp only [hs]
 exact W5
end Go.Proofs.YtbnabodoabimnaaGreat
namespace Go.Proofs.YtbnabodoabimnaaGreat
set_option linter.unusedVariables false
set_option linter.unusedSimpArgs false
open Go.RowKit
set_option maxRecDepth 100000
attribute [local go_sem] lga C.pl C.one
def Xt (x:List Nat):Value:=Dg (x.map Int.ofNat)
def Xu (S:List (List Nat)):List (List Int):=S.map fun x=>x.map Int.ofNat
theorem CQ (S:List (List Nat)):(Xu S).length=S.length:=by simp [Xu]
def Xv:List (List Nat)->Nat->List (Value × C)
 | [],_=>[]
 | x :: S,i=>(Xt x,.v (.int .i64 (i:Nat))) :: Xv S (i+1)
theorem Qp:∀ (S:List (List Nat)) (i:Nat),(Xv S i).all (fun p=>p.2.pl)=true
 | [],_=>rfl
 | x :: S,i=>by
  show (C.pl (.v (.int .i64 (i:Nat))) && (Xv S (i+1)).all fun p=>p.2.pl)=true
  rw [Qp S (i+1)];rfl
theorem C1:∀ (S:List (List Nat)) (i:Nat),∃ M:List (Value × Value),Xv S i=M.map fun p=>(p.1,C.v p.2)
 | [],_=>⟨[],rfl⟩
 | x :: S,i=>by
  obtain ⟨M,hM⟩:=C1 S (i+1)
  exact ⟨(Xt x,.int .i64 (i:Nat)) :: M,by simp [Xv,hM]⟩
theorem KK (x:List Nat):∀ (S:List (List Nat)) (i:Nat),Xv S i++[(Xt x,.v (.int .i64 ((i+S.length:Nat):Int)))]=Xv (S++[x]) i
 | [],i=>by simp [Xv]
 | y :: S,i=>by
  have:=KK x S (i+1)
  simp only [Xv,gAm,gAJ]
  rw [show i+(S.length+1)=i+1+S.length by omega,this]
def Xw (x:List Nat):Prop:=∀ u∈x,u<1000000
theorem Nu {x y:List Nat} (hx:Xw x) (hy:Xw y):Cr .ks (Xt x) (Xt y)=some (decide (x=y)):=by
 have h1:∀ z:List Nat,Xw z->∀ a∈z.map Int.ofNat,0<=a/\a<2147483648:=fun z hz a ha=>by
  obtain ⟨u,hu,rfl⟩:=gB7.1 ha
  have:=hz u hu
  exact ⟨Int.natCast_nonneg u,by show (u:Int) < _;omega⟩
 show some _=some _
 congr 1
 rw [gA4,decide_eq_true_iff,MapKept.bytes_beq]
 constructor
 rotate_left
 ·intro h;rw [h]
 intro h
 have e:=KH (h1 x hx) (h1 y hy) (by unfold Dg;rw [h])
 exact (List.map_inj_right fun a b h=>Int.ofNat.inj h).1 e
theorem RY {x:List Nat} (hx:Xw x):E0 .ks (Xt x)=true:=by unfold E0;rw [Nu hx hx]
theorem KL {x:List Nat} (hx:Xw x):∀ (S:List (List Nat)) (i q:Nat),(∀ y∈S,Xw y)->(x∈S->∃ j,Bd .ks (Xt x) (Xv S i) q=some (some (j,.v (.int .i64 ((i+S.idxOf x:Nat):Int)))))/\(x ∉ S->Bd .ks (Xt x) (Xv S i) q=some none)
 | [],_,_,_=>⟨fun h=>by simp at h,fun _=>rfl⟩
 | y :: S,i,q,hS=>by
  have hy:=hS y gB3
  obtain ⟨ih1,ih2⟩:=KL hx S (i+1) (q+1) fun z hz=>hS z (gEf _ hz)
  have hk:Bd .ks (Xt x) (Xv (y :: S) i) q=if x=y then some (some (q,.v (.int .i64 (i:Nat)))) else Bd .ks (Xt x) (Xv S (i+1)) (q+1):=by
   have h0:Bd .ks (Xt x) (Xv (y :: S) i) q=match Cr .ks (Xt x) (Xt y) with | some true=>some (some (q,C.v (.int .i64 (i:Nat)))) | some false=>Bd .ks (Xt x) (Xv S (i+1)) (q+1) | none=>none:=rfl
   rw [h0,Nu hx hy]
   by_cases e:x=y
   ·rw [gEg e,if_pos e]
   ·rw [gBK e,if_neg e]
  rw [hk]
  by_cases e:x=y
  ·rw [if_pos e]
   subst e
   exact ⟨fun _=>⟨q,by simp⟩,fun h=>absurd gB3 h⟩
  ·rw [if_neg e]
   constructor
   ·intro h
    have hm:x∈S:=(gB2.1 h).resolve_left e
    obtain ⟨j,hj⟩:=ih1 hm
    refine ⟨j,?_⟩
    rw [hj]
    have:(y :: S).idxOf x=S.idxOf x+1:=by
     rw [List.idxOf_cons]
     have:(y == x)=false:=by simpa using Ne.symm e
     rw [this];rfl
    rw [this,show i+1+S.idxOf x=i+(S.idxOf x+1) by omega]
   ·intro h
    exact ih2 fun q=>h (gEf _ q)
def Xx (R:List (List Ar)) (m:Int) (B:List Bool) (S:List (List Nat)):Row:=⟨100,6,false,[.t 1 (AK R),.v (.int .i64 m),.p 1 0,.t 1 (Ws B),.m 3,.o (1,37) (Az (Xu S))]⟩
theorem RZ (S:List (List Nat)) (x:List Nat):(Az (Xu S)).map C.ofTr++[C.t 1 (Ac (x.map Int.ofNat))]=Au (Xu (S++[x])):=by
 simp [Au,Az,Xu,C.ofTr,gAb]
set_option maxHeartbeats 4000000 in
theorem Nv (R:List (List Ar)) (m:Int) (B:List Bool) (S:List (List Nat)) (x:List Nat) (hS:∀ y∈S,Xw y) (hx:Xw x) (hSn:S.length<=1000000) (hxn:x.length<=1000000) (rd:Int) (seen:List Int):
  FC Tryz.prog 79 [.a (.c (.p 0 0)),.a (.c (.t 1 (Ac (x.map Int.ofNat))))] [.r (Xx R m B S),Wy R 2 rd,.r ⟨3,1,true,A9 seen⟩,.m (Xv S 0)] (fun r o=>o=[.r (Xx R m B (Xk S x)),Wy R 2 rd,.r ⟨3,1,true,A9 seen⟩,.m (Xv (Xk S x) 0)]/\r=.i (Xi S x)):=by
 refine A7 Tryz.func79 rfl (by rw [Tryz.ntmps79];simp) ?_
 rw [Tryz.ntmps79]
 have hkc:=KI (x.map Int.ofNat) (by rw [gAN];omega)
 have hft:=RY hx
 have hpl:=Qp S 0
 obtain ⟨hf1,hf2⟩:=KL hx S 0 0 hS
 obtain ⟨M,hM⟩:=C1 S 0
 have hsn:=KK x S 0
 rw [hM] at hf1 hf2 hpl hsn ⊢
 rw [show Dg (x.map Int.ofNat)=Xt x from rfl] at hkc
 obtain ⟨sb,hsb⟩:∃ b,Xt x=Value.string b:=⟨_,rfl⟩
 rw [hsb] at hkc hft hf1 hf2 hsn
 simp only [B4,Wy,Xx,Ap] at hkc ⊢
 (refine ai ?_;repeat refine kq fun K hK=>?_)
 refine Yt hkc ?_
 (refine ai ?_;(repeat clear hK K);repeat refine kq fun K hK=>?_)
 by_cases hm:x∈S
 ·obtain ⟨j,hj⟩:=hf1 hm
  have e1:Xk S x=S:=if_pos hm
  have e2:(0+S.idxOf x:Nat)=Xi S x:=by rw [gBD];rfl
  rw [e2] at hj
  (refine Aj rfl ?_;intro K1 hK1;refine BV (id:=3) (kv:=M.map fun p=>(p.1,C.v p.2)) (zv:=.int .i64 0) Tryz.underlying98 (CJ Tryz.underlying9) rfl rfl rfl (by simp only [go_sem]) rfl hpl (by simp only [go_sem,Ef]) hft hj ?_;simp only [go_sem,Xq];refine hK1 _ ?_;clear hK1 K1)
  (refine aj @gA9 ?_;repeat refine kq fun K hK=>?_)
  refine W3 ?_
  (refine ai ?_;(repeat clear hK K);repeat refine kq fun K hK=>?_)
  rw [e1,hM]
  ((try refine Ak ?_);(try simp only [Ad,Ay]);refine AB (A8 [0,1,2,3] rfl rfl) ?_;(try simp only [Yn,go_sem]);((try refine Ak ?_);(try refine Aa ?_);(try simp only [Ad,Ay]);refine AN (by first | exact .inl rfl | exact .inr rfl) rfl ?_;simp only [Vm,Cq,Ck,Cx,Tryz.results79,go_sem,true_and,and_true,A5,gAW,gAb,Wy,Xx]))
  done
 have hj:=hf2 hm
 have e1:Xk S x=S++[x]:=if_neg hm
 have e2:Xi S x=S.length:=Qm hm
 (refine Aj rfl ?_;intro K1 hK1;refine BV (id:=3) (kv:=M.map fun p=>(p.1,C.v p.2)) (zv:=.int .i64 0) Tryz.underlying98 (CJ Tryz.underlying9) rfl rfl rfl (by simp only [go_sem]) rfl hpl (by simp only [go_sem,Ef]) hft hj ?_;simp only [go_sem,Xq];refine hK1 _ ?_;clear hK1 K1)
 (refine aj @gA8 ?_;repeat refine kq fun K hK=>?_)
 refine W2 ?_
 (refine aj (an @Ae @CQ) ?_;repeat refine kq fun K hK=>?_)
 (refine Aj rfl ?_;intro K1 hK1;refine F4 (id:=3) (kv:=M.map fun p=>(p.1,C.v p.2)) (c:=.v (.int .i64 (S.length:Nat))) Tryz.underlying98 (CJ Tryz.underlying9) rfl rfl (by simp only [go_sem]) rfl hpl (by simp only [go_sem,Ef]) hft (by simp only [go_sem]) rfl hj ?_;simp only [go_sem];refine hK1 _ ?_;clear hK1 K1)
 (refine aj (an @Ae (an @CQ (an @gBj.{0} (an @gBi.{0} (an @gBp.{0} (an @gBq.{0} (an @gAs.{0} (an @gAS.{0} (an @gAK.{0} (an @gAI.{0} (an @A2 (an @Bf (an @CC (an @Dz (an @A4 (an @CL (an @BG (an @D8 (an @BF @CB))))))))))))))))))) ?_;(repeat clear hK K);repeat refine kq fun K hK=>?_)
 obtain ⟨M2,hM2⟩:=C1 (S++[x]) 0
 rw [gBD,hM2] at hsn
 simp only [RZ,hsn]
 refine As (AQ (r:=⟨37,1,true,Au (Xu (S++[x]))⟩) (ri:=⟨100,6,false,[.t 1 (AK R),.v (.int .i64 m),.p 1 0,.t 1 (Ws B),.m 3,.s 5 (S.length+1)]⟩) (ts:=Az (Xu (S++[x]))) 0 5 5 (S.length+1) (by decide) rfl rfl rfl rfl (show 0<1 by omega) (by show (S.length+1)*1=(Au (Xu (S++[x]))).length;simp [Au,Xu]) (D0 _)) ?_
 simp only [go_sem]
 rw [e1,e2,hM2]
 ((try refine Ak ?_);(try simp only [Ad,Ay]);refine AB (A8 [0,1,2,3] rfl rfl) ?_;(try simp only [Yn,go_sem]);((try refine Ak ?_);(try refine Aa ?_);(try simp only [Ad,Ay]);refine AN (by first | exact .inl rfl | exact .inr rfl) rfl ?_;simp only [Vm,Cq,Ck,Cx,Tryz.results79,go_sem,true_and,and_true,A5,gAW,gAb,Wy,Xx]))
 done
open Go.RowKit Go.Shelf Go.Sort
theorem LG:Px Tryz.prog 143:=fun α _ enc h1 cf hO g cb blk off cap d w eg hcmp hH hblk hsz=>Any.slices_SortFunc Tryz.sortSets enc h1 cf hO g cb blk off cap d w eg hcmp hH hblk hsz
theorem Jo:KJ Tryz.prog 143:=fun p cap fv w=>AnyF.slices_SortFunc_none (P:=Tryz.prog) (ρ:=Tryz.sortSets_ren) { Tryz.sortSets with } p cap fv w
theorem KM (L:List (List Int)) (hn:L.length<=1000000) (hb:∀ x∈L,x.length<=100000000):FC Tryz.prog 116 [AC L] [] (fun r o=>o=[]/\r=AC (D2 L)):=(RX LG Jo L hn hb).frz (D0 _) Nat.zero_lt_one (by rw [Ae,gBB])
end Go.Proofs.YtbnabodoabimnaaGreat
