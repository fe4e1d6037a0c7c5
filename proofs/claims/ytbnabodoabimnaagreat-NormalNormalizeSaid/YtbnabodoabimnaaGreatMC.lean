/- Lemmas. -/
import Derived.Test.YtbnabodoabimnaaGreatMB
import Derived.Deep.LoopGhost
import Derived.Lib.LazyBuf
namespace Go.Proofs.YtbnabodoabimnaaGreat
set_option linter.unusedVariables false
set_option linter.unusedSimpArgs false
open Go.RowKit
section
variable {P : Program} {t e : TypeId} {k bytes : Nat}
def ApR (w : World) (e : TypeId) (k : Nat) (v : Value) (n m : Nat) (old news : List Value) (v' : Value) (w' : World) : Prop :=
 (m = 0 /\ v' = v /\ w' = w) \/ ∃ (b cap : Nat) (arr : Array Value), m ≠ 0 /\ v' = .slice (some ⟨b, 0, none⟩) (n + m) cap /\ cap ≠ 0 /\ w'.heap[b]? = some (.cells arr e (0, 0)) /\ n + m <= cap /\ cap <= 9223372036854775807 /\ arr.size = cap * k /\ arr.toList.take ((n + m) * k) = old ++ news /\
  ((b = w.heap.size /\ Fp (fun _ => False) w w') \/ ∃ bo capo, v = .slice (some ⟨bo, 0, none⟩) n capo /\ capo ≠ 0 /\ (b = w.heap.size \/ b = bo) /\ Fp (fun q => q = bo) w w')
def Oy (w:World) (e:TypeId) (k:Nat) (v:Value) (n:Nat) (old:List Value):Prop:=
 (∃ A,v=.slice A 0 0/\n=0/\old=[]/\∀ a,A=some a->a.block<w.heap.size)\/
 (∃ (b cap:Nat) (arr:Array Value),v=.slice (some ⟨b,0,none⟩) n cap/\cap ≠ 0/\w.heap[b]?=some (.cells arr e (0,0))/\n<=cap/\cap<=9223372036854775807/\arr.size=cap*k/\arr.toList.take (n*k)=old/\old.length=n*k)
theorem JI {w w':World} {row:Option Nat} (h:w.grownBy w' row) (hd:w.drawn<=w'.drawn):Fp (fun q=>row=some q) w w':=
 ⟨h.os,h.tape,h.output,h.size,fun q hq hn=>h.block q hq (fun e=>hn e.symm),hd⟩
theorem F8 (E:ET P t e k bytes) (w:World) (ty:TypeId) {v:Value} {n:Nat} {old:List Value} (hb:Oy w e k v n old) {A:Option Addr} {m c:Nat} {news:List Value} (hr:Sl [] w A m c k news) (h1:∀ u∈news,u.oneCell'=true)
  (hby:(n+m)*bytes<=140737488355328) (hmax:n+m<=140737488355328):
  ∃ v' w',(Builtin.append_ #[t,t] ty #[v,.slice A m c]).run P w=.ok v' w'/\ApR w e k v n m old news v' w':=by
 by_cases h0:m=0
 ·subst h0
  obtain ⟨ht,⟨i,z,hi,hz,hs,hby',hzs⟩,hk⟩:=E
  have form:∃ A' c',v=.slice A' n c'/\n<=c':=by
   rcases hb with ⟨A',rfl,rfl,rfl,hA⟩ | ⟨b,cap,arr,rfl,hc,h2,h3,h4,h5,h6,h7⟩
   ·exact ⟨_,_,rfl,gBu _⟩
   exact ⟨_,_,rfl,h3⟩
  obtain ⟨A',c',rfl,hnc⟩:=form
  refine ⟨.slice A' n c',w,?_,.inl ⟨rfl,rfl,rfl⟩⟩
  cases A' with
  | none=>cases A <;> simp [Builtin.append_,run_underlying ht,sizeOf,typeInfo,hi,Builtin.lenOf,Builtin.firstCells,hnc,loadCells,loadCellsFrom]
  | some a'=>cases A <;> simp [Builtin.append_,run_underlying ht,sizeOf,typeInfo,hi,Builtin.lenOf,Builtin.firstCells,hnc,storeCells,loadCells,loadCellsFrom]
 obtain ⟨hte,⟨i,z,hi,hz,hs,hbyt,hzs⟩,hk⟩:=E
 obtain ⟨b2,off2,rfl,_,_,hc2⟩:=hr.at_ (by omega)
 have hnews:∀ (j:Nat) (u:Value),news[j]?=some u->w.cell? ((⟨b2,off2,none⟩:Addr).add j)=some u:=fun j u hu=>by rw [Gn];exact hc2 j u hu
 have fin:∀ {v':Value} {w':World} {bo:Option Nat},w'.ownsRow 0 e k v' (n+m) (old++news)->w.grownBy w' bo->w.drawn<=w'.drawn->(v'.ownBlock=bo\/v'.ownBlock=some w.heap.size)->(bo=none\/∃ b capo,bo=some b/\v=.slice (some ⟨b,0,none⟩) n capo/\capo ≠ 0)->ApR w e k v n m old news v' w':=by
  intro v' w' bo h2 h3 hdr h5 h6
  rcases h2.2 with ⟨_,hz⟩ | ⟨b,cap,cur,rfl,_,g1,g2,g3,g4,g5⟩
  ·omega
  refine .inr ⟨b,cap,cur,h0,rfl,by omega,g1,g2,by simpa [maxLen] using g3,g4,g5,?_⟩
  rcases h6 with rfl | ⟨b0,capo,rfl,h7,h8⟩
  ·left
   rcases h5 with h5 | h5
   ·cases h5
   exact ⟨by simpa [Value.ownBlock] using h5,(JI h3 hdr).mono (fun _ _ h=>by cases h)⟩
  right
  refine ⟨b0,capo,h7,h8,?_,(JI h3 hdr).mono (fun _ _ h=>by simpa using h.symm)⟩
  rcases h5 with h5 | h5
  ·right;simpa [Value.ownBlock] using h5
  left;simpa [Value.ownBlock] using h5
 rcases hb with ⟨A',rfl,rfl,rfl,hA⟩ | ⟨b,cap,arr,rfl,hc,h2,h3,h4,h5,h6,h7⟩
 rotate_left
 ·obtain ⟨v',w',r1,r2,r3,_,r5⟩:=run_append_own_at (P:=P) w 0 t ty e i z k bytes hte hi hz hs hbyt hzs hk _ n old ⟨h7,.inr ⟨b,cap,arr,rfl,gBE _,h2,h3,by simpa [maxLen] using h4,h5,h6⟩⟩ ⟨b2,off2,none⟩ m c news hr.len
   hnews h1 (by simp only [maxLen];omega) hby (gBE _)
  exact ⟨v',w',r1,fin r2 r3 (Hz _ r1) r5 (.inr ⟨b,cap,rfl,rfl,hc⟩)⟩
 cases A' with
 | none=>
  obtain ⟨v',w',r1,r2,r3,_,r5⟩:=run_append_own_at (P:=P) w 0 t ty e i z k bytes hte hi hz hs hbyt hzs hk (.slice none 0 0) 0 [] (World.ownsRow_nil _ _ _ _) ⟨b2,off2,none⟩ m c news hr.len
   hnews h1 (by simp only [maxLen];omega) hby (gBE _)
  exact ⟨v',w',r1,fin r2 r3 (Hz _ r1) r5 (.inl rfl)⟩
 | some a'=>
  subst hs;subst hbyt
  have hr2:=run_append_grow (P:=P) w t ty e i z hte hi hz a' 0 0 [] (by simp) (fun j u hu=>by simp at hu) ⟨b2,off2,none⟩ m c news hr.len hnews (by omega) (by omega) (growslice_fits (by omega) hby)
  have hge:=grownCap_ge w (0+m) 0 e
  have hcm:grownCap w (0+m) 0 e<=maxLen:=grownCap_le_maxLen w (0+m) 0 e (by simp only [maxLen];omega)
  refine ⟨_,_,hr2,.inr ⟨w.heap.size,_,_,h0,rfl,by omega,heap_alloc_new w.drew _,hge,by simpa [maxLen] using hcm,?_,?_,.inl ⟨rfl,?_⟩⟩⟩
  rotate_left
  ·simp only [Array.toList_append,gAj,gBc]
   rw [gBD,<- hr.len]
   exact List.take_left
  ·exact (Fp.drew w _).trans (Fp.alloc _ _ _)
  simp only [Array.size_append,List.size_toArray,size_zeroCells,hzs,hr.len,<- Nat.add_mul,gAO]
  rw [gBD,<- Nat.add_mul]
  congr 1
  omega
end
end Go.Proofs.YtbnabodoabimnaaGreat
namespace Go.Proofs.YtbnabodoabimnaaGreat
set_option linter.unusedVariables false
set_option linter.unusedSimpArgs false
open Go.RowKit
def Gh.mv (g:Gh) (id' b c id:Nat):Gh:=
 ⟨fun ℓ=>match ℓ with | .ob i=>if i=id' then b else g.γ (.ob i) | .cl i j=>if i=id' then g.γ (.cl id j) else g.γ (.cl i j),fun i=>if i=id' then c else g.κ i,g.M⟩
section
variable {g : Gh} {hp hp' : List Ob} {w w' : World} {id' b c id d : Nat} {r' : Row}
theorem FI {i:Nat} (h:i ≠ id'):(g.mv id' b c id).γ (.ob i)=g.γ (.ob i)/\(g.mv id' b c id).κ i=g.κ i:=by simp [Gh.mv,h]
theorem Ta {i j:Nat} (h:i ≠ id'):(g.mv id' b c id).γ (.cl i j)=g.γ (.cl i j):=by simp [Gh.mv,h]
theorem AU:(g.mv id' b c id).γ (.ob id')=b/\(g.mv id' b c id).κ id'=c/\∀ j,(g.mv id' b c id).γ (.cl id' j)=g.γ (.cl id j):=by simp [Gh.mv]
theorem JJ {n:Nat} (h:n<=id'):Ext n g (g.mv id' b c id):=⟨rfl,fun i hi=>FI (by omega)⟩
structure Mv (g:Gh) (hp:List Ob) (w:World) (hp':List Ob) (w':World) (id' b c id d:Nat) (r':Row):Prop where
 bd:b=d\/w.heap.size<=b
 hid:¬ Bn hp id'
 hb:∀ i,Bn hp i->Bn hp' i
 h1:hp'[id']?=some (.r r')
 row:∀ (i:Nat) (r2:Row),i ≠ id'->hp'[i]?=some (.r r2)->∃ r1:Row,hp[i]?=some (.r r1)/\r1.e=r2.e/\r1.k=r2.k/\r1.sl=r2.sl/\r2.cells.length=r1.cells.length/\∀ (j:Nat) (c:C),r2.cells[j]?=some c->c=.u\/r1.cells[j]?=some c
 map:∀ (i:Nat) (kv:List (Value × C)),hp'[i]?=some (.m kv)->hp[i]?=some (.m kv)
 mv:∀ (j:Nat) (k:Nat × Nat) (cs:List Tr),r'.cells[j]?=some (.o k cs)->cs ≠ []->(∃ r:Row,hp[id]?=some (.r r)/\r.cells[j]?=some (.o k cs))/\(∀ r2,hp'[id]? ≠ some (.r r2))/\g.γ (.cl id j) ≠ d
 q:∀ ℓ,Lv hp g ℓ->g.γ ℓ=d->¬ Lv hp' (g.mv id' b c id) ℓ
 wb:Fp (fun q=>q=d/\Ow hp g d) w w'
theorem Mv.src (h:Mv g hp w hp' w' id' b c id d r') {ℓ:Loc} (hl:Lv hp' (g.mv id' b c id) ℓ) (hne:ℓ ≠ .ob id'):
  ∃ ℓs,Lv hp g ℓs/\(g.mv id' b c id).γ ℓ=g.γ ℓs/\g.γ ℓs ≠ d/\(ℓ=ℓs\/∃ j,ℓ=.cl id' j/\ℓs=.cl id j):=by
 have fin:∀ ℓs,Lv hp g ℓs->(ℓ=ℓs)->g.γ ℓs ≠ d:=fun ℓs h1 e he=>h.q ℓs h1 he (e ▸ hl)
 cases ℓ with
 | ob i=>
  have hi:i ≠ id':=fun e=>hne (by rw [e])
  have h1:Lv hp g (.ob i):=by
   rcases hl with ⟨r2,e1,e2⟩ | ⟨kv,e1⟩
   rotate_left
   ·exact .inr ⟨kv,h.map i kv e1⟩
   obtain ⟨r1,f1,_⟩:=h.row i r2 hi e1
   exact .inl ⟨r1,f1,by rwa [(FI hi).2] at e2⟩
  exact ⟨_,h1,(FI hi).1,fin _ h1 rfl,.inl rfl⟩
 | cl i j=>
  obtain ⟨r2,k,cs,e1,e2,e3⟩:=hl
  by_cases hi:i=id'
  ·subst hi
   rw [h.h1] at e1
   cases e1
   obtain ⟨⟨r,f1,f2⟩,_,f3⟩:=h.mv j k cs e2 e3
   exact ⟨.cl id j,⟨r,k,cs,f1,f2,e3⟩,AU.2.2 j,f3,.inr ⟨j,rfl,rfl⟩⟩
  obtain ⟨r1,f1,_,_,_,_,f2⟩:=h.row i r2 hi e1
  have h1:Lv hp g (.cl i j):=by
   rcases f2 j _ e2 with f3 | f3
   ·cases f3
   exact ⟨r1,k,cs,f1,f3,e3⟩
  exact ⟨_,h1,Ta hi,fin _ h1 rfl,.inl rfl⟩
theorem Mv.mo (h:Mv g hp w hp' w' id' b c id d r') (hr:HR g hp w) (hnew:w.heap.size<=b\/Ow hp g b):Mo g hp w (g.mv id' b c id) hp' w' (fun _=>True):=by
 have nid:∀ i,Bn hp i->i ≠ id':=fun i hi e=>h.hid (e ▸ hi)
 refine ⟨fun i hi=>⟨h.hb i hi,FI (nid i hi)⟩,fun q hq ho=>?_,h.wb.size,fun q hq ho=>h.wb.block q hq (fun ⟨e,ho'⟩=>ho (e ▸ ho')),fun i _ hi r2 j k cs e1 e2=>?_⟩
 ·rcases ho with ho | ⟨ℓ,hl,e⟩
  ·exact .inl ho
  by_cases hne:ℓ=.ob id'
  rotate_left
  ·obtain ⟨ℓs,s1,s2,_⟩:=h.src hl hne
   exact .inr ⟨ℓs,s1,by rw [<- s2];exact e⟩
  subst hne
  rw [AU.1] at e
  subst e
  rcases hnew with h1 | h1
  ·omega
  exact h1
 obtain ⟨r1,f1,_,_,_,_,f2⟩:=h.row i r2 (nid i hi) e1
 have f3:=(f2 j _ e2).resolve_left (by simp)
 refine ⟨r1,f1,f3,fun hlt=>World.cell?_of_block (h.wb.block _ hlt (fun ⟨e,_⟩=>?_))⟩
 by_cases h0:g.κ i=0
 rotate_left
 ·exact h.q (.ob i) (.inl ⟨r1,f1,h0⟩) e (.inl ⟨r2,e1,by rw [(FI (nid i hi)).2];exact h0⟩)
 rcases hr.row i r1 f1 with ⟨_,h2⟩ | ⟨h2,_⟩
 ·rw [h2] at f3;simp at f3
 exact h2 h0
theorem Mv.hr (h:Mv g hp w hp' w' id' b c id d r') (hr:HR g hp w) (hnew':w.heap.size<=b\/∃ ℓ,Lv hp g ℓ/\g.γ ℓ=b) (hrow:RowR (g.mv id' b c id) hp' w' id' r'):HR (g.mv id' b c id) hp' w':=by
 have hnew:w.heap.size<=b\/Ow hp g b:=hnew'.imp (fun h=>h) .inr
 have hm:=h.mo hr hnew
 have nb:∀ ℓs,Lv hp g ℓs->g.γ ℓs ≠ d->g.γ ℓs ≠ b:=fun ℓs h1 h2 e=>by
  rcases h.bd with h3 | h3
  ·exact h2 (e.trans h3)
  have:=hr.lt h1;omega
 have far:∀ ℓs,Lv hp g ℓs->g.γ ℓs ≠ d->w'.heap[g.γ ℓs]?=w.heap[g.γ ℓs]?:=fun ℓs h1 h2=>h.wb.block _ (hr.lt h1) (fun ⟨e,_⟩=>h2 e)
 refine ⟨fun q hq=>gBw (hr.ml q hq) h.wb.size,fun ℓ hl hM=>?_,fun ℓ1 ℓ2 h1 h2 he=>?_,fun i r2 e1=>?_,fun i kv e1=>?_,hm.gl hr.gl⟩
 rotate_left 3
 ·have hi:i ≠ id':=by
   rintro rfl
   rw [h.h1] at e1;cases e1
  have e2:=h.map i kv e1
  have hl2:Lv hp' (g.mv id' b c id) (.ob i):=.inr ⟨kv,e1⟩
  obtain ⟨ℓs,s1,s2,s3,s4⟩:=h.src hl2 (by simpa using hi)
  rcases s4 with rfl | ⟨j,e,_⟩
  ·exact MpR.mo hm e2 (hr.mp i kv e2) (far _ s1 s3)
  cases e
 ·by_cases e1:ℓ=.ob id'
  rotate_left
  ·obtain ⟨ℓs,s1,s2,_⟩:=h.src hl e1
   rw [s2] at hM
   exact hr.md _ s1 hM
  subst e1
  rw [AU.1] at hM
  rcases hnew' with h1 | ⟨ℓ0,h1,rfl⟩
  ·have:=hr.ml _ hM;omega
  exact hr.md ℓ0 h1 hM
 ·by_cases e1:ℓ1=.ob id'
  ·by_cases e2:ℓ2=.ob id'
   ·rw [e1,e2]
   obtain ⟨ℓs,s1,s2,s3,_⟩:=h.src h2 e2
   rw [e1,AU.1,s2] at he
   exact absurd he.symm (nb _ s1 s3)
  obtain ⟨ℓs,s1,s2,s3,s4⟩:=h.src h1 e1
  by_cases e2:ℓ2=.ob id'
  ·rw [e2,AU.1,s2] at he
   exact absurd he (nb _ s1 s3)
  obtain ⟨ℓt,t1,t2,t3,t4⟩:=h.src h2 e2
  rw [s2,t2] at he
  have:=hr.inj _ _ s1 t1 he
  subst this
  rcases s4 with rfl | ⟨j,rfl,rfl⟩
  ·rcases t4 with rfl | ⟨j,rfl,rfl⟩
   ·rfl
   exfalso
   obtain ⟨r2,k,cs,q1,q2,q3⟩:=h1
   obtain ⟨r3,k3,cs3,p1,p2,p3⟩:=h2
   rw [h.h1] at p1
   cases p1
   exact (h.mv j k3 cs3 p2 p3).2.1 r2 q1
  rcases t4 with rfl | ⟨j',rfl,e⟩
  rotate_left
  ·cases e;rfl
  exfalso
  obtain ⟨r2,k,cs,q1,q2,q3⟩:=h2
  obtain ⟨r3,k3,cs3,p1,p2,p3⟩:=h1
  rw [h.h1] at p1
  cases p1
  exact (h.mv j k3 cs3 p2 p3).2.1 r2 q1
 by_cases hi:i=id'
 ·subst hi
  rw [h.h1] at e1
  cases e1
  exact hrow
 obtain ⟨r1,f1,f2,f3,f4,f5,f6⟩:=h.row i r2 hi e1
 rcases hr.row i r1 f1 with ⟨k1,k2⟩ | ⟨k1,k2,arr,k3,k4,k5,k6,k7⟩
 ·exact .inl ⟨by rw [(FI hi).2];exact k1,gAt (by rw [f5,k2];rfl)⟩
 have hl2:Lv hp' (g.mv id' b c id) (.ob i):=.inl ⟨r2,e1,by rw [(FI hi).2];exact k1⟩
 obtain ⟨ℓs,s1,s2,s3,s4⟩:=h.src hl2 (by simpa using hi)
 have hob:g.γ (.ob i) ≠ d:=by
  rcases s4 with rfl | ⟨j,e,_⟩
  ·exact s3
  cases e
 refine .inr ⟨by rw [(FI hi).2];exact k1,fun hs hnil=>k2 (by rw [f4];exact hs) (gAt (by rw [<- f5,hnil];rfl)),arr,?_,by rw [f5];exact k4,by rw [(FI hi).2,<- f3];exact k5,by rw [(FI hi).2];exact k6,fun j x hj=>?_⟩
 ·rw [(FI hi).1,far (.ob i) (.inl ⟨r1,f1,k1⟩) hob,<- f2];exact k3
 have hlt:j<arr.size:=by
  have:=(List.getElem?_eq_some_iff.1 hj).1
  omega
 rcases f6 j x hj with rfl | f7
 ·exact ⟨arr[j],gEd hlt,trivial⟩
 obtain ⟨u,u1,u2⟩:=k7 j x f7
 refine ⟨u,u1,CellR.mo hm u2 (fun k cs hx hn=>⟨Ta hi,?_⟩)⟩
 have hl3:Lv hp' (g.mv id' b c id) (.cl i j):=⟨r2,k,cs,e1,by rw [hj,hx],hn⟩
 obtain ⟨ℓs,s1,s2,s3,s4⟩:=h.src hl3 (by simp)
 rcases s4 with rfl | ⟨j,e,_⟩
 ·exact far _ s1 s3
 cases e;exact absurd rfl hi
theorem CellR.mv {g':Gh} {S:Nat->Prop} {i i' j:Nat} {x:C} {y:Value} (h:Mo g hp w g' hp' w' S) (hr:CellR g hp w i j x y)
  (ho:∀ k cs,x=.o k cs->cs ≠ []->g'.γ (.cl i' j)=g.γ (.cl i j)/\w'.heap[g.γ (.cl i j)]?=w.heap[g.γ (.cl i j)]?):CellR g' hp' w' i' j x y:=by
 cases x with
 | o k cs=>
  rcases hr with ⟨h1,A,h2,h3⟩ | ⟨h1,n,c,arr,h2,h3,h4,h5,h6,h7,h8⟩
  ·exact .inl ⟨h1,A,h2,fun a ha=>gBw (h3 a ha) h.sz⟩
  obtain ⟨e1,e2⟩:=ho k cs rfl h1
  exact .inr ⟨h1,n,c,arr,by rw [e1];exact h2,h3,h4,h5,by rw [e1,e2];exact h6,h7,fun i t hi=>by obtain ⟨u,f1,f2⟩:=h8 i t hi;exact ⟨u,f1,h.rd f2⟩⟩
 | b _ _ _=>exact hr
 | u=>trivial
 | v x=>exact CR.mo h (c:=.v x) trivial hr
 | t k cs=>exact CR.mo h (c:=.t k cs) trivial hr
 | s id n=>exact CR.mo h (c:=.s id n) trivial hr
 | p id off=>exact CR.mo h (c:=.p id off) trivial hr
 | q cs off=>exact CR.mo h (c:=.q cs off) trivial hr
 | m id=>exact CR.mo h (c:=.m id) trivial hr
 | w id off n k=>exact CR.mo h (c:=.w id off n k) trivial hr
 | f fn ids=>exact CR.mo h (c:=.f fn ids) trivial hr
 | it _ _ _ _=>exact hr.elim
theorem Fp.one {M0 : Nat -> Prop} {w0 : World} {d : Nat} (h : Fp M0 w0 w) (hf : Fp (fun q => q = d) w w') (hd : M0 d \/ w0.heap.size <= d) : Fp M0 w0 w' :=
 ⟨hf.os.trans h.os, hf.tape.trans h.tape, hf.output.trans h.output, gBv h.size hf.size, fun k hk hm => (hf.block k (gBw hk h.size) (fun e => by
  rcases hd with hd | hd
  ·exact hm (e ▸ hd)
  ·omega)).trans (h.block k hk hm), gBv h.drawn hf.drawn⟩
theorem Mv.new (h:Mv g hp w hp' w' id' b c id d r') {M0:Nat->Prop} {n0:Nat} (hn:∀ ℓ,Lv hp g ℓ->M0 (g.γ ℓ)\/n0<=g.γ ℓ) (hb:M0 b\/n0<=b):∀ ℓ,Lv hp' (g.mv id' b c id) ℓ->M0 ((g.mv id' b c id).γ ℓ)\/n0<=(g.mv id' b c id).γ ℓ:=by
 intro ℓ hl
 by_cases hne:ℓ=.ob id'
 ·rw [hne,AU.1];exact hb
 obtain ⟨ℓs,s1,s2,_⟩:=h.src hl hne
 rw [s2];exact hn _ s1
end
end Go.Proofs.YtbnabodoabimnaaGreat
namespace Go.Proofs.YtbnabodoabimnaaGreat
set_option linter.unusedVariables false
set_option linter.unusedSimpArgs false
open Go.RowKit
def Ee (k:Nat) (hp:List Ob):AV->Option (Prop × List C × Nat)
 | .a (.c (.t k' cs))=>some (k'=k,cs.map C.ofTr,cs.length / k)
 | .a (.c (.v (.slice none 0 0)))=>some (True,[],0)
 | .a (.c (.s id m))=>match hp[id]? with
  | some (.r r)=>some (r.k=k/\m*k<=r.cells.length/\(r.cells.take (m*k)).all C.one=true,r.cells.take (m*k),m)
  | _=>none
 | .a (.c (.b id j m))=>match hp[id]? with
  | some (.r r)=>match r.cells[j]? with
   | some (.o k' cs)=>some (k'.1=k,cs.map C.ofTr,m)
   | _=>none
  | _=>none
 | .a (.c (.w id off m k'))=>match hp[id]? with
  | some (.r r)=>some (k'=k/\r.k=k/\(off+m)*k<=r.cells.length/\((r.cells.drop (off*k)).take (m*k)).all C.one=true,(r.cells.drop (off*k)).take (m*k),m)
  | _=>none
 | _=>none
def Dt (e k:Nat) (hp:List Ob) (m:Nat) (news:List C):AV->Option (Prop × List Ob × Nat)
 | .a (.c (.v (.slice none 0 0)))=>some (True,hp++[.r ⟨e,k,true,news⟩],m)
 | .a (.c (.s id n))=>match hp[id]? with
  | some (.r r)=>some (r.e=e/\r.k=k/\n*k<=r.cells.length/\(n+m ≠ 0\/n*k=r.cells.length),hp.set id .d++[.r { r with cells:=r.cells.take (n*k)++news }],n+m)
  | _=>none
 | .a (.c (.b id j n))=>match hp[id]? with
  | some (.r r)=>match r.cells[j]? with
   | some (.o k' cs)=>some (k'=(k,e),hp.set id (.r { r with cells:=r.cells.set j .u })++[.r ⟨e,k,true,cs.map C.ofTr++news⟩],n+m)
   | _=>none
  | _=>none
 | _=>none
def QH (P:Program) (ev:Operand->AV) (hp:List Ob) (c:Call):Option (Prop × List Ob × AV):=
 match c.callee,c.args.toList,c.argTypes.toList with
 | .builtin .append,[s,x],[t,t']=>match tyOf P t with
  | some y=>match y.kind,tyOf P y.elem with
   | 1,some z=>match Ee z.size hp (ev x) with
    | some (c1,news,m)=>match Dt y.elem z.size hp m news (ev s) with
     | some (c2,hp',n)=>if 0<z.size && z.zero.length == z.size && t == t' then some (c1/\c2/\n*z.bytes<=140737488355328/\n<=140737488355328,hp',.a (.c (.s hp.length n))) else none
     | none=>none
    | none=>none
   | _,_=>none
  | none=>none
 | _,_,_=>none

theorem Rd.one {M:Nat->Prop} {w:World} {t:Tr} {u:Value} (h:Rd M w t u):u.oneCell'=true:=by
 cases h <;> first | assumption | rfl
theorem ER {arr:Array Value} {n:Nat} {xs:List Value} (h:arr.toList.take n=xs) {i:Nat} {u:Value} (hu:xs[i]?=some u):arr[i]?=some u:=by
 rw [<- h,gAF] at hu
 split at hu
 ·simpa using hu
 cases hu
section
variable {P : Program} {g : Gh} {M0 : Nat -> Prop} {w0 w : World} {st : ST} {a : Act} {c : Prop}
theorem HN (hr:HR g st.hp w) {k:Nat} (hk:0<k) {x:AV} {y:Value} (hx:AVR (CR g st.hp w) x y) {news:List C} {m:Nat} (h:Ee k st.hp x=some (c,news,m)) (hc:c):
  ∃ A cp us,y=.slice A m cp/\Sl [] w A m cp k us/\LR (CR g st.hp w) news us/\(∀ u∈us,u.oneCell'=true)/\news.all C.one=true:=by
 have tree:∀ {cs:List Tr} {y:Value},((∃ A cp,cs=[]/\y=.slice A 0 cp)\/∃ (b off n cp:Nat) (us:Nat->Value),y=.slice (some ⟨b,off,none⟩) n cp/\cs.length=n*k/\0<n/\n<=cp/\b<w.heap.size/\
    (∀ (j:Nat) (t:Tr),cs[j]?=some t->w.cell? ⟨b,off+j,none⟩=some (us j))/\(∀ (j:Nat) (t:Tr),cs[j]?=some t->Rd (Ow st.hp g) w t (us j)))->
   ∃ A cp us,y=.slice A (cs.length / k) cp/\Sl [] w A (cs.length / k) cp k us/\LR (CR g st.hp w) (cs.map C.ofTr) us/\(∀ u∈us,u.oneCell'=true)/\(cs.map C.ofTr).all C.one=true:=by
  intro cs y hy
  rcases hy with ⟨A,cp,rfl,rfl⟩ | ⟨b,off,n,cp,us,rfl,hn,h0,hcp,hb,h1,h2⟩
  ·exact ⟨A,cp,[],by simp,⟨by simp,by simp,fun h=>by simp at h⟩,⟨rfl,fun i x hx=>by simp at hx⟩,by simp,by simp⟩
  ·have hdiv:cs.length / k=n:=by rw [hn,Nat.mul_div_cancel _ hk]
   rw [hdiv]
   refine ⟨_,cp,(List.range cs.length).map us,rfl,⟨by simp [hn],by omega,fun _=>⟨b,off,rfl,by simp,hb,fun j u hj=>?_⟩⟩,⟨by simp,fun i x hx=>?_⟩,fun u hu=>?_,?_⟩
   ·simp only [gAC,gBG] at hj
    obtain ⟨j',hj',rfl⟩:=hj
    obtain ⟨hlt,e⟩:=List.getElem?_eq_some_iff.1 hj'
    simp at e hlt
    subst e
    exact h1 _ _ (gE1 hlt)
   ·rw [gAC,gBG] at hx
    obtain ⟨t,ht,rfl⟩:=hx
    have hlt:=(List.getElem?_eq_some_iff.1 ht).1
    exact ⟨us i,by simp [hlt],Ec (h2 i t ht)⟩
   ·simp only [gB7,gBa] at hu
    obtain ⟨j,hj,rfl⟩:=hu
    exact (h2 j _ (gE1 hj)).one
   ·simp only [gAg,gB7]
    rintro _ ⟨t,ht,rfl⟩
    obtain ⟨i,hi⟩:=gB6.1 ht
    have:=h2 i t hi
    cases t with
    | v x=>
     cases this with
     | v _ h1=>cases hus:us i <;> rw [hus] at h1 <;> first | rfl | cases h1
    | l k cs=>rfl
 unfold Ee at h
 split at h
 rotate_left 5
 ·cases h
 ·rename_i k' cs
  simp only [gBI,gBJ] at h
  obtain ⟨rfl,rfl,rfl⟩:=h
  subst hc
  refine tree ?_
  cases (show Rd _ _ _ _ from hx) with
  | e A cp=>exact .inl ⟨_,_,rfl,rfl⟩
  | l _ _ b off n cp us hn h0 hcp hM hb h1 h2=>exact .inr ⟨b,off,n,cp,us,rfl,hn,h0,hcp,hb,h1,h2⟩
 ·simp only [gBI,gBJ] at h
  obtain ⟨_,rfl,rfl⟩:=h
  cases (show y=_ from hx)
  exact ⟨none,0,[],rfl,Sl.nil _ _ _,⟨rfl,fun i x hx=>by simp at hx⟩,by simp,rfl⟩
 ·rename_i id m'
  obtain ⟨b1,b2,A,b3,b4,b5⟩:=hx
  split at h
  rotate_left
  ·cases h
  rename_i r hrow
  simp only [gBI,gBJ] at h
  obtain ⟨rfl,rfl,rfl⟩:=h
  obtain ⟨c1,c2,c3⟩:=hc
  rcases hr.row id r hrow with ⟨h0,h2⟩ | ⟨h0,_,arr,ha,hl,hs,_,hcells⟩
  ·have:m'=0:=by omega
   subst this
   rw [h2]
   exact ⟨A,_,[],b3,⟨by simp,gBE _,fun h=>absurd h (by omega)⟩,⟨by simp,fun i x hx=>by simp at hx⟩,by simp,by simp⟩
  have hLR:LR (CR g st.hp w) (r.cells.take (m'*k)) (arr.toList.take (m'*k)):=by
   refine ⟨by simp;omega,fun i x hx=>?_⟩
   have hone:=gAg.1 c3 x (gE9 hx)
   rw [gAF] at hx ⊢
   split at hx
   rotate_left
   ·cases hx
   rename_i hlt
   obtain ⟨u,f1,f2⟩:=hcells i x hx
   refine ⟨u,by rw [if_pos hlt];simpa using f1,?_⟩
   cases x <;> first | exact f2 | cases hone
  refine ⟨A,_,arr.toList.take (m'*k),b3,⟨by rw [hLR.1,gAS];omega,b2,fun _=>⟨g.γ (.ob id),0,b4 h0,by simp,(Array.getElem?_eq_some_iff.1 ha).1,fun j u hj=>?_⟩⟩,hLR,fun u hu=>?_,c3⟩
  ·rw [gBD,cell_of_row _ _ _ _ _ _ ha]
   exact ER rfl hj
  obtain ⟨i,hi⟩:=gB6.1 hu
  have hlt:i<(r.cells.take (m'*k)).length:=by rw [<- hLR.1];exact (List.getElem?_eq_some_iff.1 hi).1
  obtain ⟨v,v1,v2⟩:=hLR.2 i _ (gE1 hlt)
  rw [hi] at v1;cases v1
  exact Ua (gAg.1 c3 _ (gE6 hlt)) v2
 ·rename_i id j m'
  obtain ⟨b1,b2⟩:=hx
  split at h
  rotate_left
  ·cases h
  rename_i r hrow
  split at h
  rotate_left
  ·cases h
  rename_i k' cs hcell
  simp only [gBI,gBJ] at h
  obtain ⟨rfl,rfl,rfl⟩:=h
  subst hc
  obtain ⟨f1,f2,f3,_⟩:=b2 r k' cs hrow hcell
  rcases hr.row id r hrow with ⟨h0,h2⟩ | ⟨h0,_,arr,ha,hl,hs,_,hcells⟩
  ·rw [h2] at hcell;simp at hcell
  obtain ⟨u,u1,u2⟩:=hcells j _ hcell
  rw [cell_of_row _ _ _ _ _ _ ha,u1] at f2
  cases f2
  have hdiv:cs.length / k'.1=m':=by rw [f3,Nat.mul_div_cancel _ hk]
  rw [<- hdiv]
  refine tree ?_
  rcases u2 with ⟨h1,A,h2,_⟩ | ⟨h1,n,cp,arr',h2,h3,h4,h5,h6,h7,h8⟩
  ·exact .inl ⟨A,0,h1,h2⟩
  refine .inr ⟨_,0,n,cp,(fun i=>(arr'[i]?).getD undef),h2,h3,?_,h4,(Array.getElem?_eq_some_iff.1 h6).1,(fun i t hi=>?_),(fun i t hi=>?_)⟩
  rotate_left
  ·obtain ⟨u,g1,g2⟩:=h8 i t hi
   rw [gBD,cell_of_row _ _ _ _ _ _ h6,g1];simp [g1]
  ·obtain ⟨u,g1,g2⟩:=h8 i t hi
   simp only [g1,gBF];exact g2
  rcases gBs n with h0 | h0
  ·rw [h0] at h3;simp at h3;exact absurd h3 h1
  exact h0
 rename_i id off m' k'
 obtain ⟨b1,b2,b3,b4⟩:=hx
 split at h
 rotate_left
 ·cases h
 rename_i r hrow
 simp only [gBI,gBJ] at h
 obtain ⟨rfl,rfl,rfl⟩:=h
 obtain ⟨c0,c1,c2,c3⟩:=hc
 subst c0
 rcases hr.row id r hrow with ⟨h0,h2⟩ | ⟨h0,_,arr,ha,hl,hs,_,hcells⟩
 ·omega
 have hmul:off*k'+m'*k'<=r.cells.length:=by rw [<- Nat.add_mul];exact c2
 have hLR:LR (CR g st.hp w) ((r.cells.drop (off*k')).take (m'*k')) ((arr.toList.drop (off*k')).take (m'*k')):=by
  refine ⟨by simp;omega,fun i x hx=>?_⟩
  have hone:=gAg.1 c3 x (gE9 hx)
  rw [gAF] at hx ⊢
  split at hx
  rotate_left
  ·cases hx
  rename_i hlt
  rw [gAA] at hx ⊢
  obtain ⟨u,f1,f2⟩:=hcells _ x hx
  refine ⟨u,by rw [if_pos hlt];simpa using f1,?_⟩
  cases x <;> first | exact f2 | cases hone
 refine ⟨_,_,(arr.toList.drop (off*k')).take (m'*k'),b4,⟨by rw [hLR.1,gAS,gAK];omega,by omega,fun _=>⟨g.γ (.ob id),off*k',rfl,by simp,(Array.getElem?_eq_some_iff.1 ha).1,fun j u hj=>?_⟩⟩,hLR,fun u hu=>?_,c3⟩
 ·rw [cell_of_row _ _ _ _ _ _ ha]
  rw [gAF] at hj
  split at hj
  rotate_left
  ·cases hj
  rw [gAA] at hj
  simpa using hj
 obtain ⟨i,hi⟩:=gB6.1 hu
 have hlt:i<((r.cells.drop (off*k')).take (m'*k')).length:=by rw [<- hLR.1];exact (List.getElem?_eq_some_iff.1 hi).1
 obtain ⟨v,v1,v2⟩:=hLR.2 i _ (gE1 hlt)
 rw [hi] at v1;cases v1
 exact Ua (gAg.1 c3 _ (gE6 hlt)) v2
theorem LR.fr {xs:List C} {us:List Value} (h:LR (CR g st.hp w) xs us) (h1:xs.all C.one=true) {j:Nat} {x:C} (hj:xs[j]?=some x):∃ u,us[j]?=some u/\Gr g st.hp w x u:=by
 obtain ⟨u,u1,u2⟩:=h.2 j x hj
 have:=gAg.1 h1 x (gE9 hj)
 exact ⟨u,u1,(by cases x <;> first | rfl | cases this),.inl u2⟩
theorem Fj (h:RelG g M0 w0 st a w) {e k m:Nat} (hk:0<k) {news:List C} {us:List Value} (hlr:LR (CR g st.hp w) news us) (hone:news.all C.one=true) (hlen:us.length=m*k) {v':Value} {w':World} {A:Option Addr} (hA:∀ b,A=some b->b.block<w.heap.size)
  (hap:ApR w e k (.slice A 0 0) 0 m [] us v' w') {hp':List Ob} {id:Nat} {sl:Bool} (hid:¬ Bn st.hp id) (hne:∀ i,i ≠ id->hp'[i]?=st.hp[i]?) (h1:hp'[id]?=some (.r ⟨e,k,sl,news⟩)):
  ∃ g',RelG g' M0 w0 { st with hp:=hp' } a w'/\CR g' hp' w' (.s id m) v'/\∀ n,n<=id->Ext n g g':=by
 rcases hap with ⟨h0,rfl,rfl⟩ | ⟨b,cap,arr,hm,rfl,hc,h2,h3,h4,h5,h6,h7⟩
 ·subst h0
  have hn:news=[]:=gAt (by rw [<- hlr.1,hlen];simp)
  have hb:=h.birth0 (w':=w') hid hne h1 hn (Fp.refl _ _)
  exact ⟨_,hb,⟨⟨_,h1,rfl⟩,gBE _,A,by rw [g.at_self.2],fun hn=>absurd g.at_self.2 hn,hA⟩,fun n hn=>Dr hn⟩
 have hnew:b=w.heap.size/\Fp (fun _=>False) w w':=by
  rcases h7 with h7 | ⟨bo,capo,h8,h9,_⟩
  ·exact h7
  cases h8;exact absurd rfl h9
 obtain ⟨rfl,hfp⟩:=hnew
 simp only [gBD,gBc] at h6 h3
 have hul:us.length<=arr.size:=by
  have:=congrArg List.length h6
  rw [gAS] at this
  simp at this
  omega
 have hb:=h.birthG (b:=w.heap.size) (c:=cap) (arr:=arr) hid hne h1 hc (fun _ hnil=>by
   simp only at hnil
   have:=hlr.1
   rw [hnil,hlen] at this
   have:=Nat.mul_pos (Nat.pos_of_ne_zero hm) hk
   simp at *;omega) h4 (by rw [<- hlr.1];exact hul) h5 (fun j x hj=>by
    obtain ⟨u,u1,u2⟩:=hlr.fr hone hj
    exact ⟨u,ER h6 u1,u2⟩) hfp (gBu _) h2
 exact ⟨_,hb,⟨⟨_,h1,rfl⟩,by rw [g.at_self.2];exact h3,_,by rw [g.at_self.2,gBD],fun _=>by rw [g.at_self.1],fun b hb=>by cases hb;exact (Array.getElem?_eq_some_iff.1 h2).1⟩,fun n hn=>Dr hn⟩
theorem ApR.uni {w w':World} {e k n m bo capo:Nat} {old news:List Value} {v':Value} (h:ApR w e k (.slice (some ⟨bo,0,none⟩) n capo) n m old news v' w') {arr0:Array Value} (h0:w.heap[bo]?=some (.cells arr0 e (0,0))) (hc:capo ≠ 0) (hn:n<=capo) (hcm:capo<=9223372036854775807) (hs:arr0.size=capo*k) (ho:arr0.toList.take (n*k)=old)
  (hl:news.length=m*k):
  ∃ (b cap:Nat) (arr:Array Value),v'=.slice (some ⟨b,0,none⟩) (n+m) cap/\cap ≠ 0/\w'.heap[b]?=some (.cells arr e (0,0))/\n+m<=cap/\cap<=9223372036854775807/\arr.size=cap*k/\arr.toList.take ((n+m)*k)=old++news/\
  (b=bo\/w.heap.size<=b)/\Fp (fun q=>q=bo) w w':=by
 rcases h with ⟨rfl,rfl,rfl⟩ | ⟨b,cap,arr,hm,rfl,h1,h2,h3,h4,h5,h6,h7⟩
 ·have:news=[]:=gAt (by rw [hl];simp)
  subst this
  exact ⟨bo,capo,arr0,rfl,hc,h0,hn,hcm,hs,by simpa using ho,.inl rfl,Fp.refl _ _⟩
 refine ⟨b,cap,arr,rfl,h1,h2,h3,h4,h5,h6,?_⟩
 rcases h7 with ⟨h7,h8⟩ | ⟨b2,c2,h7,_,h8,h9⟩
 ·exact ⟨.inr (by omega),h8.mono (fun _ _ h=>h.elim)⟩
 cases h7
 exact ⟨h8.elim (fun h=>.inr (by omega)) .inl,h9⟩
theorem JK {hp:List Ob} {ob:Ob} {id i:Nat} {o:Ob} (h:(hp.set id .d++[ob])[i]?=some o) (hne:i ≠ hp.length):(i=id/\o=.d)\/(i ≠ id/\hp[i]?=some o):=by
 rw [show hp.length=(hp.set id .d).length from by simp] at hne
 rw [BO _ _ hne,gAE] at h
 split at h
 rotate_left
 ·rename_i e;exact .inr ⟨fun e'=>e e'.symm,h⟩
 rename_i e
 split at h
 ·cases h;exact .inl ⟨e.symm,rfl⟩
 cases h
theorem Q2 {hp:List Ob} {ob o:Ob} {id i:Nat} (ho:o.born=true) (h:Bn hp i):Bn (hp.set id o++[ob]) i:=by
 obtain ⟨x0,h1,h2⟩:=h
 have hlt:i<hp.length:=(List.getElem?_eq_some_iff.1 h1).1
 refine ⟨if id=i then o else x0,?_,by split <;> assumption⟩
 rw [gEa (by simpa using hlt),gAE]
 split
 ·rename_i e;subst e;simp [hlt]
 exact h1
theorem Q3 (h:RelG g M0 w0 st a w) {id n m:Nat} {r:Row} (hrow:st.hp[id]?=some (.r r)) (hk:0<r.k) (h0:g.κ id ≠ 0) (hnk:n*r.k<=r.cells.length) (hnz:n+m ≠ 0\/n*r.k=r.cells.length) (hnc:n<=g.κ id)
  {news:List C} {us old:List Value} (hlr:LR (CR g st.hp w) news us) (hone:news.all C.one=true) (hlen:us.length=m*r.k) {v':Value} {w':World} {arr0:Array Value} (ha0:w.heap[g.γ (.ob id)]?=some (.cells arr0 r.e (0,0))) (hold:arr0.toList.take (n*r.k)=old)
  (hap:ApR w r.e r.k (.slice (some ⟨g.γ (.ob id),0,none⟩) n (g.κ id)) n m old us v' w'):
  ∃ g',RelG g' M0 w0 { st with hp:=st.hp.set id .d++[.r { r with cells:=r.cells.take (n*r.k)++news }] } a w'/\CR g' (st.hp.set id .d++[.r { r with cells:=r.cells.take (n*r.k)++news }]) w' (.s st.hp.length (n+m)) v'/\Ext st.hp.length g g':=by
 rcases h.hr.row id r hrow with ⟨h2,_⟩ | ⟨_,htight,arr1,ha,hl,hs,hm,hcells⟩
 ·exact absurd h2 h0
 rw [ha0] at ha
 cases ha
 obtain ⟨b,cap,arr,rfl,c1,c2,c3,c4,c5,c6,c7,c8⟩:=hap.uni ha0 h0 hnc hm hs hold hlen
 have hlive:Lv st.hp g (.ob id):=.inl ⟨r,hrow,h0⟩
 have hid:id<st.hp.length:=(List.getElem?_eq_some_iff.1 hrow).1
 have h1':(st.hp.set id .d++[.r { r with cells:=r.cells.take (n*r.k)++news }])[st.hp.length]?=some (.r { r with cells:=r.cells.take (n*r.k)++news }):=by
  have:=Bb (hp:=st.hp.set id .d) (.r { r with cells:=r.cells.take (n*r.k)++news })
  simp
 have hdead:(st.hp.set id .d++[.r { r with cells:=r.cells.take (n*r.k)++news }])[id]?=some .d:=by
  rw [gEa (by simpa using hid)];simp [hid]
 have hnewo:∀ {j:Nat} {k:Nat × Nat} {cs:List Tr},(r.cells.take (n*r.k)++news)[j]?=some (.o k cs)->j<n*r.k/\r.cells[j]?=some (.o k cs):=by
  intro j k cs hj
  rcases gBx j (r.cells.take (n*r.k)).length with hlt | hge
  ·rw [gEa hlt,gAF] at hj
   split at hj
   ·exact ⟨by assumption,hj⟩
   cases hj
  rw [gEb hge] at hj
  have:=gAg.1 hone _ (gE9 hj)
  cases this
 have hMv:Mv g st.hp w (st.hp.set id .d++[.r { r with cells:=r.cells.take (n*r.k)++news }]) w' st.hp.length b cap id (g.γ (.ob id)) { r with cells:=r.cells.take (n*r.k)++news }:=by
  refine ⟨c7,CH,fun i hi=>Q2 rfl hi,h1',fun i r2 hi e1=>?_,fun i kv e1=>?_,fun j k cs hj hne=>?_,fun ℓ hl' he hl2=>?_,?_⟩
  rotate_left 3
  ·have:=h.hr.inj ℓ (.ob id) hl' hlive he
   subst this
   rcases hl2 with ⟨r2,e,_⟩ | ⟨kv,e⟩
   ·rw [hdead] at e;cases e
   rw [hdead] at e;cases e
  ·exact c8.mono (fun q _ e=>⟨e,.inr ⟨.ob id,hlive,rfl⟩⟩)
  ·rcases JK e1 hi with ⟨_,e⟩ | ⟨_,e⟩
   ·cases e
   exact ⟨r2,e,rfl,rfl,rfl,rfl,fun j c hj=>.inr hj⟩
  ·have hi:i ≠ st.hp.length:=by
    rintro rfl
    rw [h1'] at e1;cases e1
   rcases JK e1 hi with ⟨_,e⟩ | ⟨_,e⟩
   ·cases e
   exact e
  obtain ⟨_,q2⟩:=hnewo hj
  refine ⟨⟨r,hrow,q2⟩,(fun r2 e=>by rw [hdead] at e;cases e),fun e=>?_⟩
  have:=h.hr.inj (.cl id j) (.ob id) ⟨r,k,cs,hrow,q2,hne⟩ hlive e
  cases this
 have hnew:w.heap.size<=b\/∃ ℓ,Lv st.hp g ℓ/\g.γ ℓ=b:=by
  rcases c7 with c7 | c7
  ·right;rw [c7];exact ⟨.ob id,hlive,rfl⟩
  exact .inl c7
 have hmo:=hMv.mo h.hr (hnew.imp (fun h=>h) .inr)
 have hrowR:RowR (g.mv st.hp.length b cap id) (st.hp.set id .d++[.r { r with cells:=r.cells.take (n*r.k)++news }]) w' st.hp.length { r with cells:=r.cells.take (n*r.k)++news }:=by
  refine .inr ⟨by rw [AU.2.1];exact c1,fun hsl hnil=>?_,arr,by rw [AU.1];exact c2,?_,by rw [AU.2.1];exact c5,by rw [AU.2.1];exact c4,fun j x hj=>?_⟩
  ·simp only [List.append_eq_nil_iff] at hnil
   obtain ⟨z1,z2⟩:=hnil
   have hm0:m=0:=by
    have:=hlr.1
    rw [z2,hlen] at this
    rcases gBs m with h | h
    ·exact h
    have:=Nat.mul_pos h hk;simp at *;omega
   have hz:(r.cells.take (n*r.k)).length=0:=by rw [z1];rfl
   rw [gAS,gBy hnk] at hz
   rcases hnz with h3 | h3
   rotate_left
   ·exact htight hsl (gAt (by rw [<- h3];exact hz))
   have hn0:0<n:=by omega
   have:=Nat.mul_pos hn0 hk;omega
  ·have:=congrArg List.length c6
   rw [gAS,gAI,hlr.1] at this
   have hol:old.length=n*r.k:=by rw [<- hold,gAS];simp;omega
   simp at this ⊢
   omega
  rcases gBx j (r.cells.take (n*r.k)).length with hlt | hge
  rotate_left
  ·simp only [gEb hge] at hj
   obtain ⟨u,u1,u2⟩:=hlr.fr hone hj
   refine ⟨u,ER c6 ?_,Cp hmo u2⟩
   have hol:old.length=(r.cells.take (n*r.k)).length:=by rw [<- hold,gAS,gAS];simp;omega
   rw [gEb (by omega),hol]
   exact u1
  simp only [gEa hlt,gAF] at hj
  split at hj
  rotate_left
  ·cases hj
  rename_i hjn
  obtain ⟨u,u1,u2⟩:=hcells j x hj
  refine ⟨u,ER c6 ?_,?_⟩
  ·rw [<- hold,gEa (by rw [gAS];simp;have:=(Array.getElem?_eq_some_iff.1 u1).1;omega),gAF,if_pos hjn]
   simpa using u1
  refine CellR.mv hmo u2 (fun k cs hx hn=>⟨AU.2.2 j,?_⟩)
  have hlc:Lv st.hp g (.cl id j):=⟨r,k,cs,hrow,by rw [hj,hx],hn⟩
  exact c8.block _ (h.hr.lt hlc) (fun e=>by have:=h.hr.inj _ _ hlc hlive e;cases this)
 exact ⟨_,h.mo hmo (hMv.hr h.hr hnew hrowR) (hMv.new h.new (by
  rcases c7 with c7 | c7
  ·rw [c7];exact h.new _ hlive
  ·right;exact gBv h.fp.size c7)) (h.fp.one c8 (h.new _ hlive)),⟨⟨_,h1',rfl⟩,by rw [AU.2.1];exact c3,_,by rw [AU.2.1],fun _=>by rw [AU.1],fun q hq=>by cases hq;exact (Array.getElem?_eq_some_iff.1 c2).1⟩,JJ (gBu _)⟩
theorem HO {hp:List Ob} {ob o':Ob} {id i:Nat} {o:Ob} (h:(hp.set id o'++[ob])[i]?=some o) (hne:i ≠ hp.length):(i=id/\o=o')\/(i ≠ id/\hp[i]?=some o):=by
 rw [show hp.length=(hp.set id o').length from by simp] at hne
 rw [BO _ _ hne,gAE] at h
 split at h
 rotate_left
 ·rename_i e;exact .inr ⟨fun e'=>e e'.symm,h⟩
 rename_i e
 split at h
 ·cases h;exact .inl ⟨e.symm,rfl⟩
 cases h
theorem Oz {cs:List Tr} {M:Nat->Prop} {us:Nat->Option Value} (h:∀ (i:Nat) (t:Tr),cs[i]?=some t->∃ u,us i=some u/\Rd M w t u):(cs.map C.ofTr).all C.one=true:=by
 simp only [gAg,gB7]
 rintro _ ⟨t,ht,rfl⟩
 obtain ⟨i,hi⟩:=gB6.1 ht
 obtain ⟨u,_,hu⟩:=h i t hi
 cases t with
 | v x=>
  cases hu with
  | v _ h1=>cases u <;> first | rfl | cases h1
 | l k cs=>rfl
theorem Q4 (h:RelG g M0 w0 st a w) {id j n m k e:Nat} {r:Row} {cs:List Tr} (hrow:st.hp[id]?=some (.r r)) (hcell:r.cells[j]?=some (.o (k,e) cs)) (hk:0<k) {news:List C} {us:List Value} (hlr:LR (CR g st.hp w) news us) (hone:news.all C.one=true) (hlen:us.length=m*k)
  {v v':Value} {w':World} (hv:CR g st.hp w (.b id j n) v) (hap:∀ old,Oy w e k v n old->ApR w e k v n m old us v' w'):
  ∃ g',RelG g' M0 w0 { st with hp:=st.hp.set id (.r { r with cells:=r.cells.set j .u })++[.r ⟨e,k,true,cs.map C.ofTr++news⟩] } a w'/\
   CR g' (st.hp.set id (.r { r with cells:=r.cells.set j .u })++[.r ⟨e,k,true,cs.map C.ofTr++news⟩]) w' (.s st.hp.length (n+m)) v'/\Ext st.hp.length g g':=by
 rcases h.hr.row id r hrow with ⟨_,h2⟩ | ⟨h0,htight,arr1,ha,hl,hs,hm,hcells⟩
 ·rw [h2] at hcell;simp at hcell
 have hid:id<st.hp.length:=(List.getElem?_eq_some_iff.1 hrow).1
 have hjl:j<r.cells.length:=(List.getElem?_eq_some_iff.1 hcell).1
 obtain ⟨_,hb2⟩:=hv
 obtain ⟨v1,v2,v3,A1,cp1,v4⟩:=hb2 r _ cs hrow hcell
 obtain ⟨u,u1,u2⟩:=hcells j _ hcell
 rw [cell_of_row _ _ _ _ _ _ ha,u1] at v2
 cases v2
 simp only at v3
 have h1':(st.hp.set id (.r { r with cells:=r.cells.set j .u })++[.r ⟨e,k,true,cs.map C.ofTr++news⟩])[st.hp.length]?=some (.r ⟨e,k,true,cs.map C.ofTr++news⟩):=by
  have:=Bb (hp:=st.hp.set id (.r { r with cells:=r.cells.set j .u })) (.r ⟨e,k,true,cs.map C.ofTr++news⟩)
  simp
 have hat:(st.hp.set id (.r { r with cells:=r.cells.set j .u })++[.r ⟨e,k,true,cs.map C.ofTr++news⟩])[id]?=some (.r { r with cells:=r.cells.set j .u }):=by
  rw [gEa (by simpa using hid)];simp [hid]
 have mk:∀ (b cap d:Nat),(cs.map C.ofTr).all C.one=true->(b=d\/w.heap.size<=b)->(d=w.heap.size\/(cs ≠ []/\d=g.γ (.cl id j)))->Fp (fun q=>q=d/\Ow st.hp g d) w w'->
   Mv g st.hp w (st.hp.set id (.r { r with cells:=r.cells.set j .u })++[.r ⟨e,k,true,cs.map C.ofTr++news⟩]) w' st.hp.length b cap id d ⟨e,k,true,cs.map C.ofTr++news⟩:=by
  intro b cap d hco hbd hd hfp
  refine ⟨hbd,CH,fun i hi=>Q2 rfl hi,h1',fun i r2 hi e1=>?_,fun i kv e1=>?_,fun j k' cs' hj hne=>?_,fun ℓ hl' he hl2=>?_,hfp⟩
  ·rcases HO e1 hi with ⟨rfl,e⟩ | ⟨_,e⟩
   ·cases e
    refine ⟨r,hrow,rfl,rfl,rfl,by simp,fun j' c hj'=>?_⟩
    rw [gAE] at hj'
    split at hj'
    ·left;(try split at hj') <;> first | (cases hj';rfl) | cases hj'
    ·exact .inr hj'
   ·exact ⟨r2,e,rfl,rfl,rfl,rfl,fun j c hj=>.inr hj⟩
  ·have hi:i ≠ st.hp.length:=by
    rintro rfl
    rw [h1'] at e1;cases e1
   rcases HO e1 hi with ⟨_,e⟩ | ⟨_,e⟩
   ·cases e
   ·exact e
  ·exfalso
   have:=gE9 hj
   rcases gB0.1 this with h | h
   ·have:=gAg.1 hco _ h;cases this
   ·have:=gAg.1 hone _ h;cases this
  ·rcases hd with rfl | ⟨hne,rfl⟩
   ·have:=h.hr.lt hl';omega
   ·have:=h.hr.inj ℓ (.cl id j) hl' ⟨r,(k,e),cs,hrow,hcell,hne⟩ he
    subst this
    obtain ⟨r2,k2,cs2,e1,e2,_⟩:=hl2
    rw [hat] at e1
    cases e1
    simp [hjl] at e2
 have rowlen:∀ (L:List Value),LR (CR g st.hp w) (cs.map C.ofTr++news) L->∀ (arr:Array Value) (q:Nat),arr.toList.take q=L->(cs.map C.ofTr++news).length<=arr.size:=by
  intro L hL arr q hq
  have:=congrArg List.length hq
  rw [gAS,hL.1] at this
  have:L.length<=arr.size:=by rw [<- hq,gAS];simp;omega
  rw [hL.1] at this;exact this
 rcases u2 with ⟨hcs,A,hA,hAb⟩ | ⟨hne,n',c',arr',hA,k1,k2,k3,k4,k5,k6⟩
 ·subst hcs
  subst hA
  have hn:n=0:=by cases v4;rfl
  subst hn
  have hap':=hap [] (.inl ⟨A,rfl,rfl,rfl,hAb⟩)
  rcases hap' with ⟨hm0,rfl,rfl⟩ | ⟨b,cap,arr,hm0,rfl,c1,c2,c3,c4,c5,c6,c7⟩
  ·subst hm0
   have hnil:news=[]:=gAt (by rw [<- hlr.1,hlen];simp)
   subst hnil
   have hMv:=mk w'.heap.size 0 w'.heap.size rfl (.inl rfl) (.inl rfl) (Fp.refl _ _)
   have hmo:=hMv.mo h.hr (.inl (gBu _))
   have hrowR:RowR (g.mv st.hp.length w'.heap.size 0 id) (st.hp.set id (.r { r with cells:=r.cells.set j .u })++[.r ⟨e,k,true,([]:List Tr).map C.ofTr++[]⟩]) w' st.hp.length ⟨e,k,true,([]:List Tr).map C.ofTr++[]⟩:=.inl ⟨by rw [AU.2.1],rfl⟩
   exact ⟨_,h.mo hmo (hMv.hr h.hr (.inl (gBu _)) hrowR) (hMv.new h.new (.inr h.fp.size)) h.fp,⟨⟨_,h1',rfl⟩,gBE _,A,by rw [AU.2.1],fun hn=>absurd AU.2.1 hn,hAb⟩,JJ (gBu _)⟩
  have hnew:b=w.heap.size/\Fp (fun _=>False) w w':=by
   rcases c7 with c7 | ⟨bo,capo,h8,h9,_⟩
   ·exact c7
   cases h8;exact absurd rfl h9
  obtain ⟨rfl,hfp⟩:=hnew
  simp only [gBc] at c6
  have hMv:=mk w.heap.size cap w.heap.size rfl (.inl rfl) (.inl rfl) (hfp.mono (fun _ _ h=>h.elim))
  have hmo:=hMv.mo h.hr (.inl (gBu _))
  have hrowR:RowR (g.mv st.hp.length w.heap.size cap id) (st.hp.set id (.r { r with cells:=r.cells.set j .u })++[.r ⟨e,k,true,([]:List Tr).map C.ofTr++news⟩]) w' st.hp.length ⟨e,k,true,([]:List Tr).map C.ofTr++news⟩:=by
   refine .inr ⟨by rw [AU.2.1];exact c1,fun _ hnil=>?_,arr,by rw [AU.1];exact c2,rowlen us (by simpa using hlr) arr _ c6,by rw [AU.2.1];exact c5,by rw [AU.2.1];exact c4,fun i x hx=>?_⟩
   rotate_left
   ·obtain ⟨u,e1,e2⟩:=hlr.fr hone (by simpa using hx)
    exact ⟨u,ER c6 e1,Cp hmo e2⟩
   have h3:news=[]:=by simpa using hnil
   have:=hlr.1
   rw [h3,hlen] at this
   have:=Nat.mul_pos (Nat.pos_of_ne_zero hm0) hk
   simp at *;omega
  exact ⟨_,h.mo hmo (hMv.hr h.hr (.inl (gBu _)) hrowR) (hMv.new h.new (.inr h.fp.size)) (h.fp.trans (hfp.mono (fun _ _ h=>h.elim))),⟨⟨_,h1',rfl⟩,by rw [AU.2.1];exact c3,_,by rw [AU.2.1],fun _=>by rw [AU.1],fun q hq=>by cases hq;exact (Array.getElem?_eq_some_iff.1 c2).1⟩,JJ (gBu _)⟩
 subst hA
 have hn:n'=n:=by cases v4;rfl
 subst hn
 simp only at k1 k4 k5
 have hc0:c' ≠ 0:=by
  rintro rfl
  have:n'=0:=by omega
  rw [this] at k1
  simp at k1
  exact hne k1
 have hlc:Lv st.hp g (.cl id j):=⟨r,(k,e),cs,hrow,hcell,hne⟩
 have hol:(arr'.toList.take (n'*k)).length=n'*k:=by
  rw [gAS]
  have:n'*k<=c'*k:=gBA _ k2
  simp;omega
 have hap':=hap (arr'.toList.take (n'*k)) (.inr ⟨_,c',arr',rfl,hc0,k4,k2,k3,k5,rfl,hol⟩)
 obtain ⟨b,cap,arr,rfl,c1,c2,c3,c4,c5,c6,c7,c8⟩:=hap'.uni k4 hc0 k2 k3 k5 rfl hlen
 have hco:(cs.map C.ofTr).all C.one=true:=Oz (us:=fun i=>arr'[i]?) k6
 have hMv:=mk b cap (g.γ (.cl id j)) hco c7 (.inr ⟨hne,rfl⟩) (c8.mono (fun q _ e=>⟨e,.inr ⟨.cl id j,hlc,rfl⟩⟩))
 have hnew:w.heap.size<=b\/∃ ℓ,Lv st.hp g ℓ/\g.γ ℓ=b:=by
  rcases c7 with c7 | c7
  ·right;rw [c7];exact ⟨.cl id j,hlc,rfl⟩
  exact .inl c7
 have hmo:=hMv.mo h.hr (hnew.imp (fun h=>h) .inr)
 have hcsl:LR (CR g st.hp w) (cs.map C.ofTr) (arr'.toList.take (n'*k)):=by
  refine ⟨by rw [hol];simp [k1],fun i x hx=>?_⟩
  rw [gAC,gBG] at hx
  obtain ⟨t,ht,rfl⟩:=hx
  obtain ⟨u,g1,g2⟩:=k6 i t ht
  have hlt:=(List.getElem?_eq_some_iff.1 ht).1
  exact ⟨u,by rw [gAF,if_pos (by omega)];simpa using g1,Ec g2⟩
 have hall:=hcsl.append hlr
 have honeA:(cs.map C.ofTr++news).all C.one=true:=by rw [List.all_append,hco,hone];rfl
 have hrowR:RowR (g.mv st.hp.length b cap id) (st.hp.set id (.r { r with cells:=r.cells.set j .u })++[.r ⟨e,k,true,cs.map C.ofTr++news⟩]) w' st.hp.length ⟨e,k,true,cs.map C.ofTr++news⟩:=by
  refine .inr ⟨by rw [AU.2.1];exact c1,fun _ hnil=>?_,arr,by rw [AU.1];exact c2,rowlen _ hall arr _ c6,by rw [AU.2.1];exact c5,by rw [AU.2.1];exact c4,fun i x hx=>?_⟩
  ·simp at hnil;exact hne hnil.1
  obtain ⟨u,e1,e2⟩:=hall.fr honeA hx
  exact ⟨u,ER c6 e1,Cp hmo e2⟩
 exact ⟨_,h.mo hmo (hMv.hr h.hr hnew hrowR) (hMv.new h.new (by
  rcases c7 with c7 | c7
  ·rw [c7];exact h.new _ hlc
  ·right;exact gBv h.fp.size c7)) (h.fp.one c8 (h.new _ hlc)),⟨⟨_,h1',rfl⟩,by rw [AU.2.1];exact c3,_,by rw [AU.2.1],fun _=>by rw [AU.1],fun q hq=>by cases hq;exact (Array.getElem?_eq_some_iff.1 c2).1⟩,JJ (gBu _)⟩
theorem UB {t:TypeId} {y z:Ty} (hty:tyOf P t=some y) (hk:y.kind=1) (hz:tyOf P y.elem=some z) (h0:0<z.size) (hl:z.zero.length=z.size):ET P t y.elem z.size z.bytes:=by
 obtain ⟨i,zv,hi,hzv,hs,hb,hzc⟩:=tyOf.info hz
 exact ⟨tyOf.slice hty hk,⟨i,zv,hi,hzv,hs,hb,by rw [<- hl,<- hzc];simp⟩,h0⟩
theorem OA (h:RelG g M0 w0 st a w) {o:Oper} {cl:Call} (ho:o.op=.call cl) {hp':List Ob} {x:AV} (ha:QH P st.ev st.hp cl=some (c,hp',x)) (hc:c):
  ∃ v w' g',(execOp a.eval o).run P w=.ok (.value v) w'/\RelG g' M0 w0 { st with hp:=hp' } a w'/\AVR (CR g' hp' w') x v/\(Ext st.hp.length g g'/\st.hp.length<=hp'.length):=by
 obtain ⟨callee,args,ts⟩:=cl
 unfold QH at ha
 simp only at ha
 split at ha
 rotate_left
 ·cases ha
 rename_i s src t t' hargs hts
 have ha':args=#[s,src]:=by apply gA0;simpa using hargs
 have ht':ts=#[t,t']:=by apply gA0;simpa using hts
 subst ha';subst ht'
 split at ha
 rotate_left
 ·cases ha
 rename_i y hty
 split at ha
 rotate_left
 ·cases ha
 rename_i z hk hz
 split at ha
 rotate_left
 ·cases ha
 rename_i c1 news m hsrc
 split at ha
 rotate_left
 ·cases ha
 rename_i c2 hp2 n hbase
 split at ha
 rotate_left
 ·cases ha
 rename_i hcond
 simp only [gA1,gBM,beq_iff_eq] at hcond
 obtain ⟨⟨d1,d2⟩,rfl⟩:=hcond
 simp only [gBI,gBJ] at ha
 obtain ⟨rfl,rfl,rfl⟩:=ha
 obtain ⟨hc1,hc2,hc3,hc4⟩:=hc
 obtain ⟨A,cp,us,hsv,hsl,hlr,hone1,hone⟩:=HN h.hr d1 (h.ev src) hsrc hc1
 have E:=UB hty hk hz d1 d2
 have hrun:∀ {v':Value} {w':World},(Builtin.append_ #[t,t] o.type #[a.eval s,.slice A m cp]).run P w=.ok v' w'->(execOp a.eval o).run P w=.ok (.value v') w':=by
  intro v' w' hr
  unfold execOp
  simp only [ho,resolve,invoke,builtin,Sem.run_bind,Sem.run_pure,Result.andThen_ok,gAZ,gAV,gAX,hsv,hr]
 have hs:=h.ev s
 generalize hsx:st.ev s=sx at hbase hs
 unfold Dt at hbase
 split at hbase
 rotate_left 2
 ·rename_i id j n'
  split at hbase
  rotate_left
  ·cases hbase
  rename_i r hrow
  split at hbase
  rotate_left
  ·cases hbase
  rename_i k' cs hcell
  simp only [gBI,gBJ] at hbase
  obtain ⟨rfl,rfl,rfl⟩:=hbase
  subst hc2
  have hbase2:∃ old,Oy w y.elem z.size (a.eval s) n' old:=by
   obtain ⟨_,hb2⟩:=hs
   obtain ⟨v1,v2,v3,A1,cp1,v4⟩:=hb2 r _ cs hrow hcell
   rcases h.hr.row id r hrow with ⟨_,h2⟩ | ⟨h0,htight,arr1,har,hl,hsz,hm,hcells⟩
   ·rw [h2] at hcell;simp at hcell
   obtain ⟨u,u1,u2⟩:=hcells j _ hcell
   rw [cell_of_row _ _ _ _ _ _ har,u1] at v2
   injection v2 with v2
   rcases u2 with ⟨hcs,A,hA,hAb⟩ | ⟨hne,n2,c',arr',hA,k1,k2,k3,k4,k5,k6⟩
   ·refine ⟨[],.inl ⟨A,by rw [<- v2];exact hA,?_,rfl,hAb⟩⟩
    rw [<- v2,hA] at v4;cases v4;rfl
   have hn2:n2=n':=by rw [<- v2,hA] at v4;cases v4;rfl
   subst hn2
   refine ⟨arr'.toList.take (n2*z.size),.inr ⟨_,c',arr',by rw [<- v2];exact hA,?_,k4,k2,k3,k5,rfl,?_⟩⟩
   ·rintro rfl
    have:n2=0:=by omega
    rw [this] at k1;simp at k1;exact hne k1
   rw [gAS]
   have:n2*z.size<=c'*z.size:=gBA _ k2
   simp only at k5
   simp;omega
  obtain ⟨old,hbase2⟩:=hbase2
  obtain ⟨v',w',r1,r2⟩:=F8 E w o.type hbase2 hsl hone1 hc3 hc4
  obtain ⟨g',q1,q2,q3⟩:=Q4 h hrow hcell d1 hlr hone hsl.len hs (v':=v') (w':=w') (fun old' hb'=>by
   have:old'=old:=by
    rcases hb' with ⟨A,hA,h1,h2,_⟩ | ⟨b,cap,arr,hA,h1,h2,h3,h4,h5,h6,h7⟩
    ·rcases hbase2 with ⟨A',_,_,h2',_⟩ | ⟨b',cap',arr',hA',h1',_⟩
     ·rw [h2,h2']
     rw [hA] at hA';cases hA';exact absurd rfl h1'
    rcases hbase2 with ⟨A',hA',_,h2',_⟩ | ⟨b',cap',arr',hA',h1',h2',h3',h4',h5',h6',h7'⟩
    ·rw [hA] at hA';cases hA';exact absurd rfl h1
    rw [hA] at hA';cases hA'
    rw [h2] at h2';cases h2'
    rw [<- h6,<- h6']
   rw [this];exact r2)
  exact ⟨v',w',g',hrun r1,q1,q2,q3,by simp⟩
 ·cases hbase
 ·simp only [gBI,gBJ] at hbase
  obtain ⟨_,rfl,rfl⟩:=hbase
  have hsv0:a.eval s=.slice none 0 0:=hs
  rw [hsv0] at hrun
  obtain ⟨v',w',r1,r2⟩:=F8 E w o.type (v:=.slice none 0 0) (n:=0) (old:=[]) (.inl ⟨none,rfl,rfl,rfl,by simp⟩) hsl hone1 (by rw [gBD];exact hc3) (by omega)
  obtain ⟨g',q1,q2,q3⟩:=Fj h d1 hlr hone hsl.len (by simp) r2 CH (BO (.r ⟨y.elem,z.size,true,news⟩)) (Bb _)
  exact ⟨v',w',g',hrun r1,q1,q2,q3 _ (gBu _),by simp⟩
 rename_i id n'
 split at hbase
 rotate_left
 ·cases hbase
 rename_i r hrow
 simp only [gBI,gBJ] at hbase
 obtain ⟨rfl,rfl,rfl⟩:=hbase
 obtain ⟨e1,e2,e3,e4⟩:=hc2
 obtain ⟨b1,b2,A0,b3,b4,b5⟩:=hs
 obtain ⟨er,kr,slr,cellsr⟩:=r
 simp only at e1 e2 e3 e4
 subst e1
 subst e2
 rw [b3] at hrun
 rcases h.hr.row id _ hrow with ⟨h0,h2⟩ | ⟨h0,htight,arr,har,hl,hsz,hm,hcells⟩
 rotate_left
 ·rw [b4 h0] at hrun
  have hol:(arr.toList.take (n'*z.size)).length=n'*z.size:=by
   rw [gAS]
   have:n'*z.size<=g.κ id*z.size:=gBA _ b2
   have hsz2:arr.size=g.κ id*z.size:=hsz
   simp;omega
  obtain ⟨v',w',r1,r2⟩:=F8 E w o.type (n:=n') (old:=arr.toList.take (n'*z.size)) (.inr ⟨g.γ (.ob id),g.κ id,arr,rfl,h0,har,b2,hm,hsz,rfl,hol⟩) hsl hone1 hc3 hc4
  obtain ⟨g',q1,q2,q3⟩:=Q3 h hrow d1 h0 e3 e4 b2 hlr hone hsl.len har rfl r2
  exact ⟨v',w',g',hrun r1,q1,q2,q3,by simp⟩
 have hn0:n'=0:=by omega
 subst hn0
 rw [h0] at hrun
 obtain ⟨v',w',r1,r2⟩:=F8 E w o.type (v:=.slice A0 0 0) (n:=0) (old:=[]) (.inl ⟨A0,rfl,rfl,rfl,b5⟩) hsl hone1 (by simpa using hc3) (by omega)
 subst h2
 have hid:id<st.hp.length:=(List.getElem?_eq_some_iff.1 hrow).1
 have hkill:=h.kill (hp':=st.hp.set id .d) (fun i hi=>by
  obtain ⟨x0,x1,x2⟩:=hi
  by_cases e:i=id
  ·subst e;exact ⟨.d,by simp [hid],rfl⟩
  ·exact ⟨x0,by rw [gE5 (Ne.symm e)];exact x1,x2⟩) (fun i r' e=>by
  rw [gAE] at e
  split at e
  ·(try split at e) <;> cases e
  ·exact e) (fun i kv e=>by
  rw [gAE] at e
  split at e
  ·(try split at e) <;> cases e
  ·exact e)
 have hlr2:LR (CR g (st.hp.set id .d) w) news us:=hlr.imp (fun x hx u hu=>by
  refine CR.mo (Eb (fun i hi=>by
   obtain ⟨x0,x1,x2⟩:=hi
   by_cases e:i=id
   ·subst e;exact ⟨.d,by simp [hid],rfl⟩
   ·exact ⟨x0,by rw [gE5 (Ne.symm e)];exact x1,x2⟩) (fun i r' e=>by
   rw [gAE] at e
   split at e
   ·(try split at e) <;> cases e
   ·exact e) (fun i kv e=>by
   rw [gAE] at e
   split at e
   ·(try split at e) <;> cases e
   ·exact e)) (by
    have:=gAg.1 hone x hx
    cases x <;> first | trivial | cases this) hu)
 obtain ⟨g',q1,q2,q3⟩:=Fj (st:={ st with hp:=st.hp.set id .d }) (hp':=st.hp.set id .d++[.r ⟨y.elem,z.size,slr,news⟩]) (id:=st.hp.length) (sl:=slr) hkill d1 hlr2 hone hsl.len b5 r2 (by
  have:=CH (hp:=st.hp.set id .d);simpa using this) (by
  have:=BO (hp:=st.hp.set id .d) (.r ⟨y.elem,z.size,slr,news⟩);simpa using this) (by
  have:=Bb (hp:=st.hp.set id .d) (.r ⟨y.elem,z.size,slr,news⟩);simp)
 refine ⟨v',w',g',hrun r1,?_,?_,q3 _ (gBu _),by simp⟩
 ·simpa using q1
 have:CR g' (st.hp.set id .d++[.r ⟨y.elem,z.size,slr,List.take (0*z.size) []++news⟩]) w' (.s st.hp.length (0+m)) v':=by simpa using q2
 exact this
end
end Go.Proofs.YtbnabodoabimnaaGreat
namespace Go.Proofs.YtbnabodoabimnaaGreat
set_option linter.unusedVariables false
set_option linter.unusedSimpArgs false
open Go.RowKit
def Stp (P:Program) (o:Oper) (st:ST) (K:ST->Prop):Prop:=
 ∀ (M0:Fm) (w0:World) (a:Act) (w:World) (N:Act->World->Prop) (Q:Exit->Act->World->Prop),Rel M0 w0 st a w->(∀ st' a' w',K st'->Rel M0 w0 st' a' w'->N a' w')->o.wp P a w N Q
def StpC (P:Program) (o:Oper) (st:ST) (K:ST->Prop) (C:Prop):Prop:=
 ∀ (M0:Fm) (w0:World) (a:Act) (w:World) (N:Act->World->Prop) (Q:Exit->Act->World->Prop),Rel M0 w0 st a w->(∀ st' a' w',K st'->Rel M0 w0 st' a' w'->(C->Fp (fun _=>False) w w')->N a' w')->o.wp P a w N Q
theorem StpC.stp {P:Program} {o:Oper} {st:ST} {K:ST->Prop} {C:Prop} (h:StpC P o st K C):Stp P o st K:=fun M0 w0 a w N Q hR hN=>h M0 w0 a w N Q hR fun st' a' w' h1 h2 _=>hN st' a' w' h1 h2
def Vc (o:Oper) (n:Nat):Bool:=
 match o.dst with
 | some d=>decide (d<n)
 | none=>true
theorem B5 {o:Oper} {n:Nat} (h:Vc o n=true):∀ e,o.dst=some e->e<n:=by
 intro e he
 unfold Vc at h
 rw [he] at h
 simpa using h
def Vd (P:Program) (o:Oper) (st:ST) (K:ST->Prop):Prop:=
 match V8 P o.op st.ev with
 | some (c,x)=>c/\K (st.put o.dst x)
 | none=>False
def Ve (P:Program) (o:Oper) (st:ST) (K:ST->Prop):Prop:=
 match V9 P o.op st.ev st.hp with
 | some (c,x)=>c/\K (st.put o.dst x)
 | none=>False
def Vf (P:Program) (o:Oper) (st:ST) (K:ST->Prop):Prop:=
 match Va P o.op st.ev with
 | some (c,ob,f)=>c/\K ({ st with hp:=st.hp++[ob] }.put o.dst (f st.hp.length))
 | none=>False
def Vg (P:Program) (o:Oper) (st:ST) (K:ST->Prop) (t:TypeId) (x v:Operand):Prop:=
 match Vb P st.ev st.hp t x v with
 | some (c,hp')=>c/\K ({ st with hp:=hp' }.put o.dst .u)
 | none=>False
def OB (P:Program) (o:Oper) (st:ST) (K:ST->Prop) (cl:Call):Prop:=
 match QH P st.ev st.hp cl with
 | some (c,hp',x)=>c/\K ({ st with hp:=hp' }.put o.dst x)
 | none=>False
section
variable {P : Program} {o : Oper} {st : ST} {K : ST -> Prop}
theorem QI {g:Gh} {hp:List Ob} {w:World} {v:Value}:AVR (CR g hp w) .u v:=trivial
theorem QJ (hd:Vc o st.n=true) (h:Vd P o st K):Stp P o st K:=by
 intro M0 w0 a w N Q hR hN
 obtain ⟨g,⟨hp1,hp2⟩,hR⟩:=hR
 unfold Vd at h
 split at h
 rotate_left
 ·exact h.elim
 rename_i c x hop
 obtain ⟨v,h1,h2⟩:=FE (P:=P) (ρ:=a.eval) (ev:=st.ev) hR.ev hop h.1
 unfold Oper.wp
 rw [h1 w]
 exact hN _ _ _ h.2 ⟨g,⟨by cases o.dst <;> exact hp1,by cases o.dst <;> exact hp2⟩,hR.put (B5 hd) h2⟩
theorem Tc (hd:Vc o st.n=true) (h:Ve P o st K):Stp P o st K:=by
 intro M0 w0 a w N Q hR hN
 obtain ⟨g,⟨hp1,hp2⟩,hR⟩:=hR
 unfold Ve at h
 split at h
 rotate_left
 ·exact h.elim
 rename_i c x hop
 obtain ⟨v,h1,h2⟩:=GO (P:=P) hR.hr hR.ev hop h.1
 unfold Oper.wp
 rw [h1 w (Fp.refl _ _)]
 exact hN _ _ _ h.2 ⟨g,⟨by cases o.dst <;> exact hp1,by cases o.dst <;> exact hp2⟩,hR.put (B5 hd) h2⟩
theorem Mc (hd:Vc o st.n=true) (h:Vf P o st K):Stp P o st K:=by
 intro M0 w0 a w N Q hR hN
 obtain ⟨g,⟨hp1,hp2⟩,hR⟩:=hR
 unfold Vf at h
 split at h
 rotate_left
 ·exact h.elim
 rename_i c ob f hop
 obtain ⟨v,w',h1,g',hx,_,h2,h3⟩:=Mb (P:=P) hR hop h.1
 unfold Oper.wp
 rw [h1]
 exact hN _ _ _ h.2 ⟨g',⟨by cases o.dst <;> (simp [ST.put];omega),by cases o.dst <;> exact hp2.trans (hx.le hp1)⟩,h2.put (B5 hd) h3⟩
theorem QK {ev:Operand->AV} {hp hp':List Ob} {t:TypeId} {x v:Operand} {c:Prop} (h:Vb P ev hp t x v=some (c,hp')):hp'.length=hp.length:=by
 unfold Vb at h
 split at h
 rotate_left
 ·cases h
 split at h
 rotate_left
 ·cases h
 simp only [gBI,gBJ] at h
 rw [<- h.2];simp
theorem Ub (hd:Vc o st.n=true) {t:TypeId} {x v:Operand} (ho:o.op=.store t x v) (h:Vg P o st K t x v):Stp P o st K:=by
 intro M0 w0 a w N Q hR hN
 obtain ⟨g,⟨hp1,hp2⟩,hR⟩:=hR
 unfold Vg at h
 split at h
 rotate_left
 ·exact h.elim
 rename_i c hp' hop
 obtain ⟨w',h1,h2⟩:=QG (P:=P) hR ho hop h.1
 unfold Oper.wp
 rw [h1]
 exact hN _ _ _ h.2 ⟨g,⟨by have:=QK hop;cases o.dst <;> (simp [ST.put];omega),by cases o.dst <;> exact hp2⟩,h2.put (B5 hd) trivial⟩
theorem Td (hd:Vc o st.n=true) {cl:Call} (ho:o.op=.call cl) (h:OB P o st K cl):Stp P o st K:=by
 intro M0 w0 a w N Q hR hN
 obtain ⟨g,⟨hp1,hp2⟩,hR⟩:=hR
 unfold OB at h
 split at h
 rotate_left
 ·exact h.elim
 rename_i c hp' x hop
 obtain ⟨v,w',g',h1,h2,h3,h4,h5⟩:=OA (P:=P) hR ho hop h.1
 unfold Oper.wp
 rw [h1]
 exact hN _ _ _ h.2 ⟨g',⟨by cases o.dst <;> (simp [ST.put];omega),by cases o.dst <;> exact hp2.trans (h4.le hp1)⟩,h2.put (B5 hd) h3⟩
def Vh (P:Program) (o:Oper) (st:ST) (K:ST->Prop):Prop:=
 match o.op with
 | .load _ _=>Ve P o st K
 | .box _ _=>Vf P o st K
 | .alloc _=>Vf P o st K
 | .buildSlice _ _ _=>Vf P o st K
 | .makeSlice _ _ _=>Vf P o st K
 | .makeMap _ _=>Vf P o st K
 | .store t x v=>Vg P o st K t x v
 | .call cl=>match cl.callee with
  | .builtin .append=>OB P o st K cl
  | .builtin .len=>Vd P o st K\/Ve P o st K
  | .builtin _=>Vd P o st K
  | _=>False
 | _=>Vd P o st K
theorem Md (hd:Vc o st.n=true) {op:BinOp} {t e yt:TypeId} {x:Operand} (ho:o.op=.binOp op t x (.const (.slice none 0 0)) yt) (ht:P.underlying t=some (.slice e)) (hop:op=.eql\/op=.neq)
  (h:(∃ k cs,st.ev x=.a (.c (.t k cs))/\∀ b:Bool,(b=true->cs=[])->K (st.put o.dst (.b (if op=.eql then b else !b))))\/(∃ id n,st.ev x=.a (.c (.s id n))/\∀ b:Bool,(b=true->n=0)->K (st.put o.dst (.b (if op=.eql then b else !b))))):Stp P o st K:=by
 intro M0 w0 a w N Q hR hN
 obtain ⟨g,hpp,hR⟩:=hR
 have hx:=hR.ev x
 have fin:∀ (A:Option Addr) (n c:Nat),a.eval x=.slice A n c->K (st.put o.dst (.b (if op=.eql then A.isNone else !A.isNone)))->o.wp P a w N Q:=by
  intro A n c hv hk
  have q1:=Lib.run_eql_slice_nil (P:=P) w t e A n c 0 0 ht
  have q2:=Go.run_neq_slice_nil (P:=P) w t e A n c ht
  have hrun:(execOp a.eval o).run P w=.ok (.value (.bool (if op=.eql then A.isNone else !A.isNone))) w:=by
   unfold execOp
   have hv2:a.eval (.const (.slice none 0 0))=.slice none 0 0:=rfl
   rcases hop with rfl | rfl
   ·simp only [ho,hv,hv2,Sem.run_bind,eqGuard,q1]
    simp [q1]
   simp only [ho,hv,hv2,Sem.run_bind,eqGuard,q2]
   simp [q2]
  unfold Oper.wp
  rw [hrun]
  exact hN _ _ _ hk ⟨g,by cases o.dst <;> exact hpp,hR.put (B5 hd) rfl⟩
 rcases h with ⟨k,cs,he,hk⟩ | ⟨id,n,he,hk⟩
 ·rw [he] at hx
  obtain ⟨A,n,c,e1,e2,e3⟩:=Rd.form hx
  refine fin A n c e1 (hk _ (fun hb=>?_))
  cases A with
  | some=>cases hb
  | none=>
   rw [e1] at hx
   cases (show Rd _ _ _ _ from hx)
   rfl
 rw [he] at hx
 obtain ⟨_,_,A,e1,e2,_⟩:=hx
 refine fin A n _ e1 (hk _ (fun hb=>?_))
 cases A with
 | some=>cases hb
 | none=>
  rename_i hle
  by_cases h0:g.κ id=0
  ·omega
  cases e2 h0
theorem Bc (hd:Vc o st.n=true) (h:Vh P o st K):Stp P o st K:=by
 obtain ⟨dst,op,ty,pos,af,gd⟩:=o
 unfold Vh at h
 simp only at h
 split at h
 rotate_left 8
 ·exact QJ hd h
 ·exact Tc hd h
 ·exact Mc hd h
 ·exact Mc hd h
 ·exact Mc hd h
 ·exact Mc hd h
 ·exact Mc hd h
 ·exact Ub hd rfl h
 split at h
 rotate_left 2
 ·exact QJ hd h
 ·exact h.elim
 ·exact Td hd rfl h
 rcases h with h | h
 ·exact QJ hd h
 exact Tc hd h

def Vi (P:Program) (ops:Array Oper) (l:List Oper) (st:ST) (K:ST->Prop):Prop:=
 ∀ (M0:Fm) (w0:World) (a:Act) (w:World) (Q:Exit->Act->World->Prop),Rel M0 w0 st a w->(∀ st' a' w',K st'->Rel M0 w0 st' a' w'->Q .normal a' w')->wpList P ops Q l a w
theorem Aa {ops:Array Oper} (h:K st):Vi P ops [] st K:=fun _ _ _ _ _ hR hN=>hN _ _ _ h hR
theorem Aj {ops:Array Oper} {r:List Oper} (hg:o.guard=none) (h:∀ K':ST->Prop,(∀ st',Vi P ops r st' K->K' st')->Stp P o st K'):Vi P ops (o :: r) st K:=by
 intro M0 w0 a w Q hR hN
 refine wpList_plain hg fun K' hK'=>?_
 exact h (fun st'=>Vi P ops r st' K) (fun _ h=>h) M0 w0 a w K' Q hR fun st' a' w' h1 h2=>hK' _ _ (h1 M0 w0 a' w' Q h2 hN)
theorem Me {ops:Array Oper} {r:List Oper} {j d:Nat} {want t:Bool} (hg:o.guard=some (j,want)) (hj:(ops[j]?).bind (·.dst)=some d) (ht:st.get d=.b t) (hd:Vc o st.n=true)
  (h1:t=want->∀ K':ST->Prop,(∀ st',Vi P ops r st' K->K' st')->Stp P o st K') (h2:t ≠ want->Vi P ops r (st.put o.dst .u) K):Vi P ops (o :: r) st K:=by
 intro M0 w0 a w Q hR hN
 obtain ⟨g,hpp,hR'⟩:=hR
 have hy:yielded ops a.tmps j=some t:=by
  unfold yielded
  rw [hj]
  have:=hR'.tm d
  rw [ht] at this
  have hv:a.tmps.getD d undef=.bool t:=this
  simp only [Option.bind_some]
  rw [Array.getD_eq_getD_getElem?] at hv
  cases hd:a.tmps[d]? with
  | none=>rw [hd] at hv;cases hv
  | some v=>rw [hd] at hv;simp at hv;subst hv;rfl
 refine wpList_step fun K' hK'=>?_
 have hw:Region.wanted o (yielded ops a.tmps)=(t == want):=by
  unfold Region.wanted
  rw [hg]
  simp only [hy]
  cases t <;> cases want <;> rfl
 rw [hw]
 by_cases e:t=want
 rotate_left
 ·rw [if_neg (by simp [e])]
  exact hK' _ _ (h2 e M0 w0 _ w Q ⟨g,by cases o.dst <;> exact hpp,hR'.put (B5 hd) trivial⟩ hN)
 rw [if_pos (by simp [e])]
 exact h1 e (fun st'=>Vi P ops r st' K) (fun _ h=>h) M0 w0 a w K' Q ⟨g,hpp,hR'⟩ fun st' a' w' q1 q2=>hK' _ _ (q1 M0 w0 a' w' Q q2 hN)

def AW (P:Program) (c:Code) (st:ST) (Q:Exit->ST->Prop):Prop:=
 ∀ (M0:Fm) (w0:World) (a:Act) (w:World),Rel M0 w0 st a w->c.wp P (fun e a' w'=>∃ st',Rel M0 w0 st' a' w'/\Q e st') a w
def Ad (N:ST->Prop) (Q:Exit->ST->Prop):Exit->ST->Prop
 | .normal,st=>N st
 | e,st=>Q e st
def Ay (id:Nat) (Q:Exit->ST->Prop):Exit->ST->Prop
 | .exit id',st=>if id'=id then Q .normal st else Q (.exit id') st
 | e,st=>Q e st
variable {Q : Exit -> ST -> Prop} {c x y : Code}
theorem Ag {id:Nat} {l:List Oper} (h:Vi P l.toArray l st (Q .normal)):AW P (.region id l.toArray false) st Q:=fun M0 w0 a w hR=>
 wp_region_lit (h M0 w0 a w _ hR fun st' a' w' h1 h2=>⟨st',h2,h1⟩)
theorem AA (h:∀ K:ST->Prop,(∀ st',AW P y st' Q->K st')->AW P x st (Ad K Q)):AW P (.seq x y) st Q:=by
 intro M0 w0 a w hR
 refine wp_seq (wp_mono (h (fun st'=>AW P y st' Q) (fun _ h=>h) M0 w0 a w hR) ?_)
 rintro e a' w' ⟨st',h1,h2⟩
 cases e <;> first | exact h2 M0 w0 a' w' h1 | exact ⟨st',h1,h2⟩
theorem QM {op:Operand} {t:Bool} (hc:st.ev op=.b t) (ht:t=true->AW P x st Q) (hf:t=false->AW P y st Q):AW P (.cond op x y) st Q:=by
 intro M0 w0 a w hR
 obtain ⟨g,hpp,hR'⟩:=hR
 have:=hR'.ev op
 rw [hc] at this
 exact wp_cond_split this (fun e=>ht e M0 w0 a w ⟨g,hpp,hR'⟩) (fun e=>hf e M0 w0 a w ⟨g,hpp,hR'⟩)
theorem Ai {id:Nat} (h:AW P c st (Ay id Q)):AW P (.block id c) st Q:=by
 intro M0 w0 a w hR
 refine wp_block (wp_mono (h M0 w0 a w hR) ?_)
 rintro e a' w' ⟨st',h1,h2⟩
 cases e with
 | exit id'=>
  simp only [Ay] at h2
  simp only [Exit.inBlock]
  split at h2
  ·rename_i he;rw [if_pos he];exact ⟨st',h1,h2⟩
  rename_i he;rw [if_neg he];exact ⟨st',h1,h2⟩
 | _=>exact ⟨st',h1,h2⟩
theorem Am (h:Q .normal st):AW P .skip st Q:=fun _ _ _ _ hR=>wp_skip ⟨st,hR,h⟩
theorem Du {id:Nat} (h:Q (.exit id) st):AW P (.exit id) st Q:=fun _ _ _ _ hR=>wp_exit ⟨st,hR,h⟩
theorem Ak (h:Q .ret st):AW P .ret st Q:=fun _ _ _ _ hR=>wp_ret ⟨st,hR,h⟩
def Vj (st:ST) (op:Operand) (X Y:Prop):Prop:=
 match st.ev op with
 | .a (.c (.v (.bool t)))=>(t=true->X)/\(t=false->Y)
 | _=>False
theorem Ah {op:Operand} (h:∀ X Y:Prop,(AW P x st Q->X)->(AW P y st Q->Y)->Vj st op X Y):AW P (.cond op x y) st Q:=by
 have:=h _ _ (fun h=>h) (fun h=>h)
 unfold Vj at this
 split at this
 rotate_left
 ·exact this.elim
 rename_i t ht
 exact QM ht this.1 this.2
/-! states that say less -/
def Le (s t:ST):Prop:=∀ (M0:Fm) (w0:World) (a:Act) (w:World),Rel M0 w0 s a w->Rel M0 w0 t a w
theorem Le.refl (s:ST):Le s s:=fun _ _ _ _ h=>h
theorem Le.trans {s t u:ST} (h:Le s t) (k:Le t u):Le s u:=fun M0 w0 a w hR=>k M0 w0 a w (h M0 w0 a w hR)
theorem As {t:ST} (h:Le st t) (k:AW P c t Q):AW P c st Q:=fun M0 w0 a w hR=>k M0 w0 a w (h M0 w0 a w hR)
theorem Ab {α:Type} (Inv:α->ST) (good:α->Prop) (μ:α->Nat) (x0:α) (h0:good x0) (hle:Le st (Inv x0))
  (round:∀ x,good x->∀ K:ST->Prop,(∀ s x',good x'->μ x' < μ x->Le s (Inv x')->K s)->AW P c (Inv x) (Ad K Q)):AW P (.loop c) st Q:=by
 intro M0 w0 a w hR
 refine wp_loop_ghost (fun n a w=>∃ x,good x/\μ x=n/\Rel M0 w0 (Inv x) a w) (μ x0) ⟨x0,h0,rfl,hle M0 w0 a w hR⟩ ?_
 rintro n a w ⟨x,hx,rfl,hR⟩
 refine wp_mono (round x hx (fun s=>∃ x',good x'/\μ x' < μ x/\Le s (Inv x')) (fun s x' h1 h2 h3=>⟨x',h1,h2,h3⟩) M0 w0 a w hR) ?_
 rintro e a' w' ⟨st',h1,h2⟩
 cases e <;> first
  | (obtain ⟨x',q1,q2,q3⟩:=h2;exact ⟨μ x',q2,x',q1,rfl,q3 M0 w0 a' w' h1⟩)
  | exact ⟨st',h1,h2⟩
def CS (s:ST):List (Nat × AV)->Prop
 | []=>True
 | (d,x) :: r=>s.get d=x/\CS s r
theorem Bh {s:ST} {tm:List (Nat × AV)} (h:CS s tm):Le s { s with tm:=tm }:=by
 rintro M0 w0 a w ⟨g,hpp,hR⟩
 refine ⟨g,hpp,hR.hr,hR.new,fun d=>?_,hR.n,hR.df,hR.fp⟩
 show AVR (CR g s.hp w) (Ek tm d) (a.tmps.getD d undef)
 induction tm with
 | nil=>trivial
 | cons p r ih=>
  obtain ⟨k,x⟩:=p
  simp only [Ek]
  split
  ·rename_i e;subst e;rw [<- h.1];exact hR.tm d
  exact ih h.2
theorem B6 {s:ST} (id:Nat) {r:Row} (ts:List Tr) (hrow:s.hp[id]?=some (.r r)) (hts:Fz r.cells ts) (hk:0<r.k):Le s (s.frz id r.k ts):=by
 rintro M0 w0 a w ⟨g,hpp,hR⟩
 exact ⟨g,⟨by simpa [ST.frz] using hpp.1,hpp.2⟩,hR.freeze hrow hts hk⟩
theorem Dj {s:ST} (d k:Nat) (h:s.get d=.a (.c (.v (.slice none 0 0)))):Le s { s with tm:=(d,.a (.c (.t k []))) :: s.tm }:=by
 rintro M0 w0 a w ⟨g,hpp,hR⟩
 refine ⟨g,hpp,hR.hr,hR.new,fun d'=>?_,hR.n,hR.df,hR.fp⟩
 show AVR _ (Ek ((d,_) :: s.tm) d') _
 simp only [Ek]
 split
 rotate_left
 ·exact hR.tm d'
 rename_i e';subst e'
 have:=hR.tm d'
 rw [h] at this
 have hv:a.tmps.getD d' undef=.slice none 0 0:=this
 rw [hv]
 exact Rd.e _ _ _
theorem BJ {s:ST} (d:Nat) (e k:Nat) (h:s.get d=.a (.c (.v (.slice none 0 0)))):Le s { s with tm:=(d,.a (.c (.s s.hp.length 0))) :: s.tm,hp:=s.hp++[.r ⟨e,k,true,[]⟩] }:=by
 rintro M0 w0 a w ⟨g,hpp,hR⟩
 have hb:=hR.birth0 (w':=w) (hp':=s.hp++[.r ⟨e,k,true,[]⟩]) (id:=s.hp.length) (r:=⟨e,k,true,[]⟩) CH (BO _) (Bb _) rfl (Fp.refl _ _)
 refine ⟨_,⟨by have:=hpp.1;simp;omega,hpp.2.trans (Dr hpp.1)⟩,hb.hr,hb.new,fun d'=>?_,hb.n,hb.df,hb.fp⟩
 show AVR _ (Ek ((d,_) :: s.tm) d') _
 simp only [Ek]
 split
 rotate_left
 ·exact hb.tm d'
 rename_i e';subst e'
 have:=hR.tm d'
 rw [h] at this
 have hv:a.tmps.getD d' undef=.slice none 0 0:=this
 rw [hv]
 exact ⟨Ds rfl,gBE _,none,by rw [g.at_self.2],fun hn=>absurd g.at_self.2 hn,by simp⟩
end
end Go.Proofs.YtbnabodoabimnaaGreat
