/- Lemmas. -/
import Derived.Test.YtjijjfkalheokaaGreatDoorMK
import Derived.Maps.RangeRun
namespace Go.Proofs.YtjijjfkalheokaaGreatDoor
set_option linter.unusedVariables false
set_option linter.unusedSimpArgs false
open Go.RowKit

section
variable {P : Program} {o : Oper} {st : ST} {K : ST -> Prop} {t kt e : TypeId} {id mid since last : Nat} {seen : List Nat} {kv : List (Value × C)}
theorem MpR.map0 {g:Gh} {hp:List Ob} {w:World} (h:MpR g hp w id kv) (hit:Pe kv=false):UG g hp w id kv:=by
 rcases h with ⟨_,_,_,_,rfl,_⟩ | h
 ·simp [Gx,Pe] at hit
 exact h
theorem RelG.drew {g:Gh} {M0:Nat->Prop} {w0 w:World} {a:Act} (hR:RelG g M0 w0 st a w):RelG g M0 w0 st a w.drew:=by
 have hm:Mo g st.hp w g st.hp w.drew (fun _=>True):=⟨fun i hi=>⟨hi,rfl,rfl⟩,fun _ _ h=>h,Nat.le_refl _,fun _ _ _=>rfl,fun i _ _ r' j k cs e1 e2=>⟨r',e1,e2,fun _=>rfl⟩⟩
 exact hR.mo (hp':=st.hp) hm ⟨hR.hr.ml,hR.hr.md,hR.hr.inj,fun id r e=>RowR.mo hm e (hR.hr.row id r e) (fun _=>rfl) (fun _ _ _ _ _=>⟨rfl,rfl⟩),fun id kv e=>MpR.mo hm e (hR.hr.mp id kv e) rfl,hm.gl hR.hr.gl⟩ hR.new (hR.fp.trans (Fp.drew _ _))
theorem RelG.birthI {g:Gh} {M0:Nat->Prop} {w0 w:World} {a:Act} {hp':List Ob} (h:RelG g M0 w0 st a w) (hid:¬ Bn st.hp id) (hne:∀ i,i ≠ id->hp'[i]?=st.hp[i]?) (h1:hp'[id]?=some (.m (Gx (some mid) since [] last))) (hm:Bn st.hp mid):
  RelG (g.at id w.heap.size 0) M0 w0 { st with hp:=hp' } a (w.alloc (.mapIter (some (g.γ (.ob mid))) since #[] last)):=by
 have hobm:∀ r',Ob.m (Gx (some mid) since [] last)=.r r'->∀ (j:Nat) (k:Nat × Nat) (cs:List Tr),r'.cells[j]?=some (.o k cs)->cs=[]:=by
  intro r' e;cases e
 have hfx:∀ k,k<w.heap.size->(w.alloc (.mapIter (some (g.γ (.ob mid))) since #[] last)).heap[k]?=w.heap[k]?:=fun k hk=>Below.heap_alloc _ _ _ hk
 have hz:w.heap.size<=(w.alloc (.mapIter (some (g.γ (.ob mid))) since #[] last)).heap.size:=by simp
 have hmo:=Es (w':=w.alloc (.mapIter (some (g.γ (.ob mid))) since #[] last)) h.hr (b:=w.heap.size) (c:=0) hid hne h1 (fun _=>Nat.le_refl _) hobm hz hfx
 refine h.mo hmo (FD h.hr hid hne h1 (fun _=>Nat.le_refl _) hobm hz hfx (fun r' e=>by cases e) ?_) (Et h.new hne h1 (fun _=>h.fp.size) hobm) (h.fp.trans (Fp.alloc _ _ _))
 intro kv e
 cases e
 refine .inl ⟨some mid,since,[],last,rfl,g.γ (.ob mid),by rw [g.at_self.1];exact heap_alloc_new w _,fun m hm'=>?_⟩
 cases hm'
 obtain ⟨b1,b2,_⟩:=hmo.bn mid hm
 exact ⟨b1,b2.symm⟩
theorem Ia {x:Operand} (hu:P.underlying t=some (.map kt e)) (hd:VJ o st.n=true) (ho:o.op=.range t x) (hx:st.ev x=.a (.c (.m mid))) (hm:st.hp[mid]?=some (.m kv)) (hit:Pe kv=false)
  (h:K ({ st with hp:=st.hp++[Ob.m (Gx (some mid) kv.length [] kv.length)] }.put o.dst (.a (.c (.p st.hp.length 0))))):Stp P o st K:=by
 intro M0 w0 a w N Q hR hN
 obtain ⟨g,⟨hp1,hp2⟩,hR⟩:=hR
 have e1:=hR.ev x
 rw [hx] at e1
 obtain ⟨hb,e1⟩:=e1
 obtain ⟨es,clock,m1,m2,m3,m4⟩:=(hR.hr.mp mid kv hm).map0 hit
 have hck:clock=kv.length:=by rw [m4.1,m2]
 subst hck
 have hrun:(execOp a.eval o).run P w=.ok (.value (.pointer (some ⟨w.heap.size,0,none⟩))) (w.alloc (.mapIter (some (g.γ (.ob mid))) kv.length #[] kv.length)):=by
  unfold execOp
  simp [ho,e1,Instr.range,run_underlying hu,MapKept.run_getObj_map m1]
 have hb2:=hR.birthI (since:=kv.length) (last:=kv.length) (hp':=st.hp++[Ob.m (Gx (some mid) kv.length [] kv.length)]) (id:=st.hp.length) Cv (BU _) (Be _) hb
 unfold Oper.wp
 rw [hrun]
 have hav:AVR (CR (g.at st.hp.length w.heap.size 0) (st.hp++[Ob.m (Gx (some mid) kv.length [] kv.length)]) (w.alloc (.mapIter (some (g.γ (.ob mid))) kv.length #[] kv.length))) (.a (.c (.p st.hp.length 0))) (.pointer (some ⟨w.heap.size,0,none⟩)):=⟨De rfl,by rw [g.at_self.1]⟩
 refine hN _ _ _ h ⟨g.at st.hp.length w.heap.size 0,⟨?_,by cases o.dst <;> exact hp2.trans (Ds hp1)⟩,hb2.put (B3 hd) hav⟩
 cases o.dst <;> (simp [ST.put];omega)
theorem JT {es:Array MapEntry} {clock:Nat} (hb:Bo es clock) {x:MapEntry}:x∈(leftOf es seen.toArray).toList↔∃ i,es[i]?=some x/\i ∉ seen:=by
 unfold leftOf
 simp only [Array.toList_filter,List.mem_filter,Array.mem_toList_iff,Bool.not_eq_true',List.contains_toArray,List.contains_eq_mem,decide_eq_false_iff_not]
 constructor
 rotate_left
 ·rintro ⟨i,h1,h2⟩
  exact ⟨Array.mem_of_getElem? h1,by rw [hb.2 i _ h1];exact h2⟩
 rintro ⟨h1,h2⟩
 obtain ⟨i,hi,rfl⟩:=Array.getElem_of_mem h1
 have he:=gEd hi
 exact ⟨i,he,by rw [<- hb.2 i _ he];exact h2⟩
theorem JU {x:Operand} (hd:VJ o st.n=true) (ho:o.op=.next x false) (hx:st.ev x=.a (.c (.p id 0))) (hi:st.hp[id]?=some (.m (Gx (some mid) since seen last))) (hm:st.hp[mid]?=some (.m kv)) (hit:Pe kv=false) (hpl:kv.all (fun p=>p.2.pl)=true) (h1:kv.length<=since) (h2:since<=last)
  (hend:(∀ i,i<kv.length->i∈seen)->K (st.put o.dst (.tup [.c (.v (.bool false))])))
  (hgo:∀ i p,kv[i]?=some p->i ∉ seen->K ({ st with hp:=st.hp.set id (Ob.m (Gx (some mid) since (seen++[i]) kv.length)) }.put o.dst (.tup [.c (.v (.bool true)),.c (.v p.1),.c p.2]))):Stp P o st K:=by
 intro M0 w0 a w N Q hR0 hN
 obtain ⟨g,hpp,hR⟩:=hR0
 have e1:=hR.ev x
 rw [hx] at e1
 obtain ⟨hb,e1⟩:=e1
 obtain ⟨es,clock,m1,m2,m3,m4⟩:=(hR.hr.mp mid kv hm).map0 hit
 have hck:clock=kv.length:=by rw [m4.1,m2]
 have hI:∃ m0,w.heap[g.γ (.ob id)]?=some (.mapIter (some m0) since seen.toArray last)/\m0=g.γ (.ob mid):=by
  rcases hR.hr.mp id _ hi with ⟨mid',s',se',l',e,m0,q1,q2⟩ | ⟨es',c',_,q2,q3,_⟩
  rotate_left
  ·obtain ⟨⟨_,_,_,f3⟩,_⟩:=q3 0 _ rfl
   exact f3.elim
  simp only [Gx,List.cons.injEq,Prod.mk.injEq,C.it.injEq,true_and,and_true] at e
  obtain ⟨rfl,rfl,rfl,rfl⟩:=e
  exact ⟨m0,q1,(q2 mid rfl).2⟩
 obtain ⟨_,i1,rfl⟩:=hI
 have hold:∀ x∈es.toList,x.born<since:=fun x hx=>by
  obtain ⟨i,hi,rfl⟩:=Array.getElem_of_mem (Array.mem_toList_iff.1 hx)
  rw [m4.2 i _ (gEd hi)]
  omega
 unfold Oper.wp
 rcases run_next_at (P:=P) w o.type (g.γ (.ob id)) (g.γ (.ob mid)) since last seen.toArray es clock i1 m1 hold h2 with ⟨z,hr⟩ | ⟨en,hen,w1,hw1,hr⟩
 ·have hrun:(execOp a.eval o).run P w=.ok (.value (.tuple #[.bool false])) w:=by
   unfold execOp
   simp [ho,e1,hr]
  rw [hrun]
  refine hN _ _ _ (hend fun i hi=>?_) ⟨g,⟨by cases o.dst <;> (simp [ST.put];exact hpp.1),by cases o.dst <;> exact hpp.2⟩,hR.put (B3 hd) ⟨[.bool false],rfl,rfl,fun i x hx=>?_⟩⟩
  rotate_left
  ·match i,hx with
   | 0,hx=>cases hx;exact ⟨_,rfl,rfl⟩
  refine Decidable.byContradiction fun hns=>?_
  have hl:i<es.size:=by omega
  have:=(JT (seen:=seen) m4).2 ⟨i,gEd hl,hns⟩
  rw [Array.eq_empty_of_size_eq_zero z] at this
  simp at this
 obtain ⟨i,hi1,hi2⟩:=(JT (seen:=seen) m4).1 hen
 have hlk:i<kv.length:=by have:=(Array.getElem?_eq_some_iff.1 hi1).1;omega
 have hkv:=gE1 hlk
 obtain ⟨⟨e0,f1,f2,f3⟩,f4⟩:=m3 i _ hkv
 rw [hi1] at f1
 cases f1
 have hR1:RelG g M0.P w0 st a w1:=by
  rcases hw1 with rfl | rfl
  ·exact hR
  exact hR.drew
 have hh1:w1.heap=w.heap:=by rcases hw1 with rfl | rfl <;> rfl
 have hrun:(execOp a.eval o).run P w=.ok (.value (.tuple #[.bool true,en.key,en.val])) { w1 with heap:=w1.heap.setIfInBounds (g.γ (.ob id)) (.mapIter (some (g.γ (.ob mid))) since (seen.toArray.push en.born) clock) }:=by
  unfold execOp
  simp [ho,e1,hr]
  rfl
 have hp1:kv[i].2.pl=true:=List.all_eq_true.1 hpl _ (gE6 hlk)
 have hbi:en.born=i:=m4.2 i _ hi1
 obtain ⟨hmo1,hnew⟩:=hR1.mobj (kv':=Gx (some mid) since (seen++[i]) kv.length) (ob':=.mapIter (some (g.γ (.ob mid))) since (seen.toArray.push en.born) clock) hi fun hmo hh=>.inl ⟨some mid,since,seen++[i],kv.length,rfl,g.γ (.ob mid),by rw [hh,hbi,hck];simp,fun m hm'=>by
  cases hm'
  exact ⟨(hmo.bn mid ⟨_,hm,rfl⟩).1,rfl⟩⟩
 rw [hrun]
 have hcr1:CR g st.hp w1 kv[i].2 en.val:=by
  obtain ⟨es1,c1,n1,n2,n3,n4⟩:=(hR1.hr.mp mid kv hm).map0 hit
  rw [hh1,m1] at n1
  cases n1
  obtain ⟨⟨e1,g1,g2,g3⟩,_⟩:=n3 i _ hkv
  rw [hi1] at g1
  cases g1
  exact CellR.cr hp1 g3
 refine hN _ _ _ (hgo i _ hkv hi2) ⟨g,⟨by cases o.dst <;> (simp [ST.put];exact hpp.1),by cases o.dst <;> exact hpp.2⟩,hnew.put (B3 hd) ⟨[.bool true,en.key,en.val],rfl,rfl,fun j x hx=>?_⟩⟩
 match j,hx with
 | 0,hx=>cases hx;exact ⟨_,rfl,rfl⟩
 | 1,hx=>cases hx;exact ⟨_,rfl,f2⟩
 | 2,hx=>cases hx;exact ⟨_,rfl,CR.mo hmo1 (by revert hp1;cases kv[i].2 <;> simp [C.pl,C.bok]) hcr1⟩
theorem Ib {x:Operand} {i:Nat} {p:Value × C} (hd:VJ o st.n=true) (ho:o.op=.entry x) (hx:st.ev x=.a (.c (.p id 0))) (hi:st.hp[id]?=some (.m (Gx (some mid) since (seen++[i]) kv.length))) (hm:st.hp[mid]?=some (.m kv)) (hit:Pe kv=false) (hpl:kv.all (fun p=>p.2.pl)=true) (hp:kv[i]?=some p)
  (h:K (st.put o.dst (.tup [.c (.v p.1),.c p.2]))):Stp P o st K:=by
 refine ER hd (fun g w ρ hr hR=>?_) h
 have e1:=hR x
 rw [hx] at e1
 obtain ⟨hb,e1⟩:=e1
 obtain ⟨es,clock,m1,m2,m3,m4⟩:=(hr.mp mid kv hm).map0 hit
 have hck:clock=kv.length:=by rw [m4.1,m2]
 subst hck
 have hI:∃ m0,w.heap[g.γ (.ob id)]?=some (.mapIter (some m0) since (seen++[i]).toArray kv.length)/\m0=g.γ (.ob mid):=by
  rcases hr.mp id _ hi with ⟨mid',s',se',l',e,m0,q1,q2⟩ | ⟨es',c',_,q2,q3,_⟩
  rotate_left
  ·obtain ⟨⟨_,_,_,f3⟩,_⟩:=q3 0 _ rfl
   exact f3.elim
  simp only [Gx,List.cons.injEq,Prod.mk.injEq,C.it.injEq,true_and,and_true] at e
  obtain ⟨rfl,rfl,rfl,rfl⟩:=e
  exact ⟨m0,q1,(q2 mid rfl).2⟩
 obtain ⟨_,i1,rfl⟩:=hI
 obtain ⟨⟨en,f1,f2,f3⟩,f4⟩:=m3 i p hp
 have hbi:=m4.2 i en f1
 have hnd:(es.toList.map (·.born)).Nodup:=by
  have e:es.toList.map (·.born)=List.range es.size:=by
   refine List.ext_getElem (by simp) fun q h1 h2=>?_
   simp only [List.length_map,Array.length_toList] at h1
   simp only [List.getElem_map,Array.getElem_toList,List.getElem_range]
   exact m4.2 q _ (gEd h1)
  rw [e]
  exact List.nodup_range
 have hsn:(seen++[i]).toArray=seen.toArray.push en.born:=by rw [hbi];simp
 rw [hsn] at i1
 have hr2:=run_entry_at (P:=P) w (g.γ (.ob id)) (g.γ (.ob mid)) since seen.toArray es kv.length en i1 m1 (Array.mem_toList_iff.2 (Array.mem_of_getElem? f1)) hnd
 refine ⟨.tuple #[en.key,en.val],?_,[en.key,en.val],rfl,rfl,fun j x hx=>?_⟩
 ·unfold execOp
  simp [ho,e1,hr2]
 match j,hx with
 | 0,hx=>cases hx;exact ⟨_,rfl,f2⟩
 | 1,hx=>cases hx;exact ⟨_,rfl,CellR.cr (List.all_eq_true.1 hpl _ (gE9 hp)) f3⟩
end
end Go.Proofs.YtjijjfkalheokaaGreatDoor
