/- Lemmas. -/
import Derived.Test.YtjijjfkalheokaaGreatDoorME
import Derived.Test.YtjijjfkalheokaaGreatDoorZk
import Derived.Test.YtjijjfkalheokaaGreatDoorG37
namespace Go.Proofs.YtjijjfkalheokaaGreatDoor
set_option linter.unusedVariables false
set_option linter.unusedSimpArgs false
open Go.RowKit

theorem QK {P:Program} {o:Oper} {st:ST} {K:ST->Prop} {t:TypeId} {x l u:Operand} {k i j:Nat} {cs:List Tr} {kk kk':IntKind} (hd:VJ o st.n=true) (ho:o.op=.slice t x (some l) (some u) none) (hz:Er P t=some k) (hx:st.ev x=.a (.c (.t k cs))) (hl:st.ev l=.a (.c (.v (.int kk (i:Int))))) (hu:st.ev u=.a (.c (.v (.int kk' (j:Int)))))
  (hk:0<k) (hij:i<=j) (hj:j*k<=cs.length) (h:K (st.put o.dst (.a (.c (.t k ((cs.drop (i*k)).take ((j - i)*k))))))):Stp P o st K:=by
 intro M0 w0 a w N Q hR hN
 obtain ⟨g,⟨hp1,hp2⟩,hR⟩:=hR
 have e1:=hR.ev x
 have e2:=hR.ev l
 have e3:=hR.ev u
 rw [hx] at e1
 rw [hl] at e2
 rw [hu] at e3
 have e2:a.eval l=.int kk (i:Int):=e2
 have e3:a.eval u=.int kk' (j:Int):=e3
 obtain ⟨A,n,cp,f1,f2,f3⟩:=Rd.form (show Rd _ _ _ _ from e1)
 have hjn:j<=n:=Nat.le_of_mul_le_mul_right (by rw [<- f2];exact hj) hk
 rw [f1] at e1
 have hcut:=Rd.cut (show Rd _ _ _ _ from e1) hk hij hj
 obtain ⟨e,h2,h4,h3⟩:=D3 hz
 have hrun:(execOp a.eval o).run P w=.ok (.value (.slice (Ma A cp i k) (j - i) (cp - i))) w:=by
  simp only [execOp,ho,Option.map_some,Option.map_none,f1,e2,e3,Sem.run_bind,D4 h2]
  rw [run_slice_lh w t _ _ _ (by rw [h4];exact h2) _ _ (i:Int) (j:Int) (by omega) (by omega) (by omega),h4,h3]
  simp [sliced,Result.andThen,Ma]
 unfold Oper.wp
 rw [hrun]
 exact hN _ _ _ h ⟨g,⟨by cases o.dst <;> exact hp1,by cases o.dst <;> exact hp2⟩,hR.put (B3 hd) hcut⟩
set_option maxRecDepth 100000
attribute [local go_sem] List.set_cons_zero List.set_cons_succ List.map_cons List.map_nil List.take_succ_cons List.take_zero List.drop_zero List.drop_succ_cons C.pl C.one List.all_cons List.all_nil Bool.and_true
theorem Yz (x:Int):E2 x=(decide (x>=2) && decide (x<=1025)):=rfl
theorem HJ (x:Int):FC Tryz.prog 92 [.i x] [] (fun r o=>o=[]/\r=.b (E2 x)):=by
 refine A6 Tryz.func92 rfl (by rw [Tryz.ntmps92];simp) ?_
 rw [Tryz.ntmps92]
 simp only [Bf]
 by_cases h1:x>=2
 ·have e1:decide (x>=2)=true:=by simpa using h1
  (refine Wu @e1 ?_;(repeat clear hK K);repeat refine kq fun K hK=>?_)
  exact RG [] Tryz.results92 (an @Yz (an @e1 @Bool.true_and))
 have e1:decide (x>=2)=false:=by simpa using h1
 (refine Wu @e1 ?_;(repeat clear hK K);repeat refine kq fun K hK=>?_)
 exact RG [] Tryz.results92 (an @Yz (an @e1 @Bool.false_and))
def FstP (o:List Ar) (x:Ar) (n:Nat):Prop:=n<=o.length/\(∀ i a,i<n->o[i]?=some a->WK a x=true)/\∀ i a,n<=i->o[i]?=some a->WK a x=false
theorem FstP.mem {o:List Ar} {x:Ar} {n:Nat} (h:FstP o x n) (hs:SortA o):x∈o↔o[n]?=some x:=by
 constructor
 rotate_left
 ·exact fun hm=>gE9 hm
 intro hm
 obtain ⟨i,hi⟩:=List.mem_iff_getElem?.1 hm
 rcases Nat.lt_trichotomy i n with h1 | h1 | h1
 ·have:=h.2.1 i x h1 hi
  rw [Ef] at this;cases this
 ·rw [<- h1];exact hi
 have hl:=(List.getElem?_eq_some_iff.1 hi).1
 have hg:=gE1 (show n<o.length by omega)
 have h2:=hs.at h1 hg hi
 have h3:=h.2.2 n _ (Nat.le_refl _) hg
 rw [h2] at h3;cases h3
theorem HK (o:List Ar) (x:Ar) (hn:o.length<=100000000) (hs:SortA o):FC Tryz.prog 120 [BK o,.a (.g [.v (.int .i64 x.1),.v (.int .i64 x.2)])] [] (fun r q=>q=[]/\∃ n:Nat,r=.i n/\FstP o x n):=by
 refine A6 Tryz.func120 rfl (by rw [Tryz.ntmps120];simp) ?_
 rw [Tryz.ntmps120]
 simp only [Bf,BK]
 (refine Wu (an @A2 @Ak) ?_;(repeat clear hK K);repeat refine kq fun K hK=>?_)
 refine A8 (fun p:Nat × Nat=>{ tm:=[(0,.a (.c (.t 2 (Ao o)))),(3,.a (.c (.p 0 0))),(5,.i p.1),(6,.i p.2)],hp:=[.r ⟨49,2,false,[.v (.int .i64 x.1),.v (.int .i64 x.2)]⟩],n:=30,pin:=0 })
  (fun p=>p.1<=p.2/\p.2<=o.length/\(∀ i a,i<p.1->o[i]?=some a->WK a x=true)/\∀ i a,p.2<=i->o[i]?=some a->WK a x=false) (fun p=>p.2 - p.1) (0,o.length) ?_ ?_ ?_
 ·exact ⟨by simp,Nat.le_refl _,fun i _ hi=>by simp at hi,fun i a hi ha=>by have:=(List.getElem?_eq_some_iff.1 ha).1;simp only at hi;omega⟩
 ·(refine BG ?_;simp only [Dg,go_sem,Int.natCast_zero];try simp)
 rintro ⟨lo,hi⟩ ⟨h1,h2,h3,h4⟩ K hK
 simp only at h1 h2 h3 h4 ⊢
 by_cases hlt:lo<hi
 rotate_left
 ·have hl1:decide ((lo:Int)<(hi:Int))=false:=by simpa using hlt
  have e:lo=hi:=by omega
  subst e
  (refine Wu @hl1 ?_;(repeat clear hK K);repeat refine kq fun K hK=>?_)
  refine WC ?_
  (refine Wx ?_;repeat clear hK K)
  (refine Wt ?_;(repeat clear hK K);repeat refine kq fun K hK=>?_)
  refine WF [] Tryz.results120 ?_
  exact ⟨lo,rfl,h2,h3,h4⟩
 have hl1:decide ((lo:Int)<(hi:Int))=true:=by simpa using hlt
 have em:((lo:Int)+((hi:Int) - (lo:Int)) / 2)=((lo+(hi - lo) / 2:Nat):Int):=by omega
 have hm1:lo<=lo+(hi - lo) / 2:=by omega
 have hm2:lo+(hi - lo) / 2<hi:=by omega
 generalize lo+(hi - lo) / 2=m at em hm1 hm2
 have hml:m<o.length:=by omega
 have hg:=gE1 hml
 have hk2:=AL hml
 (refine Wu (an @hl1 @em) ?_;(repeat clear hK K);repeat refine kq fun K hK=>?_)
 refine WB ?_
 (refine Wu @em ?_;(repeat clear hK K);repeat refine kq fun K hK=>?_)
 (refine Ac 5 [(0,0),(1,0),(2,0),(3,1),(4,1),(5,2),(6,0)] (by kernel_rfl) (by kernel_rfl) (by intro c st h;simp [Ae,AF,VT] at h) ?_)
 (refine Wq (an @A2 (an @Ak @hk2)) ?_;repeat clear hK K)
 (refine MF (MR o[m] x) ?_;intro K1 hK1)
 rintro _ _ ⟨rfl,rfl⟩
 (refine Wz ?_;clear hK1 K1)
 cases hl:WK o[m] x with
 | true=>
  (refine Wq (an @Ce @hl) ?_;repeat clear hK K)
  refine WB ?_
  (refine Wt ?_;(repeat clear hK K);repeat refine kq fun K hK=>?_)
  refine WD ?_
  refine hK _ (m+1,hi) ⟨by simp only;omega,h2,fun i a hi' ha=>?_,h4⟩ (by simp only;omega) ?_
  rotate_left
  ·exact WE
  rcases Nat.lt_or_ge i m with h5 | h5
  ·exact D7 (hs.at h5 ha hg) hl
  have e:i=m:=by simp only at hi';omega
  subst e;rw [hg] at ha;cases ha;exact hl
 | false=>
  (refine Wq (an @Ce @hl) ?_;repeat clear hK K)
  refine WC ?_
  (refine Wt ?_;(repeat clear hK K);repeat refine kq fun K hK=>?_)
  refine WD ?_
  refine hK _ (lo,m) ⟨by simp only;omega,by simp only;omega,h3,fun i a hi' ha=>?_⟩ (by simp only;omega) ?_
  rotate_left
  ·exact WE
  rcases Nat.lt_or_ge m i with h5 | h5
  rotate_left
  ·have e:i=m:=by simp only at hi';omega
   subst e;rw [hg] at ha;cases ha;exact hl
  cases h6:WK a x with
  | false=>rfl
  | true=>rw [D7 (hs.at h5 hg ha) h6] at hl;cases hl

theorem Ta:UM Tryz.prog 49 2:=TS Tryz.underlying49 (by kernel_rfl) (by kernel_rfl) (by decide) (by decide) rfl rfl (by kernel_rfl) (by kernel_rfl)
theorem OJ (x y:Operand) (a b:Ar):FR Tryz.prog .eql 49 x y [.int .i64 a.1,.int .i64 a.2] [.int .i64 b.1,.int .i64 b.2] (decide (a=b))=True:=by
 rw [<- Dm]
 refine eq_true ?_
 have:=(Ta x y [.v (.int .i64 a.1),.v (.int .i64 a.2)] [.v (.int .i64 b.1),.v (.int .i64 b.2)] _ _ rfl rfl rfl rfl).1
 simpa [VD] using this
theorem Fo (o:List Ar) (x:Ar) (hn:o.length<=100000000) (hs:SortA o):FC Tryz.prog 95 [BK o,.a (.g [.v (.int .i64 x.1),.v (.int .i64 x.2)])] [] (fun r q=>q=[]/\r=.b (decide (x∈o))):=by
 refine A6 Tryz.func95 rfl (by rw [Tryz.ntmps95];simp) ?_
 rw [Tryz.ntmps95]
 simp only [Bf,BK]
 (refine Wt ?_;(repeat clear hK K);repeat refine kq fun K hK=>?_)
 (refine Wy (HK o x hn hs) ?_;intro K1 hK1)
 rintro _ _ ⟨rfl,n,rfl,hf⟩
 (refine Wz ?_;clear hK1 K1)
 (refine Wt ?_;(repeat clear hK K);repeat refine kq fun K hK=>?_)
 (refine Ac 12 [(0,0),(1,0),(2,0),(3,0),(4,0),(5,0),(6,0),(7,0),(8,1),(9,1),(10,0),(11,0),(12,2)] (by kernel_rfl) (by kernel_rfl) (by intro c st h;simp [Ae,AF,VT] at h) ?_)
 by_cases hlt:n<o.length
 rotate_left
 ·have hl1:decide ((n:Int)<(o.length:Int))=false:=by simpa using hlt
  (refine Wo (an @hl1 (an @A2 @Ak)) ?_;repeat clear hK K)
  (refine Wt ?_;(repeat clear hK K);repeat refine kq fun K hK=>?_)
  refine WF [] Tryz.results95 ?_
  have:=hf.mem hs
  rw [List.getElem?_eq_none (by omega)] at this
  simp at this
  simp [this]
 have hl1:decide ((n:Int)<(o.length:Int))=true:=by simpa using hlt
 have hg:=gE1 hlt
 have hk2:=AL hlt
 (refine Wo (an @hl1 (an @hk2 (an @OJ (an @Dm (an @true_and (an @A2 @Ak)))))) ?_;repeat clear hK K)
 (refine Wt ?_;(repeat clear hK K);repeat refine kq fun K hK=>?_)
 refine WF [] Tryz.results95 ?_
 have:=hf.mem hs
 rw [hg] at this
 simp only [Option.some.injEq] at this
 simp [this]

theorem FstP.le {o:List Ar} {x y:Ar} {n m:Nat} (h1:FstP o x n) (h2:FstP o y m) (h:∀ a,WK a x=true->WK a y=true):n<=m:=by
 rcases Nat.lt_or_ge m n with h3 | h3
 rotate_left
 ·exact h3
 have hl:=h1.1
 have hg:=gE1 (show m<o.length by omega)
 have h4:=h _ (h1.2.1 m _ h3 hg)
 rw [h2.2.2 m _ (Nat.le_refl _) hg] at h4
 cases h4
theorem II (o:List Ar) (e:Int) (hn:o.length<=100000000) (hs:SortA o) (hv:E2 e=true) (hh:∀ a∈o,0<=a.2):FC Tryz.prog 94 [BK o,.i e] [] (fun r q=>q=[]/\∃ W,r=BK W/\W.length<=o.length/\∀ a,a∈W↔a∈o/\a.1=e):=by
 refine A6 Tryz.func94 rfl (by rw [Tryz.ntmps94];simp) ?_
 rw [Tryz.ntmps94]
 simp only [Bf,BK]
 obtain ⟨he1,he2⟩:=DI.1 hv
 (refine Wt ?_;(repeat clear hK K);repeat refine kq fun K hK=>?_)
 (refine Wy (HJ e) ?_;intro K1 hK1)
 rintro _ _ ⟨rfl,rfl⟩
 (refine Wz ?_;clear hK1 K1)
 (refine Wu (an @hv @Bool.not_true) ?_;(repeat clear hK K);repeat refine kq fun K hK=>?_)
 refine WC ?_
 (refine Wt ?_;(repeat clear hK K);repeat refine kq fun K hK=>?_)
 (refine Wy (HK o (e,0) hn hs) ?_;intro K1 hK1)
 rintro _ _ ⟨rfl,i,rfl,hf⟩
 (refine Wz ?_;clear hK1 K1)
 (refine Wt ?_;(repeat clear hK K);repeat refine kq fun K hK=>?_)
 (refine Wy (HK o (e+1,0) hn hs) ?_;intro K1 hK1)
 rintro _ _ ⟨rfl,j,rfl,hf2⟩
 (refine Wz ?_;clear hK1 K1)
 have hij:i<=j:=hf.le hf2 fun a ha=>by rw [C0] at ha ⊢;simp only at ha ⊢;omega
 have hjl:=hf2.1
 refine Ai rfl ?_;intro K1 hK1
 refine QK (k:=2) (cs:=Ao o) (i:=i) (j:=j) (kk:=.i64) (kk':=.i64) rfl rfl (by simp only [go_sem]) (by simp only [go_sem]) (by simp only [go_sem]) (by simp only [go_sem]) (by omega) hij (by rw [A2];omega) ?_
 simp only [go_sem]
 refine hK1 _ ?_;clear hK1 K1
 (refine Wt ?_;(repeat clear hK K);repeat refine kq fun K hK=>?_)
 refine WF [] Tryz.results94 ?_
 refine ⟨(o.drop i).take (j - i),?_,?_,fun a=>?_⟩
 ·rw [DP,BA]
 ·simp;omega
 constructor
 ·intro ha
  obtain ⟨q,hq⟩:=List.mem_iff_getElem?.1 ha
  rw [List.getElem?_take] at hq
  split at hq
  rotate_left
  ·cases hq
  rw [List.getElem?_drop] at hq
  have hm:=gE9 hq
  have h1:=hf.2.2 (i+q) a (by omega) hq
  have h2:=hf2.2.1 (i+q) a (by omega) hq
  rw [C0] at h2
  have h1:¬ (a.1<e\/(a.1=e/\a.2<0)):=by rw [<- C0 (a:=a) (b:=(e,0)),h1];simp
  have h3:=hh a hm
  simp only at h2
  exact ⟨hm,by omega⟩
 rintro ⟨hm,ha⟩
 obtain ⟨q,hq⟩:=List.mem_iff_getElem?.1 hm
 have hqi:i<=q:=by
  rcases Nat.lt_or_ge q i with h1 | h1
  rotate_left
  ·exact h1
  have h2:=hf.2.1 q a h1 hq
  rw [C0] at h2
  have:=hh a hm
  simp only at h2
  omega
 have hqj:q<j:=by
  rcases Nat.lt_or_ge q j with h1 | h1
  ·exact h1
  have h2:=hf2.2.2 q a h1 hq
  have h3:WK a (e+1,0)=true:=by rw [C0];simp only;omega
  rw [h2] at h3;cases h3
 refine List.mem_iff_getElem?.2 ⟨q - i,?_⟩
 rw [List.getElem?_take,if_pos (by omega),List.getElem?_drop,show i+(q - i)=q by omega]
 exact hq
set_option maxHeartbeats 2000000 in
theorem Tc (o:List Ar) (hn:o.length<=100000000):FC Tryz.prog 58 [BK o] [] (fun r q=>q=[]/\r=.b (M8 o)):=by
 refine A6 Tryz.func58 rfl (by rw [Tryz.ntmps58];simp) ?_
 rw [Tryz.ntmps58]
 simp only [Bf,BK]
 (refine Wu (an @A2 @Ak) ?_;(repeat clear hK K);repeat refine kq fun K hK=>?_)
 refine A8 (fun k:Nat=>{ tm:=[(0,.a (.c (.t 2 (Ao o)))),(9,.a (.c (.t 2 (Ao o)))),(10,.i o.length),(11,.i k)],hp:=[],n:=73,pin:=0 }) (fun k=>k<=o.length/\(∀ i a,i<k->o[i]?=some a->DY a.1/\DY a.2/\a.1 ≠ a.2)/\∀ i a b,i+1<k->o[i]?=some a->o[i+1]?=some b->WK a b=true) (fun k=>o.length - k) 0 ?_ ?_ ?_
 ·exact ⟨by omega,fun i _ hi=>by omega,fun i _ _ hi=>by omega⟩
 ·exact WE
 rintro k ⟨hk,hc,hs⟩ K hK
 by_cases hlt:k<o.length
 rotate_left
 ·have hl1:decide ((k:Int)<(o.length:Int))=false:=by simpa using hlt
  (refine Wu @hl1 ?_;(repeat clear hK K);repeat refine kq fun K hK=>?_)
  refine WC ?_
  have lt:∀ {i:Nat} {a:Ar},o[i]?=some a->i<k:=fun h=>by have:=(List.getElem?_eq_some_iff.1 h).1;omega
  have hS:SortA o:=Gd fun i a b h1 h2=>hs i a b (lt h2) h1 h2
  have hC:∀ a∈o,DY a.1/\DY a.2/\a.1 ≠ a.2:=fun a ha=>by obtain ⟨i,hi⟩:=List.mem_iff_getElem?.1 ha;exact hc i a (lt hi) hi
  have hH:∀ a∈o,0<=a.2:=fun a ha=>by obtain ⟨_,⟨h1,h2⟩,_⟩:=hC a ha;omega
  clear hs hc lt
  (refine Wx ?_;repeat clear hK K)
  (refine Wu (an @A2 @Ak) ?_;(repeat clear hK K);repeat refine kq fun K hK=>?_)
  refine A8 (fun k:Nat=>{ tm:=[(0,.a (.c (.t 2 (Ao o)))),(48,.a (.c (.t 2 (Ao o)))),(49,.i o.length),(50,.i k)],hp:=[],n:=73,pin:=0 }) (fun k=>k<=o.length/\∀ i x,i<k->o[i]?=some x->∀ y∈o,y.1=x.2->(x.1,y.2)∈o) (fun k=>o.length - k) 0 ?_ ?_ ?_
  ·exact ⟨by omega,fun i _ hi=>by omega⟩
  ·exact WE
  rintro k ⟨hk,ht⟩ K hK
  by_cases hlt:k<o.length
  rotate_left
  ·have hl1:decide ((k:Int)<(o.length:Int))=false:=by simpa using hlt
   (refine Wu @hl1 ?_;(repeat clear hK K);repeat refine kq fun K hK=>?_)
   refine WC ?_
   (refine Wx ?_;repeat clear hK K)
   (refine Wt ?_;(repeat clear hK K);repeat refine kq fun K hK=>?_)
   refine WF [] Tryz.results58 ?_
   have:M8 o=true:=by
    rw [M8,decide_eq_true_iff]
    refine ⟨hS,hC,fun x hx=>?_⟩
    obtain ⟨i,hi⟩:=List.mem_iff_getElem?.1 hx
    exact ht i x (by have:=(List.getElem?_eq_some_iff.1 hi).1;omega) hi
   rw [this]
  have hl1:decide ((k:Int)<(o.length:Int))=true:=by simpa using hlt
  have hg:=gE1 hlt
  have hk2:=AL hlt
  have mk:=gE6 hlt
  have hv:=DI.2 (hC _ mk).2.1
  (refine Wu @hl1 ?_;(repeat clear hK K);repeat refine kq fun K hK=>?_)
  refine WB ?_
  (refine Wu (an @A2 (an @Ak @hk2)) ?_;(repeat clear hK K);repeat refine kq fun K hK=>?_)
  (refine Wy (II o o[k].2 hn hS hv hH) ?_;intro K1 hK1)
  rintro _ _ ⟨rfl,W,rfl,hWl,hW⟩
  (simp only [As,Bl,BK,List.append_nil,List.nil_append,List.length_map,go_sem];refine hK1 _ ?_;clear hK1 K1)
  (refine Wu (an @A2 @Ak) ?_;(repeat clear hK K);repeat refine kq fun K hK=>?_)
  refine A8 (fun j:Nat=>{ tm:=[(0,.a (.c (.t 2 (Ao o)))),(6,.a (.c (.p 0 0))),(48,.a (.c (.t 2 (Ao o)))),(49,.i o.length),(50,.i k),(57,.a (.c (.t 2 (Ao W)))),(58,.i W.length),(59,.i j)],hp:=[.r ⟨49,2,false,[.v (.int .i64 o[k].1),.v (.int .i64 o[k].2)]⟩],n:=73,pin:=0 }) (fun j=>j<=W.length/\∀ i y,i<j->W[i]?=some y->(o[k].1,y.2)∈o) (fun j=>W.length - j) 0 ?_ ?_ ?_
  ·exact ⟨by omega,fun i _ hi=>by omega⟩
  ·exact WE
  rintro j ⟨hj,hj2⟩ K hK
  by_cases hltj:j<W.length
  rotate_left
  ·have hl2:decide ((j:Int)<(W.length:Int))=false:=by simpa using hltj
   (refine Wu @hl2 ?_;(repeat clear hK K);repeat refine kq fun K hK=>?_)
   refine WC ?_
   (refine Wx ?_;repeat clear hK K)
   (refine Wt ?_;(repeat clear hK K);repeat refine kq fun K hK=>?_)
   refine WD ?_
   refine hK _ (k+1) ⟨by omega,fun i x hi hx y hy he=>?_⟩ (by omega) ?_
   rotate_left
   ·refine Le.trans (A9 [] rfl rfl) ?_
    (try simp only [List.set_nil,List.take_nil,List.take_zero,List.map_append,go_sem])
    exact WE
   by_cases e:i=k
   rotate_left
   ·exact ht i x (by omega) hx y hy he
   subst e;rw [hg] at hx;cases hx
   obtain ⟨q,hq⟩:=List.mem_iff_getElem?.1 ((hW y).2 ⟨hy,he⟩)
   exact hj2 q y (by have:=(List.getElem?_eq_some_iff.1 hq).1;omega) hq
  have hl2:decide ((j:Int)<(W.length:Int))=true:=by simpa using hltj
  have hgj:=gE1 hltj
  have hj3:=AL hltj
  have mj:=(hW _).1 (gE6 hltj)
  (refine Wu @hl2 ?_;(repeat clear hK K);repeat refine kq fun K hK=>?_)
  refine WB ?_
  (refine Wu (an @A2 (an @Ak @hj3)) ?_;(repeat clear hK K);repeat refine kq fun K hK=>?_)
  (refine Wy (Fo o (o[k].1,W[j].2) hn hS) ?_;intro K1 hK1)
  rintro _ _ ⟨rfl,rfl⟩
  (refine Wz ?_;clear hK1 K1)
  by_cases q3:(o[k].1,W[j].2)∈o
  rotate_left
  ·have q4:decide ((o[k].1,W[j].2)∈o)=false:=by simpa using q3
   (refine Wu (an @q4 @Bool.not_false) ?_;(repeat clear hK K);repeat refine kq fun K hK=>?_)
   refine WB ?_
   (refine Wt ?_;(repeat clear hK K);repeat refine kq fun K hK=>?_)
   refine WF [] Tryz.results58 ?_
   rw [RL mk mj.1 mj.2 q3]
  have q4:decide ((o[k].1,W[j].2)∈o)=true:=by simpa using q3
  (refine Wu (an @q4 @Bool.not_true) ?_;(repeat clear hK K);repeat refine kq fun K hK=>?_)
  refine WC ?_
  (refine Wt ?_;(repeat clear hK K);repeat refine kq fun K hK=>?_)
  refine WD ?_
  refine hK _ (j+1) ⟨by omega,fun i y hi hy=>?_⟩ (by omega) ?_
  ·by_cases e:i=j
   ·subst e;rw [hgj] at hy;cases hy;exact q3
   exact hj2 i y (by omega) hy
  refine Le.trans (A9 [0] rfl rfl) ?_
  (try simp only [List.set_nil,List.take_nil,List.take_zero,List.map_append,go_sem])
  exact WE
 have hl1:decide ((k:Int)<(o.length:Int))=true:=by simpa using hlt
 have hg:=gE1 hlt
 have hk2:=AL hlt
 have bad:¬ (DY o[k].1/\DY o[k].2/\o[k].1 ≠ o[k].2)->M8 o=false:=fun h=>Pu hg h
 (refine Wu @hl1 ?_;(repeat clear hK K);repeat refine kq fun K hK=>?_)
 refine WB ?_
 (refine Wu (an @A2 (an @Ak @hk2)) ?_;(repeat clear hK K);repeat refine kq fun K hK=>?_)
 (refine Bz [] [(0,0,0),(1,1,2),(2,2,0),(3,0,0),(4,0,0),(5,0,0),(6,1,7),(7,2,0),(8,0,0),(9,0,0),(10,0,0),(11,0,0),(13,0,0),(12,1,27),(14,1,27),(15,0,0),(16,0,0),(17,0,0),(18,0,0),(19,0,0),(20,0,0),(21,0,0),(22,0,0),(23,0,0),(24,0,0),(25,1,27),(26,1,27),(27,2,0),(28,0,0),(29,0,0),(30,2,0)] (by kernel_rfl) (by kernel_rfl) (by intro c st h;simp [Ae,AF,VT] at h) ?_)
 (refine Wr ?_;repeat clear hK K)
 (refine Wf rfl rfl ?_;intro K1 hK1;refine AZ ?_;refine xv [] (HJ o[k].1) ?_ ?_)
 ·rintro _ _ ⟨rfl,rfl⟩ i o hi hl;simp at hl
 rintro _ _ ⟨rfl,rfl⟩
 (refine Wz ?_;clear hK1 K1)
 by_cases c1:E2 o[k].1=true
 rotate_left
 ·have c1':E2 o[k].1=false:=by simpa using c1
  (refine Ws (an @c1' (an @Bool.not_true @Bool.not_false)) ?_;repeat clear hK K)
  (refine Wg rfl rfl rfl ?_;intro K1 hK1;refine AP rfl ?_;simp only [go_sem];(first | refine hK1 _ ?_ | refine AD (hK1 _ ?_));clear hK1 K1)
  (refine Wr ?_;repeat clear hK K)
  (refine Wt ?_;(repeat clear hK K);repeat refine kq fun K hK=>?_)
  refine WB ?_
  (refine Wt ?_;(repeat clear hK K);repeat refine kq fun K hK=>?_)
  refine WF [] Tryz.results58 ?_
  rw [bad (fun h=>L8.1 c1' h.1)]
 (refine Ws (an @c1 @Bool.not_true) ?_;repeat clear hK K)
 (refine MD rfl rfl rfl (by simp only [go_sem] <;> rfl) ?_;intro K1 hK1;refine AZ ?_;refine xv [] (HJ o[k].2) ?_ ?_)
 ·rintro _ _ ⟨rfl,rfl⟩ i o hi hl;simp at hl
 rintro _ _ ⟨rfl,rfl⟩
 (refine Wz ?_;clear hK1 K1)
 by_cases c2:E2 o[k].2=true
 rotate_left
 ·have c2':E2 o[k].2=false:=by simpa using c2
  (refine Ws (an @c1 (an @c2' (an @Bool.not_true @Bool.not_false))) ?_;repeat clear hK K)
  (refine Wg rfl rfl rfl ?_;intro K1 hK1;refine AP rfl ?_;simp only [go_sem];(first | refine hK1 _ ?_ | refine AD (hK1 _ ?_));clear hK1 K1)
  (refine Wr ?_;repeat clear hK K)
  (refine Wt ?_;(repeat clear hK K);repeat refine kq fun K hK=>?_)
  refine WB ?_
  (refine Wt ?_;(repeat clear hK K);repeat refine kq fun K hK=>?_)
  refine WF [] Tryz.results58 ?_
  rw [bad (fun h=>L8.1 c2' h.2.1)]
 by_cases c5:o[k].1=o[k].2
 ·have d5:(o[k].1 == o[k].2)=true:=by simpa using c5
  (refine Ws (an @c1 (an @c2 (an @d5 @Bool.not_true))) ?_;repeat clear hK K)
  (refine Wg rfl rfl rfl ?_;intro K1 hK1;refine AP rfl ?_;simp only [go_sem];(first | refine hK1 _ ?_ | refine AD (hK1 _ ?_));clear hK1 K1)
  (refine Wr ?_;repeat clear hK K)
  (refine Wt ?_;(repeat clear hK K);repeat refine kq fun K hK=>?_)
  refine WB ?_
  (refine Wt ?_;(repeat clear hK K);repeat refine kq fun K hK=>?_)
  refine WF [] Tryz.results58 ?_
  rw [bad (fun h=>h.2.2 c5)]
 have d5:(o[k].1 == o[k].2)=false:=by simpa using c5
 have hck:DY o[k].1/\DY o[k].2/\o[k].1 ≠ o[k].2:=⟨DI.1 c1,DI.1 c2,c5⟩
 by_cases h0:k=0
 ·have e0:decide ((k:Int) > 0)=false:=by simp;omega
  (refine Ws (an @c1 (an @c2 (an @d5 (an @e0 @Bool.not_true)))) ?_;repeat clear hK K)
  (refine Wg rfl rfl rfl ?_;intro K1 hK1;refine AP rfl ?_;simp only [go_sem,c1,c2,e0,Bool.not_true];(first | refine hK1 _ ?_ | refine AD (hK1 _ ?_));clear hK1 K1)
  (refine Wr ?_;repeat clear hK K)
  (refine Wt ?_;(repeat clear hK K);repeat refine kq fun K hK=>?_)
  refine WC ?_
  (refine Wt ?_;(repeat clear hK K);repeat refine kq fun K hK=>?_)
  refine WD ?_
  refine hK _ (k+1) ⟨by omega,fun i a hi ha=>?_,fun i x y hi=>by omega⟩ (by omega) ?_
  ·have e2:i=k:=by omega
   subst e2;rw [hg] at ha;cases ha;exact hck
  refine Le.trans (A9 [] rfl rfl) ?_
  (try simp only [List.set_nil,List.take_nil,List.take_zero,List.map_append,go_sem])
  exact WE
 have e0:decide ((k:Int) > 0)=true:=by simp;omega
 have e3:((k:Int) - 1)=((k - 1:Nat):Int):=by omega
 have hlt1:k - 1<o.length:=by omega
 have hg1:=gE1 hlt1
 have hk3:=AL hlt1
 (refine Ws (an @c1 (an @c2 (an @d5 (an @e0 (an @e3 (an @Bool.not_true (an @A2 (an @Ak @hk3)))))))) ?_;repeat clear hK K)
 (refine MD rfl rfl rfl (by simp only [go_sem] <;> rfl) ?_;intro K1 hK1;refine AZ ?_;refine xv [] (MR o[k - 1] o[k]) ?_ ?_)
 ·rintro _ _ ⟨rfl,rfl⟩ i o hi hl;simp at hl
 rintro _ _ ⟨rfl,rfl⟩
 (refine Wz ?_;clear hK1 K1)
 cases hl:WK o[k - 1] o[k] with
 | false=>
  (refine Ws (an @EY (an @hl @Bool.not_false)) ?_;repeat clear hK K)
  (refine Wg rfl rfl rfl ?_;intro K1 hK1;refine AP rfl ?_;simp only [go_sem];(first | refine hK1 _ ?_ | refine AD (hK1 _ ?_));clear hK1 K1)
  (refine Wr ?_;repeat clear hK K)
  (refine Wt ?_;(repeat clear hK K);repeat refine kq fun K hK=>?_)
  refine WB ?_
  (refine Wt ?_;(repeat clear hK K);repeat refine kq fun K hK=>?_)
  refine WF [] Tryz.results58 ?_
  rw [Pv hg1 (by rw [Nat.sub_add_cancel (by omega)];exact hg) hl]
 | true=>
  (refine Ws (an @EY (an @hl @Bool.not_true)) ?_;repeat clear hK K)
  (refine Wg rfl rfl rfl ?_;intro K1 hK1;refine AP rfl ?_;simp only [go_sem];(first | refine hK1 _ ?_ | refine AD (hK1 _ ?_));clear hK1 K1)
  (refine Wr ?_;repeat clear hK K)
  (refine Wt ?_;(repeat clear hK K);repeat refine kq fun K hK=>?_)
  refine WC ?_
  (refine Wt ?_;(repeat clear hK K);repeat refine kq fun K hK=>?_)
  refine WD ?_
  refine hK _ (k+1) ⟨by omega,fun i a hi ha=>?_,fun i x y hi hx hy=>?_⟩ (by omega) ?_
  rotate_left 2
  ·refine Le.trans (A9 [] rfl rfl) ?_
   (try simp only [List.set_nil,List.take_nil,List.take_zero,List.map_append,go_sem])
   exact WE
  ·by_cases e2:i=k
   ·subst e2;rw [hg] at ha;cases ha;exact hck
   exact hc i a (by omega) ha
  by_cases e2:i+1=k
  rotate_left
  ·exact hs i x y (by omega) hx hy
  have e4:i=k - 1:=by omega
  subst e4
  rw [hg1] at hx;rw [e2,hg] at hy
  cases hx;cases hy;exact hl
end Go.Proofs.YtjijjfkalheokaaGreatDoor
