/- Lemmas. -/
import Derived.Test.YtbnabodoabimnaaGreatZk
import Derived.Test.YtbnabodoabimnaaGreatG47
import Derived.Test.YtbnabodoabimnaaGreatG53
import Derived.Test.YtbnabodoabimnaaGreatMit
import Derived.Test.YtbnabodoabimnaaGreatG45
import Derived.Test.YtbnabodoabimnaaGreatG11
namespace Go.Proofs.YtbnabodoabimnaaGreat
set_option linter.unusedVariables false
set_option linter.unusedSimpArgs false
open Go.RowKit
set_option maxRecDepth 100000
attribute [local go_sem] lga C.pl C.one

theorem KU {P:Program} {o:Oper} {st:ST} {K:ST->Prop} {t kt e:TypeId} {id:Nat} {kv:List (Value × C)} {x:Operand} {c:Call} (hu:P.underlying t=some (.map kt e)) (hd:Vc o st.n=true) (ho:o.op=.call c) (hc1:c.callee=.builtin .len) (hc2:c.args=#[x]) (hc3:c.argTypes=#[t]) (hx:st.ev x=.a (.c (.m id))) (hm:st.hp[id]?=some (.m kv)) (hit:Ti kv=false) (h:K (st.put o.dst (.i kv.length))):Stp P o st K:=by
 refine GR hd (fun g w ρ hr hR=>?_) h
 obtain ⟨dst,op,ty,pos,af,gd⟩:=o
 simp only at ho
 subst ho
 obtain ⟨callee,args,ts⟩:=c
 simp only at hc1 hc2 hc3
 subst hc1;subst hc2;subst hc3
 obtain ⟨es,clock,m1,m2,_⟩:=(hr.mp id kv hm).map0 hit
 have e1:=hR x
 rw [hx] at e1
 obtain ⟨_,e1⟩:=e1
 refine ⟨.int .i64 kv.length,?_,rfl⟩
 simp only [execOp,resolve,invoke,builtin,Sem.run_bind,Sem.run_pure,Result.andThen_ok,List.map_toArray,List.map_cons,List.map_nil,e1]
 simp [Builtin.len_,run_underlying hu,MapKept.run_getObj_map m1,goInt,m2]
theorem Qt (M:List (Value × Value)):Ti (M.map fun p=>(p.1,C.v p.2))=false:=by
 cases M <;> rfl
theorem LL {s:Ks} {key k:Value} {c:C}:∀ (l:List (Value × C)) (i:Nat),Bd s key (l++[(k,c)]) i=match Bd s key l i with | some none=>(match Cr s key k with | some true=>some (some (i+l.length,c)) | some false=>some none | none=>none) | r=>r:=by
 intro l
 induction l with
 | nil=>
  intro i
  simp only [List.nil_append,Bd,List.length_nil,Nat.add_zero]
  cases Cr s key k with
  | none=>rfl
  | some b=>cases b <;> rfl
 | cons p r ih=>
  intro i
  obtain ⟨k1,c1⟩:=p
  simp only [List.cons_append,Bd]
  cases Cr s key k1 with
  | none=>rfl
  | some b=>
   cases b with
   | true=>rfl
   | false=>
    simp only
    rw [ih (i+1),List.length_cons,show i+1+r.length=i+(r.length+1) from by omega]
section
variable {α : Type} [DecidableEq α]
def SX (ky:List Value) (g:Nat->α):Prop:=∀ a b,a<ky.length->b<ky.length->Cr .ks (ky.getD a (.int .i64 0)) (ky.getD b (.int .i64 0))=some (decide (g a=g b))
def XY (ky:List Value) (g:Nat->α):Nat->List (Value × C)
 | 0=>[]
 | k+1=>match (List.range k).find? (fun t=>decide (g t=g k)) with
  | some _=>XY ky g k
  | none=>XY ky g k++[(ky.getD k (.int .i64 0),.v (.int .i64 (WE g k).2))]
theorem EL {ky:List Value} {g:Nat->α} {k t:Nat} (h:(List.range k).find? (fun t=>decide (g t=g k))=some t):XY ky g (k+1)=XY ky g k:=by rw [XY,h]
theorem EM {ky:List Value} {g:Nat->α} {k:Nat} (h:(List.range k).find? (fun t=>decide (g t=g k))=none):XY ky g (k+1)=XY ky g k++[(ky.getD k (.int .i64 0),.v (.int .i64 (WE g k).2))]:=by rw [XY,h]
theorem Qu (ky:List Value) (g:Nat->α) (k:Nat):(XY ky g k).all (fun p=>p.2.pl)=true:=by
 induction k with
 | zero=>rfl
 | succ k ih=>
  cases h:(List.range k).find? (fun t=>decide (g t=g k)) with
  | some t=>rw [EL h];exact ih
  | none=>rw [EM h,List.all_append,ih];rfl
theorem NU (ky:List Value) (g:Nat->α) (k:Nat):(XY ky g k).length=(WE g k).2:=by
 induction k with
 | zero=>rfl
 | succ k ih=>
  cases h:(List.range k).find? (fun t=>decide (g t=g k)) with
  | some t=>rw [EL h,EC h];exact ih
  | none=>rw [EM h,ED h,List.length_append,ih];rfl
theorem Hs (ky:List Value) (g:Nat->α) (k:Nat):∃ M:List (Value × Value),XY ky g k=M.map fun p=>(p.1,C.v p.2):=by
 induction k with
 | zero=>exact ⟨[],rfl⟩
 | succ k ih=>
  obtain ⟨M,hM⟩:=ih
  cases h:(List.range k).find? (fun t=>decide (g t=g k)) with
  | some t=>exact ⟨M,by rw [EL h,hM]⟩
  | none=>exact ⟨M++[(ky.getD k (.int .i64 0),.int .i64 (WE g k).2)],by rw [EM h,hM];simp⟩
theorem KV {ky:List Value} {g:Nat->α} (h:SX ky g) {s:Nat} (hs:s<ky.length):∀ k,k<=ky.length->(∃ t,t<k/\g t=g s/\∃ j,Bd .ks (ky.getD s (.int .i64 0)) (XY ky g k) 0=some (some (j,.v (.int .i64 ((WE g k).1.getD t 0)))))\/((∀ t,t<k->g t ≠ g s)/\Bd .ks (ky.getD s (.int .i64 0)) (XY ky g k) 0=some none):=by
 intro k
 induction k with
 | zero=>intro _;exact .inr ⟨fun t ht=>by omega,rfl⟩
 | succ k ih=>
  intro hk
  have hkl:k<ky.length:=hk
  have hlen:=(BK g k).len
  cases hf:(List.range k).find? (fun t=>decide (g t=g k)) with
  | some t0=>
   have h2:=List.find?_range_eq_some.1 hf
   have h3:t0<k:=by simpa using h2.2.1
   have h4:g t0=g k:=by simpa using h2.1
   rw [EL hf,EC hf]
   rcases ih (by omega) with ⟨t,a1,a2,j,a3⟩ | ⟨a1,a2⟩
   ·refine .inl ⟨t,by omega,a2,j,?_⟩
    rw [a3,Bs (by omega)]
   refine .inr ⟨fun t ht=>?_,a2⟩
   rcases Nat.lt_or_ge t k with b | b
   ·exact a1 t b
   have:t=k:=by omega
   subst this
   rw [<- h4];exact a1 t0 h3
  | none=>
   rw [EM hf,ED hf,LL,h s k hs hkl]
   rcases ih (by omega) with ⟨t,a1,a2,j,a3⟩ | ⟨a1,a2⟩
   ·refine .inl ⟨t,by omega,a2,j,?_⟩
    rw [a3,Bs (by omega)]
   rw [a2]
   by_cases e:g s=g k
   ·refine .inl ⟨k,by omega,e.symm,0+(XY ky g k).length,?_⟩
    rw [gEg e,Cg hlen.symm]
   refine .inr ⟨fun t ht=>?_,by rw [decide_eq_false e]⟩
   rcases Nat.lt_or_ge t k with b | b
   ·exact a1 t b
   have:t=k:=by omega
   subst this
   exact Ne.symm e
theorem Sp {ky:List Value} {g:Nat->α} (h:SX ky g) {s:Nat} (hs:s<ky.length):E0 .ks (ky.getD s (.int .i64 0))=true:=by
 unfold E0
 rw [h s s hs hs]
theorem XZ (L:List Int) (x:Int) {n:Nat} (h:L.length=n):(A9 L).take n++[C.v (.int .i64 x)]=A9 (L++[x]):=by
 subst h
 rw [gE7 (by rw [A4];exact Nat.le_refl _)];simp [A9]
def Y0 (ky:List Value):List C:=ky.map C.v
theorem G9 (ky:List Value):(Y0 ky).length=ky.length:=by simp [Y0]
theorem Sq {ky:List Value} {s:Nat} (h:s<ky.length):(Y0 ky)[s]?=some (.v (ky.getD s (.int .i64 0))):=by simp [Y0,gE2,h]
theorem Co (ky:List Value) (f:List Nat):(Y0 ky).map (C.ren f)=Y0 ky:=by simp [Y0,C.ren,Function.comp_def]
theorem NV (ky:List Value) (s:Nat) (v:Value):(Y0 ky).set s (.v v)=Y0 (ky.set s v):=by simp [Y0,List.map_set]
set_option maxHeartbeats 2000000 in
theorem NW (ky:List Value) (g:Nat->α) (h:SX ky g) (hn:ky.length<=1000000):FC Tryz.prog 118 [.a (.c (.s 0 ky.length))] [.r ⟨9,1,true,Y0 ky⟩] (fun r o=>r=.tup [.c (.s 1 ky.length),.c (.v (.int .i64 (WE g ky.length).2))]/\o=[.r ⟨9,1,true,Y0 ky⟩,Be (WE g ky.length).1]):=by
 refine A7 Tryz.func118 rfl (by rw [Tryz.ntmps118];simp) ?_
 rw [Tryz.ntmps118]
 simp only [B4]
 (refine VV ?_;(repeat clear hK K);repeat refine kq fun K hK=>?_)
 refine As (BJ 5 3 1 ?_) ?_
 ·simp only [go_sem]
 refine Ab (fun k:Nat=>{ tm:=[(4,.a (.c (.m 1))),(5,.a (.c (.s 2 k))),(11,.a (.c (.s 0 ky.length))),(12,.i ky.length),(13,.i k)],hp:=[.r ⟨9,1,true,Y0 ky⟩,.m (XY ky g k),.r ⟨3,1,true,A9 (WE g k).1⟩],n:=39,pin:=1 }) (fun k=>k<=ky.length) (fun k=>ky.length - k) 0 ?_ ?_ ?_
 ·omega
 ·exact W5
 rintro k hk K hK
 by_cases hlt:k<ky.length
 rotate_left
 ·have d1:decide ((k:Int)<(ky.length:Int))=false:=by simpa using hlt
  have hke:k=ky.length:=by omega
  have hkl:=NU ky g k
  have hitk:Ti (XY ky g k)=false:=by obtain ⟨M,hM⟩:=Hs ky g k;rw [hM];exact Qt M
  rw [<- hke]
  rw [<- hke] at d1
  (refine VW @d1 ?_;(repeat clear hK K);repeat refine kq fun K hK=>?_)
  refine W3 ?_
  (refine VZ ?_;repeat clear hK K)
  (refine VV ?_;(repeat clear hK K);repeat refine kq fun K hK=>?_)
  (refine Aj rfl ?_;intro K1 hK1;refine KU (id:=1) (kv:=XY ky g k) Tryz.underlying98 rfl rfl rfl rfl rfl (by simp only [go_sem]) rfl hitk ?_;simp only [go_sem,hkl];refine hK1 _ ?_;clear hK1 K1)
  (refine VV ?_;(repeat clear hK K);repeat refine kq fun K hK=>?_)
  ((try refine Ak ?_);(try simp only [Ad,Ay]);refine AB (A8 [0,2] rfl rfl) ?_;(try simp only [List.set_nil,List.take_nil,List.take_zero,List.map_append,go_sem]);((try refine Ak ?_);(try refine Aa ?_);(try simp only [Ad,Ay]);refine AN (by first | exact .inl rfl | exact .inr rfl) rfl ?_;simp only [Vm,Cq,Ck,Cx,Tryz.results118,go_sem,true_and,and_true,A5,Co,Be]))
  rw [hke];exact ⟨rfl,rfl⟩
 have d1:decide ((k:Int)<(ky.length:Int))=true:=by simpa using hlt
 have gk:=Sq hlt
 have hft:=Sp h hlt
 have hcl:=(BK g k).cnt
 have hpl:=Qu ky g k
 have hpl2:=Qu ky g (k+1)
 have hkl:=NU ky g k
 have hnl:=(BK g k).len
 have hfd:=KV h hlt k hk
 have hfd2:=KV h hlt (k+1) hlt
 have hnq:=(BK g (k+1)).eq
 (refine VW (an @G9 @d1) ?_;(repeat clear hK K);repeat refine kq fun K hK=>?_)
 refine W2 ?_
 cases hf:(List.range k).find? (fun t=>decide (g t=g k)) with
 | some t0=>
  have h2:=List.find?_range_eq_some.1 hf
  have h3:t0<k:=by simpa using h2.2.1
  have h4:g t0=g k:=by simpa using h2.1
  have hkv:XY ky g (k+1)=XY ky g k:=EL hf
  have hng:=EC hf
  obtain ⟨t,a1,a2,j,a3⟩:∃ t,t<k/\g t=g k/\∃ j,Bd .ks (ky.getD k (.int .i64 0)) (XY ky g k) 0=some (some (j,.v (.int .i64 ((WE g k).1.getD t 0)))):=by
   rcases hfd with h | ⟨a1,_⟩
   ·exact h
   exact absurd h4 (a1 t0 h3)
  have he:(WE g k).1.getD t 0=(WE g k).1.getD t0 0:=((BK g k).eq t t0 a1 h3).2 (a2.trans h4.symm)
  rw [he] at a3
  have cs:=XZ (WE g k).1 ((WE g k).1.getD t0 0) hnl
  obtain ⟨M,hM⟩:=Hs ky g k
  generalize XY ky g k=kv at *
  subst hM
  generalize WE g k=p at *
  generalize ky.getD k (.int .i64 0)=kk at *
  (refine VW (an @G9 @gk) ?_;(repeat clear hK K);repeat refine kq fun K hK=>?_)
  (refine Aj rfl ?_;intro K1 hK1;refine BV (id:=1) (kv:=M.map fun p=>(p.1,C.v p.2)) (zv:=.int .i64 0) Tryz.underlying98 (CJ Tryz.underlying9) rfl rfl rfl (by simp only [go_sem]) rfl hpl (by simp only [go_sem,Ef]) hft a3 ?_;simp only [go_sem,Xq];refine hK1 _ ?_;clear hK1 K1)
  (refine VW @Bool.not_true ?_;(repeat clear hK K);repeat refine kq fun K hK=>?_)
  refine W3 ?_
  (refine VV ?_;(repeat clear hK K);repeat refine kq fun K hK=>?_)
  (refine Aj rfl ?_;intro K1 hK1;refine BV (id:=1) (kv:=M.map fun p=>(p.1,C.v p.2)) (zv:=.int .i64 0) Tryz.underlying98 (CJ Tryz.underlying9) rfl rfl rfl (by simp only [go_sem]) rfl hpl (by simp only [go_sem,Ef]) hft a3 ?_;simp only [go_sem,Xq];refine hK1 _ ?_;clear hK1 K1)
  (refine VW (an @cs (an @A4 @hnl)) ?_;(repeat clear hK K);repeat refine kq fun K hK=>?_)
  refine W4 ?_
  refine hK _ (k+1) (by omega) (by omega) ?_
  refine Le.trans (A8 [0,1,4] rfl rfl) ?_
  (try simp only [List.set_nil,List.take_nil,List.take_zero,List.map_append,go_sem])
  (try simp only [A5,Co,List.map_map,Function.comp_def,List.map_append,List.map_cons,List.map_nil])
  rw [hkv,hng]
  exact W5
 | none=>
  have hno:=List.find?_range_eq_none.1 hf
  have hkv:=EM (ky:=ky) hf
  have hng:=ED hf
  have a2:Bd .ks (ky.getD k (.int .i64 0)) (XY ky g k) 0=some none:=by
   rcases hfd with ⟨t,a1,a2,_⟩ | ⟨_,a2⟩
   ·exact absurd a2 (by simpa using hno t a1)
   exact a2
  obtain ⟨j,a3⟩:∃ j,Bd .ks (ky.getD k (.int .i64 0)) (XY ky g (k+1)) 0=some (some (j,.v (.int .i64 (WE g k).2))):=by
   rcases hfd2 with ⟨t,a1,a2,j,a3⟩ | ⟨a1,_⟩
   rotate_left
   ·exact absurd rfl (a1 k (by omega))
   refine ⟨j,?_⟩
   rw [a3,(hnq t k a1 (by omega)).2 a2,hng,Cg hnl.symm]
  have cs:=XZ (WE g k).1 (WE g k).2 hnl
  rw [hkv] at a3 hpl2
  obtain ⟨M,hM⟩:=Hs ky g k
  generalize XY ky g k=kv at *
  subst hM
  generalize WE g k=p at *
  generalize ky.getD k (.int .i64 0)=kk at *
  (refine VW (an @G9 @gk) ?_;(repeat clear hK K);repeat refine kq fun K hK=>?_)
  (refine Aj rfl ?_;intro K1 hK1;refine BV (id:=1) (kv:=M.map fun p=>(p.1,C.v p.2)) (zv:=.int .i64 0) Tryz.underlying98 (CJ Tryz.underlying9) rfl rfl rfl (by simp only [go_sem]) rfl hpl (by simp only [go_sem,Ef]) hft a2 ?_;simp only [go_sem,Xq];refine hK1 _ ?_;clear hK1 K1)
  (refine VW @Bool.not_false ?_;(repeat clear hK K);repeat refine kq fun K hK=>?_)
  refine W2 ?_
  (refine VV ?_;(repeat clear hK K);repeat refine kq fun K hK=>?_)
  (refine Aj rfl ?_;intro K1 hK1;refine KU (id:=1) (kv:=M.map fun p=>(p.1,C.v p.2)) Tryz.underlying98 rfl rfl rfl rfl rfl (by simp only [go_sem]) rfl (Qt _) ?_;simp only [go_sem,hkl];refine hK1 _ ?_;clear hK1 K1)
  (refine VV ?_;(repeat clear hK K);repeat refine kq fun K hK=>?_)
  (refine Aj rfl ?_;intro K1 hK1;refine F4 (id:=1) (kv:=M.map fun p=>(p.1,C.v p.2)) (c:=.v (.int .i64 p.2)) Tryz.underlying98 (CJ Tryz.underlying9) rfl rfl (by simp only [go_sem]) rfl hpl (by simp only [go_sem,Ef]) hft (by simp only [go_sem]) rfl a2 ?_;simp only [go_sem];refine hK1 _ ?_;clear hK1 K1)
  (refine VV ?_;(repeat clear hK K);repeat refine kq fun K hK=>?_)
  (refine Aj rfl ?_;intro K1 hK1;refine BV (id:=1) (kv:=(M.map fun p=>(p.1,C.v p.2))++[(kk,.v (.int .i64 p.2))]) (zv:=.int .i64 0) Tryz.underlying98 (CJ Tryz.underlying9) rfl rfl rfl (by simp only [go_sem]) rfl hpl2 (by simp only [go_sem,Ef]) hft a3 ?_;simp only [go_sem,Xq];refine hK1 _ ?_;clear hK1 K1)
  (refine VW (an @cs (an @A4 @hnl)) ?_;(repeat clear hK K);repeat refine kq fun K hK=>?_)
  refine W4 ?_
  refine hK _ (k+1) (by omega) (by omega) ?_
  refine Le.trans (A8 [0,1,4] rfl rfl) ?_
  (try simp only [List.set_nil,List.take_nil,List.take_zero,List.map_append,go_sem])
  (try simp only [A5,Co,List.map_map,Function.comp_def,List.map_append,List.map_cons,List.map_nil])
  rw [hkv,hng]
  exact W5
end
set_option maxHeartbeats 4000000 in
theorem PL (A B:List Ar) (V:List (List Int)) (dv:Bool) (hVl:V.length<=100000) (hVs:∀ s∈V,s.length<=100000):FC Tryz.prog 84 [.a (.g [.t 2 (Aw A),.t 1 (Az V),.v (.bool dv)]),.a (.c (.t 2 (Aw B)))] [] (fun r o=>o=[.r ⟨35,3,false,Xp (B,V,dv)⟩]/\r=.a (XC (B,V,dv))):=by
 refine A7 Tryz.func84 rfl (by rw [Tryz.ntmps84];simp) ?_
 rw [Tryz.ntmps84]
 simp only [B4]
 (refine Cu @Ae ?_;(repeat clear hK K);repeat refine kq fun K hK=>?_)
 refine As (I6 37 1) ?_
 simp only [List.cons_append,List.nil_append]
 refine As (FU 2 1 3 (by decide) rfl rfl rfl) ?_
 simp only [List.set_cons_zero,List.set_cons_succ]
 refine Ab (fun k:Nat=>{ tm:=[(4,.a (.c (.p 1 0))),(5,.a (.c (.p 2 0))),(13,.a (.c (.t 1 (Az V)))),(14,.i V.length),(15,.i k)],hp:=[.r ⟨35,3,false,[.t 2 (Aw A),.t 1 (Az V),.v (.bool dv)]⟩,.r ⟨35,3,false,[.v (.slice none 0 0),.v (.slice none 0 0),.v (.bool false)]⟩,.r ⟨35,3,false,[.t 2 (Aw B),.s 3 k,.v (.bool dv)]⟩,.r ⟨37,1,true,Au (V.take k)⟩],n:=28,pin:=0 }) (fun k=>k<=V.length) (fun k=>V.length - k) 0 ?_ ?_ ?_
 ·omega
 ·have hc0:Au []=[]:=rfl
  simp only [List.take_zero,hc0]
  exact W5
 rintro k hk K hK
 by_cases hlt:k<V.length
 rotate_left
 ·have d1:decide ((k:Int)<(V.length:Int))=false:=by simpa using hlt
  have hkl:k=V.length:=by omega
  have hke:V.take k=V:=gE7 (by omega)
  rw [hke]
  have hcV:(Au V).length=k*1:=by rw [hkl];simp [Au]
  (refine VW @d1 ?_;(repeat clear hK K);repeat refine kq fun K hK=>?_)
  refine W3 ?_
  (refine VZ ?_;repeat clear hK K)
  refine As (AQ (r:=⟨37,1,true,Au V⟩) (ri:=⟨35,3,false,[.t 2 (Aw B),.s 3 k,.v (.bool dv)]⟩) (ts:=Az V) 2 1 3 k (by decide) rfl rfl rfl rfl (show 0<1 by omega) hcV.symm (D0 _)) ?_
  simp only [go_sem]
  refine As (CI 2 rfl) ?_
  simp only [Vp,List.map_cons,List.map_nil,go_sem]
  (refine SU ?_;(repeat clear hK K);repeat refine kq fun K hK=>?_)
  ((try refine Ak ?_);(try simp only [Ad,Ay]);refine AB (A8 [1] rfl rfl) ?_;(try simp only [List.set_nil,List.take_nil,List.take_zero,List.map_append,go_sem]);((try refine Ak ?_);(try refine Aa ?_);(try simp only [Ad,Ay]);refine AN (by first | exact .inl rfl | exact .inr rfl) rfl ?_;simp only [Vm,Cq,Ck,Cx,Tryz.results84,go_sem,true_and,and_true,Vp]))
  exact ⟨rfl,rfl⟩
 have d1:decide ((k:Int)<(V.length:Int))=true:=by simpa using hlt
 have gV:=AR (gE1 hlt)
 have htk:=gE8 hlt
 have hsl:=hVs _ (gE6 hlt)
 have hel:(V.take k).length=k:=by rw [List.length_take];omega
 generalize V.take k=Q at *
 generalize V[k]=s at *
 have hcl:=GA (Ac s) (by rw [A2];omega)
 have hQl:(Au Q).length=k:=by simp [Au,hel]
 have ca:(Au Q).take k++[C.t 1 (Ac s)]=Au (Q++[s]):=by
  rw [gE7 (by rw [hQl];exact Nat.le_refl _)];simp [Au]
 (refine VW @d1 ?_;(repeat clear hK K);repeat refine kq fun K hK=>?_)
 refine W2 ?_
 (refine VW (an @gV @Ae) ?_;(repeat clear hK K);repeat refine kq fun K hK=>?_)
 (refine AF [2] (.m 0 0 0 (.m 1 1 5 (.m 2 0 0 (.a 3 (.a 4 (.a 5 (.m 6 0 0 (.a 7 .e)))))))) (by kernel_rfl) (by kernel_rfl) (by intro c st h;simp [Ad,Ay,Vl] at h) ?_)
 (refine VX ?_;repeat clear hK K)
 (refine E3 rfl rfl rfl ?_;intro K1 hK1;refine Ch (ids:=[]) [] (hcl) rfl rfl rfl rfl rfl (by simp only [go_sem]) (by first | assumption | kernel_rfl) rfl rfl (by (simp only [List.map_append,List.append_nil,go_sem]) <;> rfl) (by (simp only [Vk,Ap,go_sem]) <;> rfl) ?_ ?_)
 ·rintro _ _ ⟨rfl,rfl⟩;rfl
 rintro _ _ ⟨rfl,rfl⟩
 (refine W1 ?_;clear hK1 K1)
 (refine UU (B6 (r:=⟨3,1,true,(Ac s).map C.ofTr⟩) 4 (Ac s) rfl (Nt s) (show 0<(1:Nat) by omega)) ?_;simp only [ST.frz,A0.frz,AV.frz,C.frz,Nat.le_refl,List.set_cons_zero,List.set_cons_succ,go_sem,List.take_length,Nat.div_one])
 (refine VX ?_;repeat clear hK K)
 (refine VL rfl rfl ?_;intro K1 hK1;refine Bl rfl ?_;simp only [go_sem];(first | refine hK1 _ ?_ | refine AE (hK1 _ ?_));clear hK1 K1)
 (refine E3 rfl rfl rfl ?_;intro K1 hK1;refine Cl rfl rfl rfl rfl (by first | rfl | simp only [Ct,List.getD_cons_zero,List.getD_cons_succ,hne,List.isEmpty_cons,Bool.not_false,Bool.true_and,Bool.and_true,Bool.and_self]) rfl ?_;simp only [go_sem,hQl,ca];(first | refine hK1 _ ?_ | refine AE (hK1 _ ?_));clear hK1 K1)
 (refine VX ?_;repeat clear hK K)
 (refine VM rfl rfl rfl rfl ?_;intro K1 hK1;refine Bc rfl ?_;simp only [go_sem,ST.put,De,A0.cells];(first | refine hK1 _ ?_ | refine AE (hK1 _ ?_));clear hK1 K1)
 (refine VX ?_;repeat clear hK K)
 (refine VV ?_;(repeat clear hK K);repeat refine kq fun K hK=>?_)
 refine W4 ?_
 refine hK _ (k+1) (by omega) (by omega) ?_
 rw [htk]
 refine Le.trans (A8 [0,1,2,6] rfl rfl) ?_
 simp only [go_sem,ca,BD]
 exact W5
theorem NX:∀ {V W:List (List Int)} {E F:List Int},V.length=W.length->XW V++E=XW W++F->V=W/\E=F
 | [],[],_,_,_,h=>⟨rfl,h⟩
 | [],_ :: _,_,_,h,_=>by simp at h
 | _ :: _,[],_,_,h,_=>by simp at h
 | s :: V,t :: W,E,F,hl,h=>by
  rw [show XW (s :: V)=((s.length:Int) :: s)++XW V from rfl,show XW (t :: W)=((t.length:Int) :: t)++XW W from rfl,List.append_assoc,List.append_assoc,List.cons_append,List.cons_append] at h
  obtain ⟨h1,h2⟩:=List.cons.inj h
  obtain ⟨h3,h4⟩:=List.append_inj h2 (by omega)
  obtain ⟨h5,h6⟩:=NX (by simpa using hl) h4
  exact ⟨by rw [h3,h5],h6⟩
theorem Sr {x y:Xh}:XX x=XX y↔x.2.2=y.2.2/\x.2.1=y.2.1/\XK x.1=XK y.1:=by
 constructor
 rotate_left
 ·rintro ⟨h1,h2,h3⟩
  unfold XX
  rw [h1,h2,h3]
 intro h
 unfold XX at h
 obtain ⟨h1,h2⟩:=List.cons.inj h
 obtain ⟨h3,h4⟩:=List.cons.inj h2
 obtain ⟨h5,h6⟩:=NX (by omega) h4
 refine ⟨?_,h5,h6⟩
 cases hx:x.2.2 <;> cases hy:y.2.2 <;> simp [hx,hy] at h1 <;> rfl
theorem Ss {A B:List Ar} {cl:List Int} {c d:Int} (hl:A.length=B.length):c :: XV A cl=d :: XV B cl↔c=d/\A.map (fun a=>(a.1,cl.getD a.2.toNat 0))=B.map fun a=>(a.1,cl.getD a.2.toNat 0):=by
 have key:∀ (A B:List Ar),A.length=B.length->(XV A cl=XV B cl↔A.map (fun a=>(a.1,cl.getD a.2.toNat 0))=B.map fun a=>(a.1,cl.getD a.2.toNat 0)):=by
  intro A
  induction A with
  | nil=>intro B h;cases B with
   | nil=>simp
   | cons b B=>simp at h
  | cons a A ih=>
   intro B h
   cases B with
   | nil=>simp at h
   | cons b B=>
    rw [show XV (a :: A) cl=[a.1,cl.getD a.2.toNat 0]++XV A cl from rfl,show XV (b :: B) cl=[b.1,cl.getD b.2.toNat 0]++XV B cl from rfl]
    have:=ih B (by simpa using h)
    simp only [List.cons_append,List.nil_append,List.cons.injEq,List.map_cons,Prod.mk.injEq,this,and_assoc]
 rw [List.cons.injEq,key A B hl]
theorem Qv (L:List (List Int)) (h:∀ x∈L,XA x):SX (L.map Dg) (fun s=>L.getD s []):=by
 intro a b ha hb
 rw [List.length_map] at ha hb
 have e1:(L.map Dg).getD a (.int .i64 0)=Dg L[a]:=by simp [gE2,ha]
 have e2:(L.map Dg).getD b (.int .i64 0)=Dg L[b]:=by simp [gE2,hb]
 have e3:L.getD a []=L[a]:=by simp [gE2,ha]
 have e4:L.getD b []=L[b]:=by simp [gE2,hb]
 rw [e1,e2,Jp (h _ (gE6 ha)) (h _ (gE6 hb))]
 simp only [e3,e4]
theorem TS {A:List Ar} {cl:List Int} {c:Int} (hc:0<=c/\c<2147483648) (hA:∀ a∈A,0<=a.1/\a.1<=1025) (hcl:∀ x∈cl,0<=x/\x<2147483648):XA (c :: XV A cl):=by
 intro x hx
 rcases List.mem_cons.1 hx with rfl | hx
 ·exact hc
 obtain ⟨a,ha,h⟩:=List.mem_flatMap.1 hx
 simp only [List.mem_cons,List.not_mem_nil,or_false] at h
 rcases h with rfl | rfl
 ·have:=hA a ha;omega
 rw [gE2]
 cases hg:cl[a.2.toNat]? with
 | none=>simp
 | some z=>exact hcl z (gE9 hg)
theorem TT {x:Xh} (hA:∀ a∈x.1,0<=a.1/\a.1<=1025) (hn:x.2.1.length<=100000) (hV:∀ s∈x.2.1,s.length<=100000/\∀ e∈s,0<=e/\e<=1025):XA (XX x):=by
 intro y hy
 unfold XX at hy
 rcases List.mem_cons.1 hy with rfl | hy
 ·split <;> omega
 rcases List.mem_cons.1 hy with rfl | hy
 ·omega
 rcases List.mem_append.1 hy with h | h
 rotate_left
 ·obtain ⟨a,ha,rfl⟩:=List.mem_map.1 h
  have:=hA a ha;omega
 obtain ⟨s,hs,h2⟩:=List.mem_flatMap.1 h
 have:=hV s hs
 rcases List.mem_cons.1 h2 with rfl | h3
 ·omega
 have:=this.2 y h3;omega
def nz:Xh:=([],[],false)
def Y1 (N:List Xh) (c:List Int):List (List Int):=(List.range N.length).map fun s=>c.getD s 0 :: XV (N.getD s nz).1 c
def Y2 (N:List Xh) (c:List Int):List Int × Nat:=WE (fun s=>(Y1 N c).getD s []) N.length
def Y3 (N:List Xh):Nat->List Int × Nat
 | 0=>WE (fun s=>(N.map XX).getD s []) N.length
 | k+1=>Y2 N (Y3 N k).1
theorem TU (N:List Xh):∀ k,WE (fun s=>(Y3 N k).1.getD s 0) N.length=Y3 N k
 | 0=>Kx _ _
 | _+1=>Kx _ _
theorem F5 {N:List Xh} {c:List Int} {s:Nat} (h:s<N.length):(Y1 N c).getD s []=c.getD s 0 :: XV (N.getD s nz).1 c:=by
 unfold Y1
 rw [gE2,List.getElem?_map,List.getElem?_range h];rfl
theorem PM (N:List Xh) (k:Nat):(Y3 N k).2<=(Y3 N (k+1)).2/\((Y3 N k).2=(Y3 N (k+1)).2->Y3 N k=Y3 N (k+1)):=by
 have h:=Nc (f:=fun s=>(Y3 N k).1.getD s 0) (g:=fun s=>(Y1 N (Y3 N k).1).getD s []) (n:=N.length) fun s t hs ht e=>by
  simp only [F5 hs,F5 ht] at e
  exact (List.cons.inj e).1
 rw [TU] at h
 exact h
def ClN (N:List Xh) (p:List Int × Nat):Prop:=∃ k,Y3 N k=p/\Y3 N (k+1)=Y3 N k
theorem ClN.stay {N:List Xh} {k j:Nat} (h:Y3 N (k+1)=Y3 N k) (hj:k<=j):Y3 N j=Y3 N k:=by
 induction j with
 | zero=>
  have:k=0:=by omega
  subst this;rfl
 | succ j ih=>
  by_cases e:k=j+1
  ·rw [e]
  have h1:=ih (by omega)
  show Y2 N (Y3 N j).1=_
  rw [h1]
  exact h
theorem ClN.uniq {N:List Xh} {p q:List Int × Nat} (h1:ClN N p) (h2:ClN N q):p=q:=by
 obtain ⟨k,rfl,hk⟩:=h1
 obtain ⟨j,rfl,hj⟩:=h2
 rcases Nat.le_total k j with h | h
 ·exact (ClN.stay hk h).symm
 exact ClN.stay hj h
theorem KW {N:List Xh} {s:Nat} (h:s<N.length):(N.map XX).getD s []=XX (N.getD s nz):=by simp [gE2,h]
theorem Qw (N:List Xh):∀ k s t,s<N.length->t<N.length->(Y3 N k).1.getD s 0=(Y3 N k).1.getD t 0->XX (N.getD s nz)=XX (N.getD t nz)
 | 0,s,t,hs,ht,h=>by
  have:=((BK (fun s=>(N.map XX).getD s []) N.length).eq s t hs ht).1 h
  simpa only [KW hs,KW ht] using this
 | k+1,s,t,hs,ht,h=>by
  have:=((BK (fun s=>(Y1 N (Y3 N k).1).getD s []) N.length).eq s t hs ht).1 h
  simp only [F5 hs,F5 ht] at this
  exact Qw N k s t hs ht (List.cons.inj this).1
def NumSur (num old:List Int):Prop:=∀ (j:Nat) (s:Int),old[j]?=some s->0<=s/\num[s.toNat]?=some (j:Int)
theorem NumSur.one {num old:List Int} (h:NumSur num old) {t:Int} (h0:0<=t) (h1:t<num.length):NumSur (AM num old t).1 (AM num old t).2:=by
 have htl:t.toNat<num.length:=by omega
 unfold AM
 split
 rotate_left
 ·exact h
 rename_i hneg
 intro j s hs
 simp only at hs ⊢
 rcases Nat.lt_or_ge j old.length with hj | hj
 ·rw [gEa hj] at hs
  obtain ⟨q1,q2⟩:=h j s hs
  refine ⟨q1,?_⟩
  rw [List.getElem?_set,if_neg,q2]
  intro e
  rw [e,gE2,q2,Option.getD_some] at hneg
  omega
 rw [gEb hj] at hs
 have hj':j=old.length:=by
  have:=(List.getElem?_eq_some_iff.1 hs).1
  simp at this
  omega
 subst hj'
 simp at hs
 subst hs
 exact ⟨h0,by rw [List.getElem?_set,if_pos rfl,if_pos htl]⟩
theorem KX (r:List Ar) {num old:List Int} (hr:∀ a∈r,0<=a.2/\a.2<num.length) (h:NumSur num old):NumSur (Bp r num old).1 (Bp r num old).2.1:=by
 induction r generalizing num old with
 | nil=>exact h
 | cons a tl ih=>
  have ha:=hr a (by simp)
  exact ih (fun b hb=>by rw [DS];exact hr b (by simp [hb])) (h.one ha.1 ha.2)
theorem LM (num old:List Int) (t:Int) {j:Nat} {s:Int} (h:old[j]?=some s):(AM num old t).2[j]?=some s:=by
 unfold AM
 split
 rotate_left
 ·exact h
 simp only
 rw [gEa (List.getElem?_eq_some_iff.1 h).1,h]
theorem Ht (r:List Ar) {num old:List Int} {j:Nat} {s:Int} (h:old[j]?=some s):(Bp r num old).2.1[j]?=some s:=by
 induction r generalizing num old with
 | nil=>exact h
 | cons a tl ih=>exact ih (LM num old a.2 h)
theorem Iv (r:List Ar) (num old:List Int):old.length<=(Bp r num old).2.1.length:=by
 rcases Nat.eq_zero_or_pos old.length with h | h
 ·omega
 have:=Ht r (num:=num) (old:=old) (j:=old.length - 1) (s:=old[old.length - 1]) (gE1 (by omega))
 have:=(List.getElem?_eq_some_iff.1 this).1
 omega
theorem NumSur.start {n:Nat} (hn:0<n):NumSur ((List.replicate n (-1)).set 0 0) [0]:=by
 intro j s hs
 cases j with
 | succ j=>simp at hs
 | zero=>
  simp at hs;subst hs
  exact ⟨by omega,by simp [hn]⟩
structure RowsG (n:Nat) (out:List (List Ar)):Prop where
 so:∀ r∈out,SortA r
 bd:∀ r∈out,∀ a∈r,0<=a.1/\a.1<=1025/\0<=a.2/\a.2<(n:Int)
theorem RowsG.le {n m:Nat} {out:List (List Ar)} (h:RowsG n out) (hm:n<=m):RowsG m out:=⟨h.so,fun r hr a ha=>by have:=h.bd r hr a ha;omega⟩
def RowN (R:List (List Ar)) (num:List Int) (s:Int) (r:List Ar):Prop:=
 r=CN ((CN (R.getD s.toNat [])).map fun a=>(a.1,num.getD a.2.toNat 0))/\∀ a∈R.getD s.toNat [],∃ x,num[a.2.toNat]?=some x/\0<=x
theorem RowN.keep {R:List (List Ar)} {num num2:List Int} {s:Int} {r:List Ar} (h:RowN R num s r) (hk:∀ (t:Nat) (x:Int),num[t]?=some x->0<=x->num2[t]?=some x):RowN R num2 s r:=by
 obtain ⟨h1,h2⟩:=h
 refine ⟨?_,fun a ha=>?_⟩
 rotate_left
 ·obtain ⟨x,hx,hp⟩:=h2 a ha
  exact ⟨x,hk _ x hx hp,hp⟩
 rw [h1]
 congr 1
 refine List.map_congr_left fun a ha=>?_
 obtain ⟨x,hx,hp⟩:=h2 a ((Ce _ a).1 ha)
 rw [gE2,gE2,hx,hk _ x hx hp]
theorem NY {R:List (List Ar)} (hb:∀ r∈R,∀ a∈r,0<=a.2/\a.2<(R.length:Int)):∀ (f i:Nat) (num old:List Int) (out:List (List Ar)),NumOk R.length num old->NumInj num old->NumSur num old->i=out.length->i<=old.length->R.length<=f+i->
  (∀ (j:Nat) (s:Int) (r:List Ar),old[j]?=some s->out[j]?=some r->RowN R num s r)->
  ∃ num',NumOk R.length num' (CO R f i num old out).2/\NumInj num' (CO R f i num old out).2/\NumSur num' (CO R f i num old out).2/\(CO R f i num old out).1.length=(CO R f i num old out).2.length/\(∀ (j:Nat) (s:Int),old[j]?=some s->(CO R f i num old out).2[j]?=some s)/\
   ∀ (j:Nat) (s:Int) (r:List Ar),(CO R f i num old out).2[j]?=some s->(CO R f i num old out).1[j]?=some r->RowN R num' s r:=by
 intro f
 induction f with
 | zero=>
  intro i num old out hN hI hS hi ho hf hR
  have hle:=hN.le
  exact ⟨num,hN,hI,hS,by simp only [CO];omega,fun _ _ h=>h,hR⟩
 | succ f ih=>
  intro i num old out hN hI hS hi ho hf hR
  have hle:=hN.le
  unfold CO
  split
  ·rename_i hs
   have:=List.getElem?_eq_none_iff.1 hs
   exact ⟨num,hN,hI,hS,by simp only;omega,fun _ _ h=>h,hR⟩
  rename_i s hs
  have hs0:=hN.st s (gE9 hs)
  have hsl:s.toNat<R.length:=by omega
  have hil:=(List.getElem?_eq_some_iff.1 hs).1
  have hg:R.getD s.toNat []=R[s.toNat]:=by rw [gE2,gE1 hsl];rfl
  have hrm:=gE6 hsl
  have hq:∀ a∈CN (R.getD s.toNat []),0<=a.2/\a.2<(num.length:Int):=fun a ha=>by
   rw [hg] at ha
   have:=hb _ hrm a ((Ce _ a).1 ha);rw [hN.len];omega
  have hN2:=NumOk.go (CN (R.getD s.toNat [])) [] hN (by rw [<- hN.len];exact hq)
  have hn2:=CE (CN (R.getD s.toNat [])) num old []
  rw [hn2] at hN2 ⊢
  simp only at hN2 ⊢
  have hI2:=H8 _ hq hI
  have hS2:=KX _ hq hS
  obtain ⟨hm1,hm2⟩:=H9 (old:=old) _ hq
  have hgr:=Iv (CN (R.getD s.toNat [])) num old
  have hkp:∀ (t:Nat) (x:Int),num[t]?=some x->0<=x->(Bp (CN (R.getD s.toNat [])) num old).1[t]?=some x:=fun t x h1 h2=>I9 _ (fun a ha=>(hq a ha).1) h1 h2
  have hold:∀ (j:Nat) (x:Int),old[j]?=some x->(Bp (CN (R.getD s.toNat [])) num old).2.1[j]?=some x:=fun j x h=>Ht _ h
  have hnew:RowN R (Bp (CN (R.getD s.toNat [])) num old).1 s ((Bp (CN (R.getD s.toNat [])) num old).2.2.foldl (fun acc a=>E5 a acc) []):=by
   refine ⟨?_,fun a ha=>hm2 a ((Ce _ a).2 ha)⟩
   rw [hm1];rfl
  obtain ⟨num',k1,k2,k3,k4,k5,k6⟩:=ih (i+1) _ _ (out++[(Bp (CN (R.getD s.toNat [])) num old).2.2.foldl (fun acc a=>E5 a acc) []]) hN2 hI2 hS2 (by simp;omega) (by omega) (by omega) (fun j t r hj hr=>by
   rcases Nat.lt_or_ge j out.length with hlt | hge
   ·rw [gEa hlt] at hr
    have hj2:old[j]?=some t:=by
     have h3:=hold j old[j] (gE1 (by omega))
     rw [hj] at h3
     rw [gE1 (by omega),<- h3]
    exact (hR j t r hj2 hr).keep hkp
   ·have hje:j=i:=by
     have:=(List.getElem?_eq_some_iff.1 hr).1
     simp at this;omega
    subst hje
    rw [gEb hge,hi,Nat.sub_self] at hr
    simp at hr
    rw [hold j s hs] at hj
    injection hj with hj
    subst hj;subst hr
    exact hnew)
  exact ⟨num',k1,k2,k3,k4,fun j x h=>k5 j x (hold j x h),k6⟩
theorem GJ {R:List (List Ar)} (h1:1<=R.length) (hb:∀ r∈R,∀ a∈r,0<=a.2/\a.2<(R.length:Int)):∃ num,NumOk R.length num (AZ R).2/\NumInj num (AZ R).2/\NumSur num (AZ R).2/\(AZ R).1.length=(AZ R).2.length/\(AZ R).2[0]?=some 0/\∀ (j:Nat) (s:Int) (r:List Ar),(AZ R).2[j]?=some s->(AZ R).1[j]?=some r->RowN R num s r:=by
 obtain ⟨num,k1,k2,k3,k4,k5,k6⟩:=NY hb R.length 0 _ _ [] (NumOk.start h1) (NumInj.start h1) (NumSur.start h1) rfl (by simp) (by omega) (fun j s r _ h=>by simp at h)
 exact ⟨num,k1,k2,k3,k4,k5 0 0 rfl,k6⟩
theorem NZ (l:List Ar) (a:Ar) (num old:List Int):Bp (l++[a]) num old=((AM (Bp l num old).1 (Bp l num old).2.1 a.2).1,(AM (Bp l num old).1 (Bp l num old).2.1 a.2).2,(Bp l num old).2.2++[(a.1,(AM (Bp l num old).1 (Bp l num old).2.1 a.2).1.getD a.2.toNat 0)]):=by
 induction l generalizing num old with
 | nil=>rfl
 | cons b l ih=>simp only [List.cons_append,Bp,ih]
theorem CG {r:List Ar} (h:SortA r):CN r=r:=DR (BT r) h (Ce r)
theorem EN {A:List Ar} (h:W9 (XK A)):SortA A:=by
 have h2:A.Pairwise fun a b=>a.1<b.1:=List.pairwise_map.1 h
 exact h2.imp fun {a b} q=>DA.2 (.inl q)
theorem St {α:Type} [DecidableEq α] (f:Nat->α) (k:Nat):∀ j:Nat,j<(WE f k).2->∃ s,s<k/\(WE f k).1.getD s 0=(j:Int):=by
 induction k with
 | zero=>intro j hj;exact absurd hj (Nat.not_lt_zero _)
 | succ k ih=>
  intro j hj
  have hl:=(BK f k).len
  rcases EE f k with ⟨t,h1,h2,h3,h4⟩ | ⟨h3,h4⟩
  ·rw [h4] at hj ⊢
   obtain ⟨s,hs,e⟩:=ih j hj
   exact ⟨s,by omega,by rw [Bs (by omega)];exact e⟩
  rw [h4] at hj ⊢
  simp only at hj ⊢
  by_cases hq:j<(WE f k).2
  rotate_left
  ·exact ⟨k,by omega,by rw [Cg hl.symm];omega⟩
  obtain ⟨s,hs,e⟩:=ih j hq
  exact ⟨s,by omega,by rw [Bs (by omega)];exact e⟩
theorem PN {α:Type} [DecidableEq α] (f:Nat->α) (k:Nat):(WE f (k+1)).1.getD 0 0=0:=by
 induction k with
 | zero=>rfl
 | succ k ih=>
  have hl:=(BK f (k+1)).len
  rcases EE f (k+1) with ⟨t,h1,h2,h3,h4⟩ | ⟨h3,h4⟩
  ·rw [h4,Bs (by omega)];exact ih
  rw [h4,Bs (by omega)];exact ih
def DI (N:List Xh) (c:List Int) (s:Nat):List Ar:=(N.getD s nz).1.map fun a=>(a.1,c.getD a.2.toNat 0)
def qN (N:List Xh) (p:List Int × Nat):List (List Ar):=(List.range p.2).map fun j:Nat=>DI N p.1 (p.1.idxOf (j:Int))
theorem Iw (N:List Xh) (p:List Int × Nat):(qN N p).length=p.2:=by simp [qN]
theorem ClN.nm {N:List Xh} {p:List Int × Nat} (h:ClN N p):∃ (g:Nat->List Int),WE g N.length=p:=by
 obtain ⟨k,rfl,_⟩:=h
 cases k with
 | zero=>exact ⟨_,rfl⟩
 | succ k=>exact ⟨_,rfl⟩
theorem ClN.len {N:List Xh} {p:List Int × Nat} (h:ClN N p):p.1.length=N.length:=by
 obtain ⟨g,rfl⟩:=h.nm
 exact (BK _ _).len
theorem ClN.cnt {N:List Xh} {p:List Int × Nat} (h:ClN N p):p.2<=N.length:=by
 obtain ⟨g,rfl⟩:=h.nm
 exact (BK _ _).cnt
theorem ClN.rng {N:List Xh} {p:List Int × Nat} (h:ClN N p) {s:Nat} (hs:s<N.length):0<=p.1.getD s 0/\p.1.getD s 0<(p.2:Int):=by
 obtain ⟨g,rfl⟩:=h.nm
 exact (BK _ _).rng s hs
theorem ClN.mem {N:List Xh} {p:List Int × Nat} (h:ClN N p) {x:Int} (hx:x∈p.1):0<=x/\x<(p.2:Int):=by
 obtain ⟨s,hs,rfl⟩:=List.getElem_of_mem hx
 have:=h.rng (s:=s) (by rw [<- h.len];exact hs)
 rwa [gE2,gE1 hs] at this
theorem ClN.zero {N:List Xh} {p:List Int × Nat} (h:ClN N p) (hN:1<=N.length):p.1.getD 0 0=0:=by
 obtain ⟨g,rfl⟩:=h.nm
 obtain ⟨n,hn⟩:∃ n,N.length=n+1:=⟨N.length - 1,by omega⟩
 rw [hn]
 exact PN g n
theorem ClN.one {N:List Xh} {p:List Int × Nat} (h:ClN N p) (hN:1<=N.length):1<=p.2:=by
 have:=h.rng (s:=0) hN
 rw [h.zero hN] at this
 omega
theorem ClN.idx {N:List Xh} {p:List Int × Nat} (h:ClN N p) {j:Nat} (hj:j<p.2):p.1.idxOf (j:Int)<N.length/\p.1.getD (p.1.idxOf (j:Int)) 0=j:=by
 have hm:(j:Int)∈p.1:=by
  obtain ⟨g,rfl⟩:=h.nm
  obtain ⟨s,hs,e⟩:=St g N.length j hj
  rw [<- e,gE2,gE1 (by rw [h.len];exact hs)]
  exact gE6 _
 have hl:p.1.idxOf (j:Int)<p.1.length:=List.idxOf_lt_length_iff.2 hm
 refine ⟨by rw [<- h.len];exact hl,?_⟩
 rw [gE2,gE1 hl,Option.getD_some]
 exact List.getElem_idxOf hl
theorem ClN.eq {N:List Xh} {p:List Int × Nat} (h:ClN N p) {s t:Nat} (hs:s<N.length) (ht:t<N.length) (e:p.1.getD s 0=p.1.getD t 0):(N.getD s nz).2=(N.getD t nz).2/\DI N p.1 s=DI N p.1 t:=by
 obtain ⟨k,rfl,hk⟩:=h
 have h2:=Sr.1 (Qw N k s t hs ht e)
 have e2:(Y3 N (k+1)).1.getD s 0=(Y3 N (k+1)).1.getD t 0:=by rw [hk];exact e
 have h3:=((BK (fun s=>(Y1 N (Y3 N k).1).getD s []) N.length).eq s t hs ht).1 e2
 simp only [F5 hs,F5 ht] at h3
 have hl:(N.getD s nz).1.length=(N.getD t nz).1.length:=by
  have:=congrArg List.length h2.2.2
  rwa [BS,BS] at this
 exact ⟨Prod.ext h2.2.1 h2.1,((Ss hl).1 h3).2⟩
def NvB (N:List Xh):Prop:=1<=N.length/\N.length<=4096/\∀ x∈N,W9 (XK x.1)/\x.1.length<=1025/\(∀ a∈x.1,0<a.1/\a.1<=1025/\0<=a.2/\a.2<(N.length:Int))/\x.2.1.length<=1024/\∀ s∈x.2.1,s.length<=1025/\∀ e∈s,0<=e/\e<=1025
theorem Qx {N:List Xh} {p:List Int × Nat} {j:Nat} (hj:j<p.2):(qN N p)[j]?=some (DI N p.1 (p.1.idxOf (j:Int))):=by
 unfold qN
 rw [List.getElem?_map,List.getElem?_range hj];rfl
theorem NvB.at {N:List Xh} (h:NvB N) {s:Nat} (hs:s<N.length):(N.getD s nz)∈N:=by
 rw [gE2,gE1 hs]
 exact gE6 hs
theorem Hu {N:List Xh} {p:List Int × Nat} (hN:NvB N) (h:ClN N p) {s:Nat} (hs:s<N.length):SortA (DI N p.1 s)/\∀ a∈DI N p.1 s,0<a.1/\a.1<=1025/\0<=a.2/\a.2<(p.2:Int):=by
 have hx:=hN.2.2 _ (hN.at hs)
 refine ⟨EN ?_,fun a ha=>?_⟩
 ·have:XK (DI N p.1 s)=XK (N.getD s nz).1:=by unfold XK DI;rw [List.map_map];rfl
  rw [this];exact hx.1
 obtain ⟨b,hb,rfl⟩:=List.mem_map.1 ha
 have h1:=hx.2.2.1 b hb
 have h2:=h.rng (s:=b.2.toNat) (by omega)
 exact ⟨h1.1,h1.2.1,h2.1,h2.2⟩
theorem TV {N:List Xh} {p:List Int × Nat} (hN:NvB N) (h:ClN N p):∀ r∈qN N p,SortA r/\∀ a∈r,0<a.1/\a.1<=1025/\0<=a.2/\a.2<((qN N p).length:Int):=by
 intro r hr
 obtain ⟨j,hj,rfl⟩:=List.mem_map.1 hr
 have hj:=List.mem_range.1 hj
 rw [Iw]
 exact Hu hN h (h.idx hj).1
def Y4 (N:List Xh) (c:List Int) (s:Int):List (List Int) × Bool:=(N.getD (c.idxOf s) nz).2
def Y5 (N:List Xh) (c:List Int) (r:List Ar) (s:Int):Xh:=(r,Y4 N c s)
def Y6 (N:List Xh) (p:List Int × Nat) (rows:List (List Ar)) (old:List Int):List Xh:=List.zipWith (Y5 N p.1) rows old
theorem Su {N:List Xh} {p:List Int × Nat} {A:List (List Ar)} {B:List Int} {j:Nat} (h:j<(Y6 N p A B).length) (ha:j<A.length) (hb:j<B.length):(Y6 N p A B)[j]=Y5 N p.1 A[j] B[j]:=List.getElem_zipWith
def MzP (N out:List Xh) (cl:List Int):Prop:=∃ p num,ClN N p/\NumOk p.2 num (AZ (qN N p)).2/\NumInj num (AZ (qN N p)).2/\NumSur num (AZ (qN N p)).2/\out=Y6 N p (AZ (qN N p)).1 (AZ (qN N p)).2/\cl=p.1.map fun x=>num.getD x.toNat 0
theorem ClN.lb {N:List Xh} {p:List Int × Nat} (h:ClN N p) {s:Nat} (hs:s<N.length):Y4 N p.1 (p.1.getD s 0)=(N.getD s nz).2/\(qN N p).getD (p.1.getD s 0).toNat []=DI N p.1 s:=by
 have hr:=h.rng hs
 obtain ⟨j,hj⟩:∃ j:Nat,p.1.getD s 0=(j:Int):=⟨(p.1.getD s 0).toNat,by omega⟩
 rw [hj] at hr ⊢
 have hjl:j<p.2:=by omega
 obtain ⟨i1,i2⟩:=h.idx hjl
 have he:=h.eq i1 hs (by rw [i2,hj])
 refine ⟨he.1,?_⟩
 rw [Int.toNat_natCast,gE2,Qx hjl]
 exact he.2
structure StO (N:List Xh) (c st old:List Int):Prop where
 len:st.length=old.length
 at_:∀ (j:Nat) (s:Int),st[j]?=some s->0<=s/\s<(N.length:Int)/\old[j]?=some (c.getD s.toNat 0)
theorem StO.snoc {N:List Xh} {c st old:List Int} (h:StO N c st old) {t x:Int} (h0:0<=t) (h1:t<(N.length:Int)) (hx:c.getD t.toNat 0=x):StO N c (st++[t]) (old++[x]):=by
 refine ⟨by simp [h.len],fun j s hs=>?_⟩
 rcases Nat.lt_or_ge j st.length with hj | hj
 ·rw [gEa hj] at hs
  rw [gEa (by rw [<- h.len];exact hj)]
  exact h.at_ j s hs
 rw [gEb hj] at hs
 have hj2:j=st.length:=by
  have:=(List.getElem?_eq_some_iff.1 hs).1
  simp at this;omega
 subst hj2
 simp at hs
 subst hs
 exact ⟨h0,h1,by rw [h.len,gEb (Nat.le_refl _),Nat.sub_self,hx];rfl⟩
structure MzI (N:List Xh) (p:List Int × Nat) (i:Nat) (num old st:List Int) (rows:List (List Ar)):Prop where
 nok:NumOk p.2 num old
 inj:NumInj num old
 sur:NumSur num old
 st:StO N p.1 st old
 ol:rows.length=i
 le:i<=old.length
 can:CO (qN N p) (p.2 - i) i num old rows=AZ (qN N p)
theorem MzI.zero {N:List Xh} {p:List Int × Nat} (hN:1<=N.length) (h:ClN N p):MzI N p 0 ((List.replicate p.2 (-1)).set 0 0) [0] [0] []:=by
 have h1:=h.one hN
 refine ⟨NumOk.start h1,NumInj.start h1,NumSur.start h1,⟨rfl,fun j s hs=>?_⟩,rfl,by simp,?_⟩
 rotate_left
 ·unfold AZ
  rw [Iw];rfl
 cases j with
 | succ j=>simp at hs
 | zero=>
  simp at hs;subst hs
  exact ⟨by omega,by omega,by rw [show (0:Int).toNat=0 from rfl,h.zero hN];rfl⟩
theorem PO {N:List Xh} {p:List Int × Nat} {rows:List (List Ar)} {old old2:List Int} {r:List Ar} {s:Int} (hl:rows.length<old.length) (hs:old[rows.length]?=some s) (ho:∀ (j:Nat) (x:Int),old[j]?=some x->old2[j]?=some x):Y6 N p (rows++[r]) old2=Y6 N p rows old++[Y5 N p.1 r s]:=by
 unfold Y6
 have key:∀ (rows:List (List Ar)) (old old2:List Int),rows.length<old.length->old[rows.length]?=some s->(∀ (j:Nat) (x:Int),old[j]?=some x->old2[j]?=some x)->List.zipWith (Y5 N p.1) (rows++[r]) old2=List.zipWith (Y5 N p.1) rows old++[Y5 N p.1 r s]:=by
  intro rows
  induction rows with
  | nil=>
   intro old old2 h1 h2 h3
   have h4:=h3 0 s h2
   cases old2 with
   | nil=>simp at h4
   | cons y old2=>
    simp at h4
    subst h4
    rfl
  | cons q rows ih=>
   intro old old2 h1 h2 h3
   cases old with
   | nil=>simp at h1
   | cons x old=>
    have h4:=h3 0 x rfl
    cases old2 with
    | nil=>simp at h4
    | cons y old2=>
     simp at h4
     subst h4
     simp only [List.cons_append,List.zipWith_cons_cons]
     rw [ih old old2 (by simpa using h1) (by simpa using h2) fun j z hz=>by have:=h3 (j+1) z (by simpa using hz);simpa using this]
 exact key rows old old2 hl hs ho
theorem MzI.step {N:List Xh} {p:List Int × Nat} {i:Nat} {num old st:List Int} {rows:List (List Ar)} (hN:NvB N) (hc:ClN N p) (h:MzI N p i num old st rows) {s:Int} (hs:st[i]?=some s) {st2:List Int} (hst:StO N p.1 st2 (Bp (DI N p.1 s.toNat) num old).2.1):
  MzI N p (i+1) (Bp (DI N p.1 s.toNat) num old).1 (Bp (DI N p.1 s.toNat) num old).2.1 st2 (rows++[(Bp (DI N p.1 s.toNat) num old).2.2])/\
  Y6 N p (rows++[(Bp (DI N p.1 s.toNat) num old).2.2]) (Bp (DI N p.1 s.toNat) num old).2.1=Y6 N p rows old++[((Bp (DI N p.1 s.toNat) num old).2.2,(N.getD s.toNat nz).2)]:=by
 obtain ⟨q1,q2,q3⟩:=h.st.at_ i s hs
 have hsl:s.toNat<N.length:=by omega
 obtain ⟨b1,b2⟩:=Hu hN hc hsl
 obtain ⟨l1,l2⟩:=hc.lb hsl
 have hr:=hc.rng hsl
 have hle:=h.nok.le
 have hil:i<old.length:=(List.getElem?_eq_some_iff.1 q3).1
 have hb:∀ a∈DI N p.1 s.toNat,0<=a.2/\a.2<(num.length:Int):=fun a ha=>by have:=b2 a ha;rw [h.nok.len];omega
 have hN2:=NumOk.go (DI N p.1 s.toNat) [] h.nok (fun a ha=>by have:=b2 a ha;omega)
 rw [CE] at hN2
 have hgr:=Iv (DI N p.1 s.toNat) num old
 obtain ⟨m1,m2⟩:=H9 (old:=old) _ hb
 have hso:SortA (Bp (DI N p.1 s.toNat) num old).2.2:=by
  refine EN ?_
  rw [m1]
  have hx:=hN.2.2 _ (hN.at hsl)
  have:XK ((DI N p.1 s.toNat).map fun a=>(a.1,(Bp (DI N p.1 s.toNat) num old).1.getD a.2.toNat 0))=XK (N.getD s.toNat nz).1:=by
   unfold XK
   rw [List.map_map]
   unfold DI
   rw [List.map_map];rfl
  rw [this];exact hx.1
 refine ⟨⟨hN2,H8 _ hb h.inj,KX _ hb h.sur,hst,by simp [h.ol],by omega,?_⟩,?_⟩
 rotate_left
 ·rw [PO (old:=old) (by rw [h.ol];exact hil) (by rw [h.ol];exact q3) fun j x hx=>Ht _ hx]
  unfold Y5
  rw [l1]
 have hrow:(qN N p)[(p.1.getD s.toNat 0).toNat]?=some (DI N p.1 s.toNat):=by
  have hj:(p.1.getD s.toNat 0).toNat<(qN N p).length:=by rw [Iw];omega
  rw [gE1 hj]
  rw [gE2,gE1 hj] at l2
  exact congrArg some l2
 have hst2:=Lw (rows:=qN N p) (n:=p.2) (num:=num) (out:=rows) (by omega) q3 hrow rfl
 rw [CG b1,CE] at hst2
 simp only at hst2
 have hfo:(Bp (DI N p.1 s.toNat) num old).2.2.foldl (fun acc a=>E5 a acc) []=(Bp (DI N p.1 s.toNat) num old).2.2:=CG hso
 rw [hfo] at hst2
 rw [<- hst2]
 exact h.can
theorem MzI.done {N:List Xh} {p:List Int × Nat} {i:Nat} {num old st:List Int} {rows:List (List Ar)} (hc:ClN N p) (h:MzI N p i num old st rows) (hi:old.length<=i):MzP N (Y6 N p rows old) (p.1.map fun x=>num.getD x.toNat 0):=by
 have h1:=h.can
 rw [Lu hi] at h1
 have e1:(AZ (qN N p)).1=rows:=by rw [<- h1]
 have e2:(AZ (qN N p)).2=old:=by rw [<- h1]
 exact ⟨p,num,hc,by rw [e2];exact h.nok,by rw [e2];exact h.inj,by rw [e2];exact h.sur,by rw [e1,e2],rfl⟩
theorem KY:∀ {A:List Ar} {f g:Int},XL f A=some g->f<=g/\∀ t,f<=t->t<g->∃ a∈A,a.2=t
 | [],f,g,h=>by
  simp only [XL,Option.some.injEq] at h
  subst h
  exact ⟨Int.le_refl _,fun t h1 h2=>by omega⟩
 | a :: A,f,g,h=>by
  rw [XL] at h
  split at h
  ·cases h
  ·rename_i hn
   obtain ⟨h1,h2⟩:=KY h
   refine ⟨?_,fun t h3 h4=>?_⟩
   ·split at h1 <;> omega
   ·by_cases e:a.2=t
    ·exact ⟨a,List.mem_cons_self,e⟩
    ·obtain ⟨b,hb,e2⟩:=h2 t (by split <;> omega) h4
     exact ⟨b,gEf _ hb,e2⟩
theorem Qy:∀ {N:List Xh} {f:Int} {i:Nat},(i:Int)<=f->XM f i N=true->∀ t:Int,f<=t->t<(i:Int)+N.length->∃ j,j<N.length/\((i+j:Nat):Int)<t/\∃ a∈(N.getD j nz).1,a.2=t
 | [],f,i,hi,h,t,h1,h2=>by
  simp only [List.length_nil] at h2
  omega
 | x :: N,f,i,hi,h,t,h1,h2=>by
  rw [XM] at h
  split at h
  ·cases h
  ·rename_i hn
   cases hg:XL f x.1 with
   | none=>rw [hg] at h;cases h
   | some g=>
    rw [hg] at h
    obtain ⟨h3,h4⟩:=KY hg
    by_cases ht:t<g
    ·obtain ⟨a,ha,e⟩:=h4 t h1 ht
     exact ⟨0,by simp,by omega,a,by simpa using ha,e⟩
    ·obtain ⟨j,q1,q2,q3⟩:=Qy (i:=i+1) (by omega) h t (by omega) (by simp only [List.length_cons] at h2;omega)
     exact ⟨j+1,by simp;omega,by omega,by simpa using q3⟩
theorem PP {N:List Xh} {p:List Int × Nat} (hN:NvB N) (hn:XM 1 0 N=true) (hc:ClN N p):∀ t,t<N.length->p.1.getD t 0∈(AZ (qN N p)).2:=by
 have h1:=hc.one hN.1
 obtain ⟨num,k1,k2,k3,k4,k5,k6⟩:=GJ (R:=qN N p) (by rw [Iw];exact h1) fun r hr a ha=>by have:=(TV hN hc r hr).2 a ha;omega
 intro t
 induction t using Nat.strongRecOn with
 | ind t ih=>
  intro ht
  by_cases h0:t=0
  ·subst h0
   rw [hc.zero hN.1]
   exact gE9 k5
  obtain ⟨s,q1,q2,a,ha,q3⟩:=Qy (by decide) hn (t:Int) (by omega) (by omega)
  have hst:s<t:=by omega
  obtain ⟨j,hj,he⟩:=List.getElem_of_mem (ih s hst q1)
  have hjr:j<(AZ (qN N p)).1.length:=by omega
  have hrow:=(k6 j _ _ (by rw [gE1 hj,he]) (gE1 hjr)).2
  rw [(hc.lb q1).2] at hrow
  obtain ⟨x,hx,hp⟩:=hrow (a.1,p.1.getD a.2.toNat 0) (List.mem_map.2 ⟨a,ha,rfl⟩)
  have h5:=k2.inj _ x hx hp
  have h6:((p.1.getD a.2.toNat 0).toNat:Int)=p.1.getD t 0:=by
   have:=hc.rng ht
   rw [q3,Int.toNat_natCast]
   omega
  simp only at h5
  rw [h6] at h5
  exact gE9 h5
theorem MzP.uniq {N o1 o2:List Xh} {c1 c2:List Int} (hN:NvB N) (hn:XM 1 0 N=true) (h1:MzP N o1 c1) (h2:MzP N o2 c2):o1=o2/\c1=c2:=by
 obtain ⟨p,n1,a1,a2,a3,a4,a5,a6⟩:=h1
 obtain ⟨q,n2,b1,b2,b3,b4,b5,b6⟩:=h2
 have e:=a1.uniq b1
 subst e
 refine ⟨by rw [a5,b5],?_⟩
 rw [a6,b6]
 refine List.map_congr_left fun x hx=>?_
 obtain ⟨s,hs,rfl⟩:=List.getElem_of_mem hx
 have h3:=PP hN hn a1 s (by rw [<- a1.len];exact hs)
 rw [gE2,gE1 hs,Option.getD_some] at h3
 obtain ⟨j,hj,he⟩:=List.getElem_of_mem h3
 have hg:=(gE1 hj).trans (congrArg some he)
 rw [gE2,gE2,(a4 j _ hg).2,(b4 j _ hg).2]
theorem Jw {n:Nat}:∀ {L:List Int} {l:Int},W9 L->(∀ x∈L,l<x/\x<=l+(n:Int))->L.length<=n:=by
 induction n with
 | zero=>
  intro L l h hx
  cases L with
  | nil=>exact Nat.le_refl _
  | cons a L=>have:=hx a List.mem_cons_self;omega
 | succ n ih=>
  intro L l h hx
  cases L with
  | nil=>exact Nat.zero_le _
  | cons a L=>
   have hp:=List.pairwise_cons.1 h
   have h1:=hx a List.mem_cons_self
   have:=ih (L:=L) (l:=l+1) hp.2 fun x hxm=>by
    have h2:=hp.1 x hxm
    have h3:=hx x (gEf _ hxm)
    omega
   simp only [List.length_cons];omega
theorem PQ {A:List Ar} {Y:List (List Int)} (h:XR A Y=true) (hA:W9 (XK A)) (hb:∀ a∈A,0<a.1/\a.1<=1025):Y.length<=1024/\∀ s∈Y,s.length<=1025/\∀ e∈s,0<=e/\e<=1025:=by
 obtain ⟨h1,h2,_,_⟩:=Hq.1 h
 refine ⟨h1,fun s hs=>?_⟩
 obtain ⟨w1,w2⟩:=G7.1 (h2 s hs).1
 have hb2:∀ e∈s,0<e/\e<=0+((1025:Nat):Int):=fun e he=>by
  obtain ⟨a,ha,rfl⟩:=List.mem_map.1 (w2 e he)
  have:=hb a ha;omega
 exact ⟨Jw w1 hb2,fun e he=>by have:=hb2 e he;omega⟩
theorem vaP.nv {N:List Xh} {m:Int} (h:vaP N m):NvB N:=by
 obtain ⟨_,h1,h2,_,h3,_⟩:=h
 refine ⟨h1,h2,fun x hx=>?_⟩
 obtain ⟨a1,a2⟩:=h3 x hx
 obtain ⟨b1,b2⟩:=KT a1
 have hl:x.1.length<=1025:=by
  rw [<- BS]
  refine Jw (l:=0) b1 fun e he=>?_
  obtain ⟨a,ha,rfl⟩:=List.mem_map.1 he
  have:=b2 a ha;omega
 have hse:x.2.1.length<=1024/\∀ s∈x.2.1,s.length<=1025/\∀ e∈s,0<=e/\e<=1025:=by
  have hemp:x.2.1.isEmpty=true->x.2.1.length<=1024/\∀ s∈x.2.1,s.length<=1025/\∀ e∈s,0<=e/\e<=1025:=fun q=>by
   rw [List.isEmpty_iff.1 q]
   exact ⟨by simp,by simp⟩
  have hac:XR x.1 x.2.1=true->x.2.1.length<=1024/\∀ s∈x.2.1,s.length<=1025/\∀ e∈s,0<=e/\e<=1025:=fun q=>PQ q b1 fun a ha=>by have:=b2 a ha;omega
  unfold XT at a2
  split at a2
  ·simp only [Bool.and_eq_true] at a2;exact hemp a2.1
  split at a2
  ·simp only [Bool.and_eq_true] at a2;exact hac a2.2
  split at a2
  ·simp only [Bool.and_eq_true] at a2;exact hemp a2.2
  simp only [Bool.and_eq_true] at a2;exact hac a2.2
 exact ⟨b1,hl,fun a ha=>by have:=b2 a ha;omega,hse.1,hse.2⟩
def Y7 (f:Nat->Nat) (c:Nat) (o:List (List Ar)) (a:Ar):List (List Ar):=o.set c (E5 (a.1,(f a.2.toNat:Int)) (o.getD c []))
theorem Sv (f:Nat->Nat) (c:Nat) (o:List (List Ar)) (a:Ar):(Y7 f c o a).length=o.length:=by simp [Y7]
def SameS (o p:List (List Ar)):Prop:=o.length=p.length/\∀ i a,a∈o.getD i []↔a∈p.getD i []
theorem SameS.one {f:Nat->Nat} {c:Nat} {o p:List (List Ar)} (h:SameS o p) (a:Ar):SameS (Y7 f c o a) (Wn f c p a):=by
 refine ⟨by rw [Sv,Rl];exact h.1,fun i b=>?_⟩
 have h1:=h.1
 unfold Y7 Wn
 simp only [gE2,List.getElem?_set]
 by_cases hi:c=i
 rotate_left
 ·rw [if_neg hi,if_neg hi]
  have h2:=h.2 i b
  simpa only [gE2] using h2
 subst hi
 by_cases hc:c<o.length
 rotate_left
 ·rw [if_pos rfl,if_neg hc,if_pos rfl,if_neg (by omega)]
 have h2:=h.2 c b
 simp only [gE2] at h2
 rw [if_pos rfl,if_pos hc,if_pos rfl,if_pos (by omega)]
 simp only [Option.getD_some,Fo,List.mem_append,List.mem_singleton,h2,or_comm]
def Y8 (f:Nat->Nat) (c:Nat) (a:Ar):Option Ar:=if a.1 ≠ 0\/f a.2.toNat ≠ c then some (a.1,(f a.2.toNat:Int)) else none
def Y9 (b:Bool) (c:Nat):Option Ar:=if b then some (0,(c:Int)) else none
def QA (R:List (List Ar)) (f:Nat->Nat) (k d:Nat) (a:Ar):Prop:=∃ s,s<k/\f s=d/\∃ b∈R.getD s [],Y8 f d b=some a
def QL (f:Nat->Nat) (B:List Bool) (k d:Nat) (a:Ar):Prop:=a=(0,(d:Int))/\∃ s,s<k/\f s=d/\B.getD s false=true
theorem QA.succ {R:List (List Ar)} {f:Nat->Nat} {k d:Nat} {a:Ar}:QA R f (k+1) d a↔QA R f k d a\/(d=f k/\∃ b∈R.getD k [],Y8 f (f k) b=some a):=by
 constructor
 rotate_left
 ·rintro (⟨s,h1,h2,h3⟩ | ⟨rfl,h3⟩)
  ·exact ⟨s,by omega,h2,h3⟩
  exact ⟨k,by omega,rfl,h3⟩
 rintro ⟨s,h1,h2,h3⟩
 by_cases e:s=k
 ·subst e;subst h2;exact .inr ⟨rfl,h3⟩
 exact .inl ⟨s,by omega,h2,h3⟩
theorem QL.succ {f:Nat->Nat} {B:List Bool} {k d:Nat} {a:Ar}:QL f B (k+1) d a↔QL f B k d a\/(d=f k/\Y9 (B.getD k false) (f k)=some a):=by
 unfold QL Y9
 constructor
 ·rintro ⟨h0,s,h1,h2,h3⟩
  by_cases e:s=k
  ·subst e;subst h2;exact .inr ⟨rfl,by rw [if_pos h3,h0]⟩
  exact .inl ⟨h0,s,by omega,h2,h3⟩
 rintro (⟨h0,s,h1,h2,h3⟩ | ⟨rfl,h3⟩)
 ·exact ⟨h0,s,by omega,h2,h3⟩
 split at h3
 rotate_left
 ·cases h3
 rename_i hb
 injection h3 with h3
 exact ⟨h3.symm,k,by omega,rfl,hb⟩
def MtK {α:Type} (A:List (List Ar)) (kA:Nat->α) (B:List (List Ar)) (kB:Nat->α):Prop:=
 ∀ s t,s<A.length->t<B.length->kA s=kB t->(Dv A s->Dv B t)/\∀ a∈(EG A).getD s [],∃ b∈(EG B).getD t [],b.1=a.1/\kB b.2.toNat=kA a.2.toNat
theorem Qz {R:List (List Ar)} (hv:C7 R=true) (hn:R.length<=100) {s:Nat} (hs:s<R.length) {a:Ar} (h:a∈(EG R).getD s []):0<=a.2/\a.2.toNat<R.length:=by
 have hb:=Jf hv hn
 have hm:(EG R).getD s []∈EG R:=by
  rw [gE2,gE1 (by omega),Option.getD_some]
  exact gE6 _
 have:=(hb.2 _ hm).2 a h
 omega
theorem QB {α:Type} {R:List (List Ar)} {k:Nat->α} (hv:C7 R=true) (hn:R.length<=100) (hk:MtK R k R k) {c:List Int} (ih:∀ s t,s<R.length->t<R.length->k s=k t->c.getD s 0=c.getD t 0) {s t:Nat} (hs:s<R.length) (ht:t<R.length) (h:k s=k t):SW c ((EG R).getD s []) ((EG R).getD t [])=true:=by
 unfold SW
 refine List.all_eq_true.2 fun a ha=>?_
 obtain ⟨b,hb,e1,e2⟩:=(hk s t hs ht h).2 a ha
 unfold Up
 refine List.any_eq_true.2 ⟨b,hb,?_⟩
 rw [e1,ih _ _ (Qz hv hn ht hb).2 (Qz hv hn hs ha).2 e2]
 simp
theorem MtK.le {α:Type} {R:List (List Ar)} {k:Nat->α} (hv:C7 R=true) (hn:R.length<=100) (hk:MtK R k R k) {c:List Int} (hc:DlC R c) {s t:Nat} (hs:s<R.length) (ht:t<R.length) (h:k s=k t):c.getD s 0=c.getD t 0:=by
 obtain ⟨B,hB,i,hi,-⟩:=hc
 have hb:=Jf hv hn
 subst hi
 induction i generalizing s t with
 | zero=>
  show (WS B R.length).getD s 0=(WS B R.length).getD t 0
  rw [Hj hs,Hj ht]
  have e:B.getD s false=B.getD t false:=by
   rw [Bool.eq_iff_iff,hB.2 s hs,hB.2 t ht]
   exact ⟨(hk s t hs ht h).1,(hk t s ht hs h.symm).1⟩
  unfold WR
  rw [e]
 | succ i ih=>
  have ih2:=fun s t hs ht h=>ih (s:=s) (t:=t) hs ht h
  have e:=(BK (WG (EG R) (WI (EG R) (WS B R.length) i)) (EG R).length).eq s t (by omega) (by omega)
  refine e.2 ?_
  unfold WG
  rw [ih hs ht h,Nd.2 ⟨QB hv hn hk ih2 hs ht h,QB hv hn hk ih2 ht hs h.symm⟩]
theorem DlC.key {R:List (List Ar)} (hv:C7 R=true) (hn:R.length<=100) {c:List Int} (hc:DlC R c):MtK R (fun s=>c.getD s 0) R (fun s=>c.getD s 0):=by
 obtain ⟨B,hB,i,hi,hf⟩:=hc
 have hb:=Jf hv hn
 intro s t hs ht h
 simp only at h ⊢
 have e:=(BK (WG (EG R) c) (EG R).length).eq s t (by omega) (by omega)
 have e0:(WE (WG (EG R) c) (EG R).length).1=c:=hf
 rw [e0] at e
 have e2:=congrArg Prod.snd (e.1 h)
 obtain ⟨c1,-⟩:=Nd.1 e2
 refine ⟨fun hd=>?_,fun a ha=>?_⟩
 rotate_left
 ·obtain ⟨b,hb2,hq⟩:=List.any_eq_true.1 (List.all_eq_true.1 c1 a ha)
  simp only [Bool.and_eq_true,beq_iff_eq] at hq
  exact ⟨b,hb2,hq.1,hq.2⟩
 have hdv:∀ j,(WI (EG R) (WS B R.length) j).getD s 0=(WI (EG R) (WS B R.length) j).getD t 0->(WS B R.length).getD s 0=(WS B R.length).getD t 0:=by
  intro j
  induction j with
  | zero=>exact id
  | succ j ih=>intro q;exact ih (congrArg Prod.fst (((BK (WG (EG R) (WI (EG R) (WS B R.length) j)) (EG R).length).eq s t (by omega) (by omega)).1 q))
 have q:=hdv i (by rw [<- hi];exact h)
 rw [Hj hs,Hj ht] at q
 refine (hB.2 t ht).1 ?_
 have h2:=(hB.2 s hs).2 hd
 unfold WR at q
 rw [h2] at q
 generalize B.getD 0 false=x0 at q
 generalize B.getD t false=x1 at q ⊢
 revert q
 cases x0 <;> cases x1 <;> decide
/-! Side by side. -/
/-! The quotient. -/
structure QuX (R X:List (List Ar)) (f kX:Nat->Nat):Prop where
 inj:∀ i j,i<X.length->j<X.length->kX i=kX j->i=j
 sur:∀ j,j<X.length->∃ s,s<R.length/\f s=kX j
 fw:∀ s j,s<R.length->j<X.length->f s=kX j->∀ b∈R.getD s [],(b.1 ≠ 0\/f b.2.toNat ≠ f s)->∃ i:Nat,i<X.length/\(b.1,(i:Int))∈X.getD j []/\kX i=f b.2.toNat
 bw:∀ j (a:Ar),j<X.length->a∈X.getD j []->∃ i:Nat,i<X.length/\a.2=(i:Int)/\((∃ s,s<R.length/\f s=kX j/\∃ b∈R.getD s [],b.1=a.1/\f b.2.toNat=kX i/\(a.1 ≠ 0\/kX i ≠ kX j))\/(a.1=0/\i=j/\∃ s,s<R.length/\f s=kX j/\Dv R s))
 lp:∀ s j,s<R.length->j<X.length->f s=kX j->Dv R s->(0,(j:Int))∈X.getD j []
section
variable {R X : List (List Ar)} {f kX : Nat -> Nat}
theorem Sw (hv:C7 R=true) {s:Nat} {b:Ar} (hb:b∈R.getD s []):0<=b.2/\b.2.toNat<R.length:=by
 have hlo:=(gE4 hv).1
 have hs:s<R.length:=by
  by_cases e:s<R.length
  ·exact e
  rw [gE2,List.getElem?_eq_none (by omega)] at hb
  simp at hb
 rw [gE2,gE1 hs,Option.getD_some] at hb
 have h:=hlo.2.2.2 _ (gE6 hs) b hb
 omega
theorem QuX.step (h:QuX R X f kX) (hR:C7 R=true) (hX:C7 X=true) (hk:MtK R f R f) {i j:Nat} {u:Nat} (hu:u<R.length) (hj:j<X.length) (e:f u=kX j) (hi:i∈Wi true X j):i<X.length/\∃ v,v<R.length/\Rc (Wi true R) u v/\f v=kX i:=by
 have hE:=Dq true (gEg (gE4 hR).1:BZ R=true)
 obtain ⟨i',h1,h2,h3⟩:=h.bw j _ hj ((G2 hX).1 hi)
 have hii:i=i':=by simp only at h2;omega
 subst hii
 refine ⟨h1,?_⟩
 rcases h3 with ⟨s,hs,es,b,hb,eb,fb,_⟩ | ⟨_,rfl,_⟩
 rotate_left
 ·exact ⟨u,hu,.refl _,e⟩
 have hbl:=Sw hR hb
 have hb2:b∈R.getD s []:=hb
 have hbs:(0,b.2)∈(EG R).getD s []:=(EH hR hs).2 (.inl ⟨rfl,b.2.toNat,by simp only;omega,.one ((G2 hR).2 (by
  obtain ⟨x,y⟩:=b
  simp only at eb hbl ⊢
  subst eb
  rw [Int.toNat_of_nonneg hbl.1]
  exact hb))⟩)
 obtain ⟨c,hc,e1,e2⟩:=(hk s u hs hu (by rw [es,e])).2 _ hbs
 rcases (EH hR hu).1 hc with ⟨_,v,hv,hr⟩ | ⟨h0,_⟩
 ·exact ⟨v,hr.lt hu hE,hr,by rw [hv] at e2;simp only [Int.toNat_natCast] at e2;rw [e2,fb]⟩
 exact absurd e1 h0
theorem Sx (hR:C7 R=true) {P:Nat->Prop} (hP:∀ u,u<R.length->P u->∃ w v,w∈Wi true R u/\Rc (Wi true R) w v/\v<R.length/\P v):∀ (n u:Nat),u<R.length->P u->X1 R u<=n->Dv R u:=by
 intro n
 induction n with
 | zero=>
  intro u hu _ hr
  exfalso
  have hp:0<(List.range R.length).countP fun x=>@decide (Rc (Wi true R) u x) (Classical.propDecidable _):=List.countP_pos_iff.2 ⟨u,List.mem_range.2 hu,@decide_eq_true _ (Classical.propDecidable _) (Rc.refl u)⟩
  unfold X1 at hr
  omega
 | succ n ih=>
  intro u hu hp hr
  obtain ⟨w,v,hw,hwv,hvl,hv⟩:=hP u hu hp
  by_cases hb:Rc (Wi true R) v u
  ·exact ⟨u,.refl _,w,hw,hwv.trans hb⟩
  have huv:Rc (Wi true R) u v:=(Rc.one hw).trans hwv
  have hlt:X1 R v<X1 R u:=Il (fun x _ hx=>@decide_eq_true _ (Classical.propDecidable _) (huv.trans (@of_decide_eq_true _ (Classical.propDecidable _) hx))) u (List.mem_range.2 hu) (@decide_eq_true _ (Classical.propDecidable _) (Rc.refl u)) (@decide_eq_false _ (Classical.propDecidable _) hb)
  obtain ⟨g,hg,hd⟩:=ih v hvl hv (by omega)
  exact ⟨g,huv.trans hg,hd⟩
end
theorem O0 {L:List (List Int)} (hL:∀ s∈L,W9 s):D2 (D2 L)=D2 L:=by
 have hM:∀ s∈D2 L,W9 s:=fun s hs=>hL s (Ca hs)
 refine FO (D7 _) (D7 L) fun s=>?_
 rw [CU hM]
 refine ⟨fun h=>h.1,fun h=>⟨h,?_⟩⟩
 rw [CA hM (hM s h)]
 exact fun o ho hsub=>(CA hL (hM s h)).1 ((CU hL s).1 h).2 o (Ca ho) hsub
theorem Jx {n:Int}:∀ {A:List Ar} {l:Int},W9 (XK A)->(∀ a∈A,l<a.1/\a.1<=1025/\0<=a.2/\a.2<n)->LW n l A=true
 | [],_,_,_=>rfl
 | a :: A,l,h,hb=>by
  have h1:=hb a List.mem_cons_self
  have hp:=List.pairwise_cons.1 (show (a.1 :: XK A).Pairwise (· < ·) from h)
  rw [LW,if_neg (by omega)]
  refine Jx hp.2 fun b hbm=>?_
  have h2:=hb b (gEf _ hbm)
  have h3:=hp.1 b.1 (List.mem_map.2 ⟨b,hbm,rfl⟩)
  omega
theorem Jy {R:List (List Ar)} {X:List Nat} {y:List Int}:y∈Xg R X↔∃ s∈X,(Gd (R.getD s [])).2=true/\(Gd (R.getD s [])).1=y:=by
 unfold Xg
 rw [List.mem_filterMap]
 refine exists_congr fun s=>and_congr_right fun _=>?_
 split
 rotate_left
 ·rename_i h
  exact ⟨fun e=>(by cases e),fun e=>absurd e.1 h⟩
 rename_i h
 exact ⟨fun e=>⟨h,Option.some.inj e⟩,fun e=>congrArg some e.2⟩
theorem TW {R:List (List Ar)} {X:List Nat} {A:List Ar} (hb:∀ r∈R,∀ a∈r,0<=a.1/\a.1<=1025) (hX:∀ s∈X,s<R.length) (hXl:X.length<=1024) (hA:XK A=Xf R X):XR A (D2 (Xg R X))=true:=by
 have hok:=Ip hb hX
 have hasc:∀ s∈Xg R X,W9 s:=fun s hs=>(hok s hs).1
 have hmem:∀ y∈Xg R X,(∀ e∈y,e∈Xf R X)/\¬ (1<y.length/\(1:Int)∈y):=fun y hy=>by
  obtain ⟨s,hs,h1,rfl⟩:=Jy.1 hy
  unfold Gd at h1 ⊢
  split
  ·rename_i h
   obtain ⟨a,ha,e⟩:=C9.1 h
   refine ⟨fun x hx=>?_,by simp⟩
   rw [List.mem_singleton.1 hx]
   exact Dm.2 ⟨s,hs,a,ha,by omega,e⟩
  rename_i h
  rw [if_neg h] at h1
  split
  ·exact ⟨by simp,by simp⟩
  rename_i h0
  refine ⟨fun x hx=>?_,fun q=>h q.2⟩
  obtain ⟨a,ha,e⟩:=C9.1 hx
  exact Dm.2 ⟨s,hs,a,ha,fun z=>h0 (C9.2 ⟨a,ha,z⟩),e⟩
 refine Hq.2 ⟨?_,fun s hs=>⟨G7.2 ⟨hasc s (Ca hs),fun x hx=>?_⟩,(hmem s (Ca hs)).2⟩,?_,O0 hasc⟩
 ·have:=Es (Xg R X)
  have:=Ei R X
  omega
 ·rw [hA];exact (hmem s (Ca hs)).1 x hx
 by_cases h1:(1:Int)∈XK A
 rotate_left
 ·rw [decide_eq_false h1,Bool.false_and]
 rw [gEg h1,Bool.true_and]
 rw [hA] at h1
 obtain ⟨s,hs,a,ha,h0,e⟩:=Dm.1 h1
 have hin:[1]∈Xg R X:=Jy.2 ⟨s,hs,by
  have:(1:Int)∈WD (R.getD s []):=C9.2 ⟨a,ha,e⟩
  unfold Gd
  rw [if_pos this];exact ⟨rfl,rfl⟩⟩
 obtain ⟨t,ht,hsub⟩:=CV hasc 1 (by simp) hin
 cases hall:(D2 (Xg R X)).all fun s=>!XP s with
 | false=>rfl
 | true=>
  have:=List.all_eq_true.1 hall t ht
  cases t with
  | nil=>simp [XP] at this
  | cons e t=>
   have he:=List.mem_singleton.1 (hsub e List.mem_cons_self)
   rw [he] at this
   simp [XP] at this
theorem PR {A:List Ar} {a:Ar}:∀ {f g:Int},XL f A=some g->XL f (A++[a])=XL g [a]:=by
 induction A with
 | nil=>intro f g h;simp only [XL,Option.some.injEq] at h;rw [h];rfl
 | cons b A ih=>
  intro f g h
  rw [XL] at h
  rw [List.cons_append,XL]
  split at h
  ·cases h
  rename_i hn
  rw [if_neg hn]
  exact ih h
theorem TX {R:List (List Ar)} {X:List Nat} {S:List (List Nat)} (L:List Int):∀ (p:List Ar × List (List Nat)),XL (S.length:Nat) p.1=some ((p.2.length:Nat):Int)->XL (S.length:Nat) (L.foldl (LV R X) p).1=some ((((L.foldl (LV R X) p).2.length:Nat):Int):Int):=by
 induction L with
 | nil=>intro p h;exact h
 | cons e L ih=>
  intro p h
  rw [List.foldl_cons]
  refine ih _ ?_
  unfold LV
  simp only
  rw [PR h]
  unfold Xi Xk
  by_cases hx:EP R X e∈p.2
  rotate_left
  ·rw [if_neg hx,List.idxOf_eq_length hx]
   simp only [XL]
   rw [if_neg (by omega),if_pos (by omega)]
   simp
  have hl:=List.idxOf_lt_length_iff.2 hx
  rw [if_pos hx]
  simp only [XL]
  rw [if_neg (by omega),if_neg (by omega)]
theorem TY {R:List (List Ar)} {m:Int} {X:List Nat} {S:List (List Nat)}:XL (S.length:Nat) (Xn R m X S).1.1=some ((((Xn R m X S).2.length:Nat):Int):Int):=by
 unfold Xn
 split
 ·rfl
 exact TX _ ([],S) rfl
theorem LN {R:List (List Ar)} {m:Int} {j:Nat} (h:(B8 R m j).1.length<=j):∀ i,j<=i->B8 R m i=B8 R m j:=by
 intro i
 induction i with
 | zero=>intro hj;rw [show j=0 by omega]
 | succ i ih=>
  intro hj
  by_cases e:j=i+1
  ·rw [e]
  have h1:=ih (by omega)
  rw [EK (by rw [h1];exact List.getElem?_eq_none (by omega)),h1]
theorem O3 {R:List (List Ar)} {m:Int} {p:List (List Nat) × List Xh} {K:Nat} (hK:B8 R m K=p) (hl:p.1.length=K):(∀ j,j<K->j<(B8 R m j).1.length)/\(∀ j,j<=K->PrI R j (B8 R m j))/\∀ j,j<K->∃ X,(B8 R m j).1[j]?=some X/\p.2[j]?=some (Xn R m X (B8 R m j).1).1/\(B8 R m (j+1)).1=(Xn R m X (B8 R m j).1).2:=by
 have h1:∀ j,j<K->j<(B8 R m j).1.length:=fun j hj=>by
  refine Nat.lt_of_not_le fun q=>?_
  have:=LN q K (by omega)
  rw [hK] at this
  rw [<- this] at q
  omega
 have h2:∀ j,j<=K->PrI R j (B8 R m j):=by
  intro j
  induction j with
  | zero=>intro _;exact PrI.zero R m
  | succ j ih=>intro hj;exact (ih (by omega)).step (h1 j (by omega))
 refine ⟨h1,h2,fun j hj=>?_⟩
 have hg:=gE1 (h1 j hj)
 have hs:=C0 hg
 refine ⟨_,hg,?_,by rw [hs]⟩
 obtain ⟨Xj,hXj⟩:∃ x,(B8 R m j).1[j]'(h1 j hj)=x:=⟨_,rfl⟩
 rw [hXj] at hs ⊢
 have h3:∀ i,j+1<=i->i<=K->(B8 R m i).2[j]?=some (Xn R m Xj (B8 R m j).1).1:=by
  intro i
  induction i with
  | zero=>intro q;omega
  | succ i ih=>
   intro q1 q2
   by_cases e:j=i
   ·subst e
    rw [hs]
    simp only
    rw [gEb (by rw [(h2 j (by omega)).n];exact Nat.le_refl _),(h2 j (by omega)).n,Nat.sub_self];rfl
   rw [C0 (gE1 (h1 i (by omega)))]
   simp only
   rw [gEa (by rw [(h2 i (by omega)).n];omega)]
   exact ih (by omega) (by omega)
 have:=h3 K (by omega) (Nat.le_refl _)
 rwa [hK] at this
theorem Ux {R:List (List Ar)} {X:List Nat} (hv:C7 R=true) (L:List Int):∀ (p:List Ar × List (List Nat)),(∀ e∈L,e∈Xf R X)->(∀ Y∈p.2,Y ≠ [])->∀ Y∈(L.foldl (LV R X) p).2,Y ≠ []:=by
 induction L with
 | nil=>intro p _ h;exact h
 | cons e L ih=>
  intro p hL h
  rw [List.foldl_cons]
  refine ih _ (fun x hx=>hL x (gEf _ hx)) ?_
  intro Y hY
  have hY2:Y∈Xk p.2 (EP R X e):=hY
  unfold Xk at hY2
  have hne:EP R X e ≠ []:=by
   obtain ⟨s,hs,a,ha,_,he⟩:=Dm.1 (hL e List.mem_cons_self)
   have hsl:s<R.length:=by
    refine Nat.lt_of_not_le fun q=>?_
    rw [gE2,List.getElem?_eq_none q] at ha
    simp at ha
   have hr:R.getD s []=R[s]:=by rw [gE2,gE1 hsl];rfl
   have hb:=(gE4 hv).1.2.2.2 _ (gE6 hsl) a (by rw [<- hr];exact ha)
   have hm:a.2.toNat∈EP R X e:=EJ.2 ⟨by omega,a.2.toNat,EB.2 ⟨s,hs,DF.2 ⟨a,ha,he,rfl⟩⟩,.refl _⟩
   intro q
   rw [q] at hm
   simp at hm
  split at hY2
  ·exact h Y hY2
  rcases List.mem_append.1 hY2 with q | q
  ·exact h Y q
  rw [List.mem_singleton.1 q];exact hne
theorem Sy {R:List (List Ar)} {m:Int} (hv:C7 R=true):∀ k,∀ Y∈(B8 R m k).1,Y ≠ []:=by
 intro k
 induction k with
 | zero=>
  intro Y hY
  have h0:Y=WL R 0:=List.mem_singleton.1 hY
  have h1:0<R.length:=(gE4 hv).1.1
  have:0∈WL R 0:=CZ.2 ⟨h1,.refl 0⟩
  intro q
  rw [<- h0,q] at this
  simp at this
 | succ k ih=>
  intro Y hY
  cases hg:(B8 R m k).1[k]? with
  | none=>rw [EK hg] at hY;exact ih Y hY
  | some X=>
   rw [C0 hg] at hY
   simp only at hY
   unfold Xn at hY
   split at hY
   ·exact ih Y hY
   exact Ux hv _ ([],_) (fun e he=>he) ih Y hY
theorem Sz {B:List (List Ar)} (hB:C7 B=true) {t:Nat} (ht:t<B.length) (hd:¬ Dv B t):∃ u,Rc (Wi true B) t u/\u<B.length/\Wi true B u=[]:=by
 have hE:=Dq true (gEg (gE4 hB).1:BZ B=true)
 by_cases h:∃ u,Rc (Wi true B) t u/\u<B.length/\Wi true B u=[]
 ·exact h
 exfalso
 refine hd (Sx hB (P:=fun y=>Rc (Wi true B) t y) (fun y hy hr=>?_) _ t ht (.refl _) (Nat.le_refl _))
 cases e:Wi true B y with
 | nil=>exact absurd ⟨y,hr,hy,e⟩ h
 | cons w l=>
  have hw:w∈Wi true B y:=by rw [e];exact List.mem_cons_self
  exact ⟨w,w,by rw [<- e];exact hw,.refl _,hE _ hy _ hw,hr.tail hw⟩
theorem TZ {R:List (List Ar)} {m:Int} {X:List Nat} {S:List (List Nat)} (hv:C7 R=true) (hm:Fy m=true) (hS:StI R S) (hX:ClS R X) (hne:X ≠ []) (hn:R.length<=1024):XT (Xn R m X S).1 m=true/\W9 (XK (Xn R m X S).1.1)/\(∀ a∈(Xn R m X S).1.1,0<a.1/\a.1<=1025)/\(Xn R m X S).1.1.length<=1025:=by
 have hbd:=(gE4 hv).1.2.2.2
 have hb:∀ r∈R,∀ a∈r,0<=a.1/\a.1<=1025:=fun r hr a ha=>by have:=hbd r hr a ha;omega
 unfold Xn
 split
 ·rename_i hd
  refine ⟨?_,List.Pairwise.nil,by simp,by simp⟩
  unfold XT
  rw [if_neg (by omega),if_neg (by omega)];rfl
 rename_i hd
 have hA:=(ArI.all hS X (Xf R X)).ev
 have hasc:W9 (XK (Xl R X (Xf R X) S).1):=by unfold XK;rw [hA];exact Hm R X
 have hev:∀ a∈(Xl R X (Xf R X) S).1,0<a.1/\a.1<=1025:=fun a ha=>by
  have h1:a.1∈Xf R X:=by rw [<- hA];exact List.mem_map.2 ⟨a,ha,rfl⟩
  obtain ⟨s,hs,b,hbm,h0,e⟩:=Dm.1 h1
  have hsl:=hX.lt s hs
  rw [gE2,gE1 hsl] at hbm
  have:=hb _ (gE6 hsl) b hbm
  omega
 refine ⟨?_,hasc,hev,?_⟩
 rotate_left
 ·rw [<- BS]
  refine Jw (l:=0) hasc fun e he=>?_
  obtain ⟨a,ha,rfl⟩:=List.mem_map.1 he
  have:=hev a ha;omega
 have hac:=TW (X:=X) (A:=(Xl R X (Xf R X) S).1) hb hX.lt (by have:=hX.len;omega) hA
 unfold XT
 simp only
 by_cases h1:m=1
 ·rw [if_pos h1,if_pos h1];rfl
 rw [if_neg h1,if_neg h1]
 by_cases h2:m=2
 ·rw [if_pos h2,hac];rfl
 rw [if_neg h2,if_neg (by decide),hac,Bool.and_true]
 have h3:m=3:=by
  unfold Fy at hm
  simp only [Bool.or_eq_true,beq_iff_eq] at hm
  omega
 have hnd:Xm R X=false:=by
  cases q:Xm R X with
  | false=>rfl
  | true=>exact absurd ⟨h3,q⟩ hd
 obtain ⟨t,ht⟩:∃ t,t∈X:=by
  cases X with
  | nil=>exact absurd rfl hne
  | cons t _=>exact ⟨t,List.mem_cons_self⟩
 have htl:=hX.lt t ht
 have htd:¬ Dv R t:=fun q=>by
  unfold Xm at hnd
  exact @of_decide_eq_false _ (Classical.propDecidable _) hnd ⟨t,ht,q⟩
 obtain ⟨u,hu,hul,hun⟩:=Sz hv htl htd
 have huX:=hX.2 t ht u hul hu
 have h0:¬ (0:Int)∈WD (R.getD u []):=fun q=>by
  obtain ⟨a,ha,e⟩:=C9.1 q
  have hr:R.getD u []=R[u]:=by rw [gE2,gE1 hul];rfl
  have hbd2:=hbd _ (gE6 hul) a (by rw [<- hr];exact ha)
  have:a.2.toNat∈Wi true R u:=(G2 hv).2 (by
   have e2:((a.2.toNat:Nat):Int)=a.2:=by omega
   rw [e2,<- e];exact ha)
  rw [hun] at this
  simp at this
 have hin:(Gd (R.getD u [])).1∈Xg R X:=Jy.2 ⟨u,huX,by
  unfold Gd
  split
  ·exact ⟨rfl,rfl⟩
  ·exact ⟨rfl,rfl⟩⟩
 obtain ⟨z,hz,_⟩:=CV (fun s hs=>((Ip hb hX.lt) s hs).1) _ (Nat.le_refl _) hin
 cases hq:D2 (Xg R X) with
 | nil=>rw [hq] at hz;simp at hz
 | cons _ _=>rfl
theorem Jz {n:Nat}:∀ {N:List Xh},(∀ x∈N,x.1.length<=n)->Fe N<=N.length*n
 | [],_=>by simp [Fe]
 | x :: N,h=>by
  have h1:=Jz (N:=N) fun y hy=>h y (gEf _ hy)
  have h2:=h x List.mem_cons_self
  have:Fe (x :: N)=x.1.length+Fe N:=by unfold Fe;simp
  rw [this,List.length_cons,Nat.succ_mul]
  omega
theorem PreE.valid {R:List (List Ar)} {m:Int} {p:List (List Nat) × List Xh} (hv:C7 R=true) (hm:Fy m=true) (hn:R.length<=1024) (hs:p.1.length<=255) (h:PreE R m p):vaP p.2 m:=by
 obtain ⟨K,hK,hl,hP⟩:=h
 obtain ⟨h1,h2,h3⟩:=O3 hK hl
 have hN:=hP.n
 have hK1:1<=K:=by
  have:=(List.getElem?_eq_some_iff.1 hP.z).1
  omega
 have hst:∀ j (hj:j<K),∃ X,(B8 R m j).1[j]?=some X/\p.2[j]?=some (Xn R m X (B8 R m j).1).1/\(B8 R m (j+1)).1=(Xn R m X (B8 R m j).1).2/\XT (Xn R m X (B8 R m j).1).1 m=true/\W9 (XK (Xn R m X (B8 R m j).1).1.1)/\(∀ a∈(Xn R m X (B8 R m j).1).1.1,0<a.1/\a.1<=1025)/\(Xn R m X (B8 R m j).1).1.1.length<=1025:=fun j hj=>by
  obtain ⟨X,a1,a2,a3⟩:=h3 j hj
  have hXm:=gE9 a1
  exact ⟨X,a1,a2,a3,TZ hv hm (h2 j (by omega)).st ((h2 j (by omega)).st.cl X hXm) (Sy hv j X hXm) hn⟩
 have hall:∀ x∈p.2,XT x m=true/\W9 (XK x.1)/\(∀ a∈x.1,0<a.1/\a.1<=1025)/\x.1.length<=1025:=fun x hx=>by
  obtain ⟨j,hj,rfl⟩:=List.getElem_of_mem hx
  obtain ⟨X,_,a2,_,a4⟩:=hst j (by omega)
  rw [gE1 hj] at a2
  rw [Option.some.inj a2]
  exact a4
 have hto:=hP.to
 refine ⟨hm,by omega,by omega,?_,fun x hx=>⟨?_,(hall x hx).1⟩,?_⟩
 ·refine Nat.le_trans (Jz fun x hx=>(hall x hx).2.2.2) ?_
  have:p.2.length*1025<=255*1025:=Nat.mul_le_mul (by omega) (Nat.le_refl _)
  omega
 ·refine Jx (hall x hx).2.1 fun a ha=>?_
  have q1:=(hall x hx).2.2.1 a ha
  have q2:=hto x hx a ha
  omega
 have key:∀ d,d<=K->XM ((B8 R m (K - d)).1.length:Nat) (K - d) (p.2.drop (K - d))=true:=by
  intro d
  induction d with
  | zero=>
   intro _
   rw [Nat.sub_zero,List.drop_eq_nil_of_le (by omega)];rfl
  | succ d ih=>
   intro hd
   have ih2:=ih (by omega)
   obtain ⟨j,hj⟩:∃ j,j=K - (d+1):=⟨_,rfl⟩
   have hj2:K - d=j+1:=by omega
   rw [hj2] at ih2
   rw [<- hj]
   have hjK:j<K:=by omega
   obtain ⟨X,_,a2,a3,_⟩:=hst j hjK
   have hjl:j<p.2.length:=by omega
   rw [gE1 hjl] at a2
   rw [List.drop_eq_getElem_cons hjl,XM,if_neg (by have:=h1 j hjK;omega),Option.some.inj a2,TY,<- a3]
   exact ih2
 have:=key K (Nat.le_refl _)
 rw [Nat.sub_self] at this
 exact this
end Go.Proofs.YtbnabodoabimnaaGreat
