/- Lemmas. -/
import Derived.Test.YtjijjfkalheokaaGreatDoorZk
import Derived.Test.YtjijjfkalheokaaGreatDoorG39
import Derived.Test.YtjijjfkalheokaaGreatDoorG45
import Derived.Test.YtjijjfkalheokaaGreatDoorMit
import Derived.Test.YtjijjfkalheokaaGreatDoorG11
import Derived.Test.YtjijjfkalheokaaGreatDoorShlfM
namespace Go.Proofs.YtjijjfkalheokaaGreatDoor
set_option linter.unusedVariables false
set_option linter.unusedSimpArgs false
open Go.RowKit
set_option maxRecDepth 100000
attribute [local go_sem] lga C.pl C.one

def kb (n:Int):List Int:=[IntKind.u8.wrap (n.fdiv (2 ^ (24:Int).toNat)),IntKind.u8.wrap (n.fdiv (2 ^ (16:Int).toNat)),IntKind.u8.wrap (n.fdiv (2 ^ (8:Int).toNat)),IntKind.u8.wrap n]
def Jw (xs:List Int):List Int:=xs.flatMap kb
def Jx (xs:List Int):Value:=.string ⟨⟨(Jw xs).map fun (m:Int)=>UInt8.ofNat m.toNat⟩⟩
def XY (l:List Int):List C:=l.map fun m=>C.v (.int .u8 m)
theorem Jy (l:List Int):(XY l).length=l.length:=by simp [XY]
theorem Sn (f:List Nat) (l:List Int):(XY l).map (C.ren f)=XY l:=by simp [XY,C.ren,Function.comp_def]
theorem CX (xs:List Int):(Jw xs).length=xs.length*4:=by
 unfold Jw
 induction xs with
 | nil=>rfl
 | cons x r ih=>rw [List.flatMap_cons,List.length_append,ih,List.length_cons];simp [kb];omega
theorem NT (xs:List Int) (x:Int):(XY (Jw xs)).take (xs.length*4)++[C.v (.int .u8 (IntKind.u8.wrap (x.fdiv (2 ^ (24:Int).toNat)))),C.v (.int .u8 (IntKind.u8.wrap (x.fdiv (2 ^ (16:Int).toNat)))),C.v (.int .u8 (IntKind.u8.wrap (x.fdiv (2 ^ (8:Int).toNat)))),C.v (.int .u8 (IntKind.u8.wrap x))]=XY (Jw (xs++[x])):=by
 rw [gE7 (by rw [Jy,CX];exact Nat.le_refl _)]
 unfold Jw XY
 simp [kb]
theorem Uc (n:Int):IntKind.u8.wrap n=n % 256:=by simp [IntKind.wrap,IntKind.signed,IntKind.bits]
theorem Ud {x y:Int} (hx:0<=x/\x<2147483648) (hy:0<=y/\y<2147483648) (h:kb x=kb y):x=y:=by
 unfold kb at h
 simp only [List.cons.injEq,and_true,Uc] at h
 obtain ⟨h1,h2,h3,h4⟩:=h
 have e:∀ z:Int,z.fdiv (2 ^ (24:Int).toNat)=z / 16777216/\z.fdiv (2 ^ (16:Int).toNat)=z / 65536/\z.fdiv (2 ^ (8:Int).toNat)=z / 256:=fun z=>⟨Int.fdiv_eq_ediv_of_nonneg z (by decide),Int.fdiv_eq_ediv_of_nonneg z (by decide),Int.fdiv_eq_ediv_of_nonneg z (by decide)⟩
 rw [(e x).1,(e y).1] at h1
 rw [(e x).2.1,(e y).2.1] at h2
 rw [(e x).2.2,(e y).2.2] at h3
 omega
theorem Ue (x:Int):∀ m∈kb x,0<=m/\m<256:=by
 intro m hm
 unfold kb at hm
 simp only [List.mem_cons,List.not_mem_nil,or_false,Uc] at hm
 rcases hm with rfl | rfl | rfl | rfl <;> omega
theorem KT:∀ {xs ys:List Int},(∀ x∈xs,0<=x/\x<2147483648)->(∀ y∈ys,0<=y/\y<2147483648)->Jw xs=Jw ys->xs=ys
 | [],[],_,_,_=>rfl
 | [],y :: ys,_,_,h=>by have:=congrArg List.length h;rw [CX,CX] at this;simp at this
 | x :: xs,[],_,_,h=>by have:=congrArg List.length h;rw [CX,CX] at this;simp at this
 | x :: xs,y :: ys,hx,hy,h=>by
  have h1:kb x++Jw xs=kb y++Jw ys:=h
  obtain ⟨h2,h3⟩:=List.append_inj h1 rfl
  rw [Ud (hx x (by simp)) (hy y (by simp)) h2,KT (fun a ha=>hx a (gEf _ ha)) (fun a ha=>hy a (gEf _ ha)) h3]
theorem KU (xs:List Int):∀ m∈Jw xs,0<=m/\m<256:=by
 intro m hm
 obtain ⟨x,_,hx⟩:=List.mem_flatMap.1 hm
 exact Ue x m hx
theorem GZ:∀ {l m:List Int},(∀ x∈l,0<=x/\x<256)->(∀ x∈m,0<=x/\x<256)->(l.map fun (m:Int)=>UInt8.ofNat m.toNat)=(m.map fun (m:Int)=>UInt8.ofNat m.toNat)->l=m
 | [],[],_,_,_=>rfl
 | [],y :: ys,_,_,h=>by simp at h
 | x :: xs,[],_,_,h=>by simp at h
 | x :: xs,y :: ys,hx,hy,h=>by
  simp only [List.map_cons,List.cons.injEq] at h
  have h1:=hx x (by simp)
  have h2:=hy y (by simp)
  have h3:=congrArg UInt8.toNat h.1
  simp only [UInt8.toNat_ofNat'] at h3
  have:x=y:=by omega
  rw [this,GZ (fun a ha=>hx a (gEf _ ha)) (fun a ha=>hy a (gEf _ ha)) h.2]
theorem Qb {xs ys:List Int} (hx:∀ x∈xs,0<=x/\x<2147483648) (hy:∀ y∈ys,0<=y/\y<2147483648) (h:Jx xs=Jx ys):xs=ys:=by
 unfold Jx at h
 injection h with h
 injection h with h
 injection h with h
 exact KT hx hy (GZ (KU _) (KU _) h)
set_option maxHeartbeats 1000000 in
theorem Uf (xs:List Int) (hn:xs.length<=100000000):FC Tryz.prog 86 [As xs] [] (fun r o=>o=[]/\r=.a (.c (.v (Jx xs)))):=by
 refine A6 Tryz.func86 rfl (by rw [Tryz.ntmps86];simp) ?_
 rw [Tryz.ntmps86]
 simp only [Bf,As]
 (refine Wu @A4 ?_;(repeat clear hK K);repeat refine kq fun K hK=>?_)
 refine A8 (fun k:Nat=>{ tm:=[(3,.a (.c (.s 0 (k*4)))),(10,.a (.c (.t 1 (Ab xs)))),(11,.i xs.length),(12,.i k)],hp:=[.r ⟨5,1,false,XY (Jw (xs.take k))⟩],n:=33,pin:=0 }) (fun k=>k<=xs.length) (fun k=>xs.length - k) 0 ?_ ?_ ?_
 ·omega
 ·simp only [show Int.toNat 0=0 from rfl,List.replicate_zero,List.take_zero,Jw,List.flatMap_nil,XY,List.map_nil,Nat.zero_mul]
  exact WE
 rintro k hk K hK
 have htl:(xs.take k).length=k:=by simp;omega
 by_cases hlt:k<xs.length
 ·have d1:decide ((k:Int)<(xs.length:Int))=true:=by simpa using hlt
  have hg:=Am (gE1 hlt)
  have hp:=NT (xs.take k) xs[k]
  rw [htl,<- gE8 hlt] at hp
  (refine Wu @d1 ?_;(repeat clear hK K);repeat refine kq fun K hK=>?_)
  refine WB ?_
  (refine Wu (an @hg (an @A4 (an @Jy (an @CX (an @htl @hp))))) ?_;(repeat clear hK K);repeat refine kq fun K hK=>?_)
  refine WD ?_
  refine hK _ (k+1) (by omega) (by omega) ?_
  refine Le.trans (A9 [2] rfl rfl) ?_
  (try simp only [List.set_nil,List.take_nil,List.take_zero,List.map_append,go_sem])
  (try simp only [Sn])
  have e4:k*4+4=(k+1)*4:=by omega
  (try simp only [e4])
  exact WE
 have d1:decide ((k:Int)<(xs.length:Int))=false:=by simpa using hlt
 have hke:xs.take k=xs:=gE7 (by omega)
 have hkl:k=xs.length:=by omega
 rw [hke]
 (refine Wu @d1 ?_;(repeat clear hK K);repeat refine kq fun K hK=>?_)
 refine WC ?_
 (refine Wx ?_;repeat clear hK K)
 (refine Wt ?_;(repeat clear hK K);repeat refine kq fun K hK=>?_)
 (refine Ai rfl ?_;intro K1 hK1;refine Sm (id:=0) (n:=k*4) (q:=5) (sl:=false) (cells:=XY (Jw xs)) (ns:=Jw xs) Tryz.underlying148 Tryz.underlying9 Tryz.underlying5 rfl rfl (by simp only [go_sem]) rfl (by rw [CX];omega) (by rw [hkl,gE7 (by rw [Jy,CX];exact Nat.le_refl _)];rfl) ?_;simp only [go_sem];refine hK1 _ ?_;clear hK1 K1)
 (refine Wt ?_;(repeat clear hK K);repeat refine kq fun K hK=>?_)
 ((try refine Av ?_);(try simp only [Ae,AF]);refine B6 (A9 [] rfl rfl) ?_;(try simp only [List.set_nil,List.take_nil,List.take_zero,List.map_append,go_sem]);((try refine Av ?_);(try refine Aa ?_);(try simp only [Ae,AF]);refine Bj (by first | exact .inl rfl | exact .inr rfl) rfl ?_;simp only [VU,Dy,Du,DL,Tryz.results86,go_sem,true_and,and_true,Jx]))
theorem KV {P:Program} {o:Oper} {st:ST} {K:ST->Prop} {t kt e:TypeId} {id:Nat} {kv:List (Value × C)} {x:Operand} {c:Call} (hu:P.underlying t=some (.map kt e)) (hd:VJ o st.n=true) (ho:o.op=.call c) (hc1:c.callee=.builtin .len) (hc2:c.args=#[x]) (hc3:c.argTypes=#[t]) (hx:st.ev x=.a (.c (.m id))) (hm:st.hp[id]?=some (.m kv)) (hit:Pe kv=false) (h:K (st.put o.dst (.i kv.length))):Stp P o st K:=by
 refine ER hd (fun g w ρ hr hR=>?_) h
 obtain ⟨dst,op,ty,pos,af,gd⟩:=o
 simp only at ho
 subst ho
 obtain ⟨callee,args,ts⟩:=c
 simp only at hc1 hc2 hc3
 subst hc1;subst hc2;subst hc3
 obtain ⟨es,clock,m1,m2,_⟩:=(hr.mp id kv hm).map0 hit
 have e1:=hR x
 rw [hx] at e1
 obtain ⟨_,e1⟩:=e1
 refine ⟨.int .i64 kv.length,?_,rfl⟩
 simp only [execOp,resolve,invoke,builtin,Sem.run_bind,Sem.run_pure,Result.andThen_ok,List.map_toArray,List.map_cons,List.map_nil,e1]
 simp [Builtin.len_,run_underlying hu,MapKept.run_getObj_map m1,goInt,m2]
theorem Rj (M:List (Value × Value)):Pe (M.map fun p=>(p.1,C.v p.2))=false:=by
 cases M <;> rfl
theorem LO {s:Ks} {key k:Value} {c:C}:∀ (l:List (Value × C)) (i:Nat),BJ s key (l++[(k,c)]) i=match BJ s key l i with | some none=>(match BZ s key k with | some true=>some (some (i+l.length,c)) | some false=>some none | none=>none) | r=>r:=by
 intro l
 induction l with
 | nil=>
  intro i
  simp only [List.nil_append,BJ,List.length_nil,Nat.add_zero]
  cases BZ s key k with
  | none=>rfl
  | some b=>cases b <;> rfl
 | cons p r ih=>
  intro i
  obtain ⟨k1,c1⟩:=p
  simp only [List.cons_append,BJ]
  cases BZ s key k1 with
  | none=>rfl
  | some b=>
   cases b with
   | true=>rfl
   | false=>
    simp only
    rw [ih (i+1),List.length_cons,show i+1+r.length=i+(r.length+1) from by omega]
section
variable {α : Type} [DecidableEq α]
def Tu (ky:List Value) (g:Nat->α):Prop:=∀ a b,a<ky.length->b<ky.length->BZ .ks (ky.getD a (.int .i64 0)) (ky.getD b (.int .i64 0))=some (decide (g a=g b))
def XZ (ky:List Value) (g:Nat->α):Nat->List (Value × C)
 | 0=>[]
 | k+1=>match (List.range k).find? (fun t=>decide (g t=g k)) with
  | some _=>XZ ky g k
  | none=>XZ ky g k++[(ky.getD k (.int .i64 0),.v (.int .i64 (Xh g k).2))]
theorem EH {ky:List Value} {g:Nat->α} {k t:Nat} (h:(List.range k).find? (fun t=>decide (g t=g k))=some t):XZ ky g (k+1)=XZ ky g k:=by rw [XZ,h]
theorem EI {ky:List Value} {g:Nat->α} {k:Nat} (h:(List.range k).find? (fun t=>decide (g t=g k))=none):XZ ky g (k+1)=XZ ky g k++[(ky.getD k (.int .i64 0),.v (.int .i64 (Xh g k).2))]:=by rw [XZ,h]
theorem Ug (ky:List Value) (g:Nat->α) (k:Nat):(XZ ky g k).all (fun p=>p.2.pl)=true:=by
 induction k with
 | zero=>rfl
 | succ k ih=>
  cases h:(List.range k).find? (fun t=>decide (g t=g k)) with
  | some t=>rw [EH h];exact ih
  | none=>rw [EI h,List.all_append,ih];rfl
theorem NU (ky:List Value) (g:Nat->α) (k:Nat):(XZ ky g k).length=(Xh g k).2:=by
 induction k with
 | zero=>rfl
 | succ k ih=>
  cases h:(List.range k).find? (fun t=>decide (g t=g k)) with
  | some t=>rw [EH h,Do h];exact ih
  | none=>rw [EI h,Dp h,List.length_append,ih];rfl
theorem Hw (ky:List Value) (g:Nat->α) (k:Nat):∃ M:List (Value × Value),XZ ky g k=M.map fun p=>(p.1,C.v p.2):=by
 induction k with
 | zero=>exact ⟨[],rfl⟩
 | succ k ih=>
  obtain ⟨M,hM⟩:=ih
  cases h:(List.range k).find? (fun t=>decide (g t=g k)) with
  | some t=>exact ⟨M,by rw [EH h,hM]⟩
  | none=>exact ⟨M++[(ky.getD k (.int .i64 0),.int .i64 (Xh g k).2)],by rw [EI h,hM];simp⟩
theorem Qc {ky:List Value} {g:Nat->α} (h:Tu ky g) {s:Nat} (hs:s<ky.length):∀ k,k<=ky.length->(∃ t,t<k/\g t=g s/\∃ j,BJ .ks (ky.getD s (.int .i64 0)) (XZ ky g k) 0=some (some (j,.v (.int .i64 ((Xh g k).1.getD t 0)))))\/((∀ t,t<k->g t ≠ g s)/\BJ .ks (ky.getD s (.int .i64 0)) (XZ ky g k) 0=some none):=by
 intro k
 induction k with
 | zero=>intro _;exact .inr ⟨fun t ht=>by omega,rfl⟩
 | succ k ih=>
  intro hk
  have hkl:k<ky.length:=hk
  have hlen:=(Cx g k).len
  cases hf:(List.range k).find? (fun t=>decide (g t=g k)) with
  | some t0=>
   have h2:=List.find?_range_eq_some.1 hf
   have h3:t0<k:=by simpa using h2.2.1
   have h4:g t0=g k:=by simpa using h2.1
   rw [EH hf,Do hf]
   rcases ih (by omega) with ⟨t,a1,a2,j,a3⟩ | ⟨a1,a2⟩
   ·refine .inl ⟨t,by omega,a2,j,?_⟩
    rw [a3,CW (by omega)]
   refine .inr ⟨fun t ht=>?_,a2⟩
   rcases Nat.lt_or_ge t k with b | b
   ·exact a1 t b
   have:t=k:=by omega
   subst this
   rw [<- h4];exact a1 t0 h3
  | none=>
   rw [EI hf,Dp hf,LO,h s k hs hkl]
   rcases ih (by omega) with ⟨t,a1,a2,j,a3⟩ | ⟨a1,a2⟩
   ·refine .inl ⟨t,by omega,a2,j,?_⟩
    rw [a3,CW (by omega)]
   rw [a2]
   by_cases e:g s=g k
   ·refine .inl ⟨k,by omega,e.symm,0+(XZ ky g k).length,?_⟩
    rw [gEg e,DF hlen.symm]
   refine .inr ⟨fun t ht=>?_,by rw [decide_eq_false e]⟩
   rcases Nat.lt_or_ge t k with b | b
   ·exact a1 t b
   have:t=k:=by omega
   subst this
   exact Ne.symm e
theorem So {ky:List Value} {g:Nat->α} (h:Tu ky g) {s:Nat} (hs:s<ky.length):Fj .ks (ky.getD s (.int .i64 0))=true:=by
 unfold Fj
 rw [h s s hs hs]
theorem dm (L:List Int) (x:Int) {n:Nat} (h:L.length=n):(A7 L).take n++[C.v (.int .i64 x)]=A7 (L++[x]):=by
 subst h
 rw [gE7 (by rw [A5];exact Nat.le_refl _)];simp [A7]
def ZG (ky:List Value):List C:=ky.map C.v
theorem Gt (ky:List Value):(ZG ky).length=ky.length:=by simp [ZG]
theorem Sp {ky:List Value} {s:Nat} (h:s<ky.length):(ZG ky)[s]?=some (.v (ky.getD s (.int .i64 0))):=by simp [ZG,gE2,h]
theorem Fd (ky:List Value) (f:List Nat):(ZG ky).map (C.ren f)=ZG ky:=by simp [ZG,C.ren,Function.comp_def]
theorem Jz (ky:List Value) (s:Nat) (v:Value):(ZG ky).set s (.v v)=ZG (ky.set s v):=by simp [ZG,List.map_set]
set_option maxHeartbeats 2000000 in
theorem cA (ky:List Value) (g:Nat->α) (h:Tu ky g) (hn:ky.length<=1000000):FC Tryz.prog 84 [.a (.c (.s 0 ky.length))] [.r ⟨9,1,true,ZG ky⟩] (fun r o=>r=.tup [.c (.s 1 ky.length),.c (.v (.int .i64 (Xh g ky.length).2))]/\o=[.r ⟨9,1,true,ZG ky⟩,AA (Xh g ky.length).1]):=by
 refine A6 Tryz.func84 rfl (by rw [Tryz.ntmps84];simp) ?_
 rw [Tryz.ntmps84]
 simp only [Bf]
 (refine Wt ?_;(repeat clear hK K);repeat refine kq fun K hK=>?_)
 refine Au (CT 5 3 1 ?_) ?_
 ·simp only [go_sem]
 refine A8 (fun k:Nat=>{ tm:=[(4,.a (.c (.m 1))),(5,.a (.c (.s 2 k))),(11,.a (.c (.s 0 ky.length))),(12,.i ky.length),(13,.i k)],hp:=[.r ⟨9,1,true,ZG ky⟩,.m (XZ ky g k),.r ⟨3,1,true,A7 (Xh g k).1⟩],n:=39,pin:=1 }) (fun k=>k<=ky.length) (fun k=>ky.length - k) 0 ?_ ?_ ?_
 ·omega
 ·exact WE
 rintro k hk K hK
 by_cases hlt:k<ky.length
 rotate_left
 ·have d1:decide ((k:Int)<(ky.length:Int))=false:=by simpa using hlt
  have hke:k=ky.length:=by omega
  have hkl:=NU ky g k
  have hitk:Pe (XZ ky g k)=false:=by obtain ⟨M,hM⟩:=Hw ky g k;rw [hM];exact Rj M
  rw [<- hke]
  rw [<- hke] at d1
  (refine Wu @d1 ?_;(repeat clear hK K);repeat refine kq fun K hK=>?_)
  refine WC ?_
  (refine Wx ?_;repeat clear hK K)
  (refine Wt ?_;(repeat clear hK K);repeat refine kq fun K hK=>?_)
  (refine Ai rfl ?_;intro K1 hK1;refine KV (id:=1) (kv:=XZ ky g k) Tryz.underlying128 rfl rfl rfl rfl rfl (by simp only [go_sem]) rfl hitk ?_;simp only [go_sem,hkl];refine hK1 _ ?_;clear hK1 K1)
  (refine Wt ?_;(repeat clear hK K);repeat refine kq fun K hK=>?_)
  ((try refine Av ?_);(try simp only [Ae,AF]);refine B6 (A9 [0,2] rfl rfl) ?_;(try simp only [List.set_nil,List.take_nil,List.take_zero,List.map_append,go_sem]);((try refine Av ?_);(try refine Aa ?_);(try simp only [Ae,AF]);refine Bj (by first | exact .inl rfl | exact .inr rfl) rfl ?_;simp only [VU,Dy,Du,DL,Tryz.results84,go_sem,true_and,and_true,Af,Fd,AA]))
  rw [hke];exact ⟨rfl,rfl⟩
 have d1:decide ((k:Int)<(ky.length:Int))=true:=by simpa using hlt
 have gk:=Sp hlt
 have hft:=So h hlt
 have hcl:=(Cx g k).cnt
 have hpl:=Ug ky g k
 have hpl2:=Ug ky g (k+1)
 have hkl:=NU ky g k
 have hnl:=(Cx g k).len
 have hfd:=Qc h hlt k hk
 have hfd2:=Qc h hlt (k+1) hlt
 have hnq:=(Cx g (k+1)).eq
 (refine Wu (an @Gt @d1) ?_;(repeat clear hK K);repeat refine kq fun K hK=>?_)
 refine WB ?_
 cases hf:(List.range k).find? (fun t=>decide (g t=g k)) with
 | some t0=>
  have h2:=List.find?_range_eq_some.1 hf
  have h3:t0<k:=by simpa using h2.2.1
  have h4:g t0=g k:=by simpa using h2.1
  have hkv:XZ ky g (k+1)=XZ ky g k:=EH hf
  have hng:=Do hf
  obtain ⟨t,a1,a2,j,a3⟩:∃ t,t<k/\g t=g k/\∃ j,BJ .ks (ky.getD k (.int .i64 0)) (XZ ky g k) 0=some (some (j,.v (.int .i64 ((Xh g k).1.getD t 0)))):=by
   rcases hfd with h | ⟨a1,_⟩
   ·exact h
   exact absurd h4 (a1 t0 h3)
  have he:(Xh g k).1.getD t 0=(Xh g k).1.getD t0 0:=((Cx g k).eq t t0 a1 h3).2 (a2.trans h4.symm)
  rw [he] at a3
  have cs:=dm (Xh g k).1 ((Xh g k).1.getD t0 0) hnl
  obtain ⟨M,hM⟩:=Hw ky g k
  generalize XZ ky g k=kv at *
  subst hM
  generalize Xh g k=p at *
  generalize ky.getD k (.int .i64 0)=kk at *
  (refine Wu (an @Gt @gk) ?_;(repeat clear hK K);repeat refine kq fun K hK=>?_)
  (refine Ai rfl ?_;intro K1 hK1;refine Ci (id:=1) (kv:=M.map fun p=>(p.1,C.v p.2)) (zv:=.int .i64 0) Tryz.underlying128 (J9 Tryz.underlying9) rfl rfl rfl (by simp only [go_sem]) rfl hpl (by simp only [go_sem,EP]) hft a3 ?_;simp only [go_sem,XX];refine hK1 _ ?_;clear hK1 K1)
  (refine Wu @Bool.not_true ?_;(repeat clear hK K);repeat refine kq fun K hK=>?_)
  refine WC ?_
  (refine Wt ?_;(repeat clear hK K);repeat refine kq fun K hK=>?_)
  (refine Ai rfl ?_;intro K1 hK1;refine Ci (id:=1) (kv:=M.map fun p=>(p.1,C.v p.2)) (zv:=.int .i64 0) Tryz.underlying128 (J9 Tryz.underlying9) rfl rfl rfl (by simp only [go_sem]) rfl hpl (by simp only [go_sem,EP]) hft a3 ?_;simp only [go_sem,XX];refine hK1 _ ?_;clear hK1 K1)
  (refine Wu (an @cs (an @A5 @hnl)) ?_;(repeat clear hK K);repeat refine kq fun K hK=>?_)
  refine WD ?_
  refine hK _ (k+1) (by omega) (by omega) ?_
  refine Le.trans (A9 [0,1,4] rfl rfl) ?_
  (try simp only [List.set_nil,List.take_nil,List.take_zero,List.map_append,go_sem])
  (try simp only [Af,Fd,List.map_map,Function.comp_def,List.map_append,List.map_cons,List.map_nil])
  rw [hkv,hng]
  exact WE
 | none=>
  have hno:=List.find?_range_eq_none.1 hf
  have hkv:=EI (ky:=ky) hf
  have hng:=Dp hf
  have a2:BJ .ks (ky.getD k (.int .i64 0)) (XZ ky g k) 0=some none:=by
   rcases hfd with ⟨t,a1,a2,_⟩ | ⟨_,a2⟩
   ·exact absurd a2 (by simpa using hno t a1)
   exact a2
  obtain ⟨j,a3⟩:∃ j,BJ .ks (ky.getD k (.int .i64 0)) (XZ ky g (k+1)) 0=some (some (j,.v (.int .i64 (Xh g k).2))):=by
   rcases hfd2 with ⟨t,a1,a2,j,a3⟩ | ⟨a1,_⟩
   rotate_left
   ·exact absurd rfl (a1 k (by omega))
   refine ⟨j,?_⟩
   rw [a3,(hnq t k a1 (by omega)).2 a2,hng,DF hnl.symm]
  have cs:=dm (Xh g k).1 (Xh g k).2 hnl
  rw [hkv] at a3 hpl2
  obtain ⟨M,hM⟩:=Hw ky g k
  generalize XZ ky g k=kv at *
  subst hM
  generalize Xh g k=p at *
  generalize ky.getD k (.int .i64 0)=kk at *
  (refine Wu (an @Gt @gk) ?_;(repeat clear hK K);repeat refine kq fun K hK=>?_)
  (refine Ai rfl ?_;intro K1 hK1;refine Ci (id:=1) (kv:=M.map fun p=>(p.1,C.v p.2)) (zv:=.int .i64 0) Tryz.underlying128 (J9 Tryz.underlying9) rfl rfl rfl (by simp only [go_sem]) rfl hpl (by simp only [go_sem,EP]) hft a2 ?_;simp only [go_sem,XX];refine hK1 _ ?_;clear hK1 K1)
  (refine Wu @Bool.not_false ?_;(repeat clear hK K);repeat refine kq fun K hK=>?_)
  refine WB ?_
  (refine Wt ?_;(repeat clear hK K);repeat refine kq fun K hK=>?_)
  (refine Ai rfl ?_;intro K1 hK1;refine KV (id:=1) (kv:=M.map fun p=>(p.1,C.v p.2)) Tryz.underlying128 rfl rfl rfl rfl rfl (by simp only [go_sem]) rfl (Rj _) ?_;simp only [go_sem,hkl];refine hK1 _ ?_;clear hK1 K1)
  (refine Wt ?_;(repeat clear hK K);repeat refine kq fun K hK=>?_)
  (refine Ai rfl ?_;intro K1 hK1;refine GY (id:=1) (kv:=M.map fun p=>(p.1,C.v p.2)) (c:=.v (.int .i64 p.2)) Tryz.underlying128 (J9 Tryz.underlying9) rfl rfl (by simp only [go_sem]) rfl hpl (by simp only [go_sem,EP]) hft (by simp only [go_sem]) rfl a2 ?_;simp only [go_sem];refine hK1 _ ?_;clear hK1 K1)
  (refine Wt ?_;(repeat clear hK K);repeat refine kq fun K hK=>?_)
  (refine Ai rfl ?_;intro K1 hK1;refine Ci (id:=1) (kv:=(M.map fun p=>(p.1,C.v p.2))++[(kk,.v (.int .i64 p.2))]) (zv:=.int .i64 0) Tryz.underlying128 (J9 Tryz.underlying9) rfl rfl rfl (by simp only [go_sem]) rfl hpl2 (by simp only [go_sem,EP]) hft a3 ?_;simp only [go_sem,XX];refine hK1 _ ?_;clear hK1 K1)
  (refine Wu (an @cs (an @A5 @hnl)) ?_;(repeat clear hK K);repeat refine kq fun K hK=>?_)
  refine WD ?_
  refine hK _ (k+1) (by omega) (by omega) ?_
  refine Le.trans (A9 [0,1,4] rfl rfl) ?_
  (try simp only [List.set_nil,List.take_nil,List.take_zero,List.map_append,go_sem])
  (try simp only [Af,Fd,List.map_map,Function.comp_def,List.map_append,List.map_cons,List.map_nil])
  rw [hkv,hng]
  exact WE
end
def UX (L:List Int):Prop:=∀ x∈L,0<=x/\x<2147483648
theorem Sq {x y:List Int} (hx:UX x) (hy:UX y):BZ .ks (Jx x) (Jx y)=some (decide (x=y)):=by
 show some _=some _
 congr 1
 rw [Bool.eq_iff_iff,decide_eq_true_iff,MapKept.bytes_beq]
 exact ⟨fun h=>Qb hx hy (by unfold Jx;rw [h]),fun h=>by rw [h]⟩
def bS (l:List Ar):List Int:=l.flatMap fun a=>[a.1,a.2]
theorem ap:∀ {x y:List Ar},bS x=bS y->x=y
 | [],[],_=>rfl
 | [],b :: y,h=>by simp [bS] at h
 | a :: x,[],h=>by simp [bS] at h
 | a :: x,b :: y,h=>by
  have h1:bS (a :: x)=a.1 :: a.2 :: bS x:=rfl
  have h2:bS (b :: y)=b.1 :: b.2 :: bS y:=rfl
  rw [h1,h2] at h
  injection h with h3 h4
  injection h4 with h5 h6
  rw [ap h6]
  congr 1
  rcases a with ⟨p,q⟩;rcases b with ⟨r,s⟩
  simp only at h3 h5
  rw [h3,h5]
theorem aZ (l:List Ar):(bS l).length=l.length*2:=by
 induction l with
 | nil=>rfl
 | cons a r ih=>
  have h1:bS (a :: r)=a.1 :: a.2 :: bS r:=rfl
  rw [h1];simp [ih];omega
theorem aM (l:List Ar) (a:Ar):bS (l++[a])=bS l++[a.1,a.2]:=by simp [bS]
def dp (O:List (List Ar)) (D nw:List Int) (s:Nat):List Int:=nw.getD s 0 :: bS (O.getD (XG D s) [])
def dq (O:List (List Ar)) (D nw:List Int) (n:Nat):List Value:=(List.range n).map fun s=>Jx (dp O D nw s)
theorem cB (O:List (List Ar)) (D nw:List Int) (n:Nat):(dq O D nw n).length=n:=by simp [dq]
theorem co {O:List (List Ar)} {D nw:List Int} {n s:Nat} (h:s<n):(dq O D nw n)[s]?=some (Jx (dp O D nw s)):=by simp [dq,h]
theorem d8 {X:List (List Ar)} {cl:List Int} (hv:Bv X=true) (hc:Nrm X.length cl) (hn:X.length<=100):∀ x∈XW cl X,(0<=x.1/\x.1<2147483648)/\0<=x.2/\x.2<2147483648:=by
 intro x hx
 have hlo:BE X=true:=gEg (gE4 hv).1
 have hrng:=hc.rng
 have hg:∀ i,i<X.length->0<=cl.getD i 0/\cl.getD i 0<2147483648:=fun i hi=>by
  have hl:=hc.len
  rw [gE2,gE1 (by omega),Option.getD_some]
  have:=hrng _ (gE6 (show i<cl.length by omega))
  omega
 obtain ⟨s,hs,h⟩:=List.mem_flatMap.1 hx
 have hs:s<X.length:=by simpa using hs
 rcases List.mem_cons.1 h with rfl | h
 ·exact ⟨by simp,hg s hs⟩
 obtain ⟨a,ha,e⟩:=List.mem_filterMap.1 h
 have hgd:X.getD s []=X[s]:=by rw [gE2,gE1 hs];rfl
 rw [hgd] at ha
 have hb:=(gE4 hlo).2.2.2 _ (gE6 hs) a ha
 unfold XN at e
 split at e
 rotate_left
 ·cases e
 cases e
 exact ⟨by simp only;omega,hg _ (by omega)⟩
theorem cQ {X:List (List Ar)} {D cl:List Int} {Q:List Nat} {O:List (List Ar)} {i:Nat} {f:Nat->Nat} (hv:Bv X=true) (hc:Nrm X.length cl) (hn:X.length<=100) (hP:P3 f cl X Q i O) {s:Nat} (hs:s<X.length):UX (dp O D cl s):=by
 intro x hx
 rcases List.mem_cons.1 hx with rfl | hx
 ·have hl:=hc.len
  rw [gE2,gE1 (by omega),Option.getD_some]
  have:=hc.rng _ (gE6 (show s<cl.length by omega))
  omega
 obtain ⟨a,ha,h⟩:=List.mem_flatMap.1 hx
 have hb:=d8 hv hc hn _ (hP.sub _ _ ha)
 simp only [List.mem_cons,List.not_mem_nil,or_false] at h
 rcases h with rfl | rfl
 ·exact hb.1
 exact hb.2
theorem d9 {X:List (List Ar)} {D cl:List Int} {Q:List Nat} {O:List (List Ar)} (hv:Bv X=true) (h:CpOk X D) (hQ:Hr (Xy (XG D) X X.length) X.length (XG D) Q) (hc:Nrm X.length cl) (hn:X.length<=100) (hP:P3 (XG D) cl X Q Q.length O):Tu (dq O D cl X.length) (Xj (Tt X) cl):=by
 intro a b ha hb
 rw [cB] at ha hb
 rw [gE2,co ha,gE2,co hb,Option.getD_some,Option.getD_some,Sq (cQ hv hc hn hP ha) (cQ hv hc hn hP hb)]
 congr 1
 rw [decide_eq_decide]
 unfold dp Xj
 rw [P3.done hv h hQ hP ha,P3.done hv h hQ hP hb]
 constructor
 rotate_left
 ·intro e
  injection e with e1 e2
  rw [e1,e2]
 intro e
 injection e with e1 e2
 rw [e1,ap e2]
def Y3 (kd ke:Value) (B:List Bool) (n k:Nat):List Value:=(List.range n).map fun s=>if s<k/\B.getD s false=true then kd else ke
theorem Hx (kd ke:Value) (B:List Bool) (n k:Nat):(Y3 kd ke B n k).length=n:=by simp [Y3]
theorem Qd (kd ke:Value) (B:List Bool) (n:Nat):Y3 kd ke B n 0=List.replicate n ke:=by
 refine List.ext_getElem (by simp [Y3]) fun i h1 h2=>?_
 simp [Y3]
theorem Qe {kd ke:Value} {B:List Bool} {n k:Nat} (h:B.getD k false=true):(Y3 kd ke B n k).set k kd=Y3 kd ke B n (k+1):=by
 refine List.ext_getElem (by simp [Y3]) fun i h1 h2=>?_
 rw [List.getElem_set]
 simp only [Y3,List.getElem_map,List.getElem_range]
 by_cases e:k=i
 ·subst e;rw [if_pos rfl,if_pos ⟨by omega,h⟩]
 rw [if_neg e]
 by_cases hb:B.getD i false=true
 rotate_left
 ·rw [if_neg (fun h=>hb h.2),if_neg (fun h=>hb h.2)]
 by_cases hk:i<k
 ·rw [if_pos ⟨hk,hb⟩,if_pos ⟨by omega,hb⟩]
 rw [if_neg (fun h=>hk h.1),if_neg (fun h=>by have:=h.1;omega)]
theorem NV {kd ke:Value} {B:List Bool} {n k:Nat} (h:B.getD k false=false):Y3 kd ke B n (k+1)=Y3 kd ke B n k:=by
 refine List.map_congr_left fun i _=>?_
 by_cases hb:B.getD i false=true
 rotate_left
 ·rw [if_neg (fun h=>hb h.2),if_neg (fun h=>hb h.2)]
 by_cases e:i=k
 ·subst e;rw [h] at hb;cases hb
 by_cases hk:i<k
 ·rw [if_pos ⟨by omega,hb⟩,if_pos ⟨hk,hb⟩]
 rw [if_neg (fun h=>by have:=h.1;omega),if_neg (fun h=>hk h.1)]
theorem Uh {kd ke:Value} (h1:BZ .ks kd kd=some true) (h2:BZ .ks ke ke=some true) (h3:BZ .ks kd ke=some false) (h4:BZ .ks ke kd=some false) (B:List Bool) (n:Nat):Tu (Y3 kd ke B n n) (fun s=>B.getD s false):=by
 intro a b ha hb
 rw [Hx] at ha hb
 have g:∀ s,s<n->(Y3 kd ke B n n).getD s (.int .i64 0)=if B.getD s false=true then kd else ke:=fun s hs=>by
  rw [gE2,gE1 (by rw [Hx];exact hs),Option.getD_some]
  simp only [Y3,List.getElem_map,List.getElem_range,hs,true_and]
 rw [g a ha,g b hb]
 show _=some (decide (B.getD a false=B.getD b false))
 cases B.getD a false <;> cases B.getD b false <;> simp [h1,h2,h3,h4]
theorem a6 (l:List Ar):∀ p,(p :: DC p l).getLast?=(p :: l).getLast?:=by
 induction l with
 | nil=>intro p;rfl
 | cons y ys ih=>
  intro p
  unfold DC
  split
  rotate_left
  ·rw [List.getLast?_cons_cons,ih,List.getLast?_cons_cons]
  rename_i h;subst h
  rw [ih,List.getLast?_cons_cons]
theorem ak (l:List Ar):(PD l).getLast?=l.getLast?:=by
 cases l with
 | nil=>rfl
 | cons x xs=>exact a6 xs x
theorem a7 (l:List Ar) (m:Ar):∀ p,p :: DC p (l++[m])=if (p :: l).getLast?=some m then p :: DC p l else (p :: DC p l)++[m]:=by
 induction l with
 | nil=>
  intro p
  simp only [List.nil_append,DC,List.getLast?_singleton,Option.some.injEq]
  by_cases h:m=p
  ·rw [if_pos h,if_pos h.symm]
  rw [if_neg h,if_neg (Ne.symm h)];rfl
 | cons y ys ih=>
  intro p
  rw [List.cons_append,List.getLast?_cons_cons]
  unfold DC
  by_cases h:y=p
  rotate_left
  ·rw [if_neg h,if_neg h,ih y]
   split <;> rfl
  subst h
  rw [if_pos rfl,if_pos rfl]
  exact ih y
theorem ZS (l:List Ar) (m:Ar):PD (l++[m])=if l.getLast?=some m then PD l else PD l++[m]:=by
 cases l with
 | nil=>rfl
 | cons x xs=>exact a7 xs m x
structure DdI (L X:List Ar) (k n:Nat):Prop where
 kl:k<=L.length
 nk:n<=k
 lx:X.length=L.length
 hd:X.take n=PD (L.take k)
 tl:X.drop k=L.drop k
theorem DdI.start (L:List Ar):DdI L L 0 0:=⟨Nat.zero_le _,Nat.le_refl _,rfl,by simp [PD],rfl⟩
theorem DdI.at {L X:List Ar} {k n:Nat} (h:DdI L X k n) (hk:k<L.length):X[k]?=some L[k]:=by
 have:=congrArg (·[0]?) h.tl
 simp only [List.getElem?_drop,Nat.add_zero] at this
 rw [this,gE1 hk]
theorem DdI.n1 {L X:List Ar} {k n:Nat} (h:DdI L X k n) (hk:0<k):0<n/\X[n - 1]?=(L.take k).getLast?:=by
 have hl:n=(PD (L.take k)).length:=by
  have:=congrArg List.length h.hd
  rw [List.length_take,h.lx] at this
  have:=h.nk
  have:=h.kl
  omega
 have hne:L.take k ≠ []:=fun e=>by
  have h1:=congrArg List.length e
  rw [List.length_take] at h1
  have h2:=h.kl
  simp only [List.length_nil] at h1
  omega
 have hn:0<n:=by
  cases e:L.take k with
  | nil=>exact absurd e hne
  | cons x xs=>rw [hl,e];simp [PD]
 refine ⟨hn,?_⟩
 rw [<- ak,<- h.hd,List.getLast?_eq_getElem?,List.length_take,List.getElem?_take,h.lx]
 have:=h.nk
 have:=h.kl
 rw [Nat.min_eq_left (by omega),if_pos (by omega)]
theorem DdI.push {L X:List Ar} {k n:Nat} (h:DdI L X k n) (hk:k<L.length) (hne:(L.take k).getLast? ≠ some L[k]):DdI L (X.set n L[k]) (k+1) (n+1):=by
 have h1:=h.nk
 have h2:=h.lx
 refine ⟨hk,by omega,by rw [List.length_set];exact h2,?_,?_⟩
 ·rw [gE8 (show n<(X.set n L[k]).length by rw [List.length_set];omega),List.getElem_set_self,List.take_set_of_le (Nat.le_refl _),h.hd,gE8 hk,ZS,if_neg hne]
 rw [List.drop_set_of_lt (by omega)]
 have:=congrArg (List.drop 1) h.tl
 rw [List.drop_drop,List.drop_drop] at this
 exact this
theorem DdI.skip {L X:List Ar} {k n:Nat} (h:DdI L X k n) (hk:k<L.length) (he:(L.take k).getLast?=some L[k]):DdI L X (k+1) n:=by
 refine ⟨hk,by have:=h.nk;omega,h.lx,?_,?_⟩
 ·rw [h.hd,gE8 hk,ZS,if_pos he]
 have:=congrArg (List.drop 1) h.tl
 rw [List.drop_drop,List.drop_drop] at this
 exact this
theorem aq {L:List Ar} {k:Nat} (h0:0<k) (hk:k<=L.length):(L.take k).getLast?=some L[k - 1]:=by
 rw [List.getLast?_eq_getElem?,List.length_take,List.getElem?_take,Nat.min_eq_left hk,if_pos (by omega),gE1]
def bT (R:List (List Ar)) (c:List Int) (s:Nat):List Int:=c.getD s 0 :: bS (Xi R c s)
def bU (R:List (List Ar)) (c:List Int) (n:Nat):List Value:=(List.range n).map fun s=>Jx (bT R c s)
theorem ar (R:List (List Ar)) (c:List Int) (n:Nat):(bU R c n).length=n:=by simp [bU]
theorem a8 {R:List (List Ar)} {c:List Int} {n s:Nat} (h:s<n):(bU R c n).getD s (.int .i64 0)=Jx (bT R c s):=by simp [bU,h,gE2]
theorem aT {R:List (List Ar)} {c:List Int} (hv:Bv R=true) (hN:Nrm R.length c) {s:Nat} (hs:s<R.length):UX (bT R c s):=by
 have hlo:BE R=true:=gEg (gE4 hv).1
 have hR16:R.length<=16384:=(gE4 hlo).2.1
 have hg:∀ i,i<R.length->0<=c.getD i 0/\c.getD i 0<2147483648:=fun i hi=>by
  have hl:=hN.len
  rw [gE2,gE1 (by omega),Option.getD_some]
  have:=hN.rng _ (gE6 (show i<c.length by omega))
  omega
 intro x hx
 rcases List.mem_cons.1 hx with rfl | hx
 ·exact hg s hs
 obtain ⟨a,ha,h⟩:=List.mem_flatMap.1 hx
 obtain ⟨b,hb,rfl⟩:=DG.1 ha
 rw [gE2,gE1 hs] at hb
 have hbd:=(gE4 hlo).2.2.2 _ (gE6 hs) b hb
 simp only [List.mem_cons,List.not_mem_nil,or_false] at h
 rcases h with rfl | rfl
 ·omega
 exact hg _ (by omega)
theorem bq {R:List (List Ar)} {c:List Int} (hv:Bv R=true) (hN:Nrm R.length c):Tu (bU R c R.length) (Xj R c):=by
 intro a b ha hb
 rw [ar] at ha hb
 rw [a8 ha,a8 hb,Sq (aT hv hN ha) (aT hv hN hb)]
 congr 1
 rw [decide_eq_decide]
 unfold bT Xj
 constructor
 rotate_left
 ·intro e
  injection e with e1 e2
  rw [e1,e2]
 intro e
 injection e with e1 e2
 rw [e1,ap e2]
end Go.Proofs.YtjijjfkalheokaaGreatDoor
namespace Go.Proofs.YtjijjfkalheokaaGreatDoor
set_option linter.unusedVariables false
set_option linter.unusedSimpArgs false
open Go.RowKit
set_option maxRecDepth 100000
theorem au (a b:Ar):FC Tryz.prog 139 [.a (.g [.v (.int .i64 a.1),.v (.int .i64 a.2)]),.a (.g [.v (.int .i64 b.1),.v (.int .i64 b.2)])] [] (fun r o=>o=[]/\r=.i (Gc a b)):=by
 refine A6 Tryz.func139 rfl (by rw [Tryz.ntmps139];simp) ?_
 rw [Tryz.ntmps139]
 simp only [Bf]
 (refine Wu (an @List.set_cons_zero.{0} @List.set_cons_succ.{0}) ?_;(repeat clear hK K);repeat refine kq fun K hK=>?_)
 (refine Bz [] [(0,0,0),(2,0,0),(5,0,0),(7,0,0),(1,1,4),(3,1,4),(6,1,9),(8,1,9),(4,2,0),(9,2,0),(10,2,0),(11,2,0),(12,2,0)] (by kernel_rfl) (by kernel_rfl) (by intro c st h;simp [Ae,AF,VT] at h) ?_)
 (refine Wr ?_;repeat clear hK K)
 (refine Wf rfl rfl ?_;intro K1 hK1;refine AZ ?_;refine xv [] (K6 a.1 b.1) ?_ ?_)
 ·rintro _ _ ⟨rfl,rfl⟩ i o hi hl;simp at hl
 rintro _ _ ⟨rfl,rfl⟩
 (refine Wz ?_;clear hK1 K1)
 (refine Wr ?_;repeat clear hK K)
 (refine Wf rfl rfl ?_;intro K1 hK1;refine AZ ?_;refine xv [] (K6 a.2 b.2) ?_ ?_)
 ·rintro _ _ ⟨rfl,rfl⟩ i o hi hl;simp at hl
 rintro _ _ ⟨rfl,rfl⟩
 (refine Wz ?_;clear hK1 K1)
 (refine Wr ?_;repeat clear hK K)
 (refine Wg rfl rfl rfl ?_;intro K1 hK1;refine AP rfl ?_;simp only [go_sem,List.set_cons_zero,List.set_cons_succ];(first | refine hK1 _ ?_ | refine AD (hK1 _ ?_));clear hK1 K1)
 (refine Vg (Bg (r:=⟨3,1,true,A7 [Fv a.1 b.1,Fv a.2 b.2]⟩) 2 (Ab [Fv a.1 b.1,Fv a.2 b.2]) rfl (EM _) (show 0<(1:Nat) by omega)) ?_;simp only [ST.frz,A0.frz,AV.frz,C.frz,Nat.le_refl,List.set_cons_zero,List.set_cons_succ,go_sem,A4,Az,List.length_cons,List.length_nil,List.take_succ_cons,List.take_zero])
 (refine Wr ?_;repeat clear hK K)
 (refine Wf rfl rfl ?_;intro K1 hK1;refine AZ ?_;refine BW (ids:=[]) [] (K8 [Fv a.1 b.1,Fv a.2 b.2] (by simp)) rfl rfl (by simp only [go_sem]) (by kernel_rfl) rfl rfl rfl (by (simp only [List.map_append,List.append_nil,go_sem]) <;> rfl) (by (simp only [VS,As,go_sem]) <;> rfl) ?_ ?_)
 ·rintro _ _ ⟨rfl,rfl⟩ i o hi hl;simp at hl
 rintro _ _ ⟨rfl,rfl⟩
 (refine Wz ?_;clear hK1 K1)
 (refine Wg rfl rfl rfl ?_;intro K1 hK1;refine AP rfl ?_;simp only [go_sem];(first | refine hK1 _ ?_ | refine AD (hK1 _ ?_));clear hK1 K1)
 (refine Wr ?_;repeat clear hK K)
 refine WF [] Tryz.results139 ?_
 rw [MQ]
theorem b7 (a b:Ar):FC Tryz.prog 138 [.a (.g [.v (.int .i64 a.1),.v (.int .i64 a.2)]),.a (.g [.v (.int .i64 b.1),.v (.int .i64 b.2)])] [] (fun r o=>o=[]/\r=.i (Gc a b)):=by
 refine A6 Tryz.func138 rfl (by rw [Tryz.ntmps138];simp) ?_
 rw [Tryz.ntmps138]
 simp only [Bf]
 (refine Wu (an @List.set_cons_zero.{0} @List.set_cons_succ.{0}) ?_;(repeat clear hK K);repeat refine kq fun K hK=>?_)
 (refine Bz [] [(0,0,0),(2,0,0),(5,0,0),(7,0,0),(1,1,4),(3,1,4),(6,1,9),(8,1,9),(4,2,0),(9,2,0),(10,2,0),(11,2,0),(12,2,0)] (by kernel_rfl) (by kernel_rfl) (by intro c st h;simp [Ae,AF,VT] at h) ?_)
 (refine Wr ?_;repeat clear hK K)
 (refine Wf rfl rfl ?_;intro K1 hK1;refine AZ ?_;refine xv [] (K6 a.1 b.1) ?_ ?_)
 ·rintro _ _ ⟨rfl,rfl⟩ i o hi hl;simp at hl
 rintro _ _ ⟨rfl,rfl⟩
 (refine Wz ?_;clear hK1 K1)
 (refine Wr ?_;repeat clear hK K)
 (refine Wf rfl rfl ?_;intro K1 hK1;refine AZ ?_;refine xv [] (K6 a.2 b.2) ?_ ?_)
 ·rintro _ _ ⟨rfl,rfl⟩ i o hi hl;simp at hl
 rintro _ _ ⟨rfl,rfl⟩
 (refine Wz ?_;clear hK1 K1)
 (refine Wr ?_;repeat clear hK K)
 (refine Wg rfl rfl rfl ?_;intro K1 hK1;refine AP rfl ?_;simp only [go_sem,List.set_cons_zero,List.set_cons_succ];(first | refine hK1 _ ?_ | refine AD (hK1 _ ?_));clear hK1 K1)
 (refine Vg (Bg (r:=⟨3,1,true,A7 [Fv a.1 b.1,Fv a.2 b.2]⟩) 2 (Ab [Fv a.1 b.1,Fv a.2 b.2]) rfl (EM _) (show 0<(1:Nat) by omega)) ?_;simp only [ST.frz,A0.frz,AV.frz,C.frz,Nat.le_refl,List.set_cons_zero,List.set_cons_succ,go_sem,A4,Az,List.length_cons,List.length_nil,List.take_succ_cons,List.take_zero])
 (refine Wr ?_;repeat clear hK K)
 (refine Wf rfl rfl ?_;intro K1 hK1;refine AZ ?_;refine BW (ids:=[]) [] (K8 [Fv a.1 b.1,Fv a.2 b.2] (by simp)) rfl rfl (by simp only [go_sem]) (by kernel_rfl) rfl rfl rfl (by (simp only [List.map_append,List.append_nil,go_sem]) <;> rfl) (by (simp only [VS,As,go_sem]) <;> rfl) ?_ ?_)
 ·rintro _ _ ⟨rfl,rfl⟩ i o hi hl;simp at hl
 rintro _ _ ⟨rfl,rfl⟩
 (refine Wz ?_;clear hK1 K1)
 (refine Wg rfl rfl rfl ?_;intro K1 hK1;refine AP rfl ?_;simp only [go_sem];(first | refine hK1 _ ?_ | refine AD (hK1 _ ?_));clear hK1 K1)
 (refine Wr ?_;repeat clear hK K)
 refine WF [] Tryz.results138 ?_
 rw [MQ]
theorem cT (a b:Ar):FC Tryz.prog 116 [.a (.g [.v (.int .i64 a.1),.v (.int .i64 a.2)]),.a (.g [.v (.int .i64 b.1),.v (.int .i64 b.2)])] [] (fun r o=>o=[]/\r=.i (Gc a b)):=by
 refine A6 Tryz.func116 rfl (by rw [Tryz.ntmps116];simp) ?_
 rw [Tryz.ntmps116]
 simp only [Bf]
 (refine Wu (an @List.set_cons_zero.{0} @List.set_cons_succ.{0}) ?_;(repeat clear hK K);repeat refine kq fun K hK=>?_)
 (refine Bz [] [(0,0,0),(2,0,0),(5,0,0),(7,0,0),(1,1,4),(3,1,4),(6,1,9),(8,1,9),(4,2,0),(9,2,0),(10,2,0),(11,2,0),(12,2,0)] (by kernel_rfl) (by kernel_rfl) (by intro c st h;simp [Ae,AF,VT] at h) ?_)
 (refine Wr ?_;repeat clear hK K)
 (refine Wf rfl rfl ?_;intro K1 hK1;refine AZ ?_;refine xv [] (K6 a.1 b.1) ?_ ?_)
 ·rintro _ _ ⟨rfl,rfl⟩ i o hi hl;simp at hl
 rintro _ _ ⟨rfl,rfl⟩
 (refine Wz ?_;clear hK1 K1)
 (refine Wr ?_;repeat clear hK K)
 (refine Wf rfl rfl ?_;intro K1 hK1;refine AZ ?_;refine xv [] (K6 a.2 b.2) ?_ ?_)
 ·rintro _ _ ⟨rfl,rfl⟩ i o hi hl;simp at hl
 rintro _ _ ⟨rfl,rfl⟩
 (refine Wz ?_;clear hK1 K1)
 (refine Wr ?_;repeat clear hK K)
 (refine Wg rfl rfl rfl ?_;intro K1 hK1;refine AP rfl ?_;simp only [go_sem,List.set_cons_zero,List.set_cons_succ];(first | refine hK1 _ ?_ | refine AD (hK1 _ ?_));clear hK1 K1)
 (refine Vg (Bg (r:=⟨3,1,true,A7 [Fv a.1 b.1,Fv a.2 b.2]⟩) 2 (Ab [Fv a.1 b.1,Fv a.2 b.2]) rfl (EM _) (show 0<(1:Nat) by omega)) ?_;simp only [ST.frz,A0.frz,AV.frz,C.frz,Nat.le_refl,List.set_cons_zero,List.set_cons_succ,go_sem,A4,Az,List.length_cons,List.length_nil,List.take_succ_cons,List.take_zero])
 (refine Wr ?_;repeat clear hK K)
 (refine Wf rfl rfl ?_;intro K1 hK1;refine AZ ?_;refine BW (ids:=[]) [] (K8 [Fv a.1 b.1,Fv a.2 b.2] (by simp)) rfl rfl (by simp only [go_sem]) (by kernel_rfl) rfl rfl rfl (by (simp only [List.map_append,List.append_nil,go_sem]) <;> rfl) (by (simp only [VS,As,go_sem]) <;> rfl) ?_ ?_)
 ·rintro _ _ ⟨rfl,rfl⟩ i o hi hl;simp at hl
 rintro _ _ ⟨rfl,rfl⟩
 (refine Wz ?_;clear hK1 K1)
 (refine Wg rfl rfl rfl ?_;intro K1 hK1;refine AP rfl ?_;simp only [go_sem];(first | refine hK1 _ ?_ | refine AD (hK1 _ ?_));clear hK1 K1)
 (refine Wr ?_;repeat clear hK K)
 refine WF [] Tryz.results116 ?_
 rw [MQ]
open Go.RowKit Go.Shelf Go.Sort
set_option maxHeartbeats 1000000 in
theorem aN (f : FuncId) (hf : Bh Tryz.prog f = true) (hcmp : ∀ a b : Ar, FC Tryz.prog f [.a (.g [.v (.int .i64 a.1), .v (.int .i64 a.2)]), .a (.g [.v (.int .i64 b.1), .v (.int .i64 b.2)])] [] (fun r o => o = [] /\ r = .i (Gc a b))) (L : List Ar) (hsz : L.length <= 100000000) :
  FC Tryz.prog 137 [.a (.c (.s 0 L.length)), .a (.c (.f f []))] [.r ⟨169, 2, true, Ax L⟩]
   (fun r o => r = .u /\ ∃ L' : List Ar, L'.Perm L /\ L'.Pairwise (fun a b => WK b a = false) /\ o = [.r ⟨169, 2, true, Ax L'⟩]) := by
 intro g w vals hr hargs
 obtain ⟨hlen, hargs⟩ := hargs
 obtain ⟨v1, e1, b1, b2, A, rfl, b4, b5⟩ := hargs 0 _ rfl
 obtain ⟨v2, e2, c1, c2⟩ := hargs 1 _ rfl
 have hv2 : v2 = .func (.func f) #[] #[] := by rw [c2]; simp [Vz]
 subst hv2
 have hvals : vals = [.slice A L.length (g.κ 0), .func (.func f) #[] #[]] := by
  match vals, hlen with
  | [a, b], _ => simp at e1 e2; simp [e1, e2]
 subst hvals
 rcases hr.row 0 _ rfl with ⟨h0, hnil⟩ | ⟨h0, hne, arr, ha, hle, hs, hmx, hcells⟩
 ·have hL0 : L = [] := by
   have : (Ax L).length = 0 := by have h : Ax L = [] := hnil; rw [h]; rfl
   rw [Ap] at this
   exact List.length_eq_zero_iff.1 (by omega)
  subst hL0
  refine (AnyF.slices_SortFunc_none Tryz.sortMarks A (g.κ 0) (.func (.func f) #[] #[]) w).mono ?_
  rintro e' w' ⟨rfl, rfl⟩
  exact ⟨.tuple #[], .u, _, g, rfl, ⟨rfl, [], List.Perm.refl _, List.Pairwise.nil, rfl⟩, hr, ⟨Nat.le_refl _, Ext.refl _ _⟩, fun ℓ hl => .inl ⟨ℓ, hl, rfl⟩, trivial, Fp.refl _ _⟩
 have hL0 : L ≠ [] := fun e => by subst e; exact hne rfl rfl
 have x0 : 0 < L.length := List.length_pos_iff.2 hL0
 rw [b4 h0] at *
 have hblk : g.γ (.ob 0) < w.heap.size := (Array.getElem?_eq_some_iff.1 ha).1
 have hle' : L.length * 2 <= arr.size := by simpa [Ap] using hle
 have hfl := Dc X2 2 (fun _ => rfl) L
 have hget : ∀ j, j < L.length * 2 -> arr[j]? = (L.flatMap X2)[j]? := by
  intro j hj
  obtain ⟨v, hv⟩ : ∃ v, (L.flatMap X2)[j]? = some v := ⟨_, gE1 (by rw [hfl]; exact hj)⟩
  obtain ⟨u, u1, u2⟩ := hcells j (.v v) (by rw [Gm, List.getElem?_map, hv]; rfl)
  have hu : u = v := u2
  rw [u1, hv, hu]
 have hlays : CmpLays Tryz.prog f #[] X2 2 Gc (g.γ (.ob 0)) 0 L.toArray.size w := by
  intro m os dk _ x y
  have hoth : ∀ k, k < w.heap.size -> ¬ Ow [.r ⟨169, 2, true, Ax L⟩] g k -> (sortWorldK X2 2 w (g.γ (.ob 0)) 0 m dk os).heap[k]? = w.heap[k]? := by
   intro k hk hn
   have hn2 : k ≠ g.γ (.ob 0) := fun e => hn (.inr ⟨.ob 0, X3.2 ⟨rfl, h0⟩, e.symm⟩)
   unfold sortWorldK putRowK putRow mapBlock Sort.grow Sort.ahead
   simp only
   rw [Array.getElem?_append_left (by simpa using hk), Array.getElem?_modify, if_neg (Ne.symm hn2)]
  generalize hW : sortWorldK X2 2 w (g.γ (.ob 0)) 0 m dk os = W at hoth
  have hsz' : w.heap.size <= W.heap.size := by rw [<- hW]; simp [sortWorldK, putRowK, putRow, mapBlock, Sort.grow, Sort.ahead]
  have hHR : HR ⟨g.γ, g.κ, fun _ => False⟩ [] W := ⟨fun b hb => hb.elim, fun ℓ hl => absurd hl (UF _ ℓ), fun ℓ _ hl => absurd hl (UF _ ℓ), fun id r h => by simp at h, fun id r h => by simp at h, hr.gl.keep hsz' hoth (fun k _ hk => hk.elim (fun h => h.elim) (fun ⟨ℓ, hl, _⟩ => absurd hl (UF _ ℓ)))⟩
  have hA : GA ⟨g.γ, g.κ, fun _ => False⟩ [] W [.a (.g [.v (.int .i64 x.1), .v (.int .i64 x.2)]), .a (.g [.v (.int .i64 y.1), .v (.int .i64 y.2)])] [.agg #[.int .i64 x.1, .int .i64 x.2], .agg #[.int .i64 y.1, .int .i64 y.2]] := by
   refine ⟨rfl, fun i a hi => ?_⟩
   have ag : ∀ z : Ar, A0R (CR ⟨g.γ, g.κ, fun _ => False⟩ [] W) (.g [.v (.int .i64 z.1), .v (.int .i64 z.2)]) (.agg #[.int .i64 z.1, .int .i64 z.2]) := fun z => ⟨[.int .i64 z.1, .int .i64 z.2], rfl, rfl, fun q c hq => by
    match q, hq with
    | 0, hq => simp at hq; subst hq; exact ⟨_, rfl, rfl⟩
    | 1, hq => simp at hq; subst hq; exact ⟨_, rfl, rfl⟩
    | q + 2, hq => simp at hq⟩
   match i, hi with
   | 0, hi => cases hi; exact ⟨_, rfl, ag x⟩
   | 1, hi => cases hi; exact ⟨_, rfl, ag y⟩
   | i + 2, hi => simp at hi
  refine Calls.mono (hcmp x y _ _ _ hHR hA) ?_
  rintro e' w' ⟨v, r, outs, g', rfl, ⟨rfl, rfl⟩, _, _, _, hv, hfp⟩
  exact ⟨by rw [show v = _ from hv], Iu (hfp.mono fun k _ ⟨ℓ, hl, _⟩ => absurd hl (UF _ ℓ))⟩
 have hH : HoldsK X2 2 w (g.γ (.ob 0)) 0 L.toArray := by
  unfold HoldsK Holds
  rw [Nf]
  intro j hj
  simp only [List.size_toArray, hfl] at hj
  constructor
  rotate_left
  ·simp [World.frozen?, ha]
  rw [Nat.zero_add, cell_of_row w _ j arr _ (0, 0) ha, hget j hj, getElem!_pos _ j (by simpa [hfl] using hj)]
  simp [hfl, hj]
 have eg : ∀ args w, (callFunc f args).run Tryz.prog w = .ok (.enter f args) w := fun args w => BP hf args w
 have hcon := AnyQ.slices_SortFunc_total Tryz.sortMarks 2 Tryz.isAgg169 Tryz.sizeOf169 X2 (fun _ => rfl) (fun x v hv => by simp [X2] at hv; rcases hv with rfl | rfl <;> rfl) Gc Vu f #[] (g.γ (.ob 0)) 0 (g.κ 0) L.toArray w eg hlays hH hblk (by simp; omega)
  (fun x y h1 h2 => by
   rw [show ltOf Gc x y = WK x y from Ce x y] at h1
   rw [show ltOf Gc y x = WK y x from Ce y x] at h2
   rcases Hh x y with h | h | h
   ·rw [h] at h1; cases h1
   ·exact h
   ·rw [h] at h2; cases h2)
 change Calls Tryz.prog 137 _ _ _ at hcon
 have hsz2 : L.toArray.size = L.length := by simp
 rw [hsz2] at hcon
 refine hcon.mono ?_
 rintro e' w' ⟨rfl, m, os, rfl⟩
 have hSl : (Fx L).length = L.length := List.length_mergeSort _
 have hfl' := Dc X2 2 (fun _ => rfl) (Fx L)
 have hself : (sortWorldK X2 2 w (g.γ (.ob 0)) 0 m (Fx L).toArray os).heap[g.γ (.ob 0)]? = some (.cells (putCells id 0 ((Fx L).flatMap X2).toArray arr) 169 (0, 0)) := by
  unfold sortWorldK putRowK putRow mapBlock Sort.grow Sort.ahead
  rw [Nf]
  simp only
  rw [Array.getElem?_append_left (by simpa using hblk), Array.getElem?_modify, if_pos rfl, ha]
  rfl
 have hsize : w.heap.size <= (sortWorldK X2 2 w (g.γ (.ob 0)) 0 m (Fx L).toArray os).heap.size := by simp [sortWorldK, putRowK, putRow, mapBlock, Sort.grow, Sort.ahead]
 have hother : ∀ k, k < w.heap.size -> k ≠ g.γ (.ob 0) -> (sortWorldK X2 2 w (g.γ (.ob 0)) 0 m (Fx L).toArray os).heap[k]? = w.heap[k]? := by
  intro k hk hn
  unfold sortWorldK putRowK putRow mapBlock Sort.grow Sort.ahead
  simp only
  rw [Array.getElem?_append_left (by simpa using hk), Array.getElem?_modify, if_neg (Ne.symm hn)]
 have hfp : Fp (FX [.r ⟨169, 2, true, Ax L⟩] g) w (sortWorldK X2 2 w (g.γ (.ob 0)) 0 m (Fx L).toArray os) :=
  ⟨rfl, rfl, rfl, hsize, fun k hk hm => hother k hk fun e => hm ⟨.ob 0, X3.2 ⟨rfl, h0⟩, e.symm⟩, by simp [sortWorldK, putRowK, putRow, mapBlock, Sort.grow, Sort.ahead]⟩
 refine ⟨.tuple #[], .u, _, g, rfl, ⟨rfl, Fx L, LK L, PK L, rfl⟩, ?_, ⟨by simp, Ext.refl _ _⟩, fun ℓ hl => .inl ⟨ℓ, X3.2 (X3.1 hl), rfl⟩, trivial, hfp⟩
 refine ⟨fun b hb => Nat.lt_of_lt_of_le (hr.ml b hb) hsize, fun ℓ hl => hr.md ℓ (X3.2 (X3.1 hl)), fun ℓ ℓ' hl hl' => hr.inj ℓ ℓ' (X3.2 (X3.1 hl)) (X3.2 (X3.1 hl')), fun id r hid => ?_, fun id r hid => ?_, hr.gl.keep hsize (fun k hk hn => hother k hk (fun e => hn (.inr ⟨.ob 0, X3.2 ⟨rfl, h0⟩, e.symm⟩))) (fun k _ hk => hk.imp (fun h => h) (fun ⟨ℓ, hl, e⟩ => ⟨ℓ, X3.2 (X3.1 hl), e⟩))⟩
 rotate_left
 ·cases id with
  | zero => simp at hid
  | succ i => simp at hid
 cases id with
 | succ i => simp at hid
 | zero =>
  simp at hid
  subst hid
  refine .inr ⟨h0, fun _ hn => ?_, _, hself, ?_, ?_, hmx, fun j c hj => ?_⟩
  ·have : (Ax (Fx L)).length = 0 := by simp only at hn; rw [hn]; rfl
   rw [Ap, hSl] at this; omega
  ·simp only [Ap, hSl, putCells, Array.size_mapIdx]; exact hle'
  ·simpa [putCells] using hs
  rw [Gm, List.getElem?_map, Option.map_eq_some_iff] at hj
  obtain ⟨v, hv, rfl⟩ := hj
  have hjl : j < L.length * 2 := by have := (List.getElem?_eq_some_iff.1 hv).1; rw [hfl', hSl] at this; exact this
  refine ⟨v, ?_, rfl⟩
  have hj2 : j < ((Fx L).flatMap X2).length := by rw [hfl', hSl]; exact hjl
  have hjc : j < arr.size := by omega
  simp only [putCells, Array.getElem?_mapIdx, Nat.zero_le, true_and, Nat.zero_add, List.size_toArray, hj2, if_true, Nat.sub_zero]
  rw [gEd hjc]
  rw [gE1 hj2] at hv
  have hv2 := Option.some.inj hv
  rw [<- hv2]
  simp
  rw [gE1 hj2]; rfl
theorem bL:UM Tryz.prog 169 2:=TS Tryz.underlying169 (by kernel_rfl) (by kernel_rfl) (by decide) (by decide) rfl rfl (by kernel_rfl) (by kernel_rfl)
theorem b8 (x y:Operand) (a b:Ar):FR Tryz.prog .neq 169 x y [.int .i64 a.1,.int .i64 a.2] [.int .i64 b.1,.int .i64 b.2] (!decide (a=b))=True:=by
 rw [<- Dm]
 refine eq_true ?_
 have:=(bL x y [.v (.int .i64 a.1),.v (.int .i64 a.2)] [.v (.int .i64 b.1),.v (.int .i64 b.2)] _ _ rfl rfl rfl rfl).2
 simpa [VD] using this
def Yh:Value:=.string { data:=#[100,105,118,101,114,103,101,110,116] }
def Yi:Value:=.string { data:=#[] }
theorem Uq (ky:List Value) (f:Nat->Nat):(ZG ky).map (C.up f)=ZG ky:=by simp [ZG,C.up,Function.comp_def]
def dt (nk ky:List Value) (k:Nat):List Value:=nk.take k++ky.drop k
theorem cU {nk ky:List Value} (h:nk.length=ky.length) {k:Nat} (hk:k<=nk.length):(dt nk ky k).length=nk.length:=by unfold dt;rw [List.length_append,List.length_take,List.length_drop];omega
theorem cV {nk ky:List Value} (h:nk.length=ky.length) {k:Nat} {v:Value} (hv:nk[k]?=some v):(dt nk ky k).set k v=dt nk ky (k+1):=by
 have hk:=(List.getElem?_eq_some_iff.1 hv).1
 have hv2:=(List.getElem?_eq_some_iff.1 hv).2
 unfold dt
 rw [List.set_append_right _ _ (by rw [List.length_take];omega),List.length_take,show k - min k nk.length=0 from by omega,List.drop_eq_getElem_cons (by omega:k<ky.length),List.set_cons_zero,gE8 hk,hv2,List.append_assoc]
 rfl
theorem SO {a b c:ST} (h:Le a b) (k:Le b c):Le a c:=h.trans k
theorem bV (L:List Int) (x y:Int):(A7 L).take L.length++[C.v (.int .i64 x),C.v (.int .i64 y)]=A7 (L++[x,y]):=by
 rw [gE7 (by rw [A5];exact Nat.le_refl _)];simp [A7]
attribute [local go_sem] lga C.pl C.one
def bW (c:List Int) (r:List Ar):List Ar:=r.map fun a=>(a.1,c.getD a.2.toNat 0)
theorem aa (c:List Int) (r:List Ar):(bW c r).length=r.length:=by simp [bW]
theorem br (o:List Ar) (e t:Int) {n:Nat} (h:o.length=n):(Ax o).take (n*2)++[C.v (.int .i64 e),C.v (.int .i64 t)]=Ax (o++[(e,t)]):=by
 subst h
 rw [gE7 (by rw [Ap];exact Nat.le_refl _),BF]
theorem ZV (f:List Nat) (L:List Ar):(Ax L).map (C.ren f)=Ax L:=by
 rw [Gm,List.map_map]
 simp [C.ren,Function.comp_def]
theorem bM (f:Nat->Nat) (L:List Ar):(Ax L).map (C.up f)=Ax L:=by
 rw [Gm,List.map_map]
 simp [C.up,Function.comp_def]
set_option maxHeartbeats 4000000 in
theorem bt (r:List Ar) (c:List Int) (hr:r.length<=1000000) (hb:∀ a∈r,0<=a.2/\a.2<(c.length:Int)):FC Tryz.prog 112 [BK r,As c] [] (fun v o=>o=[]/\v=BK (Cq (bW c r))):=by
 refine A6 Tryz.func112 rfl (by rw [Tryz.ntmps112];simp) ?_
 rw [Tryz.ntmps112]
 simp only [Bf,BK,As]
 (refine Wu (an @A2 @Ak) ?_;(repeat clear hK K);repeat refine kq fun K hK=>?_)
 refine Au (CT 5 169 2 ?_) ?_
 ·simp only [go_sem]
 refine A8 (fun k:Nat=>{ tm:=[(1,.a (.c (.t 1 (Ab c)))),(5,.a (.c (.s 0 k))),(11,.a (.c (.t 2 (Ao r)))),(12,.i r.length),(13,.i k)],hp:=[.r ⟨169,2,true,Ax (bW c (r.take k))⟩],n:=59,pin:=0 }) (fun k=>k<=r.length) (fun k=>r.length - k) 0 ?_ ?_ ?_
 ·omega
 ·simp only [List.take_zero,bW,List.map_nil,Ax,List.flatMap_nil]
  exact WE
 rintro k hk K hK
 by_cases hlt:k<r.length
 ·have d1:decide ((k:Int)<(r.length:Int))=true:=by simpa using hlt
  have hat:=AL hlt
  have hbk:=hb _ (gE6 hlt)
  have hnx:bW c (r.take (k+1))=bW c (r.take k)++[(r[k].1,c.getD r[k].2.toNat 0)]:=by
   unfold bW
   rw [gE8 hlt,List.map_append];rfl
  have hol:(bW c (r.take k)).length=k:=by rw [aa,List.length_take];omega
  generalize bW c (r.take k)=o at *
  generalize r[k]=a at *
  obtain ⟨e,t⟩:=a
  simp only at hat hbk hnx
  obtain ⟨tn,rfl⟩:∃ tn:Nat,t=(tn:Int):=⟨t.toNat,by omega⟩
  rw [Int.toNat_natCast] at hnx
  have gT:=Am (show c[tn]?=some (c.getD tn 0) from by rw [gE2,gE1 (by omega)];rfl)
  have ca:=br o e (c.getD tn 0) hol
  generalize c.getD tn 0=x at *
  (refine Wu @d1 ?_;(repeat clear hK K);repeat refine kq fun K hK=>?_)
  refine WB ?_
  (refine Cn (an @hat (an @A2 @Ak)) ?_;(repeat clear hK K);repeat refine kq fun K hK=>?_)
  (refine Ac 9 [(0,0),(1,0),(2,1),(3,0),(4,0),(5,1),(6,0),(7,1),(8,0),(9,2),(10,2),(11,0)] (by kernel_rfl) (by kernel_rfl) (by intro c st h;simp [Ae,AF,VT] at h) ?_)
  (refine Wq (an @A4 (an @gT (an @Ap (an @hol (an @ca @Ak))))) ?_;repeat clear hK K)
  (refine Wt ?_;(repeat clear hK K);repeat refine kq fun K hK=>?_)
  refine WD ?_
  refine hK _ (k+1) (by omega) (by omega) ?_
  refine Le.trans (A9 [3] rfl rfl) ?_
  (try simp only [List.set_nil,List.take_nil,List.take_zero,List.map_append,go_sem])
  (try simp only [ZV])
  rw [hnx]
  exact WE
 have d1:decide ((k:Int)<(r.length:Int))=false:=by simpa using hlt
 have hke:k=r.length:=by omega
 rw [hke] at d1
 rw [hke,List.take_length]
 have hol:=aa c r
 obtain ⟨L,hL⟩:∃ L,bW c r=L:=⟨_,rfl⟩
 rw [hL] at hol ⊢
 rw [<- hol] at d1 ⊢
 (refine Wu @d1 ?_;(repeat clear hK K);repeat refine kq fun K hK=>?_)
 refine WC ?_
 (refine Wx ?_;repeat clear hK K)
 (refine Wt ?_;(repeat clear hK K);repeat refine kq fun K hK=>?_)
 (refine Ai rfl ?_;intro K1 hK1;refine AH (ids:=[]) [0] (aN 138 (by kernel_rfl) b7 L (by omega)) rfl rfl (by simp only [go_sem]) (by first | assumption | kernel_rfl) rfl rfl (by (simp only [List.map_append,List.append_nil,go_sem]) <;> rfl) (by (simp only [VS,ZV,go_sem]) <;> rfl) ?_ ?_)
 ·rintro _ _ ⟨rfl,L',_,_,rfl⟩;rfl
 rintro _ _ ⟨rfl,L',hperm,hsort,rfl⟩
 (simp only [As,Bl,bM,List.append_nil,List.nil_append,List.length_map,go_sem];refine hK1 _ ?_;clear hK1 K1)
 have hq:PD L'=Cq (bW c r):=by rw [hL];exact N1 hperm hsort
 have hL2:=hperm.length_eq
 have hLl:L'.length<=1000000:=by omega
 rw [<- hL2]
 clear hL2 hL hperm hsort hol d1 hke hlt hk
 (refine Wt ?_;(repeat clear hK K);repeat refine kq fun K hK=>?_)
 refine A8 (fun p:Nat × Nat × List Ar=>{ tm:=[(5,.a (.c (.s 0 L'.length))),(8,.i p.2.1),(31,.a (.c (.s 0 L'.length))),(32,.i L'.length),(33,.i p.1)],hp:=[.r ⟨169,2,true,Ax p.2.2⟩],n:=59,pin:=0 }) (fun p=>DdI L' p.2.2 p.1 p.2.1) (fun p=>L'.length - p.1) (0,0,L') ?_ ?_ ?_
 ·exact DdI.start L'
 ·exact WE
 rintro ⟨k,n,X⟩ hI K hK
 simp only at hI ⊢
 have hXl:=hI.lx
 by_cases hlt:k<L'.length
 rotate_left
 ·have d1:decide ((k:Int)<(L'.length:Int))=false:=by simpa using hlt
  have hke:k=L'.length:=by have:=hI.kl;omega
  have hhd:=hI.hd
  rw [hke,List.take_length,hq] at hhd
  have hnk:=hI.nk
  (refine Wu @d1 ?_;(repeat clear hK K);repeat refine kq fun K hK=>?_)
  refine WC ?_
  (refine Wx ?_;repeat clear hK K)
  (refine Wt ?_;(repeat clear hK K);repeat refine kq fun K hK=>?_)
  have hfo2:(if n*2<=(Ao X).length then C.t 2 ((Ao X).take (n*2)) else C.u)=C.t 2 (Ao (Cq (bW c r))):=by
   rw [if_pos (by rw [A2];omega),BA,hhd]
  (refine Au (Bg (r:=⟨169,2,true,Ax X⟩) 0 (Ao X) rfl (Dl _) (show 0<(2:Nat) by omega)) ?_;simp only [ST.frz,A0.frz,AV.frz,C.frz,Nat.le_refl,List.set_cons_zero,List.set_cons_succ,go_sem,hfo2])
  (refine Wt ?_;(repeat clear hK K);repeat refine kq fun K hK=>?_)
  exact Lq [] Tryz.results112
 have d1:decide ((k:Int)<(L'.length:Int))=true:=by simpa using hlt
 have hXk:=hI.at hlt
 have hkX:k<X.length:=by omega
 have hxe:X[k]=L'[k]:=by rw [gE1 hkX] at hXk;exact Option.some.inj hXk
 have hat:=DR hkX
 have hnk:=hI.nk
 have hst:=hI.push hlt
 have hsk:=hI.skip hlt
 rw [hxe] at hat
 (refine Wu @d1 ?_;(repeat clear hK K);repeat refine kq fun K hK=>?_)
 refine WB ?_
 (refine Cn (an @hat (an @Ap (an @hXl @Ak))) ?_;(repeat clear hK K);repeat refine kq fun K hK=>?_)
 by_cases h0:k=0
 ·have hb0:((k:Int) == 0)=true:=by simpa using h0
  have hpu:=hst (by rw [show L'.take k=[] from by rw [h0];rfl];simp)
  have hnX:n<X.length:=by omega
  have hcs:=fun a b=>Nb (a:=a) (b:=b) hnX
  generalize L'[k]=m at *
  obtain ⟨e,t⟩:=m
  simp only at hat
  (refine Bz [] [(0,0,0),(1,0,0),(2,0,0),(4,0,0),(5,0,0),(6,0,0),(7,0,0),(3,1,10),(8,1,10),(9,0,0),(10,2,0)] (by kernel_rfl) (by kernel_rfl) (by intro c st h;simp [Ae,AF,VT] at h) ?_)
  (refine Ws @hb0 ?_;repeat clear hK K)
  (refine Wg rfl rfl rfl ?_;intro K1 hK1;refine AP rfl ?_;simp only [go_sem];(first | refine hK1 _ ?_ | refine AD (hK1 _ ?_));clear hK1 K1)
  (refine Wr ?_;repeat clear hK K)
  refine WB ?_
  (refine Cn (an @Ap (an @hXl (an @Ak @hcs))) ?_;(repeat clear hK K);repeat refine kq fun K hK=>?_)
  refine WD ?_
  refine hK _ (k+1,n+1,X.set n (e,t)) hpu (by simp only;omega) ?_
  refine Le.trans (A9 [0] rfl rfl) ?_
  (try simp only [List.set_nil,List.take_nil,List.take_zero,List.map_append,go_sem])
  (try simp only [ZV])
  exact WE
 have hb0:((k:Int) == 0)=false:=by simpa using h0
 have hl1:=aq (L:=L') (k:=k) (by omega) (by omega)
 obtain ⟨hn0,hn1⟩:=hI.n1 (by omega)
 rw [hl1] at hn1 hst hsk
 have hn1X:n - 1<X.length:=by omega
 have hat1:=DR hn1X
 rw [gE1 hn1X] at hn1
 rw [Option.some.inj hn1] at hat1
 have en:(n:Int) - 1=((n - 1:Nat):Int):=by omega
 have hnX:n<X.length:=by omega
 have hcs:=fun a b=>Nb (a:=a) (b:=b) hnX
 generalize L'[k]=m at *
 generalize L'[k - 1]=m1 at *
 obtain ⟨e,t⟩:=m
 obtain ⟨e1,t1⟩:=m1
 simp only at hat hat1
 have hne:=fun x y=>b8 x y (e,t) (e1,t1)
 have hab:=Dm (a:=(e,t)) (b:=(e1,t1))
 simp only at hne hab
 (refine Ac 10 [(0,0),(1,0),(2,0),(3,1),(4,0),(5,0),(6,0),(7,0),(8,1),(9,0),(10,2)] (by kernel_rfl) (by kernel_rfl) (by intro c st h;simp [Ae,AF,VT] at h) ?_)
 (refine Wq (an @hb0 (an @en (an @Ap (an @hXl (an @Ak (an @hat (an @hat1 (an @hne (an @hab @true_and))))))))) ?_;repeat clear hK K)
 (refine At ?_;intro X Y hX hY;simp only [go_sem])
 refine ⟨fun h=>hX ?_,fun h=>hY ?_⟩
 rotate_left
 ·clear hX hY X Y
  have hpu:=hsk (by
   have h2:(e,t)=(e1,t1):=by simpa using h
   rw [h2])
  (refine Wt ?_;(repeat clear hK K);repeat refine kq fun K hK=>?_)
  refine WD ?_
  refine hK _ (k+1,n,X) hpu (by simp only;omega) ?_
  refine Le.trans (A9 [0] rfl rfl) ?_
  (try simp only [List.set_nil,List.take_nil,List.take_zero,List.map_append,go_sem])
  (try simp only [ZV])
  exact WE
 clear hX hY X Y
 have hpu:=hst (fun q=>by
  have q2:=Option.some.inj q
  rw [q2] at h
  simp at h)
 (refine Cn (an @Ap (an @hXl (an @Ak @hcs))) ?_;(repeat clear hK K);repeat refine kq fun K hK=>?_)
 refine WD ?_
 refine hK _ (k+1,n+1,X.set n (e,t)) hpu (by simp only;omega) ?_
 refine Le.trans (A9 [0] rfl rfl) ?_
 (try simp only [List.set_nil,List.take_nil,List.take_zero,List.map_append,go_sem])
 (try simp only [ZV])
 exact WE
set_option maxHeartbeats 2000000 in
theorem bu (x:Int) (row:List Ar) (hn:row.length<=1000000):FC Tryz.prog 111 [.i x,BK row] [] (fun v o=>o=[]/\v=.a (.c (.v (Jx (x :: bS row))))):=by
 refine A6 Tryz.func111 rfl (by rw [Tryz.ntmps111];simp) ?_
 rw [Tryz.ntmps111]
 simp only [Bf,BK]
 (refine Wu (an @A2 @Ak) ?_;(repeat clear hK K);repeat refine kq fun K hK=>?_)
 refine A8 (fun m:Nat=>{ tm:=[(5,.a (.c (.s 0 (x :: bS (row.take m)).length))),(10,.a (.c (.t 2 (Ao row)))),(11,.i row.length),(12,.i m)],hp:=[.r ⟨3,1,true,A7 (x :: bS (row.take m))⟩],n:=26,pin:=0 }) (fun m=>m<=row.length) (fun m=>row.length - m) 0 ?_ ?_ ?_
 ·omega
 ·simp only [List.take_zero,bS,List.flatMap_nil,A7,List.map_cons,List.map_nil,List.length_cons,List.length_nil]
  exact WE
 rintro m hm K hK
 have hfl:(x :: bS (row.take m)).length<=3000000:=by rw [List.length_cons,aZ,List.length_take];omega
 by_cases hlm:m<row.length
 ·have d3:decide ((m:Int)<(row.length:Int))=true:=by simpa using hlm
  have hat:=AL hlm
  have hfs:=aM (row.take m) row[m]
  rw [<- gE8 hlm] at hfs
  have hnx:x :: bS (row.take (m+1))=(x :: bS (row.take m))++[row[m].1,row[m].2]:=by rw [hfs];rfl
  have hnl2:(bS (row.take (m+1))).length+1=(x :: bS (row.take m)).length+2:=by rw [hfs];simp
  generalize x :: bS (row.take m)=L at *
  have c2:=bV L row[m].1 row[m].2
  generalize row[m]=a at *
  obtain ⟨e,t⟩:=a
  simp only at hat c2 hnx
  (refine Wu @d3 ?_;(repeat clear hK K);repeat refine kq fun K hK=>?_)
  refine WB ?_
  (refine Cn (an @hat (an @A2 (an @Ak (an @A5 @c2)))) ?_;(repeat clear hK K);repeat refine kq fun K hK=>?_)
  refine WD ?_
  refine hK _ (m+1) (by omega) (by omega) ?_
  refine Le.trans (A9 [3] rfl rfl) ?_
  (try simp only [List.set_nil,List.take_nil,List.take_zero,List.map_append,go_sem])
  (try simp only [Af])
  rw [hnx]
  simp only [List.length_append,List.length_cons,List.length_nil,hnl2]
  exact WE
 have d3:decide ((m:Int)<(row.length:Int))=false:=by simpa using hlm
 have hmr:row.take m=row:=gE7 (by omega)
 rw [hmr] at hfl ⊢
 obtain ⟨L,hL⟩:∃ L,x :: bS row=L:=⟨_,rfl⟩
 rw [hL] at hfl ⊢
 (refine Wu @d3 ?_;(repeat clear hK K);repeat refine kq fun K hK=>?_)
 refine WC ?_
 (refine Wx ?_;repeat clear hK K)
 have hfo2:(if L.length<=(Ab L).length then C.t 1 ((Ab L).take L.length) else C.u)=C.t 1 (Ab L):=by rw [if_pos (by rw [A4];exact Nat.le_refl _),gE7 (by rw [A4];exact Nat.le_refl _)]
 (refine Au (Bg (r:=⟨3,1,true,A7 L⟩) 0 (Ab L) rfl (EM _) (show 0<(1:Nat) by omega)) ?_;simp only [ST.frz,A0.frz,AV.frz,C.frz,Nat.le_refl,List.set_cons_zero,List.set_cons_succ,go_sem,hfo2])
 (refine Wt ?_;(repeat clear hK K);repeat refine kq fun K hK=>?_)
 (refine Wy (Uf L (by omega)) ?_;intro K1 hK1)
 rintro _ _ ⟨rfl,rfl⟩
 obtain ⟨sb,hsb⟩:∃ b,Jx L=Value.string b:=⟨_,rfl⟩
 rw [hsb]
 (refine Wz ?_;clear hK1 K1)
 (refine Wt ?_;(repeat clear hK K);repeat refine kq fun K hK=>?_)
 refine WF [] Tryz.results111 ?_
 rw [hL,hsb]
theorem DlC.uniq {R:List (List Ar)} {c d:List Int} (h1:DlC R c) (h2:DlC R d):c=d:=by
 obtain ⟨B,b1,b2⟩:=h1
 obtain ⟨B',b3,b4⟩:=h2
 have e:=b1.uniq b3
 subst e
 exact b2.uniq b4
theorem Q6 {X:List (List Ar)}:∀ r∈X,r.length<=Bw X:=fun r hr=>by
 obtain ⟨j,hj,rfl⟩:=List.getElem_of_mem hr
 have h:=PH X j
 rw [gE2,gE1 hj,Option.getD_some] at h
 exact h
theorem ID {B:Nat}:∀ {X:List (List Ar)},(∀ r∈X,r.length<=B)->Bw X<=X.length*B
 | [],_=>by simp [Bw]
 | x :: r,h=>by
  have h1:=h x (by simp)
  have h2:=ID (X:=r) fun q hq=>h q (gEf _ hq)
  simp only [Bw,List.map_cons,List.sum_cons,List.length_cons,Nat.succ_mul] at h2 ⊢
  omega
theorem Rg {k m:Nat} {R:List (List Ar)} (h:OkSys k m R) (hm:m=R.length) (h1:1<=R.length) (hn:R.length<=20) (hk:k<=10):Bv R=true/\Bw R<=200/\∀ r∈R,r.length<=10:=by
 subst hm
 have hr:∀ r∈R,r.length<=10:=fun r hr=>Nat.le_trans (h.2 r hr).2.1 hk
 have ht:=ID hr
 exact ⟨gEg ⟨⟨h1,by show R.length<=16384;omega,by show Bw R<=262144;omega,fun r hr=>(h.2 r hr).2.2⟩,fun r hr=>(h.2 r hr).1⟩,by omega,hr⟩
theorem Zm {A R:List (List Ar)} {B:Nat} (h1:∀ r∈A,r.length<=B) (h2:∀ r∈R,r.length<=B):∀ r∈Eo A R,r.length<=B:=fun r hr=>by
 unfold Eo XF at hr
 rcases List.mem_append.1 hr with h | h
 ·exact h1 r h
 ·obtain ⟨q,hq,rfl⟩:=List.mem_map.1 h
  rw [CO]
  exact h2 q hq
def bX (g:Nat->Int × List Ar) (n k:Nat):List Int:=(Xh g k).1++List.replicate (n - k) 0
theorem av {g:Nat->Int × List Ar} {n k:Nat} (h:k<=n):(bX g n k).length=n:=by
 unfold bX
 rw [List.length_append,(Cx g k).len,List.length_replicate];omega
theorem aw {g:Nat->Int × List Ar} {n k:Nat} {v:Int} (h:k<n) (hv:(Xh g (k+1)).1=(Xh g k).1++[v]):(bX g n k).set k v=bX g n (k+1):=by
 unfold bX
 have hl:=(Cx g k).len
 rw [List.set_append_right _ _ (by omega),hl,Nat.sub_self,show n - k=(n - (k+1))+1 by omega,List.replicate_succ,List.set_cons_zero,hv,List.append_assoc]
 rfl
theorem b9 (g:Nat->Int × List Ar) (n:Nat):bX g n n=(Xh g n).1:=by simp [bX]
set_option maxHeartbeats 8000000 in
theorem bv (R:List (List Ar)) (c:List Int) (hv:Bv R=true) (hN:Nrm R.length c) (hr:∀ r∈R,r.length<=1000000):FC Tryz.prog 79 [B7 R,As c] [] (fun r o=>o=[]/\r=As (Xk R c)):=by
 refine A6 Tryz.func79 rfl (by rw [Tryz.ntmps79];simp) ?_
 rw [Tryz.ntmps79]
 have hlo:BE R=true:=gEg (gE4 hv).1
 have hR16:R.length<=16384:=(gE4 hlo).2.1
 have hbd:=(gE4 hlo).2.2.2
 have hcl:=hN.len
 have hko:=bq hv hN
 have hkg:=fun s (h:s<R.length)=>a8 (R:=R) (c:=c) h
 have hkyl:=ar R c R.length
 have hend:Xk R c=bX (Xj R c) R.length R.length:=by rw [b9];rfl
 have himg:∀ s,Xi R c s=Cq (bW c (R.getD s [])):=fun s=>rfl
 have e0:List.replicate R.length (C.v (.int .i64 0))=A7 (bX (Xj R c) R.length 0):=by simp [A7,bX,Xh]
 simp only [Bf,B7,As]
 rw [hend]
 generalize Xj R c=g at *
 generalize hky:bU R c R.length=ky at *
 (refine Wu (an @A4 @hcl) ?_;(repeat clear hK K);repeat refine kq fun K hK=>?_)
 rw [e0]
 refine A8 (fun k:Nat=>{ tm:=[(1,.a (.c (.t 1 (Ab c)))),(2,.a (.c (.p 0 0))),(5,.a (.c (.m 1))),(6,.a (.c (.s 2 R.length))),(16,.i R.length),(17,.i k)],hp:=[.r ⟨25,1,false,[.t 1 (Ah R)]⟩,.m (XZ ky g k),.r ⟨3,1,true,A7 (bX g R.length k)⟩],n:=51,pin:=0 }) (fun k=>k<=R.length) (fun k=>R.length - k) 0 ?_ ?_ ?_
 ·omega
 ·exact WE
 rintro k hk K hK
 by_cases hlt:k<R.length
 rotate_left
 ·have d1:decide ((k:Int)<(R.length:Int))=false:=by simpa using hlt
  have hke:k=R.length:=by omega
  have hxl:=av (g:=g) (n:=R.length) (k:=R.length) (Nat.le_refl _)
  rw [hke] at d1
  rw [hke]
  (refine Wu @d1 ?_;(repeat clear hK K);repeat refine kq fun K hK=>?_)
  refine WC ?_
  (refine Wx ?_;repeat clear hK K)
  have hfo:(if R.length<=(Ab (bX g R.length R.length)).length then C.t 1 ((Ab (bX g R.length R.length)).take R.length) else C.u)=C.t 1 (Ab (bX g R.length R.length)):=by rw [if_pos (by rw [A4,hxl];exact Nat.le_refl _),gE7 (by rw [A4,hxl];exact Nat.le_refl _)]
  (refine Au (Bg (r:=⟨3,1,true,A7 (bX g R.length R.length)⟩) 2 (Ab (bX g R.length R.length)) rfl (EM _) (show 0<(1:Nat) by omega)) ?_;simp only [ST.frz,A0.frz,AV.frz,C.frz,Nat.le_refl,List.set_cons_zero,List.set_cons_succ,go_sem,hfo])
  (refine Wt ?_;(repeat clear hK K);repeat refine kq fun K hK=>?_)
  exact Lq [] Tryz.results79
 have d1:decide ((k:Int)<(R.length:Int))=true:=by simpa using hlt
 have gR:=Ag (gE1 hlt)
 have gc:=Am (show c[k]?=some (c.getD k 0) from by rw [gE2,gE1 (by omega)];rfl)
 have hkk:=hkg k hlt
 unfold bT at hkk
 rw [himg,gE2 (l:=R),gE1 hlt,Option.getD_some] at hkk
 have hrk:=hr _ (gE6 hlt)
 have hbk:=hbd _ (gE6 hlt)
 have hsl:=Gj (bW c R[k])
 rw [aa] at hsl
 have hft:=So hko (s:=k) (by omega)
 have hcnt:=(Cx g k).cnt
 have hpl:=Ug ky g k
 have hpl2:=Ug ky g (k+1)
 have hkl:=NU ky g k
 have hnl:=(Cx g k).len
 have hfd:=Qc hko (s:=k) (by omega) k (by omega)
 have hxl:=av (g:=g) (n:=R.length) (k:=k) (by omega)
 generalize R[k]=row at *
 have hsg:=bt row c (by omega) (fun a ha=>by have:=hbk a ha;omega)
 have hsk:=bu (c.getD k 0) (Cq (bW c row)) (by omega)
 rw [<- hkk] at hsk
 generalize Cq (bW c row)=sg at *
 generalize c.getD k 0=x at *
 simp only [BK,As] at hsg hsk
 (refine Wu @d1 ?_;(repeat clear hK K);repeat refine kq fun K hK=>?_)
 refine WB ?_
 (refine Wt ?_;(repeat clear hK K);repeat refine kq fun K hK=>?_)
 (refine Bz [] [(0,0,0),(1,0,0),(2,0,0),(4,0,0),(6,0,0),(9,0,0),(3,1,11),(5,1,10),(7,0,0),(8,1,10),(10,2,0),(11,2,0),(12,2,0)] (by kernel_rfl) (by kernel_rfl) (by intro c st h;simp [Ae,AF,VT] at h) ?_)
 (refine Ws (an @A4 (an @hcl (an @gc (an @A3 @gR)))) ?_;repeat clear hK K)
 (refine Wf rfl rfl ?_;intro K1 hK1;refine AZ ?_;refine xv [] (hsg) ?_ ?_)
 ·rintro _ _ ⟨rfl,rfl⟩ i o hi hl;simp at hl
 rintro _ _ ⟨rfl,rfl⟩
 (refine Wz ?_;clear hK1 K1)
 (refine Wr ?_;repeat clear hK K)
 (refine Wf rfl rfl ?_;intro K1 hK1;refine AZ ?_;refine xv [] (hsk) ?_ ?_)
 ·rintro _ _ ⟨rfl,rfl⟩ i o hi hl;simp at hl
 rintro _ _ ⟨rfl,rfl⟩
 (refine Wz ?_;clear hK1 K1)
 (refine Wr ?_;repeat clear hK K)
 (refine Wg rfl rfl rfl ?_;intro K1 hK1;refine AP rfl ?_;simp only [go_sem];(first | refine hK1 _ ?_ | refine AD (hK1 _ ?_));clear hK1 K1)
 (refine Wr ?_;repeat clear hK K)
 cases hf:(List.range k).find? (fun t=>decide (g t=g k)) with
 | some t0=>
  have h2:=List.find?_range_eq_some.1 hf
  have h3:t0<k:=by simpa using h2.2.1
  have h4:g t0=g k:=by simpa using h2.1
  have hkv:XZ ky g (k+1)=XZ ky g k:=EH hf
  have hng:=Do hf
  obtain ⟨t,a1,a2,j,a3⟩:∃ t,t<k/\g t=g k/\∃ j,BJ .ks (ky.getD k (.int .i64 0)) (XZ ky g k) 0=some (some (j,.v (.int .i64 ((Xh g k).1.getD t 0)))):=by
   rcases hfd with h | ⟨a1,_⟩
   ·exact h
   exact absurd h4 (a1 t0 h3)
  have he:(Xh g k).1.getD t 0=(Xh g k).1.getD t0 0:=((Cx g k).eq t t0 a1 h3).2 (a2.trans h4.symm)
  rw [he] at a3
  obtain ⟨M,hM⟩:=Hw ky g k
  rw [hM] at hkv a3 hpl hkl ⊢
  generalize hvv:(Xh g k).1.getD t0 0=vv at *
  generalize ky.getD k (.int .i64 0)=kk at *
  (refine Wt ?_;(repeat clear hK K);repeat refine kq fun K hK=>?_)
  (refine Ai rfl ?_;intro K1 hK1;refine Ci (id:=1) (kv:=M.map fun p=>(p.1,C.v p.2)) (zv:=.int .i64 0) Tryz.underlying128 (J9 Tryz.underlying9) rfl rfl rfl (by simp only [go_sem]) rfl hpl (by simp only [go_sem,EP]) hft a3 ?_;simp only [go_sem,XX];refine hK1 _ ?_;clear hK1 K1)
  (refine Wu @Bool.not_true ?_;(repeat clear hK K);repeat refine kq fun K hK=>?_)
  refine WC ?_
  have hset:=aw hlt (v:=vv) (by rw [hng])
  (refine Cn (an @A5 (an @hxl (an @AK @hset))) ?_;(repeat clear hK K);repeat refine kq fun K hK=>?_)
  refine WD ?_
  refine hK _ (k+1) (by omega) (by omega) ?_
  refine Le.trans (A9 [0,1,2] rfl rfl) ?_
  (try simp only [List.set_nil,List.take_nil,List.take_zero,List.map_append,go_sem])
  (try simp only [Af,List.map_map,Function.comp_def,List.map_append,List.map_cons,List.map_nil])
  rw [hkv]
  exact WE
 | none=>
  have hno:=List.find?_range_eq_none.1 hf
  have hkv:=EI (ky:=ky) hf
  have hng:=Dp hf
  have a2:BJ .ks (ky.getD k (.int .i64 0)) (XZ ky g k) 0=some none:=by
   rcases hfd with ⟨t,a1,a2,_⟩ | ⟨_,a2⟩
   ·exact absurd a2 (by simpa using hno t a1)
   exact a2
  obtain ⟨M,hM⟩:=Hw ky g k
  rw [hM] at hkv a2 hpl hkl ⊢
  generalize hvv:(Xh g k).2=vv at *
  generalize ky.getD k (.int .i64 0)=kk at *
  (refine Wt ?_;(repeat clear hK K);repeat refine kq fun K hK=>?_)
  (refine Ai rfl ?_;intro K1 hK1;refine Ci (id:=1) (kv:=M.map fun p=>(p.1,C.v p.2)) (zv:=.int .i64 0) Tryz.underlying128 (J9 Tryz.underlying9) rfl rfl rfl (by simp only [go_sem]) rfl hpl (by simp only [go_sem,EP]) hft a2 ?_;simp only [go_sem,XX];refine hK1 _ ?_;clear hK1 K1)
  (refine Wu @Bool.not_false ?_;(repeat clear hK K);repeat refine kq fun K hK=>?_)
  refine WB ?_
  (refine Wt ?_;(repeat clear hK K);repeat refine kq fun K hK=>?_)
  (refine Ai rfl ?_;intro K1 hK1;refine KV (id:=1) (kv:=M.map fun p=>(p.1,C.v p.2)) Tryz.underlying128 rfl rfl rfl rfl rfl (by simp only [go_sem]) rfl (Rj _) ?_;simp only [go_sem,hkl];refine hK1 _ ?_;clear hK1 K1)
  (refine Wt ?_;(repeat clear hK K);repeat refine kq fun K hK=>?_)
  (refine Ai rfl ?_;intro K1 hK1;refine GY (id:=1) (kv:=M.map fun p=>(p.1,C.v p.2)) (c:=.v (.int .i64 vv)) Tryz.underlying128 (J9 Tryz.underlying9) rfl rfl (by simp only [go_sem]) rfl hpl (by simp only [go_sem,EP]) hft (by simp only [go_sem]) rfl a2 ?_;simp only [go_sem];refine hK1 _ ?_;clear hK1 K1)
  have hset:=aw hlt (v:=(vv:Int)) (by rw [hng])
  (refine Cn (an @A5 (an @hxl (an @AK @hset))) ?_;(repeat clear hK K);repeat refine kq fun K hK=>?_)
  refine WD ?_
  refine hK _ (k+1) (by omega) (by omega) ?_
  refine Le.trans (A9 [0,1,2] rfl rfl) ?_
  (try simp only [List.set_nil,List.take_nil,List.take_zero,List.map_append,go_sem])
  (try simp only [Af,List.map_map,Function.comp_def,List.map_append,List.map_cons,List.map_nil])
  rw [hkv]
  exact WE
set_option maxHeartbeats 4000000 in
theorem ba (R:List (List Ar)) (hv:Bv R=true) (hr:∀ r∈R,r.length<=1000000):FC Tryz.prog 42 [B7 R] [] (fun r o=>∃ c,Xk R c=c/\Nrm R.length c/\o=[]/\r=As c):=by
 refine A6 Tryz.func42 rfl (by rw [Tryz.ntmps42];simp) ?_
 rw [Tryz.ntmps42]
 have hlo:BE R=true:=gEg (gE4 hv).1
 have h1:1<=R.length:=(gE4 hlo).1
 have hR16:R.length<=16384:=(gE4 hlo).2.1
 have hN0:=NC [] h1
 have e0:List.replicate R.length (C.v (.int .i64 0))=A7 (Xv [] R.length):=by
  rw [show Xv [] R.length=List.replicate R.length 0 from List.ext_getElem (by simp [Xv]) fun i h1 h2=>by simp [Xv,Xu]]
  simp [A7]
 generalize Xv [] R.length=c0 at *
 have hl0:=hN0.len
 simp only [Bf,B7]
 (refine Wu @A3 ?_;(repeat clear hK K);repeat refine kq fun K hK=>?_)
 rw [e0]
 have hf0:(if R.length<=(Ab c0).length then C.t 1 ((Ab c0).take R.length) else C.u)=C.t 1 (Ab c0):=by rw [if_pos (by rw [A4];omega),gE7 (by rw [A4];omega)]
 (refine Au (Bg (r:=⟨3,1,true,A7 c0⟩) 1 (Ab c0) rfl (EM _) (show 0<(1:Nat) by omega)) ?_;simp only [ST.frz,A0.frz,AV.frz,C.frz,Nat.le_refl,List.set_cons_zero,List.set_cons_succ,go_sem,hf0])
 refine A8 (fun c:List Int=>{ tm:=[(1,.a (.c (.p 0 0))),(3,.a (.c (.t 1 (Ab c))))],hp:=[.r ⟨25,1,false,[.t 1 (Ah R)]⟩],n:=17,pin:=0 }) (fun c=>Nrm R.length c) (fun c=>R.length+1 - F9 R.length c) c0 ?_ ?_ ?_
 ·exact hN0
 ·refine Le.trans (A9 [0] rfl rfl) ?_
  (try simp only [List.set_nil,List.take_nil,List.take_zero,List.map_append,go_sem])
  exact WE
 rintro c hN K hK
 have hl:=hN.len
 have hnx:=bv R c hv hN hr
 have hN2:=NB R c
 have hl2:=hN2.len
 have hlt:=U4 (S:=R) hN
 have hcn:=KK R.length (Xk R c)
 have heq:=aL c (Xk R c) (by omega) (by omega)
 obtain ⟨d,hd⟩:∃ d,Xk R c=d:=⟨_,rfl⟩
 rw [hd] at hnx hN2 hl2 hlt hcn heq
 simp only [B7,As] at hnx heq
 (refine Wt ?_;(repeat clear hK K);repeat refine kq fun K hK=>?_)
 (refine Wy hnx ?_;intro K1 hK1)
 rintro _ _ ⟨rfl,rfl⟩
 (refine Wz ?_;clear hK1 K1)
 (refine Wt ?_;(repeat clear hK K);repeat refine kq fun K hK=>?_)
 (refine Wy heq ?_;intro K1 hK1)
 rintro _ _ ⟨rfl,rfl⟩
 (refine Wz ?_;clear hK1 K1)
 (refine Wt ?_;(repeat clear hK K);repeat refine kq fun K hK=>?_)
 (refine At ?_;intro X Y hX hY;simp only [go_sem])
 refine ⟨fun h=>hX ?_,fun h=>hY ?_⟩
 rotate_left
 ·clear hX hY X Y
  have hne:d ≠ c:=fun e=>by rw [e] at h;simp at h
  have:=hlt hne
  (refine Wt ?_;(repeat clear hK K);repeat refine kq fun K hK=>?_)
  refine WD ?_
  refine hK _ d hN2 (by omega) ?_
  exact WE
 clear hX hY X Y
 (refine Wt ?_;(repeat clear hK K);repeat refine kq fun K hK=>?_)
 ((try refine Av ?_);(try simp only [Ae,AF]);refine B6 (A9 [] rfl rfl) ?_;(try simp only [List.set_nil,List.take_nil,List.take_zero,List.map_append,go_sem]);((try refine Av ?_);(try refine Aa ?_);(try simp only [Ae,AF]);refine Bj (by first | exact .inl rfl | exact .inr rfl) rfl ?_;simp only [VU,Dy,Du,DL,Tryz.results42,go_sem,true_and,and_true,As]))
 have:=gE4 h
 exact ⟨c,by rw [hd];exact this.symm,hN,rfl⟩
set_option maxHeartbeats 1000000 in
theorem ax (R:List (List Ar)) (hv:Bv R=true) (hr:∀ r∈R,r.length<=1000000):FC Tryz.prog 19 [B7 R] [] (fun r o=>∃ c,Xk R c=c/\Nrm R.length c/\o=[]/\r=As c):=by
 refine A6 Tryz.func19 rfl (by rw [Tryz.ntmps19];simp) ?_
 rw [Tryz.ntmps19]
 have hlo:BE R=true:=gEg (gE4 hv).1
 have hR16:R.length<=16384:=(gE4 hlo).2.1
 have hcl:=ba R hv hr
 simp only [Bf,B7] at hcl ⊢
 (refine Wt ?_;(repeat clear hK K);repeat refine kq fun K hK=>?_)
 (refine Wy (CD R (by omega) (fun r h=>by have:=hr r h;omega)) ?_;intro K1 hK1)
 rintro _ _ ⟨rfl,rfl⟩
 (refine Wz ?_;clear hK1 K1)
 (refine Wu (an @hv @Bool.not_true) ?_;(repeat clear hK K);repeat refine kq fun K hK=>?_)
 refine WC ?_
 (refine Wt ?_;(repeat clear hK K);repeat refine kq fun K hK=>?_)
 (refine Wy hcl ?_;intro K1 hK1)
 rintro _ _ ⟨c,hf,hN,rfl,rfl⟩
 simp only [As]
 (refine Wz ?_;clear hK1 K1)
 (refine Wt ?_;(repeat clear hK K);repeat refine kq fun K hK=>?_)
 ((try refine Av ?_);(try simp only [Ae,AF]);refine B6 (A9 [] rfl rfl) ?_;(try simp only [List.set_nil,List.take_nil,List.take_zero,List.map_append,go_sem]);((try refine Av ?_);(try refine Aa ?_);(try simp only [Ae,AF]);refine Bj (by first | exact .inl rfl | exact .inr rfl) rfl ?_;simp only [VU,Dy,Du,DL,Tryz.results19,go_sem,true_and,and_true,As]))
 exact ⟨c,hf,hN,rfl⟩
end Go.Proofs.YtjijjfkalheokaaGreatDoor
