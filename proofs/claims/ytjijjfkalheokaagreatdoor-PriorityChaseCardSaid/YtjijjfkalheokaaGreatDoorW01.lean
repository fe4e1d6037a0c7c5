/- Lemmas. -/
import Derived.Test.YtjijjfkalheokaaGreatDoorZk
import Derived.Test.YtjijjfkalheokaaGreatDoorG53
import Derived.Test.YtjijjfkalheokaaGreatDoorMK
import Derived.Test.YtjijjfkalheokaaGreatDoorMF
import Derived.Test.YtjijjfkalheokaaGreatDoorMlz
namespace Go.Proofs.YtjijjfkalheokaaGreatDoor
set_option linter.unusedVariables false
set_option linter.unusedSimpArgs false
open Go.RowKit
set_option maxRecDepth 100000
attribute [local go_sem] lga C.pl C.one

def C4 (w:Nat):Ob:=.r ⟨155,1,true,[.v (.int .u64 (w:Int))]⟩
theorem O0 (w k:Nat) (hw:w<2 ^ 64) (hk:k<64):FC Tryz.prog 107 [.a (.c (.s 0 1)),.i (k:Int)] [C4 w] (fun r o=>r=.tup []/\o=[C4 (w ||| 2 ^ k)]):=by
 refine A6 Tryz.func107 rfl (by rw [Tryz.ntmps107];simp) ?_
 rw [Tryz.ntmps107]
 simp only [Bf,C4]
 have q0:(k:Int) / 64=0:=by omega
 have q1:(k:Int).tmod 64=(k:Int):=by rw [Int.tmod_eq_emod_of_nonneg (by omega)];omega
 have q3:=KY hk
 obtain ⟨z,hz,q2⟩:∃ z:Nat,2 ^ k=z/\(1:Int)*2 ^ k=(z:Int):=⟨2 ^ k,rfl,by simp⟩
 rw [hz] at q3 ⊢
 have q4:(z:Int)<18446744073709551616:=by omega
 have q5:(w:Int)<18446744073709551616:=by omega
 (refine Ac 10 [(0,0),(1,0),(2,0),(3,0),(4,1),(5,0),(6,0),(7,0),(8,0),(9,0),(10,2)] (by kernel_rfl) (by kernel_rfl) (by intro c st h;simp [Ae,AF,VT] at h) ?_)
 (refine Wq (an @q0 (an @q1 (an @q2 (an @q4 @q5)))) ?_;repeat clear hK K)
 refine H9 ?_
 refine WH Tryz.results107 ?_
 rfl
theorem LQ (v w:Nat) (hv:v<2 ^ 64) (hw:w<2 ^ 64):FC Tryz.prog 108 [.a (.c (.s 0 1)),.a (.c (.s 1 1))] [C4 v,C4 w] (fun r o=>r=.tup []/\o=[C4 (v ||| w),C4 w]):=by
 refine A6 Tryz.func108 rfl (by rw [Tryz.ntmps108];simp) ?_
 rw [Tryz.ntmps108]
 simp only [Bf,C4]
 (refine Wt ?_;(repeat clear hK K);repeat refine kq fun K hK=>?_)
 refine A8 (fun k:Nat=>{ tm:=[(0,.a (.c (.s 0 1))),(1,.a (.c (.s 1 1))),(6,.i 1),(7,.i k)],hp:=[C4 (if k=0 then v else v ||| w),C4 w],n:=21,pin:=2 }) (fun k=>k<=1) (fun k=>1 - k) 0 ?_ ?_ ?_
 ·omega
 ·simp only [if_true,C4]
  exact WE
 rintro k hk K hK
 have q1:(v:Int)<18446744073709551616:=by omega
 have d0:decide ((0:Int)<1)=true:=by decide
 have d1:decide ((1:Int)<1)=false:=by decide
 have q2:(w:Int)<18446744073709551616:=by omega
 by_cases h0:k=0
 rotate_left
 ·have hk1:k=1:=by omega
  subst hk1
  simp only [show ¬ (1:Nat)=0 from by omega,if_false,C4,Int.natCast_one]
  (refine Wu @d1 ?_;(repeat clear hK K);repeat refine kq fun K hK=>?_)
  refine WC ?_
  (refine Df ?_;simp only [Ae,AF,reduceIte,Nat.reduceEqDiff])
  exact M6 Tryz.results108
 subst h0
 simp only [if_true,C4,Int.natCast_zero]
 (refine Wu @d0 ?_;(repeat clear hK K);repeat refine kq fun K hK=>?_)
 refine WB ?_
 (refine Wt ?_;(repeat clear hK K);repeat refine kq fun K hK=>?_)
 (refine Ac 10 [(0,0),(1,0),(2,0),(3,1),(4,0),(5,0),(6,0),(7,1),(8,0),(9,0),(10,2)] (by kernel_rfl) (by kernel_rfl) (by intro c st h;simp [Ae,AF,VT] at h) ?_)
 (refine Wq (an @q1 @q2) ?_;repeat clear hK K)
 (refine Wt ?_;(repeat clear hK K);repeat refine kq fun K hK=>?_)
 refine WD ?_
 refine hK _ 1 (by omega) (by omega) ?_
 simp only [show ¬ (1:Nat)=0 from by omega,if_false,C4]
 exact WE
theorem UZ (w:Nat) (hw:w<2 ^ 64):FC Tryz.prog 136 [.a (.c (.v (.int .u64 (w:Int))))] [] (fun r o=>o=[]/\r=.i (Lib.ctz 64 w)):=by
 have h:=(UO [.a (.c (.v (.int .u64 (w:Int))))] (.i (Lib.ctz 64 w)) (by simp [UN];omega)).2.2
 exact h
set_option maxHeartbeats 1000000 in
theorem St (w:Nat) (hw:w<2 ^ 64):FC Tryz.prog 110 [.a (.c (.s 0 1))] [C4 w] (fun r o=>r=.a (.c (.s 1 (AQ w).length))/\o=[C4 w,AA (AQ w)]):=by
 refine A6 Tryz.func110 rfl (by rw [Tryz.ntmps110];simp) ?_
 rw [Tryz.ntmps110]
 simp only [Bf,C4]
 (refine Wt ?_;(repeat clear hK K);repeat refine kq fun K hK=>?_)
 refine Au (CT 3 3 1 ?_) ?_
 ·simp only [go_sem]
 refine A8 (fun k:Nat=>{ tm:=[(3,.a (.c (.s 1 (if k=0 then 0 else (AQ w).length)))),(6,.a (.c (.s 0 1))),(7,.i 1),(8,.i k)],hp:=[C4 w,AA (if k=0 then [] else AQ w)],n:=29,pin:=1 }) (fun k=>k<=1) (fun k=>1 - k) 0 ?_ ?_ ?_
 ·omega
 ·simp only [if_true,C4,AA,A7,List.map_nil]
  exact WE
 rintro k hk K hK
 have q2:(w:Int)<18446744073709551616:=by omega
 have d0:decide ((0:Int)<1)=true:=by decide
 have d1:decide ((1:Int)<1)=false:=by decide
 by_cases h0:k=0
 rotate_left
 ·have hk1:k=1:=by omega
  subst hk1
  simp only [show ¬ (1:Nat)=0 from by omega,if_false,C4,Int.natCast_one,AA]
  (refine Wu @d1 ?_;(repeat clear hK K);repeat refine kq fun K hK=>?_)
  refine WC ?_
  (refine Wx ?_;repeat clear hK K)
  (refine Wt ?_;(repeat clear hK K);repeat refine kq fun K hK=>?_)
  ((try refine Av ?_);(try simp only [Ae,AF]);refine B6 (A9 [0,1] rfl rfl) ?_;(try simp only [List.set_nil,List.take_nil,List.take_zero,List.map_append,go_sem]);((try refine Av ?_);(try refine Aa ?_);(try simp only [Ae,AF]);refine Bj (by first | exact .inl rfl | exact .inr rfl) rfl ?_;simp only [VU,Dy,Du,DL,Tryz.results110,go_sem,true_and,and_true,Af,AA]))
 subst h0
 simp only [if_true,C4,Int.natCast_zero,AA]
 (refine Wu @d0 ?_;(repeat clear hK K);repeat refine kq fun K hK=>?_)
 refine WB ?_
 (refine Wt ?_;(repeat clear hK K);repeat refine kq fun K hK=>?_)
 refine A8 (fun x:List Int × Nat=>{ tm:=[(3,.a (.c (.s 1 x.1.length))),(4,.i 0),(5,.a (.c (.v (.int .u64 (x.2:Int))))),(6,.a (.c (.s 0 1))),(7,.i 1),(8,.i 0)],hp:=[C4 w,AA x.1],n:=29,pin:=1 }) (fun x=>x.1++AQ x.2=AQ w/\x.2<2 ^ 64) (fun x=>x.2) ([],w) ?_ ?_ ?_
 ·exact ⟨rfl,hw⟩
 ·simp only [C4,AA,A7,List.map_nil,List.length_nil]
  exact WE
 rintro ⟨L,z⟩ ⟨hL,hz⟩ K hK
 simp only at hL hz
 simp only [C4,AA]
 have hLl:L.length<=64:=by have h1:=CP w;rw [<- hL,List.length_append] at h1;omega
 by_cases hz0:z=0
 ·subst hz0
  rw [LP,List.append_nil] at hL
  subst hL
  have d2:(((0:Nat):Int) != 0)=false:=rfl
  (refine Wt ?_;(repeat clear hK K);repeat refine kq fun K hK=>?_)
  simp only [d2]
  refine WC ?_
  (refine Wx ?_;repeat clear hK K)
  (refine Wt ?_;(repeat clear hK K);repeat refine kq fun K hK=>?_)
  refine WD ?_
  refine hK _ 1 (by omega) (by omega) ?_
  simp only [show ¬ (1:Nat)=0 from by omega,if_false,C4,AA]
  exact WE
 obtain ⟨h1,h2,h3⟩:=NW (w:=z) (by omega) hz
 have d1:((z:Int) != 0)=true:=by simpa using hz0
 have q3:(z:Int)<18446744073709551616:=by omega
 have q4:((z:Int) - 1).toNat=z - 1:=by omega
 rw [h3] at hL
 have hnz:(z &&& (z - 1))<2 ^ 64:=by omega
 (refine Wt ?_;(repeat clear hK K);repeat refine kq fun K hK=>?_)
 simp only [d1]
 refine WB ?_
 (refine Wt ?_;(repeat clear hK K);repeat refine kq fun K hK=>?_)
 (refine Wy (UZ z hz) ?_;intro K1 hK1)
 rintro _ _ ⟨rfl,rfl⟩
 (refine Wz ?_;clear hK1 K1)
 (refine Wu (an @List.set_cons_zero.{0} (an @List.set_cons_succ.{0} (an @List.take_succ_cons.{0} (an @List.take_zero.{0} (an @List.drop_zero.{0} (an @List.length_take.{0} (an @List.length_drop.{0} (an @List.length_append.{0} (an @A4 (an @Az (an @AN (an @Bm (an @A5 (an @AU (an @AE (an @B1 (an @AG (an @AM (an @q4 @q3))))))))))))))))))) ?_;(repeat clear hK K);repeat refine kq fun K hK=>?_)
 refine WD ?_
 refine hK _ (L++[(Lib.ctz 64 z:Int)],z &&& (z - 1)) ⟨by rw [<- hL];simp,hnz⟩ h2 ?_
 refine Le.trans (A9 [0,3] rfl rfl) ?_
 (try simp only [List.set_nil,List.take_nil,List.take_zero,List.map_append,go_sem])
 (try simp only [Af])
 simp only [C4,AA,List.take_length,Int.zero_mul,Int.zero_add]
 exact WE
theorem H2 {P:Program} {c:Code} {st:ST} {Q:Exit->ST->Prop} (F:List Ob->Prop) (hF:F st.hp) (h:∀ G,F G->AW P c { st with hp:=G } Q):AW P c st Q:=h _ hF
theorem BC {P:Program} {ops:Array Oper} {l:List Oper} {st:ST} {K:ST->Prop} (F:List Ob->Prop) (hF:F st.hp) (h:∀ G,F G->VQ P ops l { st with hp:=G } K):VQ P ops l st K:=h _ hF
def Pre (H G:List Ob):Prop:=H.length<=G.length/\∀ i,i<H.length->G[i]?=H[i]?
theorem Pre.refl (H:List Ob):Pre H H:=⟨Nat.le_refl _,fun _ _=>rfl⟩
theorem Pre.trans {A B C:List Ob} (h:Pre A B) (k:Pre B C):Pre A C:=⟨Nat.le_trans h.1 k.1,fun i hi=>(k.2 i (Nat.lt_of_lt_of_le hi h.1)).trans (h.2 i hi)⟩
theorem Pre.push (H:List Ob) (y:Ob):Pre H (H++[y]):=⟨by simp,fun i hi=>gEa hi⟩
theorem Pre.at {H G:List Ob} (h:Pre H G) {i:Nat} {y:Ob} (hx:H[i]?=some y):G[i]?=some y:=by
 rw [h.2 i (List.getElem?_eq_some_iff.1 hx).1];exact hx
theorem Pre.set {H G:List Ob} (h:Pre H G) {i:Nat} (hi:H.length<=i) (y:Ob):Pre H (G.set i y):=⟨by rw [List.length_set];exact h.1,fun j hj=>by rw [gE5 (by omega)];exact h.2 j hj⟩
theorem Br {H:List Ob} {i:Nat} {y:Ob} (h:H[i]?=some y):i<H.length:=(List.getElem?_eq_some_iff.1 h).1
theorem FN {H:List Ob} {i:Nat} {y:Ob} (h:H[i]?=some y):H.set i y=H:=by
 refine List.ext_getElem? fun j=>?_
 by_cases e:i=j
 ·subst e;rw [gEc (Br h),h]
 rw [gE5 e]
theorem Bp (H:List Ob) (y:Ob):(H++[y])[H.length]?=some y:=by simp
theorem Ul {H:List Ob} (h:H.all Cd=true) {i:Nat} {y:Ob} (hx:H[i]?=some y):Cd y=true:=List.all_eq_true.1 h _ (gE9 hx)
theorem Bi {H:List Ob} (h:H.all Cd=true) {y:Ob} (hx:Cd y=true):(H++[y]).all Cd=true:=by simp [List.all_append,h,hx]
theorem C2 {H:List Ob} (h:H.all Cd=true) {y:Ob} (hx:Cd y=true) (i:Nat):(H.set i y).all Cd=true:=by
 rw [List.all_eq_true]
 intro y hy
 rcases List.mem_or_eq_of_mem_set hy with h2 | h2
 ·exact List.all_eq_true.1 h _ h2
 rw [h2];exact hx
theorem Hz {H:List Ob} (h:H.all Cd=true):∀ (i:Nat) (o:Ob),H[i]?=some o->Cd o=true:=fun _ _ hx=>Ul h hx
section
variable {o : Oper} {st : ST} {K : ST -> Prop}
theorem D0 {H:List Ob} {i:Nat} {y z:Ob} (h:H[i]?=some y):H.getD i z=y:=by rw [gE2,h];rfl
theorem HA (w:Nat) (ρ:List Nat):(C4 w).ren ρ=C4 w:=rfl
theorem JA (w:Nat) (f:Nat->Nat):(C4 w).up f=C4 w:=rfl
theorem Ej {x y:Operand} {ts:Array TypeId} {a b v w:Nat} (hd:VJ o st.n=true) (ho:o.op=.call { callee:=.value (.func 108),args:=#[x,y],argTypes:=ts }) (hx:st.ev x=.a (.c (.s a 1))) (hy:st.ev y=.a (.c (.s b 1))) (ha:st.hp[a]?=some (C4 v)) (hb:st.hp[b]?=some (C4 w)) (hne:a ≠ b) (hv:v<2 ^ 64) (hw:w<2 ^ 64)
  (hnb:Fi [a,b] st.tm=st.tm) (h:K ({ st with hp:=st.hp.set a (C4 (v ||| w)) }.put o.dst (.tup []))):Stp Tryz.prog o st K:=by
 have i1:idx [a,b] a 0=some 0:=by simp [idx]
 have i2:idx [a,b] b 0=some 1:=by simp [idx,hne]
 refine AH (ids:=[]) [a,b] (LQ v w hv hw) hd ho rfl (by kernel_rfl) (by simp [Ba,hne]) (by simp [Br ha,Br hb]) ?_ ?_ ?_ ?_
 ·simp [hx,hy,Em,AV.ren,A0.ren,C.ren,i1,i2]
 ·simp only [VS,List.map_cons,List.map_nil,D0 ha,D0 hb,HA]
 ·rintro r outs ⟨rfl,rfl⟩;rfl
 rintro r outs ⟨rfl,rfl⟩
 have e:st.back [a,b] [C4 (v ||| w),C4 w]={ st with hp:=st.hp.set a (C4 (v ||| w)) }:=by
  unfold ST.back
  rw [hnb]
  simp only [List.map_cons,List.map_nil,JA,Cb,List.append_nil]
  rw [FN (by rw [gE5 hne];exact hb)]
 rw [e];exact h
theorem LS {x y:Operand} {ts:Array TypeId} {a v k:Nat} (hd:VJ o st.n=true) (ho:o.op=.call { callee:=.value (.func 107),args:=#[x,y],argTypes:=ts }) (hx:st.ev x=.a (.c (.s a 1))) (hy:st.ev y=.i (k:Int)) (ha:st.hp[a]?=some (C4 v)) (hv:v<2 ^ 64) (hk:k<64)
  (hnb:Fi [a] st.tm=st.tm) (h:K ({ st with hp:=st.hp.set a (C4 (v ||| 2 ^ k)) }.put o.dst (.tup []))):Stp Tryz.prog o st K:=by
 have i1:idx [a] a 0=some 0:=by simp [idx]
 refine AH (ids:=[]) [a] (O0 v k hv hk) hd ho rfl (by kernel_rfl) rfl (by simp [Br ha]) ?_ ?_ ?_ ?_
 ·simp [hx,hy,Em,AV.ren,A0.ren,C.ren,i1,AV.i]
 ·simp only [VS,List.map_cons,List.map_nil,D0 ha,HA]
 ·rintro r outs ⟨rfl,rfl⟩;rfl
 rintro r outs ⟨rfl,rfl⟩
 have e:st.back [a] [C4 (v ||| 2 ^ k)]={ st with hp:=st.hp.set a (C4 (v ||| 2 ^ k)) }:=by
  unfold ST.back
  rw [hnb]
  simp only [List.map_cons,List.map_nil,JA,Cb,List.append_nil]
 rw [e];exact h
theorem L1 {x:Operand} {ts:Array TypeId} {a w:Nat} (hd:VJ o st.n=true) (ho:o.op=.call { callee:=.value (.func 110),args:=#[x],argTypes:=ts }) (hx:st.ev x=.a (.c (.s a 1))) (ha:st.hp[a]?=some (C4 w)) (hw:w<2 ^ 64)
  (hnb:Fi [a] st.tm=st.tm) (h:K ({ st with hp:=st.hp++[AA (AQ w)] }.put o.dst (.a (.c (.s st.hp.length (AQ w).length))))):Stp Tryz.prog o st K:=by
 have i1:idx [a] a 0=some 0:=by simp [idx]
 refine AH (ids:=[]) [a] (St w hw) hd ho rfl (by kernel_rfl) rfl (by simp [Br ha]) ?_ ?_ ?_ ?_
 ·simp [hx,Em,AV.ren,A0.ren,C.ren,i1]
 ·simp only [VS,List.map_cons,List.map_nil,D0 ha,HA]
 ·rintro r outs ⟨rfl,rfl⟩;rfl
 rintro r outs ⟨rfl,rfl⟩
 have e:st.back [a] [C4 w,AA (AQ w)]={ st with hp:=st.hp++[AA (AQ w)] }:=by
  unfold ST.back
  rw [hnb]
  have e2:(AA (AQ w)).up (VV [a] st.hp.length)=AA (AQ w):=by simp [AA,Ob.up,BQ]
  simp only [List.map_cons,List.map_nil,JA,Cb,e2]
  rw [FN ha]
 rw [e]
 have e3:(AV.a (.c (.s 1 (AQ w).length))).up (VV [a] st.hp.length)=.a (.c (.s st.hp.length (AQ w).length)):=by simp [AV.up,A0.up,C.up,VV]
 rw [e3];exact h
end
def Y4 (V:List (Int × Nat × Nat)):List (Value × C):=V.map fun p=>(.int .i64 p.1,.s p.2.1 1)
theorem Cu (V:List (Int × Nat × Nat)):(Y4 V).length=V.length:=by simp [Y4]
theorem O3 {V:List (Int × Nat × Nat)} {j:Nat} {p:Int × Nat × Nat} (h:V[j]?=some p):(Y4 V)[j]?=some (.int .i64 p.1,.s p.2.1 1):=by simp [Y4,h]
theorem Gu (V:List (Int × Nat × Nat)):(Y4 V).all (fun p=>p.2.pl)=true:=by
 rw [List.all_eq_true]
 intro p hp
 obtain ⟨q,_,rfl⟩:=List.mem_map.1 hp
 rfl
theorem Rl (V:List (Int × Nat × Nat)):Cd (.m (Y4 V))=true:=Gu V
theorem L3 (V:List (Int × Nat × Nat)):Pe (Y4 V)=false:=by
 cases V with
 | nil=>rfl
 | cons p V=>rfl
theorem L4 {e:Int}:∀ {V:List (Int × Nat × Nat)},(∀ p∈V,p.1 ≠ e)->∀ i,BJ .ki (.int .i64 e) (Y4 V) i=some none
 | [],_,_=>rfl
 | p :: V,h,i=>by
  have h1:(e == p.1)=false:=by have:=h p List.mem_cons_self;simp only [beq_eq_false_iff_ne,ne_eq];exact fun x=>this x.symm
  simp only [Y4,List.map_cons,BJ,BZ,h1]
  exact L4 (fun q hq=>h q (gEf _ hq)) (i+1)
theorem FO {e:Int}:∀ {V:List (Int × Nat × Nat)},(V.map (·.1)).Nodup->∀ {p},p∈V->p.1=e->∀ i,∃ j,BJ .ki (.int .i64 e) (Y4 V) i=some (some (j,.s p.2.1 1))
 | [],_,_,hp,_,_=>by simp at hp
 | q :: V,hn,p,hp,he,i=>by
  simp only [List.map_cons,List.nodup_cons] at hn
  rcases List.mem_cons.1 hp with rfl | hp
  ·exact ⟨i,by simp [Y4,BJ,BZ,he]⟩
  ·have h1:(e == q.1)=false:=by
    simp only [beq_eq_false_iff_ne,ne_eq]
    intro x
    exact hn.1 (by rw [<- x,<- he];exact List.mem_map.2 ⟨p,hp,rfl⟩)
   simp only [Y4,List.map_cons,BJ,BZ,h1]
   exact FO hn.2 hp he (i+1)
theorem LT (e:Int):Fj .ki (.int .i64 e)=true:=by simp [Fj,BZ]
def SJ (H:List Ob) (mid:Nat) (V:List (Int × Nat × Nat)) (e:Int) (w:Nat) (G:List Ob):Prop:=
 (∃ p∈V,p.1=e/\G=H.set p.2.1 (C4 (p.2.2 ||| w)))\/((∀ p∈V,p.1 ≠ e)/\G=(H++[C4 w]).set mid (.m (Y4 (V++[(e,H.length,w)]))))
set_option maxHeartbeats 1000000 in
theorem Um (H:List Ob) (vb sb mid yid:Nat) (V:List (Int × Nat × Nat)) (e:Int) (w:Nat) (hvb:H[vb]?=some (.r ⟨138,1,false,[.m mid]⟩)) (hsb:H[sb]?=some (.r ⟨3,1,false,[.v (.int .i64 1)]⟩)) (hm:H[mid]?=some (.m (Y4 V))) (hy:H[yid]?=some (C4 w))
  (hnd:(V.map (·.1)).Nodup) (hV:∀ p∈V,H[p.2.1]?=some (C4 p.2.2)/\p.2.2<2 ^ 64/\p.2.1 ≠ yid) (hw:w<2 ^ 64) (hok:H.all Cd=true):
  FC Tryz.prog 109 [.i e,.a (.c (.s yid 1)),.a (.c (.p vb 0)),.a (.c (.p sb 0))] H (fun r o=>r=.tup []/\SJ H mid V e w o/\o.all Cd=true):=by
 refine A6 Tryz.func109 rfl (by rw [Tryz.ntmps109];simp) ?_
 rw [Tryz.ntmps109]
 simp only [Bf]
 have hpl:=Gu V
 have hml:=Br hm
 have hyl:=Br hy
 by_cases hex:∃ p∈V,p.1=e
 ·obtain ⟨p,hp,he⟩:=hex
  obtain ⟨j,hf⟩:=FO hnd hp he 0
  obtain ⟨hp1,hp2,hp3⟩:=hV p hp
  (refine Wu @hvb ?_;(repeat clear hK K);repeat refine kq fun K hK=>?_)
  (refine Ai rfl ?_;intro K1 hK1;refine Ci (id:=mid) (kv:=Y4 V) (zv:=.slice none 0 0) Tryz.underlying138 (EQ Tryz.underlying3) rfl rfl rfl (by simp only [go_sem,hvb]) hm hpl (by simp only [go_sem,EP]) (LT e) hf ?_;simp only [go_sem,XX];refine hK1 _ ?_;clear hK1 K1)
  (refine Ai rfl ?_;intro K1 hK1;refine J4 rfl rfl Tryz.underlying135 (.inl rfl) (.inr ⟨p.2.1,1,by simp only [go_sem],?_⟩);intro b hb;have hb2:b=false:=(by cases b with | false=>rfl | true=>exact absurd (hb rfl) (by omega));subst hb2;simp only [go_sem,if_true];refine hK1 _ ?_;clear hK1 K1)
  (refine Wt ?_;(repeat clear hK K);repeat refine kq fun K hK=>?_)
  refine WC ?_
  (refine Wu @hvb ?_;(repeat clear hK K);repeat refine kq fun K hK=>?_)
  (refine Ai rfl ?_;intro K1 hK1;refine Ci (id:=mid) (kv:=Y4 V) (zv:=.slice none 0 0) Tryz.underlying138 (EQ Tryz.underlying3) rfl rfl rfl (by simp only [go_sem,hvb]) hm hpl (by simp only [go_sem,EP]) (LT e) hf ?_;simp only [go_sem,XX];refine hK1 _ ?_;clear hK1 K1)
  (refine Wt ?_;(repeat clear hK K);repeat refine kq fun K hK=>?_)
  (refine Ai rfl ?_;intro K1 hK1;refine Ej (a:=p.2.1) (b:=yid) (v:=p.2.2) (w:=w) rfl rfl (by simp only [go_sem]) (by simp only [go_sem]) hp1 hy hp3 hp2 hw (by simp [Fi,AV.nb,A0.nb,C.nb]) ?_;simp only [go_sem];refine hK1 _ ?_;clear hK1 K1)
  refine WH Tryz.results109 ?_
  exact ⟨.inl ⟨p,hp,he,rfl⟩,C2 hok rfl _⟩
 have hno:∀ p∈V,p.1 ≠ e:=fun p hp he=>hex ⟨p,hp,he⟩
 have hf:=L4 hno 0
 obtain ⟨j,hf2⟩:=FO (V:=V++[(e,H.length,w)]) (by rw [List.map_append,List.nodup_append];exact ⟨hnd,by simp,fun a ha b hb=>by
  obtain ⟨p,hp,rfl⟩:=List.mem_map.1 ha
  simp only [List.map_cons,List.map_nil,List.mem_singleton] at hb
  rw [hb];exact hno p hp⟩) (List.mem_append_right _ List.mem_cons_self) rfl 0
 have hkv:Y4 V++[(Value.int .i64 e,C.s H.length 1)]=Y4 (V++[(e,H.length,w)]):=by simp [Y4]
 have hpl2:=Gu (V++[(e,H.length,w)])
 (refine Wu @hvb ?_;(repeat clear hK K);repeat refine kq fun K hK=>?_)
 (refine Ai rfl ?_;intro K1 hK1;refine Ci (id:=mid) (kv:=Y4 V) (zv:=.slice none 0 0) Tryz.underlying138 (EQ Tryz.underlying3) rfl rfl rfl (by simp only [go_sem,hvb]) hm hpl (by simp only [go_sem,EP]) (LT e) hf ?_;simp only [go_sem,XX];refine hK1 _ ?_;clear hK1 K1)
 (refine Ai rfl ?_;intro K1 hK1;refine Pd rfl rfl Tryz.underlying135 (.inl rfl) (b:=true) (.inl ⟨rfl,by simp only [go_sem]⟩) ?_;simp only [go_sem,if_true];refine hK1 _ ?_;clear hK1 K1)
 (refine Wt ?_;(repeat clear hK K);repeat refine kq fun K hK=>?_)
 refine WB ?_
 (refine AJ [] (.m 1 0 0 (.m 0 1 4 (.m 2 1 3 (.a 3 (.a 4 .e))))) (by kernel_rfl) (by kernel_rfl) (by intro c st h;simp [Ae,AF,VT] at h) ?_)
 (refine Ww (an @hvb @hsb) ?_;repeat clear hK K)
 (refine Wj rfl rfl ?_;intro K1 hK1;refine Bx rfl ?_;simp only [go_sem];(first | refine hK1 _ ?_ | refine AD (hK1 _ ?_));clear hK1 K1)
 have hrep:(List.replicate (Int.toNat 1) (C.v (.int .u64 0)))=[C.v (.int .u64 ((0:Nat):Int))]:=rfl
 simp only [hrep]
 (refine Wk rfl rfl rfl rfl ?_;intro K1 hK1;refine GY (id:=mid) (kv:=Y4 V) (c:=.s H.length 1) Tryz.underlying138 (EQ Tryz.underlying3) rfl rfl (by simp only [go_sem]) ((Pre.push _ _).at hm) hpl (by simp only [go_sem,EP]) (LT e) (by simp only [go_sem];rfl) rfl hf ?_;simp only [go_sem,hkv];refine hK1 _ ?_;clear hK1 K1)
 refine CL ⟨by simp,by simp,?_⟩
 (try simp only [Ae,AF])
 refine hK _ ?_
 clear hK K
 have hvm:mid ≠ vb:=by rintro rfl;rw [hm] at hvb;cases hvb
 have hym:mid ≠ yid:=by rintro rfl;rw [hm] at hy;cases hy
 have hnm:mid ≠ H.length:=by omega
 refine H2 (fun G=>G=(H++[C4 0]).set mid (.m (Y4 (V++[(e,H.length,w)])))) rfl ?_
 intro G hG
 simp only
 have g1:G[vb]?=some (.r ⟨138,1,false,[.m mid]⟩):=by rw [hG,gE5 hvm];exact (Pre.push _ _).at hvb
 have g2:G[mid]?=some (.m (Y4 (V++[(e,H.length,w)]))):=by rw [hG,gEc (by simp;omega)]
 have g3:G[yid]?=some (C4 w):=by rw [hG,gE5 hym];exact (Pre.push _ _).at hy
 have g4:G[H.length]?=some (C4 0):=by rw [hG,gE5 hnm];exact Bp _ _
 have g5:G.all Cd=true:=by rw [hG];exact C2 (Bi hok rfl) (Rl _) _
 have hend:G.set H.length (C4 (0 ||| w))=(H++[C4 w]).set mid (.m (Y4 (V++[(e,H.length,w)]))):=by
  rw [hG,Nat.zero_or,List.set_comm _ _ hnm]
  congr 1
  rw [List.set_append_right _ _ (Nat.le_refl _)];simp
 clear hG
 (refine Wu @g1 ?_;(repeat clear hK K);repeat refine kq fun K hK=>?_)
 (refine Ai rfl ?_;intro K1 hK1;refine Ci (id:=mid) (kv:=Y4 (V++[(e,H.length,w)])) (zv:=.slice none 0 0) Tryz.underlying138 (EQ Tryz.underlying3) rfl rfl rfl (by simp only [go_sem,g1]) g2 hpl2 (by simp only [go_sem,EP]) (LT e) hf2 ?_;simp only [go_sem,XX];refine hK1 _ ?_;clear hK1 K1)
 (refine Wt ?_;(repeat clear hK K);repeat refine kq fun K hK=>?_)
 (refine Ai rfl ?_;intro K1 hK1;refine Ej (a:=H.length) (b:=yid) (v:=0) (w:=w) rfl rfl (by simp only [go_sem]) (by simp only [go_sem]) g4 g3 (by omega) (by omega) hw (by simp [Fi,AV.nb,A0.nb,C.nb]) ?_;simp only [go_sem];refine hK1 _ ?_;clear hK1 K1)
 refine WH Tryz.results109 ?_
 rw [hend]
 exact ⟨.inr ⟨hno,rfl⟩,C2 (Bi hok rfl) (Rl _) _⟩
def Y5 (f:Nat->Nat) (n c:Nat):List Nat:=(List.range n).filter fun s=>f s == c
def Y6 (f:Nat->Nat) (n:Nat):List (List Int):=(List.range n).map fun c=>(Y5 f n c).map Int.ofNat
theorem DH {f:Nat->Nat} {n c s:Nat}:s∈Y5 f n c↔s<n/\f s=c:=by simp [Y5]
theorem O4 (f:Nat->Nat) (n c:Nat):(Y5 f n c).length<=n:=by
 have:=List.length_filter_le (fun s=>f s == c) (List.range n)
 rwa [List.length_range] at this
theorem JB (f:Nat->Nat) (n:Nat):(Y6 f n).length=n:=by simp [Y6]
theorem O5 {f:Nat->Nat} {n c:Nat} (h:c<n):(Y6 f n)[c]?=some ((Y5 f n c).map Int.ofNat):=by simp [Y6,h]
section
variable {X : List (List Ar)} {D cl : List Int}
theorem O6 (hv:Bv X=true) (h:CpOk X D) {v i:Nat} (hs:v<X.length):RT X cl (XG D v) i↔RT X cl v i:=by
 obtain ⟨_,_,p3,p4,_⟩:=BN hv h hs
 constructor
 ·rintro ⟨u,hu,h1,h2⟩;exact ⟨u,hu,p3.trans h1,h2⟩
 rintro ⟨u,hu,h1,h2⟩;exact ⟨u,hu,p4.trans h1,h2⟩
theorem LU (hv:Bv X=true) (h:CpOk X D) {v i:Nat} {e:Int} (hs:v<X.length):RV X cl (XG D v) e i↔RV X cl v e i:=by
 obtain ⟨_,_,p3,p4,_⟩:=BN hv h hs
 constructor
 ·rintro ⟨h0,u,hu,h1,h2⟩;exact ⟨h0,u,hu,p3.trans h1,h2⟩
 rintro ⟨h0,u,hu,h1,h2⟩;exact ⟨h0,u,hu,p4.trans h1,h2⟩
def gT (X:List (List Ar)) (D cl:List Int) (c:Nat) (row:List Ar) (i:Nat):Prop:=∃ a∈row,a.1=0/\XG D a.2.toNat ≠ c/\RT X cl a.2.toNat i
def Y7 (X:List (List Ar)) (D cl:List Int) (c:Nat) (l:List Nat) (i:Nat):Prop:=∃ s∈l,cl.getD s 0=(i:Int)\/gT X D cl c (X.getD s []) i
def gV (X:List (List Ar)) (D cl:List Int) (c:Nat) (row:List Ar) (e:Int) (i:Nat):Prop:=∃ a∈row,(a.1 ≠ 0/\a.1=e/\RT X cl a.2.toNat i)\/(a.1=0/\XG D a.2.toNat ≠ c/\RV X cl a.2.toNat e i)
def Y8 (X:List (List Ar)) (D cl:List Int) (c:Nat) (l:List Nat) (e:Int) (i:Nat):Prop:=∃ s∈l,gV X D cl c (X.getD s []) e i
theorem L5 (hv:Bv X=true) {c t:Nat} (he:(c,t)∈Xy (XG D) X X.length):∃ s,s<X.length/\XG D s=c/\∃ a∈X.getD s [],a.1=0/\XG D a.2.toNat ≠ c/\XG D a.2.toNat=t:=by
 obtain ⟨s,hs,a,ha,h0,hne,e⟩:=Fb.1 he
 cases e
 exact ⟨s,hs,rfl,a,ha,h0,fun h=>hne h.symm,rfl⟩
theorem Su (hv:Bv X=true) (h:CpOk X D) {c:Nat} (hc:c<X.length) (hf:XG D c=c) (i:Nat):Y7 X D cl c (Y5 (XG D) X.length c) i↔RT X cl c i:=by
 have hlo:BE X=true:=gEg (gE4 hv).1
 constructor
 rotate_left
 ·rintro ⟨u,hu,h1,h2⟩
  rcases Js hv h hc h1 with e | ⟨t,he,h3⟩
  ·exact ⟨u,DH.2 ⟨hu,by rw [<- e,hf]⟩,.inl h2⟩
  rw [hf] at he
  obtain ⟨s,hs,hsc,a,ha,h0,hne,hat⟩:=L5 hv he
  have hb:=EJ hv hs ha
  refine ⟨s,DH.2 ⟨hs,hsc⟩,.inr ⟨a,ha,h0,hne,(O6 hv h hb.2.2.2).1 ?_⟩⟩
  rw [hat];exact ⟨u,hu,h3,h2⟩
 rintro ⟨s,hs,h1⟩
 obtain ⟨hsl,hsc⟩:=DH.1 hs
 have hcs:Rc (WP true X) c s:=by rw [<- hsc];exact (BN hv h hsl).2.2.2.1
 rcases h1 with h1 | ⟨a,ha,h0,_,u,hu,h3,h4⟩
 ·exact ⟨s,hsl,hcs,h1⟩
 have hb:=EJ hv hsl ha
 have hadj:a.2.toNat∈WP true X s:=by
  rw [Gs hv]
  have:((0:Int),((a.2.toNat:Nat):Int))=a:=by
   rcases a with ⟨x,y⟩
   simp only at h0 hb ⊢
   rw [h0];congr 1;omega
  rw [this];exact ha
 exact ⟨u,hu,(hcs.trans (.one hadj)).trans h3,h4⟩
theorem Sv (hv:Bv X=true) (h:CpOk X D) {c:Nat} (hc:c<X.length) (hf:XG D c=c) (e:Int) (i:Nat):Y8 X D cl c (Y5 (XG D) X.length c) e i↔RV X cl c e i:=by
 have hlo:BE X=true:=gEg (gE4 hv).1
 constructor
 rotate_left
 ·rintro ⟨hn,u,hu,h1,a,ha,h2,h3⟩
  rcases Js hv h hc h1 with ee | ⟨t,he,h4⟩
  ·exact ⟨u,DH.2 ⟨hu,by rw [<- ee,hf]⟩,a,ha,.inl ⟨by rw [h2];exact hn,h2,h3⟩⟩
  rw [hf] at he
  obtain ⟨s,hs,hsc,b,hb1,h0,hne,hat⟩:=L5 hv he
  have hb:=EJ hv hs hb1
  refine ⟨s,DH.2 ⟨hs,hsc⟩,b,hb1,.inr ⟨h0,hne,(LU hv h hb.2.2.2).1 ?_⟩⟩
  rw [hat];exact ⟨hn,u,hu,h4,a,ha,h2,h3⟩
 rintro ⟨s,hs,a,ha,h1⟩
 obtain ⟨hsl,hsc⟩:=DH.1 hs
 have hcs:Rc (WP true X) c s:=by rw [<- hsc];exact (BN hv h hsl).2.2.2.1
 rcases h1 with ⟨h0,h1,h2⟩ | ⟨h0,_,hn,u,hu,h3,h4⟩
 ·exact ⟨by rw [<- h1];exact h0,s,hsl,hcs,a,ha,h1,h2⟩
 have hb:=EJ hv hsl ha
 have hadj:a.2.toNat∈WP true X s:=by
  rw [Gs hv]
  have:((0:Int),((a.2.toNat:Nat):Int))=a:=by
   rcases a with ⟨x,y⟩
   simp only at h0 hb ⊢
   rw [h0];congr 1;omega
  rw [this];exact ha
 exact ⟨hn,u,hu,(hcs.trans (.one hadj)).trans h3,h4⟩
end
theorem V0 {X:List (List Ar)} {cl:List Int} (hc:Nrm X.length cl) (hn:X.length<=64) {v:Nat} (hv:v<X.length):∃ i,i<64/\RT X cl v i:=by
 have hcl:=hc.len
 have hm:cl.getD v 0∈cl:=by rw [gE2,gE1 (by omega)];exact gE6 _
 have:=hc.rng _ hm
 exact ⟨(cl.getD v 0).toNat,by omega,v,hv,.refl _,by omega⟩
theorem WS.or {v w:Nat} {p q r:Nat->Prop} (hv:WS v p) (hw:WS w q) (h:∀ i,i<64->(r i↔p i\/q i)):WS (v ||| w) r:=
 ⟨Uj hv.1 hw.1,fun i hi=>by rw [Sr,hv.2 i hi,hw.2 i hi,h i hi]⟩
theorem WS.pow {k:Nat} (hk:k<64):WS (2 ^ k) (fun i=>k=i):=⟨KY hk,fun i _=>Uk⟩
theorem WS.zero {p:Nat->Prop} (h:∀ i,¬ p i):WS 0 p:=⟨by omega,fun i _=>by simp [h i]⟩
theorem WS.iff {w:Nat} {p q:Nat->Prop} (h:WS w p) (e:∀ i,i<64->(p i↔q i)):WS w q:=⟨h.1,fun i hi=>by rw [h.2 i hi,e i hi]⟩
theorem Qh (X:List (List Ar)) (D cl:List Int) (c:Nat) (l:List Nat) (i:Nat):¬ Y7 X D cl c (l.take 0) i:=by rintro ⟨s,hs,_⟩;simp at hs
theorem Sw (X:List (List Ar)) (D cl:List Int) (c:Nat) (l:List Ar) (i:Nat):¬ gT X D cl c (l.take 0) i:=by rintro ⟨s,hs,_⟩;simp at hs
theorem Qi {X:List (List Ar)} {D cl:List Int} {c:Nat} {l:List Nat} {k:Nat} (h:k<l.length) (i:Nat):Y7 X D cl c (l.take (k+1)) i↔Y7 X D cl c (l.take k) i\/cl.getD l[k] 0=(i:Int)\/gT X D cl c (X.getD l[k] []) i:=by
 unfold Y7
 rw [gE8 h]
 simp only [List.mem_append,List.mem_singleton]
 constructor
 ·rintro ⟨s,hs | hs,h1⟩
  ·exact .inl ⟨s,hs,h1⟩
  subst hs;exact .inr h1
 rintro (⟨s,hs,h1⟩ | h1)
 ·exact ⟨s,.inl hs,h1⟩
 exact ⟨_,.inr rfl,h1⟩
theorem Sx {X:List (List Ar)} {D cl:List Int} {c:Nat} {row:List Ar} {k:Nat} (h:k<row.length) (i:Nat):gT X D cl c (row.take (k+1)) i↔gT X D cl c (row.take k) i\/(row[k].1=0/\XG D row[k].2.toNat ≠ c/\RT X cl row[k].2.toNat i):=by
 unfold gT
 rw [gE8 h]
 simp only [List.mem_append,List.mem_singleton]
 constructor
 ·rintro ⟨s,hs | hs,h1⟩
  ·exact .inl ⟨s,hs,h1⟩
  subst hs;exact .inr h1
 rintro (⟨s,hs,h1⟩ | h1)
 ·exact ⟨s,.inl hs,h1⟩
 exact ⟨_,.inr rfl,h1⟩
theorem Qj (X:List (List Ar)) (D cl:List Int) (c:Nat) (l:List Nat) (e:Int) (i:Nat):¬ Y8 X D cl c (l.take 0) e i:=by rintro ⟨s,hs,_⟩;simp at hs
theorem Sy (X:List (List Ar)) (D cl:List Int) (c:Nat) (l:List Ar) (e:Int) (i:Nat):¬ gV X D cl c (l.take 0) e i:=by rintro ⟨s,hs,_⟩;simp at hs
theorem Ql {X:List (List Ar)} {D cl:List Int} {c:Nat} {l:List Nat} {k:Nat} (h:k<l.length) (e:Int) (i:Nat):Y8 X D cl c (l.take (k+1)) e i↔Y8 X D cl c (l.take k) e i\/gV X D cl c (X.getD l[k] []) e i:=by
 unfold Y8
 rw [gE8 h]
 simp only [List.mem_append,List.mem_singleton]
 constructor
 ·rintro ⟨s,hs | hs,h1⟩
  ·exact .inl ⟨s,hs,h1⟩
  subst hs;exact .inr h1
 rintro (⟨s,hs,h1⟩ | h1)
 ·exact ⟨s,.inl hs,h1⟩
 exact ⟨_,.inr rfl,h1⟩
theorem Sz {X:List (List Ar)} {D cl:List Int} {c:Nat} {row:List Ar} {k:Nat} (h:k<row.length) (e:Int) (i:Nat):gV X D cl c (row.take (k+1)) e i↔gV X D cl c (row.take k) e i\/(row[k].1 ≠ 0/\row[k].1=e/\RT X cl row[k].2.toNat i)\/(row[k].1=0/\XG D row[k].2.toNat ≠ c/\RV X cl row[k].2.toNat e i):=by
 unfold gV
 rw [gE8 h]
 simp only [List.mem_append,List.mem_singleton]
 constructor
 ·rintro ⟨s,hs | hs,h1⟩
  ·exact .inl ⟨s,hs,h1⟩
  subst hs;exact .inr h1
 rintro (⟨s,hs,h1⟩ | h1)
 ·exact ⟨s,.inl hs,h1⟩
 exact ⟨_,.inr rfl,h1⟩
structure VSt (H:List Ob) (L:Nat) (V:List (Int × Nat × Nat)) (N:Int->Nat->Prop):Prop where
 nd:(V.map (·.1)).Nodup
 nk:(V.map (·.2.1)).Nodup
 ob:∀ p∈V,L<=p.2.1/\H[p.2.1]?=some (C4 p.2.2)/\p.2.2<2 ^ 64/\∃ i,i<64/\p.2.2.testBit i=true
 ex:∀ e i,i<64->((∃ p∈V,p.1=e/\p.2.2.testBit i=true)↔N e i)
theorem VSt.nil (H:List Ob) (L:Nat) {N:Int->Nat->Prop} (h:∀ e i,¬ N e i):VSt H L [] N:=⟨by simp,by simp,by simp,fun e i _=>by simp [h e i]⟩
theorem VSt.iff {H:List Ob} {L:Nat} {V:List (Int × Nat × Nat)} {N M:Int->Nat->Prop} (h:VSt H L V N) (e:∀ e i,i<64->(N e i↔M e i)):VSt H L V M:=⟨h.nd,h.nk,h.ob,fun x i hi=>(h.ex x i hi).trans (e x i hi)⟩
theorem VSt.pre {H G:List Ob} {L:Nat} {V:List (Int × Nat × Nat)} {N:Int->Nat->Prop} (h:VSt H L V N) (hp:Pre H G):VSt G L V N:=⟨h.nd,h.nk,fun p hp2=>by obtain ⟨a,b,c⟩:=h.ob p hp2;exact ⟨a,hp.at b,c⟩,h.ex⟩
theorem Gv {α β:Type} {f:α->β}:∀ {l:List α},(l.map f).Nodup->∀ {a b},a∈l->b∈l->f a=f b->a=b
 | [],_,_,_,h,_,_=>by simp at h
 | x :: l,hn,a,b,ha,hb,e=>by
  simp only [List.map_cons,List.nodup_cons] at hn
  rcases List.mem_cons.1 ha with h1 | h1
  ·rcases List.mem_cons.1 hb with h2 | h2
   ·rw [h1,h2]
   ·exact absurd (List.mem_map.2 ⟨b,h2,by rw [<- e,h1]⟩) hn.1
  ·rcases List.mem_cons.1 hb with h2 | h2
   ·exact absurd (List.mem_map.2 ⟨a,h1,by rw [e,h2]⟩) hn.1
   ·exact Gv hn.2 h1 h2 e
theorem VSt.setm {H:List Ob} {L i:Nat} {V:List (Int × Nat × Nat)} {N:Int->Nat->Prop} {kv:List (Value × C)} (h:VSt H L V N) (hi:H[i]?=some (.m kv)) (ob:Ob):VSt (H.set i ob) L V N:=⟨h.nd,h.nk,fun p hp=>by
 obtain ⟨a,b,c⟩:=h.ob p hp
 refine ⟨a,?_,c⟩
 have hne:i ≠ p.2.1:=by rintro rfl;rw [hi] at b;cases b
 rw [gE5 hne];exact b,h.ex⟩
theorem VSt.join {H G:List Ob} {L mid:Nat} {V:List (Int × Nat × Nat)} {N:Int->Nat->Prop} {e:Int} {w:Nat} {q:Nat->Prop} (h:VSt H L V N) (hm:H[mid]?=some (.m (Y4 V))) (hL:mid<L) (hLH:L<=H.length) (hw:WS w q) (hq:∃ i,i<64/\q i) (hj:SJ H mid V e w G):
  ∃ V',G[mid]?=some (.m (Y4 V'))/\VSt G L V' (fun e' i=>N e' i\/(e'=e/\q i))/\H.length<=G.length/\(∀ j,j<L->j ≠ mid->G[j]?=H[j]?)/\∀ j kv,H[j]?=some (.m kv)->j ≠ mid->G[j]?=some (.m kv):=by
 rcases hj with ⟨p,hp,he,rfl⟩ | ⟨hno,rfl⟩
 rotate_left
 ·have hml:mid<H.length:=Br hm
  refine ⟨V++[(e,H.length,w)],?_,⟨?_,?_,fun x hx=>?_,fun e' i hi=>?_⟩,by simp,fun j hj hjm=>by rw [gE5 (Ne.symm hjm),gEa (by omega)],fun j kv hj hjm=>by rw [gE5 (Ne.symm hjm),gEa (Br hj)];exact hj⟩
  rotate_left 4
  ·rw [<- h.ex e' i hi]
   simp only [List.mem_append,List.mem_singleton]
   constructor
   ·rintro ⟨x,hx | rfl,h1,h2⟩
    ·exact .inl ⟨x,hx,h1,h2⟩
    exact .inr ⟨h1.symm,(hw.2 i hi).1 h2⟩
   rintro (⟨x,hx,h1,h2⟩ | ⟨h1,h2⟩)
   ·exact ⟨x,.inl hx,h1,h2⟩
   exact ⟨_,.inr rfl,h1.symm,(hw.2 i hi).2 h2⟩
  ·exact gEc (by simp;omega)
  ·rw [List.map_append,List.nodup_append]
   refine ⟨h.nd,by simp,fun a ha b hb=>?_⟩
   obtain ⟨p,hp,rfl⟩:=List.mem_map.1 ha
   simp only [List.map_cons,List.map_nil,List.mem_singleton] at hb
   rw [hb];exact hno p hp
  ·rw [List.map_append,List.nodup_append]
   refine ⟨h.nk,by simp,fun a ha b hb=>?_⟩
   obtain ⟨p,hp,rfl⟩:=List.mem_map.1 ha
   simp only [List.map_cons,List.map_nil,List.mem_singleton] at hb
   have:=Br (h.ob p hp).2.1
   omega
  rcases List.mem_append.1 hx with hx | hx
  ·obtain ⟨a1,a2,a3⟩:=h.ob x hx
   refine ⟨a1,?_,a3⟩
   have:=Br a2
   rw [gE5 (by omega),gEa this]
   exact a2
  simp only [List.mem_singleton] at hx
  subst hx
  refine ⟨hLH,?_,hw.1,?_⟩
  ·rw [gE5 (by simp only;omega)];exact Bp _ _
  obtain ⟨i,hi,hb⟩:=hq
  exact ⟨i,hi,(hw.2 i hi).2 hb⟩
 obtain ⟨o1,o2,o3,o4⟩:=h.ob p hp
 obtain ⟨A,B,hAB⟩:=List.append_of_mem hp
 have hsame:Y4 (A++(p.1,p.2.1,p.2.2 ||| w) :: B)=Y4 V:=by rw [hAB];simp [Y4]
 have hne:∀ x∈V,x ≠ p->x.2.1 ≠ p.2.1:=fun x hx hxp e=>hxp (Gv h.nk hx hp e)
 have hpA:p ∉ A++B:=by
  have:=h.nd
  rw [hAB] at this
  intro hin
  simp only [List.map_append,List.map_cons] at this
  have h2:=(List.perm_middle (a:=p.1) (l₁:=A.map (·.1)) (l₂:=B.map (·.1))).nodup_iff.1 this
  rw [List.nodup_cons] at h2
  exact h2.1 (by rw [<- List.map_append];exact List.mem_map.2 ⟨p,hin,rfl⟩)
 have hmem:∀ x,x∈V↔x=p\/x∈A++B:=fun x=>by rw [hAB];simp only [List.mem_append,List.mem_cons];constructor <;> (intro h;rcases h with h | h | h <;> simp [h])
 refine ⟨A++(p.1,p.2.1,p.2.2 ||| w) :: B,?_,⟨?_,?_,fun x hx=>?_,fun e' i hi=>?_⟩,by simp,fun j hj hjm=>by rw [gE5 (by omega)],fun j kv hj hjm=>by
  have hne2:p.2.1 ≠ j:=by rintro rfl;rw [o2] at hj;cases hj
  rw [gE5 hne2];exact hj⟩
 ·rw [hsame,gE5 (by omega)];exact hm
 ·have:=h.nd;rw [hAB] at this;simpa using this
 ·have:=h.nk;rw [hAB] at this;simpa using this
 ·have hx2:x=(p.1,p.2.1,p.2.2 ||| w)\/x∈A++B:=by
   simp only [List.mem_append,List.mem_cons] at hx ⊢
   rcases hx with h | h | h <;> simp [h]
  rcases hx2 with rfl | hx2
  ·refine ⟨o1,?_,Uj o3 hw.1,?_⟩
   ·exact gEc (Br o2)
   obtain ⟨i,hi,hb⟩:=o4
   exact ⟨i,hi,Sr.2 (.inl hb)⟩
  have hxV:=(hmem x).2 (.inr hx2)
  obtain ⟨a1,a2,a3⟩:=h.ob x hxV
  refine ⟨a1,?_,a3⟩
  rw [gE5 (Ne.symm (hne x hxV (fun e=>hpA (e ▸ hx2))))]
  exact a2
 have e1:(∃ x∈A++(p.1,p.2.1,p.2.2 ||| w) :: B,x.1=e'/\x.2.2.testBit i=true)↔(p.1=e'/\(p.2.2 ||| w).testBit i=true)\/∃ x∈A++B,x.1=e'/\x.2.2.testBit i=true:=by
  simp only [List.mem_append,List.mem_cons]
  constructor
  ·rintro ⟨x,h | h | h,h2⟩
   ·exact .inr ⟨x,.inl h,h2⟩
   ·subst h;exact .inl h2
   exact .inr ⟨x,.inr h,h2⟩
  rintro (h2 | ⟨x,h | h,h2⟩)
  ·exact ⟨_,.inr (.inl rfl),h2⟩
  ·exact ⟨x,.inl h,h2⟩
  exact ⟨x,.inr (.inr h),h2⟩
 have e2:(∃ x∈V,x.1=e'/\x.2.2.testBit i=true)↔(p.1=e'/\p.2.2.testBit i=true)\/∃ x∈A++B,x.1=e'/\x.2.2.testBit i=true:=by
  constructor
  rotate_left
  ·rintro (h2 | ⟨x,hx,h2⟩)
   ·exact ⟨p,hp,h2⟩
   exact ⟨x,(hmem x).2 (.inr hx),h2⟩
  rintro ⟨x,hx,h2⟩
  rcases (hmem x).1 hx with rfl | hx
  ·exact .inl h2
  exact .inr ⟨x,hx,h2⟩
 rw [e1,Sr,hw.2 i hi,<- h.ex e' i hi,e2]
 constructor
 ·rintro (⟨a,b | b⟩ | c)
  ·exact .inl (.inl ⟨a,b⟩)
  ·exact .inr ⟨a ▸ he,b⟩
  exact .inl (.inr c)
 rintro ((⟨a,b⟩ | c) | ⟨a,b⟩)
 ·exact .inl ⟨a,.inl b⟩
 ·exact .inr c
 exact .inl ⟨he.trans a.symm,.inr b⟩
end Go.Proofs.YtjijjfkalheokaaGreatDoor
