/- Lemmas. -/
import Derived.Test.YtjijjfkalheokaaDoorZk
import Derived.Test.YtjijjfkalheokaaDoorG36
import Derived.Test.YtjijjfkalheokaaDoorG11
import Derived.Test.YtjijjfkalheokaaDoorDw1
import Derived.Test.YtjijjfkalheokaaDoorQu1
import Derived.Test.YtjijjfkalheokaaDoorG39
import Derived.Test.YtjijjfkalheokaaDoorG45
import Derived.Test.YtjijjfkalheokaaDoorG70
import Derived.Test.YtjijjfkalheokaaDoorMK
import Derived.Test.YtjijjfkalheokaaDoorMF
import Derived.Test.YtjijjfkalheokaaDoorMlz
namespace Go.Proofs.YtjijjfkalheokaaDoor
set_option linter.unusedVariables false
set_option linter.unusedSimpArgs false
open Go.RowKit
set_option maxRecDepth 100000
attribute [local go_sem] List.set_cons_zero List.set_cons_succ List.map_cons List.map_nil List.take_succ_cons List.take_zero List.drop_zero List.drop_succ_cons C.pl C.one List.all_cons List.all_nil Bool.and_true

theorem Ye (T:List Int) (hT:TpOk T) (a0 n:Nat) (ha:a0<=1000000) (hn1:1<=n) (hn:n<=20):
  FC Tryd.prog 23 [.a (.c (.p 0 0)),.i n] [tape T a0] (fun r o=>∃ (a':Nat) (R:List (List Ar)),o=[tape T a',.r ⟨30,1,true,Bd R⟩,.r ⟨24,1,false,[.s 1 R.length]⟩]/\r=.a (.g [.s 1 R.length])/\a'<=a0+1+7*n/\1<=R.length/\R.length<=n/\OkSys 3 R.length R):=by
 refine A8 Tryd.func23 rfl (by rw [Tryd.ntmps23];simp) ?_
 rw [Tryd.ntmps23]
 simp only [Bs,tape,Yu]
 (refine Ud ?_;(repeat clear hK K);repeat refine kq fun K hK=>?_)
 (refine A9 rfl ?_;intro K1 hK1;refine ct [0] (Wz T a0 n hT (by omega) (by omega)) ?_ ?_)
 ·rintro _ _ ⟨rfl,v,rfl,_⟩;rfl
 rintro _ _ ⟨rfl,m,rfl,hm⟩
 (simp only [AK,CB,tape,List.append_nil,List.nil_append,List.length_map,go_sem];refine hK1 _ ?_;clear hK1 K1)
 have em:(1+(m:Int)).toNat=m+1:=by omega
 (refine Ue (an @em (an @List.set_cons_zero.{0} @List.set_cons_succ.{0})) ?_;(repeat clear hK K);repeat refine kq fun K hK=>?_)
 refine B1 (I1 2 rfl) ?_
 simp only [XN,List.set_cons_zero,List.set_cons_succ]
 refine Ac (fun p:Nat × List (List Ar) × Nat=>{ tm:=[(0,.a (.c (.p 0 0))),(4,.a (.c (.p 1 0))),(5,.a (.c (.p 3 0))),(6,.i p.1)],hp:=[.r ⟨54,2,false,[.t 1 (Af T),.v (.int .i64 p.2.2)]⟩,.r ⟨24,1,false,[.v (.slice none 0 0)]⟩,.r ⟨30,1,true,Bd p.2.1⟩,.r ⟨24,1,false,[.s 2 (m+1)]⟩],n:=46,pin:=1 })
  (fun p=>p.1<=m+1/\p.2.2<=a0+1+7*p.1/\OkSys 3 (m+1) p.2.1/\∀ q r,p.1<=q->p.2.1[q]?=some r->r=[]) (fun p=>m+1 - p.1) (0,List.replicate (m+1) [],a0+1) ?_ ?_ ?_
 ·refine ⟨by simp,by simp,Xs _,fun q r _ hr=>?_⟩
  exact List.eq_of_mem_replicate (gE9 hr)
 ·exact Un
 rintro ⟨i,R,a⟩ ⟨hi,hA,hR,hE⟩ K hK
 simp only at hi hA hR hE ⊢
 (refine Ud ?_;(repeat clear hK K);repeat refine kq fun K hK=>?_)
 (refine Aw ?_;intro X Y hX hY;simp only [go_sem])
 refine ⟨fun h=>hX ?_,fun h=>hY ?_⟩
 rotate_left
 ·have hi1:i=m+1:=by simp at h;omega
  clear hX hY X Y
  (refine Uh ?_;repeat clear hK K)
  (refine Ue (an @List.set_cons_zero.{0} @List.set_cons_succ.{0}) ?_;(repeat clear hK K);repeat refine kq fun K hK=>?_)
  (repeat (first | (refine Au ?_;intro K hK) | refine Ah ?_ | refine Aa ?_ | (refine B4 rfl rfl ?_;intro K1 hK1;simp only [go_sem,List.set_cons_zero,List.set_cons_succ,C.pl,C.one,List.all_cons,List.all_nil,Bool.and_true,List.take_succ_cons,List.take_zero,List.drop_zero];(first | refine hK1 _ ?_ | refine AE (hK1 _ ?_));clear hK1 K1) | ((first | refine Ab ?_ | refine Aj ?_);refine hK _ ?_;clear hK K)))
  refine Up [0,2,1] Tryd.results23 @F3 ?_
  exact ⟨a,R,by simp only [tape,hR.1],by rw [hR.1],by omega,by rw [hR.1];omega,by rw [hR.1];omega,by rw [hR.1];exact hR⟩
 have hi1:i<m+1:=by simp at h;omega
 clear hX hY X Y
 (refine Ud ?_;(repeat clear hK K);repeat refine kq fun K hK=>?_)
 (refine A9 rfl ?_;intro K1 hK1;refine ct [0] (Wz T a 4 hT (by omega) (by omega)) ?_ ?_)
 ·rintro _ _ ⟨rfl,v,rfl,_⟩;rfl
 rintro _ _ ⟨rfl,w0,rfl,hw0⟩
 (simp only [AK,CB,tape,Ws,List.append_nil,List.nil_append,List.length_map,go_sem];refine hK1 _ ?_;clear hK1 K1)
 (refine Ud ?_;(repeat clear hK K);repeat refine kq fun K hK=>?_)
 refine Ac (fun p:Nat × List (List Ar) × Nat=>{ tm:=[(0,.a (.c (.p 0 0))),(4,.a (.c (.p 1 0))),(5,.a (.c (.p 3 0))),(6,.i i),(7,.i p.1)],hp:=[.r ⟨54,2,false,[.t 1 (Af T),.v (.int .i64 p.2.2)]⟩,.r ⟨24,1,false,[.v (.slice none 0 0)]⟩,.r ⟨30,1,true,Bd p.2.1⟩,.r ⟨24,1,false,[.s 2 (m+1)]⟩],n:=46,pin:=1 })
  (fun p=>p.1<=3/\p.2.2+2*p.1<=a+7/\OkSys 3 (m+1) p.2.1/\(∀ r,p.2.1[i]?=some r->r.length+p.1<=3)/\∀ q r,i+1<=q->p.2.1[q]?=some r->r=[]) (fun p=>p.1) (w0,R,a+1) ?_ ?_ ?_
 ·refine ⟨by simp only;omega,by simp only;omega,hR,fun r hr=>?_,fun q r hq hr=>hE q r (by omega) hr⟩
  rw [hE i r (Nat.le_refl _) hr];simp;omega
 ·exact Un
 rintro ⟨w,R2,a2⟩ ⟨hw,hA2,hR2,hi2,hE2⟩ K hK
 simp only at hw hA2 hR2 hi2 hE2 ⊢
 have hl2:i<R2.length:=by rw [hR2.1];exact hi1
 have hg2:=gE1 hl2
 have hrow:=hR2.2 _ (gE6 hl2)
 (refine Ud ?_;(repeat clear hK K);repeat refine kq fun K hK=>?_)
 (refine Aw ?_;intro X Y hX hY;simp only [go_sem])
 refine ⟨fun h=>hX ?_,fun h=>hY ?_⟩
 rotate_left
 ·have hw0:w=0:=by simp at h;omega
  clear hX hY X Y
  (refine Uh ?_;repeat clear hK K)
  (refine Ud ?_;(repeat clear hK K);repeat refine kq fun K hK=>?_)
  refine Um ?_
  refine hK _ (i+1,R2,a2) ⟨by simp only;omega,by simp only;omega,hR2,fun q r hq hr=>hE2 q r hq hr⟩ (by simp only;omega) ?_
  exact Un
 have hw1:0<w:=by simpa using h
 clear hX hY X Y
 (refine Ud ?_;(repeat clear hK K);repeat refine kq fun K hK=>?_)
 refine C2 [0] [(0,0,0),(2,0,0),(3,0,0),(5,0,0),(8,0,0),(10,0,0),(11,0,0),(1,1,18),(4,1,16),(6,0,0),(7,1,16),(12,1,14),(13,0,0),(9,2,0),(14,2,0),(15,0,0),(16,2,0),(17,0,0),(18,2,0)] (by kernel_rfl) (by kernel_rfl) (by intro c st h;simp [Ai,AX,Tz] at h) ?_
 (repeat (first | (refine TY rfl rfl rfl ?_;intro K1 hK1;simp only [undef,TN,go_sem,F2,WC hg2];first | (refine hK1 _ ?_;clear hK1 K1) | (refine AE (hK1 _ ?_);clear hK1 K1)) | (refine TZ rfl rfl rfl rfl rfl rfl rfl rfl rfl ?_;intro K1 hK1;simp only [undef,TN,go_sem,F2,WC hg2];first | (refine hK1 _ ?_;clear hK1 K1) | (refine AE (hK1 _ ?_);clear hK1 K1))))
 (refine U0 rfl rfl ?_;intro K1 hK1;refine DI (ids:=[]) [0] (Xc T hT a2 (by omega)) rfl rfl (by simp only [TN,go_sem]) (by kernel_rfl) rfl rfl rfl (by (simp only [TN,Er,List.map_append,List.append_nil,AV.ren,A0.ren,C.ren,idx,FB,Nk,go_sem]) <;> rfl) (by (simp only [Tx,Ob.ren,C.ren,idx,FB,Nk,List.getD_cons_zero,List.getD_cons_succ,tape,go_sem]) <;> rfl) ?_ ?_)
 ·rintro _ _ ⟨rfl,v,rfl,_⟩;exact WK rfl
 rintro _ _ ⟨rfl,e,rfl,he⟩
 (simp only [AK,CB,tape,Ws,List.append_nil,List.nil_append,List.length_map,go_sem];refine hK1 _ ?_;clear hK1 K1)
 (repeat (first | (refine TY rfl rfl rfl ?_;intro K1 hK1;simp only [undef,TN,go_sem];first | (refine hK1 _ ?_;clear hK1 K1) | (refine AE (hK1 _ ?_);clear hK1 K1)) | (refine TZ rfl rfl rfl rfl rfl rfl rfl rfl rfl ?_;intro K1 hK1;simp only [undef,TN,go_sem];first | (refine hK1 _ ?_;clear hK1 K1) | (refine AE (hK1 _ ?_);clear hK1 K1))))
 (refine U0 rfl rfl ?_;intro K1 hK1;refine DI (ids:=[]) [0] (Wz T (a2+1) (m+1) hT (by omega) (by omega)) rfl rfl (by simp only [TN,go_sem]) (by kernel_rfl) rfl rfl rfl (by (simp only [TN,Er,List.map_append,List.append_nil,AV.ren,A0.ren,C.ren,idx,FB,Nk,go_sem]) <;> rfl) (by (simp only [Tx,Ob.ren,C.ren,idx,FB,Nk,List.getD_cons_zero,List.getD_cons_succ,tape,go_sem]) <;> rfl) ?_ ?_)
 ·rintro _ _ ⟨rfl,v,rfl,_⟩;exact WK rfl
 rintro _ _ ⟨rfl,t,rfl,ht⟩
 (simp only [AK,CB,tape,Ws,List.append_nil,List.nil_append,List.length_map,go_sem];refine hK1 _ ?_;clear hK1 K1)
 (repeat (first | (refine TY rfl rfl rfl ?_;intro K1 hK1;simp only [undef,TN,go_sem];first | (refine hK1 _ ?_;clear hK1 K1) | (refine AE (hK1 _ ?_);clear hK1 K1)) | (refine TZ rfl rfl rfl rfl rfl rfl rfl rfl rfl ?_;intro K1 hK1;simp only [undef,TN,go_sem];first | (refine hK1 _ ?_;clear hK1 K1) | (refine AE (hK1 _ ?_);clear hK1 K1))))
 (refine U0 rfl rfl ?_;intro K1 hK1;refine Bb ?_;refine DI (ids:=[]) [] (Xk R2[i] (e,(t:Int)) (by have:=hrow.2.1;omega)) rfl rfl (by simp only [TN,go_sem]) (by kernel_rfl) rfl rfl rfl (by (simp only [TN,Er,List.map_append,List.append_nil,AV.ren,A0.ren,C.ren,idx,FB,Nk,go_sem]) <;> rfl) (by (simp only [Tx,Ob.ren,C.ren,idx,FB,Nk,List.getD_cons_zero,List.getD_cons_succ,CH,go_sem]) <;> rfl) ?_ ?_)
 ·rintro _ _ ⟨rfl,rfl⟩ i o hi hl;simp at hl
 rintro _ _ ⟨rfl,rfl⟩
 (simp only [AK,CB,CH,Ws,List.append_nil,List.nil_append,List.length_map,go_sem];refine hK1 _ ?_;clear hK1 K1)
 (repeat (first | (refine TY rfl rfl rfl ?_;intro K1 hK1;simp only [undef,TN,go_sem];first | (refine hK1 _ ?_;clear hK1 K1) | (refine AE (hK1 _ ?_);clear hK1 K1)) | (refine TZ rfl rfl rfl rfl rfl rfl rfl rfl rfl ?_;intro K1 hK1;simp only [undef,TN,go_sem];first | (refine hK1 _ ?_;clear hK1 K1) | (refine AE (hK1 _ ?_);clear hK1 K1))))
 refine U1 rfl rfl rfl ?_;intro K1 hK1
 refine Ba rfl ?_;simp only [undef,TN,ST.put,De,A0.cells,F2,List.set_cons_zero,List.set_cons_succ,WU,go_sem]
 (first | (refine hK1 _ ?_;clear hK1 K1) | (refine AE (hK1 _ ?_);clear hK1 K1))
 refine Po ⟨by simp,by simp,?_⟩
 refine hK _ ?_;clear hK K
 (refine Ud ?_;(repeat clear hK K);repeat refine kq fun K hK=>?_)
 refine Um ?_
 have hx:0<=e/\e<=1025/\0<=(t:Int)/\(t:Int)<((m+1:Nat):Int):=⟨he.1,he.2,by omega,by omega⟩
 have e1:((w:Int) - 1)=((w - 1:Nat):Int):=by omega
 have hw3:=hi2 _ hg2
 refine hK _ (w - 1,R2.set i (GR (e,(t:Int)) R2[i]),a2+2) ⟨by simp only;omega,by simp only;omega,hR2.set ?_ i,fun r hr=>?_,fun q r hq hr=>?_⟩ (by simp only;omega) ?_
 rotate_left 2
 ·simp only at hr
  rw [gE5 (by omega)] at hr
  exact hE2 q r hq hr
 ·(refine BG ?_;simp only [Dl,go_sem,e1];try simp)
 ·exact (OkRow.ins ⟨hrow.1,Nat.le_refl _,hrow.2.2⟩ hx).le (by omega)
 simp only at hr ⊢
 rw [gEc hl2] at hr
 cases hr
 have:=Nl (e,(t:Int)) R2[i]
 omega

set_option maxHeartbeats 1000000 in
theorem XO (T:List Int) (hT:TpOk T) (a0 n:Nat) (ha:a0<=500000) (hn1:1<=n) (hn:n<=20):
  FC Tryd.prog 10 [.a (.c (.p 0 0)),.i n] [tape T a0] (fun r o=>∃ (a':Nat) (R:List (List Ar)),o=[tape T a',Yu R]/\r=BS R/\a'<=a0+1+8*n/\1<=R.length/\R.length<=n/\OkSys 4 R.length R):=by
 refine A8 Tryd.func10 rfl (by rw [Tryd.ntmps10];simp) ?_
 rw [Tryd.ntmps10]
 simp only [Bs,tape,Yu,BS]
 (refine Ud ?_;(repeat clear hK K);repeat refine kq fun K hK=>?_)
 (refine A9 rfl ?_;intro K1 hK1;refine ct [0] (Ye T hT a0 n (by omega) hn1 hn) ?_ ?_)
 ·rintro _ _ ⟨_,_,rfl,rfl,_⟩;rfl
 rintro _ _ ⟨a1,R0,rfl,rfl,ha1,hl1,hl2,hok⟩
 (simp only [AK,CB,tape,Ws,List.append_nil,List.nil_append,List.length_map,go_sem];refine hK1 _ ?_;clear hK1 K1)
 (refine Ud ?_;(repeat clear hK K);repeat refine kq fun K hK=>?_)
 refine B1 (Ad [0,1,2,4] rfl rfl) ?_
 (try simp only [List.set_nil,List.take_nil,List.take_zero,List.map_append,go_sem])
 (try simp only [F3])
 obtain ⟨m,hm⟩:∃ m,m=R0.length:=⟨_,rfl⟩
 rw [<- hm] at hl1 hl2 hok
 (try rw [<- hm])
 refine Ac (fun p:Nat × List (List Ar) × Nat=>{ tm:=[(0,.a (.c (.p 0 0))),(4,.a (.c (.p 1 0))),(5,.a (.c (.p 3 0))),(6,.i p.1)],hp:=[.r ⟨54,2,false,[.t 1 (Af T),.v (.int .i64 p.2.2)]⟩,.r ⟨24,1,false,[.v (.slice none 0 0)]⟩,.r ⟨30,1,true,Bd p.2.1⟩,.r ⟨24,1,false,[.s 2 m]⟩],n:=34,pin:=1 })
  (fun p=>p.1+1<=m/\p.2.2<=a1+p.1/\OkSys 4 m p.2.1/\∀ q r,p.1<=q->p.2.1[q]?=some r->r.length<=3) (fun p=>m - p.1) (0,R0,a1) ?_ ?_ ?_
 ·exact ⟨by simp only;omega,by simp,hok.le (by omega),fun q r _ hr=>(hok.2 r (gE9 hr)).2.1⟩
 ·exact Un
 rintro ⟨s,R,a⟩ ⟨hs,hA,hR,hE⟩ K hK
 simp only at hs hA hR hE ⊢
 have hRl:=hR.1
 by_cases hlt:s+1<m
 rotate_left
 ·have hl0:decide ((s:Int)+1<(m:Int))=false:=by simp;omega
  (refine Ue @hl0 ?_;(repeat clear hK K);repeat refine kq fun K hK=>?_)
  refine Ul ?_
  (refine Uh ?_;repeat clear hK K)
  refine B1 (B6 (r:=⟨30,1,true,Bd R⟩) (ri:=⟨24,1,false,[.s 2 m]⟩) (ts:=Ae R) 3 0 2 m (by decide) rfl rfl rfl rfl (show 0<1 by omega) (by simp only [F2,hRl];omega) (F4 R)) ?_
  refine B1 (I1 3 rfl) ?_
  simp only [TF,List.map_cons,List.map_nil,go_sem]
  (refine Ud ?_;(repeat clear hK K);repeat refine kq fun K hK=>?_)
  refine Uo [0,1] Tryd.results10 ?_
  exact ⟨a,R,rfl,rfl,by omega,by omega,by omega,by rw [hRl];exact hR⟩
 have hl0:decide ((s:Int)+1<(m:Int))=true:=by simp;omega
 have hl2':s<R.length:=by omega
 have hg2:=gE1 hl2'
 have hrow:=hR.2 _ (gE6 hl2')
 have hne:(Bd R).isEmpty=false:=by
  have:=F2 R
  cases hc:Bd R with
  | nil=>rw [hc] at this;simp at this;omega
  | cons _ _=>rfl
 (refine Ue @hl0 ?_;(repeat clear hK K);repeat refine kq fun K hK=>?_)
 refine Uk ?_
 (refine Ud ?_;(repeat clear hK K);repeat refine kq fun K hK=>?_)
 (refine B7 [2,3] (.m 0 0 0 (.m 2 0 0 (.m 3 0 0 (.m 5 0 0 (.m 8 0 0 (.m 10 0 0 (.m 11 0 0 (.m 1 1 15 (.m 4 1 13 (.m 6 0 0 (.m 7 1 13 (.a 9 (.m 12 0 0 (.a 13 (.m 14 0 0 (.a 15 .e)))))))))))))))) (by kernel_rfl) (by kernel_rfl) (by intro c st h;simp [Ai,AX,Tz] at h) ?_)
 (refine Ug (an @F2 (WC hg2)) ?_;repeat clear hK K)
 (refine Pq rfl rfl rfl ?_;intro K1 hK1;refine yX [0] ?_;refine xy [0] (Xc T hT a (by omega)) ?_ ?_)
 ·rintro _ _ ⟨rfl,v,rfl,_⟩;exact WK rfl
 rintro _ _ ⟨rfl,e,rfl,he⟩
 (simp only [AK,CB,tape,Ws,List.append_nil,List.nil_append,List.length_map,go_sem];refine hK1 _ ?_;clear hK1 K1)
 (refine Uf ?_;repeat clear hK K)
 (refine Pq rfl rfl rfl ?_;intro K1 hK1;refine yX [] ?_;refine DI (ids:=[]) [] (Xk R[s] (e,(s:Int)+1) (by have:=hrow.2.1;omega)) rfl rfl (by simp only [go_sem]) (by kernel_rfl) rfl rfl rfl (by (simp only [go_sem]) <;> rfl) (by (simp only [Tx,CH,go_sem]) <;> rfl) ?_ ?_)
 ·rintro _ _ ⟨rfl,rfl⟩ i o hi hl;simp at hl
 rintro _ _ ⟨rfl,rfl⟩
 (simp only [AK,CB,CH,Ws,List.append_nil,List.nil_append,List.length_map,go_sem];refine hK1 _ ?_;clear hK1 K1)
 (refine Uf ?_;repeat clear hK K)
 (refine U5 rfl rfl rfl rfl ?_;intro K1 hK1;refine Ba rfl ?_;simp only [go_sem,ST.put,De,A0.cells,F2,WU];(first | refine hK1 _ ?_ | refine AE (hK1 _ ?_));clear hK1 K1)
 (refine Uf ?_;repeat clear hK K)
 (refine Ud ?_;(repeat clear hK K);repeat refine kq fun K hK=>?_)
 refine Um ?_
 have hx:0<=e/\e<=1025/\0<=(s:Int)+1/\(s:Int)+1<(m:Int):=⟨he.1,he.2,by omega,by omega⟩
 have h3:=hE s _ (Nat.le_refl _) hg2
 refine hK _ (s+1,R.set s (GR (e,(s:Int)+1) R[s]),a+1) ⟨by simp only;omega,by simp only;omega,hR.set ?_ s,fun q r hq hr=>?_⟩ (by simp only;omega) ?_
 rotate_left 2
 ·exact Un
 ·exact (OkRow.ins (m:=m) ⟨hrow.1,h3,hrow.2.2⟩ hx)
 simp only at hr hq
 rw [gE5 (by omega)] at hr
 exact hE q r (by omega) hr
attribute [local go_sem] lga C.pl C.one
theorem Xu (r:List Ar):∀ (num old:List Int) (nxt:List Ar),(F9 r num old nxt).2.2.length<=nxt.length+r.length:=by
 induction r with
 | nil=>intro num old nxt;simp [F9]
 | cons a tl ih=>
  intro num old nxt
  have h1:=ih (AP num old a.2).1 (AP num old a.2).2 (GR (a.1,(AP num old a.2).1.getD a.2.toNat 0) nxt)
  have h2:=Nl (a.1,(AP num old a.2).1.getD a.2.toNat 0) nxt
  simp only [F9,List.length_cons]
  omega
theorem XP {R:List (List Ar)} {B:Nat} (hb:∀ r∈R,∀ a∈r,0<=a.2/\a.2<(R.length:Int)) (hB:∀ r∈R,r.length<=B):∀ (f i:Nat) (num old:List Int) (out:List (List Ar)),NumOk R.length num old->i=out.length->i<=old.length->(∀ x∈out,x.length<=B)->(Hs R f i num old out).1.length<=R.length/\∀ x∈(Hs R f i num old out).1,x.length<=B:=by
 intro f
 induction f with
 | zero=>
  intro i num old out hN hi ho hx
  have:=hN.le
  exact ⟨by simp only [Hs];omega,hx⟩
 | succ f ih=>
  intro i num old out hN hi ho hx
  have hle:=hN.le
  unfold Hs
  split
  ·exact ⟨by simp only;omega,hx⟩
  rename_i s hs
  have hs0:=hN.st s (gE9 hs)
  have hsl:s.toNat<R.length:=by omega
  have hg:R.getD s.toNat []=R[s.toNat]:=by rw [gE2,gE1 hsl];rfl
  rw [hg]
  have hil:=(List.getElem?_eq_some_iff.1 hs).1
  have hrm:=gE6 hsl
  generalize R[s.toNat]=r at *
  have hq:∀ a∈CI r,0<=a.2/\a.2<(R.length:Int):=fun a ha=>hb r hrm a ((C8 r a).1 ha)
  have hN2:=NumOk.go (CI r) [] hN hq
  have hl2:=Xu (CI r) num old []
  have hl3:=Lx r
  have hl4:=hB r hrm
  refine ih _ _ _ _ hN2 (by simp;omega) ?_ fun x hx2=>?_
  rotate_left
  ·rcases List.mem_append.1 hx2 with h | h
   ·exact hx x h
   simp at h;subst h
   simp only [List.length_nil,Nat.zero_add] at hl2
   omega
  have:∀ (q:List Ar) (num old:List Int) (nxt:List Ar),old.length<=(F9 q num old nxt).2.1.length:=by
   intro q
   induction q with
   | nil=>intro num old nxt;exact Nat.le_refl _
   | cons a tl ih2=>
    intro num old nxt
    simp only [F9]
    refine Nat.le_trans ?_ (ih2 _ _ _)
    unfold AP
    split <;> simp
  have:=this (CI r) num old []
  omega
theorem Wu {R:List (List Ar)} {B:Nat} (h1:1<=R.length) (hb:∀ r∈R,∀ a∈r,0<=a.2/\a.2<(R.length:Int)) (hB:∀ r∈R,r.length<=B):(CG R).1.length<=R.length/\∀ x∈(CG R).1,x.length<=B:=
 XP hb hB _ _ _ _ _ (NumOk.start h1) rfl (by simp) (by simp)
theorem X1 (l:List Int) (c:Int):∀ m:Int,WQ (l++[c]) m=(WQ l m && (!decide (c<0) && !decide (c > YR m l))):=by
 induction l with
 | nil=>intro m;simp [WQ,YR]
 | cons a r ih=>
  intro m
  have e:YR m (a :: r)=YR (YQ m a) r:=rfl
  simp only [List.cons_append,WQ,ih,e,Bool.and_assoc]
theorem Yx {α:Type} [DecidableEq α] (f:Nat->α) (k:Nat):WQ (UW f k).1 0=true/\YR 0 (UW f k).1=((UW f k).2:Int):=by
 induction k with
 | zero=>exact ⟨rfl,rfl⟩
 | succ k ih=>
  have hr:=(Ch f k).rng
  rcases EE f k with ⟨t,h1,h2,h3,h4⟩ | ⟨h3,h4⟩
  rotate_left
  ·rw [h4]
   generalize UW f k=p at *
   simp only [X1,WM,ih.1,ih.2,Bool.true_and,Bool.and_eq_true,Bool.not_eq_true',decide_eq_false_iff_not]
   refine ⟨by omega,?_⟩
   unfold YQ
   rw [if_pos (by omega)]
   omega
  rw [h4]
  have:=hr t h1
  generalize UW f k=p at *
  simp only [X1,WM,ih.1,ih.2,Bool.true_and,Bool.and_eq_true,Bool.not_eq_true',decide_eq_false_iff_not]
  refine ⟨by omega,?_⟩
  unfold YQ
  rw [if_neg (by omega)]
theorem Nrm.num {n:Nat} {c:List Int} (h:Nrm n c):WR c n=true:=by
 have h1:=(Yx (fun s=>c.getD s 0) n).1
 have hl:=h.len
 unfold Nrm at h
 rw [h] at h1
 simp [WR,h1,hl]
theorem XQ (l:List Int):∀ m:Int,WQ l m=true->∀ d:Int,m<=d->d<YR m l->d∈l:=by
 induction l with
 | nil=>intro m _ d h1 h2;simp [YR] at h2;omega
 | cons a r ih=>
  intro m h d h1 h2
  simp only [WQ,Bool.and_eq_true,Bool.not_eq_true',decide_eq_false_iff_not] at h
  obtain ⟨⟨q1,q2⟩,q3⟩:=h
  have e:YR m (a :: r)=YR (YQ m a) r:=rfl
  rw [e] at h2
  by_cases hd:d=a
  ·rw [hd];simp
  refine gEf _ (ih _ q3 d ?_ h2)
  unfold YQ
  split <;> omega
theorem Yf {C:List Int} {n:Nat} (h:WR C n=true) {d:Nat} (hd:d<YT C):∃ s,s<n/\YS C s=d:=by
 obtain ⟨h1,_,h3,h4⟩:=Wy h
 simp only [WR,Bool.and_eq_true,decide_eq_true_eq] at h
 have hm:=XQ C 0 h.1 (d:Int) (by omega) (by omega)
 obtain ⟨s,hs,e⟩:=List.getElem_of_mem hm
 refine ⟨s,by omega,?_⟩
 unfold YS
 rw [gE2,gE1 hs,Option.getD_some,e,Int.toNat_natCast]
theorem XR {C:List Int} {n:Nat} (h:WR C n=true) (hn:1<=n):YS C 0=0:=by
 simp only [WR,Bool.and_eq_true,decide_eq_true_eq] at h
 cases C with
 | nil=>simp at h;omega
 | cons a r=>
  have h1:=h.1
  simp only [WQ,Bool.and_eq_true,Bool.not_eq_true',decide_eq_false_iff_not] at h1
  show a.toNat=0
  omega
def WT (Q:List (List Ar)) (j:Nat):Nat:=((CG Q).2.getD j 0).toNat
theorem X8 {Q:List (List Ar)} (h1:1<=Q.length) (hb:∀ r∈Q,∀ a∈r,0<=a.2/\a.2<(Q.length:Int)):
  0<(CG Q).1.length/\WT Q 0=0/\(∀ j,j<(CG Q).1.length->WT Q j<Q.length)/\(∀ i j,i<(CG Q).1.length->j<(CG Q).1.length->WT Q i=WT Q j->i=j)/\
  (∀ j (a:Ar),j<(CG Q).1.length->a∈Q.getD (WT Q j) []->∃ i:Nat,i<(CG Q).1.length/\(a.1,(i:Int))∈(CG Q).1.getD j []/\WT Q i=a.2.toNat)/\
  (∀ j (a:Ar),j<(CG Q).1.length->a∈(CG Q).1.getD j []->∃ i:Nat,i<(CG Q).1.length/\a.2=(i:Int)/\(a.1,(WT Q i:Int))∈Q.getD (WT Q j) []):=by
 obtain ⟨num,k1,k2,k3,k4,k5,k6⟩:=Xi h1 hb
 unfold WT
 generalize CG Q=p at *
 obtain ⟨X,old⟩:=p
 simp only at *
 have hX0:0<X.length:=by rw [k4];exact (List.getElem?_eq_some_iff.1 k5).1
 have ho:∀ j,j<X.length->∃ s:Nat,old[j]?=some (s:Int)/\s<Q.length/\(old.getD j 0).toNat=s/\num[s]?=some (j:Int):=fun j hj=>by
  have hjl:j<old.length:=by omega
  have e:=gE1 hjl
  have h2:=k1.st _ (gE6 hjl)
  have h3:=k3 j _ e
  refine ⟨(old[j]).toNat,by rw [e];congr 1;omega,by omega,by rw [gE2,e];rfl,h3.2⟩
 have hx:∀ (x:Int) (t:Nat),num[t]?=some x->0<=x->x.toNat<X.length/\(old.getD x.toNat 0).toNat=t:=fun x t h h0=>by
  have h2:=k2.inj t x h h0
  have h3:=(List.getElem?_eq_some_iff.1 h2).1
  refine ⟨by omega,?_⟩
  rw [gE2,h2]
  rfl
 refine ⟨hX0,by rw [gE2,k5];rfl,fun j hj=>?_,fun i j hi hj e=>?_,fun j a hj ha=>?_,fun j a hj ha=>?_⟩
 ·obtain ⟨s,h1,h2,h3,h4⟩:=ho j hj
  rw [h3];exact h2
 ·obtain ⟨s,q1,q2,q3,q4⟩:=ho i hi
  obtain ⟨t,p1,p2,p3,p4⟩:=ho j hj
  rw [q3,p3] at e
  subst e
  rw [q4] at p4
  have:=Option.some.inj p4
  omega
 ·obtain ⟨s,q1,q2,q3,q4⟩:=ho j hj
  have hg:=gE1 hj
  obtain ⟨r1,r2⟩:=k6 j _ _ q1 hg
  rw [q3] at ha
  simp only [Int.toNat_natCast] at r1 r2
  obtain ⟨x,hnx,hx0⟩:=r2 a ha
  obtain ⟨p1,p2⟩:=hx x _ hnx hx0
  refine ⟨x.toNat,p1,?_,p2⟩
  rw [gE2,hg,Option.getD_some,r1,C8]
  refine List.mem_map.2 ⟨a,(C8 _ _).2 ha,?_⟩
  rw [gE2,hnx,Option.getD_some]
  congr 1;omega
 obtain ⟨s,q1,q2,q3,q4⟩:=ho j hj
 have hg:=gE1 hj
 obtain ⟨r1,r2⟩:=k6 j _ _ q1 hg
 simp only [Int.toNat_natCast] at r1 r2
 rw [gE2,hg,Option.getD_some,r1,C8] at ha
 obtain ⟨b,hb2,rfl⟩:=List.mem_map.1 ha
 have hb3:=(C8 _ _).1 hb2
 obtain ⟨x,hnx,hx0⟩:=r2 b hb3
 obtain ⟨p1,p2⟩:=hx x _ hnx hx0
 have hbq:0<=b.2:=by
  have hm:Q.getD s []∈Q:=by
   rw [gE2,gE1 q2,Option.getD_some]
   exact gE6 _
  exact (hb _ hm b hb3).1
 refine ⟨x.toNat,p1,?_,?_⟩
 ·rw [gE2,hnx,Option.getD_some];omega
 rw [q3,p2,Int.toNat_of_nonneg hbq];exact hb3
theorem YO {R:List (List Ar)} {C:List Int} {B:List Bool} (hv:Bg R=true) (hC:WR C R.length=true) (hB:DvL R B):QuX R (CG (qR R C B)).1 (YS C) (WT (qR R C B)):=by
 have hlo:Br R=true:=gEg (gE4 hv).1
 obtain ⟨b1,b2,b3⟩:=XK (B:=B) hlo hC
 have hn1:1<=R.length:=(gE4 hlo).1
 have hm1:1<=YT C:=by have:=((Wy hC).2.2.1 0 hn1).1;omega
 obtain ⟨_,_,c3,c4,c5,c6⟩:=X8 (Q:=qR R C B) (by omega) (fun r hr a ha=>by have:=b2 r hr a ha;exact ⟨this.2.2.1,this.2.2.2⟩)
 refine ⟨c4,fun j hj=>?_,fun s j hs hj e b hb hne=>?_,fun j a hj ha=>?_,fun s j hs hj e hd=>?_⟩
 rotate_left 3
 ·have hq:(0,(WT (qR R C B) j:Int))∈(qR R C B).getD (WT (qR R C B) j) []:=(Xb hC).2 (.inr ⟨rfl,s,hs,e,(hB.2 s hs).2 hd⟩)
  obtain ⟨i,hi,q1,q2⟩:=c5 j _ hj hq
  have:i=j:=c4 i j hi hj (by rw [q2];simp)
  rw [this] at q1
  exact q1
 ·exact Yf hC (by have:=c3 j hj;omega)
 ·have hq:(b.1,(YS C b.2.toNat:Int))∈(qR R C B).getD (WT (qR R C B) j) []:=(Xb hC).2 (.inl ⟨s,hs,e,b,hb,by unfold W4;rw [if_pos (by rw [<- e];exact hne)]⟩)
  obtain ⟨i,hi,q1,q2⟩:=c5 j _ hj hq
  exact ⟨i,hi,q1,by rw [q2];simp⟩
 obtain ⟨i,hi,e,hq⟩:=c6 j a hj ha
 refine ⟨i,hi,e,?_⟩
 rcases (Xb hC).1 hq with ⟨s,hs,es,b,hb,eb⟩ | ⟨eq,s,hs,es,hBs⟩
 rotate_left
 ·right
  simp only [Prod.mk.injEq] at eq
  exact ⟨eq.1,c4 i j hi hj (by omega),s,hs,es,(hB.2 s hs).1 hBs⟩
 left
 unfold W4 at eb
 split at eb
 rotate_left
 ·simp at eb
 rename_i hor
 simp only [Option.some.injEq,Prod.mk.injEq] at eb
 have e2:YS C b.2.toNat=WT (qR R C B) i:=by omega
 exact ⟨s,hs,es,b,hb,eb.1,e2,by rw [<- eb.1,<- e2];exact hor⟩
theorem Wm {R:List (List Ar)} (h:Br R=true):BP (CG R).1<=BP R:=by
 have hp:Sn R:=gE4 h
 have h1:=hp.1
 have hq:=WX (B:=BP R) hp.2.2.2 R.length 0 _ _ [] R (NumOk.start h1) (NumInj.start h1) (NumSur.start h1) rfl (by simp) (by omega) ⟨by simp,by simp⟩ rfl (fun _ _ _=>rfl) (by simp [BP])
 exact hq.2.2.2
theorem DlC.uniq {R:List (List Ar)} {c d:List Int} (h1:DlC R c) (h2:DlC R d):c=d:=by
 obtain ⟨B,b1,b2⟩:=h1
 obtain ⟨B',b3,b4⟩:=h2
 have e:=b1.uniq b3
 subst e
 exact b2.uniq b4
theorem Wo {X:List (List Ar)}:∀ r∈X,r.length<=BP X:=fun r hr=>by
 obtain ⟨j,hj,rfl⟩:=List.getElem_of_mem hr
 have h:=Wv X j
 rw [gE2,gE1 hj,Option.getD_some] at h
 exact h
theorem X2 {B:Nat}:∀ {X:List (List Ar)},(∀ r∈X,r.length<=B)->BP X<=X.length*B
 | [],_=>by simp [BP]
 | x :: r,h=>by
  have h1:=h x (by simp)
  have h2:=X2 (X:=r) fun q hq=>h q (gEf _ hq)
  simp only [BP,List.map_cons,List.sum_cons,List.length_cons,Nat.succ_mul] at h2 ⊢
  omega
theorem Yy {k m:Nat} {R:List (List Ar)} (h:OkSys k m R) (hm:m=R.length) (h1:1<=R.length) (hn:R.length<=20) (hk:k<=10):Bg R=true/\BP R<=200/\∀ r∈R,r.length<=10:=by
 subst hm
 have hr:∀ r∈R,r.length<=10:=fun r hr=>Nat.le_trans (h.2 r hr).2.1 hk
 have ht:=X2 hr
 exact ⟨gEg ⟨⟨h1,by show R.length<=16384;omega,by show BP R<=262144;omega,fun r hr=>(h.2 r hr).2.2⟩,fun r hr=>(h.2 r hr).1⟩,by omega,hr⟩
theorem Yg {A R:List (List Ar)} {B:Nat} (h1:∀ r∈A,r.length<=B) (h2:∀ r∈R,r.length<=B):∀ r∈Dy A R,r.length<=B:=fun r hr=>by
 unfold Dy Vl at hr
 rcases List.mem_append.1 hr with h | h
 ·exact h1 r h
 ·obtain ⟨q,hq,rfl⟩:=List.mem_map.1 h
  rw [Ca]
  exact h2 q hq
def BF (w:Nat):Ob:=.r ⟨132,1,true,[.v (.int .u64 (w:Int))]⟩
theorem Mg (w k:Nat) (hw:w<2 ^ 64) (hk:k<64):FC Tryd.prog 72 [.a (.c (.s 0 1)),.i (k:Int)] [BF w] (fun r o=>r=.tup []/\o=[BF (w ||| 2 ^ k)]):=by
 refine A8 Tryd.func72 rfl (by rw [Tryd.ntmps72];simp) ?_
 rw [Tryd.ntmps72]
 simp only [Bs,BF]
 have q0:(k:Int) / 64=0:=by omega
 have q1:(k:Int).tmod 64=(k:Int):=by rw [Int.tmod_eq_emod_of_nonneg (by omega)];omega
 have q3:=JG hk
 obtain ⟨z,hz,q2⟩:∃ z:Nat,2 ^ k=z/\(1:Int)*2 ^ k=(z:Int):=⟨2 ^ k,rfl,by simp⟩
 rw [hz] at q3 ⊢
 have q4:(z:Int)<18446744073709551616:=by omega
 have q5:(w:Int)<18446744073709551616:=by omega
 (refine Ag 10 [(0,0),(1,0),(2,0),(3,0),(4,1),(5,0),(6,0),(7,0),(8,0),(9,0),(10,2)] (by kernel_rfl) (by kernel_rfl) (by intro c st h;simp [Ai,AX,Tz] at h) ?_)
 (refine Ua (an @q0 (an @q1 (an @q2 (an @q4 @q5)))) ?_;repeat clear hK K)
 refine Hh ?_
 refine Uq Tryd.results72 ?_
 rfl
theorem Kt (v w:Nat) (hv:v<2 ^ 64) (hw:w<2 ^ 64):FC Tryd.prog 73 [.a (.c (.s 0 1)),.a (.c (.s 1 1))] [BF v,BF w] (fun r o=>r=.tup []/\o=[BF (v ||| w),BF w]):=by
 refine A8 Tryd.func73 rfl (by rw [Tryd.ntmps73];simp) ?_
 rw [Tryd.ntmps73]
 simp only [Bs,BF]
 (refine Ud ?_;(repeat clear hK K);repeat refine kq fun K hK=>?_)
 refine Ac (fun k:Nat=>{ tm:=[(0,.a (.c (.s 0 1))),(1,.a (.c (.s 1 1))),(6,.i 1),(7,.i k)],hp:=[BF (if k=0 then v else v ||| w),BF w],n:=21,pin:=2 }) (fun k=>k<=1) (fun k=>1 - k) 0 ?_ ?_ ?_
 ·omega
 ·simp only [if_true,BF]
  exact Un
 rintro k hk K hK
 have q1:(v:Int)<18446744073709551616:=by omega
 have d0:decide ((0:Int)<1)=true:=by decide
 have d1:decide ((1:Int)<1)=false:=by decide
 have q2:(w:Int)<18446744073709551616:=by omega
 by_cases h0:k=0
 rotate_left
 ·have hk1:k=1:=by omega
  subst hk1
  simp only [show ¬ (1:Nat)=0 from by omega,if_false,BF,Int.natCast_one]
  (refine Ue @d1 ?_;(repeat clear hK K);repeat refine kq fun K hK=>?_)
  refine Ul ?_
  (refine Dk ?_;simp only [Ai,AX,reduceIte,Nat.reduceEqDiff])
  exact L9 Tryd.results73
 subst h0
 simp only [if_true,BF,Int.natCast_zero]
 (refine Ue @d0 ?_;(repeat clear hK K);repeat refine kq fun K hK=>?_)
 refine Uk ?_
 (refine Ud ?_;(repeat clear hK K);repeat refine kq fun K hK=>?_)
 (refine Ag 10 [(0,0),(1,0),(2,0),(3,1),(4,0),(5,0),(6,0),(7,1),(8,0),(9,0),(10,2)] (by kernel_rfl) (by kernel_rfl) (by intro c st h;simp [Ai,AX,Tz] at h) ?_)
 (refine Ua (an @q1 @q2) ?_;repeat clear hK K)
 (refine Ud ?_;(repeat clear hK K);repeat refine kq fun K hK=>?_)
 refine Um ?_
 refine hK _ 1 (by omega) (by omega) ?_
 simp only [show ¬ (1:Nat)=0 from by omega,if_false,BF]
 exact Un
theorem Sw (w:Nat) (hw:w<2 ^ 64):FC Tryd.prog 92 [.a (.c (.v (.int .u64 (w:Int))))] [] (fun r o=>o=[]/\r=.i (Lib.ctz 64 w)):=by
 have h:=(Si [.a (.c (.v (.int .u64 (w:Int))))] (.i (Lib.ctz 64 w)) (by simp [Sh];omega)).2.2
 exact h
set_option maxHeartbeats 1000000 in
theorem Qd (w:Nat) (hw:w<2 ^ 64):FC Tryd.prog 75 [.a (.c (.s 0 1))] [BF w] (fun r o=>r=.a (.c (.s 1 (At w).length))/\o=[BF w,Am (At w)]):=by
 refine A8 Tryd.func75 rfl (by rw [Tryd.ntmps75];simp) ?_
 rw [Tryd.ntmps75]
 simp only [Bs,BF]
 (refine Ud ?_;(repeat clear hK K);repeat refine kq fun K hK=>?_)
 refine B1 (CK 3 3 1 ?_) ?_
 ·simp only [go_sem]
 refine Ac (fun k:Nat=>{ tm:=[(3,.a (.c (.s 1 (if k=0 then 0 else (At w).length)))),(6,.a (.c (.s 0 1))),(7,.i 1),(8,.i k)],hp:=[BF w,Am (if k=0 then [] else At w)],n:=29,pin:=1 }) (fun k=>k<=1) (fun k=>1 - k) 0 ?_ ?_ ?_
 ·omega
 ·simp only [if_true,BF,Am,A5,List.map_nil]
  exact Un
 rintro k hk K hK
 have q2:(w:Int)<18446744073709551616:=by omega
 have d0:decide ((0:Int)<1)=true:=by decide
 have d1:decide ((1:Int)<1)=false:=by decide
 by_cases h0:k=0
 rotate_left
 ·have hk1:k=1:=by omega
  subst hk1
  simp only [show ¬ (1:Nat)=0 from by omega,if_false,BF,Int.natCast_one,Am]
  (refine Ue @d1 ?_;(repeat clear hK K);repeat refine kq fun K hK=>?_)
  refine Ul ?_
  (refine Uh ?_;repeat clear hK K)
  (refine Ud ?_;(repeat clear hK K);repeat refine kq fun K hK=>?_)
  ((try refine AU ?_);(try simp only [Ai,AX]);refine BQ (Ad [0,1] rfl rfl) ?_;(try simp only [List.set_nil,List.take_nil,List.take_zero,List.map_append,go_sem]);((try refine AU ?_);(try refine Ab ?_);(try simp only [Ai,AX]);refine C6 (by first | exact .inl rfl | exact .inr rfl) rfl ?_;simp only [TC,GQ,FD,Hb,Tryd.results75,go_sem,true_and,and_true,A7,Am]))
 subst h0
 simp only [if_true,BF,Int.natCast_zero,Am]
 (refine Ue @d0 ?_;(repeat clear hK K);repeat refine kq fun K hK=>?_)
 refine Uk ?_
 (refine Ud ?_;(repeat clear hK K);repeat refine kq fun K hK=>?_)
 refine Ac (fun x:List Int × Nat=>{ tm:=[(3,.a (.c (.s 1 x.1.length))),(4,.i 0),(5,.a (.c (.v (.int .u64 (x.2:Int))))),(6,.a (.c (.s 0 1))),(7,.i 1),(8,.i 0)],hp:=[BF w,Am x.1],n:=29,pin:=1 }) (fun x=>x.1++At x.2=At w/\x.2<2 ^ 64) (fun x=>x.2) ([],w) ?_ ?_ ?_
 ·exact ⟨rfl,hw⟩
 ·simp only [BF,Am,A5,List.map_nil,List.length_nil]
  exact Un
 rintro ⟨L,z⟩ ⟨hL,hz⟩ K hK
 simp only at hL hz
 simp only [BF,Am]
 have hLl:L.length<=64:=by have h1:=Cb w;rw [<- hL,List.length_append] at h1;omega
 by_cases hz0:z=0
 ·subst hz0
  rw [Kr,List.append_nil] at hL
  subst hL
  have d2:(((0:Nat):Int) != 0)=false:=rfl
  (refine Ud ?_;(repeat clear hK K);repeat refine kq fun K hK=>?_)
  simp only [d2]
  refine Ul ?_
  (refine Uh ?_;repeat clear hK K)
  (refine Ud ?_;(repeat clear hK K);repeat refine kq fun K hK=>?_)
  refine Um ?_
  refine hK _ 1 (by omega) (by omega) ?_
  simp only [show ¬ (1:Nat)=0 from by omega,if_false,BF,Am]
  exact Un
 obtain ⟨h1,h2,h3⟩:=Mc (w:=z) (by omega) hz
 have d1:((z:Int) != 0)=true:=by simpa using hz0
 have q3:(z:Int)<18446744073709551616:=by omega
 have q4:((z:Int) - 1).toNat=z - 1:=by omega
 rw [h3] at hL
 have hnz:(z &&& (z - 1))<2 ^ 64:=by omega
 (refine Ud ?_;(repeat clear hK K);repeat refine kq fun K hK=>?_)
 simp only [d1]
 refine Uk ?_
 (refine Ud ?_;(repeat clear hK K);repeat refine kq fun K hK=>?_)
 (refine Ui (Sw z hz) ?_;intro K1 hK1)
 rintro _ _ ⟨rfl,rfl⟩
 (refine Uj ?_;clear hK1 K1)
 (refine Ue (an @List.set_cons_zero.{0} (an @List.set_cons_succ.{0} (an @List.take_succ_cons.{0} (an @List.take_zero.{0} (an @List.drop_zero.{0} (an @List.length_take.{0} (an @List.length_drop.{0} (an @List.length_append.{0} (an @A3 (an @AC (an @AO (an @Bz (an @A2 (an @AY (an @Az (an @B5 (an @AB (an @AN (an @q4 @q3))))))))))))))))))) ?_;(repeat clear hK K);repeat refine kq fun K hK=>?_)
 refine Um ?_
 refine hK _ (L++[(Lib.ctz 64 z:Int)],z &&& (z - 1)) ⟨by rw [<- hL];simp,hnz⟩ h2 ?_
 refine Le.trans (Ad [0,3] rfl rfl) ?_
 (try simp only [List.set_nil,List.take_nil,List.take_zero,List.map_append,go_sem])
 (try simp only [A7])
 simp only [BF,Am,List.take_length,Int.zero_mul,Int.zero_add]
 exact Un
theorem FW {P:Program} {c:Code} {st:ST} {Q:Exit->ST->Prop} (F:List Ob->Prop) (hF:F st.hp) (h:∀ G,F G->AW P c { st with hp:=G } Q):AW P c st Q:=h _ hF
theorem B9 {P:Program} {ops:Array Oper} {l:List Oper} {st:ST} {K:ST->Prop} (F:List Ob->Prop) (hF:F st.hp) (h:∀ G,F G->Tu P ops l { st with hp:=G } K):Tu P ops l st K:=h _ hF
def Pre (H G:List Ob):Prop:=H.length<=G.length/\∀ i,i<H.length->G[i]?=H[i]?
theorem Pre.refl (H:List Ob):Pre H H:=⟨Nat.le_refl _,fun _ _=>rfl⟩
theorem Pre.trans {A B C:List Ob} (h:Pre A B) (k:Pre B C):Pre A C:=⟨Nat.le_trans h.1 k.1,fun i hi=>(k.2 i (Nat.lt_of_lt_of_le hi h.1)).trans (h.2 i hi)⟩
theorem Pre.push (H:List Ob) (y:Ob):Pre H (H++[y]):=⟨by simp,fun i hi=>gEa hi⟩
theorem Pre.at {H G:List Ob} (h:Pre H G) {i:Nat} {y:Ob} (hx:H[i]?=some y):G[i]?=some y:=by
 rw [h.2 i (List.getElem?_eq_some_iff.1 hx).1];exact hx
theorem Pre.set {H G:List Ob} (h:Pre H G) {i:Nat} (hi:H.length<=i) (y:Ob):Pre H (G.set i y):=⟨by rw [List.length_set];exact h.1,fun j hj=>by rw [gE5 (by omega)];exact h.2 j hj⟩
theorem B2 {H:List Ob} {i:Nat} {y:Ob} (h:H[i]?=some y):i<H.length:=(List.getElem?_eq_some_iff.1 h).1
theorem EH {H:List Ob} {i:Nat} {y:Ob} (h:H[i]?=some y):H.set i y=H:=by
 refine List.ext_getElem? fun j=>?_
 by_cases e:i=j
 ·subst e;rw [gEc (B2 h),h]
 rw [gE5 e]
theorem AZ (H:List Ob) (y:Ob):(H++[y])[H.length]?=some y:=by simp
theorem RG {H:List Ob} (h:H.all BL=true) {i:Nat} {y:Ob} (hx:H[i]?=some y):BL y=true:=List.all_eq_true.1 h _ (gE9 hx)
theorem AR {H:List Ob} (h:H.all BL=true) {y:Ob} (hx:BL y=true):(H++[y]).all BL=true:=by simp [List.all_append,h,hx]
theorem BC {H:List Ob} (h:H.all BL=true) {y:Ob} (hx:BL y=true) (i:Nat):(H.set i y).all BL=true:=by
 rw [List.all_eq_true]
 intro y hy
 rcases List.mem_or_eq_of_mem_set hy with h2 | h2
 ·exact List.all_eq_true.1 h _ h2
 rw [h2];exact hx
theorem GF {H:List Ob} (h:H.all BL=true):∀ (i:Nat) (o:Ob),H[i]?=some o->BL o=true:=fun _ _ hx=>RG h hx
section
variable {o : Oper} {st : ST} {K : ST -> Prop}
theorem Cl {H:List Ob} {i:Nat} {y z:Ob} (h:H[i]?=some y):H.getD i z=y:=by rw [gE2,h];rfl
theorem GG (w:Nat) (ρ:List Nat):(BF w).ren ρ=BF w:=rfl
theorem Iv (w:Nat) (f:Nat->Nat):(BF w).up f=BF w:=rfl
theorem Dw {x y:Operand} {ts:Array TypeId} {a b v w:Nat} (hd:Tn o st.n=true) (ho:o.op=.call { callee:=.value (.func 73),args:=#[x,y],argTypes:=ts }) (hx:st.ev x=.a (.c (.s a 1))) (hy:st.ev y=.a (.c (.s b 1))) (ha:st.hp[a]?=some (BF v)) (hb:st.hp[b]?=some (BF w)) (hne:a ≠ b) (hv:v<2 ^ 64) (hw:w<2 ^ 64)
  (hnb:Ej [a,b] st.tm=st.tm) (h:K ({ st with hp:=st.hp.set a (BF (v ||| w)) }.put o.dst (.tup []))):Stp Tryd.prog o st K:=by
 have i1:idx [a,b] a 0=some 0:=by simp [idx]
 have i2:idx [a,b] b 0=some 1:=by simp [idx,hne]
 refine As (ids:=[]) [a,b] (Kt v w hv hw) hd ho rfl (by kernel_rfl) (by simp [AM,hne]) (by simp [B2 ha,B2 hb]) ?_ ?_ ?_ ?_
 ·simp [hx,hy,Er,AV.ren,A0.ren,C.ren,i1,i2]
 ·simp only [Tx,List.map_cons,List.map_nil,Cl ha,Cl hb,GG]
 ·rintro r outs ⟨rfl,rfl⟩;rfl
 rintro r outs ⟨rfl,rfl⟩
 have e:st.back [a,b] [BF (v ||| w),BF w]={ st with hp:=st.hp.set a (BF (v ||| w)) }:=by
  unfold ST.back
  rw [hnb]
  simp only [List.map_cons,List.map_nil,Iv,BJ,List.append_nil]
  rw [EH (by rw [gE5 hne];exact hb)]
 rw [e];exact h
theorem Ku {x y:Operand} {ts:Array TypeId} {a v k:Nat} (hd:Tn o st.n=true) (ho:o.op=.call { callee:=.value (.func 72),args:=#[x,y],argTypes:=ts }) (hx:st.ev x=.a (.c (.s a 1))) (hy:st.ev y=.i (k:Int)) (ha:st.hp[a]?=some (BF v)) (hv:v<2 ^ 64) (hk:k<64)
  (hnb:Ej [a] st.tm=st.tm) (h:K ({ st with hp:=st.hp.set a (BF (v ||| 2 ^ k)) }.put o.dst (.tup []))):Stp Tryd.prog o st K:=by
 have i1:idx [a] a 0=some 0:=by simp [idx]
 refine As (ids:=[]) [a] (Mg v k hv hk) hd ho rfl (by kernel_rfl) rfl (by simp [B2 ha]) ?_ ?_ ?_ ?_
 ·simp [hx,hy,Er,AV.ren,A0.ren,C.ren,i1,AV.i]
 ·simp only [Tx,List.map_cons,List.map_nil,Cl ha,GG]
 ·rintro r outs ⟨rfl,rfl⟩;rfl
 rintro r outs ⟨rfl,rfl⟩
 have e:st.back [a] [BF (v ||| 2 ^ k)]={ st with hp:=st.hp.set a (BF (v ||| 2 ^ k)) }:=by
  unfold ST.back
  rw [hnb]
  simp only [List.map_cons,List.map_nil,Iv,BJ,List.append_nil]
 rw [e];exact h
theorem JI {x:Operand} {ts:Array TypeId} {a w:Nat} (hd:Tn o st.n=true) (ho:o.op=.call { callee:=.value (.func 75),args:=#[x],argTypes:=ts }) (hx:st.ev x=.a (.c (.s a 1))) (ha:st.hp[a]?=some (BF w)) (hw:w<2 ^ 64)
  (hnb:Ej [a] st.tm=st.tm) (h:K ({ st with hp:=st.hp++[Am (At w)] }.put o.dst (.a (.c (.s st.hp.length (At w).length))))):Stp Tryd.prog o st K:=by
 have i1:idx [a] a 0=some 0:=by simp [idx]
 refine As (ids:=[]) [a] (Qd w hw) hd ho rfl (by kernel_rfl) rfl (by simp [B2 ha]) ?_ ?_ ?_ ?_
 ·simp [hx,Er,AV.ren,A0.ren,C.ren,i1]
 ·simp only [Tx,List.map_cons,List.map_nil,Cl ha,GG]
 ·rintro r outs ⟨rfl,rfl⟩;rfl
 rintro r outs ⟨rfl,rfl⟩
 have e:st.back [a] [BF w,Am (At w)]={ st with hp:=st.hp++[Am (At w)] }:=by
  unfold ST.back
  rw [hnb]
  have e2:(Am (At w)).up (TD [a] st.hp.length)=Am (At w):=by simp [Am,Ob.up,Bw]
  simp only [List.map_cons,List.map_nil,Iv,BJ,e2]
  rw [EH ha]
 rw [e]
 have e3:(AV.a (.c (.s 1 (At w).length))).up (TD [a] st.hp.length)=.a (.c (.s st.hp.length (At w).length)):=by simp [AV.up,A0.up,C.up,TD]
 rw [e3];exact h
end
def VK (V:List (Int × Nat × Nat)):List (Value × C):=V.map fun p=>(.int .i64 p.1,.s p.2.1 1)
theorem BU (V:List (Int × Nat × Nat)):(VK V).length=V.length:=by simp [VK]
theorem Mh {V:List (Int × Nat × Nat)} {j:Nat} {p:Int × Nat × Nat} (h:V[j]?=some p):(VK V)[j]?=some (.int .i64 p.1,.s p.2.1 1):=by simp [VK,h]
theorem Fh (V:List (Int × Nat × Nat)):(VK V).all (fun p=>p.2.pl)=true:=by
 rw [List.all_eq_true]
 intro p hp
 obtain ⟨q,_,rfl⟩:=List.mem_map.1 hp
 rfl
theorem P2 (V:List (Int × Nat × Nat)):BL (.m (VK V))=true:=Fh V
theorem JJ (V:List (Int × Nat × Nat)):N6 (VK V)=false:=by
 cases V with
 | nil=>rfl
 | cons p V=>rfl
theorem JK {e:Int}:∀ {V:List (Int × Nat × Nat)},(∀ p∈V,p.1 ≠ e)->∀ i,Bf .ki (.int .i64 e) (VK V) i=some none
 | [],_,_=>rfl
 | p :: V,h,i=>by
  have h1:(e == p.1)=false:=by have:=h p List.mem_cons_self;simp only [beq_eq_false_iff_ne,ne_eq];exact fun x=>this x.symm
  simp only [VK,List.map_cons,Bf,Bx,h1]
  exact JK (fun q hq=>h q (gEf _ hq)) (i+1)
theorem EI {e:Int}:∀ {V:List (Int × Nat × Nat)},(V.map (·.1)).Nodup->∀ {p},p∈V->p.1=e->∀ i,∃ j,Bf .ki (.int .i64 e) (VK V) i=some (some (j,.s p.2.1 1))
 | [],_,_,hp,_,_=>by simp at hp
 | q :: V,hn,p,hp,he,i=>by
  simp only [List.map_cons,List.nodup_cons] at hn
  rcases List.mem_cons.1 hp with rfl | hp
  ·exact ⟨i,by simp [VK,Bf,Bx,he]⟩
  ·have h1:(e == q.1)=false:=by
    simp only [beq_eq_false_iff_ne,ne_eq]
    intro x
    exact hn.1 (by rw [<- x,<- he];exact List.mem_map.2 ⟨p,hp,rfl⟩)
   simp only [VK,List.map_cons,Bf,Bx,h1]
   exact EI hn.2 hp he (i+1)
theorem Kv (e:Int):Ek .ki (.int .i64 e)=true:=by simp [Ek,Bx]
def SJ (H:List Ob) (mid:Nat) (V:List (Int × Nat × Nat)) (e:Int) (w:Nat) (G:List Ob):Prop:=
 (∃ p∈V,p.1=e/\G=H.set p.2.1 (BF (p.2.2 ||| w)))\/((∀ p∈V,p.1 ≠ e)/\G=(H++[BF w]).set mid (.m (VK (V++[(e,H.length,w)]))))
set_option maxHeartbeats 1000000 in
theorem RH (H:List Ob) (vb sb mid yid:Nat) (V:List (Int × Nat × Nat)) (e:Int) (w:Nat) (hvb:H[vb]?=some (.r ⟨126,1,false,[.m mid]⟩)) (hsb:H[sb]?=some (.r ⟨3,1,false,[.v (.int .i64 1)]⟩)) (hm:H[mid]?=some (.m (VK V))) (hy:H[yid]?=some (BF w))
  (hnd:(V.map (·.1)).Nodup) (hV:∀ p∈V,H[p.2.1]?=some (BF p.2.2)/\p.2.2<2 ^ 64/\p.2.1 ≠ yid) (hw:w<2 ^ 64) (hok:H.all BL=true):
  FC Tryd.prog 74 [.i e,.a (.c (.s yid 1)),.a (.c (.p vb 0)),.a (.c (.p sb 0))] H (fun r o=>r=.tup []/\SJ H mid V e w o/\o.all BL=true):=by
 refine A8 Tryd.func74 rfl (by rw [Tryd.ntmps74];simp) ?_
 rw [Tryd.ntmps74]
 simp only [Bs]
 have hpl:=Fh V
 have hml:=B2 hm
 have hyl:=B2 hy
 by_cases hex:∃ p∈V,p.1=e
 ·obtain ⟨p,hp,he⟩:=hex
  obtain ⟨j,hf⟩:=EI hnd hp he 0
  obtain ⟨hp1,hp2,hp3⟩:=hV p hp
  (refine Ue @hvb ?_;(repeat clear hK K);repeat refine kq fun K hK=>?_)
  (refine A9 rfl ?_;intro K1 hK1;refine BO (id:=mid) (kv:=VK V) (zv:=.slice none 0 0) Tryd.underlying126 (DY Tryd.underlying3) rfl rfl rfl (by simp only [go_sem,hvb]) hm hpl (by simp only [go_sem,DX]) (Kv e) hf ?_;simp only [go_sem,VE];refine hK1 _ ?_;clear hK1 K1)
  (refine A9 rfl ?_;intro K1 hK1;refine HZ rfl rfl Tryd.underlying123 (.inl rfl) (.inr ⟨p.2.1,1,by simp only [go_sem],?_⟩);intro b hb;have hb2:b=false:=(by cases b with | false=>rfl | true=>exact absurd (hb rfl) (by omega));subst hb2;simp only [go_sem,if_true];refine hK1 _ ?_;clear hK1 K1)
  (refine Ud ?_;(repeat clear hK K);repeat refine kq fun K hK=>?_)
  refine Ul ?_
  (refine Ue @hvb ?_;(repeat clear hK K);repeat refine kq fun K hK=>?_)
  (refine A9 rfl ?_;intro K1 hK1;refine BO (id:=mid) (kv:=VK V) (zv:=.slice none 0 0) Tryd.underlying126 (DY Tryd.underlying3) rfl rfl rfl (by simp only [go_sem,hvb]) hm hpl (by simp only [go_sem,DX]) (Kv e) hf ?_;simp only [go_sem,VE];refine hK1 _ ?_;clear hK1 K1)
  (refine Ud ?_;(repeat clear hK K);repeat refine kq fun K hK=>?_)
  (refine A9 rfl ?_;intro K1 hK1;refine Dw (a:=p.2.1) (b:=yid) (v:=p.2.2) (w:=w) rfl rfl (by simp only [go_sem]) (by simp only [go_sem]) hp1 hy hp3 hp2 hw (by simp [Ej,AV.nb,A0.nb,C.nb]) ?_;simp only [go_sem];refine hK1 _ ?_;clear hK1 K1)
  refine Uq Tryd.results74 ?_
  exact ⟨.inl ⟨p,hp,he,rfl⟩,BC hok rfl _⟩
 have hno:∀ p∈V,p.1 ≠ e:=fun p hp he=>hex ⟨p,hp,he⟩
 have hf:=JK hno 0
 obtain ⟨j,hf2⟩:=EI (V:=V++[(e,H.length,w)]) (by rw [List.map_append,List.nodup_append];exact ⟨hnd,by simp,fun a ha b hb=>by
  obtain ⟨p,hp,rfl⟩:=List.mem_map.1 ha
  simp only [List.map_cons,List.map_nil,List.mem_singleton] at hb
  rw [hb];exact hno p hp⟩) (List.mem_append_right _ List.mem_cons_self) rfl 0
 have hkv:VK V++[(Value.int .i64 e,C.s H.length 1)]=VK (V++[(e,H.length,w)]):=by simp [VK]
 have hpl2:=Fh (V++[(e,H.length,w)])
 (refine Ue @hvb ?_;(repeat clear hK K);repeat refine kq fun K hK=>?_)
 (refine A9 rfl ?_;intro K1 hK1;refine BO (id:=mid) (kv:=VK V) (zv:=.slice none 0 0) Tryd.underlying126 (DY Tryd.underlying3) rfl rfl rfl (by simp only [go_sem,hvb]) hm hpl (by simp only [go_sem,DX]) (Kv e) hf ?_;simp only [go_sem,VE];refine hK1 _ ?_;clear hK1 K1)
 (refine A9 rfl ?_;intro K1 hK1;refine N5 rfl rfl Tryd.underlying123 (.inl rfl) (b:=true) (.inl ⟨rfl,by simp only [go_sem]⟩) ?_;simp only [go_sem,if_true];refine hK1 _ ?_;clear hK1 K1)
 (refine Ud ?_;(repeat clear hK K);repeat refine kq fun K hK=>?_)
 refine Uk ?_
 (refine B7 [] (.m 1 0 0 (.m 0 1 4 (.m 2 1 3 (.a 3 (.a 4 .e))))) (by kernel_rfl) (by kernel_rfl) (by intro c st h;simp [Ai,AX,Tz] at h) ?_)
 (refine Ug (an @hvb @hsb) ?_;repeat clear hK K)
 (refine U4 rfl rfl ?_;intro K1 hK1;refine BW rfl ?_;simp only [go_sem];(first | refine hK1 _ ?_ | refine AE (hK1 _ ?_));clear hK1 K1)
 have hrep:(List.replicate (Int.toNat 1) (C.v (.int .u64 0)))=[C.v (.int .u64 ((0:Nat):Int))]:=rfl
 simp only [hrep]
 (refine U5 rfl rfl rfl rfl ?_;intro K1 hK1;refine FU (id:=mid) (kv:=VK V) (c:=.s H.length 1) Tryd.underlying126 (DY Tryd.underlying3) rfl rfl (by simp only [go_sem]) ((Pre.push _ _).at hm) hpl (by simp only [go_sem,DX]) (Kv e) (by simp only [go_sem];rfl) rfl hf ?_;simp only [go_sem,hkv];refine hK1 _ ?_;clear hK1 K1)
 refine CA ⟨by simp,by simp,?_⟩
 (try simp only [Ai,AX])
 refine hK _ ?_
 clear hK K
 have hvm:mid ≠ vb:=by rintro rfl;rw [hm] at hvb;cases hvb
 have hym:mid ≠ yid:=by rintro rfl;rw [hm] at hy;cases hy
 have hnm:mid ≠ H.length:=by omega
 refine FW (fun G=>G=(H++[BF 0]).set mid (.m (VK (V++[(e,H.length,w)])))) rfl ?_
 intro G hG
 simp only
 have g1:G[vb]?=some (.r ⟨126,1,false,[.m mid]⟩):=by rw [hG,gE5 hvm];exact (Pre.push _ _).at hvb
 have g2:G[mid]?=some (.m (VK (V++[(e,H.length,w)]))):=by rw [hG,gEc (by simp;omega)]
 have g3:G[yid]?=some (BF w):=by rw [hG,gE5 hym];exact (Pre.push _ _).at hy
 have g4:G[H.length]?=some (BF 0):=by rw [hG,gE5 hnm];exact AZ _ _
 have g5:G.all BL=true:=by rw [hG];exact BC (AR hok rfl) (P2 _) _
 have hend:G.set H.length (BF (0 ||| w))=(H++[BF w]).set mid (.m (VK (V++[(e,H.length,w)]))):=by
  rw [hG,Nat.zero_or,List.set_comm _ _ hnm]
  congr 1
  rw [List.set_append_right _ _ (Nat.le_refl _)];simp
 clear hG
 (refine Ue @g1 ?_;(repeat clear hK K);repeat refine kq fun K hK=>?_)
 (refine A9 rfl ?_;intro K1 hK1;refine BO (id:=mid) (kv:=VK (V++[(e,H.length,w)])) (zv:=.slice none 0 0) Tryd.underlying126 (DY Tryd.underlying3) rfl rfl rfl (by simp only [go_sem,g1]) g2 hpl2 (by simp only [go_sem,DX]) (Kv e) hf2 ?_;simp only [go_sem,VE];refine hK1 _ ?_;clear hK1 K1)
 (refine Ud ?_;(repeat clear hK K);repeat refine kq fun K hK=>?_)
 (refine A9 rfl ?_;intro K1 hK1;refine Dw (a:=H.length) (b:=yid) (v:=0) (w:=w) rfl rfl (by simp only [go_sem]) (by simp only [go_sem]) g4 g3 (by omega) (by omega) hw (by simp [Ej,AV.nb,A0.nb,C.nb]) ?_;simp only [go_sem];refine hK1 _ ?_;clear hK1 K1)
 refine Uq Tryd.results74 ?_
 rw [hend]
 exact ⟨.inr ⟨hno,rfl⟩,BC (AR hok rfl) (P2 _) _⟩
def VM (f:Nat->Nat) (n c:Nat):List Nat:=(List.range n).filter fun s=>f s == c
def VN (f:Nat->Nat) (n:Nat):List (List Int):=(List.range n).map fun c=>(VM f n c).map Int.ofNat
theorem CT {f:Nat->Nat} {n c s:Nat}:s∈VM f n c↔s<n/\f s=c:=by simp [VM]
theorem Mi (f:Nat->Nat) (n c:Nat):(VM f n c).length<=n:=by
 have:=List.length_filter_le (fun s=>f s == c) (List.range n)
 rwa [List.length_range] at this
theorem Iw (f:Nat->Nat) (n:Nat):(VN f n).length=n:=by simp [VN]
theorem Mj {f:Nat->Nat} {n c:Nat} (h:c<n):(VN f n)[c]?=some ((VM f n c).map Int.ofNat):=by simp [VN,h]
section
variable {X : List (List Ar)} {D cl : List Int}
theorem Mk (hv:Bg X=true) (h:CpOk X D) {v i:Nat} (hs:v<X.length):RT X cl (Vm D v) i↔RT X cl v i:=by
 obtain ⟨_,_,p3,p4,_⟩:=Bi hv h hs
 constructor
 ·rintro ⟨u,hu,h1,h2⟩;exact ⟨u,hu,p3.trans h1,h2⟩
 rintro ⟨u,hu,h1,h2⟩;exact ⟨u,hu,p4.trans h1,h2⟩
theorem Kw (hv:Bg X=true) (h:CpOk X D) {v i:Nat} {e:Int} (hs:v<X.length):RV X cl (Vm D v) e i↔RV X cl v e i:=by
 obtain ⟨_,_,p3,p4,_⟩:=Bi hv h hs
 constructor
 ·rintro ⟨h0,u,hu,h1,h2⟩;exact ⟨h0,u,hu,p3.trans h1,h2⟩
 rintro ⟨h0,u,hu,h1,h2⟩;exact ⟨h0,u,hu,p4.trans h1,h2⟩
def gT (X:List (List Ar)) (D cl:List Int) (c:Nat) (row:List Ar) (i:Nat):Prop:=∃ a∈row,a.1=0/\Vm D a.2.toNat ≠ c/\RT X cl a.2.toNat i
def VO (X:List (List Ar)) (D cl:List Int) (c:Nat) (l:List Nat) (i:Nat):Prop:=∃ s∈l,cl.getD s 0=(i:Int)\/gT X D cl c (X.getD s []) i
def gV (X:List (List Ar)) (D cl:List Int) (c:Nat) (row:List Ar) (e:Int) (i:Nat):Prop:=∃ a∈row,(a.1 ≠ 0/\a.1=e/\RT X cl a.2.toNat i)\/(a.1=0/\Vm D a.2.toNat ≠ c/\RV X cl a.2.toNat e i)
def VP (X:List (List Ar)) (D cl:List Int) (c:Nat) (l:List Nat) (e:Int) (i:Nat):Prop:=∃ s∈l,gV X D cl c (X.getD s []) e i
theorem JL (hv:Bg X=true) {c t:Nat} (he:(c,t)∈Vf (Vm D) X X.length):∃ s,s<X.length/\Vm D s=c/\∃ a∈X.getD s [],a.1=0/\Vm D a.2.toNat ≠ c/\Vm D a.2.toNat=t:=by
 obtain ⟨s,hs,a,ha,h0,hne,e⟩:=Ec.1 he
 cases e
 exact ⟨s,hs,rfl,a,ha,h0,fun h=>hne h.symm,rfl⟩
theorem Qe (hv:Bg X=true) (h:CpOk X D) {c:Nat} (hc:c<X.length) (hf:Vm D c=c) (i:Nat):VO X D cl c (VM (Vm D) X.length c) i↔RT X cl c i:=by
 have hlo:Br X=true:=gEg (gE4 hv).1
 constructor
 rotate_left
 ·rintro ⟨u,hu,h1,h2⟩
  rcases Io hv h hc h1 with e | ⟨t,he,h3⟩
  ·exact ⟨u,CT.2 ⟨hu,by rw [<- e,hf]⟩,.inl h2⟩
  rw [hf] at he
  obtain ⟨s,hs,hsc,a,ha,h0,hne,hat⟩:=JL hv he
  have hb:=Em hv hs ha
  refine ⟨s,CT.2 ⟨hs,hsc⟩,.inr ⟨a,ha,h0,hne,(Mk hv h hb.2.2.2).1 ?_⟩⟩
  rw [hat];exact ⟨u,hu,h3,h2⟩
 rintro ⟨s,hs,h1⟩
 obtain ⟨hsl,hsc⟩:=CT.1 hs
 have hcs:Rc (Uy true X) c s:=by rw [<- hsc];exact (Bi hv h hsl).2.2.2.1
 rcases h1 with h1 | ⟨a,ha,h0,_,u,hu,h3,h4⟩
 ·exact ⟨s,hsl,hcs,h1⟩
 have hb:=Em hv hsl ha
 have hadj:a.2.toNat∈Uy true X s:=by
  rw [Ff hv]
  have:((0:Int),((a.2.toNat:Nat):Int))=a:=by
   rcases a with ⟨x,y⟩
   simp only at h0 hb ⊢
   rw [h0];congr 1;omega
  rw [this];exact ha
 exact ⟨u,hu,(hcs.trans (.one hadj)).trans h3,h4⟩
theorem Qf (hv:Bg X=true) (h:CpOk X D) {c:Nat} (hc:c<X.length) (hf:Vm D c=c) (e:Int) (i:Nat):VP X D cl c (VM (Vm D) X.length c) e i↔RV X cl c e i:=by
 have hlo:Br X=true:=gEg (gE4 hv).1
 constructor
 rotate_left
 ·rintro ⟨hn,u,hu,h1,a,ha,h2,h3⟩
  rcases Io hv h hc h1 with ee | ⟨t,he,h4⟩
  ·exact ⟨u,CT.2 ⟨hu,by rw [<- ee,hf]⟩,a,ha,.inl ⟨by rw [h2];exact hn,h2,h3⟩⟩
  rw [hf] at he
  obtain ⟨s,hs,hsc,b,hb1,h0,hne,hat⟩:=JL hv he
  have hb:=Em hv hs hb1
  refine ⟨s,CT.2 ⟨hs,hsc⟩,b,hb1,.inr ⟨h0,hne,(Kw hv h hb.2.2.2).1 ?_⟩⟩
  rw [hat];exact ⟨hn,u,hu,h4,a,ha,h2,h3⟩
 rintro ⟨s,hs,a,ha,h1⟩
 obtain ⟨hsl,hsc⟩:=CT.1 hs
 have hcs:Rc (Uy true X) c s:=by rw [<- hsc];exact (Bi hv h hsl).2.2.2.1
 rcases h1 with ⟨h0,h1,h2⟩ | ⟨h0,_,hn,u,hu,h3,h4⟩
 ·exact ⟨by rw [<- h1];exact h0,s,hsl,hcs,a,ha,h1,h2⟩
 have hb:=Em hv hsl ha
 have hadj:a.2.toNat∈Uy true X s:=by
  rw [Ff hv]
  have:((0:Int),((a.2.toNat:Nat):Int))=a:=by
   rcases a with ⟨x,y⟩
   simp only at h0 hb ⊢
   rw [h0];congr 1;omega
  rw [this];exact ha
 exact ⟨hn,u,hu,(hcs.trans (.one hadj)).trans h3,h4⟩
end
theorem Sx {X:List (List Ar)} {cl:List Int} (hc:Nrm X.length cl) (hn:X.length<=64) {v:Nat} (hv:v<X.length):∃ i,i<64/\RT X cl v i:=by
 have hcl:=hc.len
 have hm:cl.getD v 0∈cl:=by rw [gE2,gE1 (by omega)];exact gE6 _
 have:=hc.rng _ hm
 exact ⟨(cl.getD v 0).toNat,by omega,v,hv,.refl _,by omega⟩
theorem WS.or {v w:Nat} {p q r:Nat->Prop} (hv:WS v p) (hw:WS w q) (h:∀ i,i<64->(r i↔p i\/q i)):WS (v ||| w) r:=
 ⟨RE hv.1 hw.1,fun i hi=>by rw [Qb,hv.2 i hi,hw.2 i hi,h i hi]⟩
theorem WS.pow {k:Nat} (hk:k<64):WS (2 ^ k) (fun i=>k=i):=⟨JG hk,fun i _=>RF⟩
theorem WS.zero {p:Nat->Prop} (h:∀ i,¬ p i):WS 0 p:=⟨by omega,fun i _=>by simp [h i]⟩
theorem WS.iff {w:Nat} {p q:Nat->Prop} (h:WS w p) (e:∀ i,i<64->(p i↔q i)):WS w q:=⟨h.1,fun i hi=>by rw [h.2 i hi,e i hi]⟩
theorem O7 (X:List (List Ar)) (D cl:List Int) (c:Nat) (l:List Nat) (i:Nat):¬ VO X D cl c (l.take 0) i:=by rintro ⟨s,hs,_⟩;simp at hs
theorem Qg (X:List (List Ar)) (D cl:List Int) (c:Nat) (l:List Ar) (i:Nat):¬ gT X D cl c (l.take 0) i:=by rintro ⟨s,hs,_⟩;simp at hs
theorem O8 {X:List (List Ar)} {D cl:List Int} {c:Nat} {l:List Nat} {k:Nat} (h:k<l.length) (i:Nat):VO X D cl c (l.take (k+1)) i↔VO X D cl c (l.take k) i\/cl.getD l[k] 0=(i:Int)\/gT X D cl c (X.getD l[k] []) i:=by
 unfold VO
 rw [gE8 h]
 simp only [List.mem_append,List.mem_singleton]
 constructor
 ·rintro ⟨s,hs | hs,h1⟩
  ·exact .inl ⟨s,hs,h1⟩
  subst hs;exact .inr h1
 rintro (⟨s,hs,h1⟩ | h1)
 ·exact ⟨s,.inl hs,h1⟩
 exact ⟨_,.inr rfl,h1⟩
theorem Qh {X:List (List Ar)} {D cl:List Int} {c:Nat} {row:List Ar} {k:Nat} (h:k<row.length) (i:Nat):gT X D cl c (row.take (k+1)) i↔gT X D cl c (row.take k) i\/(row[k].1=0/\Vm D row[k].2.toNat ≠ c/\RT X cl row[k].2.toNat i):=by
 unfold gT
 rw [gE8 h]
 simp only [List.mem_append,List.mem_singleton]
 constructor
 ·rintro ⟨s,hs | hs,h1⟩
  ·exact .inl ⟨s,hs,h1⟩
  subst hs;exact .inr h1
 rintro (⟨s,hs,h1⟩ | h1)
 ·exact ⟨s,.inl hs,h1⟩
 exact ⟨_,.inr rfl,h1⟩
theorem O9 (X:List (List Ar)) (D cl:List Int) (c:Nat) (l:List Nat) (e:Int) (i:Nat):¬ VP X D cl c (l.take 0) e i:=by rintro ⟨s,hs,_⟩;simp at hs
theorem Qi (X:List (List Ar)) (D cl:List Int) (c:Nat) (l:List Ar) (e:Int) (i:Nat):¬ gV X D cl c (l.take 0) e i:=by rintro ⟨s,hs,_⟩;simp at hs
theorem Oa {X:List (List Ar)} {D cl:List Int} {c:Nat} {l:List Nat} {k:Nat} (h:k<l.length) (e:Int) (i:Nat):VP X D cl c (l.take (k+1)) e i↔VP X D cl c (l.take k) e i\/gV X D cl c (X.getD l[k] []) e i:=by
 unfold VP
 rw [gE8 h]
 simp only [List.mem_append,List.mem_singleton]
 constructor
 ·rintro ⟨s,hs | hs,h1⟩
  ·exact .inl ⟨s,hs,h1⟩
  subst hs;exact .inr h1
 rintro (⟨s,hs,h1⟩ | h1)
 ·exact ⟨s,.inl hs,h1⟩
 exact ⟨_,.inr rfl,h1⟩
theorem Qj {X:List (List Ar)} {D cl:List Int} {c:Nat} {row:List Ar} {k:Nat} (h:k<row.length) (e:Int) (i:Nat):gV X D cl c (row.take (k+1)) e i↔gV X D cl c (row.take k) e i\/(row[k].1 ≠ 0/\row[k].1=e/\RT X cl row[k].2.toNat i)\/(row[k].1=0/\Vm D row[k].2.toNat ≠ c/\RV X cl row[k].2.toNat e i):=by
 unfold gV
 rw [gE8 h]
 simp only [List.mem_append,List.mem_singleton]
 constructor
 ·rintro ⟨s,hs | hs,h1⟩
  ·exact .inl ⟨s,hs,h1⟩
  subst hs;exact .inr h1
 rintro (⟨s,hs,h1⟩ | h1)
 ·exact ⟨s,.inl hs,h1⟩
 exact ⟨_,.inr rfl,h1⟩
structure VSt (H:List Ob) (L:Nat) (V:List (Int × Nat × Nat)) (N:Int->Nat->Prop):Prop where
 nd:(V.map (·.1)).Nodup
 nk:(V.map (·.2.1)).Nodup
 ob:∀ p∈V,L<=p.2.1/\H[p.2.1]?=some (BF p.2.2)/\p.2.2<2 ^ 64/\∃ i,i<64/\p.2.2.testBit i=true
 ex:∀ e i,i<64->((∃ p∈V,p.1=e/\p.2.2.testBit i=true)↔N e i)
theorem VSt.nil (H:List Ob) (L:Nat) {N:Int->Nat->Prop} (h:∀ e i,¬ N e i):VSt H L [] N:=⟨by simp,by simp,by simp,fun e i _=>by simp [h e i]⟩
theorem VSt.iff {H:List Ob} {L:Nat} {V:List (Int × Nat × Nat)} {N M:Int->Nat->Prop} (h:VSt H L V N) (e:∀ e i,i<64->(N e i↔M e i)):VSt H L V M:=⟨h.nd,h.nk,h.ob,fun x i hi=>(h.ex x i hi).trans (e x i hi)⟩
theorem VSt.pre {H G:List Ob} {L:Nat} {V:List (Int × Nat × Nat)} {N:Int->Nat->Prop} (h:VSt H L V N) (hp:Pre H G):VSt G L V N:=⟨h.nd,h.nk,fun p hp2=>by obtain ⟨a,b,c⟩:=h.ob p hp2;exact ⟨a,hp.at b,c⟩,h.ex⟩
theorem Fi {α β:Type} {f:α->β}:∀ {l:List α},(l.map f).Nodup->∀ {a b},a∈l->b∈l->f a=f b->a=b
 | [],_,_,_,h,_,_=>by simp at h
 | x :: l,hn,a,b,ha,hb,e=>by
  simp only [List.map_cons,List.nodup_cons] at hn
  rcases List.mem_cons.1 ha with h1 | h1
  ·rcases List.mem_cons.1 hb with h2 | h2
   ·rw [h1,h2]
   ·exact absurd (List.mem_map.2 ⟨b,h2,by rw [<- e,h1]⟩) hn.1
  ·rcases List.mem_cons.1 hb with h2 | h2
   ·exact absurd (List.mem_map.2 ⟨a,h1,by rw [e,h2]⟩) hn.1
   ·exact Fi hn.2 h1 h2 e
theorem VSt.setm {H:List Ob} {L i:Nat} {V:List (Int × Nat × Nat)} {N:Int->Nat->Prop} {kv:List (Value × C)} (h:VSt H L V N) (hi:H[i]?=some (.m kv)) (ob:Ob):VSt (H.set i ob) L V N:=⟨h.nd,h.nk,fun p hp=>by
 obtain ⟨a,b,c⟩:=h.ob p hp
 refine ⟨a,?_,c⟩
 have hne:i ≠ p.2.1:=by rintro rfl;rw [hi] at b;cases b
 rw [gE5 hne];exact b,h.ex⟩
theorem VSt.join {H G:List Ob} {L mid:Nat} {V:List (Int × Nat × Nat)} {N:Int->Nat->Prop} {e:Int} {w:Nat} {q:Nat->Prop} (h:VSt H L V N) (hm:H[mid]?=some (.m (VK V))) (hL:mid<L) (hLH:L<=H.length) (hw:WS w q) (hq:∃ i,i<64/\q i) (hj:SJ H mid V e w G):
  ∃ V',G[mid]?=some (.m (VK V'))/\VSt G L V' (fun e' i=>N e' i\/(e'=e/\q i))/\H.length<=G.length/\(∀ j,j<L->j ≠ mid->G[j]?=H[j]?)/\∀ j kv,H[j]?=some (.m kv)->j ≠ mid->G[j]?=some (.m kv):=by
 rcases hj with ⟨p,hp,he,rfl⟩ | ⟨hno,rfl⟩
 rotate_left
 ·have hml:mid<H.length:=B2 hm
  refine ⟨V++[(e,H.length,w)],?_,⟨?_,?_,fun x hx=>?_,fun e' i hi=>?_⟩,by simp,fun j hj hjm=>by rw [gE5 (Ne.symm hjm),gEa (by omega)],fun j kv hj hjm=>by rw [gE5 (Ne.symm hjm),gEa (B2 hj)];exact hj⟩
  rotate_left 4
  ·rw [<- h.ex e' i hi]
   simp only [List.mem_append,List.mem_singleton]
   constructor
   ·rintro ⟨x,hx | rfl,h1,h2⟩
    ·exact .inl ⟨x,hx,h1,h2⟩
    exact .inr ⟨h1.symm,(hw.2 i hi).1 h2⟩
   rintro (⟨x,hx,h1,h2⟩ | ⟨h1,h2⟩)
   ·exact ⟨x,.inl hx,h1,h2⟩
   exact ⟨_,.inr rfl,h1.symm,(hw.2 i hi).2 h2⟩
  ·exact gEc (by simp;omega)
  ·rw [List.map_append,List.nodup_append]
   refine ⟨h.nd,by simp,fun a ha b hb=>?_⟩
   obtain ⟨p,hp,rfl⟩:=List.mem_map.1 ha
   simp only [List.map_cons,List.map_nil,List.mem_singleton] at hb
   rw [hb];exact hno p hp
  ·rw [List.map_append,List.nodup_append]
   refine ⟨h.nk,by simp,fun a ha b hb=>?_⟩
   obtain ⟨p,hp,rfl⟩:=List.mem_map.1 ha
   simp only [List.map_cons,List.map_nil,List.mem_singleton] at hb
   have:=B2 (h.ob p hp).2.1
   omega
  rcases List.mem_append.1 hx with hx | hx
  ·obtain ⟨a1,a2,a3⟩:=h.ob x hx
   refine ⟨a1,?_,a3⟩
   have:=B2 a2
   rw [gE5 (by omega),gEa this]
   exact a2
  simp only [List.mem_singleton] at hx
  subst hx
  refine ⟨hLH,?_,hw.1,?_⟩
  ·rw [gE5 (by simp only;omega)];exact AZ _ _
  obtain ⟨i,hi,hb⟩:=hq
  exact ⟨i,hi,(hw.2 i hi).2 hb⟩
 obtain ⟨o1,o2,o3,o4⟩:=h.ob p hp
 obtain ⟨A,B,hAB⟩:=List.append_of_mem hp
 have hsame:VK (A++(p.1,p.2.1,p.2.2 ||| w) :: B)=VK V:=by rw [hAB];simp [VK]
 have hne:∀ x∈V,x ≠ p->x.2.1 ≠ p.2.1:=fun x hx hxp e=>hxp (Fi h.nk hx hp e)
 have hpA:p ∉ A++B:=by
  have:=h.nd
  rw [hAB] at this
  intro hin
  simp only [List.map_append,List.map_cons] at this
  have h2:=(List.perm_middle (a:=p.1) (l₁:=A.map (·.1)) (l₂:=B.map (·.1))).nodup_iff.1 this
  rw [List.nodup_cons] at h2
  exact h2.1 (by rw [<- List.map_append];exact List.mem_map.2 ⟨p,hin,rfl⟩)
 have hmem:∀ x,x∈V↔x=p\/x∈A++B:=fun x=>by rw [hAB];simp only [List.mem_append,List.mem_cons];constructor <;> (intro h;rcases h with h | h | h <;> simp [h])
 refine ⟨A++(p.1,p.2.1,p.2.2 ||| w) :: B,?_,⟨?_,?_,fun x hx=>?_,fun e' i hi=>?_⟩,by simp,fun j hj hjm=>by rw [gE5 (by omega)],fun j kv hj hjm=>by
  have hne2:p.2.1 ≠ j:=by rintro rfl;rw [o2] at hj;cases hj
  rw [gE5 hne2];exact hj⟩
 ·rw [hsame,gE5 (by omega)];exact hm
 ·have:=h.nd;rw [hAB] at this;simpa using this
 ·have:=h.nk;rw [hAB] at this;simpa using this
 ·have hx2:x=(p.1,p.2.1,p.2.2 ||| w)\/x∈A++B:=by
   simp only [List.mem_append,List.mem_cons] at hx ⊢
   rcases hx with h | h | h <;> simp [h]
  rcases hx2 with rfl | hx2
  ·refine ⟨o1,?_,RE o3 hw.1,?_⟩
   ·exact gEc (B2 o2)
   obtain ⟨i,hi,hb⟩:=o4
   exact ⟨i,hi,Qb.2 (.inl hb)⟩
  have hxV:=(hmem x).2 (.inr hx2)
  obtain ⟨a1,a2,a3⟩:=h.ob x hxV
  refine ⟨a1,?_,a3⟩
  rw [gE5 (Ne.symm (hne x hxV (fun e=>hpA (e ▸ hx2))))]
  exact a2
 have e1:(∃ x∈A++(p.1,p.2.1,p.2.2 ||| w) :: B,x.1=e'/\x.2.2.testBit i=true)↔(p.1=e'/\(p.2.2 ||| w).testBit i=true)\/∃ x∈A++B,x.1=e'/\x.2.2.testBit i=true:=by
  simp only [List.mem_append,List.mem_cons]
  constructor
  ·rintro ⟨x,h | h | h,h2⟩
   ·exact .inr ⟨x,.inl h,h2⟩
   ·subst h;exact .inl h2
   exact .inr ⟨x,.inr h,h2⟩
  rintro (h2 | ⟨x,h | h,h2⟩)
  ·exact ⟨_,.inr (.inl rfl),h2⟩
  ·exact ⟨x,.inl h,h2⟩
  exact ⟨x,.inr (.inr h),h2⟩
 have e2:(∃ x∈V,x.1=e'/\x.2.2.testBit i=true)↔(p.1=e'/\p.2.2.testBit i=true)\/∃ x∈A++B,x.1=e'/\x.2.2.testBit i=true:=by
  constructor
  rotate_left
  ·rintro (h2 | ⟨x,hx,h2⟩)
   ·exact ⟨p,hp,h2⟩
   exact ⟨x,(hmem x).2 (.inr hx),h2⟩
  rintro ⟨x,hx,h2⟩
  rcases (hmem x).1 hx with rfl | hx
  ·exact .inl h2
  exact .inr ⟨x,hx,h2⟩
 rw [e1,Qb,hw.2 i hi,<- h.ex e' i hi,e2]
 constructor
 ·rintro (⟨a,b | b⟩ | c)
  ·exact .inl (.inl ⟨a,b⟩)
  ·exact .inr ⟨a ▸ he,b⟩
  exact .inl (.inr c)
 rintro ((⟨a,b⟩ | c) | ⟨a,b⟩)
 ·exact .inl ⟨a,.inl b⟩
 ·exact .inr c
 exact .inl ⟨he.trans a.symm,.inr b⟩
end Go.Proofs.YtjijjfkalheokaaDoor
