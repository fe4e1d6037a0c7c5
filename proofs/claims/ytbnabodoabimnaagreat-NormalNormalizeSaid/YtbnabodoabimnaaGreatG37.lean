/- Lemmas. -/
import Derived.Test.YtbnabodoabimnaaGreatZk
import Derived.Test.YtbnabodoabimnaaGreatG36
import Derived.Test.YtbnabodoabimnaaGreatG11
import Derived.Test.YtbnabodoabimnaaGreatG03
import Derived.Test.YtbnabodoabimnaaGreatG49
import Derived.Test.YtbnabodoabimnaaGreatNv5
import Derived.Test.YtbnabodoabimnaaGreatNr6
import Derived.Test.YtbnabodoabimnaaGreatMD
import Derived.Test.YtbnabodoabimnaaGreatMF
namespace Go.Proofs.YtbnabodoabimnaaGreat
set_option linter.unusedVariables false
set_option linter.unusedSimpArgs false
open Go.RowKit
set_option maxRecDepth 100000
attribute [local go_sem] gBj gBi gAV gAX gBp gBq gAs gAr C.pl C.one gAf gAh gA3
theorem O8 (T:List Int) (hT:TpOk T) (a0 n:Nat) (ha:a0<=1000000) (hn1:1<=n) (hn:n<=20):
  FC Tryz.prog 50 [.a (.c (.p 0 0)),.i n] [tape T a0] (fun r o=>∃ (a':Nat) (R:List (List Ar)),o=[tape T a',.r ⟨24,1,true,Br R⟩,.r ⟨27,1,false,[.s 1 R.length]⟩]/\r=.a (.g [.s 1 R.length])/\a'<=a0+1+7*n/\1<=R.length/\R.length<=n/\OkSys 3 R.length R):=by
 refine A7 Tryz.func50 rfl (by rw [Tryz.ntmps50];simp) ?_
 rw [Tryz.ntmps50]
 simp only [B4,tape,Kb]
 (refine ai ?_;(repeat clear hK K);repeat refine kq fun K hK=>?_)
 (refine Aj rfl ?_;intro K1 hK1;refine ct [0] (CY T a0 n hT (by omega) (by omega)) ?_ ?_)
 ·rintro _ _ ⟨rfl,v,rfl,_⟩;rfl
 rintro _ _ ⟨rfl,m,rfl,hm⟩
 (simp only [Ap,AC,tape,Ys,go_sem];refine hK1 _ ?_;clear hK1 K1)
 have em:(1+(m:Int)).toNat=m+1:=by omega
 (refine aj (an @em (an @gBj.{0} @gBi.{0})) ?_;(repeat clear hK K);repeat refine kq fun K hK=>?_)
 refine As (CI 2 rfl) ?_
 simp only [OZ,gBj,gBi]
 refine Ab (fun p:Nat × List (List Ar) × Nat=>{ tm:=[(0,.a (.c (.p 0 0))),(4,.a (.c (.p 1 0))),(5,.a (.c (.p 3 0))),(6,.i p.1)],hp:=[.r ⟨66,2,false,[.t 1 (Ac T),.v (.int .i64 p.2.2)]⟩,.r ⟨27,1,false,[.v (.slice none 0 0)]⟩,.r ⟨24,1,true,Br p.2.1⟩,.r ⟨27,1,false,[.s 2 (m+1)]⟩],n:=46,pin:=1 })
  (fun p=>p.1<=m+1/\p.2.2<=a0+1+7*p.1/\OkSys 3 (m+1) p.2.1/\∀ q r,p.1<=q->p.2.1[q]?=some r->r=[]) (fun p=>m+1 - p.1) (0,List.replicate (m+1) [],a0+1) ?_ ?_ ?_
 ·refine ⟨by simp,by simp,MF _,fun q r _ hr=>?_⟩
  exact List.eq_of_mem_replicate (gE9 hr)
 ·exact W5
 rintro ⟨i,R,a⟩ ⟨hi,hA,hR,hE⟩ K hK
 simp only at hi hA hR hE ⊢
 (refine ai ?_;(repeat clear hK K);repeat refine kq fun K hK=>?_)
 (refine Ah ?_;intro X Y hX hY;simp only [go_sem])
 refine ⟨fun h=>hX ?_,fun h=>hY ?_⟩
 rotate_left
 ·have hi1:i=m+1:=by simp at h;omega
  clear hX hY X Y
  (refine VZ ?_;repeat clear hK K)
  (refine aj (an @gBj.{0} @gBi.{0}) ?_;(repeat clear hK K);repeat refine kq fun K hK=>?_)
  (repeat (first | (refine AA ?_;intro K hK) | refine Ai ?_ | refine Ag ?_ | (refine AX rfl rfl ?_;intro K1 hK1;simp only [go_sem,gBj,gBi,C.pl,C.one,gAf,gAh,gA3,gBp,gBq,gAs];(first | refine hK1 _ ?_ | refine AE (hK1 _ ?_));clear hK1 K1) | ((first | refine Aa ?_ | refine Am ?_);refine hK _ ?_;clear hK K)))
  refine W7 [0,2,1] Tryz.results50 @Cc ?_
  exact ⟨a,R,by simp only [tape,hR.1],by rw [hR.1],by omega,by rw [hR.1];omega,by rw [hR.1];omega,by rw [hR.1];exact hR⟩
 have hi1:i<m+1:=by simp at h;omega
 clear hX hY X Y
 (refine ai ?_;(repeat clear hK K);repeat refine kq fun K hK=>?_)
 (refine Aj rfl ?_;intro K1 hK1;refine ct [0] (CY T a 4 hT (by omega) (by omega)) ?_ ?_)
 ·rintro _ _ ⟨rfl,v,rfl,_⟩;rfl
 rintro _ _ ⟨rfl,w0,rfl,hw0⟩
 (simp only [Ap,AC,tape,BX,Ys,go_sem];refine hK1 _ ?_;clear hK1 K1)
 (refine ai ?_;(repeat clear hK K);repeat refine kq fun K hK=>?_)
 refine Ab (fun p:Nat × List (List Ar) × Nat=>{ tm:=[(0,.a (.c (.p 0 0))),(4,.a (.c (.p 1 0))),(5,.a (.c (.p 3 0))),(6,.i i),(7,.i p.1)],hp:=[.r ⟨66,2,false,[.t 1 (Ac T),.v (.int .i64 p.2.2)]⟩,.r ⟨27,1,false,[.v (.slice none 0 0)]⟩,.r ⟨24,1,true,Br p.2.1⟩,.r ⟨27,1,false,[.s 2 (m+1)]⟩],n:=46,pin:=1 })
  (fun p=>p.1<=3/\p.2.2+2*p.1<=a+7/\OkSys 3 (m+1) p.2.1/\(∀ r,p.2.1[i]?=some r->r.length+p.1<=3)/\∀ q r,i+1<=q->p.2.1[q]?=some r->r=[]) (fun p=>p.1) (w0,R,a+1) ?_ ?_ ?_
 ·refine ⟨by simp only;omega,by simp only;omega,hR,fun r hr=>?_,fun q r hq hr=>hE q r (by omega) hr⟩
  rw [hE i r (gBu _) hr];simp;omega
 ·exact W5
 rintro ⟨w,R2,a2⟩ ⟨hw,hA2,hR2,hi2,hE2⟩ K hK
 simp only at hw hA2 hR2 hi2 hE2 ⊢
 have hl2:i<R2.length:=by rw [hR2.1];exact hi1
 have hg2:=gE1 hl2
 have hrow:=hR2.2 _ (gE6 hl2)
 (refine ai ?_;(repeat clear hK K);repeat refine kq fun K hK=>?_)
 (refine Ah ?_;intro X Y hX hY;simp only [go_sem])
 refine ⟨fun h=>hX ?_,fun h=>hY ?_⟩
 rotate_left
 ·have hw0:w=0:=by simp at h;omega
  clear hX hY X Y
  (refine VZ ?_;repeat clear hK K)
  (refine ai ?_;(repeat clear hK K);repeat refine kq fun K hK=>?_)
  refine W4 ?_
  refine hK _ (i+1,R2,a2) ⟨by simp only;omega,by simp only;omega,hR2,fun q r hq hr=>hE2 q r hq hr⟩ (by simp only;omega) ?_
  exact W5
 have hw1:0<w:=by simpa using h
 clear hX hY X Y
 (refine ai ?_;(repeat clear hK K);repeat refine kq fun K hK=>?_)
 refine C5 [0] [(0,0,0),(2,0,0),(3,0,0),(5,0,0),(8,0,0),(10,0,0),(11,0,0),(1,1,18),(4,1,16),(6,0,0),(7,1,16),(12,1,14),(13,0,0),(9,2,0),(14,2,0),(15,0,0),(16,2,0),(17,0,0),(18,2,0)] (by kernel_rfl) (by kernel_rfl) (by intro c st h;simp [Ad,Ay,Vl] at h) ?_
 (repeat (first | (refine VF rfl rfl rfl ?_;intro K1 hK1;simp only [undef,Vv,go_sem,AH,BC hg2];first | (refine hK1 _ ?_;clear hK1 K1) | (refine AE (hK1 _ ?_);clear hK1 K1)) | (refine VG rfl rfl rfl rfl rfl rfl rfl rfl rfl ?_;intro K1 hK1;simp only [undef,Vv,go_sem,AH,BC hg2];first | (refine hK1 _ ?_;clear hK1 K1) | (refine AE (hK1 _ ?_);clear hK1 K1))))
 (refine VH rfl rfl ?_;intro K1 hK1;refine BL (ids:=[]) [0] (Ey T hT a2 (by omega)) rfl rfl (by simp only [Vv,go_sem]) (by kernel_rfl) rfl rfl rfl (by (simp only [Vv,F9,gAT,gAk,AV.ren,A0.ren,C.ren,idx,Dn,Dl,go_sem]) <;> rfl) (by (simp only [Vk,Ob.ren,C.ren,idx,Dn,Dl,gAz,gAy,tape,go_sem]) <;> rfl) ?_ ?_)
 ·rintro _ _ ⟨rfl,v,rfl,_⟩;exact BN rfl
 rintro _ _ ⟨rfl,e,rfl,he⟩
 (simp only [Ap,AC,tape,BX,Ys,go_sem];refine hK1 _ ?_;clear hK1 K1)
 (repeat (first | (refine VF rfl rfl rfl ?_;intro K1 hK1;simp only [undef,Vv,go_sem];first | (refine hK1 _ ?_;clear hK1 K1) | (refine AE (hK1 _ ?_);clear hK1 K1)) | (refine VG rfl rfl rfl rfl rfl rfl rfl rfl rfl ?_;intro K1 hK1;simp only [undef,Vv,go_sem];first | (refine hK1 _ ?_;clear hK1 K1) | (refine AE (hK1 _ ?_);clear hK1 K1))))
 (refine VH rfl rfl ?_;intro K1 hK1;refine BL (ids:=[]) [0] (CY T (a2+1) (m+1) hT (by omega) (by omega)) rfl rfl (by simp only [Vv,go_sem]) (by kernel_rfl) rfl rfl rfl (by (simp only [Vv,F9,gAT,gAk,AV.ren,A0.ren,C.ren,idx,Dn,Dl,go_sem]) <;> rfl) (by (simp only [Vk,Ob.ren,C.ren,idx,Dn,Dl,gAz,gAy,tape,go_sem]) <;> rfl) ?_ ?_)
 ·rintro _ _ ⟨rfl,v,rfl,_⟩;exact BN rfl
 rintro _ _ ⟨rfl,t,rfl,ht⟩
 (simp only [Ap,AC,tape,BX,Ys,go_sem];refine hK1 _ ?_;clear hK1 K1)
 (repeat (first | (refine VF rfl rfl rfl ?_;intro K1 hK1;simp only [undef,Vv,go_sem];first | (refine hK1 _ ?_;clear hK1 K1) | (refine AE (hK1 _ ?_);clear hK1 K1)) | (refine VG rfl rfl rfl rfl rfl rfl rfl rfl rfl ?_;intro K1 hK1;simp only [undef,Vv,go_sem];first | (refine hK1 _ ?_;clear hK1 K1) | (refine AE (hK1 _ ?_);clear hK1 K1))))
 (refine VH rfl rfl ?_;intro K1 hK1;refine Bv ?_;refine BL (ids:=[]) [] (IW R2[i] (e,(t:Int)) (by have:=hrow.2.1;omega)) rfl rfl (by simp only [Vv,go_sem]) (by kernel_rfl) rfl rfl rfl (by (simp only [Vv,F9,gAT,gAk,AV.ren,A0.ren,C.ren,idx,Dn,Dl,go_sem]) <;> rfl) (by (simp only [Vk,Ob.ren,C.ren,idx,Dn,Dl,gAz,gAy,GX,go_sem]) <;> rfl) ?_ ?_)
 ·rintro _ _ ⟨rfl,rfl⟩ i o hi hl;simp at hl
 rintro _ _ ⟨rfl,rfl⟩
 (simp only [Ap,AC,GX,BX,Ys,go_sem];refine hK1 _ ?_;clear hK1 K1)
 (repeat (first | (refine VF rfl rfl rfl ?_;intro K1 hK1;simp only [undef,Vv,go_sem];first | (refine hK1 _ ?_;clear hK1 K1) | (refine AE (hK1 _ ?_);clear hK1 K1)) | (refine VG rfl rfl rfl rfl rfl rfl rfl rfl rfl ?_;intro K1 hK1;simp only [undef,Vv,go_sem];first | (refine hK1 _ ?_;clear hK1 K1) | (refine AE (hK1 _ ?_);clear hK1 K1))))
 refine VI rfl rfl rfl ?_;intro K1 hK1
 refine Bc rfl ?_;simp only [undef,Vv,ST.put,De,A0.cells,AH,gBj,gBi,Ew,go_sem]
 (first | (refine hK1 _ ?_;clear hK1 K1) | (refine AE (hK1 _ ?_);clear hK1 K1))
 refine OM ⟨by simp,by simp,?_⟩
 refine hK _ ?_;clear hK K
 (refine ai ?_;(repeat clear hK K);repeat refine kq fun K hK=>?_)
 refine W4 ?_
 have hx:0<=e/\e<=1025/\0<=(t:Int)/\(t:Int)<((m+1:Nat):Int):=⟨he.1,he.2,by omega,by omega⟩
 have e1:((w:Int) - 1)=((w - 1:Nat):Int):=by omega
 have hw3:=hi2 _ hg2
 refine hK _ (w - 1,R2.set i (E5 (e,(t:Int)) R2[i]),a2+2) ⟨by simp only;omega,by simp only;omega,hR2.set ?_ i,fun r hr=>?_,fun q r hq hr=>?_⟩ (by simp only;omega) ?_
 rotate_left 2
 ·simp only at hr
  rw [gE5 (by omega)] at hr
  exact hE2 q r hq hr
 ·(refine Bh ?_;simp only [CS,go_sem,e1];try simp)
 ·exact (OkRow.ins ⟨hrow.1,gBu _,hrow.2.2⟩ hx).le (by omega)
 simp only at hr ⊢
 rw [gEc hl2] at hr
 cases hr
 have:=JZ (e,(t:Int)) R2[i]
 omega

set_option maxHeartbeats 1000000 in
theorem PV (T:List Int) (hT:TpOk T) (a0 n:Nat) (ha:a0<=500000) (hn1:1<=n) (hn:n<=20):
  FC Tryz.prog 21 [.a (.c (.p 0 0)),.i n] [tape T a0] (fun r o=>∃ (a':Nat) (R:List (List Ar)),o=[tape T a',Kb R]/\r=Ba R/\a'<=a0+1+8*n/\1<=R.length/\R.length<=n/\OkSys 4 R.length R):=by
 refine A7 Tryz.func21 rfl (by rw [Tryz.ntmps21];simp) ?_
 rw [Tryz.ntmps21]
 simp only [B4,tape,Kb,Ba]
 (refine ai ?_;(repeat clear hK K);repeat refine kq fun K hK=>?_)
 (refine Aj rfl ?_;intro K1 hK1;refine ct [0] (O8 T hT a0 n (by omega) hn1 hn) ?_ ?_)
 ·rintro _ _ ⟨_,_,rfl,rfl,_⟩;rfl
 rintro _ _ ⟨a1,R0,rfl,rfl,ha1,hl1,hl2,hok⟩
 (simp only [Ap,AC,tape,BX,Ys,go_sem];refine hK1 _ ?_;clear hK1 K1)
 (refine ai ?_;(repeat clear hK K);repeat refine kq fun K hK=>?_)
 refine As (A8 [0,1,2,4] rfl rfl) ?_
 (try simp only [Yn,go_sem])
 (try simp only [Cc])
 obtain ⟨m,hm⟩:∃ m,m=R0.length:=⟨_,rfl⟩
 rw [<- hm] at hl1 hl2 hok
 (try rw [<- hm])
 refine Ab (fun p:Nat × List (List Ar) × Nat=>{ tm:=[(0,.a (.c (.p 0 0))),(4,.a (.c (.p 1 0))),(5,.a (.c (.p 3 0))),(6,.i p.1)],hp:=[.r ⟨66,2,false,[.t 1 (Ac T),.v (.int .i64 p.2.2)]⟩,.r ⟨27,1,false,[.v (.slice none 0 0)]⟩,.r ⟨24,1,true,Br p.2.1⟩,.r ⟨27,1,false,[.s 2 m]⟩],n:=34,pin:=1 })
  (fun p=>p.1+1<=m/\p.2.2<=a1+p.1/\OkSys 4 m p.2.1/\∀ q r,p.1<=q->p.2.1[q]?=some r->r.length<=3) (fun p=>m - p.1) (0,R0,a1) ?_ ?_ ?_
 ·exact ⟨by simp only;omega,by simp,hok.le (by omega),fun q r _ hr=>(hok.2 r (gE9 hr)).2.1⟩
 ·exact W5
 rintro ⟨s,R,a⟩ ⟨hs,hA,hR,hE⟩ K hK
 simp only at hs hA hR hE ⊢
 have hRl:=hR.1
 by_cases hlt:s+1<m
 rotate_left
 ·have hl0:decide ((s:Int)+1<(m:Int))=false:=by simp;omega
  (refine aj @hl0 ?_;repeat refine kq fun K hK=>?_)
  refine W3 ?_
  (refine VZ ?_;repeat clear hK K)
  refine As (AQ (r:=⟨24,1,true,Br R⟩) (ri:=⟨27,1,false,[.s 2 m]⟩) (ts:=AK R) 3 0 2 m (by decide) rfl rfl rfl rfl (show 0<1 by omega) (by simp only [AH,hRl];omega) (GZ R)) ?_
  refine As (CI 3 rfl) ?_
  simp only [Vp,gAV,gAX,go_sem]
  (refine ai ?_;(repeat clear hK K);repeat refine kq fun K hK=>?_)
  refine W6 [0,1] Tryz.results21 ?_
  exact ⟨a,R,rfl,rfl,by omega,by omega,by omega,by rw [hRl];exact hR⟩
 have hl0:decide ((s:Int)+1<(m:Int))=true:=by simp;omega
 have hl2':s<R.length:=by omega
 have hg2:=gE1 hl2'
 have hrow:=hR.2 _ (gE6 hl2')
 have hne:(Br R).isEmpty=false:=by
  have:=AH R
  cases hc:Br R with
  | nil=>rw [hc] at this;simp at this;omega
  | cons _ _=>rfl
 (refine aj @hl0 ?_;repeat refine kq fun K hK=>?_)
 refine W2 ?_
 (refine ai ?_;repeat refine kq fun K hK=>?_)
 refine YH [2,3] (.m 0 0 0 (.m 2 0 0 (.m 3 0 0 (.m 5 0 0 (.m 8 0 0 (.m 10 0 0 (.m 11 0 0 (.m 1 1 15 (.m 4 1 13 (.m 6 0 0 (.m 7 1 13 (.a 9 (.m 12 0 0 (.a 13 (.m 14 0 0 (.a 15 .e)))))))))))))))) ?_
 (refine VY (an @AH (BC hg2)) ?_;repeat clear hK K)
 (refine E3 rfl rfl rfl ?_;intro K1 hK1;refine yX [0] ?_;refine xy [0] (Ey T hT a (by omega)) ?_ ?_)
 ·rintro _ _ ⟨rfl,v,rfl,_⟩;exact BN rfl
 rintro _ _ ⟨rfl,e,rfl,he⟩
 (simp only [Ap,AC,tape,BX,Ys,go_sem];refine hK1 _ ?_;clear hK1 K1)
 (refine VX ?_;repeat clear hK K)
 (refine E3 rfl rfl rfl ?_;intro K1 hK1;refine yX [] ?_;refine BL (ids:=[]) [] (IW R[s] (e,(s:Int)+1) (by have:=hrow.2.1;omega)) rfl rfl (by simp only [go_sem]) (by kernel_rfl) rfl rfl rfl (by (simp only [go_sem]) <;> rfl) (by (simp only [Vk,GX,go_sem]) <;> rfl) ?_ ?_)
 ·rintro _ _ ⟨rfl,rfl⟩ i o hi hl;simp at hl
 rintro _ _ ⟨rfl,rfl⟩
 (simp only [Ap,AC,GX,BX,Ys,go_sem];refine hK1 _ ?_;clear hK1 K1)
 (refine VX ?_;repeat clear hK K)
 (refine VM rfl rfl rfl rfl ?_;intro K1 hK1;refine Bc rfl ?_;simp only [go_sem,ST.put,De,A0.cells,AH,Ew];(first | refine hK1 _ ?_ | refine AE (hK1 _ ?_));clear hK1 K1)
 (refine VX ?_;repeat clear hK K)
 (refine ai ?_;(repeat clear hK K);repeat refine kq fun K hK=>?_)
 refine W4 ?_
 have hx:0<=e/\e<=1025/\0<=(s:Int)+1/\(s:Int)+1<(m:Int):=⟨he.1,he.2,by omega,by omega⟩
 have h3:=hE s _ (gBu _) hg2
 refine hK _ (s+1,R.set s (E5 (e,(s:Int)+1) R[s]),a+1) ⟨by simp only;omega,by simp only;omega,hR.set ?_ s,fun q r hq hr=>?_⟩ (by simp only;omega) ?_
 rotate_left 2
 ·exact W5
 ·exact (OkRow.ins (m:=m) ⟨hrow.1,h3,hrow.2.2⟩ hx)
 simp only at hr hq
 rw [gE5 (by omega)] at hr
 exact hE q r (by omega) hr
def Hw (R:List (List Ar)):Bool:=decide (R.length > 12) || decide (Ci R > 60)
theorem SJ (R:List (List Ar)) (hn:R.length<=140737488355328) (hr:∀ r∈R,r.length<=140737488355328):FC Tryz.prog 25 [Ba R] [] (fun r o=>o=[]/\r=.b (Hw R)):=by
 refine A7 Tryz.func25 rfl (by rw [Tryz.ntmps25];simp) ?_
 rw [Tryz.ntmps25]
 simp only [B4,Ba]
 (refine ai ?_;(repeat clear hK K);repeat refine kq fun K hK=>?_)
 refine Ab (fun k:Nat=>{ tm:=[(1,.a (.c (.p 0 0))),(3,.i (Ci (R.take k):Int)),(4,.i k)],hp:=[.r ⟨27,1,false,[.t 1 (AK R)]⟩],n:=32,pin:=0 }) (fun k=>k<=R.length) (fun k=>R.length - k) 0 ?_ ?_ ?_
 ·omega
 ·(refine Bh ?_;simp only [CS,go_sem,gBq,Ci,gAX,List.sum_nil,Int.natCast_zero];try simp)
 rintro k hk K hK
 have hle:=IX R k
 have hfull:k=R.length->Ci (R.take k)=Ci R:=fun e=>by rw [e,gBn]
 by_cases hlt:k<R.length
 ·have hl1:=Yp hlt
  have hgk:=gE1 hlt
  have hrk:=hr _ (gE6 hlt)
  have htk:=Da hlt
  generalize hW:Ci (R.take k)=W at *
  by_cases h60:W<=60
  ·have d2:decide ((W:Int)<=60)=true:=by simp;omega
   have e3:((W:Int)+(R[k].length:Int))=(Ci (R.take (k+1)):Int):=by omega
   (refine aj (an @hl1 (an @d2 @A6)) ?_;repeat refine kq fun K hK=>?_)
   refine W2 ?_
   (refine aj (an (Ao hgk) (an @A6 (an @A3 (an @Aq @e3)))) ?_;(repeat clear hK K);repeat refine kq fun K hK=>?_)
   refine W4 ?_
   refine hK _ (k+1) (by omega) (by omega) ?_
   exact W5
  have d2:decide ((W:Int)<=60)=false:=by simp;omega
  have d3:decide ((W:Int) > 60)=true:=by simp;omega
  have t60:decide (Ci R > 60)=true:=by simp;omega
  (refine aj (an @hl1 (an @d2 @A6)) ?_;repeat refine kq fun K hK=>?_)
  refine W3 ?_
  (refine VZ ?_;repeat clear hK K)
  cases t12:decide (R.length > 12) with
  | true=>
   have d4:decide ((R.length:Int) > 12)=true:=by simp at t12;simp;omega
   (refine aj (an @d3 (an @d4 @A6)) ?_;(repeat clear hK K);repeat refine kq fun K hK=>?_)
   refine W6 [] Tryz.results25 ?_
   rw [Hw,t12];rfl
  | false=>
   have d4:decide ((R.length:Int) > 12)=false:=by simp at t12;simp;omega
   (refine aj (an @d3 (an @d4 @A6)) ?_;(repeat clear hK K);repeat refine kq fun K hK=>?_)
   refine W6 [] Tryz.results25 ?_
   rw [Hw,t12,t60];rfl
 have hl1:=Yq hlt
 have hke:k=R.length:=by omega
 have hf:=hfull hke
 generalize hW:Ci (R.take k)=W at *
 cases t60:decide (Ci R > 60) with
 | true=>
  have d3:decide ((W:Int) > 60)=true:=by simp at t60;simp;omega
  (refine aj (an @hl1 @A6) ?_;repeat refine kq fun K hK=>?_)
  refine W3 ?_
  (refine VZ ?_;repeat clear hK K)
  cases t12:decide (R.length > 12) with
  | true=>
   have d4:decide ((R.length:Int) > 12)=true:=by simp at t12;simp;omega
   (refine aj (an @d3 (an @d4 @A6)) ?_;(repeat clear hK K);repeat refine kq fun K hK=>?_)
   refine W6 [] Tryz.results25 ?_
   rw [Hw,t12];rfl
  | false=>
   have d4:decide ((R.length:Int) > 12)=false:=by simp at t12;simp;omega
   (refine aj (an @d3 (an @d4 @A6)) ?_;(repeat clear hK K);repeat refine kq fun K hK=>?_)
   refine W6 [] Tryz.results25 ?_
   rw [Hw,t12,t60];rfl
 | false=>
  have d3:decide ((W:Int) > 60)=false:=by simp at t60;simp;omega
  (refine aj (an @hl1 @A6) ?_;repeat refine kq fun K hK=>?_)
  refine W3 ?_
  (refine VZ ?_;repeat clear hK K)
  cases t12:decide (R.length > 12) with
  | true=>
   have d4:decide ((R.length:Int) > 12)=true:=by simp at t12;simp;omega
   (refine aj (an @d3 (an @d4 @A6)) ?_;(repeat clear hK K);repeat refine kq fun K hK=>?_)
   refine W6 [] Tryz.results25 ?_
   rw [Hw,t12];rfl
  | false=>
   have d4:decide ((R.length:Int) > 12)=false:=by simp at t12;simp;omega
   (refine aj (an @d3 (an @d4 @A6)) ?_;(repeat clear hK K);repeat refine kq fun K hK=>?_)
   refine W6 [] Tryz.results25 ?_
   rw [Hw,t12,t60];rfl

attribute [local go_sem] lga C.pl C.one
theorem YP (r q:List Ar) (hn:r.length<=1000000) (hm:q.length<=1000000):FC Tryz.prog 61 [.a (.c (.t 2 (Aw r))),.a (.c (.t 2 (Aw q)))] [] (fun x o=>o=[]/\x=.b (decide (r=q))):=by
 refine A7 Tryz.func61 rfl (by rw [Tryz.ntmps61];simp) ?_
 rw [Tryz.ntmps61]
 simp only [B4]
 by_cases hl:r.length=q.length
 rotate_left
 ·have d0:((r.length:Int) != (q.length:Int))=true:=by simp;omega
  (refine aj (an @A3 (an @Aq @d0)) ?_;repeat refine kq fun K hK=>?_)
  refine W2 ?_
  (refine ai ?_;(repeat clear hK K);repeat refine kq fun K hK=>?_)
  refine W6 [] Tryz.results61 ?_
  rw [gBK fun e=>hl (by rw [e])]
 have d0:((r.length:Int) != (q.length:Int))=false:=by simp [hl]
 (refine aj (an @A3 (an @Aq @d0)) ?_;repeat refine kq fun K hK=>?_)
 refine W3 ?_
 (refine ai ?_;(repeat clear hK K);repeat refine kq fun K hK=>?_)
 refine Ab (fun k:Nat=>{ tm:=[(0,.a (.c (.t 2 (Aw r)))),(1,.a (.c (.t 2 (Aw q)))),(5,.i k)],hp:=[],n:=26,pin:=0 }) (fun k=>k<=r.length/\r.take k=q.take k) (fun k=>r.length - k) 0 ?_ ?_ ?_
 ·exact ⟨by omega,rfl⟩
 ·exact W5
 rintro k ⟨hk,htk⟩ K hK
 by_cases hlt:k<r.length
 rotate_left
 ·have d1:=Yq hlt
  rw [gE7 (by omega),gE7 (by omega)] at htk
  (refine aj (an @d1 (an @A3 @Aq)) ?_;repeat refine kq fun K hK=>?_)
  refine W3 ?_
  (refine VZ ?_;repeat clear hK K)
  (refine ai ?_;(repeat clear hK K);repeat refine kq fun K hK=>?_)
  refine W6 [] Tryz.results61 ?_
  rw [gEg htk]
 have d1:=Yp hlt
 have hlq:k<q.length:=by omega
 have hat:=AS hlt
 have haq:=AS hlq
 have t1:=gE8 hlt
 have t2:=gE8 hlq
 have hno:r[k] ≠ q[k]->¬ r=q:=fun h e=>h (by subst e;rfl)
 generalize r[k]=a at *
 generalize q[k]=b at *
 have hne:=fun x y=>Rp x y a b
 by_cases hab:a=b
 rotate_left
 ·have d2:decide (a=b)=false:=gBK hab
  simp only [d2,gA8] at hne
  (refine aj (an @d1 (an @A3 @Aq)) ?_;repeat refine kq fun K hK=>?_)
  refine W2 ?_
  (refine ai ?_;repeat refine kq fun K hK=>?_)
  refine Yr 8 [(0,0),(1,0),(2,0),(3,1),(4,0),(5,0),(6,0),(7,1),(8,2)] ?_
  (refine VS (an @hat (an @haq (an @A3 (an @Aq (an @hne (an @FP (an @d2 (an @gA8 @true_and)))))))) ?_;repeat clear hK K)
  refine W2 ?_
  (refine ai ?_;(repeat clear hK K);repeat refine kq fun K hK=>?_)
  refine W6 [] Tryz.results61 ?_
  rw [gBK (hno hab)]
 have d2:decide (a=b)=true:=gEg hab
 simp only [d2,gA9] at hne
 (refine aj (an @d1 (an @A3 @Aq)) ?_;repeat refine kq fun K hK=>?_)
 refine W2 ?_
 (refine ai ?_;repeat refine kq fun K hK=>?_)
 refine Yr 8 [(0,0),(1,0),(2,0),(3,1),(4,0),(5,0),(6,0),(7,1),(8,2)] ?_
 (refine VS (an @hat (an @haq (an @A3 (an @Aq (an @hne (an @FP (an @d2 (an @gA9 @true_and)))))))) ?_;repeat clear hK K)
 refine W3 ?_
 (refine ai ?_;(repeat clear hK K);repeat refine kq fun K hK=>?_)
 refine W4 ?_
 refine hK _ (k+1) ⟨by omega,by rw [t1,t2,htk,hab]⟩ (by omega) ?_
 exact W5
theorem Zg (R Q:List (List Ar)) (hn:R.length<=1000000) (hr:∀ r∈R,r.length<=1000000) (hm:Q.length<=1000000) (hq:∀ r∈Q,r.length<=1000000):FC Tryz.prog 36 [Ba R,Ba Q] [] (fun x o=>o=[]/\x=.b (decide (R=Q))):=by
 refine A7 Tryz.func36 rfl (by rw [Tryz.ntmps36];simp) ?_
 rw [Tryz.ntmps36]
 simp only [B4,Ba]
 by_cases hl:R.length=Q.length
 rotate_left
 ·have d0:((R.length:Int) != (Q.length:Int))=true:=by simp;omega
  (refine aj (an @A6 @d0) ?_;repeat refine kq fun K hK=>?_)
  refine W2 ?_
  (refine ai ?_;(repeat clear hK K);repeat refine kq fun K hK=>?_)
  refine W6 [] Tryz.results36 ?_
  rw [gBK fun e=>hl (by rw [e])]
 have d0:((R.length:Int) != (Q.length:Int))=false:=by simp [hl]
 (refine aj (an @A6 @d0) ?_;repeat refine kq fun K hK=>?_)
 refine W3 ?_
 (refine ai ?_;(repeat clear hK K);repeat refine kq fun K hK=>?_)
 refine Ab (fun k:Nat=>{ tm:=[(2,.a (.c (.p 0 0))),(3,.a (.c (.p 1 0))),(5,.i k)],hp:=[.r ⟨27,1,false,[.t 1 (AK R)]⟩,.r ⟨27,1,false,[.t 1 (AK Q)]⟩],n:=32,pin:=0 }) (fun k=>k<=R.length/\R.take k=Q.take k) (fun k=>R.length - k) 0 ?_ ?_ ?_
 ·exact ⟨by omega,rfl⟩
 ·exact W5
 rintro k ⟨hk,htk⟩ K hK
 by_cases hlt:k<R.length
 rotate_left
 ·have d1:=Yq hlt
  rw [gE7 (by omega),gE7 (by omega)] at htk
  (refine aj (an @d1 @A6) ?_;repeat refine kq fun K hK=>?_)
  refine W3 ?_
  (refine VZ ?_;repeat clear hK K)
  (refine ai ?_;(repeat clear hK K);repeat refine kq fun K hK=>?_)
  refine W6 [] Tryz.results36 ?_
  rw [gEg htk]
 have d1:=Yp hlt
 have hlq:k<Q.length:=by omega
 have g1:=Ao (gE1 hlt)
 have g2:=Ao (gE1 hlq)
 have t1:=gE8 hlt
 have t2:=gE8 hlq
 have hsr:=YP R[k] Q[k] (hr _ (gE6 hlt)) (hq _ (gE6 hlq))
 have hno:R[k] ≠ Q[k]->¬ R=Q:=fun h e=>h (by subst e;rfl)
 generalize R[k]=a at *
 generalize Q[k]=b at *
 (refine aj (an @d1 @A6) ?_;repeat refine kq fun K hK=>?_)
 refine W2 ?_
 (refine ai ?_;repeat refine kq fun K hK=>?_)
 refine Yr 10 [(0,0),(1,1),(2,0),(3,0),(4,1),(5,0),(6,1),(7,0),(8,0),(9,1),(10,2),(11,0)] ?_
 (refine VS (an @A6 (an @g1 @g2)) ?_;repeat clear hK K)
 (refine Qa hsr ?_;intro K1 hK1)
 rintro _ _ ⟨rfl,rfl⟩
 (refine W1 ?_;clear hK1 K1)
 by_cases hab:a=b
 rotate_left
 ·rw [gBK hab]
  (refine VS @gA8 ?_;repeat clear hK K)
  refine W2 ?_
  (refine ai ?_;(repeat clear hK K);repeat refine kq fun K hK=>?_)
  refine W6 [] Tryz.results36 ?_
  rw [gBK (hno hab)]
 rw [gEg hab]
 (refine VS @gA9 ?_;repeat clear hK K)
 refine W3 ?_
 (refine ai ?_;(repeat clear hK K);repeat refine kq fun K hK=>?_)
 refine W4 ?_
 refine hK _ (k+1) ⟨by omega,by rw [t1,t2,htk,hab]⟩ (by omega) ?_
 exact W5
theorem ZQ (R:List (List Ar)) (hn:R.length<=1000000) (hr:∀ r∈R,r.length<=1000000):FC Tryz.prog 47 [Ba R] [] (fun x o=>o=[]/\x=.b (C7 R && decide ((AZ R).1=R))):=by
 refine A7 Tryz.func47 rfl (by rw [Tryz.ntmps47];simp) ?_
 rw [Tryz.ntmps47]
 simp only [B4,Ba]
 have hv:=Db R (by omega) (fun r h=>by have:=hr r h;omega)
 simp only [Ba] at hv
 cases hva:C7 R with
 | false=>
  rw [hva] at hv
  (refine a8 ?_;repeat refine kq fun K hK=>?_)
  refine Yt hv ?_
  (refine aj @gA8 ?_;repeat refine kq fun K hK=>?_)
  refine W2 ?_
  (refine ai ?_;(repeat clear hK K);repeat refine kq fun K hK=>?_)
  exact OP [] Tryz.results47
 | true=>
  rw [hva] at hv
  have hP:=gE4 hva
  have hcn:=YG R hP.1.1 (fun r h a ha=>by have:=hP.1.2.2.2 r h a ha;omega) hn hr
  have hP2:=gE4 (YQ (gEg hP.1:BZ R=true))
  have c1:=hP2.1.2.1
  have e1:UX=16384:=rfl
  have e2:UI=262144:=rfl
  have c2:∀ r∈(AZ R).1,r.length<=1000000:=fun r h=>by
   obtain ⟨j,hj,rfl⟩:=gAG h
   have h2:=P8 (AZ R).1 j
   have h3:=hP2.1.2.2.1
   rw [gE2,gE1 hj,gBF] at h2
   omega
  have hsm:=Zg (AZ R).1 R (by omega) c2 hn hr
  simp only [Ba] at hcn hsm
  generalize (AZ R).1=Q at *
  generalize (AZ R).2=old at *
  (refine a8 ?_;repeat refine kq fun K hK=>?_)
  refine Yt hv ?_
  (refine aj @gA9 ?_;repeat refine kq fun K hK=>?_)
  refine W3 ?_
  (refine ai ?_;(repeat clear hK K);repeat refine kq fun K hK=>?_)
  (refine Aj rfl ?_;intro K1 hK1;refine cs [] (hcn) ?_ ?_)
  ·rintro _ _ ⟨rfl,rfl⟩;rfl
  rintro _ _ ⟨rfl,rfl⟩
  (refine W1 ?_;clear hK1 K1)
  (refine a8 ?_;repeat refine kq fun K hK=>?_)
  refine Yt hsm ?_
  (refine ai ?_;(repeat clear hK K);repeat refine kq fun K hK=>?_)
  exact OP [] Tryz.results47
set_option maxHeartbeats 4000000 in
theorem Zz (N:List Xh) (m:Int) (hN:XI N):FC Tryz.prog 19 [aN N,.i m] [] (fun r o=>o=[]/\r=.b (XU N m)):=by
 refine A7 Tryz.func19 rfl (by rw [Tryz.ntmps19];simp) ?_
 rw [Tryz.ntmps19]
 simp only [B4,aN]
 have hNl:=hN.1
 have hno:¬ aA N m->XU N m=false:=fun h=>G8 fun q=>h (ZP.2 q)
 have hyes:aA N m->XU N m=true:=fun h=>Hr.2 (ZP.1 h)
 have has:=Z0 N (by omega)
 have hic:=ZQ (N.map (·.1)) (by rw [gAN];omega) (fun r hr=>by
  obtain ⟨x,hx,rfl⟩:=gB7.1 hr
  have:=(hN.2 x hx).1;omega)
 have hrv:aA N m↔Fy m=true/\1<=N.length/\N.length<=4096/\C7 (N.map (·.1))=true/\(AZ (N.map (·.1))).1=N.map (·.1)/\∀ x∈N,az x m=true:=Iff.rfl
 obtain ⟨bc,hbc⟩:∃ b:Bool,b=(C7 (N.map (·.1)) && decide ((AZ (N.map (·.1))).1=N.map (·.1))):=⟨_,rfl⟩
 rw [<- hbc] at hic
 simp only [aN] at has
 simp only [Ba] at has hic
 generalize N.map (·.1)=R at *
 (refine ai ?_;(repeat clear hK K);repeat refine kq fun K hK=>?_)
 refine Yt (NC m) ?_
 cases hm:Fy m with
 | false=>
  (refine aj @gA8 ?_;repeat refine kq fun K hK=>?_)
  refine W2 ?_
  (refine ai ?_;(repeat clear hK K);repeat refine kq fun K hK=>?_)
  refine W6 [] Tryz.results19 ?_
  rw [hno fun h=>by have:=h.1;rw [hm] at this;cases this]
 | true=>
  by_cases hl1:N.length<1
  ·have b1:decide ((N.length:Int)<1)=true:=gEg (by omega)
   (refine aj (an @gA9 (an @Bz (an @Cw @b1))) ?_;repeat refine kq fun K hK=>?_)
   refine W2 ?_
   (refine ai ?_;(repeat clear hK K);repeat refine kq fun K hK=>?_)
   refine W6 [] Tryz.results19 ?_
   rw [hno fun h=>by have:=h.2.1;omega]
  have b1:decide ((N.length:Int)<1)=false:=gBK (by omega)
  by_cases hl2:N.length > 4096
  ·have b2:decide ((N.length:Int) > 4096)=true:=gEg (by omega)
   (refine aj (an @gA9 (an @Bz (an @Cw (an @b1 @b2)))) ?_;repeat refine kq fun K hK=>?_)
   refine W2 ?_
   (refine ai ?_;(repeat clear hK K);repeat refine kq fun K hK=>?_)
   refine W6 [] Tryz.results19 ?_
   rw [hno fun h=>by have:=h.2.2.1;omega]
  have b2:decide ((N.length:Int) > 4096)=false:=gBK (by omega)
  (refine aj (an @gA9 (an @Bz (an @Cw (an @b1 @b2)))) ?_;(repeat clear hK K);repeat refine kq fun K hK=>?_)
  (refine AY rfl rfl (by simp only [go_sem] <;> rfl) ?_;intro K1 hK1;refine cs [] (has) ?_ ?_)
  ·rintro _ _ ⟨rfl,rfl⟩;rfl
  rintro _ _ ⟨rfl,rfl⟩
  (refine W1 ?_;clear hK1 K1)
  (refine ai ?_;(repeat clear hK K);repeat refine kq fun K hK=>?_)
  (refine AY rfl rfl (by simp only [go_sem] <;> rfl) ?_;intro K1 hK1;refine (Av (ids:=[]) (hic) rfl rfl (by simp only [go_sem]) (by kernel_rfl) (by (simp only [gAk,go_sem]) <;> rfl) ?_).stp)
  rintro _ _ ⟨rfl,rfl⟩
  (refine W1 ?_;clear hK1 K1)
  cases hb:bc with
  | false=>
   (refine aj @gA8 ?_;repeat refine kq fun K hK=>?_)
   refine W2 ?_
   (refine ai ?_;(repeat clear hK K);repeat refine kq fun K hK=>?_)
   refine W6 [] Tryz.results19 ?_
   rw [hno fun h=>by
    have h2:=hrv.1 h
    rw [h2.2.2.2.1,gEg h2.2.2.2.2.1,hb] at hbc
    cases hbc]
  | true=>
   rw [hb] at hbc
   have hbc2:=hbc.symm
   rw [gA1] at hbc2
   have hcv:=gE4 hbc2.2
   (refine aj @gA9 ?_;repeat refine kq fun K hK=>?_)
   refine W3 ?_
   (refine ai ?_;(repeat clear hK K);repeat refine kq fun K hK=>?_)
   refine Ab (fun k:Nat=>{ tm:=[(0,.a (.c (.t 3 (tN N)))),(1,.i m),(5,.i k)],hp:=[],n:=38,pin:=0 }) (fun k=>k<=N.length/\∀ x∈N.take k,az x m=true) (fun k=>N.length - k) 0 ?_ ?_ ?_
   ·exact ⟨by omega,by simp⟩
   ·refine Le.trans (A8 [] rfl rfl) ?_
    simp only [go_sem]
    exact W5
   rintro k ⟨hk,hok⟩ K hK
   by_cases hlt:k<N.length
   rotate_left
   ·have d1:=Yq hlt
    rw [gE7 (by omega)] at hok
    (refine aj (an @Bz (an @Cw @d1)) ?_;repeat refine kq fun K hK=>?_)
    refine W3 ?_
    (refine VZ ?_;repeat clear hK K)
    (refine ai ?_;(repeat clear hK K);repeat refine kq fun K hK=>?_)
    refine W6 [] Tryz.results19 ?_
    rw [hyes (hrv.2 ⟨hm,by omega,by omega,hbc2.1,hcv,hok⟩)]
   have d1:=Yp hlt
   have hat:=LF hlt
   have hbd:=hN.2 _ (gE6 hlt)
   have hmem:=gE6 hlt
   have hTk:N.take (k+1)=N.take k++[N[k]]:=gE8 hlt
   generalize N[k]=x at *
   obtain ⟨A,V,dv⟩:=x
   simp only [Xo] at hat hbd
   have hso:=Zx A V dv m (by omega) (by omega) (fun s h=>by have:=hbd.2.2 s h;omega)
   cases hs:az (A,V,dv) m with
   | false=>
    rw [hs] at hso
    (refine aj (an @Bz (an @Cw @d1)) ?_;repeat refine kq fun K hK=>?_)
    refine W2 ?_
    (refine aj (an @hat (an @Bz @Cw)) ?_;repeat refine kq fun K hK=>?_)
    refine Yt hso ?_
    (refine aj @gA8 ?_;repeat refine kq fun K hK=>?_)
    refine W2 ?_
    (refine ai ?_;(repeat clear hK K);repeat refine kq fun K hK=>?_)
    refine W6 [] Tryz.results19 ?_
    rw [hno fun h=>by have:=(hrv.1 h).2.2.2.2.2 _ hmem;rw [hs] at this;cases this]
   | true=>
    rw [hs] at hso
    (refine aj (an @Bz (an @Cw @d1)) ?_;repeat refine kq fun K hK=>?_)
    refine W2 ?_
    (refine aj (an @hat (an @Bz @Cw)) ?_;repeat refine kq fun K hK=>?_)
    refine Yt hso ?_
    (refine aj @gA9 ?_;repeat refine kq fun K hK=>?_)
    refine W3 ?_
    (refine ai ?_;(repeat clear hK K);repeat refine kq fun K hK=>?_)
    refine W4 ?_
    refine hK _ (k+1) ⟨by omega,fun x hx=>?_⟩ (by omega) ?_
    rotate_left
    ·exact W5
    rw [hTk] at hx
    rcases gB0.1 hx with q | q
    ·exact hok x q
    rw [gBb.1 q];exact hs
theorem U4 {g:Gh} {w:World} {e:TypeId} {L:List Int} {y:Value} (hr:HR g [.r ⟨e,1,true,A9 L⟩] w) (h:CR g [.r ⟨e,1,true,A9 L⟩] w (.s 0 L.length) y):Rd (Ow [] g) w (.l 1 (Ac L)) y:=by
 obtain ⟨_,h1,A,rfl,h3,h4⟩:=h
 cases L with
 | nil=>exact Rd.e 1 A _
 | cons a r=>
  have hk:g.κ 0 ≠ 0:=by simp only [gAJ] at h1;omega
  have hlive:Lv [.r ⟨e,1,true,A9 (a :: r)⟩] g (.ob 0):=.inl ⟨_,rfl,hk⟩
  rcases hr.row 0 _ rfl with ⟨k1,_⟩ | ⟨_,_,arr,k3,k4,k5,k6,k7⟩
  ·exact absurd k1 hk
  have hA:=h3 hk
  subst hA
  refine Rd.l 1 (Ac (a :: r)) (g.γ (.ob 0)) 0 _ _ (fun j=>arr.getD j undef) (by rw [A2,gBB]) (by simp) h1 (fun ho=>?_) (hr.lt hlive) (fun j t hj=>?_) (fun j t hj=>?_)
  ·rcases ho with ho | ⟨ℓ,hl,_⟩
   ·exact hr.md _ hlive ho
   cases ℓ with
   | ob id=>rcases hl with ⟨r,h,_⟩ | ⟨kv,h⟩ <;> simp at h
   | cl id j=>obtain ⟨r,k,cs,h,_⟩:=hl;simp at h
  ·have hjl:j<(A9 (a :: r)).length:=by rw [A4,<- A2 (a :: r)];exact (List.getElem?_eq_some_iff.1 hj).1
   have hja:j<arr.size:=gBw hjl k4
   rw [gBD,cell_of_row w _ j arr _ (0,0) k3,gEd hja]
   simp [Array.getD,hja]
  have hjl:j<(a :: r).length:=by rw [<- A2 (a :: r)];exact (List.getElem?_eq_some_iff.1 hj).1
  rw [Al (gE1 hjl)] at hj
  cases hj
  obtain ⟨u,u1,u2⟩:=k7 j _ (At (gE1 hjl))
  have hu:u=.int .i64 (a :: r)[j]:=u2
  have hja:j<arr.size:=(Array.getElem?_eq_some_iff.1 u1).1
  have e1:arr.getD j undef=.int .i64 (a :: r)[j]:=by
   rw [gEd hja] at u1
   simp only [Array.getD,hja,dif_pos]
   exact (Option.some.inj u1).trans hu
  rw [e1];exact Rd.v _ rfl
theorem FC.inS {P:Program} {f:FuncId} {A A':List AV} {r0:Row} {val:Value} (hFC:FC P f A [] (fun r o=>o=[]/\r=.a (.c (.v val)))) (hmp:∀ (k:Nat × Nat) (cs:List Tr) (j:Nat),r0.cells[j]? ≠ some (C.o k cs))
  (hA:∀ (g:Gh) (w:World) (vals:List Value),HR g [.r r0] w->HQ g [.r r0] w A' vals->HQ g [] w A vals):
  FC P f A' [.r r0] (fun r o=>o=[.r r0]/\r=.a (.c (.v val))):=by
 intro g w vals hr hargs
 have noL:∀ (g:Gh) (ℓ:Loc),¬ Lv [] g ℓ:=by
  intro g ℓ hl
  cases ℓ with
  | ob id=>rcases hl with ⟨r,h,_⟩ | ⟨kv,h⟩ <;> simp at h
  | cl id j=>obtain ⟨r,k,cs,h,_⟩:=hl;simp at h
 have how:∀ b,Ow [] g b->Ow [.r r0] g b:=fun b ho=>by
  rcases ho with ho | ⟨ℓ,hl,_⟩
  ·exact .inl ho
  exact absurd hl (noL _ ℓ)
 have hHR:HR g [] w:=⟨hr.ml,fun ℓ hl=>absurd hl (noL _ ℓ),fun ℓ _ hl=>absurd hl (noL _ ℓ),fun id r h=>by simp at h,fun id r h=>by simp at h,hr.gl.keep (gBu _) (fun _ _ _=>rfl) (fun k _ h=>how k h)⟩
 refine (hFC g w vals hHR (hA g w vals hr hargs)).mono ?_
 rintro en w' ⟨v,r,outs,g',rfl,⟨rfl,rfl⟩,h1,h2,h3,h4,h5⟩
 have hfx:∀ b,b<w.heap.size->w'.heap[b]?=w.heap[b]?:=fun b hb=>h5.block b hb (fun ⟨ℓ,hl,_⟩=>noL _ ℓ hl)
 have hmo:Mo g [.r r0] w g [.r r0] w' (fun _=>True):=⟨fun id h=>⟨h,rfl,rfl⟩,fun b _ h=>h,h5.size,fun b hb _=>hfx b hb,fun q _ hq r2 j k cs e1 e2=>⟨r2,e1,e2,fun hlt=>World.cell?_of_block (hfx _ hlt)⟩⟩
 refine ⟨v,.a (.c (.v val)),[.r r0],g,rfl,⟨rfl,rfl⟩,⟨fun b hb=>gBw (hr.ml b hb) h5.size,hr.md,hr.inj,fun id r2 e1=>?_,fun id kv e1=>?_,hmo.gl hr.gl⟩,⟨gBu _,Ext.refl _ _⟩,fun ℓ hl=>.inl ⟨ℓ,hl,rfl⟩,h4,h5.mono fun k _ ⟨ℓ,hl,_⟩=>absurd hl (noL _ ℓ)⟩
 rotate_left
 ·cases id <;> simp at e1
 refine RowR.mo hmo e1 (hr.row id r2 e1) (fun h0=>hfx _ (hr.lt (.inl ⟨r2,e1,h0⟩))) (fun j k cs hj _=>?_)
 cases id with
 | zero=>
  simp at e1
  subst e1
  exact absurd hj (hmp k cs j)
 | succ id=>simp at e1
def aB (c:List Int) (A:List Ar):List Int:=A.map fun a=>c.getD a.2.toNat 0
def Zp (c:List Int) (x y:Xh):Bool:=decide (x.2.2=y.2.2/\x.2.1=y.2.1/\XK x.1=XK y.1/\aB c x.1=aB c y.1)
set_option maxHeartbeats 8000000 in
theorem ZR (A B:List Ar) (V W:List (List Int)) (dv dw:Bool) (c:List Int) (hA:A.length<=1000000) (hB:B.length<=1000000) (hV:V.length<=1000000) (hW:W.length<=1000000) (hVs:∀ s∈V,s.length<=1000000) (hWs:∀ s∈W,s.length<=1000000) (hc:c.length<=1000000) (hAb:∀ a∈A,0<=a.2/\a.2<(c.length:Int)) (hBb:∀ a∈B,0<=a.2/\a.2<(c.length:Int)):FC Tryz.prog 98 [.a (.g [.t 2 (Aw A),.t 1 (Az V),.v (.bool dv)]),.a (.g [.t 2 (Aw B),.t 1 (Az W),.v (.bool dw)]),.a (.c (.t 1 (Ac c)))] [] (fun r o=>o=[]/\r=.a (.c (.v (.bool (Zp c (A,V,dv) (B,W,dw)))))):=by
 refine A7 Tryz.func98 rfl (by rw [Tryz.ntmps98];simp) ?_
 rw [Tryz.ntmps98]
 simp only [B4]
 have hse:=KQ V W (by omega) (by omega) (fun s h=>by have:=hVs s h;omega) (fun s h=>by have:=hWs s h;omega)
 have he1:=YV A hA
 have he2:=YV B hB
 have hin:=Hp (XK A) (XK B) (by rw [BS];omega) (by rw [BS];omega)
 simp only [Ap,AC] at hse he1 he2 hin
 have hno:¬ (dv=dw/\V=W/\XK A=XK B/\aB c A=aB c B)->Zp c (A,V,dv) (B,W,dw)=false:=fun h=>gBK h
 have hyes:(dv=dw/\V=W/\XK A=XK B/\aB c A=aB c B)->Zp c (A,V,dv) (B,W,dw)=true:=fun h=>gEg h
 generalize Zp c (A,V,dv) (B,W,dw)=res at *
 have hevl:XK A=XK B->A.length=B.length:=fun h=>by
  have:=congrArg List.length h
  rwa [BS,BS] at this
 generalize XK A=EA at *
 generalize XK B=EB at *
 by_cases hd:dv=dw
 rotate_left
 ·have b1:(dv == dw)=false:=by simpa using hd
  (refine SU ?_;unhygienic intros)
  refine Yz [] [(0,0,0),(2,0,0),(1,1,4),(3,1,4),(4,2,0),(5,0,0),(6,0,0),(8,0,0),(7,1,10),(9,1,10),(10,2,0),(11,0,0),(12,0,0),(13,0,0),(14,0,0),(17,0,0),(15,1,16),(18,1,19),(16,2,0),(19,2,0),(20,2,0),(21,0,0),(22,2,0)] ?_
  (refine Za ?_;repeat clear hK K)
  (refine VI rfl rfl rfl ?_;intro K1 hK1;refine Sf (a:=dv) (b:=dw) Tryz.underlying4 rfl rfl (by simp only [go_sem]) (by simp only [go_sem]) ?_;simp only [go_sem,b1,gA8];refine hK1 _ ?_;clear hK1 K1)
  (refine Za ?_;repeat clear hK K)
  (refine VI rfl rfl rfl ?_;intro K1 hK1;refine Bc rfl ?_;simp only [go_sem];(first | refine hK1 _ ?_ | refine AE (hK1 _ ?_));clear hK1 K1)
  (refine VT ?_;repeat clear hK K)
  (refine VV ?_;unhygienic intros)
  refine W2 ?_
  (refine VV ?_;(repeat clear hK K);unhygienic intros)
  refine W6 [] Tryz.results98 ?_
  rw [hno fun h=>hd h.1]
 have b1:(dv == dw)=true:=by rw [hd];exact beq_self_eq_true _
 by_cases hs:V=W
 rotate_left
 ·rw [gBK hs] at hse
  (refine SU ?_;unhygienic intros)
  refine Yz [] [(0,0,0),(2,0,0),(1,1,4),(3,1,4),(4,2,0),(5,0,0),(6,0,0),(8,0,0),(7,1,10),(9,1,10),(10,2,0),(11,0,0),(12,0,0),(13,0,0),(14,0,0),(17,0,0),(15,1,16),(18,1,19),(16,2,0),(19,2,0),(20,2,0),(21,0,0),(22,2,0)] ?_
  (refine Za ?_;repeat clear hK K)
  (refine VI rfl rfl rfl ?_;intro K1 hK1;refine Sf (a:=dv) (b:=dw) Tryz.underlying4 rfl rfl (by simp only [go_sem]) (by simp only [go_sem]) ?_;simp only [go_sem,b1,gA9];refine hK1 _ ?_;clear hK1 K1)
  (refine Za ?_;repeat clear hK K)
  (refine Mr rfl rfl rfl (by simp only [go_sem] <;> rfl) ?_;intro K1 hK1;refine Bv ?_;refine xv [] (hse) ?_ ?_)
  ·rintro _ _ ⟨rfl,rfl⟩ i o hi hl;simp at hl
  rintro _ _ ⟨rfl,rfl⟩
  (refine W1 ?_;clear hK1 K1)
  (refine a7 @gA8 ?_;repeat clear hK K)
  (refine VI rfl rfl rfl ?_;intro K1 hK1;refine Bc rfl ?_;simp only [go_sem];(first | refine hK1 _ ?_ | refine AE (hK1 _ ?_));clear hK1 K1)
  (refine VT ?_;repeat clear hK K)
  (refine VV ?_;unhygienic intros)
  refine W2 ?_
  (refine VV ?_;(repeat clear hK K);unhygienic intros)
  refine W6 [] Tryz.results98 ?_
  rw [hno fun h=>hs h.2.1]
 rw [gEg hs] at hse
 by_cases he:EA=EB
 rotate_left
 ·rw [gBK he] at hin
  (refine SU ?_;unhygienic intros)
  refine Yz [] [(0,0,0),(2,0,0),(1,1,4),(3,1,4),(4,2,0),(5,0,0),(6,0,0),(8,0,0),(7,1,10),(9,1,10),(10,2,0),(11,0,0),(12,0,0),(13,0,0),(14,0,0),(17,0,0),(15,1,16),(18,1,19),(16,2,0),(19,2,0),(20,2,0),(21,0,0),(22,2,0)] ?_
  (refine Za ?_;repeat clear hK K)
  (refine VI rfl rfl rfl ?_;intro K1 hK1;refine Sf (a:=dv) (b:=dw) Tryz.underlying4 rfl rfl (by simp only [go_sem]) (by simp only [go_sem]) ?_;simp only [go_sem,b1,gA9];refine hK1 _ ?_;clear hK1 K1)
  (refine Za ?_;repeat clear hK K)
  (refine Mr rfl rfl rfl (by simp only [go_sem] <;> rfl) ?_;intro K1 hK1;refine Bv ?_;refine xv [] (hse) ?_ ?_)
  ·rintro _ _ ⟨rfl,rfl⟩ i o hi hl;simp at hl
  rintro _ _ ⟨rfl,rfl⟩
  (refine W1 ?_;clear hK1 K1)
  (refine a7 @gA9 ?_;repeat clear hK K)
  (refine Mr rfl rfl rfl (by simp only [go_sem] <;> rfl) ?_;intro K1 hK1;refine Bv ?_;refine xv [] (he1) ?_ ?_)
  ·rintro _ _ ⟨rfl,rfl⟩ i o hi hl;simp at hl
  rintro _ _ ⟨rfl,rfl⟩
  (refine W1 ?_;clear hK1 K1)
  (refine Za ?_;repeat clear hK K)
  (refine Mr rfl rfl rfl (by simp only [go_sem] <;> rfl) ?_;intro K1 hK1;refine Bv ?_;refine xv [] (he2) ?_ ?_)
  ·rintro _ _ ⟨rfl,rfl⟩ i o hi hl;simp at hl
  rintro _ _ ⟨rfl,rfl⟩
  (refine W1 ?_;clear hK1 K1)
  (refine VT ?_;repeat clear hK K)
  (refine Mr rfl rfl rfl (by simp only [go_sem] <;> rfl) ?_;intro K1 hK1;refine Bv ?_;refine xv [] (hin) ?_ ?_)
  ·rintro _ _ ⟨rfl,rfl⟩ i o hi hl;simp at hl
  rintro _ _ ⟨rfl,rfl⟩
  (refine W1 ?_;clear hK1 K1)
  (refine VU @gA8 ?_;repeat clear hK K)
  (refine VI rfl rfl rfl ?_;intro K1 hK1;refine Bc rfl ?_;simp only [go_sem];(first | refine hK1 _ ?_ | refine AE (hK1 _ ?_));clear hK1 K1)
  (refine VT ?_;repeat clear hK K)
  (refine VV ?_;unhygienic intros)
  refine W2 ?_
  (refine VV ?_;(repeat clear hK K);unhygienic intros)
  refine W6 [] Tryz.results98 ?_
  rw [hno fun h=>he h.2.2.1]
 rw [gEg he] at hin
 have hl:=hevl he
 (refine SU ?_;unhygienic intros)
 refine Yz [] [(0,0,0),(2,0,0),(1,1,4),(3,1,4),(4,2,0),(5,0,0),(6,0,0),(8,0,0),(7,1,10),(9,1,10),(10,2,0),(11,0,0),(12,0,0),(13,0,0),(14,0,0),(17,0,0),(15,1,16),(18,1,19),(16,2,0),(19,2,0),(20,2,0),(21,0,0),(22,2,0)] ?_
 (refine Za ?_;repeat clear hK K)
 (refine VI rfl rfl rfl ?_;intro K1 hK1;refine Sf (a:=dv) (b:=dw) Tryz.underlying4 rfl rfl (by simp only [go_sem]) (by simp only [go_sem]) ?_;simp only [go_sem,b1,gA9];refine hK1 _ ?_;clear hK1 K1)
 (refine Za ?_;repeat clear hK K)
 (refine Mr rfl rfl rfl (by simp only [go_sem] <;> rfl) ?_;intro K1 hK1;refine Bv ?_;refine xv [] (hse) ?_ ?_)
 ·rintro _ _ ⟨rfl,rfl⟩ i o hi hl;simp at hl
 rintro _ _ ⟨rfl,rfl⟩
 (refine W1 ?_;clear hK1 K1)
 (refine a7 @gA9 ?_;repeat clear hK K)
 (refine Mr rfl rfl rfl (by simp only [go_sem] <;> rfl) ?_;intro K1 hK1;refine Bv ?_;refine xv [] (he1) ?_ ?_)
 ·rintro _ _ ⟨rfl,rfl⟩ i o hi hl;simp at hl
 rintro _ _ ⟨rfl,rfl⟩
 (refine W1 ?_;clear hK1 K1)
 (refine Za ?_;repeat clear hK K)
 (refine Mr rfl rfl rfl (by simp only [go_sem] <;> rfl) ?_;intro K1 hK1;refine Bv ?_;refine xv [] (he2) ?_ ?_)
 ·rintro _ _ ⟨rfl,rfl⟩ i o hi hl;simp at hl
 rintro _ _ ⟨rfl,rfl⟩
 (refine W1 ?_;clear hK1 K1)
 (refine VT ?_;repeat clear hK K)
 (refine Mr rfl rfl rfl (by simp only [go_sem] <;> rfl) ?_;intro K1 hK1;refine Bv ?_;refine xv [] (hin) ?_ ?_)
 ·rintro _ _ ⟨rfl,rfl⟩ i o hi hl;simp at hl
 rintro _ _ ⟨rfl,rfl⟩
 (refine W1 ?_;clear hK1 K1)
 (refine VU @gA9 ?_;repeat clear hK K)
 (refine VI rfl rfl rfl ?_;intro K1 hK1;refine Bc rfl ?_;simp only [go_sem];(first | refine hK1 _ ?_ | refine AE (hK1 _ ?_));clear hK1 K1)
 (refine VT ?_;repeat clear hK K)
 (refine VV ?_;unhygienic intros)
 refine W3 ?_
 (refine VV ?_;(repeat clear hK K);unhygienic intros)
 refine Ab (fun k:Nat=>{ tm:=[(2,.a (.c (.t 1 (Ac c)))),(3,.a (.c (.p 0 0))),(4,.a (.c (.p 1 0))),(7,.i k)],hp:=[.r ⟨35,3,false,[.t 2 (Aw A),.t 1 (Az V),.v (.bool dv)]⟩,.r ⟨35,3,false,[.t 2 (Aw B),.t 1 (Az W),.v (.bool dw)]⟩],n:=57,pin:=0 }) (fun k=>k<=A.length/\aB c (A.take k)=aB c (B.take k)) (fun k=>A.length - k) 0 ?_ ?_ ?_
 ·exact ⟨by omega,rfl⟩
 ·exact W5
 rintro k ⟨hk,htk⟩ K hK
 by_cases hlt:k<A.length
 rotate_left
 ·have d1:=Yq hlt
  rw [gE7 (by omega),gE7 (by omega)] at htk
  (refine Cu (an @A3 (an @Aq @d1)) ?_;unhygienic intros)
  refine W3 ?_
  (refine VZ ?_;repeat clear hK K)
  (refine VV ?_;(repeat clear hK K);unhygienic intros)
  refine W6 [] Tryz.results98 ?_
  rw [hyes ⟨hd,hs,he,htk⟩]
 have d1:=Yp hlt
 have hlb:k<B.length:=by omega
 have a1:=Fq hlt
 have a2:=Fq hlb
 have q1:=hAb _ (gE6 hlt)
 have q2:=hBb _ (gE6 hlb)
 have t1:aB c (A.take (k+1))=aB c (A.take k)++[c.getD A[k].2.toNat 0]:=by unfold aB;rw [gE8 hlt,gAT];rfl
 have t2:aB c (B.take (k+1))=aB c (B.take k)++[c.getD B[k].2.toNat 0]:=by unfold aB;rw [gE8 hlb,gAT];rfl
 have hdf:c.getD A[k].2.toNat 0 ≠ c.getD B[k].2.toNat 0->¬ aB c A=aB c B:=fun h e=>h (by
  have h3:(aB c A)[k]?=(aB c B)[k]?:=by rw [e]
  unfold aB at h3
  rw [gAC,gAC,gE1 hlt,gE1 hlb] at h3
  exact Option.some.inj h3)
 generalize A[k]=a at *
 generalize B[k]=b at *
 obtain ⟨e1,x1⟩:=a
 obtain ⟨e2,x2⟩:=b
 simp only at a1 a2 q1 q2 t1 t2 hdf
 obtain ⟨n1,rfl⟩:∃ n:Nat,x1=(n:Int):=⟨x1.toNat,by omega⟩
 obtain ⟨n2,rfl⟩:∃ n:Nat,x2=(n:Int):=⟨x2.toNat,by omega⟩
 have g1:=Al (gE1 (show n1<c.length by omega))
 have g2:=Al (gE1 (show n2<c.length by omega))
 simp only [gAd] at t1 t2 hdf
 rw [Yo (show n1<c.length by omega)] at t1 hdf
 rw [Yo (show n2<c.length by omega)] at t2 hdf
 generalize c[n1]'(by omega)=v1 at *
 generalize c[n2]'(by omega)=v2 at *
 by_cases hv:v1=v2
 rotate_left
 ·have d2:(v1 != v2)=true:=by simpa using hv
  (refine Cu (an @A3 (an @Aq @d1)) ?_;unhygienic intros)
  refine W2 ?_
  (refine VV ?_;unhygienic intros)
  refine Yr 18 [(0,0),(1,0),(2,1),(3,0),(4,0),(5,0),(6,1),(7,0),(8,1),(9,0),(10,0),(11,1),(12,0),(13,0),(14,0),(15,1),(16,0),(17,1),(18,2)] ?_
  (refine SS (an @A3 (an @Aq (an @a1 (an @a2 (an @A2 (an @g1 (an @g2 @d2))))))) ?_;repeat clear hK K)
  (refine VV ?_;unhygienic intros)
  refine W2 ?_
  (refine VV ?_;(repeat clear hK K);unhygienic intros)
  refine W6 [] Tryz.results98 ?_
  rw [hno fun h=>hdf hv h.2.2.2]
 have d2:(v1 != v2)=false:=by simp [hv]
 (refine Cu (an @A3 (an @Aq @d1)) ?_;unhygienic intros)
 refine W2 ?_
 (refine VV ?_;unhygienic intros)
 refine Yr 18 [(0,0),(1,0),(2,1),(3,0),(4,0),(5,0),(6,1),(7,0),(8,1),(9,0),(10,0),(11,1),(12,0),(13,0),(14,0),(15,1),(16,0),(17,1),(18,2)] ?_
 (refine SS (an @A3 (an @Aq (an @a1 (an @a2 (an @A2 (an @g1 (an @g2 @d2))))))) ?_;repeat clear hK K)
 (refine VV ?_;unhygienic intros)
 refine W3 ?_
 (refine VV ?_;(repeat clear hK K);unhygienic intros)
 refine W4 ?_
 refine hK _ (k+1) ⟨by omega,by rw [t1,t2,htk,hv]⟩ (by omega) ?_
 exact W5
theorem Zq {g:Gh} {w:World} {r0:Row} {A:List Ar} {V:List (List Int)} {dv:Bool} {v:Value} (how:∀ b,Ow [] g b->Ow [.r r0] g b) (h:AVR (CR g [.r r0] w) (.a (.g [.t 2 (Aw A),.t 1 (Az V),.v (.bool dv)])) v):AVR (CR g [] w) (.a (.g [.t 2 (Aw A),.t 1 (Az V),.v (.bool dv)])) v:=by
 obtain ⟨us,hu,hl,h3⟩:=h
 refine ⟨us,hu,hl,fun i x hx=>?_⟩
 obtain ⟨u,h4,h5⟩:=h3 i x hx
 refine ⟨u,h4,?_⟩
 match i,hx with
 | 0,hx=>cases hx;exact Rd.mono h5 fun _ _ ho=>how _ ho
 | 1,hx=>cases hx;exact Rd.mono h5 fun _ _ ho=>how _ ho
 | 2,hx=>cases hx;exact h5
 | i+3,hx=>simp at hx
theorem ZA (A B:List Ar) (V W:List (List Int)) (dv dw:Bool) (c:List Int) (hA:A.length<=1000000) (hB:B.length<=1000000) (hV:V.length<=1000000) (hW:W.length<=1000000) (hVs:∀ s∈V,s.length<=1000000) (hWs:∀ s∈W,s.length<=1000000) (hc:c.length<=1000000) (hAb:∀ a∈A,0<=a.2/\a.2<(c.length:Int)) (hBb:∀ a∈B,0<=a.2/\a.2<(c.length:Int)):FC Tryz.prog 98 [.a (.g [.t 2 (Aw A),.t 1 (Az V),.v (.bool dv)]),.a (.g [.t 2 (Aw B),.t 1 (Az W),.v (.bool dw)]),.a (.c (.s 0 c.length))] [Be c] (fun r o=>o=[Be c]/\r=.a (.c (.v (.bool (Zp c (A,V,dv) (B,W,dw)))))):=by
 refine FC.inS (ZR A B V W dv dw c hA hB hV hW hVs hWs hc hAb hBb) (fun k cs j hj=>?_) fun g w vals hr ⟨hl,ha⟩=>⟨hl,fun i x hx=>?_⟩
 ·obtain ⟨x,_,hx⟩:=gB7.1 (gE9 hj)
  cases hx
 have how:∀ b,Ow [] g b->Ow [Be c] g b:=fun b ho=>by
  rcases ho with ho | ⟨ℓ,hl,_⟩
  ·exact .inl ho
  exfalso
  cases ℓ with
  | ob id=>rcases hl with ⟨r,h,_⟩ | ⟨kv,h⟩ <;> simp at h
  | cl id j=>obtain ⟨r,k,cs,h,_⟩:=hl;simp at h
 match i,hx with
 | 0,hx=>
  cases hx
  obtain ⟨v,h1,h2⟩:=ha 0 _ rfl
  exact ⟨v,h1,Zq how h2⟩
 | 1,hx=>
  cases hx
  obtain ⟨v,h1,h2⟩:=ha 1 _ rfl
  exact ⟨v,h1,Zq how h2⟩
 | 2,hx=>
  cases hx
  obtain ⟨v,h1,h2⟩:=ha 2 _ rfl
  exact ⟨v,h1,U4 hr h2⟩
 | i+3,hx=>simp at hx
def aC (N:List Xh):Nat->List Int
 | 0=>List.replicate N.length 0
 | k+1=>(Y3 N k).1
theorem Z2 (N:List Xh):∀ k,am N (aC N k)=Y3 N k
 | 0=>Zc N
 | k+1=>Zl N k
theorem Zr (N:List Xh) (k:Nat):∃ g:Nat->List Int,WE g N.length=Y3 N k:=by cases k <;> exact ⟨_,rfl⟩
theorem ZS (N:List Xh) (k:Nat):(aC N k).length=N.length/\∀ s,s<N.length->0<=(aC N k).getD s 0/\(aC N k).getD s 0<(N.length:Int):=by
 cases k with
 | zero=>
  refine ⟨by simp [aC],fun s hs=>?_⟩
  unfold aC
  rw [gE2,gAD,if_pos hs]
  simp only [gBF]
  omega
 | succ k=>
  obtain ⟨g,hg⟩:=Zr N k
  have h:=BK g N.length
  rw [hg] at h
  refine ⟨h.len,fun s hs=>?_⟩
  have h1:=h.rng s hs
  have h2:=h.cnt
  show 0<=(Y3 N k).1.getD s 0/\(Y3 N k).1.getD s 0<(N.length:Int)
  omega
theorem ZB {N:List Xh} {k:Nat} (h:aC N k=(Y3 N k).1):ClN N (Y3 N k):=by
 refine ⟨k,rfl,?_⟩
 have h1:=Zl N k
 rw [<- h,Z2] at h1
 exact h1.symm
def aD (N:List Xh):Nat->Nat
 | 0=>N.length+1
 | k+1=>N.length - (Y3 N k).2
theorem ZT {N:List Xh} {k:Nat} (h:aC N k ≠ (Y3 N k).1):aD N (k+1)<aD N k:=by
 obtain ⟨g,hg⟩:=Zr N k
 have h1:=(BK g N.length).cnt
 rw [hg] at h1
 cases k with
 | zero=>show N.length - (Y3 N 0).2<N.length+1;omega
 | succ k=>
  obtain ⟨h2,h3⟩:=PM N k
  have h4:(Y3 N k).2 ≠ (Y3 N (k+1)).2:=fun e=>h (by show (Y3 N k).1=_;rw [h3 e])
  show N.length - (Y3 N (k+1)).2<N.length - (Y3 N k).2
  omega
theorem ZC {N:List Xh} {c:List Int} {s t:Nat}:ak N c s=ak N c t↔c.getD s 0=c.getD t 0/\Zp c (N.getD t nz) (N.getD s nz)=true:=by
 unfold ak Zp
 rw [decide_eq_true_iff]
 simp only [gBJ,Sr]
 constructor
 ·rintro ⟨h1,⟨h2,h3,h4⟩,h5⟩
  exact ⟨h1,h2.symm,h3.symm,h4.symm,h5.symm⟩
 rintro ⟨h1,h2,h3,h4,h5⟩
 exact ⟨h1,⟨h2.symm,h3.symm,h4.symm⟩,h5.symm⟩
section
variable {α : Type} [DecidableEq α]
def aE (g:Nat->α) (n i:Nat):List Int:=(WE g i).1++List.replicate (n - i) 0
def aF (g:Nat->α) (n i:Nat) (v:Int):List Int:=(WE g i).1++v :: List.replicate (n - i - 1) 0
theorem Zh (g:Nat->α) (n:Nat):aE g n 0=List.replicate n 0:=rfl
theorem ZD (g:Nat->α) (n:Nat):aE g n n=(WE g n).1:=by unfold aE;rw [gBC,List.replicate_zero,gAk]
theorem Z3 (g:Nat->α) {n i:Nat} (h:i<=n):(aE g n i).length=n:=by unfold aE;rw [gAI,(BK g i).len,gAP];omega
theorem ZE (g:Nat->α) {n i:Nat} (h:i<n) (v:Int):(aF g n i v).length=n:=by unfold aF;rw [gAI,(BK g i).len,gAJ,gAP];omega
theorem ZF (g:Nat->α) {n i:Nat} (h:i<n) (v:Int):(aE g n i).set i v=aF g n i v:=by
 unfold aE aF
 have hl:=(BK g i).len
 obtain ⟨m,hm⟩:∃ m,n - i=m+1:=⟨n - i - 1,by omega⟩
 rw [hm,gBg,Nat.add_sub_cancel]
 rw [gBh _ _ (by omega),hl,gBC];rfl
theorem Z4 (g:Nat->α) (n i:Nat) (v w:Int):(aF g n i v).set i w=aF g n i w:=by
 unfold aF
 have hl:=(BK g i).len
 rw [gBh _ _ (by omega),hl,gBC];rfl
theorem ZU (g:Nat->α) (n i:Nat) (v:Int):(aF g n i v)[i]?=some v:=by
 unfold aF
 have hl:=(BK g i).len
 rw [gEb (by omega),hl,gBC];rfl
theorem ZV (g:Nat->α) (n:Nat) {i k:Nat} (v:Int) (h:k<i):(aF g n i v)[k]?=some ((WE g i).1.getD k 0):=by
 unfold aF
 have hl:=(BK g i).len
 rw [gEa (by omega),gE2,gE1 (by omega)];rfl
theorem YC (g:Nat->α) {n i:Nat} (h:i<n) {v:Int} {m:Nat} (hn:WE g (i+1)=((WE g i).1++[v],m)):aF g n i v=aE g n (i+1):=by
 unfold aF aE
 rw [hn,gAj,show n - i - 1=n - (i+1) by omega];rfl
theorem Z5 (f:Nat->α) {i:Nat}:∀ n,i<=n->∀ s,s<i->(WE f n).1.getD s 0=(WE f i).1.getD s 0:=by
 intro n
 induction n with
 | zero=>intro h s hs;omega
 | succ n ih=>
  intro h s hs
  by_cases e:i=n+1
  ·rw [e]
  have hl:=(BK f n).len
  rcases EE f n with ⟨t,h1,h2,h3,h4⟩ | ⟨h3,h4⟩
  ·rw [h4,Bs (by omega)];exact ih (by omega) s hs
  rw [h4,Bs (by omega)];exact ih (by omega) s hs
theorem Zs {a:Int}:∀ {l:List Int} {i:Nat},l[i]?=some a->l.idxOf a<=i
 | [],i,h=>by simp at h
 | b :: l,0,h=>by
  simp at h
  rw [h,List.idxOf_cons_self];exact gBu _
 | b :: l,i+1,h=>by
  have:=Zs (l:=l) (i:=i) (by simpa using h)
  rw [List.idxOf_cons]
  cases b == a
  ·show l.idxOf a+1<=i+1;omega
  ·exact gBE _
theorem ZG (f:Nat->α) {n i:Nat} (hi:i<n):((WE f n).1.getD i 0=((WE f i).2:Int)/\(WE f (i+1)).2=(WE f i).2+1/\(WE f n).1.idxOf ((WE f i).2:Int)=i)\/((WE f n).1.getD i 0 ≠ ((WE f i).2:Int)/\(WE f (i+1)).2=(WE f i).2):=by
 have hp:=Z5 f (i:=i+1) n (by omega) i (by omega)
 have hl:=(BK f i).len
 have hr:=(BK f i).rng
 have hln:=(BK f n).len
 rcases EE f i with ⟨t,h1,h2,h3,h4⟩ | ⟨h3,h4⟩
 ·refine .inr ⟨?_,by rw [h4]⟩
  rw [hp,h4,Cg hl.symm]
  have:=(hr t h1).2
  omega
 rw [h4,Cg hl.symm] at hp
 refine .inl ⟨hp,by rw [h4],?_⟩
 have hget:(WE f n).1[i]'(by omega)=((WE f i).2:Int):=by
  rw [gE2,gE1 (by omega),gBF] at hp
  exact hp
 have hm:((WE f i).2:Int)∈(WE f n).1:=by rw [<- hget];exact gE6 _
 have hlt:(WE f n).1.idxOf ((WE f i).2:Int)<(WE f n).1.length:=List.idxOf_lt_length_iff.2 hm
 have hge:=List.getElem_idxOf hlt
 rcases Nat.lt_trichotomy ((WE f n).1.idxOf ((WE f i).2:Int)) i with q | q | q
 rotate_left
 ·exact q
 ·exfalso
  have:=Zs ((gE1 (show i<(WE f n).1.length by omega)).trans (congrArg some hget))
  omega
 exfalso
 have h5:=Z5 f (i:=i) n (by omega) _ q
 rw [gE2,gE1 hlt,gBF,hge] at h5
 have:=(hr _ q).2
 omega
end
def aG (old:List Int):Nat->List Int
 | 0=>List.replicate old.length 0
 | i+1=>(aG old i).set (old.getD i 0).toNat i
theorem YD (old:List Int):∀ i,(aG old i).length=old.length
 | 0=>by simp [aG]
 | i+1=>by rw [aG,gAQ,YD old i]
theorem ZW {old:List Int} (h0:∀ x∈old,0<=x/\x<(old.length:Int)) (hnd:∀ (i j:Nat) (x:Int),old[i]?=some x->old[j]?=some x->i=j):∀ i,i<=old.length->∀ j,j<i->(aG old i).getD (old.getD j 0).toNat 0=j:=by
 intro i
 induction i with
 | zero=>intro _ j hj;omega
 | succ i ih=>
  intro hi j hj
  have hil:i<old.length:=by omega
  have hjl:j<old.length:=by omega
  have b1:=h0 _ (gE6 hil)
  have b2:=h0 _ (gE6 hjl)
  rw [aG]
  have g1:old.getD i 0=old[i]:=by rw [gE2,gE1 hil];rfl
  have g2:old.getD j 0=old[j]:=by rw [gE2,gE1 hjl];rfl
  rw [g1,g2,gE2,gAE]
  by_cases e:j=i
  ·subst e
   rw [if_pos rfl,if_pos (by rw [YD];omega)];rfl
  have hne:old[i].toNat ≠ old[j].toNat:=fun q=>by
   have q2:old[i]=old[j]:=by omega
   exact e (hnd j i old[j] (gE1 hjl) (by rw [<- q2];exact gE1 hil))
  rw [if_neg hne]
  have:=ih (by omega) j (by omega)
  rwa [g2,gE2] at this
theorem Zt {g:Gh} {w:World} {σ:List Ob} {id:Nat} {e:TypeId} {L:List Int} {y:Value} (hid:σ[id]?=some (.r ⟨e,1,true,A9 L⟩)) (hr:HR g σ w) (h:CR g σ w (.s id L.length) y):Rd (Ow [] g) w (.l 1 (Ac L)) y:=by
 obtain ⟨_,h1,A,rfl,h3,h4⟩:=h
 cases L with
 | nil=>exact Rd.e 1 A _
 | cons a r=>
  have hk:g.κ id ≠ 0:=by simp only [gAJ] at h1;omega
  have hlive:Lv σ g (.ob id):=.inl ⟨_,hid,hk⟩
  rcases hr.row id _ hid with ⟨k1,_⟩ | ⟨_,_,arr,k3,k4,k5,k6,k7⟩
  ·exact absurd k1 hk
  have hA:=h3 hk
  subst hA
  refine Rd.l 1 (Ac (a :: r)) (g.γ (.ob id)) 0 _ _ (fun j=>arr.getD j undef) (by rw [A2,gBB]) (by simp) h1 (fun ho=>?_) (hr.lt hlive) (fun j t hj=>?_) (fun j t hj=>?_)
  ·rcases ho with ho | ⟨ℓ,hl,_⟩
   ·exact hr.md _ hlive ho
   cases ℓ with
   | ob id2=>rcases hl with ⟨r,h,_⟩ | ⟨kv,h⟩ <;> simp at h
   | cl id2 j=>obtain ⟨r,k,cs,h,_⟩:=hl;simp at h
  ·have hjl:j<(A9 (a :: r)).length:=by rw [A4,<- A2 (a :: r)];exact (List.getElem?_eq_some_iff.1 hj).1
   have hja:j<arr.size:=gBw hjl k4
   rw [gBD,cell_of_row w _ j arr _ (0,0) k3,gEd hja]
   simp [Array.getD,hja]
  have hjl:j<(a :: r).length:=by rw [<- A2 (a :: r)];exact (List.getElem?_eq_some_iff.1 hj).1
  rw [Al (gE1 hjl)] at hj
  cases hj
  obtain ⟨u,u1,u2⟩:=k7 j _ (At (gE1 hjl))
  have hu:u=.int .i64 (a :: r)[j]:=u2
  have hja:j<arr.size:=(Array.getElem?_eq_some_iff.1 u1).1
  have e1:arr.getD j undef=.int .i64 (a :: r)[j]:=by
   rw [gEd hja] at u1
   simp only [Array.getD,hja,dif_pos]
   exact (Option.some.inj u1).trans hu
  rw [e1];exact Rd.v _ rfl
theorem FC.inL {P:Program} {f:FuncId} {A A':List AV} {σ:List Ob} {val:Value} (hFC:FC P f A [] (fun r o=>o=[]/\r=.a (.c (.v val)))) (hmp:∀ (id:Nat) (o:Ob),σ[id]?=some o->∃ r0,o=.r r0/\∀ (k:Nat × Nat) (cs:List Tr) (j:Nat),r0.cells[j]? ≠ some (C.o k cs))
  (hA:∀ (g:Gh) (w:World) (vals:List Value),HR g σ w->HQ g σ w A' vals->HQ g [] w A vals):
  FC P f A' σ (fun r o=>o=σ/\r=.a (.c (.v val))):=by
 intro g w vals hr hargs
 have noL:∀ (g:Gh) (ℓ:Loc),¬ Lv [] g ℓ:=by
  intro g ℓ hl
  cases ℓ with
  | ob id=>rcases hl with ⟨r,h,_⟩ | ⟨kv,h⟩ <;> simp at h
  | cl id j=>obtain ⟨r,k,cs,h,_⟩:=hl;simp at h
 have how:∀ b,Ow [] g b->Ow σ g b:=fun b ho=>by
  rcases ho with ho | ⟨ℓ,hl,_⟩
  ·exact .inl ho
  exact absurd hl (noL _ ℓ)
 have hHR:HR g [] w:=⟨hr.ml,fun ℓ hl=>absurd hl (noL _ ℓ),fun ℓ _ hl=>absurd hl (noL _ ℓ),fun id r h=>by simp at h,fun id r h=>by simp at h,hr.gl.keep (gBu _) (fun _ _ _=>rfl) (fun k _ h=>how k h)⟩
 refine (hFC g w vals hHR (hA g w vals hr hargs)).mono ?_
 rintro en w' ⟨v,r,outs,g',rfl,⟨rfl,rfl⟩,h1,h2,h3,h4,h5⟩
 have hfx:∀ b,b<w.heap.size->w'.heap[b]?=w.heap[b]?:=fun b hb=>h5.block b hb (fun ⟨ℓ,hl,_⟩=>noL _ ℓ hl)
 have hmo:Mo g σ w g σ w' (fun _=>True):=⟨fun id h=>⟨h,rfl,rfl⟩,fun b _ h=>h,h5.size,fun b hb _=>hfx b hb,fun q _ hq r2 j k cs e1 e2=>⟨r2,e1,e2,fun hlt=>World.cell?_of_block (hfx _ hlt)⟩⟩
 refine ⟨v,.a (.c (.v val)),σ,g,rfl,⟨rfl,rfl⟩,⟨fun b hb=>gBw (hr.ml b hb) h5.size,hr.md,hr.inj,fun id r2 e1=>?_,fun id kv e1=>?_,hmo.gl hr.gl⟩,⟨gBu _,Ext.refl _ _⟩,fun ℓ hl=>.inl ⟨ℓ,hl,rfl⟩,h4,h5.mono fun k _ ⟨ℓ,hl,_⟩=>absurd hl (noL _ ℓ)⟩
 rotate_left
 ·obtain ⟨r0,h0,_⟩:=hmp id _ e1
  cases h0
 refine RowR.mo hmo e1 (hr.row id r2 e1) (fun h0=>hfx _ (hr.lt (.inl ⟨r2,e1,h0⟩))) (fun j k cs hj _=>?_)
 obtain ⟨r0,h0,h6⟩:=hmp id _ e1
 cases h0
 exact absurd hj (h6 k cs j)
theorem FC.inL2 {P:Program} {f:FuncId} {e:TypeId} {L M:List Int} {val:Value} (hFC:FC P f [Ap L,Ap M] [] (fun r o=>o=[]/\r=.a (.c (.v val)))):
  FC P f [.a (.c (.s 0 L.length)),.a (.c (.s 1 M.length))] [.r ⟨e,1,true,A9 L⟩,.r ⟨e,1,true,A9 M⟩] (fun r o=>o=[.r ⟨e,1,true,A9 L⟩,.r ⟨e,1,true,A9 M⟩]/\r=.a (.c (.v val))):=by
 refine FC.inL hFC (fun id o h=>?_) fun g w vals hr ⟨hl,ha⟩=>⟨hl,fun i x hx=>?_⟩
 rotate_left
 ·match i,hx with
  | 0,hx=>
   cases hx
   obtain ⟨v,h1,h2⟩:=ha 0 _ rfl
   exact ⟨v,h1,Zt rfl hr h2⟩
  | 1,hx=>
   cases hx
   obtain ⟨v,h1,h2⟩:=ha 1 _ rfl
   exact ⟨v,h1,Zt rfl hr h2⟩
  | i+2,hx=>simp at hx
 have hno:∀ (L:List Int) (k:Nat × Nat) (cs:List Tr) (j:Nat),(A9 L)[j]? ≠ some (C.o k cs):=fun L k cs j hj=>by
  obtain ⟨x,_,hx⟩:=gB7.1 (gE9 hj)
  cases hx
 match id,h with
 | 0,h=>cases h;exact ⟨_,rfl,hno L⟩
 | 1,h=>cases h;exact ⟨_,rfl,hno M⟩
 | id+2,h=>simp at h
end Go.Proofs.YtbnabodoabimnaaGreat
