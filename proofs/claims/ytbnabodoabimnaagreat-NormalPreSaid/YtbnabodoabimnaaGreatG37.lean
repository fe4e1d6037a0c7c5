/- Lemmas. -/
import Derived.Test.YtbnabodoabimnaaGreatZk
import Derived.Test.YtbnabodoabimnaaGreatG36
import Derived.Test.YtbnabodoabimnaaGreatG11
import Derived.Test.YtbnabodoabimnaaGreatNpa
import Derived.Test.YtbnabodoabimnaaGreatBase
import Derived.Deep.Slices
import Derived.ProofKit
import Derived.Test.YtbnabodoabimnaaGreatMF
import Derived.Test.YtbnabodoabimnaaGreatRows
import Derived.OpenShut
namespace Go.Proofs.YtbnabodoabimnaaGreat
set_option linter.unusedVariables false
set_option linter.unusedSimpArgs false
open Go.RowKit
set_option maxRecDepth 100000
attribute [local go_sem] List.set_cons_zero List.set_cons_succ List.map_cons List.map_nil List.take_succ_cons List.take_zero List.drop_zero List.drop_succ_cons C.pl C.one List.all_cons List.all_nil Bool.and_true

theorem O8 (T:List Int) (hT:TpOk T) (a0 n:Nat) (ha:a0<=1000000) (hn1:1<=n) (hn:n<=20):
  FC Tryz.prog 50 [.a (.c (.p 0 0)),.i n] [tape T a0] (fun r o=>∃ (a':Nat) (R:List (List Ar)),o=[tape T a',.r ⟨24,1,true,Br R⟩,.r ⟨27,1,false,[.s 1 R.length]⟩]/\r=.a (.g [.s 1 R.length])/\a'<=a0+1+7*n/\1<=R.length/\R.length<=n/\OkSys 3 R.length R):=by
 refine A7 Tryz.func50 rfl (by rw [Tryz.ntmps50];simp) ?_
 rw [Tryz.ntmps50]
 simp only [B4,tape,Kb]
 (refine VV ?_;(repeat clear hK K);repeat refine kq fun K hK=>?_)
 (refine Aj rfl ?_;intro K1 hK1;refine ct [0] (CY T a0 n hT (by omega) (by omega)) ?_ ?_)
 ·rintro _ _ ⟨rfl,v,rfl,_⟩;rfl
 rintro _ _ ⟨rfl,m,rfl,hm⟩
 (simp only [Ap,AC,tape,List.append_nil,List.nil_append,List.length_map,go_sem];refine hK1 _ ?_;clear hK1 K1)
 have em:(1+(m:Int)).toNat=m+1:=by omega
 (refine VW (an @em (an @List.set_cons_zero.{0} @List.set_cons_succ.{0})) ?_;(repeat clear hK K);repeat refine kq fun K hK=>?_)
 refine As (CI 2 rfl) ?_
 simp only [OZ,List.set_cons_zero,List.set_cons_succ]
 refine Ab (fun p:Nat × List (List Ar) × Nat=>{ tm:=[(0,.a (.c (.p 0 0))),(4,.a (.c (.p 1 0))),(5,.a (.c (.p 3 0))),(6,.i p.1)],hp:=[.r ⟨66,2,false,[.t 1 (Ac T),.v (.int .i64 p.2.2)]⟩,.r ⟨27,1,false,[.v (.slice none 0 0)]⟩,.r ⟨24,1,true,Br p.2.1⟩,.r ⟨27,1,false,[.s 2 (m+1)]⟩],n:=46,pin:=1 })
  (fun p=>p.1<=m+1/\p.2.2<=a0+1+7*p.1/\OkSys 3 (m+1) p.2.1/\∀ q r,p.1<=q->p.2.1[q]?=some r->r=[]) (fun p=>m+1 - p.1) (0,List.replicate (m+1) [],a0+1) ?_ ?_ ?_
 ·refine ⟨by simp,by simp,MF _,fun q r _ hr=>?_⟩
  exact List.eq_of_mem_replicate (gE9 hr)
 ·exact W5
 rintro ⟨i,R,a⟩ ⟨hi,hA,hR,hE⟩ K hK
 simp only at hi hA hR hE ⊢
 (refine VV ?_;(repeat clear hK K);repeat refine kq fun K hK=>?_)
 (refine Ah ?_;intro X Y hX hY;simp only [go_sem])
 refine ⟨fun h=>hX ?_,fun h=>hY ?_⟩
 rotate_left
 ·have hi1:i=m+1:=by simp at h;omega
  clear hX hY X Y
  (refine VZ ?_;repeat clear hK K)
  (refine VW (an @List.set_cons_zero.{0} @List.set_cons_succ.{0}) ?_;(repeat clear hK K);repeat refine kq fun K hK=>?_)
  (repeat (first | (refine AA ?_;intro K hK) | refine Ai ?_ | refine Ag ?_ | (refine AX rfl rfl ?_;intro K1 hK1;simp only [go_sem,List.set_cons_zero,List.set_cons_succ,C.pl,C.one,List.all_cons,List.all_nil,Bool.and_true,List.take_succ_cons,List.take_zero,List.drop_zero];(first | refine hK1 _ ?_ | refine AE (hK1 _ ?_));clear hK1 K1) | ((first | refine Aa ?_ | refine Am ?_);refine hK _ ?_;clear hK K)))
  refine W7 [0,2,1] Tryz.results50 @Cc ?_
  exact ⟨a,R,by simp only [tape,hR.1],by rw [hR.1],by omega,by rw [hR.1];omega,by rw [hR.1];omega,by rw [hR.1];exact hR⟩
 have hi1:i<m+1:=by simp at h;omega
 clear hX hY X Y
 (refine VV ?_;(repeat clear hK K);repeat refine kq fun K hK=>?_)
 (refine Aj rfl ?_;intro K1 hK1;refine ct [0] (CY T a 4 hT (by omega) (by omega)) ?_ ?_)
 ·rintro _ _ ⟨rfl,v,rfl,_⟩;rfl
 rintro _ _ ⟨rfl,w0,rfl,hw0⟩
 (simp only [Ap,AC,tape,BX,List.append_nil,List.nil_append,List.length_map,go_sem];refine hK1 _ ?_;clear hK1 K1)
 (refine VV ?_;(repeat clear hK K);repeat refine kq fun K hK=>?_)
 refine Ab (fun p:Nat × List (List Ar) × Nat=>{ tm:=[(0,.a (.c (.p 0 0))),(4,.a (.c (.p 1 0))),(5,.a (.c (.p 3 0))),(6,.i i),(7,.i p.1)],hp:=[.r ⟨66,2,false,[.t 1 (Ac T),.v (.int .i64 p.2.2)]⟩,.r ⟨27,1,false,[.v (.slice none 0 0)]⟩,.r ⟨24,1,true,Br p.2.1⟩,.r ⟨27,1,false,[.s 2 (m+1)]⟩],n:=46,pin:=1 })
  (fun p=>p.1<=3/\p.2.2+2*p.1<=a+7/\OkSys 3 (m+1) p.2.1/\(∀ r,p.2.1[i]?=some r->r.length+p.1<=3)/\∀ q r,i+1<=q->p.2.1[q]?=some r->r=[]) (fun p=>p.1) (w0,R,a+1) ?_ ?_ ?_
 ·refine ⟨by simp only;omega,by simp only;omega,hR,fun r hr=>?_,fun q r hq hr=>hE q r (by omega) hr⟩
  rw [hE i r (Nat.le_refl _) hr];simp;omega
 ·exact W5
 rintro ⟨w,R2,a2⟩ ⟨hw,hA2,hR2,hi2,hE2⟩ K hK
 simp only at hw hA2 hR2 hi2 hE2 ⊢
 have hl2:i<R2.length:=by rw [hR2.1];exact hi1
 have hg2:=gE1 hl2
 have hrow:=hR2.2 _ (gE6 hl2)
 (refine VV ?_;(repeat clear hK K);repeat refine kq fun K hK=>?_)
 (refine Ah ?_;intro X Y hX hY;simp only [go_sem])
 refine ⟨fun h=>hX ?_,fun h=>hY ?_⟩
 rotate_left
 ·have hw0:w=0:=by simp at h;omega
  clear hX hY X Y
  (refine VZ ?_;repeat clear hK K)
  (refine VV ?_;(repeat clear hK K);repeat refine kq fun K hK=>?_)
  refine W4 ?_
  refine hK _ (i+1,R2,a2) ⟨by simp only;omega,by simp only;omega,hR2,fun q r hq hr=>hE2 q r hq hr⟩ (by simp only;omega) ?_
  exact W5
 have hw1:0<w:=by simpa using h
 clear hX hY X Y
 (refine VV ?_;(repeat clear hK K);repeat refine kq fun K hK=>?_)
 refine C5 [0] [(0,0,0),(2,0,0),(3,0,0),(5,0,0),(8,0,0),(10,0,0),(11,0,0),(1,1,18),(4,1,16),(6,0,0),(7,1,16),(12,1,14),(13,0,0),(9,2,0),(14,2,0),(15,0,0),(16,2,0),(17,0,0),(18,2,0)] (by kernel_rfl) (by kernel_rfl) (by intro c st h;simp [Ad,Ay,Vl] at h) ?_
 (repeat (first | (refine VF rfl rfl rfl ?_;intro K1 hK1;simp only [undef,Vv,go_sem,AH,BC hg2];first | (refine hK1 _ ?_;clear hK1 K1) | (refine AE (hK1 _ ?_);clear hK1 K1)) | (refine VG rfl rfl rfl rfl rfl rfl rfl rfl rfl ?_;intro K1 hK1;simp only [undef,Vv,go_sem,AH,BC hg2];first | (refine hK1 _ ?_;clear hK1 K1) | (refine AE (hK1 _ ?_);clear hK1 K1))))
 (refine VH rfl rfl ?_;intro K1 hK1;refine BL (ids:=[]) [0] (Ey T hT a2 (by omega)) rfl rfl (by simp only [Vv,go_sem]) (by kernel_rfl) rfl rfl rfl (by (simp only [Vv,F9,List.map_append,List.append_nil,AV.ren,A0.ren,C.ren,idx,Dn,Dl,go_sem]) <;> rfl) (by (simp only [Vk,Ob.ren,C.ren,idx,Dn,Dl,List.getD_cons_zero,List.getD_cons_succ,tape,go_sem]) <;> rfl) ?_ ?_)
 ·rintro _ _ ⟨rfl,v,rfl,_⟩;exact BN rfl
 rintro _ _ ⟨rfl,e,rfl,he⟩
 (simp only [Ap,AC,tape,BX,List.append_nil,List.nil_append,List.length_map,go_sem];refine hK1 _ ?_;clear hK1 K1)
 (repeat (first | (refine VF rfl rfl rfl ?_;intro K1 hK1;simp only [undef,Vv,go_sem];first | (refine hK1 _ ?_;clear hK1 K1) | (refine AE (hK1 _ ?_);clear hK1 K1)) | (refine VG rfl rfl rfl rfl rfl rfl rfl rfl rfl ?_;intro K1 hK1;simp only [undef,Vv,go_sem];first | (refine hK1 _ ?_;clear hK1 K1) | (refine AE (hK1 _ ?_);clear hK1 K1))))
 (refine VH rfl rfl ?_;intro K1 hK1;refine BL (ids:=[]) [0] (CY T (a2+1) (m+1) hT (by omega) (by omega)) rfl rfl (by simp only [Vv,go_sem]) (by kernel_rfl) rfl rfl rfl (by (simp only [Vv,F9,List.map_append,List.append_nil,AV.ren,A0.ren,C.ren,idx,Dn,Dl,go_sem]) <;> rfl) (by (simp only [Vk,Ob.ren,C.ren,idx,Dn,Dl,List.getD_cons_zero,List.getD_cons_succ,tape,go_sem]) <;> rfl) ?_ ?_)
 ·rintro _ _ ⟨rfl,v,rfl,_⟩;exact BN rfl
 rintro _ _ ⟨rfl,t,rfl,ht⟩
 (simp only [Ap,AC,tape,BX,List.append_nil,List.nil_append,List.length_map,go_sem];refine hK1 _ ?_;clear hK1 K1)
 (repeat (first | (refine VF rfl rfl rfl ?_;intro K1 hK1;simp only [undef,Vv,go_sem];first | (refine hK1 _ ?_;clear hK1 K1) | (refine AE (hK1 _ ?_);clear hK1 K1)) | (refine VG rfl rfl rfl rfl rfl rfl rfl rfl rfl ?_;intro K1 hK1;simp only [undef,Vv,go_sem];first | (refine hK1 _ ?_;clear hK1 K1) | (refine AE (hK1 _ ?_);clear hK1 K1))))
 (refine VH rfl rfl ?_;intro K1 hK1;refine Bv ?_;refine BL (ids:=[]) [] (IW R2[i] (e,(t:Int)) (by have:=hrow.2.1;omega)) rfl rfl (by simp only [Vv,go_sem]) (by kernel_rfl) rfl rfl rfl (by (simp only [Vv,F9,List.map_append,List.append_nil,AV.ren,A0.ren,C.ren,idx,Dn,Dl,go_sem]) <;> rfl) (by (simp only [Vk,Ob.ren,C.ren,idx,Dn,Dl,List.getD_cons_zero,List.getD_cons_succ,GX,go_sem]) <;> rfl) ?_ ?_)
 ·rintro _ _ ⟨rfl,rfl⟩ i o hi hl;simp at hl
 rintro _ _ ⟨rfl,rfl⟩
 (simp only [Ap,AC,GX,BX,List.append_nil,List.nil_append,List.length_map,go_sem];refine hK1 _ ?_;clear hK1 K1)
 (repeat (first | (refine VF rfl rfl rfl ?_;intro K1 hK1;simp only [undef,Vv,go_sem];first | (refine hK1 _ ?_;clear hK1 K1) | (refine AE (hK1 _ ?_);clear hK1 K1)) | (refine VG rfl rfl rfl rfl rfl rfl rfl rfl rfl ?_;intro K1 hK1;simp only [undef,Vv,go_sem];first | (refine hK1 _ ?_;clear hK1 K1) | (refine AE (hK1 _ ?_);clear hK1 K1))))
 refine VI rfl rfl rfl ?_;intro K1 hK1
 refine Bc rfl ?_;simp only [undef,Vv,ST.put,De,A0.cells,AH,List.set_cons_zero,List.set_cons_succ,Ew,go_sem]
 (first | (refine hK1 _ ?_;clear hK1 K1) | (refine AE (hK1 _ ?_);clear hK1 K1))
 refine OM ⟨by simp,by simp,?_⟩
 refine hK _ ?_;clear hK K
 (refine VV ?_;(repeat clear hK K);repeat refine kq fun K hK=>?_)
 refine W4 ?_
 have hx:0<=e/\e<=1025/\0<=(t:Int)/\(t:Int)<((m+1:Nat):Int):=⟨he.1,he.2,by omega,by omega⟩
 have e1:((w:Int) - 1)=((w - 1:Nat):Int):=by omega
 have hw3:=hi2 _ hg2
 refine hK _ (w - 1,R2.set i (E5 (e,(t:Int)) R2[i]),a2+2) ⟨by simp only;omega,by simp only;omega,hR2.set ?_ i,fun r hr=>?_,fun q r hq hr=>?_⟩ (by simp only;omega) ?_
 rotate_left 2
 ·simp only at hr
  rw [gE5 (by omega)] at hr
  exact hE2 q r hq hr
 ·(refine Bh ?_;simp only [CS,go_sem,e1];try simp)
 ·exact (OkRow.ins ⟨hrow.1,Nat.le_refl _,hrow.2.2⟩ hx).le (by omega)
 simp only at hr ⊢
 rw [gEc hl2] at hr
 cases hr
 have:=JZ (e,(t:Int)) R2[i]
 omega

set_option maxHeartbeats 1000000 in
theorem PV (T:List Int) (hT:TpOk T) (a0 n:Nat) (ha:a0<=500000) (hn1:1<=n) (hn:n<=20):
  FC Tryz.prog 21 [.a (.c (.p 0 0)),.i n] [tape T a0] (fun r o=>∃ (a':Nat) (R:List (List Ar)),o=[tape T a',Kb R]/\r=Ba R/\a'<=a0+1+8*n/\1<=R.length/\R.length<=n/\OkSys 4 R.length R):=by
 refine A7 Tryz.func21 rfl (by rw [Tryz.ntmps21];simp) ?_
 rw [Tryz.ntmps21]
 simp only [B4,tape,Kb,Ba]
 (refine VV ?_;(repeat clear hK K);repeat refine kq fun K hK=>?_)
 (refine Aj rfl ?_;intro K1 hK1;refine ct [0] (O8 T hT a0 n (by omega) hn1 hn) ?_ ?_)
 ·rintro _ _ ⟨_,_,rfl,rfl,_⟩;rfl
 rintro _ _ ⟨a1,R0,rfl,rfl,ha1,hl1,hl2,hok⟩
 (simp only [Ap,AC,tape,BX,List.append_nil,List.nil_append,List.length_map,go_sem];refine hK1 _ ?_;clear hK1 K1)
 (refine VV ?_;(repeat clear hK K);repeat refine kq fun K hK=>?_)
 refine As (A8 [0,1,2,4] rfl rfl) ?_
 (try simp only [List.set_nil,List.take_nil,List.take_zero,List.map_append,go_sem])
 (try simp only [Cc])
 obtain ⟨m,hm⟩:∃ m,m=R0.length:=⟨_,rfl⟩
 rw [<- hm] at hl1 hl2 hok
 (try rw [<- hm])
 refine Ab (fun p:Nat × List (List Ar) × Nat=>{ tm:=[(0,.a (.c (.p 0 0))),(4,.a (.c (.p 1 0))),(5,.a (.c (.p 3 0))),(6,.i p.1)],hp:=[.r ⟨66,2,false,[.t 1 (Ac T),.v (.int .i64 p.2.2)]⟩,.r ⟨27,1,false,[.v (.slice none 0 0)]⟩,.r ⟨24,1,true,Br p.2.1⟩,.r ⟨27,1,false,[.s 2 m]⟩],n:=34,pin:=1 })
  (fun p=>p.1+1<=m/\p.2.2<=a1+p.1/\OkSys 4 m p.2.1/\∀ q r,p.1<=q->p.2.1[q]?=some r->r.length<=3) (fun p=>m - p.1) (0,R0,a1) ?_ ?_ ?_
 ·exact ⟨by simp only;omega,by simp,hok.le (by omega),fun q r _ hr=>(hok.2 r (gE9 hr)).2.1⟩
 ·exact W5
 rintro ⟨s,R,a⟩ ⟨hs,hA,hR,hE⟩ K hK
 simp only at hs hA hR hE ⊢
 have hRl:=hR.1
 by_cases hlt:s+1<m
 rotate_left
 ·have hl0:decide ((s:Int)+1<(m:Int))=false:=by simp;omega
  (refine VW @hl0 ?_;(repeat clear hK K);repeat refine kq fun K hK=>?_)
  refine W3 ?_
  (refine VZ ?_;repeat clear hK K)
  refine As (AQ (r:=⟨24,1,true,Br R⟩) (ri:=⟨27,1,false,[.s 2 m]⟩) (ts:=AK R) 3 0 2 m (by decide) rfl rfl rfl rfl (show 0<1 by omega) (by simp only [AH,hRl];omega) (GZ R)) ?_
  refine As (CI 3 rfl) ?_
  simp only [Vp,List.map_cons,List.map_nil,go_sem]
  (refine VV ?_;(repeat clear hK K);repeat refine kq fun K hK=>?_)
  refine W6 [0,1] Tryz.results21 ?_
  exact ⟨a,R,rfl,rfl,by omega,by omega,by omega,by rw [hRl];exact hR⟩
 have hl0:decide ((s:Int)+1<(m:Int))=true:=by simp;omega
 have hl2':s<R.length:=by omega
 have hg2:=gE1 hl2'
 have hrow:=hR.2 _ (gE6 hl2')
 have hne:(Br R).isEmpty=false:=by
  have:=AH R
  cases hc:Br R with
  | nil=>rw [hc] at this;simp at this;omega
  | cons _ _=>rfl
 (refine VW @hl0 ?_;(repeat clear hK K);repeat refine kq fun K hK=>?_)
 refine W2 ?_
 (refine VV ?_;(repeat clear hK K);repeat refine kq fun K hK=>?_)
 (refine AF [2,3] (.m 0 0 0 (.m 2 0 0 (.m 3 0 0 (.m 5 0 0 (.m 8 0 0 (.m 10 0 0 (.m 11 0 0 (.m 1 1 15 (.m 4 1 13 (.m 6 0 0 (.m 7 1 13 (.a 9 (.m 12 0 0 (.a 13 (.m 14 0 0 (.a 15 .e)))))))))))))))) (by kernel_rfl) (by kernel_rfl) (by intro c st h;simp [Ad,Ay,Vl] at h) ?_)
 (refine VY (an @AH (BC hg2)) ?_;repeat clear hK K)
 (refine E3 rfl rfl rfl ?_;intro K1 hK1;refine yX [0] ?_;refine xy [0] (Ey T hT a (by omega)) ?_ ?_)
 ·rintro _ _ ⟨rfl,v,rfl,_⟩;exact BN rfl
 rintro _ _ ⟨rfl,e,rfl,he⟩
 (simp only [Ap,AC,tape,BX,List.append_nil,List.nil_append,List.length_map,go_sem];refine hK1 _ ?_;clear hK1 K1)
 (refine VX ?_;repeat clear hK K)
 (refine E3 rfl rfl rfl ?_;intro K1 hK1;refine yX [] ?_;refine BL (ids:=[]) [] (IW R[s] (e,(s:Int)+1) (by have:=hrow.2.1;omega)) rfl rfl (by simp only [go_sem]) (by kernel_rfl) rfl rfl rfl (by (simp only [go_sem]) <;> rfl) (by (simp only [Vk,GX,go_sem]) <;> rfl) ?_ ?_)
 ·rintro _ _ ⟨rfl,rfl⟩ i o hi hl;simp at hl
 rintro _ _ ⟨rfl,rfl⟩
 (simp only [Ap,AC,GX,BX,List.append_nil,List.nil_append,List.length_map,go_sem];refine hK1 _ ?_;clear hK1 K1)
 (refine VX ?_;repeat clear hK K)
 (refine VM rfl rfl rfl rfl ?_;intro K1 hK1;refine Bc rfl ?_;simp only [go_sem,ST.put,De,A0.cells,AH,Ew];(first | refine hK1 _ ?_ | refine AE (hK1 _ ?_));clear hK1 K1)
 (refine VX ?_;repeat clear hK K)
 (refine VV ?_;(repeat clear hK K);repeat refine kq fun K hK=>?_)
 refine W4 ?_
 have hx:0<=e/\e<=1025/\0<=(s:Int)+1/\(s:Int)+1<(m:Int):=⟨he.1,he.2,by omega,by omega⟩
 have h3:=hE s _ (Nat.le_refl _) hg2
 refine hK _ (s+1,R.set s (E5 (e,(s:Int)+1) R[s]),a+1) ⟨by simp only;omega,by simp only;omega,hR.set ?_ s,fun q r hq hr=>?_⟩ (by simp only;omega) ?_
 rotate_left 2
 ·exact W5
 ·exact (OkRow.ins (m:=m) ⟨hrow.1,h3,hrow.2.2⟩ hx)
 simp only at hr hq
 rw [gE5 (by omega)] at hr
 exact hE q r (by omega) hr
set_option maxHeartbeats 1000000 in
theorem O9 (T:List Int) (hT:TpOk T) (a0 n:Nat) (ha:a0<=500000) (hn1:1<=n) (hn:n<=20):
  FC Tryz.prog 21 [.a (.c (.p 0 0)),.i n] [tape T a0] (fun r o=>∃ (a':Nat) (R:List (List Ar)),o=[tape T a',.r ⟨24,1,true,Br R⟩,.r ⟨27,1,false,[.s 1 R.length]⟩]/\r=.a (.g [.s 1 R.length])/\a'<=a0+1+8*n/\1<=R.length/\R.length<=n/\OkSys 4 R.length R):=by
 refine A7 Tryz.func21 rfl (by rw [Tryz.ntmps21];simp) ?_
 rw [Tryz.ntmps21]
 simp only [B4,tape,Kb,Ba]
 (refine VV ?_;(repeat clear hK K);repeat refine kq fun K hK=>?_)
 (refine Aj rfl ?_;intro K1 hK1;refine ct [0] (O8 T hT a0 n (by omega) hn1 hn) ?_ ?_)
 ·rintro _ _ ⟨_,_,rfl,rfl,_⟩;rfl
 rintro _ _ ⟨a1,R0,rfl,rfl,ha1,hl1,hl2,hok⟩
 (simp only [Ap,AC,tape,BX,List.append_nil,List.nil_append,List.length_map,go_sem];refine hK1 _ ?_;clear hK1 K1)
 (refine VV ?_;(repeat clear hK K);repeat refine kq fun K hK=>?_)
 refine As (A8 [0,1,2,4] rfl rfl) ?_
 (try simp only [List.set_nil,List.take_nil,List.take_zero,List.map_append,go_sem])
 (try simp only [Cc])
 obtain ⟨m,hm⟩:∃ m,m=R0.length:=⟨_,rfl⟩
 rw [<- hm] at hl1 hl2 hok
 (try rw [<- hm])
 refine Ab (fun p:Nat × List (List Ar) × Nat=>{ tm:=[(0,.a (.c (.p 0 0))),(4,.a (.c (.p 1 0))),(5,.a (.c (.p 3 0))),(6,.i p.1)],hp:=[.r ⟨66,2,false,[.t 1 (Ac T),.v (.int .i64 p.2.2)]⟩,.r ⟨27,1,false,[.v (.slice none 0 0)]⟩,.r ⟨24,1,true,Br p.2.1⟩,.r ⟨27,1,false,[.s 2 m]⟩],n:=34,pin:=1 })
  (fun p=>p.1+1<=m/\p.2.2<=a1+p.1/\OkSys 4 m p.2.1/\∀ q r,p.1<=q->p.2.1[q]?=some r->r.length<=3) (fun p=>m - p.1) (0,R0,a1) ?_ ?_ ?_
 ·exact ⟨by simp only;omega,by simp,hok.le (by omega),fun q r _ hr=>(hok.2 r (gE9 hr)).2.1⟩
 ·exact W5
 rintro ⟨s,R,a⟩ ⟨hs,hA,hR,hE⟩ K hK
 simp only at hs hA hR hE ⊢
 have hRl:=hR.1
 by_cases hlt:s+1<m
 rotate_left
 ·have hl0:decide ((s:Int)+1<(m:Int))=false:=by simp;omega
  (refine VW @hl0 ?_;(repeat clear hK K);repeat refine kq fun K hK=>?_)
  refine W3 ?_
  (refine VZ ?_;repeat clear hK K)
  (refine VV ?_;(repeat clear hK K);repeat refine kq fun K hK=>?_)
  refine W7 [0,2,1] Tryz.results21 @Cc ?_
  exact ⟨a,R,by simp only [tape,hRl],by rw [hRl],by omega,by omega,by omega,by rw [hRl];exact hR⟩
 have hl0:decide ((s:Int)+1<(m:Int))=true:=by simp;omega
 have hl2':s<R.length:=by omega
 have hg2:=gE1 hl2'
 have hrow:=hR.2 _ (gE6 hl2')
 have hne:(Br R).isEmpty=false:=by
  have:=AH R
  cases hc:Br R with
  | nil=>rw [hc] at this;simp at this;omega
  | cons _ _=>rfl
 (refine VW @hl0 ?_;(repeat clear hK K);repeat refine kq fun K hK=>?_)
 refine W2 ?_
 (refine VV ?_;(repeat clear hK K);repeat refine kq fun K hK=>?_)
 (refine AF [2,3] (.m 0 0 0 (.m 2 0 0 (.m 3 0 0 (.m 5 0 0 (.m 8 0 0 (.m 10 0 0 (.m 11 0 0 (.m 1 1 15 (.m 4 1 13 (.m 6 0 0 (.m 7 1 13 (.a 9 (.m 12 0 0 (.a 13 (.m 14 0 0 (.a 15 .e)))))))))))))))) (by kernel_rfl) (by kernel_rfl) (by intro c st h;simp [Ad,Ay,Vl] at h) ?_)
 (refine VY (an @AH (BC hg2)) ?_;repeat clear hK K)
 (refine E3 rfl rfl rfl ?_;intro K1 hK1;refine yX [0] ?_;refine xy [0] (Ey T hT a (by omega)) ?_ ?_)
 ·rintro _ _ ⟨rfl,v,rfl,_⟩;exact BN rfl
 rintro _ _ ⟨rfl,e,rfl,he⟩
 (simp only [Ap,AC,tape,BX,List.append_nil,List.nil_append,List.length_map,go_sem];refine hK1 _ ?_;clear hK1 K1)
 (refine VX ?_;repeat clear hK K)
 (refine E3 rfl rfl rfl ?_;intro K1 hK1;refine yX [] ?_;refine BL (ids:=[]) [] (IW R[s] (e,(s:Int)+1) (by have:=hrow.2.1;omega)) rfl rfl (by simp only [go_sem]) (by kernel_rfl) rfl rfl rfl (by (simp only [go_sem]) <;> rfl) (by (simp only [Vk,GX,go_sem]) <;> rfl) ?_ ?_)
 ·rintro _ _ ⟨rfl,rfl⟩ i o hi hl;simp at hl
 rintro _ _ ⟨rfl,rfl⟩
 (simp only [Ap,AC,GX,BX,List.append_nil,List.nil_append,List.length_map,go_sem];refine hK1 _ ?_;clear hK1 K1)
 (refine VX ?_;repeat clear hK K)
 (refine VM rfl rfl rfl rfl ?_;intro K1 hK1;refine Bc rfl ?_;simp only [go_sem,ST.put,De,A0.cells,AH,Ew];(first | refine hK1 _ ?_ | refine AE (hK1 _ ?_));clear hK1 K1)
 (refine VX ?_;repeat clear hK K)
 (refine VV ?_;(repeat clear hK K);repeat refine kq fun K hK=>?_)
 refine W4 ?_
 have hx:0<=e/\e<=1025/\0<=(s:Int)+1/\(s:Int)+1<(m:Int):=⟨he.1,he.2,by omega,by omega⟩
 have h3:=hE s _ (Nat.le_refl _) hg2
 refine hK _ (s+1,R.set s (E5 (e,(s:Int)+1) R[s]),a+1) ⟨by simp only;omega,by simp only;omega,hR.set ?_ s,fun q r hq hr=>?_⟩ (by simp only;omega) ?_
 rotate_left 2
 ·exact W5
 ·exact (OkRow.ins (m:=m) ⟨hrow.1,h3,hrow.2.2⟩ hx)
 simp only at hr hq
 rw [gE5 (by omega)] at hr
 exact hE q r (by omega) hr
def Hw (R:List (List Ar)):Bool:=decide (R.length > 12) || decide (Ci R > 60)
theorem SJ (R:List (List Ar)) (hn:R.length<=140737488355328) (hr:∀ r∈R,r.length<=140737488355328):FC Tryz.prog 25 [Ba R] [] (fun r o=>o=[]/\r=.b (Hw R)):=by
 refine A7 Tryz.func25 rfl (by rw [Tryz.ntmps25];simp) ?_
 rw [Tryz.ntmps25]
 simp only [B4,Ba]
 (refine VV ?_;(repeat clear hK K);repeat refine kq fun K hK=>?_)
 refine Ab (fun k:Nat=>{ tm:=[(1,.a (.c (.p 0 0))),(3,.i (Ci (R.take k):Int)),(4,.i k)],hp:=[.r ⟨27,1,false,[.t 1 (AK R)]⟩],n:=32,pin:=0 }) (fun k=>k<=R.length) (fun k=>R.length - k) 0 ?_ ?_ ?_
 ·omega
 ·(refine Bh ?_;simp only [CS,go_sem,List.take_zero,Ci,List.map_nil,List.sum_nil,Int.natCast_zero];try simp)
 rintro k hk K hK
 have hle:=IX R k
 have hfull:k=R.length->Ci (R.take k)=Ci R:=fun e=>by rw [e,List.take_length]
 by_cases hlt:k<R.length
 ·have hl1:decide ((k:Int)<(R.length:Int))=true:=by simpa using hlt
  have hgk:=gE1 hlt
  have hrk:=hr _ (gE6 hlt)
  have htk:=Da hlt
  generalize hW:Ci (R.take k)=W at *
  by_cases h60:W<=60
  ·have d2:decide ((W:Int)<=60)=true:=by simp;omega
   have e3:((W:Int)+(R[k].length:Int))=(Ci (R.take (k+1)):Int):=by omega
   (refine VW (an @hl1 (an @d2 @A6)) ?_;(repeat clear hK K);repeat refine kq fun K hK=>?_)
   refine W2 ?_
   (refine VW (an (Ao hgk) (an @A6 (an @A3 (an @Aq @e3)))) ?_;(repeat clear hK K);repeat refine kq fun K hK=>?_)
   refine W4 ?_
   refine hK _ (k+1) (by omega) (by omega) ?_
   exact W5
  have d2:decide ((W:Int)<=60)=false:=by simp;omega
  have d3:decide ((W:Int) > 60)=true:=by simp;omega
  have t60:decide (Ci R > 60)=true:=by simp;omega
  (refine VW (an @hl1 (an @d2 @A6)) ?_;(repeat clear hK K);repeat refine kq fun K hK=>?_)
  refine W3 ?_
  (refine VZ ?_;repeat clear hK K)
  cases t12:decide (R.length > 12) with
  | true=>
   have d4:decide ((R.length:Int) > 12)=true:=by simp at t12;simp;omega
   (refine VW (an @d3 (an @d4 @A6)) ?_;(repeat clear hK K);repeat refine kq fun K hK=>?_)
   refine W6 [] Tryz.results25 ?_
   rw [Hw,t12];rfl
  | false=>
   have d4:decide ((R.length:Int) > 12)=false:=by simp at t12;simp;omega
   (refine VW (an @d3 (an @d4 @A6)) ?_;(repeat clear hK K);repeat refine kq fun K hK=>?_)
   refine W6 [] Tryz.results25 ?_
   rw [Hw,t12,t60];rfl
 have hl1:decide ((k:Int)<(R.length:Int))=false:=by simpa using hlt
 have hke:k=R.length:=by omega
 have hf:=hfull hke
 generalize hW:Ci (R.take k)=W at *
 cases t60:decide (Ci R > 60) with
 | true=>
  have d3:decide ((W:Int) > 60)=true:=by simp at t60;simp;omega
  (refine VW (an @hl1 @A6) ?_;(repeat clear hK K);repeat refine kq fun K hK=>?_)
  refine W3 ?_
  (refine VZ ?_;repeat clear hK K)
  cases t12:decide (R.length > 12) with
  | true=>
   have d4:decide ((R.length:Int) > 12)=true:=by simp at t12;simp;omega
   (refine VW (an @d3 (an @d4 @A6)) ?_;(repeat clear hK K);repeat refine kq fun K hK=>?_)
   refine W6 [] Tryz.results25 ?_
   rw [Hw,t12];rfl
  | false=>
   have d4:decide ((R.length:Int) > 12)=false:=by simp at t12;simp;omega
   (refine VW (an @d3 (an @d4 @A6)) ?_;(repeat clear hK K);repeat refine kq fun K hK=>?_)
   refine W6 [] Tryz.results25 ?_
   rw [Hw,t12,t60];rfl
 | false=>
  have d3:decide ((W:Int) > 60)=false:=by simp at t60;simp;omega
  (refine VW (an @hl1 @A6) ?_;(repeat clear hK K);repeat refine kq fun K hK=>?_)
  refine W3 ?_
  (refine VZ ?_;repeat clear hK K)
  cases t12:decide (R.length > 12) with
  | true=>
   have d4:decide ((R.length:Int) > 12)=true:=by simp at t12;simp;omega
   (refine VW (an @d3 (an @d4 @A6)) ?_;(repeat clear hK K);repeat refine kq fun K hK=>?_)
   refine W6 [] Tryz.results25 ?_
   rw [Hw,t12];rfl
  | false=>
   have d4:decide ((R.length:Int) > 12)=false:=by simp at t12;simp;omega
   (refine VW (an @d3 (an @d4 @A6)) ?_;(repeat clear hK K);repeat refine kq fun K hK=>?_)
   refine W6 [] Tryz.results25 ?_
   rw [Hw,t12,t60];rfl

theorem Ix (f:List Nat) (L:List Ar):(AG L).map (C.ren f)=AG L:=by
 unfold AG
 rw [List.map_flatMap]
 rfl
theorem OkRow.filter {k m:Nat} {r:List Ar} (h:OkRow k m r) (p:Ar->Bool):OkRow k m (r.filter p):=
 ⟨List.Pairwise.filter p h.1,Nat.le_trans (List.length_filter_le p r) h.2.1,fun a ha=>h.2.2 a (List.mem_filter.1 ha).1⟩
def kp (s:Nat) (a:Ar):Bool:=a.1 != 0 || decide (a.2 > (s:Int))
theorem SK {s:Nat} {r:List Ar} {i:Nat} (h:i<r.length):(r.take (i+1)).filter (kp s)=(r.take i).filter (kp s)++(if kp s r[i] then [r[i]] else []):=by
 rw [gE8 h,List.filter_append]
 congr 1
 simp [List.filter_cons]
set_option maxHeartbeats 1000000 in
theorem SL (T:List Int) (hT:TpOk T) (a0 n:Nat) (ha:a0<=500000) (hn1:1<=n) (hn:n<=20):
  FC Tryz.prog 23 [.a (.c (.p 0 0)),.i n] [tape T a0] (fun r o=>∃ (a':Nat) (R:List (List Ar)),(o=[tape T a',Kb R]/\r=Ba R)/\a'<=a0+1+8*n/\1<=R.length/\R.length<=n/\OkSys 4 R.length R):=by
 refine A7 Tryz.func23 rfl (by rw [Tryz.ntmps23];simp) ?_
 rw [Tryz.ntmps23]
 simp only [B4,tape,Kb,Ba]
 (refine VV ?_;(repeat clear hK K);repeat refine kq fun K hK=>?_)
 (refine Aj rfl ?_;intro K1 hK1;refine ct [0] (O9 T hT a0 n (by omega) hn1 hn) ?_ ?_)
 ·rintro _ _ ⟨_,_,rfl,rfl,_⟩;rfl
 rintro _ _ ⟨a1,R0,rfl,rfl,ha1,hl1,hl2,hok⟩
 (simp only [Ap,AC,tape,BX,List.append_nil,List.nil_append,List.length_map,go_sem];refine hK1 _ ?_;clear hK1 K1)
 (refine VV ?_;(repeat clear hK K);repeat refine kq fun K hK=>?_)
 refine As (A8 [0,1,2,4] rfl rfl) ?_
 (try simp only [List.set_nil,List.take_nil,List.take_zero,List.map_append,go_sem])
 (try simp only [Cc])
 obtain ⟨m,hm⟩:∃ m,m=R0.length:=⟨_,rfl⟩
 rw [<- hm] at hl1 hl2 hok
 (try rw [<- hm])
 refine Ab (fun p:Nat × List (List Ar)=>{ tm:=[(0,.a (.c (.p 0 0))),(4,.a (.c (.p 1 0))),(5,.a (.c (.p 3 0))),(6,.i p.1)],hp:=[.r ⟨66,2,false,[.t 1 (Ac T),.v (.int .i64 a1)]⟩,.r ⟨27,1,false,[.v (.slice none 0 0)]⟩,.r ⟨24,1,true,Br p.2⟩,.r ⟨27,1,false,[.s 2 m]⟩],n:=69,pin:=1 })
  (fun p=>p.1<=m/\OkSys 4 m p.2) (fun p=>m - p.1) (0,R0) ?_ ?_ ?_
 ·exact ⟨by simp,hok⟩
 ·exact W5
 rintro ⟨s,R⟩ ⟨hs,hR⟩ K hK
 simp only at hs hR ⊢
 have hRl:=hR.1
 by_cases hlt:s<m
 rotate_left
 ·have hl0:decide ((s:Int)<(m:Int))=false:=by simp;omega
  (refine VW @hl0 ?_;(repeat clear hK K);repeat refine kq fun K hK=>?_)
  refine W3 ?_
  (refine VZ ?_;repeat clear hK K)
  refine As (AQ (r:=⟨24,1,true,Br R⟩) (ri:=⟨27,1,false,[.s 2 m]⟩) (ts:=AK R) 3 0 2 m (by decide) rfl rfl rfl rfl (show 0<1 by omega) (by simp only [AH,hRl];omega) (GZ R)) ?_
  refine As (CI 3 rfl) ?_
  simp only [Vp,List.map_cons,List.map_nil,go_sem]
  (refine VV ?_;(repeat clear hK K);repeat refine kq fun K hK=>?_)
  refine W6 [0,1] Tryz.results23 ?_
  exact ⟨a1,R,⟨rfl,rfl⟩,by omega,by omega,by omega,by rw [hRl];exact hR⟩
 have hl0:decide ((s:Int)<(m:Int))=true:=by simp;omega
 have hl2':s<R.length:=by omega
 have hg2:=gE1 hl2'
 have hrow:=hR.2 _ (gE6 hl2')
 (refine VW @hl0 ?_;(repeat clear hK K);repeat refine kq fun K hK=>?_)
 refine W2 ?_
 (refine VV ?_;(repeat clear hK K);repeat refine kq fun K hK=>?_)
 refine As (BJ 7 23 2 ?_) ?_
 ·simp only [go_sem]
 refine Ab (fun i:Nat=>{ tm:=[(0,.a (.c (.p 0 0))),(4,.a (.c (.p 1 0))),(5,.a (.c (.p 3 0))),(6,.i s),(7,.a (.c (.s 4 ((R[s].take i).filter (kp s)).length))),(8,.i i)],hp:=[.r ⟨66,2,false,[.t 1 (Ac T),.v (.int .i64 a1)]⟩,.r ⟨27,1,false,[.v (.slice none 0 0)]⟩,.r ⟨24,1,true,Br R⟩,.r ⟨27,1,false,[.s 2 m]⟩,.r ⟨23,2,true,AG ((R[s].take i).filter (kp s))⟩],n:=69,pin:=1 })
  (fun i=>i<=R[s].length) (fun i=>R[s].length - i) 0 ?_ ?_ ?_
 ·omega
 ·(refine Bh ?_;simp only [CS,go_sem,List.take_zero,List.filter_nil,List.length_nil,AG,List.flatMap_nil];try simp)
 rintro i hi K hK
 by_cases hlti:i<R[s].length
 rotate_left
 ·have hl3:decide ((i:Int)<(R[s].length:Int))=false:=by simpa using hlti
  have hie:i=R[s].length:=by omega
  (refine VW (an @hl3 (an @AH (an (BC hg2) (an @A3 @Aq)))) ?_;(repeat clear hK K);repeat refine kq fun K hK=>?_)
  refine W3 ?_
  (refine VZ ?_;repeat clear hK K)
  rw [hie,List.take_length]
  (refine As (B6 (r:=⟨23,2,true,AG (R[s].filter (kp s))⟩) 4 (Aw (R[s].filter (kp s))) rfl (DB _) (show 0<(2:Nat) by omega)) ?_;simp only [ST.frz,A0.frz,AV.frz,C.frz,Nat.le_refl,List.set_cons_zero,List.set_cons_succ,go_sem,A3,Aq,BH,List.take_length])
  (refine Cu (an @AH @Ew) ?_;(repeat clear hK K);repeat refine kq fun K hK=>?_)
  refine W4 ?_
  refine hK _ (s+1,R.set s (R[s].filter (kp s))) ⟨by simp only;omega,hR.set (hrow.filter _) s⟩ (by simp only;omega) ?_
  refine Le.trans (A8 [0,1,2,3] rfl rfl) ?_
  (try simp only [List.set_nil,List.take_nil,List.take_zero,List.map_append,go_sem])
  (try simp only [Cc])
  exact W5
 have hl3:decide ((i:Int)<(R[s].length:Int))=true:=by simpa using hlti
 have ha0:=DQ hlti
 have ha1':=Fq hlti
 have hat:=AS hlti
 have hkt:=SK (s:=s) hlti
 have hrl:=hrow.2.1
 have hfl:((R[s].take i).filter (kp s)).length<=4:=Nat.le_trans (List.length_filter_le _ _) (by simp;omega)
 (refine VW (an @hl3 (an @AH (an (BC hg2) (an @A3 @Aq)))) ?_;(repeat clear hK K);repeat refine kq fun K hK=>?_)
 refine W2 ?_
 cases q1:(R[s][i].1 != 0) with
 | true=>
  have hk1:kp s R[s][i]=true:=by rw [kp,q1,Bool.true_or]
  rw [if_pos hk1] at hkt
  (refine VW (an @q1 (an @ha0 (an @ha1' (an @AH (an (BC hg2) (an @A3 @Aq)))))) ?_;(repeat clear hK K);repeat refine kq fun K hK=>?_)
  refine W2 ?_
  have hlc:=gE7 (Nat.le_of_eq (AD ((R[s].take i).filter (kp s))))
  (refine VW (an @AH (an (BC hg2) (an @A3 (an @Aq (an @hat (an @AD (an @Eu (an @B9 @hlc)))))))) ?_;(repeat clear hK K);repeat refine kq fun K hK=>?_)
  refine W4 ?_
  refine hK _ (i+1) (by omega) (by omega) ?_
  refine Le.trans (A8 [0,1,2,3,6] rfl rfl) ?_
  (try simp only [List.set_nil,List.take_nil,List.take_zero,List.map_append,go_sem])
  rw [hkt]
  (try simp only [Cc,Ix])
  (refine Bh ?_;simp only [CS,go_sem,List.length_append,List.length_cons,List.length_nil];try simp)
 | false=>
  cases q2:decide (R[s][i].2 > (s:Int)) with
  | true=>
   have hk1:kp s R[s][i]=true:=by rw [kp,q1,q2];rfl
   rw [if_pos hk1] at hkt
   (refine VW (an @q1 (an @q2 (an @ha0 (an @ha1' (an @AH (an (BC hg2) (an @A3 @Aq))))))) ?_;(repeat clear hK K);repeat refine kq fun K hK=>?_)
   refine W2 ?_
   have hlc:=gE7 (Nat.le_of_eq (AD ((R[s].take i).filter (kp s))))
   (refine VW (an @AH (an (BC hg2) (an @A3 (an @Aq (an @hat (an @AD (an @Eu (an @B9 @hlc)))))))) ?_;(repeat clear hK K);repeat refine kq fun K hK=>?_)
   refine W4 ?_
   refine hK _ (i+1) (by omega) (by omega) ?_
   refine Le.trans (A8 [0,1,2,3,6] rfl rfl) ?_
   (try simp only [List.set_nil,List.take_nil,List.take_zero,List.map_append,go_sem])
   rw [hkt]
   (try simp only [Cc,Ix])
   (refine Bh ?_;simp only [CS,go_sem,List.length_append,List.length_cons,List.length_nil];try simp)
  | false=>
   have hk1:¬ kp s R[s][i]=true:=by rw [kp,q1,q2];simp
   rw [if_neg hk1,List.append_nil] at hkt
   (refine VW (an @q1 (an @q2 (an @ha0 (an @ha1' (an @AH (an (BC hg2) (an @A3 @Aq))))))) ?_;(repeat clear hK K);repeat refine kq fun K hK=>?_)
   refine W3 ?_
   (refine VV ?_;(repeat clear hK K);repeat refine kq fun K hK=>?_)
   refine W4 ?_
   refine hK _ (i+1) (by omega) (by omega) ?_
   rw [hkt]
   exact W5
attribute [local go_sem] lga C.pl C.one
theorem Ga (T:List Int) (hT:TpOk T) (a:Nat) (ha:a<=100000000):FC Tryz.prog 15 [.a (.c (.p 0 0))] [tape T a] (fun r o=>o=[tape T (a+1)]/\∃ v:Int,r=.i v/\1<=v/\v<=3):=by
 refine A7 Tryz.func15 rfl (by rw [Tryz.ntmps15];simp) ?_
 rw [Tryz.ntmps15]
 simp only [B4,tape]
 (refine VV ?_;(repeat clear hK K);repeat refine kq fun K hK=>?_)
 (refine Aj rfl ?_;intro K1 hK1;refine ct [0] (CY T a 3 hT (by omega) (by omega)) ?_ ?_)
 ·rintro _ _ ⟨rfl,v,rfl,_⟩;rfl
 rintro _ _ ⟨rfl,v,rfl,hv⟩
 (simp only [Ap,AC,tape,List.append_nil,List.nil_append,List.length_map,go_sem];refine hK1 _ ?_;clear hK1 K1)
 (refine VV ?_;(repeat clear hK K);repeat refine kq fun K hK=>?_)
 refine W8 Tryz.results15 ?_
 exact ⟨_,rfl,by omega,by omega⟩
theorem Oa (T:List Int) (hT:TpOk T) (a0:Nat) (ha:a0<=500000):
  FC Tryz.prog 21 [.a (.c (.p 0 0)),.i 6] [tape T a0] (fun r o=>∃ (a':Nat) (R:List (List Ar)),(o=[tape T a',Kb R]/\r=Ba R)/\a'<=a0+65/\1<=R.length/\R.length<=6/\OkSys 4 R.length R):=
 (PV T hT a0 6 ha (by omega) (by omega)).mono fun r o ⟨a',R,h0,h1,h2,h3,h4,h5⟩=>⟨a',R,⟨h0,h1⟩,by omega,h3,by omega,h5⟩
theorem PW (T:List Int) (hT:TpOk T) (a0:Nat) (ha:a0<=500000):
  FC Tryz.prog 23 [.a (.c (.p 0 0)),.i 5] [tape T a0] (fun r o=>∃ (a':Nat) (R:List (List Ar)),(o=[tape T a',Kb R]/\r=Ba R)/\a'<=a0+65/\1<=R.length/\R.length<=5/\OkSys 4 R.length R):=
 (SL T hT a0 5 (by omega) (by omega) (by omega)).mono fun r o ⟨a',R,h0,h2,h3,h4,h5⟩=>⟨a',R,h0,by omega,h3,by omega,h5⟩
set_option maxHeartbeats 8000000 in
theorem Oc (T:List Int) (hT:TpOk T) (R0:List (List Ar)) (m0:Int) (hn0:R0.length<=140737488355328) (hr0:∀ r∈R0,r.length<=140737488355328):FC Tryz.prog 5 [Ap T,Ba R0,.i m0] [] (fun r _=>r=.b true):=by
 refine A7 Tryz.func5 rfl (by rw [Tryz.ntmps5];simp) ?_
 rw [Tryz.ntmps5]
 simp only [B4,Ap,Ba]
 (refine VV ?_;(repeat clear hK K);repeat refine kq fun K hK=>?_)
 (refine W0 (Tm T) ?_;intro K1 hK1)
 rintro _ _ ⟨rfl,rfl⟩
 (simp only [Ap,AC,tape,List.append_nil,List.nil_append,List.length_map,go_sem];refine hK1 _ ?_;clear hK1 K1)
 (refine VV ?_;(repeat clear hK K);repeat refine kq fun K hK=>?_)
 refine Ab (fun p:Nat × Nat=>{ tm:=[(2,.i m0),(4,.a (.c (.p 0 0))),(7,.a (.c (.p 1 0))),(8,.i p.1)],hp:=[.r ⟨27,1,false,[.t 1 (AK R0)]⟩,.r ⟨66,2,false,[.t 1 (Ac T),.v (.int .i64 p.2)]⟩],n:=62,pin:=0 }) (fun p=>p.1<=4/\p.2<=200*p.1) (fun p=>4 - p.1) (0,0) ?_ ?_ ?_
 ·exact ⟨by simp,by simp⟩
 ·exact W5
 rintro ⟨k,a⟩ ⟨hk,ha⟩ K hK
 simp only at hk ha ⊢
 (refine VV ?_;(repeat clear hK K);repeat refine kq fun K hK=>?_)
 (refine Ah ?_;intro X Y hX hY;simp only [go_sem])
 refine ⟨fun h=>hX ?_,fun h=>hY ?_⟩
 rotate_left
 ·clear hX hY X Y
  by_cases h6:R0.length > 6
  ·have b6:decide ((R0.length:Int) > 6)=true:=gEg (by omega)
   (refine VZ ?_;repeat clear hK K)
   (refine VW (an @A6 @b6) ?_;(repeat clear hK K);repeat refine kq fun K hK=>?_)
   exact OQ Tryz.results5
  have b6:decide ((R0.length:Int) > 6)=false:=decide_eq_false (by omega)
  (refine VZ ?_;repeat clear hK K)
  (refine VW (an @A6 @b6) ?_;(repeat clear hK K);repeat refine kq fun K hK=>?_)
  (refine AY rfl rfl (by simp only [go_sem] <;> rfl) ?_;intro K1 hK1;refine (Av (ids:=[]) (SJ R0 hn0 hr0) rfl rfl (by simp only [go_sem]) (by kernel_rfl) (by (simp only [List.append_nil,go_sem]) <;> rfl) ?_).stp)
  rintro _ _ ⟨rfl,rfl⟩
  (refine W1 ?_;clear hK1 K1)
  cases hb:Hw R0 with
  | true=>
   (refine VV ?_;(repeat clear hK K);repeat refine kq fun K hK=>?_)
   exact OQ Tryz.results5
  | false=>
   have hb2:R0.length<=12/\Ci R0<=60:=by
    unfold Hw at hb
    simp only [Bool.or_eq_false_iff,decide_eq_false_iff_not] at hb
    omega
   have hb3:∀ r∈R0,r.length<=10000:=fun r h=>by
    obtain ⟨j,hj,rfl⟩:=List.getElem_of_mem h
    have h2:=P8 R0 j
    rw [gE2,gE1 hj,Option.getD_some] at h2
    omega
   (refine VV ?_;(repeat clear hK K);repeat refine kq fun K hK=>?_)
   (refine AY rfl rfl (by simp only [go_sem] <;> rfl) ?_;intro K1 hK1;refine (Av (ids:=[]) (G6 R0 m0 (by omega) hb3) rfl rfl (by simp only [go_sem]) (by kernel_rfl) (by (simp only [List.append_nil,go_sem]) <;> rfl) ?_).stp)
   rintro _ _ ⟨rfl,rfl⟩
   (refine W1 ?_;clear hK1 K1)
   (refine VV ?_;(repeat clear hK K);repeat refine kq fun K hK=>?_)
   (refine AY rfl rfl (by simp only [go_sem] <;> rfl) ?_;intro K1 hK1;refine (Av (ids:=[]) (O7) rfl rfl (by simp only [go_sem]) (by kernel_rfl) (by (simp only [List.append_nil,go_sem]) <;> rfl) ?_).stp)
   rintro _ _ rfl
   (refine W1 ?_;clear hK1 K1)
   (refine VV ?_;(repeat clear hK K);repeat refine kq fun K hK=>?_)
   exact OQ Tryz.results5
 have hlt:k<4:=by simp at h;omega
 clear hX hY X Y h
 (refine VV ?_;(repeat clear hK K);repeat refine kq fun K hK=>?_)
 (refine Aj rfl ?_;intro K1 hK1;refine ct [1] (Oa T hT a (by omega)) ?_ ?_)
 ·rintro _ _ ⟨_,_,⟨rfl,rfl⟩,_⟩;rfl
 rintro _ _ ⟨a1,X,⟨rfl,rfl⟩,ha1,hX1,hXn,hXo⟩
 (simp only [Ap,AC,tape,Kb,Ba,List.append_nil,List.nil_append,List.length_map,go_sem];refine hK1 _ ?_;clear hK1 K1)
 (refine SU ?_;(repeat clear hK K);repeat refine kq fun K hK=>?_)
 have hXr:∀ r∈X,r.length<=10000:=fun r h=>by have:=(hXo.2 r h).2.1;omega
 (refine C5 [1] [(1,0,0),(0,1,3),(2,2,0),(3,2,0),(4,0,0),(5,0,0),(6,0,0),(8,0,0),(7,2,0),(9,2,0),(10,2,0),(11,0,0),(12,0,0),(13,0,0),(15,0,0),(14,1,16),(16,2,0),(17,0,0),(18,0,0),(19,0,0),(20,0,0),(23,0,0),(21,1,22),(22,2,0),(24,2,0),(25,2,0),(26,0,0),(27,2,0)] (by kernel_rfl) (by kernel_rfl) (by intro c st h;simp [Ad,Ay,Vl] at h) ?_)
 (refine VT ?_;repeat clear hK K)
 (refine VH rfl rfl ?_;intro K1 hK1;refine xw [1] (Ga T hT a1 (by omega)) ?_ ?_)
 ·rintro _ _ ⟨rfl,v,rfl,_⟩;exact BN rfl
 rintro _ _ ⟨rfl,m1,rfl,hm1⟩
 (simp only [Ap,AC,tape,List.append_nil,List.nil_append,List.length_map,go_sem];refine hK1 _ ?_;clear hK1 K1)
 (refine VT ?_;repeat clear hK K)
 (refine VH rfl rfl ?_;intro K1 hK1;refine Bv ?_;refine xv [] (G6 X m1 (by omega) hXr) ?_ ?_)
 ·rintro _ _ ⟨rfl,rfl⟩ i o hi hl;simp at hl
 rintro _ _ ⟨rfl,rfl⟩
 (refine W1 ?_;clear hK1 K1)
 (refine VU @Bool.not_true ?_;repeat clear hK K)
 (refine Mr rfl rfl rfl (by simp only [go_sem] <;> rfl) ?_;intro K1 hK1;refine xw [1] (PW T hT (a1+1) (by omega)) ?_ ?_)
 ·rintro _ _ ⟨_,_,⟨rfl,rfl⟩,_⟩ i o hi hl
  have h0:i=0:=by simp at hl;exact hl
  subst h0
  simp at hi
  subst hi
  rfl
 rintro _ _ ⟨a2,Z,⟨rfl,rfl⟩,ha2,hZ1,hZn,hZo⟩
 (simp only [Ap,AC,tape,Kb,Ba,List.append_nil,List.nil_append,List.length_map,go_sem];refine hK1 _ ?_;clear hK1 K1)
 have hZr:∀ r∈Z,r.length<=10000:=fun r h=>by have:=(hZo.2 r h).2.1;omega
 (refine VT ?_;repeat clear hK K)
 (refine Mr rfl rfl rfl (by simp only [go_sem] <;> rfl) ?_;intro K1 hK1;refine xw [1] (Ga T hT a2 (by omega)) ?_ ?_)
 ·rintro _ _ ⟨rfl,v,rfl,_⟩;exact BN rfl
 rintro _ _ ⟨rfl,m2,rfl,hm1⟩
 (simp only [Ap,AC,tape,List.append_nil,List.nil_append,List.length_map,go_sem];refine hK1 _ ?_;clear hK1 K1)
 (refine VT ?_;repeat clear hK K)
 (refine Mr rfl rfl rfl (by simp only [go_sem] <;> rfl) ?_;intro K1 hK1;refine Bv ?_;refine xv [] (G6 Z m2 (by omega) hZr) ?_ ?_)
 ·rintro _ _ ⟨rfl,rfl⟩ i o hi hl;simp at hl
 rintro _ _ ⟨rfl,rfl⟩
 (refine W1 ?_;clear hK1 K1)
 (refine VU @Bool.not_true ?_;repeat clear hK K)
 (refine Mr rfl rfl rfl (by simp only [go_sem] <;> rfl) ?_;intro K1 hK1;refine Bv ?_;refine xv [] (G6 X m0 (by omega) hXr) ?_ ?_)
 ·rintro _ _ ⟨rfl,rfl⟩ i o hi hl;simp at hl
 rintro _ _ ⟨rfl,rfl⟩
 (refine W1 ?_;clear hK1 K1)
 (refine VU @Bool.not_true ?_;repeat clear hK K)
 (refine Mr rfl rfl rfl (by simp only [go_sem] <;> rfl) ?_;intro K1 hK1;refine xw [1] (P2 T hT (a2+1) X (by omega) hX1 (by omega) (fun r h=>by have:=(hXo.2 r h).2.1;omega)) ?_ ?_)
 ·rintro _ _ ⟨_,_,rfl,rfl,_⟩ i o hi hl
  have h0:i=0:=by simp at hl;exact hl
  subst h0
  simp at hi
  subst hi
  rfl
 rintro _ _ ⟨a3,W,rfl,rfl,ha3,hWn,hWr⟩
 (simp only [Ap,AC,tape,Kb,Ba,List.append_nil,List.nil_append,List.length_map,go_sem];refine hK1 _ ?_;clear hK1 K1)
 (refine VT ?_;repeat clear hK K)
 (refine Mr rfl rfl rfl (by simp only [go_sem] <;> rfl) ?_;intro K1 hK1;refine xw [1] (Ga T hT a3 (by omega)) ?_ ?_)
 ·rintro _ _ ⟨rfl,v,rfl,_⟩;exact BN rfl
 rintro _ _ ⟨rfl,m3,rfl,hm1⟩
 (simp only [Ap,AC,tape,List.append_nil,List.nil_append,List.length_map,go_sem];refine hK1 _ ?_;clear hK1 K1)
 (refine VT ?_;repeat clear hK K)
 (refine Mr rfl rfl rfl (by simp only [go_sem] <;> rfl) ?_;intro K1 hK1;refine Bv ?_;refine xv [] (G6 W m3 (by omega) (fun r h=>by have:=hWr r h;omega)) ?_ ?_)
 ·rintro _ _ ⟨rfl,rfl⟩ i o hi hl;simp at hl
 rintro _ _ ⟨rfl,rfl⟩
 (refine W1 ?_;clear hK1 K1)
 (refine VU @Bool.not_true ?_;repeat clear hK K)
 (refine VI rfl rfl rfl ?_;intro K1 hK1;refine Bc rfl ?_;simp only [go_sem,Bool.not_true];(first | refine hK1 _ ?_ | refine AE (hK1 _ ?_));clear hK1 K1)
 (refine VT ?_;repeat clear hK K)
 (refine VV ?_;(repeat clear hK K);repeat refine kq fun K hK=>?_)
 refine W3 ?_
 (refine VV ?_;(repeat clear hK K);repeat refine kq fun K hK=>?_)
 refine W4 ?_
 refine hK _ (k+1,a3+1) ⟨by simp only;omega,by simp only;omega⟩ (by simp only;omega) ?_
 refine Le.trans (A8 [0,1] rfl rfl) ?_
 (try simp only [List.set_nil,List.take_nil,List.take_zero,List.map_append,go_sem])
 exact W5
open Go.RowKit Go.Deep Go.ChangeShapes
theorem JE {w:World} {a:Addr} {v:Value} (h:w.cell? a=some v):a.spot=none/\a.block<w.heap.size:=by
 constructor
 rotate_left
 ·rcases Nat.lt_or_ge a.block w.heap.size with hl | hl
  ·exact hl
  simp [World.cell?,Array.getElem?_eq_none hl] at h
 unfold World.cell? at h
 split at h
 rotate_left
 ·cases h
 split at h
 ·cases h
 rename_i hs;cases hsp:a.spot with
 | none=>rfl
 | some x=>simp [hsp] at hs
theorem Ls.of_cells {α:Type} {f:α->List Value} {k:Nat} (hfk:∀ x,(f x).length=k) (hk:0<k) {w:World} {b off n c:Nat} {xs:List α} (hn:xs.length=n) (hc:n<=c) (hb:0<n->b<w.heap.size)
  (h:∀ (i:Nat) (x:α),xs[i]?=some x->∀ (q:Nat) (u:Value),(f x)[q]?=some u->w.cell? ⟨b,off+(i*k+q),none⟩=some u):Ls f k [] w (some ⟨b,off,none⟩) n c xs:=by
 subst hn
 refine ⟨⟨GK f k hfk xs,hc,fun hp=>⟨b,off,rfl,by simp,hb hp,fun j u hu=>?_⟩⟩,rfl⟩
 have hjl:=(List.getElem?_eq_some_iff.1 hu).1
 rw [GK f k hfk] at hjl
 have hd:j / k<xs.length:=Nat.div_lt_of_lt_mul (by rw [Nat.mul_comm];exact hjl)
 have hm:j % k<k:=Nat.mod_lt _ hk
 have htd:j / k*k+j % k=j:=by rw [Nat.mul_comm];exact Nat.div_add_mod j k
 have hg:=GL f k hfk xs (j / k) (j % k) xs[j / k] (gE1 hd) hm
 rw [htd] at hg
 rw [hg] at hu
 have:=h (j / k) xs[j / k] (gE1 hd) (j % k) u hu
 rw [htd] at this
 exact this
theorem Ls.none0 {α:Type} {f:α->List Value} {k:Nat} {w:World} {A:Option Addr} {c:Nat}:Ls f k [] w A 0 c []:=⟨⟨by simp,Nat.zero_le _,fun h=>absurd h (by omega)⟩,rfl⟩

theorem Ej {α:Type} {p:Nat->α->Prop}:∀ (n:Nat),(∀ q,q<n->∃ x,p q x)->∃ xs:List α,xs.length=n/\∀ q x,xs[q]?=some x->p q x
 | 0,_=>⟨[],rfl,by simp⟩
 | n+1,h=>by
  obtain ⟨xs,hl,hx⟩:=Ej n (fun q hq=>h q (by omega))
  obtain ⟨x,hp⟩:=h n (by omega)
  refine ⟨xs++[x],by simp [hl],fun q y hy=>?_⟩
  by_cases hq:q<xs.length
  ·rw [gEa hq] at hy;exact hx q y hy
  ·rw [gEb (by omega)] at hy
   have hq2:q - xs.length=0:=by
    rcases Nat.eq_zero_or_pos (q - xs.length) with h | h
    ·exact h
    ·rw [List.getElem?_eq_none (by simp;omega)] at hy;cases hy
   rw [hq2] at hy
   simp at hy
   subst hy
   rw [show q=n by omega];exact hp

variable {H : Type} {enc : TypeId × Value -> H}
theorem LO {P:Program} {w:World} {t e i:TypeId} {f0 f1:Field} {fuel:Nat} {v:Value} {x:DataW H × List MemPlace} (ht:P.underlying t=some (.slice e)) (he:P.underlying e=some (.struct #[f0,f1])) (hc:P.cellsOf e=2)
  (hf0:f0.type=i/\f0.offset=0) (hf1:f1.type=i/\f1.offset=1) (hi:P.underlying i=some (.int .i64)) (hci:P.cellsOf i=1) (h:DataW.trod enc P w 0 (fun _=>true) true fuel t [v]=some x)
  (hby:P.bytesOf e=16) (hwt:∀ k∈x.1.weights P t,k<=reachBytes):
  ∃ A n c xs,v=.slice A n c/\SY [] w A n c xs/\n<=140737488355328:=by
 rcases open_slice ht h with ⟨hcs,_⟩ | ⟨a,len,cap,m,n,D,Pl,hcs,_,hl,hm,hmm,hxe,hx⟩
 ·simp at hcs;subst hcs
  exact ⟨none,0,0,[],rfl,Ls.none0,by omega⟩
 simp at hcs;subst hcs
 simp at hmm
 subst hmm
 have hlen47:len<=140737488355328:=by
  have:=hwt ((((List.range len).map D).length+((List.range (m - len)).map fun j=>D (len+j)).length)*16) (by rw [hxe];simp [DataW.weights,ht,hby])
  simp only [List.length_map,List.length_range] at this
  have hr:=reachBytes_lt
  omega
 have hx2:∀ q,q<len->∃ X Y:Int,w.cell? (a.add (q*2))=some (.int .i64 X)/\w.cell? ((a.add (q*2)).add 1)=some (.int .i64 Y):=by
  intro q hq
  obtain ⟨cs',h1,h2⟩:=hx q (by omega)
  rw [hc] at h1
  obtain ⟨_,hlen,hcell⟩:=World.cells?_some h1
  match cs',hlen with
  | [c0,c1],_=>
   obtain ⟨y0,y1,n',_,_,e0,e1⟩:=trod_struct2 he h2
   rw [hf0.1,hf0.2,hci] at e0
   rw [hf1.1,hf1.2,hci] at e1
   obtain ⟨X,hX,_,_⟩:=DataW.trod_int hi e0
   obtain ⟨Y,hY,_,_⟩:=DataW.trod_int hi e1
   simp at hX hY
   subst hX;subst hY
   have z0:=hcell 0 (by omega)
   have z1:=hcell 1 (by omega)
   simp [Addr.add] at z0
   exact ⟨X,Y,by simpa [Addr.add] using z0,by simpa using z1⟩
 by_cases h0:len=0
 ·subst h0
  exact ⟨some a,0,m,[],rfl,Ls.none0,by omega⟩
 obtain ⟨X0,_,hX0,_⟩:=hx2 0 (by omega)
 simp [Addr.add] at hX0
 obtain ⟨hsp,hlt⟩:=JE hX0
 obtain ⟨b,off,rfl⟩:∃ b off,a=⟨b,off,none⟩:=⟨a.block,a.off,by cases a;simp at hsp;subst hsp;rfl⟩
 have hadd:∀ q,(⟨b,off,none⟩:Addr).add q=⟨b,off+q,none⟩:=fun q=>by unfold Addr.add;split <;> simp_all
 have hadd2:∀ q,(⟨b,off+q,none⟩:Addr).add 1=⟨b,off+(q+1),none⟩:=fun q=>by unfold Addr.add;simp;omega
 obtain ⟨xs,hxl,hxs⟩:=Ej (α:=Int × Int) (p:=fun q x=>w.cell? ⟨b,off+q*2,none⟩=some (.int .i64 x.1)/\w.cell? ⟨b,off+(q*2+1),none⟩=some (.int .i64 x.2)) len (fun q hq=>by
  obtain ⟨X,Y,h1,h2⟩:=hx2 q hq
  rw [hadd] at h1 h2
  rw [hadd2] at h2
  exact ⟨(X,Y),h1,h2⟩)
 refine ⟨some ⟨b,off,none⟩,len,m,xs,rfl,?_,hlen47⟩
 refine Ls.of_cells (f:=cp) (k:=2) (fun _=>rfl) (by omega) hxl hl (fun _=>hlt) (fun q x hqx r u hu=>?_)
 obtain ⟨h1,h2⟩:=hxs q x hqx
 match r,hu with
 | 0,hu=>simp [cp] at hu;subst hu;simpa using h1
 | 1,hu=>simp [cp] at hu;subst hu;exact h2
 | r+2,hu=>simp [cp] at hu

theorem Gl {P:Program} {e:TypeId} {ds:List (DataW H)} {d:DataW H} (h:d∈ds) {k:Nat} (hk:k∈d.weights P e):k∈DataW.weightsAll P e ds:=by
 induction ds with
 | nil=>cases h
 | cons x xs ih=>
  simp only [DataW.weightsAll,List.mem_append]
  rcases List.mem_cons.1 h with rfl | h
  ·exact .inl hk
  exact .inr (ih h)
theorem Oe {P:Program} {w:World} {T t e i:TypeId} {f0 f1:Field} {fuel:Nat} {v:Value} {x:DataW H × List MemPlace} (hT:P.underlying T=some (.slice t)) (hct:P.cellsOf t=1) (ht:P.underlying t=some (.slice e)) (he:P.underlying e=some (.struct #[f0,f1])) (hc:P.cellsOf e=2)
  (hf0:f0.type=i/\f0.offset=0) (hf1:f1.type=i/\f1.offset=1) (hi:P.underlying i=some (.int .i64)) (hci:P.cellsOf i=1) (h:DataW.trod enc P w 0 (fun _=>true) true fuel T [v]=some x)
  (hbT:P.bytesOf t=24) (hby:P.bytesOf e=16) (hwt:∀ k∈x.1.weights P T,k<=reachBytes):
  ∃ A n c rows,v=.slice A n c/\Ll cp 2 [] w A n c rows/\n<=140737488355328/\∀ r∈rows,r.length<=140737488355328:=by
 rcases open_slice1 hT hct h with ⟨hcs,_⟩ | ⟨a,len,cap,m,n,V,D,Pl,hcs,_,hl,hm,hmm,hxe,hx⟩
 ·simp at hcs;subst hcs
  exact ⟨none,0,0,[],rfl,Ll.nil _ _ _ _,by omega,by simp⟩
 simp at hcs;subst hcs
 simp at hmm
 subst hmm
 have hlen47:len<=140737488355328:=by
  have:=hwt ((((List.range len).map D).length+((List.range (m - len)).map fun j=>D (len+j)).length)*24) (by rw [hxe];simp [DataW.weights,hT,hbT])
  simp only [List.length_map,List.length_range] at this
  have hr:=reachBytes_lt
  omega
 obtain ⟨rows,hrl,hrs⟩:=Ej (α:=List (Int × Int)) (p:=fun q r=>w.cell? (a.add q)=some (V q)/\LsV cp 2 [] w (V q) r/\r.length<=140737488355328) len (fun q hq=>by
  obtain ⟨h1,h2⟩:=hx q (by omega)
  obtain ⟨A,n',c,xs,hv,hp,hn⟩:=LO ht he hc hf0 hf1 hi hci h2 hby (fun k hk=>hwt k (by
   rw [hxe]
   simp only [DataW.weights,hT,List.mem_cons,List.mem_append]
   exact .inr (.inl (Gl (List.mem_map.2 ⟨q,by simpa using hq,rfl⟩) hk))))
  exact ⟨xs,h1,⟨A,n',c,hv,hp⟩,by rw [hp.n_eq];exact hn⟩)
 refine ⟨some a,len,m,rows,rfl,?_,hlen47,fun r hr=>by obtain ⟨q,hq⟩:=List.getElem?_of_mem hr;exact (hrs q r hq).2.2⟩
 by_cases h0:len=0
 ·subst h0
  have:rows=[]:=List.length_eq_zero_iff.1 hrl
  subst this
  exact ⟨[],Ls.none0,LRel.nil⟩
 obtain ⟨hX0,_⟩:=hx 0 (by omega)
 simp [Addr.add] at hX0
 obtain ⟨hsp,hlt⟩:=JE hX0
 obtain ⟨b,off,rfl⟩:∃ b off,a=⟨b,off,none⟩:=⟨a.block,a.off,by cases a;simp at hsp;subst hsp;rfl⟩
 have hadd:∀ q,(⟨b,off,none⟩:Addr).add q=⟨b,off+q,none⟩:=fun q=>by unfold Addr.add;split <;> simp_all
 refine ⟨(List.range len).map V,?_,by simp [hrl],fun q v r hv hr=>?_⟩
 rotate_left
 ·have hq:q<len:=by have:=(List.getElem?_eq_some_iff.1 hv).1;simpa using this
  have hy:v=V q:=by simp [hq] at hv;exact hv.symm
  subst hy
  exact (hrs q r hr).2.1
 refine Ls.of_cells (f:=cv) (k:=1) (fun _=>rfl) (by omega) (by simp) hl (fun _=>hlt) (fun q y hqy r u hu=>?_)
 have hq:q<len:=by have:=(List.getElem?_eq_some_iff.1 hqy).1;simpa using this
 have hy:y=V q:=by simp [hq] at hqy;exact hqy.symm
 subst hy
 have:=(hx q (by omega)).1
 rw [hadd] at this
 match r,hu with
 | 0,hu=>simp [cv] at hu;subst hu;simpa using this
 | r+1,hu=>simp [cv] at hu
end Go.Proofs.YtbnabodoabimnaaGreat
namespace Go.Proofs.YtbnabodoabimnaaGreat
set_option linter.unusedVariables false
set_option linter.unusedSimpArgs false
open Go.RowKit Go.Deep Go.ChangeShapes Go.WideShapes

def Yd:Nat->Prop:=fun _=>False
theorem PX {w:World} {A:Option Addr} {n c k:Nat} {cs:List Value} (h:Sl [] w A n c k cs) (h1:∀ u∈cs,u.oneCell'=true):Rd Yd w (.l k (cs.map .v)) (.slice A n c):=by
 rcases Nat.eq_zero_or_pos n with h0 | h0
 ·subst h0
  have:cs=[]:=List.eq_nil_of_length_eq_zero (by rw [h.len];simp)
  subst this
  exact .e _ _ _
 obtain ⟨b,off,rfl,_,hb,hc⟩:=h.at_ h0
 refine .l k _ b off n c (fun j=>(cs[j]?).getD undef) (by rw [List.length_map];exact h.len) h0 h.cap (fun h=>h) hb (fun j t hj=>?_) (fun j t hj=>?_)
 ·rw [List.getElem?_map,Option.map_eq_some_iff] at hj
  obtain ⟨u,hu,rfl⟩:=hj
  rw [hu];exact hc j u hu
 rw [List.getElem?_map,Option.map_eq_some_iff] at hj
 obtain ⟨u,hu,rfl⟩:=hj
 rw [hu]
 exact .v u (h1 u (gE9 hu))
theorem Of:∀ vs:List Value,vs.flatMap cv=vs
 | []=>rfl
 | v :: r=>by
  show v :: r.flatMap cv=v :: r
  rw [Of r]
theorem LP {w:World} {A:Option Addr} {n c:Nat} {xs:List (Int × Int)} (h:SY [] w A n c xs):Rd Yd w (.l 2 (Aw xs)) (.slice A n c):=by
 have:=PX h.sl (by
  intro u hu
  obtain ⟨x,_,hx⟩:=List.mem_flatMap.1 hu
  simp [cp] at hx
  rcases hx with rfl | rfl <;> rfl)
 have e:(xs.flatMap cp).map Tr.v=Aw xs:=by simp [Aw,List.map_flatMap,cp]
 rwa [e] at this
theorem PY {α:Type} {f:α->List Value} {k:Nat} {tr:List α->List Tr} {w:World} {A:Option Addr} {n c:Nat} {rs:List (List α)} (h:Ll f k [] w A n c rs)
  (hf:∀ {A:Option Addr} {n c:Nat} {xs:List α},Ls f k [] w A n c xs->Rd Yd w (.l k (tr xs)) (.slice A n c)):Rd Yd w (.l 1 (rs.map fun r=>.l k (tr r))) (.slice A n c):=by
 obtain ⟨vs,h1,h2⟩:=h.ex
 have hl:rs.length=n:=by rw [<- h2.1];exact h1.n_eq
 rcases Nat.eq_zero_or_pos n with h0 | h0
 ·subst h0
  have:rs=[]:=List.eq_nil_of_length_eq_zero hl
  subst this
  exact .e _ _ _
 obtain ⟨b,off,rfl,_,hb,hc⟩:=h1.sl.at_ h0
 have hcv:∀ j v,vs[j]?=some v->w.cell? ⟨b,off+j,none⟩=some v:=fun j v hv=>by
  refine hc j v ?_
  rw [Of];exact hv
 refine .l 1 _ b off n c (fun j=>(vs[j]?).getD undef) (by simp [hl]) h0 h1.sl.cap (fun h=>h) hb (fun j t hj=>?_) (fun j t hj=>?_)
 ·rw [List.getElem?_map,Option.map_eq_some_iff] at hj
  obtain ⟨r,hr,rfl⟩:=hj
  obtain ⟨v,hv,_⟩:=h2.get' hr
  rw [hv];exact hcv j v hv
 rw [List.getElem?_map,Option.map_eq_some_iff] at hj
 obtain ⟨r,hr,rfl⟩:=hj
 obtain ⟨v,hv,A,n',c',e,hx⟩:=h2.get' hr
 rw [hv,e]
 exact hf hx
theorem LQ {w:World} {A:Option Addr} {n c:Nat} {R:List (List (Int × Int))} (h:Ll cp 2 [] w A n c R):Rd Yd w (.l 1 (AK R)) (.slice A n c):=PY h LP

variable {H : Type} {enc : TypeId × Value -> H}
theorem SM {P:Program} {w:World} {t e:TypeId} {fuel:Nat} {v:Value} {x:DataW H × List MemPlace} (ht:P.underlying t=some (.slice e)) (he:P.underlying e=some (.int .i64)) (hc:P.cellsOf e=1) (h:DataW.trod enc P w 0 (fun _=>true) true fuel t [v]=some x):
  ∃ zs,Rd Yd w (.l 1 (Ac zs)) v/\zs.length<=9223372036854775807/\∀ y∈zs,L6 y:=by
 rcases open_ints ht he hc h with ⟨hcs,_⟩ | ⟨a,l,c,zs,hcs,_,hl,hm,hz,_,hcell,hwz⟩
 ·simp at hcs;subst hcs
  exact ⟨[],.e _ _ _,by simp,by simp⟩
 simp at hcs;subst hcs
 have hzl:zs.length=c:=by simpa using hz
 simp only [maxLen] at hm
 refine ⟨zs.take l,?_,by simp;omega,fun y hy=>?_⟩
 rotate_left
 ·have:=hwz y (List.mem_of_mem_take hy)
  have h2 : -9223372036854775808<=y/\y<=9223372036854775807:=by simpa [Lit.wf,IntKind.min,IntKind.max,IntKind.signed,IntKind.bits] using this
  exact ⟨h2.1,by omega⟩
 rcases Nat.eq_zero_or_pos l with h0 | h0
 ·subst h0;exact .e _ _ _
 have hX0:=hcell 0 (by omega)
 simp [Addr.add] at hX0
 obtain ⟨hsp,hlt⟩:=JE hX0
 obtain ⟨b,off,rfl⟩:∃ b off,a=⟨b,off,none⟩:=⟨a.block,a.off,by cases a;simp at hsp;subst hsp;rfl⟩
 have hadd:∀ q,(⟨b,off,none⟩:Addr).add q=⟨b,off+q,none⟩:=fun q=>by unfold Addr.add;split <;> simp_all
 refine .l 1 _ b off l c (fun j=>.int .i64 (zs.getD j 0)) (by simp [Ac];omega) h0 hl (fun h=>h) hlt (fun j t hj=>?_) (fun j t hj=>?_)
 ·have hj2:j<l:=by
   have:=(List.getElem?_eq_some_iff.1 hj).1
   simp [Ac] at this;omega
  rw [<- hadd];exact hcell j (by omega)
 have hj2:j<l:=by
  have:=(List.getElem?_eq_some_iff.1 hj).1
  simp [Ac] at this;omega
 simp only [Ac,List.getElem?_map,List.getElem?_take,if_pos hj2] at hj
 rw [gE1 (by omega)] at hj
 simp at hj
 subst hj
 rw [List.getD,gE1 (by omega)]
 exact .v _ rfl
theorem Og {P:Program} {f:FuncId} {args:List AV} (h:FC P f args [] (fun r _=>r=.b true)) (W:World) (vals:List Value) (hl:vals.length=args.length)
  (ha:∀ (i:Nat) (x:AV),args[i]?=some x->∃ v,vals[i]?=some v/\∀ g:Gh,g.M=Yd->AVR (CR g [] W) x v) (hgl:GlR Yd W:=by intro n vs h;cases h):Calls P f vals.toArray W fun e W'=>e=.returned (.bool true)/\Fr [] W W':=by
 let g:Gh:=⟨fun _=>0,fun _=>0,Yd⟩
 have lv:∀ ℓ,¬ Lv [] g ℓ:=by
  intro ℓ hl
  cases ℓ with
  | ob i=>rcases hl with ⟨r,e,_⟩ | ⟨kv,e⟩ <;> simp at e
  | cl i j=>obtain ⟨r,k,cs,e,_⟩:=hl;simp at e
 have hr:HR g [] W:=⟨fun b hb=>hb.elim,fun ℓ hl=>(lv ℓ hl).elim,fun ℓ _ hl _ _=>(lv ℓ hl).elim,fun id r e=>by simp at e,fun id kv e=>by simp at e,hgl.keep (Nat.le_refl _) (fun _ _ _=>rfl) (fun k _ ho=>ho.elim (fun h=>h) (fun ⟨ℓ,hl,_⟩=>(lv ℓ hl).elim))⟩
 refine (h g W vals hr ⟨hl,fun i x hx=>by obtain ⟨v,h1,h2⟩:=ha i x hx;exact ⟨v,h1,h2 g rfl⟩⟩).mono ?_
 rintro e W' ⟨v,r,outs,g',rfl,rfl,_,_,_,hv,hf⟩
 exact ⟨by rw [show v=.bool true from hv],hf.fr fun k _ ⟨ℓ,hl,_⟩=>(lv ℓ hl).elim⟩
theorem SN {g:Gh} (h:g.M=Yd) {b:Nat}:¬ Ow [] g b:=by
 rintro (ho | ⟨ℓ,hl,_⟩)
 ·rw [h] at ho;exact ho
 cases ℓ with
 | ob i=>rcases hl with ⟨r,e,_⟩ | ⟨kv,e⟩ <;> simp at e
 | cl i j=>obtain ⟨r,k,cs,e,_⟩:=hl;simp at e
theorem QE {g:Gh} {W:World} {k:Nat} {cs:List Tr} {v:Value} (h:Rd Yd W (.l k cs) v) (hg:g.M=Yd):AVR (CR g [] W) (.a (.c (.t k cs))) v:=h.mono fun _ _ ho=>absurd ho (SN hg)
theorem UZ:ownKnob Tryz.prog.godebug=none:=by kernel_rfl
theorem Hx:laidOutB Tryz.prog=true:=by kernel_rfl
end Go.Proofs.YtbnabodoabimnaaGreat
namespace Go.Proofs.YtbnabodoabimnaaGreat
set_option linter.unusedVariables false
set_option linter.unusedSimpArgs false
open Go.RowKit Go.Deep Go.ChangeShapes Go.WideShapes

theorem SO {t i:TypeId} {n0 n1:String} (ht:Tryz.prog.underlying t=some (.struct (Tryz.prog.fieldsOf t))) (hf:(Tryz.prog.fieldsOf t).toList.map (fun f=>(f.name,f.type,f.offset))=[(n0,i,0),(n1,i,1)]):
  ∃ f0 f1,Tryz.prog.underlying t=some (.struct #[f0,f1])/\(f0.type=i/\f0.offset=0)/\(f1.type=i/\f1.offset=1):=by
 match h:(Tryz.prog.fieldsOf t).toList,hf with
 | [f,g],hf=>
  simp only [List.map_cons,List.map_nil,List.cons.injEq,Prod.mk.injEq,and_true] at hf
  obtain ⟨⟨_,a1,a2⟩,_,b1,b2⟩:=hf
  refine ⟨f,g,?_,⟨a1,a2⟩,⟨b1,b2⟩⟩
  rw [ht]
  have:Tryz.prog.fieldsOf t=#[f,g]:=by apply Array.ext';simpa using h
  rw [this]
 | [],hf=>simp at hf
 | [_],hf=>simp at hf
 | _ :: _ :: _ :: _,hf=>simp at hf
theorem SP {t i:TypeId} {n0:String} (ht:Tryz.prog.underlying t=some (.struct (Tryz.prog.fieldsOf t))) (hf:(Tryz.prog.fieldsOf t).toList.map (fun f=>(f.name,f.type,f.offset))=[(n0,i,0)]):
  ∃ f0,Tryz.prog.underlying t=some (.struct #[f0])/\(f0.type=i/\f0.offset=0):=by
 match h:(Tryz.prog.fieldsOf t).toList,hf with
 | [f],hf=>
  simp only [List.map_cons,List.map_nil,List.cons.injEq,Prod.mk.injEq,and_true] at hf
  obtain ⟨_,a1,a2⟩:=hf
  refine ⟨f,?_,⟨a1,a2⟩⟩
  rw [ht]
  have:Tryz.prog.fieldsOf t=#[f]:=by apply Array.ext';simpa using h
  rw [this]
 | [],hf=>simp at hf
 | _ :: _ :: _,hf=>simp at hf
theorem V0:∃ f0 f1,Tryz.prog.underlying 23=some (.struct #[f0,f1])/\(f0.type=3/\f0.offset=0)/\(f1.type=3/\f1.offset=1):=SO (n0:= "Event") (n1:= "To") (by kernel_rfl) (by kernel_rfl)
theorem V1:∃ f0,Tryz.prog.underlying 27=some (.struct #[f0])/\(f0.type=25/\f0.offset=0):=SP (n0:= "Out") (by kernel_rfl) (by kernel_rfl)

variable {H : Type} {enc : TypeId × Value -> H}
set_option maxRecDepth 100000 in
theorem PZ {W:World} {v:Value} {d:DataW H} {p:List MemPlace} {r:Reach} {b0:Nat} (hv:Value.okWide Tryz.prog W r b0 27 v) (h:DataW.Trod enc Tryz.prog W 0 (fun _=>true) true 27 v d p) (hwt:∀ k∈d.weights Tryz.prog 27,k<=reachBytes):
  ∃ A n c rows,v=.agg #[.slice A n c]/\Ll cp 2 [] W A n c rows/\n<=140737488355328/\∀ r∈rows,r.length<=140737488355328:=by
 obtain ⟨f0,hs,hf1,hf2⟩:=V1
 obtain ⟨a0,a1,he,ha0,ha1⟩:=V0
 obtain ⟨cs,rfl,hsz⟩:=okWide_struct hs hv
 have hC:Tryz.prog.cellsOf 27=1:=by kernel_rfl
 rw [hC] at hsz
 obtain ⟨c0,rfl⟩:∃ c0,cs=#[c0]:=by
  match cs,hsz with
  | ⟨[c0]⟩,_=>exact ⟨c0,rfl⟩
 obtain ⟨fuel,hf⟩:=h
 obtain ⟨y0,n,hx,_,h0⟩:=trod_struct1 hs hf
 have hC2:Tryz.prog.cellsOf 25=1:=by kernel_rfl
 rw [hf1,hf2,hC2] at h0
 simp [Value.cells] at h0
 have hd:d=.agg [y0.1]:=by simpa using congrArg Prod.fst hx
 subst hd
 obtain ⟨A,n,c,rows,hv2,h1,h2,h3⟩:=Oe Tryz.underlying25 (by kernel_rfl) Tryz.underlying24 he (by kernel_rfl) ha0 ha1 Tryz.underlying3 (by kernel_rfl) h0 (by kernel_rfl) (by kernel_rfl) (fun k hk=>hwt k (by
  simp only [DataW.weights,hs,List.toList_toArray,List.map_cons,List.map_nil,DataW.weightsEach,hf1,List.append_nil];exact hk))
 exact ⟨A,n,c,rows,by rw [hv2],h1,h2,h3⟩

theorem SQ {g:Gh} {W:World} {A:Option Addr} {n c:Nat} {R:List (List (Int × Int))} (h:Ll cp 2 [] W A n c R) (hg:g.M=Yd):AVR (CR g [] W) (Ba R) (.agg #[.slice A n c]):=by
 refine ⟨[.slice A n c],rfl,rfl,fun i x hx=>?_⟩
 match i,hx with
 | 0,hx=>simp at hx;subst hx;exact ⟨_,rfl,QE (LQ h) hg⟩
 | i+1,hx=>simp at hx
end Go.Proofs.YtbnabodoabimnaaGreat
