/- Lemmas. -/
import Derived.Test.YtjijjfkalheokaaGreatDoorZk
import Derived.Test.YtjijjfkalheokaaGreatDoorG36
import Derived.Test.YtjijjfkalheokaaGreatDoorG11
import Derived.Test.YtjijjfkalheokaaGreatDoorCv1
import Derived.Test.YtjijjfkalheokaaGreatDoorW07
import Derived.Test.YtjijjfkalheokaaGreatDoorG72
import Derived.Test.YtjijjfkalheokaaGreatDoorMG
namespace Go.Proofs.YtjijjfkalheokaaGreatDoor
set_option linter.unusedVariables false
set_option linter.unusedSimpArgs false
open Go.RowKit
set_option maxRecDepth 100000
attribute [local go_sem] List.set_cons_zero List.set_cons_succ List.map_cons List.map_nil List.take_succ_cons List.take_zero List.drop_zero List.drop_succ_cons C.pl C.one List.all_cons List.all_nil Bool.and_true

theorem OA (T:List Int) (hT:TpOk T) (a0 n:Nat) (ha:a0<=1000000) (hn1:1<=n) (hn:n<=20):
  FC Tryz.prog 18 [.a (.c (.p 0 0)),.i n] [tape T a0] (fun r o=>∃ (a':Nat) (R:List (List Ar)),o=[tape T a',.r ⟨42,1,true,AO R⟩,.r ⟨25,1,false,[.s 1 R.length]⟩]/\r=.a (.g [.s 1 R.length])/\a'<=a0+1+7*n/\1<=R.length/\R.length<=n/\OkSys 3 R.length R):=by
 refine A6 Tryz.func18 rfl (by rw [Tryz.ntmps18];simp) ?_
 rw [Tryz.ntmps18]
 simp only [Bf,tape,Kv]
 (refine Wt ?_;(repeat clear hK K);repeat refine kq fun K hK=>?_)
 (refine Ai rfl ?_;intro K1 hK1;refine ct [0] (Dk T a0 n hT (by omega) (by omega)) ?_ ?_)
 ·rintro _ _ ⟨rfl,v,rfl,_⟩;rfl
 rintro _ _ ⟨rfl,m,rfl,hm⟩
 (simp only [As,Bl,tape,List.append_nil,List.nil_append,List.length_map,go_sem];refine hK1 _ ?_;clear hK1 K1)
 have em:(1+(m:Int)).toNat=m+1:=by omega
 (refine Wu (an @em (an @List.set_cons_zero.{0} @List.set_cons_succ.{0})) ?_;(repeat clear hK K);repeat refine kq fun K hK=>?_)
 refine Au (Cm 2 rfl) ?_
 simp only [PM,List.set_cons_zero,List.set_cons_succ]
 refine A8 (fun p:Nat × List (List Ar) × Nat=>{ tm:=[(0,.a (.c (.p 0 0))),(4,.a (.c (.p 1 0))),(5,.a (.c (.p 3 0))),(6,.i p.1)],hp:=[.r ⟨41,2,false,[.t 1 (Ab T),.v (.int .i64 p.2.2)]⟩,.r ⟨25,1,false,[.v (.slice none 0 0)]⟩,.r ⟨42,1,true,AO p.2.1⟩,.r ⟨25,1,false,[.s 2 (m+1)]⟩],n:=46,pin:=1 })
  (fun p=>p.1<=m+1/\p.2.2<=a0+1+7*p.1/\OkSys 3 (m+1) p.2.1/\∀ q r,p.1<=q->p.2.1[q]?=some r->r=[]) (fun p=>m+1 - p.1) (0,List.replicate (m+1) [],a0+1) ?_ ?_ ?_
 ·refine ⟨by simp,by simp,Ng _,fun q r _ hr=>?_⟩
  exact List.eq_of_mem_replicate (gE9 hr)
 ·exact WE
 rintro ⟨i,R,a⟩ ⟨hi,hA,hR,hE⟩ K hK
 simp only at hi hA hR hE ⊢
 (refine Wt ?_;(repeat clear hK K);repeat refine kq fun K hK=>?_)
 (refine At ?_;intro X Y hX hY;simp only [go_sem])
 refine ⟨fun h=>hX ?_,fun h=>hY ?_⟩
 rotate_left
 ·have hi1:i=m+1:=by simp at h;omega
  clear hX hY X Y
  (refine Wx ?_;repeat clear hK K)
  (refine Wu (an @List.set_cons_zero.{0} @List.set_cons_succ.{0}) ?_;(repeat clear hK K);repeat refine kq fun K hK=>?_)
  (repeat (first | (refine AC ?_;intro K hK) | refine Aj ?_ | refine Ad ?_ | (refine B5 rfl rfl ?_;intro K1 hK1;simp only [go_sem,List.set_cons_zero,List.set_cons_succ,C.pl,C.one,List.all_cons,List.all_nil,Bool.and_true,List.take_succ_cons,List.take_zero,List.drop_zero];(first | refine hK1 _ ?_ | refine AD (hK1 _ ?_));clear hK1 K1) | ((first | refine Aa ?_ | refine Al ?_);refine hK _ ?_;clear hK K)))
  refine WG [0,2,1] Tryz.results18 @Bs ?_
  exact ⟨a,R,by simp only [tape,hR.1],by rw [hR.1],by omega,by rw [hR.1];omega,by rw [hR.1];omega,by rw [hR.1];exact hR⟩
 have hi1:i<m+1:=by simp at h;omega
 clear hX hY X Y
 (refine Wt ?_;(repeat clear hK K);repeat refine kq fun K hK=>?_)
 (refine Ai rfl ?_;intro K1 hK1;refine ct [0] (Dk T a 4 hT (by omega) (by omega)) ?_ ?_)
 ·rintro _ _ ⟨rfl,v,rfl,_⟩;rfl
 rintro _ _ ⟨rfl,w0,rfl,hw0⟩
 (simp only [As,Bl,tape,C6,List.append_nil,List.nil_append,List.length_map,go_sem];refine hK1 _ ?_;clear hK1 K1)
 (refine Wt ?_;(repeat clear hK K);repeat refine kq fun K hK=>?_)
 refine A8 (fun p:Nat × List (List Ar) × Nat=>{ tm:=[(0,.a (.c (.p 0 0))),(4,.a (.c (.p 1 0))),(5,.a (.c (.p 3 0))),(6,.i i),(7,.i p.1)],hp:=[.r ⟨41,2,false,[.t 1 (Ab T),.v (.int .i64 p.2.2)]⟩,.r ⟨25,1,false,[.v (.slice none 0 0)]⟩,.r ⟨42,1,true,AO p.2.1⟩,.r ⟨25,1,false,[.s 2 (m+1)]⟩],n:=46,pin:=1 })
  (fun p=>p.1<=3/\p.2.2+2*p.1<=a+7/\OkSys 3 (m+1) p.2.1/\(∀ r,p.2.1[i]?=some r->r.length+p.1<=3)/\∀ q r,i+1<=q->p.2.1[q]?=some r->r=[]) (fun p=>p.1) (w0,R,a+1) ?_ ?_ ?_
 ·refine ⟨by simp only;omega,by simp only;omega,hR,fun r hr=>?_,fun q r hq hr=>hE q r (by omega) hr⟩
  rw [hE i r (Nat.le_refl _) hr];simp;omega
 ·exact WE
 rintro ⟨w,R2,a2⟩ ⟨hw,hA2,hR2,hi2,hE2⟩ K hK
 simp only at hw hA2 hR2 hi2 hE2 ⊢
 have hl2:i<R2.length:=by rw [hR2.1];exact hi1
 have hg2:=gE1 hl2
 have hrow:=hR2.2 _ (gE6 hl2)
 (refine Wt ?_;(repeat clear hK K);repeat refine kq fun K hK=>?_)
 (refine At ?_;intro X Y hX hY;simp only [go_sem])
 refine ⟨fun h=>hX ?_,fun h=>hY ?_⟩
 rotate_left
 ·have hw0:w=0:=by simp at h;omega
  clear hX hY X Y
  (refine Wx ?_;repeat clear hK K)
  (refine Wt ?_;(repeat clear hK K);repeat refine kq fun K hK=>?_)
  refine WD ?_
  refine hK _ (i+1,R2,a2) ⟨by simp only;omega,by simp only;omega,hR2,fun q r hq hr=>hE2 q r hq hr⟩ (by simp only;omega) ?_
  exact WE
 have hw1:0<w:=by simpa using h
 clear hX hY X Y
 (refine Wt ?_;(repeat clear hK K);repeat refine kq fun K hK=>?_)
 refine Bz [0] [(0,0,0),(2,0,0),(3,0,0),(5,0,0),(8,0,0),(10,0,0),(11,0,0),(1,1,18),(4,1,16),(6,0,0),(7,1,16),(12,1,14),(13,0,0),(9,2,0),(14,2,0),(15,0,0),(16,2,0),(17,0,0),(18,2,0)] (by kernel_rfl) (by kernel_rfl) (by intro c st h;simp [Ae,AF,VT] at h) ?_
 (repeat (first | (refine Wd rfl rfl rfl ?_;intro K1 hK1;simp only [undef,W3,go_sem,Ay,BM hg2];first | (refine hK1 _ ?_;clear hK1 K1) | (refine AD (hK1 _ ?_);clear hK1 K1)) | (refine We rfl rfl rfl rfl rfl rfl rfl rfl rfl ?_;intro K1 hK1;simp only [undef,W3,go_sem,Ay,BM hg2];first | (refine hK1 _ ?_;clear hK1 K1) | (refine AD (hK1 _ ?_);clear hK1 K1))))
 (refine Wf rfl rfl ?_;intro K1 hK1;refine BW (ids:=[]) [0] (EE T hT a2 (by omega)) rfl rfl (by simp only [W3,go_sem]) (by kernel_rfl) rfl rfl rfl (by (simp only [W3,Em,List.map_append,List.append_nil,AV.ren,A0.ren,C.ren,idx,Dt,Dj,go_sem]) <;> rfl) (by (simp only [VS,Ob.ren,C.ren,idx,Dt,Dj,List.getD_cons_zero,List.getD_cons_succ,tape,go_sem]) <;> rfl) ?_ ?_)
 ·rintro _ _ ⟨rfl,v,rfl,_⟩;exact CB rfl
 rintro _ _ ⟨rfl,e,rfl,he⟩
 (simp only [As,Bl,tape,C6,List.append_nil,List.nil_append,List.length_map,go_sem];refine hK1 _ ?_;clear hK1 K1)
 (repeat (first | (refine Wd rfl rfl rfl ?_;intro K1 hK1;simp only [undef,W3,go_sem];first | (refine hK1 _ ?_;clear hK1 K1) | (refine AD (hK1 _ ?_);clear hK1 K1)) | (refine We rfl rfl rfl rfl rfl rfl rfl rfl rfl ?_;intro K1 hK1;simp only [undef,W3,go_sem];first | (refine hK1 _ ?_;clear hK1 K1) | (refine AD (hK1 _ ?_);clear hK1 K1))))
 (refine Wf rfl rfl ?_;intro K1 hK1;refine BW (ids:=[]) [0] (Dk T (a2+1) (m+1) hT (by omega) (by omega)) rfl rfl (by simp only [W3,go_sem]) (by kernel_rfl) rfl rfl rfl (by (simp only [W3,Em,List.map_append,List.append_nil,AV.ren,A0.ren,C.ren,idx,Dt,Dj,go_sem]) <;> rfl) (by (simp only [VS,Ob.ren,C.ren,idx,Dt,Dj,List.getD_cons_zero,List.getD_cons_succ,tape,go_sem]) <;> rfl) ?_ ?_)
 ·rintro _ _ ⟨rfl,v,rfl,_⟩;exact CB rfl
 rintro _ _ ⟨rfl,t,rfl,ht⟩
 (simp only [As,Bl,tape,C6,List.append_nil,List.nil_append,List.length_map,go_sem];refine hK1 _ ?_;clear hK1 K1)
 (repeat (first | (refine Wd rfl rfl rfl ?_;intro K1 hK1;simp only [undef,W3,go_sem];first | (refine hK1 _ ?_;clear hK1 K1) | (refine AD (hK1 _ ?_);clear hK1 K1)) | (refine We rfl rfl rfl rfl rfl rfl rfl rfl rfl ?_;intro K1 hK1;simp only [undef,W3,go_sem];first | (refine hK1 _ ?_;clear hK1 K1) | (refine AD (hK1 _ ?_);clear hK1 K1))))
 (refine Wf rfl rfl ?_;intro K1 hK1;refine AZ ?_;refine BW (ids:=[]) [] (EX R2[i] (e,(t:Int)) (by have:=hrow.2.1;omega)) rfl rfl (by simp only [W3,go_sem]) (by kernel_rfl) rfl rfl rfl (by (simp only [W3,Em,List.map_append,List.append_nil,AV.ren,A0.ren,C.ren,idx,Dt,Dj,go_sem]) <;> rfl) (by (simp only [VS,Ob.ren,C.ren,idx,Dt,Dj,List.getD_cons_zero,List.getD_cons_succ,BK,go_sem]) <;> rfl) ?_ ?_)
 ·rintro _ _ ⟨rfl,rfl⟩ i o hi hl;simp at hl
 rintro _ _ ⟨rfl,rfl⟩
 (simp only [As,Bl,BK,C6,List.append_nil,List.nil_append,List.length_map,go_sem];refine hK1 _ ?_;clear hK1 K1)
 (repeat (first | (refine Wd rfl rfl rfl ?_;intro K1 hK1;simp only [undef,W3,go_sem];first | (refine hK1 _ ?_;clear hK1 K1) | (refine AD (hK1 _ ?_);clear hK1 K1)) | (refine We rfl rfl rfl rfl rfl rfl rfl rfl rfl ?_;intro K1 hK1;simp only [undef,W3,go_sem];first | (refine hK1 _ ?_;clear hK1 K1) | (refine AD (hK1 _ ?_);clear hK1 K1))))
 refine Wg rfl rfl rfl ?_;intro K1 hK1
 refine AP rfl ?_;simp only [undef,W3,ST.put,DJ,A0.cells,Ay,List.set_cons_zero,List.set_cons_succ,EA,go_sem]
 (first | (refine hK1 _ ?_;clear hK1 K1) | (refine AD (hK1 _ ?_);clear hK1 K1))
 refine Po ⟨by simp,by simp,?_⟩
 refine hK _ ?_;clear hK K
 (refine Wt ?_;(repeat clear hK K);repeat refine kq fun K hK=>?_)
 refine WD ?_
 have hx:0<=e/\e<=1025/\0<=(t:Int)/\(t:Int)<((m+1:Nat):Int):=⟨he.1,he.2,by omega,by omega⟩
 have e1:((w:Int) - 1)=((w - 1:Nat):Int):=by omega
 have hw3:=hi2 _ hg2
 refine hK _ (w - 1,R2.set i (D1 (e,(t:Int)) R2[i]),a2+2) ⟨by simp only;omega,by simp only;omega,hR2.set ?_ i,fun r hr=>?_,fun q r hq hr=>?_⟩ (by simp only;omega) ?_
 rotate_left 2
 ·simp only at hr
  rw [gE5 (by omega)] at hr
  exact hE2 q r hq hr
 ·(refine BG ?_;simp only [Dg,go_sem,e1];try simp)
 ·exact (OkRow.ins ⟨hrow.1,Nat.le_refl _,hrow.2.2⟩ hx).le (by omega)
 simp only at hr ⊢
 rw [gEc hl2] at hr
 cases hr
 have:=DO (e,(t:Int)) R2[i]
 omega

set_option maxHeartbeats 1000000 in
theorem QD (T:List Int) (hT:TpOk T) (a0 n:Nat) (ha:a0<=500000) (hn1:1<=n) (hn:n<=20):
  FC Tryz.prog 8 [.a (.c (.p 0 0)),.i n] [tape T a0] (fun r o=>∃ (a':Nat) (R:List (List Ar)),o=[tape T a',Kv R]/\r=B7 R/\a'<=a0+1+8*n/\1<=R.length/\R.length<=n/\OkSys 4 R.length R):=by
 refine A6 Tryz.func8 rfl (by rw [Tryz.ntmps8];simp) ?_
 rw [Tryz.ntmps8]
 simp only [Bf,tape,Kv,B7]
 (refine Wt ?_;(repeat clear hK K);repeat refine kq fun K hK=>?_)
 (refine Ai rfl ?_;intro K1 hK1;refine ct [0] (OA T hT a0 n (by omega) hn1 hn) ?_ ?_)
 ·rintro _ _ ⟨_,_,rfl,rfl,_⟩;rfl
 rintro _ _ ⟨a1,R0,rfl,rfl,ha1,hl1,hl2,hok⟩
 (simp only [As,Bl,tape,C6,List.append_nil,List.nil_append,List.length_map,go_sem];refine hK1 _ ?_;clear hK1 K1)
 (refine Wt ?_;(repeat clear hK K);repeat refine kq fun K hK=>?_)
 refine Au (A9 [0,1,2,4] rfl rfl) ?_
 (try simp only [List.set_nil,List.take_nil,List.take_zero,List.map_append,go_sem])
 (try simp only [Bs])
 obtain ⟨m,hm⟩:∃ m,m=R0.length:=⟨_,rfl⟩
 rw [<- hm] at hl1 hl2 hok
 (try rw [<- hm])
 refine A8 (fun p:Nat × List (List Ar) × Nat=>{ tm:=[(0,.a (.c (.p 0 0))),(4,.a (.c (.p 1 0))),(5,.a (.c (.p 3 0))),(6,.i p.1)],hp:=[.r ⟨41,2,false,[.t 1 (Ab T),.v (.int .i64 p.2.2)]⟩,.r ⟨25,1,false,[.v (.slice none 0 0)]⟩,.r ⟨42,1,true,AO p.2.1⟩,.r ⟨25,1,false,[.s 2 m]⟩],n:=34,pin:=1 })
  (fun p=>p.1+1<=m/\p.2.2<=a1+p.1/\OkSys 4 m p.2.1/\∀ q r,p.1<=q->p.2.1[q]?=some r->r.length<=3) (fun p=>m - p.1) (0,R0,a1) ?_ ?_ ?_
 ·exact ⟨by simp only;omega,by simp,hok.le (by omega),fun q r _ hr=>(hok.2 r (gE9 hr)).2.1⟩
 ·exact WE
 rintro ⟨s,R,a⟩ ⟨hs,hA,hR,hE⟩ K hK
 simp only at hs hA hR hE ⊢
 have hRl:=hR.1
 by_cases hlt:s+1<m
 rotate_left
 ·have hl0:decide ((s:Int)+1<(m:Int))=false:=by simp;omega
  (refine Wu @hl0 ?_;(repeat clear hK K);repeat refine kq fun K hK=>?_)
  refine WC ?_
  (refine Wx ?_;repeat clear hK K)
  refine Au (AR (r:=⟨42,1,true,AO R⟩) (ri:=⟨25,1,false,[.s 2 m]⟩) (ts:=Ah R) 3 0 2 m (by decide) rfl rfl rfl rfl (show 0<1 by omega) (by simp only [Ay,hRl];omega) (CZ R)) ?_
  refine Au (Cm 3 rfl) ?_
  simp only [VX,List.map_cons,List.map_nil,go_sem]
  (refine Wt ?_;(repeat clear hK K);repeat refine kq fun K hK=>?_)
  refine WF [0,1] Tryz.results8 ?_
  exact ⟨a,R,rfl,rfl,by omega,by omega,by omega,by rw [hRl];exact hR⟩
 have hl0:decide ((s:Int)+1<(m:Int))=true:=by simp;omega
 have hl2':s<R.length:=by omega
 have hg2:=gE1 hl2'
 have hrow:=hR.2 _ (gE6 hl2')
 have hne:(AO R).isEmpty=false:=by
  have:=Ay R
  cases hc:AO R with
  | nil=>rw [hc] at this;simp at this;omega
  | cons _ _=>rfl
 (refine Wu @hl0 ?_;(repeat clear hK K);repeat refine kq fun K hK=>?_)
 refine WB ?_
 (refine Wt ?_;(repeat clear hK K);repeat refine kq fun K hK=>?_)
 (refine AJ [2,3] (.m 0 0 0 (.m 2 0 0 (.m 3 0 0 (.m 5 0 0 (.m 8 0 0 (.m 10 0 0 (.m 11 0 0 (.m 1 1 15 (.m 4 1 13 (.m 6 0 0 (.m 7 1 13 (.a 9 (.m 12 0 0 (.a 13 (.m 14 0 0 (.a 15 .e)))))))))))))))) (by kernel_rfl) (by kernel_rfl) (by intro c st h;simp [Ae,AF,VT] at h) ?_)
 (refine Ww (an @Ay (BM hg2)) ?_;repeat clear hK K)
 (refine Ga rfl rfl rfl ?_;intro K1 hK1;refine yX [0] ?_;refine xy [0] (EE T hT a (by omega)) ?_ ?_)
 ·rintro _ _ ⟨rfl,v,rfl,_⟩;exact CB rfl
 rintro _ _ ⟨rfl,e,rfl,he⟩
 (simp only [As,Bl,tape,C6,List.append_nil,List.nil_append,List.length_map,go_sem];refine hK1 _ ?_;clear hK1 K1)
 (refine Wv ?_;repeat clear hK K)
 (refine Ga rfl rfl rfl ?_;intro K1 hK1;refine yX [] ?_;refine BW (ids:=[]) [] (EX R[s] (e,(s:Int)+1) (by have:=hrow.2.1;omega)) rfl rfl (by simp only [go_sem]) (by kernel_rfl) rfl rfl rfl (by (simp only [go_sem]) <;> rfl) (by (simp only [VS,BK,go_sem]) <;> rfl) ?_ ?_)
 ·rintro _ _ ⟨rfl,rfl⟩ i o hi hl;simp at hl
 rintro _ _ ⟨rfl,rfl⟩
 (simp only [As,Bl,BK,C6,List.append_nil,List.nil_append,List.length_map,go_sem];refine hK1 _ ?_;clear hK1 K1)
 (refine Wv ?_;repeat clear hK K)
 (refine Wk rfl rfl rfl rfl ?_;intro K1 hK1;refine AP rfl ?_;simp only [go_sem,ST.put,DJ,A0.cells,Ay,EA];(first | refine hK1 _ ?_ | refine AD (hK1 _ ?_));clear hK1 K1)
 (refine Wv ?_;repeat clear hK K)
 (refine Wt ?_;(repeat clear hK K);repeat refine kq fun K hK=>?_)
 refine WD ?_
 have hx:0<=e/\e<=1025/\0<=(s:Int)+1/\(s:Int)+1<(m:Int):=⟨he.1,he.2,by omega,by omega⟩
 have h3:=hE s _ (Nat.le_refl _) hg2
 refine hK _ (s+1,R.set s (D1 (e,(s:Int)+1) R[s]),a+1) ⟨by simp only;omega,by simp only;omega,hR.set ?_ s,fun q r hq hr=>?_⟩ (by simp only;omega) ?_
 rotate_left 2
 ·exact WE
 ·exact (OkRow.ins (m:=m) ⟨hrow.1,h3,hrow.2.2⟩ hx)
 simp only at hr hq
 rw [gE5 (by omega)] at hr
 exact hE q r (by omega) hr
set_option maxHeartbeats 1000000 in
theorem OB (T:List Int) (hT:TpOk T) (a0 n:Nat) (ha:a0<=500000) (hn1:1<=n) (hn:n<=20):
  FC Tryz.prog 8 [.a (.c (.p 0 0)),.i n] [tape T a0] (fun r o=>∃ (a':Nat) (R:List (List Ar)),o=[tape T a',.r ⟨42,1,true,AO R⟩,.r ⟨25,1,false,[.s 1 R.length]⟩]/\r=.a (.g [.s 1 R.length])/\a'<=a0+1+8*n/\1<=R.length/\R.length<=n/\OkSys 4 R.length R):=by
 refine A6 Tryz.func8 rfl (by rw [Tryz.ntmps8];simp) ?_
 rw [Tryz.ntmps8]
 simp only [Bf,tape,Kv,B7]
 (refine Wt ?_;(repeat clear hK K);repeat refine kq fun K hK=>?_)
 (refine Ai rfl ?_;intro K1 hK1;refine ct [0] (OA T hT a0 n (by omega) hn1 hn) ?_ ?_)
 ·rintro _ _ ⟨_,_,rfl,rfl,_⟩;rfl
 rintro _ _ ⟨a1,R0,rfl,rfl,ha1,hl1,hl2,hok⟩
 (simp only [As,Bl,tape,C6,List.append_nil,List.nil_append,List.length_map,go_sem];refine hK1 _ ?_;clear hK1 K1)
 (refine Wt ?_;(repeat clear hK K);repeat refine kq fun K hK=>?_)
 refine Au (A9 [0,1,2,4] rfl rfl) ?_
 (try simp only [List.set_nil,List.take_nil,List.take_zero,List.map_append,go_sem])
 (try simp only [Bs])
 obtain ⟨m,hm⟩:∃ m,m=R0.length:=⟨_,rfl⟩
 rw [<- hm] at hl1 hl2 hok
 (try rw [<- hm])
 refine A8 (fun p:Nat × List (List Ar) × Nat=>{ tm:=[(0,.a (.c (.p 0 0))),(4,.a (.c (.p 1 0))),(5,.a (.c (.p 3 0))),(6,.i p.1)],hp:=[.r ⟨41,2,false,[.t 1 (Ab T),.v (.int .i64 p.2.2)]⟩,.r ⟨25,1,false,[.v (.slice none 0 0)]⟩,.r ⟨42,1,true,AO p.2.1⟩,.r ⟨25,1,false,[.s 2 m]⟩],n:=34,pin:=1 })
  (fun p=>p.1+1<=m/\p.2.2<=a1+p.1/\OkSys 4 m p.2.1/\∀ q r,p.1<=q->p.2.1[q]?=some r->r.length<=3) (fun p=>m - p.1) (0,R0,a1) ?_ ?_ ?_
 ·exact ⟨by simp only;omega,by simp,hok.le (by omega),fun q r _ hr=>(hok.2 r (gE9 hr)).2.1⟩
 ·exact WE
 rintro ⟨s,R,a⟩ ⟨hs,hA,hR,hE⟩ K hK
 simp only at hs hA hR hE ⊢
 have hRl:=hR.1
 by_cases hlt:s+1<m
 rotate_left
 ·have hl0:decide ((s:Int)+1<(m:Int))=false:=by simp;omega
  (refine Wu @hl0 ?_;(repeat clear hK K);repeat refine kq fun K hK=>?_)
  refine WC ?_
  (refine Wx ?_;repeat clear hK K)
  (refine Wt ?_;(repeat clear hK K);repeat refine kq fun K hK=>?_)
  refine WG [0,2,1] Tryz.results8 @Bs ?_
  exact ⟨a,R,by simp only [tape,hRl],by rw [hRl],by omega,by omega,by omega,by rw [hRl];exact hR⟩
 have hl0:decide ((s:Int)+1<(m:Int))=true:=by simp;omega
 have hl2':s<R.length:=by omega
 have hg2:=gE1 hl2'
 have hrow:=hR.2 _ (gE6 hl2')
 have hne:(AO R).isEmpty=false:=by
  have:=Ay R
  cases hc:AO R with
  | nil=>rw [hc] at this;simp at this;omega
  | cons _ _=>rfl
 (refine Wu @hl0 ?_;(repeat clear hK K);repeat refine kq fun K hK=>?_)
 refine WB ?_
 (refine Wt ?_;(repeat clear hK K);repeat refine kq fun K hK=>?_)
 (refine AJ [2,3] (.m 0 0 0 (.m 2 0 0 (.m 3 0 0 (.m 5 0 0 (.m 8 0 0 (.m 10 0 0 (.m 11 0 0 (.m 1 1 15 (.m 4 1 13 (.m 6 0 0 (.m 7 1 13 (.a 9 (.m 12 0 0 (.a 13 (.m 14 0 0 (.a 15 .e)))))))))))))))) (by kernel_rfl) (by kernel_rfl) (by intro c st h;simp [Ae,AF,VT] at h) ?_)
 (refine Ww (an @Ay (BM hg2)) ?_;repeat clear hK K)
 (refine Ga rfl rfl rfl ?_;intro K1 hK1;refine yX [0] ?_;refine xy [0] (EE T hT a (by omega)) ?_ ?_)
 ·rintro _ _ ⟨rfl,v,rfl,_⟩;exact CB rfl
 rintro _ _ ⟨rfl,e,rfl,he⟩
 (simp only [As,Bl,tape,C6,List.append_nil,List.nil_append,List.length_map,go_sem];refine hK1 _ ?_;clear hK1 K1)
 (refine Wv ?_;repeat clear hK K)
 (refine Ga rfl rfl rfl ?_;intro K1 hK1;refine yX [] ?_;refine BW (ids:=[]) [] (EX R[s] (e,(s:Int)+1) (by have:=hrow.2.1;omega)) rfl rfl (by simp only [go_sem]) (by kernel_rfl) rfl rfl rfl (by (simp only [go_sem]) <;> rfl) (by (simp only [VS,BK,go_sem]) <;> rfl) ?_ ?_)
 ·rintro _ _ ⟨rfl,rfl⟩ i o hi hl;simp at hl
 rintro _ _ ⟨rfl,rfl⟩
 (simp only [As,Bl,BK,C6,List.append_nil,List.nil_append,List.length_map,go_sem];refine hK1 _ ?_;clear hK1 K1)
 (refine Wv ?_;repeat clear hK K)
 (refine Wk rfl rfl rfl rfl ?_;intro K1 hK1;refine AP rfl ?_;simp only [go_sem,ST.put,DJ,A0.cells,Ay,EA];(first | refine hK1 _ ?_ | refine AD (hK1 _ ?_));clear hK1 K1)
 (refine Wv ?_;repeat clear hK K)
 (refine Wt ?_;(repeat clear hK K);repeat refine kq fun K hK=>?_)
 refine WD ?_
 have hx:0<=e/\e<=1025/\0<=(s:Int)+1/\(s:Int)+1<(m:Int):=⟨he.1,he.2,by omega,by omega⟩
 have h3:=hE s _ (Nat.le_refl _) hg2
 refine hK _ (s+1,R.set s (D1 (e,(s:Int)+1) R[s]),a+1) ⟨by simp only;omega,by simp only;omega,hR.set ?_ s,fun q r hq hr=>?_⟩ (by simp only;omega) ?_
 rotate_left 2
 ·exact WE
 ·exact (OkRow.ins (m:=m) ⟨hrow.1,h3,hrow.2.2⟩ hx)
 simp only at hr hq
 rw [gE5 (by omega)] at hr
 exact hE q r (by omega) hr
def HI (R:List (List Ar)):Bool:=decide (R.length > 12) || decide (Bw R > 60)
theorem T7 (R:List (List Ar)) (hn:R.length<=140737488355328) (hr:∀ r∈R,r.length<=140737488355328):FC Tryz.prog 12 [B7 R] [] (fun r o=>o=[]/\r=.b (HI R)):=by
 refine A6 Tryz.func12 rfl (by rw [Tryz.ntmps12];simp) ?_
 rw [Tryz.ntmps12]
 simp only [Bf,B7]
 (refine Wt ?_;(repeat clear hK K);repeat refine kq fun K hK=>?_)
 refine A8 (fun k:Nat=>{ tm:=[(1,.a (.c (.p 0 0))),(3,.i (Bw (R.take k):Int)),(4,.i k)],hp:=[.r ⟨25,1,false,[.t 1 (Ah R)]⟩],n:=32,pin:=0 }) (fun k=>k<=R.length) (fun k=>R.length - k) 0 ?_ ?_ ?_
 ·omega
 ·(refine BG ?_;simp only [Dg,go_sem,List.take_zero,Bw,List.map_nil,List.sum_nil,Int.natCast_zero];try simp)
 rintro k hk K hK
 have hle:=Hi R k
 have hfull:k=R.length->Bw (R.take k)=Bw R:=fun e=>by rw [e,List.take_length]
 by_cases hlt:k<R.length
 ·have hl1:decide ((k:Int)<(R.length:Int))=true:=by simpa using hlt
  have hgk:=gE1 hlt
  have hrk:=hr _ (gE6 hlt)
  have htk:=Cj hlt
  generalize hW:Bw (R.take k)=W at *
  by_cases h60:W<=60
  ·have d2:decide ((W:Int)<=60)=true:=by simp;omega
   have e3:((W:Int)+(R[k].length:Int))=(Bw (R.take (k+1)):Int):=by omega
   (refine Wu (an @hl1 (an @d2 @A3)) ?_;(repeat clear hK K);repeat refine kq fun K hK=>?_)
   refine WB ?_
   (refine Wu (an (Ag hgk) (an @A3 (an @A2 (an @Ak @e3)))) ?_;(repeat clear hK K);repeat refine kq fun K hK=>?_)
   refine WD ?_
   refine hK _ (k+1) (by omega) (by omega) ?_
   exact WE
  have d2:decide ((W:Int)<=60)=false:=by simp;omega
  have d3:decide ((W:Int) > 60)=true:=by simp;omega
  have t60:decide (Bw R > 60)=true:=by simp;omega
  (refine Wu (an @hl1 (an @d2 @A3)) ?_;(repeat clear hK K);repeat refine kq fun K hK=>?_)
  refine WC ?_
  (refine Wx ?_;repeat clear hK K)
  cases t12:decide (R.length > 12) with
  | true=>
   have d4:decide ((R.length:Int) > 12)=true:=by simp at t12;simp;omega
   (refine Wu (an @d3 (an @d4 @A3)) ?_;(repeat clear hK K);repeat refine kq fun K hK=>?_)
   refine WF [] Tryz.results12 ?_
   rw [HI,t12];rfl
  | false=>
   have d4:decide ((R.length:Int) > 12)=false:=by simp at t12;simp;omega
   (refine Wu (an @d3 (an @d4 @A3)) ?_;(repeat clear hK K);repeat refine kq fun K hK=>?_)
   refine WF [] Tryz.results12 ?_
   rw [HI,t12,t60];rfl
 have hl1:decide ((k:Int)<(R.length:Int))=false:=by simpa using hlt
 have hke:k=R.length:=by omega
 have hf:=hfull hke
 generalize hW:Bw (R.take k)=W at *
 cases t60:decide (Bw R > 60) with
 | true=>
  have d3:decide ((W:Int) > 60)=true:=by simp at t60;simp;omega
  (refine Wu (an @hl1 @A3) ?_;(repeat clear hK K);repeat refine kq fun K hK=>?_)
  refine WC ?_
  (refine Wx ?_;repeat clear hK K)
  cases t12:decide (R.length > 12) with
  | true=>
   have d4:decide ((R.length:Int) > 12)=true:=by simp at t12;simp;omega
   (refine Wu (an @d3 (an @d4 @A3)) ?_;(repeat clear hK K);repeat refine kq fun K hK=>?_)
   refine WF [] Tryz.results12 ?_
   rw [HI,t12];rfl
  | false=>
   have d4:decide ((R.length:Int) > 12)=false:=by simp at t12;simp;omega
   (refine Wu (an @d3 (an @d4 @A3)) ?_;(repeat clear hK K);repeat refine kq fun K hK=>?_)
   refine WF [] Tryz.results12 ?_
   rw [HI,t12,t60];rfl
 | false=>
  have d3:decide ((W:Int) > 60)=false:=by simp at t60;simp;omega
  (refine Wu (an @hl1 @A3) ?_;(repeat clear hK K);repeat refine kq fun K hK=>?_)
  refine WC ?_
  (refine Wx ?_;repeat clear hK K)
  cases t12:decide (R.length > 12) with
  | true=>
   have d4:decide ((R.length:Int) > 12)=true:=by simp at t12;simp;omega
   (refine Wu (an @d3 (an @d4 @A3)) ?_;(repeat clear hK K);repeat refine kq fun K hK=>?_)
   refine WF [] Tryz.results12 ?_
   rw [HI,t12];rfl
  | false=>
   have d4:decide ((R.length:Int) > 12)=false:=by simp at t12;simp;omega
   (refine Wu (an @d3 (an @d4 @A3)) ?_;(repeat clear hK K);repeat refine kq fun K hK=>?_)
   refine WF [] Tryz.results12 ?_
   rw [HI,t12,t60];rfl

theorem IH (f:List Nat) (L:List Ar):(Ax L).map (C.ren f)=Ax L:=by
 unfold Ax
 rw [List.map_flatMap]
 rfl
theorem OkRow.filter {k m:Nat} {r:List Ar} (h:OkRow k m r) (p:Ar->Bool):OkRow k m (r.filter p):=
 ⟨List.Pairwise.filter p h.1,Nat.le_trans (List.length_filter_le p r) h.2.1,fun a ha=>h.2.2 a (List.mem_filter.1 ha).1⟩
def kp (s:Nat) (a:Ar):Bool:=a.1 != 0 || decide (a.2 > (s:Int))
theorem T8 {s:Nat} {r:List Ar} {i:Nat} (h:i<r.length):(r.take (i+1)).filter (kp s)=(r.take i).filter (kp s)++(if kp s r[i] then [r[i]] else []):=by
 rw [gE8 h,List.filter_append]
 congr 1
 simp [List.filter_cons]
set_option maxHeartbeats 1000000 in
theorem T9 (T:List Int) (hT:TpOk T) (a0 n:Nat) (ha:a0<=500000) (hn1:1<=n) (hn:n<=20):
  FC Tryz.prog 10 [.a (.c (.p 0 0)),.i n] [tape T a0] (fun r o=>∃ (a':Nat) (R:List (List Ar)),(o=[tape T a',Kv R]/\r=B7 R)/\a'<=a0+1+8*n/\1<=R.length/\R.length<=n/\OkSys 4 R.length R):=by
 refine A6 Tryz.func10 rfl (by rw [Tryz.ntmps10];simp) ?_
 rw [Tryz.ntmps10]
 simp only [Bf,tape,Kv,B7]
 (refine Wt ?_;(repeat clear hK K);repeat refine kq fun K hK=>?_)
 (refine Ai rfl ?_;intro K1 hK1;refine ct [0] (OB T hT a0 n (by omega) hn1 hn) ?_ ?_)
 ·rintro _ _ ⟨_,_,rfl,rfl,_⟩;rfl
 rintro _ _ ⟨a1,R0,rfl,rfl,ha1,hl1,hl2,hok⟩
 (simp only [As,Bl,tape,C6,List.append_nil,List.nil_append,List.length_map,go_sem];refine hK1 _ ?_;clear hK1 K1)
 (refine Wt ?_;(repeat clear hK K);repeat refine kq fun K hK=>?_)
 refine Au (A9 [0,1,2,4] rfl rfl) ?_
 (try simp only [List.set_nil,List.take_nil,List.take_zero,List.map_append,go_sem])
 (try simp only [Bs])
 obtain ⟨m,hm⟩:∃ m,m=R0.length:=⟨_,rfl⟩
 rw [<- hm] at hl1 hl2 hok
 (try rw [<- hm])
 refine A8 (fun p:Nat × List (List Ar)=>{ tm:=[(0,.a (.c (.p 0 0))),(4,.a (.c (.p 1 0))),(5,.a (.c (.p 3 0))),(6,.i p.1)],hp:=[.r ⟨41,2,false,[.t 1 (Ab T),.v (.int .i64 a1)]⟩,.r ⟨25,1,false,[.v (.slice none 0 0)]⟩,.r ⟨42,1,true,AO p.2⟩,.r ⟨25,1,false,[.s 2 m]⟩],n:=69,pin:=1 })
  (fun p=>p.1<=m/\OkSys 4 m p.2) (fun p=>m - p.1) (0,R0) ?_ ?_ ?_
 ·exact ⟨by simp,hok⟩
 ·exact WE
 rintro ⟨s,R⟩ ⟨hs,hR⟩ K hK
 simp only at hs hR ⊢
 have hRl:=hR.1
 by_cases hlt:s<m
 rotate_left
 ·have hl0:decide ((s:Int)<(m:Int))=false:=by simp;omega
  (refine Wu @hl0 ?_;(repeat clear hK K);repeat refine kq fun K hK=>?_)
  refine WC ?_
  (refine Wx ?_;repeat clear hK K)
  refine Au (AR (r:=⟨42,1,true,AO R⟩) (ri:=⟨25,1,false,[.s 2 m]⟩) (ts:=Ah R) 3 0 2 m (by decide) rfl rfl rfl rfl (show 0<1 by omega) (by simp only [Ay,hRl];omega) (CZ R)) ?_
  refine Au (Cm 3 rfl) ?_
  simp only [VX,List.map_cons,List.map_nil,go_sem]
  (refine Wt ?_;(repeat clear hK K);repeat refine kq fun K hK=>?_)
  refine WF [0,1] Tryz.results10 ?_
  exact ⟨a1,R,⟨rfl,rfl⟩,by omega,by omega,by omega,by rw [hRl];exact hR⟩
 have hl0:decide ((s:Int)<(m:Int))=true:=by simp;omega
 have hl2':s<R.length:=by omega
 have hg2:=gE1 hl2'
 have hrow:=hR.2 _ (gE6 hl2')
 (refine Wu @hl0 ?_;(repeat clear hK K);repeat refine kq fun K hK=>?_)
 refine WB ?_
 (refine Wt ?_;(repeat clear hK K);repeat refine kq fun K hK=>?_)
 refine Au (CT 7 46 2 ?_) ?_
 ·simp only [go_sem]
 refine A8 (fun i:Nat=>{ tm:=[(0,.a (.c (.p 0 0))),(4,.a (.c (.p 1 0))),(5,.a (.c (.p 3 0))),(6,.i s),(7,.a (.c (.s 4 ((R[s].take i).filter (kp s)).length))),(8,.i i)],hp:=[.r ⟨41,2,false,[.t 1 (Ab T),.v (.int .i64 a1)]⟩,.r ⟨25,1,false,[.v (.slice none 0 0)]⟩,.r ⟨42,1,true,AO R⟩,.r ⟨25,1,false,[.s 2 m]⟩,.r ⟨46,2,true,Ax ((R[s].take i).filter (kp s))⟩],n:=69,pin:=1 })
  (fun i=>i<=R[s].length) (fun i=>R[s].length - i) 0 ?_ ?_ ?_
 ·omega
 ·(refine BG ?_;simp only [Dg,go_sem,List.take_zero,List.filter_nil,List.length_nil,Ax,List.flatMap_nil];try simp)
 rintro i hi K hK
 by_cases hlti:i<R[s].length
 rotate_left
 ·have hl3:decide ((i:Int)<(R[s].length:Int))=false:=by simpa using hlti
  have hie:i=R[s].length:=by omega
  (refine Wu (an @hl3 (an @Ay (an (BM hg2) (an @A2 @Ak)))) ?_;(repeat clear hK K);repeat refine kq fun K hK=>?_)
  refine WC ?_
  (refine Wx ?_;repeat clear hK K)
  rw [hie,List.take_length]
  (refine Au (Bg (r:=⟨46,2,true,Ax (R[s].filter (kp s))⟩) 4 (Ao (R[s].filter (kp s))) rfl (Dl _) (show 0<(2:Nat) by omega)) ?_;simp only [ST.frz,A0.frz,AV.frz,C.frz,Nat.le_refl,List.set_cons_zero,List.set_cons_succ,go_sem,A2,Ak,BA,List.take_length])
  (refine Cn (an @Ay @EA) ?_;(repeat clear hK K);repeat refine kq fun K hK=>?_)
  refine WD ?_
  refine hK _ (s+1,R.set s (R[s].filter (kp s))) ⟨by simp only;omega,hR.set (hrow.filter _) s⟩ (by simp only;omega) ?_
  refine Le.trans (A9 [0,1,2,3] rfl rfl) ?_
  (try simp only [List.set_nil,List.take_nil,List.take_zero,List.map_append,go_sem])
  (try simp only [Bs])
  exact WE
 have hl3:decide ((i:Int)<(R[s].length:Int))=true:=by simpa using hlti
 have ha0:=CC hlti
 have ha1':=Dn hlti
 have hat:=AL hlti
 have hkt:=T8 (s:=s) hlti
 have hrl:=hrow.2.1
 have hfl:((R[s].take i).filter (kp s)).length<=4:=Nat.le_trans (List.length_filter_le _ _) (by simp;omega)
 (refine Wu (an @hl3 (an @Ay (an (BM hg2) (an @A2 @Ak)))) ?_;(repeat clear hK K);repeat refine kq fun K hK=>?_)
 refine WB ?_
 cases q1:(R[s][i].1 != 0) with
 | true=>
  have hk1:kp s R[s][i]=true:=by rw [kp,q1,Bool.true_or]
  rw [if_pos hk1] at hkt
  (refine Wu (an @q1 (an @ha0 (an @ha1' (an @Ay (an (BM hg2) (an @A2 @Ak)))))) ?_;(repeat clear hK K);repeat refine kq fun K hK=>?_)
  refine WB ?_
  have hlc:=gE7 (Nat.le_of_eq (Ap ((R[s].take i).filter (kp s))))
  (refine Wu (an @Ay (an (BM hg2) (an @A2 (an @Ak (an @hat (an @Ap (an @Ez (an @BF @hlc)))))))) ?_;(repeat clear hK K);repeat refine kq fun K hK=>?_)
  refine WD ?_
  refine hK _ (i+1) (by omega) (by omega) ?_
  refine Le.trans (A9 [0,1,2,3,6] rfl rfl) ?_
  (try simp only [List.set_nil,List.take_nil,List.take_zero,List.map_append,go_sem])
  rw [hkt]
  (try simp only [Bs,IH])
  (refine BG ?_;simp only [Dg,go_sem,List.length_append,List.length_cons,List.length_nil];try simp)
 | false=>
  cases q2:decide (R[s][i].2 > (s:Int)) with
  | true=>
   have hk1:kp s R[s][i]=true:=by rw [kp,q1,q2];rfl
   rw [if_pos hk1] at hkt
   (refine Wu (an @q1 (an @q2 (an @ha0 (an @ha1' (an @Ay (an (BM hg2) (an @A2 @Ak))))))) ?_;(repeat clear hK K);repeat refine kq fun K hK=>?_)
   refine WB ?_
   have hlc:=gE7 (Nat.le_of_eq (Ap ((R[s].take i).filter (kp s))))
   (refine Wu (an @Ay (an (BM hg2) (an @A2 (an @Ak (an @hat (an @Ap (an @Ez (an @BF @hlc)))))))) ?_;(repeat clear hK K);repeat refine kq fun K hK=>?_)
   refine WD ?_
   refine hK _ (i+1) (by omega) (by omega) ?_
   refine Le.trans (A9 [0,1,2,3,6] rfl rfl) ?_
   (try simp only [List.set_nil,List.take_nil,List.take_zero,List.map_append,go_sem])
   rw [hkt]
   (try simp only [Bs,IH])
   (refine BG ?_;simp only [Dg,go_sem,List.length_append,List.length_cons,List.length_nil];try simp)
  | false=>
   have hk1:¬ kp s R[s][i]=true:=by rw [kp,q1,q2];simp
   rw [if_neg hk1,List.append_nil] at hkt
   (refine Wu (an @q1 (an @q2 (an @ha0 (an @ha1' (an @Ay (an (BM hg2) (an @A2 @Ak))))))) ?_;(repeat clear hK K);repeat refine kq fun K hK=>?_)
   refine WC ?_
   (refine Wt ?_;(repeat clear hK K);repeat refine kq fun K hK=>?_)
   refine WD ?_
   refine hK _ (i+1) (by omega) (by omega) ?_
   rw [hkt]
   exact WE
attribute [local go_sem] lga C.pl C.one
theorem OC (r:List Ar):∀ (num old:List Int) (nxt:List Ar),(Cr r num old nxt).2.2.length<=nxt.length+r.length:=by
 induction r with
 | nil=>intro num old nxt;simp [Cr]
 | cons a tl ih=>
  intro num old nxt
  have h1:=ih (AX num old a.2).1 (AX num old a.2).2 (D1 (a.1,(AX num old a.2).1.getD a.2.toNat 0) nxt)
  have h2:=DO (a.1,(AX num old a.2).1.getD a.2.toNat 0) nxt
  simp only [Cr,List.length_cons]
  omega
theorem QE {R:List (List Ar)} {B:Nat} (hb:∀ r∈R,∀ a∈r,0<=a.2/\a.2<(R.length:Int)) (hB:∀ r∈R,r.length<=B):∀ (f i:Nat) (num old:List Int) (out:List (List Ar)),NumOk R.length num old->i=out.length->i<=old.length->(∀ x∈out,x.length<=B)->(F2 R f i num old out).1.length<=R.length/\∀ x∈(F2 R f i num old out).1,x.length<=B:=by
 intro f
 induction f with
 | zero=>
  intro i num old out hN hi ho hx
  have:=hN.le
  exact ⟨by simp only [F2];omega,hx⟩
 | succ f ih=>
  intro i num old out hN hi ho hx
  have hle:=hN.le
  unfold F2
  split
  ·exact ⟨by simp only;omega,hx⟩
  rename_i s hs
  have hs0:=hN.st s (gE9 hs)
  have hsl:s.toNat<R.length:=by omega
  have hg:R.getD s.toNat []=R[s.toNat]:=by rw [gE2,gE1 hsl];rfl
  rw [hg]
  have hil:=(List.getElem?_eq_some_iff.1 hs).1
  have hrm:=gE6 hsl
  generalize R[s.toNat]=r at *
  have hq:∀ a∈Cq r,0<=a.2/\a.2<(R.length:Int):=fun a ha=>hb r hrm a ((C8 r a).1 ha)
  have hN2:=NumOk.go (Cq r) [] hN hq
  have hl2:=OC (Cq r) num old []
  have hl3:=Gj r
  have hl4:=hB r hrm
  refine ih _ _ _ _ hN2 (by simp;omega) ?_ fun x hx2=>?_
  rotate_left
  ·rcases List.mem_append.1 hx2 with h | h
   ·exact hx x h
   simp at h;subst h
   simp only [List.length_nil,Nat.zero_add] at hl2
   omega
  have:∀ (q:List Ar) (num old:List Int) (nxt:List Ar),old.length<=(Cr q num old nxt).2.1.length:=by
   intro q
   induction q with
   | nil=>intro num old nxt;exact Nat.le_refl _
   | cons a tl ih2=>
    intro num old nxt
    simp only [Cr]
    refine Nat.le_trans ?_ (ih2 _ _ _)
    unfold AX
    split <;> simp
  have:=this (Cq r) num old []
  omega
theorem OD {R:List (List Ar)} {B:Nat} (h1:1<=R.length) (hb:∀ r∈R,∀ a∈r,0<=a.2/\a.2<(R.length:Int)) (hB:∀ r∈R,r.length<=B):(BT R).1.length<=R.length/\∀ x∈(BT R).1,x.length<=B:=
 QE hb hB _ _ _ _ _ (NumOk.start h1) rfl (by simp) (by simp)
theorem QF:FC Tryz.prog 29 [.a (.g [.v (.slice none 0 0)]),.a (.g [.v (.slice none 0 0)])] [] (fun x o=>o=[]/\x=.b true):=by
 refine A6 Tryz.func29 rfl (by rw [Tryz.ntmps29];simp) ?_
 rw [Tryz.ntmps29]
 simp only [Bf]
 have d0:(((0:Nat):Int) != ((0:Nat):Int))=false:=by simp
 (refine Wu @d0 ?_;(repeat clear hK K);repeat refine kq fun K hK=>?_)
 refine WC ?_
 (refine Wt ?_;(repeat clear hK K);repeat refine kq fun K hK=>?_)
 refine A8 (fun k:Nat=>{ tm:=[(2,.a (.c (.p 0 0))),(3,.a (.c (.p 1 0))),(5,.i k)],hp:=[.r ⟨25,1,false,[.v (.slice none 0 0)]⟩,.r ⟨25,1,false,[.v (.slice none 0 0)]⟩],n:=32,pin:=0 }) (fun k=>k<=0) (fun k=>0 - k) 0 ?_ ?_ ?_
 ·omega
 ·exact WE
 rintro k hk K hK
 have hk0:k=0:=by omega
 subst hk0
 (refine Wt ?_;(repeat clear hK K);repeat refine kq fun K hK=>?_)
 (refine At ?_;intro X Y hX hY;simp only [go_sem])
 refine ⟨fun h=>absurd h (by simp),fun _=>hY ?_⟩
 clear hX hY X Y
 (refine Wx ?_;repeat clear hK K)
 (refine Wt ?_;(repeat clear hK K);repeat refine kq fun K hK=>?_)
 exact Lq [] Tryz.results29
def Yr (r:AV) (o:List Ob):Prop:=o=[.r ⟨25,1,false,[.v (.slice none 0 0)]⟩]/\r=.tup [.g [.v (.slice none 0 0)],.c (.v (.int .i64 1))]
theorem QG (R:List (List Ar)) (hv:Bv R=false) (hn:R.length<=140737488355328) (hr:∀ r∈R,r.length<=140737488355328):FC Tryz.prog 14 [B7 R] [] (fun r o=>Yr r o):=by
 refine A6 Tryz.func14 rfl (by rw [Tryz.ntmps14];simp) ?_
 rw [Tryz.ntmps14]
 simp only [Bf,B7,Yr]
 (refine Wt ?_;(repeat clear hK K);repeat refine kq fun K hK=>?_)
 (refine Wy (CD R hn hr) ?_;intro K1 hK1)
 rintro _ _ ⟨rfl,rfl⟩
 (refine Wz ?_;clear hK1 K1)
 (refine Wu (an @hv @Bool.not_false) ?_;(repeat clear hK K);repeat refine kq fun K hK=>?_)
 refine WB ?_
 (refine Jb ?_;(repeat clear hK K);repeat refine kq fun K hK=>?_)
 exact Lq [1] Tryz.results14
theorem OE (R:List (List Ar)) (hv:Bv R=false) (hn:R.length<=140737488355328) (hr:∀ r∈R,r.length<=140737488355328):FC Tryz.prog 28 [B7 R] [] (fun r o=>Yr r o):=by
 refine A6 Tryz.func28 rfl (by rw [Tryz.ntmps28];simp) ?_
 rw [Tryz.ntmps28]
 simp only [Bf,B7,Yr]
 (refine Wt ?_;(repeat clear hK K);repeat refine kq fun K hK=>?_)
 (refine Wy (C7 R hn hr) ?_;intro K1 hK1)
 rintro _ _ ⟨rfl,rfl⟩
 (refine Wz ?_;clear hK1 K1)
 (refine Wu (an @hv @Bool.not_false) ?_;(repeat clear hK K);repeat refine kq fun K hK=>?_)
 refine WB ?_
 (refine Jb ?_;(repeat clear hK K);repeat refine kq fun K hK=>?_)
 exact Lq [1] Tryz.results28
theorem QH (R:List (List Ar)) (hv:Bv R=false) (hn:R.length<=140737488355328) (hr:∀ r∈R,r.length<=140737488355328):FC Tryz.prog 15 [B7 R] [] (fun r o=>o=[]/\r=.b false):=by
 refine A6 Tryz.func15 rfl (by rw [Tryz.ntmps15];simp) ?_
 rw [Tryz.ntmps15]
 simp only [Bf,B7]
 (refine Wt ?_;(repeat clear hK K);repeat refine kq fun K hK=>?_)
 (refine Wy (CD R hn hr) ?_;intro K1 hK1)
 rintro _ _ ⟨rfl,rfl⟩
 (refine Wz ?_;clear hK1 K1)
 (refine Wu (an @hv @Bool.not_false) ?_;(repeat clear hK K);repeat refine kq fun K hK=>?_)
 refine WB ?_
 (refine Wt ?_;(repeat clear hK K);repeat refine kq fun K hK=>?_)
 exact Lq [] Tryz.results15
theorem OG (R:List (List Ar)) (hv:Bv R=false) (hn:R.length<=140737488355328) (hr:∀ r∈R,r.length<=140737488355328):FC Tryz.prog 30 [B7 R] [] (fun r o=>o=[]/\r=.b false):=by
 refine A6 Tryz.func30 rfl (by rw [Tryz.ntmps30];simp) ?_
 rw [Tryz.ntmps30]
 simp only [Bf,B7]
 (refine Wt ?_;(repeat clear hK K);repeat refine kq fun K hK=>?_)
 (refine Wy (C7 R hn hr) ?_;intro K1 hK1)
 rintro _ _ ⟨rfl,rfl⟩
 (refine Wz ?_;clear hK1 K1)
 (refine Wu (an @hv @Bool.not_false) ?_;(repeat clear hK K);repeat refine kq fun K hK=>?_)
 refine WB ?_
 (refine Wt ?_;(repeat clear hK K);repeat refine kq fun K hK=>?_)
 exact Lq [] Tryz.results30
theorem QI {R:List (List Ar)} {k:Nat} (h:k<R.length):(R.take (k+1)).map Yj=(R.take k).map Yj++[Yj R[k]]:=by
 rw [gE8 h,List.map_append];rfl
theorem JE (O:List (List Ar)) (q:List Ar):(Ah O).map C.ofTr++[C.t 2 (Ao q)]=AO (O++[q]):=by simp [AO,Ah,C.ofTr,Function.comp_def]
set_option maxHeartbeats 4000000 in
theorem OH (R:List (List Ar)) (hv:Bv R=true) (hn:R.length<=1000000) (hr:∀ r∈R,r.length<=1000000):FC Tryz.prog 28 [B7 R] [] (fun r o=>o=[.r ⟨25,1,false,[.t 1 (Ah (BT (R.map Yj)).1)]⟩]/\r=.tup [.g [.t 1 (Ah (BT (R.map Yj)).1)],.c (.v (.int .i64 0))]):=by
 refine A6 Tryz.func28 rfl (by rw [Tryz.ntmps28];simp) ?_
 rw [Tryz.ntmps28]
 have hlo:BE R=true:=gEg (gE4 hv).1
 have h1:1<=R.length:=(gE4 hlo).1
 have hchl:=Om hv
 simp only [Bf,B7]
 (refine Wt ?_;(repeat clear hK K);repeat refine kq fun K hK=>?_)
 (refine Wy (C7 R (by omega) (fun r h=>by have:=hr r h;omega)) ?_;intro K1 hK1)
 rintro _ _ ⟨rfl,rfl⟩
 (refine Wz ?_;clear hK1 K1)
 (refine Wu (an @hv @Bool.not_true) ?_;(repeat clear hK K);repeat refine kq fun K hK=>?_)
 refine WC ?_
 (refine Wt ?_;(repeat clear hK K);repeat refine kq fun K hK=>?_)
 refine Au (HF 2 0 42 1 rfl rfl (by omega)) ?_
 simp only [go_sem]
 refine A8 (fun k:Nat=>{ tm:=[(1,.a (.c (.p 0 0))),(2,.a (.c (.p 1 0))),(4,.a (.c (.p 2 0))),(5,.i k)],hp:=[.r ⟨25,1,false,[.t 1 (Ah R)]⟩,.r ⟨25,1,false,[.v (.slice none 0 0)]⟩,.r ⟨25,1,false,[.o (1,42) (Ah ((R.take k).map Yj))]⟩],n:=49,pin:=0 }) (fun k=>k<=R.length) (fun k=>R.length - k) 0 ?_ ?_ ?_
 ·omega
 ·have e0:Ah ((R.take 0).map Yj)=[]:=rfl
  simp only [e0]
  refine Le.trans (A9 [0,1,2] rfl rfl) ?_
  (try simp only [List.set_nil,List.take_nil,List.take_zero,List.map_append,go_sem])
  exact WE
 rintro k hk K hK
 by_cases hlt:k<R.length
 rotate_left
 ·have d1:decide ((k:Int)<(R.length:Int))=false:=by simpa using hlt
  have hke:R.take k=R:=gE7 (by omega)
  rw [hke]
  have hYn:(R.map Yj).length=R.length:=by rw [List.length_map]
  have hYb:=(gE4 hchl).2.2.2
  have hYr:∀ r∈R.map Yj,r.length<=1000000:=fun r h=>by
   obtain ⟨q,hq,rfl⟩:=List.mem_map.1 h
   have:=hr q hq
   have:=HH q
   omega
  have hcx:=Oq (R.map Yj) (by omega) (fun r h a ha=>by have:=hYb r h a ha;exact ⟨this.2.2.1,this.2.2.2⟩) (by omega) hYr
  clear hYr hYb
  obtain ⟨Y,hY0⟩:∃ Y,R.map Yj=Y:=⟨_,rfl⟩
  rw [hY0] at hcx ⊢
  simp only [B7] at hcx
  (refine Wu (an @A3 @d1) ?_;(repeat clear hK K);repeat refine kq fun K hK=>?_)
  refine WC ?_
  (refine Wx ?_;repeat clear hK K)
  refine Au (Cm 2 rfl) ?_
  simp only [VX,go_sem]
  (refine Wt ?_;(repeat clear hK K);repeat refine kq fun K hK=>?_)
  (refine Wy hcx ?_;intro K1 hK1)
  rintro _ _ ⟨rfl,rfl⟩
  (refine Wz ?_;clear hK1 K1)
  (refine Jb ?_;(repeat clear hK K);repeat refine kq fun K hK=>?_)
  refine WF [1] Tryz.results28 ?_
  (try rw [hY0])
  (try exact ⟨rfl,rfl⟩)
 have d1:decide ((k:Int)<(R.length:Int))=true:=by simpa using hlt
 have gR:=Ag (gE1 hlt)
 have hrk:=hr _ (gE6 hlt)
 have hnx:=QI hlt
 have hOl:((R.take k).map Yj).length=k:=by rw [List.length_map,List.length_take];omega
 generalize R[k]=row at *
 generalize (R.take k).map Yj=O at *
 (refine Wu (an @A3 @d1) ?_;(repeat clear hK K);repeat refine kq fun K hK=>?_)
 refine WB ?_
 cases row with
 | nil=>
  obtain ⟨q,hq⟩:∃ q,q=Yj ([]:List Ar):=⟨_,rfl⟩
  rw [<- hq] at hnx
  have hqe:q=[]:=by rw [hq];rfl
  rw [hqe] at hnx
  have hg:decide (((0:Nat):Int) > 0)=false:=by decide
  (refine Wu (an @A3 (an @gR (an @A2 (an @Ak (an @List.length_nil.{0} @hg))))) ?_;(repeat clear hK K);repeat refine kq fun K hK=>?_)
  refine WC ?_
  clear hq hqe
  generalize hq:([]:List Ar)=q at *
  (refine Wu (an @A3 (an @List.set_cons_zero.{0} (an @List.set_cons_succ.{0} (an @List.take_succ_cons.{0} (an @List.take_zero.{0} (an @List.drop_zero.{0} (an @List.length_take.{0} (an @List.length_drop.{0} (an @List.length_append.{0} (an @A4 (an @Az (an @AN (an @Bm (an @A5 (an @AU (an @AE (an @B1 (an @AG @AM)))))))))))))))))) ?_;(repeat clear hK K);repeat refine kq fun K hK=>?_)
  refine WD ?_
  refine hK _ (k+1) (by omega) (by omega) ?_
  rw [hnx]
  simp only [JE]
  refine Le.trans (AR (r:=⟨42,1,true,AO (O++[q])⟩) (ri:=⟨25,1,false,[.s 4 (O.length+1)]⟩) (ts:=Ah (O++[q])) 2 0 4 (O.length+1) (by decide) rfl rfl rfl rfl (show 0<1 by omega) (by rw [Ay];simp) (CZ _)) ?_
  simp only [go_sem]
  refine Le.trans (A9 [0,1,2] rfl rfl) ?_
  (try simp only [List.set_nil,List.take_nil,List.take_zero,List.map_append,go_sem])
  exact WE
 | cons a r0=>
  obtain ⟨e,t⟩:=a
  have hat:=AL (xs:=(e,t) :: r0) (i:=0) (by simp)
  have hg:decide (((r0.length+1:Nat):Int) > 0)=true:=gEg (by omega)
  by_cases he:e=0
  rotate_left
  ·have d2:(e == 0)=false:=by simpa using he
   have hqe:Yj ((e,t) :: r0)=(e,t) :: r0:=by simp [Yj,Xd,he]
   rw [hqe] at hnx
   (refine Wu (an @A3 (an @gR (an @A2 (an @Ak (an @List.length_cons.{0} (an @hat (an @d2 @hg))))))) ?_;(repeat clear hK K);repeat refine kq fun K hK=>?_)
   refine WC ?_
   clear hat hg
   generalize hq:(e,t) :: r0=q at *
   (refine Wu (an @A3 (an @List.set_cons_zero.{0} (an @List.set_cons_succ.{0} (an @List.take_succ_cons.{0} (an @List.take_zero.{0} (an @List.drop_zero.{0} (an @List.length_take.{0} (an @List.length_drop.{0} (an @List.length_append.{0} (an @A4 (an @Az (an @AN (an @Bm (an @A5 (an @AU (an @AE (an @B1 (an @AG @AM)))))))))))))))))) ?_;(repeat clear hK K);repeat refine kq fun K hK=>?_)
   refine WD ?_
   refine hK _ (k+1) (by omega) (by omega) ?_
   rw [hnx]
   simp only [JE]
   refine Le.trans (AR (r:=⟨42,1,true,AO (O++[q])⟩) (ri:=⟨25,1,false,[.s 4 (O.length+1)]⟩) (ts:=Ah (O++[q])) 2 0 4 (O.length+1) (by decide) rfl rfl rfl rfl (show 0<1 by omega) (by rw [Ay];simp) (CZ _)) ?_
   simp only [go_sem]
   refine Le.trans (A9 [0,1,2] rfl rfl) ?_
   (try simp only [List.set_nil,List.take_nil,List.take_zero,List.map_append,go_sem])
   exact WE
  have d2:(e == 0)=true:=by simpa using he
  have hqe:Yj ((e,t) :: r0)=[(e,t)]:=by simp [Yj,Xd,he]
  rw [hqe] at hnx
  have htk:(Ao ((e,t) :: r0)).take (Int.toNat 1*2)=Ao [(e,t)]:=rfl
  (refine Wu (an @A3 (an @gR (an @A2 (an @Ak (an @List.length_cons.{0} (an @hat (an @d2 @hg))))))) ?_;(repeat clear hK K);repeat refine kq fun K hK=>?_)
  refine WB ?_
  (refine Wu (an @A2 (an @Ak (an @List.length_cons.{0} (an @htk (an @A3 (an @List.set_cons_zero.{0} (an @List.set_cons_succ.{0} (an @List.take_succ_cons.{0} (an @List.take_zero.{0} (an @List.drop_zero.{0} (an @List.length_take.{0} (an @List.length_drop.{0} (an @List.length_append.{0} (an @A4 (an @Az (an @AN (an @Bm (an @A5 (an @AU (an @AE (an @B1 (an @AG @AM)))))))))))))))))))))) ?_;(repeat clear hK K);repeat refine kq fun K hK=>?_)
  generalize hq:([(e,t)]:List Ar)=q at *
  (refine Wu (an @A3 (an @List.set_cons_zero.{0} (an @List.set_cons_succ.{0} (an @List.take_succ_cons.{0} (an @List.take_zero.{0} (an @List.drop_zero.{0} (an @List.length_take.{0} (an @List.length_drop.{0} (an @List.length_append.{0} (an @A4 (an @Az (an @AN (an @Bm (an @A5 (an @AU (an @AE (an @B1 (an @AG @AM)))))))))))))))))) ?_;(repeat clear hK K);repeat refine kq fun K hK=>?_)
  refine WD ?_
  refine hK _ (k+1) (by omega) (by omega) ?_
  rw [hnx]
  simp only [JE]
  refine Le.trans (AR (r:=⟨42,1,true,AO (O++[q])⟩) (ri:=⟨25,1,false,[.s 4 (O.length+1)]⟩) (ts:=Ah (O++[q])) 2 0 4 (O.length+1) (by decide) rfl rfl rfl rfl (show 0<1 by omega) (by rw [Ay];simp) (CZ _)) ?_
  simp only [go_sem]
  refine Le.trans (A9 [0,1,2] rfl rfl) ?_
  (try simp only [List.set_nil,List.take_nil,List.take_zero,List.map_append,go_sem])
  exact WE
set_option maxHeartbeats 8000000 in
theorem OI (R:List (List Ar)) (hv:Bv R=true) (hn:R.length<=64) (hr:∀ r∈R,r.length<=1000000):FC Tryz.prog 30 [B7 R] [] (fun r o=>∃ B c,∃ p:Nat->Bool,DvL R B/\WkC R c/\Nrm R.length c/\(∀ u,u<R.length->(p u=true↔Rc (WP false R) 0 u))/\o=[]/\r=.b ((FJ R.length p).all fun s=>!Yq R B c s)):=by
 refine A6 Tryz.func30 rfl (by rw [Tryz.ntmps30];simp) ?_
 rw [Tryz.ntmps30]
 have hlo:BE R=true:=gEg (gE4 hv).1
 have h1:1<=R.length:=(gE4 hlo).1
 have hdv:=Kz R hv (by omega) hr
 have hwc:=Ut R hv (by omega) hr
 have hre:=PC R 0 false hv (by omega) (by omega) hr
 rw [Km false hv] at hre
 simp only [Bf,B7,As] at hdv hwc hre ⊢
 (refine Wt ?_;(repeat clear hK K);repeat refine kq fun K hK=>?_)
 (refine Wy (C7 R (by omega) (fun r h=>by have:=hr r h;omega)) ?_;intro K1 hK1)
 rintro _ _ ⟨rfl,rfl⟩
 (refine Wz ?_;clear hK1 K1)
 (refine Wu (an @hv @Bool.not_true) ?_;(repeat clear hK K);repeat refine kq fun K hK=>?_)
 refine WC ?_
 (refine Wt ?_;(repeat clear hK K);repeat refine kq fun K hK=>?_)
 (refine Wy hdv ?_;intro K1 hK1)
 rintro _ _ ⟨B,hB,rfl,rfl⟩
 (refine Wz ?_;clear hK1 K1)
 (refine Wt ?_;(repeat clear hK K);repeat refine kq fun K hK=>?_)
 (refine Wy hwc ?_;intro K1 hK1)
 rintro _ _ ⟨c,hc,hN,rfl,rfl⟩
 (refine Wz ?_;clear hK1 K1)
 (refine Wt ?_;(repeat clear hK K);repeat refine kq fun K hK=>?_)
 (refine BS (Bg (r:=⟨3,1,true,A7 [(0:Int)]⟩) 1 (Ab [(0:Int)]) rfl (EM _) (show 0<(1:Nat) by omega)) ?_;simp only [ST.frz,A0.frz,AV.frz,C.frz,Nat.le_refl,List.set_cons_zero,List.set_cons_succ,go_sem,show (Ab [(0:Int)]).take 1=Ab [(0:Int)] from rfl])
 (refine Wy hre ?_;intro K1 hK1)
 rintro _ _ ⟨S,hS1,hS2,_,rfl,rfl,rfl⟩
 obtain ⟨M,hM⟩:∃ M,FJ R.length (Bu S)=M:=⟨_,rfl⟩
 have hend:∀ v,v=(M.all fun s=>!Yq R B c s)->∃ B c,∃ p:Nat->Bool,DvL R B/\WkC R c/\Nrm R.length c/\(∀ u,u<R.length->(p u=true↔Rc (WP false R) 0 u))/\([]:List Ob)=[]/\AV.b v=.b ((FJ R.length p).all fun s=>!Yq R B c s):=fun v h=>⟨B,c,Bu S,hB,hc,hN,fun u hu=>hS2 u,rfl,by rw [hM,h]⟩
 have hMl:∀ s∈M,s<R.length:=fun s h=>by rw [<- hM] at h;exact (DT.1 h).1
 have hMn:M.length<=R.length:=by
  rw [<- hM]
  unfold FJ
  exact Nat.le_trans (List.length_filter_le _ _) (by rw [List.length_range];exact Nat.le_refl _)
 rw [show (List.range R.length).filter (Bu S)=M from hM]
 simp only [AA]
 (simp only [As,Bl,BQ,List.append_nil,List.nil_append,List.length_map,go_sem];refine hK1 _ ?_;clear hK1 K1)
 (refine Wu @List.length_map.{0,0} ?_;(repeat clear hK K);repeat refine kq fun K hK=>?_)
 refine A8 (fun k:Nat=>{ tm:=[(1,.a (.c (.p 0 0))),(3,.a (.c (.t 1 (X6 B)))),(4,.a (.c (.t 1 (Ab c)))),(5,.a (.c (.s 1 M.length))),(6,.i k)],hp:=[.r ⟨25,1,false,[.t 1 (Ah R)]⟩,.r ⟨3,1,true,A7 (M.map Int.ofNat)⟩],n:=70,pin:=0 }) (fun k=>k<=M.length/\∀ s∈M.take k,Yq R B c s=false) (fun k=>M.length - k) 0 ?_ ?_ ?_
 ·exact ⟨by omega,by simp⟩
 ·refine Le.trans (A9 [0,2] rfl rfl) ?_
  (try simp only [List.set_nil,List.take_nil,List.take_zero,List.map_append,go_sem])
  (try simp only [Af])
  exact WE
 rintro k ⟨hk,hall⟩ K hK
 by_cases hlt:k<M.length
 rotate_left
 ·have d1:decide ((k:Int)<(M.length:Int))=false:=by simpa using hlt
  have hke:k=M.length:=by omega
  subst hke
  rw [List.take_length] at hall
  have hv1:(true:Bool)=(M.all fun s=>!Yq R B c s):=by
   refine (List.all_eq_true.2 fun s hs=>?_).symm
   rw [hall s hs];rfl
  (refine Wu @d1 ?_;(repeat clear hK K);repeat refine kq fun K hK=>?_)
  refine WC ?_
  (refine Wx ?_;repeat clear hK K)
  (refine Wt ?_;(repeat clear hK K);repeat refine kq fun K hK=>?_)
  refine WF [] Tryz.results30 ?_
  obtain ⟨B',c',p',a1,a2,a3,a4,_,a6⟩:=hend _ hv1
  exact ⟨B',c',p',a1,a2,a3,a4,a6⟩
 have d1:decide ((k:Int)<(M.length:Int))=true:=by simpa using hlt
 have hsl:=hMl _ (gE6 hlt)
 have gM:(A7 (M.map Int.ofNat))[k]?=some (.v (.int .i64 (M[k]:Nat))):=by
  simp [A7,List.getElem?_map,gE1 hlt]
 have htk:=gE8 hlt
 have hks:=gE6 hlt
 generalize M[k]=s at *
 have gB:=F7 (show B[s]?=some (B.getD s false) from by rw [gE2,gE1 (by rw [hB.1];exact hsl)];rfl)
 have gR:=Ag (gE1 hsl)
 have hsM:s∈M:=hks
 have hRs:R.getD s []=R[s]:=by rw [gE2,gE1 hsl];rfl
 have hno:Yq R B c s=true->(false:Bool)=(M.all fun s=>!Yq R B c s):=fun h=>by
  symm
  rw [List.all_eq_false]
  exact ⟨s,hsM,by rw [h];simp⟩
 have hgo:Yq R B c s=false->k+1<=M.length/\∀ x∈M.take (k+1),Yq R B c x=false:=fun h=>by
  refine ⟨by omega,fun x hx=>?_⟩
  rw [htk] at hx
  rcases List.mem_append.1 hx with h2 | h2
  ·exact hall x h2
  simp only [List.mem_singleton] at h2;rw [h2];exact h
 (refine Wu @d1 ?_;(repeat clear hK K);repeat refine kq fun K hK=>?_)
 refine WB ?_
 (refine Wu (an @gM (an @A5 @List.length_map.{0,0})) ?_;(repeat clear hK K);repeat refine kq fun K hK=>?_)
 (refine Bz [] [(0,0,0),(1,0,0),(2,0,0),(3,1,41),(4,0,0),(5,0,0),(7,0,0),(6,1,41),(8,0,0),(9,1,41),(10,0,0),(11,0,0),(12,0,0),(13,0,0),(15,0,0),(14,1,41),(16,0,0),(17,1,41),(18,0,0),(19,0,0),(20,1,41),(21,0,0),(22,0,0),(23,0,0),(24,0,0),(25,0,0),(27,0,0),(35,0,0),(36,0,0),(37,0,0),(26,1,41),(28,0,0),(29,1,41),(30,0,0),(31,0,0),(32,1,41),(33,0,0),(34,1,41),(38,1,41),(39,0,0),(40,0,0),(41,2,0)] (by kernel_rfl) (by kernel_rfl) (by intro c st h;simp [Ae,AF,VT] at h) ?_)
 cases hb:B.getD s false with
 | true=>
  (refine Ws (an @gB (an @hb (an @BD @hB.1))) ?_;repeat clear hK K)
  (refine Wg rfl rfl rfl ?_;intro K1 hK1;refine AP rfl ?_;simp only [go_sem];(first | refine hK1 _ ?_ | refine AD (hK1 _ ?_));clear hK1 K1)
  (refine Wr ?_;repeat clear hK K)
  refine WB ?_
  (refine Wt ?_;(repeat clear hK K);repeat refine kq fun K hK=>?_)
  refine WF [] Tryz.results30 ?_
  obtain ⟨B',c',p',a1,a2,a3,a4,_,a6⟩:=hend _ (hno (by unfold Yq;rw [hb];rfl))
  exact ⟨B',c',p',a1,a2,a3,a4,a6⟩
 | false=>
  cases hrow:R[s] with
  | nil=>
   rw [hrow] at gR
   have hg:decide (((0:Nat):Int) > 0)=false:=by decide
   (refine Ws (an @gB (an @hb (an @BD (an @hB.1 (an @gR (an @A3 (an @A2 (an @Ak (an @List.length_nil.{0} @hg))))))))) ?_;repeat clear hK K)
   (refine Wg rfl rfl rfl ?_;intro K1 hK1;refine AP rfl ?_;simp only [go_sem];(first | refine hK1 _ ?_ | refine AD (hK1 _ ?_));clear hK1 K1)
   (refine Wr ?_;repeat clear hK K)
   refine WC ?_
   (refine Wt ?_;(repeat clear hK K);repeat refine kq fun K hK=>?_)
   refine WD ?_
   refine hK _ (k+1) (hgo (by unfold Yq;rw [hb,hRs,hrow];rfl)) (by omega) ?_
   exact WE
  | cons a q=>
   have hab:=EJ hv hsl (a:=a) (by rw [hRs,hrow];exact List.mem_cons_self)
   obtain ⟨e,t⟩:=a
   have hat:=AL (xs:=(e,t) :: q) (i:=0) (by simp)
   have hg:decide (((q.length+1:Nat):Int) > 0)=true:=gEg (by omega)
   rw [hrow] at gR
   by_cases he:e=0
   rotate_left
   ·have d2:(e == 0)=false:=by simpa using he
    (refine Ws (an @gB (an @hb (an @BD (an @hB.1 (an @gR (an @A3 (an @A2 (an @Ak (an @List.length_cons.{0} (an @hat (an @d2 @hg))))))))))) ?_;repeat clear hK K)
    (refine Wg rfl rfl rfl ?_;intro K1 hK1;refine AP rfl ?_;simp only [go_sem];(first | refine hK1 _ ?_ | refine AD (hK1 _ ?_));clear hK1 K1)
    (refine Wr ?_;repeat clear hK K)
    refine WC ?_
    (refine Wt ?_;(repeat clear hK K);repeat refine kq fun K hK=>?_)
    refine WD ?_
    refine hK _ (k+1) (hgo (by unfold Yq;rw [hb,hRs,hrow];simp [Xd,he])) (by omega) ?_
    exact WE
   obtain ⟨u,rfl⟩:∃ u:Nat,t=(u:Int):=⟨t.toNat,by simp only at hab;omega⟩
   have hul:u<R.length:=by simp only at hab;omega
   have hcl:=hN.len
   have g1:=Am (show c[u]?=some (c.getD u 0) from by rw [gE2,gE1 (by omega)];rfl)
   have g2:=Am (show c[s]?=some (c.getD s 0) from by rw [gE2,gE1 (by omega)];rfl)
   have d2:(e == 0)=true:=by simpa using he
   have hval:Yq R B c s=(c.getD u 0 != c.getD s 0):=by
    unfold Yq
    rw [hb,hRs,hrow]
    simp [Xd,he]
   (refine Ws (an @gB (an @hb (an @BD (an @hB.1 (an @gR (an @A3 (an @A2 (an @Ak (an @List.length_cons.{0} (an @hat (an @d2 (an @hg (an @g1 (an @g2 (an @A4 @hcl))))))))))))))) ?_;repeat clear hK K)
   (refine Wg rfl rfl rfl ?_;intro K1 hK1;refine AP rfl ?_;simp only [go_sem];(first | refine hK1 _ ?_ | refine AD (hK1 _ ?_));clear hK1 K1)
   (refine Wr ?_;repeat clear hK K)
   (refine At ?_;intro X Y hX hY;simp only [go_sem])
   refine ⟨fun h=>hX ?_,fun h=>hY ?_⟩
   rotate_left
   ·clear hX hY X Y
    (refine Wt ?_;(repeat clear hK K);repeat refine kq fun K hK=>?_)
    refine WD ?_
    refine hK _ (k+1) (hgo (hval.trans h)) (by omega) ?_
    exact WE
   clear hX hY X Y
   (refine Wt ?_;(repeat clear hK K);repeat refine kq fun K hK=>?_)
   refine WF [] Tryz.results30 ?_
   obtain ⟨B',c',p',a1,a2,a3,a4,_,a6⟩:=hend _ (hno (hval.trans h))
   exact ⟨B',c',p',a1,a2,a3,a4,a6⟩
theorem QJ {n:Nat} {p q:Nat->Bool} (h:∀ u,u<n->p u=q u):FJ n p=FJ n q:=List.filter_congr fun u hu=>h u (List.mem_range.1 hu)
set_option maxHeartbeats 4000000 in
theorem EL (R:List (List Ar)) (hn:R.length<=64) (hr:∀ r∈R,r.length<=1000000):FC Tryz.prog 9 [B7 R] [] (fun r o=>o=[]/\r=.b true):=by
 refine A6 Tryz.func9 rfl (by rw [Tryz.ntmps9];simp) ?_
 rw [Tryz.ntmps9]
 simp only [Bf,B7]
 cases hv:Bv R with
 | false=>
  have hrb:∀ r∈R,r.length<=140737488355328:=fun r h=>by have:=hr r h;omega
  have g1:=QG R hv (by omega) hrb
  have g2:=OE R hv (by omega) hrb
  have g3:=QH R hv (by omega) hrb
  have g4:=OG R hv (by omega) hrb
  simp only [B7,Yr] at g1 g2 g3 g4
  (refine Wt ?_;(repeat clear hK K);repeat refine kq fun K hK=>?_)
  (refine Wy g1 ?_;intro K1 hK1)
  rintro _ _ ⟨rfl,rfl⟩
  (refine Wz ?_;clear hK1 K1)
  (refine Jb ?_;(repeat clear hK K);repeat refine kq fun K hK=>?_)
  (refine Wy g2 ?_;intro K1 hK1)
  rintro _ _ ⟨rfl,rfl⟩
  (refine Wz ?_;clear hK1 K1)
  (refine Jb ?_;(repeat clear hK K);repeat refine kq fun K hK=>?_)
  (refine Bz [] [(0,0,0),(1,0,0),(2,0,0),(3,0,0),(4,1,6),(5,1,6),(6,2,0),(7,0,0),(8,0,0),(9,1,10),(11,1,12),(10,2,0),(12,2,0),(13,2,0),(14,0,0),(15,2,0)] (by kernel_rfl) (by kernel_rfl) (by intro c st h;simp [Ae,AF,VT] at h) ?_)
  (refine Wr ?_;repeat clear hK K)
  (refine MD rfl rfl rfl (by simp only [go_sem] <;> rfl) ?_;intro K1 hK1;refine AZ ?_;refine xv [] (QF) ?_ ?_)
  ·rintro _ _ ⟨rfl,rfl⟩ i o hi hl;simp at hl
  rintro _ _ ⟨rfl,rfl⟩
  (refine Wz ?_;clear hK1 K1)
  (refine Wr ?_;repeat clear hK K)
  (refine MD rfl rfl rfl (by simp only [go_sem] <;> rfl) ?_;intro K1 hK1;refine AZ ?_;refine xv [] (g3) ?_ ?_)
  ·rintro _ _ ⟨rfl,rfl⟩ i o hi hl;simp at hl
  rintro _ _ ⟨rfl,rfl⟩
  (refine Wz ?_;clear hK1 K1)
  (refine Wr ?_;repeat clear hK K)
  (refine MD rfl rfl rfl (by simp only [go_sem] <;> rfl) ?_;intro K1 hK1;refine AZ ?_;refine xv [] (g4) ?_ ?_)
  ·rintro _ _ ⟨rfl,rfl⟩ i o hi hl;simp at hl
  rintro _ _ ⟨rfl,rfl⟩
  (refine Wz ?_;clear hK1 K1)
  (refine Ve rfl rfl rfl (by simp only [go_sem] <;> rfl) rfl ?_;intro K1 hK1;refine Ov (a:=false) (b:=false) Tryz.underlying4 rfl rfl (by simp only [go_sem]) (by simp only [go_sem]) ?_;simp only [go_sem,beq_self_eq_true];refine hK1 _ ?_;clear hK1 K1)
  (refine Wr ?_;repeat clear hK K)
  (refine Wg rfl rfl rfl ?_;intro K1 hK1;refine AP rfl ?_;simp only [go_sem];(first | refine hK1 _ ?_ | refine AD (hK1 _ ?_));clear hK1 K1)
  (refine Wr ?_;repeat clear hK K)
  (refine Wt ?_;(repeat clear hK K);repeat refine kq fun K hK=>?_)
  exact Lq [] Tryz.results9
 | true=>
  have hchl:=Om hv
  have hbd:=OD (R:=R.map Yj) (B:=1000000) (gE4 hchl).1 (fun r h a ha=>by have:=(gE4 hchl).2.2.2 r h a ha;exact ⟨this.2.2.1,this.2.2.2⟩) (fun r h=>by
   obtain ⟨q,hq,rfl⟩:=List.mem_map.1 h
   have:=hr q hq
   have:=HH q
   omega)
  rw [List.length_map] at hbd
  have g1:=Qx R hv (by omega) hr
  have g2:=OH R hv (by omega) hr
  have g3:=QC R hv hn hr
  have g4:=OI R hv hn hr
  have g5:=JC (BT (R.map Yj)).1 (by omega) hbd.2
  generalize (BT (R.map Yj)).1=Q at *
  simp only [B7] at g1 g2 g3 g4 g5
  (refine Wt ?_;(repeat clear hK K);repeat refine kq fun K hK=>?_)
  (refine Wy g1 ?_;intro K1 hK1)
  rintro _ _ ⟨rfl,rfl⟩
  (refine Wz ?_;clear hK1 K1)
  (refine Jb ?_;(repeat clear hK K);repeat refine kq fun K hK=>?_)
  (refine Wy g2 ?_;intro K1 hK1)
  rintro _ _ ⟨rfl,rfl⟩
  (refine Wz ?_;clear hK1 K1)
  (refine Jb ?_;(repeat clear hK K);repeat refine kq fun K hK=>?_)
  (refine Bz [] [(0,0,0),(1,0,0),(2,0,0),(3,0,0),(4,1,6),(5,1,6),(6,2,0),(7,0,0),(8,0,0),(9,1,10),(11,1,12),(10,2,0),(12,2,0),(13,2,0),(14,0,0),(15,2,0)] (by kernel_rfl) (by kernel_rfl) (by intro c st h;simp [Ae,AF,VT] at h) ?_)
  (refine Wr ?_;repeat clear hK K)
  (refine MD rfl rfl rfl (by simp only [go_sem] <;> rfl) ?_;intro K1 hK1;refine AZ ?_;refine xv [] (g5) ?_ ?_)
  ·rintro _ _ ⟨rfl,rfl⟩ i o hi hl;simp at hl
  rintro _ _ ⟨rfl,rfl⟩
  (refine Wz ?_;clear hK1 K1)
  (refine Wr ?_;repeat clear hK K)
  (refine MD rfl rfl rfl (by simp only [go_sem] <;> rfl) ?_;intro K1 hK1;refine AZ ?_;refine xv [] (g3) ?_ ?_)
  ·rintro _ _ ⟨_,_,_,_,_,_,_,rfl,rfl⟩ i o hi hl;simp at hl
  rintro _ _ ⟨B,c,p,hB,hc,_,hp,rfl,rfl⟩
  (refine Wz ?_;clear hK1 K1)
  (refine Wr ?_;repeat clear hK K)
  (refine MD rfl rfl rfl (by simp only [go_sem] <;> rfl) ?_;intro K1 hK1;refine AZ ?_;refine xv [] (g4) ?_ ?_)
  ·rintro _ _ ⟨_,_,_,_,_,_,_,rfl,rfl⟩ i o hi hl;simp at hl
  rintro _ _ ⟨B2,c2,p2,hB2,hc2,_,hp2,rfl,rfl⟩
  obtain rfl:=hB.uniq hB2
  obtain rfl:=hc.uniq hc2
  rw [QJ (p:=p2) (q:=p) (fun u hu=>by rw [Bool.eq_iff_iff,hp u hu,hp2 u hu])]
  generalize ((FJ R.length p).all fun s=>!Yq R B c s)=b
  (refine Wz ?_;clear hK1 K1)
  (refine Ve rfl rfl rfl (by simp only [go_sem] <;> rfl) rfl ?_;intro K1 hK1;refine Ov (a:=b) (b:=b) Tryz.underlying4 rfl rfl (by simp only [go_sem]) (by simp only [go_sem]) ?_;simp only [go_sem,beq_self_eq_true];refine hK1 _ ?_;clear hK1 K1)
  (refine Wr ?_;repeat clear hK K)
  (refine Wg rfl rfl rfl ?_;intro K1 hK1;refine AP rfl ?_;simp only [go_sem];(first | refine hK1 _ ?_ | refine AD (hK1 _ ?_));clear hK1 K1)
  (refine Wr ?_;repeat clear hK K)
  (refine Wt ?_;(repeat clear hK K);repeat refine kq fun K hK=>?_)
  exact Lq [] Tryz.results9
structure Cstep where
 k:Int
 s:List Int
 m:List Ar
 o:List Ar
 R:List (List Ar)
def Cstep.cells (x:Cstep):List C:=[.v (.int .i64 x.k),.t 1 (Ab x.s),.t 2 (Ao x.m),.t 2 (Ao x.o),.t 1 (Ah x.R)]
def E2 (x:Int):Bool:=decide (x>=2) && decide (x<=1025)
theorem DI {x:Int}:E2 x=true↔DY x:=by simp [E2,DY]
theorem L8 {x:Int}:E2 x=false↔¬ DY x:=by rw [<- DI];simp
end Go.Proofs.YtjijjfkalheokaaGreatDoor
