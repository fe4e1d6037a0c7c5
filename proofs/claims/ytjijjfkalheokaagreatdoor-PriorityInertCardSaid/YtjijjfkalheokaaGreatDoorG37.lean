/- Lemmas. -/
import Derived.Test.YtjijjfkalheokaaGreatDoorZk
import Derived.Test.YtjijjfkalheokaaGreatDoorG36
import Derived.Test.YtjijjfkalheokaaGreatDoorG11
import Derived.Test.YtjijjfkalheokaaGreatDoorG70
import Derived.Test.YtjijjfkalheokaaGreatDoorG48
import Derived.Test.YtjijjfkalheokaaGreatDoorDl2
import Derived.Test.YtjijjfkalheokaaGreatDoorG45
import Derived.Test.YtjijjfkalheokaaGreatDoorMK
import Derived.Test.YtjijjfkalheokaaGreatDoorMF
import Derived.Test.YtjijjfkalheokaaGreatDoorMlz
namespace Go.Proofs.YtjijjfkalheokaaGreatDoor
set_option linter.unusedVariables false
set_option linter.unusedSimpArgs false
open Go.RowKit
set_option maxRecDepth 100000
attribute [local go_sem] List.set_cons_zero List.set_cons_succ List.map_cons List.map_nil List.take_succ_cons List.take_zero List.drop_zero List.drop_succ_cons C.pl C.one List.all_cons List.all_nil Bool.and_true

theorem OA (T:List Int) (hT:TpOk T) (a0 n:Nat) (ha:a0<=1000000) (hn1:1<=n) (hn:n<=20):
  FC Tryz.prog 18 [.a (.c (.p 0 0)),.i n] [tape T a0] (fun r o=>∃ (a':Nat) (R:List (List Ar)),o=[tape T a',.r ⟨42,1,true,AO R⟩,.r ⟨25,1,false,[.s 1 R.length]⟩]/\r=.a (.g [.s 1 R.length])/\a'<=a0+1+7*n/\1<=R.length/\R.length<=n/\OkSys 3 R.length R):=by
 refine A6 Tryz.func18 rfl (by rw [Tryz.ntmps18];simp) ?_
 rw [Tryz.ntmps18]
 simp only [Bf,tape,Kv]
 (refine Wt ?_;(repeat clear hK K);repeat refine kq fun K hK=>?_)
 (refine Ai rfl ?_;intro K1 hK1;refine ct [0] (Dk T a0 n hT (by omega) (by omega)) ?_ ?_)
 ·rintro _ _ ⟨rfl,v,rfl,_⟩;rfl
 rintro _ _ ⟨rfl,m,rfl,hm⟩
 (simp only [As,Bl,tape,List.append_nil,List.nil_append,List.length_map,go_sem];refine hK1 _ ?_;clear hK1 K1)
 have em:(1+(m:Int)).toNat=m+1:=by omega
 (refine Wu (an @em (an @List.set_cons_zero.{0} @List.set_cons_succ.{0})) ?_;(repeat clear hK K);repeat refine kq fun K hK=>?_)
 refine Au (Cm 2 rfl) ?_
 simp only [PM,List.set_cons_zero,List.set_cons_succ]
 refine A8 (fun p:Nat × List (List Ar) × Nat=>{ tm:=[(0,.a (.c (.p 0 0))),(4,.a (.c (.p 1 0))),(5,.a (.c (.p 3 0))),(6,.i p.1)],hp:=[.r ⟨41,2,false,[.t 1 (Ab T),.v (.int .i64 p.2.2)]⟩,.r ⟨25,1,false,[.v (.slice none 0 0)]⟩,.r ⟨42,1,true,AO p.2.1⟩,.r ⟨25,1,false,[.s 2 (m+1)]⟩],n:=46,pin:=1 })
  (fun p=>p.1<=m+1/\p.2.2<=a0+1+7*p.1/\OkSys 3 (m+1) p.2.1/\∀ q r,p.1<=q->p.2.1[q]?=some r->r=[]) (fun p=>m+1 - p.1) (0,List.replicate (m+1) [],a0+1) ?_ ?_ ?_
 ·refine ⟨by simp,by simp,Ng _,fun q r _ hr=>?_⟩
  exact List.eq_of_mem_replicate (gE9 hr)
 ·exact WE
 rintro ⟨i,R,a⟩ ⟨hi,hA,hR,hE⟩ K hK
 simp only at hi hA hR hE ⊢
 (refine Wt ?_;(repeat clear hK K);repeat refine kq fun K hK=>?_)
 (refine At ?_;intro X Y hX hY;simp only [go_sem])
 refine ⟨fun h=>hX ?_,fun h=>hY ?_⟩
 rotate_left
 ·have hi1:i=m+1:=by simp at h;omega
  clear hX hY X Y
  (refine Wx ?_;repeat clear hK K)
  (refine Wu (an @List.set_cons_zero.{0} @List.set_cons_succ.{0}) ?_;(repeat clear hK K);repeat refine kq fun K hK=>?_)
  (repeat (first | (refine AC ?_;intro K hK) | refine Aj ?_ | refine Ad ?_ | (refine B5 rfl rfl ?_;intro K1 hK1;simp only [go_sem,List.set_cons_zero,List.set_cons_succ,C.pl,C.one,List.all_cons,List.all_nil,Bool.and_true,List.take_succ_cons,List.take_zero,List.drop_zero];(first | refine hK1 _ ?_ | refine AD (hK1 _ ?_));clear hK1 K1) | ((first | refine Aa ?_ | refine Al ?_);refine hK _ ?_;clear hK K)))
  refine WG [0,2,1] Tryz.results18 @Bs ?_
  exact ⟨a,R,by simp only [tape,hR.1],by rw [hR.1],by omega,by rw [hR.1];omega,by rw [hR.1];omega,by rw [hR.1];exact hR⟩
 have hi1:i<m+1:=by simp at h;omega
 clear hX hY X Y
 (refine Wt ?_;(repeat clear hK K);repeat refine kq fun K hK=>?_)
 (refine Ai rfl ?_;intro K1 hK1;refine ct [0] (Dk T a 4 hT (by omega) (by omega)) ?_ ?_)
 ·rintro _ _ ⟨rfl,v,rfl,_⟩;rfl
 rintro _ _ ⟨rfl,w0,rfl,hw0⟩
 (simp only [As,Bl,tape,C6,List.append_nil,List.nil_append,List.length_map,go_sem];refine hK1 _ ?_;clear hK1 K1)
 (refine Wt ?_;(repeat clear hK K);repeat refine kq fun K hK=>?_)
 refine A8 (fun p:Nat × List (List Ar) × Nat=>{ tm:=[(0,.a (.c (.p 0 0))),(4,.a (.c (.p 1 0))),(5,.a (.c (.p 3 0))),(6,.i i),(7,.i p.1)],hp:=[.r ⟨41,2,false,[.t 1 (Ab T),.v (.int .i64 p.2.2)]⟩,.r ⟨25,1,false,[.v (.slice none 0 0)]⟩,.r ⟨42,1,true,AO p.2.1⟩,.r ⟨25,1,false,[.s 2 (m+1)]⟩],n:=46,pin:=1 })
  (fun p=>p.1<=3/\p.2.2+2*p.1<=a+7/\OkSys 3 (m+1) p.2.1/\(∀ r,p.2.1[i]?=some r->r.length+p.1<=3)/\∀ q r,i+1<=q->p.2.1[q]?=some r->r=[]) (fun p=>p.1) (w0,R,a+1) ?_ ?_ ?_
 ·refine ⟨by simp only;omega,by simp only;omega,hR,fun r hr=>?_,fun q r hq hr=>hE q r (by omega) hr⟩
  rw [hE i r (Nat.le_refl _) hr];simp;omega
 ·exact WE
 rintro ⟨w,R2,a2⟩ ⟨hw,hA2,hR2,hi2,hE2⟩ K hK
 simp only at hw hA2 hR2 hi2 hE2 ⊢
 have hl2:i<R2.length:=by rw [hR2.1];exact hi1
 have hg2:=gE1 hl2
 have hrow:=hR2.2 _ (gE6 hl2)
 (refine Wt ?_;(repeat clear hK K);repeat refine kq fun K hK=>?_)
 (refine At ?_;intro X Y hX hY;simp only [go_sem])
 refine ⟨fun h=>hX ?_,fun h=>hY ?_⟩
 rotate_left
 ·have hw0:w=0:=by simp at h;omega
  clear hX hY X Y
  (refine Wx ?_;repeat clear hK K)
  (refine Wt ?_;(repeat clear hK K);repeat refine kq fun K hK=>?_)
  refine WD ?_
  refine hK _ (i+1,R2,a2) ⟨by simp only;omega,by simp only;omega,hR2,fun q r hq hr=>hE2 q r hq hr⟩ (by simp only;omega) ?_
  exact WE
 have hw1:0<w:=by simpa using h
 clear hX hY X Y
 (refine Wt ?_;(repeat clear hK K);repeat refine kq fun K hK=>?_)
 refine Bz [0] [(0,0,0),(2,0,0),(3,0,0),(5,0,0),(8,0,0),(10,0,0),(11,0,0),(1,1,18),(4,1,16),(6,0,0),(7,1,16),(12,1,14),(13,0,0),(9,2,0),(14,2,0),(15,0,0),(16,2,0),(17,0,0),(18,2,0)] (by kernel_rfl) (by kernel_rfl) (by intro c st h;simp [Ae,AF,VT] at h) ?_
 (repeat (first | (refine Wd rfl rfl rfl ?_;intro K1 hK1;simp only [undef,W3,go_sem,Ay,BM hg2];first | (refine hK1 _ ?_;clear hK1 K1) | (refine AD (hK1 _ ?_);clear hK1 K1)) | (refine We rfl rfl rfl rfl rfl rfl rfl rfl rfl ?_;intro K1 hK1;simp only [undef,W3,go_sem,Ay,BM hg2];first | (refine hK1 _ ?_;clear hK1 K1) | (refine AD (hK1 _ ?_);clear hK1 K1))))
 (refine Wf rfl rfl ?_;intro K1 hK1;refine BW (ids:=[]) [0] (EE T hT a2 (by omega)) rfl rfl (by simp only [W3,go_sem]) (by kernel_rfl) rfl rfl rfl (by (simp only [W3,Em,List.map_append,List.append_nil,AV.ren,A0.ren,C.ren,idx,Dt,Dj,go_sem]) <;> rfl) (by (simp only [VS,Ob.ren,C.ren,idx,Dt,Dj,List.getD_cons_zero,List.getD_cons_succ,tape,go_sem]) <;> rfl) ?_ ?_)
 ·rintro _ _ ⟨rfl,v,rfl,_⟩;exact CB rfl
 rintro _ _ ⟨rfl,e,rfl,he⟩
 (simp only [As,Bl,tape,C6,List.append_nil,List.nil_append,List.length_map,go_sem];refine hK1 _ ?_;clear hK1 K1)
 (repeat (first | (refine Wd rfl rfl rfl ?_;intro K1 hK1;simp only [undef,W3,go_sem];first | (refine hK1 _ ?_;clear hK1 K1) | (refine AD (hK1 _ ?_);clear hK1 K1)) | (refine We rfl rfl rfl rfl rfl rfl rfl rfl rfl ?_;intro K1 hK1;simp only [undef,W3,go_sem];first | (refine hK1 _ ?_;clear hK1 K1) | (refine AD (hK1 _ ?_);clear hK1 K1))))
 (refine Wf rfl rfl ?_;intro K1 hK1;refine BW (ids:=[]) [0] (Dk T (a2+1) (m+1) hT (by omega) (by omega)) rfl rfl (by simp only [W3,go_sem]) (by kernel_rfl) rfl rfl rfl (by (simp only [W3,Em,List.map_append,List.append_nil,AV.ren,A0.ren,C.ren,idx,Dt,Dj,go_sem]) <;> rfl) (by (simp only [VS,Ob.ren,C.ren,idx,Dt,Dj,List.getD_cons_zero,List.getD_cons_succ,tape,go_sem]) <;> rfl) ?_ ?_)
 ·rintro _ _ ⟨rfl,v,rfl,_⟩;exact CB rfl
 rintro _ _ ⟨rfl,t,rfl,ht⟩
 (simp only [As,Bl,tape,C6,List.append_nil,List.nil_append,List.length_map,go_sem];refine hK1 _ ?_;clear hK1 K1)
 (repeat (first | (refine Wd rfl rfl rfl ?_;intro K1 hK1;simp only [undef,W3,go_sem];first | (refine hK1 _ ?_;clear hK1 K1) | (refine AD (hK1 _ ?_);clear hK1 K1)) | (refine We rfl rfl rfl rfl rfl rfl rfl rfl rfl ?_;intro K1 hK1;simp only [undef,W3,go_sem];first | (refine hK1 _ ?_;clear hK1 K1) | (refine AD (hK1 _ ?_);clear hK1 K1))))
 (refine Wf rfl rfl ?_;intro K1 hK1;refine AZ ?_;refine BW (ids:=[]) [] (EX R2[i] (e,(t:Int)) (by have:=hrow.2.1;omega)) rfl rfl (by simp only [W3,go_sem]) (by kernel_rfl) rfl rfl rfl (by (simp only [W3,Em,List.map_append,List.append_nil,AV.ren,A0.ren,C.ren,idx,Dt,Dj,go_sem]) <;> rfl) (by (simp only [VS,Ob.ren,C.ren,idx,Dt,Dj,List.getD_cons_zero,List.getD_cons_succ,BK,go_sem]) <;> rfl) ?_ ?_)
 ·rintro _ _ ⟨rfl,rfl⟩ i o hi hl;simp at hl
 rintro _ _ ⟨rfl,rfl⟩
 (simp only [As,Bl,BK,C6,List.append_nil,List.nil_append,List.length_map,go_sem];refine hK1 _ ?_;clear hK1 K1)
 (repeat (first | (refine Wd rfl rfl rfl ?_;intro K1 hK1;simp only [undef,W3,go_sem];first | (refine hK1 _ ?_;clear hK1 K1) | (refine AD (hK1 _ ?_);clear hK1 K1)) | (refine We rfl rfl rfl rfl rfl rfl rfl rfl rfl ?_;intro K1 hK1;simp only [undef,W3,go_sem];first | (refine hK1 _ ?_;clear hK1 K1) | (refine AD (hK1 _ ?_);clear hK1 K1))))
 refine Wg rfl rfl rfl ?_;intro K1 hK1
 refine AP rfl ?_;simp only [undef,W3,ST.put,DJ,A0.cells,Ay,List.set_cons_zero,List.set_cons_succ,EA,go_sem]
 (first | (refine hK1 _ ?_;clear hK1 K1) | (refine AD (hK1 _ ?_);clear hK1 K1))
 refine Po ⟨by simp,by simp,?_⟩
 refine hK _ ?_;clear hK K
 (refine Wt ?_;(repeat clear hK K);repeat refine kq fun K hK=>?_)
 refine WD ?_
 have hx:0<=e/\e<=1025/\0<=(t:Int)/\(t:Int)<((m+1:Nat):Int):=⟨he.1,he.2,by omega,by omega⟩
 have e1:((w:Int) - 1)=((w - 1:Nat):Int):=by omega
 have hw3:=hi2 _ hg2
 refine hK _ (w - 1,R2.set i (D1 (e,(t:Int)) R2[i]),a2+2) ⟨by simp only;omega,by simp only;omega,hR2.set ?_ i,fun r hr=>?_,fun q r hq hr=>?_⟩ (by simp only;omega) ?_
 rotate_left 2
 ·simp only at hr
  rw [gE5 (by omega)] at hr
  exact hE2 q r hq hr
 ·(refine BG ?_;simp only [Dg,go_sem,e1];try simp)
 ·exact (OkRow.ins ⟨hrow.1,Nat.le_refl _,hrow.2.2⟩ hx).le (by omega)
 simp only at hr ⊢
 rw [gEc hl2] at hr
 cases hr
 have:=DO (e,(t:Int)) R2[i]
 omega

set_option maxHeartbeats 1000000 in
theorem OB (T:List Int) (hT:TpOk T) (a0 n:Nat) (ha:a0<=500000) (hn1:1<=n) (hn:n<=20):
  FC Tryz.prog 8 [.a (.c (.p 0 0)),.i n] [tape T a0] (fun r o=>∃ (a':Nat) (R:List (List Ar)),o=[tape T a',.r ⟨42,1,true,AO R⟩,.r ⟨25,1,false,[.s 1 R.length]⟩]/\r=.a (.g [.s 1 R.length])/\a'<=a0+1+8*n/\1<=R.length/\R.length<=n/\OkSys 4 R.length R):=by
 refine A6 Tryz.func8 rfl (by rw [Tryz.ntmps8];simp) ?_
 rw [Tryz.ntmps8]
 simp only [Bf,tape,Kv,B7]
 (refine Wt ?_;(repeat clear hK K);repeat refine kq fun K hK=>?_)
 (refine Ai rfl ?_;intro K1 hK1;refine ct [0] (OA T hT a0 n (by omega) hn1 hn) ?_ ?_)
 ·rintro _ _ ⟨_,_,rfl,rfl,_⟩;rfl
 rintro _ _ ⟨a1,R0,rfl,rfl,ha1,hl1,hl2,hok⟩
 (simp only [As,Bl,tape,C6,List.append_nil,List.nil_append,List.length_map,go_sem];refine hK1 _ ?_;clear hK1 K1)
 (refine Wt ?_;(repeat clear hK K);repeat refine kq fun K hK=>?_)
 refine Au (A9 [0,1,2,4] rfl rfl) ?_
 (try simp only [List.set_nil,List.take_nil,List.take_zero,List.map_append,go_sem])
 (try simp only [Bs])
 obtain ⟨m,hm⟩:∃ m,m=R0.length:=⟨_,rfl⟩
 rw [<- hm] at hl1 hl2 hok
 (try rw [<- hm])
 refine A8 (fun p:Nat × List (List Ar) × Nat=>{ tm:=[(0,.a (.c (.p 0 0))),(4,.a (.c (.p 1 0))),(5,.a (.c (.p 3 0))),(6,.i p.1)],hp:=[.r ⟨41,2,false,[.t 1 (Ab T),.v (.int .i64 p.2.2)]⟩,.r ⟨25,1,false,[.v (.slice none 0 0)]⟩,.r ⟨42,1,true,AO p.2.1⟩,.r ⟨25,1,false,[.s 2 m]⟩],n:=34,pin:=1 })
  (fun p=>p.1+1<=m/\p.2.2<=a1+p.1/\OkSys 4 m p.2.1/\∀ q r,p.1<=q->p.2.1[q]?=some r->r.length<=3) (fun p=>m - p.1) (0,R0,a1) ?_ ?_ ?_
 ·exact ⟨by simp only;omega,by simp,hok.le (by omega),fun q r _ hr=>(hok.2 r (gE9 hr)).2.1⟩
 ·exact WE
 rintro ⟨s,R,a⟩ ⟨hs,hA,hR,hE⟩ K hK
 simp only at hs hA hR hE ⊢
 have hRl:=hR.1
 by_cases hlt:s+1<m
 rotate_left
 ·have hl0:decide ((s:Int)+1<(m:Int))=false:=by simp;omega
  (refine Wu @hl0 ?_;(repeat clear hK K);repeat refine kq fun K hK=>?_)
  refine WC ?_
  (refine Wx ?_;repeat clear hK K)
  (refine Wt ?_;(repeat clear hK K);repeat refine kq fun K hK=>?_)
  refine WG [0,2,1] Tryz.results8 @Bs ?_
  exact ⟨a,R,by simp only [tape,hRl],by rw [hRl],by omega,by omega,by omega,by rw [hRl];exact hR⟩
 have hl0:decide ((s:Int)+1<(m:Int))=true:=by simp;omega
 have hl2':s<R.length:=by omega
 have hg2:=gE1 hl2'
 have hrow:=hR.2 _ (gE6 hl2')
 have hne:(AO R).isEmpty=false:=by
  have:=Ay R
  cases hc:AO R with
  | nil=>rw [hc] at this;simp at this;omega
  | cons _ _=>rfl
 (refine Wu @hl0 ?_;(repeat clear hK K);repeat refine kq fun K hK=>?_)
 refine WB ?_
 (refine Wt ?_;(repeat clear hK K);repeat refine kq fun K hK=>?_)
 (refine AJ [2,3] (.m 0 0 0 (.m 2 0 0 (.m 3 0 0 (.m 5 0 0 (.m 8 0 0 (.m 10 0 0 (.m 11 0 0 (.m 1 1 15 (.m 4 1 13 (.m 6 0 0 (.m 7 1 13 (.a 9 (.m 12 0 0 (.a 13 (.m 14 0 0 (.a 15 .e)))))))))))))))) (by kernel_rfl) (by kernel_rfl) (by intro c st h;simp [Ae,AF,VT] at h) ?_)
 (refine Ww (an @Ay (BM hg2)) ?_;repeat clear hK K)
 (refine Ga rfl rfl rfl ?_;intro K1 hK1;refine yX [0] ?_;refine xy [0] (EE T hT a (by omega)) ?_ ?_)
 ·rintro _ _ ⟨rfl,v,rfl,_⟩;exact CB rfl
 rintro _ _ ⟨rfl,e,rfl,he⟩
 (simp only [As,Bl,tape,C6,List.append_nil,List.nil_append,List.length_map,go_sem];refine hK1 _ ?_;clear hK1 K1)
 (refine Wv ?_;repeat clear hK K)
 (refine Ga rfl rfl rfl ?_;intro K1 hK1;refine yX [] ?_;refine BW (ids:=[]) [] (EX R[s] (e,(s:Int)+1) (by have:=hrow.2.1;omega)) rfl rfl (by simp only [go_sem]) (by kernel_rfl) rfl rfl rfl (by (simp only [go_sem]) <;> rfl) (by (simp only [VS,BK,go_sem]) <;> rfl) ?_ ?_)
 ·rintro _ _ ⟨rfl,rfl⟩ i o hi hl;simp at hl
 rintro _ _ ⟨rfl,rfl⟩
 (simp only [As,Bl,BK,C6,List.append_nil,List.nil_append,List.length_map,go_sem];refine hK1 _ ?_;clear hK1 K1)
 (refine Wv ?_;repeat clear hK K)
 (refine Wk rfl rfl rfl rfl ?_;intro K1 hK1;refine AP rfl ?_;simp only [go_sem,ST.put,DJ,A0.cells,Ay,EA];(first | refine hK1 _ ?_ | refine AD (hK1 _ ?_));clear hK1 K1)
 (refine Wv ?_;repeat clear hK K)
 (refine Wt ?_;(repeat clear hK K);repeat refine kq fun K hK=>?_)
 refine WD ?_
 have hx:0<=e/\e<=1025/\0<=(s:Int)+1/\(s:Int)+1<(m:Int):=⟨he.1,he.2,by omega,by omega⟩
 have h3:=hE s _ (Nat.le_refl _) hg2
 refine hK _ (s+1,R.set s (D1 (e,(s:Int)+1) R[s]),a+1) ⟨by simp only;omega,by simp only;omega,hR.set ?_ s,fun q r hq hr=>?_⟩ (by simp only;omega) ?_
 rotate_left 2
 ·exact WE
 ·exact (OkRow.ins (m:=m) ⟨hrow.1,h3,hrow.2.2⟩ hx)
 simp only at hr hq
 rw [gE5 (by omega)] at hr
 exact hE q r (by omega) hr
def HI (R:List (List Ar)):Bool:=decide (R.length > 12) || decide (Bw R > 60)
theorem T7 (R:List (List Ar)) (hn:R.length<=140737488355328) (hr:∀ r∈R,r.length<=140737488355328):FC Tryz.prog 12 [B7 R] [] (fun r o=>o=[]/\r=.b (HI R)):=by
 refine A6 Tryz.func12 rfl (by rw [Tryz.ntmps12];simp) ?_
 rw [Tryz.ntmps12]
 simp only [Bf,B7]
 (refine Wt ?_;(repeat clear hK K);repeat refine kq fun K hK=>?_)
 refine A8 (fun k:Nat=>{ tm:=[(1,.a (.c (.p 0 0))),(3,.i (Bw (R.take k):Int)),(4,.i k)],hp:=[.r ⟨25,1,false,[.t 1 (Ah R)]⟩],n:=32,pin:=0 }) (fun k=>k<=R.length) (fun k=>R.length - k) 0 ?_ ?_ ?_
 ·omega
 ·(refine BG ?_;simp only [Dg,go_sem,List.take_zero,Bw,List.map_nil,List.sum_nil,Int.natCast_zero];try simp)
 rintro k hk K hK
 have hle:=Hi R k
 have hfull:k=R.length->Bw (R.take k)=Bw R:=fun e=>by rw [e,List.take_length]
 by_cases hlt:k<R.length
 ·have hl1:decide ((k:Int)<(R.length:Int))=true:=by simpa using hlt
  have hgk:=gE1 hlt
  have hrk:=hr _ (gE6 hlt)
  have htk:=Cj hlt
  generalize hW:Bw (R.take k)=W at *
  by_cases h60:W<=60
  ·have d2:decide ((W:Int)<=60)=true:=by simp;omega
   have e3:((W:Int)+(R[k].length:Int))=(Bw (R.take (k+1)):Int):=by omega
   (refine Wu (an @hl1 (an @d2 @A3)) ?_;(repeat clear hK K);repeat refine kq fun K hK=>?_)
   refine WB ?_
   (refine Wu (an (Ag hgk) (an @A3 (an @A2 (an @Ak @e3)))) ?_;(repeat clear hK K);repeat refine kq fun K hK=>?_)
   refine WD ?_
   refine hK _ (k+1) (by omega) (by omega) ?_
   exact WE
  have d2:decide ((W:Int)<=60)=false:=by simp;omega
  have d3:decide ((W:Int) > 60)=true:=by simp;omega
  have t60:decide (Bw R > 60)=true:=by simp;omega
  (refine Wu (an @hl1 (an @d2 @A3)) ?_;(repeat clear hK K);repeat refine kq fun K hK=>?_)
  refine WC ?_
  (refine Wx ?_;repeat clear hK K)
  cases t12:decide (R.length > 12) with
  | true=>
   have d4:decide ((R.length:Int) > 12)=true:=by simp at t12;simp;omega
   (refine Wu (an @d3 (an @d4 @A3)) ?_;(repeat clear hK K);repeat refine kq fun K hK=>?_)
   refine WF [] Tryz.results12 ?_
   rw [HI,t12];rfl
  | false=>
   have d4:decide ((R.length:Int) > 12)=false:=by simp at t12;simp;omega
   (refine Wu (an @d3 (an @d4 @A3)) ?_;(repeat clear hK K);repeat refine kq fun K hK=>?_)
   refine WF [] Tryz.results12 ?_
   rw [HI,t12,t60];rfl
 have hl1:decide ((k:Int)<(R.length:Int))=false:=by simpa using hlt
 have hke:k=R.length:=by omega
 have hf:=hfull hke
 generalize hW:Bw (R.take k)=W at *
 cases t60:decide (Bw R > 60) with
 | true=>
  have d3:decide ((W:Int) > 60)=true:=by simp at t60;simp;omega
  (refine Wu (an @hl1 @A3) ?_;(repeat clear hK K);repeat refine kq fun K hK=>?_)
  refine WC ?_
  (refine Wx ?_;repeat clear hK K)
  cases t12:decide (R.length > 12) with
  | true=>
   have d4:decide ((R.length:Int) > 12)=true:=by simp at t12;simp;omega
   (refine Wu (an @d3 (an @d4 @A3)) ?_;(repeat clear hK K);repeat refine kq fun K hK=>?_)
   refine WF [] Tryz.results12 ?_
   rw [HI,t12];rfl
  | false=>
   have d4:decide ((R.length:Int) > 12)=false:=by simp at t12;simp;omega
   (refine Wu (an @d3 (an @d4 @A3)) ?_;(repeat clear hK K);repeat refine kq fun K hK=>?_)
   refine WF [] Tryz.results12 ?_
   rw [HI,t12,t60];rfl
 | false=>
  have d3:decide ((W:Int) > 60)=false:=by simp at t60;simp;omega
  (refine Wu (an @hl1 @A3) ?_;(repeat clear hK K);repeat refine kq fun K hK=>?_)
  refine WC ?_
  (refine Wx ?_;repeat clear hK K)
  cases t12:decide (R.length > 12) with
  | true=>
   have d4:decide ((R.length:Int) > 12)=true:=by simp at t12;simp;omega
   (refine Wu (an @d3 (an @d4 @A3)) ?_;(repeat clear hK K);repeat refine kq fun K hK=>?_)
   refine WF [] Tryz.results12 ?_
   rw [HI,t12];rfl
  | false=>
   have d4:decide ((R.length:Int) > 12)=false:=by simp at t12;simp;omega
   (refine Wu (an @d3 (an @d4 @A3)) ?_;(repeat clear hK K);repeat refine kq fun K hK=>?_)
   refine WF [] Tryz.results12 ?_
   rw [HI,t12,t60];rfl

theorem IH (f:List Nat) (L:List Ar):(Ax L).map (C.ren f)=Ax L:=by
 unfold Ax
 rw [List.map_flatMap]
 rfl
theorem OkRow.filter {k m:Nat} {r:List Ar} (h:OkRow k m r) (p:Ar->Bool):OkRow k m (r.filter p):=
 ⟨List.Pairwise.filter p h.1,Nat.le_trans (List.length_filter_le p r) h.2.1,fun a ha=>h.2.2 a (List.mem_filter.1 ha).1⟩
def kp (s:Nat) (a:Ar):Bool:=a.1 != 0 || decide (a.2 > (s:Int))
theorem T8 {s:Nat} {r:List Ar} {i:Nat} (h:i<r.length):(r.take (i+1)).filter (kp s)=(r.take i).filter (kp s)++(if kp s r[i] then [r[i]] else []):=by
 rw [gE8 h,List.filter_append]
 congr 1
 simp [List.filter_cons]
set_option maxHeartbeats 1000000 in
theorem T9 (T:List Int) (hT:TpOk T) (a0 n:Nat) (ha:a0<=500000) (hn1:1<=n) (hn:n<=20):
  FC Tryz.prog 10 [.a (.c (.p 0 0)),.i n] [tape T a0] (fun r o=>∃ (a':Nat) (R:List (List Ar)),(o=[tape T a',Kv R]/\r=B7 R)/\a'<=a0+1+8*n/\1<=R.length/\R.length<=n/\OkSys 4 R.length R):=by
 refine A6 Tryz.func10 rfl (by rw [Tryz.ntmps10];simp) ?_
 rw [Tryz.ntmps10]
 simp only [Bf,tape,Kv,B7]
 (refine Wt ?_;(repeat clear hK K);repeat refine kq fun K hK=>?_)
 (refine Ai rfl ?_;intro K1 hK1;refine ct [0] (OB T hT a0 n (by omega) hn1 hn) ?_ ?_)
 ·rintro _ _ ⟨_,_,rfl,rfl,_⟩;rfl
 rintro _ _ ⟨a1,R0,rfl,rfl,ha1,hl1,hl2,hok⟩
 (simp only [As,Bl,tape,C6,List.append_nil,List.nil_append,List.length_map,go_sem];refine hK1 _ ?_;clear hK1 K1)
 (refine Wt ?_;(repeat clear hK K);repeat refine kq fun K hK=>?_)
 refine Au (A9 [0,1,2,4] rfl rfl) ?_
 (try simp only [List.set_nil,List.take_nil,List.take_zero,List.map_append,go_sem])
 (try simp only [Bs])
 obtain ⟨m,hm⟩:∃ m,m=R0.length:=⟨_,rfl⟩
 rw [<- hm] at hl1 hl2 hok
 (try rw [<- hm])
 refine A8 (fun p:Nat × List (List Ar)=>{ tm:=[(0,.a (.c (.p 0 0))),(4,.a (.c (.p 1 0))),(5,.a (.c (.p 3 0))),(6,.i p.1)],hp:=[.r ⟨41,2,false,[.t 1 (Ab T),.v (.int .i64 a1)]⟩,.r ⟨25,1,false,[.v (.slice none 0 0)]⟩,.r ⟨42,1,true,AO p.2⟩,.r ⟨25,1,false,[.s 2 m]⟩],n:=69,pin:=1 })
  (fun p=>p.1<=m/\OkSys 4 m p.2) (fun p=>m - p.1) (0,R0) ?_ ?_ ?_
 ·exact ⟨by simp,hok⟩
 ·exact WE
 rintro ⟨s,R⟩ ⟨hs,hR⟩ K hK
 simp only at hs hR ⊢
 have hRl:=hR.1
 by_cases hlt:s<m
 rotate_left
 ·have hl0:decide ((s:Int)<(m:Int))=false:=by simp;omega
  (refine Wu @hl0 ?_;(repeat clear hK K);repeat refine kq fun K hK=>?_)
  refine WC ?_
  (refine Wx ?_;repeat clear hK K)
  refine Au (AR (r:=⟨42,1,true,AO R⟩) (ri:=⟨25,1,false,[.s 2 m]⟩) (ts:=Ah R) 3 0 2 m (by decide) rfl rfl rfl rfl (show 0<1 by omega) (by simp only [Ay,hRl];omega) (CZ R)) ?_
  refine Au (Cm 3 rfl) ?_
  simp only [VX,List.map_cons,List.map_nil,go_sem]
  (refine Wt ?_;(repeat clear hK K);repeat refine kq fun K hK=>?_)
  refine WF [0,1] Tryz.results10 ?_
  exact ⟨a1,R,⟨rfl,rfl⟩,by omega,by omega,by omega,by rw [hRl];exact hR⟩
 have hl0:decide ((s:Int)<(m:Int))=true:=by simp;omega
 have hl2':s<R.length:=by omega
 have hg2:=gE1 hl2'
 have hrow:=hR.2 _ (gE6 hl2')
 (refine Wu @hl0 ?_;(repeat clear hK K);repeat refine kq fun K hK=>?_)
 refine WB ?_
 (refine Wt ?_;(repeat clear hK K);repeat refine kq fun K hK=>?_)
 refine Au (CT 7 46 2 ?_) ?_
 ·simp only [go_sem]
 refine A8 (fun i:Nat=>{ tm:=[(0,.a (.c (.p 0 0))),(4,.a (.c (.p 1 0))),(5,.a (.c (.p 3 0))),(6,.i s),(7,.a (.c (.s 4 ((R[s].take i).filter (kp s)).length))),(8,.i i)],hp:=[.r ⟨41,2,false,[.t 1 (Ab T),.v (.int .i64 a1)]⟩,.r ⟨25,1,false,[.v (.slice none 0 0)]⟩,.r ⟨42,1,true,AO R⟩,.r ⟨25,1,false,[.s 2 m]⟩,.r ⟨46,2,true,Ax ((R[s].take i).filter (kp s))⟩],n:=69,pin:=1 })
  (fun i=>i<=R[s].length) (fun i=>R[s].length - i) 0 ?_ ?_ ?_
 ·omega
 ·(refine BG ?_;simp only [Dg,go_sem,List.take_zero,List.filter_nil,List.length_nil,Ax,List.flatMap_nil];try simp)
 rintro i hi K hK
 by_cases hlti:i<R[s].length
 rotate_left
 ·have hl3:decide ((i:Int)<(R[s].length:Int))=false:=by simpa using hlti
  have hie:i=R[s].length:=by omega
  (refine Wu (an @hl3 (an @Ay (an (BM hg2) (an @A2 @Ak)))) ?_;(repeat clear hK K);repeat refine kq fun K hK=>?_)
  refine WC ?_
  (refine Wx ?_;repeat clear hK K)
  rw [hie,List.take_length]
  (refine Au (Bg (r:=⟨46,2,true,Ax (R[s].filter (kp s))⟩) 4 (Ao (R[s].filter (kp s))) rfl (Dl _) (show 0<(2:Nat) by omega)) ?_;simp only [ST.frz,A0.frz,AV.frz,C.frz,Nat.le_refl,List.set_cons_zero,List.set_cons_succ,go_sem,A2,Ak,BA,List.take_length])
  (refine Cn (an @Ay @EA) ?_;(repeat clear hK K);repeat refine kq fun K hK=>?_)
  refine WD ?_
  refine hK _ (s+1,R.set s (R[s].filter (kp s))) ⟨by simp only;omega,hR.set (hrow.filter _) s⟩ (by simp only;omega) ?_
  refine Le.trans (A9 [0,1,2,3] rfl rfl) ?_
  (try simp only [List.set_nil,List.take_nil,List.take_zero,List.map_append,go_sem])
  (try simp only [Bs])
  exact WE
 have hl3:decide ((i:Int)<(R[s].length:Int))=true:=by simpa using hlti
 have ha0:=CC hlti
 have ha1':=Dn hlti
 have hat:=AL hlti
 have hkt:=T8 (s:=s) hlti
 have hrl:=hrow.2.1
 have hfl:((R[s].take i).filter (kp s)).length<=4:=Nat.le_trans (List.length_filter_le _ _) (by simp;omega)
 (refine Wu (an @hl3 (an @Ay (an (BM hg2) (an @A2 @Ak)))) ?_;(repeat clear hK K);repeat refine kq fun K hK=>?_)
 refine WB ?_
 cases q1:(R[s][i].1 != 0) with
 | true=>
  have hk1:kp s R[s][i]=true:=by rw [kp,q1,Bool.true_or]
  rw [if_pos hk1] at hkt
  (refine Wu (an @q1 (an @ha0 (an @ha1' (an @Ay (an (BM hg2) (an @A2 @Ak)))))) ?_;(repeat clear hK K);repeat refine kq fun K hK=>?_)
  refine WB ?_
  have hlc:=gE7 (Nat.le_of_eq (Ap ((R[s].take i).filter (kp s))))
  (refine Wu (an @Ay (an (BM hg2) (an @A2 (an @Ak (an @hat (an @Ap (an @Ez (an @BF @hlc)))))))) ?_;(repeat clear hK K);repeat refine kq fun K hK=>?_)
  refine WD ?_
  refine hK _ (i+1) (by omega) (by omega) ?_
  refine Le.trans (A9 [0,1,2,3,6] rfl rfl) ?_
  (try simp only [List.set_nil,List.take_nil,List.take_zero,List.map_append,go_sem])
  rw [hkt]
  (try simp only [Bs,IH])
  (refine BG ?_;simp only [Dg,go_sem,List.length_append,List.length_cons,List.length_nil];try simp)
 | false=>
  cases q2:decide (R[s][i].2 > (s:Int)) with
  | true=>
   have hk1:kp s R[s][i]=true:=by rw [kp,q1,q2];rfl
   rw [if_pos hk1] at hkt
   (refine Wu (an @q1 (an @q2 (an @ha0 (an @ha1' (an @Ay (an (BM hg2) (an @A2 @Ak))))))) ?_;(repeat clear hK K);repeat refine kq fun K hK=>?_)
   refine WB ?_
   have hlc:=gE7 (Nat.le_of_eq (Ap ((R[s].take i).filter (kp s))))
   (refine Wu (an @Ay (an (BM hg2) (an @A2 (an @Ak (an @hat (an @Ap (an @Ez (an @BF @hlc)))))))) ?_;(repeat clear hK K);repeat refine kq fun K hK=>?_)
   refine WD ?_
   refine hK _ (i+1) (by omega) (by omega) ?_
   refine Le.trans (A9 [0,1,2,3,6] rfl rfl) ?_
   (try simp only [List.set_nil,List.take_nil,List.take_zero,List.map_append,go_sem])
   rw [hkt]
   (try simp only [Bs,IH])
   (refine BG ?_;simp only [Dg,go_sem,List.length_append,List.length_cons,List.length_nil];try simp)
  | false=>
   have hk1:¬ kp s R[s][i]=true:=by rw [kp,q1,q2];simp
   rw [if_neg hk1,List.append_nil] at hkt
   (refine Wu (an @q1 (an @q2 (an @ha0 (an @ha1' (an @Ay (an (BM hg2) (an @A2 @Ak))))))) ?_;(repeat clear hK K);repeat refine kq fun K hK=>?_)
   refine WC ?_
   (refine Wt ?_;(repeat clear hK K);repeat refine kq fun K hK=>?_)
   refine WD ?_
   refine hK _ (i+1) (by omega) (by omega) ?_
   rw [hkt]
   exact WE
set_option maxHeartbeats 1000000 in
theorem Z9 (T:List Int) (hT:TpOk T) (a0 n:Nat) (ha:a0<=500000) (hn1:1<=n) (hn:n<=20):
  FC Tryz.prog 10 [.a (.c (.p 0 0)),.i n] [tape T a0] (fun r o=>∃ (a':Nat) (R:List (List Ar)),(o=[tape T a',.r ⟨42,1,true,AO R⟩,.r ⟨25,1,false,[.s 1 R.length]⟩]/\r=.a (.g [.s 1 R.length]))/\a'<=a0+1+8*n/\1<=R.length/\R.length<=n/\OkSys 4 R.length R):=by
 refine A6 Tryz.func10 rfl (by rw [Tryz.ntmps10];simp) ?_
 rw [Tryz.ntmps10]
 simp only [Bf,tape,Kv,B7]
 (refine Wt ?_;(repeat clear hK K);repeat refine kq fun K hK=>?_)
 (refine Ai rfl ?_;intro K1 hK1;refine ct [0] (OB T hT a0 n (by omega) hn1 hn) ?_ ?_)
 ·rintro _ _ ⟨_,_,rfl,rfl,_⟩;rfl
 rintro _ _ ⟨a1,R0,rfl,rfl,ha1,hl1,hl2,hok⟩
 (simp only [As,Bl,tape,C6,List.append_nil,List.nil_append,List.length_map,go_sem];refine hK1 _ ?_;clear hK1 K1)
 (refine Wt ?_;(repeat clear hK K);repeat refine kq fun K hK=>?_)
 refine Au (A9 [0,1,2,4] rfl rfl) ?_
 (try simp only [List.set_nil,List.take_nil,List.take_zero,List.map_append,go_sem])
 (try simp only [Bs])
 obtain ⟨m,hm⟩:∃ m,m=R0.length:=⟨_,rfl⟩
 rw [<- hm] at hl1 hl2 hok
 (try rw [<- hm])
 refine A8 (fun p:Nat × List (List Ar)=>{ tm:=[(0,.a (.c (.p 0 0))),(4,.a (.c (.p 1 0))),(5,.a (.c (.p 3 0))),(6,.i p.1)],hp:=[.r ⟨41,2,false,[.t 1 (Ab T),.v (.int .i64 a1)]⟩,.r ⟨25,1,false,[.v (.slice none 0 0)]⟩,.r ⟨42,1,true,AO p.2⟩,.r ⟨25,1,false,[.s 2 m]⟩],n:=69,pin:=1 })
  (fun p=>p.1<=m/\OkSys 4 m p.2) (fun p=>m - p.1) (0,R0) ?_ ?_ ?_
 ·exact ⟨by simp,hok⟩
 ·exact WE
 rintro ⟨s,R⟩ ⟨hs,hR⟩ K hK
 simp only at hs hR ⊢
 have hRl:=hR.1
 by_cases hlt:s<m
 rotate_left
 ·have hl0:decide ((s:Int)<(m:Int))=false:=by simp;omega
  (refine Wu @hl0 ?_;(repeat clear hK K);repeat refine kq fun K hK=>?_)
  refine WC ?_
  (refine Wx ?_;repeat clear hK K)
  (refine Wt ?_;(repeat clear hK K);repeat refine kq fun K hK=>?_)
  refine WG [0,2,1] Tryz.results10 @Bs ?_
  exact ⟨a1,R,by simp only [tape,hRl,and_self],by omega,by omega,by omega,by rw [hRl];exact hR⟩
 have hl0:decide ((s:Int)<(m:Int))=true:=by simp;omega
 have hl2':s<R.length:=by omega
 have hg2:=gE1 hl2'
 have hrow:=hR.2 _ (gE6 hl2')
 (refine Wu @hl0 ?_;(repeat clear hK K);repeat refine kq fun K hK=>?_)
 refine WB ?_
 (refine Wt ?_;(repeat clear hK K);repeat refine kq fun K hK=>?_)
 refine Au (CT 7 46 2 ?_) ?_
 ·simp only [go_sem]
 refine A8 (fun i:Nat=>{ tm:=[(0,.a (.c (.p 0 0))),(4,.a (.c (.p 1 0))),(5,.a (.c (.p 3 0))),(6,.i s),(7,.a (.c (.s 4 ((R[s].take i).filter (kp s)).length))),(8,.i i)],hp:=[.r ⟨41,2,false,[.t 1 (Ab T),.v (.int .i64 a1)]⟩,.r ⟨25,1,false,[.v (.slice none 0 0)]⟩,.r ⟨42,1,true,AO R⟩,.r ⟨25,1,false,[.s 2 m]⟩,.r ⟨46,2,true,Ax ((R[s].take i).filter (kp s))⟩],n:=69,pin:=1 })
  (fun i=>i<=R[s].length) (fun i=>R[s].length - i) 0 ?_ ?_ ?_
 ·omega
 ·(refine BG ?_;simp only [Dg,go_sem,List.take_zero,List.filter_nil,List.length_nil,Ax,List.flatMap_nil];try simp)
 rintro i hi K hK
 by_cases hlti:i<R[s].length
 rotate_left
 ·have hl3:decide ((i:Int)<(R[s].length:Int))=false:=by simpa using hlti
  have hie:i=R[s].length:=by omega
  (refine Wu (an @hl3 (an @Ay (an (BM hg2) (an @A2 @Ak)))) ?_;(repeat clear hK K);repeat refine kq fun K hK=>?_)
  refine WC ?_
  (refine Wx ?_;repeat clear hK K)
  rw [hie,List.take_length]
  (refine Au (Bg (r:=⟨46,2,true,Ax (R[s].filter (kp s))⟩) 4 (Ao (R[s].filter (kp s))) rfl (Dl _) (show 0<(2:Nat) by omega)) ?_;simp only [ST.frz,A0.frz,AV.frz,C.frz,Nat.le_refl,List.set_cons_zero,List.set_cons_succ,go_sem,A2,Ak,BA,List.take_length])
  (refine Cn (an @Ay @EA) ?_;(repeat clear hK K);repeat refine kq fun K hK=>?_)
  refine WD ?_
  refine hK _ (s+1,R.set s (R[s].filter (kp s))) ⟨by simp only;omega,hR.set (hrow.filter _) s⟩ (by simp only;omega) ?_
  refine Le.trans (A9 [0,1,2,3] rfl rfl) ?_
  (try simp only [List.set_nil,List.take_nil,List.take_zero,List.map_append,go_sem])
  (try simp only [Bs])
  exact WE
 have hl3:decide ((i:Int)<(R[s].length:Int))=true:=by simpa using hlti
 have ha0:=CC hlti
 have ha1':=Dn hlti
 have hat:=AL hlti
 have hkt:=T8 (s:=s) hlti
 have hrl:=hrow.2.1
 have hfl:((R[s].take i).filter (kp s)).length<=4:=Nat.le_trans (List.length_filter_le _ _) (by simp;omega)
 (refine Wu (an @hl3 (an @Ay (an (BM hg2) (an @A2 @Ak)))) ?_;(repeat clear hK K);repeat refine kq fun K hK=>?_)
 refine WB ?_
 cases q1:(R[s][i].1 != 0) with
 | true=>
  have hk1:kp s R[s][i]=true:=by rw [kp,q1,Bool.true_or]
  rw [if_pos hk1] at hkt
  (refine Wu (an @q1 (an @ha0 (an @ha1' (an @Ay (an (BM hg2) (an @A2 @Ak)))))) ?_;(repeat clear hK K);repeat refine kq fun K hK=>?_)
  refine WB ?_
  have hlc:=gE7 (Nat.le_of_eq (Ap ((R[s].take i).filter (kp s))))
  (refine Wu (an @Ay (an (BM hg2) (an @A2 (an @Ak (an @hat (an @Ap (an @Ez (an @BF @hlc)))))))) ?_;(repeat clear hK K);repeat refine kq fun K hK=>?_)
  refine WD ?_
  refine hK _ (i+1) (by omega) (by omega) ?_
  refine Le.trans (A9 [0,1,2,3,6] rfl rfl) ?_
  (try simp only [List.set_nil,List.take_nil,List.take_zero,List.map_append,go_sem])
  rw [hkt]
  (try simp only [Bs,IH])
  (refine BG ?_;simp only [Dg,go_sem,List.length_append,List.length_cons,List.length_nil];try simp)
 | false=>
  cases q2:decide (R[s][i].2 > (s:Int)) with
  | true=>
   have hk1:kp s R[s][i]=true:=by rw [kp,q1,q2];rfl
   rw [if_pos hk1] at hkt
   (refine Wu (an @q1 (an @q2 (an @ha0 (an @ha1' (an @Ay (an (BM hg2) (an @A2 @Ak))))))) ?_;(repeat clear hK K);repeat refine kq fun K hK=>?_)
   refine WB ?_
   have hlc:=gE7 (Nat.le_of_eq (Ap ((R[s].take i).filter (kp s))))
   (refine Wu (an @Ay (an (BM hg2) (an @A2 (an @Ak (an @hat (an @Ap (an @Ez (an @BF @hlc)))))))) ?_;(repeat clear hK K);repeat refine kq fun K hK=>?_)
   refine WD ?_
   refine hK _ (i+1) (by omega) (by omega) ?_
   refine Le.trans (A9 [0,1,2,3,6] rfl rfl) ?_
   (try simp only [List.set_nil,List.take_nil,List.take_zero,List.map_append,go_sem])
   rw [hkt]
   (try simp only [Bs,IH])
   (refine BG ?_;simp only [Dg,go_sem,List.length_append,List.length_cons,List.length_nil];try simp)
  | false=>
   have hk1:¬ kp s R[s][i]=true:=by rw [kp,q1,q2];simp
   rw [if_neg hk1,List.append_nil] at hkt
   (refine Wu (an @q1 (an @q2 (an @ha0 (an @ha1' (an @Ay (an (BM hg2) (an @A2 @Ak))))))) ?_;(repeat clear hK K);repeat refine kq fun K hK=>?_)
   refine WC ?_
   (refine Wt ?_;(repeat clear hK K);repeat refine kq fun K hK=>?_)
   refine WD ?_
   refine hK _ (i+1) (by omega) (by omega) ?_
   rw [hkt]
   exact WE
attribute [local go_sem] lga C.pl C.one
theorem OC (r:List Ar):∀ (num old:List Int) (nxt:List Ar),(Cr r num old nxt).2.2.length<=nxt.length+r.length:=by
 induction r with
 | nil=>intro num old nxt;simp [Cr]
 | cons a tl ih=>
  intro num old nxt
  have h1:=ih (AX num old a.2).1 (AX num old a.2).2 (D1 (a.1,(AX num old a.2).1.getD a.2.toNat 0) nxt)
  have h2:=DO (a.1,(AX num old a.2).1.getD a.2.toNat 0) nxt
  simp only [Cr,List.length_cons]
  omega
theorem QE {R:List (List Ar)} {B:Nat} (hb:∀ r∈R,∀ a∈r,0<=a.2/\a.2<(R.length:Int)) (hB:∀ r∈R,r.length<=B):∀ (f i:Nat) (num old:List Int) (out:List (List Ar)),NumOk R.length num old->i=out.length->i<=old.length->(∀ x∈out,x.length<=B)->(F2 R f i num old out).1.length<=R.length/\∀ x∈(F2 R f i num old out).1,x.length<=B:=by
 intro f
 induction f with
 | zero=>
  intro i num old out hN hi ho hx
  have:=hN.le
  exact ⟨by simp only [F2];omega,hx⟩
 | succ f ih=>
  intro i num old out hN hi ho hx
  have hle:=hN.le
  unfold F2
  split
  ·exact ⟨by simp only;omega,hx⟩
  rename_i s hs
  have hs0:=hN.st s (gE9 hs)
  have hsl:s.toNat<R.length:=by omega
  have hg:R.getD s.toNat []=R[s.toNat]:=by rw [gE2,gE1 hsl];rfl
  rw [hg]
  have hil:=(List.getElem?_eq_some_iff.1 hs).1
  have hrm:=gE6 hsl
  generalize R[s.toNat]=r at *
  have hq:∀ a∈Cq r,0<=a.2/\a.2<(R.length:Int):=fun a ha=>hb r hrm a ((C8 r a).1 ha)
  have hN2:=NumOk.go (Cq r) [] hN hq
  have hl2:=OC (Cq r) num old []
  have hl3:=Gj r
  have hl4:=hB r hrm
  refine ih _ _ _ _ hN2 (by simp;omega) ?_ fun x hx2=>?_
  rotate_left
  ·rcases List.mem_append.1 hx2 with h | h
   ·exact hx x h
   simp at h;subst h
   simp only [List.length_nil,Nat.zero_add] at hl2
   omega
  have:∀ (q:List Ar) (num old:List Int) (nxt:List Ar),old.length<=(Cr q num old nxt).2.1.length:=by
   intro q
   induction q with
   | nil=>intro num old nxt;exact Nat.le_refl _
   | cons a tl ih2=>
    intro num old nxt
    simp only [Cr]
    refine Nat.le_trans ?_ (ih2 _ _ _)
    unfold AX
    split <;> simp
  have:=this (Cq r) num old []
  omega
theorem OD {R:List (List Ar)} {B:Nat} (h1:1<=R.length) (hb:∀ r∈R,∀ a∈r,0<=a.2/\a.2<(R.length:Int)) (hB:∀ r∈R,r.length<=B):(BT R).1.length<=R.length/\∀ x∈(BT R).1,x.length<=B:=
 QE hb hB _ _ _ _ _ (NumOk.start h1) rfl (by simp) (by simp)
theorem YF (l:List Int) (c:Int):∀ m:Int,Zk (l++[c]) m=(Zk l m && (!decide (c<0) && !decide (c > ZC m l))):=by
 induction l with
 | nil=>intro m;simp [Zk,ZC]
 | cons a r ih=>
  intro m
  have e:ZC m (a :: r)=ZC (ZB m a) r:=rfl
  simp only [List.cons_append,Zk,ih,e,Bool.and_assoc]
theorem Zr {α:Type} [DecidableEq α] (f:Nat->α) (k:Nat):Zk (Xh f k).1 0=true/\ZC 0 (Xh f k).1=((Xh f k).2:Int):=by
 induction k with
 | zero=>exact ⟨rfl,rfl⟩
 | succ k ih=>
  have hr:=(Cx f k).rng
  rcases FK f k with ⟨t,h1,h2,h3,h4⟩ | ⟨h3,h4⟩
  rotate_left
  ·rw [h4]
   generalize Xh f k=p at *
   simp only [YF,YL,ih.1,ih.2,Bool.true_and,Bool.and_eq_true,Bool.not_eq_true',decide_eq_false_iff_not]
   refine ⟨by omega,?_⟩
   unfold ZB
   rw [if_pos (by omega)]
   omega
  rw [h4]
  have:=hr t h1
  generalize Xh f k=p at *
  simp only [YF,YL,ih.1,ih.2,Bool.true_and,Bool.and_eq_true,Bool.not_eq_true',decide_eq_false_iff_not]
  refine ⟨by omega,?_⟩
  unfold ZB
  rw [if_neg (by omega)]
theorem Nrm.num {n:Nat} {c:List Int} (h:Nrm n c):Zy c n=true:=by
 have h1:=(Zr (fun s=>c.getD s 0) n).1
 have hl:=h.len
 unfold Nrm at h
 rw [h] at h1
 simp [Zy,h1,hl]
def YO (Q:List (List Ar)) (j:Nat):Nat:=((BT Q).2.getD j 0).toNat
theorem Zl {Q:List (List Ar)} (h1:1<=Q.length) (hb:∀ r∈Q,∀ a∈r,0<=a.2/\a.2<(Q.length:Int)):
  0<(BT Q).1.length/\YO Q 0=0/\(∀ j,j<(BT Q).1.length->YO Q j<Q.length)/\(∀ i j,i<(BT Q).1.length->j<(BT Q).1.length->YO Q i=YO Q j->i=j)/\
  (∀ j (a:Ar),j<(BT Q).1.length->a∈Q.getD (YO Q j) []->∃ i:Nat,i<(BT Q).1.length/\(a.1,(i:Int))∈(BT Q).1.getD j []/\YO Q i=a.2.toNat)/\
  (∀ j (a:Ar),j<(BT Q).1.length->a∈(BT Q).1.getD j []->∃ i:Nat,i<(BT Q).1.length/\a.2=(i:Int)/\(a.1,(YO Q i:Int))∈Q.getD (YO Q j) []):=by
 obtain ⟨num,k1,k2,k3,k4,k5,k6⟩:=YU h1 hb
 unfold YO
 generalize BT Q=p at *
 obtain ⟨X,old⟩:=p
 simp only at *
 have hX0:0<X.length:=by rw [k4];exact (List.getElem?_eq_some_iff.1 k5).1
 have ho:∀ j,j<X.length->∃ s:Nat,old[j]?=some (s:Int)/\s<Q.length/\(old.getD j 0).toNat=s/\num[s]?=some (j:Int):=fun j hj=>by
  have hjl:j<old.length:=by omega
  have e:=gE1 hjl
  have h2:=k1.st _ (gE6 hjl)
  have h3:=k3 j _ e
  refine ⟨(old[j]).toNat,by rw [e];congr 1;omega,by omega,by rw [gE2,e];rfl,h3.2⟩
 have hx:∀ (x:Int) (t:Nat),num[t]?=some x->0<=x->x.toNat<X.length/\(old.getD x.toNat 0).toNat=t:=fun x t h h0=>by
  have h2:=k2.inj t x h h0
  have h3:=(List.getElem?_eq_some_iff.1 h2).1
  refine ⟨by omega,?_⟩
  rw [gE2,h2]
  rfl
 refine ⟨hX0,by rw [gE2,k5];rfl,fun j hj=>?_,fun i j hi hj e=>?_,fun j a hj ha=>?_,fun j a hj ha=>?_⟩
 ·obtain ⟨s,h1,h2,h3,h4⟩:=ho j hj
  rw [h3];exact h2
 ·obtain ⟨s,q1,q2,q3,q4⟩:=ho i hi
  obtain ⟨t,p1,p2,p3,p4⟩:=ho j hj
  rw [q3,p3] at e
  subst e
  rw [q4] at p4
  have:=Option.some.inj p4
  omega
 ·obtain ⟨s,q1,q2,q3,q4⟩:=ho j hj
  have hg:=gE1 hj
  obtain ⟨r1,r2⟩:=k6 j _ _ q1 hg
  rw [q3] at ha
  simp only [Int.toNat_natCast] at r1 r2
  obtain ⟨x,hnx,hx0⟩:=r2 a ha
  obtain ⟨p1,p2⟩:=hx x _ hnx hx0
  refine ⟨x.toNat,p1,?_,p2⟩
  rw [gE2,hg,Option.getD_some,r1,C8]
  refine List.mem_map.2 ⟨a,(C8 _ _).2 ha,?_⟩
  rw [gE2,hnx,Option.getD_some]
  congr 1;omega
 obtain ⟨s,q1,q2,q3,q4⟩:=ho j hj
 have hg:=gE1 hj
 obtain ⟨r1,r2⟩:=k6 j _ _ q1 hg
 simp only [Int.toNat_natCast] at r1 r2
 rw [gE2,hg,Option.getD_some,r1,C8] at ha
 obtain ⟨b,hb2,rfl⟩:=List.mem_map.1 ha
 have hb3:=(C8 _ _).1 hb2
 obtain ⟨x,hnx,hx0⟩:=r2 b hb3
 obtain ⟨p1,p2⟩:=hx x _ hnx hx0
 have hbq:0<=b.2:=by
  have hm:Q.getD s []∈Q:=by
   rw [gE2,gE1 q2,Option.getD_some]
   exact gE6 _
  exact (hb _ hm b hb3).1
 refine ⟨x.toNat,p1,?_,?_⟩
 ·rw [gE2,hnx,Option.getD_some];omega
 rw [q3,p2,Int.toNat_of_nonneg hbq];exact hb3
theorem B2 {R:List (List Ar)} (h:BE R=true):Bw (BT R).1<=Bw R:=by
 have hp:UR R:=gE4 h
 have h1:=hp.1
 have hq:=YE (B:=Bw R) hp.2.2.2 R.length 0 _ _ [] R (NumOk.start h1) (NumInj.start h1) (NumSur.start h1) rfl (by simp) (by omega) ⟨by simp,by simp⟩ rfl (fun _ _ _=>rfl) (by simp [Bw])
 exact hq.2.2.2
theorem DlC.uniq {R:List (List Ar)} {c d:List Int} (h1:DlC R c) (h2:DlC R d):c=d:=by
 obtain ⟨B,b1,b2⟩:=h1
 obtain ⟨B',b3,b4⟩:=h2
 have e:=b1.uniq b3
 subst e
 exact b2.uniq b4
theorem Q6 {X:List (List Ar)}:∀ r∈X,r.length<=Bw X:=fun r hr=>by
 obtain ⟨j,hj,rfl⟩:=List.getElem_of_mem hr
 have h:=PH X j
 rw [gE2,gE1 hj,Option.getD_some] at h
 exact h
theorem ID {B:Nat}:∀ {X:List (List Ar)},(∀ r∈X,r.length<=B)->Bw X<=X.length*B
 | [],_=>by simp [Bw]
 | x :: r,h=>by
  have h1:=h x (by simp)
  have h2:=ID (X:=r) fun q hq=>h q (gEf _ hq)
  simp only [Bw,List.map_cons,List.sum_cons,List.length_cons,Nat.succ_mul] at h2 ⊢
  omega
theorem Rg {k m:Nat} {R:List (List Ar)} (h:OkSys k m R) (hm:m=R.length) (h1:1<=R.length) (hn:R.length<=20) (hk:k<=10):Bv R=true/\Bw R<=200/\∀ r∈R,r.length<=10:=by
 subst hm
 have hr:∀ r∈R,r.length<=10:=fun r hr=>Nat.le_trans (h.2 r hr).2.1 hk
 have ht:=ID hr
 exact ⟨gEg ⟨⟨h1,by show R.length<=16384;omega,by show Bw R<=262144;omega,fun r hr=>(h.2 r hr).2.2⟩,fun r hr=>(h.2 r hr).1⟩,by omega,hr⟩
theorem Zm {A R:List (List Ar)} {B:Nat} (h1:∀ r∈A,r.length<=B) (h2:∀ r∈R,r.length<=B):∀ r∈Eo A R,r.length<=B:=fun r hr=>by
 unfold Eo XF at hr
 rcases List.mem_append.1 hr with h | h
 ·exact h1 r h
 ·obtain ⟨q,hq,rfl⟩:=List.mem_map.1 h
  rw [CO]
  exact h2 q hq
def C4 (w:Nat):Ob:=.r ⟨155,1,true,[.v (.int .u64 (w:Int))]⟩
theorem O0 (w k:Nat) (hw:w<2 ^ 64) (hk:k<64):FC Tryz.prog 107 [.a (.c (.s 0 1)),.i (k:Int)] [C4 w] (fun r o=>r=.tup []/\o=[C4 (w ||| 2 ^ k)]):=by
 refine A6 Tryz.func107 rfl (by rw [Tryz.ntmps107];simp) ?_
 rw [Tryz.ntmps107]
 simp only [Bf,C4]
 have q0:(k:Int) / 64=0:=by omega
 have q1:(k:Int).tmod 64=(k:Int):=by rw [Int.tmod_eq_emod_of_nonneg (by omega)];omega
 have q3:=KY hk
 obtain ⟨z,hz,q2⟩:∃ z:Nat,2 ^ k=z/\(1:Int)*2 ^ k=(z:Int):=⟨2 ^ k,rfl,by simp⟩
 rw [hz] at q3 ⊢
 have q4:(z:Int)<18446744073709551616:=by omega
 have q5:(w:Int)<18446744073709551616:=by omega
 (refine Ac 10 [(0,0),(1,0),(2,0),(3,0),(4,1),(5,0),(6,0),(7,0),(8,0),(9,0),(10,2)] (by kernel_rfl) (by kernel_rfl) (by intro c st h;simp [Ae,AF,VT] at h) ?_)
 (refine Wq (an @q0 (an @q1 (an @q2 (an @q4 @q5)))) ?_;repeat clear hK K)
 refine H9 ?_
 refine WH Tryz.results107 ?_
 rfl
theorem LQ (v w:Nat) (hv:v<2 ^ 64) (hw:w<2 ^ 64):FC Tryz.prog 108 [.a (.c (.s 0 1)),.a (.c (.s 1 1))] [C4 v,C4 w] (fun r o=>r=.tup []/\o=[C4 (v ||| w),C4 w]):=by
 refine A6 Tryz.func108 rfl (by rw [Tryz.ntmps108];simp) ?_
 rw [Tryz.ntmps108]
 simp only [Bf,C4]
 (refine Wt ?_;(repeat clear hK K);repeat refine kq fun K hK=>?_)
 refine A8 (fun k:Nat=>{ tm:=[(0,.a (.c (.s 0 1))),(1,.a (.c (.s 1 1))),(6,.i 1),(7,.i k)],hp:=[C4 (if k=0 then v else v ||| w),C4 w],n:=21,pin:=2 }) (fun k=>k<=1) (fun k=>1 - k) 0 ?_ ?_ ?_
 ·omega
 ·simp only [if_true,C4]
  exact WE
 rintro k hk K hK
 have q1:(v:Int)<18446744073709551616:=by omega
 have d0:decide ((0:Int)<1)=true:=by decide
 have d1:decide ((1:Int)<1)=false:=by decide
 have q2:(w:Int)<18446744073709551616:=by omega
 by_cases h0:k=0
 rotate_left
 ·have hk1:k=1:=by omega
  subst hk1
  simp only [show ¬ (1:Nat)=0 from by omega,if_false,C4,Int.natCast_one]
  (refine Wu @d1 ?_;(repeat clear hK K);repeat refine kq fun K hK=>?_)
  refine WC ?_
  (refine Df ?_;simp only [Ae,AF,reduceIte,Nat.reduceEqDiff])
  exact M6 Tryz.results108
 subst h0
 simp only [if_true,C4,Int.natCast_zero]
 (refine Wu @d0 ?_;(repeat clear hK K);repeat refine kq fun K hK=>?_)
 refine WB ?_
 (refine Wt ?_;(repeat clear hK K);repeat refine kq fun K hK=>?_)
 (refine Ac 10 [(0,0),(1,0),(2,0),(3,1),(4,0),(5,0),(6,0),(7,1),(8,0),(9,0),(10,2)] (by kernel_rfl) (by kernel_rfl) (by intro c st h;simp [Ae,AF,VT] at h) ?_)
 (refine Wq (an @q1 @q2) ?_;repeat clear hK K)
 (refine Wt ?_;(repeat clear hK K);repeat refine kq fun K hK=>?_)
 refine WD ?_
 refine hK _ 1 (by omega) (by omega) ?_
 simp only [show ¬ (1:Nat)=0 from by omega,if_false,C4]
 exact WE
theorem UZ (w:Nat) (hw:w<2 ^ 64):FC Tryz.prog 136 [.a (.c (.v (.int .u64 (w:Int))))] [] (fun r o=>o=[]/\r=.i (Lib.ctz 64 w)):=by
 have h:=(UO [.a (.c (.v (.int .u64 (w:Int))))] (.i (Lib.ctz 64 w)) (by simp [UN];omega)).2.2
 exact h
set_option maxHeartbeats 1000000 in
theorem St (w:Nat) (hw:w<2 ^ 64):FC Tryz.prog 110 [.a (.c (.s 0 1))] [C4 w] (fun r o=>r=.a (.c (.s 1 (AQ w).length))/\o=[C4 w,AA (AQ w)]):=by
 refine A6 Tryz.func110 rfl (by rw [Tryz.ntmps110];simp) ?_
 rw [Tryz.ntmps110]
 simp only [Bf,C4]
 (refine Wt ?_;(repeat clear hK K);repeat refine kq fun K hK=>?_)
 refine Au (CT 3 3 1 ?_) ?_
 ·simp only [go_sem]
 refine A8 (fun k:Nat=>{ tm:=[(3,.a (.c (.s 1 (if k=0 then 0 else (AQ w).length)))),(6,.a (.c (.s 0 1))),(7,.i 1),(8,.i k)],hp:=[C4 w,AA (if k=0 then [] else AQ w)],n:=29,pin:=1 }) (fun k=>k<=1) (fun k=>1 - k) 0 ?_ ?_ ?_
 ·omega
 ·simp only [if_true,C4,AA,A7,List.map_nil]
  exact WE
 rintro k hk K hK
 have q2:(w:Int)<18446744073709551616:=by omega
 have d0:decide ((0:Int)<1)=true:=by decide
 have d1:decide ((1:Int)<1)=false:=by decide
 by_cases h0:k=0
 rotate_left
 ·have hk1:k=1:=by omega
  subst hk1
  simp only [show ¬ (1:Nat)=0 from by omega,if_false,C4,Int.natCast_one,AA]
  (refine Wu @d1 ?_;(repeat clear hK K);repeat refine kq fun K hK=>?_)
  refine WC ?_
  (refine Wx ?_;repeat clear hK K)
  (refine Wt ?_;(repeat clear hK K);repeat refine kq fun K hK=>?_)
  ((try refine Av ?_);(try simp only [Ae,AF]);refine B6 (A9 [0,1] rfl rfl) ?_;(try simp only [List.set_nil,List.take_nil,List.take_zero,List.map_append,go_sem]);((try refine Av ?_);(try refine Aa ?_);(try simp only [Ae,AF]);refine Bj (by first | exact .inl rfl | exact .inr rfl) rfl ?_;simp only [VU,Dy,Du,DL,Tryz.results110,go_sem,true_and,and_true,Af,AA]))
 subst h0
 simp only [if_true,C4,Int.natCast_zero,AA]
 (refine Wu @d0 ?_;(repeat clear hK K);repeat refine kq fun K hK=>?_)
 refine WB ?_
 (refine Wt ?_;(repeat clear hK K);repeat refine kq fun K hK=>?_)
 refine A8 (fun x:List Int × Nat=>{ tm:=[(3,.a (.c (.s 1 x.1.length))),(4,.i 0),(5,.a (.c (.v (.int .u64 (x.2:Int))))),(6,.a (.c (.s 0 1))),(7,.i 1),(8,.i 0)],hp:=[C4 w,AA x.1],n:=29,pin:=1 }) (fun x=>x.1++AQ x.2=AQ w/\x.2<2 ^ 64) (fun x=>x.2) ([],w) ?_ ?_ ?_
 ·exact ⟨rfl,hw⟩
 ·simp only [C4,AA,A7,List.map_nil,List.length_nil]
  exact WE
 rintro ⟨L,z⟩ ⟨hL,hz⟩ K hK
 simp only at hL hz
 simp only [C4,AA]
 have hLl:L.length<=64:=by have h1:=CP w;rw [<- hL,List.length_append] at h1;omega
 by_cases hz0:z=0
 ·subst hz0
  rw [LP,List.append_nil] at hL
  subst hL
  have d2:(((0:Nat):Int) != 0)=false:=rfl
  (refine Wt ?_;(repeat clear hK K);repeat refine kq fun K hK=>?_)
  simp only [d2]
  refine WC ?_
  (refine Wx ?_;repeat clear hK K)
  (refine Wt ?_;(repeat clear hK K);repeat refine kq fun K hK=>?_)
  refine WD ?_
  refine hK _ 1 (by omega) (by omega) ?_
  simp only [show ¬ (1:Nat)=0 from by omega,if_false,C4,AA]
  exact WE
 obtain ⟨h1,h2,h3⟩:=NW (w:=z) (by omega) hz
 have d1:((z:Int) != 0)=true:=by simpa using hz0
 have q3:(z:Int)<18446744073709551616:=by omega
 have q4:((z:Int) - 1).toNat=z - 1:=by omega
 rw [h3] at hL
 have hnz:(z &&& (z - 1))<2 ^ 64:=by omega
 (refine Wt ?_;(repeat clear hK K);repeat refine kq fun K hK=>?_)
 simp only [d1]
 refine WB ?_
 (refine Wt ?_;(repeat clear hK K);repeat refine kq fun K hK=>?_)
 (refine Wy (UZ z hz) ?_;intro K1 hK1)
 rintro _ _ ⟨rfl,rfl⟩
 (refine Wz ?_;clear hK1 K1)
 (refine Wu (an @List.set_cons_zero.{0} (an @List.set_cons_succ.{0} (an @List.take_succ_cons.{0} (an @List.take_zero.{0} (an @List.drop_zero.{0} (an @List.length_take.{0} (an @List.length_drop.{0} (an @List.length_append.{0} (an @A4 (an @Az (an @AN (an @Bm (an @A5 (an @AU (an @AE (an @B1 (an @AG (an @AM (an @q4 @q3))))))))))))))))))) ?_;(repeat clear hK K);repeat refine kq fun K hK=>?_)
 refine WD ?_
 refine hK _ (L++[(Lib.ctz 64 z:Int)],z &&& (z - 1)) ⟨by rw [<- hL];simp,hnz⟩ h2 ?_
 refine Le.trans (A9 [0,3] rfl rfl) ?_
 (try simp only [List.set_nil,List.take_nil,List.take_zero,List.map_append,go_sem])
 (try simp only [Af])
 simp only [C4,AA,List.take_length,Int.zero_mul,Int.zero_add]
 exact WE
theorem H2 {P:Program} {c:Code} {st:ST} {Q:Exit->ST->Prop} (F:List Ob->Prop) (hF:F st.hp) (h:∀ G,F G->AW P c { st with hp:=G } Q):AW P c st Q:=h _ hF
theorem BC {P:Program} {ops:Array Oper} {l:List Oper} {st:ST} {K:ST->Prop} (F:List Ob->Prop) (hF:F st.hp) (h:∀ G,F G->VQ P ops l { st with hp:=G } K):VQ P ops l st K:=h _ hF
def Pre (H G:List Ob):Prop:=H.length<=G.length/\∀ i,i<H.length->G[i]?=H[i]?
theorem Pre.refl (H:List Ob):Pre H H:=⟨Nat.le_refl _,fun _ _=>rfl⟩
theorem Pre.trans {A B C:List Ob} (h:Pre A B) (k:Pre B C):Pre A C:=⟨Nat.le_trans h.1 k.1,fun i hi=>(k.2 i (Nat.lt_of_lt_of_le hi h.1)).trans (h.2 i hi)⟩
theorem Pre.push (H:List Ob) (y:Ob):Pre H (H++[y]):=⟨by simp,fun i hi=>gEa hi⟩
theorem Pre.at {H G:List Ob} (h:Pre H G) {i:Nat} {y:Ob} (hx:H[i]?=some y):G[i]?=some y:=by
 rw [h.2 i (List.getElem?_eq_some_iff.1 hx).1];exact hx
theorem Pre.set {H G:List Ob} (h:Pre H G) {i:Nat} (hi:H.length<=i) (y:Ob):Pre H (G.set i y):=⟨by rw [List.length_set];exact h.1,fun j hj=>by rw [gE5 (by omega)];exact h.2 j hj⟩
theorem Br {H:List Ob} {i:Nat} {y:Ob} (h:H[i]?=some y):i<H.length:=(List.getElem?_eq_some_iff.1 h).1
theorem FN {H:List Ob} {i:Nat} {y:Ob} (h:H[i]?=some y):H.set i y=H:=by
 refine List.ext_getElem? fun j=>?_
 by_cases e:i=j
 ·subst e;rw [gEc (Br h),h]
 rw [gE5 e]
theorem Bp (H:List Ob) (y:Ob):(H++[y])[H.length]?=some y:=by simp
theorem Ul {H:List Ob} (h:H.all Cd=true) {i:Nat} {y:Ob} (hx:H[i]?=some y):Cd y=true:=List.all_eq_true.1 h _ (gE9 hx)
theorem Bi {H:List Ob} (h:H.all Cd=true) {y:Ob} (hx:Cd y=true):(H++[y]).all Cd=true:=by simp [List.all_append,h,hx]
theorem C2 {H:List Ob} (h:H.all Cd=true) {y:Ob} (hx:Cd y=true) (i:Nat):(H.set i y).all Cd=true:=by
 rw [List.all_eq_true]
 intro y hy
 rcases List.mem_or_eq_of_mem_set hy with h2 | h2
 ·exact List.all_eq_true.1 h _ h2
 rw [h2];exact hx
theorem Hz {H:List Ob} (h:H.all Cd=true):∀ (i:Nat) (o:Ob),H[i]?=some o->Cd o=true:=fun _ _ hx=>Ul h hx
section
variable {o : Oper} {st : ST} {K : ST -> Prop}
theorem D0 {H:List Ob} {i:Nat} {y z:Ob} (h:H[i]?=some y):H.getD i z=y:=by rw [gE2,h];rfl
theorem HA (w:Nat) (ρ:List Nat):(C4 w).ren ρ=C4 w:=rfl
theorem JA (w:Nat) (f:Nat->Nat):(C4 w).up f=C4 w:=rfl
theorem Ej {x y:Operand} {ts:Array TypeId} {a b v w:Nat} (hd:VJ o st.n=true) (ho:o.op=.call { callee:=.value (.func 108),args:=#[x,y],argTypes:=ts }) (hx:st.ev x=.a (.c (.s a 1))) (hy:st.ev y=.a (.c (.s b 1))) (ha:st.hp[a]?=some (C4 v)) (hb:st.hp[b]?=some (C4 w)) (hne:a ≠ b) (hv:v<2 ^ 64) (hw:w<2 ^ 64)
  (hnb:Fi [a,b] st.tm=st.tm) (h:K ({ st with hp:=st.hp.set a (C4 (v ||| w)) }.put o.dst (.tup []))):Stp Tryz.prog o st K:=by
 have i1:idx [a,b] a 0=some 0:=by simp [idx]
 have i2:idx [a,b] b 0=some 1:=by simp [idx,hne]
 refine AH (ids:=[]) [a,b] (LQ v w hv hw) hd ho rfl (by kernel_rfl) (by simp [Ba,hne]) (by simp [Br ha,Br hb]) ?_ ?_ ?_ ?_
 ·simp [hx,hy,Em,AV.ren,A0.ren,C.ren,i1,i2]
 ·simp only [VS,List.map_cons,List.map_nil,D0 ha,D0 hb,HA]
 ·rintro r outs ⟨rfl,rfl⟩;rfl
 rintro r outs ⟨rfl,rfl⟩
 have e:st.back [a,b] [C4 (v ||| w),C4 w]={ st with hp:=st.hp.set a (C4 (v ||| w)) }:=by
  unfold ST.back
  rw [hnb]
  simp only [List.map_cons,List.map_nil,JA,Cb,List.append_nil]
  rw [FN (by rw [gE5 hne];exact hb)]
 rw [e];exact h
theorem LS {x y:Operand} {ts:Array TypeId} {a v k:Nat} (hd:VJ o st.n=true) (ho:o.op=.call { callee:=.value (.func 107),args:=#[x,y],argTypes:=ts }) (hx:st.ev x=.a (.c (.s a 1))) (hy:st.ev y=.i (k:Int)) (ha:st.hp[a]?=some (C4 v)) (hv:v<2 ^ 64) (hk:k<64)
  (hnb:Fi [a] st.tm=st.tm) (h:K ({ st with hp:=st.hp.set a (C4 (v ||| 2 ^ k)) }.put o.dst (.tup []))):Stp Tryz.prog o st K:=by
 have i1:idx [a] a 0=some 0:=by simp [idx]
 refine AH (ids:=[]) [a] (O0 v k hv hk) hd ho rfl (by kernel_rfl) rfl (by simp [Br ha]) ?_ ?_ ?_ ?_
 ·simp [hx,hy,Em,AV.ren,A0.ren,C.ren,i1,AV.i]
 ·simp only [VS,List.map_cons,List.map_nil,D0 ha,HA]
 ·rintro r outs ⟨rfl,rfl⟩;rfl
 rintro r outs ⟨rfl,rfl⟩
 have e:st.back [a] [C4 (v ||| 2 ^ k)]={ st with hp:=st.hp.set a (C4 (v ||| 2 ^ k)) }:=by
  unfold ST.back
  rw [hnb]
  simp only [List.map_cons,List.map_nil,JA,Cb,List.append_nil]
 rw [e];exact h
theorem L1 {x:Operand} {ts:Array TypeId} {a w:Nat} (hd:VJ o st.n=true) (ho:o.op=.call { callee:=.value (.func 110),args:=#[x],argTypes:=ts }) (hx:st.ev x=.a (.c (.s a 1))) (ha:st.hp[a]?=some (C4 w)) (hw:w<2 ^ 64)
  (hnb:Fi [a] st.tm=st.tm) (h:K ({ st with hp:=st.hp++[AA (AQ w)] }.put o.dst (.a (.c (.s st.hp.length (AQ w).length))))):Stp Tryz.prog o st K:=by
 have i1:idx [a] a 0=some 0:=by simp [idx]
 refine AH (ids:=[]) [a] (St w hw) hd ho rfl (by kernel_rfl) rfl (by simp [Br ha]) ?_ ?_ ?_ ?_
 ·simp [hx,Em,AV.ren,A0.ren,C.ren,i1]
 ·simp only [VS,List.map_cons,List.map_nil,D0 ha,HA]
 ·rintro r outs ⟨rfl,rfl⟩;rfl
 rintro r outs ⟨rfl,rfl⟩
 have e:st.back [a] [C4 w,AA (AQ w)]={ st with hp:=st.hp++[AA (AQ w)] }:=by
  unfold ST.back
  rw [hnb]
  have e2:(AA (AQ w)).up (VV [a] st.hp.length)=AA (AQ w):=by simp [AA,Ob.up,BQ]
  simp only [List.map_cons,List.map_nil,JA,Cb,e2]
  rw [FN ha]
 rw [e]
 have e3:(AV.a (.c (.s 1 (AQ w).length))).up (VV [a] st.hp.length)=.a (.c (.s st.hp.length (AQ w).length)):=by simp [AV.up,A0.up,C.up,VV]
 rw [e3];exact h
end
def Y4 (V:List (Int × Nat × Nat)):List (Value × C):=V.map fun p=>(.int .i64 p.1,.s p.2.1 1)
theorem Cu (V:List (Int × Nat × Nat)):(Y4 V).length=V.length:=by simp [Y4]
theorem O3 {V:List (Int × Nat × Nat)} {j:Nat} {p:Int × Nat × Nat} (h:V[j]?=some p):(Y4 V)[j]?=some (.int .i64 p.1,.s p.2.1 1):=by simp [Y4,h]
theorem Gu (V:List (Int × Nat × Nat)):(Y4 V).all (fun p=>p.2.pl)=true:=by
 rw [List.all_eq_true]
 intro p hp
 obtain ⟨q,_,rfl⟩:=List.mem_map.1 hp
 rfl
theorem Rl (V:List (Int × Nat × Nat)):Cd (.m (Y4 V))=true:=Gu V
theorem L3 (V:List (Int × Nat × Nat)):Pe (Y4 V)=false:=by
 cases V with
 | nil=>rfl
 | cons p V=>rfl
theorem L4 {e:Int}:∀ {V:List (Int × Nat × Nat)},(∀ p∈V,p.1 ≠ e)->∀ i,BJ .ki (.int .i64 e) (Y4 V) i=some none
 | [],_,_=>rfl
 | p :: V,h,i=>by
  have h1:(e == p.1)=false:=by have:=h p List.mem_cons_self;simp only [beq_eq_false_iff_ne,ne_eq];exact fun x=>this x.symm
  simp only [Y4,List.map_cons,BJ,BZ,h1]
  exact L4 (fun q hq=>h q (gEf _ hq)) (i+1)
theorem FO {e:Int}:∀ {V:List (Int × Nat × Nat)},(V.map (·.1)).Nodup->∀ {p},p∈V->p.1=e->∀ i,∃ j,BJ .ki (.int .i64 e) (Y4 V) i=some (some (j,.s p.2.1 1))
 | [],_,_,hp,_,_=>by simp at hp
 | q :: V,hn,p,hp,he,i=>by
  simp only [List.map_cons,List.nodup_cons] at hn
  rcases List.mem_cons.1 hp with rfl | hp
  ·exact ⟨i,by simp [Y4,BJ,BZ,he]⟩
  ·have h1:(e == q.1)=false:=by
    simp only [beq_eq_false_iff_ne,ne_eq]
    intro x
    exact hn.1 (by rw [<- x,<- he];exact List.mem_map.2 ⟨p,hp,rfl⟩)
   simp only [Y4,List.map_cons,BJ,BZ,h1]
   exact FO hn.2 hp he (i+1)
theorem LT (e:Int):Fj .ki (.int .i64 e)=true:=by simp [Fj,BZ]
def SJ (H:List Ob) (mid:Nat) (V:List (Int × Nat × Nat)) (e:Int) (w:Nat) (G:List Ob):Prop:=
 (∃ p∈V,p.1=e/\G=H.set p.2.1 (C4 (p.2.2 ||| w)))\/((∀ p∈V,p.1 ≠ e)/\G=(H++[C4 w]).set mid (.m (Y4 (V++[(e,H.length,w)]))))
set_option maxHeartbeats 1000000 in
theorem Um (H:List Ob) (vb sb mid yid:Nat) (V:List (Int × Nat × Nat)) (e:Int) (w:Nat) (hvb:H[vb]?=some (.r ⟨138,1,false,[.m mid]⟩)) (hsb:H[sb]?=some (.r ⟨3,1,false,[.v (.int .i64 1)]⟩)) (hm:H[mid]?=some (.m (Y4 V))) (hy:H[yid]?=some (C4 w))
  (hnd:(V.map (·.1)).Nodup) (hV:∀ p∈V,H[p.2.1]?=some (C4 p.2.2)/\p.2.2<2 ^ 64/\p.2.1 ≠ yid) (hw:w<2 ^ 64) (hok:H.all Cd=true):
  FC Tryz.prog 109 [.i e,.a (.c (.s yid 1)),.a (.c (.p vb 0)),.a (.c (.p sb 0))] H (fun r o=>r=.tup []/\SJ H mid V e w o/\o.all Cd=true):=by
 refine A6 Tryz.func109 rfl (by rw [Tryz.ntmps109];simp) ?_
 rw [Tryz.ntmps109]
 simp only [Bf]
 have hpl:=Gu V
 have hml:=Br hm
 have hyl:=Br hy
 by_cases hex:∃ p∈V,p.1=e
 ·obtain ⟨p,hp,he⟩:=hex
  obtain ⟨j,hf⟩:=FO hnd hp he 0
  obtain ⟨hp1,hp2,hp3⟩:=hV p hp
  (refine Wu @hvb ?_;(repeat clear hK K);repeat refine kq fun K hK=>?_)
  (refine Ai rfl ?_;intro K1 hK1;refine Ci (id:=mid) (kv:=Y4 V) (zv:=.slice none 0 0) Tryz.underlying138 (EQ Tryz.underlying3) rfl rfl rfl (by simp only [go_sem,hvb]) hm hpl (by simp only [go_sem,EP]) (LT e) hf ?_;simp only [go_sem,XX];refine hK1 _ ?_;clear hK1 K1)
  (refine Ai rfl ?_;intro K1 hK1;refine J4 rfl rfl Tryz.underlying135 (.inl rfl) (.inr ⟨p.2.1,1,by simp only [go_sem],?_⟩);intro b hb;have hb2:b=false:=(by cases b with | false=>rfl | true=>exact absurd (hb rfl) (by omega));subst hb2;simp only [go_sem,if_true];refine hK1 _ ?_;clear hK1 K1)
  (refine Wt ?_;(repeat clear hK K);repeat refine kq fun K hK=>?_)
  refine WC ?_
  (refine Wu @hvb ?_;(repeat clear hK K);repeat refine kq fun K hK=>?_)
  (refine Ai rfl ?_;intro K1 hK1;refine Ci (id:=mid) (kv:=Y4 V) (zv:=.slice none 0 0) Tryz.underlying138 (EQ Tryz.underlying3) rfl rfl rfl (by simp only [go_sem,hvb]) hm hpl (by simp only [go_sem,EP]) (LT e) hf ?_;simp only [go_sem,XX];refine hK1 _ ?_;clear hK1 K1)
  (refine Wt ?_;(repeat clear hK K);repeat refine kq fun K hK=>?_)
  (refine Ai rfl ?_;intro K1 hK1;refine Ej (a:=p.2.1) (b:=yid) (v:=p.2.2) (w:=w) rfl rfl (by simp only [go_sem]) (by simp only [go_sem]) hp1 hy hp3 hp2 hw (by simp [Fi,AV.nb,A0.nb,C.nb]) ?_;simp only [go_sem];refine hK1 _ ?_;clear hK1 K1)
  refine WH Tryz.results109 ?_
  exact ⟨.inl ⟨p,hp,he,rfl⟩,C2 hok rfl _⟩
 have hno:∀ p∈V,p.1 ≠ e:=fun p hp he=>hex ⟨p,hp,he⟩
 have hf:=L4 hno 0
 obtain ⟨j,hf2⟩:=FO (V:=V++[(e,H.length,w)]) (by rw [List.map_append,List.nodup_append];exact ⟨hnd,by simp,fun a ha b hb=>by
  obtain ⟨p,hp,rfl⟩:=List.mem_map.1 ha
  simp only [List.map_cons,List.map_nil,List.mem_singleton] at hb
  rw [hb];exact hno p hp⟩) (List.mem_append_right _ List.mem_cons_self) rfl 0
 have hkv:Y4 V++[(Value.int .i64 e,C.s H.length 1)]=Y4 (V++[(e,H.length,w)]):=by simp [Y4]
 have hpl2:=Gu (V++[(e,H.length,w)])
 (refine Wu @hvb ?_;(repeat clear hK K);repeat refine kq fun K hK=>?_)
 (refine Ai rfl ?_;intro K1 hK1;refine Ci (id:=mid) (kv:=Y4 V) (zv:=.slice none 0 0) Tryz.underlying138 (EQ Tryz.underlying3) rfl rfl rfl (by simp only [go_sem,hvb]) hm hpl (by simp only [go_sem,EP]) (LT e) hf ?_;simp only [go_sem,XX];refine hK1 _ ?_;clear hK1 K1)
 (refine Ai rfl ?_;intro K1 hK1;refine Pd rfl rfl Tryz.underlying135 (.inl rfl) (b:=true) (.inl ⟨rfl,by simp only [go_sem]⟩) ?_;simp only [go_sem,if_true];refine hK1 _ ?_;clear hK1 K1)
 (refine Wt ?_;(repeat clear hK K);repeat refine kq fun K hK=>?_)
 refine WB ?_
 (refine AJ [] (.m 1 0 0 (.m 0 1 4 (.m 2 1 3 (.a 3 (.a 4 .e))))) (by kernel_rfl) (by kernel_rfl) (by intro c st h;simp [Ae,AF,VT] at h) ?_)
 (refine Ww (an @hvb @hsb) ?_;repeat clear hK K)
 (refine Wj rfl rfl ?_;intro K1 hK1;refine Bx rfl ?_;simp only [go_sem];(first | refine hK1 _ ?_ | refine AD (hK1 _ ?_));clear hK1 K1)
 have hrep:(List.replicate (Int.toNat 1) (C.v (.int .u64 0)))=[C.v (.int .u64 ((0:Nat):Int))]:=rfl
 simp only [hrep]
 (refine Wk rfl rfl rfl rfl ?_;intro K1 hK1;refine GY (id:=mid) (kv:=Y4 V) (c:=.s H.length 1) Tryz.underlying138 (EQ Tryz.underlying3) rfl rfl (by simp only [go_sem]) ((Pre.push _ _).at hm) hpl (by simp only [go_sem,EP]) (LT e) (by simp only [go_sem];rfl) rfl hf ?_;simp only [go_sem,hkv];refine hK1 _ ?_;clear hK1 K1)
 refine CL ⟨by simp,by simp,?_⟩
 (try simp only [Ae,AF])
 refine hK _ ?_
 clear hK K
 have hvm:mid ≠ vb:=by rintro rfl;rw [hm] at hvb;cases hvb
 have hym:mid ≠ yid:=by rintro rfl;rw [hm] at hy;cases hy
 have hnm:mid ≠ H.length:=by omega
 refine H2 (fun G=>G=(H++[C4 0]).set mid (.m (Y4 (V++[(e,H.length,w)])))) rfl ?_
 intro G hG
 simp only
 have g1:G[vb]?=some (.r ⟨138,1,false,[.m mid]⟩):=by rw [hG,gE5 hvm];exact (Pre.push _ _).at hvb
 have g2:G[mid]?=some (.m (Y4 (V++[(e,H.length,w)]))):=by rw [hG,gEc (by simp;omega)]
 have g3:G[yid]?=some (C4 w):=by rw [hG,gE5 hym];exact (Pre.push _ _).at hy
 have g4:G[H.length]?=some (C4 0):=by rw [hG,gE5 hnm];exact Bp _ _
 have g5:G.all Cd=true:=by rw [hG];exact C2 (Bi hok rfl) (Rl _) _
 have hend:G.set H.length (C4 (0 ||| w))=(H++[C4 w]).set mid (.m (Y4 (V++[(e,H.length,w)]))):=by
  rw [hG,Nat.zero_or,List.set_comm _ _ hnm]
  congr 1
  rw [List.set_append_right _ _ (Nat.le_refl _)];simp
 clear hG
 (refine Wu @g1 ?_;(repeat clear hK K);repeat refine kq fun K hK=>?_)
 (refine Ai rfl ?_;intro K1 hK1;refine Ci (id:=mid) (kv:=Y4 (V++[(e,H.length,w)])) (zv:=.slice none 0 0) Tryz.underlying138 (EQ Tryz.underlying3) rfl rfl rfl (by simp only [go_sem,g1]) g2 hpl2 (by simp only [go_sem,EP]) (LT e) hf2 ?_;simp only [go_sem,XX];refine hK1 _ ?_;clear hK1 K1)
 (refine Wt ?_;(repeat clear hK K);repeat refine kq fun K hK=>?_)
 (refine Ai rfl ?_;intro K1 hK1;refine Ej (a:=H.length) (b:=yid) (v:=0) (w:=w) rfl rfl (by simp only [go_sem]) (by simp only [go_sem]) g4 g3 (by omega) (by omega) hw (by simp [Fi,AV.nb,A0.nb,C.nb]) ?_;simp only [go_sem];refine hK1 _ ?_;clear hK1 K1)
 refine WH Tryz.results109 ?_
 rw [hend]
 exact ⟨.inr ⟨hno,rfl⟩,C2 (Bi hok rfl) (Rl _) _⟩
end Go.Proofs.YtjijjfkalheokaaGreatDoor
