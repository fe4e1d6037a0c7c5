/- Lemmas. -/
import Derived.Test.YtbnabodoabimnaaGreatZk
import Derived.Test.YtbnabodoabimnaaGreatG12
namespace Go.Proofs.YtbnabodoabimnaaGreat
set_option linter.unusedVariables false
set_option linter.unusedSimpArgs false
open Go.RowKit
set_option maxRecDepth 100000
attribute [local go_sem] List.set_cons_zero List.set_cons_succ List.map_cons List.map_nil List.take_succ_cons List.take_zero List.drop_zero List.drop_succ_cons C.pl C.one List.all_cons List.all_nil Bool.and_true

theorem Cn (L:List C) (s:Nat) (x y:C):(L.set s x).set s y=L.set s y:=by simp
set_option maxHeartbeats 2000000 in
theorem MK (bd:Nat) (hbd:bd<=1000) (T:List Int) (hT:TpOk T) (a:Nat) (R:List (List Ar)) (ha:a<=1000000) (h1:1<=R.length) (hn:R.length<=20) (hr:∀ r∈R,r.length<=bd):
  FC Tryz.prog 24 [.a (.c (.p 0 0)),Ba R] [tape T a] (fun r o=>∃ (a':Nat) (R':List (List Ar)),o=[tape T a',Kb R']/\r=Ba R'/\a'<=a+4/\R'.length<=R.length/\∀ q∈R',q.length<=2*bd+1):=by
 refine A7 Tryz.func24 rfl (by rw [Tryz.ntmps24];simp) ?_
 rw [Tryz.ntmps24]
 simp only [B4,tape,Ba,Kb]
 have e0:((R.length:Int) == 0)=false:=beq_eq_false_iff_ne.2 (by omega)
 (refine VV ?_;(repeat clear hK K);repeat refine kq fun K hK=>?_)
 (refine W0 (P0 R (by omega) (fun q hq=>by have:=hr q hq;omega)) ?_;intro K1 hK1)
 rintro _ _ ⟨rfl,rfl⟩
 (simp only [Ap,AC,Cd,List.append_nil,List.nil_append,List.length_map,go_sem];refine hK1 _ ?_;clear hK1 K1)
 (refine VW @e0 ?_;(repeat clear hK K);repeat refine kq fun K hK=>?_)
 refine W3 ?_
 refine As (A8 [0,2,3,5] rfl rfl) ?_
 (try simp only [List.set_nil,List.take_nil,List.take_zero,List.map_append,go_sem])
 (try simp only [EY])
 (refine VV ?_;(repeat clear hK K);repeat refine kq fun K hK=>?_)
 (refine Aj rfl ?_;intro K1 hK1;refine ct [0] (CY T a R.length hT (by omega) (by omega)) ?_ ?_)
 ·rintro _ _ ⟨rfl,v,rfl,_⟩;rfl
 rintro _ _ ⟨rfl,s,rfl,hs⟩
 (simp only [Ap,AC,tape,Cd,List.append_nil,List.nil_append,List.length_map,go_sem];refine hK1 _ ?_;clear hK1 K1)
 replace hs:s<R.length:=by omega
 (refine VV ?_;(repeat clear hK K);repeat refine kq fun K hK=>?_)
 have hgs:=gE1 hs
 have hrs:=hr _ (gE6 hs)
 have hK2:∀ (st':ST) (e t:Int) (a3:Nat),a3<=a+3->Le st' { tm:=[(0,.a (.c (.p 0 0))),(4,.a (.c (.p 1 0))),(5,.a (.c (.p 3 0))),(6,.i s),(7,.a (.c (.p 4 0)))],hp:=[.r ⟨66,2,false,[.t 1 (Ac T),.v (.int .i64 a3)]⟩,.r ⟨27,1,false,[.v (.slice none 0 0)]⟩,.r ⟨24,1,true,AJ R⟩,.r ⟨27,1,false,[.s 2 R.length]⟩,.r ⟨23,2,false,[.v (.int .i64 e),.v (.int .i64 t)]⟩],n:=130,pin:=1 }->K st':=by
  intro st' e t a3 ha3 hl
  refine hK st' (As hl ?_)
  clear hl hK K
  (refine VV ?_;(repeat clear hK K);repeat refine kq fun K hK=>?_)
  (refine Aj rfl ?_;intro K1 hK1;refine ct [0] (CY T a3 7 hT (by omega) (by omega)) ?_ ?_)
  ·rintro _ _ ⟨rfl,v,rfl,_⟩;rfl
  rintro _ _ ⟨rfl,v,rfl,hv⟩
  (simp only [Ap,AC,tape,Cd,List.append_nil,List.nil_append,List.length_map,go_sem];refine hK1 _ ?_;clear hK1 K1)
  obtain ⟨a4,ha4⟩:∃ a4,a4=a3+1:=⟨_,rfl⟩
  rw [<- ha4]
  rcases (show v=0\/v=1\/v=2\/v=3\/v=4\/v=5\/v=6 by omega) with rfl | rfl | rfl | rfl | rfl | rfl | rfl
  rotate_left 4
  ·(repeat (((repeat (first | (refine AA ?_;intro K hK) | refine Ai ?_ | refine Ag ?_ | (refine AX rfl rfl ?_;intro K1 hK1;simp only [go_sem,Int.cast_ofNat_Int,Int.reduceBEq,Int.reduceNeg];(first | refine hK1 _ ?_ | refine AE (hK1 _ ?_));clear hK1 K1) | ((first | refine Aa ?_ | refine Am ?_);refine hK _ ?_;clear hK K))));(refine Ah ?_;intro X Y hX hY;simp only [go_sem,Int.cast_ofNat_Int,Int.reduceBEq]);(first | refine hX ?_ | refine hY ?_);clear hX hY X Y))
   (repeat (first | (refine AA ?_;intro K hK) | refine Ai ?_ | refine Ag ?_ | (refine AX rfl rfl ?_;intro K1 hK1;simp only [go_sem,Int.cast_ofNat_Int,Int.reduceBEq];(first | refine hK1 _ ?_ | refine AE (hK1 _ ?_));clear hK1 K1) | ((first | refine Aa ?_ | refine Am ?_);refine hK _ ?_;clear hK K)))
   (refine AF [3] (.m 0 0 0 (.m 2 0 0 (.m 3 0 0 (.m 5 0 0 (.m 8 0 0 (.m 1 1 14 (.m 4 1 12 (.m 6 0 0 (.m 7 1 12 (.m 9 1 11 (.m 10 0 0 (.a 11 (.a 12 (.m 13 0 0 (.a 14 .e))))))))))))))) (by kernel_rfl) (by kernel_rfl) (by intro c st h;simp [Ad,Ay,Vl] at h) ?_)
   (refine VY (an @AP (Bg hgs)) ?_;repeat clear hK K)
   (refine VL rfl rfl ?_;intro K1 hK1;refine Bl rfl ?_;simp only [go_sem];(first | refine hK1 _ ?_ | refine AE (hK1 _ ?_));clear hK1 K1)
   (refine E3 rfl rfl rfl ?_;intro K1 hK1;refine Cl rfl rfl rfl rfl (by first | rfl | simp only [Ct,List.getD_cons_zero,List.getD_cons_succ,hne,List.isEmpty_cons,Bool.not_false,Bool.true_and,Bool.and_true,Bool.and_self]) rfl ?_;simp only [go_sem,Cm,A3,Aq,B9,Bg hgs];(first | refine hK1 _ ?_ | refine AE (hK1 _ ?_));clear hK1 K1)
   (refine VX ?_;repeat clear hK K)
   (refine VM rfl rfl rfl rfl ?_;intro K1 hK1;refine Bc rfl ?_;simp only [go_sem,AP,List.length_set,Cn,C.one,C.pl];(first | refine hK1 _ ?_ | refine AE (hK1 _ ?_));clear hK1 K1)
   (refine VX ?_;repeat clear hK K)
   have hm6:(R[s]++[(e,-1)]).length=R[s].length+1:=by first | (simp;done) | (simp;omega)
   have hj6:((AJ R).set s (C.s 6 (R[s].length+1)))[s]?=some (.s 6 (R[s].length+1)):=by rw [gEc (by rw [AP];exact hs)]
   have hset6:((AJ R).set s (C.s 6 (R[s].length+1))).set s (.o (2,23) (Aw (R[s]++[(e,-1)])))=AJ (R.set s (R[s]++[(e,-1)])):=by rw [Cn,CD]
   refine As (AQ (r:=⟨23,2,true,AG (R[s]++[(e,-1)])⟩) (ri:=⟨24,1,true,(AJ R).set s (C.s 6 (R[s].length+1))⟩) (ts:=Aw (R[s]++[(e,-1)])) 2 s 6 (R[s].length+1) (by decide) rfl hj6 rfl rfl (show 0<2 by omega) (by rw [AD,hm6]) (DB _)) ?_
   simp only [hset6,go_sem]
   refine As (CI 2 rfl) ?_
   simp only [Dc,go_sem]
   refine As (AQ (r:=⟨24,1,true,Br (R.set s (R[s]++[(e,-1)]))⟩) (ri:=⟨27,1,false,[.s 2 R.length]⟩) (ts:=AK (R.set s (R[s]++[(e,-1)]))) 3 0 2 R.length (by decide) rfl rfl rfl rfl (show 0<1 by omega) (by simp only [AH,List.length_set];omega) (GZ _)) ?_
   refine As (CI 3 rfl) ?_
   simp only [Vp,List.map_cons,List.map_nil,go_sem]
   (refine VV ?_;(repeat clear hK K);repeat refine kq fun K hK=>?_)
   ((try refine Ak ?_);(try simp only [Ad,Ay]);refine AB (A8 [0,1] rfl rfl) ?_;(try simp only [List.set_nil,List.take_nil,List.take_zero,List.map_append,go_sem]);((try refine Ak ?_);(try refine Aa ?_);(try simp only [Ad,Ay]);refine AN (by first | exact .inl rfl | exact .inr rfl) rfl ?_;simp only [Vm,Cq,Ck,Cx,Tryz.results24,go_sem,true_and,and_true,C.pl,List.all_cons,List.all_nil,Bool.and_true,List.take_succ_cons,List.take_zero,List.drop_zero]))
   refine ⟨a4,R.set s (R[s]++[(e,-1)]),rfl,rfl,by omega,by first | (simp;done) | (simp;omega),fun q hq=>?_⟩
   rcases List.mem_or_eq_of_mem_set hq with hq | rfl
   ·have:=hr q hq;omega
   rw [hm6];omega
  ·(repeat (((repeat (first | (refine AA ?_;intro K hK) | refine Ai ?_ | refine Ag ?_ | (refine AX rfl rfl ?_;intro K1 hK1;simp only [go_sem,Int.cast_ofNat_Int,Int.reduceBEq,Int.reduceNeg];(first | refine hK1 _ ?_ | refine AE (hK1 _ ?_));clear hK1 K1) | ((first | refine Aa ?_ | refine Am ?_);refine hK _ ?_;clear hK K))));(refine Ah ?_;intro X Y hX hY;simp only [go_sem,Int.cast_ofNat_Int,Int.reduceBEq]);(first | refine hX ?_ | refine hY ?_);clear hX hY X Y))
   (repeat (first | (refine AA ?_;intro K hK) | refine Ai ?_ | refine Ag ?_ | (refine AX rfl rfl ?_;intro K1 hK1;simp only [go_sem,Int.cast_ofNat_Int,Int.reduceBEq];(first | refine hK1 _ ?_ | refine AE (hK1 _ ?_));clear hK1 K1) | ((first | refine Aa ?_ | refine Am ?_);refine hK _ ?_;clear hK K)))
   (refine AF [3] (.m 0 0 0 (.m 2 0 0 (.m 5 0 0 (.m 7 0 0 (.m 1 1 12 (.m 3 1 4 (.m 6 1 10 (.m 8 0 0 (.m 9 1 10 (.a 4 (.a 10 (.m 11 0 0 (.a 12 .e))))))))))))) (by kernel_rfl) (by kernel_rfl) (by intro c st h;simp [Ad,Ay,Vl] at h) ?_)
   (refine VY (an @AP (Bg hgs)) ?_;repeat clear hK K)
   (refine VL rfl rfl ?_;intro K1 hK1;refine Bl rfl ?_;simp only [go_sem];(first | refine hK1 _ ?_ | refine AE (hK1 _ ?_));clear hK1 K1)
   (refine E3 rfl rfl rfl ?_;intro K1 hK1;refine Cl rfl rfl rfl rfl (by first | rfl | simp only [Ct,List.getD_cons_zero,List.getD_cons_succ,hne,List.isEmpty_cons,Bool.not_false,Bool.true_and,Bool.and_true,Bool.and_self]) rfl ?_;simp only [go_sem,Cm,A3,Aq,Bg hgs,List.cons_append,List.nil_append];(first | refine hK1 _ ?_ | refine AE (hK1 _ ?_));clear hK1 K1)
   (refine VX ?_;repeat clear hK K)
   (refine VM rfl rfl rfl rfl ?_;intro K1 hK1;refine Bc rfl ?_;simp only [go_sem,AP,List.length_set,Cn,C.one,C.pl];(first | refine hK1 _ ?_ | refine AE (hK1 _ ?_));clear hK1 K1)
   (refine VX ?_;repeat clear hK K)
   have hm6:((e,t) :: R[s]).length=1+R[s].length:=by first | (simp;done) | (simp;omega)
   have hj6:((AJ R).set s (C.s 6 (1+R[s].length)))[s]?=some (.s 6 (1+R[s].length)):=by rw [gEc (by rw [AP];exact hs)]
   have hset6:((AJ R).set s (C.s 6 (1+R[s].length))).set s (.o (2,23) (Aw ((e,t) :: R[s])))=AJ (R.set s ((e,t) :: R[s])):=by rw [Cn,CD]
   refine As (AQ (r:=⟨23,2,true,AG ((e,t) :: R[s])⟩) (ri:=⟨24,1,true,(AJ R).set s (C.s 6 (1+R[s].length))⟩) (ts:=Aw ((e,t) :: R[s])) 2 s 6 (1+R[s].length) (by decide) rfl hj6 rfl rfl (show 0<2 by omega) (by rw [AD,hm6]) (DB _)) ?_
   simp only [hset6,go_sem]
   refine As (CI 2 rfl) ?_
   simp only [Dc,go_sem]
   refine As (AQ (r:=⟨24,1,true,Br (R.set s ((e,t) :: R[s]))⟩) (ri:=⟨27,1,false,[.s 2 R.length]⟩) (ts:=AK (R.set s ((e,t) :: R[s]))) 3 0 2 R.length (by decide) rfl rfl rfl rfl (show 0<1 by omega) (by simp only [AH,List.length_set];omega) (GZ _)) ?_
   refine As (CI 3 rfl) ?_
   simp only [Vp,List.map_cons,List.map_nil,go_sem]
   (refine VV ?_;(repeat clear hK K);repeat refine kq fun K hK=>?_)
   ((try refine Ak ?_);(try simp only [Ad,Ay]);refine AB (A8 [0,1] rfl rfl) ?_;(try simp only [List.set_nil,List.take_nil,List.take_zero,List.map_append,go_sem]);((try refine Ak ?_);(try refine Aa ?_);(try simp only [Ad,Ay]);refine AN (by first | exact .inl rfl | exact .inr rfl) rfl ?_;simp only [Vm,Cq,Ck,Cx,Tryz.results24,go_sem,true_and,and_true,C.pl,List.all_cons,List.all_nil,Bool.and_true,List.take_succ_cons,List.take_zero,List.drop_zero]))
   refine ⟨a4,R.set s ((e,t) :: R[s]),rfl,rfl,by omega,by first | (simp;done) | (simp;omega),fun q hq=>?_⟩
   rcases List.mem_or_eq_of_mem_set hq with hq | rfl
   ·have:=hr q hq;omega
   rw [hm6];omega
  ·(repeat (((repeat (first | (refine AA ?_;intro K hK) | refine Ai ?_ | refine Ag ?_ | (refine AX rfl rfl ?_;intro K1 hK1;simp only [go_sem,Int.cast_ofNat_Int,Int.reduceBEq,Int.reduceNeg];(first | refine hK1 _ ?_ | refine AE (hK1 _ ?_));clear hK1 K1) | ((first | refine Aa ?_ | refine Am ?_);refine hK _ ?_;clear hK K))));(refine Ah ?_;intro X Y hX hY;simp only [go_sem,Int.cast_ofNat_Int,Int.reduceBEq]);(first | refine hX ?_ | refine hY ?_);clear hX hY X Y))
   (repeat (first | (refine AA ?_;intro K hK) | refine Ai ?_ | refine Ag ?_ | (refine AX rfl rfl ?_;intro K1 hK1;simp only [go_sem,Int.cast_ofNat_Int,Int.reduceBEq];(first | refine hK1 _ ?_ | refine AE (hK1 _ ?_));clear hK1 K1) | ((first | refine Aa ?_ | refine Am ?_);refine hK _ ?_;clear hK K)))
   (refine AF [3] (.m 0 0 0 (.m 2 0 0 (.m 3 0 0 (.m 5 0 0 (.m 8 0 0 (.m 10 0 0 (.m 1 1 15 (.m 4 1 13 (.m 6 0 0 (.m 7 1 13 (.m 9 1 13 (.m 11 0 0 (.m 12 1 13 (.a 13 (.m 14 0 0 (.a 15 .e)))))))))))))))) (by kernel_rfl) (by kernel_rfl) (by intro c st h;simp [Ad,Ay,Vl] at h) ?_)
   (refine VY (an @AP (Bg hgs)) ?_;repeat clear hK K)
   (refine E3 rfl rfl rfl ?_;intro K1 hK1;refine Cl rfl rfl rfl rfl (by first | rfl | simp only [Ct,List.getD_cons_zero,List.getD_cons_succ,hne,List.isEmpty_cons,Bool.not_false,Bool.true_and,Bool.and_true,Bool.and_self]) rfl ?_;simp only [go_sem,Cm,A3,Aq,D9,Bg hgs];(first | refine hK1 _ ?_ | refine AE (hK1 _ ?_));clear hK1 K1)
   (refine VX ?_;repeat clear hK K)
   (refine VM rfl rfl rfl rfl ?_;intro K1 hK1;refine Bc rfl ?_;simp only [go_sem,AP,List.length_set,Cn,C.one,C.pl];(first | refine hK1 _ ?_ | refine AE (hK1 _ ?_));clear hK1 K1)
   (refine VX ?_;repeat clear hK K)
   have hm6:(R[s]++R[s]).length=R[s].length+R[s].length:=by first | (simp;done) | (simp;omega)
   have hj6:((AJ R).set s (C.s 5 (R[s].length+R[s].length)))[s]?=some (.s 5 (R[s].length+R[s].length)):=by rw [gEc (by rw [AP];exact hs)]
   have hset6:((AJ R).set s (C.s 5 (R[s].length+R[s].length))).set s (.o (2,23) (Aw (R[s]++R[s])))=AJ (R.set s (R[s]++R[s])):=by rw [Cn,CD]
   refine As (AQ (r:=⟨23,2,true,AG (R[s]++R[s])⟩) (ri:=⟨24,1,true,(AJ R).set s (C.s 5 (R[s].length+R[s].length))⟩) (ts:=Aw (R[s]++R[s])) 2 s 5 (R[s].length+R[s].length) (by decide) rfl hj6 rfl rfl (show 0<2 by omega) (by rw [AD,hm6]) (DB _)) ?_
   simp only [hset6,go_sem]
   refine As (CI 2 rfl) ?_
   simp only [Dc,go_sem]
   refine As (AQ (r:=⟨24,1,true,Br (R.set s (R[s]++R[s]))⟩) (ri:=⟨27,1,false,[.s 2 R.length]⟩) (ts:=AK (R.set s (R[s]++R[s]))) 3 0 2 R.length (by decide) rfl rfl rfl rfl (show 0<1 by omega) (by simp only [AH,List.length_set];omega) (GZ _)) ?_
   refine As (CI 3 rfl) ?_
   simp only [Vp,List.map_cons,List.map_nil,go_sem]
   (refine VV ?_;(repeat clear hK K);repeat refine kq fun K hK=>?_)
   ((try refine Ak ?_);(try simp only [Ad,Ay]);refine AB (A8 [0,1] rfl rfl) ?_;(try simp only [List.set_nil,List.take_nil,List.take_zero,List.map_append,go_sem]);((try refine Ak ?_);(try refine Aa ?_);(try simp only [Ad,Ay]);refine AN (by first | exact .inl rfl | exact .inr rfl) rfl ?_;simp only [Vm,Cq,Ck,Cx,Tryz.results24,go_sem,true_and,and_true,C.pl,List.all_cons,List.all_nil,Bool.and_true,List.take_succ_cons,List.take_zero,List.drop_zero]))
   refine ⟨a4,R.set s (R[s]++R[s]),rfl,rfl,by omega,by first | (simp;done) | (simp;omega),fun q hq=>?_⟩
   rcases List.mem_or_eq_of_mem_set hq with hq | rfl
   ·have:=hr q hq;omega
   rw [hm6];omega
  ·(repeat (((repeat (first | (refine AA ?_;intro K hK) | refine Ai ?_ | refine Ag ?_ | (refine AX rfl rfl ?_;intro K1 hK1;simp only [go_sem,Int.natCast_zero,Int.reduceBEq,Int.reduceNeg];(first | refine hK1 _ ?_ | refine AE (hK1 _ ?_));clear hK1 K1) | ((first | refine Aa ?_ | refine Am ?_);refine hK _ ?_;clear hK K))));(refine Ah ?_;intro X Y hX hY;simp only [go_sem,Int.natCast_zero,Int.reduceBEq]);(first | refine hX ?_ | refine hY ?_);clear hX hY X Y))
   (repeat (first | (refine AA ?_;intro K hK) | refine Ai ?_ | refine Ag ?_ | (refine AX rfl rfl ?_;intro K1 hK1;simp only [go_sem,Int.natCast_zero,Int.reduceBEq];(first | refine hK1 _ ?_ | refine AE (hK1 _ ?_));clear hK1 K1) | ((first | refine Aa ?_ | refine Am ?_);refine hK _ ?_;clear hK K)))
   (try refine Ak ?_)
   (try simp only [Ad,Ay])
   refine AB (MJ 1 [1] rfl) ?_
   simp only [Wf,We,List.set_cons_zero,List.set_cons_succ]
   ((try refine Ak ?_);(try simp only [Ad,Ay]);refine AB (A8 [0,1] rfl rfl) ?_;(try simp only [List.set_nil,List.take_nil,List.take_zero,List.map_append,go_sem]);((try refine Ak ?_);(try refine Aa ?_);(try simp only [Ad,Ay]);refine AN (by first | exact .inl rfl | exact .inr rfl) rfl ?_;simp only [Vm,Cq,Ck,Cx,Tryz.results24,go_sem,true_and,and_true,C.pl,List.all_cons,List.all_nil,Bool.and_true,List.take_succ_cons,List.take_zero,List.drop_zero]))
   exact ⟨a4,[],rfl,rfl,by omega,by simp,by simp⟩
  ·(repeat (((repeat (first | (refine AA ?_;intro K hK) | refine Ai ?_ | refine Ag ?_ | (refine AX rfl rfl ?_;intro K1 hK1;simp only [go_sem,Int.natCast_one,Int.reduceBEq,Int.reduceNeg];(first | refine hK1 _ ?_ | refine AE (hK1 _ ?_));clear hK1 K1) | ((first | refine Aa ?_ | refine Am ?_);refine hK _ ?_;clear hK K))));(refine Ah ?_;intro X Y hX hY;simp only [go_sem,Int.natCast_one,Int.reduceBEq]);(first | refine hX ?_ | refine hY ?_);clear hX hY X Y))
   (repeat (first | (refine AA ?_;intro K hK) | refine Ai ?_ | refine Ag ?_ | (refine AX rfl rfl ?_;intro K1 hK1;simp only [go_sem,Int.natCast_one,Int.reduceBEq];(first | refine hK1 _ ?_ | refine AE (hK1 _ ?_));clear hK1 K1) | ((first | refine Aa ?_ | refine Am ?_);refine hK _ ?_;clear hK K)))
   (refine AF [3] (.m 0 0 0 (.m 2 0 0 (.m 3 0 0 (.m 5 0 0 (.m 8 0 0 (.m 1 1 14 (.m 4 1 12 (.m 6 0 0 (.m 7 1 12 (.m 9 1 11 (.m 10 0 0 (.a 11 (.a 12 (.m 13 0 0 (.a 14 .e))))))))))))))) (by kernel_rfl) (by kernel_rfl) (by intro c st h;simp [Ad,Ay,Vl] at h) ?_)
   (refine VY (an @AP (Bg hgs)) ?_;repeat clear hK K)
   (refine VL rfl rfl ?_;intro K1 hK1;refine Bl rfl ?_;simp only [go_sem];(first | refine hK1 _ ?_ | refine AE (hK1 _ ?_));clear hK1 K1)
   (refine E3 rfl rfl rfl ?_;intro K1 hK1;refine Cl rfl rfl rfl rfl (by first | rfl | simp only [Ct,List.getD_cons_zero,List.getD_cons_succ,hne,List.isEmpty_cons,Bool.not_false,Bool.true_and,Bool.and_true,Bool.and_self]) rfl ?_;simp only [go_sem,Cm,A3,Aq,B9,Bg hgs];(first | refine hK1 _ ?_ | refine AE (hK1 _ ?_));clear hK1 K1)
   (refine VX ?_;repeat clear hK K)
   (refine VM rfl rfl rfl rfl ?_;intro K1 hK1;refine Bc rfl ?_;simp only [go_sem,AP,List.length_set,Cn,C.one,C.pl];(first | refine hK1 _ ?_ | refine AE (hK1 _ ?_));clear hK1 K1)
   (refine VX ?_;repeat clear hK K)
   have hm6:(R[s]++[(-1,t)]).length=R[s].length+1:=by first | (simp;done) | (simp;omega)
   have hj6:((AJ R).set s (C.s 6 (R[s].length+1)))[s]?=some (.s 6 (R[s].length+1)):=by rw [gEc (by rw [AP];exact hs)]
   have hset6:((AJ R).set s (C.s 6 (R[s].length+1))).set s (.o (2,23) (Aw (R[s]++[(-1,t)])))=AJ (R.set s (R[s]++[(-1,t)])):=by rw [Cn,CD]
   refine As (AQ (r:=⟨23,2,true,AG (R[s]++[(-1,t)])⟩) (ri:=⟨24,1,true,(AJ R).set s (C.s 6 (R[s].length+1))⟩) (ts:=Aw (R[s]++[(-1,t)])) 2 s 6 (R[s].length+1) (by decide) rfl hj6 rfl rfl (show 0<2 by omega) (by rw [AD,hm6]) (DB _)) ?_
   simp only [hset6,go_sem]
   refine As (CI 2 rfl) ?_
   simp only [Dc,go_sem]
   refine As (AQ (r:=⟨24,1,true,Br (R.set s (R[s]++[(-1,t)]))⟩) (ri:=⟨27,1,false,[.s 2 R.length]⟩) (ts:=AK (R.set s (R[s]++[(-1,t)]))) 3 0 2 R.length (by decide) rfl rfl rfl rfl (show 0<1 by omega) (by simp only [AH,List.length_set];omega) (GZ _)) ?_
   refine As (CI 3 rfl) ?_
   simp only [Vp,List.map_cons,List.map_nil,go_sem]
   (refine VV ?_;(repeat clear hK K);repeat refine kq fun K hK=>?_)
   ((try refine Ak ?_);(try simp only [Ad,Ay]);refine AB (A8 [0,1] rfl rfl) ?_;(try simp only [List.set_nil,List.take_nil,List.take_zero,List.map_append,go_sem]);((try refine Ak ?_);(try refine Aa ?_);(try simp only [Ad,Ay]);refine AN (by first | exact .inl rfl | exact .inr rfl) rfl ?_;simp only [Vm,Cq,Ck,Cx,Tryz.results24,go_sem,true_and,and_true,C.pl,List.all_cons,List.all_nil,Bool.and_true,List.take_succ_cons,List.take_zero,List.drop_zero]))
   refine ⟨a4,R.set s (R[s]++[(-1,t)]),rfl,rfl,by omega,by first | (simp;done) | (simp;omega),fun q hq=>?_⟩
   rcases List.mem_or_eq_of_mem_set hq with hq | rfl
   ·have:=hr q hq;omega
   rw [hm6];omega
  ·(repeat (((repeat (first | (refine AA ?_;intro K hK) | refine Ai ?_ | refine Ag ?_ | (refine AX rfl rfl ?_;intro K1 hK1;simp only [go_sem,Int.cast_ofNat_Int,Int.reduceBEq,Int.reduceNeg];(first | refine hK1 _ ?_ | refine AE (hK1 _ ?_));clear hK1 K1) | ((first | refine Aa ?_ | refine Am ?_);refine hK _ ?_;clear hK K))));(refine Ah ?_;intro X Y hX hY;simp only [go_sem,Int.cast_ofNat_Int,Int.reduceBEq]);(first | refine hX ?_ | refine hY ?_);clear hX hY X Y))
   (repeat (first | (refine AA ?_;intro K hK) | refine Ai ?_ | refine Ag ?_ | (refine AX rfl rfl ?_;intro K1 hK1;simp only [go_sem,Int.cast_ofNat_Int,Int.reduceBEq];(first | refine hK1 _ ?_ | refine AE (hK1 _ ?_));clear hK1 K1) | ((first | refine Aa ?_ | refine Am ?_);refine hK _ ?_;clear hK K)))
   (refine AF [3] (.m 0 0 0 (.m 2 0 0 (.m 3 0 0 (.m 5 0 0 (.m 8 0 0 (.m 1 1 14 (.m 4 1 12 (.m 6 0 0 (.m 7 1 12 (.m 9 1 11 (.m 10 0 0 (.a 11 (.a 12 (.m 13 0 0 (.a 14 .e))))))))))))))) (by kernel_rfl) (by kernel_rfl) (by intro c st h;simp [Ad,Ay,Vl] at h) ?_)
   (refine VY (an @AP (Bg hgs)) ?_;repeat clear hK K)
   (refine VL rfl rfl ?_;intro K1 hK1;refine Bl rfl ?_;simp only [go_sem];(first | refine hK1 _ ?_ | refine AE (hK1 _ ?_));clear hK1 K1)
   (refine E3 rfl rfl rfl ?_;intro K1 hK1;refine Cl rfl rfl rfl rfl (by first | rfl | simp only [Ct,List.getD_cons_zero,List.getD_cons_succ,hne,List.isEmpty_cons,Bool.not_false,Bool.true_and,Bool.and_true,Bool.and_self]) rfl ?_;simp only [go_sem,Cm,A3,Aq,B9,Bg hgs];(first | refine hK1 _ ?_ | refine AE (hK1 _ ?_));clear hK1 K1)
   (refine VX ?_;repeat clear hK K)
   (refine VM rfl rfl rfl rfl ?_;intro K1 hK1;refine Bc rfl ?_;simp only [go_sem,AP,List.length_set,Cn,C.one,C.pl];(first | refine hK1 _ ?_ | refine AE (hK1 _ ?_));clear hK1 K1)
   (refine VX ?_;repeat clear hK K)
   have hm6:(R[s]++[(1026,t)]).length=R[s].length+1:=by first | (simp;done) | (simp;omega)
   have hj6:((AJ R).set s (C.s 6 (R[s].length+1)))[s]?=some (.s 6 (R[s].length+1)):=by rw [gEc (by rw [AP];exact hs)]
   have hset6:((AJ R).set s (C.s 6 (R[s].length+1))).set s (.o (2,23) (Aw (R[s]++[(1026,t)])))=AJ (R.set s (R[s]++[(1026,t)])):=by rw [Cn,CD]
   refine As (AQ (r:=⟨23,2,true,AG (R[s]++[(1026,t)])⟩) (ri:=⟨24,1,true,(AJ R).set s (C.s 6 (R[s].length+1))⟩) (ts:=Aw (R[s]++[(1026,t)])) 2 s 6 (R[s].length+1) (by decide) rfl hj6 rfl rfl (show 0<2 by omega) (by rw [AD,hm6]) (DB _)) ?_
   simp only [hset6,go_sem]
   refine As (CI 2 rfl) ?_
   simp only [Dc,go_sem]
   refine As (AQ (r:=⟨24,1,true,Br (R.set s (R[s]++[(1026,t)]))⟩) (ri:=⟨27,1,false,[.s 2 R.length]⟩) (ts:=AK (R.set s (R[s]++[(1026,t)]))) 3 0 2 R.length (by decide) rfl rfl rfl rfl (show 0<1 by omega) (by simp only [AH,List.length_set];omega) (GZ _)) ?_
   refine As (CI 3 rfl) ?_
   simp only [Vp,List.map_cons,List.map_nil,go_sem]
   (refine VV ?_;(repeat clear hK K);repeat refine kq fun K hK=>?_)
   ((try refine Ak ?_);(try simp only [Ad,Ay]);refine AB (A8 [0,1] rfl rfl) ?_;(try simp only [List.set_nil,List.take_nil,List.take_zero,List.map_append,go_sem]);((try refine Ak ?_);(try refine Aa ?_);(try simp only [Ad,Ay]);refine AN (by first | exact .inl rfl | exact .inr rfl) rfl ?_;simp only [Vm,Cq,Ck,Cx,Tryz.results24,go_sem,true_and,and_true,C.pl,List.all_cons,List.all_nil,Bool.and_true,List.take_succ_cons,List.take_zero,List.drop_zero]))
   refine ⟨a4,R.set s (R[s]++[(1026,t)]),rfl,rfl,by omega,by first | (simp;done) | (simp;omega),fun q hq=>?_⟩
   rcases List.mem_or_eq_of_mem_set hq with hq | rfl
   ·have:=hr q hq;omega
   rw [hm6];omega
  (repeat (((repeat (first | (refine AA ?_;intro K hK) | refine Ai ?_ | refine Ag ?_ | (refine AX rfl rfl ?_;intro K1 hK1;simp only [go_sem,Int.cast_ofNat_Int,Int.reduceBEq,Int.reduceNeg];(first | refine hK1 _ ?_ | refine AE (hK1 _ ?_));clear hK1 K1) | ((first | refine Aa ?_ | refine Am ?_);refine hK _ ?_;clear hK K))));(refine Ah ?_;intro X Y hX hY;simp only [go_sem,Int.cast_ofNat_Int,Int.reduceBEq]);(first | refine hX ?_ | refine hY ?_);clear hX hY X Y))
  (repeat (first | (refine AA ?_;intro K hK) | refine Ai ?_ | refine Ag ?_ | (refine AX rfl rfl ?_;intro K1 hK1;simp only [go_sem,Int.cast_ofNat_Int,Int.reduceBEq];(first | refine hK1 _ ?_ | refine AE (hK1 _ ?_));clear hK1 K1) | ((first | refine Aa ?_ | refine Am ?_);refine hK _ ?_;clear hK K)))
  (refine AF [3] (.m 0 0 0 (.m 2 0 0 (.m 3 0 0 (.m 5 0 0 (.m 8 0 0 (.m 10 0 0 (.m 1 1 17 (.m 4 1 15 (.m 6 0 0 (.m 7 1 15 (.m 9 1 14 (.m 11 1 14 (.m 12 0 0 (.m 13 0 0 (.a 14 (.a 15 (.m 16 0 0 (.a 17 .e)))))))))))))))))) (by kernel_rfl) (by kernel_rfl) (by intro c st h;simp [Ad,Ay,Vl] at h) ?_)
  (refine VY (an @AP (Bg hgs)) ?_;repeat clear hK K)
  (refine VL rfl rfl ?_;intro K1 hK1;refine Bl rfl ?_;simp only [go_sem];(first | refine hK1 _ ?_ | refine AE (hK1 _ ?_));clear hK1 K1)
  (refine E3 rfl rfl rfl ?_;intro K1 hK1;refine Cl rfl rfl rfl rfl (by first | rfl | simp only [Ct,List.getD_cons_zero,List.getD_cons_succ,hne,List.isEmpty_cons,Bool.not_false,Bool.true_and,Bool.and_true,Bool.and_self]) rfl ?_;simp only [go_sem,Cm,A3,Aq,B9,Bg hgs];(first | refine hK1 _ ?_ | refine AE (hK1 _ ?_));clear hK1 K1)
  (refine VX ?_;repeat clear hK K)
  (refine VM rfl rfl rfl rfl ?_;intro K1 hK1;refine Bc rfl ?_;simp only [go_sem,AP,List.length_set,Cn,C.one,C.pl];(first | refine hK1 _ ?_ | refine AE (hK1 _ ?_));clear hK1 K1)
  (refine VX ?_;repeat clear hK K)
  have hm6:(R[s]++[(e,(R.length:Int))]).length=R[s].length+1:=by first | (simp;done) | (simp;omega)
  have hj6:((AJ R).set s (C.s 6 (R[s].length+1)))[s]?=some (.s 6 (R[s].length+1)):=by rw [gEc (by rw [AP];exact hs)]
  have hset6:((AJ R).set s (C.s 6 (R[s].length+1))).set s (.o (2,23) (Aw (R[s]++[(e,(R.length:Int))])))=AJ (R.set s (R[s]++[(e,(R.length:Int))])):=by rw [Cn,CD]
  refine As (AQ (r:=⟨23,2,true,AG (R[s]++[(e,(R.length:Int))])⟩) (ri:=⟨24,1,true,(AJ R).set s (C.s 6 (R[s].length+1))⟩) (ts:=Aw (R[s]++[(e,(R.length:Int))])) 2 s 6 (R[s].length+1) (by decide) rfl hj6 rfl rfl (show 0<2 by omega) (by rw [AD,hm6]) (DB _)) ?_
  simp only [hset6,go_sem]
  refine As (CI 2 rfl) ?_
  simp only [Dc,go_sem]
  refine As (AQ (r:=⟨24,1,true,Br (R.set s (R[s]++[(e,(R.length:Int))]))⟩) (ri:=⟨27,1,false,[.s 2 R.length]⟩) (ts:=AK (R.set s (R[s]++[(e,(R.length:Int))]))) 3 0 2 R.length (by decide) rfl rfl rfl rfl (show 0<1 by omega) (by simp only [AH,List.length_set];omega) (GZ _)) ?_
  refine As (CI 3 rfl) ?_
  simp only [Vp,List.map_cons,List.map_nil,go_sem]
  (refine VV ?_;(repeat clear hK K);repeat refine kq fun K hK=>?_)
  ((try refine Ak ?_);(try simp only [Ad,Ay]);refine AB (A8 [0,1] rfl rfl) ?_;(try simp only [List.set_nil,List.take_nil,List.take_zero,List.map_append,go_sem]);((try refine Ak ?_);(try refine Aa ?_);(try simp only [Ad,Ay]);refine AN (by first | exact .inl rfl | exact .inr rfl) rfl ?_;simp only [Vm,Cq,Ck,Cx,Tryz.results24,go_sem,true_and,and_true,C.pl,List.all_cons,List.all_nil,Bool.and_true,List.take_succ_cons,List.take_zero,List.drop_zero]))
  refine ⟨a4,R.set s (R[s]++[(e,(R.length:Int))]),rfl,rfl,by omega,by first | (simp;done) | (simp;omega),fun q hq=>?_⟩
  rcases List.mem_or_eq_of_mem_set hq with hq | rfl
  ·have:=hr q hq;omega
  rw [hm6];omega
 clear hK
 (refine AF [3] (.m 0 0 0 (.m 2 0 0 (.m 3 0 0 (.m 4 1 6 (.m 5 0 0 (.f 1 (.f 6 (.m 7 0 0 (.a 8 (.a 9 .e))) 8 (.a 6 (.m 7 0 0 (.a 9 .e)))) 8 (.a 1 (.a 6 (.m 7 0 0 (.a 9 .e)))))))))) (by kernel_rfl) (by kernel_rfl) (by intro c st h;simp [Ad,Ay,Vl] at h) ?_)
 (refine VX ?_;repeat clear hK K)
 refine VN ?_ ?_
 rotate_left
 ·(refine VL rfl rfl ?_;intro K1 hK1;refine Bl rfl ?_;simp only [go_sem];(first | refine hK1 _ ?_ | refine AE (hK1 _ ?_));clear hK1 K1)
  (refine E3 rfl rfl rfl ?_;intro K1 hK1;refine yX [0] ?_;refine xy [0] (Ey T hT (a+1) (by omega)) ?_ ?_)
  ·rintro _ _ ⟨rfl,v,rfl,_⟩;exact BN rfl
  rintro _ _ ⟨rfl,e,rfl,he⟩
  (simp only [Ap,AC,tape,Cd,List.append_nil,List.nil_append,List.length_map,go_sem];refine hK1 _ ?_;clear hK1 K1)
  (refine VX ?_;repeat clear hK K)
  (refine E3 rfl rfl rfl ?_;intro K1 hK1;refine yX [0] ?_;refine xy [0] (CY T (a+1+1) R.length hT (by omega) (by omega)) ?_ ?_)
  ·rintro _ _ ⟨rfl,v,rfl,_⟩;exact BN rfl
  rintro _ _ ⟨rfl,t,rfl,ht⟩
  (simp only [Ap,AC,tape,Cd,List.append_nil,List.nil_append,List.length_map,go_sem];refine hK1 _ ?_;clear hK1 K1)
  (refine VX ?_;repeat clear hK K)
  (refine VM rfl rfl rfl rfl ?_;intro K1 hK1;refine Bc rfl ?_;simp only [go_sem];(first | refine hK1 _ ?_ | refine AE (hK1 _ ?_));clear hK1 K1)
  refine DY ⟨by simp,by simp,?_⟩
  refine hK2 _ e t (a+1+1+1) (by omega) ?_
  exact W5
 (refine E3 rfl rfl rfl ?_;intro K1 hK1;refine yX [0] ?_;refine xy [0] (Ey T hT (a+1) (by omega)) ?_ ?_)
 ·rintro _ _ ⟨rfl,v,rfl,_⟩;exact BN rfl
 rintro _ _ ⟨rfl,e,rfl,he⟩
 (simp only [Ap,AC,tape,Cd,List.append_nil,List.nil_append,List.length_map,go_sem];refine hK1 _ ?_;clear hK1 K1)
 (refine VX ?_;repeat clear hK K)
 refine VN ?_ ?_
 ·(refine E3 rfl rfl rfl ?_;intro K1 hK1;refine yX [0] ?_;refine xy [0] (CY T (a+1+1) R.length hT (by omega) (by omega)) ?_ ?_)
  ·rintro _ _ ⟨rfl,v,rfl,_⟩;exact BN rfl
  rintro _ _ ⟨rfl,t,rfl,ht⟩
  (simp only [Ap,AC,tape,Cd,List.append_nil,List.nil_append,List.length_map,go_sem];refine hK1 _ ?_;clear hK1 K1)
  (refine VX ?_;repeat clear hK K)
  (refine VL rfl rfl ?_;intro K1 hK1;refine Bl rfl ?_;simp only [go_sem];(first | refine hK1 _ ?_ | refine AE (hK1 _ ?_));clear hK1 K1)
  (refine VM rfl rfl rfl rfl ?_;intro K1 hK1;refine Bc rfl ?_;simp only [go_sem];(first | refine hK1 _ ?_ | refine AE (hK1 _ ?_));clear hK1 K1)
  refine DY ⟨by simp,by simp,?_⟩
  refine hK2 _ e t (a+1+1+1) (by omega) ?_
  exact W5
 (refine VL rfl rfl ?_;intro K1 hK1;refine Bl rfl ?_;simp only [go_sem];(first | refine hK1 _ ?_ | refine AE (hK1 _ ?_));clear hK1 K1)
 (refine E3 rfl rfl rfl ?_;intro K1 hK1;refine yX [0] ?_;refine xy [0] (CY T (a+1+1) R.length hT (by omega) (by omega)) ?_ ?_)
 ·rintro _ _ ⟨rfl,v,rfl,_⟩;exact BN rfl
 rintro _ _ ⟨rfl,t,rfl,ht⟩
 (simp only [Ap,AC,tape,Cd,List.append_nil,List.nil_append,List.length_map,go_sem];refine hK1 _ ?_;clear hK1 K1)
 (refine VX ?_;repeat clear hK K)
 (refine VM rfl rfl rfl rfl ?_;intro K1 hK1;refine Bc rfl ?_;simp only [go_sem];(first | refine hK1 _ ?_ | refine AE (hK1 _ ?_));clear hK1 K1)
 refine DY ⟨by simp,by simp,?_⟩
 refine hK2 _ e t (a+1+1+1) (by omega) ?_
 exact W5
theorem P2 (T:List Int) (hT:TpOk T) (a:Nat) (R:List (List Ar)) (ha:a<=1000000) (h1:1<=R.length) (hn:R.length<=20) (hr:∀ r∈R,r.length<=1000):
  FC Tryz.prog 24 [.a (.c (.p 0 0)),Ba R] [tape T a] (fun r o=>∃ (a':Nat) (R':List (List Ar)),o=[tape T a',Kb R']/\r=Ba R'/\a'<=a+4/\R'.length<=R.length/\∀ q∈R',q.length<=2001):=
 MK 1000 (by omega) T hT a R ha h1 hn hr
end Go.Proofs.YtbnabodoabimnaaGreat
