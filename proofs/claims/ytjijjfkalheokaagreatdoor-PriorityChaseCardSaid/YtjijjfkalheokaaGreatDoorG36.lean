/- Lemmas. -/
import Derived.Test.YtjijjfkalheokaaGreatDoorZk
import Derived.Test.YtjijjfkalheokaaGreatDoorMG
namespace Go.Proofs.YtjijjfkalheokaaGreatDoor
set_option linter.unusedVariables false
set_option linter.unusedSimpArgs false
open Go.RowKit
set_option maxRecDepth 100000
attribute [local go_sem] List.set_cons_zero List.set_cons_succ List.map_cons List.map_nil List.take_succ_cons List.take_zero List.drop_zero List.drop_succ_cons C.pl C.one List.all_cons List.all_nil Bool.and_true

theorem Ct (L:List C) (s:Nat) (x y:C):(L.set s x).set s y=L.set s y:=by simp
set_option maxHeartbeats 2000000 in
theorem Nm (bd:Nat) (hbd:bd<=1000) (T:List Int) (hT:TpOk T) (a:Nat) (R:List (List Ar)) (ha:a<=1000000) (h1:1<=R.length) (hn:R.length<=20) (hr:∀ r∈R,r.length<=bd):
  FC Tryz.prog 11 [.a (.c (.p 0 0)),B7 R] [tape T a] (fun r o=>∃ (a':Nat) (R':List (List Ar)),o=[tape T a',Kv R']/\r=B7 R'/\a'<=a+4/\R'.length<=20/\∀ q∈R',q.length<=2*bd+1):=by
 refine A6 Tryz.func11 rfl (by rw [Tryz.ntmps11];simp) ?_
 rw [Tryz.ntmps11]
 simp only [Bf,tape,B7,Kv]
 have e0:((R.length:Int) == 0)=false:=beq_eq_false_iff_ne.2 (by omega)
 (refine Wt ?_;(repeat clear hK K);repeat refine kq fun K hK=>?_)
 (refine Wy (PN R (by omega) (fun q hq=>by have:=hr q hq;omega)) ?_;intro K1 hK1)
 rintro _ _ ⟨rfl,rfl⟩
 (simp only [As,Bl,Ck,List.append_nil,List.nil_append,List.length_map,go_sem];refine hK1 _ ?_;clear hK1 K1)
 (refine Wu @e0 ?_;(repeat clear hK K);repeat refine kq fun K hK=>?_)
 refine WC ?_
 refine Au (A9 [0,2,3,5] rfl rfl) ?_
 (try simp only [List.set_nil,List.take_nil,List.take_zero,List.map_append,go_sem])
 (try simp only [Ch])
 (refine Wt ?_;(repeat clear hK K);repeat refine kq fun K hK=>?_)
 (refine Ai rfl ?_;intro K1 hK1;refine ct [0] (Dk T a R.length hT (by omega) (by omega)) ?_ ?_)
 ·rintro _ _ ⟨rfl,v,rfl,_⟩;rfl
 rintro _ _ ⟨rfl,s,rfl,hs⟩
 (simp only [As,Bl,tape,Ck,List.append_nil,List.nil_append,List.length_map,go_sem];refine hK1 _ ?_;clear hK1 K1)
 replace hs:s<R.length:=by omega
 (refine Wt ?_;(repeat clear hK K);repeat refine kq fun K hK=>?_)
 have hgs:=gE1 hs
 have hrs:=hr _ (gE6 hs)
 have hK2:∀ (st':ST) (e t:Int) (a3:Nat),a3<=a+3->Le st' { tm:=[(0,.a (.c (.p 0 0))),(4,.a (.c (.p 1 0))),(5,.a (.c (.p 3 0))),(6,.i s),(7,.a (.c (.p 4 0)))],hp:=[.r ⟨41,2,false,[.t 1 (Ab T),.v (.int .i64 a3)]⟩,.r ⟨25,1,false,[.v (.slice none 0 0)]⟩,.r ⟨42,1,true,Aw R⟩,.r ⟨25,1,false,[.s 2 R.length]⟩,.r ⟨46,2,false,[.v (.int .i64 e),.v (.int .i64 t)]⟩],n:=130,pin:=1 }->K st':=by
  intro st' e t a3 ha3 hl
  refine hK st' (Au hl ?_)
  clear hl hK K
  (refine Wt ?_;(repeat clear hK K);repeat refine kq fun K hK=>?_)
  (refine Ai rfl ?_;intro K1 hK1;refine ct [0] (Dk T a3 7 hT (by omega) (by omega)) ?_ ?_)
  ·rintro _ _ ⟨rfl,v,rfl,_⟩;rfl
  rintro _ _ ⟨rfl,v,rfl,hv⟩
  (simp only [As,Bl,tape,Ck,List.append_nil,List.nil_append,List.length_map,go_sem];refine hK1 _ ?_;clear hK1 K1)
  obtain ⟨a4,ha4⟩:∃ a4,a4=a3+1:=⟨_,rfl⟩
  rw [<- ha4]
  rcases (show v=0\/v=1\/v=2\/v=3\/v=4\/v=5\/v=6 by omega) with rfl | rfl | rfl | rfl | rfl | rfl | rfl
  rotate_left 4
  ·(repeat (((repeat (first | (refine AC ?_;intro K hK) | refine Aj ?_ | refine Ad ?_ | (refine B5 rfl rfl ?_;intro K1 hK1;simp only [go_sem,Int.cast_ofNat_Int,Int.reduceBEq,Int.reduceNeg];(first | refine hK1 _ ?_ | refine AD (hK1 _ ?_));clear hK1 K1) | ((first | refine Aa ?_ | refine Al ?_);refine hK _ ?_;clear hK K))));(refine At ?_;intro X Y hX hY;simp only [go_sem,Int.cast_ofNat_Int,Int.reduceBEq]);(first | refine hX ?_ | refine hY ?_);clear hX hY X Y))
   (repeat (first | (refine AC ?_;intro K hK) | refine Aj ?_ | refine Ad ?_ | (refine B5 rfl rfl ?_;intro K1 hK1;simp only [go_sem,Int.cast_ofNat_Int,Int.reduceBEq];(first | refine hK1 _ ?_ | refine AD (hK1 _ ?_));clear hK1 K1) | ((first | refine Aa ?_ | refine Al ?_);refine hK _ ?_;clear hK K)))
   (refine AJ [3] (.m 0 0 0 (.m 2 0 0 (.m 3 0 0 (.m 5 0 0 (.m 8 0 0 (.m 1 1 14 (.m 4 1 12 (.m 6 0 0 (.m 7 1 12 (.m 9 1 11 (.m 10 0 0 (.a 11 (.a 12 (.m 13 0 0 (.a 14 .e))))))))))))))) (by kernel_rfl) (by kernel_rfl) (by intro c st h;simp [Ae,AF,VT] at h) ?_)
   (refine Ww (an @AB (B8 hgs)) ?_;repeat clear hK K)
   (refine Wj rfl rfl ?_;intro K1 hK1;refine Bx rfl ?_;simp only [go_sem];(first | refine hK1 _ ?_ | refine AD (hK1 _ ?_));clear hK1 K1)
   (refine Ga rfl rfl rfl ?_;intro K1 hK1;refine CK rfl rfl rfl rfl (by first | rfl | simp only [CQ,List.getD_cons_zero,List.getD_cons_succ,hne,List.isEmpty_cons,Bool.not_false,Bool.true_and,Bool.and_true,Bool.and_self]) rfl ?_;simp only [go_sem,Cp,A2,Ak,BF,B8 hgs];(first | refine hK1 _ ?_ | refine AD (hK1 _ ?_));clear hK1 K1)
   (refine Wv ?_;repeat clear hK K)
   (refine Wk rfl rfl rfl rfl ?_;intro K1 hK1;refine AP rfl ?_;simp only [go_sem,AB,List.length_set,Ct,C.one,C.pl];(first | refine hK1 _ ?_ | refine AD (hK1 _ ?_));clear hK1 K1)
   (refine Wv ?_;repeat clear hK K)
   have hm6:(R[s]++[(e,-1)]).length=R[s].length+1:=by first | (simp;done) | (simp;omega)
   have hj6:((Aw R).set s (C.s 6 (R[s].length+1)))[s]?=some (.s 6 (R[s].length+1)):=by rw [gEc (by rw [AB];exact hs)]
   have hset6:((Aw R).set s (C.s 6 (R[s].length+1))).set s (.o (2,46) (Ao (R[s]++[(e,-1)])))=Aw (R.set s (R[s]++[(e,-1)])):=by rw [Ct,C3]
   refine Au (AR (r:=⟨46,2,true,Ax (R[s]++[(e,-1)])⟩) (ri:=⟨42,1,true,(Aw R).set s (C.s 6 (R[s].length+1))⟩) (ts:=Ao (R[s]++[(e,-1)])) 2 s 6 (R[s].length+1) (by decide) rfl hj6 rfl rfl (show 0<2 by omega) (by rw [Ap,hm6]) (Dl _)) ?_
   simp only [hset6,go_sem]
   refine Au (Cm 2 rfl) ?_
   simp only [Cl,go_sem]
   refine Au (AR (r:=⟨42,1,true,AO (R.set s (R[s]++[(e,-1)]))⟩) (ri:=⟨25,1,false,[.s 2 R.length]⟩) (ts:=Ah (R.set s (R[s]++[(e,-1)]))) 3 0 2 R.length (by decide) rfl rfl rfl rfl (show 0<1 by omega) (by simp only [Ay,List.length_set];omega) (CZ _)) ?_
   refine Au (Cm 3 rfl) ?_
   simp only [VX,List.map_cons,List.map_nil,go_sem]
   (refine Wt ?_;(repeat clear hK K);repeat refine kq fun K hK=>?_)
   ((try refine Av ?_);(try simp only [Ae,AF]);refine B6 (A9 [0,1] rfl rfl) ?_;(try simp only [List.set_nil,List.take_nil,List.take_zero,List.map_append,go_sem]);((try refine Av ?_);(try refine Aa ?_);(try simp only [Ae,AF]);refine Bj (by first | exact .inl rfl | exact .inr rfl) rfl ?_;simp only [VU,Dy,Du,DL,Tryz.results11,go_sem,true_and,and_true,C.pl,List.all_cons,List.all_nil,Bool.and_true,List.take_succ_cons,List.take_zero,List.drop_zero]))
   refine ⟨a4,R.set s (R[s]++[(e,-1)]),rfl,rfl,by omega,by simp;omega,fun q hq=>?_⟩
   rcases List.mem_or_eq_of_mem_set hq with hq | rfl
   ·have:=hr q hq;omega
   rw [hm6];omega
  ·(repeat (((repeat (first | (refine AC ?_;intro K hK) | refine Aj ?_ | refine Ad ?_ | (refine B5 rfl rfl ?_;intro K1 hK1;simp only [go_sem,Int.cast_ofNat_Int,Int.reduceBEq,Int.reduceNeg];(first | refine hK1 _ ?_ | refine AD (hK1 _ ?_));clear hK1 K1) | ((first | refine Aa ?_ | refine Al ?_);refine hK _ ?_;clear hK K))));(refine At ?_;intro X Y hX hY;simp only [go_sem,Int.cast_ofNat_Int,Int.reduceBEq]);(first | refine hX ?_ | refine hY ?_);clear hX hY X Y))
   (repeat (first | (refine AC ?_;intro K hK) | refine Aj ?_ | refine Ad ?_ | (refine B5 rfl rfl ?_;intro K1 hK1;simp only [go_sem,Int.cast_ofNat_Int,Int.reduceBEq];(first | refine hK1 _ ?_ | refine AD (hK1 _ ?_));clear hK1 K1) | ((first | refine Aa ?_ | refine Al ?_);refine hK _ ?_;clear hK K)))
   (refine AJ [3] (.m 0 0 0 (.m 2 0 0 (.m 5 0 0 (.m 7 0 0 (.m 1 1 12 (.m 3 1 4 (.m 6 1 10 (.m 8 0 0 (.m 9 1 10 (.a 4 (.a 10 (.m 11 0 0 (.a 12 .e))))))))))))) (by kernel_rfl) (by kernel_rfl) (by intro c st h;simp [Ae,AF,VT] at h) ?_)
   (refine Ww (an @AB (B8 hgs)) ?_;repeat clear hK K)
   (refine Wj rfl rfl ?_;intro K1 hK1;refine Bx rfl ?_;simp only [go_sem];(first | refine hK1 _ ?_ | refine AD (hK1 _ ?_));clear hK1 K1)
   (refine Ga rfl rfl rfl ?_;intro K1 hK1;refine CK rfl rfl rfl rfl (by first | rfl | simp only [CQ,List.getD_cons_zero,List.getD_cons_succ,hne,List.isEmpty_cons,Bool.not_false,Bool.true_and,Bool.and_true,Bool.and_self]) rfl ?_;simp only [go_sem,Cp,A2,Ak,B8 hgs,List.cons_append,List.nil_append];(first | refine hK1 _ ?_ | refine AD (hK1 _ ?_));clear hK1 K1)
   (refine Wv ?_;repeat clear hK K)
   (refine Wk rfl rfl rfl rfl ?_;intro K1 hK1;refine AP rfl ?_;simp only [go_sem,AB,List.length_set,Ct,C.one,C.pl];(first | refine hK1 _ ?_ | refine AD (hK1 _ ?_));clear hK1 K1)
   (refine Wv ?_;repeat clear hK K)
   have hm6:((e,t) :: R[s]).length=1+R[s].length:=by first | (simp;done) | (simp;omega)
   have hj6:((Aw R).set s (C.s 6 (1+R[s].length)))[s]?=some (.s 6 (1+R[s].length)):=by rw [gEc (by rw [AB];exact hs)]
   have hset6:((Aw R).set s (C.s 6 (1+R[s].length))).set s (.o (2,46) (Ao ((e,t) :: R[s])))=Aw (R.set s ((e,t) :: R[s])):=by rw [Ct,C3]
   refine Au (AR (r:=⟨46,2,true,Ax ((e,t) :: R[s])⟩) (ri:=⟨42,1,true,(Aw R).set s (C.s 6 (1+R[s].length))⟩) (ts:=Ao ((e,t) :: R[s])) 2 s 6 (1+R[s].length) (by decide) rfl hj6 rfl rfl (show 0<2 by omega) (by rw [Ap,hm6]) (Dl _)) ?_
   simp only [hset6,go_sem]
   refine Au (Cm 2 rfl) ?_
   simp only [Cl,go_sem]
   refine Au (AR (r:=⟨42,1,true,AO (R.set s ((e,t) :: R[s]))⟩) (ri:=⟨25,1,false,[.s 2 R.length]⟩) (ts:=Ah (R.set s ((e,t) :: R[s]))) 3 0 2 R.length (by decide) rfl rfl rfl rfl (show 0<1 by omega) (by simp only [Ay,List.length_set];omega) (CZ _)) ?_
   refine Au (Cm 3 rfl) ?_
   simp only [VX,List.map_cons,List.map_nil,go_sem]
   (refine Wt ?_;(repeat clear hK K);repeat refine kq fun K hK=>?_)
   ((try refine Av ?_);(try simp only [Ae,AF]);refine B6 (A9 [0,1] rfl rfl) ?_;(try simp only [List.set_nil,List.take_nil,List.take_zero,List.map_append,go_sem]);((try refine Av ?_);(try refine Aa ?_);(try simp only [Ae,AF]);refine Bj (by first | exact .inl rfl | exact .inr rfl) rfl ?_;simp only [VU,Dy,Du,DL,Tryz.results11,go_sem,true_and,and_true,C.pl,List.all_cons,List.all_nil,Bool.and_true,List.take_succ_cons,List.take_zero,List.drop_zero]))
   refine ⟨a4,R.set s ((e,t) :: R[s]),rfl,rfl,by omega,by simp;omega,fun q hq=>?_⟩
   rcases List.mem_or_eq_of_mem_set hq with hq | rfl
   ·have:=hr q hq;omega
   rw [hm6];omega
  ·(repeat (((repeat (first | (refine AC ?_;intro K hK) | refine Aj ?_ | refine Ad ?_ | (refine B5 rfl rfl ?_;intro K1 hK1;simp only [go_sem,Int.cast_ofNat_Int,Int.reduceBEq,Int.reduceNeg];(first | refine hK1 _ ?_ | refine AD (hK1 _ ?_));clear hK1 K1) | ((first | refine Aa ?_ | refine Al ?_);refine hK _ ?_;clear hK K))));(refine At ?_;intro X Y hX hY;simp only [go_sem,Int.cast_ofNat_Int,Int.reduceBEq]);(first | refine hX ?_ | refine hY ?_);clear hX hY X Y))
   (repeat (first | (refine AC ?_;intro K hK) | refine Aj ?_ | refine Ad ?_ | (refine B5 rfl rfl ?_;intro K1 hK1;simp only [go_sem,Int.cast_ofNat_Int,Int.reduceBEq];(first | refine hK1 _ ?_ | refine AD (hK1 _ ?_));clear hK1 K1) | ((first | refine Aa ?_ | refine Al ?_);refine hK _ ?_;clear hK K)))
   (refine AJ [3] (.m 0 0 0 (.m 2 0 0 (.m 3 0 0 (.m 5 0 0 (.m 8 0 0 (.m 10 0 0 (.m 1 1 15 (.m 4 1 13 (.m 6 0 0 (.m 7 1 13 (.m 9 1 13 (.m 11 0 0 (.m 12 1 13 (.a 13 (.m 14 0 0 (.a 15 .e)))))))))))))))) (by kernel_rfl) (by kernel_rfl) (by intro c st h;simp [Ae,AF,VT] at h) ?_)
   (refine Ww (an @AB (B8 hgs)) ?_;repeat clear hK K)
   (refine Ga rfl rfl rfl ?_;intro K1 hK1;refine CK rfl rfl rfl rfl (by first | rfl | simp only [CQ,List.getD_cons_zero,List.getD_cons_succ,hne,List.isEmpty_cons,Bool.not_false,Bool.true_and,Bool.and_true,Bool.and_self]) rfl ?_;simp only [go_sem,Cp,A2,Ak,D8,B8 hgs];(first | refine hK1 _ ?_ | refine AD (hK1 _ ?_));clear hK1 K1)
   (refine Wv ?_;repeat clear hK K)
   (refine Wk rfl rfl rfl rfl ?_;intro K1 hK1;refine AP rfl ?_;simp only [go_sem,AB,List.length_set,Ct,C.one,C.pl];(first | refine hK1 _ ?_ | refine AD (hK1 _ ?_));clear hK1 K1)
   (refine Wv ?_;repeat clear hK K)
   have hm6:(R[s]++R[s]).length=R[s].length+R[s].length:=by first | (simp;done) | (simp;omega)
   have hj6:((Aw R).set s (C.s 5 (R[s].length+R[s].length)))[s]?=some (.s 5 (R[s].length+R[s].length)):=by rw [gEc (by rw [AB];exact hs)]
   have hset6:((Aw R).set s (C.s 5 (R[s].length+R[s].length))).set s (.o (2,46) (Ao (R[s]++R[s])))=Aw (R.set s (R[s]++R[s])):=by rw [Ct,C3]
   refine Au (AR (r:=⟨46,2,true,Ax (R[s]++R[s])⟩) (ri:=⟨42,1,true,(Aw R).set s (C.s 5 (R[s].length+R[s].length))⟩) (ts:=Ao (R[s]++R[s])) 2 s 5 (R[s].length+R[s].length) (by decide) rfl hj6 rfl rfl (show 0<2 by omega) (by rw [Ap,hm6]) (Dl _)) ?_
   simp only [hset6,go_sem]
   refine Au (Cm 2 rfl) ?_
   simp only [Cl,go_sem]
   refine Au (AR (r:=⟨42,1,true,AO (R.set s (R[s]++R[s]))⟩) (ri:=⟨25,1,false,[.s 2 R.length]⟩) (ts:=Ah (R.set s (R[s]++R[s]))) 3 0 2 R.length (by decide) rfl rfl rfl rfl (show 0<1 by omega) (by simp only [Ay,List.length_set];omega) (CZ _)) ?_
   refine Au (Cm 3 rfl) ?_
   simp only [VX,List.map_cons,List.map_nil,go_sem]
   (refine Wt ?_;(repeat clear hK K);repeat refine kq fun K hK=>?_)
   ((try refine Av ?_);(try simp only [Ae,AF]);refine B6 (A9 [0,1] rfl rfl) ?_;(try simp only [List.set_nil,List.take_nil,List.take_zero,List.map_append,go_sem]);((try refine Av ?_);(try refine Aa ?_);(try simp only [Ae,AF]);refine Bj (by first | exact .inl rfl | exact .inr rfl) rfl ?_;simp only [VU,Dy,Du,DL,Tryz.results11,go_sem,true_and,and_true,C.pl,List.all_cons,List.all_nil,Bool.and_true,List.take_succ_cons,List.take_zero,List.drop_zero]))
   refine ⟨a4,R.set s (R[s]++R[s]),rfl,rfl,by omega,by simp;omega,fun q hq=>?_⟩
   rcases List.mem_or_eq_of_mem_set hq with hq | rfl
   ·have:=hr q hq;omega
   rw [hm6];omega
  ·(repeat (((repeat (first | (refine AC ?_;intro K hK) | refine Aj ?_ | refine Ad ?_ | (refine B5 rfl rfl ?_;intro K1 hK1;simp only [go_sem,Int.natCast_zero,Int.reduceBEq,Int.reduceNeg];(first | refine hK1 _ ?_ | refine AD (hK1 _ ?_));clear hK1 K1) | ((first | refine Aa ?_ | refine Al ?_);refine hK _ ?_;clear hK K))));(refine At ?_;intro X Y hX hY;simp only [go_sem,Int.natCast_zero,Int.reduceBEq]);(first | refine hX ?_ | refine hY ?_);clear hX hY X Y))
   (repeat (first | (refine AC ?_;intro K hK) | refine Aj ?_ | refine Ad ?_ | (refine B5 rfl rfl ?_;intro K1 hK1;simp only [go_sem,Int.natCast_zero,Int.reduceBEq];(first | refine hK1 _ ?_ | refine AD (hK1 _ ?_));clear hK1 K1) | ((first | refine Aa ?_ | refine Al ?_);refine hK _ ?_;clear hK K)))
   (try refine Av ?_)
   (try simp only [Ae,AF])
   refine B6 (Nk 1 [1] rfl) ?_
   simp only [X5,X4,List.set_cons_zero,List.set_cons_succ]
   ((try refine Av ?_);(try simp only [Ae,AF]);refine B6 (A9 [0,1] rfl rfl) ?_;(try simp only [List.set_nil,List.take_nil,List.take_zero,List.map_append,go_sem]);((try refine Av ?_);(try refine Aa ?_);(try simp only [Ae,AF]);refine Bj (by first | exact .inl rfl | exact .inr rfl) rfl ?_;simp only [VU,Dy,Du,DL,Tryz.results11,go_sem,true_and,and_true,C.pl,List.all_cons,List.all_nil,Bool.and_true,List.take_succ_cons,List.take_zero,List.drop_zero]))
   exact ⟨a4,[],rfl,rfl,by omega,by simp,by simp⟩
  ·(repeat (((repeat (first | (refine AC ?_;intro K hK) | refine Aj ?_ | refine Ad ?_ | (refine B5 rfl rfl ?_;intro K1 hK1;simp only [go_sem,Int.natCast_one,Int.reduceBEq,Int.reduceNeg];(first | refine hK1 _ ?_ | refine AD (hK1 _ ?_));clear hK1 K1) | ((first | refine Aa ?_ | refine Al ?_);refine hK _ ?_;clear hK K))));(refine At ?_;intro X Y hX hY;simp only [go_sem,Int.natCast_one,Int.reduceBEq]);(first | refine hX ?_ | refine hY ?_);clear hX hY X Y))
   (repeat (first | (refine AC ?_;intro K hK) | refine Aj ?_ | refine Ad ?_ | (refine B5 rfl rfl ?_;intro K1 hK1;simp only [go_sem,Int.natCast_one,Int.reduceBEq];(first | refine hK1 _ ?_ | refine AD (hK1 _ ?_));clear hK1 K1) | ((first | refine Aa ?_ | refine Al ?_);refine hK _ ?_;clear hK K)))
   (refine AJ [3] (.m 0 0 0 (.m 2 0 0 (.m 3 0 0 (.m 5 0 0 (.m 8 0 0 (.m 1 1 14 (.m 4 1 12 (.m 6 0 0 (.m 7 1 12 (.m 9 1 11 (.m 10 0 0 (.a 11 (.a 12 (.m 13 0 0 (.a 14 .e))))))))))))))) (by kernel_rfl) (by kernel_rfl) (by intro c st h;simp [Ae,AF,VT] at h) ?_)
   (refine Ww (an @AB (B8 hgs)) ?_;repeat clear hK K)
   (refine Wj rfl rfl ?_;intro K1 hK1;refine Bx rfl ?_;simp only [go_sem];(first | refine hK1 _ ?_ | refine AD (hK1 _ ?_));clear hK1 K1)
   (refine Ga rfl rfl rfl ?_;intro K1 hK1;refine CK rfl rfl rfl rfl (by first | rfl | simp only [CQ,List.getD_cons_zero,List.getD_cons_succ,hne,List.isEmpty_cons,Bool.not_false,Bool.true_and,Bool.and_true,Bool.and_self]) rfl ?_;simp only [go_sem,Cp,A2,Ak,BF,B8 hgs];(first | refine hK1 _ ?_ | refine AD (hK1 _ ?_));clear hK1 K1)
   (refine Wv ?_;repeat clear hK K)
   (refine Wk rfl rfl rfl rfl ?_;intro K1 hK1;refine AP rfl ?_;simp only [go_sem,AB,List.length_set,Ct,C.one,C.pl];(first | refine hK1 _ ?_ | refine AD (hK1 _ ?_));clear hK1 K1)
   (refine Wv ?_;repeat clear hK K)
   have hm6:(R[s]++[(-1,t)]).length=R[s].length+1:=by first | (simp;done) | (simp;omega)
   have hj6:((Aw R).set s (C.s 6 (R[s].length+1)))[s]?=some (.s 6 (R[s].length+1)):=by rw [gEc (by rw [AB];exact hs)]
   have hset6:((Aw R).set s (C.s 6 (R[s].length+1))).set s (.o (2,46) (Ao (R[s]++[(-1,t)])))=Aw (R.set s (R[s]++[(-1,t)])):=by rw [Ct,C3]
   refine Au (AR (r:=⟨46,2,true,Ax (R[s]++[(-1,t)])⟩) (ri:=⟨42,1,true,(Aw R).set s (C.s 6 (R[s].length+1))⟩) (ts:=Ao (R[s]++[(-1,t)])) 2 s 6 (R[s].length+1) (by decide) rfl hj6 rfl rfl (show 0<2 by omega) (by rw [Ap,hm6]) (Dl _)) ?_
   simp only [hset6,go_sem]
   refine Au (Cm 2 rfl) ?_
   simp only [Cl,go_sem]
   refine Au (AR (r:=⟨42,1,true,AO (R.set s (R[s]++[(-1,t)]))⟩) (ri:=⟨25,1,false,[.s 2 R.length]⟩) (ts:=Ah (R.set s (R[s]++[(-1,t)]))) 3 0 2 R.length (by decide) rfl rfl rfl rfl (show 0<1 by omega) (by simp only [Ay,List.length_set];omega) (CZ _)) ?_
   refine Au (Cm 3 rfl) ?_
   simp only [VX,List.map_cons,List.map_nil,go_sem]
   (refine Wt ?_;(repeat clear hK K);repeat refine kq fun K hK=>?_)
   ((try refine Av ?_);(try simp only [Ae,AF]);refine B6 (A9 [0,1] rfl rfl) ?_;(try simp only [List.set_nil,List.take_nil,List.take_zero,List.map_append,go_sem]);((try refine Av ?_);(try refine Aa ?_);(try simp only [Ae,AF]);refine Bj (by first | exact .inl rfl | exact .inr rfl) rfl ?_;simp only [VU,Dy,Du,DL,Tryz.results11,go_sem,true_and,and_true,C.pl,List.all_cons,List.all_nil,Bool.and_true,List.take_succ_cons,List.take_zero,List.drop_zero]))
   refine ⟨a4,R.set s (R[s]++[(-1,t)]),rfl,rfl,by omega,by simp;omega,fun q hq=>?_⟩
   rcases List.mem_or_eq_of_mem_set hq with hq | rfl
   ·have:=hr q hq;omega
   rw [hm6];omega
  ·(repeat (((repeat (first | (refine AC ?_;intro K hK) | refine Aj ?_ | refine Ad ?_ | (refine B5 rfl rfl ?_;intro K1 hK1;simp only [go_sem,Int.cast_ofNat_Int,Int.reduceBEq,Int.reduceNeg];(first | refine hK1 _ ?_ | refine AD (hK1 _ ?_));clear hK1 K1) | ((first | refine Aa ?_ | refine Al ?_);refine hK _ ?_;clear hK K))));(refine At ?_;intro X Y hX hY;simp only [go_sem,Int.cast_ofNat_Int,Int.reduceBEq]);(first | refine hX ?_ | refine hY ?_);clear hX hY X Y))
   (repeat (first | (refine AC ?_;intro K hK) | refine Aj ?_ | refine Ad ?_ | (refine B5 rfl rfl ?_;intro K1 hK1;simp only [go_sem,Int.cast_ofNat_Int,Int.reduceBEq];(first | refine hK1 _ ?_ | refine AD (hK1 _ ?_));clear hK1 K1) | ((first | refine Aa ?_ | refine Al ?_);refine hK _ ?_;clear hK K)))
   (refine AJ [3] (.m 0 0 0 (.m 2 0 0 (.m 3 0 0 (.m 5 0 0 (.m 8 0 0 (.m 1 1 14 (.m 4 1 12 (.m 6 0 0 (.m 7 1 12 (.m 9 1 11 (.m 10 0 0 (.a 11 (.a 12 (.m 13 0 0 (.a 14 .e))))))))))))))) (by kernel_rfl) (by kernel_rfl) (by intro c st h;simp [Ae,AF,VT] at h) ?_)
   (refine Ww (an @AB (B8 hgs)) ?_;repeat clear hK K)
   (refine Wj rfl rfl ?_;intro K1 hK1;refine Bx rfl ?_;simp only [go_sem];(first | refine hK1 _ ?_ | refine AD (hK1 _ ?_));clear hK1 K1)
   (refine Ga rfl rfl rfl ?_;intro K1 hK1;refine CK rfl rfl rfl rfl (by first | rfl | simp only [CQ,List.getD_cons_zero,List.getD_cons_succ,hne,List.isEmpty_cons,Bool.not_false,Bool.true_and,Bool.and_true,Bool.and_self]) rfl ?_;simp only [go_sem,Cp,A2,Ak,BF,B8 hgs];(first | refine hK1 _ ?_ | refine AD (hK1 _ ?_));clear hK1 K1)
   (refine Wv ?_;repeat clear hK K)
   (refine Wk rfl rfl rfl rfl ?_;intro K1 hK1;refine AP rfl ?_;simp only [go_sem,AB,List.length_set,Ct,C.one,C.pl];(first | refine hK1 _ ?_ | refine AD (hK1 _ ?_));clear hK1 K1)
   (refine Wv ?_;repeat clear hK K)
   have hm6:(R[s]++[(1026,t)]).length=R[s].length+1:=by first | (simp;done) | (simp;omega)
   have hj6:((Aw R).set s (C.s 6 (R[s].length+1)))[s]?=some (.s 6 (R[s].length+1)):=by rw [gEc (by rw [AB];exact hs)]
   have hset6:((Aw R).set s (C.s 6 (R[s].length+1))).set s (.o (2,46) (Ao (R[s]++[(1026,t)])))=Aw (R.set s (R[s]++[(1026,t)])):=by rw [Ct,C3]
   refine Au (AR (r:=⟨46,2,true,Ax (R[s]++[(1026,t)])⟩) (ri:=⟨42,1,true,(Aw R).set s (C.s 6 (R[s].length+1))⟩) (ts:=Ao (R[s]++[(1026,t)])) 2 s 6 (R[s].length+1) (by decide) rfl hj6 rfl rfl (show 0<2 by omega) (by rw [Ap,hm6]) (Dl _)) ?_
   simp only [hset6,go_sem]
   refine Au (Cm 2 rfl) ?_
   simp only [Cl,go_sem]
   refine Au (AR (r:=⟨42,1,true,AO (R.set s (R[s]++[(1026,t)]))⟩) (ri:=⟨25,1,false,[.s 2 R.length]⟩) (ts:=Ah (R.set s (R[s]++[(1026,t)]))) 3 0 2 R.length (by decide) rfl rfl rfl rfl (show 0<1 by omega) (by simp only [Ay,List.length_set];omega) (CZ _)) ?_
   refine Au (Cm 3 rfl) ?_
   simp only [VX,List.map_cons,List.map_nil,go_sem]
   (refine Wt ?_;(repeat clear hK K);repeat refine kq fun K hK=>?_)
   ((try refine Av ?_);(try simp only [Ae,AF]);refine B6 (A9 [0,1] rfl rfl) ?_;(try simp only [List.set_nil,List.take_nil,List.take_zero,List.map_append,go_sem]);((try refine Av ?_);(try refine Aa ?_);(try simp only [Ae,AF]);refine Bj (by first | exact .inl rfl | exact .inr rfl) rfl ?_;simp only [VU,Dy,Du,DL,Tryz.results11,go_sem,true_and,and_true,C.pl,List.all_cons,List.all_nil,Bool.and_true,List.take_succ_cons,List.take_zero,List.drop_zero]))
   refine ⟨a4,R.set s (R[s]++[(1026,t)]),rfl,rfl,by omega,by simp;omega,fun q hq=>?_⟩
   rcases List.mem_or_eq_of_mem_set hq with hq | rfl
   ·have:=hr q hq;omega
   rw [hm6];omega
  (repeat (((repeat (first | (refine AC ?_;intro K hK) | refine Aj ?_ | refine Ad ?_ | (refine B5 rfl rfl ?_;intro K1 hK1;simp only [go_sem,Int.cast_ofNat_Int,Int.reduceBEq,Int.reduceNeg];(first | refine hK1 _ ?_ | refine AD (hK1 _ ?_));clear hK1 K1) | ((first | refine Aa ?_ | refine Al ?_);refine hK _ ?_;clear hK K))));(refine At ?_;intro X Y hX hY;simp only [go_sem,Int.cast_ofNat_Int,Int.reduceBEq]);(first | refine hX ?_ | refine hY ?_);clear hX hY X Y))
  (repeat (first | (refine AC ?_;intro K hK) | refine Aj ?_ | refine Ad ?_ | (refine B5 rfl rfl ?_;intro K1 hK1;simp only [go_sem,Int.cast_ofNat_Int,Int.reduceBEq];(first | refine hK1 _ ?_ | refine AD (hK1 _ ?_));clear hK1 K1) | ((first | refine Aa ?_ | refine Al ?_);refine hK _ ?_;clear hK K)))
  (refine AJ [3] (.m 0 0 0 (.m 2 0 0 (.m 3 0 0 (.m 5 0 0 (.m 8 0 0 (.m 10 0 0 (.m 1 1 17 (.m 4 1 15 (.m 6 0 0 (.m 7 1 15 (.m 9 1 14 (.m 11 1 14 (.m 12 0 0 (.m 13 0 0 (.a 14 (.a 15 (.m 16 0 0 (.a 17 .e)))))))))))))))))) (by kernel_rfl) (by kernel_rfl) (by intro c st h;simp [Ae,AF,VT] at h) ?_)
  (refine Ww (an @AB (B8 hgs)) ?_;repeat clear hK K)
  (refine Wj rfl rfl ?_;intro K1 hK1;refine Bx rfl ?_;simp only [go_sem];(first | refine hK1 _ ?_ | refine AD (hK1 _ ?_));clear hK1 K1)
  (refine Ga rfl rfl rfl ?_;intro K1 hK1;refine CK rfl rfl rfl rfl (by first | rfl | simp only [CQ,List.getD_cons_zero,List.getD_cons_succ,hne,List.isEmpty_cons,Bool.not_false,Bool.true_and,Bool.and_true,Bool.and_self]) rfl ?_;simp only [go_sem,Cp,A2,Ak,BF,B8 hgs];(first | refine hK1 _ ?_ | refine AD (hK1 _ ?_));clear hK1 K1)
  (refine Wv ?_;repeat clear hK K)
  (refine Wk rfl rfl rfl rfl ?_;intro K1 hK1;refine AP rfl ?_;simp only [go_sem,AB,List.length_set,Ct,C.one,C.pl];(first | refine hK1 _ ?_ | refine AD (hK1 _ ?_));clear hK1 K1)
  (refine Wv ?_;repeat clear hK K)
  have hm6:(R[s]++[(e,(R.length:Int))]).length=R[s].length+1:=by first | (simp;done) | (simp;omega)
  have hj6:((Aw R).set s (C.s 6 (R[s].length+1)))[s]?=some (.s 6 (R[s].length+1)):=by rw [gEc (by rw [AB];exact hs)]
  have hset6:((Aw R).set s (C.s 6 (R[s].length+1))).set s (.o (2,46) (Ao (R[s]++[(e,(R.length:Int))])))=Aw (R.set s (R[s]++[(e,(R.length:Int))])):=by rw [Ct,C3]
  refine Au (AR (r:=⟨46,2,true,Ax (R[s]++[(e,(R.length:Int))])⟩) (ri:=⟨42,1,true,(Aw R).set s (C.s 6 (R[s].length+1))⟩) (ts:=Ao (R[s]++[(e,(R.length:Int))])) 2 s 6 (R[s].length+1) (by decide) rfl hj6 rfl rfl (show 0<2 by omega) (by rw [Ap,hm6]) (Dl _)) ?_
  simp only [hset6,go_sem]
  refine Au (Cm 2 rfl) ?_
  simp only [Cl,go_sem]
  refine Au (AR (r:=⟨42,1,true,AO (R.set s (R[s]++[(e,(R.length:Int))]))⟩) (ri:=⟨25,1,false,[.s 2 R.length]⟩) (ts:=Ah (R.set s (R[s]++[(e,(R.length:Int))]))) 3 0 2 R.length (by decide) rfl rfl rfl rfl (show 0<1 by omega) (by simp only [Ay,List.length_set];omega) (CZ _)) ?_
  refine Au (Cm 3 rfl) ?_
  simp only [VX,List.map_cons,List.map_nil,go_sem]
  (refine Wt ?_;(repeat clear hK K);repeat refine kq fun K hK=>?_)
  ((try refine Av ?_);(try simp only [Ae,AF]);refine B6 (A9 [0,1] rfl rfl) ?_;(try simp only [List.set_nil,List.take_nil,List.take_zero,List.map_append,go_sem]);((try refine Av ?_);(try refine Aa ?_);(try simp only [Ae,AF]);refine Bj (by first | exact .inl rfl | exact .inr rfl) rfl ?_;simp only [VU,Dy,Du,DL,Tryz.results11,go_sem,true_and,and_true,C.pl,List.all_cons,List.all_nil,Bool.and_true,List.take_succ_cons,List.take_zero,List.drop_zero]))
  refine ⟨a4,R.set s (R[s]++[(e,(R.length:Int))]),rfl,rfl,by omega,by simp;omega,fun q hq=>?_⟩
  rcases List.mem_or_eq_of_mem_set hq with hq | rfl
  ·have:=hr q hq;omega
  rw [hm6];omega
 clear hK
 (refine AJ [3] (.m 0 0 0 (.m 2 0 0 (.m 3 0 0 (.m 4 1 6 (.m 5 0 0 (.f 1 (.f 6 (.m 7 0 0 (.a 8 (.a 9 .e))) 8 (.a 6 (.m 7 0 0 (.a 9 .e)))) 8 (.a 1 (.a 6 (.m 7 0 0 (.a 9 .e)))))))))) (by kernel_rfl) (by kernel_rfl) (by intro c st h;simp [Ae,AF,VT] at h) ?_)
 (refine Wv ?_;repeat clear hK K)
 refine Wl ?_ ?_
 rotate_left
 ·(refine Wj rfl rfl ?_;intro K1 hK1;refine Bx rfl ?_;simp only [go_sem];(first | refine hK1 _ ?_ | refine AD (hK1 _ ?_));clear hK1 K1)
  (refine Ga rfl rfl rfl ?_;intro K1 hK1;refine yX [0] ?_;refine xy [0] (EE T hT (a+1) (by omega)) ?_ ?_)
  ·rintro _ _ ⟨rfl,v,rfl,_⟩;exact CB rfl
  rintro _ _ ⟨rfl,e,rfl,he⟩
  (simp only [As,Bl,tape,Ck,List.append_nil,List.nil_append,List.length_map,go_sem];refine hK1 _ ?_;clear hK1 K1)
  (refine Wv ?_;repeat clear hK K)
  (refine Ga rfl rfl rfl ?_;intro K1 hK1;refine yX [0] ?_;refine xy [0] (Dk T (a+1+1) R.length hT (by omega) (by omega)) ?_ ?_)
  ·rintro _ _ ⟨rfl,v,rfl,_⟩;exact CB rfl
  rintro _ _ ⟨rfl,t,rfl,ht⟩
  (simp only [As,Bl,tape,Ck,List.append_nil,List.nil_append,List.length_map,go_sem];refine hK1 _ ?_;clear hK1 K1)
  (refine Wv ?_;repeat clear hK K)
  (refine Wk rfl rfl rfl rfl ?_;intro K1 hK1;refine AP rfl ?_;simp only [go_sem];(first | refine hK1 _ ?_ | refine AD (hK1 _ ?_));clear hK1 K1)
  refine CL ⟨by simp,by simp,?_⟩
  refine hK2 _ e t (a+1+1+1) (by omega) ?_
  exact WE
 (refine Ga rfl rfl rfl ?_;intro K1 hK1;refine yX [0] ?_;refine xy [0] (EE T hT (a+1) (by omega)) ?_ ?_)
 ·rintro _ _ ⟨rfl,v,rfl,_⟩;exact CB rfl
 rintro _ _ ⟨rfl,e,rfl,he⟩
 (simp only [As,Bl,tape,Ck,List.append_nil,List.nil_append,List.length_map,go_sem];refine hK1 _ ?_;clear hK1 K1)
 (refine Wv ?_;repeat clear hK K)
 refine Wl ?_ ?_
 ·(refine Ga rfl rfl rfl ?_;intro K1 hK1;refine yX [0] ?_;refine xy [0] (Dk T (a+1+1) R.length hT (by omega) (by omega)) ?_ ?_)
  ·rintro _ _ ⟨rfl,v,rfl,_⟩;exact CB rfl
  rintro _ _ ⟨rfl,t,rfl,ht⟩
  (simp only [As,Bl,tape,Ck,List.append_nil,List.nil_append,List.length_map,go_sem];refine hK1 _ ?_;clear hK1 K1)
  (refine Wv ?_;repeat clear hK K)
  (refine Wj rfl rfl ?_;intro K1 hK1;refine Bx rfl ?_;simp only [go_sem];(first | refine hK1 _ ?_ | refine AD (hK1 _ ?_));clear hK1 K1)
  (refine Wk rfl rfl rfl rfl ?_;intro K1 hK1;refine AP rfl ?_;simp only [go_sem];(first | refine hK1 _ ?_ | refine AD (hK1 _ ?_));clear hK1 K1)
  refine CL ⟨by simp,by simp,?_⟩
  refine hK2 _ e t (a+1+1+1) (by omega) ?_
  exact WE
 (refine Wj rfl rfl ?_;intro K1 hK1;refine Bx rfl ?_;simp only [go_sem];(first | refine hK1 _ ?_ | refine AD (hK1 _ ?_));clear hK1 K1)
 (refine Ga rfl rfl rfl ?_;intro K1 hK1;refine yX [0] ?_;refine xy [0] (Dk T (a+1+1) R.length hT (by omega) (by omega)) ?_ ?_)
 ·rintro _ _ ⟨rfl,v,rfl,_⟩;exact CB rfl
 rintro _ _ ⟨rfl,t,rfl,ht⟩
 (simp only [As,Bl,tape,Ck,List.append_nil,List.nil_append,List.length_map,go_sem];refine hK1 _ ?_;clear hK1 K1)
 (refine Wv ?_;repeat clear hK K)
 (refine Wk rfl rfl rfl rfl ?_;intro K1 hK1;refine AP rfl ?_;simp only [go_sem];(first | refine hK1 _ ?_ | refine AD (hK1 _ ?_));clear hK1 K1)
 refine CL ⟨by simp,by simp,?_⟩
 refine hK2 _ e t (a+1+1+1) (by omega) ?_
 exact WE
theorem PO (T:List Int) (hT:TpOk T) (a:Nat) (R:List (List Ar)) (ha:a<=1000000) (h1:1<=R.length) (hn:R.length<=20) (hr:∀ r∈R,r.length<=1000):
  FC Tryz.prog 11 [.a (.c (.p 0 0)),B7 R] [tape T a] (fun r o=>∃ (a':Nat) (R':List (List Ar)),o=[tape T a',Kv R']/\r=B7 R'/\a'<=a+4/\R'.length<=20/\∀ q∈R',q.length<=2001):=
 Nm 1000 (by omega) T hT a R ha h1 hn hr
end Go.Proofs.YtjijjfkalheokaaGreatDoor
