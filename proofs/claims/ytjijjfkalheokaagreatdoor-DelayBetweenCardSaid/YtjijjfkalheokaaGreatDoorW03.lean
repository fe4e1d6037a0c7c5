/- Lemmas. -/
import Derived.Test.YtjijjfkalheokaaGreatDoorZk
import Derived.Test.YtjijjfkalheokaaGreatDoorG37
import Derived.Test.YtjijjfkalheokaaGreatDoorMob
import Derived.Test.YtjijjfkalheokaaGreatDoorMit
namespace Go.Proofs.YtjijjfkalheokaaGreatDoor
set_option linter.unusedVariables false
set_option linter.unusedSimpArgs false
open Go.RowKit
set_option maxRecDepth 100000
attribute [local go_sem] lga C.pl C.one

def Y9 (X:List (List Ar)) (D Q:List Int) (M:List (List Int)) (dv:List Bool):Row:=⟨92,5,false,[.t 1 (Ah X),.t 1 (Ab D),.t 1 (Ab Q),.t 1 (Co M),.t 1 (X6 dv)]⟩
theorem GC (X:List (List Ar)) (D Q:List Int) (M:List (List Int)) (dv:List Bool):Y9 X D Q M dv=⟨92,5,false,[.t 1 (Ah X),.t 1 (Ab D),.t 1 (Ab Q),.t 1 (Co M),.t 1 (X6 dv)]⟩:=rfl
structure HS (r0 r1:Row) (n:Nat) (H:List Ob) (tc vc:List C):Prop where
 h0:H[0]?=some (.r r0)
 hx:H[1]?=some (.r r1)
 h1:H[2]?=some (.r ⟨3,1,false,[.v (.int .i64 1)]⟩)
 h2:H[3]?=some (.r ⟨135,1,true,tc⟩)
 h3:H[4]?=some (.r ⟨138,1,true,vc⟩)
 h4:H[5]?=some (.r ⟨133,2,false,[.s 3 n,.s 4 n]⟩)
 ok:H.all Cd=true
theorem HS.pre {r0 r1:Row} {n:Nat} {H G:List Ob} {tc vc:List C} (h:HS r0 r1 n H tc vc) (hp:Pre H G) (ho:G.all Cd=true):HS r0 r1 n G tc vc:=⟨hp.at h.h0,hp.at h.hx,hp.at h.h1,hp.at h.h2,hp.at h.h3,hp.at h.h4,ho⟩
def TA (X:List (List Ar)) (cl:List Int) (Q:List Nat) (k:Nat) (H:List Ob) (tc:List C):Prop:=tc.length=X.length/\tc.all C.pl=true/\∀ j c,j<k->Q[j]?=some c->∃ x w,tc[c]?=some (.s x 1)/\6<=x/\H[x]?=some (C4 w)/\WS w (RT X cl c)
theorem TA.pre {X:List (List Ar)} {cl:List Int} {Q:List Nat} {k:Nat} {H G:List Ob} {tc:List C} (h:TA X cl Q k H tc) (hp:Pre H G):TA X cl Q k G tc:=⟨h.1,h.2.1,fun j c hj hc=>by obtain ⟨x,w,a,b,d,e⟩:=h.2.2 j c hj hc;exact ⟨x,w,a,b,hp.at d,e⟩⟩
theorem DV {tc:List C} (h:tc.all C.pl=true) {x:C} (hx:x.pl=true) (c:Nat):(tc.set c x).all C.pl=true:=by
 rw [List.all_eq_true]
 intro y hy
 rcases List.mem_or_eq_of_mem_set hy with h2 | h2
 ·exact List.all_eq_true.1 h y h2
 rw [h2];exact hx
theorem TA.step {X:List (List Ar)} {cl:List Int} {Q:List Nat} {k c L w:Nat} {H G:List Ob} {tc:List C} (h:TA X cl Q k H tc) (hQ:Q.Nodup) (hk:Q[k]?=some c) (hc:c<X.length) (hp:Pre H G) (hL:6<=L) (hg:G[L]?=some (C4 w)) (hw:WS w (RT X cl c)) (ob:Ob):TA X cl Q (k+1) (G.set 3 ob) (tc.set c (.s L 1)):=by
 refine ⟨by rw [List.length_set];exact h.1,DV h.2.1 rfl c,fun j d hj hd=>?_⟩
 by_cases e:j=k
 ·subst e
  rw [hk] at hd
  cases hd
  exact ⟨L,w,gEc (by rw [h.1];exact hc),hL,by rw [gE5 (by omega)];exact hg,hw⟩
 obtain ⟨x,w,a,b,d1,d2⟩:=h.2.2 j d (by omega) hd
 have hne:c ≠ d:=fun e2=>by
  subst e2
  obtain ⟨l1,e1⟩:=List.getElem?_eq_some_iff.1 hk
  obtain ⟨l2,e3⟩:=List.getElem?_eq_some_iff.1 hd
  exact e ((List.getElem_inj hQ).1 (e3.trans e1.symm))
 exact ⟨x,w,by rw [gE5 hne];exact a,b,by rw [gE5 (by omega)];exact hp.at d1,d2⟩
def TB (X:List (List Ar)) (cl:List Int) (Q:List Nat) (k:Nat) (H:List Ob) (vc:List C):Prop:=vc.length=X.length/\vc.all C.pl=true/\∀ j c,j<k->Q[j]?=some c->∃ m V,vc[c]?=some (.m m)/\6<=m/\H[m]?=some (.m (Y4 V))/\VSt H 6 V (RV X cl c)
theorem TB.pre {X:List (List Ar)} {cl:List Int} {Q:List Nat} {k:Nat} {H G:List Ob} {vc:List C} (h:TB X cl Q k H vc) (hp:Pre H G):TB X cl Q k G vc:=⟨h.1,h.2.1,fun j c hj hc=>by obtain ⟨m,V,a,a2,b,d⟩:=h.2.2 j c hj hc;exact ⟨m,V,a,a2,hp.at b,d.pre hp⟩⟩
theorem TA.set4 {X:List (List Ar)} {cl:List Int} {Q:List Nat} {k:Nat} {H:List Ob} {tc:List C} (h:TA X cl Q k H tc) (ob:Ob):TA X cl Q k (H.set 4 ob) tc:=⟨h.1,h.2.1,fun j c hj hc=>by
 obtain ⟨y,w,a,b,d,e⟩:=h.2.2 j c hj hc
 exact ⟨y,w,a,b,by rw [gE5 (by omega)];exact d,e⟩⟩
theorem VSt.set4 {H:List Ob} {V:List (Int × Nat × Nat)} {N:Int->Nat->Prop} (h:VSt H 6 V N) (ob:Ob):VSt (H.set 4 ob) 6 V N:=⟨h.nd,h.nk,fun p hp=>by
 obtain ⟨a,b,c⟩:=h.ob p hp
 exact ⟨a,by rw [gE5 (by omega)];exact b,c⟩,h.ex⟩
theorem VSt.low {H:List Ob} {L M:Nat} {V:List (Int × Nat × Nat)} {N:Int->Nat->Prop} (h:VSt H L V N) (hL:M<=L):VSt H M V N:=⟨h.nd,h.nk,fun p hp=>by
 obtain ⟨a,b⟩:=h.ob p hp
 exact ⟨by omega,b⟩,h.ex⟩
theorem TB.step {X:List (List Ar)} {cl:List Int} {Q:List Nat} {k c m:Nat} {H G:List Ob} {vc:List C} {V:List (Int × Nat × Nat)} (h:TB X cl Q k H vc) (hQ:Q.Nodup) (hk:Q[k]?=some c) (hc:c<X.length) (hp:Pre H G) (hm:6<=m) (hg:G[m]?=some (.m (Y4 V))) (hV:VSt G 6 V (RV X cl c)) (ob:Ob):TB X cl Q (k+1) (G.set 4 ob) (vc.set c (.m m)):=by
 refine ⟨by rw [List.length_set];exact h.1,DV h.2.1 rfl c,fun j d hj hd=>?_⟩
 by_cases e:j=k
 ·subst e
  rw [hk] at hd
  cases hd
  exact ⟨m,V,gEc (by rw [h.1];exact hc),hm,by rw [gE5 (by omega)];exact hg,hV.set4 _⟩
 obtain ⟨m2,V2,a,a2,b,d2⟩:=h.2.2 j d (by omega) hd
 have hne:c ≠ d:=fun e2=>by
  subst e2
  obtain ⟨l1,e1⟩:=List.getElem?_eq_some_iff.1 hk
  obtain ⟨l2,e3⟩:=List.getElem?_eq_some_iff.1 hd
  exact e ((List.getElem_inj hQ).1 (e3.trans e1.symm))
 exact ⟨m2,V2,by rw [gE5 hne];exact a,a2,by rw [gE5 (by omega)];exact hp.at b,(d2.pre hp).set4 _⟩
theorem HS.setR {r0 r1:Row} {n:Nat} {H:List Ob} {tc vc tc':List C} (h:HS r0 r1 n H tc vc) (hl:tc'.all C.pl=true):HS r0 r1 n (H.set 3 (.r ⟨135,1,true,tc'⟩)) tc' vc:=
 ⟨by rw [gE5 (by omega)];exact h.h0,by rw [gE5 (by omega)];exact h.hx,by rw [gE5 (by omega)];exact h.h1,gEc (Br h.h2),by rw [gE5 (by omega)];exact h.h3,by rw [gE5 (by omega)];exact h.h4,C2 h.ok (y:=.r ⟨135,1,true,tc'⟩) hl 3⟩
theorem HS.setV {r0 r1:Row} {n:Nat} {H:List Ob} {tc vc vc':List C} (h:HS r0 r1 n H tc vc) (hl:vc'.all C.pl=true):HS r0 r1 n (H.set 4 (.r ⟨138,1,true,vc'⟩)) tc vc':=
 ⟨by rw [gE5 (by omega)];exact h.h0,by rw [gE5 (by omega)];exact h.hx,by rw [gE5 (by omega)];exact h.h1,by rw [gE5 (by omega)];exact h.h2,gEc (Br h.h3),by rw [gE5 (by omega)];exact h.h4,C2 h.ok (y:=.r ⟨138,1,true,vc'⟩) hl 4⟩
theorem HB (G:List Ob) (a b:Ob):(G++[a]).set G.length b=G++[b]:=by
 rw [List.set_append_right _ _ (Nat.le_refl _)];simp
theorem HD {l:List Nat} {k:Nat} (h:k<l.length):(Ab (l.map Int.ofNat))[k]?=some (.v (.int .i64 (l[k]:Int))):=Am (by rw [List.getElem?_map,gE1 h];rfl)
theorem HE (l:List Nat):(Ab (l.map Int.ofNat)).length=l.length:=by rw [A4,List.length_map]
set_option maxHeartbeats 8000000 in
theorem Un (X:List (List Ar)) (D cl:List Int) (Q:List Nat) (dv:List Bool) (cnt:Nat) (r1:Row) (hr1:r1.cells.all C.pl=true) (hr2:∀ f:List Nat,r1.cells.map (C.ren f)=r1.cells) (hv:Bv X=true) (hn:X.length<=64) (hr:∀ r∈X,r.length<=1000000) (hD:CpOk X D) (hQ:Hr (Xy (XG D) X X.length) X.length (XG D) Q) (hcl:Nrm X.length cl) (hc1:1<=cnt) (hc2:cnt<=64):
  FC Tryz.prog 77 [.a (.c (.p 0 0)),As cl,.i (cnt:Int)] [.r (Y9 X D (Q.map Int.ofNat) (Y6 (XG D) X.length) dv),.r r1] (fun r o=>r=.a (.c (.p 5 0))/\∃ tc vc,HS (Y9 X D (Q.map Int.ofNat) (Y6 (XG D) X.length) dv) r1 X.length o tc vc/\TA X cl Q Q.length o tc/\TB X cl Q Q.length o vc):=by
 refine A6 Tryz.func77 rfl (by rw [Tryz.ntmps77];simp) ?_
 rw [Tryz.ntmps77]
 have hlo:BE X=true:=gEg (gE4 hv).1
 have hDl:=hD.1
 have hcll:=hcl.len
 have hQl:Q.length<=X.length:=by
  have h:=Da (m:=List.range X.length) hQ.1 fun x hx=>by simpa using ((hQ.2.1 x).1 hx).1
  rwa [List.length_range] at h
 have q1:((cnt:Int)+64 - 1) / 64=1:=by omega
 simp only [Bf,As,Y9]
 (refine Wu @q1 ?_;(repeat clear hK K);repeat refine kq fun K hK=>?_)
 refine MW hK { tm:=[(0,.a (.c (.p 0 0))),(1,.a (.c (.t 1 (Ab cl)))),(7,.a (.c (.p 2 0))),(8,.a (.c (.p 5 0)))],hp:=[.r (Y9 X D (Q.map Int.ofNat) (Y6 (XG D) X.length) dv),.r r1,.r ⟨3,1,false,[.v (.int .i64 1)]⟩,.r ⟨135,1,true,List.replicate X.length (.o (1,155) [])⟩,.r ⟨138,1,true,List.replicate X.length (.v (.map none))⟩,.r ⟨133,2,false,[.s 3 X.length,.s 4 X.length]⟩],n:=216,pin:=2 } ?_ ?_
 ·clear hK;intro hK
  have hJ:=hK
  (refine AJ [] (.m 0 0 0 (.m 1 0 0 (.m 2 0 0 (.m 3 0 0 (.m 7 0 0 (.m 8 0 0 (.m 9 0 0 (.m 10 0 0 (.m 4 1 6 (.m 5 0 0 (.m 11 1 13 (.m 12 0 0 (.f 6 (.a 13 (.m 14 0 0 (.a 15 (.m 16 0 0 .e)))) 13 (.a 6 (.m 14 0 0 (.a 15 (.m 16 0 0 .e))))))))))))))))) (by kernel_rfl) (by kernel_rfl) (by intro c st h;simp [Ae,AF,VT] at h) ?_)
  (refine Ww @A3 ?_;repeat clear hK K)
  refine Wl ?_ ?_
  ·(refine Wj rfl rfl ?_;intro K1 hK1;refine Bx rfl ?_;simp only [go_sem];(first | refine hK1 _ ?_ | refine AD (hK1 _ ?_));clear hK1 K1)
   (refine Ww @A3 ?_;repeat clear hK K)
   (refine Wj rfl rfl ?_;intro K1 hK1;refine Bx rfl ?_;simp only [go_sem];(first | refine hK1 _ ?_ | refine AD (hK1 _ ?_));clear hK1 K1)
   (refine Wv ?_;repeat clear hK K)
   (refine Wj rfl rfl ?_;intro K1 hK1;refine Bx rfl ?_;simp only [go_sem];(first | refine hK1 _ ?_ | refine AD (hK1 _ ?_));clear hK1 K1)
   (refine Wv ?_;repeat clear hK K)
   (try (refine CL ⟨by simp,by simp,?_⟩;refine hJ _ ?_))
   simp only [Int.toNat_natCast]
   exact WE
  ·(refine Wj rfl rfl ?_;intro K1 hK1;refine Bx rfl ?_;simp only [go_sem];(first | refine hK1 _ ?_ | refine AD (hK1 _ ?_));clear hK1 K1)
   (refine Ww @A3 ?_;repeat clear hK K)
   (refine Wj rfl rfl ?_;intro K1 hK1;refine Bx rfl ?_;simp only [go_sem];(first | refine hK1 _ ?_ | refine AD (hK1 _ ?_));clear hK1 K1)
   (refine Wv ?_;repeat clear hK K)
   (refine Wj rfl rfl ?_;intro K1 hK1;refine Bx rfl ?_;simp only [go_sem];(first | refine hK1 _ ?_ | refine AD (hK1 _ ?_));clear hK1 K1)
   (refine Wv ?_;repeat clear hK K)
   (try (refine CL ⟨by simp,by simp,?_⟩;refine hJ _ ?_))
   simp only [Int.toNat_natCast]
   refine Le.trans (A9 [0,1,2,4,3,5] rfl rfl) ?_
   (try simp only [List.set_nil,List.take_nil,List.take_zero,List.map_append,go_sem])
   (try simp only [List.map_replicate,C.ren,hr2])
   exact WE
 clear hK K
 refine Au (Cm 3 rfl) ?_
 simp only [List.set_cons_succ,List.set_cons_zero,List.map_replicate,VX]
 obtain ⟨tc,htc⟩:∃ tc:List C,List.replicate X.length (C.t 1 [])=tc:=⟨_,rfl⟩
 obtain ⟨vc,hvc⟩:∃ vc:List C,List.replicate X.length (C.v (.map none))=vc:=⟨_,rfl⟩
 have htl:tc.length=X.length:=by rw [<- htc];simp
 have hvl:vc.length=X.length:=by rw [<- hvc];simp
 have htp:tc.all C.pl=true:=by rw [<- htc];simp [C.pl]
 have hvp:vc.all C.pl=true:=by rw [<- hvc];simp [C.pl]
 rw [htc,hvc]
 refine H2 (fun G=>HS (Y9 X D (Q.map Int.ofNat) (Y6 (XG D) X.length) dv) r1 X.length G tc vc) ⟨rfl,rfl,rfl,rfl,rfl,rfl,?_⟩ ?_
 ·simp only [List.all_cons,List.all_nil,Bool.and_true,Cd,htp,hvp,hr1];rfl
 intro H0 hH0
 simp only
 have gs:=hH0.h0
 (refine Wu (an @gs (an @GC (an @A4 @List.length_map.{0,0}))) ?_;(repeat clear hK K);repeat refine kq fun K hK=>?_)
 refine A8 (fun x:Nat × List Ob × List C=>{ tm:=[(0,.a (.c (.p 0 0))),(1,.a (.c (.t 1 (Ab cl)))),(7,.a (.c (.p 2 0))),(8,.a (.c (.p 5 0))),(51,.a (.c (.t 1 (Ab (Q.map Int.ofNat))))),(52,.i Q.length),(53,.i x.1)],hp:=x.2.1,n:=216,pin:=2 }) (fun x=>x.1<=Q.length/\HS (Y9 X D (Q.map Int.ofNat) (Y6 (XG D) X.length) dv) r1 X.length x.2.1 x.2.2 vc/\TA X cl Q x.1 x.2.1 x.2.2) (fun x=>Q.length - x.1) (0,H0,tc) ?_ ?_ ?_
 ·exact ⟨by simp,hH0,htl,htp,fun j c hj=>by simp at hj⟩
 ·exact WE
 clear hH0 gs htl htp htc tc H0
 rintro ⟨k,H,tc⟩ ⟨hk,hH,hT⟩ K hK
 simp only at hk hH hT
 simp only
 by_cases hlt:k<Q.length
 ·have d1:decide ((k:Int)<(Q.length:Int))=true:=by simpa using hlt
  have gQ:=HD hlt
  have hcQ:Q[k]?=some Q[k]:=gE1 hlt
  obtain ⟨hc,hfc⟩:=(hQ.2.1 _).1 (gE6 hlt)
  have htopc:=hQ.2.2 k Q[k] hcQ
  generalize Q[k]=c at *
  have gsz:=hH.h1
  (refine Wu @d1 ?_;(repeat clear hK K);repeat refine kq fun K hK=>?_)
  refine WB ?_
  (refine Wu (an @gQ (an @HE @gsz)) ?_;(repeat clear hK K);repeat refine kq fun K hK=>?_)
  refine BC (fun G=>Pre H G/\G[H.length]?=some (C4 0)/\G.all Cd=true) ?_ ?_
  ·exact ⟨Pre.push _ _,Bp _ _,Bi hH.ok rfl⟩
  rintro G ⟨hPG,hgL,hok⟩
  simp only
  have hL5:6<=H.length:=Br hH.h4
  generalize hLe:H.length=L at *
  have hG:=hH.pre hPG hok
  have gs:=hG.h0
  have gM:=DA (O5 (f:=XG D) hc)
  have hmem:=fun s (hs:s∈Y5 (XG D) X.length c)=>DH.1 hs
  have hml:=O4 (XG D) X.length c
  obtain ⟨mem,hmm⟩:∃ m,Y5 (XG D) X.length c=m:=⟨_,rfl⟩
  rw [hmm] at gM hmem hml
  (refine Wu (an @gs (an @GC (an @BL (an @JB (an @gM (an @A4 @List.length_map.{0,0})))))) ?_;(repeat clear hK K);repeat refine kq fun K hK=>?_)
  refine A8 (fun x:Nat × List Ob × Nat=>{ tm:=[(0,.a (.c (.p 0 0))),(1,.a (.c (.t 1 (Ab cl)))),(7,.a (.c (.p 2 0))),(8,.a (.c (.p 5 0))),(10,.i c),(11,.a (.c (.s L 1))),(51,.a (.c (.t 1 (Ab (Q.map Int.ofNat))))),(52,.i Q.length),(53,.i k),(65,.a (.c (.t 1 (Ab (mem.map Int.ofNat))))),(66,.i mem.length),(67,.i x.1)],hp:=x.2.1,n:=216,pin:=2 }) (fun x=>x.1<=mem.length/\Pre H x.2.1/\x.2.1[L]?=some (C4 x.2.2)/\WS x.2.2 (Y7 X D cl c (mem.take x.1))/\x.2.1.all Cd=true) (fun x=>mem.length - x.1) (0,G,0) ?_ ?_ ?_
  ·exact ⟨by simp,hPG,hgL,WS.zero (Qh _ _ _ _ _),hok⟩
  ·simp only [Int.toNat_one]
   exact WE
  clear hPG hgL hok hG gs G
  rintro ⟨q,G,w⟩ ⟨hq,hPG,hgL,hw,hok⟩ K hK
  simp only at hq hPG hgL hw hok
  simp only
  have hG:=hH.pre hPG hok
  have gs:=hG.h0
  by_cases hlq:q<mem.length
  rotate_left
  ·have d2:decide ((q:Int)<(mem.length:Int))=false:=by simpa using hlq
   have htm:mem.take q=mem:=gE7 (by omega)
   rw [htm,<- hmm] at hw
   replace hw:=hw.iff fun i _=>Su hv hD hc hfc i
   have g2:=hG.h2
   have g4:=hG.h4
   have htl:=hT.1
   (refine Wu @d2 ?_;(repeat clear hK K);repeat refine kq fun K hK=>?_)
   refine WC ?_
   (refine Wx ?_;repeat clear hK K)
   (refine Wu (an @g4 (an @g2 @htl)) ?_;(repeat clear hK K);repeat refine kq fun K hK=>?_)
   refine BC (fun G2=>HS (Y9 X D (Q.map Int.ofNat) (Y6 (XG D) X.length) dv) r1 X.length G2 (tc.set c (.s L 1)) vc/\TA X cl Q (k+1) G2 (tc.set c (.s L 1))) ?_ ?_
   ·exact ⟨hG.setR (DV hT.2.1 rfl c),hT.step hQ.1 hcQ hc hPG (by omega) hgL hw _⟩
   rintro G2 ⟨hH2,hT2⟩
   simp only
   (refine Wt ?_;(repeat clear hK K);repeat refine kq fun K hK=>?_)
   refine WD ?_
   refine hK _ (k+1,G2,tc.set c (.s L 1)) ⟨by simp only;omega,hH2,hT2⟩ (by simp only;omega) ?_
   exact WE
  have d2:decide ((q:Int)<(mem.length:Int))=true:=by simpa using hlq
  have gq:=HD hlq
  obtain ⟨hsl,hsc⟩:=hmem _ (gE6 hlq)
  have hsu:=Qi (X:=X) (D:=D) (cl:=cl) (c:=c) hlq
  generalize mem[q]=s at *
  have hcs:cl.getD s 0∈cl:=by rw [gE2,gE1 (by omega)];exact gE6 _
  have hcr:=hcl.rng _ hcs
  have gcl:=Am (show cl[s]?=some (cl.getD s 0) from by rw [gE2,gE1 (by omega)];rfl)
  obtain ⟨u,hu⟩:∃ u:Nat,cl.getD s 0=(u:Int):=⟨(cl.getD s 0).toNat,by omega⟩
  rw [hu] at hsu hcr gcl
  have hgX:=gE1 hsl
  have hgd:X.getD s []=X[s]:=by rw [gE2,hgX];rfl
  have hrl:=hr _ (gE6 hsl)
  have hb:=fun a ha=>EJ hv hsl (a:=a) (by rw [hgd];exact ha)
  have gX:=Ag hgX
  rw [hgd] at hsu
  generalize X[s]=row at *
  (refine Wu @d2 ?_;(repeat clear hK K);repeat refine kq fun K hK=>?_)
  refine WB ?_
  (refine Wu (an @gq (an @HE (an @A4 (an @hcll @gcl)))) ?_;(repeat clear hK K);repeat refine kq fun K hK=>?_)
  (refine Ai rfl ?_;intro K1 hK1;refine LS (a:=L) (v:=w) (k:=u) rfl rfl (by simp only [go_sem]) (by simp only [go_sem]) hgL hw.1 (by omega) (by simp [Fi,AV.nb,A0.nb,C.nb]) ?_;simp only [go_sem];refine hK1 _ ?_;clear hK1 K1)
  refine BC (fun G2=>Pre H G2/\G2[L]?=some (C4 (w ||| 2 ^ u))/\G2.all Cd=true) ?_ ?_
  ·exact ⟨hPG.set (by omega) _,gEc (Br hgL),C2 hok rfl _⟩
  have hw2:WS (w ||| 2 ^ u) (fun i=>Y7 X D cl c (mem.take q) i\/(u:Int)=(i:Int)):=hw.or (WS.pow (by omega)) fun i _=>by constructor <;> (rintro (h | h);exact .inl h;exact .inr (by omega))
  clear hPG hgL hok hG gs hw
  obtain ⟨w2,hw2e⟩:∃ w2,w ||| 2 ^ u=w2:=⟨_,rfl⟩
  rw [hw2e] at hw2 ⊢
  rintro G2 ⟨hPG,hgL,hok⟩
  simp only
  have hG:=hH.pre hPG hok
  have gs:=hG.h0
  (refine Wu (an @gs (an @GC (an @A3 (an @gX (an @A2 @Ak))))) ?_;(repeat clear hK K);repeat refine kq fun K hK=>?_)
  refine A8 (fun x:Nat × List Ob × Nat=>{ tm:=[(0,.a (.c (.p 0 0))),(1,.a (.c (.t 1 (Ab cl)))),(7,.a (.c (.p 2 0))),(8,.a (.c (.p 5 0))),(10,.i c),(11,.a (.c (.s L 1))),(51,.a (.c (.t 1 (Ab (Q.map Int.ofNat))))),(52,.i Q.length),(53,.i k),(65,.a (.c (.t 1 (Ab (mem.map Int.ofNat))))),(66,.i mem.length),(67,.i q),(84,.a (.c (.t 2 (Ao row)))),(85,.i row.length),(86,.i x.1)],hp:=x.2.1,n:=216,pin:=2 }) (fun x=>x.1<=row.length/\Pre H x.2.1/\x.2.1[L]?=some (C4 x.2.2)/\WS x.2.2 (fun i=>(Y7 X D cl c (mem.take q) i\/(u:Int)=(i:Int))\/gT X D cl c (row.take x.1) i)/\x.2.1.all Cd=true) (fun x=>row.length - x.1) (0,G2,w2) ?_ ?_ ?_
  ·exact ⟨by simp,hPG,hgL,hw2.iff fun i _=>⟨.inl,fun h=>h.elim id fun h=>absurd h (Sw _ _ _ _ _ _)⟩,hok⟩
  ·exact WE
  clear hPG hgL hok hG gs hw2 hw2e
  rintro ⟨j,G,w⟩ ⟨hj,hPG,hgL,hw,hok⟩ K hK
  simp only at hj hPG hgL hw hok
  simp only
  by_cases hlj:j<row.length
  rotate_left
  ·have d3:decide ((j:Int)<(row.length:Int))=false:=by simpa using hlj
   have htr:row.take j=row:=gE7 (by omega)
   rw [htr] at hw
   (refine Wu @d3 ?_;(repeat clear hK K);repeat refine kq fun K hK=>?_)
   refine WC ?_
   (refine Wx ?_;repeat clear hK K)
   (refine Wt ?_;(repeat clear hK K);repeat refine kq fun K hK=>?_)
   refine WD ?_
   refine hK _ (q+1,G,w) ⟨by simp only;omega,hPG,hgL,hw.iff fun i _=>?_,hok⟩ (by simp only;omega) ?_
   rotate_left
   ·exact WE
   simp only
   rw [hsu i]
   constructor
   ·rintro ((h | h) | h);exact .inl h;exact .inr (.inl h);exact .inr (.inr h)
   rintro (h | h | h);exact .inl (.inl h);exact .inl (.inr h);exact .inr h
  have d3:decide ((j:Int)<(row.length:Int))=true:=by simpa using hlj
  have hat:=AL hlj
  have hba:=hb _ (gE6 hlj)
  have hsu3:=Sx (X:=X) (D:=D) (cl:=cl) (c:=c) hlj
  have htopa:row[j].1=0->XG D row[j].2.toNat ≠ c->(c,XG D row[j].2.toNat)∈Xy (XG D) X X.length:=fun h0 hne=>Fb.2 ⟨s,hsl,row[j],by rw [hgd];exact gE6 hlj,h0,by rw [hsc];exact Ne.symm hne,by rw [hsc]⟩
  generalize row[j]=a at *
  obtain ⟨e,t⟩:=a
  simp only at hat hba hsu3 htopa
  obtain ⟨tn,rfl⟩:∃ tn:Nat,t=(tn:Int):=⟨t.toNat,by omega⟩
  simp only [Int.toNat_natCast] at hsu3 htopa hba
  have htn:tn<X.length:=hba.2.2.2
  obtain ⟨gDt0,hft,_⟩:=BN hv hD htn
  have gDt:=Am gDt0
  (refine Wu @d3 ?_;(repeat clear hK K);repeat refine kq fun K hK=>?_)
  refine WB ?_
  (refine Cn (an @hat (an @A2 (an @Ak (an @Bp @HB)))) ?_;(repeat clear hK K);repeat refine kq fun K hK=>?_)
  refine H2 (fun G2=>Pre G G2/\G2[G.length]?=some (.r ⟨46,2,false,[.v (.int .i64 e),.v (.int .i64 (tn:Int))]⟩)/\G2.all Cd=true) ?_ ?_
  ·exact ⟨Pre.push _ _,Bp _ _,Bi hok rfl⟩
  have hLG:=Br hgL
  rintro G2 ⟨hP2,hbx,hok2⟩
  simp only
  generalize G.length=bx at *
  have hPG2:=hPG.trans hP2
  have hgL2:=hP2.at hgL
  have hG:=hH.pre hPG2 hok2
  have gs:=hG.h0
  (refine Ac 8 [(0,0),(1,0),(2,0),(3,1),(4,0),(5,1),(6,0),(7,1),(8,2)] (by kernel_rfl) (by kernel_rfl) (by intro c st h;simp [Ae,AF,VT] at h) ?_)
  (refine Wq (an @gs (an @GC (an @hbx (an @gDt (an @A4 @hDl))))) ?_;repeat clear hK K)
  by_cases he:e=0
  rotate_left
  ·have d4:(e == 0)=false:=by simpa using he
   (refine Wu (an @hbx @d4) ?_;(repeat clear hK K);repeat refine kq fun K hK=>?_)
   refine WC ?_
   (refine Wt ?_;(repeat clear hK K);repeat refine kq fun K hK=>?_)
   refine WD ?_
   refine hK _ (j+1,G2,w) ⟨by simp only;omega,hPG2,hgL2,hw.iff fun i _=>?_,hok2⟩ (by simp only;omega) ?_
   rotate_left
   ·exact WE
   simp only
   rw [hsu3 i]
   constructor
   ·rintro (h | h);exact .inl h;exact .inr (.inl h)
   rintro (h | h | ⟨h,_,_⟩);exact .inl h;exact .inr h;exact absurd h he
  subst he
  by_cases hne:XG D tn=c
  ·have d5:(((XG D tn:Nat):Int) != (c:Int))=false:=by rw [hne];simp
   (refine Wu (an @hbx @d5) ?_;(repeat clear hK K);repeat refine kq fun K hK=>?_)
   refine WC ?_
   (refine Wt ?_;(repeat clear hK K);repeat refine kq fun K hK=>?_)
   refine WD ?_
   refine hK _ (j+1,G2,w) ⟨by simp only;omega,hPG2,hgL2,hw.iff fun i _=>?_,hok2⟩ (by simp only;omega) ?_
   rotate_left
   ·exact WE
   simp only
   rw [hsu3 i]
   constructor
   ·rintro (h | h);exact .inl h;exact .inr (.inl h)
   rintro (h | h | ⟨_,h,_⟩);exact .inl h;exact .inr h;exact absurd hne h
  have d5:(((XG D tn:Nat):Int) != (c:Int))=true:=by simp only [bne_iff_ne,ne_eq];omega
  obtain ⟨j',hj',hQj⟩:=htopc _ (htopa rfl hne) rfl
  obtain ⟨x,wx,tx1,tx2,tx3,tx4⟩:=hT.2.2 j' _ hj' hQj
  have hxL:=Br tx3
  have g2:=hG.h2
  have g4:=hG.h4
  have htl:=hT.1
  (refine Wu (an @hbx @d5) ?_;(repeat clear hK K);repeat refine kq fun K hK=>?_)
  refine WB ?_
  (refine Wu (an @g4 (an @g2 (an @htl @tx1))) ?_;(repeat clear hK K);repeat refine kq fun K hK=>?_)
  (refine Ai rfl ?_;intro K1 hK1;refine Ej (a:=L) (b:=x) (v:=w) (w:=wx) rfl rfl (by simp only [go_sem]) (by simp only [go_sem]) hgL2 (hPG2.at tx3) (by omega) hw.1 tx4.1 (by simp [Fi,AV.nb,A0.nb,C.nb]) ?_;simp only [go_sem];refine hK1 _ ?_;clear hK1 K1)
  refine BC (fun G3=>Pre H G3/\G3[L]?=some (C4 (w ||| wx))/\G3.all Cd=true) ?_ ?_
  ·exact ⟨hPG2.set (by omega) _,gEc (Br hgL2),C2 hok2 rfl _⟩
  rintro G3 ⟨hP3,hgL3,hok3⟩
  simp only
  (refine Wt ?_;(repeat clear hK K);repeat refine kq fun K hK=>?_)
  refine WD ?_
  refine hK _ (j+1,G3,w ||| wx) ⟨by simp only;omega,hP3,hgL3,hw.or tx4 fun i _=>?_,hok3⟩ (by simp only;omega) ?_
  rotate_left
  ·exact WE
  simp only
  rw [hsu3 i,O6 hv hD htn]
  constructor
  ·rintro (h | h | ⟨_,_,h⟩);exact .inl (.inl h);exact .inl (.inr h);exact .inr h
  rintro ((h | h) | h);exact .inl h;exact .inr (.inl h);exact .inr (.inr ⟨rfl,hne,h⟩)
 have d1:decide ((k:Int)<(Q.length:Int))=false:=by simpa using hlt
 have hke:k=Q.length:=by omega
 subst hke
 (refine Wu @d1 ?_;(repeat clear hK K);repeat refine kq fun K hK=>?_)
 refine WC ?_
 (refine Wx ?_;repeat clear hK K)
 have gs:=hH.h0
 (refine Wu (an @gs (an @GC (an @A4 @List.length_map.{0,0}))) ?_;(repeat clear hK K);repeat refine kq fun K hK=>?_)
 refine A8 (fun x:Nat × List Ob × List C=>{ tm:=[(0,.a (.c (.p 0 0))),(7,.a (.c (.p 2 0))),(8,.a (.c (.p 5 0))),(128,.a (.c (.t 1 (Ab (Q.map Int.ofNat))))),(129,.i Q.length),(130,.i x.1)],hp:=x.2.1,n:=216,pin:=2 }) (fun x=>x.1<=Q.length/\HS (Y9 X D (Q.map Int.ofNat) (Y6 (XG D) X.length) dv) r1 X.length x.2.1 tc x.2.2/\TA X cl Q Q.length x.2.1 tc/\TB X cl Q x.1 x.2.1 x.2.2) (fun x=>Q.length - x.1) (0,H,vc) ?_ ?_ ?_
 ·exact ⟨by simp,hH,hT,hvl,hvp,fun j c hj=>by simp at hj⟩
 ·exact WE
 clear hH gs hT hvl hvp hvc hk hlt d1 vc H
 rintro ⟨k,H,vc⟩ ⟨hk,hH,hT,hB⟩ K hK
 simp only at hk hH hT hB
 simp only
 by_cases hlt:k<Q.length
 rotate_left
 ·have d1:decide ((k:Int)<(Q.length:Int))=false:=by simpa using hlt
  have hke:k=Q.length:=by omega
  subst hke
  (refine Wu @d1 ?_;(repeat clear hK K);repeat refine kq fun K hK=>?_)
  refine WC ?_
  (refine Wx ?_;repeat clear hK K)
  (refine Wt ?_;(repeat clear hK K);repeat refine kq fun K hK=>?_)
  refine WH Tryz.results77 ?_
  exact ⟨tc,vc,hH,hT,hB⟩
 have d1:decide ((k:Int)<(Q.length:Int))=true:=by simpa using hlt
 have gQ:=HD hlt
 have hcQ:Q[k]?=some Q[k]:=gE1 hlt
 obtain ⟨hc,hfc⟩:=(hQ.2.1 _).1 (gE6 hlt)
 have htopc:=hQ.2.2 k Q[k] hcQ
 generalize Q[k]=c at *
 (refine Wu @d1 ?_;(repeat clear hK K);repeat refine kq fun K hK=>?_)
 refine WB ?_
 have gs:=hH.h0
 (refine Cn (an @gQ (an @HE (an @Bp (an @HB @GC)))) ?_;(repeat clear hK K);repeat refine kq fun K hK=>?_)
 refine BC (fun G=>Pre H G/\G[H.length]?=some (.m (Y4 []))/\G[H.length+1]?=some (.r ⟨138,1,false,[.m H.length]⟩)/\G.all Cd=true) ?_ ?_
 ·refine ⟨(Pre.push _ _).trans (Pre.push _ _),(Pre.push _ _).at (Bp _ _),?_,Bi (Bi hH.ok rfl) rfl⟩
  have:=Bp (H++[Ob.m []]) (Ob.r ⟨138,1,false,[.m H.length]⟩)
  rwa [List.length_append] at this
 rintro G ⟨hPG,hgm,hgb,hok⟩
 simp only [List.length_append,List.length_cons,List.length_nil,Nat.zero_add]
 have hL5:6<=H.length:=Br hH.h4
 generalize hLe:H.length=L at *
 have hG:=hH.pre hPG hok
 have gs:=hG.h0
 have gM:=DA (O5 (f:=XG D) hc)
 have hmem:=fun s (hs:s∈Y5 (XG D) X.length c)=>DH.1 hs
 have hml:=O4 (XG D) X.length c
 obtain ⟨mem,hmm⟩:∃ m,Y5 (XG D) X.length c=m:=⟨_,rfl⟩
 rw [hmm] at gM hmem hml
 (refine Wu (an @gs (an @GC (an @BL (an @JB (an @gM (an @A4 @List.length_map.{0,0})))))) ?_;(repeat clear hK K);repeat refine kq fun K hK=>?_)
 refine A8 (fun x:Nat × List Ob × List (Int × Nat × Nat)=>{ tm:=[(0,.a (.c (.p 0 0))),(7,.a (.c (.p 2 0))),(8,.a (.c (.p 5 0))),(18,.i c),(19,.a (.c (.p (L+1) 0))),(20,.a (.c (.f 109 [L+1,2]))),(128,.a (.c (.t 1 (Ab (Q.map Int.ofNat))))),(129,.i Q.length),(130,.i k),(142,.a (.c (.t 1 (Ab (mem.map Int.ofNat))))),(143,.i mem.length),(144,.i x.1)],hp:=x.2.1,n:=216,pin:=2 }) (fun x=>x.1<=mem.length/\Pre H x.2.1/\x.2.1[L]?=some (.m (Y4 x.2.2))/\x.2.1[L+1]?=some (.r ⟨138,1,false,[.m L]⟩)/\VSt x.2.1 (L+2) x.2.2 (Y8 X D cl c (mem.take x.1))/\x.2.1.all Cd=true) (fun x=>mem.length - x.1) (0,G,[]) ?_ ?_ ?_
 ·exact ⟨by simp,hPG,hgm,hgb,VSt.nil _ _ (Qj _ _ _ _ _),hok⟩
 ·exact WE
 clear hPG hgm hgb hok hG gs G
 rintro ⟨q,G,V⟩ ⟨hq,hPG,hgm,hgb,hV,hok⟩ K hK
 simp only at hq hPG hgm hgb hV hok
 simp only
 have hG:=hH.pre hPG hok
 have gs:=hG.h0
 by_cases hlq:q<mem.length
 rotate_left
 ·have d2:decide ((q:Int)<(mem.length:Int))=false:=by simpa using hlq
  have htm:mem.take q=mem:=gE7 (by omega)
  rw [htm,<- hmm] at hV
  replace hV:=hV.iff fun e i _=>Sv hv hD hc hfc e i
  have g3:=hG.h3
  have g4:=hG.h4
  have hbl:=hB.1
  (refine Wu @d2 ?_;(repeat clear hK K);repeat refine kq fun K hK=>?_)
  refine WC ?_
  (refine Wx ?_;repeat clear hK K)
  (refine Ac 7 [(0,0),(1,0),(2,0),(3,1),(4,0),(5,1),(6,0),(7,2)] (by kernel_rfl) (by kernel_rfl) (by intro c st h;simp [Ae,AF,VT] at h) ?_)
  (refine Wq (an @g4 (an @g3 (an @hbl @hgb))) ?_;repeat clear hK K)
  refine H2 (fun G2=>HS (Y9 X D (Q.map Int.ofNat) (Y6 (XG D) X.length) dv) r1 X.length G2 tc (vc.set c (.m L))/\TA X cl Q Q.length G2 tc/\TB X cl Q (k+1) G2 (vc.set c (.m L))) ?_ ?_
  ·exact ⟨hG.setV (DV hB.2.1 rfl c),(hT.pre hPG).set4 _,hB.step hQ.1 hcQ hc hPG hL5 hgm (hV.low (by omega)) _⟩
  rintro G2 ⟨hH2,hT2,hB2⟩
  simp only
  (refine Wt ?_;(repeat clear hK K);repeat refine kq fun K hK=>?_)
  refine WD ?_
  refine hK _ (k+1,G2,vc.set c (.m L)) ⟨by simp only;omega,hH2,hT2,hB2⟩ (by simp only;omega) ?_
  exact WE
 have d2:decide ((q:Int)<(mem.length:Int))=true:=by simpa using hlq
 have gq:=HD hlq
 obtain ⟨hsl,hsc⟩:=hmem _ (gE6 hlq)
 have hsu:=Ql (X:=X) (D:=D) (cl:=cl) (c:=c) hlq
 generalize mem[q]=s at *
 have hgX:=gE1 hsl
 have hgd:X.getD s []=X[s]:=by rw [gE2,hgX];rfl
 have hrl:=hr _ (gE6 hsl)
 have hb:=fun a ha=>EJ hv hsl (a:=a) (by rw [hgd];exact ha)
 have gX:=Ag hgX
 rw [hgd] at hsu
 generalize X[s]=row at *
 (refine Wu @d2 ?_;(repeat clear hK K);repeat refine kq fun K hK=>?_)
 refine WB ?_
 (refine Wu (an @gq (an @HE (an @gs (an @GC (an @A3 (an @gX (an @A2 @Ak))))))) ?_;(repeat clear hK K);repeat refine kq fun K hK=>?_)
 refine A8 (fun x:Nat × List Ob × List (Int × Nat × Nat)=>{ tm:=[(0,.a (.c (.p 0 0))),(7,.a (.c (.p 2 0))),(8,.a (.c (.p 5 0))),(18,.i c),(19,.a (.c (.p (L+1) 0))),(20,.a (.c (.f 109 [L+1,2]))),(128,.a (.c (.t 1 (Ab (Q.map Int.ofNat))))),(129,.i Q.length),(130,.i k),(142,.a (.c (.t 1 (Ab (mem.map Int.ofNat))))),(143,.i mem.length),(144,.i q),(155,.a (.c (.t 2 (Ao row)))),(156,.i row.length),(157,.i x.1)],hp:=x.2.1,n:=216,pin:=2 }) (fun x=>x.1<=row.length/\Pre H x.2.1/\x.2.1[L]?=some (.m (Y4 x.2.2))/\x.2.1[L+1]?=some (.r ⟨138,1,false,[.m L]⟩)/\VSt x.2.1 (L+2) x.2.2 (fun e i=>Y8 X D cl c (mem.take q) e i\/gV X D cl c (row.take x.1) e i)/\x.2.1.all Cd=true) (fun x=>row.length - x.1) (0,G,V) ?_ ?_ ?_
 ·exact ⟨by simp,hPG,hgm,hgb,hV.iff fun e i _=>⟨.inl,fun h=>h.elim id fun h=>absurd h (Sy _ _ _ _ _ _ _)⟩,hok⟩
 ·exact WE
 clear hPG hgm hgb hok hG gs hV
 rintro ⟨j,G,V⟩ ⟨hj,hPG,hgm,hgb,hV,hok⟩ K hK
 simp only at hj hPG hgm hgb hV hok
 simp only
 by_cases hlj:j<row.length
 rotate_left
 ·have d3:decide ((j:Int)<(row.length:Int))=false:=by simpa using hlj
  have htr:row.take j=row:=gE7 (by omega)
  rw [htr] at hV
  (refine Wu @d3 ?_;(repeat clear hK K);repeat refine kq fun K hK=>?_)
  refine WC ?_
  (refine Wx ?_;repeat clear hK K)
  (refine Wt ?_;(repeat clear hK K);repeat refine kq fun K hK=>?_)
  refine WD ?_
  refine hK _ (q+1,G,V) ⟨by simp only;omega,hPG,hgm,hgb,hV.iff fun e i _=>(hsu e i).symm,hok⟩ (by simp only;omega) ?_
  exact WE
 have d3:decide ((j:Int)<(row.length:Int))=true:=by simpa using hlj
 have hat:=AL hlj
 have hba:=hb _ (gE6 hlj)
 have hsu3:=Sz (X:=X) (D:=D) (cl:=cl) (c:=c) hlj
 have htopa:row[j].1=0->XG D row[j].2.toNat ≠ c->(c,XG D row[j].2.toNat)∈Xy (XG D) X X.length:=fun h0 hne=>Fb.2 ⟨s,hsl,row[j],by rw [hgd];exact gE6 hlj,h0,by rw [hsc];exact Ne.symm hne,by rw [hsc]⟩
 generalize row[j]=a at *
 obtain ⟨e,t⟩:=a
 simp only at hat hba hsu3 htopa
 obtain ⟨tn,rfl⟩:∃ tn:Nat,t=(tn:Int):=⟨t.toNat,by omega⟩
 simp only [Int.toNat_natCast] at hsu3 htopa hba
 have htn:tn<X.length:=hba.2.2.2
 obtain ⟨gDt0,hft,_,_,hff⟩:=BN hv hD htn
 have gDt:=Am gDt0
 (refine Wu @d3 ?_;(repeat clear hK K);repeat refine kq fun K hK=>?_)
 refine WB ?_
 (refine Cn (an @hat (an @A2 (an @Ak (an @Bp @HB)))) ?_;(repeat clear hK K);repeat refine kq fun K hK=>?_)
 refine H2 (fun G2=>Pre G G2/\G2[G.length]?=some (.r ⟨46,2,false,[.v (.int .i64 e),.v (.int .i64 (tn:Int))]⟩)/\G2.all Cd=true) ?_ ?_
 ·exact ⟨Pre.push _ _,Bp _ _,Bi hok rfl⟩
 have hLG:=Br hgb
 rintro G2 ⟨hP2,hbx,hok2⟩
 simp only
 generalize G.length=bx at *
 have hPG2:=hPG.trans hP2
 replace hgm:=hP2.at hgm
 replace hgb:=hP2.at hgb
 replace hV:=hV.pre hP2
 have hG:=hH.pre hPG2 hok2
 have gs:=hG.h0
 have gsz:=hG.h1
 have g2:=hG.h2
 have g3:=hG.h3
 have g4:=hG.h4
 have htl:=hT.1
 have hbl:=hB.1
 have hL2:=Br hgb
 (refine Ac 8 [(0,0),(1,0),(2,0),(3,1),(4,0),(5,1),(6,0),(7,1),(8,2)] (by kernel_rfl) (by kernel_rfl) (by intro c st h;simp [Ae,AF,VT] at h) ?_)
 (refine Wq (an @gs (an @GC (an @hbx (an @gDt (an @A4 @hDl))))) ?_;repeat clear hK K)
 by_cases he:e=0
 rotate_left
 ·have d4:(e != 0)=true:=by simpa using he
  obtain ⟨j',hj',hQj⟩:=List.getElem_of_mem ((hQ.2.1 _).2 ⟨hft,hff⟩)
  obtain ⟨x,wx,tx1,tx2,tx3,tx4⟩:=hT.2.2 j' _ hj' (by rw [gE1 hj',hQj])
  have hxL:=Br tx3
  (refine Wu (an @hbx @d4) ?_;(repeat clear hK K);repeat refine kq fun K hK=>?_)
  refine WB ?_
  (refine Ac 10 [(0,0),(1,0),(2,1),(3,0),(4,0),(5,0),(6,1),(7,0),(8,0),(9,1),(10,2)] (by kernel_rfl) (by kernel_rfl) (by intro c st h;simp [Ae,AF,VT] at h) ?_)
  (refine Wq (an @hbx (an @g4 (an @g2 (an @htl @tx1)))) ?_;repeat clear hK K)
  (refine W1 rfl rfl rfl ?_;intro K1 hK1;refine Di (f:=109) (ids:=[L+1,2]) (R:=fun r o=>r=.tup []/\SJ G2 L V e wx o/\o.all Cd=true) rfl rfl (by simp only [go_sem]) (by kernel_rfl) (Um G2 (L+1) 2 L x V e wx hgb gsz hgm (hPG2.at tx3) hV.nd (fun p hp=>by obtain ⟨a1,a2,a3,_⟩:=hV.ob p hp;exact ⟨a2,a3,by omega⟩) tx4.1 hok2) (fun r outs h=>Hz h.2.2) ?_)
  rintro r outs ⟨rfl,hSJ,hoko⟩
  (simp only [go_sem];refine hK1 _ ?_;clear hK1 K1)
  refine H9 ?_
  refine hK _ ?_
  clear hK K
  obtain ⟨V',v1,v2,v3,v4,v5⟩:=hV.join hgm (by omega) (by omega) tx4 (V0 hcl hn hft) hSJ
  have hPO:Pre H outs:=⟨by have:=hPG2.1;omega,fun z hz=>(v4 z (by omega) (by omega)).trans (hPG2.2 z hz)⟩
  (refine Wt ?_;(repeat clear hK K);repeat refine kq fun K hK=>?_)
  refine WD ?_
  refine hK _ (j+1,outs,V') ⟨by simp only;omega,hPO,v1,(v4 (L+1) (by omega) (by omega)).trans hgb,v2.iff fun e' i _=>?_,hoko⟩ (by simp only;omega) ?_
  rotate_left
  ·exact WE
  simp only
  rw [hsu3 e' i,O6 hv hD htn]
  constructor
  ·rintro ((h | h) | ⟨rfl,h⟩);exact .inl h;exact .inr (.inl h);exact .inr (.inr (.inl ⟨he,rfl,h⟩))
  rintro (h | h | ⟨_,h1,h⟩ | ⟨h,_⟩);exact .inl (.inl h);exact .inl (.inr h);exact .inr ⟨h1.symm,h⟩;exact absurd h he
 have d4:(e != 0)=false:=by simp [he]
 (refine Wu (an @hbx @d4) ?_;(repeat clear hK K);repeat refine kq fun K hK=>?_)
 refine WC ?_
 by_cases hne:XG D tn=c
 ·have d5:(((XG D tn:Nat):Int) != (c:Int))=false:=by rw [hne];simp
  (refine Wu @d5 ?_;(repeat clear hK K);repeat refine kq fun K hK=>?_)
  refine WC ?_
  (refine Wt ?_;(repeat clear hK K);repeat refine kq fun K hK=>?_)
  refine WD ?_
  refine hK _ (j+1,G2,V) ⟨by simp only;omega,hPG2,hgm,hgb,hV.iff fun e' i _=>?_,hok2⟩ (by simp only;omega) ?_
  rotate_left
  ·exact WE
  simp only
  rw [hsu3 e' i]
  constructor
  ·rintro (h | h);exact .inl h;exact .inr (.inl h)
  rintro (h | h | ⟨h,_⟩ | ⟨_,h,_⟩);exact .inl h;exact .inr h;exact absurd he h;exact absurd hne h
 have d5:(((XG D tn:Nat):Int) != (c:Int))=true:=by simp only [bne_iff_ne,ne_eq];omega
 obtain ⟨j',hj',hQj⟩:=htopc _ (htopa he hne) rfl
 obtain ⟨mt,Vt,tx1,tx2,tx3,tx4⟩:=hB.2.2 j' _ hj' hQj
 have hmtL:=Br tx3
 have gmt:=hPG2.at tx3
 have hitV:=L3 Vt
 have hplV:=Gu Vt
 (refine Wu @d5 ?_;(repeat clear hK K);repeat refine kq fun K hK=>?_)
 refine WB ?_
 (refine Wu (an @g4 (an @g3 (an @hbl @tx1))) ?_;(repeat clear hK K);repeat refine kq fun K hK=>?_)
 (refine Ai rfl ?_;intro K1 hK1;refine Ia (mid:=mt) (kv:=Y4 Vt) Tryz.underlying138 rfl rfl (by simp only [go_sem]) gmt hitV ?_;simp only [go_sem,Cu];refine hK1 _ ?_;clear hK1 K1)
 refine BC (fun G3=>Pre G2 G3/\G3[G2.length]?=some (.m (Gx (some mt) Vt.length [] Vt.length))/\G3.all Cd=true) ?_ ?_
 ·exact ⟨Pre.push _ _,Bp _ _,Bi hok2 rfl⟩
 have hLG2:=Br hgb
 rintro G3 ⟨hP3,hgi,hok3⟩
 simp only
 generalize G2.length=itd at *
 (refine Wt ?_;(repeat clear hK K);repeat refine kq fun K hK=>?_)
 refine A8 (fun x:List Nat × List Ob × List (Int × Nat × Nat)=>{ tm:=[(0,.a (.c (.p 0 0))),(7,.a (.c (.p 2 0))),(8,.a (.c (.p 5 0))),(18,.i c),(19,.a (.c (.p (L+1) 0))),(20,.a (.c (.f 109 [L+1,2]))),(128,.a (.c (.t 1 (Ab (Q.map Int.ofNat))))),(129,.i Q.length),(130,.i k),(142,.a (.c (.t 1 (Ab (mem.map Int.ofNat))))),(143,.i mem.length),(144,.i q),(155,.a (.c (.t 2 (Ao row)))),(156,.i row.length),(157,.i j),(195,.a (.c (.p itd 0)))],hp:=x.2.1,n:=216,pin:=2 }) (fun x=>Pre H x.2.1/\x.2.1[L]?=some (.m (Y4 x.2.2))/\x.2.1[L+1]?=some (.r ⟨138,1,false,[.m L]⟩)/\VSt x.2.1 (L+2) x.2.2 (fun e' i=>(Y8 X D cl c (mem.take q) e' i\/gV X D cl c (row.take j) e' i)\/∃ z∈x.1,∃ p,Vt[z]?=some p/\p.1=e'/\p.2.2.testBit i=true)/\x.2.1[itd]?=some (.m (Gx (some mt) Vt.length x.1 Vt.length))/\(x.1.Nodup/\∀ z∈x.1,z<Vt.length)/\x.2.1.all Cd=true) (fun x=>Vt.length - x.1.length) ([],G3,V) ?_ ?_ ?_
 ·exact ⟨hPG2.trans hP3,hP3.at hgm,hP3.at hgb,(hV.pre hP3).iff fun e' i _=>by simp,hgi,⟨by simp,by simp⟩,hok3⟩
 ·exact WE
 clear hgm hgb hV hgi hok3 hP3 G3
 rintro ⟨seen,G,V⟩ ⟨hPG,hgm,hgb,hV,hgi,⟨hnd,hsb⟩,hok⟩ K hK
 simp only at hPG hgm hgb hV hgi hnd hsb hok
 simp only
 have gmt:=hPG.at tx3
 have gsz:=hPG.at hH.h1
 refine AC ?_
 intro K hK
 refine Ad ?_
 (refine Ai rfl ?_;intro K1 hK1;refine JU (id:=itd) (mid:=mt) (kv:=Y4 Vt) (since:=Vt.length) (last:=Vt.length) (seen:=seen) rfl rfl (by simp only [go_sem]) hgi gmt hitV hplV (by rw [Cu];exact Nat.le_refl _) (Nat.le_refl _) ?_ ?_)
 ·intro hall
  rw [Cu] at hall
  (simp only [go_sem];refine hK1 _ ?_;clear hK1 K1)
  (refine Wt ?_;(repeat clear hK K);repeat refine kq fun K hK=>?_)
  refine WC ?_
  (refine Wx ?_;repeat clear hK K)
  (refine Wt ?_;(repeat clear hK K);repeat refine kq fun K hK=>?_)
  refine WD ?_
  refine hK _ (j+1,G,V) ⟨by simp only;omega,hPG,hgm,hgb,hV.iff fun e' i hi=>?_,hok⟩ (by simp only;omega) ?_
  rotate_left
  ·exact WE
  simp only
  rw [hsu3 e' i,<- LU hv hD htn,<- tx4.ex e' i hi]
  constructor
  ·rintro ((h | h) | ⟨z,_,p,hz,h⟩);exact .inl h;exact .inr (.inl h);exact .inr (.inr (.inr ⟨he,hne,p,gE9 hz,h⟩))
  rintro (h | h | ⟨h,_⟩ | ⟨_,_,p,hp,h⟩)
  ·exact .inl (.inl h)
  ·exact .inl (.inr h)
  ·exact absurd he h
  obtain ⟨z,hz,hzp⟩:=List.getElem_of_mem hp
  exact .inr ⟨z,hall z hz,p,by rw [gE1 hz,hzp],h⟩
 intro z pz hz hzn
 obtain ⟨hzl,hzp⟩:=List.getElem?_eq_some_iff.1 hz
 rw [Cu] at hzl
 have hgz:=gE1 hzl
 have hpz:=O3 hgz
 rw [hz] at hpz
 cases hpz
 obtain ⟨o1,o2,o3,o4⟩:=tx4.ob _ (gE6 hzl)
 generalize Vt[z]=p at *
 obtain ⟨e',yid,wy⟩:=p
 simp only at o1 o2 o3 o4 hgz hzp
 have hyL:=Br o2
 have hlen:(seen++[z]).length<=Vt.length:=by
  have h:=Da (l:=seen++[z]) (m:=List.range Vt.length) (by rw [List.nodup_append];exact ⟨hnd,by simp,fun a ha b hb=>by simp only [List.mem_singleton] at hb;rw [hb];rintro rfl;exact hzn ha⟩) (fun y hy=>by
   rcases List.mem_append.1 hy with h | h
   ·simpa using hsb y h
   ·simp only [List.mem_singleton] at h;subst h;simpa using hzl)
  rwa [List.length_range] at h
 rw [List.length_append,List.length_cons,List.length_nil] at hlen
 (simp only [go_sem,Cu];refine hK1 _ ?_;clear hK1 K1)
 refine BC (fun G4=>Pre H G4/\G4[L]?=some (.m (Y4 V))/\G4[L+1]?=some (.r ⟨138,1,false,[.m L]⟩)/\VSt G4 (L+2) V (fun e' i=>(Y8 X D cl c (mem.take q) e' i\/gV X D cl c (row.take j) e' i)\/∃ z∈seen,∃ p,Vt[z]?=some p/\p.1=e'/\p.2.2.testBit i=true)/\G4[itd]?=some (.m (Gx (some mt) Vt.length (seen++[z]) Vt.length))/\G4.all Cd=true) ?_ ?_
 ·exact ⟨hPG.set (by omega) _,by rw [gE5 (by omega)];exact hgm,by rw [gE5 (by omega)];exact hgb,hV.setm hgi _,gEc (Br hgi),C2 hok rfl _⟩
 clear hPG hgm hgb hV hgi hok gmt gsz
 rintro G4 ⟨hPG,hgm,hgb,hV,hgi,hok⟩
 simp only
 have gmt:=hPG.at tx3
 have gsz:=hPG.at hH.h1
 have hL3:=Br hgb
 (refine Wt ?_;(repeat clear hK K);repeat refine kq fun K hK=>?_)
 refine WB ?_
 (refine Wt ?_;(repeat clear hK K);repeat refine kq fun K hK=>?_)
 (refine Ai rfl ?_;intro K1 hK1;refine Ib (id:=itd) (mid:=mt) (kv:=Y4 Vt) (since:=Vt.length) (seen:=seen) (i:=z) rfl rfl (by simp only [go_sem]) (by rw [Cu];exact hgi) gmt hitV hplV hz ?_;simp only [go_sem];refine hK1 _ ?_;clear hK1 K1)
 (refine Wt ?_;(repeat clear hK K);repeat refine kq fun K hK=>?_)
 (refine Ai rfl ?_;intro K1 hK1;refine Di (f:=109) (ids:=[L+1,2]) (R:=fun r o=>r=.tup []/\SJ G4 L V e' wy o/\o.all Cd=true) rfl rfl (by simp only [go_sem]) (by kernel_rfl) (Um G4 (L+1) 2 L yid V e' wy hgb gsz hgm (hPG.at o2) hV.nd (fun p hp=>by obtain ⟨a1,a2,a3,_⟩:=hV.ob p hp;exact ⟨a2,a3,by omega⟩) o3 hok) (fun r outs h=>Hz h.2.2) ?_)
 rintro r outs ⟨rfl,hSJ,hoko⟩
 (simp only [go_sem];refine hK1 _ ?_;clear hK1 K1)
 obtain ⟨V',v1,v2,v3,v4,v5⟩:=hV.join hgm (by omega) (by omega) (q:=fun i=>wy.testBit i=true) ⟨o3,fun _ _=>Iff.rfl⟩ o4 hSJ
 have hPO:Pre H outs:=⟨by have:=hPG.1;omega,fun z hz=>(v4 z (by omega) (by omega)).trans (hPG.2 z hz)⟩
 refine WD ?_
 refine hK _ (seen++[z],outs,V') ⟨hPO,v1,(v4 (L+1) (by omega) (by omega)).trans hgb,v2.iff fun e2 i _=>?_,v5 itd _ hgi (by omega),⟨?_,?_⟩,hoko⟩ ?_ ?_
 rotate_left
 ·rw [List.nodup_append];exact ⟨hnd,by simp,fun a ha b hb=>by simp only [List.mem_singleton] at hb;rw [hb];rintro rfl;exact hzn ha⟩
 ·intro y hy
  rcases List.mem_append.1 hy with h | h
  ·exact hsb y h
  simp only [List.mem_singleton] at h;subst h;exact hzl
 ·simp only [List.length_append,List.length_cons,List.length_nil];omega
 ·exact WE
 simp only
 constructor
 ·rintro ((h | ⟨y,hy,h⟩) | ⟨rfl,h⟩)
  ·exact .inl h
  ·exact .inr ⟨y,List.mem_append_left _ hy,h⟩
  exact .inr ⟨z,List.mem_append_right _ List.mem_cons_self,_,hgz,rfl,h⟩
 rintro (h | ⟨y,hy,p,hp,h1,h2⟩)
 ·exact .inl (.inl h)
 rcases List.mem_append.1 hy with hy | hy
 ·exact .inl (.inr ⟨y,hy,p,hp,h1,h2⟩)
 simp only [List.mem_singleton] at hy
 subst hy
 rw [hgz] at hp
 cases hp
 exact .inr ⟨h1.symm,h2⟩
end Go.Proofs.YtjijjfkalheokaaGreatDoor
