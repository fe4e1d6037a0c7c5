/- Lemmas. -/
import Derived.Test.YtbnabodoabimnaaGreatZk
import Derived.Test.YtbnabodoabimnaaGreatNm5
import Derived.Test.YtbnabodoabimnaaGreatG03
import Derived.Test.YtbnabodoabimnaaGreatG53
import Derived.Test.YtbnabodoabimnaaGreatG67
import Derived.Test.YtbnabodoabimnaaGreatMD
import Derived.Test.YtbnabodoabimnaaGreatG36
import Derived.Test.YtbnabodoabimnaaGreatG37
import Derived.Test.YtbnabodoabimnaaGreatNp7
import Derived.Test.YtbnabodoabimnaaGreatG43
import Derived.Test.YtbnabodoabimnaaGreatBase
import Derived.Deep.Slices
import Derived.ProofKit
namespace Go.Proofs.YtbnabodoabimnaaGreat
set_option linter.unusedVariables false
set_option linter.unusedSimpArgs false
open Go.RowKit
set_option maxRecDepth 100000
attribute [local go_sem] lga C.pl C.one
set_option maxHeartbeats 4000000 in
theorem YK (N M:List Xh) (hN:XI N) (hM:XI M):FC Tryz.prog 30 [aN N,aN M] [] (fun r o=>o=[]/\r=.b (decide (N=M))):=by
 refine A7 Tryz.func30 rfl (by rw [Tryz.ntmps30];simp) ?_
 rw [Tryz.ntmps30]
 simp only [B4,aN]
 have hNl:=hN.1
 have hMl:=hM.1
 by_cases hl:N.length=M.length
 rotate_left
 ·have d0:((N.length:Int) != (M.length:Int))=true:=by simp;omega
  (refine VW (an @Bz (an @Cw @d0)) ?_;unhygienic intros)
  refine W2 ?_
  (refine VV ?_;(repeat clear hK K);unhygienic intros)
  refine W6 [] Tryz.results30 ?_
  rw [gBK fun e=>hl (by rw [e])]
 have d0:((N.length:Int) != (M.length:Int))=false:=by simp [hl]
 (refine VW (an @Bz (an @Cw @d0)) ?_;unhygienic intros)
 refine W3 ?_
 (refine VV ?_;(repeat clear hK K);unhygienic intros)
 refine Ab (fun k:Nat=>{ tm:=[(0,.a (.c (.t 3 (tN N)))),(1,.a (.c (.t 3 (tN M)))),(5,.i k)],hp:=[],n:=56,pin:=0 }) (fun k=>k<=N.length/\N.take k=M.take k) (fun k=>N.length - k) 0 ?_ ?_ ?_
 ·exact ⟨by omega,rfl⟩
 ·exact W5
 rintro k ⟨hk,htk⟩ K hK
 by_cases hlt:k<N.length
 rotate_left
 ·have d1:=Yq hlt
  rw [gE7 (by omega),gE7 (by omega)] at htk
  (refine VW (an @Bz (an @Cw @d1)) ?_;unhygienic intros)
  refine W3 ?_
  (refine VZ ?_;repeat clear hK K)
  (refine VV ?_;(repeat clear hK K);unhygienic intros)
  refine W6 [] Tryz.results30 ?_
  rw [gEg htk]
 have d1:=Yp hlt
 have hlm:k<M.length:=by omega
 have c0:=Ut hlt
 have c1:=Uu hlt
 have c2:=Uv hlt
 have q0:=Ut hlm
 have q1:=Uu hlm
 have q2:=Uv hlm
 have hb:=hN.2 _ (gE6 hlt)
 have hb2:=hM.2 _ (gE6 hlm)
 have t1:=gE8 hlt
 have t2:=gE8 hlm
 have hno:N[k] ≠ M[k]->¬ N=M:=fun h e=>h (by subst e;rfl)
 generalize N[k]=x at *
 generalize M[k]=y at *
 obtain ⟨A,V,dv⟩:=x
 obtain ⟨B,W,dw⟩:=y
 simp only at c0 c1 c2 q0 q1 q2 hb hb2
 have hrow:=YP A B (by omega) (by omega)
 have hset:=KQ V W (by omega) (by omega) (fun s h=>by have:=hb.2.2 s h;omega) (fun s h=>by have:=hb2.2.2 s h;omega)
 simp only [AC] at hset
 by_cases hd:dv=dw
 rotate_left
 ·have b1:(dv == dw)=false:=by simpa using hd
  (refine VW (an @Bz (an @Cw @d1)) ?_;unhygienic intros)
  refine W2 ?_
  (refine VV ?_;unhygienic intros)
  refine Yz [] [(0,0,0),(1,0,0),(2,0,0),(3,0,0),(5,0,0),(6,0,0),(7,0,0),(8,0,0),(4,1,10),(9,1,10),(10,2,0),(11,0,0),(12,0,0),(13,0,0),(14,0,0),(15,0,0),(17,0,0),(18,0,0),(19,0,0),(20,0,0),(16,1,22),(21,1,22),(22,2,0),(23,0,0),(24,0,0),(25,0,0),(26,0,0),(27,0,0),(28,0,0),(29,0,0),(31,0,0),(32,0,0),(33,0,0),(34,0,0),(30,1,36),(35,1,36),(36,2,0),(37,0,0),(38,2,0)] ?_
  (refine VU (an @Bz (an @Cw (an @c0 (an @c1 (an @c2 (an @q0 (an @q1 @q2))))))) ?_;repeat clear hK K)
  (refine VI rfl rfl rfl ?_;intro K1 hK1;refine Sf (a:=dv) (b:=dw) Tryz.underlying4 rfl rfl (by simp only [go_sem]) (by simp only [go_sem]) ?_;simp only [go_sem,b1,gA8];refine hK1 _ ?_;clear hK1 K1)
  (refine VU (an @Bz (an @Cw (an @c0 (an @c1 (an @c2 (an @q0 (an @q1 @q2))))))) ?_;repeat clear hK K)
  (refine VI rfl rfl rfl ?_;intro K1 hK1;refine Bc rfl ?_;simp only [go_sem];(first | refine hK1 _ ?_ | refine AE (hK1 _ ?_));clear hK1 K1)
  (refine VT ?_;repeat clear hK K)
  refine W2 ?_
  (refine VV ?_;(repeat clear hK K);unhygienic intros)
  refine W6 [] Tryz.results30 ?_
  rw [gBK (hno fun e=>hd (by injection e with _ e;injection e))]
 have b1:(dv == dw)=true:=by rw [hd];exact beq_self_eq_true _
 by_cases hab:A=B
 rotate_left
 ·rw [gBK hab] at hrow
  (refine VW (an @Bz (an @Cw @d1)) ?_;unhygienic intros)
  refine W2 ?_
  (refine VV ?_;unhygienic intros)
  refine Yz [] [(0,0,0),(1,0,0),(2,0,0),(3,0,0),(5,0,0),(6,0,0),(7,0,0),(8,0,0),(4,1,10),(9,1,10),(10,2,0),(11,0,0),(12,0,0),(13,0,0),(14,0,0),(15,0,0),(17,0,0),(18,0,0),(19,0,0),(20,0,0),(16,1,22),(21,1,22),(22,2,0),(23,0,0),(24,0,0),(25,0,0),(26,0,0),(27,0,0),(28,0,0),(29,0,0),(31,0,0),(32,0,0),(33,0,0),(34,0,0),(30,1,36),(35,1,36),(36,2,0),(37,0,0),(38,2,0)] ?_
  (refine VU (an @Bz (an @Cw (an @c0 (an @c1 (an @c2 (an @q0 (an @q1 @q2))))))) ?_;repeat clear hK K)
  (refine VI rfl rfl rfl ?_;intro K1 hK1;refine Sf (a:=dv) (b:=dw) Tryz.underlying4 rfl rfl (by simp only [go_sem]) (by simp only [go_sem]) ?_;simp only [go_sem,b1,gA9];refine hK1 _ ?_;clear hK1 K1)
  (refine VU (an @Bz (an @Cw (an @c0 (an @c1 (an @c2 (an @q0 (an @q1 @q2))))))) ?_;repeat clear hK K)
  (refine Mr rfl rfl rfl (by simp only [go_sem] <;> rfl) ?_;intro K1 hK1;refine Bv ?_;refine xv [] (hrow) ?_ ?_)
  ·rintro _ _ ⟨rfl,rfl⟩ i o hi hl;simp at hl
  rintro _ _ ⟨rfl,rfl⟩
  (refine W1 ?_;clear hK1 K1)
  (refine VU @gA8 ?_;repeat clear hK K)
  (refine VI rfl rfl rfl ?_;intro K1 hK1;refine Bc rfl ?_;simp only [go_sem];(first | refine hK1 _ ?_ | refine AE (hK1 _ ?_));clear hK1 K1)
  (refine VT ?_;repeat clear hK K)
  refine W2 ?_
  (refine VV ?_;(repeat clear hK K);unhygienic intros)
  refine W6 [] Tryz.results30 ?_
  rw [gBK (hno fun e=>hab (by injection e))]
 rw [gEg hab] at hrow
 by_cases hvw:V=W
 ·rw [gEg hvw] at hset
  (refine VW (an @Bz (an @Cw @d1)) ?_;unhygienic intros)
  refine W2 ?_
  (refine VV ?_;unhygienic intros)
  refine Yz [] [(0,0,0),(1,0,0),(2,0,0),(3,0,0),(5,0,0),(6,0,0),(7,0,0),(8,0,0),(4,1,10),(9,1,10),(10,2,0),(11,0,0),(12,0,0),(13,0,0),(14,0,0),(15,0,0),(17,0,0),(18,0,0),(19,0,0),(20,0,0),(16,1,22),(21,1,22),(22,2,0),(23,0,0),(24,0,0),(25,0,0),(26,0,0),(27,0,0),(28,0,0),(29,0,0),(31,0,0),(32,0,0),(33,0,0),(34,0,0),(30,1,36),(35,1,36),(36,2,0),(37,0,0),(38,2,0)] ?_
  (refine VU (an @Bz (an @Cw (an @c0 (an @c1 (an @c2 (an @q0 (an @q1 @q2))))))) ?_;repeat clear hK K)
  (refine VI rfl rfl rfl ?_;intro K1 hK1;refine Sf (a:=dv) (b:=dw) Tryz.underlying4 rfl rfl (by simp only [go_sem]) (by simp only [go_sem]) ?_;simp only [go_sem,b1,gA9];refine hK1 _ ?_;clear hK1 K1)
  (refine VU (an @Bz (an @Cw (an @c0 (an @c1 (an @c2 (an @q0 (an @q1 @q2))))))) ?_;repeat clear hK K)
  (refine Mr rfl rfl rfl (by simp only [go_sem] <;> rfl) ?_;intro K1 hK1;refine Bv ?_;refine xv [] (hrow) ?_ ?_)
  ·rintro _ _ ⟨rfl,rfl⟩ i o hi hl;simp at hl
  rintro _ _ ⟨rfl,rfl⟩
  (refine W1 ?_;clear hK1 K1)
  (refine VU (an @Bz (an @Cw (an @c0 (an @c1 (an @c2 (an @q0 (an @q1 (an @q2 @gA9)))))))) ?_;repeat clear hK K)
  (refine Mr rfl rfl rfl (by simp only [go_sem] <;> rfl) ?_;intro K1 hK1;refine Bv ?_;refine xv [] (hset) ?_ ?_)
  ·rintro _ _ ⟨rfl,rfl⟩ i o hi hl;simp at hl
  rintro _ _ ⟨rfl,rfl⟩
  (refine W1 ?_;clear hK1 K1)
  (refine VU @gA9 ?_;repeat clear hK K)
  (refine VI rfl rfl rfl ?_;intro K1 hK1;refine Bc rfl ?_;simp only [go_sem];(first | refine hK1 _ ?_ | refine AE (hK1 _ ?_));clear hK1 K1)
  (refine VT ?_;repeat clear hK K)
  refine W3 ?_
  (refine VV ?_;(repeat clear hK K);unhygienic intros)
  refine W4 ?_
  refine hK _ (k+1) ⟨by omega,by rw [t1,t2,htk,hd,hab,hvw]⟩ (by omega) ?_
  exact W5
 rw [gBK hvw] at hset
 (refine VW (an @Bz (an @Cw @d1)) ?_;unhygienic intros)
 refine W2 ?_
 (refine VV ?_;unhygienic intros)
 refine Yz [] [(0,0,0),(1,0,0),(2,0,0),(3,0,0),(5,0,0),(6,0,0),(7,0,0),(8,0,0),(4,1,10),(9,1,10),(10,2,0),(11,0,0),(12,0,0),(13,0,0),(14,0,0),(15,0,0),(17,0,0),(18,0,0),(19,0,0),(20,0,0),(16,1,22),(21,1,22),(22,2,0),(23,0,0),(24,0,0),(25,0,0),(26,0,0),(27,0,0),(28,0,0),(29,0,0),(31,0,0),(32,0,0),(33,0,0),(34,0,0),(30,1,36),(35,1,36),(36,2,0),(37,0,0),(38,2,0)] ?_
 (refine VU (an @Bz (an @Cw (an @c0 (an @c1 (an @c2 (an @q0 (an @q1 @q2))))))) ?_;repeat clear hK K)
 (refine VI rfl rfl rfl ?_;intro K1 hK1;refine Sf (a:=dv) (b:=dw) Tryz.underlying4 rfl rfl (by simp only [go_sem]) (by simp only [go_sem]) ?_;simp only [go_sem,b1,gA9];refine hK1 _ ?_;clear hK1 K1)
 (refine VU (an @Bz (an @Cw (an @c0 (an @c1 (an @c2 (an @q0 (an @q1 @q2))))))) ?_;repeat clear hK K)
 (refine Mr rfl rfl rfl (by simp only [go_sem] <;> rfl) ?_;intro K1 hK1;refine Bv ?_;refine xv [] (hrow) ?_ ?_)
 ·rintro _ _ ⟨rfl,rfl⟩ i o hi hl;simp at hl
 rintro _ _ ⟨rfl,rfl⟩
 (refine W1 ?_;clear hK1 K1)
 (refine VU (an @Bz (an @Cw (an @c0 (an @c1 (an @c2 (an @q0 (an @q1 (an @q2 @gA9)))))))) ?_;repeat clear hK K)
 (refine Mr rfl rfl rfl (by simp only [go_sem] <;> rfl) ?_;intro K1 hK1;refine Bv ?_;refine xv [] (hset) ?_ ?_)
 ·rintro _ _ ⟨rfl,rfl⟩ i o hi hl;simp at hl
 rintro _ _ ⟨rfl,rfl⟩
 (refine W1 ?_;clear hK1 K1)
 (refine VU @gA8 ?_;repeat clear hK K)
 (refine VI rfl rfl rfl ?_;intro K1 hK1;refine Bc rfl ?_;simp only [go_sem];(first | refine hK1 _ ?_ | refine AE (hK1 _ ?_));clear hK1 K1)
 (refine VT ?_;repeat clear hK K)
 refine W2 ?_
 (refine VV ?_;(repeat clear hK K);unhygienic intros)
 refine W6 [] Tryz.results30 ?_
 rw [gBK (hno fun e=>hvw (by injection e with _ e;injection e))]
theorem Zj (r q:List Ar) (hn:r.length<=1000000) (hm:q.length<=1000000):FC Tryz.prog 64 [.a (.c (.t 2 (Aw r))),.a (.c (.t 2 (Aw q)))] [] (fun x o=>o=[]/\x=.b (decide (r=q))):=by
 refine A7 Tryz.func64 rfl (by rw [Tryz.ntmps64];simp) ?_
 rw [Tryz.ntmps64]
 simp only [B4]
 by_cases hl:r.length=q.length
 rotate_left
 ·have d0:((r.length:Int) != (q.length:Int))=true:=by simp;omega
  (refine VW (an @A3 (an @Aq @d0)) ?_;unhygienic intros)
  refine W2 ?_
  (refine VV ?_;(repeat clear hK K);unhygienic intros)
  refine W6 [] Tryz.results64 ?_
  rw [gBK fun e=>hl (by rw [e])]
 have d0:((r.length:Int) != (q.length:Int))=false:=by simp [hl]
 (refine VW (an @A3 (an @Aq @d0)) ?_;unhygienic intros)
 refine W3 ?_
 (refine VW (an @A3 @Aq) ?_;(repeat clear hK K);unhygienic intros)
 refine Ab (fun k:Nat=>{ tm:=[(0,.a (.c (.t 2 (Aw r)))),(1,.a (.c (.t 2 (Aw q)))),(12,.i r.length),(13,.i k)],hp:=[],n:=26,pin:=0 }) (fun k=>k<=r.length/\r.take k=q.take k) (fun k=>r.length - k) 0 ?_ ?_ ?_
 ·exact ⟨by omega,rfl⟩
 ·exact W5
 rintro k ⟨hk,htk⟩ K hK
 by_cases hlt:k<r.length
 rotate_left
 ·have d1:=Yq hlt
  rw [gE7 (by omega),gE7 (by omega)] at htk
  (refine VW (an @d1 (an @A3 @Aq)) ?_;unhygienic intros)
  refine W3 ?_
  (refine VZ ?_;repeat clear hK K)
  (refine VV ?_;(repeat clear hK K);unhygienic intros)
  refine W6 [] Tryz.results64 ?_
  rw [gEg htk]
 have d1:=Yp hlt
 have hlq:k<q.length:=by omega
 have hat:=AS hlt
 have haq:=AS hlq
 have t1:=gE8 hlt
 have t2:=gE8 hlq
 have hno:r[k] ≠ q[k]->¬ r=q:=fun h e=>h (by subst e;rfl)
 generalize r[k]=a at *
 generalize q[k]=b at *
 have hne:=fun x y=>Rp x y a b
 by_cases hab:a=b
 rotate_left
 ·have d2:decide (a=b)=false:=gBK hab
  simp only [d2,gA8] at hne
  (refine VW (an @d1 (an @A3 @Aq)) ?_;unhygienic intros)
  refine W2 ?_
  (refine VV ?_;unhygienic intros)
  refine Yr 8 [(0,0),(1,0),(2,0),(3,1),(4,0),(5,0),(6,0),(7,1),(8,2)] ?_
  (refine VS (an @hat (an @haq (an @A3 (an @Aq (an @hne (an @FP (an @d2 (an @gA8 @true_and)))))))) ?_;repeat clear hK K)
  refine W2 ?_
  (refine VV ?_;(repeat clear hK K);unhygienic intros)
  refine W6 [] Tryz.results64 ?_
  rw [gBK (hno hab)]
 have d2:decide (a=b)=true:=gEg hab
 simp only [d2,gA9] at hne
 (refine VW (an @d1 (an @A3 @Aq)) ?_;unhygienic intros)
 refine W2 ?_
 (refine VV ?_;unhygienic intros)
 refine Yr 8 [(0,0),(1,0),(2,0),(3,1),(4,0),(5,0),(6,0),(7,1),(8,2)] ?_
 (refine VS (an @hat (an @haq (an @A3 (an @Aq (an @hne (an @FP (an @d2 (an @gA9 @true_and)))))))) ?_;repeat clear hK K)
 refine W3 ?_
 (refine VV ?_;(repeat clear hK K);unhygienic intros)
 refine W4 ?_
 refine hK _ (k+1) ⟨by omega,by rw [t1,t2,htk,hab]⟩ (by omega) ?_
 exact W5
set_option maxHeartbeats 2000000 in
theorem ZI (A B:List Ar) (V W:List (List Int)) (dv dw:Bool) (hA:A.length<=1000000) (hB:B.length<=1000000) (hV:V.length<=1000000) (hW:W.length<=1000000) (hVs:∀ s∈V,s.length<=1000000) (hWs:∀ s∈W,s.length<=1000000):FC Tryz.prog 63 [.a (.g [.t 2 (Aw A),.t 1 (Az V),.v (.bool dv)]),.a (.g [.t 2 (Aw B),.t 1 (Az W),.v (.bool dw)])] [] (fun r o=>o=[]/\r=.b (decide ((A,V,dv)=(B,W,dw)))):=by
 refine A7 Tryz.func63 rfl (by rw [Tryz.ntmps63];simp) ?_
 rw [Tryz.ntmps63]
 simp only [B4]
 have h1:=Zj A B hA hB
 have h2:=TQ V W hV hW hVs hWs
 by_cases hd:dv=dw
 rotate_left
 ·have b1:(dv == dw)=false:=by simpa using hd
  (refine SU ?_;unhygienic intros)
  (refine Aj rfl ?_;intro K1 hK1;refine YI (a:=dv) (b:=dw) Tryz.underlying4 rfl rfl (by simp only [go_sem]) (by simp only [go_sem]) ?_;simp only [go_sem,b1];refine hK1 _ ?_;clear hK1 K1)
  (refine VV ?_;(repeat clear hK K);unhygienic intros)
  refine W6 [] Tryz.results63 ?_
  simp [hd]
 have b1:(dv == dw)=true:=by rw [hd];exact beq_self_eq_true _
 by_cases hab:A=B
 rotate_left
 ·rw [gBK hab] at h1
  (refine SU ?_;unhygienic intros)
  (refine Aj rfl ?_;intro K1 hK1;refine YI (a:=dv) (b:=dw) Tryz.underlying4 rfl rfl (by simp only [go_sem]) (by simp only [go_sem]) ?_;simp only [go_sem,b1];refine hK1 _ ?_;clear hK1 K1)
  (refine SU ?_;unhygienic intros)
  (refine AY rfl rfl (by simp only [go_sem] <;> rfl) ?_;intro K1 hK1;refine (Av (ids:=[]) (h1) rfl rfl (by simp only [go_sem]) (by kernel_rfl) (by (simp only [gAk,go_sem]) <;> rfl) ?_).stp)
  rintro _ _ ⟨rfl,rfl⟩
  (refine W1 ?_;clear hK1 K1)
  (refine VV ?_;(repeat clear hK K);unhygienic intros)
  refine W6 [] Tryz.results63 ?_
  simp [hab]
 rw [gEg hab] at h1
 (refine SU ?_;unhygienic intros)
 (refine Aj rfl ?_;intro K1 hK1;refine YI (a:=dv) (b:=dw) Tryz.underlying4 rfl rfl (by simp only [go_sem]) (by simp only [go_sem]) ?_;simp only [go_sem,b1];refine hK1 _ ?_;clear hK1 K1)
 (refine SU ?_;unhygienic intros)
 (refine AY rfl rfl (by simp only [go_sem] <;> rfl) ?_;intro K1 hK1;refine (Av (ids:=[]) (h1) rfl rfl (by simp only [go_sem]) (by kernel_rfl) (by (simp only [gAk,go_sem]) <;> rfl) ?_).stp)
 rintro _ _ ⟨rfl,rfl⟩
 (refine W1 ?_;clear hK1 K1)
 (refine SU ?_;unhygienic intros)
 (refine AY rfl rfl (by simp only [go_sem] <;> rfl) ?_;intro K1 hK1;refine (Av (ids:=[]) (h2) rfl rfl (by simp only [go_sem]) (by kernel_rfl) (by (simp only [gAk,go_sem]) <;> rfl) ?_).stp)
 rintro _ _ ⟨rfl,rfl⟩
 (refine W1 ?_;clear hK1 K1)
 (refine VV ?_;(repeat clear hK K);unhygienic intros)
 refine W6 [] Tryz.results63 ?_
 simp [hd,hab]
set_option maxHeartbeats 2000000 in
theorem ZJ (N M:List Xh) (hN:XI N) (hM:XI M):FC Tryz.prog 62 [aN N,aN M,.a (.c (.f 63 []))] [] (fun r o=>o=[]/\r=.b (decide (N=M))):=by
 refine A7 Tryz.func62 rfl (by rw [Tryz.ntmps62];simp) ?_
 rw [Tryz.ntmps62]
 simp only [B4,aN]
 have hNl:=hN.1
 have hMl:=hM.1
 have hcal:B3 Tryz.prog 63=true:=by kernel_rfl
 by_cases hl:N.length=M.length
 rotate_left
 ·have d0:((N.length:Int) != (M.length:Int))=true:=by simp;omega
  (refine VW (an @Bz (an @Cw @d0)) ?_;unhygienic intros)
  refine W2 ?_
  (refine VV ?_;(repeat clear hK K);unhygienic intros)
  refine W6 [] Tryz.results62 ?_
  rw [gBK fun e=>hl (by rw [e])]
 have d0:((N.length:Int) != (M.length:Int))=false:=by simp [hl]
 (refine VW (an @Bz (an @Cw @d0)) ?_;unhygienic intros)
 refine W3 ?_
 (refine VW (an @Bz @Cw) ?_;(repeat clear hK K);unhygienic intros)
 refine Ab (fun k:Nat=>{ tm:=[(1,.a (.c (.t 3 (tN M)))),(2,.a (.c (.f 63 []))),(15,.a (.c (.t 3 (tN N)))),(16,.i N.length),(17,.i k)],hp:=[],n:=32,pin:=0 }) (fun k=>k<=N.length/\N.take k=M.take k) (fun k=>N.length - k) 0 ?_ ?_ ?_
 ·exact ⟨by omega,rfl⟩
 ·exact W5
 rintro k ⟨hk,htk⟩ K hK
 by_cases hlt:k<N.length
 rotate_left
 ·have d1:=Yq hlt
  rw [gE7 (by omega),gE7 (by omega)] at htk
  (refine VW @d1 ?_;unhygienic intros)
  refine W3 ?_
  (refine VZ ?_;repeat clear hK K)
  (refine VV ?_;(repeat clear hK K);unhygienic intros)
  refine W6 [] Tryz.results62 ?_
  rw [gEg htk]
 have d1:=Yp hlt
 have hlm:k<M.length:=by omega
 have a1:=LF hlt
 have a2:=LF hlm
 have hb:=hN.2 _ (gE6 hlt)
 have hb2:=hM.2 _ (gE6 hlm)
 have t1:=gE8 hlt
 have t2:=gE8 hlm
 have hno:N[k] ≠ M[k]->¬ N=M:=fun h e=>h (by subst e;rfl)
 generalize N[k]=x at *
 generalize M[k]=y at *
 obtain ⟨A,V,dv⟩:=x
 obtain ⟨B,W,dw⟩:=y
 simp only [Xo] at a1 a2 hb hb2
 have hq:=ZI A B V W dv dw (by omega) (by omega) (by omega) (by omega) (fun s h=>by have:=hb.2.2 s h;omega) (fun s h=>by have:=hb2.2.2 s h;omega)
 by_cases he:((A,V,dv):Xh)=(B,W,dw)
 rotate_left
 ·rw [gBK he] at hq
  (refine VW @d1 ?_;unhygienic intros)
  refine W2 ?_
  (refine Cu (an @a1 (an @a2 (an @Bz @Cw))) ?_;unhygienic intros)
  refine Yt hq ?_
  (refine VW @gA8 ?_;unhygienic intros)
  refine W2 ?_
  (refine VV ?_;(repeat clear hK K);unhygienic intros)
  refine W6 [] Tryz.results62 ?_
  rw [gBK (hno he)]
 rw [gEg he] at hq
 (refine VW @d1 ?_;unhygienic intros)
 refine W2 ?_
 (refine Cu (an @a1 (an @a2 (an @Bz @Cw))) ?_;unhygienic intros)
 refine Yt hq ?_
 (refine VW @gA9 ?_;unhygienic intros)
 refine W3 ?_
 (refine VV ?_;(repeat clear hK K);unhygienic intros)
 refine W4 ?_
 refine hK _ (k+1) ⟨by omega,by rw [t1,t2,htk,he]⟩ (by omega) ?_
 refine Le.trans (A8 [] rfl rfl) ?_
 simp only [go_sem]
 exact W5
theorem ZK (N M:List Xh) (hN:XI N) (hM:XI M):FC Tryz.prog 31 [aN N,aN M] [] (fun r o=>o=[]/\r=.b (decide (N=M))):=by
 refine A7 Tryz.func31 rfl (by rw [Tryz.ntmps31];simp) ?_
 rw [Tryz.ntmps31]
 simp only [B4,aN]
 have h:=ZJ N M hN hM
 simp only [aN] at h
 (refine VV ?_;unhygienic intros)
 refine Yt h ?_
 (refine VV ?_;(repeat clear hK K);unhygienic intros)
 exact OP [] Tryz.results31
set_option maxHeartbeats 2000000 in
theorem Zu (R:List (List Ar)) (m:Int) (hn:R.length<=7) (hr:∀ r∈R,r.length<=10000):FC Tryz.prog 28 [Ba R,.i m] [] (fun r o=>o=[]/\UL R m r):=by
 refine A7 Tryz.func28 rfl (by rw [Tryz.ntmps28];simp) ?_
 rw [Tryz.ntmps28]
 simp only [B4,Ba]
 have hpre:=NJ R m hn hr
 simp only [Ba] at hpre
 (refine SU ?_;(repeat clear hK K);unhygienic intros)
 (refine W0 hpre ?_;intro K1 hK1)
 rintro _ _ ⟨rfl,hpa⟩
 rcases hpa with ⟨hm,hv,p,hp,rfl⟩ | ⟨hno,rfl⟩
 rotate_left
 ·(refine W1 ?_;clear hK1 K1)
  have d0:((1:Int) != 0)=true:=by decide
  (refine VW @d0 ?_;unhygienic intros)
  refine W2 ?_
  (refine VV ?_;(repeat clear hK K);unhygienic intros)
  refine W6 [] Tryz.results28 ?_
  exact .inr ⟨hno,rfl⟩
 have hva:=hp.va hv hm hn
 have hmin:=ZY p.2 m hva.nv.ns
 simp only [aN] at hmin
 (refine W1 ?_;clear hK1 K1)
 have d0:((0:Int) != 0)=false:=by decide
 (refine VW @d0 ?_;unhygienic intros)
 refine W3 ?_
 (refine VV ?_;(repeat clear hK K);unhygienic intros)
 (refine W0 hmin ?_;intro K1 hK1)
 rintro _ _ ⟨rfl,hma⟩
 rcases hma with ⟨_,out,cl,hz,rfl⟩ | ⟨hno,rfl⟩
 rotate_left
 ·exact absurd hva hno
 (refine W1 ?_;clear hK1 K1)
 (refine VV ?_;(repeat clear hK K);unhygienic intros)
 refine W6 [] Tryz.results28 ?_
 exact .inl ⟨hm,hv,p,out,cl,hp,hva,hz,rfl⟩
theorem StpC.f {P:Program} {o:Oper} {st:ST} {K:ST->Prop} (h:StpC P o st K True):Ud P o st K:=fun M0 w0 a w N Q hR hN=>h M0 w0 a w N Q hR fun st' a' w' h1 h2 h3=>hN st' a' w' h1 h2 (h3 trivial)
def ZL (R R':List (List Ar)):Prop:=R'.length=R.length/\∀ q∈R',q.length<=11/\(∀ x∈q,0<=x.1/\x.1<=1025/\0<=x.2/\x.2<(R.length:Int))/\SortA q
set_option maxHeartbeats 4000000 in
theorem YL (T:List Int) (hT:TpOk T) (a:Nat) (R:List (List Ar)) (ha:a<=1000000) (h1:1<=R.length) (hn:R.length<=20) (hr:∀ r∈R,r.length<=10/\(∀ x∈r,0<=x.1/\x.1<=1025/\0<=x.2/\x.2<(R.length:Int))/\SortA r):
  FC Tryz.prog 29 [.a (.c (.p 0 0)),Ba R] [tape T a] (fun r o=>∃ (a':Nat) (R':List (List Ar)),(o=[tape T a',Kb R']/\r=Ba R')/\a'<=a+6/\ZL R R'):=by
 refine A7 Tryz.func29 rfl (by rw [Tryz.ntmps29];simp) ?_
 rw [Tryz.ntmps29]
 simp only [B4,tape,Ba,Kb]
 (refine ai ?_;repeat refine kq fun K hK=>?_)
 (refine W0 (P0 R (by omega) (fun q hq=>by have:=(hr q hq).1;omega)) ?_;intro K1 hK1)
 rintro _ _ ⟨rfl,rfl⟩
 (simp only [Ap,AC,Cd,Ys,go_sem];refine hK1 _ ?_;clear hK1 K1)
 (refine ai ?_;(repeat clear hK K);repeat refine kq fun K hK=>?_)
 refine Bw (CI 3 rfl) ?_
 simp only [Dc,go_sem]
 (refine Aj rfl ?_;intro K1 hK1;refine ct [0] (CY T a R.length hT (by omega) (by omega)) ?_ ?_)
 ·rintro _ _ ⟨rfl,v,rfl,_⟩;rfl
 rintro _ _ ⟨rfl,s,rfl,hs⟩
 (simp only [Ap,AC,tape,BX,Ys,go_sem];refine hK1 _ ?_;clear hK1 K1)
 replace hs:s<R.length:=by omega
 have hgs:=gE1 hs
 have hrs:=hr _ (gE6 hs)
 have hR1:ZL R R:=⟨rfl,fun q hq=>⟨gBv (hr q hq).1 (by omega),(hr q hq).2⟩⟩
 generalize R[s]=row at *
 by_cases hpos:row.length=0
 ·have d0:decide ((row.length:Int) > 0)=false:=gBK (by omega)
  (refine aj (an @AH (an (BC hgs) (an @A3 (an @Aq @d0)))) ?_;repeat refine kq fun K hK=>?_)
  refine W3 ?_
  (refine ai ?_;(repeat clear hK K);repeat refine kq fun K hK=>?_)
  (refine Aj rfl ?_;intro K1 hK1;refine ct [0] (CY T (a+1) 3 hT (by omega) (by omega)) ?_ ?_)
  ·rintro _ _ ⟨rfl,v,rfl,_⟩;rfl
  rintro _ _ ⟨rfl,v,rfl,hv⟩
  (simp only [Ap,AC,tape,BX,Ys,go_sem];refine hK1 _ ?_;clear hK1 K1)
  by_cases hv0:v=0
  ·have d1:decide ((v:Int) > 0)=false:=gBK (by omega)
   (refine aj @d1 ?_;repeat refine kq fun K hK=>?_)
   refine W3 ?_
   refine As (AQ (r:=⟨24,1,true,Br (R)⟩) (ri:=⟨27,1,false,[.s 3 R.length]⟩) (ts:=AK (R)) 5 0 3 R.length (by decide) rfl rfl rfl rfl (show 0<1 by omega) (by rw [AH,gBB,(hR1).1]) (GZ _)) ?_
   simp only [go_sem]
   refine As (CI 5 rfl) ?_
   simp only [Vp,go_sem]
   (refine ai ?_;(repeat clear hK K);repeat refine kq fun K hK=>?_)
   refine W6 [0,2] Tryz.results29 ?_
   exact ⟨a+1+1,R,⟨rfl,rfl⟩,by omega,hR1⟩
  have d1:decide ((v:Int) > 0)=true:=gEg (by omega)
  (refine aj @d1 ?_;(repeat clear hK K);repeat refine kq fun K hK=>?_)
  refine W2 ?_
  have hne:(Br (R)).isEmpty=false:=by
   have h9:=(hR1).1
   cases h8:(Br (R)) with
   | nil=>
    have h7:=congrArg List.length h8
    rw [AH,h9,gAO] at h7
    omega
   | cons x xs=>rfl
  refine YH [5,3] (.m 0 0 0 (.m 2 0 0 (.m 3 0 0 (.m 5 0 0 (.m 8 0 0 (.m 10 0 0 (.m 11 0 0 (.m 1 1 18 (.m 4 1 16 (.m 6 0 0 (.m 7 1 16 (.m 12 1 14 (.m 13 0 0 (.a 9 (.a 14 (.m 15 0 0 (.a 16 (.m 17 0 0 (.a 18 .e))))))))))))))))))) ?_
  (refine VY (an @AH (an (BC hgs) ((hR1).1))) ?_;repeat clear hK K)
  (refine E3 rfl rfl rfl ?_;intro K1 hK1;refine yX [0] ?_;refine xy [0] (Ey T hT (a+1+1) (by omega)) ?_ ?_)
  ·rintro _ _ ⟨rfl,v,rfl,_⟩;exact BN rfl
  rintro _ _ ⟨rfl,e,rfl,he⟩
  (simp only [Ap,AC,tape,BX,Ys,go_sem];refine hK1 _ ?_;clear hK1 K1)
  (refine VX ?_;repeat clear hK K)
  (refine E3 rfl rfl rfl ?_;intro K1 hK1;refine yX [0] ?_;refine xy [0] (CY T (a+1+1+1) R.length hT (by omega) (by omega)) ?_ ?_)
  ·rintro _ _ ⟨rfl,v,rfl,_⟩;exact BN rfl
  rintro _ _ ⟨rfl,t,rfl,ht⟩
  (simp only [Ap,AC,tape,BX,Ys,go_sem];refine hK1 _ ?_;clear hK1 K1)
  (refine VX ?_;repeat clear hK K)
  (refine VL rfl rfl ?_;intro K1 hK1;refine StpC.f (Av (ids:=[]) (IW row (e,(t:Int)) (by omega)) rfl rfl (by simp only [go_sem]) (by kernel_rfl) (by (simp only [gAk,go_sem]) <;> rfl) ?_))
  rintro _ _ ⟨rfl,rfl⟩
  simp only [GX]
  (simp only [Ap,AC,BX,Ys,go_sem];refine hK1 _ ?_;clear hK1 K1)
  dsimp only
  have hcs:∀ q:List Ar,(Br (R)).set s (.t 2 (Aw q))=Br ((R).set s q):=fun q=>by simp [Br,gAY]
  have hR2:ZL R ((R).set s (E5 (e,(t:Int)) row)):=⟨by rw [gAQ,(hR1).1],fun q hq=>by
   rcases gB9 hq with hq | rfl
   ·exact (hR1).2 q hq
   ·refine ⟨by have:=JZ (e,(t:Int)) row;have:=(hrs).1;omega,fun x hx=>?_,I2 (hrs).2.2⟩
    rcases (Fo _ _ _).1 hx with rfl | hx
    ·simp only;omega
    ·exact (hrs).2.1 x hx⟩
  (refine VY (an @AH ((hR1).1)) ?_;repeat clear hK K)
  (refine VM rfl rfl rfl rfl ?_;intro K1 hK1;refine Bc rfl ?_;simp only [go_sem,AH,hcs,gAQ,(hR1).1];(first | refine hK1 _ ?_ | refine AE (hK1 _ ?_));clear hK1 K1)
  refine DY ⟨by simp,by simp,?_⟩
  (try simp only [Ad,Ay])
  refine hK _ ?_
  clear hK K
  refine As (AQ (r:=⟨24,1,true,Br ((R).set s (E5 (e,(t:Int)) row))⟩) (ri:=⟨27,1,false,[.s 3 R.length]⟩) (ts:=AK ((R).set s (E5 (e,(t:Int)) row))) 5 0 3 R.length (by decide) rfl rfl rfl rfl (show 0<1 by omega) (by rw [AH,gBB,(hR2).1]) (GZ _)) ?_
  simp only [go_sem]
  refine As (CI 5 rfl) ?_
  simp only [Vp,go_sem]
  (refine ai ?_;(repeat clear hK K);repeat refine kq fun K hK=>?_)
  refine W6 [0,2] Tryz.results29 ?_
  exact ⟨a+1+1+1+1,(R).set s (E5 (e,(t:Int)) row),⟨rfl,rfl⟩,by omega,hR2⟩
 have d0:decide ((row.length:Int) > 0)=true:=gEg (by omega)
 (refine aj (an @AH (an (BC hgs) (an @A3 (an @Aq @d0)))) ?_;(repeat clear hK K);repeat refine kq fun K hK=>?_)
 (refine AY rfl rfl (by simp only [go_sem] <;> rfl) ?_;intro K1 hK1;refine ct [0] (CY T (a+1) 2 hT (by omega) (by omega)) ?_ ?_)
 ·rintro _ _ ⟨rfl,v,rfl,_⟩;rfl
 rintro _ _ ⟨rfl,v,rfl,hv⟩
 (simp only [Ap,AC,tape,BX,Ys,go_sem];refine hK1 _ ?_;clear hK1 K1)
 by_cases hv0:v=0
 rotate_left
 ·have d2:((v:Int) == 0)=false:=by simp [hv0]
  (refine aj @d2 ?_;repeat refine kq fun K hK=>?_)
  refine W3 ?_
  (refine ai ?_;(repeat clear hK K);repeat refine kq fun K hK=>?_)
  (refine Aj rfl ?_;intro K1 hK1;refine ct [0] (CY T (a+1+1) 3 hT (by omega) (by omega)) ?_ ?_)
  ·rintro _ _ ⟨rfl,v,rfl,_⟩;rfl
  rintro _ _ ⟨rfl,v,rfl,hv⟩
  (simp only [Ap,AC,tape,BX,Ys,go_sem];refine hK1 _ ?_;clear hK1 K1)
  by_cases hv0:v=0
  ·have d1:decide ((v:Int) > 0)=false:=gBK (by omega)
   (refine aj @d1 ?_;repeat refine kq fun K hK=>?_)
   refine W3 ?_
   refine As (AQ (r:=⟨24,1,true,Br (R)⟩) (ri:=⟨27,1,false,[.s 3 R.length]⟩) (ts:=AK (R)) 5 0 3 R.length (by decide) rfl rfl rfl rfl (show 0<1 by omega) (by rw [AH,gBB,(hR1).1]) (GZ _)) ?_
   simp only [go_sem]
   refine As (CI 5 rfl) ?_
   simp only [Vp,go_sem]
   (refine ai ?_;(repeat clear hK K);repeat refine kq fun K hK=>?_)
   refine W6 [0,2] Tryz.results29 ?_
   exact ⟨a+1+1+1,R,⟨rfl,rfl⟩,by omega,hR1⟩
  have d1:decide ((v:Int) > 0)=true:=gEg (by omega)
  (refine aj @d1 ?_;(repeat clear hK K);repeat refine kq fun K hK=>?_)
  refine W2 ?_
  have hne:(Br (R)).isEmpty=false:=by
   have h9:=(hR1).1
   cases h8:(Br (R)) with
   | nil=>
    have h7:=congrArg List.length h8
    rw [AH,h9,gAO] at h7
    omega
   | cons x xs=>rfl
  refine YH [5,3] (.m 0 0 0 (.m 2 0 0 (.m 3 0 0 (.m 5 0 0 (.m 8 0 0 (.m 10 0 0 (.m 11 0 0 (.m 1 1 18 (.m 4 1 16 (.m 6 0 0 (.m 7 1 16 (.m 12 1 14 (.m 13 0 0 (.a 9 (.a 14 (.m 15 0 0 (.a 16 (.m 17 0 0 (.a 18 .e))))))))))))))))))) ?_
  (refine VY (an @AH (an (BC hgs) ((hR1).1))) ?_;repeat clear hK K)
  (refine E3 rfl rfl rfl ?_;intro K1 hK1;refine yX [0] ?_;refine xy [0] (Ey T hT (a+1+1+1) (by omega)) ?_ ?_)
  ·rintro _ _ ⟨rfl,v,rfl,_⟩;exact BN rfl
  rintro _ _ ⟨rfl,e,rfl,he⟩
  (simp only [Ap,AC,tape,BX,Ys,go_sem];refine hK1 _ ?_;clear hK1 K1)
  (refine VX ?_;repeat clear hK K)
  (refine E3 rfl rfl rfl ?_;intro K1 hK1;refine yX [0] ?_;refine xy [0] (CY T (a+1+1+1+1) R.length hT (by omega) (by omega)) ?_ ?_)
  ·rintro _ _ ⟨rfl,v,rfl,_⟩;exact BN rfl
  rintro _ _ ⟨rfl,t,rfl,ht⟩
  (simp only [Ap,AC,tape,BX,Ys,go_sem];refine hK1 _ ?_;clear hK1 K1)
  (refine VX ?_;repeat clear hK K)
  (refine VL rfl rfl ?_;intro K1 hK1;refine StpC.f (Av (ids:=[]) (IW row (e,(t:Int)) (by omega)) rfl rfl (by simp only [go_sem]) (by kernel_rfl) (by (simp only [gAk,go_sem]) <;> rfl) ?_))
  rintro _ _ ⟨rfl,rfl⟩
  simp only [GX]
  (simp only [Ap,AC,BX,Ys,go_sem];refine hK1 _ ?_;clear hK1 K1)
  dsimp only
  have hcs:∀ q:List Ar,(Br (R)).set s (.t 2 (Aw q))=Br ((R).set s q):=fun q=>by simp [Br,gAY]
  have hR2:ZL R ((R).set s (E5 (e,(t:Int)) row)):=⟨by rw [gAQ,(hR1).1],fun q hq=>by
   rcases gB9 hq with hq | rfl
   ·exact (hR1).2 q hq
   ·refine ⟨by have:=JZ (e,(t:Int)) row;have:=(hrs).1;omega,fun x hx=>?_,I2 (hrs).2.2⟩
    rcases (Fo _ _ _).1 hx with rfl | hx
    ·simp only;omega
    ·exact (hrs).2.1 x hx⟩
  (refine VY (an @AH ((hR1).1)) ?_;repeat clear hK K)
  (refine VM rfl rfl rfl rfl ?_;intro K1 hK1;refine Bc rfl ?_;simp only [go_sem,AH,hcs,gAQ,(hR1).1];(first | refine hK1 _ ?_ | refine AE (hK1 _ ?_));clear hK1 K1)
  refine DY ⟨by simp,by simp,?_⟩
  (try simp only [Ad,Ay])
  refine hK _ ?_
  clear hK K
  refine As (AQ (r:=⟨24,1,true,Br ((R).set s (E5 (e,(t:Int)) row))⟩) (ri:=⟨27,1,false,[.s 3 R.length]⟩) (ts:=AK ((R).set s (E5 (e,(t:Int)) row))) 5 0 3 R.length (by decide) rfl rfl rfl rfl (show 0<1 by omega) (by rw [AH,gBB,(hR2).1]) (GZ _)) ?_
  simp only [go_sem]
  refine As (CI 5 rfl) ?_
  simp only [Vp,go_sem]
  (refine ai ?_;(repeat clear hK K);repeat refine kq fun K hK=>?_)
  refine W6 [0,2] Tryz.results29 ?_
  exact ⟨a+1+1+1+1+1,(R).set s (E5 (e,(t:Int)) row),⟨rfl,rfl⟩,by omega,hR2⟩
 have d2:((v:Int) == 0)=true:=by simp [hv0]
 (refine aj @d2 ?_;repeat refine kq fun K hK=>?_)
 refine W2 ?_
 (refine ai ?_;(repeat clear hK K);repeat refine kq fun K hK=>?_)
 (refine Aj rfl ?_;intro K1 hK1;refine ct [0] (CY T (a+1+1) row.length hT (by omega) (by omega)) ?_ ?_)
 ·rintro _ _ ⟨rfl,v,rfl,_⟩;rfl
 rintro _ _ ⟨rfl,k,rfl,hk⟩
 (simp only [Ap,AC,tape,BX,Ys,go_sem];refine hK1 _ ?_;clear hK1 K1)
 (refine ai ?_;(repeat clear hK K);repeat refine kq fun K hK=>?_)
 have hk2:k<row.length:=by omega
 have hne:(Br R).isEmpty=false:=by
  cases h8:Br R with
  | nil=>
   have h7:=congrArg List.length h8
   rw [AH,gAO] at h7
   omega
  | cons x xs=>rfl
 have hk1:((k:Int)+1).toNat=k+1:=by omega
 have hT1:(Aw row).take (k*2)=Aw (row.take k):=by rw [BH]
 have hT2:(Aw row).drop ((k+1)*2)=Aw (row.drop (k+1)):=by
  have h:=List.take_append_drop ((k+1)*2) (Aw row)
  have h2:Aw row=Aw (row.take (k+1))++Aw (row.drop (k+1)):=by unfold Aw;rw [<- List.flatMap_append,List.take_append_drop]
  rw [h2,List.drop_append_of_le_length (by rw [A3,gAS];omega),gAq (by rw [A3,gAS];omega),gBc]
 have hl1:(row.take k).length=k:=by rw [gAS];omega
 have hl2:(row.drop (k+1)).length<=10:=by rw [gAK];have:=hrs.1;omega
 refine YH [5,3] (.m 0 0 0 (.m 2 0 0 (.m 4 0 0 (.m 6 0 0 (.m 9 0 0 (.m 12 0 0 (.m 14 0 0 (.m 17 0 0 (.m 18 0 0 (.m 1 1 22 (.m 5 1 11 (.m 7 0 0 (.m 8 1 11 (.m 10 0 0 (.m 13 1 20 (.m 15 0 0 (.m 16 1 20 (.m 19 0 0 (.a 3 (.a 11 (.a 20 (.m 21 0 0 (.a 22 .e))))))))))))))))))))))) ?_
 (refine VY (an @AH (an (BC hgs) (an @A3 (an @Aq (an @hk1 (an @hT1 @hT2)))))) ?_;repeat clear hK K)
 generalize hq1:row.take k=q1 at *
 generalize hq2:row.drop (k+1)=q2 at *
 (refine VL rfl rfl ?_;intro K1 hK1;refine Bl rfl ?_;simp only [go_sem];(first | refine hK1 _ ?_ | refine AE (hK1 _ ?_));clear hK1 K1)
 (refine E3 rfl rfl rfl ?_;intro K1 hK1;refine Cl rfl rfl rfl rfl (by first | rfl | simp only [Ct,gAz,gAy,hne,gAH,gA8,gAa,gA3,gA2]) rfl ?_;simp only [go_sem,Cm,A3,Aq,D9,hl1];(first | refine hK1 _ ?_ | refine AE (hK1 _ ?_));clear hK1 K1)
 have hct:(AG q1).take (k*2)=AG q1:=gE7 (by rw [AD,hl1];exact gBu _)
 (refine E3 rfl rfl rfl ?_;intro K1 hK1;refine Cl rfl rfl rfl rfl (by first | rfl | simp only [Ct,gAz,gAy,hne,gAH,gA8,gAa,gA3,gA2]) rfl ?_;simp only [go_sem,Cm,A3,Aq,AD,hl1,hct,D9];(first | refine hK1 _ ?_ | refine AE (hK1 _ ?_));clear hK1 K1)
 (refine VY @AH ?_;repeat clear hK K)
 (refine VM rfl rfl rfl rfl ?_;intro K1 hK1;refine Bc rfl ?_;simp only [go_sem,AH,gAQ];(first | refine hK1 _ ?_ | refine AE (hK1 _ ?_));clear hK1 K1)
 refine DY ⟨by simp,by simp,?_⟩
 (try simp only [Ad,Ay])
 refine hK _ ?_
 clear hK K
 have hj6:((Br R).set s (C.s 8 (k+q2.length)))[s]?=some (.s 8 (k+q2.length)):=by rw [gEc (by rw [AH];exact hs)]
 refine As (AQ (r:=⟨23,2,true,AG (q1++q2)⟩) (ri:=⟨24,1,true,(Br R).set s (C.s 8 (k+q2.length))⟩) (ts:=Aw (q1++q2)) 3 s 8 (k+q2.length) (by decide) rfl hj6 rfl rfl (show 0<2 by omega) (by rw [AD,gAI,hl1]) (DB _)) ?_
 simp only [go_sem]
 refine As (CI 3 rfl) ?_
 have hos:(((Br R).set s (C.s 8 (k+q2.length))).set s (.o (2,23) (Aw (q1++q2)))).map Vp=Br (R.set s (q1++q2)):=by
  rw [List.set_set];simp [Br,gAY,Vp,gAb]
 simp only [hos,go_sem]
 have hsub:∀ x∈q1++q2,x∈row:=fun x hx=>by
  rcases gB0.1 hx with hx | hx
  ·rw [<- hq1] at hx;exact gB8 hx
  rw [<- hq2] at hx;exact List.mem_of_mem_drop hx
 have hsrt:SortA (q1++q2):=by
  refine List.Pairwise.sublist ?_ hrs.2.2
  rw [<- hq1,<- hq2]
  have h8:(row.take k++row.drop (k+1)).Sublist (row.take k++row.drop k):=(List.Sublist.refl _).append (by rw [<- List.drop_drop];exact List.drop_sublist 1 _)
  rwa [List.take_append_drop] at h8
 have hl3:(q1++q2).length<=10/\(∀ x∈q1++q2,0<=x.1/\x.1<=1025/\0<=x.2/\x.2<(R.length:Int))/\SortA (q1++q2):=⟨by rw [gAI,hl1,<- hq2,gAK];have:=hrs.1;omega,fun x hx=>hrs.2.1 x (hsub x hx),hsrt⟩
 have hv3:ZL R (R.set s (q1++q2)):=⟨by rw [gAQ],fun q hq=>by
  rcases gB9 hq with hq | rfl
  ·exact hR1.2 q hq
  ·exact ⟨by have:=hl3.1;omega,hl3.2⟩⟩
 have hg3:(R.set s (q1++q2))[s]?=some (q1++q2):=gEc hs
 generalize R.set s (q1++q2)=R3 at *
 generalize q1++q2=q3 at *
 (refine ai ?_;(repeat clear hK K);repeat refine kq fun K hK=>?_)
 (refine Aj rfl ?_;intro K1 hK1;refine ct [0] (CY T (a+1+1+1) 3 hT (by omega) (by omega)) ?_ ?_)
 ·rintro _ _ ⟨rfl,v,rfl,_⟩;rfl
 rintro _ _ ⟨rfl,v,rfl,hv⟩
 (simp only [Ap,AC,tape,BX,Ys,go_sem];refine hK1 _ ?_;clear hK1 K1)
 by_cases hv0:v=0
 ·have d1:decide ((v:Int) > 0)=false:=gBK (by omega)
  (refine aj @d1 ?_;repeat refine kq fun K hK=>?_)
  refine W3 ?_
  refine As (AQ (r:=⟨24,1,true,Br (R3)⟩) (ri:=⟨27,1,false,[.s 3 R.length]⟩) (ts:=AK (R3)) 5 0 3 R.length (by decide) rfl rfl rfl rfl (show 0<1 by omega) (by rw [AH,gBB,(hv3).1]) (GZ _)) ?_
  simp only [go_sem]
  refine As (CI 5 rfl) ?_
  simp only [Vp,go_sem]
  (refine ai ?_;(repeat clear hK K);repeat refine kq fun K hK=>?_)
  refine W6 [0,2] Tryz.results29 ?_
  exact ⟨a+1+1+1+1,R3,⟨rfl,rfl⟩,by omega,hv3⟩
 have d1:decide ((v:Int) > 0)=true:=gEg (by omega)
 (refine aj @d1 ?_;(repeat clear hK K);repeat refine kq fun K hK=>?_)
 refine W2 ?_
 have hne:(Br (R3)).isEmpty=false:=by
  have h9:=(hv3).1
  cases h8:(Br (R3)) with
  | nil=>
   have h7:=congrArg List.length h8
   rw [AH,h9,gAO] at h7
   omega
  | cons x xs=>rfl
 refine YH [5,3] (.m 0 0 0 (.m 2 0 0 (.m 3 0 0 (.m 5 0 0 (.m 8 0 0 (.m 10 0 0 (.m 11 0 0 (.m 1 1 18 (.m 4 1 16 (.m 6 0 0 (.m 7 1 16 (.m 12 1 14 (.m 13 0 0 (.a 9 (.a 14 (.m 15 0 0 (.a 16 (.m 17 0 0 (.a 18 .e))))))))))))))))))) ?_
 (refine VY (an @AH (an (BC hg3) ((hv3).1))) ?_;repeat clear hK K)
 (refine E3 rfl rfl rfl ?_;intro K1 hK1;refine yX [0] ?_;refine xy [0] (Ey T hT (a+1+1+1+1) (by omega)) ?_ ?_)
 ·rintro _ _ ⟨rfl,v,rfl,_⟩;exact BN rfl
 rintro _ _ ⟨rfl,e,rfl,he⟩
 (simp only [Ap,AC,tape,BX,Ys,go_sem];refine hK1 _ ?_;clear hK1 K1)
 (refine VX ?_;repeat clear hK K)
 (refine E3 rfl rfl rfl ?_;intro K1 hK1;refine yX [0] ?_;refine xy [0] (CY T (a+1+1+1+1+1) R.length hT (by omega) (by omega)) ?_ ?_)
 ·rintro _ _ ⟨rfl,v,rfl,_⟩;exact BN rfl
 rintro _ _ ⟨rfl,t,rfl,ht⟩
 (simp only [Ap,AC,tape,BX,Ys,go_sem];refine hK1 _ ?_;clear hK1 K1)
 (refine VX ?_;repeat clear hK K)
 (refine VL rfl rfl ?_;intro K1 hK1;refine StpC.f (Av (ids:=[]) (IW q3 (e,(t:Int)) (by omega)) rfl rfl (by simp only [go_sem]) (by kernel_rfl) (by (simp only [gAk,go_sem]) <;> rfl) ?_))
 rintro _ _ ⟨rfl,rfl⟩
 simp only [GX]
 (simp only [Ap,AC,BX,Ys,go_sem];refine hK1 _ ?_;clear hK1 K1)
 dsimp only
 have hcs:∀ q:List Ar,(Br (R3)).set s (.t 2 (Aw q))=Br ((R3).set s q):=fun q=>by simp [Br,gAY]
 have hR2:ZL R ((R3).set s (E5 (e,(t:Int)) q3)):=⟨by rw [gAQ,(hv3).1],fun q hq=>by
  rcases gB9 hq with hq | rfl
  ·exact (hv3).2 q hq
  ·refine ⟨by have:=JZ (e,(t:Int)) q3;have:=(hl3).1;omega,fun x hx=>?_,I2 (hl3).2.2⟩
   rcases (Fo _ _ _).1 hx with rfl | hx
   ·simp only;omega
   ·exact (hl3).2.1 x hx⟩
 (refine VY (an @AH ((hv3).1)) ?_;repeat clear hK K)
 (refine VM rfl rfl rfl rfl ?_;intro K1 hK1;refine Bc rfl ?_;simp only [go_sem,AH,hcs,gAQ,(hv3).1];(first | refine hK1 _ ?_ | refine AE (hK1 _ ?_));clear hK1 K1)
 refine DY ⟨by simp,by simp,?_⟩
 (try simp only [Ad,Ay])
 refine hK _ ?_
 clear hK K
 refine As (AQ (r:=⟨24,1,true,Br ((R3).set s (E5 (e,(t:Int)) q3))⟩) (ri:=⟨27,1,false,[.s 3 R.length]⟩) (ts:=AK ((R3).set s (E5 (e,(t:Int)) q3))) 5 0 3 R.length (by decide) rfl rfl rfl rfl (show 0<1 by omega) (by rw [AH,gBB,(hR2).1]) (GZ _)) ?_
 simp only [go_sem]
 refine As (CI 5 rfl) ?_
 simp only [Vp,go_sem]
 (refine ai ?_;(repeat clear hK K);repeat refine kq fun K hK=>?_)
 refine W6 [0,2] Tryz.results29 ?_
 exact ⟨a+1+1+1+1+1+1,(R3).set s (E5 (e,(t:Int)) q3),⟨rfl,rfl⟩,by omega,hR2⟩
theorem U0 {E:Nat->List Nat} {n:Nat} {L:List Nat} (h0:n∈L) (hc:∀ u∈L,∀ w∈E u,w∈L) {u:Nat} (h:Rc E n u):u∈L:=by
 induction h with
 | refl=>exact h0
 | tail _ h2 ih=>exact hc _ ih _ h2
def Yb (E:Nat->List Nat) (s:Nat):Nat->List Nat
 | 0=>[s]
 | k+1=>Yb E s k++(Yb E s k).flatMap E
theorem L2 {E:Nat->List Nat} {s:Nat}:∀ (k:Nat) {u:Nat},u∈Yb E s k->Rc E s u
 | 0,u,h=>by rw [gBb.1 h];exact .refl s
 | k+1,u,h=>by
  rcases gB0.1 h with q | q
  ·exact L2 k q
  ·obtain ⟨v,hv,hu⟩:=gB5.1 q
   exact (L2 k hv).tail hu
theorem U1 {R:List (List Ar)} {s k:Nat} {L:List Nat} (hl:L.Pairwise (· < ·)) (hb:∀ u∈L,u<R.length) (h0:s∈L) (hc:∀ u∈L,∀ w∈Wi true R u,w∈L) (hr:∀ u∈L,u∈Yb (Wi true R) s k):WL R s=L:=by
 refine G0 (Bu _ _) hl fun u=>?_
 show u∈WL R s↔_
 rw [CZ]
 exact ⟨fun ⟨_,h⟩=>U0 h0 hc h,fun h=>⟨hb u h,L2 k (hr u h)⟩⟩
theorem QC {R:List (List Ar)} {X:List Nat} {e:Int} {k:Nat} {L:List Nat} (hl:L.Pairwise (· < ·)) (hb:∀ u∈L,u<R.length) (h0:∀ v∈tg R X e,v∈L) (hc:∀ u∈L,∀ w∈Wi true R u,w∈L) (hr:∀ u∈L,∃ v∈tg R X e,u∈Yb (Wi true R) v k):EP R X e=L:=by
 refine G0 (Bu _ _) hl fun u=>?_
 show u∈EP R X e↔_
 rw [EJ]
 exact ⟨fun ⟨_,v,hv,h⟩=>U0 (h0 v hv) hc h,fun h=>⟨hb u h,by obtain ⟨v,hv,q⟩:=hr u h;exact ⟨v,hv,L2 k q⟩⟩⟩
def IB:List (List Ar):=[[(0,1),(0,2)],[(2,3)],[(3,3)],[]]
def O5:List Xh:=[([(2,1),(3,1)],[[2],[3]],false),([],[[]],false)]
theorem Uy:WL IB 0=[0,1,2]:=U1 (k:=3) (by decide) (by decide) (by decide) (by decide) (by decide)
theorem Uz:EP IB [0,1,2] 2=[3]:=QC (k:=3) (by decide) (by decide) (by decide) (by decide) (by decide)
theorem UA:EP IB [0,1,2] 3=[3]:=QC (k:=3) (by decide) (by decide) (by decide) (by decide) (by decide)
theorem QD:B8 IB 2 1=([[0,1,2],[3]],[([(2,1),(3,1)],[[2],[3]],false)]):=by
 have h0:B8 IB 2 0=([[0,1,2]],[]):=by show ([WL IB 0],[])=_;rw [Uy]
 have h1:(B8 IB 2 0).1[0]?=some [0,1,2]:=by rw [h0];rfl
 rw [C0 h1,h0]
 have e:Xf IB [0,1,2]=[2,3]:=by decide
 have e2:D2 (Xg IB [0,1,2])=[[2],[3]]:=by decide
 unfold Xn
 rw [if_neg (by decide),e,e2]
 unfold Xl LV
 simp only [gAw,gAx,Uz,UA]
 rfl
theorem U2:B8 IB 2 2=([[0,1,2],[3]],O5):=by
 have h1:(B8 IB 2 1).1[1]?=some [3]:=by rw [QD];rfl
 rw [C0 h1,QD]
 have e:Xf IB [3]=[]:=by decide
 have e2:D2 (Xg IB [3])=[[]]:=by decide
 unfold Xn
 rw [if_neg (by decide),e,e2]
 rfl
theorem PreE.mk {R:List (List Ar)} {m:Int} {K:Nat} {p:List (List Nat) × List Xh} (h:B8 R m K=p) (hl:p.1.length=K):PreE R m p:=
 ⟨K,h,hl,by rw [<- h];exact (O3 h hl).2.1 K (gBu _)⟩
theorem U3:ClN O5 ([0,1],2):=⟨0,by decide,by decide⟩
theorem SG {R:List (List Ar)} {m:Int} {K:Nat} {p:List (List Nat) × List Xh} {q:List Int × Nat} {out:List Xh} (hm:Fy m=true) (hv:C7 R=true) (hk:B8 R m K=p) (hl:p.1.length=K) (hc:ClN p.2 q) (ho:Y6 p.2 q (AZ (qN p.2 q)).1 (AZ (qN p.2 q)).2=out) {r:AV} (h:UL R m r):r=.tup [.c (.t 3 (tN out)),.c (.v (.int .i64 0))]:=by
 rcases h with ⟨_,_,p2,out2,cl,hp,_,hz,rfl⟩ | ⟨hno,_⟩
 rotate_left
 ·exact absurd ⟨hm,hv⟩ hno
 have e:=hp.uniq (PreE.mk hk hl)
 subst e
 obtain ⟨q2,num,hc2,_,_,_,rfl,_⟩:=hz
 rw [hc2.uniq hc,ho]
theorem SH {R:List (List Ar)} {m:Int} {K:Nat} {p:List (List Nat) × List Xh} {q:List Int × Nat} {out:List Xh} (hn:R.length<=7) (hr:∀ r∈R,r.length<=10000) (hm:Fy m=true) (hv:C7 R=true) (hk:B8 R m K=p) (hl:p.1.length=K) (hc:ClN p.2 q) (ho:Y6 p.2 q (AZ (qN p.2 q)).1 (AZ (qN p.2 q)).2=out):FC Tryz.prog 11 [Ba R,.i m] [] (fun r o=>o=[]/\r=.tup [.c (.t 3 (tN out)),.c (.v (.int .i64 0))]):=
 (U5 R m hn hr).mono fun r o ⟨h1,h2⟩=>⟨h1,SG hm hv hk hl hc ho h2⟩
theorem SI:FC Tryz.prog 11 [Ba IB,.i 2] [] (fun r o=>o=[]/\r=.tup [.c (.t 3 (tN O5)),.c (.v (.int .i64 0))]):=
 SH (by decide) (by decide) rfl (by kernel_rfl) U2 rfl U3 (by decide)
set_option maxHeartbeats 2000000 in
theorem O7:FC Tryz.prog 13 [] [] (fun r _=>r=.b true):=by
 refine A7 Tryz.func13 rfl (by rw [Tryz.ntmps13];simp) ?_
 rw [Tryz.ntmps13]
 simp only [B4]
 have hnz:=SI
 have heq:=NN O5 (by unfold XI;decide)
 simp only [Ba] at hnz
 simp only [aN] at heq
 (repeat (first | (refine AA ?_;intro K hK) | refine Ai ?_ | refine Ag ?_))
 (repeat (refine AX rfl rfl ?_;intro K1 hK1;simp only [go_sem,ST.put,De,A0.cells];refine hK1 _ ?_;clear hK1 K1))
 (first | refine Aa ?_ | refine Am ?_)
 refine hK _ ?_
 clear hK K
 (repeat (first | (refine AA ?_;intro K hK) | refine Ai ?_ | refine Ag ?_))
 (repeat (refine AX rfl rfl ?_;intro K1 hK1;simp only [go_sem,ST.put,De,A0.cells];refine hK1 _ ?_;clear hK1 K1))
 (first | refine Aa ?_ | refine Am ?_)
 refine hK _ ?_
 clear hK K
 refine As (AQ (r:=⟨23,2,true,AG [(0,1),(0,2)]⟩) (ts:=Aw [(0,1),(0,2)]) 3 0 0 2 (by decide) rfl rfl rfl rfl (show 0<2 by omega) rfl (DB _)) ?_
 simp only [go_sem]
 refine As (AQ (r:=⟨23,2,true,AG [(2,3)]⟩) (ts:=Aw [(2,3)]) 3 1 1 1 (by decide) rfl rfl rfl rfl (show 0<2 by omega) rfl (DB _)) ?_
 simp only [go_sem]
 refine As (AQ (r:=⟨23,2,true,AG [(3,3)]⟩) (ts:=Aw [(3,3)]) 3 2 2 1 (by decide) rfl rfl rfl rfl (show 0<2 by omega) rfl (DB _)) ?_
 simp only [go_sem]
 refine As (MJ 3 [2,2,2,2] rfl) ?_
 simp only [Wf,Vp,go_sem]
 refine As (AQ (r:=⟨24,1,true,Br IB⟩) (ri:=⟨27,1,false,[.s 3 4]⟩) (ts:=AK IB) 4 0 3 4 (by decide) rfl rfl rfl rfl (show 0<1 by omega) rfl (GZ _)) ?_
 simp only [go_sem]
 refine As (CI 4 rfl) ?_
 simp only [Vp,go_sem]
 (refine ai ?_;repeat refine kq fun K hK=>?_)
 refine Yt hnz ?_
 (refine a8 ?_;repeat refine kq fun K hK=>?_)
 refine Bw (AQ (r:=⟨3,1,true,A9 [2]⟩) (ts:=Ac [2]) 8 0 6 1 (by decide) rfl rfl rfl rfl (show 0<1 by omega) rfl (ES _)) ?_
 simp only [go_sem]
 refine Bw (AQ (r:=⟨3,1,true,A9 [3]⟩) (ts:=Ac [3]) 8 1 7 1 (by decide) rfl rfl rfl rfl (show 0<1 by omega) rfl (ES _)) ?_
 simp only [go_sem]
 refine Bw (CI 8 rfl) ?_
 simp only [Vp,go_sem]
 refine Bw (AQ (r:=⟨3,1,true,A9 []⟩) (ts:=Ac []) 10 0 9 0 (by decide) rfl rfl rfl rfl (show 0<1 by omega) rfl (ES _)) ?_
 simp only [go_sem]
 refine Bw (CI 10 rfl) ?_
 simp only [Vp,go_sem]
 refine Bw (AQ (r:=⟨23,2,true,AG [(2,1),(3,1)]⟩) (ts:=Aw [(2,1),(3,1)]) 11 0 5 2 (by decide) rfl rfl rfl rfl (show 0<2 by omega) rfl (DB _)) ?_
 simp only [go_sem]
 refine Bw (AQ (r:=⟨37,1,true,Au [[2],[3]]⟩) (ts:=Az [[2],[3]]) 11 1 8 2 (by decide) rfl rfl rfl rfl (show 0<1 by omega) rfl (D0 _)) ?_
 simp only [go_sem]
 refine Bw (AQ (r:=⟨37,1,true,Au [[]]⟩) (ts:=Az [[]]) 11 4 10 1 (by decide) rfl rfl rfl rfl (show 0<1 by omega) rfl (D0 _)) ?_
 simp only [go_sem]
 refine Bw (MJ 11 [2,1,1,2,1,1] rfl) ?_
 simp only [Wf,We,Vp,go_sem]
 (refine Bw (B6 (r:=⟨35,3,true,cN O5⟩) 11 (tN O5) rfl (Pu _) (show 0<(3:Nat) by omega)) ?_;simp only [ST.frz,A0.frz,AV.frz,C.frz,gBu,gBj,gBi,go_sem,show (tN O5).take 6=tN O5 from rfl,show (if 2*3<=(tN O5).length then C.t 3 (tN O5) else C.u)=C.t 3 (tN O5) from rfl])
 (refine AY rfl rfl (by simp only [go_sem] <;> rfl) ?_;intro K1 hK1;refine (Av (ids:=[]) (heq) rfl rfl (by simp only [go_sem]) (by kernel_rfl) (by (simp only [gAk,go_sem]) <;> rfl) ?_).stp)
 rintro _ _ ⟨rfl,rfl⟩
 (refine W1 ?_;clear hK1 K1)
 (refine ai ?_;(repeat clear hK K);repeat refine kq fun K hK=>?_)
 exact OQ Tryz.results13
theorem Ga (T:List Int) (hT:TpOk T) (a:Nat) (ha:a<=100000000):FC Tryz.prog 15 [.a (.c (.p 0 0))] [tape T a] (fun r o=>o=[tape T (a+1)]/\∃ v:Int,r=.i v/\1<=v/\v<=3):=by
 refine A7 Tryz.func15 rfl (by rw [Tryz.ntmps15];simp) ?_
 rw [Tryz.ntmps15]
 simp only [B4,tape]
 (refine ai ?_;(repeat clear hK K);repeat refine kq fun K hK=>?_)
 (refine Aj rfl ?_;intro K1 hK1;refine ct [0] (CY T a 3 hT (by omega) (by omega)) ?_ ?_)
 ·rintro _ _ ⟨rfl,v,rfl,_⟩;rfl
 rintro _ _ ⟨rfl,v,rfl,hv⟩
 (simp only [Ap,AC,tape,Ys,go_sem];refine hK1 _ ?_;clear hK1 K1)
 (refine ai ?_;(repeat clear hK K);repeat refine kq fun K hK=>?_)
 refine W8 Tryz.results15 ?_
 exact ⟨_,rfl,by omega,by omega⟩
theorem Oa (T:List Int) (hT:TpOk T) (a0:Nat) (ha:a0<=500000):
  FC Tryz.prog 21 [.a (.c (.p 0 0)),.i 6] [tape T a0] (fun r o=>∃ (a':Nat) (R:List (List Ar)),(o=[tape T a',Kb R]/\r=Ba R)/\a'<=a0+65/\1<=R.length/\R.length<=6/\OkSys 4 R.length R):=
 (PV T hT a0 6 ha (by omega) (by omega)).mono fun r o ⟨a',R,h0,h1,h2,h3,h4,h5⟩=>⟨a',R,⟨h0,h1⟩,by omega,h3,by omega,h5⟩
theorem Z7 {k m:Nat} {R:List (List Ar)} (h:OkSys k m R) (hm:m=R.length) (h1:1<=R.length) (hn:R.length<=20) (hk:k<=20):C7 R=true:=by
 have e1:UX=16384:=rfl
 have e2:UI=262144:=rfl
 subst hm
 have ht:Ci R<=R.length*20:=by
  have key:∀ X:List (List Ar),(∀ r∈X,r.length<=20)->Ci X<=X.length*20:=by
   intro X
   induction X with
   | nil=>intro _;simp [Ci]
   | cons x X ih=>
    intro hx
    have h3:=ih fun r hr=>hx r (gEf _ hr)
    have h4:=hx x gB3
    have h5:Ci (x :: X)=x.length+Ci X:=by simp [Ci]
    rw [h5,gAJ,Nat.succ_mul]
    omega
  exact key R fun r hr=>by have:=(h.2 r hr).2.1;omega
 have h2:R.length*20<=20*20:=gBz hn (gBu _)
 exact gEg ⟨⟨h1,by omega,by omega,fun r hr=>(h.2 r hr).2.2⟩,fun r hr=>(h.2 r hr).1⟩
theorem ZM {R R':List (List Ar)} (h:ZL R R'):OkSys 11 R'.length R':=⟨rfl,fun r hr=>⟨(h.2 r hr).2.2,(h.2 r hr).1,fun a ha=>by have:=(h.2 r hr).2.1 a ha;rw [h.1];exact this⟩⟩
theorem ZZ {m:Int} (h1:1<=m) (h2:m<=3):Fy m=true:=by
 unfold Fy
 simp only [Bool.or_eq_true,beq_iff_eq]
 omega
theorem YM {R:List (List Ar)} {m:Int} (hn:R.length<=7) (hv:C7 R=true) (hm:Fy m=true) {r:AV} (h:UL R m r):∃ out,XI out/\r=.tup [.c (.t 3 (tN out)),.c (.v (.int .i64 0))]/\∀ r2,UL R m r2->r2=r:=by
 rcases h with ⟨_,_,p,out,cl,hp,hva,hz,rfl⟩ | ⟨hno,_⟩
 rotate_left
 ·exact absurd ⟨hm,hv⟩ hno
 refine ⟨out,(hz.nb hva.nv).1,rfl,fun r2 h2=>?_⟩
 rcases h2 with ⟨_,_,p2,out2,cl2,hp2,_,hz2,rfl⟩ | ⟨hno,_⟩
 rotate_left
 ·exact absurd ⟨hm,hv⟩ hno
 have e:=hp2.uniq hp
 subst e
 rw [(hz2.uniq hva.nv hva.2.2.2.2.2 hz).1]
theorem Z8 {R:List (List Ar)} {m:Int} (h:¬ (Fy m=true/\C7 R=true)) {r:AV} (hr:UL R m r):r=.tup [.c (.v (.slice none 0 0)),.c (.v (.int .i64 1))]:=by
 rcases hr with ⟨h1,h2,_⟩ | ⟨_,h2⟩
 ·exact absurd ⟨h1,h2⟩ h
 exact h2
set_option maxHeartbeats 8000000 in
theorem Z9 (T:List Int) (hT:TpOk T) (R0:List (List Ar)) (m0:Int) (hn0:R0.length<=140737488355328) (hr0:∀ r∈R0,r.length<=140737488355328):FC Tryz.prog 7 [Ap T,Ba R0,.i m0] [] (fun r _=>r=.b true):=by
 refine A7 Tryz.func7 rfl (by rw [Tryz.ntmps7];simp) ?_
 rw [Tryz.ntmps7]
 simp only [B4,Ap,Ba]
 have dz:((0:Int) != 0)=false:=by decide
 (refine ai ?_;repeat refine kq fun K hK=>?_)
 (refine W0 (Tm T) ?_;intro K1 hK1)
 rintro _ _ ⟨rfl,rfl⟩
 (simp only [Ap,AC,tape,Ys,go_sem];refine hK1 _ ?_;clear hK1 K1)
 (refine ai ?_;(repeat clear hK K);repeat refine kq fun K hK=>?_)
 refine Ab (fun p:Nat × Nat=>{ tm:=[(2,.i m0),(4,.a (.c (.p 0 0))),(7,.a (.c (.p 1 0))),(8,.i p.1)],hp:=[.r ⟨27,1,false,[.t 1 (AK R0)]⟩,.r ⟨66,2,false,[.t 1 (Ac T),.v (.int .i64 p.2)]⟩],n:=105,pin:=0 }) (fun p=>p.1<=4/\p.2<=200*p.1) (fun p=>4 - p.1) (0,0) ?_ ?_ ?_
 ·exact ⟨by simp,by simp⟩
 ·exact W5
 rintro ⟨k,a⟩ ⟨hk,ha⟩ K hK
 simp only at hk ha ⊢
 (refine ai ?_;(repeat clear hK K);repeat refine kq fun K hK=>?_)
 (refine Ah ?_;intro X Y hX hY;simp only [go_sem])
 refine ⟨fun h=>hX ?_,fun h=>hY ?_⟩
 ·have hlt:k<4:=by simp at h;omega
  clear hX hY X Y h
  (refine ai ?_;(repeat clear hK K);repeat refine kq fun K hK=>?_)
  (refine Aj rfl ?_;intro K1 hK1;refine ct [1] (Oa T hT a (by omega)) ?_ ?_)
  ·rintro _ _ ⟨_,_,⟨rfl,rfl⟩,_⟩;rfl
  rintro _ _ ⟨a1,X,⟨rfl,rfl⟩,ha1,hX1,hXn,hXo⟩
  (simp only [Ap,AC,tape,Kb,Ba,Ys,go_sem];refine hK1 _ ?_;clear hK1 K1)
  have hXr:∀ r∈X,r.length<=10000:=fun r h=>by have:=(hXo.2 r h).2.1;omega
  have hXv:=Z7 hXo rfl hX1 (by omega) (by omega)
  (refine a8 ?_;(repeat clear hK K);repeat refine kq fun K hK=>?_)
  (refine Aj rfl ?_;intro K1 hK1;refine ct [1] (Ga T hT a1 (by omega)) ?_ ?_)
  ·rintro _ _ ⟨rfl,v,rfl,_⟩;rfl
  rintro _ _ ⟨rfl,u,rfl,hu1,hu2⟩
  (simp only [Ap,AC,tape,Ys,go_sem];refine hK1 _ ?_;clear hK1 K1)
  have hum:=ZZ hu1 hu2
  have hnz:=U5 X u (by omega) hXr
  have hrz:=Zu X u (by omega) hXr
  simp only [Ba] at hnz hrz
  (refine a8 ?_;repeat refine kq fun K hK=>?_)
  (refine W0 hnz ?_;intro K1 hK1)
  rintro _ _ ⟨rfl,hA⟩
  obtain ⟨out,hNs,rfl,hAu⟩:=YM (by omega) hXv hum hA
  (refine W1 ?_;clear hK1 K1)
  (refine a8 ?_;repeat refine kq fun K hK=>?_)
  (refine W0 hrz ?_;intro K1 hK1)
  rintro _ _ ⟨rfl,hB⟩
  have hBe:=hAu _ hB
  subst hBe
  (refine W1 ?_;clear hK1 K1)
  (refine a8 ?_;(repeat clear hK K);repeat refine kq fun K hK=>?_)
  (refine Aj rfl ?_;intro K1 hK1;refine ct [1] (YL T hT (a1+1) X (by omega) hX1 (by omega) (fun r h=>⟨by have:=(hXo.2 r h).2.1;omega,(hXo.2 r h).2.2,(hXo.2 r h).1⟩)) ?_ ?_)
  ·rintro _ _ ⟨_,_,⟨rfl,rfl⟩,_⟩;rfl
  rintro _ _ ⟨a2,V,⟨rfl,rfl⟩,ha2,hVs⟩
  (simp only [Ap,AC,tape,Kb,Ba,Ys,go_sem];refine hK1 _ ?_;clear hK1 K1)
  have hVo:=ZM hVs
  have hVl:=hVs.1
  have hVv:=Z7 hVo rfl (by omega) (by omega) (by omega)
  have hvz:=U5 V u (by omega) (fun r h=>by have:=(hVs.2 r h).1;omega)
  simp only [Ba] at hvz
  (refine ai ?_;repeat refine kq fun K hK=>?_)
  (refine W0 hvz ?_;intro K1 hK1)
  rintro _ _ ⟨rfl,hC⟩
  obtain ⟨out2,hNs2,rfl,_⟩:=YM (by omega) hVv hum hC
  (refine W1 ?_;clear hK1 K1)
  have hq1:=YK out out hNs hNs
  have hq2:=YK out out2 hNs hNs2
  have hq3:=ZK out out2 hNs hNs2
  rw [gEg (rfl:out=out)] at hq1
  simp only [aN] at hq1 hq2 hq3
  obtain ⟨b,hb⟩:∃ b:Bool,decide (out=out2)=b:=⟨_,rfl⟩
  rw [hb] at hq2 hq3
  have dbb:(b == b)=true:=beq_self_eq_true _
  (refine aj @dz ?_;repeat refine kq fun K hK=>?_)
  (refine AY rfl rfl (by simp only [go_sem] <;> rfl) ?_;intro K1 hK1;refine (Av (ids:=[]) (hq1) rfl rfl (by simp only [go_sem]) (by kernel_rfl) (by (simp only [gAk,go_sem]) <;> rfl) ?_).stp)
  rintro _ _ ⟨rfl,rfl⟩
  (refine W1 ?_;clear hK1 K1)
  (refine aj (an @gA9 @dz) ?_;repeat refine kq fun K hK=>?_)
  (refine AY rfl rfl (by simp only [go_sem] <;> rfl) ?_;intro K1 hK1;refine (Av (ids:=[]) (hq3) rfl rfl (by simp only [go_sem]) (by kernel_rfl) (by (simp only [gAk,go_sem]) <;> rfl) ?_).stp)
  rintro _ _ ⟨rfl,rfl⟩
  (refine W1 ?_;clear hK1 K1)
  (refine ai ?_;repeat refine kq fun K hK=>?_)
  (refine AY rfl rfl (by simp only [go_sem] <;> rfl) ?_;intro K1 hK1;refine (Av (ids:=[]) (hq2) rfl rfl (by simp only [go_sem]) (by kernel_rfl) (by (simp only [gAk,go_sem]) <;> rfl) ?_).stp)
  rintro _ _ ⟨rfl,rfl⟩
  (refine W1 ?_;clear hK1 K1)
  (refine ai ?_;repeat refine kq fun K hK=>?_)
  (refine AY rfl rfl (by simp only [go_sem] <;> rfl) ?_;intro K1 hK1;refine Sf (a:=b) (b:=b) Tryz.underlying4 rfl rfl (by simp only [go_sem]) (by simp only [go_sem]) ?_;simp only [go_sem,dbb,gA9];refine hK1 _ ?_;clear hK1 K1)
  (refine ai ?_;repeat refine kq fun K hK=>?_)
  refine W3 ?_
  (refine ai ?_;(repeat clear hK K);repeat refine kq fun K hK=>?_)
  refine W4 ?_
  refine hK _ (k+1,a2) ⟨by simp only;omega,by simp only;omega⟩ (by simp only;omega) ?_
  refine Le.trans (A8 [0,1] rfl rfl) ?_
  (try simp only [Yn,go_sem])
  exact W5
 clear hX hY X Y
 by_cases h6:R0.length > 6
 ·have b6:decide ((R0.length:Int) > 6)=true:=gEg (by omega)
  (refine VZ ?_;repeat clear hK K)
  (refine aj (an @A6 @b6) ?_;repeat refine kq fun K hK=>?_)
  refine W2 ?_
  (refine ai ?_;repeat refine kq fun K hK=>?_)
  (refine W0 O7 ?_;intro K1 hK1)
  rintro _ _ rfl
  (refine W1 ?_;clear hK1 K1)
  (refine ai ?_;(repeat clear hK K);repeat refine kq fun K hK=>?_)
  exact OQ Tryz.results7
 have b6:decide ((R0.length:Int) > 6)=false:=gBK (by omega)
 (refine VZ ?_;repeat clear hK K)
 (refine aj (an @A6 @b6) ?_;(repeat clear hK K);repeat refine kq fun K hK=>?_)
 (refine AY rfl rfl (by simp only [go_sem] <;> rfl) ?_;intro K1 hK1;refine (Av (ids:=[]) (SJ R0 hn0 hr0) rfl rfl (by simp only [go_sem]) (by kernel_rfl) (by (simp only [gAk,go_sem]) <;> rfl) ?_).stp)
 rintro _ _ ⟨rfl,rfl⟩
 (refine W1 ?_;clear hK1 K1)
 cases hb:Hw R0 with
 | true=>
  (refine ai ?_;repeat refine kq fun K hK=>?_)
  refine W2 ?_
  (refine ai ?_;repeat refine kq fun K hK=>?_)
  (refine W0 O7 ?_;intro K1 hK1)
  rintro _ _ rfl
  (refine W1 ?_;clear hK1 K1)
  (refine ai ?_;(repeat clear hK K);repeat refine kq fun K hK=>?_)
  exact OQ Tryz.results7
 | false=>
  have hb2:R0.length<=12/\Ci R0<=60:=by
   unfold Hw at hb
   simp only [Bool.or_eq_false_iff,gBL] at hb
   omega
  have hb3:∀ r∈R0,r.length<=10000:=fun r h=>by
   obtain ⟨j,hj,rfl⟩:=gAG h
   have h2:=P8 R0 j
   rw [gE2,gE1 hj,gBF] at h2
   omega
  have hnz:=U5 R0 m0 (by omega) hb3
  have hrz:=Zu R0 m0 (by omega) hb3
  simp only [Ba] at hnz hrz
  (refine ai ?_;repeat refine kq fun K hK=>?_)
  refine W3 ?_
  (refine ai ?_;(repeat clear hK K);repeat refine kq fun K hK=>?_)
  (refine W0 hnz ?_;intro K1 hK1)
  rintro _ _ ⟨rfl,hA⟩
  by_cases hmv:Fy m0=true/\C7 R0=true
  rotate_left
  ·have hAe:=Z8 hmv hA
   subst hAe
   have dy:((1:Int) == 1)=true:=by decide
   (refine W1 ?_;clear hK1 K1)
   (refine ai ?_;repeat refine kq fun K hK=>?_)
   (refine W0 hrz ?_;intro K1 hK1)
   rintro _ _ ⟨rfl,hB⟩
   have hBe:=Z8 hmv hB
   subst hBe
   (refine W1 ?_;clear hK1 K1)
   (refine aj @dy ?_;repeat refine kq fun K hK=>?_)
   (refine AY rfl rfl (by simp only [go_sem] <;> rfl) ?_;intro K1 hK1;refine (Av (ids:=[]) (Sg) rfl rfl (by simp only [go_sem]) (by kernel_rfl) (by (simp only [gAk,go_sem]) <;> rfl) ?_).stp)
   rintro _ _ ⟨rfl,rfl⟩
   (refine W1 ?_;clear hK1 K1)
   (refine ai ?_;repeat refine kq fun K hK=>?_)
   (refine AY rfl rfl (by simp only [go_sem] <;> rfl) ?_;intro K1 hK1;refine (Av (ids:=[]) (O7) rfl rfl (by simp only [go_sem]) (by kernel_rfl) (by (simp only [gAk,go_sem]) <;> rfl) ?_).stp)
   rintro _ _ rfl
   (refine W1 ?_;clear hK1 K1)
   (refine ai ?_;(repeat clear hK K);repeat refine kq fun K hK=>?_)
   exact OQ Tryz.results7
  obtain ⟨out,hNs,rfl,hAu⟩:=YM (by omega) hmv.2 hmv.1 hA
  have hq1:=YK out out hNs hNs
  rw [gEg (rfl:out=out)] at hq1
  simp only [aN] at hq1
  have dy:((0:Int) == 0)=true:=by decide
  (refine W1 ?_;clear hK1 K1)
  (refine ai ?_;repeat refine kq fun K hK=>?_)
  (refine W0 hrz ?_;intro K1 hK1)
  rintro _ _ ⟨rfl,hB⟩
  have hBe:=hAu _ hB
  subst hBe
  (refine W1 ?_;clear hK1 K1)
  (refine aj @dy ?_;repeat refine kq fun K hK=>?_)
  (refine AY rfl rfl (by simp only [go_sem] <;> rfl) ?_;intro K1 hK1;refine (Av (ids:=[]) (hq1) rfl rfl (by simp only [go_sem]) (by kernel_rfl) (by (simp only [gAk,go_sem]) <;> rfl) ?_).stp)
  rintro _ _ ⟨rfl,rfl⟩
  (refine W1 ?_;clear hK1 K1)
  (refine ai ?_;repeat refine kq fun K hK=>?_)
  (refine AY rfl rfl (by simp only [go_sem] <;> rfl) ?_;intro K1 hK1;refine (Av (ids:=[]) (O7) rfl rfl (by simp only [go_sem]) (by kernel_rfl) (by (simp only [gAk,go_sem]) <;> rfl) ?_).stp)
  rintro _ _ rfl
  (refine W1 ?_;clear hK1 K1)
  (refine ai ?_;(repeat clear hK K);repeat refine kq fun K hK=>?_)
  exact OQ Tryz.results7
open Go.RowKit Go.Deep Go.ChangeShapes
theorem JE {w:World} {a:Addr} {v:Value} (h:w.cell? a=some v):a.spot=none/\a.block<w.heap.size:=by
 constructor
 rotate_left
 ·rcases gBx a.block w.heap.size with hl | hl
  ·exact hl
  simp [World.cell?,Array.getElem?_eq_none hl] at h
 unfold World.cell? at h
 split at h
 rotate_left
 ·cases h
 split at h
 ·cases h
 rename_i hs;cases hsp:a.spot with
 | none=>rfl
 | some x=>simp [hsp] at hs
theorem Ls.of_cells {α:Type} {f:α->List Value} {k:Nat} (hfk:∀ x,(f x).length=k) (hk:0<k) {w:World} {b off n c:Nat} {xs:List α} (hn:xs.length=n) (hc:n<=c) (hb:0<n->b<w.heap.size)
  (h:∀ (i:Nat) (x:α),xs[i]?=some x->∀ (q:Nat) (u:Value),(f x)[q]?=some u->w.cell? ⟨b,off+(i*k+q),none⟩=some u):Ls f k [] w (some ⟨b,off,none⟩) n c xs:=by
 subst hn
 refine ⟨⟨GK f k hfk xs,hc,fun hp=>⟨b,off,rfl,by simp,hb hp,fun j u hu=>?_⟩⟩,rfl⟩
 have hjl:=(List.getElem?_eq_some_iff.1 hu).1
 rw [GK f k hfk] at hjl
 have hd:j / k<xs.length:=Nat.div_lt_of_lt_mul (by rw [Nat.mul_comm];exact hjl)
 have hm:j % k<k:=Nat.mod_lt _ hk
 have htd:j / k*k+j % k=j:=by rw [Nat.mul_comm];exact Nat.div_add_mod j k
 have hg:=GL f k hfk xs (j / k) (j % k) xs[j / k] (gE1 hd) hm
 rw [htd] at hg
 rw [hg] at hu
 have:=h (j / k) xs[j / k] (gE1 hd) (j % k) u hu
 rw [htd] at this
 exact this
theorem Ls.none0 {α:Type} {f:α->List Value} {k:Nat} {w:World} {A:Option Addr} {c:Nat}:Ls f k [] w A 0 c []:=⟨⟨by simp,gBE _,fun h=>absurd h (by omega)⟩,rfl⟩

theorem Ej {α:Type} {p:Nat->α->Prop}:∀ (n:Nat),(∀ q,q<n->∃ x,p q x)->∃ xs:List α,xs.length=n/\∀ q x,xs[q]?=some x->p q x
 | 0,_=>⟨[],rfl,by simp⟩
 | n+1,h=>by
  obtain ⟨xs,hl,hx⟩:=Ej n (fun q hq=>h q (by omega))
  obtain ⟨x,hp⟩:=h n (by omega)
  refine ⟨xs++[x],by simp [hl],fun q y hy=>?_⟩
  by_cases hq:q<xs.length
  ·rw [gEa hq] at hy;exact hx q y hy
  ·rw [gEb (by omega)] at hy
   have hq2:q - xs.length=0:=by
    rcases gBs (q - xs.length) with h | h
    ·exact h
    ·rw [gAB (by simp;omega)] at hy;cases hy
   rw [hq2] at hy
   simp at hy
   subst hy
   rw [show q=n by omega];exact hp

variable {H : Type} {enc : TypeId × Value -> H}
theorem LO {P:Program} {w:World} {t e i:TypeId} {f0 f1:Field} {fuel:Nat} {v:Value} {x:DataW H × List MemPlace} (ht:P.underlying t=some (.slice e)) (he:P.underlying e=some (.struct #[f0,f1])) (hc:P.cellsOf e=2)
  (hf0:f0.type=i/\f0.offset=0) (hf1:f1.type=i/\f1.offset=1) (hi:P.underlying i=some (.int .i64)) (hci:P.cellsOf i=1) (h:DataW.trod enc P w 0 (fun _=>true) true fuel t [v]=some x)
  (hby:P.bytesOf e=16) (hwt:∀ k∈x.1.weights P t,k<=reachBytes):
  ∃ A n c xs,v=.slice A n c/\SY [] w A n c xs/\n<=140737488355328:=by
 rcases open_slice ht h with ⟨hcs,_⟩ | ⟨a,len,cap,m,n,D,Pl,hcs,_,hl,hm,hmm,hxe,hx⟩
 ·simp at hcs;subst hcs
  exact ⟨none,0,0,[],rfl,Ls.none0,by omega⟩
 simp at hcs;subst hcs
 simp at hmm
 subst hmm
 have hlen47:len<=140737488355328:=by
  have:=hwt ((((List.range len).map D).length+((List.range (m - len)).map fun j=>D (len+j)).length)*16) (by rw [hxe];simp [DataW.weights,ht,hby])
  simp only [gAN,List.length_range] at this
  have hr:=reachBytes_lt
  omega
 have hx2:∀ q,q<len->∃ X Y:Int,w.cell? (a.add (q*2))=some (.int .i64 X)/\w.cell? ((a.add (q*2)).add 1)=some (.int .i64 Y):=by
  intro q hq
  obtain ⟨cs',h1,h2⟩:=hx q (by omega)
  rw [hc] at h1
  obtain ⟨_,hlen,hcell⟩:=World.cells?_some h1
  match cs',hlen with
  | [c0,c1],_=>
   obtain ⟨y0,y1,n',_,_,e0,e1⟩:=trod_struct2 he h2
   rw [hf0.1,hf0.2,hci] at e0
   rw [hf1.1,hf1.2,hci] at e1
   obtain ⟨X,hX,_,_⟩:=DataW.trod_int hi e0
   obtain ⟨Y,hY,_,_⟩:=DataW.trod_int hi e1
   simp at hX hY
   subst hX;subst hY
   have z0:=hcell 0 (by omega)
   have z1:=hcell 1 (by omega)
   simp [Addr.add] at z0
   exact ⟨X,Y,by simpa [Addr.add] using z0,by simpa using z1⟩
 by_cases h0:len=0
 ·subst h0
  exact ⟨some a,0,m,[],rfl,Ls.none0,by omega⟩
 obtain ⟨X0,_,hX0,_⟩:=hx2 0 (by omega)
 simp [Addr.add] at hX0
 obtain ⟨hsp,hlt⟩:=JE hX0
 obtain ⟨b,off,rfl⟩:∃ b off,a=⟨b,off,none⟩:=⟨a.block,a.off,by cases a;simp at hsp;subst hsp;rfl⟩
 have hadd:∀ q,(⟨b,off,none⟩:Addr).add q=⟨b,off+q,none⟩:=fun q=>by unfold Addr.add;split <;> simp_all
 have hadd2:∀ q,(⟨b,off+q,none⟩:Addr).add 1=⟨b,off+(q+1),none⟩:=fun q=>by unfold Addr.add;simp;omega
 obtain ⟨xs,hxl,hxs⟩:=Ej (α:=Int × Int) (p:=fun q x=>w.cell? ⟨b,off+q*2,none⟩=some (.int .i64 x.1)/\w.cell? ⟨b,off+(q*2+1),none⟩=some (.int .i64 x.2)) len (fun q hq=>by
  obtain ⟨X,Y,h1,h2⟩:=hx2 q hq
  rw [hadd] at h1 h2
  rw [hadd2] at h2
  exact ⟨(X,Y),h1,h2⟩)
 refine ⟨some ⟨b,off,none⟩,len,m,xs,rfl,?_,hlen47⟩
 refine Ls.of_cells (f:=cp) (k:=2) (fun _=>rfl) (by omega) hxl hl (fun _=>hlt) (fun q x hqx r u hu=>?_)
 obtain ⟨h1,h2⟩:=hxs q x hqx
 match r,hu with
 | 0,hu=>simp [cp] at hu;subst hu;simpa using h1
 | 1,hu=>simp [cp] at hu;subst hu;exact h2
 | r+2,hu=>simp [cp] at hu

theorem Gl {P:Program} {e:TypeId} {ds:List (DataW H)} {d:DataW H} (h:d∈ds) {k:Nat} (hk:k∈d.weights P e):k∈DataW.weightsAll P e ds:=by
 induction ds with
 | nil=>cases h
 | cons x xs ih=>
  simp only [DataW.weightsAll,gB0]
  rcases gB2.1 h with rfl | h
  ·exact .inl hk
  exact .inr (ih h)
theorem Oe {P:Program} {w:World} {T t e i:TypeId} {f0 f1:Field} {fuel:Nat} {v:Value} {x:DataW H × List MemPlace} (hT:P.underlying T=some (.slice t)) (hct:P.cellsOf t=1) (ht:P.underlying t=some (.slice e)) (he:P.underlying e=some (.struct #[f0,f1])) (hc:P.cellsOf e=2)
  (hf0:f0.type=i/\f0.offset=0) (hf1:f1.type=i/\f1.offset=1) (hi:P.underlying i=some (.int .i64)) (hci:P.cellsOf i=1) (h:DataW.trod enc P w 0 (fun _=>true) true fuel T [v]=some x)
  (hbT:P.bytesOf t=24) (hby:P.bytesOf e=16) (hwt:∀ k∈x.1.weights P T,k<=reachBytes):
  ∃ A n c rows,v=.slice A n c/\Ll cp 2 [] w A n c rows/\n<=140737488355328/\∀ r∈rows,r.length<=140737488355328:=by
 rcases open_slice1 hT hct h with ⟨hcs,_⟩ | ⟨a,len,cap,m,n,V,D,Pl,hcs,_,hl,hm,hmm,hxe,hx⟩
 ·simp at hcs;subst hcs
  exact ⟨none,0,0,[],rfl,Ll.nil _ _ _ _,by omega,by simp⟩
 simp at hcs;subst hcs
 simp at hmm
 subst hmm
 have hlen47:len<=140737488355328:=by
  have:=hwt ((((List.range len).map D).length+((List.range (m - len)).map fun j=>D (len+j)).length)*24) (by rw [hxe];simp [DataW.weights,hT,hbT])
  simp only [gAN,List.length_range] at this
  have hr:=reachBytes_lt
  omega
 obtain ⟨rows,hrl,hrs⟩:=Ej (α:=List (Int × Int)) (p:=fun q r=>w.cell? (a.add q)=some (V q)/\LsV cp 2 [] w (V q) r/\r.length<=140737488355328) len (fun q hq=>by
  obtain ⟨h1,h2⟩:=hx q (by omega)
  obtain ⟨A,n',c,xs,hv,hp,hn⟩:=LO ht he hc hf0 hf1 hi hci h2 hby (fun k hk=>hwt k (by
   rw [hxe]
   simp only [DataW.weights,hT,gB2,gB0]
   exact .inr (.inl (Gl (gB7.2 ⟨q,by simpa using hq,rfl⟩) hk))))
  exact ⟨xs,h1,⟨A,n',c,hv,hp⟩,by rw [hp.n_eq];exact hn⟩)
 refine ⟨some a,len,m,rows,rfl,?_,hlen47,fun r hr=>by obtain ⟨q,hq⟩:=List.getElem?_of_mem hr;exact (hrs q r hq).2.2⟩
 by_cases h0:len=0
 ·subst h0
  have:rows=[]:=gAL.1 hrl
  subst this
  exact ⟨[],Ls.none0,LRel.nil⟩
 obtain ⟨hX0,_⟩:=hx 0 (by omega)
 simp [Addr.add] at hX0
 obtain ⟨hsp,hlt⟩:=JE hX0
 obtain ⟨b,off,rfl⟩:∃ b off,a=⟨b,off,none⟩:=⟨a.block,a.off,by cases a;simp at hsp;subst hsp;rfl⟩
 have hadd:∀ q,(⟨b,off,none⟩:Addr).add q=⟨b,off+q,none⟩:=fun q=>by unfold Addr.add;split <;> simp_all
 refine ⟨(List.range len).map V,?_,by simp [hrl],fun q v r hv hr=>?_⟩
 rotate_left
 ·have hq:q<len:=by have:=(List.getElem?_eq_some_iff.1 hv).1;simpa using this
  have hy:v=V q:=by simp [hq] at hv;exact hv.symm
  subst hy
  exact (hrs q r hr).2.1
 refine Ls.of_cells (f:=cv) (k:=1) (fun _=>rfl) (by omega) (by simp) hl (fun _=>hlt) (fun q y hqy r u hu=>?_)
 have hq:q<len:=by have:=(List.getElem?_eq_some_iff.1 hqy).1;simpa using this
 have hy:y=V q:=by simp [hq] at hqy;exact hqy.symm
 subst hy
 have:=(hx q (by omega)).1
 rw [hadd] at this
 match r,hu with
 | 0,hu=>simp [cv] at hu;subst hu;simpa using this
 | r+1,hu=>simp [cv] at hu
end Go.Proofs.YtbnabodoabimnaaGreat
