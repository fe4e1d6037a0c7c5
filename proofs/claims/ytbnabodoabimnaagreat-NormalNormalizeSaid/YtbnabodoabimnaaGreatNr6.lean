/- Lemmas. -/
import Derived.Test.YtbnabodoabimnaaGreatZk
import Derived.Test.YtbnabodoabimnaaGreatNv5
import Derived.Test.YtbnabodoabimnaaGreatG43
import Derived.Test.YtbnabodoabimnaaGreatG45
import Derived.Test.YtbnabodoabimnaaGreatNp7
namespace Go.Proofs.YtbnabodoabimnaaGreat
set_option linter.unusedVariables false
set_option linter.unusedSimpArgs false
open Go.RowKit
set_option maxRecDepth 100000
attribute [local go_sem] lga C.pl C.one
set_option maxHeartbeats 2000000 in
theorem Z0 (N:List Xh) (hN:N.length<=1000000):FC Tryz.prog 48 [aN N] [] (fun r o=>o=[.r ⟨27,1,false,[.t 1 (AK (N.map (·.1)))]⟩]/\r=Ba (N.map (·.1))):=by
 refine A7 Tryz.func48 rfl (by rw [Tryz.ntmps48];simp) ?_
 rw [Tryz.ntmps48]
 simp only [B4,aN,Ba]
 (refine VW (an @gBj.{0} @gBi.{0}) ?_;(repeat clear hK K);unhygienic intros)
 refine As (I6 24 1) ?_
 simp only [gAm,gBc]
 refine As (FU 1 0 2 (by decide) rfl rfl rfl) ?_
 simp only [gBj,gBi]
 obtain ⟨R,hR⟩:∃ R,R=N.map (·.1):=⟨_,rfl⟩
 have hRl:R.length=N.length:=by rw [hR,gAN]
 rw [<- hR]
 refine Ab (fun k:Nat=>{ tm:=[(0,.a (.c (.t 3 (tN N)))),(2,.a (.c (.p 0 0))),(3,.a (.c (.p 1 0))),(4,.i k)],hp:=[.r ⟨27,1,false,[.v (.slice none 0 0)]⟩,.r ⟨27,1,false,[.s 2 k]⟩,.r ⟨24,1,true,Br (R.take k)⟩],n:=22,pin:=0 }) (fun k=>k<=N.length) (fun k=>N.length - k) 0 ?_ ?_ ?_
 ·omega
 ·have hc0:Br []=[]:=rfl
  simp only [gBq,hc0]
  exact W5
 rintro k hk K hK
 by_cases hlt:k<N.length
 rotate_left
 ·have d1:=Yq hlt
  have hkl:k=N.length:=by omega
  rw [gE7 (by omega)]
  have hRk:(Br R).length=k:=by rw [AH];omega
  (refine VW (an @Bz (an @Cw @d1)) ?_;unhygienic intros)
  refine W3 ?_
  (refine VZ ?_;repeat clear hK K)
  refine As (AQ (r:=⟨24,1,true,Br R⟩) (ri:=⟨27,1,false,[.s 2 k]⟩) (ts:=AK R) 1 0 2 k (by decide) rfl rfl rfl rfl (show 0<1 by omega) (by rw [hRk];exact gBB _) (GZ R)) ?_
  simp only [go_sem]
  refine As (CI 1 rfl) ?_
  simp only [Vp,gAV,gAX,go_sem]
  (refine SU ?_;(repeat clear hK K);unhygienic intros)
  refine W6 [0] Tryz.results48 ?_
  exact ⟨by rw [hR],by rw [hR]⟩
 have d1:=Yp hlt
 have c0:=Ut hlt
 have hRk:R[k]'(by omega)=N[k].1:=by simp only [hR,List.getElem_map]
 have htk:=gE8 (l:=R) (i:=k) (by omega)
 have hel:(R.take k).length=k:=by rw [gAS];omega
 rw [hRk] at htk
 generalize R.take k=Q at *
 generalize N[k]=x at *
 obtain ⟨A,V,dv⟩:=x
 simp only at c0 htk
 have crp:=Yy Q A hel
 have hQl:(Br Q).length=k:=by rw [AH,hel]
 (refine VW (an @Bz (an @Cw @d1)) ?_;unhygienic intros)
 refine W2 ?_
 (refine VV ?_;unhygienic intros)
 refine YH [] (.m 0 0 0 (.m 2 0 0 (.m 3 0 0 (.m 4 0 0 (.m 5 0 0 (.m 1 1 8 (.m 6 1 7 (.a 7 (.a 8 (.m 9 0 0 (.a 10 .e))))))))))) ?_
 (refine VY (an @c0 (an @Bz @Cw)) ?_;repeat clear hK K)
 (refine VL rfl rfl ?_;intro K1 hK1;refine Bl rfl ?_;simp only [go_sem];(first | refine hK1 _ ?_ | refine AE (hK1 _ ?_));clear hK1 K1)
 (refine VM rfl rfl rfl rfl ?_;intro K1 hK1;refine Bc rfl ?_;simp only [go_sem,hQl,crp];(first | refine hK1 _ ?_ | refine AE (hK1 _ ?_));clear hK1 K1)
 (refine VX ?_;repeat clear hK K)
 (refine VM rfl rfl rfl rfl ?_;intro K1 hK1;refine Bc rfl ?_;simp only [go_sem,ST.put,De,A0.cells];(first | refine hK1 _ ?_ | refine AE (hK1 _ ?_));clear hK1 K1)
 (refine VX ?_;repeat clear hK K)
 (refine VV ?_;(repeat clear hK K);unhygienic intros)
 refine W4 ?_
 refine hK _ (k+1) (by omega) (by omega) ?_
 rw [htk]
 refine Le.trans (A8 [0,1,4] rfl rfl) ?_
 (try simp only [Yn,go_sem])
 (try simp only [Cc])
 exact W5
def ao (Y:List (List Int)) (j:Nat):Prop:=Gb (Y.getD j [])=true/\(0<j->Bi (Y.getD (j - 1) []) (Y.getD j [])=true)/\∀ k,k<Y.length->j ≠ k->Dp (Y.getD j []) (Y.getD k [])=false
def ap (Y:List (List Int)):Prop:=∀ j,j<Y.length->ao Y j
noncomputable def aq (Y:List (List Int)):Bool:=@decide (ap Y) (Classical.propDecidable _)
theorem YA {Y:List (List Int)}:aq Y=true↔ap Y:=@decide_eq_true_iff _ (Classical.propDecidable _)
theorem YO {Y:List (List Int)} (h:¬ ap Y):aq Y=false:=Bool.eq_false_iff.2 fun q=>h (YA.1 q)
set_option maxHeartbeats 8000000 in
theorem Zf (Y:List (List Int)) (hY:Y.length<=1000000) (hb:∀ s∈Y,s.length<=1000000):FC Tryz.prog 88 [AC Y] [] (fun r o=>o=[]/\r=.b (aq Y)):=by
 refine A7 Tryz.func88 rfl (by rw [Tryz.ntmps88];simp) ?_
 rw [Tryz.ntmps88]
 simp only [B4,AC]
 (refine VV ?_;(repeat clear hK K);unhygienic intros)
 refine Ab (fun k:Nat=>{ tm:=[(0,.a (.c (.t 1 (Az Y)))),(3,.i k)],hp:=[],n:=54,pin:=0 }) (fun k=>k<=Y.length/\∀ j,j<k->ao Y j) (fun k=>Y.length - k) 0 ?_ ?_ ?_
 ·exact ⟨by omega,fun j h=>by omega⟩
 ·exact W5
 rintro k ⟨hk,hok⟩ K hK
 by_cases hlt:k<Y.length
 rotate_left
 ·have d1:=Yq hlt
  (refine VW (an @Ae @d1) ?_;unhygienic intros)
  refine W3 ?_
  (refine VZ ?_;repeat clear hK K)
  (refine VV ?_;(repeat clear hK K);unhygienic intros)
  refine W6 [] Tryz.results88 ?_
  rw [YA.2 fun j hj=>hok j (by omega)]
 have hKo:=hK
 have d1:=Yp hlt
 have hgd:Y.getD k []=Y[k]:=by rw [gE2,gE1 hlt];rfl
 have gk:=AR (gE1 hlt)
 have hbk:=hb _ (gE6 hlt)
 rw [<- hgd] at gk hbk
 have hri:=Mu (Y.getD k []) (by omega)
 simp only [Ap] at hri
 have d0:(k:Nat)=0/\decide ((k:Int) > 0)=false\/0<k/\decide ((k:Int) > 0)=true:=by
  rcases gBs k with h | h
  ·exact .inl ⟨h,gBK (by omega)⟩
  exact .inr ⟨h,gEg (by omega)⟩
 have hgo:Gb (Y.getD k [])=true->(0<k->Bi (Y.getD (k - 1) []) (Y.getD k [])=true)->(∀ i,i<Y.length->k ≠ i->Dp (Y.getD k []) (Y.getD i [])=false)->∀ j,j<k+1->ao Y j:=fun h1 h2 h3 j hj=>by
  by_cases e:j=k
  ·subst e;exact ⟨h1,h2,h3⟩
  exact hok j (by omega)
 cases ha:Gb (Y.getD k []) with
 | false=>
  rw [ha] at hri
  (refine VW (an @Ae @d1) ?_;unhygienic intros)
  refine W2 ?_
  (refine VV ?_;unhygienic intros)
  refine Yz [] [(0,0,0),(1,0,0),(2,0,0),(3,1,4),(4,2,0),(5,0,0),(6,0,0),(7,0,0),(8,0,0),(9,0,0),(10,0,0),(11,0,0),(12,0,0),(13,0,0),(15,0,0),(16,0,0),(17,0,0),(14,1,19),(18,1,19),(19,2,0),(20,0,0),(21,0,0),(22,2,0)] ?_
  (refine VU (an @gk @Ae) ?_;repeat clear hK K)
  (refine VH rfl rfl ?_;intro K1 hK1;refine Bv ?_;refine xv [] (hri) ?_ ?_)
  ·rintro _ _ ⟨rfl,rfl⟩ i o hi hl;simp at hl
  rintro _ _ ⟨rfl,rfl⟩
  (refine W1 ?_;clear hK1 K1)
  (refine VU @gA8 ?_;repeat clear hK K)
  (refine VI rfl rfl rfl ?_;intro K1 hK1;refine Bc rfl ?_;simp only [go_sem];(first | refine hK1 _ ?_ | refine AE (hK1 _ ?_));clear hK1 K1)
  (refine VT ?_;repeat clear hK K)
  (refine VV ?_;unhygienic intros)
  refine W2 ?_
  (refine VV ?_;(repeat clear hK K);unhygienic intros)
  refine W6 [] Tryz.results88 ?_
  rw [YO fun h=>by have:=(h k hlt).1;rw [ha] at this;cases this]
 | true=>
  rw [ha] at hri
  rcases d0 with ⟨hk0,dk⟩ | ⟨hk0,dk⟩
  ·(refine VW (an @Ae @d1) ?_;unhygienic intros)
   refine W2 ?_
   (refine VV ?_;unhygienic intros)
   refine Yz [] [(0,0,0),(1,0,0),(2,0,0),(3,1,4),(4,2,0),(5,0,0),(6,0,0),(7,0,0),(8,0,0),(9,0,0),(10,0,0),(11,0,0),(12,0,0),(13,0,0),(15,0,0),(16,0,0),(17,0,0),(14,1,19),(18,1,19),(19,2,0),(20,0,0),(21,0,0),(22,2,0)] ?_
   (refine VU (an @gk @Ae) ?_;repeat clear hK K)
   (refine VH rfl rfl ?_;intro K1 hK1;refine Bv ?_;refine xv [] (hri) ?_ ?_)
   ·rintro _ _ ⟨rfl,rfl⟩ i o hi hl;simp at hl
   rintro _ _ ⟨rfl,rfl⟩
   (refine W1 ?_;clear hK1 K1)
   (refine VU (an @gA9 @dk) ?_;repeat clear hK K)
   (refine VI rfl rfl rfl ?_;intro K1 hK1;refine Bc rfl ?_;simp only [go_sem];(first | refine hK1 _ ?_ | refine AE (hK1 _ ?_));clear hK1 K1)
   (refine VT ?_;repeat clear hK K)
   (refine VV ?_;unhygienic intros)
   refine W3 ?_
   (refine VV ?_;(repeat clear hK K);unhygienic intros)
   refine Ab (fun i:Nat=>{ tm:=[(0,.a (.c (.t 1 (Az Y)))),(3,.i k),(4,.i i)],hp:=[],n:=54,pin:=0 }) (fun i=>i<=Y.length/\∀ j,j<i->k ≠ j->Dp (Y.getD k []) (Y.getD j [])=false) (fun i=>Y.length - i) 0 ?_ ?_ ?_
   ·exact ⟨by omega,fun j h=>by omega⟩
   ·exact W5
   rintro i ⟨hi,hoi⟩ K hK
   by_cases hlt2:i<Y.length
   rotate_left
   ·have d2:=Yq hlt2
    (refine VW (an @Ae @d2) ?_;unhygienic intros)
    refine W3 ?_
    (refine VZ ?_;repeat clear hK K)
    (refine VV ?_;(repeat clear hK K);unhygienic intros)
    refine W4 ?_
    refine hKo _ (k+1) ⟨by omega,hgo ha (fun h=>absurd hk0 (by omega)) fun j hj hne=>hoi j (by omega) hne⟩ (by omega) ?_
    exact W5
   have d2:=Yp hlt2
   have hgd2:Y.getD i []=Y[i]:=by rw [gE2,gE1 hlt2];rfl
   have gi:=AR (gE1 hlt2)
   have hbi:=hb _ (gE6 hlt2)
   rw [<- hgd2] at gi hbi
   have hsu:=S8 (Y.getD k []) (Y.getD i []) (by omega) (by omega)
   simp only [Ap] at hsu
   have hgi:(k ≠ i->Dp (Y.getD k []) (Y.getD i [])=false)->∀ j,j<i+1->k ≠ j->Dp (Y.getD k []) (Y.getD j [])=false:=fun h j hj hne=>by
    by_cases e:j=i
    ·subst e;exact h hne
    exact hoi j (by omega) hne
   by_cases hki:k=i
   ·have d3:((k:Int) != (i:Int))=false:=by simp [hki]
    (refine VW (an @Ae @d2) ?_;unhygienic intros)
    refine W2 ?_
    (refine VV ?_;unhygienic intros)
    refine Yz [] [(0,0,0),(1,0,0),(2,0,0),(3,0,0),(4,0,0),(5,0,0),(6,0,0),(8,0,0),(9,0,0),(10,0,0),(7,1,12),(11,1,12),(12,2,0),(13,2,0)] ?_
    (refine VU @d3 ?_;repeat clear hK K)
    (refine VI rfl rfl rfl ?_;intro K1 hK1;refine Bc rfl ?_;simp only [go_sem];(first | refine hK1 _ ?_ | refine AE (hK1 _ ?_));clear hK1 K1)
    (refine VT ?_;repeat clear hK K)
    (refine VV ?_;unhygienic intros)
    refine W3 ?_
    (refine VV ?_;(repeat clear hK K);unhygienic intros)
    refine W4 ?_
    refine hK _ (i+1) ⟨by omega,hgi fun h=>absurd hki h⟩ (by omega) ?_
    exact W5
   have d3:((k:Int) != (i:Int))=true:=by simp;omega
   cases hs:Dp (Y.getD k []) (Y.getD i []) with
   | true=>
    rw [hs] at hsu
    (refine VW (an @Ae @d2) ?_;unhygienic intros)
    refine W2 ?_
    (refine VV ?_;unhygienic intros)
    refine Yz [] [(0,0,0),(1,0,0),(2,0,0),(3,0,0),(4,0,0),(5,0,0),(6,0,0),(8,0,0),(9,0,0),(10,0,0),(7,1,12),(11,1,12),(12,2,0),(13,2,0)] ?_
    (refine VU (an @d3 (an @gk (an @gi @Ae))) ?_;repeat clear hK K)
    (refine Mr rfl rfl rfl (by simp only [go_sem] <;> rfl) ?_;intro K1 hK1;refine Bv ?_;refine xv [] (hsu) ?_ ?_)
    ·rintro _ _ ⟨rfl,rfl⟩ i o hi hl;simp at hl
    rintro _ _ ⟨rfl,rfl⟩
    (refine W1 ?_;clear hK1 K1)
    (refine VT ?_;repeat clear hK K)
    (refine VI rfl rfl rfl ?_;intro K1 hK1;refine Bc rfl ?_;simp only [go_sem];(first | refine hK1 _ ?_ | refine AE (hK1 _ ?_));clear hK1 K1)
    (refine VT ?_;repeat clear hK K)
    (refine VV ?_;unhygienic intros)
    refine W2 ?_
    (refine VV ?_;(repeat clear hK K);unhygienic intros)
    refine W6 [] Tryz.results88 ?_
    rw [YO fun h=>by have:=(h k hlt).2.2 i hlt2 hki;rw [hs] at this;cases this]
   | false=>
    rw [hs] at hsu
    (refine VW (an @Ae @d2) ?_;unhygienic intros)
    refine W2 ?_
    (refine VV ?_;unhygienic intros)
    refine Yz [] [(0,0,0),(1,0,0),(2,0,0),(3,0,0),(4,0,0),(5,0,0),(6,0,0),(8,0,0),(9,0,0),(10,0,0),(7,1,12),(11,1,12),(12,2,0),(13,2,0)] ?_
    (refine VU (an @d3 (an @gk (an @gi @Ae))) ?_;repeat clear hK K)
    (refine Mr rfl rfl rfl (by simp only [go_sem] <;> rfl) ?_;intro K1 hK1;refine Bv ?_;refine xv [] (hsu) ?_ ?_)
    ·rintro _ _ ⟨rfl,rfl⟩ i o hi hl;simp at hl
    rintro _ _ ⟨rfl,rfl⟩
    (refine W1 ?_;clear hK1 K1)
    (refine VT ?_;repeat clear hK K)
    (refine VI rfl rfl rfl ?_;intro K1 hK1;refine Bc rfl ?_;simp only [go_sem];(first | refine hK1 _ ?_ | refine AE (hK1 _ ?_));clear hK1 K1)
    (refine VT ?_;repeat clear hK K)
    (refine VV ?_;unhygienic intros)
    refine W3 ?_
    (refine VV ?_;(repeat clear hK K);unhygienic intros)
    refine W4 ?_
    refine hK _ (i+1) ⟨by omega,hgi fun _=>hs⟩ (by omega) ?_
    exact W5
  have hlt0:k - 1<Y.length:=by omega
  have hgd0:Y.getD (k - 1) []=Y[k - 1]:=by rw [gE2,gE1 hlt0];rfl
  have g0:=AR (gE1 hlt0)
  have hb0:=hb _ (gE6 hlt0)
  rw [<- hgd0] at g0 hb0
  have hk1:(k:Int) - 1=((k - 1:Nat):Int):=by omega
  have hle:=S9 (Y.getD (k - 1) []) (Y.getD k []) (by omega) (by omega)
  simp only [Ap] at hle
  cases hl:Bi (Y.getD (k - 1) []) (Y.getD k []) with
  | false=>
   rw [hl] at hle
   (refine VW (an @Ae @d1) ?_;unhygienic intros)
   refine W2 ?_
   (refine VV ?_;unhygienic intros)
   refine Yz [] [(0,0,0),(1,0,0),(2,0,0),(3,1,4),(4,2,0),(5,0,0),(6,0,0),(7,0,0),(8,0,0),(9,0,0),(10,0,0),(11,0,0),(12,0,0),(13,0,0),(15,0,0),(16,0,0),(17,0,0),(14,1,19),(18,1,19),(19,2,0),(20,0,0),(21,0,0),(22,2,0)] ?_
   (refine VU (an @gk @Ae) ?_;repeat clear hK K)
   (refine VH rfl rfl ?_;intro K1 hK1;refine Bv ?_;refine xv [] (hri) ?_ ?_)
   ·rintro _ _ ⟨rfl,rfl⟩ i o hi hl;simp at hl
   rintro _ _ ⟨rfl,rfl⟩
   (refine W1 ?_;clear hK1 K1)
   (refine VU (an @gA9 (an @dk (an @hk1 (an @gk (an @g0 @Ae))))) ?_;repeat clear hK K)
   (refine Mr rfl rfl rfl (by simp only [go_sem] <;> rfl) ?_;intro K1 hK1;refine Bv ?_;refine xv [] (hle) ?_ ?_)
   ·rintro _ _ ⟨rfl,rfl⟩ i o hi hl;simp at hl
   rintro _ _ ⟨rfl,rfl⟩
   (refine W1 ?_;clear hK1 K1)
   (refine VU @gA8 ?_;repeat clear hK K)
   (refine VI rfl rfl rfl ?_;intro K1 hK1;refine Bc rfl ?_;simp only [go_sem];(first | refine hK1 _ ?_ | refine AE (hK1 _ ?_));clear hK1 K1)
   (refine VT ?_;repeat clear hK K)
   (refine VV ?_;unhygienic intros)
   refine W2 ?_
   (refine VV ?_;(repeat clear hK K);unhygienic intros)
   refine W6 [] Tryz.results88 ?_
   rw [YO fun h=>by have:=(h k hlt).2.1 hk0;rw [hl] at this;cases this]
  | true=>
   rw [hl] at hle
   (refine VW (an @Ae @d1) ?_;unhygienic intros)
   refine W2 ?_
   (refine VV ?_;unhygienic intros)
   refine Yz [] [(0,0,0),(1,0,0),(2,0,0),(3,1,4),(4,2,0),(5,0,0),(6,0,0),(7,0,0),(8,0,0),(9,0,0),(10,0,0),(11,0,0),(12,0,0),(13,0,0),(15,0,0),(16,0,0),(17,0,0),(14,1,19),(18,1,19),(19,2,0),(20,0,0),(21,0,0),(22,2,0)] ?_
   (refine VU (an @gk @Ae) ?_;repeat clear hK K)
   (refine VH rfl rfl ?_;intro K1 hK1;refine Bv ?_;refine xv [] (hri) ?_ ?_)
   ·rintro _ _ ⟨rfl,rfl⟩ i o hi hl;simp at hl
   rintro _ _ ⟨rfl,rfl⟩
   (refine W1 ?_;clear hK1 K1)
   (refine VU (an @gA9 (an @dk (an @hk1 (an @gk (an @g0 @Ae))))) ?_;repeat clear hK K)
   (refine Mr rfl rfl rfl (by simp only [go_sem] <;> rfl) ?_;intro K1 hK1;refine Bv ?_;refine xv [] (hle) ?_ ?_)
   ·rintro _ _ ⟨rfl,rfl⟩ i o hi hl;simp at hl
   rintro _ _ ⟨rfl,rfl⟩
   (refine W1 ?_;clear hK1 K1)
   (refine VU @gA9 ?_;repeat clear hK K)
   (refine VI rfl rfl rfl ?_;intro K1 hK1;refine Bc rfl ?_;simp only [go_sem];(first | refine hK1 _ ?_ | refine AE (hK1 _ ?_));clear hK1 K1)
   (refine VT ?_;repeat clear hK K)
   (refine VV ?_;unhygienic intros)
   refine W3 ?_
   (refine VV ?_;(repeat clear hK K);unhygienic intros)
   refine Ab (fun i:Nat=>{ tm:=[(0,.a (.c (.t 1 (Az Y)))),(3,.i k),(4,.i i)],hp:=[],n:=54,pin:=0 }) (fun i=>i<=Y.length/\∀ j,j<i->k ≠ j->Dp (Y.getD k []) (Y.getD j [])=false) (fun i=>Y.length - i) 0 ?_ ?_ ?_
   ·exact ⟨by omega,fun j h=>by omega⟩
   ·exact W5
   rintro i ⟨hi,hoi⟩ K hK
   by_cases hlt2:i<Y.length
   rotate_left
   ·have d2:=Yq hlt2
    (refine VW (an @Ae @d2) ?_;unhygienic intros)
    refine W3 ?_
    (refine VZ ?_;repeat clear hK K)
    (refine VV ?_;(repeat clear hK K);unhygienic intros)
    refine W4 ?_
    refine hKo _ (k+1) ⟨by omega,hgo ha (fun _=>hl) fun j hj hne=>hoi j (by omega) hne⟩ (by omega) ?_
    exact W5
   have d2:=Yp hlt2
   have hgd2:Y.getD i []=Y[i]:=by rw [gE2,gE1 hlt2];rfl
   have gi:=AR (gE1 hlt2)
   have hbi:=hb _ (gE6 hlt2)
   rw [<- hgd2] at gi hbi
   have hsu:=S8 (Y.getD k []) (Y.getD i []) (by omega) (by omega)
   simp only [Ap] at hsu
   have hgi:(k ≠ i->Dp (Y.getD k []) (Y.getD i [])=false)->∀ j,j<i+1->k ≠ j->Dp (Y.getD k []) (Y.getD j [])=false:=fun h j hj hne=>by
    by_cases e:j=i
    ·subst e;exact h hne
    exact hoi j (by omega) hne
   by_cases hki:k=i
   ·have d3:((k:Int) != (i:Int))=false:=by simp [hki]
    (refine VW (an @Ae @d2) ?_;unhygienic intros)
    refine W2 ?_
    (refine VV ?_;unhygienic intros)
    refine Yz [] [(0,0,0),(1,0,0),(2,0,0),(3,0,0),(4,0,0),(5,0,0),(6,0,0),(8,0,0),(9,0,0),(10,0,0),(7,1,12),(11,1,12),(12,2,0),(13,2,0)] ?_
    (refine VU @d3 ?_;repeat clear hK K)
    (refine VI rfl rfl rfl ?_;intro K1 hK1;refine Bc rfl ?_;simp only [go_sem];(first | refine hK1 _ ?_ | refine AE (hK1 _ ?_));clear hK1 K1)
    (refine VT ?_;repeat clear hK K)
    (refine VV ?_;unhygienic intros)
    refine W3 ?_
    (refine VV ?_;(repeat clear hK K);unhygienic intros)
    refine W4 ?_
    refine hK _ (i+1) ⟨by omega,hgi fun h=>absurd hki h⟩ (by omega) ?_
    exact W5
   have d3:((k:Int) != (i:Int))=true:=by simp;omega
   cases hs:Dp (Y.getD k []) (Y.getD i []) with
   | true=>
    rw [hs] at hsu
    (refine VW (an @Ae @d2) ?_;unhygienic intros)
    refine W2 ?_
    (refine VV ?_;unhygienic intros)
    refine Yz [] [(0,0,0),(1,0,0),(2,0,0),(3,0,0),(4,0,0),(5,0,0),(6,0,0),(8,0,0),(9,0,0),(10,0,0),(7,1,12),(11,1,12),(12,2,0),(13,2,0)] ?_
    (refine VU (an @d3 (an @gk (an @gi @Ae))) ?_;repeat clear hK K)
    (refine Mr rfl rfl rfl (by simp only [go_sem] <;> rfl) ?_;intro K1 hK1;refine Bv ?_;refine xv [] (hsu) ?_ ?_)
    ·rintro _ _ ⟨rfl,rfl⟩ i o hi hl;simp at hl
    rintro _ _ ⟨rfl,rfl⟩
    (refine W1 ?_;clear hK1 K1)
    (refine VT ?_;repeat clear hK K)
    (refine VI rfl rfl rfl ?_;intro K1 hK1;refine Bc rfl ?_;simp only [go_sem];(first | refine hK1 _ ?_ | refine AE (hK1 _ ?_));clear hK1 K1)
    (refine VT ?_;repeat clear hK K)
    (refine VV ?_;unhygienic intros)
    refine W2 ?_
    (refine VV ?_;(repeat clear hK K);unhygienic intros)
    refine W6 [] Tryz.results88 ?_
    rw [YO fun h=>by have:=(h k hlt).2.2 i hlt2 hki;rw [hs] at this;cases this]
   | false=>
    rw [hs] at hsu
    (refine VW (an @Ae @d2) ?_;unhygienic intros)
    refine W2 ?_
    (refine VV ?_;unhygienic intros)
    refine Yz [] [(0,0,0),(1,0,0),(2,0,0),(3,0,0),(4,0,0),(5,0,0),(6,0,0),(8,0,0),(9,0,0),(10,0,0),(7,1,12),(11,1,12),(12,2,0),(13,2,0)] ?_
    (refine VU (an @d3 (an @gk (an @gi @Ae))) ?_;repeat clear hK K)
    (refine Mr rfl rfl rfl (by simp only [go_sem] <;> rfl) ?_;intro K1 hK1;refine Bv ?_;refine xv [] (hsu) ?_ ?_)
    ·rintro _ _ ⟨rfl,rfl⟩ i o hi hl;simp at hl
    rintro _ _ ⟨rfl,rfl⟩
    (refine W1 ?_;clear hK1 K1)
    (refine VT ?_;repeat clear hK K)
    (refine VI rfl rfl rfl ?_;intro K1 hK1;refine Bc rfl ?_;simp only [go_sem];(first | refine hK1 _ ?_ | refine AE (hK1 _ ?_));clear hK1 K1)
    (refine VT ?_;repeat clear hK K)
    (refine VV ?_;unhygienic intros)
    refine W3 ?_
    (refine VV ?_;(repeat clear hK K);unhygienic intros)
    refine W4 ?_
    refine hK _ (i+1) ⟨by omega,hgi fun _=>hs⟩ (by omega) ?_
    exact W5
def au (s:List Int):Bool:=s.isEmpty || decide (1∈s)
def av (x:Xh):Bool:=!decide (1∈XK x.1) || x.2.1.any au
def aw (x:Xh):Prop:=Gb (XK x.1)=true/\(∀ e,(XK x.1)[0]?=some e->1<=e)/\x.2.1.length<=1024/\aq x.2.1=true/\∀ s∈x.2.1,Dp s (XK x.1)=true/\¬ (1∈s/\1<s.length)
noncomputable def ax (x:Xh):Bool:=@decide (aw x) (Classical.propDecidable _)
theorem YB {x:Xh}:ax x=true↔aw x:=@decide_eq_true_iff _ (Classical.propDecidable _)
def ay (x:Xh) (m:Int):Bool:=if m=1 then x.2.1.isEmpty && !x.2.2 else if m=2 then !x.2.2 && av x else if x.2.2=true then x.1.isEmpty && x.2.1.isEmpty else !x.2.1.isEmpty && av x
noncomputable def az (x:Xh) (m:Int):Bool:=ax x && ay x m
theorem ZN {x:Xh} {m:Int} (h:¬ aw x):az x m=false:=by
 unfold az
 rw [Bool.eq_false_iff.2 fun q=>h (YB.1 q)];rfl
set_option maxHeartbeats 8000000 in
theorem Zx (A:List Ar) (Y:List (List Int)) (dv:Bool) (m:Int) (hA:A.length<=1000000) (hY:Y.length<=1000000) (hb:∀ s∈Y,s.length<=1000000):FC Tryz.prog 49 [.a (.g [.t 2 (Aw A),.t 1 (Az Y),.v (.bool dv)]),.i m] [] (fun r o=>o=[]/\r=.b (az (A,Y,dv) m)):=by
 refine A7 Tryz.func49 rfl (by rw [Tryz.ntmps49];simp) ?_
 rw [Tryz.ntmps49]
 simp only [B4]
 have hev:=YV A hA
 have hsb:aw (A,Y,dv)↔Gb (XK A)=true/\(∀ e,(XK A)[0]?=some e->1<=e)/\Y.length<=1024/\aq Y=true/\∀ s∈Y,Dp s (XK A)=true/\¬ (1∈s/\1<s.length):=Iff.rfl
 have htx:av (A,Y,dv)=(!decide (1∈XK A) || Y.any au):=rfl
 have hmB:ay (A,Y,dv) m=if m=1 then Y.isEmpty && !dv else if m=2 then !dv && (!decide (1∈XK A) || Y.any au) else if dv=true then A.isEmpty && Y.isEmpty else !Y.isEmpty && (!decide (1∈XK A) || Y.any au):=rfl
 have eA:=Qs A
 have hno:=fun h=>ZN (x:=(A,Y,dv)) (m:=m) h
 have hyes:aw (A,Y,dv)->az (A,Y,dv) m=ay (A,Y,dv) m:=fun h=>by
  unfold az
  rw [YB.2 h];rfl
 obtain ⟨L,hL⟩:∃ L,XK A=L:=⟨_,rfl⟩
 have hLl:L.length<=1000000:=by rw [<- hL,BS];exact hA
 rw [hL] at hev hsb htx hmB
 generalize az (A,Y,dv) m=res at *
 generalize ay (A,Y,dv) m=sm at *
 have hri:=Mu L (by omega)
 have hh1:=Ha L 1 (by omega)
 have han:=Zf Y hY hb
 simp only [Ap,AC] at hev hri hh1 han
 (refine a8 ?_;(repeat clear hK K);repeat refine kq fun K hK=>?_)
 refine Yt hev ?_
 (refine ai ?_;(repeat clear hK K);repeat refine kq fun K hK=>?_)
 have hbad:¬ aw (A,Y,dv)->∀ st',Le st' { tm:=[(37,.b true)],hp:=[.r ⟨35,3,false,[.t 2 (Aw A),.t 1 (Az Y),.v (.bool dv)]⟩],n:=115,pin:=0 }->K st':=by
  intro hn st' hl
  have hr:=hno hn
  refine hK _ (As hl ?_)
  clear hK hl K st'
  (refine ai ?_;(repeat clear hK K);repeat refine kq fun K hK=>?_)
  refine W2 ?_
  (refine ai ?_;(repeat clear hK K);repeat refine kq fun K hK=>?_)
  refine W6 [] Tryz.results49 ?_
  rw [hr]
 have hfin:Gb L=true->(∀ e,L[0]?=some e->1<=e)->Y.length<=1024->aq Y=true->∀ st',Le st' { tm:=[(1,.i m),(2,.a (.c (.p 0 0))),(5,.a (.c (.t 1 (Ac L)))),(37,.b false)],hp:=[.r ⟨35,3,false,[.t 2 (Aw A),.t 1 (Az Y),.v (.bool dv)]⟩],n:=115,pin:=0 }->K st':=by
  intro q1 q2 q3 q4 st' hl
  refine hK _ (As hl ?_)
  clear hK hl hbad K st'
  (refine ai ?_;(repeat clear hK K);repeat refine kq fun K hK=>?_)
  refine W3 ?_
  (refine ai ?_;(repeat clear hK K);repeat refine kq fun K hK=>?_)
  refine Yt hh1 ?_
  (refine ai ?_;(repeat clear hK K);repeat refine kq fun K hK=>?_)
  refine Ab (fun k:Nat=>{ tm:=[(1,.i m),(2,.a (.c (.p 0 0))),(5,.a (.c (.t 1 (Ac L)))),(6,.b (!decide (1∈L) || (Y.take k).any au)),(7,.i k)],hp:=[.r ⟨35,3,false,[.t 2 (Aw A),.t 1 (Az Y),.v (.bool dv)]⟩],n:=115,pin:=0 }) (fun k=>k<=Y.length/\∀ s∈Y.take k,Dp s L=true/\¬ (1∈s/\1<s.length)) (fun k=>Y.length - k) 0 ?_ ?_ ?_
  ·exact ⟨by omega,by simp⟩
  ·have hz:(Y.take 0).any au=false:=rfl
   rw [hz,Bool.or_false]
   exact W5
  rintro k ⟨hk,hok⟩ K hK
  by_cases hlt:k<Y.length
  rotate_left
  ·have d1:=Yq hlt
   rw [gE7 (by omega)] at hok ⊢
   have hr:=hyes (hsb.2 ⟨q1,q2,q3,q4,hok⟩)
   rw [hmB] at hr
   generalize (!decide (1∈L) || Y.any au)=tk at *
   have eY:=Qs Y
   have gY:=TR Y
   by_cases h1:m=1
   ·have b1:(m == 1)=true:=by simpa using h1
    rw [if_pos h1] at hr
    cases hE:Y.isEmpty
    all_goals
     rw [hE] at eY hr
     (refine aj (an @Ae @d1) ?_;(repeat clear hK K);repeat refine kq fun K hK=>?_)
     refine W3 ?_
     (refine VZ ?_;repeat clear hK K)
     (refine aj @b1 ?_;(repeat clear hK K);repeat refine kq fun K hK=>?_)
     refine W2 ?_
     (refine Zk (an @Ae @eY) ?_;(repeat clear hK K);repeat refine kq fun K hK=>?_)
     refine W6 [] Tryz.results49 ?_
     rw [hr];try simp
   have b1:(m == 1)=false:=by simpa using h1
   rw [if_neg h1] at hr
   by_cases h2:m=2
   ·have b2:(m == 2)=true:=by simpa using h2
    rw [if_pos h2] at hr
    cases dv
    all_goals
     (refine aj (an @Ae @d1) ?_;(repeat clear hK K);repeat refine kq fun K hK=>?_)
     refine W3 ?_
     (refine VZ ?_;repeat clear hK K)
     (refine aj @b1 ?_;(repeat clear hK K);repeat refine kq fun K hK=>?_)
     refine W3 ?_
     (refine aj @b2 ?_;(repeat clear hK K);repeat refine kq fun K hK=>?_)
     refine W2 ?_
     (refine Zk (an @gA9 @gA8) ?_;(repeat clear hK K);repeat refine kq fun K hK=>?_)
     refine W6 [] Tryz.results49 ?_
     rw [hr];try simp
   have b2:(m == 2)=false:=by simpa using h2
   rw [if_neg h2] at hr
   cases dv with
   | true=>
    rw [if_pos rfl] at hr
    cases hE:Y.isEmpty
    all_goals
     rw [hE] at eY hr
     cases hE2:A.isEmpty
     all_goals
      rw [hE2] at eA hr
      (refine aj (an @Ae @d1) ?_;(repeat clear hK K);repeat refine kq fun K hK=>?_)
      refine W3 ?_
      (refine VZ ?_;repeat clear hK K)
      (refine aj @b1 ?_;(repeat clear hK K);repeat refine kq fun K hK=>?_)
      refine W3 ?_
      (refine aj @b2 ?_;(repeat clear hK K);repeat refine kq fun K hK=>?_)
      refine W3 ?_
      (refine a8 ?_;(repeat clear hK K);repeat refine kq fun K hK=>?_)
      refine W2 ?_
      (refine Zk (an @A3 (an @Aq (an @Ae (an @eA @eY)))) ?_;(repeat clear hK K);repeat refine kq fun K hK=>?_)
      refine W6 [] Tryz.results49 ?_
      rw [hr];try simp
   | false=>
    rw [if_neg (by decide)] at hr
    cases hE:Y.isEmpty
    all_goals
     rw [hE] at gY hr
     (refine aj (an @Ae @d1) ?_;(repeat clear hK K);repeat refine kq fun K hK=>?_)
     refine W3 ?_
     (refine VZ ?_;repeat clear hK K)
     (refine aj @b1 ?_;(repeat clear hK K);repeat refine kq fun K hK=>?_)
     refine W3 ?_
     (refine aj @b2 ?_;(repeat clear hK K);repeat refine kq fun K hK=>?_)
     refine W3 ?_
     (refine a8 ?_;(repeat clear hK K);repeat refine kq fun K hK=>?_)
     refine W3 ?_
     (refine Zk (an @Ae (an @gY (an @gA9 @gA8))) ?_;(repeat clear hK K);repeat refine kq fun K hK=>?_)
     refine W6 [] Tryz.results49 ?_
     rw [hr];try simp
  have d1:=Yp hlt
  have gY:=AR (gE1 hlt)
  have hmem:=gE6 hlt
  have hTk:Y.take (k+1)=Y.take k++[Y[k]]:=gE8 hlt
  have hbk:=hb _ hmem
  have hnx:(!decide (1∈L) || (Y.take (k+1)).any au)=((!decide (1∈L) || (Y.take k).any au) || au Y[k]):=by rw [hTk,List.any_append,<- Bool.or_assoc];simp
  generalize (!decide (1∈L) || (Y.take k).any au)=tk at *
  generalize Y[k]=s at *
  have hsu:=S8 s L (by omega) (by omega)
  have hhs:=Ha s 1 (by omega)
  simp only [Ap] at hsu hhs
  cases hs:Dp s L with
  | false=>
   rw [hs] at hsu
   (refine aj (an @Ae @d1) ?_;(repeat clear hK K);repeat refine kq fun K hK=>?_)
   refine W2 ?_
   (refine aj (an @gY @Ae) ?_;(repeat clear hK K);repeat refine kq fun K hK=>?_)
   refine Yt hsu ?_
   (refine aj @gA8 ?_;(repeat clear hK K);repeat refine kq fun K hK=>?_)
   refine W2 ?_
   (refine ai ?_;(repeat clear hK K);repeat refine kq fun K hK=>?_)
   refine W6 [] Tryz.results49 ?_
   rw [hno fun h=>by have:=((hsb.1 h).2.2.2.2 s hmem).1;rw [hs] at this;cases this]
  | true=>
   rw [hs] at hsu
   have hgq:¬ (1∈s/\1<s.length)->∀ s'∈Y.take (k+1),Dp s' L=true/\¬ (1∈s'/\1<s'.length):=fun h s' hs'=>by
    rw [hTk] at hs'
    rcases gB0.1 hs' with q | q
    ·exact hok s' q
    rw [gBb.1 q];exact ⟨hs,h⟩
   (refine aj (an @Ae @d1) ?_;(repeat clear hK K);repeat refine kq fun K hK=>?_)
   refine W2 ?_
   (refine aj (an @gY @Ae) ?_;(repeat clear hK K);repeat refine kq fun K hK=>?_)
   refine Yt hsu ?_
   (refine aj @gA9 ?_;(repeat clear hK K);repeat refine kq fun K hK=>?_)
   (refine AY rfl rfl (by simp only [go_sem] <;> rfl) ?_;intro K1 hK1;refine (Av (ids:=[]) (hhs) rfl rfl (by simp only [go_sem]) (by kernel_rfl) (by (simp only [gAk,go_sem]) <;> rfl) ?_).stp)
   rintro _ _ ⟨rfl,rfl⟩
   (refine W1 ?_;clear hK1 K1)
   by_cases h1s:(1:Int)∈s
   rotate_left
   ·have b1:decide ((1:Int)∈s)=false:=gBK h1s
    have hgo:=hgq fun h=>h1s h.1
    (refine aj @b1 ?_;(repeat clear hK K);repeat refine kq fun K hK=>?_)
    refine W3 ?_
    cases htk:tk with
    | true=>
     rw [htk] at hnx
     rw [Bool.true_or] at hnx
     (refine ai ?_;(repeat clear hK K);repeat refine kq fun K hK=>?_)
     refine W4 ?_
     refine hK _ (k+1) ⟨by omega,hgo⟩ (by omega) ?_
     rw [hnx]
     exact W5
    | false=>
     rw [htk] at hnx
     rw [gA6] at hnx
     cases hse:s.isEmpty with
     | true=>
      have hz:((s.length:Int) == 0)=true:=by rw [Qs,hse]
      have htt:au s=true:=by unfold au;rw [hse];rfl
      rw [htt] at hnx
      (refine aj (an @A2 @hz) ?_;(repeat clear hK K);repeat refine kq fun K hK=>?_)
      refine W4 ?_
      refine hK _ (k+1) ⟨by omega,hgo⟩ (by omega) ?_
      rw [hnx]
      exact W5
     | false=>
      have hz:((s.length:Int) == 0)=false:=by rw [Qs,hse]
      have htt:au s=decide (1∈s):=by unfold au;rw [hse];rfl
      rw [htt] at hnx
      (refine aj (an @A2 @hz) ?_;(repeat clear hK K);repeat refine kq fun K hK=>?_)
      (refine AY rfl rfl (by simp only [go_sem] <;> rfl) ?_;intro K1 hK1;refine (Av (ids:=[]) (hhs) rfl rfl (by simp only [go_sem]) (by kernel_rfl) (by (simp only [gAk,go_sem]) <;> rfl) ?_).stp)
      rintro _ _ ⟨rfl,rfl⟩
      (refine W1 ?_;clear hK1 K1)
      (refine ai ?_;(repeat clear hK K);repeat refine kq fun K hK=>?_)
      refine W4 ?_
      refine hK _ (k+1) ⟨by omega,hgo⟩ (by omega) ?_
      rw [hnx]
      exact W5
   have b1:decide ((1:Int)∈s)=true:=gEg h1s
   by_cases hl1:1<s.length
   ·have b2:decide ((s.length:Int) > 1)=true:=gEg (by omega)
    (refine aj (an @b1 (an @A2 @b2)) ?_;(repeat clear hK K);repeat refine kq fun K hK=>?_)
    refine W2 ?_
    (refine ai ?_;(repeat clear hK K);repeat refine kq fun K hK=>?_)
    refine W6 [] Tryz.results49 ?_
    rw [hno fun h=>((hsb.1 h).2.2.2.2 s hmem).2 ⟨h1s,hl1⟩]
   have b2:decide ((s.length:Int) > 1)=false:=gBK (by omega)
   have hgo:=hgq fun h=>hl1 h.2
   (refine aj (an @b1 (an @A2 @b2)) ?_;(repeat clear hK K);repeat refine kq fun K hK=>?_)
   refine W3 ?_
   cases htk:tk with
   | true=>
    rw [htk] at hnx
    rw [Bool.true_or] at hnx
    (refine ai ?_;(repeat clear hK K);repeat refine kq fun K hK=>?_)
    refine W4 ?_
    refine hK _ (k+1) ⟨by omega,hgo⟩ (by omega) ?_
    rw [hnx]
    exact W5
   | false=>
    rw [htk] at hnx
    rw [gA6] at hnx
    cases hse:s.isEmpty with
    | true=>
     have hz:((s.length:Int) == 0)=true:=by rw [Qs,hse]
     have htt:au s=true:=by unfold au;rw [hse];rfl
     rw [htt] at hnx
     (refine aj (an @A2 @hz) ?_;(repeat clear hK K);repeat refine kq fun K hK=>?_)
     refine W4 ?_
     refine hK _ (k+1) ⟨by omega,hgo⟩ (by omega) ?_
     rw [hnx]
     exact W5
    | false=>
     have hz:((s.length:Int) == 0)=false:=by rw [Qs,hse]
     have htt:au s=decide (1∈s):=by unfold au;rw [hse];rfl
     rw [htt] at hnx
     (refine aj (an @A2 @hz) ?_;(repeat clear hK K);repeat refine kq fun K hK=>?_)
     (refine AY rfl rfl (by simp only [go_sem] <;> rfl) ?_;intro K1 hK1;refine (Av (ids:=[]) (hhs) rfl rfl (by simp only [go_sem]) (by kernel_rfl) (by (simp only [gAk,go_sem]) <;> rfl) ?_).stp)
     rintro _ _ ⟨rfl,rfl⟩
     (refine W1 ?_;clear hK1 K1)
     (refine ai ?_;(repeat clear hK K);repeat refine kq fun K hK=>?_)
     refine W4 ?_
     refine hK _ (k+1) ⟨by omega,hgo⟩ (by omega) ?_
     rw [hnx]
     exact W5
 cases ha:Gb L with
 | false=>
  rw [ha] at hri
  clear hK hfin
  have hK:=hbad (fun h=>by have:=(hsb.1 h).1;rw [ha] at this;cases this)
  clear hbad
  refine Yt hri ?_
  (repeat (first | (refine AA ?_;intro K hK) | refine Ai ?_ | refine Ag ?_ | (refine AX rfl rfl ?_;intro K1 hK1;simp only [go_sem,gA8,Wb];(first | refine hK1 _ ?_ | refine AE (hK1 _ ?_));clear hK1 K1) | ((first | refine Aa ?_ | refine Am ?_);refine hK _ ?_;clear hK K)))
  exact W5
 | true=>
  rw [ha] at hri
  refine Yt hri ?_
  rcases gBs L.length with hz | hz
  ·have dp:decide ((L.length:Int) > 0)=false:=gBK (by omega)
   have hq2:∀ e,L[0]?=some e->1<=e:=fun e h=>by
    have:=(List.getElem?_eq_some_iff.1 h).1
    omega
   by_cases h10:Y.length > 1024
   ·have d10:decide ((Y.length:Int) > 1024)=true:=gEg (by omega)
    clear hK hfin
    have hK:=hbad (fun h=>by have:=(hsb.1 h).2.2.1;omega)
    clear hbad
    (repeat (first | (refine AA ?_;intro K hK) | refine Ai ?_ | refine Ag ?_ | (refine AX rfl rfl ?_;intro K1 hK1;simp only [go_sem,gA9,A2,dp,Ae,d10,ST.put,De,A0.cells,Wb];(first | refine hK1 _ ?_ | refine AE (hK1 _ ?_));clear hK1 K1) | ((first | refine Aa ?_ | refine Am ?_);refine hK _ ?_;clear hK K)))
    exact W5
   have d10:decide ((Y.length:Int) > 1024)=false:=gBK (by omega)
   cases hY1:aq Y with
   | false=>
    rw [hY1] at han
    clear hK hfin
    have hK:=hbad (fun h=>by have:=(hsb.1 h).2.2.2.1;rw [hY1] at this;cases this)
    clear hbad
    (refine Zk (an @gA9 (an @A2 (an @dp (an @Ae @d10)))) ?_;(repeat clear hK K);repeat refine kq fun K hK=>?_)
    (refine AY rfl rfl (by simp only [go_sem] <;> rfl) ?_;intro K1 hK1;refine (Av (ids:=[]) (han) rfl rfl (by simp only [go_sem]) (by kernel_rfl) (by (simp only [gAk,go_sem]) <;> rfl) ?_).stp)
    rintro _ _ ⟨rfl,rfl⟩
    (refine W1 ?_;clear hK1 K1)
    (repeat (first | (refine AA ?_;intro K hK) | refine Ai ?_ | refine Ag ?_ | (refine AX rfl rfl ?_;intro K1 hK1;simp only [go_sem,gA8,Wb];(first | refine hK1 _ ?_ | refine AE (hK1 _ ?_));clear hK1 K1) | ((first | refine Aa ?_ | refine Am ?_);refine hK _ ?_;clear hK K)))
    exact W5
   | true=>
    rw [hY1] at han
    clear hK hbad
    have hK:=hfin ha hq2 (by omega) hY1
    clear hfin
    (refine Zk (an @gA9 (an @A2 (an @dp (an @Ae @d10)))) ?_;(repeat clear hK K);repeat refine kq fun K hK=>?_)
    (refine AY rfl rfl (by simp only [go_sem] <;> rfl) ?_;intro K1 hK1;refine (Av (ids:=[]) (han) rfl rfl (by simp only [go_sem]) (by kernel_rfl) (by (simp only [gAk,go_sem]) <;> rfl) ?_).stp)
    rintro _ _ ⟨rfl,rfl⟩
    (refine W1 ?_;clear hK1 K1)
    (repeat (first | (refine AA ?_;intro K hK) | refine Ai ?_ | refine Ag ?_ | (refine AX rfl rfl ?_;intro K1 hK1;simp only [go_sem,gA9,Wb];(first | refine hK1 _ ?_ | refine AE (hK1 _ ?_));clear hK1 K1) | ((first | refine Aa ?_ | refine Am ?_);refine hK _ ?_;clear hK K)))
    exact W5
  have dp:decide ((L.length:Int) > 0)=true:=gEg (by omega)
  obtain ⟨e0,he0⟩:∃ e,L[0]?=some e:=⟨_,gE1 hz⟩
  have ge:=Al he0
  by_cases hlt:e0<1
  ·have dl:decide (e0<1)=true:=gEg hlt
   clear hK hfin
   have hK:=hbad (fun h=>by have:=(hsb.1 h).2.1 e0 he0;omega)
   clear hbad
   (repeat (first | (refine AA ?_;intro K hK) | refine Ai ?_ | refine Ag ?_ | (refine AX rfl rfl ?_;intro K1 hK1;simp only [go_sem,gA9,A2,dp,gAe,ge,dl,Wb];(first | refine hK1 _ ?_ | refine AE (hK1 _ ?_));clear hK1 K1) | ((first | refine Aa ?_ | refine Am ?_);refine hK _ ?_;clear hK K)))
   exact W5
  have dl:decide (e0<1)=false:=gBK hlt
  have hq2:∀ e,L[0]?=some e->1<=e:=fun e h=>by
   rw [he0] at h
   have:=Option.some.inj h
   omega
  by_cases h10:Y.length > 1024
  ·have d10:decide ((Y.length:Int) > 1024)=true:=gEg (by omega)
   clear hK hfin
   have hK:=hbad (fun h=>by have:=(hsb.1 h).2.2.1;omega)
   clear hbad
   (repeat (first | (refine AA ?_;intro K hK) | refine Ai ?_ | refine Ag ?_ | (refine AX rfl rfl ?_;intro K1 hK1;simp only [go_sem,gA9,A2,dp,gAe,ge,dl,Ae,d10,ST.put,De,A0.cells,Wb];(first | refine hK1 _ ?_ | refine AE (hK1 _ ?_));clear hK1 K1) | ((first | refine Aa ?_ | refine Am ?_);refine hK _ ?_;clear hK K)))
   exact W5
  have d10:decide ((Y.length:Int) > 1024)=false:=gBK (by omega)
  cases hY1:aq Y with
  | false=>
   rw [hY1] at han
   clear hK hfin
   have hK:=hbad (fun h=>by have:=(hsb.1 h).2.2.2.1;rw [hY1] at this;cases this)
   clear hbad
   (refine Zk (an @gA9 (an @A2 (an @dp (an @gAe (an @ge (an @dl (an @Ae @d10))))))) ?_;(repeat clear hK K);repeat refine kq fun K hK=>?_)
   (refine AY rfl rfl (by simp only [go_sem] <;> rfl) ?_;intro K1 hK1;refine (Av (ids:=[]) (han) rfl rfl (by simp only [go_sem]) (by kernel_rfl) (by (simp only [gAk,go_sem]) <;> rfl) ?_).stp)
   rintro _ _ ⟨rfl,rfl⟩
   (refine W1 ?_;clear hK1 K1)
   (repeat (first | (refine AA ?_;intro K hK) | refine Ai ?_ | refine Ag ?_ | (refine AX rfl rfl ?_;intro K1 hK1;simp only [go_sem,gA8,Wb];(first | refine hK1 _ ?_ | refine AE (hK1 _ ?_));clear hK1 K1) | ((first | refine Aa ?_ | refine Am ?_);refine hK _ ?_;clear hK K)))
   exact W5
  | true=>
   rw [hY1] at han
   clear hK hbad
   have hK:=hfin ha hq2 (by omega) hY1
   clear hfin
   (refine Zk (an @gA9 (an @A2 (an @dp (an @gAe (an @ge (an @dl (an @Ae @d10))))))) ?_;(repeat clear hK K);repeat refine kq fun K hK=>?_)
   (refine AY rfl rfl (by simp only [go_sem] <;> rfl) ?_;intro K1 hK1;refine (Av (ids:=[]) (han) rfl rfl (by simp only [go_sem]) (by kernel_rfl) (by (simp only [gAk,go_sem]) <;> rfl) ?_).stp)
   rintro _ _ ⟨rfl,rfl⟩
   (refine W1 ?_;clear hK1 K1)
   (repeat (first | (refine AA ?_;intro K hK) | refine Ai ?_ | refine Ag ?_ | (refine AX rfl rfl ?_;intro K1 hK1;simp only [go_sem,gA9,Wb];(first | refine hK1 _ ?_ | refine AE (hK1 _ ?_));clear hK1 K1) | ((first | refine Aa ?_ | refine Am ?_);refine hK _ ?_;clear hK K)))
   exact W5
theorem Yo {α:Type} {L:List α} {d:α} {i:Nat} (h:i<L.length):L.getD i d=L[i]:=by rw [gE2,gE1 h];rfl
theorem Z1 {Y:List (List Int)}:ap Y↔(∀ s∈Y,W9 s)/\D2 Y=Y:=by
 constructor
 rotate_left
 ·rintro ⟨hasc,hm⟩ j hj
  have hS:=D7 Y
  rw [hm] at hS
  have hp:=gBf.1 hS
  refine ⟨by rw [Yo hj];exact (Fl _).2 (hasc _ (gE6 hj)),fun h0=>?_,fun k hk hne=>?_⟩
  ·have hj1:j - 1<Y.length:=by omega
   rw [Yo hj,Yo hj1]
   exact hp (j - 1) j hj1 hj (by omega)
  rw [Yo hj,Yo hk]
  cases hs:Dp Y[j] Y[k] with
  | false=>rfl
  | true=>
   have hkm:Y[k]∈D2 Y:=by rw [hm];exact gE6 hk
   have:=(CA hasc (hasc _ (gE6 hk))).1 ((CU hasc _).1 hkm).2 Y[j] (gE6 hj) (DO.1 hs)
   rcases gBx j k with q | q
   ·have h2:=hp j k hj hk q
    rw [this,CK] at h2;cases h2
   have h2:=hp k j hk hj (by omega)
   rw [this,CK] at h2;cases h2
 intro h
 have hasc:∀ s∈Y,W9 s:=fun s hs=>by
  obtain ⟨j,hj,rfl⟩:=gAG hs
  have:=(h j hj).1
  rw [Yo hj] at this
  exact (Fl _).1 this
 have hord:∀ d i,i+d+1<Y.length->Bi (Y.getD i []) (Y.getD (i+d+1) [])=true:=by
  intro d
  induction d with
  | zero=>
   intro i hi
   have:=(h (i+1) hi).2.1 (by omega)
   rwa [Nat.add_sub_cancel] at this
  | succ d ih=>
   intro i hi
   have h1:=ih i (by omega)
   have h2:=(h (i+d+1+1) (by omega)).2.1 (by omega)
   rw [Nat.add_sub_cancel] at h2
   exact C6 h1 h2
 have hS:Er Y:=gBf.2 fun i j hi hj hij=>by
  have:=hord (j - i - 1) i (by omega)
  rw [show i+(j - i - 1)+1=j by omega,Yo hi,Yo hj] at this
  exact this
 refine ⟨hasc,FO (D7 Y) hS fun s=>?_⟩
 rw [CU hasc]
 refine ⟨fun q=>q.1,fun hs=>⟨hs,(CA hasc (hasc s hs)).2 fun o ho hsub=>?_⟩⟩
 obtain ⟨j,hj,rfl⟩:=gAG ho
 obtain ⟨k,hk,rfl⟩:=gAG hs
 by_cases e:j=k
 ·subst e;rfl
 have:=(h j hj).2.2 k hk e
 rw [Yo hj,Yo hk,DO.2 hsub] at this
 cases this
theorem ah {s:List Int} (h:¬ (1∈s/\1<s.length)):au s=XP s:=by
 unfold au XP
 cases s with
 | nil=>rfl
 | cons e t=>
  simp only [gAH,gA6]
  cases t with
  | nil=>simp [Bool.beq_eq_decide_eq,eq_comm]
  | cons e2 t=>
   have h1:¬ 1∈e :: e2 :: t:=fun q=>h ⟨q,by simp⟩
   rw [gBK h1]
   have:e ≠ 1:=fun q=>h1 (by rw [q];exact gB3)
   simp [this]
theorem Zm {A:List Ar} {Y:List (List Int)} (h:∀ s∈Y,¬ (1∈s/\1<s.length)) (dv:Bool):av (A,Y,dv)=!(decide (1∈XK A) && Y.all fun s=>!XP s):=by
 unfold av
 simp only
 rw [Bool.not_and,List.not_all_eq_any_not]
 congr 1
 have:∀ s∈Y,au s=(fun s=>!(!XP s)) s:=fun s hs=>by simp only [Bool.not_not];exact ah (h s hs)
 rw [gA4,gAi,gAi]
 exact exists_congr fun s=>and_congr_right fun hs=>by rw [this s hs]
theorem Zy {A:List Ar} {Y:List (List Int)} {dv:Bool} (hA:W9 (XK A)) (h0:∀ a∈A,0<a.1):XR A Y=true↔ax (A,Y,dv)=true/\av (A,Y,dv)=true:=by
 rw [Hq,YB]
 constructor
 rotate_left
 ·rintro ⟨⟨_,_,h1,h2,h3⟩,h4⟩
  have hn:∀ s∈Y,¬ (1∈s/\1<s.length):=fun s hs=>(h3 s hs).2
  obtain ⟨q1,q2⟩:=Z1.1 (YA.1 h2)
  rw [Zm hn] at h4
  exact ⟨h1,fun s hs=>⟨G7.2 ⟨q1 s hs,DO.1 (h3 s hs).1⟩,fun q=>hn s hs ⟨q.2,q.1⟩⟩,gA7 _ |>.mp h4,q2⟩
 rintro ⟨h1,h2,h3,h4⟩
 have hn:∀ s∈Y,¬ (1∈s/\1<s.length):=fun s hs q=>(h2 s hs).2 ⟨q.2,q.1⟩
 refine ⟨⟨(Fl _).2 hA,fun e he=>?_,h1,YA.2 (Z1.2 ⟨fun s hs=>(G7.1 (h2 s hs).1).1,h4⟩),fun s hs=>⟨DO.2 (G7.1 (h2 s hs).1).2,hn s hs⟩⟩,?_⟩
 rotate_left
 ·rw [Zm hn,h3];rfl
 obtain ⟨a,ha,rfl⟩:=gB7.1 (gE9 he)
 have:=h0 a ha;omega
theorem Zn {A:List Ar} {dv:Bool} (hA:W9 (XK A)) (h0:∀ a∈A,0<a.1):ax (A,[],dv)=true:=
 YB.2 ⟨(Fl _).2 hA,fun e he=>by
  obtain ⟨a,ha,rfl⟩:=gB7.1 (gE9 he)
  have:=h0 a ha;omega,by simp,YA.2 fun j hj=>by simp at hj,by simp⟩
theorem ZO {x:Xh} {m:Int} (hA:W9 (XK x.1)) (h0:∀ a∈x.1,0<a.1):az x m=true↔XT x m=true:=by
 obtain ⟨A,Y,dv⟩:=x
 have hac:=Zy (Y:=Y) (dv:=dv) hA h0
 unfold az
 rw [gA1]
 unfold ay XT
 simp only
 by_cases h1:m=1
 ·rw [if_pos h1,if_pos h1]
  refine ⟨fun h=>h.2,fun h=>⟨?_,h⟩⟩
  rw [gA1] at h
  rw [List.isEmpty_iff.1 h.1]
  exact Zn hA h0
 rw [if_neg h1,if_neg h1]
 by_cases h2:m=2
 ·rw [if_pos h2,if_pos h2,gA1,gA1,hac]
  exact ⟨fun h=>⟨h.2.1,h.1,h.2.2⟩,fun h=>⟨h.2.1,h.1,h.2.2⟩⟩
 rw [if_neg h2,if_neg h2]
 by_cases hd:dv=true
 rotate_left
 ·rw [if_neg hd,if_neg hd,gA1,gA1,hac]
  exact ⟨fun h=>⟨h.2.1,h.1,h.2.2⟩,fun h=>⟨h.2.1,h.1,h.2.2⟩⟩
 rw [if_pos hd,if_pos hd]
 refine ⟨fun h=>h.2,fun h=>⟨?_,h⟩⟩
 rw [gA1] at h
 rw [List.isEmpty_iff.1 h.2]
 exact Zn hA h0
theorem Zo (N:List Xh):Ci (N.map (·.1))=Fe N:=by
 unfold Ci Fe
 rw [gAW];rfl
def aA (N:List Xh) (m:Int):Prop:=Fy m=true/\1<=N.length/\N.length<=4096/\C7 (N.map (·.1))=true/\(AZ (N.map (·.1))).1=N.map (·.1)/\∀ x∈N,az x m=true
theorem ZP {N:List Xh} {m:Int}:aA N m↔vaP N m:=by
 have e1:UX=16384:=rfl
 have e2:UI=262144:=rfl
 constructor
 rotate_left
 ·intro h
  have hv:=h.nv
  obtain ⟨h1,h2,h3,h4,h5,h6⟩:=h
  rw [KZ] at h6
  refine ⟨h1,h2,h3,gEg ⟨⟨by rw [gAN];exact h2,by rw [gAN];omega,by rw [Zo];omega,fun r hr a ha=>?_⟩,fun r hr=>?_⟩,?_,fun x hx=>?_⟩
  rotate_left 3
  ·exact (ZO (hv.2.2 x hx).1 fun a ha=>((hv.2.2 x hx).2.2.1 a ha).1).2 (h5 x hx).2
  ·obtain ⟨x,hx,rfl⟩:=gB7.1 hr
   have:=(hv.2.2 x hx).2.2.1 a ha
   rw [gAN];omega
  ·obtain ⟨x,hx,rfl⟩:=gB7.1 hr
   exact EN (hv.2.2 x hx).1
  refine YF (by rw [gAN];exact h2) (fun r hr=>?_) h6
  obtain ⟨x,hx,rfl⟩:=gB7.1 hr
  refine ⟨(hv.2.2 x hx).1,fun a ha=>?_⟩
  have:=(hv.2.2 x hx).2.2.1 a ha
  rw [gAN];omega
 rintro ⟨h1,h2,h3,h4,h5,h6⟩
 obtain ⟨⟨q1,q2,q3,q4⟩,q5⟩:=gE4 h4
 rw [Zo] at q3
 rw [gAN] at q4
 have hx:∀ x∈N,W9 (XK x.1)/\∀ a∈x.1,0<a.1:=fun x hx=>by
  have hs:=h6 x hx
  unfold az at hs
  rw [gA1] at hs
  obtain ⟨b1,b2,_⟩:=YB.1 hs.1
  have hasc:=(Fl _).1 b1
  refine ⟨hasc,fun a ha=>?_⟩
  have hm:a.1∈XK x.1:=gB7.2 ⟨a,ha,rfl⟩
  cases he:XK x.1 with
  | nil=>rw [he] at hm;simp at hm
  | cons e r=>
   have hb:=b2 e (by rw [he];rfl)
   rw [he] at hm hasc
   rcases gB2.1 hm with q | q
   ·omega
   have:=(gBe.1 hasc).1 _ q;omega
 refine ⟨h1,h2,h3,by omega,fun x hxm=>⟨Jx (hx x hxm).1 fun a ha=>?_,(ZO (hx x hxm).1 (hx x hxm).2).1 (h6 x hxm)⟩,?_⟩
 ·have:=q4 x.1 (gB7.2 ⟨x,hxm,rfl⟩) a ha
  have:=(hx x hxm).2 a ha
  omega
 rw [KZ]
 refine (YR (by rw [gAN];exact h2) fun r hr=>?_).1 h5
 obtain ⟨x,hxm,rfl⟩:=gB7.1 hr
 refine ⟨(hx x hxm).1,fun a ha=>?_⟩
 have:=q4 x.1 hr a ha
 rw [gAN];omega
end Go.Proofs.YtbnabodoabimnaaGreat
