/- Lemmas. -/
import Derived.Test.YtbnabodoabimnaaGreatZk
import Derived.Test.YtbnabodoabimnaaGreatG03
import Derived.Test.YtbnabodoabimnaaGreatNp2
import Derived.Test.YtbnabodoabimnaaGreatG53
import Derived.Test.YtbnabodoabimnaaGreatMit
import Derived.Test.YtbnabodoabimnaaGreatG45
import Derived.Test.YtbnabodoabimnaaGreatG11
namespace Go.Proofs.YtbnabodoabimnaaGreat
set_option linter.unusedVariables false
set_option linter.unusedSimpArgs false
open Go.RowKit
set_option maxRecDepth 100000
attribute [local go_sem] lga C.pl C.one
def XP (s:List Int):Bool:=match s with | []=>true | e :: _=>e == 1
def XQ (A:List Ar) (Y:List (List Int)):Prop:=Y.length<=1024/\(∀ s∈Y,XO s (XK A)=true/\¬ (1<s.length/\1∈s))/\(decide (1∈XK A) && Y.all fun s=>!XP s)=false/\D2 Y=Y
noncomputable def XR (A:List Ar) (Y:List (List Int)):Bool:=@decide (XQ A Y) (Classical.propDecidable _)
theorem Hq {A:List Ar} {Y:List (List Int)}:XR A Y=true↔XQ A Y:=@decide_eq_true_iff _ (Classical.propDecidable _)
theorem It {A:List Ar} {Y:List (List Int)} (h:¬ XQ A Y):XR A Y=false:=Bool.eq_false_iff.2 fun q=>h (Hq.1 q)
theorem Iu (s:List Int):(((s.length:Int) == 0)=true/\XP s=true)\/(((s.length:Int) == 0)=false/\0<s.length/\∃ e,(Ac s)[0]?=some (.v (.int .i64 e))/\(e == 1)=XP s):=by
 cases s with
 | nil=>exact .inl ⟨rfl,rfl⟩
 | cons e r=>exact .inr ⟨by simp;omega,by simp,e,rfl,rfl⟩
set_option maxHeartbeats 8000000 in
theorem Sj (A:List Ar) (V:List (List Int)) (dv:Bool) (hA:A.length<=1000000) (hAs:W9 (XK A)) (hVl:V.length<=1000000) (hVs:∀ s∈V,s.length<=1000000):FC Tryz.prog 85 [.a (.g [.t 2 (Aw A),.t 1 (Az V),.v (.bool dv)])] [] (fun r o=>o=[]/\r=.b (XR A V)):=by
 refine A7 Tryz.func85 rfl (by rw [Tryz.ntmps85];simp) ?_
 rw [Tryz.ntmps85]
 simp only [B4]
 by_cases h10:V.length > 1024
 ·have d0:decide ((V.length:Int) > 1024)=true:=gEg (by omega)
  (refine VW (an @Ae @d0) ?_;unhygienic intros)
  refine W2 ?_
  (refine VV ?_;(repeat clear hK K);unhygienic intros)
  refine W6 [] Tryz.results85 ?_
  rw [It fun h=>by have:=h.1;omega]
 have d0:decide ((V.length:Int) > 1024)=false:=gBK (by omega)
 have hev:=Qr A hA
 have hct:=Et (XK A) 1 (by rw [BS];omega)
 obtain ⟨L,hL⟩:∃ L,XK A=L:=⟨_,rfl⟩
 have hLl:L.length<=1000000:=by rw [<- hL,BS];exact hA
 rw [hL] at hev hct hAs
 simp only [Ap] at hev hct
 (refine VW (an @Ae @d0) ?_;unhygienic intros)
 refine W3 ?_
 (refine VV ?_;unhygienic intros)
 refine Yt hev ?_
 (refine VV ?_;unhygienic intros)
 refine Yt hct ?_
 (refine VW @Ae ?_;(repeat clear hK K);unhygienic intros)
 refine Ab (fun k:Nat=>{ tm:=[(1,.a (.c (.p 0 0))),(3,.a (.c (.t 1 (Ac L)))),(4,.b (decide (1∈L) && (V.take k).all fun s=>!XP s)),(17,.a (.c (.t 1 (Az V)))),(18,.i V.length),(19,.i k)],hp:=[.r ⟨35,3,false,[.t 2 (Aw A),.t 1 (Az V),.v (.bool dv)]⟩],n:=56,pin:=0 }) (fun k=>k<=V.length/\∀ s∈V.take k,XO s L=true/\¬ (1<s.length/\1∈s)) (fun k=>V.length - k) 0 ?_ ?_ ?_
 ·exact ⟨by omega,by simp⟩
 ·simp only [gBq,gAh,gA3]
  exact W5
 rintro k ⟨hk,hok⟩ K hK
 by_cases hlt:k<V.length
 rotate_left
 ·have d1:=Yq hlt
  have hke:V.take k=V:=gE7 (by omega)
  rw [hke] at hok ⊢
  have hvb:∀ y∈V,y.length<=100000000:=fun y hy=>by have:=hVs y hy;omega
  have hmn:=KM V hVl hvb
  have hml:=Es V
  have heq:=TQ (D2 V) V (by omega) hVl (fun y hy=>hVs y (Ca hy)) hVs
  simp only [AC] at hmn
  cases htk:(decide (1∈L) && V.all fun s=>!XP s) with
  | true=>
   (refine VW @d1 ?_;unhygienic intros)
   refine W3 ?_
   (refine VZ ?_;repeat clear hK K)
   (refine VV ?_;unhygienic intros)
   refine Yz [] [(0,0,0),(1,0,0),(2,0,0),(3,0,0),(6,0,0),(4,1,5),(7,1,8),(5,2,0),(8,2,0),(9,0,0),(10,2,0)] ?_
   (refine VU @gA9 ?_;repeat clear hK K)
   (refine VI rfl rfl rfl ?_;intro K1 hK1;refine Bc rfl ?_;simp only [go_sem];(first | refine hK1 _ ?_ | refine AE (hK1 _ ?_));clear hK1 K1)
   (refine VT ?_;repeat clear hK K)
   (refine VV ?_;(repeat clear hK K);unhygienic intros)
   refine W6 [] Tryz.results85 ?_
   rw [It fun h=>by have:=h.2.2.1;rw [hL,htk] at this;cases this]
  | false=>
   (refine VW @d1 ?_;unhygienic intros)
   refine W3 ?_
   (refine VZ ?_;repeat clear hK K)
   (refine VV ?_;unhygienic intros)
   refine Yz [] [(0,0,0),(1,0,0),(2,0,0),(3,0,0),(6,0,0),(4,1,5),(7,1,8),(5,2,0),(8,2,0),(9,0,0),(10,2,0)] ?_
   (refine VU @gA8 ?_;repeat clear hK K)
   (refine Mr rfl rfl rfl (by simp only [go_sem] <;> rfl) ?_;intro K1 hK1;refine Bv ?_;refine xv [] (hmn) ?_ ?_)
   ·rintro _ _ ⟨rfl,rfl⟩ i o hi hl;simp at hl
   rintro _ _ ⟨rfl,rfl⟩
   (refine W1 ?_;clear hK1 K1)
   (refine VT ?_;repeat clear hK K)
   (refine Mr rfl rfl rfl (by simp only [go_sem] <;> rfl) ?_;intro K1 hK1;refine Bv ?_;refine xv [] (heq) ?_ ?_)
   ·rintro _ _ ⟨rfl,rfl⟩ i o hi hl;simp at hl
   rintro _ _ ⟨rfl,rfl⟩
   (refine W1 ?_;clear hK1 K1)
   (refine VT ?_;repeat clear hK K)
   (refine VI rfl rfl rfl ?_;intro K1 hK1;refine Bc rfl ?_;simp only [go_sem];(first | refine hK1 _ ?_ | refine AE (hK1 _ ?_));clear hK1 K1)
   (refine VT ?_;repeat clear hK K)
   (refine VV ?_;(repeat clear hK K);unhygienic intros)
   refine W6 [] Tryz.results85 ?_
   have hacb:XR A V=decide (D2 V=V):=by
    by_cases hm:D2 V=V
    rotate_left
    ·rw [gBK hm]
     exact It fun h=>hm h.2.2.2
    rw [gEg hm]
    exact Hq.2 ⟨by omega,fun s hs=>by rw [hL];exact hok s hs,by rw [hL];exact htk,hm⟩
   rw [hacb]
 have d1:=Yp hlt
 have hg:=gE1 hlt
 have gV:=AR hg
 have hTk:V.take (k+1)=V.take k++[V[k]]:=gE8 hlt
 have hmem:=gE6 hlt
 have hsl:=hVs _ hmem
 have hnx:(decide (1∈L) && (V.take (k+1)).all fun s=>!XP s)=((decide (1∈L) && (V.take k).all fun s=>!XP s) && !XP V[k]):=by rw [hTk,List.all_append,Bool.and_assoc];simp
 generalize (decide (1∈L) && (V.take k).all fun s=>!XP s)=tk at *
 generalize V[k]=s at *
 have hwi:=LK s L hsl hLl hAs
 have hco:=Et s 1 (by omega)
 simp only [Ap] at hwi hco
 (refine VW @d1 ?_;unhygienic intros)
 refine W2 ?_
 (refine VW (an @gV @Ae) ?_;(repeat clear hK K);unhygienic intros)
 refine Yt hwi ?_
 cases hw:XO s L with
 | false=>
  (refine VW @gA8 ?_;unhygienic intros)
  refine W2 ?_
  (refine VV ?_;(repeat clear hK K);unhygienic intros)
  refine W6 [] Tryz.results85 ?_
  rw [It fun h=>by have:=(h.2.1 s hmem).1;rw [hL,hw] at this;cases this]
 | true=>
  have hcase:(decide ((s.length:Int) > 1)=true/\1<s.length)\/(decide ((s.length:Int) > 1)=false/\¬ 1<s.length):=by
   by_cases h:1<s.length
   ·exact .inl ⟨gEg (by omega),h⟩
   exact .inr ⟨gBK (by omega),h⟩
  have hgo:∀ h:¬ (1<s.length/\1∈s),∀ s'∈V.take (k+1),XO s' L=true/\¬ (1<s'.length/\1∈s'):=fun h s' hs'=>by
   rw [hTk] at hs'
   rcases gB0.1 hs' with q | q
   ·exact hok s' q
   rw [gBb.1 q];exact ⟨hw,h⟩
  rcases hcase with ⟨b1,hl1⟩ | ⟨b1,hl1⟩
  rotate_left
  ·(refine VW (an @gA9 (an @A2 @b1)) ?_;(repeat clear hK K);unhygienic intros)
   refine W3 ?_
   have hgn:=hgo (fun q=>hl1 q.1)
   rcases Iu s with ⟨z0,hh⟩ | ⟨z0,hpos,e,ge,hh⟩
   ·rw [hh,gA9,Bool.and_false] at hnx
    (refine VW (an @A2 @z0) ?_;unhygienic intros)
    refine W2 ?_
    (refine VV ?_;(repeat clear hK K);unhygienic intros)
    refine W4 ?_
    refine hK _ (k+1) ⟨by omega,hgn⟩ (by omega) ?_
    rw [hnx]
    exact W5
   cases hv:XP s with
   | true=>
    rw [hv] at hh
    rw [hv,gA9,Bool.and_false] at hnx
    (refine VW (an @A2 (an @z0 (an @gAe (an @ge @hh)))) ?_;unhygienic intros)
    refine W2 ?_
    (refine VV ?_;(repeat clear hK K);unhygienic intros)
    refine W4 ?_
    refine hK _ (k+1) ⟨by omega,hgn⟩ (by omega) ?_
    rw [hnx]
    exact W5
   | false=>
    rw [hv] at hh
    rw [hv,gA8,gA3] at hnx
    (refine VW (an @A2 (an @z0 (an @gAe (an @ge @hh)))) ?_;unhygienic intros)
    refine W3 ?_
    (refine VV ?_;(repeat clear hK K);unhygienic intros)
    refine W4 ?_
    refine hK _ (k+1) ⟨by omega,hgn⟩ (by omega) ?_
    rw [hnx]
    exact W5
  (refine VW (an @gA9 (an @A2 @b1)) ?_;(repeat clear hK K);unhygienic intros)
  (refine AY rfl rfl (by simp only [go_sem] <;> rfl) ?_;intro K1 hK1;refine (Av (ids:=[]) (hco) rfl rfl (by simp only [go_sem]) (by kernel_rfl) (by (simp only [gAk,go_sem]) <;> rfl) ?_).stp)
  rintro _ _ ⟨rfl,rfl⟩
  (refine W1 ?_;clear hK1 K1)
  by_cases h1s:(1:Int)∈s
  ·have b2:decide ((1:Int)∈s)=true:=gEg h1s
   (refine VW @b2 ?_;unhygienic intros)
   refine W2 ?_
   (refine VV ?_;(repeat clear hK K);unhygienic intros)
   refine W6 [] Tryz.results85 ?_
   rw [It fun h=>(h.2.1 s hmem).2 ⟨hl1,h1s⟩]
  have b2:decide ((1:Int)∈s)=false:=gBK h1s
  (refine VW @b2 ?_;(repeat clear hK K);unhygienic intros)
  refine W3 ?_
  have hgn:=hgo (fun q=>h1s q.2)
  rcases Iu s with ⟨z0,hh⟩ | ⟨z0,hpos,e,ge,hh⟩
  ·rw [hh,gA9,Bool.and_false] at hnx
   (refine VW (an @A2 @z0) ?_;unhygienic intros)
   refine W2 ?_
   (refine VV ?_;(repeat clear hK K);unhygienic intros)
   refine W4 ?_
   refine hK _ (k+1) ⟨by omega,hgn⟩ (by omega) ?_
   rw [hnx]
   exact W5
  cases hv:XP s with
  | true=>
   rw [hv] at hh
   rw [hv,gA9,Bool.and_false] at hnx
   (refine VW (an @A2 (an @z0 (an @gAe (an @ge @hh)))) ?_;unhygienic intros)
   refine W2 ?_
   (refine VV ?_;(repeat clear hK K);unhygienic intros)
   refine W4 ?_
   refine hK _ (k+1) ⟨by omega,hgn⟩ (by omega) ?_
   rw [hnx]
   exact W5
  | false=>
   rw [hv] at hh
   rw [hv,gA8,gA3] at hnx
   (refine VW (an @A2 (an @z0 (an @gAe (an @ge @hh)))) ?_;unhygienic intros)
   refine W3 ?_
   (refine VV ?_;(repeat clear hK K);unhygienic intros)
   refine W4 ?_
   refine hK _ (k+1) ⟨by omega,hgn⟩ (by omega) ?_
   rw [hnx]
   exact W5
noncomputable def XT (x:Xh) (m:Int):Bool:=if m=1 then x.2.1.isEmpty && !x.2.2 else if m=2 then !x.2.2 && XR x.1 x.2.1 else if x.2.2=true then x.1.isEmpty && x.2.1.isEmpty else !x.2.1.isEmpty && XR x.1 x.2.1
theorem Qs {α:Type} (l:List α):((l.length:Int) == 0)=l.isEmpty:=by cases l <;> simp;omega
theorem TR {α:Type} (l:List α):decide ((l.length:Int) > 0)=!l.isEmpty:=by cases l <;> simp
set_option maxHeartbeats 8000000 in
theorem Sk (A:List Ar) (V:List (List Int)) (dv:Bool) (m:Int) (hA:A.length<=1000000) (hAs:W9 (XK A)) (hVl:V.length<=1000000) (hVs:∀ s∈V,s.length<=1000000):FC Tryz.prog 44 [.a (.g [.t 2 (Aw A),.t 1 (Az V),.v (.bool dv)]),.i m] [] (fun r o=>o=[]/\r=.b (XT (A,V,dv) m)):=by
 refine A7 Tryz.func44 rfl (by rw [Tryz.ntmps44];simp) ?_
 rw [Tryz.ntmps44]
 simp only [B4]
 have hac:=Sj A V dv hA hAs hVl hVs
 have eV:=Qs V
 have gV:=TR V
 have eA:=Qs A
 have hvs:XT (A,V,dv) m=if m=1 then V.isEmpty && !dv else if m=2 then !dv && XR A V else if dv=true then A.isEmpty && V.isEmpty else !V.isEmpty && XR A V:=rfl
 generalize XR A V=ac at *
 by_cases h1:m=1
 ·have b1:(m == 1)=true:=by simpa using h1
  rw [if_pos h1] at hvs
  cases hE:V.isEmpty
  all_goals
   rw [hE] at eV hvs
   (refine VW @b1 ?_;unhygienic intros)
   refine W2 ?_
   (refine VW (an @Ae @eV) ?_;(repeat clear hK K);unhygienic intros)
   refine W6 [] Tryz.results44 ?_
   rw [hvs];simp
 have b1:(m == 1)=false:=by simpa using h1
 rw [if_neg h1] at hvs
 by_cases h2:m=2
 ·have b2:(m == 2)=true:=by simpa using h2
  rw [if_pos h2] at hvs
  cases dv with
  | true=>
   (refine VW @b1 ?_;unhygienic intros)
   refine W3 ?_
   (refine VW @b2 ?_;unhygienic intros)
   refine W2 ?_
   (refine VW @gA9 ?_;(repeat clear hK K);unhygienic intros)
   refine W6 [] Tryz.results44 ?_
   rw [hvs];simp
  | false=>
   (refine VW @b1 ?_;unhygienic intros)
   refine W3 ?_
   (refine VW @b2 ?_;unhygienic intros)
   refine W2 ?_
   (refine VW @gA8 ?_;unhygienic intros)
   (refine AY rfl rfl (by simp only [go_sem] <;> rfl) ?_;intro K1 hK1;refine (Av (ids:=[]) (hac) rfl rfl (by simp only [go_sem]) (by kernel_rfl) (by (simp only [gAk,go_sem]) <;> rfl) ?_).stp)
   rintro _ _ ⟨rfl,rfl⟩
   (refine W1 ?_;clear hK1 K1)
   (refine VV ?_;(repeat clear hK K);unhygienic intros)
   refine W6 [] Tryz.results44 ?_
   rw [hvs];simp
 have b2:(m == 2)=false:=by simpa using h2
 rw [if_neg h2] at hvs
 cases dv with
 | true=>
  rw [if_pos rfl] at hvs
  cases hE:V.isEmpty
  all_goals
   rw [hE] at eV hvs
   cases hE2:A.isEmpty
   all_goals
    rw [hE2] at eA hvs
    (refine VW @b1 ?_;unhygienic intros)
    refine W3 ?_
    (refine VW @b2 ?_;unhygienic intros)
    refine W3 ?_
    (refine VV ?_;unhygienic intros)
    refine W2 ?_
    (refine VW (an @A3 (an @Aq (an @Ae (an @eA @eV)))) ?_;(repeat clear hK K);unhygienic intros)
    refine W6 [] Tryz.results44 ?_
    rw [hvs];simp
 | false=>
  rw [if_neg (by decide)] at hvs
  cases hE:V.isEmpty with
  | true=>
   rw [hE] at gV hvs
   (refine VW @b1 ?_;unhygienic intros)
   refine W3 ?_
   (refine VW @b2 ?_;unhygienic intros)
   refine W3 ?_
   (refine VV ?_;unhygienic intros)
   refine W3 ?_
   (refine VW (an @Ae (an @gV @gA9)) ?_;(repeat clear hK K);unhygienic intros)
   refine W6 [] Tryz.results44 ?_
   rw [hvs];simp
  | false=>
   rw [hE] at gV hvs
   (refine VW @b1 ?_;unhygienic intros)
   refine W3 ?_
   (refine VW @b2 ?_;unhygienic intros)
   refine W3 ?_
   (refine VV ?_;unhygienic intros)
   refine W3 ?_
   (refine VW (an @Ae (an @gV @gA8)) ?_;unhygienic intros)
   (refine AY rfl rfl (by simp only [go_sem] <;> rfl) ?_;intro K1 hK1;refine (Av (ids:=[]) (hac) rfl rfl (by simp only [go_sem]) (by kernel_rfl) (by (simp only [gAk,go_sem]) <;> rfl) ?_).stp)
   rintro _ _ ⟨rfl,rfl⟩
   (refine W1 ?_;clear hK1 K1)
   (refine VV ?_;(repeat clear hK K);unhygienic intros)
   refine W6 [] Tryz.results44 ?_
   rw [hvs];simp
theorem KT {n:Int}:∀ {A:List Ar} {l:Int},LW n l A=true->W9 (XK A)/\∀ a∈A,l<a.1/\a.1<=1025/\0<=a.2/\a.2<n
 | [],_,_=>⟨List.Pairwise.nil,by simp⟩
 | a :: A,l,h=>by
  rw [LW] at h
  split at h
  ·cases h
  ·rename_i hn
   obtain ⟨h1,h2⟩:=KT h
   refine ⟨gBe.2 ⟨fun e he=>?_,h1⟩,fun b hb=>?_⟩
   ·obtain ⟨b,hb,rfl⟩:=gB7.1 he
    exact (h2 b hb).1
   ·rcases gB2.1 hb with rfl | hb
    ·omega
    ·have:=h2 b hb;omega
def Fe (L:List Xh):Nat:=(L.map fun x=>x.1.length).sum
theorem Sm (L:List Xh) (k:Nat):Fe (L.take k)<=Fe L:=by
 have h:=List.take_append_drop k L
 have:Fe L=Fe (L.take k)+Fe (L.drop k):=by
  conv=>lhs;rw [<- h]
  unfold Fe
  rw [gAT,List.sum_append]
 omega
theorem NR {L:List Xh} {k:Nat} (h:k<L.length):Fe (L.take (k+1))=Fe (L.take k)+L[k].1.length:=by
 rw [gE8 h]
 unfold Fe
 rw [gAT,List.sum_append];simp
def vaP (N:List Xh) (m:Int):Prop:=Fy m=true/\1<=N.length/\N.length<=4096/\Fe N<=262144/\(∀ x∈N,LW N.length 0 x.1=true/\XT x m=true)/\XM 1 0 N=true
noncomputable def XU (N:List Xh) (m:Int):Bool:=@decide (vaP N m) (Classical.propDecidable _)
theorem Hr {N:List Xh} {m:Int}:XU N m=true↔vaP N m:=@decide_eq_true_iff _ (Classical.propDecidable _)
theorem G8 {N:List Xh} {m:Int} (h:¬ vaP N m):XU N m=false:=Bool.eq_false_iff.2 fun q=>h (Hr.1 q)
set_option maxHeartbeats 8000000 in
theorem Sn (N:List Xh) (m:Int) (hN:XI N):FC Tryz.prog 18 [aN N,.i m] [] (fun r o=>o=[]/\r=.b (XU N m)):=by
 refine A7 Tryz.func18 rfl (by rw [Tryz.ntmps18];simp) ?_
 rw [Tryz.ntmps18]
 simp only [B4,aN]
 have hNl:=hN.1
 (refine VV ?_;(repeat clear hK K);unhygienic intros)
 refine Yt (Iq m) ?_
 cases hm:Fy m with
 | false=>
  (refine VW @gA8 ?_;unhygienic intros)
  refine W2 ?_
  (refine VV ?_;(repeat clear hK K);unhygienic intros)
  refine W6 [] Tryz.results18 ?_
  rw [G8 fun h=>by have:=h.1;rw [hm] at this;cases this]
 | true=>
  by_cases hl1:N.length<1
  ·have b1:decide ((N.length:Int)<1)=true:=gEg (by omega)
   (refine VW (an @gA9 (an @Bz (an @Cw @b1))) ?_;unhygienic intros)
   refine W2 ?_
   (refine VV ?_;(repeat clear hK K);unhygienic intros)
   refine W6 [] Tryz.results18 ?_
   rw [G8 fun h=>by have:=h.2.1;omega]
  have b1:decide ((N.length:Int)<1)=false:=gBK (by omega)
  by_cases hl2:N.length > 4096
  ·have b2:decide ((N.length:Int) > 4096)=true:=gEg (by omega)
   (refine VW (an @gA9 (an @Bz (an @Cw (an @b1 @b2)))) ?_;unhygienic intros)
   refine W2 ?_
   (refine VV ?_;(repeat clear hK K);unhygienic intros)
   refine W6 [] Tryz.results18 ?_
   rw [G8 fun h=>by have:=h.2.2.1;omega]
  have b2:decide ((N.length:Int) > 4096)=false:=gBK (by omega)
  (refine VW (an @gA9 (an @Bz (an @Cw (an @b1 @b2)))) ?_;unhygienic intros)
  refine W3 ?_
  (refine VW (an @Bz @Cw) ?_;(repeat clear hK K);unhygienic intros)
  refine Ab (fun k:Nat=>{ tm:=[(0,.a (.c (.t 3 (tN N)))),(1,.i m),(5,.i (262144 - (Fe (N.take k):Int))),(21,.a (.c (.t 3 (tN N)))),(22,.i N.length),(23,.i k)],hp:=[],n:=51,pin:=0 }) (fun k=>k<=N.length/\Fe (N.take k)<=262144/\∀ x∈N.take k,LW N.length 0 x.1=true/\XT x m=true) (fun k=>N.length - k) 0 ?_ ?_ ?_
  ·exact ⟨by omega,by simp [Fe],by simp⟩
  ·have ht0:(262144:Int) - ((Fe (N.take 0):Nat):Int)=262144:=by simp [Fe]
   rw [ht0]
   exact W5
  rintro k ⟨hk,hto,hok⟩ K hK
  by_cases hlt:k<N.length
  rotate_left
  ·have d1:=Yq hlt
   rw [gE7 (by omega)] at hok hto
   have hnu:=Sh N (by omega) fun x hx=>⟨(hN.2 x hx).1,fun a ha=>by have:=(KT (hok x hx).1).2 a ha;omega⟩
   (refine VW @d1 ?_;unhygienic intros)
   refine W3 ?_
   (refine VZ ?_;repeat clear hK K)
   (refine VV ?_;unhygienic intros)
   refine Yt hnu ?_
   (refine VV ?_;(repeat clear hK K);unhygienic intros)
   refine W6 [] Tryz.results18 ?_
   have hva:XU N m=XM 1 0 N:=by
    cases hq:XM 1 0 N with
    | true=>exact Hr.2 ⟨hm,by omega,by omega,hto,hok,hq⟩
    | false=>exact G8 fun h=>by have:=h.2.2.2.2.2;rw [hq] at this;cases this
   rw [hva]
  have d1:=Yp hlt
  have hat:=LF hlt
  have hb:=hN.2 _ (gE6 hlt)
  have htn:=NR hlt
  have htl:=Sm N (k+1)
  have hmem:=gE6 hlt
  have hTk:N.take (k+1)=N.take k++[N[k]]:=gE8 hlt
  generalize N[k]=x at *
  obtain ⟨A,V,dv⟩:=x
  simp only [Xo] at hat hb htn
  have hso:=LJ A N.length (by omega)
  have hvs:=fun h=>Sk A V dv m (by omega) h (by omega) (fun s h=>by have:=hb.2.2 s h;omega)
  (refine VW @d1 ?_;(repeat clear hK K);unhygienic intros)
  refine W2 ?_
  by_cases hle:Fe (N.take (k+1)) > 262144
  ·have b3:decide ((262144:Int) - (Fe (N.take k):Int) - (A.length:Int)<0)=true:=gEg (by omega)
   (refine Cu (an @hat (an @Bz (an @Cw (an @A3 (an @Aq @b3))))) ?_;unhygienic intros)
   refine W2 ?_
   (refine VV ?_;(repeat clear hK K);unhygienic intros)
   refine W6 [] Tryz.results18 ?_
   rw [G8 fun h=>by have:=h.2.2.2.1;omega]
  have b3:decide ((262144:Int) - (Fe (N.take k):Int) - (A.length:Int)<0)=false:=gBK (by omega)
  (refine Cu (an @hat (an @Bz (an @Cw (an @A3 (an @Aq @b3))))) ?_;(repeat clear hK K);unhygienic intros)
  (refine AY rfl rfl (by simp only [go_sem] <;> rfl) ?_;intro K1 hK1;refine (Av (ids:=[]) (hso) rfl rfl (by simp only [go_sem]) (by kernel_rfl) (by (simp only [gAk,go_sem]) <;> rfl) ?_).stp)
  rintro _ _ ⟨rfl,rfl⟩
  (refine W1 ?_;clear hK1 K1)
  cases hsr:LW N.length 0 A with
  | false=>
   (refine VW @gA8 ?_;unhygienic intros)
   refine W2 ?_
   (refine VV ?_;(repeat clear hK K);unhygienic intros)
   refine W6 [] Tryz.results18 ?_
   rw [G8 fun h=>by have:=(h.2.2.2.2.1 _ hmem).1;rw [hsr] at this;cases this]
  | true=>
   (refine Cu @gA9 ?_;(repeat clear hK K);unhygienic intros)
   (refine AY rfl rfl (by simp only [go_sem] <;> rfl) ?_;intro K1 hK1;refine (Av (ids:=[]) (hvs (KT hsr).1) rfl rfl (by simp only [go_sem]) (by kernel_rfl) (by (simp only [gAk,go_sem]) <;> rfl) ?_).stp)
   rintro _ _ ⟨rfl,rfl⟩
   (refine W1 ?_;clear hK1 K1)
   cases hvb:XT (A,V,dv) m with
   | false=>
    (refine VW @gA8 ?_;unhygienic intros)
    refine W2 ?_
    (refine VV ?_;(repeat clear hK K);unhygienic intros)
    refine W6 [] Tryz.results18 ?_
    rw [G8 fun h=>by have:=(h.2.2.2.2.1 _ hmem).2;rw [hvb] at this;cases this]
   | true=>
    (refine VW @gA9 ?_;unhygienic intros)
    refine W3 ?_
    (refine VV ?_;(repeat clear hK K);unhygienic intros)
    refine W4 ?_
    refine hK _ (k+1) ⟨by omega,by omega,fun x hx=>?_⟩ (by omega) ?_
    ·rw [hTk] at hx
     rcases gB0.1 hx with q | q
     ·exact hok x q
     rw [gBb.1 q];exact ⟨hsr,hvb⟩
    have hn5:(262144:Int) - ((Fe (N.take (k+1)):Nat):Int)=262144 - (Fe (N.take k):Int) - (A.length:Int):=by omega
    rw [hn5]
    refine Le.trans (A8 [] rfl rfl) ?_
    simp only [go_sem]
    exact W5
def XV (A:List Ar) (cl:List Int):List Int:=A.flatMap fun a=>[a.1,cl.getD a.2.toNat 0]
theorem Jv (A:List Ar) (cl:List Int):(XV A cl).length=2*A.length:=by
 induction A with
 | nil=>rfl
 | cons a A ih=>rw [show XV (a :: A) cl=[a.1,cl.getD a.2.toNat 0]++XV A cl from rfl,gAI,ih];simp;omega
theorem PJ {A:List Ar} {cl:List Int} {k:Nat} (h:k<A.length):XV (A.take (k+1)) cl=XV (A.take k) cl++[A[k].1,cl.getD A[k].2.toNat 0]:=by
 unfold XV
 rw [gE8 h,List.flatMap_append];simp
set_option maxHeartbeats 2000000 in
theorem So (c:Int) (A:List Ar) (cl:List Int) (hA:A.length<=1000000) (hcl:cl.length<=1000000) (hb:∀ a∈A,0<=a.2/\a.2<(cl.length:Int)):FC Tryz.prog 119 [.i c,.a (.c (.t 2 (Aw A))),.a (.c (.t 1 (Ac cl)))] [] (fun r o=>o=[]/\r=.a (.c (.v (Dg (c :: XV A cl))))):=by
 refine A7 Tryz.func119 rfl (by rw [Tryz.ntmps119];simp) ?_
 rw [Tryz.ntmps119]
 simp only [B4]
 (refine aj (an @A3 @Aq) ?_;(repeat clear hK K);repeat refine kq fun K hK=>?_)
 refine Ab (fun k:Nat=>{ tm:=[(2,.a (.c (.t 1 (Ac cl)))),(7,.a (.c (.s 0 (1+2*k)))),(12,.a (.c (.t 2 (Aw A)))),(13,.i A.length),(14,.i k)],hp:=[.r ⟨3,1,true,A9 (c :: XV (A.take k) cl)⟩],n:=31,pin:=0 }) (fun k=>k<=A.length) (fun k=>A.length - k) 0 ?_ ?_ ?_
 ·omega
 ·have hc0:A9 (c :: XV [] cl)=[.v (.int .i64 c)]:=rfl
  simp only [gBq,hc0]
  exact W5
 rintro k hk K hK
 by_cases hlt:k<A.length
 rotate_left
 ·have d1:=Yq hlt
  have hke:A.take k=A:=gE7 (by omega)
  have hkl:k=A.length:=by omega
  have hkk:=KI (c :: XV A cl) (by rw [gAJ,Jv];omega)
  have hln:(c :: XV A cl).length=1+2*k:=by rw [gAJ,Jv,hkl];omega
  rw [hke]
  obtain ⟨Q,hQ⟩:∃ Q,c :: XV A cl=Q:=⟨_,rfl⟩
  rw [hQ] at hkk hln ⊢
  have hfo:(Ac Q).take (1+2*k)=Ac Q:=gE7 (by rw [A2,hln];exact gBu _)
  simp only [Ap] at hkk
  (refine aj @d1 ?_;repeat refine kq fun K hK=>?_)
  refine W3 ?_
  (refine VZ ?_;repeat clear hK K)
  (refine As (B6 (r:=⟨3,1,true,A9 Q⟩) 0 (Ac Q) rfl (ES _) (show 0<(1:Nat) by omega)) ?_;simp only [ST.frz,A0.frz,AV.frz,C.frz,gBu,gBj,gBi,go_sem,A2,hln,hfo])
  (refine ai ?_;repeat refine kq fun K hK=>?_)
  refine Yt hkk ?_
  (refine ai ?_;(repeat clear hK K);repeat refine kq fun K hK=>?_)
  refine W6 [] Tryz.results119 ?_
  rw [hQ]
 have d1:=Yp hlt
 have hat:=AS hlt
 have hnx:=PJ (cl:=cl) hlt
 have hbt:=hb _ (gE6 hlt)
 have hel:(XV (A.take k) cl).length=2*k:=by rw [Jv,gAS];omega
 generalize XV (A.take k) cl=Q at *
 generalize A[k]=a at *
 obtain ⟨e,t⟩:=a
 simp only at hat hnx hbt
 obtain ⟨tn,rfl⟩:∃ n:Nat,t=(n:Int):=⟨t.toNat,by omega⟩
 have htl:tn<cl.length:=by omega
 have gc:=Al (gE1 htl)
 have hgd:cl.getD ((tn:Int)).toNat 0=cl[tn]:=by rw [gAd,gE2,gE1 htl];rfl
 rw [hgd] at hnx
 generalize cl[tn]=z at *
 have hQl:(c :: Q).length=1+2*k:=by rw [gAJ,hel];omega
 have ca:(A9 (c :: Q)).take (1+2*k)++[C.v (.int .i64 e),C.v (.int .i64 z)]=A9 (c :: (Q++[e,z])):=by
  rw [gE7 (by rw [A4,hQl];exact gBu _)];simp [A9]
 (refine aj @d1 ?_;repeat refine kq fun K hK=>?_)
 refine W2 ?_
 (refine Zk (an @hat (an @A3 @Aq)) ?_;repeat refine kq fun K hK=>?_)
 refine YH [1] (.m 0 0 0 (.m 1 0 0 (.m 2 1 8 (.m 3 0 0 (.m 4 0 0 (.m 5 1 8 (.m 6 0 0 (.m 7 1 8 (.a 8 (.a 9 (.m 10 0 0 .e))))))))))) ?_
 (refine VY (an @gc @A2) ?_;repeat clear hK K)
 (refine VL rfl rfl ?_;intro K1 hK1;refine Bl rfl ?_;simp only [go_sem];(first | refine hK1 _ ?_ | refine AE (hK1 _ ?_));clear hK1 K1)
 (refine E3 rfl rfl rfl ?_;intro K1 hK1;refine Cl rfl rfl rfl rfl (by first | rfl | simp only [Ct,gAz,gAy,hne,gAH,gA8,gAa,gA3,gA2]) rfl ?_;simp only [go_sem,A4,hQl,ca];(first | refine hK1 _ ?_ | refine AE (hK1 _ ?_));clear hK1 K1)
 (refine VX ?_;repeat clear hK K)
 (refine ai ?_;(repeat clear hK K);repeat refine kq fun K hK=>?_)
 refine W4 ?_
 refine hK _ (k+1) (by omega) (by omega) ?_
 rw [hnx]
 have h12:1+2*(k+1)=1+2*k+2:=by omega
 rw [h12]
 refine Le.trans (A8 [3] rfl rfl) ?_
 simp only [go_sem,A5]
 exact W5
def XW (V:List (List Int)):List Int:=V.flatMap fun s=>(s.length:Int) :: s
def XX (x:Xh):List Int:=(if x.2.2 then 1 else 0) :: (x.2.1.length:Int) :: (XW x.2.1++XK x.1)
theorem PK {V:List (List Int)} {k:Nat} (h:k<V.length):XW (V.take (k+1))=XW (V.take k)++((V[k].length:Int) :: V[k]):=by
 unfold XW
 rw [gE8 h,List.flatMap_append];simp
theorem NS {V:List (List Int)} {n:Nat} (h:∀ s∈V,s.length<=n):(XW V).length<=V.length*(n+1):=by
 induction V with
 | nil=>simp [XW]
 | cons s V ih=>
  rw [show XW (s :: V)=((s.length:Int) :: s)++XW V from rfl,gAI,gAJ,gAJ,Nat.succ_mul]
  have h1:=ih fun t ht=>h t (gEf _ ht)
  have h2:=h s gB3
  omega
set_option maxHeartbeats 4000000 in
theorem NT (A:List Ar) (V:List (List Int)) (dv:Bool) (hA:A.length<=10000) (hVl:V.length<=2000) (hVs:∀ s∈V,s.length<=2000):FC Tryz.prog 117 [.a (.g [.t 2 (Aw A),.t 1 (Az V),.v (.bool dv)])] [] (fun r o=>o=[]/\r=.a (.c (.v (Dg (XX (A,V,dv)))))):=by
 refine A7 Tryz.func117 rfl (by rw [Tryz.ntmps117];simp) ?_
 rw [Tryz.ntmps117]
 simp only [B4]
 have hev:=Qr A (by omega)
 have hfl:=NS hVs
 have hfl2:V.length*2001<=2000*2001:=gBz hVl (gBu _)
 have hkk:=KI (XX (A,V,dv)) (by
  simp only [XX,gAJ,gAI,BS];omega)
 obtain ⟨d,hd⟩:∃ d:Int,(if dv=true then (1:Int) else 0)=d:=⟨_,rfl⟩
 have hfx:XX (A,V,dv)=d :: (V.length:Int) :: (XW V++XK A):=by unfold XX;rw [<- hd]
 rw [hfx] at hkk ⊢
 obtain ⟨W,hW⟩:∃ W:Nat->List Int,W=fun k=>d :: (V.length:Int) :: XW (V.take k):=⟨_,rfl⟩
 have hW0:W 0=[d,(V.length:Int)]:=by rw [hW];simp [XW]
 have hWs:∀ k (h:k<V.length),W (k+1)=W k++((V[k].length:Int) :: V[k]):=fun k h=>by rw [hW];simp only [PK h,gAm]
 have hWn:∀ k,V.length<=k->W k++XK A=d :: (V.length:Int) :: (XW V++XK A):=fun k h=>by rw [hW];simp only [gE7 h,gAm]
 have hWl:∀ k,(W k).length<=5000000:=fun k=>by
  rw [hW]
  have h1:=NS (V:=V.take k) (n:=2000) fun s hs=>hVs s (gB8 hs)
  have h2:(V.take k).length*2001<=2000*2001:=gBz (by rw [gAS];omega) (gBu _)
  simp only [gAJ];omega
 clear hW
 obtain ⟨bv,hbv⟩:∃ b:Bool,b=dv:=⟨_,rfl⟩
 obtain ⟨dd,hdd⟩:∃ e:Int,e=d:=⟨_,rfl⟩
 cases dv
 all_goals
  simp only [gA5,if_false,if_true] at hd
  subst hd
  simp only [Ap] at hkk hev
  (refine aj @Ae ?_;repeat refine kq fun K hK=>?_)
  (refine Ah ?_;intro X Y hX hY;simp only [go_sem])
  first | (refine hX ?_;clear hX hY X Y) | (refine hY ?_;clear hX hY X Y)
  (refine Zk (an @gAe @Ae) ?_;(repeat clear hK K);repeat refine kq fun K hK=>?_)
  refine Ab (fun k:Nat=>{ tm:=[(1,.a (.c (.p 0 0))),(3,.a (.c (.s 1 (W k).length))),(15,.a (.c (.t 1 (Az V)))),(16,.i V.length),(17,.i k)],hp:=[.r ⟨35,3,false,[.t 2 (Aw A),.t 1 (Az V),.v (.bool bv)]⟩,.r ⟨3,1,true,A9 (W k)⟩],n:=35,pin:=0 }) (fun k=>k<=V.length) (fun k=>V.length - k) 0 ?_ ?_ ?_
  ·omega
  ·have hc0:A9 (W 0)=[.v (.int .i64 dd),.v (.int .i64 (V.length:Nat))]:=by rw [hW0,hdd];rfl
   have hl0:(W 0).length=2:=by rw [hW0];rfl
   rw [hl0,hc0,hbv,hdd]
   exact W5
  ·rintro k hk K hK
   have hwl:=hWl k
   have hcw:(A9 (W k)).length=(W k).length:=A4 _
   have htw:(A9 (W k)).take (W k).length=A9 (W k):=gE7 (by rw [hcw];exact gBu _)
   by_cases hlt:k<V.length
   ·have d1:=Yp hlt
    have gV:=AR (gE1 hlt)
    have hnx:=hWs k hlt
    have hsl:=hVs _ (gE6 hlt)
    have hwl2:=hWl (k+1)
    generalize V[k]=s at *
    have ca1:A9 (W k)++[C.v (.int .i64 (s.length:Nat))]=A9 (W k++[(s.length:Int)]):=by simp [A9]
    have cl1:(A9 (W k++[(s.length:Int)])).length=(W k).length+1:=by rw [A4];simp
    have ct1:(A9 (W k++[(s.length:Int)])).take ((W k).length+1)=A9 (W k++[(s.length:Int)]):=gE7 (by rw [cl1];exact gBu _)
    have ca2:A9 (W k++[(s.length:Int)])++(Ac s).map C.ofTr=A9 (W (k+1)):=by rw [hnx];simp [A9,Ac,C.ofTr,gAb]
    have hl2:(W (k+1)).length=(W k).length+1+s.length:=by rw [hnx];simp;omega
    (refine aj @d1 ?_;repeat refine kq fun K hK=>?_)
    refine W2 ?_
    (refine aj (an @gV @Ae) ?_;repeat refine kq fun K hK=>?_)
    (refine aj (an @A2 (an @hcw (an @htw (an @ca1 (an @cl1 (an @ct1 @ca2)))))) ?_;(repeat clear hK K);repeat refine kq fun K hK=>?_)
    refine W4 ?_
    refine hK _ (k+1) (by omega) (by omega) ?_
    rw [hl2]
    refine Le.trans (A8 [0,4] rfl rfl) ?_
    simp only [go_sem,A5]
    exact W5
   ·have d1:=Yq hlt
    have hwn:=hWn k (by omega)
    have hEl:(XK A).length<=10000:=by rw [BS];exact hA
    have hfn:(W k++XK A).length=(W k).length+(XK A).length:=gAI
    have ca2:A9 (W k)++(Ac (XK A)).map C.ofTr=A9 (W k++XK A):=by simp [A9,Ac,C.ofTr,gAb]
    obtain ⟨E,hE⟩:∃ E,XK A=E:=⟨_,rfl⟩
    rw [<- hwn] at hkk
    rw [<- hwn]
    rw [hE] at hkk hev hEl hfn ca2 ⊢
    obtain ⟨Z,hZ⟩:∃ Z,W k++E=Z:=⟨_,rfl⟩
    rw [hZ] at hkk ca2 hfn ⊢
    have hfo:(Ac Z).take ((W k).length+E.length)=Ac Z:=gE7 (by rw [A2,hfn];exact gBu _)
    (refine aj @d1 ?_;repeat refine kq fun K hK=>?_)
    refine W3 ?_
    (refine VZ ?_;repeat clear hK K)
    (refine ai ?_;repeat refine kq fun K hK=>?_)
    refine Yt hev ?_
    (refine aj (an @A2 (an @hcw (an @htw @ca2))) ?_;repeat refine kq fun K hK=>?_)
    (refine Bw (B6 (r:=⟨3,1,true,A9 Z⟩) 2 (Ac Z) rfl (ES _) (show 0<(1:Nat) by omega)) ?_;simp only [ST.frz,A0.frz,AV.frz,C.frz,gBu,gBj,gBi,go_sem,A2,hfn,hfo])
    (refine ai ?_;repeat refine kq fun K hK=>?_)
    refine Yt hkk ?_
    (refine ai ?_;(repeat clear hK K);repeat refine kq fun K hK=>?_)
    refine W6 [] Tryz.results117 ?_
    rw [<- hwn,hE,hZ]
theorem KU {P:Program} {o:Oper} {st:ST} {K:ST->Prop} {t kt e:TypeId} {id:Nat} {kv:List (Value × C)} {x:Operand} {c:Call} (hu:P.underlying t=some (.map kt e)) (hd:Vc o st.n=true) (ho:o.op=.call c) (hc1:c.callee=.builtin .len) (hc2:c.args=#[x]) (hc3:c.argTypes=#[t]) (hx:st.ev x=.a (.c (.m id))) (hm:st.hp[id]?=some (.m kv)) (hit:Ti kv=false) (h:K (st.put o.dst (.i kv.length))):Stp P o st K:=by
 refine GR hd (fun g w ρ hr hR=>?_) h
 obtain ⟨dst,op,ty,pos,af,gd⟩:=o
 simp only at ho
 subst ho
 obtain ⟨callee,args,ts⟩:=c
 simp only at hc1 hc2 hc3
 subst hc1;subst hc2;subst hc3
 obtain ⟨es,clock,m1,m2,_⟩:=(hr.mp id kv hm).map0 hit
 have e1:=hR x
 rw [hx] at e1
 obtain ⟨_,e1⟩:=e1
 refine ⟨.int .i64 kv.length,?_,rfl⟩
 simp only [execOp,resolve,invoke,builtin,Sem.run_bind,Sem.run_pure,Result.andThen_ok,gAZ,gAV,gAX,e1]
 simp [Builtin.len_,run_underlying hu,MapKept.run_getObj_map m1,goInt,m2]
theorem Qt (M:List (Value × Value)):Ti (M.map fun p=>(p.1,C.v p.2))=false:=by
 cases M <;> rfl
theorem LL {s:Ks} {key k:Value} {c:C}:∀ (l:List (Value × C)) (i:Nat),Bd s key (l++[(k,c)]) i=match Bd s key l i with | some none=>(match Cr s key k with | some true=>some (some (i+l.length,c)) | some false=>some none | none=>none) | r=>r:=by
 intro l
 induction l with
 | nil=>
  intro i
  simp only [gBc,Bd,gAO,gBr]
  cases Cr s key k with
  | none=>rfl
  | some b=>cases b <;> rfl
 | cons p r ih=>
  intro i
  obtain ⟨k1,c1⟩:=p
  simp only [gAm,Bd]
  cases Cr s key k1 with
  | none=>rfl
  | some b=>
   cases b with
   | true=>rfl
   | false=>
    simp only
    rw [ih (i+1),gAJ,show i+1+r.length=i+(r.length+1) from by omega]
section
variable {α : Type} [DecidableEq α]
def SX (ky:List Value) (g:Nat->α):Prop:=∀ a b,a<ky.length->b<ky.length->Cr .ks (ky.getD a (.int .i64 0)) (ky.getD b (.int .i64 0))=some (decide (g a=g b))
def XY (ky:List Value) (g:Nat->α):Nat->List (Value × C)
 | 0=>[]
 | k+1=>match (List.range k).find? (fun t=>decide (g t=g k)) with
  | some _=>XY ky g k
  | none=>XY ky g k++[(ky.getD k (.int .i64 0),.v (.int .i64 (WE g k).2))]
theorem EL {ky:List Value} {g:Nat->α} {k t:Nat} (h:(List.range k).find? (fun t=>decide (g t=g k))=some t):XY ky g (k+1)=XY ky g k:=by rw [XY,h]
theorem EM {ky:List Value} {g:Nat->α} {k:Nat} (h:(List.range k).find? (fun t=>decide (g t=g k))=none):XY ky g (k+1)=XY ky g k++[(ky.getD k (.int .i64 0),.v (.int .i64 (WE g k).2))]:=by rw [XY,h]
theorem Qu (ky:List Value) (g:Nat->α) (k:Nat):(XY ky g k).all (fun p=>p.2.pl)=true:=by
 induction k with
 | zero=>rfl
 | succ k ih=>
  cases h:(List.range k).find? (fun t=>decide (g t=g k)) with
  | some t=>rw [EL h];exact ih
  | none=>rw [EM h,List.all_append,ih];rfl
theorem NU (ky:List Value) (g:Nat->α) (k:Nat):(XY ky g k).length=(WE g k).2:=by
 induction k with
 | zero=>rfl
 | succ k ih=>
  cases h:(List.range k).find? (fun t=>decide (g t=g k)) with
  | some t=>rw [EL h,EC h];exact ih
  | none=>rw [EM h,ED h,gAI,ih];rfl
theorem Hs (ky:List Value) (g:Nat->α) (k:Nat):∃ M:List (Value × Value),XY ky g k=M.map fun p=>(p.1,C.v p.2):=by
 induction k with
 | zero=>exact ⟨[],rfl⟩
 | succ k ih=>
  obtain ⟨M,hM⟩:=ih
  cases h:(List.range k).find? (fun t=>decide (g t=g k)) with
  | some t=>exact ⟨M,by rw [EL h,hM]⟩
  | none=>exact ⟨M++[(ky.getD k (.int .i64 0),.int .i64 (WE g k).2)],by rw [EM h,hM];simp⟩
theorem KV {ky:List Value} {g:Nat->α} (h:SX ky g) {s:Nat} (hs:s<ky.length):∀ k,k<=ky.length->(∃ t,t<k/\g t=g s/\∃ j,Bd .ks (ky.getD s (.int .i64 0)) (XY ky g k) 0=some (some (j,.v (.int .i64 ((WE g k).1.getD t 0)))))\/((∀ t,t<k->g t ≠ g s)/\Bd .ks (ky.getD s (.int .i64 0)) (XY ky g k) 0=some none):=by
 intro k
 induction k with
 | zero=>intro _;exact .inr ⟨fun t ht=>by omega,rfl⟩
 | succ k ih=>
  intro hk
  have hkl:k<ky.length:=hk
  have hlen:=(BK g k).len
  cases hf:(List.range k).find? (fun t=>decide (g t=g k)) with
  | some t0=>
   have h2:=List.find?_range_eq_some.1 hf
   have h3:t0<k:=by simpa using h2.2.1
   have h4:g t0=g k:=by simpa using h2.1
   rw [EL hf,EC hf]
   rcases ih (by omega) with ⟨t,a1,a2,j,a3⟩ | ⟨a1,a2⟩
   ·refine .inl ⟨t,by omega,a2,j,?_⟩
    rw [a3,Bs (by omega)]
   refine .inr ⟨fun t ht=>?_,a2⟩
   rcases gBx t k with b | b
   ·exact a1 t b
   have:t=k:=by omega
   subst this
   rw [<- h4];exact a1 t0 h3
  | none=>
   rw [EM hf,ED hf,LL,h s k hs hkl]
   rcases ih (by omega) with ⟨t,a1,a2,j,a3⟩ | ⟨a1,a2⟩
   ·refine .inl ⟨t,by omega,a2,j,?_⟩
    rw [a3,Bs (by omega)]
   rw [a2]
   by_cases e:g s=g k
   ·refine .inl ⟨k,by omega,e.symm,0+(XY ky g k).length,?_⟩
    rw [gEg e,Cg hlen.symm]
   refine .inr ⟨fun t ht=>?_,by rw [gBK e]⟩
   rcases gBx t k with b | b
   ·exact a1 t b
   have:t=k:=by omega
   subst this
   exact Ne.symm e
theorem Sp {ky:List Value} {g:Nat->α} (h:SX ky g) {s:Nat} (hs:s<ky.length):E0 .ks (ky.getD s (.int .i64 0))=true:=by
 unfold E0
 rw [h s s hs hs]
theorem XZ (L:List Int) (x:Int) {n:Nat} (h:L.length=n):(A9 L).take n++[C.v (.int .i64 x)]=A9 (L++[x]):=by
 subst h
 rw [gE7 (by rw [A4];exact gBu _)];simp [A9]
def Y0 (ky:List Value):List C:=ky.map C.v
theorem G9 (ky:List Value):(Y0 ky).length=ky.length:=by simp [Y0]
theorem Sq {ky:List Value} {s:Nat} (h:s<ky.length):(Y0 ky)[s]?=some (.v (ky.getD s (.int .i64 0))):=by simp [Y0,gE2,h]
theorem Co (ky:List Value) (f:List Nat):(Y0 ky).map (C.ren f)=Y0 ky:=by simp [Y0,C.ren,gAb]
theorem NV (ky:List Value) (s:Nat) (v:Value):(Y0 ky).set s (.v v)=Y0 (ky.set s v):=by simp [Y0,gAY]
set_option maxHeartbeats 2000000 in
theorem NW (ky:List Value) (g:Nat->α) (h:SX ky g) (hn:ky.length<=1000000):FC Tryz.prog 118 [.a (.c (.s 0 ky.length))] [.r ⟨9,1,true,Y0 ky⟩] (fun r o=>r=.tup [.c (.s 1 ky.length),.c (.v (.int .i64 (WE g ky.length).2))]/\o=[.r ⟨9,1,true,Y0 ky⟩,Be (WE g ky.length).1]):=by
 refine A7 Tryz.func118 rfl (by rw [Tryz.ntmps118];simp) ?_
 rw [Tryz.ntmps118]
 simp only [B4]
 (refine ai ?_;(repeat clear hK K);repeat refine kq fun K hK=>?_)
 refine As (BJ 5 3 1 ?_) ?_
 ·simp only [go_sem]
 refine Ab (fun k:Nat=>{ tm:=[(4,.a (.c (.m 1))),(5,.a (.c (.s 2 k))),(11,.a (.c (.s 0 ky.length))),(12,.i ky.length),(13,.i k)],hp:=[.r ⟨9,1,true,Y0 ky⟩,.m (XY ky g k),.r ⟨3,1,true,A9 (WE g k).1⟩],n:=39,pin:=1 }) (fun k=>k<=ky.length) (fun k=>ky.length - k) 0 ?_ ?_ ?_
 ·omega
 ·exact W5
 rintro k hk K hK
 by_cases hlt:k<ky.length
 rotate_left
 ·have d1:=Yq hlt
  have hke:k=ky.length:=by omega
  have hkl:=NU ky g k
  have hitk:Ti (XY ky g k)=false:=by obtain ⟨M,hM⟩:=Hs ky g k;rw [hM];exact Qt M
  rw [<- hke]
  rw [<- hke] at d1
  (refine aj @d1 ?_;repeat refine kq fun K hK=>?_)
  refine W3 ?_
  (refine VZ ?_;repeat clear hK K)
  (refine ai ?_;repeat refine kq fun K hK=>?_)
  (refine Aj rfl ?_;intro K1 hK1;refine KU (id:=1) (kv:=XY ky g k) Tryz.underlying98 rfl rfl rfl rfl rfl (by simp only [go_sem]) rfl hitk ?_;simp only [go_sem,hkl];refine hK1 _ ?_;clear hK1 K1)
  (refine ai ?_;(repeat clear hK K);repeat refine kq fun K hK=>?_)
  ((try refine Ak ?_);(try simp only [Ad,Ay]);refine AB (A8 [0,2] rfl rfl) ?_;(try simp only [Yn,go_sem]);((try refine Ak ?_);(try refine Aa ?_);(try simp only [Ad,Ay]);refine AN (by first | exact .inl rfl | exact .inr rfl) rfl ?_;simp only [Vm,Cq,Ck,Cx,Tryz.results118,go_sem,true_and,and_true,A5,Co,Be]))
  rw [hke];exact ⟨rfl,rfl⟩
 have d1:=Yp hlt
 have gk:=Sq hlt
 have hft:=Sp h hlt
 have hcl:=(BK g k).cnt
 have hpl:=Qu ky g k
 have hpl2:=Qu ky g (k+1)
 have hkl:=NU ky g k
 have hnl:=(BK g k).len
 have hfd:=KV h hlt k hk
 have hfd2:=KV h hlt (k+1) hlt
 have hnq:=(BK g (k+1)).eq
 (refine aj (an @G9 @d1) ?_;(repeat clear hK K);repeat refine kq fun K hK=>?_)
 refine W2 ?_
 cases hf:(List.range k).find? (fun t=>decide (g t=g k)) with
 | some t0=>
  have h2:=List.find?_range_eq_some.1 hf
  have h3:t0<k:=by simpa using h2.2.1
  have h4:g t0=g k:=by simpa using h2.1
  have hkv:XY ky g (k+1)=XY ky g k:=EL hf
  have hng:=EC hf
  obtain ⟨t,a1,a2,j,a3⟩:∃ t,t<k/\g t=g k/\∃ j,Bd .ks (ky.getD k (.int .i64 0)) (XY ky g k) 0=some (some (j,.v (.int .i64 ((WE g k).1.getD t 0)))):=by
   rcases hfd with h | ⟨a1,_⟩
   ·exact h
   exact absurd h4 (a1 t0 h3)
  have he:(WE g k).1.getD t 0=(WE g k).1.getD t0 0:=((BK g k).eq t t0 a1 h3).2 (a2.trans h4.symm)
  rw [he] at a3
  have cs:=XZ (WE g k).1 ((WE g k).1.getD t0 0) hnl
  obtain ⟨M,hM⟩:=Hs ky g k
  generalize XY ky g k=kv at *
  subst hM
  generalize WE g k=p at *
  generalize ky.getD k (.int .i64 0)=kk at *
  (refine aj (an @G9 @gk) ?_;repeat refine kq fun K hK=>?_)
  (refine Aj rfl ?_;intro K1 hK1;refine BV (id:=1) (kv:=M.map fun p=>(p.1,C.v p.2)) (zv:=.int .i64 0) Tryz.underlying98 (CJ Tryz.underlying9) rfl rfl rfl (by simp only [go_sem]) rfl hpl (by simp only [go_sem,Ef]) hft a3 ?_;simp only [go_sem,Xq];refine hK1 _ ?_;clear hK1 K1)
  (refine aj @gA9 ?_;repeat refine kq fun K hK=>?_)
  refine W3 ?_
  (refine ai ?_;repeat refine kq fun K hK=>?_)
  (refine Aj rfl ?_;intro K1 hK1;refine BV (id:=1) (kv:=M.map fun p=>(p.1,C.v p.2)) (zv:=.int .i64 0) Tryz.underlying98 (CJ Tryz.underlying9) rfl rfl rfl (by simp only [go_sem]) rfl hpl (by simp only [go_sem,Ef]) hft a3 ?_;simp only [go_sem,Xq];refine hK1 _ ?_;clear hK1 K1)
  (refine aj (an @cs (an @A4 @hnl)) ?_;(repeat clear hK K);repeat refine kq fun K hK=>?_)
  refine W4 ?_
  refine hK _ (k+1) (by omega) (by omega) ?_
  refine Le.trans (A8 [0,1,4] rfl rfl) ?_
  (try simp only [Yn,go_sem])
  (try simp only [A5,Co,gAW,gAb,gAT,gAV,gAX])
  rw [hkv,hng]
  exact W5
 | none=>
  have hno:=List.find?_range_eq_none.1 hf
  have hkv:=EM (ky:=ky) hf
  have hng:=ED hf
  have a2:Bd .ks (ky.getD k (.int .i64 0)) (XY ky g k) 0=some none:=by
   rcases hfd with ⟨t,a1,a2,_⟩ | ⟨_,a2⟩
   ·exact absurd a2 (by simpa using hno t a1)
   exact a2
  obtain ⟨j,a3⟩:∃ j,Bd .ks (ky.getD k (.int .i64 0)) (XY ky g (k+1)) 0=some (some (j,.v (.int .i64 (WE g k).2))):=by
   rcases hfd2 with ⟨t,a1,a2,j,a3⟩ | ⟨a1,_⟩
   rotate_left
   ·exact absurd rfl (a1 k (by omega))
   refine ⟨j,?_⟩
   rw [a3,(hnq t k a1 (by omega)).2 a2,hng,Cg hnl.symm]
  have cs:=XZ (WE g k).1 (WE g k).2 hnl
  rw [hkv] at a3 hpl2
  obtain ⟨M,hM⟩:=Hs ky g k
  generalize XY ky g k=kv at *
  subst hM
  generalize WE g k=p at *
  generalize ky.getD k (.int .i64 0)=kk at *
  (refine aj (an @G9 @gk) ?_;repeat refine kq fun K hK=>?_)
  (refine Aj rfl ?_;intro K1 hK1;refine BV (id:=1) (kv:=M.map fun p=>(p.1,C.v p.2)) (zv:=.int .i64 0) Tryz.underlying98 (CJ Tryz.underlying9) rfl rfl rfl (by simp only [go_sem]) rfl hpl (by simp only [go_sem,Ef]) hft a2 ?_;simp only [go_sem,Xq];refine hK1 _ ?_;clear hK1 K1)
  (refine aj @gA8 ?_;repeat refine kq fun K hK=>?_)
  refine W2 ?_
  (refine ai ?_;repeat refine kq fun K hK=>?_)
  (refine Aj rfl ?_;intro K1 hK1;refine KU (id:=1) (kv:=M.map fun p=>(p.1,C.v p.2)) Tryz.underlying98 rfl rfl rfl rfl rfl (by simp only [go_sem]) rfl (Qt _) ?_;simp only [go_sem,hkl];refine hK1 _ ?_;clear hK1 K1)
  (refine ai ?_;repeat refine kq fun K hK=>?_)
  (refine Aj rfl ?_;intro K1 hK1;refine F4 (id:=1) (kv:=M.map fun p=>(p.1,C.v p.2)) (c:=.v (.int .i64 p.2)) Tryz.underlying98 (CJ Tryz.underlying9) rfl rfl (by simp only [go_sem]) rfl hpl (by simp only [go_sem,Ef]) hft (by simp only [go_sem]) rfl a2 ?_;simp only [go_sem];refine hK1 _ ?_;clear hK1 K1)
  (refine ai ?_;repeat refine kq fun K hK=>?_)
  (refine Aj rfl ?_;intro K1 hK1;refine BV (id:=1) (kv:=(M.map fun p=>(p.1,C.v p.2))++[(kk,.v (.int .i64 p.2))]) (zv:=.int .i64 0) Tryz.underlying98 (CJ Tryz.underlying9) rfl rfl rfl (by simp only [go_sem]) rfl hpl2 (by simp only [go_sem,Ef]) hft a3 ?_;simp only [go_sem,Xq];refine hK1 _ ?_;clear hK1 K1)
  (refine aj (an @cs (an @A4 @hnl)) ?_;(repeat clear hK K);repeat refine kq fun K hK=>?_)
  refine W4 ?_
  refine hK _ (k+1) (by omega) (by omega) ?_
  refine Le.trans (A8 [0,1,4] rfl rfl) ?_
  (try simp only [Yn,go_sem])
  (try simp only [A5,Co,gAW,gAb,gAT,gAV,gAX])
  rw [hkv,hng]
  exact W5
end
set_option maxHeartbeats 4000000 in
theorem PL (A B:List Ar) (V:List (List Int)) (dv:Bool) (hVl:V.length<=100000) (hVs:∀ s∈V,s.length<=100000):FC Tryz.prog 84 [.a (.g [.t 2 (Aw A),.t 1 (Az V),.v (.bool dv)]),.a (.c (.t 2 (Aw B)))] [] (fun r o=>o=[.r ⟨35,3,false,Xp (B,V,dv)⟩]/\r=.a (XC (B,V,dv))):=by
 refine A7 Tryz.func84 rfl (by rw [Tryz.ntmps84];simp) ?_
 rw [Tryz.ntmps84]
 simp only [B4]
 (refine Zk @Ae ?_;(repeat clear hK K);repeat refine kq fun K hK=>?_)
 refine As (I6 37 1) ?_
 simp only [gAm,gBc]
 refine As (FU 2 1 3 (by decide) rfl rfl rfl) ?_
 simp only [gBj,gBi]
 refine Ab (fun k:Nat=>{ tm:=[(4,.a (.c (.p 1 0))),(5,.a (.c (.p 2 0))),(13,.a (.c (.t 1 (Az V)))),(14,.i V.length),(15,.i k)],hp:=[.r ⟨35,3,false,[.t 2 (Aw A),.t 1 (Az V),.v (.bool dv)]⟩,.r ⟨35,3,false,[.v (.slice none 0 0),.v (.slice none 0 0),.v (.bool false)]⟩,.r ⟨35,3,false,[.t 2 (Aw B),.s 3 k,.v (.bool dv)]⟩,.r ⟨37,1,true,Au (V.take k)⟩],n:=28,pin:=0 }) (fun k=>k<=V.length) (fun k=>V.length - k) 0 ?_ ?_ ?_
 ·omega
 ·have hc0:Au []=[]:=rfl
  simp only [gBq,hc0]
  exact W5
 rintro k hk K hK
 by_cases hlt:k<V.length
 rotate_left
 ·have d1:=Yq hlt
  have hkl:k=V.length:=by omega
  have hke:V.take k=V:=gE7 (by omega)
  rw [hke]
  have hcV:(Au V).length=k*1:=by rw [hkl];simp [Au]
  (refine aj @d1 ?_;repeat refine kq fun K hK=>?_)
  refine W3 ?_
  (refine VZ ?_;repeat clear hK K)
  refine As (AQ (r:=⟨37,1,true,Au V⟩) (ri:=⟨35,3,false,[.t 2 (Aw B),.s 3 k,.v (.bool dv)]⟩) (ts:=Az V) 2 1 3 k (by decide) rfl rfl rfl rfl (show 0<1 by omega) hcV.symm (D0 _)) ?_
  simp only [go_sem]
  refine As (CI 2 rfl) ?_
  simp only [Vp,gAV,gAX,go_sem]
  (refine a8 ?_;(repeat clear hK K);repeat refine kq fun K hK=>?_)
  ((try refine Ak ?_);(try simp only [Ad,Ay]);refine AB (A8 [1] rfl rfl) ?_;(try simp only [Yn,go_sem]);((try refine Ak ?_);(try refine Aa ?_);(try simp only [Ad,Ay]);refine AN (by first | exact .inl rfl | exact .inr rfl) rfl ?_;simp only [Vm,Cq,Ck,Cx,Tryz.results84,go_sem,true_and,and_true,Vp]))
  exact ⟨rfl,rfl⟩
 have d1:=Yp hlt
 have gV:=AR (gE1 hlt)
 have htk:=gE8 hlt
 have hsl:=hVs _ (gE6 hlt)
 have hel:(V.take k).length=k:=by rw [gAS];omega
 generalize V.take k=Q at *
 generalize V[k]=s at *
 have hcl:=GA (Ac s) (by rw [A2];omega)
 have hQl:(Au Q).length=k:=by simp [Au,hel]
 have ca:(Au Q).take k++[C.t 1 (Ac s)]=Au (Q++[s]):=by
  rw [gE7 (by rw [hQl];exact gBu _)];simp [Au]
 (refine aj @d1 ?_;repeat refine kq fun K hK=>?_)
 refine W2 ?_
 (refine aj (an @gV @Ae) ?_;repeat refine kq fun K hK=>?_)
 refine YH [2] (.m 0 0 0 (.m 1 1 5 (.m 2 0 0 (.a 3 (.a 4 (.a 5 (.m 6 0 0 (.a 7 .e)))))))) ?_
 (refine VX ?_;repeat clear hK K)
 (refine E3 rfl rfl rfl ?_;intro K1 hK1;refine Ch (ids:=[]) [] (hcl) rfl rfl rfl rfl rfl (by simp only [go_sem]) (by first | assumption | kernel_rfl) rfl rfl (by (simp only [gAT,gAk,go_sem]) <;> rfl) (by (simp only [Vk,Ap,go_sem]) <;> rfl) ?_ ?_)
 ·rintro _ _ ⟨rfl,rfl⟩;rfl
 rintro _ _ ⟨rfl,rfl⟩
 (refine W1 ?_;clear hK1 K1)
 (refine UU (B6 (r:=⟨3,1,true,(Ac s).map C.ofTr⟩) 4 (Ac s) rfl (Nt s) (show 0<(1:Nat) by omega)) ?_;simp only [ST.frz,A0.frz,AV.frz,C.frz,gBu,gBj,gBi,go_sem,gBn,Nat.div_one])
 (refine VX ?_;repeat clear hK K)
 (refine VL rfl rfl ?_;intro K1 hK1;refine Bl rfl ?_;simp only [go_sem];(first | refine hK1 _ ?_ | refine AE (hK1 _ ?_));clear hK1 K1)
 (refine E3 rfl rfl rfl ?_;intro K1 hK1;refine Cl rfl rfl rfl rfl (by first | rfl | simp only [Ct,gAz,gAy,hne,gAH,gA8,gAa,gA3,gA2]) rfl ?_;simp only [go_sem,hQl,ca];(first | refine hK1 _ ?_ | refine AE (hK1 _ ?_));clear hK1 K1)
 (refine VX ?_;repeat clear hK K)
 (refine VM rfl rfl rfl rfl ?_;intro K1 hK1;refine Bc rfl ?_;simp only [go_sem,ST.put,De,A0.cells];(first | refine hK1 _ ?_ | refine AE (hK1 _ ?_));clear hK1 K1)
 (refine VX ?_;repeat clear hK K)
 (refine ai ?_;(repeat clear hK K);repeat refine kq fun K hK=>?_)
 refine W4 ?_
 refine hK _ (k+1) (by omega) (by omega) ?_
 rw [htk]
 refine Le.trans (A8 [0,1,2,6] rfl rfl) ?_
 simp only [go_sem,ca,BD]
 exact W5
theorem NX:∀ {V W:List (List Int)} {E F:List Int},V.length=W.length->XW V++E=XW W++F->V=W/\E=F
 | [],[],_,_,_,h=>⟨rfl,h⟩
 | [],_ :: _,_,_,h,_=>by simp at h
 | _ :: _,[],_,_,h,_=>by simp at h
 | s :: V,t :: W,E,F,hl,h=>by
  rw [show XW (s :: V)=((s.length:Int) :: s)++XW V from rfl,show XW (t :: W)=((t.length:Int) :: t)++XW W from rfl,gAj,gAj,gAm,gAm] at h
  obtain ⟨h1,h2⟩:=List.cons.inj h
  obtain ⟨h3,h4⟩:=List.append_inj h2 (by omega)
  obtain ⟨h5,h6⟩:=NX (by simpa using hl) h4
  exact ⟨by rw [h3,h5],h6⟩
theorem Sr {x y:Xh}:XX x=XX y↔x.2.2=y.2.2/\x.2.1=y.2.1/\XK x.1=XK y.1:=by
 constructor
 rotate_left
 ·rintro ⟨h1,h2,h3⟩
  unfold XX
  rw [h1,h2,h3]
 intro h
 unfold XX at h
 obtain ⟨h1,h2⟩:=List.cons.inj h
 obtain ⟨h3,h4⟩:=List.cons.inj h2
 obtain ⟨h5,h6⟩:=NX (by omega) h4
 refine ⟨?_,h5,h6⟩
 cases hx:x.2.2 <;> cases hy:y.2.2 <;> simp [hx,hy] at h1 <;> rfl
theorem Ss {A B:List Ar} {cl:List Int} {c d:Int} (hl:A.length=B.length):c :: XV A cl=d :: XV B cl↔c=d/\A.map (fun a=>(a.1,cl.getD a.2.toNat 0))=B.map fun a=>(a.1,cl.getD a.2.toNat 0):=by
 have key:∀ (A B:List Ar),A.length=B.length->(XV A cl=XV B cl↔A.map (fun a=>(a.1,cl.getD a.2.toNat 0))=B.map fun a=>(a.1,cl.getD a.2.toNat 0)):=by
  intro A
  induction A with
  | nil=>intro B h;cases B with
   | nil=>simp
   | cons b B=>simp at h
  | cons a A ih=>
   intro B h
   cases B with
   | nil=>simp at h
   | cons b B=>
    rw [show XV (a :: A) cl=[a.1,cl.getD a.2.toNat 0]++XV A cl from rfl,show XV (b :: B) cl=[b.1,cl.getD b.2.toNat 0]++XV B cl from rfl]
    have:=ih B (by simpa using h)
    simp only [gAm,gBc,gAl,gAV,gBJ,this,and_assoc]
 rw [gAl,key A B hl]
theorem Qv (L:List (List Int)) (h:∀ x∈L,XA x):SX (L.map Dg) (fun s=>L.getD s []):=by
 intro a b ha hb
 rw [gAN] at ha hb
 have e1:(L.map Dg).getD a (.int .i64 0)=Dg L[a]:=by simp [gE2,ha]
 have e2:(L.map Dg).getD b (.int .i64 0)=Dg L[b]:=by simp [gE2,hb]
 have e3:L.getD a []=L[a]:=by simp [gE2,ha]
 have e4:L.getD b []=L[b]:=by simp [gE2,hb]
 rw [e1,e2,Jp (h _ (gE6 ha)) (h _ (gE6 hb))]
 simp only [e3,e4]
theorem TS {A:List Ar} {cl:List Int} {c:Int} (hc:0<=c/\c<2147483648) (hA:∀ a∈A,0<=a.1/\a.1<=1025) (hcl:∀ x∈cl,0<=x/\x<2147483648):XA (c :: XV A cl):=by
 intro x hx
 rcases gB2.1 hx with rfl | hx
 ·exact hc
 obtain ⟨a,ha,h⟩:=gB5.1 hx
 simp only [gB2,List.not_mem_nil,or_false] at h
 rcases h with rfl | rfl
 ·have:=hA a ha;omega
 rw [gE2]
 cases hg:cl[a.2.toNat]? with
 | none=>simp
 | some z=>exact hcl z (gE9 hg)
theorem TT {x:Xh} (hA:∀ a∈x.1,0<=a.1/\a.1<=1025) (hn:x.2.1.length<=100000) (hV:∀ s∈x.2.1,s.length<=100000/\∀ e∈s,0<=e/\e<=1025):XA (XX x):=by
 intro y hy
 unfold XX at hy
 rcases gB2.1 hy with rfl | hy
 ·split <;> omega
 rcases gB2.1 hy with rfl | hy
 ·omega
 rcases gB0.1 hy with h | h
 rotate_left
 ·obtain ⟨a,ha,rfl⟩:=gB7.1 h
  have:=hA a ha;omega
 obtain ⟨s,hs,h2⟩:=gB5.1 h
 have:=hV s hs
 rcases gB2.1 h2 with rfl | h3
 ·omega
 have:=this.2 y h3;omega
def nz:Xh:=([],[],false)
def Y1 (N:List Xh) (c:List Int):List (List Int):=(List.range N.length).map fun s=>c.getD s 0 :: XV (N.getD s nz).1 c
def Y2 (N:List Xh) (c:List Int):List Int × Nat:=WE (fun s=>(Y1 N c).getD s []) N.length
def Y3 (N:List Xh):Nat->List Int × Nat
 | 0=>WE (fun s=>(N.map XX).getD s []) N.length
 | k+1=>Y2 N (Y3 N k).1
theorem TU (N:List Xh):∀ k,WE (fun s=>(Y3 N k).1.getD s 0) N.length=Y3 N k
 | 0=>Kx _ _
 | _+1=>Kx _ _
theorem F5 {N:List Xh} {c:List Int} {s:Nat} (h:s<N.length):(Y1 N c).getD s []=c.getD s 0 :: XV (N.getD s nz).1 c:=by
 unfold Y1
 rw [gE2,gAC,List.getElem?_range h];rfl
theorem PM (N:List Xh) (k:Nat):(Y3 N k).2<=(Y3 N (k+1)).2/\((Y3 N k).2=(Y3 N (k+1)).2->Y3 N k=Y3 N (k+1)):=by
 have h:=Nc (f:=fun s=>(Y3 N k).1.getD s 0) (g:=fun s=>(Y1 N (Y3 N k).1).getD s []) (n:=N.length) fun s t hs ht e=>by
  simp only [F5 hs,F5 ht] at e
  exact (List.cons.inj e).1
 rw [TU] at h
 exact h
def ClN (N:List Xh) (p:List Int × Nat):Prop:=∃ k,Y3 N k=p/\Y3 N (k+1)=Y3 N k
theorem ClN.stay {N:List Xh} {k j:Nat} (h:Y3 N (k+1)=Y3 N k) (hj:k<=j):Y3 N j=Y3 N k:=by
 induction j with
 | zero=>
  have:k=0:=by omega
  subst this;rfl
 | succ j ih=>
  by_cases e:k=j+1
  ·rw [e]
  have h1:=ih (by omega)
  show Y2 N (Y3 N j).1=_
  rw [h1]
  exact h
theorem ClN.uniq {N:List Xh} {p q:List Int × Nat} (h1:ClN N p) (h2:ClN N q):p=q:=by
 obtain ⟨k,rfl,hk⟩:=h1
 obtain ⟨j,rfl,hj⟩:=h2
 rcases Nat.le_total k j with h | h
 ·exact (ClN.stay hk h).symm
 exact ClN.stay hj h
theorem KW {N:List Xh} {s:Nat} (h:s<N.length):(N.map XX).getD s []=XX (N.getD s nz):=by simp [gE2,h]
theorem Qw (N:List Xh):∀ k s t,s<N.length->t<N.length->(Y3 N k).1.getD s 0=(Y3 N k).1.getD t 0->XX (N.getD s nz)=XX (N.getD t nz)
 | 0,s,t,hs,ht,h=>by
  have:=((BK (fun s=>(N.map XX).getD s []) N.length).eq s t hs ht).1 h
  simpa only [KW hs,KW ht] using this
 | k+1,s,t,hs,ht,h=>by
  have:=((BK (fun s=>(Y1 N (Y3 N k).1).getD s []) N.length).eq s t hs ht).1 h
  simp only [F5 hs,F5 ht] at this
  exact Qw N k s t hs ht (List.cons.inj this).1
def ak (N:List Xh) (c:List Int) (s:Nat):Int × List Int × List Int:=(c.getD s 0,XX (N.getD s nz),(N.getD s nz).1.map fun a=>c.getD a.2.toNat 0)
def am (N:List Xh) (c:List Int):List Int × Nat:=WE (ak N c) N.length
theorem YN {A B:List Ar} {c:List Int} (he:XK A=XK B):XV A c=XV B c↔A.map (fun a=>c.getD a.2.toNat 0)=B.map fun a=>c.getD a.2.toNat 0:=by
 induction A generalizing B with
 | nil=>
  cases B with
  | nil=>simp
  | cons b B=>simp [XK] at he
 | cons a A ih=>
  cases B with
  | nil=>simp [XK] at he
  | cons b B=>
   simp only [XK,gAV,gAl] at he
   rw [show XV (a :: A) c=[a.1,c.getD a.2.toNat 0]++XV A c from rfl,show XV (b :: B) c=[b.1,c.getD b.2.toNat 0]++XV B c from rfl]
   have:=ih (B:=B) he.2
   simp only [gAm,gBc,gAl,gAV,this,he.1,true_and]
theorem Zl (N:List Xh) (k:Nat):am N (Y3 N k).1=Y3 N (k+1):=by
 refine Nb N.length fun s t hs ht=>?_
 simp only [F5 hs,F5 ht,ak,gBJ,gAl]
 constructor
 ·rintro ⟨h1,h2,h3⟩
  exact ⟨h1,(YN (Sr.1 h2).2.2).2 h3⟩
 rintro ⟨h1,h2⟩
 have h3:=Qw N k s t hs ht h1
 exact ⟨h1,h3,(YN (Sr.1 h3).2.2).1 h2⟩
theorem Zc (N:List Xh):am N (List.replicate N.length 0)=Y3 N 0:=by
 refine Nb N.length fun s t hs ht=>?_
 have z:∀ j,(List.replicate N.length (0:Int)).getD j 0=0:=fun j=>by
  rw [gE2,gAD]
  split <;> rfl
 simp only [KW hs,KW ht,ak,gBJ,z,true_and]
 constructor
 ·exact fun h=>h.1
 intro h
 refine ⟨h,?_⟩
 have h2:=congrArg List.length (Sr.1 h).2.2
 rw [BS,BS] at h2
 simp only [List.map_const']
 rw [h2]
def NumSur (num old:List Int):Prop:=∀ (j:Nat) (s:Int),old[j]?=some s->0<=s/\num[s.toNat]?=some (j:Int)
theorem NumSur.one {num old:List Int} (h:NumSur num old) {t:Int} (h0:0<=t) (h1:t<num.length):NumSur (AM num old t).1 (AM num old t).2:=by
 have htl:t.toNat<num.length:=by omega
 unfold AM
 split
 rotate_left
 ·exact h
 rename_i hneg
 intro j s hs
 simp only at hs ⊢
 rcases gBx j old.length with hj | hj
 ·rw [gEa hj] at hs
  obtain ⟨q1,q2⟩:=h j s hs
  refine ⟨q1,?_⟩
  rw [gAE,if_neg,q2]
  intro e
  rw [e,gE2,q2,gBF] at hneg
  omega
 rw [gEb hj] at hs
 have hj':j=old.length:=by
  have:=(List.getElem?_eq_some_iff.1 hs).1
  simp at this
  omega
 subst hj'
 simp at hs
 subst hs
 exact ⟨h0,by rw [gAE,if_pos rfl,if_pos htl]⟩
theorem KX (r:List Ar) {num old:List Int} (hr:∀ a∈r,0<=a.2/\a.2<num.length) (h:NumSur num old):NumSur (Bp r num old).1 (Bp r num old).2.1:=by
 induction r generalizing num old with
 | nil=>exact h
 | cons a tl ih=>
  have ha:=hr a (by simp)
  exact ih (fun b hb=>by rw [DS];exact hr b (by simp [hb])) (h.one ha.1 ha.2)
theorem LM (num old:List Int) (t:Int) {j:Nat} {s:Int} (h:old[j]?=some s):(AM num old t).2[j]?=some s:=by
 unfold AM
 split
 rotate_left
 ·exact h
 simp only
 rw [gEa (List.getElem?_eq_some_iff.1 h).1,h]
theorem Ht (r:List Ar) {num old:List Int} {j:Nat} {s:Int} (h:old[j]?=some s):(Bp r num old).2.1[j]?=some s:=by
 induction r generalizing num old with
 | nil=>exact h
 | cons a tl ih=>exact ih (LM num old a.2 h)
theorem Iv (r:List Ar) (num old:List Int):old.length<=(Bp r num old).2.1.length:=by
 rcases gBs old.length with h | h
 ·omega
 have:=Ht r (num:=num) (old:=old) (j:=old.length - 1) (s:=old[old.length - 1]) (gE1 (by omega))
 have:=(List.getElem?_eq_some_iff.1 this).1
 omega
theorem NumSur.start {n:Nat} (hn:0<n):NumSur ((List.replicate n (-1)).set 0 0) [0]:=by
 intro j s hs
 cases j with
 | succ j=>simp at hs
 | zero=>
  simp at hs;subst hs
  exact ⟨by omega,by simp [hn]⟩
theorem YW (V:List (List Ar)) (s:Nat):Ci (V.set s [])+(V.getD s []).length=Ci V:=by
 induction V generalizing s with
 | nil=>simp [Ci]
 | cons x r ih=>
  cases s with
  | zero=>simp [Ci];omega
  | succ s=>
   have:=ih s
   simp only [gBi,gAy]
   simp only [Ci,gAV,List.sum_cons] at this ⊢
   omega
theorem YE (l acc:List Ar) (h:SortA acc):SortA (l.foldl (fun acc a=>E5 a acc) acc):=by
 induction l generalizing acc with
 | nil=>exact h
 | cons a r ih=>exact ih _ (I2 h)
structure RowsG (n:Nat) (out:List (List Ar)):Prop where
 so:∀ r∈out,SortA r
 bd:∀ r∈out,∀ a∈r,0<=a.1/\a.1<=1025/\0<=a.2/\a.2<(n:Int)
theorem RowsG.le {n m:Nat} {out:List (List Ar)} (h:RowsG n out) (hm:n<=m):RowsG m out:=⟨h.so,fun r hr a ha=>by have:=h.bd r hr a ha;omega⟩
theorem YX {R:List (List Ar)} {B:Nat} (hb:∀ r∈R,∀ a∈r,0<=a.1/\a.1<=1025/\0<=a.2/\a.2<(R.length:Int)):∀ (f i:Nat) (num old:List Int) (out V:List (List Ar)),NumOk R.length num old->NumInj num old->NumSur num old->i=out.length->i<=old.length->R.length<=f+i->
  RowsG old.length out->V.length=R.length->(∀ s,s<R.length->(∀ j,j<i->old[j]? ≠ some (s:Int))->V.getD s []=R.getD s [])->Ci out+Ci V<=B->
  old.length<=(CO R f i num old out).1.length/\(CO R f i num old out).1.length<=R.length/\RowsG (CO R f i num old out).1.length (CO R f i num old out).1/\Ci (CO R f i num old out).1<=B:=by
 intro f
 induction f with
 | zero=>
  intro i num old out V hN hI hS hi ho hf hG hVl hV ht
  have hle:=hN.le
  simp only [CO]
  exact ⟨by omega,by omega,hG.le (by omega),by omega⟩
 | succ f ih=>
  intro i num old out V hN hI hS hi ho hf hG hVl hV ht
  have hle:=hN.le
  unfold CO
  split
  ·rename_i hs
   have:=List.getElem?_eq_none_iff.1 hs
   exact ⟨by simp only;omega,by simp only;omega,hG.le (by simp only;omega),by simp only;omega⟩
  rename_i s hs
  have hs0:=hN.st s (gE9 hs)
  have hsl:s.toNat<R.length:=by omega
  have hil:=(List.getElem?_eq_some_iff.1 hs).1
  have hg:R.getD s.toNat []=R[s.toNat]:=by rw [gE2,gE1 hsl];rfl
  have hrm:=gE6 hsl
  have hVs:V.getD s.toNat []=R.getD s.toNat []:=hV s.toNat hsl fun j hj he=>by
   have e:((s.toNat:Nat):Int)=s:=by omega
   rw [e] at he
   have q1:=(hS j s he).2
   have q2:=(hS i s hs).2
   rw [q1] at q2
   injection q2 with q2
   omega
  have hts:=YW V s.toNat
  rw [hVs,hg] at hts
  rw [hg]
  have hq:∀ a∈CN R[s.toNat],0<=a.2/\a.2<(num.length:Int):=fun a ha=>by
   have:=hb _ hrm a ((Ce _ a).1 ha);rw [hN.len];omega
  have hqe:∀ a∈CN R[s.toNat],0<=a.1/\a.1<=1025:=fun a ha=>by
   have:=hb _ hrm a ((Ce _ a).1 ha);omega
  have hl3:=Yv R[s.toNat]
  generalize CN R[s.toNat]=q at *
  have hN2:=NumOk.go q [] hN (by rw [<- hN.len];exact hq)
  have hn2:=CE q num old []
  rw [hn2] at hN2 ⊢
  simp only at hN2 ⊢
  have hI2:=H8 q hq hI
  have hS2:=KX q hq hS
  obtain ⟨hm1,hm2⟩:=H9 (old:=old) q hq
  have hgr:=Iv q num old
  have hold:∀ (j:Nat) (x:Int),old[j]?=some x->(Bp q num old).2.1[j]?=some x:=fun j x h=>Ht q h
  have hrow:SortA ((Bp q num old).2.2.foldl (fun acc a=>E5 a acc) []):=YE _ _ List.Pairwise.nil
  have hrl:=Yu (Bp q num old).2.2 []
  have hrb:∀ a∈(Bp q num old).2.2.foldl (fun acc a=>E5 a acc) [],0<=a.1/\a.1<=1025/\0<=a.2/\a.2<((Bp q num old).2.1.length:Int):=fun a ha=>by
   rw [H7] at ha
   rcases ha with ha | ha
   ·simp at ha
   rw [hm1] at ha
   obtain ⟨b,hb1,rfl⟩:=gB7.1 ha
   obtain ⟨x,hx,hp⟩:=hm2 b hb1
   have h1:=hqe b hb1
   have h2:=(List.getElem?_eq_some_iff.1 (hI2.inj _ _ hx hp)).1
   simp only [gE2,hx,gBF]
   omega
  rw [hm1,gAN] at hrl
  simp only [gAO,gBD] at hrl
  rw [<- hm1] at hrl
  generalize (Bp q num old).2.2.foldl (fun acc a=>E5 a acc) []=nr at *
  generalize (Bp q num old).1=num2 at *
  generalize (Bp q num old).2.1=old2 at *
  obtain ⟨k1,k2,k3,k4⟩:=ih (i+1) num2 old2 (out++[nr]) (V.set s.toNat []) hN2 hI2 hS2 (by simp;omega) (by omega) (by omega) ⟨fun r hr=>by
   rcases gB0.1 hr with h | h
   ·exact hG.so r h
   ·simp at h;subst h;exact hrow,fun r hr a ha=>by
   rcases gB0.1 hr with h | h
   ·have:=hG.bd r h a ha;omega
   ·simp at h;subst h;exact hrb a ha⟩ (by simp [hVl]) (fun t htl hto=>by
   have hne:s.toNat ≠ t:=fun e=>hto i (by omega) (by rw [hold i s hs];congr 1;omega)
   rw [gE2,gE5 hne,<- gE2]
   exact hV t htl fun j hj he=>hto j (by omega) (hold j _ he)) (by rw [MA];omega)
  exact ⟨by omega,k2,k3,k4⟩
theorem YQ {R:List (List Ar)} (h:BZ R=true):C7 (AZ R).1=true:=by
 have hp:Ul R:=gE4 h
 have h1:=hp.1
 obtain ⟨k1,k2,k3,k4⟩:=YX (B:=Ci R) hp.2.2.2 R.length 0 _ _ [] R (NumOk.start h1) (NumInj.start h1) (NumSur.start h1) rfl (by simp) (by omega) ⟨by simp,by simp⟩ rfl (fun _ _ _=>rfl) (by simp [Ci])
 have h2:=hp.2.1
 have h3:=hp.2.2.1
 simp only [gAR] at k1
 exact gEg ⟨⟨k1,gBv k2 h2,gBv k4 h3,k3.bd⟩,k3.so⟩
def RowN (R:List (List Ar)) (num:List Int) (s:Int) (r:List Ar):Prop:=
 r=CN ((CN (R.getD s.toNat [])).map fun a=>(a.1,num.getD a.2.toNat 0))/\∀ a∈R.getD s.toNat [],∃ x,num[a.2.toNat]?=some x/\0<=x
theorem RowN.keep {R:List (List Ar)} {num num2:List Int} {s:Int} {r:List Ar} (h:RowN R num s r) (hk:∀ (t:Nat) (x:Int),num[t]?=some x->0<=x->num2[t]?=some x):RowN R num2 s r:=by
 obtain ⟨h1,h2⟩:=h
 refine ⟨?_,fun a ha=>?_⟩
 rotate_left
 ·obtain ⟨x,hx,hp⟩:=h2 a ha
  exact ⟨x,hk _ x hx hp,hp⟩
 rw [h1]
 congr 1
 refine gAU fun a ha=>?_
 obtain ⟨x,hx,hp⟩:=h2 a ((Ce _ a).1 ha)
 rw [gE2,gE2,hx,hk _ x hx hp]
theorem NY {R:List (List Ar)} (hb:∀ r∈R,∀ a∈r,0<=a.2/\a.2<(R.length:Int)):∀ (f i:Nat) (num old:List Int) (out:List (List Ar)),NumOk R.length num old->NumInj num old->NumSur num old->i=out.length->i<=old.length->R.length<=f+i->
  (∀ (j:Nat) (s:Int) (r:List Ar),old[j]?=some s->out[j]?=some r->RowN R num s r)->
  ∃ num',NumOk R.length num' (CO R f i num old out).2/\NumInj num' (CO R f i num old out).2/\NumSur num' (CO R f i num old out).2/\(CO R f i num old out).1.length=(CO R f i num old out).2.length/\(∀ (j:Nat) (s:Int),old[j]?=some s->(CO R f i num old out).2[j]?=some s)/\
   ∀ (j:Nat) (s:Int) (r:List Ar),(CO R f i num old out).2[j]?=some s->(CO R f i num old out).1[j]?=some r->RowN R num' s r:=by
 intro f
 induction f with
 | zero=>
  intro i num old out hN hI hS hi ho hf hR
  have hle:=hN.le
  exact ⟨num,hN,hI,hS,by simp only [CO];omega,fun _ _ h=>h,hR⟩
 | succ f ih=>
  intro i num old out hN hI hS hi ho hf hR
  have hle:=hN.le
  unfold CO
  split
  ·rename_i hs
   have:=List.getElem?_eq_none_iff.1 hs
   exact ⟨num,hN,hI,hS,by simp only;omega,fun _ _ h=>h,hR⟩
  rename_i s hs
  have hs0:=hN.st s (gE9 hs)
  have hsl:s.toNat<R.length:=by omega
  have hil:=(List.getElem?_eq_some_iff.1 hs).1
  have hg:R.getD s.toNat []=R[s.toNat]:=by rw [gE2,gE1 hsl];rfl
  have hrm:=gE6 hsl
  have hq:∀ a∈CN (R.getD s.toNat []),0<=a.2/\a.2<(num.length:Int):=fun a ha=>by
   rw [hg] at ha
   have:=hb _ hrm a ((Ce _ a).1 ha);rw [hN.len];omega
  have hN2:=NumOk.go (CN (R.getD s.toNat [])) [] hN (by rw [<- hN.len];exact hq)
  have hn2:=CE (CN (R.getD s.toNat [])) num old []
  rw [hn2] at hN2 ⊢
  simp only at hN2 ⊢
  have hI2:=H8 _ hq hI
  have hS2:=KX _ hq hS
  obtain ⟨hm1,hm2⟩:=H9 (old:=old) _ hq
  have hgr:=Iv (CN (R.getD s.toNat [])) num old
  have hkp:∀ (t:Nat) (x:Int),num[t]?=some x->0<=x->(Bp (CN (R.getD s.toNat [])) num old).1[t]?=some x:=fun t x h1 h2=>I9 _ (fun a ha=>(hq a ha).1) h1 h2
  have hold:∀ (j:Nat) (x:Int),old[j]?=some x->(Bp (CN (R.getD s.toNat [])) num old).2.1[j]?=some x:=fun j x h=>Ht _ h
  have hnew:RowN R (Bp (CN (R.getD s.toNat [])) num old).1 s ((Bp (CN (R.getD s.toNat [])) num old).2.2.foldl (fun acc a=>E5 a acc) []):=by
   refine ⟨?_,fun a ha=>hm2 a ((Ce _ a).2 ha)⟩
   rw [hm1];rfl
  obtain ⟨num',k1,k2,k3,k4,k5,k6⟩:=ih (i+1) _ _ (out++[(Bp (CN (R.getD s.toNat [])) num old).2.2.foldl (fun acc a=>E5 a acc) []]) hN2 hI2 hS2 (by simp;omega) (by omega) (by omega) (fun j t r hj hr=>by
   rcases gBx j out.length with hlt | hge
   ·rw [gEa hlt] at hr
    have hj2:old[j]?=some t:=by
     have h3:=hold j old[j] (gE1 (by omega))
     rw [hj] at h3
     rw [gE1 (by omega),<- h3]
    exact (hR j t r hj2 hr).keep hkp
   ·have hje:j=i:=by
     have:=(List.getElem?_eq_some_iff.1 hr).1
     simp at this;omega
    subst hje
    rw [gEb hge,hi,gBC] at hr
    simp at hr
    rw [hold j s hs] at hj
    injection hj with hj
    subst hj;subst hr
    exact hnew)
  exact ⟨num',k1,k2,k3,k4,fun j x h=>k5 j x (hold j x h),k6⟩
theorem GJ {R:List (List Ar)} (h1:1<=R.length) (hb:∀ r∈R,∀ a∈r,0<=a.2/\a.2<(R.length:Int)):∃ num,NumOk R.length num (AZ R).2/\NumInj num (AZ R).2/\NumSur num (AZ R).2/\(AZ R).1.length=(AZ R).2.length/\(AZ R).2[0]?=some 0/\∀ (j:Nat) (s:Int) (r:List Ar),(AZ R).2[j]?=some s->(AZ R).1[j]?=some r->RowN R num s r:=by
 obtain ⟨num,k1,k2,k3,k4,k5,k6⟩:=NY hb R.length 0 _ _ [] (NumOk.start h1) (NumInj.start h1) (NumSur.start h1) rfl (by simp) (by omega) (fun j s r _ h=>by simp at h)
 exact ⟨num,k1,k2,k3,k4,k5 0 0 rfl,k6⟩
end Go.Proofs.YtbnabodoabimnaaGreat
