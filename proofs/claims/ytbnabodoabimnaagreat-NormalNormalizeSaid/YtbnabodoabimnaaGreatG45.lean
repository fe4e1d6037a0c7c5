/- Lemmas. -/
import Derived.Test.YtbnabodoabimnaaGreatZk
import Derived.Test.YtbnabodoabimnaaGreatG42
import Derived.Test.YtbnabodoabimnaaGreatG11
import Derived.Test.YtbnabodoabimnaaGreatTj1
import Derived.Test.YtbnabodoabimnaaGreatMD
namespace Go.Proofs.YtbnabodoabimnaaGreat
set_option linter.unusedVariables false
set_option linter.unusedSimpArgs false
open Go.RowKit
set_option maxRecDepth 100000
attribute [local go_sem] lga C.pl C.one
theorem MO (R:List (List Ar)) (L:List Int) (hL:∀ x∈L,0<=x/\x<(R.length:Int)) (hn:R.length<=1000000) (hl:L.length<=1000000):FC Tryz.prog 92 [Ba R,.a (.c (.t 1 (Ac L)))] [] (fun r o=>o=[]/\r=.b true):=by
 refine A7 Tryz.func92 rfl (by rw [Tryz.ntmps92];simp) ?_
 rw [Tryz.ntmps92]
 simp only [B4,Ba]
 (refine VV ?_;(repeat clear hK K);unhygienic intros)
 refine Ab (fun k:Nat=>{ tm:=[(1,.a (.c (.t 1 (Ac L)))),(2,.a (.c (.p 0 0))),(5,.i k)],hp:=[.r ⟨27,1,false,[.t 1 (AK R)]⟩],n:=27,pin:=0 }) (fun k=>k<=L.length) (fun k=>L.length - k) 0 ?_ ?_ ?_
 ·omega
 ·exact W5
 rintro k hk K hK
 by_cases hlt:k<L.length
 rotate_left
 ·have d1:=Yq hlt
  (refine VW (an @d1 @A2) ?_;unhygienic intros)
  refine W3 ?_
  (refine VZ ?_;repeat clear hK K)
  (refine VV ?_;(repeat clear hK K);unhygienic intros)
  exact OP [] Tryz.results92
 have d1:=Yp hlt
 have gx:(Ac L)[k]?=some (.v (.int .i64 L[k])):=by simp [Ac,hlt]
 have hx:=hL _ (gE6 hlt)
 have d2:decide (L[k]<0)=false:=by simp;omega
 have d3:decide (L[k]>=(R.length:Int))=false:=by simp;omega
 (refine VW (an @d1 @A2) ?_;unhygienic intros)
 refine W2 ?_
 (refine VV ?_;unhygienic intros)
 refine Yr 14 [(0,0),(1,0),(2,0),(3,1),(4,0),(5,0),(6,0),(7,0),(8,0),(9,1),(10,0),(11,1),(12,0),(13,0),(14,2)] ?_
 (refine VS (an @gx (an @A2 (an @d2 (an @d3 @A6)))) ?_;repeat clear hK K)
 refine W3 ?_
 (refine VV ?_;(repeat clear hK K);unhygienic intros)
 refine W4 ?_
 refine hK _ (k+1) (by omega) (by omega) ?_
 exact W5

def Wm (B:List Bool):List C:=B.map fun b=>C.v (.bool b)
theorem CM (B:List Bool):(Wm B).length=B.length:=by simp [Wm]
theorem J0 {B:List Bool} {i:Nat} {b:Bool} (h:B[i]?=some b):(Wm B)[i]?=some (.v (.bool b)):=by simp [Wm,h]
theorem FV (B:List Bool) (i:Nat) (b:Bool):(Wm B).set i (.v (.bool b))=Wm (B.set i b):=by simp [Wm,gAY]
theorem C8 (f:List Nat) (B:List Bool):(Wm B).map (C.ren f)=Wm B:=by simp [Wm,C.ren,gAb]
def H6 (t:Bool) (r:List Ar):List Ar:=r.filter fun a=>!t || a.1 == 0
def LT (t:Bool) (R:List (List Ar)) (v:Nat):List Nat:=(H6 t (R.getD v [])).map fun a=>a.2.toNat
def Bx (B:List Bool) (u:Nat):Bool:=B.getD u false
structure Rs (E:Nat->List Nat) (n:Nat) (F:List Nat) (B:List Bool) (Q:List Nat):Prop where
 len:B.length=n
 snd:∀ u,Bx B u=true->∃ v∈F,Rc E v u
 q:∀ u∈Q,u<n/\∃ v∈F,Rc E v u
 cl:∀ u,Bx B u=true->∀ w∈E u,Bx B w=true\/w∈Q
 st:∀ v∈F,Bx B v=true\/v∈Q
theorem P5 {B:List Bool} {u:Nat} (h:u<B.length) (w:Nat):Bx (B.set u true) w=if w=u then true else Bx B w:=by
 unfold Bx
 simp only [gE2]
 by_cases e:w=u
 ·subst e;rw [if_pos rfl,gEc h];rfl
 rw [if_neg e,gE5 (fun h=>e h.symm)]
variable {E : Nat -> List Nat} {n u : Nat} {F : List Nat} {B : List Bool} {Q : List Nat}
theorem Rs.start (hF:∀ v∈F,v<n):Rs E n F (List.replicate n false) F:=by
 have e:∀ u,Bx (List.replicate n false) u=false:=fun u=>by
  unfold Bx;rw [gE2,gAD];split <;> rfl
 exact ⟨by simp,fun u h=>(by rw [e] at h;cases h),fun u h=>⟨hF u h,u,h,.refl _⟩,fun u h=>(by rw [e] at h;cases h),fun v h=>.inr h⟩
theorem Rs.old (h:Rs E n F B (Q++[u])) (hs:Bx B u=true):Rs E n F B Q:=by
 refine ⟨h.len,h.snd,fun w hw=>h.q w (gB1 _ hw),fun w hw x hx=>?_,fun v hv=>?_⟩
 rotate_left
 ·rcases h.st v hv with h1 | h1
  ·exact .inl h1
  rcases gB0.1 h1 with h1 | h1
  ·exact .inr h1
  simp at h1;subst h1;exact .inl hs
 rcases h.cl w hw x hx with h1 | h1
 ·exact .inl h1
 rcases gB0.1 h1 with h1 | h1
 ·exact .inr h1
 simp at h1;subst h1;exact .inl hs
theorem Rs.new (h:Rs E n F B (Q++[u])) (hE:∀ w∈E u,w<n):Rs E n F (B.set u true) (Q++E u):=by
 have hu:=h.q u (by simp)
 have hs:=P5 (B:=B) (u:=u) (by rw [h.len];exact hu.1)
 refine ⟨by rw [gAQ];exact h.len,fun w hw=>?_,fun w hw=>?_,fun w hw x hx=>?_,fun v hv=>?_⟩
 rotate_left 3
 ·rw [hs]
  by_cases e2:v=u
  ·left;rw [if_pos e2]
  rw [if_neg e2]
  rcases h.st v hv with h1 | h1
  ·exact .inl h1
  rcases gB0.1 h1 with h1 | h1
  ·exact .inr (gB1 _ h1)
  simp at h1;exact absurd h1 e2
 ·rw [hs] at hw
  split at hw
  ·rename_i e;rw [e];exact hu.2
  exact h.snd w hw
 ·rcases gB0.1 hw with h1 | h1
  ·exact h.q w (gB1 _ h1)
  obtain ⟨v,q1,q2⟩:=hu.2
  exact ⟨hE w h1,v,q1,q2.tail h1⟩
 rw [hs] at hw ⊢
 by_cases e2:x=u
 ·left;rw [if_pos e2]
 rw [if_neg e2]
 split at hw
 ·rename_i e;subst e;exact .inr (List.mem_append_right _ hx)
 rcases h.cl w hw x hx with h1 | h1
 ·exact .inl h1
 rcases gB0.1 h1 with h1 | h1
 ·exact .inr (gB1 _ h1)
 simp at h1;exact absurd h1 e2
theorem Rs.done (h:Rs E n F B []) (u:Nat):Bx B u=true↔∃ v∈F,Rc E v u:=by
 refine ⟨h.snd u,fun ⟨v,hv,hr⟩=>?_⟩
 induction hr with
 | refl=>exact (h.st v hv).resolve_right (by simp)
 | tail _ he ih=>exact (h.cl _ (ih ⟨v,hv,‹_›⟩) _ he).resolve_right (by simp)
theorem Lr {B:List Bool} {u:Nat} (h:u<B.length) (hb:B[u]=false):(B.set u true).count false+1=B.count false:=by
 induction B generalizing u with
 | nil=>simp at h
 | cons x r ih=>
  cases u with
  | zero=>simp at hb;subst hb;simp
  | succ u=>
   rw [gBi]
   have:=ih (u:=u) (by simpa using h) (by simpa using hb)
   rw [List.count_cons,List.count_cons]
   omega

theorem MP (t:Bool) (r:List Ar) (a:Ar):H6 t (r++[a])=H6 t r++(if !t || a.1 == 0 then [a] else []):=by
 unfold H6
 rw [List.filter_append]
 congr 1
 rw [List.filter_cons,List.filter_nil]
theorem Rj (Q:List Nat) (u:Nat) (J:List Int):A9 ((Q++[u]).map Int.ofNat++J)=A9 (Q.map Int.ofNat++((u:Int) :: J)):=by
 rw [gAT,gAj];rfl
theorem Rk (Q:List Nat) (u:Nat) (J:List Int):(A9 (Q.map Int.ofNat++((u:Int) :: J)))[Q.length]?=some (.v (.int .i64 u)):=by
 refine At ?_
 rw [gEb (by simp),gAN,gBC];rfl
theorem P6 {c0 c1 q e n w m:Nat} (h1:c1+1=c0) (h2:c0*w+(q+1)<=n*w+m) (h3:e+1<=w):c1*w+(q+e)<=n*w+m:=by
 subst h1
 rw [Nat.add_mul,Nat.one_mul] at h2
 generalize c1*w=x at *
 generalize n*w=y at *
 omega
set_option maxHeartbeats 8000000 in
theorem MQ (R:List (List Ar)) (F:List Nat) (t:Bool) (hv:C7 R=true) (hF:∀ v∈F,v<R.length) (hFl:F.length<=1000000) (hn:R.length<=1000000) (hr:∀ r∈R,r.length<=1000000):FC Tryz.prog 55 [Ba R,.a (.c (.t 1 (Ac (F.map Int.ofNat)))),.b t] [] (fun r o=>∃ B:List Bool,B.length=R.length/\(∀ u,Bx B u=true↔∃ v∈F,Rc (LT t R) v u)/\∃ L,L=((List.range R.length).filter (Bx B)).map Int.ofNat/\o=[Be L]/\r=.a (.c (.s 0 L.length))):=by
 refine A7 Tryz.func55 rfl (by rw [Tryz.ntmps55];simp) ?_
 rw [Tryz.ntmps55]
 simp only [B4,Ba]
 have hlo:BZ R=true:=gEg (gE4 hv).1
 have hbd:=(gE4 hlo).2.2.2
 have hFi:∀ x∈F.map Int.ofNat,0<=x/\x<(R.length:Int):=fun x h=>by
  obtain ⟨u,hu,rfl⟩:=gB7.1 h
  have:=hF u hu
  simp only [Int.ofNat_eq_natCast]
  omega
 (refine VV ?_;unhygienic intros)
 refine Yt (Db R (by omega) (fun r h=>by have:=hr r h;omega)) ?_
 (refine VW (an @hv @gA9) ?_;unhygienic intros)
 (refine AY rfl rfl (by simp only [go_sem] <;> rfl) ?_;intro K1 hK1;refine (Av (ids:=[]) (MO R (F.map Int.ofNat) hFi hn (by rw [gAN];exact hFl)) rfl rfl (by simp only [go_sem]) (by kernel_rfl) (by (simp only [gAk,go_sem]) <;> rfl) ?_).stp)
 rintro _ _ ⟨rfl,rfl⟩
 (refine W1 ?_;clear hK1 K1)
 (refine VW @gA9 ?_;unhygienic intros)
 refine W3 ?_
 (refine VW (an @A6 (an @Dz (an @A2 (an @gAN.{0,0} (an @gAJ.{0} @gAO.{0}))))) ?_;(repeat clear hK K);unhygienic intros)
 have e0:List.replicate R.length (C.v (.bool false))=Wm (List.replicate R.length false):=by simp [Wm]
 rw [e0]
 refine As (A8 [0,1,3] rfl rfl) ?_
 (try simp only [Yn,go_sem])
 (try simp only [A5,C8])
 have hAd:∀ u,u<R.length->∀ w∈LT t R u,w<R.length:=fun u hu w hw=>by
  unfold LT at hw
  rw [gE2,gE1 hu,gBF] at hw
  obtain ⟨a,ha,rfl⟩:=gB7.1 hw
  have h2:=hbd _ (gE6 hu) a (gB4.1 ha).1
  omega
 refine Ab (fun x:List Bool × List Nat × List Int=>{ tm:=[(2,.b t),(3,.a (.c (.p 0 0))),(7,.a (.c (.s 1 R.length))),(8,.a (.c (.s 2 x.2.1.length)))],hp:=[.r ⟨27,1,false,[.t 1 (AK R)]⟩,.r ⟨4,1,true,Wm x.1⟩,.r ⟨3,1,true,A9 (x.2.1.map Int.ofNat++x.2.2)⟩],n:=101,pin:=0 }) (fun x=>Rs (LT t R) R.length F x.1 x.2.1/\x.1.count false*1000001+x.2.1.length<=R.length*1000001+F.length) (fun x=>x.1.count false*1000001+x.2.1.length) (List.replicate R.length false,F,[]) ?_ ?_ ?_
 ·exact ⟨Rs.start hF,by simp⟩
 ·simp only [gAk]
  exact W5
 rintro ⟨B,Q,J⟩ ⟨hR,hM⟩ K hK
 simp only at hR hM
 have hBl:=hR.len
 rcases List.eq_nil_or_concat Q with hQ | ⟨Q',u,hQ⟩
 ·subst hQ
  have d1:decide (((0:Nat):Int) > 0)=false:=rfl
  (refine VW @d1 ?_;unhygienic intros)
  refine W3 ?_
  (refine VZ ?_;repeat clear hK K)
  (refine VV ?_;(repeat clear hK K);unhygienic intros)
  refine As (BJ 11 3 1 ?_) ?_
  ·simp only [go_sem]
  refine As (A8 [0,1,3] rfl rfl) ?_
  (try simp only [Yn,go_sem])
  (try simp only [A5,C8])
  refine Ab (fun k:Nat=>{ tm:=[(7,.a (.c (.s 1 R.length))),(11,.a (.c (.s 2 ((List.range k).filter (Bx B)).length))),(12,.i k)],hp:=[.r ⟨27,1,false,[.t 1 (AK R)]⟩,.r ⟨4,1,true,Wm B⟩,.r ⟨3,1,true,A9 (((List.range k).filter (Bx B)).map Int.ofNat)⟩],n:=101,pin:=0 }) (fun k=>k<=R.length) (fun k=>R.length - k) 0 ?_ ?_ ?_
  ·omega
  ·exact W5
  rintro k hk K hK
  by_cases hlt:k<R.length
  rotate_left
  ·have d2:=Yq hlt
   have hke:k=R.length:=by omega
   rw [hke] at d2
   rw [hke]
   (refine VW (an @d2 (an @CM @hBl)) ?_;unhygienic intros)
   refine W3 ?_
   (refine VZ ?_;repeat clear hK K)
   (refine VV ?_;(repeat clear hK K);unhygienic intros)
   refine W7 [2] Tryz.results55 @A5 ?_
   exact ⟨B,hBl,fun u=>hR.done u,_,rfl,rfl,by simp⟩
  have d2:=Yp hlt
  have gb:(Wm B)[k]?=some (.v (.bool B[k])):=J0 (gE1 (by omega))
  have hsB:Bx B k=B[k]:=by unfold Bx;rw [gE2,gE1 (by omega)];rfl
  have hrg:(List.range (k+1)).filter (Bx B)=(List.range k).filter (Bx B)++(if Bx B k then [k] else []):=by
   rw [List.range_succ,List.filter_append]
   congr 1
   rw [List.filter_cons,List.filter_nil]
  have hfl:((List.range k).filter (Bx B)).length<=k:=by
   have:=gAM (Bx B) (List.range k)
   simpa using this
  have op1:=Eh ((List.range k).filter (Bx B)) k []
  simp only [gAk] at op1
  generalize hQ:(List.range k).filter (Bx B)=Qk at *
  (refine VW (an @d2 (an @CM @hBl)) ?_;(repeat clear hK K);unhygienic intros)
  refine W2 ?_
  cases hb:B[k] with
  | true=>
   rw [hsB,hb] at hrg
   rw [hb] at gb
   (refine VW (an @gb (an @CM @hBl)) ?_;unhygienic intros)
   refine W2 ?_
   (refine VW (an @op1 (an @A4 (an @gAN.{0,0} @gBu))) ?_;(repeat clear hK K);unhygienic intros)
   refine W4 ?_
   refine hK _ (k+1) (by omega) (by omega) ?_
   refine Le.trans (A8 [0,1,4] rfl rfl) ?_
   (try simp only [Yn,go_sem])
   (try simp only [A5,C8])
   rw [List.range_succ] at hrg
   simp only [hrg,if_true,gAT,gAV,gAX,gAI,gAJ,gAO]
   exact W5
  | false=>
   rw [hsB,hb] at hrg
   rw [hb] at gb
   (refine VW (an @gb (an @CM @hBl)) ?_;unhygienic intros)
   refine W3 ?_
   (refine VV ?_;(repeat clear hK K);unhygienic intros)
   refine W4 ?_
   refine hK _ (k+1) (by omega) (by omega) ?_
   simp only [hrg,gA5,if_false,gAk]
   exact W5
 rw [List.concat_eq_append] at hQ
 subst hQ
 have hKo:=hK
 have hQl:(Q'++[u]).length=Q'.length+1:=by simp
 rw [hQl] at hM
 have d1:decide (((Q'.length+1:Nat):Int) > 0)=true:=by simp
 have e5:((Q'.length+1:Nat):Int) - 1=(Q'.length:Int):=by omega
 have gt:=Rk Q' u J
 have hul:=(hR.q u (by simp)).1
 have gb:(Wm B)[u]?=some (.v (.bool B[u])):=J0 (gE1 (by omega))
 have hsB:Bx B u=B[u]:=by unfold Bx;rw [gE2,gE1 (by omega)];rfl
 have hcl:Q'.length+1<=(Q'.map Int.ofNat++((u:Int) :: J)).length:=by simp
 rw [Rj,hQl]
 (refine VW @d1 ?_;unhygienic intros)
 refine W2 ?_
 (refine VW (an @e5 (an @gt (an @A4 (an @CM (an @hBl @gb))))) ?_;(repeat clear hK K);unhygienic intros)
 cases hb:B[u] with
 | true=>
  rw [hb] at hsB
  (refine Ah ?_;intro X Y hX hY;simp only [go_sem,hb])
  refine hX ?_
  clear hX hY X Y
  (refine Du ?_;simp only [Ad,Ay,reduceIte,Nat.reduceEqDiff])
  refine hKo _ (B,Q',(u:Int) :: J) ⟨hR.old hsB,by simp only;omega⟩ (by simp only [hQl];omega) ?_
  exact W5
 | false=>
  have hcs:=Lr (B:=B) (u:=u) (by omega) hb
  (refine Ah ?_;intro X Y hX hY;simp only [go_sem,hb])
  refine hY ?_
  clear hX hY X Y
  (refine Cu (an @CM (an @hBl @FV)) ?_;(repeat clear hK K);unhygienic intros)
  have hgR:=gE1 hul
  have hrl:=hr _ (gE6 hul)
  have hbu:=hbd _ (gE6 hul)
  have hEu:LT t R u=(H6 t R[u]).map fun a=>a.2.toNat:=by
   unfold LT
   rw [gE2,hgR];rfl
  have hnew:=hR.new (hAd u hul)
  generalize hrr:R[u]=r at *
  have hql1:Q'.length<=1000002000001:=by omega
  refine Ab (fun x:Nat × List Int=>{ tm:=[(2,.b t),(3,.a (.c (.p 0 0))),(7,.a (.c (.s 1 R.length))),(8,.a (.c (.s 2 (Q'++(H6 t (r.take x.1)).map fun a=>a.2.toNat).length))),(9,.i u),(10,.i x.1)],hp:=[.r ⟨27,1,false,[.t 1 (AK R)]⟩,.r ⟨4,1,true,Wm (B.set u true)⟩,.r ⟨3,1,true,A9 ((Q'++(H6 t (r.take x.1)).map fun a=>a.2.toNat).map Int.ofNat++x.2)⟩],n:=101,pin:=0 }) (fun x=>x.1<=r.length) (fun x=>r.length - x.1) (0,(u:Int) :: J) ?_ ?_ ?_
  ·simp only;omega
  ·simp only [gBq,H6,List.filter_nil,gAX,gAk]
   exact W5
  rintro ⟨k,J2⟩ hk K hK
  simp only at hk
  have hQk:((H6 t (r.take k)).map fun a=>a.2.toNat).length<=k:=by
   rw [gAN]
   refine gBv (gAM _ _) (by simp;omega)
  by_cases hlt:k<r.length
  rotate_left
  ·have d2:=Yq hlt
   have hke:r.take k=r:=gE7 (by omega)
   rw [hke,<- hEu]
   (refine VW (an @d2 (an @A6 (an (Ao hgR) (an @A3 @Aq)))) ?_;(repeat clear hK K);unhygienic intros)
   refine W3 ?_
   (refine Du ?_;simp only [Ad,Ay,reduceIte,Nat.reduceEqDiff])
   have hEl:(LT t R u).length<=1000000:=by
    rw [hEu,gAN]
    exact gBv (gAM _ _) hrl
   refine hKo _ (B.set u true,Q'++LT t R u,J2) ⟨hnew,?_⟩ ?_ ?_
   rotate_left
   ·simp only [gAI,hQl];omega
   ·exact W5
   simp only [gAI]
   exact P6 hcs hM (Nat.succ_le_succ hEl)
  have d2:=Yp hlt
  have ha0:=DQ hlt
  have ha1:=Fq hlt
  have hb2:=hbu _ (gE6 hlt)
  obtain ⟨tn,htn⟩:∃ tn:Nat,r[k].2=tn:=⟨r[k].2.toNat,by omega⟩
  rw [htn] at ha1
  have hsn:H6 t (r.take (k+1))=H6 t (r.take k)++(if !t || r[k].1 == 0 then [r[k]] else []):=by
   rw [gE8 hlt,MP]
  have htm:(r[k].2.toNat)=tn:=by rw [htn];rfl
  have op1:=Eh (Q'++(H6 t (r.take k)).map fun a=>a.2.toNat) tn J2
  have hQt:(Q'++(H6 t (r.take k)).map fun a=>a.2.toNat).length<=1000002000001:=by rw [gAI];omega
  generalize hQ0:(Q'++(H6 t (r.take k)).map fun a=>a.2.toNat)=Qk at *
  have hQle:Qk.length<=(Qk.map Int.ofNat++J2).length:=by simp
  cases t with
  | false=>
   rw [if_pos (by rfl)] at hsn
   (refine VW (an @d2 (an @A6 (an (Ao hgR) (an @A3 @Aq)))) ?_;unhygienic intros)
   refine W2 ?_
   (refine VW (an @gA8 (an @ha0 (an @ha1 (an @A6 (an (Ao hgR) (an @A3 (an @Aq (an @op1 @A4)))))))) ?_;unhygienic intros)
   refine W2 ?_
   (refine VW (an @ha0 (an @ha1 (an @A6 (an (Ao hgR) (an @A3 (an @Aq (an @op1 @A4))))))) ?_;(repeat clear hK K);unhygienic intros)
   refine W4 ?_
   refine hK _ (k+1,[]) (by simp only;omega) (by simp only;omega) ?_
   refine Le.trans (A8 [0,1,4] rfl rfl) ?_
   (try simp only [Yn,go_sem])
   (try simp only [A5,C8])
   rw [hsn]
   simp only [gAT,gAV,gAX,<- gAj,htm,<- hQ0,gAI,gAJ,gAO]
   exact W5
  | true=>
   cases q1:(r[k].1 == 0) with
   | true=>
    rw [if_pos (by rw [q1];rfl)] at hsn
    (refine VW (an @d2 (an @A6 (an (Ao hgR) (an @A3 @Aq)))) ?_;unhygienic intros)
    refine W2 ?_
    (refine VW (an @gA9 (an @q1 (an @ha0 (an @ha1 (an @A6 (an (Ao hgR) (an @A3 (an @Aq (an @op1 @A4))))))))) ?_;unhygienic intros)
    refine W2 ?_
    (refine VW (an @ha0 (an @ha1 (an @A6 (an (Ao hgR) (an @A3 (an @Aq (an @op1 @A4))))))) ?_;(repeat clear hK K);unhygienic intros)
    refine W4 ?_
    refine hK _ (k+1,[]) (by simp only;omega) (by simp only;omega) ?_
    refine Le.trans (A8 [0,1,4] rfl rfl) ?_
    (try simp only [Yn,go_sem])
    (try simp only [A5,C8])
    rw [hsn]
    simp only [gAT,gAV,gAX,<- gAj,htm,<- hQ0,gAI,gAJ,gAO]
    exact W5
   | false=>
    rw [if_neg (by rw [q1];simp),gAk] at hsn
    (refine VW (an @d2 (an @A6 (an (Ao hgR) (an @A3 @Aq)))) ?_;unhygienic intros)
    refine W2 ?_
    (refine VW (an @gA9 (an @q1 (an @ha0 (an @ha1 (an @A6 (an (Ao hgR) (an @A3 (an @Aq (an @op1 @A4))))))))) ?_;unhygienic intros)
    refine W3 ?_
    (refine VV ?_;(repeat clear hK K);unhygienic intros)
    refine W4 ?_
    refine hK _ (k+1,J2) (by simp only;omega) (by simp only;omega) ?_
    simp only [hsn,hQ0]
    exact W5
end Go.Proofs.YtbnabodoabimnaaGreat
namespace Go.Proofs.YtbnabodoabimnaaGreat
set_option linter.unusedVariables false
set_option linter.unusedSimpArgs false
def CN (r:List Ar):List Ar:=r.foldl (fun acc a=>E5 a acc) []
def AM (num old:List Int) (t:Int):List Int × List Int:=if num.getD t.toNat 0<0 then (num.set t.toNat old.length,old++[t]) else (num,old)
def FW:List Ar->List Int->List Int->List Ar->List Int × List Int × List Ar
 | [],num,old,nxt=>(num,old,nxt)
 | a :: tl,num,old,nxt=>FW tl (AM num old a.2).1 (AM num old a.2).2 (E5 (a.1,(AM num old a.2).1.getD a.2.toNat 0) nxt)
def CO (rows:List (List Ar)):Nat->Nat->List Int->List Int->List (List Ar)->List (List Ar) × List Int
 | 0,_,_,old,out=>(out,old)
 | f+1,i,num,old,out=>match old[i]? with
  | none=>(out,old)
  | some s=>CO rows f (i+1) (FW (CN (rows.getD s.toNat [])) num old []).1 (FW (CN (rows.getD s.toNat [])) num old []).2.1 (out++[(FW (CN (rows.getD s.toNat [])) num old []).2.2])
def AZ (rows:List (List Ar)):List (List Ar) × List Int:=CO rows rows.length 0 ((List.replicate rows.length (-1)).set 0 0) [0] []

theorem H7 (r acc:List Ar) (a:Ar):a∈r.foldl (fun acc a=>E5 a acc) acc↔a∈acc\/a∈r:=by
 induction r generalizing acc with
 | nil=>simp
 | cons x xs ih=>rw [gAw,ih,Fo,gB2,or_comm (a:=a=x),or_assoc]
theorem Ce (r:List Ar) (a:Ar):a∈CN r↔a∈r:=by unfold CN;rw [H7];simp
theorem Yu (r acc:List Ar):(r.foldl (fun acc a=>E5 a acc) acc).length<=acc.length+r.length:=by
 induction r generalizing acc with
 | nil=>simp
 | cons x xs ih=>rw [gAw,gAJ];have:=ih (E5 x acc);have:=JZ x acc;omega
theorem Yv (r:List Ar):(CN r).length<=r.length:=by have:=Yu r [];simpa [CN] using this

structure NumOk (n:Nat) (num old:List Int):Prop where
 len:num.length=n
 rng:∀ x∈num,-1<=x/\x<n
 st:∀ s∈old,0<=s/\s<n
 cnt:old.length+num.countP (fun x=>decide (x<0))=n
theorem Lt {p:Int->Bool} {l:List Int} {i:Nat} {x y:Int} (h:l[i]?=some x) (hx:p x=true) (hy:p y=false):(l.set i y).countP p+1=l.countP p:=by
 induction l generalizing i with
 | nil=>simp at h
 | cons z zs ih=>
  cases i with
  | zero=>simp at h;subst h;simp [gAo,hx,hy]
  | succ i=>
   simp only [List.getElem?_cons_succ] at h
   have:=ih h
   simp only [gBi,gAo]
   omega
theorem NumOk.le {n:Nat} {num old:List Int} (h:NumOk n num old):old.length<=n:=by have:=h.cnt;omega
theorem NumOk.get {n:Nat} {num old:List Int} (h:NumOk n num old) {t:Int} (h0:0<=t) (h1:t<n):∃ x,num[t.toNat]?=some x/\num.getD t.toNat 0=x /\ -1<=x/\x<n:=by
 have hl:t.toNat<num.length:=by rw [h.len];omega
 exact ⟨num[t.toNat],gE1 hl,by simp [hl],h.rng _ (gE6 hl)⟩
theorem NumOk.one {n:Nat} {num old:List Int} (h:NumOk n num old) {t:Int} (h0:0<=t) (h1:t<n):NumOk n (AM num old t).1 (AM num old t).2:=by
 obtain ⟨x,hx,hd,hb⟩:=h.get h0 h1
 unfold AM
 rw [hd]
 split
 rotate_left
 ·exact h
 rename_i hneg
 have hc:=Lt (p:=fun x=>decide (x<0)) (y:=(old.length:Int)) hx (by simpa using hneg) (by simp)
 have hcnt:=h.cnt
 refine ⟨by simp [h.len],fun y hy=>?_,fun s hs=>?_,by simp;omega⟩
 ·rcases gB9 hy with hy | hy
  ·exact h.rng y hy
  subst hy;omega
 rcases gB0.1 hs with hs | hs
 ·exact h.st s hs
 simp at hs;subst hs;exact ⟨h0,h1⟩
theorem NumOk.go {n:Nat}:∀ (r:List Ar) {num old:List Int} (nxt:List Ar),NumOk n num old->(∀ a∈r,0<=a.2/\a.2<n)->NumOk n (FW r num old nxt).1 (FW r num old nxt).2.1
 | [],_,_,_,h,_=>h
 | a :: tl,_,_,nxt,h,hr=>NumOk.go tl _ (h.one (hr a (by simp)).1 (hr a (by simp)).2) (fun b hb=>hr b (gEf _ hb))
theorem NumOk.start {n:Nat} (hn:0<n):NumOk n ((List.replicate n (-1)).set 0 0) [0]:=by
 obtain ⟨k,rfl⟩:∃ k,n=k+1:=⟨n - 1,by omega⟩
 refine ⟨by simp,fun x hx=>?_,fun s hs=>?_,?_⟩
 rotate_left
 ·simp at hs;subst hs;omega
 ·simp [gBg,List.countP_replicate];omega
 rcases gB9 hx with h | h
 ·rw [(List.mem_replicate.1 h).2];omega
 subst h;omega


theorem Lu {rows:List (List Ar)} {f i:Nat} {num old:List Int} {out:List (List Ar)} (h:old.length<=i):CO rows f i num old out=(out,old):=by
 cases f with
 | zero=>rfl
 | succ f=>simp [CO,gAB h]
theorem Lw {rows:List (List Ar)} {n i:Nat} {num old:List Int} {out:List (List Ar)} {s:Int} {r:List Ar} (hi:i<n) (hs:old[i]?=some s) (hr:rows[s.toNat]?=some r) {row:List Ar} (hrow:row=CN r):
  CO rows (n - i) i num old out=CO rows (n - (i+1)) (i+1) (FW row num old []).1 (FW row num old []).2.1 (out++[(FW row num old []).2.2]):=by
 obtain ⟨m,hm⟩:∃ m,n - i=m+1:=⟨n - i - 1,by omega⟩
 have hm':n - (i+1)=m:=by omega
 rw [hm,hm',CO,hs,hrow]
 have:rows.getD s.toNat []=r:=by simp [List.getD,hr]
 simp only [this]

theorem YT {tl:List Ar} {num old:List Int} {nxt:List Ar} {e x:Int} {tn L:Nat} (hx:num[tn]?=some x) (hneg:x<0) (hL:old.length=L):
  FW ((e,(tn:Int)) :: tl) num old nxt=FW tl (num.set tn L) (old++[(tn:Int)]) (E5 (e,(L:Int)) nxt):=by
 have hl:tn<num.length:=(List.getElem?_eq_some_iff.1 hx).1
 have h1:AM num old (tn:Int)=(num.set tn L,old++[(tn:Int)]):=by
  simp only [AM,gAd,List.getD,hx,gBF,if_pos hneg,hL]
 simp only [FW,h1,gAd]
 congr 3
 simp [List.getD,hl]
theorem YU {tl:List Ar} {num old:List Int} {nxt:List Ar} {e x:Int} {tn:Nat} (hx:num[tn]?=some x) (hpos:¬ x<0):
  FW ((e,(tn:Int)) :: tl) num old nxt=FW tl num old (E5 (e,x) nxt):=by
 have h1:AM num old (tn:Int)=(num,old):=by
  simp only [AM,gAd,List.getD,hx,gBF,if_neg hpos]
 simp only [FW,h1,gAd,List.getD,hx,gBF]


theorem DR:∀ {l m:List Ar},SortA l->SortA m->(∀ a,a∈l↔a∈m)->l=m
 | [],[],_,_,_=>rfl
 | [],b :: m,_,_,h=>by have:=(h b).2 (by simp);simp at this
 | a :: l,[],_,_,h=>by have:=(h a).1 (by simp);simp at this
 | a :: l,b :: m,hl,hm,h=>by
  have hl':=gBe.1 hl
  have hm':=gBe.1 hm
  have hab:a=b:=by
   rcases gB2.1 ((h a).1 (by simp)) with e | e
   ·exact e
   ·rcases gB2.1 ((h b).2 (by simp)) with e' | e'
    ·exact e'.symm
    ·have h1:=hm'.1 a e
     have h2:=hl'.1 b e'
     rw [DA] at h1 h2;omega
  subst hab
  congr 1
  refine DR hl'.2 hm'.2 fun c=>⟨fun hc=>?_,fun hc=>?_⟩
  ·rcases gB2.1 ((h c).1 (gEf _ hc)) with e | e
   ·subst e;have:=hl'.1 c hc;rw [GY] at this;cases this
   ·exact e
  ·rcases gB2.1 ((h c).2 (gEf _ hc)) with e | e
   ·subst e;have:=hm'.1 c hc;rw [GY] at this;cases this
   ·exact e
theorem BT (r:List Ar):SortA (CN r):=by
 unfold CN
 have:∀ (l acc:List Ar),SortA acc->SortA (l.foldl (fun acc a=>E5 a acc) acc):=by
  intro l
  induction l with
  | nil=>intro acc h;exact h
  | cons x xs ih=>intro acc h;exact ih _ (I2 h)
 exact this r [] List.Pairwise.nil
def Bp : List Ar -> List Int -> List Int -> List Int × List Int × List Ar
 | [], num, old => (num, old, [])
 | a :: tl, num, old =>
  ((Bp tl (AM num old a.2).1 (AM num old a.2).2).1, (Bp tl (AM num old a.2).1 (AM num old a.2).2).2.1,
   (a.1, (AM num old a.2).1.getD a.2.toNat 0) :: (Bp tl (AM num old a.2).1 (AM num old a.2).2).2.2)
theorem CE (r:List Ar) (num old:List Int) (nxt:List Ar):
  FW r num old nxt=((Bp r num old).1,(Bp r num old).2.1,(Bp r num old).2.2.foldl (fun acc a=>E5 a acc) nxt):=by
 induction r generalizing num old nxt with
 | nil=>rfl
 | cons a tl ih=>simp only [FW,Bp,ih,gAw]
structure NumInj (num old:List Int):Prop where
 inj:∀ (t:Nat) (x:Int),num[t]?=some x->0<=x->old[x.toNat]?=some (t:Int)
theorem NumInj.one {num old:List Int} (h:NumInj num old) {t:Int} (h0:0<=t) (h1:t<num.length):NumInj (AM num old t).1 (AM num old t).2:=by
 unfold AM
 split
 rotate_left
 ·exact h
 refine ⟨fun s x hx hp=>?_⟩
 rw [gAE] at hx
 split at hx
 ·rename_i hs
  rw [if_pos (by omega)] at hx
  injection hx with hx
  subst hx
  simp
  omega
 have:=h.inj s x hx hp
 rw [gEa (List.getElem?_eq_some_iff.1 this).1]
 exact this
theorem DS (num old:List Int) (t:Int):(AM num old t).1.length=num.length:=by unfold AM;split <;> simp
theorem J1 {num old:List Int} {t:Int} {s:Nat} {x:Int} (h0:0<=t) (hx:num[s]?=some x) (hp:0<=x):(AM num old t).1[s]?=some x:=by
 unfold AM
 split
 rotate_left
 ·exact hx
 rename_i hneg
 simp only [gAE]
 split
 rotate_left
 ·exact hx
 rename_i hs
 subst hs
 simp [List.getD,hx] at hneg
 omega
theorem MR {num old:List Int} {t:Int} (h0:0<=t) (h1:t<num.length):∃ x,(AM num old t).1[t.toNat]?=some x/\0<=x:=by
 unfold AM
 split
 ·exact ⟨_,by rw [gAE,if_pos rfl,if_pos (by omega)],by omega⟩
 rename_i hneg
 have hl:t.toNat<num.length:=by omega
 refine ⟨num[t.toNat],gE1 hl,?_⟩
 simpa [List.getD,gE1 hl] using hneg
theorem I9 (r:List Ar) {num old:List Int} (hr:∀ a∈r,0<=a.2) {s:Nat} {x:Int} (hx:num[s]?=some x) (hp:0<=x):(Bp r num old).1[s]?=some x:=by
 induction r generalizing num old with
 | nil=>exact hx
 | cons a tl ih=>exact ih (fun b hb=>hr b (by simp [hb])) (J1 (hr a (by simp)) hx hp)
theorem H8 (r:List Ar) {num old:List Int} (hr:∀ a∈r,0<=a.2/\a.2<num.length) (h:NumInj num old):NumInj (Bp r num old).1 (Bp r num old).2.1:=by
 induction r generalizing num old with
 | nil=>exact h
 | cons a tl ih=>
  have ha:=hr a (by simp)
  exact ih (fun b hb=>by rw [DS];exact hr b (by simp [hb])) (h.one ha.1 ha.2)
theorem H9 (r:List Ar) {num old:List Int} (hr:∀ a∈r,0<=a.2/\a.2<num.length):
  (Bp r num old).2.2=r.map (fun a=>(a.1,(Bp r num old).1.getD a.2.toNat 0))/\∀ a∈r,∃ x,(Bp r num old).1[a.2.toNat]?=some x/\0<=x:=by
 induction r generalizing num old with
 | nil=>exact ⟨rfl,by simp⟩
 | cons a tl ih=>
  have ha:=hr a (by simp)
  obtain ⟨i1,i2⟩:=ih (num:=(AM num old a.2).1) (old:=(AM num old a.2).2) (fun b hb=>by rw [DS];exact hr b (by simp [hb]))
  obtain ⟨x,hx,hp⟩:=MR (old:=old) ha.1 ha.2
  have hk:=I9 (old:=(AM num old a.2).2) tl (fun b hb=>(hr b (by simp [hb])).1) hx hp
  refine ⟨?_,fun b hb=>?_⟩
  ·simp only [Bp,gAV]
   congr 1
   simp [List.getD,hx,hk]
  rcases gB2.1 hb with rfl | hb
  ·exact ⟨x,hk,hp⟩
  exact i2 b hb
theorem NumInj.start {n:Nat} (hn:0<n):NumInj ((List.replicate n (-1)).set 0 0) [0]:=⟨fun t x hx hp=>by
 rw [gAE] at hx
 split at hx
 ·rename_i h
  subst h
  simp [hn] at hx
  subst hx;rfl
 ·rw [gAD] at hx
  split at hx
  ·cases hx;omega
  ·cases hx⟩

theorem Zb {tl:List Ar} {num old:List Int} {e x:Int} {tn L:Nat} (hx:num[tn]?=some x) (hneg:x<0) (hL:old.length=L):
  Bp ((e,(tn:Int)) :: tl) num old=((Bp tl (num.set tn L) (old++[(tn:Int)])).1,(Bp tl (num.set tn L) (old++[(tn:Int)])).2.1,(e,(L:Int)) :: (Bp tl (num.set tn L) (old++[(tn:Int)])).2.2):=by
 have hl:tn<num.length:=(List.getElem?_eq_some_iff.1 hx).1
 have h1:AM num old (tn:Int)=(num.set tn L,old++[(tn:Int)]):=by
  simp only [AM,gAd,List.getD,hx,gBF,if_pos hneg,hL]
 simp only [Bp,h1,gAd]
 simp [List.getD,hl]
theorem P7 {tl:List Ar} {num old:List Int} {e x:Int} {tn:Nat} (hx:num[tn]?=some x) (hpos:¬ x<0):
  Bp ((e,(tn:Int)) :: tl) num old=((Bp tl num old).1,(Bp tl num old).2.1,(e,x) :: (Bp tl num old).2.2):=by
 have h1:AM num old (tn:Int)=(num,old):=by
  simp only [AM,gAd,List.getD,hx,gBF,if_neg hpos]
 simp only [Bp,h1,gAd,List.getD,hx,gBF]
def NL (R:List Int × List Int × List Ar) (ya q:List Ar) (k:Nat) (num old:List Int):Prop:=
 ya.take k++(Bp (q.drop k) num old).2.2=R.2.2/\(Bp (q.drop k) num old).1=R.1/\(Bp (q.drop k) num old).2.1=R.2.1/\ya.drop k=q.drop k
theorem NL.pos {R:List Int × List Int × List Ar} {ya q:List Ar} {k:Nat} {num old:List Int} {e x:Int} {tn:Nat} (h:NL R ya q k num old) (hk:ya[k]?=some (e,(tn:Int))) (hx:num[tn]?=some x) (hpos:¬ x<0):
  NL R (ya.set k (e,x)) q (k+1) num old:=by
 obtain ⟨h1,h2,h3,h4⟩:=h
 have hl:=(List.getElem?_eq_some_iff.1 hk).1
 have hd:q.drop k=(e,(tn:Int)) :: q.drop (k+1):=by
  have h5:ya.drop k=(e,(tn:Int)) :: ya.drop (k+1):=by
   rw [gAp hl];congr 1
   rw [gE1 hl] at hk;exact Option.some.inj hk
  have h6:=congrArg (List.drop 1) h4
  rw [List.drop_drop,List.drop_drop] at h6
  rw [<- h4,h5,h6]
 rw [hd,P7 hx hpos] at h1 h2 h3
 refine ⟨?_,h2,h3,?_⟩
 ·rw [<- h1,List.take_add_one,List.take_set_of_le (gBu k)]
  simp [gAE,hl]
 rw [List.drop_set,if_pos (by omega)]
 have h6:=congrArg (List.drop 1) h4
 rwa [List.drop_drop,List.drop_drop] at h6


def Wn (f:Nat->Nat) (c:Nat) (o:List (List Ar)) (a:Ar):List (List Ar):=o.set c (o.getD c []++[(a.1,(f a.2.toNat:Int))])
def aa (f:Nat->Nat) (c:Nat) (o:List (List Ar)) (row:List Ar):List (List Ar):=row.foldl (Wn f c) o
theorem Rl (f:Nat->Nat) (c:Nat) (o:List (List Ar)) (a:Ar):(Wn f c o a).length=o.length:=by simp [Wn]
theorem Rc.lt {E:Nat->List Nat} {n u v:Nat} (h:Rc E u v) (hu:u<n) (hE:∀ x,x<n->∀ y∈E x,y<n):v<n:=by
 induction h with
 | refl=>exact hu
 | tail _ he ih=>exact hE _ ih _ he
theorem Dq {R:List (List Ar)} (t:Bool) (hv:BZ R=true):∀ x,x<R.length->∀ y∈Wi t R x,y<R.length:=by
 intro x hx y hy
 unfold Wi at hy
 rw [gE2,gE1 hx,gBF] at hy
 obtain ⟨a,ha,rfl⟩:=gB7.1 hy
 have h1:a∈R[x]:=by
  unfold BP at ha
  split at ha
  ·exact (List.takeWhile_sublist _).subset ha
  exact ha
 have h2:=(gE4 hv).2.2.2 _ (gE6 hx) a h1
 omega
theorem P8 (o:List (List Ar)) (c:Nat):(o.getD c []).length<=Ci o:=by
 induction o generalizing c with
 | nil=>simp
 | cons a r ih=>
  cases c with
  | zero=>simp [Ci]
  | succ c=>
   have:=ih c
   simp only [gAy]
   simp only [Ci,gAV,List.sum_cons] at this ⊢
   omega
def TlP (m:Nat) (o:List (List Ar)):Prop:=∀ r∈o,∀ a∈r,0<=a.1/\a.1<=1025/\0<=a.2/\a.2<(m:Int)
theorem TlP.one {f:Nat->Nat} {m c:Nat} {o:List (List Ar)} {a:Ar} (h:TlP m o) (ha:0<=a.1/\a.1<=1025) (hf:f a.2.toNat<m):TlP m (Wn f c o a):=by
 intro r hr b hb
 rcases gB9 hr with h1 | h1
 ·exact h r h1 b hb
 subst h1
 rcases gB0.1 hb with h2 | h2
 rotate_left
 ·simp at h2;subst h2
  exact ⟨ha.1,ha.2,by simp only;omega,by simp only;omega⟩
 rw [gE2] at h2
 rcases gBx c o.length with h3 | h3
 rotate_left
 ·rw [gAB h3] at h2;simp at h2
 rw [gE1 h3,gBF] at h2
 exact h _ (gE6 h3) b h2
theorem Lx {r:List Ar} (hs:SortA r) (h0:∀ a∈r,0<=a.1) (t:Bool):H6 t r=BP t r:=by
 cases t with
 | false=>unfold H6 BP;simp
 | true=>
  unfold H6 BP
  rw [if_pos rfl]
  simp only [gA9,gA6]
  induction r with
  | nil=>rfl
  | cons a r ih=>
   have hs2:=gBe.1 hs
   by_cases h:(a.1 == 0)=true
   ·rw [List.filter_cons,if_pos h,gBl,if_pos h,ih hs2.2 fun b hb=>h0 b (gEf _ hb)]
   rw [List.filter_cons,if_neg h,gBl,if_neg h]
   refine List.filter_eq_nil_iff.2 fun b hb=>?_
   have h1:=hs2.1 b hb
   rw [DA] at h1
   have h2:=h0 a gB3
   have h3:a.1 ≠ 0:=fun e=>h (by simp [e])
   have:b.1 ≠ 0:=by omega
   simpa using this
theorem MS {R:List (List Ar)} (t:Bool) (hv:C7 R=true):LT t R=Wi t R:=by
 funext v
 unfold LT Wi
 rcases gBx v R.length with h | h
 rotate_left
 ·rw [gE2,gAB h,Option.getD_none]
  cases t <;> rfl
 rw [gE2,gE1 h,gBF]
 have h2:=gE4 hv
 rw [Lx (h2.2 _ (gE6 h)) fun a ha=>(h2.1.2.2.2 _ (gE6 h) a ha).1]
theorem Least.uniq {E:Nat->List Nat} {v:Nat} {x y:Int} (h1:Least E v x) (h2:Least E v y):x=y:=by
 obtain ⟨m,a1,a2,a3,a4⟩:=h1
 obtain ⟨k,b1,b2,b3,b4⟩:=h2
 have:=a4 k b2 b3
 have:=b4 m a2 a3
 omega
open Go.RowKit
set_option maxRecDepth 100000
attribute [local go_sem] lga C.pl C.one
theorem Ha (xs:List Int) (x:Int) (hn:xs.length<=140737488355328):FC Tryz.prog 74 [Ap xs,.i x] [] (fun r o=>o=[]/\r=.b (decide (x∈xs))):=by
 refine A7 Tryz.func74 rfl (by rw [Tryz.ntmps74];simp) ?_
 rw [Tryz.ntmps74]
 simp only [B4,Ap]
 (refine ai ?_;(repeat clear hK K);repeat refine kq fun K hK=>?_)
 refine Ab (fun k:Nat=>{ tm:=[(0,.a (.c (.t 1 (Ac xs)))),(1,.i x),(5,.i k)],hp:=[],n:=18,pin:=0 }) (fun k=>k<=xs.length/\∀ i,i<k->xs[i]? ≠ some x) (fun k=>xs.length - k) 0 ?_ ?_ ?_
 ·exact ⟨by omega,by intro i hi;omega⟩
 ·exact W5
 rintro k ⟨hk,hno⟩ K hK
 (refine aj @A2 ?_;(repeat clear hK K);repeat refine kq fun K hK=>?_)
 (refine Ah ?_;intro X Y hX hY;simp only [go_sem])
 refine ⟨fun h=>hX ?_,fun h=>hY ?_⟩
 rotate_left
 ·have hge:k=xs.length:=by simp at h;omega
  clear hX hY X Y
  (refine VZ ?_;repeat clear hK K)
  (refine ai ?_;(repeat clear hK K);repeat refine kq fun K hK=>?_)
  refine W8 Tryz.results74 ?_
  have:x ∉ xs:=by
   intro hm
   obtain ⟨i,hi⟩:=gB6.1 hm
   exact hno i (by rw [hge];exact (List.getElem?_eq_some_iff.1 hi).1) hi
  simp [this]
 have hlt:k<xs.length:=by simpa using h
 clear hX hY X Y h
 (refine aj (an @A2 (Al (gE1 hlt))) ?_;(repeat clear hK K);repeat refine kq fun K hK=>?_)
 (refine Ah ?_;intro X Y hX hY;simp only [go_sem])
 refine ⟨fun h=>hX ?_,fun h=>hY ?_⟩
 ·clear hX hY X Y
  (refine ai ?_;(repeat clear hK K);repeat refine kq fun K hK=>?_)
  refine W8 Tryz.results74 ?_
  have:x∈xs:=by rw [<- beq_iff_eq.1 h];exact gE6 hlt
  simp [this]
 clear hX hY X Y
 (refine ai ?_;(repeat clear hK K);repeat refine kq fun K hK=>?_)
 refine W4 ?_
 refine hK _ (k+1) ⟨by omega,fun i hi=>?_⟩ (by omega) ?_
 rotate_left
 ·exact W5
 by_cases e:i=k
 ·subst e;rw [gE1 hlt];simpa using h
 exact hno i (by omega)

def BU (L:List (List Int)):List C:=L.map fun r=>C.o (1,3) (Ac r)
theorem DT (L:List (List Int)):(BU L).length=L.length:=by simp [BU]
theorem Ly (L:List (List Int)) (i:Nat) (x:List Int):(BU L).set i (.o (1,3) (Ac x))=BU (L.set i x):=by simp [BU,gAY]
theorem Lz (f:List Nat) (L:List (List Int)):(BU L).map (C.ren f)=BU L:=by simp [BU,C.ren,gAb]
theorem Yw (x:Int):(Ac [x]).take 1=Ac [x]:=rfl
def RowOk (E:Nat->List Nat) (n j:Nat) (L:List Int):Prop:=∃ B:List Bool,B.length=n/\(∀ u,Bx B u=true↔Rc E j u)/\L=((List.range n).filter (Bx B)).map Int.ofNat
theorem RowOk.mem {E:Nat->List Nat} {n j:Nat} {L:List Int} (h:RowOk E n j L) {u:Nat} (hu:u<n):(u:Int)∈L↔Rc E j u:=by
 obtain ⟨B,_,h2,rfl⟩:=h
 rw [Fs,gB4,gBa,h2]
 exact ⟨fun h=>h.2,fun h=>⟨hu,h⟩⟩
theorem RowOk.len {E:Nat->List Nat} {n j:Nat} {L:List Int} (h:RowOk E n j L):L.length<=n:=by
 obtain ⟨B,_,h2,rfl⟩:=h
 rw [gAN]
 have:=gAM (Bx B) (List.range n)
 simpa using this
def Dv (R:List (List Ar)) (s:Nat):Prop:=∃ g,Rc (Wi true R) s g/\∃ w,w∈Wi true R g/\Rc (Wi true R) w g
def Wo (s:Nat) (o:List (List Int)) (a:Ar):List (List Int):=o.set a.2.toNat (o.getD a.2.toNat []++[(s:Int)])
def DZ (s:Nat) (o:List (List Int)) (row:List Ar):List (List Int):=row.foldl (Wo s) o
def Wp (R:List (List Ar)):Nat->List (List Int)
 | 0=>List.replicate R.length []
 | k+1=>DZ k (Wp R k) (BP true (R.getD k []))
def LU (o:List (List Int)):Nat:=(o.map List.length).sum
theorem J4 (s:Nat) (o:List (List Int)) (a:Ar):(Wo s o a).length=o.length:=by simp [Wo]
theorem Ia (s:Nat) (row:List Ar):∀ o,(DZ s o row).length=o.length:=by
 induction row with
 | nil=>intro o;rfl
 | cons a r ih=>intro o;show (DZ s (Wo s o a) r).length=_;rw [ih,J4]
theorem FX (R:List (List Ar)) (k:Nat):(Wp R k).length=R.length:=by
 induction k with
 | zero=>simp [Wp]
 | succ k ih=>rw [Wp,Ia,ih]
theorem LA (s:Nat) (o:List (List Int)) (row:List Ar) (a:Ar):DZ s o (row++[a])=Wo s (DZ s o row) a:=by unfold DZ;rw [gAv];rfl
theorem P9 (o:List (List Int)) {c:Nat} (h:c<o.length) (x:Int):LU (o.set c (o.getD c []++[x]))=LU o+1:=by
 induction o generalizing c with
 | nil=>simp at h
 | cons y r ih=>
  cases c with
  | zero=>simp [LU];omega
  | succ c=>
   have:=ih (c:=c) (by simpa using h)
   simp only [gBi,gAy]
   simp only [LU,gAV,List.sum_cons] at this ⊢
   omega
theorem Kg (o:List (List Int)) (c:Nat):(o.getD c []).length<=LU o:=by
 induction o generalizing c with
 | nil=>simp
 | cons y r ih=>
  cases c with
  | zero=>simp [LU]
  | succ c=>
   have:=ih c
   simp only [gAy]
   simp only [LU,gAV,List.sum_cons] at this ⊢
   omega
theorem MT (s:Nat) (row:List Ar):∀ o:List (List Int),(∀ a∈row,a.2.toNat<o.length)->LU (DZ s o row)=LU o+row.length:=by
 induction row with
 | nil=>intro o _;rfl
 | cons a r ih=>
  intro o h
  show LU (DZ s (Wo s o a) r)=_
  rw [ih _ (by rw [J4];exact fun b hb=>h b (gEf _ hb))]
  unfold Wo
  rw [P9 o (h a (by simp))]
  simp only [gAJ];omega
theorem Rm {s t:Nat} {o:List (List Int)} {a:Ar} {x:Int} (h:a.2.toNat<o.length):x∈(Wo s o a).getD t []↔x∈o.getD t []\/(a.2.toNat=t/\x=(s:Int)):=by
 unfold Wo
 rw [gE2]
 by_cases e:a.2.toNat=t
 rotate_left
 ·rw [gE5 e,<- gE2]
  simp [e]
 subst e
 rw [gEc h,gBF,gB0]
 simp
theorem MU {s t:Nat} {x:Int}:∀ (row:List Ar) (o:List (List Int)),(∀ a∈row,a.2.toNat<o.length)->(x∈(DZ s o row).getD t []↔x∈o.getD t []\/(x=(s:Int)/\t∈row.map fun a=>a.2.toNat)):=by
 intro row
 induction row with
 | nil=>intro o _;simp [DZ]
 | cons a r ih=>
  intro o h
  show x∈(DZ s (Wo s o a) r).getD t []↔_
  rw [ih _ (by rw [J4];exact fun b hb=>h b (gEf _ hb)),Rm (h a (by simp))]
  simp only [gAV,gB2]
  constructor
  rotate_left
  ·rintro (h | ⟨h1,h2 | h2⟩)
   ·exact .inl (.inl h)
   ·exact .inl (.inr ⟨h2.symm,h1⟩)
   exact .inr ⟨h1,h2⟩
  rintro ((h | ⟨h1,h2⟩) | ⟨h1,h2⟩)
  ·exact .inl h
  ·exact .inr ⟨h2,.inl h1.symm⟩
  exact .inr ⟨h1,.inr h2⟩
theorem MV {t:Bool} {r:List Ar}:∀ a∈BP t r,a∈r:=fun a ha=>by
 unfold BP at ha
 split at ha
 ·exact (List.takeWhile_sublist _).subset ha
 ·exact ha
theorem FY (t:Bool) (r:List Ar):(BP t r).length<=r.length:=by
 unfold BP
 split
 ·exact (List.takeWhile_sublist _).length_le
 exact gBu _
theorem Ki {R:List (List Ar)} (hlo:BZ R=true) {k:Nat}:∀ a∈BP true (R.getD k []),0<=a.2/\a.2.toNat<R.length:=fun a ha=>by
 have h1:=MV a ha
 rcases gBx k R.length with h | h
 ·rw [gE2,gE1 h] at h1
  have:=(gE4 hlo).2.2.2 _ (gE6 h) a h1
  omega
 ·rw [gE2,gAB h] at h1;simp at h1
theorem Rn {R:List (List Ar)} (hlo:BZ R=true) {t:Nat} {x:Int}:∀ k,x∈(Wp R k).getD t []↔∃ s,s<k/\x=(s:Int)/\t∈Wi true R s:=by
 intro k
 induction k with
 | zero=>
  simp only [Wp,gE2,gAD]
  split <;> simp
 | succ k ih=>
  rw [Wp,MU _ _ (by rw [FX];exact fun a ha=>(Ki hlo a ha).2),ih]
  constructor
  ·rintro (⟨s,h1,h2,h3⟩ | ⟨h1,h2⟩)
   ·exact ⟨s,by omega,h2,h3⟩
   exact ⟨k,by omega,h1,h2⟩
  rintro ⟨s,h1,h2,h3⟩
  by_cases e:s=k
  ·subst e;exact .inr ⟨h2,h3⟩
  exact .inl ⟨s,by omega,h2,h3⟩
theorem Kj {R:List (List Ar)} (hlo:BZ R=true):∀ k,k<=R.length->LU (Wp R k)<=Ci (R.take k):=by
 intro k
 induction k with
 | zero=>intro _;simp [Wp,LU,Ci]
 | succ k ih=>
  intro hk
  have h1:=ih (by omega)
  have h2:=Da (R:=R) (k:=k) hk
  have h3:=FY true (R.getD k [])
  have h4:R.getD k []=R[k]:=by rw [gE2,gE1 hk];rfl
  rw [Wp,MT _ _ _ (by rw [FX];exact fun a ha=>(Ki hlo a ha).2)]
  rw [h4] at h3 ⊢
  omega
structure Bq (E:Nat->List Nat) (n:Nat) (G:Nat->Prop) (O:List Int) (Q:List Nat):Prop where
 len:O.length=n
 lt:∀ q∈Q,q<n
 nd:Q.Nodup
 iff:∀ s,s<n->(0<=Wh O (-1) s↔s∈Q)
 hi:∀ s,Wh O (-1) s<=(Q.length:Int)
 rc:∀ q∈Q,∃ g,g<n/\G g/\Rc E q g
section
variable {E : Nat -> List Nat} {n : Nat} {G : Nat -> Prop} {O : List Int} {Q : List Nat}
theorem Bq.qlen (h:Bq E n G O Q):Q.length<=n:=by
 have:=h.nd.length_le_of_subset (l₂:=List.range n) fun q hq=>gBa.2 (h.lt q hq)
 simpa using this
theorem Bq.start (E:Nat->List Nat) (n:Nat) (G:Nat->Prop):Bq E n G (List.replicate n (-1)) []:=by
 refine ⟨by simp,by simp,List.nodup_nil,fun s hs=>?_,fun s=>?_,by simp⟩
 ·rw [BQ (by simpa using hs)];simp
 unfold Wh
 rw [gAD]
 split <;> simp
theorem Bq.push (h:Bq E n G O Q) {s:Nat} (hs:s<n) (hq:s ∉ Q) {v:Int} (h0:0<=v) (h1:v<=(Q.length:Int)+1) (hr:∃ g,g<n/\G g/\Rc E s g):Bq E n G (O.set s v) (Q++[s]):=by
 have hl:=h.len
 refine ⟨by simp [hl],fun q hq=>?_,?_,fun t ht=>?_,fun t=>?_,fun q hq=>?_⟩
 rotate_left 4
 ·rcases gB0.1 hq with h2 | h2
  ·exact h.rc q h2
  simp at h2;subst h2;exact hr
 ·rcases gB0.1 hq with h2 | h2
  ·exact h.lt q h2
  simp at h2;subst h2;exact hs
 ·rw [List.nodup_append]
  exact ⟨h.nd,by simp,fun a ha b hb=>by simp at hb;subst hb;intro e;subst e;exact hq ha⟩
 ·rw [DC (by omega)]
  unfold upd
  split
  ·rename_i e;subst e;simp [h0]
  rename_i e;rw [h.iff t ht];simp [e]
 rw [DC (by omega)]
 unfold upd
 simp only [gAI,gAR]
 split
 ·omega
 have:=h.hi t;omega
theorem Bq.done (h:Bq E n G O Q) (hE:∀ x,x<n->∀ y∈E x,y<n) (hg:∀ g,g<n->G g->g∈Q) (hc:∀ q∈Q,∀ p,p<n->q∈E p->p∈Q) {s:Nat} (hs:s<n):0<=Wh O (-1) s↔∃ g,g<n/\G g/\Rc E s g:=by
 rw [h.iff s hs]
 constructor
 ·exact h.rc s
 rintro ⟨g,h1,h2,h3⟩
 have key:∀ x,Rc E s x->x∈Q->s∈Q:=by
  intro x hx
  induction hx with
  | refl=>exact id
  | tail hv hw ih=>exact fun hq=>ih (hc _ hq _ (hv.lt hs hE) hw)
 exact key g h3 (hg g h1 h2)
end
def Wq (D:List Int) (s:Nat) (row:List Ar):Bool:=row.any fun a=>decide (D.getD a.2.toNat 0=D.getD s 0)
def Wr (R:List (List Ar)) (D:List Int) (k:Nat):List Bool:=(List.range k).map fun s=>Wq D s (BP true (R.getD s []))
theorem F1 (R:List (List Ar)) (D:List Int) (k:Nat):(Wr R D k).length=k:=by simp [Wr]
theorem Pa (D:List Int) (s:Nat) (row:List Ar) (a:Ar):Wq D s (row++[a])=(Wq D s row || decide (D.getD a.2.toNat 0=D.getD s 0)):=by simp [Wq]
theorem MW {R:List (List Ar)} {D:List Int} (hlo:BZ R=true) (hD:D.length=R.length) (hL:∀ v,v<R.length->Least (Wi true R) v (Wh D (-1) v)) {g:Nat} (hg:g<R.length):(Wr R D R.length).getD g false=true↔∃ w,w∈Wi true R g/\Rc (Wi true R) w g:=by
 have e1:(Wr R D R.length).getD g false=Wq D g (BP true (R.getD g [])):=by simp [Wr,gE2,hg]
 have hE:=Dq true hlo
 have hd:∀ v,v<R.length->D.getD v 0=Wh D (-1) v:=fun v hv=>by rw [BQ (by omega),gE2,gE1 (by omega)];rfl
 rw [e1]
 unfold Wq
 rw [gAi]
 simp only [gBM]
 constructor
 ·rintro ⟨a,ha,e⟩
  have hw:a.2.toNat∈Wi true R g:=gB7.2 ⟨a,ha,rfl⟩
  have hwl:=hE g hg _ hw
  rw [hd _ hwl,hd _ hg] at e
  obtain ⟨x,ex,p1,p2,_⟩:=hL _ hwl
  obtain ⟨y,ey,q1,q2,_⟩:=hL _ hg
  have:x=y:=by omega
  subst this
  exact ⟨_,hw,p1.trans q2⟩
 rintro ⟨w,hw,hr⟩
 obtain ⟨a,ha,rfl⟩:=gB7.1 hw
 refine ⟨a,ha,?_⟩
 have hwl:=hE g hg _ hw
 rw [hd _ hwl,hd _ hg]
 obtain ⟨x,ex,p1,p2,p3⟩:=hL _ hwl
 obtain ⟨y,ey,q1,q2,q3⟩:=hL _ hg
 have hgw:Rc (Wi true R) g a.2.toNat:=.one hw
 have l1:=p3 y (hr.trans q1) (q2.trans hgw)
 have l2:=q3 x (hgw.trans p1) (p2.trans hr)
 omega
def DvL (R:List (List Ar)) (B:List Bool):Prop:=B.length=R.length/\∀ s,s<R.length->(B.getD s false=true↔Dv R s)
theorem DvL.uniq {R:List (List Ar)} {A B:List Bool} (h1:DvL R A) (h2:DvL R B):A=B:=by
 refine List.ext_getElem (by rw [h1.1,h2.1]) fun i hi hj=>?_
 have a:=h1.2 i (by have:=h1.1;omega)
 have b:=h2.2 i (by have:=h1.1;omega)
 rw [gE2,gE1 hi,gBF] at a
 rw [gE2,gE1 hj,gBF] at b
 rw [gA4,a,b]
end Go.Proofs.YtbnabodoabimnaaGreat
namespace Go.Proofs.YtbnabodoabimnaaGreat
set_option linter.unusedVariables false
set_option linter.unusedSimpArgs false
open Go.RowKit
set_option maxRecDepth 100000
def Kk:List Int->List Int->Int
 | [],[]=>0
 | [],_ :: _ => -1
 | _ :: _,[]=>1
 | a :: r,b :: q=>if Ex a b ≠ 0 then Ex a b else Kk r q
theorem Ro (xs ys:List Int) (hn:xs.length<=140737488355328) (hm:ys.length<=140737488355328):FC Tryz.prog 144 [Ap xs,Ap ys] [] (fun r o=>o=[]/\r=.i (Kk xs ys)):=by
 refine A7 Tryz.func144 rfl (by rw [Tryz.ntmps144];simp) ?_
 rw [Tryz.ntmps144]
 simp only [B4,Ap]
 (refine ai ?_;(repeat clear hK K);repeat refine kq fun K hK=>?_)
 refine Ab (fun k:Nat=>{ tm:=[(0,.a (.c (.t 1 (Ac xs)))),(1,.a (.c (.t 1 (Ac ys)))),(9,.a (.c (.t 1 (Ac xs)))),(10,.i xs.length),(11,.i k)],hp:=[],n:=36,pin:=0 }) (fun k=>k<=xs.length/\k<=ys.length/\Kk xs ys=Kk (xs.drop k) (ys.drop k)) (fun k=>xs.length - k) 0 ?_ ?_ ?_
 ·exact ⟨by omega,by omega,rfl⟩
 ·(refine Bh ?_;simp only [CS,go_sem,A2];try simp)
 rintro k ⟨hk,hk2,he⟩ K hK
 (refine ai ?_;(repeat clear hK K);repeat refine kq fun K hK=>?_)
 (refine Ah ?_;intro X Y hX hY;simp only [go_sem])
 refine ⟨fun h=>hX ?_,fun h=>hY ?_⟩
 rotate_left
 ·have hge:k=xs.length:=by simp at h;omega
  clear hX hY X Y
  have hd:xs.drop k=[]:=gAq (by omega)
  rw [hd] at he
  (refine VZ ?_;repeat clear hK K)
  (refine aj @A2 ?_;(repeat clear hK K);repeat refine kq fun K hK=>?_)
  (refine Ah ?_;intro X Y hX hY;simp only [go_sem])
  refine ⟨fun h=>hX ?_,fun h=>hY ?_⟩
  ·clear hX hY X Y
   (refine ai ?_;(repeat clear hK K);repeat refine kq fun K hK=>?_)
   refine W8 Tryz.results144 ?_
   have hlt2:k<ys.length:=by simp at h;omega
   rw [he,Bm hlt2]
   simp [Kk]
  clear hX hY X Y
  (refine ai ?_;(repeat clear hK K);repeat refine kq fun K hK=>?_)
  refine W8 Tryz.results144 ?_
  have:ys.drop k=[]:=gAq (by simp at h;omega)
  rw [he,this]
  simp [Kk]
 have hlt:k<xs.length:=by simpa using h
 clear hX hY X Y h
 rw [Bm hlt] at he
 (refine aj (an @A2 (Al (gE1 hlt))) ?_;(repeat clear hK K);repeat refine kq fun K hK=>?_)
 (refine Ah ?_;intro X Y hX hY;simp only [go_sem])
 refine ⟨fun h=>hX ?_,fun h=>hY ?_⟩
 ·clear hX hY X Y
  (refine ai ?_;(repeat clear hK K);repeat refine kq fun K hK=>?_)
  refine W8 Tryz.results144 ?_
  have:ys.drop k=[]:=gAq (by simpa using h)
  rw [he,this]
  simp [Kk]
 clear hX hY X Y
 have hlt2:k<ys.length:=by simpa using h
 clear h
 rw [Bm hlt2] at he
 (refine aj (an @A2 (Al (gE1 hlt2))) ?_;repeat refine kq fun K hK=>?_)
 refine Yt (Mx xs[k] ys[k]) ?_
 (refine ai ?_;(repeat clear hK K);repeat refine kq fun K hK=>?_)
 (refine Ah ?_;intro X Y hX hY;simp only [go_sem])
 refine ⟨fun h=>hX ?_,fun h=>hY ?_⟩
 ·clear hX hY X Y
  (refine ai ?_;(repeat clear hK K);repeat refine kq fun K hK=>?_)
  refine W8 Tryz.results144 ?_
  have h1:Ex xs[k] ys[k] ≠ 0:=by simpa using h
  rw [he]
  simp [Kk,h1]
 clear hX hY X Y
 (refine ai ?_;(repeat clear hK K);repeat refine kq fun K hK=>?_)
 refine W4 ?_
 refine hK _ (k+1) ⟨by omega,by omega,?_⟩ (by omega) ?_
 rotate_left
 ·exact W5
 have h1:Ex xs[k] ys[k]=0:=by simpa using h
 rw [he]
 simp [Kk,h1]
theorem Hb (xs ys:List Int) (hn:xs.length<=140737488355328) (hm:ys.length<=140737488355328):FC Tryz.prog 66 [Ap xs,Ap ys] [] (fun r o=>o=[]/\r=.b (decide (xs=ys))):=by
 refine A7 Tryz.func66 rfl (by rw [Tryz.ntmps66];simp) ?_
 rw [Tryz.ntmps66]
 simp only [B4,Ap]
 (refine aj @A2 ?_;(repeat clear hK K);repeat refine kq fun K hK=>?_)
 (refine Ah ?_;intro X Y hX hY;simp only [go_sem])
 refine ⟨fun h=>hX ?_,fun h=>hY ?_⟩
 ·clear hX hY X Y
  (refine ai ?_;(repeat clear hK K);repeat refine kq fun K hK=>?_)
  refine W8 Tryz.results66 ?_
  have:xs ≠ ys:=by rintro rfl;simp at h
  simp [this]
 clear hX hY X Y
 have hlen:xs.length=ys.length:=by simp at h;omega
 clear h
 (refine ai ?_;(repeat clear hK K);repeat refine kq fun K hK=>?_)
 refine Ab (fun k:Nat=>{ tm:=[(0,.a (.c (.t 1 (Ac xs)))),(1,.a (.c (.t 1 (Ac ys)))),(12,.i xs.length),(13,.i k)],hp:=[],n:=26,pin:=0 }) (fun k=>k<=xs.length/\xs.take k=ys.take k) (fun k=>xs.length - k) 0 ?_ ?_ ?_
 ·exact ⟨by omega,rfl⟩
 ·(refine Bh ?_;simp only [CS,go_sem,A2];try simp)
 rintro k ⟨hk,he⟩ K hK
 (refine ai ?_;(repeat clear hK K);repeat refine kq fun K hK=>?_)
 (refine Ah ?_;intro X Y hX hY;simp only [go_sem])
 refine ⟨fun h=>hX ?_,fun h=>hY ?_⟩
 rotate_left
 ·have hge:k=xs.length:=by simp at h;omega
  clear hX hY X Y
  (refine VZ ?_;repeat clear hK K)
  (refine ai ?_;(repeat clear hK K);repeat refine kq fun K hK=>?_)
  refine W8 Tryz.results66 ?_
  have:xs=ys:=by
   rw [hge,gBn,hlen,gBn] at he
   exact he
  simp [this]
 have hlt:k<xs.length:=by simpa using h
 have hlt2:k<ys.length:=by omega
 clear hX hY X Y h
 (refine ai ?_;repeat refine kq fun K hK=>?_)
 refine Yr 8 [(0,0),(1,0),(2,0),(3,1),(4,0),(5,0),(6,0),(7,1),(8,2)] ?_
 (refine VS (an @A2 (an (Al (gE1 hlt)) (Al (gE1 hlt2)))) ?_;repeat clear hK K)
 (refine Ah ?_;intro X Y hX hY;simp only [go_sem])
 refine ⟨fun h=>hX ?_,fun h=>hY ?_⟩
 ·clear hX hY X Y
  (refine ai ?_;(repeat clear hK K);repeat refine kq fun K hK=>?_)
  refine W8 Tryz.results66 ?_
  have:xs ≠ ys:=by rintro rfl;simp at h
  simp [this]
 clear hX hY X Y
 (refine ai ?_;(repeat clear hK K);repeat refine kq fun K hK=>?_)
 refine W4 ?_
 refine hK _ (k+1) ⟨by omega,?_⟩ (by omega) ?_
 rotate_left
 ·exact W5
 have h1:xs[k]=ys[k]:=by simpa using h
 rw [gE8 hlt,gE8 hlt2,he,h1]
theorem FZ (x:Int) (a b:List Int):Dp (x :: a) b=(decide (x∈b) && Dp a b):=rfl
theorem MX (xs ys:List Int) (hn:xs.length<=140737488355328) (hm:ys.length<=140737488355328) (hx:W9 xs) (hy:W9 ys):FC Tryz.prog 146 [Ap xs,Ap ys] [] (fun r o=>o=[]/\r=.b (Dp xs ys)):=by
 refine A7 Tryz.func146 rfl (by rw [Tryz.ntmps146];simp) ?_
 rw [Tryz.ntmps146]
 simp only [B4,Ap]
 (refine ai ?_;(repeat clear hK K);repeat refine kq fun K hK=>?_)
 refine Ab (fun q:Nat × Nat=>{ tm:=[(0,.a (.c (.t 1 (Ac xs)))),(1,.a (.c (.t 1 (Ac ys)))),(5,.i q.2),(8,.a (.c (.t 1 (Ac xs)))),(9,.i xs.length),(10,.i q.1)],hp:=[],n:=41,pin:=0 }) (fun q=>q.1<=xs.length/\q.2<=ys.length/\Dp xs ys=Dp (xs.drop q.1) (ys.drop q.2)) (fun q=>xs.length - q.1) (0,0) ?_ ?_ ?_
 ·exact ⟨by simp,by simp,rfl⟩
 ·(refine Bh ?_;simp only [CS,go_sem,A2];try simp)
 rintro ⟨i,j⟩ ⟨hk,hj,he⟩ K hK
 simp only at hk hj he
 (refine ai ?_;(repeat clear hK K);repeat refine kq fun K hK=>?_)
 (refine Ah ?_;intro X Y hX hY;simp only [go_sem])
 refine ⟨fun h=>hX ?_,fun h=>hY ?_⟩
 rotate_left
 ·have hge:i=xs.length:=by simp at h;omega
  clear hX hY X Y
  (refine VZ ?_;repeat clear hK K)
  (refine ai ?_;(repeat clear hK K);repeat refine kq fun K hK=>?_)
  refine W8 Tryz.results146 ?_
  have:xs.drop i=[]:=gAq (by omega)
  rw [he,this]
  simp [Dp]
 have hlt:i<xs.length:=by simpa using h
 clear hX hY X Y h
 rw [Bm hlt] at he
 have hax:W9 (xs[i] :: xs.drop (i+1)):=by rw [<- Bm hlt];exact List.Pairwise.sublist (List.drop_sublist _ _) hx
 (refine aj (an @A2 (Al (gE1 hlt))) ?_;(repeat clear hK K);repeat refine kq fun K hK=>?_)
 refine Ab (fun q:Nat=>{ tm:=[(0,.a (.c (.t 1 (Ac xs)))),(1,.a (.c (.t 1 (Ac ys)))),(5,.i q),(7,.i xs[i]),(8,.a (.c (.t 1 (Ac xs)))),(9,.i xs.length),(10,.i i)],hp:=[],n:=41,pin:=0 }) (fun q=>q<=ys.length/\Dp xs ys=Dp (xs[i] :: xs.drop (i+1)) (ys.drop q)) (fun q=>ys.length - q) j ?_ ?_ ?_
 ·exact ⟨hj,he⟩
 ·exact W5
 clear he hj
 rintro q ⟨hq,he⟩ K hK
 by_cases hlt2:q<ys.length
 rotate_left
 ·have hl2:=Yq hlt2
  (refine aj (an @A2 @hl2) ?_;repeat refine kq fun K hK=>?_)
  (refine Ah ?_;intro X Y hX hY;simp only [go_sem])
  refine hY ?_;clear hX hY X Y
  (refine VZ ?_;repeat clear hK K)
  have hl3:((q:Int) == (ys.length:Int))=true:=by simp;omega
  (refine aj (an @A2 @hl3) ?_;repeat refine kq fun K hK=>?_)
  (refine Ah ?_;intro X Y hX hY;simp only [go_sem])
  refine hX ?_;clear hX hY X Y
  (refine ai ?_;(repeat clear hK K);repeat refine kq fun K hK=>?_)
  refine W8 Tryz.results146 ?_
  have:ys.drop q=[]:=gAq (by omega)
  rw [he,this,FZ]
  simp
 have hl2:=Yp hlt2
 have hay:W9 (ys[q] :: ys.drop (q+1)):=by rw [<- Bm hlt2];exact List.Pairwise.sublist (List.drop_sublist _ _) hy
 (refine aj (an @A2 (an @hl2 (Al (gE1 hlt2)))) ?_;(repeat clear hK K);repeat refine kq fun K hK=>?_)
 (refine Ah ?_;intro X Y hX hY;simp only [go_sem])
 refine ⟨fun h=>hX ?_,fun h=>hY ?_⟩
 ·clear hX hY X Y
  have h1:ys[q]<xs[i]:=by simpa using h
  clear h
  (refine ai ?_;(repeat clear hK K);repeat refine kq fun K hK=>?_)
  refine W4 ?_
  refine hK _ (q+1) ⟨by omega,?_⟩ (by omega) ?_
  rotate_left
  ·exact W5
  rw [he,Bm hlt2]
  have hno:∀ x∈xs[i] :: xs.drop (i+1),x ≠ ys[q]:=by
   intro x hxm
   rcases gB2.1 hxm with rfl | hxm
   ·omega
   have:=(gBe.1 hax).1 x hxm;omega
  rw [gA4,DO,DO]
  constructor
  rotate_left
  ·intro hh x hxm
   exact gEf _ (hh x hxm)
  intro hh x hxm
  rcases gB2.1 (hh x hxm) with e | e
  ·exact absurd e (hno x hxm)
  exact e
 clear hX hY X Y
 have h1:¬ ys[q]<xs[i]:=by simpa using h
 clear h
 (refine VZ ?_;repeat clear hK K)
 have hl3:((q:Int) == (ys.length:Int))=false:=by simp;omega
 (refine aj (an @A2 (an @hl3 (Al (gE1 hlt2)))) ?_;(repeat clear hK K);repeat refine kq fun K hK=>?_)
 (refine Ah ?_;intro X Y hX hY;simp only [go_sem])
 refine ⟨fun h=>hX ?_,fun h=>hY ?_⟩
 rotate_left
 ·clear hX hY X Y
  have h2:ys[q]=xs[i]:=by simpa using h
  (refine ai ?_;(repeat clear hK K);repeat refine kq fun K hK=>?_)
  refine W4 ?_
  refine hK _ (i+1,q) ⟨hlt,hq,?_⟩ (by simp only;omega) ?_
  rotate_left
  ·exact W5
  rw [he,FZ]
  have h3:xs[i]∈ys.drop q:=by rw [Bm hlt2,h2];simp
  simp [h3]
 clear hX hY X Y
 (refine ai ?_;(repeat clear hK K);repeat refine kq fun K hK=>?_)
 refine W8 Tryz.results146 ?_
 have h2:ys[q] ≠ xs[i]:=by simpa using h
 have h3:xs[i] ∉ ys.drop q:=by
  rw [Bm hlt2]
  intro hm
  rcases gB2.1 hm with e | e
  ·exact h2 e.symm
  have:=(gBe.1 hay).1 _ e;omega
 rw [he,FZ]
 simp [h3]
def Cf {α:Type} [DecidableEq α] (p:α):List α->List α
 | []=>[]
 | y :: ys=>if y=p then Cf p ys else y :: Cf y ys
def D3 {α:Type} [DecidableEq α]:List α->List α
 | []=>[]
 | x :: xs=>x :: Cf x xs
section
variable {α : Type} [DecidableEq α]
theorem DU {r ys:List α} {m p:Nat} {a b:α} (h:r=ys.take m++Cf a (ys.drop p)) (hm:m<=p) (hb:ys[p]?=some b):
  (b=a->r=ys.take m++Cf b (ys.drop (p+1)))/\
  (b ≠ a->r=(ys.set m b).take (m+1)++Cf b ((ys.set m b).drop (p+1)))/\(b ≠ a->m=p->ys.set m b=ys):=by
 have hl:=(List.getElem?_eq_some_iff.1 hb).1
 have hbe:ys[p]=b:=(List.getElem?_eq_some_iff.1 hb).2
 have hd:ys.drop p=b :: ys.drop (p+1):=by
  rw [gAp hl,hbe]
 rw [hd] at h
 refine ⟨fun e=>?_,fun e=>?_,fun _ e=>?_⟩
 rotate_left 2
 ·subst e;rw [<- hbe];exact List.set_getElem_self hl
 ·rw [h,e];simp [Cf]
 have h2:(ys.set m b).drop (p+1)=ys.drop (p+1):=by rw [List.drop_set,if_pos (by omega)]
 have h3:(ys.set m b).take (m+1)=ys.take m++[b]:=by
  rw [List.take_add_one,List.take_set_of_le (gBu m)]
  simp [gAE,show m<ys.length by omega]
 rw [h,h2,h3]
 simp [Cf,e]
theorem Ib {r ys:List α} {m p:Nat} {a:α} (h:r=ys.take m++Cf a (ys.drop p)) (hp:ys.length<=p):r=ys.take m:=by
 rw [h,gAq hp];simp [Cf]
theorem MY {p x:α} {l:List α} (h:x∈Cf p l):x∈l:=by
 induction l generalizing p with
 | nil=>simp [Cf] at h
 | cons y r ih=>
  unfold Cf at h
  split at h
  ·exact gEf _ (ih h)
  rcases gB2.1 h with rfl | h
  ·simp
  exact gEf _ (ih h)
theorem MZ {p x:α} {l:List α} (h:x∈l):x=p\/x∈Cf p l:=by
 induction l generalizing p with
 | nil=>cases h
 | cons y r ih=>
  unfold Cf
  split
  ·rename_i e
   rcases gB2.1 h with rfl | h
   ·exact .inl e
   exact ih h
  rcases gB2.1 h with rfl | h
  ·exact .inr (by simp)
  rcases ih (p:=y) h with rfl | h
  ·exact .inr (by simp)
  exact .inr (gEf _ h)
theorem Kl {x:α} {l:List α}:x∈D3 l↔x∈l:=by
 cases l with
 | nil=>rfl
 | cons y r=>
  simp only [D3,gB2]
  constructor
  rotate_left
  ·rintro (h | h)
   ·exact .inl h
   exact MZ h
  rintro (h | h)
  ·exact .inl h
  exact .inr (MY h)
end
theorem N0:∀ {l:List (List Int)},l.Pairwise (fun a b=>Bi b a=false)->Er (D3 l)
 | [],_=>List.Pairwise.nil
 | x :: r,h=>by
  have go:∀ (r:List (List Int)) (p:List Int),(∀ y∈r,Bi y p=false)->r.Pairwise (fun a b=>Bi b a=false)->Er (p :: Cf p r):=by
   intro r
   induction r with
   | nil=>intro p _ _;exact List.pairwise_singleton _ _
   | cons y r ih=>
    intro p h1 h2
    rw [gBe] at h2
    unfold Cf
    split
    ·rename_i e;exact ih p (fun z hz=>h1 z (by simp [hz])) h2.2
    ·rename_i e
     have hpy:Bi p y=true:=by
      rcases Ep p y with h | h | h
      ·exact h
      ·exact absurd h.symm e
      ·rw [h1 y (by simp)] at h;cases h
     have hi:=ih y h2.1 h2.2
     refine gBe.2 ⟨fun z hz=>?_,hi⟩
     rcases gB2.1 hz with rfl | hz
     ·exact hpy
     ·exact C6 hpy ((gBe.1 hi).1 z hz)
  rw [gBe] at h
  exact go r x h.1 h.2

def Au (L:List (List Int)):List C:=L.map fun x=>C.t 1 (Ac x)
theorem DD {xs:List (List Int)} {i:Nat} {x:List Int} (h:xs[i]?=some x):(Au xs)[i]?=some (.t 1 (Ac x)):=by simp [Au,h]
theorem N1 (ys:List (List Int)) (m:Nat) (y:List Int):Au (ys.set m y)=(Au ys).set m (.t 1 (Ac y)):=by simp [Au,gAY]
theorem CP (ys:List (List Int)):(Au ys).length=ys.length:=by simp [Au]
theorem Ft (f:Nat->Nat) (L:List (List Int)):(Au L).map (C.up f)=Au L:=by simp [Au,C.up,gAb]
theorem BD (f:List Nat) (L:List (List Int)):(Au L).map (C.ren f)=Au L:=by simp [Au,C.ren,gAb]
theorem Hc:∀ (zs cs:List C) (off:Nat),off+zs.length=cs.length->De cs off zs=cs.take off++zs
 | [],cs,off,h=>by simp [De] at h ⊢;rw [gE7 (by omega)]
 | x :: r,cs,off,h=>by
  simp only [De]
  rw [Hc r _ (off+1) (by simp at h ⊢;omega)]
  rw [List.take_add_one,List.take_set_of_le (gBu _)]
  simp [gAE,show off<cs.length by simp at h;omega]
set_option maxHeartbeats 1000000 in
theorem Ic (L:List (List Int)) (hn:L.length<=100000000) (hb:∀ x∈L,x.length<=140737488355328):FC Tryz.prog 145 [.a (.c (.s 0 L.length)),.a (.c (.f 66 []))] [.r ⟨37,1,true,Au L⟩]
  (fun r o=>r=.a (.c (.s 0 (D3 L).length))/\∃ rest us,Fz rest us/\o=[.r ⟨37,1,true,Au (D3 L)++rest⟩]):=by
 refine A7 Tryz.func145 rfl (by rw [Tryz.ntmps145];simp) ?_
 rw [Tryz.ntmps145]
 simp only [B4]
 (refine ai ?_;(repeat clear hK K);repeat refine kq fun K hK=>?_)
 (refine Ah ?_;intro X Y hX hY;simp only [go_sem])
 refine ⟨fun h=>hX ?_,fun h=>hY ?_⟩
 ·clear hX hY X Y
  (refine ai ?_;(repeat clear hK K);repeat refine kq fun K hK=>?_)
  refine W8 Tryz.results145 ?_
  have hc:D3 L=L:=by
   match L,h with
   | [],_=>rfl
   | [x],_=>rfl
   | _ :: _ :: _,h=>simp at h;omega
  rw [hc]
  exact ⟨rfl,[],[],trivial,by simp⟩
 clear hX hY X Y
 have h2:2<=L.length:=by simp at h;omega
 clear h
 (refine ai ?_;(repeat clear hK K);repeat refine kq fun K hK=>?_)
 refine Ab (fun k:Nat=>{ tm:=[(0,.a (.c (.s 0 L.length))),(1,.a (.c (.f 66 []))),(5,.i (k+1:Nat))],hp:=[.r ⟨37,1,true,Au L⟩],n:=66,pin:=1 }) (fun k=>k+1<=L.length/\D3 L=L.take (k+1)++Cf (L.getD k []) (L.drop (k+1))) (fun k=>L.length - k) 0 ?_ ?_ ?_
 ·refine ⟨by omega,?_⟩
  match L,h2 with
  | x :: r,_=>simp [D3]
 ·exact W5
 rintro k ⟨hk,he⟩ K hK
 (refine ai ?_;(repeat clear hK K);repeat refine kq fun K hK=>?_)
 (refine Ah ?_;intro X Y hX hY;simp only [go_sem])
 refine ⟨fun h=>hX ?_,fun h=>hY ?_⟩
 rotate_left
 ·have hge:k+1=L.length:=by simp at h;omega
  clear hX hY X Y
  (refine VZ ?_;repeat clear hK K)
  (refine ai ?_;(repeat clear hK K);repeat refine kq fun K hK=>?_)
  refine W8 Tryz.results145 ?_
  have hc:D3 L=L:=by rw [he,hge];simp [Cf]
  rw [hc]
  exact ⟨rfl,[],[],trivial,by simp⟩
 have hlt:k+1<L.length:=by simp at h;omega
 have hlt0:k<L.length:=by omega
 clear hX hY X Y h
 have e1:((k+1:Nat):Int) - 1=(k:Int):=by omega
 have g0:L.getD k []=L[k]:=by simp [List.getD,hlt0]
 rw [g0] at he
 have hst:=DU he (gBu _) (gE1 hlt)
 (refine ai ?_;repeat refine kq fun K hK=>?_)
 refine Yr 10 [(0,0),(1,0),(2,0),(3,0),(4,1),(5,0),(6,0),(7,0),(8,0),(9,1),(10,2)] ?_
 (refine VS (an @e1 (an (DD (gE1 hlt)) (DD (gE1 hlt0)))) ?_;repeat clear hK K)
 refine Vt rfl rfl rfl ?_;intro K1 hK1
 refine (Av (ids:=[]) (Hb L[k+1] L[k] (hb _ (gE6 hlt)) (hb _ (gE6 hlt0))) rfl rfl (by simp only [go_sem]) (by kernel_rfl) (by (simp only [List.getElem_toArray,List.getElem_cons_zero,List.getElem_cons_succ,F9,gAk,AV.ren,A0.ren,C.ren,go_sem]) <;> rfl) ?_).stp
 rintro _ _ ⟨rfl,rfl⟩
 (refine W1 ?_;clear hK1 K1)
 (refine VR ?_;repeat clear hK K)
 (refine Ah ?_;intro X Y hX hY;simp only [go_sem])
 refine ⟨fun h=>hX ?_,fun h=>hY ?_⟩
 rotate_left
 ·clear hX hY X Y
  have hne:L[k+1] ≠ L[k]:=by simpa using h
  clear h
  (refine ai ?_;(repeat clear hK K);repeat refine kq fun K hK=>?_)
  refine W4 ?_
  refine hK _ (k+1) ⟨hlt,?_⟩ (by omega) ?_
  rotate_left
  ·exact W5
  have h1:=hst.2.1 hne
  rw [hst.2.2 hne rfl] at h1
  have:L.getD (k+1) []=L[k+1]:=by simp [List.getD,hlt]
  rw [this]
  exact h1
 clear hX hY X Y
 have heq:L[k+1]=L[k]:=by simpa using h
 clear h
 have hI:=hst.1 heq
 clear hst he
 (refine ai ?_;(repeat clear hK K);repeat refine kq fun K hK=>?_)
 refine Ab (fun q:Nat × Nat × List (List Int)=>{ tm:=[(0,.a (.c (.s 0 L.length))),(1,.a (.c (.f 66 []))),(5,.i q.1),(6,.a (.c (.w 0 (k+1) (L.length - (k+1)) 1))),(7,.i (q.2.1+1:Nat))],hp:=[.r ⟨37,1,true,Au q.2.2⟩],n:=66,pin:=1 })
  (fun q=>q.2.2.length=L.length/\(∀ x∈q.2.2,x∈L)/\q.1<=k+1+q.2.1/\k+2+q.2.1<=L.length/\D3 L=q.2.2.take q.1++Cf (q.2.2.getD (k+1+q.2.1) []) (q.2.2.drop (k+2+q.2.1))) (fun q=>L.length - q.2.1) (k+1,0,L) ?_ ?_ ?_
 ·refine ⟨rfl,fun x h=>h,by simp,by simp only;omega,?_⟩
  have:L.getD (k+1) []=L[k+1]:=by simp [List.getD,hlt]
  simp only [gBr,this]
  exact hI
 ·exact W5
 clear hI
 rintro ⟨m,j,ys⟩ ⟨hyl,hys,hm,hj,he⟩ K hK
 simp only at hyl hys hm hj he
 (refine ai ?_;(repeat clear hK K);repeat refine kq fun K hK=>?_)
 (refine Ah ?_;intro X Y hX hY;simp only [go_sem])
 refine ⟨fun h=>hX ?_,fun h=>hY ?_⟩
 rotate_left
 ·clear hX hY X Y
  (refine VZ ?_;repeat clear hK K)
  have hend:ys.length<=k+2+j:=by simp at h;omega
  have hfin:=Ib he hend
  have hm2:m<L.length:=by omega
  (refine ai ?_;(repeat clear hK K);repeat refine kq fun K hK=>?_)
  refine Aj rfl ?_;intro K1 hK1
  refine HW (n:=L.length - m) (off:=m) (k:=1) (id:=0) rfl rfl Tryz.underlying33 ty37 (by simp only [go_sem]) rfl (by omega) rfl rfl (by rw [CP];omega) ?_
  intro zs hz1 hz2
  have hset:De (Au ys) m zs=Au (ys.take m)++zs:=by
   rw [Hc _ _ _ (by rw [CP];omega)]
   simp [Au,List.map_take]
  simp only [hset,gBj,go_sem]
  refine hK1 _ ?_;clear hK1 K1
  (refine ai ?_;(repeat clear hK K);repeat refine kq fun K hK=>?_)
  refine W8 Tryz.results145 ?_
  have hc:D3 L=ys.take m:=hfin
  rw [hc]
  refine ⟨by rw [gAS,gBy (by omega)],zs,zs.map fun _=>Tr.l 1 [],?_,rfl⟩
  have:zs=zs.map id:=by simp
  rw [this,gAW]
  exact Fz.map fun c hc=>by
   have:=hz2 c hc
   simp at this
   subst this
   exact .inr ⟨rfl,1,rfl⟩
 have hlt:k+1+(j+1)<ys.length:=by simp at h;omega
 have hlt0:k+1+j<ys.length:=by omega
 have hw:((j+1:Nat):Int)<((L.length - (k+1):Nat):Int):=by omega
 have hw0:(j:Int)<((L.length - (k+1):Nat):Int):=by omega
 clear hX hY X Y h
 have e1:((j+1:Nat):Int) - 1=(j:Int):=by omega
 have g0:ys.getD (k+1+j) []=ys[k+1+j]:=by simp [List.getD,hlt0]
 rw [g0,show k+2+j=k+1+(j+1) from by omega] at he
 have hst:=DU he (by omega) (gE1 hlt)
 (refine ai ?_;repeat refine kq fun K hK=>?_)
 refine Yr 10 [(0,0),(1,0),(2,0),(3,0),(4,1),(5,0),(6,0),(7,0),(8,0),(9,1),(10,2),(11,0)] ?_
 (refine VS (an @e1 (an (DD (gE1 hlt)) (DD (gE1 hlt0)))) ?_;repeat clear hK K)
 refine Vt rfl rfl rfl ?_;intro K1 hK1
 refine (Av (ids:=[]) (Hb ys[k+1+(j+1)] ys[k+1+j] (hb _ (hys _ (gE6 hlt))) (hb _ (hys _ (gE6 hlt0)))) rfl rfl (by simp only [go_sem]) (by kernel_rfl) (by (simp only [List.getElem_toArray,List.getElem_cons_zero,List.getElem_cons_succ,F9,gAk,AV.ren,A0.ren,C.ren,go_sem]) <;> rfl) ?_).stp
 rintro _ _ ⟨rfl,rfl⟩
 (refine W1 ?_;clear hK1 K1)
 (refine VR ?_;repeat clear hK K)
 (refine Ah ?_;intro X Y hX hY;simp only [go_sem])
 refine ⟨fun h=>hX ?_,fun h=>hY ?_⟩
 rotate_left
 ·clear hX hY X Y
  have heq:ys[k+1+(j+1)]=ys[k+1+j]:=by simpa using h
  clear h
  (refine ai ?_;(repeat clear hK K);repeat refine kq fun K hK=>?_)
  refine W4 ?_
  refine hK _ (m,j+1,ys) ⟨hyl,hys,by simp only;omega,by simp only;omega,?_⟩ (by simp only;omega) ?_
  rotate_left
  ·exact W5
  have h1:=hst.1 heq
  have:ys.getD (k+1+(j+1)) []=ys[k+1+(j+1)]:=by simp [List.getD,hlt]
  simp only
  rw [this,show k+2+(j+1)=k+1+(j+1)+1 from by omega]
  exact h1
 clear hX hY X Y
 have hne:ys[k+1+(j+1)] ≠ ys[k+1+j]:=by simpa using h
 clear h
 have hm1:m<ys.length:=by omega
 (refine aj (an (DD (gE1 hlt)) @CP) ?_;(repeat clear hK K);repeat refine kq fun K hK=>?_)
 refine W4 ?_
 have hst2:=hst.2.1 hne
 have hpp:(ys.set m ys[k+1+(j+1)]).getD (k+1+(j+1)) []=ys[k+1+(j+1)]:=by
  rw [List.getD,gE5 (by omega),gE1 hlt];rfl
 refine hK _ (m+1,j+1,ys.set m ys[k+1+(j+1)]) ⟨by simp [hyl],?_,by simp only;omega,by simp only;omega,?_⟩ (by simp only;omega) ?_
 rotate_left
 ·simp only
  rw [hpp,show k+2+(j+1)=k+1+(j+1)+1 from by omega]
  exact hst2
 ·simp only [N1]
  exact W5
 intro x hx
 rcases gB9 hx with hx | rfl
 ·exact hys x hx
 exact hys _ (gE6 hlt)
end Go.Proofs.YtbnabodoabimnaaGreat
namespace Go.Proofs.YtbnabodoabimnaaGreat
set_option linter.unusedVariables false
set_option linter.unusedSimpArgs false
open Go.RowKit
set_option maxRecDepth 100000
theorem Rp (x y:Operand) (a b:Ar):Gf Tryz.prog .neq 23 x y [.int .i64 a.1,.int .i64 a.2] [.int .i64 b.1,.int .i64 b.2] (!decide (a=b))=True:=by
 rw [<- FP]
 refine eq_true ?_
 have:=(Tn x y [.v (.int .i64 a.1),.v (.int .i64 a.2)] [.v (.int .i64 b.1),.v (.int .i64 b.2)] _ _ rfl rfl rfl rfl).2
 simpa [V6] using this
attribute [local go_sem] gAV gAX gBp gBq gAs gAr C.pl C.one gAf gAh gA3
theorem Rq {s:ST} (i m:Nat) {r:Row} (hi:s.hp[i]?=some (.r r)) (hm:r.sl=true->r.cells.take m=[]->r.cells=[]):Le s { s with hp:=s.hp.set i (.r { r with cells:=r.cells.take m }) }:=by
 rintro M0 w0 a w ⟨g,hpp,hR⟩
 have hlt:i<s.hp.length:=(List.getElem?_eq_some_iff.1 hi).1
 have self:(s.hp.set i (.r { r with cells:=r.cells.take m }))[i]?=some (.r { r with cells:=r.cells.take m }):=by simp [hlt]
 have other:∀ q,q ≠ i->(s.hp.set i (.r { r with cells:=r.cells.take m }))[q]?=s.hp[q]?:=fun q hq=>by rw [gE5 (Ne.symm hq)]
 have tk:∀ (j:Nat) (c:C),(r.cells.take m)[j]?=some c->r.cells[j]?=some c:=fun j c h=>by
  rw [gAF] at h
  split at h
  ·exact h
  cases h
 generalize hh:s.hp.set i (.r { r with cells:=r.cells.take m })=hp' at *
 have sub:∀ ℓ,Lv hp' g ℓ->Lv s.hp g ℓ:=by
  intro ℓ hl
  cases ℓ with
  | ob q=>
   by_cases hq:q=i
   ·subst hq
    rcases hl with ⟨r2,e1,e2⟩ | ⟨kv,e1⟩
    ·exact .inl ⟨r,hi,e2⟩
    rw [self] at e1;cases e1
   rcases hl with ⟨r2,e1,e2⟩ | ⟨kv,e1⟩
   ·exact .inl ⟨r2,by rw [<- other q hq];exact e1,e2⟩
   exact .inr ⟨kv,by rw [<- other q hq];exact e1⟩
  | cl q j=>
   by_cases hq:q=i
   rotate_left
   ·obtain ⟨r2,k,cs,e1,e2,e3⟩:=hl
    exact ⟨r2,k,cs,by rw [<- other q hq];exact e1,e2,e3⟩
   subst hq
   obtain ⟨r2,k,cs,e1,e2,e3⟩:=hl
   rw [self] at e1;cases e1
   exact ⟨r,k,cs,hi,tk j _ e2,e3⟩
 have ow:∀ b,Ow hp' g b->Ow s.hp g b:=fun b ho=>ho.imp (fun h=>h) (fun ⟨ℓ,hl,e⟩=>⟨ℓ,sub ℓ hl,e⟩)
 have hmo:Mo g s.hp w g hp' w (fun _=>True):=by
  refine ⟨fun q hq=>⟨?_,rfl,rfl⟩,fun b _ ho=>ow b ho,gBu _,fun _ _ _=>rfl,fun q _ hq r2 j k cs e1 e2=>?_⟩
  ·by_cases e:q=i
   ·subst e;exact ⟨_,self,rfl⟩
   obtain ⟨o,h1,h2⟩:=hq
   exact ⟨o,by rw [other q e];exact h1,h2⟩
  by_cases e:q=i
  rotate_left
  ·exact ⟨r2,by rw [<- other q e];exact e1,e2,fun _=>rfl⟩
  subst e
  rw [self] at e1
  cases e1
  exact ⟨r,hi,tk j _ e2,fun _=>rfl⟩
 have hr:=hR.hr
 refine ⟨g,⟨by show s.pin<=hp'.length;rw [<- hh];simpa using hpp.1,hpp.2⟩,hR.mo hmo ?_ (fun ℓ hl=>hR.new ℓ (sub ℓ hl)) hR.fp⟩
 refine ⟨hr.ml,fun ℓ hl=>hr.md ℓ (sub ℓ hl),fun ℓ ℓ' h1 h2=>hr.inj ℓ ℓ' (sub ℓ h1) (sub ℓ' h2),fun q r2 e1=>?_,fun q kv e1=>?_,hmo.gl hr.gl⟩
 rotate_left
 ·by_cases e:q=i
  ·subst e;rw [self] at e1;cases e1
  rw [other q e] at e1
  exact MpR.mo hmo e1 (hr.mp q kv e1) rfl
 by_cases e:q=i
 rotate_left
 ·rw [other q e] at e1
  exact RowR.mo hmo e1 (hr.row q r2 e1) (fun _=>rfl) (fun _ _ _ _ _=>⟨rfl,rfl⟩)
 subst e
 rw [self] at e1
 cases e1
 rcases hr.row q r hi with ⟨k1,k2⟩ | ⟨k1,k2,arr,k3,k4,k5,k6,k7⟩
 ·exact .inl ⟨k1,by simp [k2]⟩
 refine .inr ⟨k1,fun h1 h2=>k2 h1 (hm h1 h2),arr,k3,gBv (by simp only [gAS];omega) k4,k5,k6,fun j c hj=>?_⟩
 obtain ⟨u,u1,u2⟩:=k7 j c (tk j c hj)
 exact ⟨u,u1,CellR.mo hmo u2 (fun k cs hc _=>⟨rfl,rfl⟩)⟩
end Go.Proofs.YtbnabodoabimnaaGreat
