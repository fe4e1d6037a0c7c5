/- Lemmas. -/
import Derived.Test.YtjijjfkalheokaaGreatDoorZk
import Derived.Test.YtjijjfkalheokaaGreatDoorG42
import Derived.Test.YtjijjfkalheokaaGreatDoorG11
import Derived.Test.YtjijjfkalheokaaGreatDoorTj1
namespace Go.Proofs.YtjijjfkalheokaaGreatDoor
set_option linter.unusedVariables false
set_option linter.unusedSimpArgs false
open Go.RowKit
set_option maxRecDepth 100000
attribute [local go_sem] lga C.pl C.one

theorem MX (R:List (List Ar)) (L:List Int) (hL:∀ x∈L,0<=x/\x<(R.length:Int)) (hn:R.length<=1000000) (hl:L.length<=1000000):FC Tryz.prog 91 [B7 R,.a (.c (.t 1 (Ab L)))] [] (fun r o=>o=[]/\r=.b true):=by
 refine A6 Tryz.func91 rfl (by rw [Tryz.ntmps91];simp) ?_
 rw [Tryz.ntmps91]
 simp only [Bf,B7]
 (refine Wt ?_;(repeat clear hK K);repeat refine kq fun K hK=>?_)
 refine A8 (fun k:Nat=>{ tm:=[(1,.a (.c (.t 1 (Ab L)))),(2,.a (.c (.p 0 0))),(5,.i k)],hp:=[.r ⟨25,1,false,[.t 1 (Ah R)]⟩],n:=27,pin:=0 }) (fun k=>k<=L.length) (fun k=>L.length - k) 0 ?_ ?_ ?_
 ·omega
 ·exact WE
 rintro k hk K hK
 by_cases hlt:k<L.length
 rotate_left
 ·have d1:decide ((k:Int)<(L.length:Int))=false:=by simpa using hlt
  (refine Wu (an @d1 @A4) ?_;(repeat clear hK K);repeat refine kq fun K hK=>?_)
  refine WC ?_
  (refine Wx ?_;repeat clear hK K)
  (refine Wt ?_;(repeat clear hK K);repeat refine kq fun K hK=>?_)
  exact Lq [] Tryz.results91
 have d1:decide ((k:Int)<(L.length:Int))=true:=by simpa using hlt
 have gx:(Ab L)[k]?=some (.v (.int .i64 L[k])):=by simp [Ab,hlt]
 have hx:=hL _ (gE6 hlt)
 have d2:decide (L[k]<0)=false:=by simp;omega
 have d3:decide (L[k]>=(R.length:Int))=false:=by simp;omega
 (refine Wu (an @d1 @A4) ?_;(repeat clear hK K);repeat refine kq fun K hK=>?_)
 refine WB ?_
 (refine Wt ?_;(repeat clear hK K);repeat refine kq fun K hK=>?_)
 (refine Ac 14 [(0,0),(1,0),(2,0),(3,1),(4,0),(5,0),(6,0),(7,0),(8,0),(9,1),(10,0),(11,1),(12,0),(13,0),(14,2)] (by kernel_rfl) (by kernel_rfl) (by intro c st h;simp [Ae,AF,VT] at h) ?_)
 (refine Wq (an @gx (an @A4 (an @d2 (an @d3 @A3)))) ?_;repeat clear hK K)
 refine WC ?_
 (refine Wt ?_;(repeat clear hK K);repeat refine kq fun K hK=>?_)
 refine WD ?_
 refine hK _ (k+1) (by omega) (by omega) ?_
 exact WE

def WU (B:List Bool):List C:=B.map fun b=>C.v (.bool b)
theorem CM (B:List Bool):(WU B).length=B.length:=by simp [WU]
theorem Jf {B:List Bool} {i:Nat} {b:Bool} (h:B[i]?=some b):(WU B)[i]?=some (.v (.bool b)):=by simp [WU,h]
theorem Gi (B:List Bool) (i:Nat) (b:Bool):(WU B).set i (.v (.bool b))=WU (B.set i b):=by simp [WU,List.map_set]
theorem Cf (f:List Nat) (B:List Bool):(WU B).map (C.ren f)=WU B:=by simp [WU,C.ren,Function.comp_def]
def Hl (t:Bool) (r:List Ar):List Ar:=r.filter fun a=>!t || a.1 == 0
def LA (t:Bool) (R:List (List Ar)) (v:Nat):List Nat:=(Hl t (R.getD v [])).map fun a=>a.2.toNat
def Bu (B:List Bool) (u:Nat):Bool:=B.getD u false
structure Rs (E:Nat->List Nat) (n:Nat) (F:List Nat) (B:List Bool) (Q:List Nat):Prop where
 len:B.length=n
 snd:∀ u,Bu B u=true->∃ v∈F,Rc E v u
 q:∀ u∈Q,u<n/\∃ v∈F,Rc E v u
 cl:∀ u,Bu B u=true->∀ w∈E u,Bu B w=true\/w∈Q
 st:∀ v∈F,Bu B v=true\/v∈Q
theorem PA {B:List Bool} {u:Nat} (h:u<B.length) (w:Nat):Bu (B.set u true) w=if w=u then true else Bu B w:=by
 unfold Bu
 simp only [gE2]
 by_cases e:w=u
 ·subst e;rw [if_pos rfl,gEc h];rfl
 rw [if_neg e,gE5 (fun h=>e h.symm)]
variable {E : Nat -> List Nat} {n u : Nat} {F : List Nat} {B : List Bool} {Q : List Nat}
theorem Rs.start (hF:∀ v∈F,v<n):Rs E n F (List.replicate n false) F:=by
 have e:∀ u,Bu (List.replicate n false) u=false:=fun u=>by
  unfold Bu;rw [gE2,List.getElem?_replicate];split <;> rfl
 exact ⟨by simp,fun u h=>(by rw [e] at h;cases h),fun u h=>⟨hF u h,u,h,.refl _⟩,fun u h=>(by rw [e] at h;cases h),fun v h=>.inr h⟩
theorem Rs.old (h:Rs E n F B (Q++[u])) (hs:Bu B u=true):Rs E n F B Q:=by
 refine ⟨h.len,h.snd,fun w hw=>h.q w (List.mem_append_left _ hw),fun w hw x hx=>?_,fun v hv=>?_⟩
 rotate_left
 ·rcases h.st v hv with h1 | h1
  ·exact .inl h1
  rcases List.mem_append.1 h1 with h1 | h1
  ·exact .inr h1
  simp at h1;subst h1;exact .inl hs
 rcases h.cl w hw x hx with h1 | h1
 ·exact .inl h1
 rcases List.mem_append.1 h1 with h1 | h1
 ·exact .inr h1
 simp at h1;subst h1;exact .inl hs
theorem Rs.new (h:Rs E n F B (Q++[u])) (hE:∀ w∈E u,w<n):Rs E n F (B.set u true) (Q++E u):=by
 have hu:=h.q u (by simp)
 have hs:=PA (B:=B) (u:=u) (by rw [h.len];exact hu.1)
 refine ⟨by rw [List.length_set];exact h.len,fun w hw=>?_,fun w hw=>?_,fun w hw x hx=>?_,fun v hv=>?_⟩
 rotate_left 3
 ·rw [hs]
  by_cases e2:v=u
  ·left;rw [if_pos e2]
  rw [if_neg e2]
  rcases h.st v hv with h1 | h1
  ·exact .inl h1
  rcases List.mem_append.1 h1 with h1 | h1
  ·exact .inr (List.mem_append_left _ h1)
  simp at h1;exact absurd h1 e2
 ·rw [hs] at hw
  split at hw
  ·rename_i e;rw [e];exact hu.2
  exact h.snd w hw
 ·rcases List.mem_append.1 hw with h1 | h1
  ·exact h.q w (List.mem_append_left _ h1)
  obtain ⟨v,q1,q2⟩:=hu.2
  exact ⟨hE w h1,v,q1,q2.tail h1⟩
 rw [hs] at hw ⊢
 by_cases e2:x=u
 ·left;rw [if_pos e2]
 rw [if_neg e2]
 split at hw
 ·rename_i e;subst e;exact .inr (List.mem_append_right _ hx)
 rcases h.cl w hw x hx with h1 | h1
 ·exact .inl h1
 rcases List.mem_append.1 h1 with h1 | h1
 ·exact .inr (List.mem_append_left _ h1)
 simp at h1;exact absurd h1 e2
theorem Rs.done (h:Rs E n F B []) (u:Nat):Bu B u=true↔∃ v∈F,Rc E v u:=by
 refine ⟨h.snd u,fun ⟨v,hv,hr⟩=>?_⟩
 induction hr with
 | refl=>exact (h.st v hv).resolve_right (by simp)
 | tail _ he ih=>exact (h.cl _ (ih ⟨v,hv,‹_›⟩) _ he).resolve_right (by simp)
theorem LB {B:List Bool} {u:Nat} (h:u<B.length) (hb:B[u]=false):(B.set u true).count false+1=B.count false:=by
 induction B generalizing u with
 | nil=>simp at h
 | cons x r ih=>
  cases u with
  | zero=>simp at hb;subst hb;simp
  | succ u=>
   rw [List.set_cons_succ]
   have:=ih (u:=u) (by simpa using h) (by simpa using hb)
   rw [List.count_cons,List.count_cons]
   omega

theorem MY (t:Bool) (r:List Ar) (a:Ar):Hl t (r++[a])=Hl t r++(if !t || a.1 == 0 then [a] else []):=by
 unfold Hl
 rw [List.filter_append]
 congr 1
 rw [List.filter_cons,List.filter_nil]
theorem RU (Q:List Nat) (u:Nat) (J:List Int):A7 ((Q++[u]).map Int.ofNat++J)=A7 (Q.map Int.ofNat++((u:Int) :: J)):=by
 rw [List.map_append,List.append_assoc];rfl
theorem RW (Q:List Nat) (u:Nat) (J:List Int):(A7 (Q.map Int.ofNat++((u:Int) :: J)))[Q.length]?=some (.v (.int .i64 u)):=by
 refine Aq ?_
 rw [gEb (by simp),List.length_map,Nat.sub_self];rfl
theorem PB {c0 c1 q e n w m:Nat} (h1:c1+1=c0) (h2:c0*w+(q+1)<=n*w+m) (h3:e+1<=w):c1*w+(q+e)<=n*w+m:=by
 subst h1
 rw [Nat.add_mul,Nat.one_mul] at h2
 generalize c1*w=x at *
 generalize n*w=y at *
 omega
set_option maxHeartbeats 8000000 in
theorem Io (R:List (List Ar)) (F:List Nat) (t:Bool) (hv:Bv R=true) (hF:∀ v∈F,v<R.length) (hFl:F.length<=1000000) (hn:R.length<=1000000) (hr:∀ r∈R,r.length<=1000000):FC Tryz.prog 57 [B7 R,.a (.c (.t 1 (Ab (F.map Int.ofNat)))),.b t] [] (fun r o=>∃ B:List Bool,B.length=R.length/\(∀ u,Bu B u=true↔∃ v∈F,Rc (LA t R) v u)/\∃ L,L=((List.range R.length).filter (Bu B)).map Int.ofNat/\o=[AA L]/\r=.a (.c (.s 0 L.length))):=by
 refine A6 Tryz.func57 rfl (by rw [Tryz.ntmps57];simp) ?_
 rw [Tryz.ntmps57]
 simp only [Bf,B7]
 have hlo:BE R=true:=gEg (gE4 hv).1
 have hbd:=(gE4 hlo).2.2.2
 have hFi:∀ x∈F.map Int.ofNat,0<=x/\x<(R.length:Int):=fun x h=>by
  obtain ⟨u,hu,rfl⟩:=List.mem_map.1 h
  have:=hF u hu
  simp only [Int.ofNat_eq_natCast]
  omega
 (refine Wt ?_;(repeat clear hK K);repeat refine kq fun K hK=>?_)
 (refine Wy (C7 R (by omega) (fun r h=>by have:=hr r h;omega)) ?_;intro K1 hK1)
 rintro _ _ ⟨rfl,rfl⟩
 (refine Wz ?_;clear hK1 K1)
 (refine Wu (an @hv @Bool.not_true) ?_;(repeat clear hK K);repeat refine kq fun K hK=>?_)
 (refine BV rfl rfl (by simp only [go_sem] <;> rfl) ?_;intro K1 hK1;refine (Bb (ids:=[]) (MX R (F.map Int.ofNat) hFi hn (by rw [List.length_map];exact hFl)) rfl rfl (by simp only [go_sem]) (by kernel_rfl) (by (simp only [List.append_nil,go_sem]) <;> rfl) ?_).stp)
 rintro _ _ ⟨rfl,rfl⟩
 (refine Wz ?_;clear hK1 K1)
 (refine Wu @Bool.not_true ?_;(repeat clear hK K);repeat refine kq fun K hK=>?_)
 refine WC ?_
 (refine Wu (an @A3 (an @Bm (an @A4 (an @List.length_map.{0,0} (an @List.length_cons.{0} @List.length_nil.{0}))))) ?_;(repeat clear hK K);repeat refine kq fun K hK=>?_)
 have e0:List.replicate R.length (C.v (.bool false))=WU (List.replicate R.length false):=by simp [WU]
 rw [e0]
 refine Au (A9 [0,1,3] rfl rfl) ?_
 (try simp only [List.set_nil,List.take_nil,List.take_zero,List.map_append,go_sem])
 (try simp only [Af,Cf])
 have hAd:∀ u,u<R.length->∀ w∈LA t R u,w<R.length:=fun u hu w hw=>by
  unfold LA at hw
  rw [gE2,gE1 hu,Option.getD_some] at hw
  obtain ⟨a,ha,rfl⟩:=List.mem_map.1 hw
  have h2:=hbd _ (gE6 hu) a (List.mem_filter.1 ha).1
  omega
 refine A8 (fun x:List Bool × List Nat × List Int=>{ tm:=[(2,.b t),(3,.a (.c (.p 0 0))),(7,.a (.c (.s 1 R.length))),(8,.a (.c (.s 2 x.2.1.length)))],hp:=[.r ⟨25,1,false,[.t 1 (Ah R)]⟩,.r ⟨4,1,true,WU x.1⟩,.r ⟨3,1,true,A7 (x.2.1.map Int.ofNat++x.2.2)⟩],n:=101,pin:=0 }) (fun x=>Rs (LA t R) R.length F x.1 x.2.1/\x.1.count false*1000001+x.2.1.length<=R.length*1000001+F.length) (fun x=>x.1.count false*1000001+x.2.1.length) (List.replicate R.length false,F,[]) ?_ ?_ ?_
 ·exact ⟨Rs.start hF,by simp⟩
 ·simp only [List.append_nil]
  exact WE
 rintro ⟨B,Q,J⟩ ⟨hR,hM⟩ K hK
 simp only at hR hM
 have hBl:=hR.len
 rcases List.eq_nil_or_concat Q with hQ | ⟨Q',u,hQ⟩
 ·subst hQ
  have d1:decide (((0:Nat):Int) > 0)=false:=rfl
  (refine Wu @d1 ?_;(repeat clear hK K);repeat refine kq fun K hK=>?_)
  refine WC ?_
  (refine Wx ?_;repeat clear hK K)
  (refine Wt ?_;(repeat clear hK K);repeat refine kq fun K hK=>?_)
  refine Au (CT 11 3 1 ?_) ?_
  ·simp only [go_sem]
  refine Au (A9 [0,1,3] rfl rfl) ?_
  (try simp only [List.set_nil,List.take_nil,List.take_zero,List.map_append,go_sem])
  (try simp only [Af,Cf])
  refine A8 (fun k:Nat=>{ tm:=[(7,.a (.c (.s 1 R.length))),(11,.a (.c (.s 2 ((List.range k).filter (Bu B)).length))),(12,.i k)],hp:=[.r ⟨25,1,false,[.t 1 (Ah R)]⟩,.r ⟨4,1,true,WU B⟩,.r ⟨3,1,true,A7 (((List.range k).filter (Bu B)).map Int.ofNat)⟩],n:=101,pin:=0 }) (fun k=>k<=R.length) (fun k=>R.length - k) 0 ?_ ?_ ?_
  ·omega
  ·exact WE
  rintro k hk K hK
  by_cases hlt:k<R.length
  rotate_left
  ·have d2:decide ((k:Int)<(R.length:Int))=false:=by simpa using hlt
   have hke:k=R.length:=by omega
   rw [hke] at d2
   rw [hke]
   (refine Wu (an @d2 (an @CM @hBl)) ?_;(repeat clear hK K);repeat refine kq fun K hK=>?_)
   refine WC ?_
   (refine Wx ?_;repeat clear hK K)
   (refine Wt ?_;(repeat clear hK K);repeat refine kq fun K hK=>?_)
   refine WG [2] Tryz.results57 @Af ?_
   exact ⟨B,hBl,fun u=>hR.done u,_,rfl,rfl,by simp⟩
  have d2:decide ((k:Int)<(R.length:Int))=true:=by simpa using hlt
  have gb:(WU B)[k]?=some (.v (.bool B[k])):=Jf (gE1 (by omega))
  have hsB:Bu B k=B[k]:=by unfold Bu;rw [gE2,gE1 (by omega)];rfl
  have hrg:(List.range (k+1)).filter (Bu B)=(List.range k).filter (Bu B)++(if Bu B k then [k] else []):=by
   rw [List.range_succ,List.filter_append]
   congr 1
   rw [List.filter_cons,List.filter_nil]
  have hfl:((List.range k).filter (Bu B)).length<=k:=by
   have:=List.length_filter_le (Bu B) (List.range k)
   simpa using this
  have op1:=F0 ((List.range k).filter (Bu B)) k []
  simp only [List.append_nil] at op1
  generalize hQ:(List.range k).filter (Bu B)=Qk at *
  (refine Wu (an @d2 (an @CM @hBl)) ?_;(repeat clear hK K);repeat refine kq fun K hK=>?_)
  refine WB ?_
  cases hb:B[k] with
  | true=>
   rw [hsB,hb] at hrg
   rw [hb] at gb
   (refine Wu (an @gb (an @CM @hBl)) ?_;(repeat clear hK K);repeat refine kq fun K hK=>?_)
   refine WB ?_
   (refine Wu (an @op1 (an @A5 (an @List.length_map.{0,0} @Nat.le_refl))) ?_;(repeat clear hK K);repeat refine kq fun K hK=>?_)
   refine WD ?_
   refine hK _ (k+1) (by omega) (by omega) ?_
   refine Le.trans (A9 [0,1,4] rfl rfl) ?_
   (try simp only [List.set_nil,List.take_nil,List.take_zero,List.map_append,go_sem])
   (try simp only [Af,Cf])
   rw [List.range_succ] at hrg
   simp only [hrg,if_true,List.map_append,List.map_cons,List.map_nil,List.length_append,List.length_cons,List.length_nil]
   exact WE
  | false=>
   rw [hsB,hb] at hrg
   rw [hb] at gb
   (refine Wu (an @gb (an @CM @hBl)) ?_;(repeat clear hK K);repeat refine kq fun K hK=>?_)
   refine WC ?_
   (refine Wt ?_;(repeat clear hK K);repeat refine kq fun K hK=>?_)
   refine WD ?_
   refine hK _ (k+1) (by omega) (by omega) ?_
   simp only [hrg,Bool.false_eq_true,if_false,List.append_nil]
   exact WE
 rw [List.concat_eq_append] at hQ
 subst hQ
 have hKo:=hK
 have hQl:(Q'++[u]).length=Q'.length+1:=by simp
 rw [hQl] at hM
 have d1:decide (((Q'.length+1:Nat):Int) > 0)=true:=by simp
 have e5:((Q'.length+1:Nat):Int) - 1=(Q'.length:Int):=by omega
 have gt:=RW Q' u J
 have hul:=(hR.q u (by simp)).1
 have gb:(WU B)[u]?=some (.v (.bool B[u])):=Jf (gE1 (by omega))
 have hsB:Bu B u=B[u]:=by unfold Bu;rw [gE2,gE1 (by omega)];rfl
 have hcl:Q'.length+1<=(Q'.map Int.ofNat++((u:Int) :: J)).length:=by simp
 rw [RU,hQl]
 (refine Wu @d1 ?_;(repeat clear hK K);repeat refine kq fun K hK=>?_)
 refine WB ?_
 (refine Wu (an @e5 (an @gt (an @A5 (an @CM (an @hBl @gb))))) ?_;(repeat clear hK K);repeat refine kq fun K hK=>?_)
 cases hb:B[u] with
 | true=>
  rw [hb] at hsB
  (refine At ?_;intro X Y hX hY;simp only [go_sem,hb])
  refine hX ?_
  clear hX hY X Y
  (refine Df ?_;simp only [Ae,AF,reduceIte,Nat.reduceEqDiff])
  refine hKo _ (B,Q',(u:Int) :: J) ⟨hR.old hsB,by simp only;omega⟩ (by simp only [hQl];omega) ?_
  exact WE
 | false=>
  have hcs:=LB (B:=B) (u:=u) (by omega) hb
  (refine At ?_;intro X Y hX hY;simp only [go_sem,hb])
  refine hY ?_
  clear hX hY X Y
  (refine Cn (an @CM (an @hBl @Gi)) ?_;(repeat clear hK K);repeat refine kq fun K hK=>?_)
  have hgR:=gE1 hul
  have hrl:=hr _ (gE6 hul)
  have hbu:=hbd _ (gE6 hul)
  have hEu:LA t R u=(Hl t R[u]).map fun a=>a.2.toNat:=by
   unfold LA
   rw [gE2,hgR];rfl
  have hnew:=hR.new (hAd u hul)
  generalize hrr:R[u]=r at *
  have hql1:Q'.length<=1000002000001:=by omega
  refine A8 (fun x:Nat × List Int=>{ tm:=[(2,.b t),(3,.a (.c (.p 0 0))),(7,.a (.c (.s 1 R.length))),(8,.a (.c (.s 2 (Q'++(Hl t (r.take x.1)).map fun a=>a.2.toNat).length))),(9,.i u),(10,.i x.1)],hp:=[.r ⟨25,1,false,[.t 1 (Ah R)]⟩,.r ⟨4,1,true,WU (B.set u true)⟩,.r ⟨3,1,true,A7 ((Q'++(Hl t (r.take x.1)).map fun a=>a.2.toNat).map Int.ofNat++x.2)⟩],n:=101,pin:=0 }) (fun x=>x.1<=r.length) (fun x=>r.length - x.1) (0,(u:Int) :: J) ?_ ?_ ?_
  ·simp only;omega
  ·simp only [List.take_zero,Hl,List.filter_nil,List.map_nil,List.append_nil]
   exact WE
  rintro ⟨k,J2⟩ hk K hK
  simp only at hk
  have hQk:((Hl t (r.take k)).map fun a=>a.2.toNat).length<=k:=by
   rw [List.length_map]
   refine Nat.le_trans (List.length_filter_le _ _) (by simp;omega)
  by_cases hlt:k<r.length
  rotate_left
  ·have d2:decide ((k:Int)<(r.length:Int))=false:=by simpa using hlt
   have hke:r.take k=r:=gE7 (by omega)
   rw [hke,<- hEu]
   (refine Wu (an @d2 (an @A3 (an (Ag hgR) (an @A2 @Ak)))) ?_;(repeat clear hK K);repeat refine kq fun K hK=>?_)
   refine WC ?_
   (refine Df ?_;simp only [Ae,AF,reduceIte,Nat.reduceEqDiff])
   have hEl:(LA t R u).length<=1000000:=by
    rw [hEu,List.length_map]
    exact Nat.le_trans (List.length_filter_le _ _) hrl
   refine hKo _ (B.set u true,Q'++LA t R u,J2) ⟨hnew,?_⟩ ?_ ?_
   rotate_left
   ·simp only [List.length_append,hQl];omega
   ·exact WE
   simp only [List.length_append]
   exact PB hcs hM (Nat.succ_le_succ hEl)
  have d2:decide ((k:Int)<(r.length:Int))=true:=by simpa using hlt
  have ha0:=CC hlt
  have ha1:=Dn hlt
  have hb2:=hbu _ (gE6 hlt)
  obtain ⟨tn,htn⟩:∃ tn:Nat,r[k].2=tn:=⟨r[k].2.toNat,by omega⟩
  rw [htn] at ha1
  have hsn:Hl t (r.take (k+1))=Hl t (r.take k)++(if !t || r[k].1 == 0 then [r[k]] else []):=by
   rw [gE8 hlt,MY]
  have htm:(r[k].2.toNat)=tn:=by rw [htn];rfl
  have op1:=F0 (Q'++(Hl t (r.take k)).map fun a=>a.2.toNat) tn J2
  have hQt:(Q'++(Hl t (r.take k)).map fun a=>a.2.toNat).length<=1000002000001:=by rw [List.length_append];omega
  generalize hQ0:(Q'++(Hl t (r.take k)).map fun a=>a.2.toNat)=Qk at *
  have hQle:Qk.length<=(Qk.map Int.ofNat++J2).length:=by simp
  cases t with
  | false=>
   rw [if_pos (by rfl)] at hsn
   (refine Wu (an @d2 (an @A3 (an (Ag hgR) (an @A2 @Ak)))) ?_;(repeat clear hK K);repeat refine kq fun K hK=>?_)
   refine WB ?_
   (refine Wu (an @Bool.not_false (an @ha0 (an @ha1 (an @A3 (an (Ag hgR) (an @A2 (an @Ak (an @op1 @A5)))))))) ?_;(repeat clear hK K);repeat refine kq fun K hK=>?_)
   refine WB ?_
   (refine Wu (an @ha0 (an @ha1 (an @A3 (an (Ag hgR) (an @A2 (an @Ak (an @op1 @A5))))))) ?_;(repeat clear hK K);repeat refine kq fun K hK=>?_)
   refine WD ?_
   refine hK _ (k+1,[]) (by simp only;omega) (by simp only;omega) ?_
   refine Le.trans (A9 [0,1,4] rfl rfl) ?_
   (try simp only [List.set_nil,List.take_nil,List.take_zero,List.map_append,go_sem])
   (try simp only [Af,Cf])
   rw [hsn]
   simp only [List.map_append,List.map_cons,List.map_nil,<- List.append_assoc,htm,<- hQ0,List.length_append,List.length_cons,List.length_nil]
   exact WE
  | true=>
   cases q1:(r[k].1 == 0) with
   | true=>
    rw [if_pos (by rw [q1];rfl)] at hsn
    (refine Wu (an @d2 (an @A3 (an (Ag hgR) (an @A2 @Ak)))) ?_;(repeat clear hK K);repeat refine kq fun K hK=>?_)
    refine WB ?_
    (refine Wu (an @Bool.not_true (an @q1 (an @ha0 (an @ha1 (an @A3 (an (Ag hgR) (an @A2 (an @Ak (an @op1 @A5))))))))) ?_;(repeat clear hK K);repeat refine kq fun K hK=>?_)
    refine WB ?_
    (refine Wu (an @ha0 (an @ha1 (an @A3 (an (Ag hgR) (an @A2 (an @Ak (an @op1 @A5))))))) ?_;(repeat clear hK K);repeat refine kq fun K hK=>?_)
    refine WD ?_
    refine hK _ (k+1,[]) (by simp only;omega) (by simp only;omega) ?_
    refine Le.trans (A9 [0,1,4] rfl rfl) ?_
    (try simp only [List.set_nil,List.take_nil,List.take_zero,List.map_append,go_sem])
    (try simp only [Af,Cf])
    rw [hsn]
    simp only [List.map_append,List.map_cons,List.map_nil,<- List.append_assoc,htm,<- hQ0,List.length_append,List.length_cons,List.length_nil]
    exact WE
   | false=>
    rw [if_neg (by rw [q1];simp),List.append_nil] at hsn
    (refine Wu (an @d2 (an @A3 (an (Ag hgR) (an @A2 @Ak)))) ?_;(repeat clear hK K);repeat refine kq fun K hK=>?_)
    refine WB ?_
    (refine Wu (an @Bool.not_true (an @q1 (an @ha0 (an @ha1 (an @A3 (an (Ag hgR) (an @A2 (an @Ak (an @op1 @A5))))))))) ?_;(repeat clear hK K);repeat refine kq fun K hK=>?_)
    refine WC ?_
    (refine Wt ?_;(repeat clear hK K);repeat refine kq fun K hK=>?_)
    refine WD ?_
    refine hK _ (k+1,J2) (by simp only;omega) (by simp only;omega) ?_
    simp only [hsn,hQ0]
    exact WE
theorem PC (R:List (List Ar)) (v:Nat) (t:Bool) (hv:Bv R=true) (hvn:v<R.length) (hn:R.length<=1000000) (hr:∀ r∈R,r.length<=1000000):FC Tryz.prog 57 [B7 R,.a (.c (.t 1 (Ab [(v:Int)]))),.b t] [] (fun r o=>∃ B:List Bool,B.length=R.length/\(∀ u,Bu B u=true↔Rc (LA t R) v u)/\∃ L,L=((List.range R.length).filter (Bu B)).map Int.ofNat/\o=[AA L]/\r=.a (.c (.s 0 L.length))):=
 (Io R [v] t hv (by simpa using hvn) (by simp) hn hr).mono fun _ _ ⟨B,h1,h2,h3⟩=>⟨B,h1,fun u=>by rw [h2];simp,h3⟩
end Go.Proofs.YtjijjfkalheokaaGreatDoor
namespace Go.Proofs.YtjijjfkalheokaaGreatDoor
set_option linter.unusedVariables false
set_option linter.unusedSimpArgs false

def Cq (r:List Ar):List Ar:=r.foldl (fun acc a=>D1 a acc) []
def AX (num old:List Int) (t:Int):List Int × List Int:=if num.getD t.toNat 0<0 then (num.set t.toNat old.length,old++[t]) else (num,old)
def Cr:List Ar->List Int->List Int->List Ar->List Int × List Int × List Ar
 | [],num,old,nxt=>(num,old,nxt)
 | a :: tl,num,old,nxt=>Cr tl (AX num old a.2).1 (AX num old a.2).2 (D1 (a.1,(AX num old a.2).1.getD a.2.toNat 0) nxt)
def F2 (rows:List (List Ar)):Nat->Nat->List Int->List Int->List (List Ar)->List (List Ar) × List Int
 | 0,_,_,old,out=>(out,old)
 | f+1,i,num,old,out=>match old[i]? with
  | none=>(out,old)
  | some s=>F2 rows f (i+1) (Cr (Cq (rows.getD s.toNat [])) num old []).1 (Cr (Cq (rows.getD s.toNat [])) num old []).2.1 (out++[(Cr (Cq (rows.getD s.toNat [])) num old []).2.2])
def BT (rows:List (List Ar)):List (List Ar) × List Int:=F2 rows rows.length 0 ((List.replicate rows.length (-1)).set 0 0) [0] []

theorem Hm (r acc:List Ar) (a:Ar):a∈r.foldl (fun acc a=>D1 a acc) acc↔a∈acc\/a∈r:=by
 induction r generalizing acc with
 | nil=>simp
 | cons x xs ih=>rw [List.foldl_cons,ih,FH,List.mem_cons,or_comm (a:=a=x),or_assoc]
theorem C8 (r:List Ar) (a:Ar):a∈Cq r↔a∈r:=by unfold Cq;rw [Hm];simp
theorem EC (r acc:List Ar):(r.foldl (fun acc a=>D1 a acc) acc).length<=acc.length+r.length:=by
 induction r generalizing acc with
 | nil=>simp
 | cons x xs ih=>rw [List.foldl_cons,List.length_cons];have:=ih (D1 x acc);have:=DO x acc;omega
theorem Gj (r:List Ar):(Cq r).length<=r.length:=by have:=EC r [];simpa [Cq] using this

structure NumOk (n:Nat) (num old:List Int):Prop where
 len:num.length=n
 rng:∀ x∈num,-1<=x/\x<n
 st:∀ s∈old,0<=s/\s<n
 cnt:old.length+num.countP (fun x=>decide (x<0))=n
theorem LC {p:Int->Bool} {l:List Int} {i:Nat} {x y:Int} (h:l[i]?=some x) (hx:p x=true) (hy:p y=false):(l.set i y).countP p+1=l.countP p:=by
 induction l generalizing i with
 | nil=>simp at h
 | cons z zs ih=>
  cases i with
  | zero=>simp at h;subst h;simp [List.countP_cons,hx,hy]
  | succ i=>
   simp only [List.getElem?_cons_succ] at h
   have:=ih h
   simp only [List.set_cons_succ,List.countP_cons]
   omega
theorem NumOk.le {n:Nat} {num old:List Int} (h:NumOk n num old):old.length<=n:=by have:=h.cnt;omega
theorem NumOk.get {n:Nat} {num old:List Int} (h:NumOk n num old) {t:Int} (h0:0<=t) (h1:t<n):∃ x,num[t.toNat]?=some x/\num.getD t.toNat 0=x /\ -1<=x/\x<n:=by
 have hl:t.toNat<num.length:=by rw [h.len];omega
 exact ⟨num[t.toNat],gE1 hl,by simp [hl],h.rng _ (gE6 hl)⟩
theorem NumOk.one {n:Nat} {num old:List Int} (h:NumOk n num old) {t:Int} (h0:0<=t) (h1:t<n):NumOk n (AX num old t).1 (AX num old t).2:=by
 obtain ⟨x,hx,hd,hb⟩:=h.get h0 h1
 unfold AX
 rw [hd]
 split
 rotate_left
 ·exact h
 rename_i hneg
 have hc:=LC (p:=fun x=>decide (x<0)) (y:=(old.length:Int)) hx (by simpa using hneg) (by simp)
 have hcnt:=h.cnt
 refine ⟨by simp [h.len],fun y hy=>?_,fun s hs=>?_,by simp;omega⟩
 ·rcases List.mem_or_eq_of_mem_set hy with hy | hy
  ·exact h.rng y hy
  subst hy;omega
 rcases List.mem_append.1 hs with hs | hs
 ·exact h.st s hs
 simp at hs;subst hs;exact ⟨h0,h1⟩
theorem NumOk.go {n:Nat}:∀ (r:List Ar) {num old:List Int} (nxt:List Ar),NumOk n num old->(∀ a∈r,0<=a.2/\a.2<n)->NumOk n (Cr r num old nxt).1 (Cr r num old nxt).2.1
 | [],_,_,_,h,_=>h
 | a :: tl,_,_,nxt,h,hr=>NumOk.go tl _ (h.one (hr a (by simp)).1 (hr a (by simp)).2) (fun b hb=>hr b (gEf _ hb))
theorem NumOk.start {n:Nat} (hn:0<n):NumOk n ((List.replicate n (-1)).set 0 0) [0]:=by
 obtain ⟨k,rfl⟩:∃ k,n=k+1:=⟨n - 1,by omega⟩
 refine ⟨by simp,fun x hx=>?_,fun s hs=>?_,?_⟩
 rotate_left
 ·simp at hs;subst hs;omega
 ·simp [List.replicate_succ,List.countP_replicate];omega
 rcases List.mem_or_eq_of_mem_set hx with h | h
 ·rw [(List.mem_replicate.1 h).2];omega
 subst h;omega


theorem GT {rows:List (List Ar)} {f i:Nat} {num old:List Int} {out:List (List Ar)} (h:old.length<=i):F2 rows f i num old out=(out,old):=by
 cases f with
 | zero=>rfl
 | succ f=>simp [F2,List.getElem?_eq_none h]
theorem GU {rows:List (List Ar)} {n i:Nat} {num old:List Int} {out:List (List Ar)} {s:Int} {r:List Ar} (hi:i<n) (hs:old[i]?=some s) (hr:rows[s.toNat]?=some r) {row:List Ar} (hrow:row=Cq r):
  F2 rows (n - i) i num old out=F2 rows (n - (i+1)) (i+1) (Cr row num old []).1 (Cr row num old []).2.1 (out++[(Cr row num old []).2.2]):=by
 obtain ⟨m,hm⟩:∃ m,n - i=m+1:=⟨n - i - 1,by omega⟩
 have hm':n - (i+1)=m:=by omega
 rw [hm,hm',F2,hs,hrow]
 have:rows.getD s.toNat []=r:=by simp [List.getD,hr]
 simp only [this]

theorem MZ {tl:List Ar} {num old:List Int} {nxt:List Ar} {e x:Int} {tn L:Nat} (hx:num[tn]?=some x) (hneg:x<0) (hL:old.length=L):
  Cr ((e,(tn:Int)) :: tl) num old nxt=Cr tl (num.set tn L) (old++[(tn:Int)]) (D1 (e,(L:Int)) nxt):=by
 have hl:tn<num.length:=(List.getElem?_eq_some_iff.1 hx).1
 have h1:AX num old (tn:Int)=(num.set tn L,old++[(tn:Int)]):=by
  simp only [AX,Int.toNat_natCast,List.getD,hx,Option.getD_some,if_pos hneg,hL]
 simp only [Cr,h1,Int.toNat_natCast]
 congr 3
 simp [List.getD,hl]
theorem N0 {tl:List Ar} {num old:List Int} {nxt:List Ar} {e x:Int} {tn:Nat} (hx:num[tn]?=some x) (hpos:¬ x<0):
  Cr ((e,(tn:Int)) :: tl) num old nxt=Cr tl num old (D1 (e,x) nxt):=by
 have h1:AX num old (tn:Int)=(num,old):=by
  simp only [AX,Int.toNat_natCast,List.getD,hx,Option.getD_some,if_neg hpos]
 simp only [Cr,h1,Int.toNat_natCast,List.getD,hx,Option.getD_some]


def DC (p:Ar):List Ar->List Ar
 | []=>[]
 | y :: ys=>if y=p then DC p ys else y :: DC y ys
def PD:List Ar->List Ar
 | []=>[]
 | x :: xs=>x :: DC x xs


theorem Cg:∀ {l m:List Ar},SortA l->SortA m->(∀ a,a∈l↔a∈m)->l=m
 | [],[],_,_,_=>rfl
 | [],b :: m,_,_,h=>by have:=(h b).2 (by simp);simp at this
 | a :: l,[],_,_,h=>by have:=(h a).1 (by simp);simp at this
 | a :: l,b :: m,hl,hm,h=>by
  have hl':=List.pairwise_cons.1 hl
  have hm':=List.pairwise_cons.1 hm
  have hab:a=b:=by
   rcases List.mem_cons.1 ((h a).1 (by simp)) with e | e
   ·exact e
   ·rcases List.mem_cons.1 ((h b).2 (by simp)) with e' | e'
    ·exact e'.symm
    ·have h1:=hm'.1 a e
     have h2:=hl'.1 b e'
     rw [C0] at h1 h2;omega
  subst hab
  congr 1
  refine Cg hl'.2 hm'.2 fun c=>⟨fun hc=>?_,fun hc=>?_⟩
  ·rcases List.mem_cons.1 ((h c).1 (gEf _ hc)) with e | e
   ·subst e;have:=hl'.1 c hc;rw [Ef] at this;cases this
   ·exact e
  ·rcases List.mem_cons.1 ((h c).2 (gEf _ hc)) with e | e
   ·subst e;have:=hm'.1 c hc;rw [Ef] at this;cases this
   ·exact e
def WV (a b:Ar):Prop:=WK b a=false
theorem LD (p:Ar) (l:List Ar) (a:Ar):a∈p :: DC p l↔a∈p :: l:=by
 induction l generalizing p with
 | nil=>simp [DC]
 | cons y ys ih=>
  unfold DC
  split
  ·rename_i h;subst h;rw [ih];simp
  have:=ih y
  simp only [List.mem_cons] at this ⊢
  rw [this]
theorem Hn (p:Ar) (l:List Ar) (h:(p :: l).Pairwise WV):SortA (p :: DC p l):=by
 induction l generalizing p with
 | nil=>simp [DC,SortA]
 | cons y ys ih=>
  have h1:=List.pairwise_cons.1 h
  have h2:=List.pairwise_cons.1 h1.2
  unfold DC
  split
  ·rename_i e;subst e
   exact ih _ (List.pairwise_cons.2 ⟨fun a ha=>h2.1 a ha,h2.2⟩)
  rename_i e
  have hy:=ih y h1.2
  refine List.pairwise_cons.2 ⟨fun a ha=>?_,hy⟩
  have hpy:WK p y=true:=by
   have:=h1.1 y (by simp)
   rcases Hh p y with h | h | h
   ·exact h
   ·exact absurd h.symm e
   unfold WV at this;rw [h] at this;cases this
  rcases List.mem_cons.1 ha with rfl | ha
  ·exact hpy
  exact D7 hpy ((List.pairwise_cons.1 hy).1 a ha)
theorem B9 (r:List Ar):SortA (Cq r):=by
 unfold Cq
 have:∀ (l acc:List Ar),SortA acc->SortA (l.foldl (fun acc a=>D1 a acc) acc):=by
  intro l
  induction l with
  | nil=>intro acc h;exact h
  | cons x xs ih=>intro acc h;exact ih _ (Ii h)
 exact this r [] List.Pairwise.nil
theorem N1 {r q:List Ar} (hp:q.Perm r) (h:q.Pairwise WV):PD q=Cq r:=by
 refine Cg ?_ (B9 r) fun a=>?_
 ·cases q with
  | nil=>exact List.Pairwise.nil
  | cons x xs=>exact Hn x xs h
 rw [C8,<- hp.mem_iff]
 cases q with
 | nil=>simp [PD]
 | cons x xs=>exact LD x xs a
theorem LE {r q:List Ar} (h:r.Nodup) (hp:q.Perm r) (h1:q.Pairwise WV):q=Cq r:=by
 refine Cg ?_ (B9 r) fun a=>by rw [C8,hp.mem_iff]
 have h2:=hp.symm.nodup h
 refine (List.pairwise_iff_forall_sublist.2 ?_)
 intro a b hab
 have hle:=List.pairwise_iff_forall_sublist.1 h1 hab
 have hne:=List.pairwise_iff_forall_sublist.1 h2 hab
 rcases Hh a b with h | h | h
 ·exact h
 ·exact absurd h hne
 unfold WV at hle;rw [h] at hle;cases hle
def Eh : List Ar -> List Int -> List Int -> List Int × List Int × List Ar
 | [], num, old => (num, old, [])
 | a :: tl, num, old =>
  ((Eh tl (AX num old a.2).1 (AX num old a.2).2).1, (Eh tl (AX num old a.2).1 (AX num old a.2).2).2.1,
   (a.1, (AX num old a.2).1.getD a.2.toNat 0) :: (Eh tl (AX num old a.2).1 (AX num old a.2).2).2.2)
theorem LF (r:List Ar) (num old:List Int) (nxt:List Ar):
  Cr r num old nxt=((Eh r num old).1,(Eh r num old).2.1,(Eh r num old).2.2.foldl (fun acc a=>D1 a acc) nxt):=by
 induction r generalizing num old nxt with
 | nil=>rfl
 | cons a tl ih=>simp only [Cr,Eh,ih,List.foldl_cons]
structure NumInj (num old:List Int):Prop where
 inj:∀ (t:Nat) (x:Int),num[t]?=some x->0<=x->old[x.toNat]?=some (t:Int)
theorem NumInj.one {num old:List Int} (h:NumInj num old) {t:Int} (h0:0<=t) (h1:t<num.length):NumInj (AX num old t).1 (AX num old t).2:=by
 unfold AX
 split
 rotate_left
 ·exact h
 refine ⟨fun s x hx hp=>?_⟩
 rw [List.getElem?_set] at hx
 split at hx
 ·rename_i hs
  rw [if_pos (by omega)] at hx
  injection hx with hx
  subst hx
  simp
  omega
 have:=h.inj s x hx hp
 rw [gEa (List.getElem?_eq_some_iff.1 this).1]
 exact this
theorem GV (num old:List Int) (t:Int):(AX num old t).1.length=num.length:=by unfold AX;split <;> simp
theorem Jg {num old:List Int} {t:Int} {s:Nat} {x:Int} (h0:0<=t) (hx:num[s]?=some x) (hp:0<=x):(AX num old t).1[s]?=some x:=by
 unfold AX
 split
 rotate_left
 ·exact hx
 rename_i hneg
 simp only [List.getElem?_set]
 split
 rotate_left
 ·exact hx
 rename_i hs
 subst hs
 simp [List.getD,hx] at hneg
 omega
theorem N2 {num old:List Int} {t:Int} (h0:0<=t) (h1:t<num.length):∃ x,(AX num old t).1[t.toNat]?=some x/\0<=x:=by
 unfold AX
 split
 ·exact ⟨_,by rw [List.getElem?_set,if_pos rfl,if_pos (by omega)],by omega⟩
 rename_i hneg
 have hl:t.toNat<num.length:=by omega
 refine ⟨num[t.toNat],gE1 hl,?_⟩
 simpa [List.getD,gE1 hl] using hneg
theorem N3 (r:List Ar) {num old:List Int} (hr:∀ a∈r,0<=a.2) {s:Nat} {x:Int} (hx:num[s]?=some x) (hp:0<=x):(Eh r num old).1[s]?=some x:=by
 induction r generalizing num old with
 | nil=>exact hx
 | cons a tl ih=>exact ih (fun b hb=>hr b (by simp [hb])) (Jg (hr a (by simp)) hx hp)
theorem Kl (r:List Ar) {num old:List Int} (hr:∀ a∈r,0<=a.2/\a.2<num.length) (h:NumInj num old):NumInj (Eh r num old).1 (Eh r num old).2.1:=by
 induction r generalizing num old with
 | nil=>exact h
 | cons a tl ih=>
  have ha:=hr a (by simp)
  exact ih (fun b hb=>by rw [GV];exact hr b (by simp [hb])) (h.one ha.1 ha.2)
theorem PE (r:List Ar) {num old:List Int} (hr:∀ a∈r,0<=a.2/\a.2<num.length):
  (Eh r num old).2.2=r.map (fun a=>(a.1,(Eh r num old).1.getD a.2.toNat 0))/\∀ a∈r,∃ x,(Eh r num old).1[a.2.toNat]?=some x/\0<=x:=by
 induction r generalizing num old with
 | nil=>exact ⟨rfl,by simp⟩
 | cons a tl ih=>
  have ha:=hr a (by simp)
  obtain ⟨i1,i2⟩:=ih (num:=(AX num old a.2).1) (old:=(AX num old a.2).2) (fun b hb=>by rw [GV];exact hr b (by simp [hb]))
  obtain ⟨x,hx,hp⟩:=N2 (old:=old) ha.1 ha.2
  have hk:=N3 (old:=(AX num old a.2).2) tl (fun b hb=>(hr b (by simp [hb])).1) hx hp
  refine ⟨?_,fun b hb=>?_⟩
  ·simp only [Eh,List.map_cons]
   congr 1
   simp [List.getD,hx,hk]
  rcases List.mem_cons.1 hb with rfl | hb
  ·exact ⟨x,hk,hp⟩
  exact i2 b hb
theorem LG (r:List Ar) {num old:List Int} (hs:SortA r) (hr:∀ a∈r,0<=a.2/\a.2<num.length) (h:NumInj num old):(Eh r num old).2.2.Nodup:=by
 obtain ⟨h1,h2⟩:=PE (old:=old) r hr
 have hi:=Kl r hr h
 rw [h1,List.Nodup,List.pairwise_map]
 have hnd:r.Pairwise (· ≠ ·):=hs.imp (fun {a b} hab e=>by subst e;rw [Ef] at hab;cases hab)
 refine hnd.imp_of_mem (fun {a b} ha hb hne e=>hne ?_)
 obtain ⟨x,hx,hxp⟩:=h2 a ha
 obtain ⟨y,hy,hyp⟩:=h2 b hb
 have ha':=hr a ha
 have hb':=hr b hb
 simp only [Prod.mk.injEq,List.getD,hx,hy,Option.getD_some] at e
 obtain ⟨e1,e2⟩:=e
 subst e2
 have q1:=hi.inj _ _ hx hxp
 have q2:=hi.inj _ _ hy hxp
 rw [q1] at q2
 injection q2 with q2
 rcases a with ⟨a1,a2⟩
 rcases b with ⟨b1,b2⟩
 simp only at *
 have:a2=b2:=by omega
 rw [e1,this]
theorem NumInj.start {n:Nat} (hn:0<n):NumInj ((List.replicate n (-1)).set 0 0) [0]:=⟨fun t x hx hp=>by
 rw [List.getElem?_set] at hx
 split at hx
 ·rename_i h
  subst h
  simp [hn] at hx
  subst hx;rfl
 ·rw [List.getElem?_replicate] at hx
  split at hx
  ·cases hx;omega
  ·cases hx⟩

theorem PF {tl:List Ar} {num old:List Int} {e x:Int} {tn L:Nat} (hx:num[tn]?=some x) (hneg:x<0) (hL:old.length=L):
  Eh ((e,(tn:Int)) :: tl) num old=((Eh tl (num.set tn L) (old++[(tn:Int)])).1,(Eh tl (num.set tn L) (old++[(tn:Int)])).2.1,(e,(L:Int)) :: (Eh tl (num.set tn L) (old++[(tn:Int)])).2.2):=by
 have hl:tn<num.length:=(List.getElem?_eq_some_iff.1 hx).1
 have h1:AX num old (tn:Int)=(num.set tn L,old++[(tn:Int)]):=by
  simp only [AX,Int.toNat_natCast,List.getD,hx,Option.getD_some,if_pos hneg,hL]
 simp only [Eh,h1,Int.toNat_natCast]
 simp [List.getD,hl]
theorem PG {tl:List Ar} {num old:List Int} {e x:Int} {tn:Nat} (hx:num[tn]?=some x) (hpos:¬ x<0):
  Eh ((e,(tn:Int)) :: tl) num old=((Eh tl num old).1,(Eh tl num old).2.1,(e,x) :: (Eh tl num old).2.2):=by
 have h1:AX num old (tn:Int)=(num,old):=by
  simp only [AX,Int.toNat_natCast,List.getD,hx,Option.getD_some,if_neg hpos]
 simp only [Eh,h1,Int.toNat_natCast,List.getD,hx,Option.getD_some]
def NL (R:List Int × List Int × List Ar) (ya q:List Ar) (k:Nat) (num old:List Int):Prop:=
 ya.take k++(Eh (q.drop k) num old).2.2=R.2.2/\(Eh (q.drop k) num old).1=R.1/\(Eh (q.drop k) num old).2.1=R.2.1/\ya.drop k=q.drop k
theorem NL.neg {R:List Int × List Int × List Ar} {ya q:List Ar} {k:Nat} {num old:List Int} {e x:Int} {tn L:Nat} (h:NL R ya q k num old) (hk:ya[k]?=some (e,(tn:Int))) (hx:num[tn]?=some x) (hneg:x<0) (hL:old.length=L):
  NL R (ya.set k (e,(L:Int))) q (k+1) (num.set tn L) (old++[(tn:Int)]):=by
 obtain ⟨h1,h2,h3,h4⟩:=h
 have hl:=(List.getElem?_eq_some_iff.1 hk).1
 have hd:q.drop k=(e,(tn:Int)) :: q.drop (k+1):=by
  have h5:ya.drop k=(e,(tn:Int)) :: ya.drop (k+1):=by
   rw [List.drop_eq_getElem_cons hl];congr 1
   rw [gE1 hl] at hk;exact Option.some.inj hk
  have h6:=congrArg (List.drop 1) h4
  rw [List.drop_drop,List.drop_drop] at h6
  rw [<- h4,h5,h6]
 rw [hd,PF hx hneg hL] at h1 h2 h3
 refine ⟨?_,h2,h3,?_⟩
 ·rw [<- h1,List.take_add_one,List.take_set_of_le (Nat.le_refl k)]
  simp [List.getElem?_set,hl]
 rw [List.drop_set,if_pos (by omega)]
 have h6:=congrArg (List.drop 1) h4
 rwa [List.drop_drop,List.drop_drop] at h6
theorem NL.pos {R:List Int × List Int × List Ar} {ya q:List Ar} {k:Nat} {num old:List Int} {e x:Int} {tn:Nat} (h:NL R ya q k num old) (hk:ya[k]?=some (e,(tn:Int))) (hx:num[tn]?=some x) (hpos:¬ x<0):
  NL R (ya.set k (e,x)) q (k+1) num old:=by
 obtain ⟨h1,h2,h3,h4⟩:=h
 have hl:=(List.getElem?_eq_some_iff.1 hk).1
 have hd:q.drop k=(e,(tn:Int)) :: q.drop (k+1):=by
  have h5:ya.drop k=(e,(tn:Int)) :: ya.drop (k+1):=by
   rw [List.drop_eq_getElem_cons hl];congr 1
   rw [gE1 hl] at hk;exact Option.some.inj hk
  have h6:=congrArg (List.drop 1) h4
  rw [List.drop_drop,List.drop_drop] at h6
  rw [<- h4,h5,h6]
 rw [hd,PG hx hpos] at h1 h2 h3
 refine ⟨?_,h2,h3,?_⟩
 ·rw [<- h1,List.take_add_one,List.take_set_of_le (Nat.le_refl k)]
  simp [List.getElem?_set,hl]
 rw [List.drop_set,if_pos (by omega)]
 have h6:=congrArg (List.drop 1) h4
 rwa [List.drop_drop,List.drop_drop] at h6


def WW (f:Nat->Nat) (c:Nat) (o:List (List Ar)) (a:Ar):List (List Ar):=o.set c (o.getD c []++[(a.1,(f a.2.toNat:Int))])
def US (f:Nat->Nat) (c:Nat) (o:List (List Ar)) (row:List Ar):List (List Ar):=row.foldl (WW f c) o
theorem RX (f:Nat->Nat) (c:Nat) (o:List (List Ar)) (a:Ar):(WW f c o a).length=o.length:=by simp [WW]
theorem Rc.lt {E:Nat->List Nat} {n u v:Nat} (h:Rc E u v) (hu:u<n) (hE:∀ x,x<n->∀ y∈E x,y<n):v<n:=by
 induction h with
 | refl=>exact hu
 | tail _ he ih=>exact hE _ ih _ he
theorem Cw {R:List (List Ar)} (t:Bool) (hv:BE R=true):∀ x,x<R.length->∀ y∈WP t R x,y<R.length:=by
 intro x hx y hy
 unfold WP at hy
 rw [gE2,gE1 hx,Option.getD_some] at hy
 obtain ⟨a,ha,rfl⟩:=List.mem_map.1 hy
 have h1:a∈R[x]:=by
  unfold BR at ha
  split at ha
  ·exact (List.takeWhile_sublist _).subset ha
  exact ha
 have h2:=(gE4 hv).2.2.2 _ (gE6 hx) a h1
 omega
theorem PH (o:List (List Ar)) (c:Nat):(o.getD c []).length<=Bw o:=by
 induction o generalizing c with
 | nil=>simp
 | cons a r ih=>
  cases c with
  | zero=>simp [Bw]
  | succ c=>
   have:=ih c
   simp only [List.getD_cons_succ]
   simp only [Bw,List.map_cons,List.sum_cons] at this ⊢
   omega
def TlP (m:Nat) (o:List (List Ar)):Prop:=∀ r∈o,∀ a∈r,0<=a.1/\a.1<=1025/\0<=a.2/\a.2<(m:Int)
theorem TlP.one {f:Nat->Nat} {m c:Nat} {o:List (List Ar)} {a:Ar} (h:TlP m o) (ha:0<=a.1/\a.1<=1025) (hf:f a.2.toNat<m):TlP m (WW f c o a):=by
 intro r hr b hb
 rcases List.mem_or_eq_of_mem_set hr with h1 | h1
 ·exact h r h1 b hb
 subst h1
 rcases List.mem_append.1 hb with h2 | h2
 rotate_left
 ·simp at h2;subst h2
  exact ⟨ha.1,ha.2,by simp only;omega,by simp only;omega⟩
 rw [gE2] at h2
 rcases Nat.lt_or_ge c o.length with h3 | h3
 rotate_left
 ·rw [List.getElem?_eq_none h3] at h2;simp at h2
 rw [gE1 h3,Option.getD_some] at h2
 exact h _ (gE6 h3) b h2
theorem LH {r:List Ar} (hs:SortA r) (h0:∀ a∈r,0<=a.1) (t:Bool):Hl t r=BR t r:=by
 cases t with
 | false=>unfold Hl BR;simp
 | true=>
  unfold Hl BR
  rw [if_pos rfl]
  simp only [Bool.not_true,Bool.false_or]
  induction r with
  | nil=>rfl
  | cons a r ih=>
   have hs2:=List.pairwise_cons.1 hs
   by_cases h:(a.1 == 0)=true
   ·rw [List.filter_cons,if_pos h,List.takeWhile_cons,if_pos h,ih hs2.2 fun b hb=>h0 b (gEf _ hb)]
   rw [List.filter_cons,if_neg h,List.takeWhile_cons,if_neg h]
   refine List.filter_eq_nil_iff.2 fun b hb=>?_
   have h1:=hs2.1 b hb
   rw [C0] at h1
   have h2:=h0 a List.mem_cons_self
   have h3:a.1 ≠ 0:=fun e=>h (by simp [e])
   have:b.1 ≠ 0:=by omega
   simpa using this
theorem Km {R:List (List Ar)} (t:Bool) (hv:Bv R=true):LA t R=WP t R:=by
 funext v
 unfold LA WP
 rcases Nat.lt_or_ge v R.length with h | h
 rotate_left
 ·rw [gE2,List.getElem?_eq_none h,Option.getD_none]
  cases t <;> rfl
 rw [gE2,gE1 h,Option.getD_some]
 have h2:=gE4 hv
 rw [LH (h2.2 _ (gE6 h)) fun a ha=>(h2.1.2.2.2 _ (gE6 h) a ha).1]
theorem Least.uniq {E:Nat->List Nat} {v:Nat} {x y:Int} (h1:Least E v x) (h2:Least E v y):x=y:=by
 obtain ⟨m,a1,a2,a3,a4⟩:=h1
 obtain ⟨k,b1,b2,b3,b4⟩:=h2
 have:=a4 k b2 b3
 have:=b4 m a2 a3
 omega
open Go.RowKit
set_option maxRecDepth 100000
attribute [local go_sem] lga C.pl C.one
theorem N4 (xs:List Int) (x:Int) (hn:xs.length<=140737488355328):FC Tryz.prog 89 [As xs,.i x] [] (fun r o=>o=[]/\r=.b (decide (x∈xs))):=by
 refine A6 Tryz.func89 rfl (by rw [Tryz.ntmps89];simp) ?_
 rw [Tryz.ntmps89]
 simp only [Bf,As]
 (refine Wt ?_;(repeat clear hK K);repeat refine kq fun K hK=>?_)
 refine A8 (fun k:Nat=>{ tm:=[(0,.a (.c (.t 1 (Ab xs)))),(1,.i x),(5,.i k)],hp:=[],n:=18,pin:=0 }) (fun k=>k<=xs.length/\∀ i,i<k->xs[i]? ≠ some x) (fun k=>xs.length - k) 0 ?_ ?_ ?_
 ·exact ⟨by omega,by intro i hi;omega⟩
 ·exact WE
 rintro k ⟨hk,hno⟩ K hK
 (refine Wu @A4 ?_;(repeat clear hK K);repeat refine kq fun K hK=>?_)
 (refine At ?_;intro X Y hX hY;simp only [go_sem])
 refine ⟨fun h=>hX ?_,fun h=>hY ?_⟩
 rotate_left
 ·have hge:k=xs.length:=by simp at h;omega
  clear hX hY X Y
  (refine Wx ?_;repeat clear hK K)
  (refine Wt ?_;(repeat clear hK K);repeat refine kq fun K hK=>?_)
  refine WH Tryz.results89 ?_
  have:x ∉ xs:=by
   intro hm
   obtain ⟨i,hi⟩:=List.mem_iff_getElem?.1 hm
   exact hno i (by rw [hge];exact (List.getElem?_eq_some_iff.1 hi).1) hi
  simp [this]
 have hlt:k<xs.length:=by simpa using h
 clear hX hY X Y h
 (refine Wu (an @A4 (Am (gE1 hlt))) ?_;(repeat clear hK K);repeat refine kq fun K hK=>?_)
 (refine At ?_;intro X Y hX hY;simp only [go_sem])
 refine ⟨fun h=>hX ?_,fun h=>hY ?_⟩
 ·clear hX hY X Y
  (refine Wt ?_;(repeat clear hK K);repeat refine kq fun K hK=>?_)
  refine WH Tryz.results89 ?_
  have:x∈xs:=by rw [<- beq_iff_eq.1 h];exact gE6 hlt
  simp [this]
 clear hX hY X Y
 (refine Wt ?_;(repeat clear hK K);repeat refine kq fun K hK=>?_)
 refine WD ?_
 refine hK _ (k+1) ⟨by omega,fun i hi=>?_⟩ (by omega) ?_
 rotate_left
 ·exact WE
 by_cases e:i=k
 ·subst e;rw [gE1 hlt];simpa using h
 exact hno i (by omega)

def Bd (L:List (List Int)):List C:=L.map fun r=>C.o (1,3) (Ab r)
theorem BB (L:List (List Int)):(Bd L).length=L.length:=by simp [Bd]
theorem F3 (L:List (List Int)) (i:Nat) (x:List Int):(Bd L).set i (.o (1,3) (Ab x))=Bd (L.set i x):=by simp [Bd,List.map_set]
theorem D9 (f:List Nat) (L:List (List Int)):(Bd L).map (C.ren f)=Bd L:=by simp [Bd,C.ren,Function.comp_def]
theorem ED (x:Int):(Ab [x]).take 1=Ab [x]:=rfl
def RowOk (E:Nat->List Nat) (n j:Nat) (L:List Int):Prop:=∃ B:List Bool,B.length=n/\(∀ u,Bu B u=true↔Rc E j u)/\L=((List.range n).filter (Bu B)).map Int.ofNat
theorem RowOk.mem {E:Nat->List Nat} {n j:Nat} {L:List Int} (h:RowOk E n j L) {u:Nat} (hu:u<n):(u:Int)∈L↔Rc E j u:=by
 obtain ⟨B,_,h2,rfl⟩:=h
 rw [FI,List.mem_filter,List.mem_range,h2]
 exact ⟨fun h=>h.2,fun h=>⟨hu,h⟩⟩
theorem RowOk.len {E:Nat->List Nat} {n j:Nat} {L:List Int} (h:RowOk E n j L):L.length<=n:=by
 obtain ⟨B,_,h2,rfl⟩:=h
 rw [List.length_map]
 have:=List.length_filter_le (Bu B) (List.range n)
 simpa using this
def Dv (R:List (List Ar)) (s:Nat):Prop:=∃ g,Rc (WP true R) s g/\∃ w,w∈WP true R g/\Rc (WP true R) w g
def WX (s:Nat) (o:List (List Int)) (a:Ar):List (List Int):=o.set a.2.toNat (o.getD a.2.toNat []++[(s:Int)])
def DZ (s:Nat) (o:List (List Int)) (row:List Ar):List (List Int):=row.foldl (WX s) o
def WY (R:List (List Ar)):Nat->List (List Int)
 | 0=>List.replicate R.length []
 | k+1=>DZ k (WY R k) (BR true (R.getD k []))
def M9 (o:List (List Int)):Nat:=(o.map List.length).sum
theorem Jh (s:Nat) (o:List (List Int)) (a:Ar):(WX s o a).length=o.length:=by simp [WX]
theorem Ip (s:Nat) (row:List Ar):∀ o,(DZ s o row).length=o.length:=by
 induction row with
 | nil=>intro o;rfl
 | cons a r ih=>intro o;show (DZ s (WX s o a) r).length=_;rw [ih,Jh]
theorem Gk (R:List (List Ar)) (k:Nat):(WY R k).length=R.length:=by
 induction k with
 | zero=>simp [WY]
 | succ k ih=>rw [WY,Ip,ih]
theorem LI (s:Nat) (o:List (List Int)) (row:List Ar) (a:Ar):DZ s o (row++[a])=WX s (DZ s o row) a:=by unfold DZ;rw [List.foldl_append];rfl
theorem PI (o:List (List Int)) {c:Nat} (h:c<o.length) (x:Int):M9 (o.set c (o.getD c []++[x]))=M9 o+1:=by
 induction o generalizing c with
 | nil=>simp at h
 | cons y r ih=>
  cases c with
  | zero=>simp [M9];omega
  | succ c=>
   have:=ih (c:=c) (by simpa using h)
   simp only [List.set_cons_succ,List.getD_cons_succ]
   simp only [M9,List.map_cons,List.sum_cons] at this ⊢
   omega
theorem Kn (o:List (List Int)) (c:Nat):(o.getD c []).length<=M9 o:=by
 induction o generalizing c with
 | nil=>simp
 | cons y r ih=>
  cases c with
  | zero=>simp [M9]
  | succ c=>
   have:=ih c
   simp only [List.getD_cons_succ]
   simp only [M9,List.map_cons,List.sum_cons] at this ⊢
   omega
theorem N5 (s:Nat) (row:List Ar):∀ o:List (List Int),(∀ a∈row,a.2.toNat<o.length)->M9 (DZ s o row)=M9 o+row.length:=by
 induction row with
 | nil=>intro o _;rfl
 | cons a r ih=>
  intro o h
  show M9 (DZ s (WX s o a) r)=_
  rw [ih _ (by rw [Jh];exact fun b hb=>h b (gEf _ hb))]
  unfold WX
  rw [PI o (h a (by simp))]
  simp only [List.length_cons];omega
theorem RY {s t:Nat} {o:List (List Int)} {a:Ar} {x:Int} (h:a.2.toNat<o.length):x∈(WX s o a).getD t []↔x∈o.getD t []\/(a.2.toNat=t/\x=(s:Int)):=by
 unfold WX
 rw [gE2]
 by_cases e:a.2.toNat=t
 rotate_left
 ·rw [gE5 e,<- gE2]
  simp [e]
 subst e
 rw [gEc h,Option.getD_some,List.mem_append]
 simp
theorem N6 {s t:Nat} {x:Int}:∀ (row:List Ar) (o:List (List Int)),(∀ a∈row,a.2.toNat<o.length)->(x∈(DZ s o row).getD t []↔x∈o.getD t []\/(x=(s:Int)/\t∈row.map fun a=>a.2.toNat)):=by
 intro row
 induction row with
 | nil=>intro o _;simp [DZ]
 | cons a r ih=>
  intro o h
  show x∈(DZ s (WX s o a) r).getD t []↔_
  rw [ih _ (by rw [Jh];exact fun b hb=>h b (gEf _ hb)),RY (h a (by simp))]
  simp only [List.map_cons,List.mem_cons]
  constructor
  rotate_left
  ·rintro (h | ⟨h1,h2 | h2⟩)
   ·exact .inl (.inl h)
   ·exact .inl (.inr ⟨h2.symm,h1⟩)
   exact .inr ⟨h1,h2⟩
  rintro ((h | ⟨h1,h2⟩) | ⟨h1,h2⟩)
  ·exact .inl h
  ·exact .inr ⟨h2,.inl h1.symm⟩
  exact .inr ⟨h1,.inr h2⟩
theorem N7 {t:Bool} {r:List Ar}:∀ a∈BR t r,a∈r:=fun a ha=>by
 unfold BR at ha
 split at ha
 ·exact (List.takeWhile_sublist _).subset ha
 ·exact ha
theorem Gl (t:Bool) (r:List Ar):(BR t r).length<=r.length:=by
 unfold BR
 split
 ·exact (List.takeWhile_sublist _).length_le
 exact Nat.le_refl _
theorem Iq {R:List (List Ar)} (hlo:BE R=true) {k:Nat}:∀ a∈BR true (R.getD k []),0<=a.2/\a.2.toNat<R.length:=fun a ha=>by
 have h1:=N7 a ha
 rcases Nat.lt_or_ge k R.length with h | h
 ·rw [gE2,gE1 h] at h1
  have:=(gE4 hlo).2.2.2 _ (gE6 h) a h1
  omega
 ·rw [gE2,List.getElem?_eq_none h] at h1;simp at h1
theorem RZ {R:List (List Ar)} (hlo:BE R=true) {t:Nat} {x:Int}:∀ k,x∈(WY R k).getD t []↔∃ s,s<k/\x=(s:Int)/\t∈WP true R s:=by
 intro k
 induction k with
 | zero=>
  simp only [WY,gE2,List.getElem?_replicate]
  split <;> simp
 | succ k ih=>
  rw [WY,N6 _ _ (by rw [Gk];exact fun a ha=>(Iq hlo a ha).2),ih]
  constructor
  ·rintro (⟨s,h1,h2,h3⟩ | ⟨h1,h2⟩)
   ·exact ⟨s,by omega,h2,h3⟩
   exact ⟨k,by omega,h1,h2⟩
  rintro ⟨s,h1,h2,h3⟩
  by_cases e:s=k
  ·subst e;exact .inr ⟨h2,h3⟩
  exact .inl ⟨s,by omega,h2,h3⟩
theorem Ko {R:List (List Ar)} (hlo:BE R=true):∀ k,k<=R.length->M9 (WY R k)<=Bw (R.take k):=by
 intro k
 induction k with
 | zero=>intro _;simp [WY,M9,Bw]
 | succ k ih=>
  intro hk
  have h1:=ih (by omega)
  have h2:=Cj (R:=R) (k:=k) hk
  have h3:=Gl true (R.getD k [])
  have h4:R.getD k []=R[k]:=by rw [gE2,gE1 hk];rfl
  rw [WY,N5 _ _ _ (by rw [Gk];exact fun a ha=>(Iq hlo a ha).2)]
  rw [h4] at h3 ⊢
  omega
structure Bq (E:Nat->List Nat) (n:Nat) (G:Nat->Prop) (O:List Int) (Q:List Nat):Prop where
 len:O.length=n
 lt:∀ q∈Q,q<n
 nd:Q.Nodup
 iff:∀ s,s<n->(0<=WO O (-1) s↔s∈Q)
 hi:∀ s,WO O (-1) s<=(Q.length:Int)
 rc:∀ q∈Q,∃ g,g<n/\G g/\Rc E q g
section
variable {E : Nat -> List Nat} {n : Nat} {G : Nat -> Prop} {O : List Int} {Q : List Nat}
theorem Bq.qlen (h:Bq E n G O Q):Q.length<=n:=by
 have:=h.nd.length_le_of_subset (l₂:=List.range n) fun q hq=>List.mem_range.2 (h.lt q hq)
 simpa using this
theorem Bq.start (E:Nat->List Nat) (n:Nat) (G:Nat->Prop):Bq E n G (List.replicate n (-1)) []:=by
 refine ⟨by simp,by simp,List.nodup_nil,fun s hs=>?_,fun s=>?_,by simp⟩
 ·rw [C1 (by simpa using hs)];simp
 unfold WO
 rw [List.getElem?_replicate]
 split <;> simp
theorem Bq.push (h:Bq E n G O Q) {s:Nat} (hs:s<n) (hq:s ∉ Q) {v:Int} (h0:0<=v) (h1:v<=(Q.length:Int)+1) (hr:∃ g,g<n/\G g/\Rc E s g):Bq E n G (O.set s v) (Q++[s]):=by
 have hl:=h.len
 refine ⟨by simp [hl],fun q hq=>?_,?_,fun t ht=>?_,fun t=>?_,fun q hq=>?_⟩
 rotate_left 4
 ·rcases List.mem_append.1 hq with h2 | h2
  ·exact h.rc q h2
  simp at h2;subst h2;exact hr
 ·rcases List.mem_append.1 hq with h2 | h2
  ·exact h.lt q h2
  simp at h2;subst h2;exact hs
 ·rw [List.nodup_append]
  exact ⟨h.nd,by simp,fun a ha b hb=>by simp at hb;subst hb;intro e;subst e;exact hq ha⟩
 ·rw [DB (by omega)]
  unfold upd
  split
  ·rename_i e;subst e;simp [h0]
  rename_i e;rw [h.iff t ht];simp [e]
 rw [DB (by omega)]
 unfold upd
 simp only [List.length_append,List.length_singleton]
 split
 ·omega
 have:=h.hi t;omega
theorem Bq.done (h:Bq E n G O Q) (hE:∀ x,x<n->∀ y∈E x,y<n) (hg:∀ g,g<n->G g->g∈Q) (hc:∀ q∈Q,∀ p,p<n->q∈E p->p∈Q) {s:Nat} (hs:s<n):0<=WO O (-1) s↔∃ g,g<n/\G g/\Rc E s g:=by
 rw [h.iff s hs]
 constructor
 ·exact h.rc s
 rintro ⟨g,h1,h2,h3⟩
 have key:∀ x,Rc E s x->x∈Q->s∈Q:=by
  intro x hx
  induction hx with
  | refl=>exact id
  | tail hv hw ih=>exact fun hq=>ih (hc _ hq _ (hv.lt hs hE) hw)
 exact key g h3 (hg g h1 h2)
end
def WZ (D:List Int) (s:Nat) (row:List Ar):Bool:=row.any fun a=>decide (D.getD a.2.toNat 0=D.getD s 0)
def X1 (R:List (List Ar)) (D:List Int) (k:Nat):List Bool:=(List.range k).map fun s=>WZ D s (BR true (R.getD s []))
theorem F4 (R:List (List Ar)) (D:List Int) (k:Nat):(X1 R D k).length=k:=by simp [X1]
theorem PJ (D:List Int) (s:Nat) (row:List Ar) (a:Ar):WZ D s (row++[a])=(WZ D s row || decide (D.getD a.2.toNat 0=D.getD s 0)):=by simp [WZ]
theorem N8 {R:List (List Ar)} {D:List Int} (hlo:BE R=true) (hD:D.length=R.length) (hL:∀ v,v<R.length->Least (WP true R) v (WO D (-1) v)) {g:Nat} (hg:g<R.length):(X1 R D R.length).getD g false=true↔∃ w,w∈WP true R g/\Rc (WP true R) w g:=by
 have e1:(X1 R D R.length).getD g false=WZ D g (BR true (R.getD g [])):=by simp [X1,gE2,hg]
 have hE:=Cw true hlo
 have hd:∀ v,v<R.length->D.getD v 0=WO D (-1) v:=fun v hv=>by rw [C1 (by omega),gE2,gE1 (by omega)];rfl
 rw [e1]
 unfold WZ
 rw [List.any_eq_true]
 simp only [decide_eq_true_eq]
 constructor
 ·rintro ⟨a,ha,e⟩
  have hw:a.2.toNat∈WP true R g:=List.mem_map.2 ⟨a,ha,rfl⟩
  have hwl:=hE g hg _ hw
  rw [hd _ hwl,hd _ hg] at e
  obtain ⟨x,ex,p1,p2,_⟩:=hL _ hwl
  obtain ⟨y,ey,q1,q2,_⟩:=hL _ hg
  have:x=y:=by omega
  subst this
  exact ⟨_,hw,p1.trans q2⟩
 rintro ⟨w,hw,hr⟩
 obtain ⟨a,ha,rfl⟩:=List.mem_map.1 hw
 refine ⟨a,ha,?_⟩
 have hwl:=hE g hg _ hw
 rw [hd _ hwl,hd _ hg]
 obtain ⟨x,ex,p1,p2,p3⟩:=hL _ hwl
 obtain ⟨y,ey,q1,q2,q3⟩:=hL _ hg
 have hgw:Rc (WP true R) g a.2.toNat:=.one hw
 have l1:=p3 y (hr.trans q1) (q2.trans hgw)
 have l2:=q3 x (hgw.trans p1) (p2.trans hr)
 omega
def DvL (R:List (List Ar)) (B:List Bool):Prop:=B.length=R.length/\∀ s,s<R.length->(B.getD s false=true↔Dv R s)
theorem DvL.uniq {R:List (List Ar)} {A B:List Bool} (h1:DvL R A) (h2:DvL R B):A=B:=by
 refine List.ext_getElem (by rw [h1.1,h2.1]) fun i hi hj=>?_
 have a:=h1.2 i (by have:=h1.1;omega)
 have b:=h2.2 i (by have:=h1.1;omega)
 rw [gE2,gE1 hi,Option.getD_some] at a
 rw [gE2,gE1 hj,Option.getD_some] at b
 rw [Bool.eq_iff_iff,a,b]
end Go.Proofs.YtjijjfkalheokaaGreatDoor
