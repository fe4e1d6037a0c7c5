/- Lemmas. -/
import Derived.Test.YtbnabodoabimnaaGreatG11
import Derived.Test.YtbnabodoabimnaaGreatG45
import Derived.Test.YtbnabodoabimnaaGreatMD
import Derived.Test.YtbnabodoabimnaaGreatShlf
import Derived.Shelf.SlSortCmp.NoneTotal
import Derived.Test.YtbnabodoabimnaaGreatZk
import Derived.Test.YtbnabodoabimnaaGreatMF
import Derived.Test.YtbnabodoabimnaaGreatMlz
namespace Go.Proofs.YtbnabodoabimnaaGreat
set_option linter.unusedVariables false
set_option linter.unusedSimpArgs false
open Go.RowKit
set_option maxRecDepth 100000
attribute [local go_sem] lga C.pl C.one
theorem F2 (f:List Nat) (L:List Ar):(AG L).map (C.ren f)=AG L:=by
 unfold AG
 rw [List.map_flatMap]
 rfl
theorem Yy (out:List (List Ar)) (x:List Ar) {i:Nat} (h:out.length=i):(Br out).take i++[C.t 2 (Aw x)]=Br (out++[x]):=by
 subst h
 rw [gE7 (by rw [AH];exact gBu _)]
 simp [Br]
theorem Km (l:List Int) (x:Int):(A9 l).take l.length++[C.v (.int .i64 x)]=A9 (l++[x]):=by
 rw [gE7 (by rw [A4];exact gBu _),BG]
theorem NL.start (q:List Ar) (num old:List Int):NL (Bp q num old) q q 0 num old:=⟨by simp,by simp,by simp,rfl⟩
theorem NL.fin {R:List Int × List Int × List Ar} {ya q:List Ar} {k:Nat} {num old:List Int} (h:NL R ya q k num old) (hk:q.length<=k) (hl:ya.length=q.length):ya=R.2.2/\num=R.1/\old=R.2.1:=by
 obtain ⟨h1,h2,h3,h4⟩:=h
 rw [List.drop_of_length_le hk] at h1 h2 h3
 rw [gE7 (by omega)] at h1
 simp only [Bp,gAk] at h1 h2 h3
 exact ⟨h1,h2,h3⟩
end Go.Proofs.YtbnabodoabimnaaGreat
namespace Go.Proofs.YtbnabodoabimnaaGreat
set_option linter.unusedVariables false
set_option linter.unusedSimpArgs false
open Go.RowKit
set_option maxRecDepth 100000
def FT:List Int:=[0,0,2,3,4,2,3,1,2,5,1025]
theorem OY:∀ x∈FT,0<=x/\x<=1025:=by decide
theorem EX:FT.length=11:=rfl
theorem IY:FT.take 11=FT:=rfl
theorem Ey (T:List Int) (hT:TpOk T) (a:Nat) (ha:a<=100000000):FC Tryz.prog 52 [.a (.c (.p 0 0))] [tape T a] (fun r o=>o=[tape T (a+1)]/\∃ v:Int,r=.i v/\0<=v/\v<=1025):=by
 refine A7 Tryz.func52 rfl (by rw [Tryz.ntmps52];simp) ?_
 rw [Tryz.ntmps52]
 simp only [B4,tape]
 (refine aj (an @gBj.{0} @gBi.{0}) ?_;repeat refine kq fun K hK=>?_)
 (refine Bw (B6 (r:=⟨3,1,true,A9 FT⟩) 1 (Ac FT) rfl (ES _) (show 0<(1:Nat) by omega)) ?_;simp only [ST.frz,A0.frz,AV.frz,C.frz,gBu,gBj,gBi,go_sem,A2,EX,Bf,IY])
 (refine aj (an @A2 @EX) ?_;(repeat clear hK K);repeat refine kq fun K hK=>?_)
 (refine Aj rfl ?_;intro K1 hK1;refine ct [0] (CY T a 11 hT (by omega) (by omega)) ?_ ?_)
 ·rintro _ _ ⟨rfl,v,rfl,_⟩;rfl
 rintro _ _ ⟨rfl,v,rfl,hv⟩
 (simp only [Ap,AC,tape,Ys,go_sem];refine hK1 _ ?_;clear hK1 K1)
 have hv2:v<FT.length:=by rw [EX];omega
 (refine aj (an @A2 (Al (gE1 hv2))) ?_;(repeat clear hK K);repeat refine kq fun K hK=>?_)
 refine W6 [0] Tryz.results52 ?_
 exact ⟨_,rfl,OY _ (gE6 hv2)⟩

theorem OZ (m:Nat):(List.replicate m (C.o (2,23) [])).map Vp=Br (List.replicate m []):=by
 simp [Br,Vp,Aw]
theorem MF (m:Nat):OkSys 3 m (List.replicate m []):=⟨by simp,fun r hr=>by
 rw [List.mem_replicate] at hr
 rw [hr.2]
 exact ⟨by simp [SortA],by simp,by simp⟩⟩

def Kb (R:List (List Ar)):Ob:=.r ⟨27,1,false,[.t 1 (AK R)]⟩
def We (k:Nat):C->C
 | .o k cs=>.t k.1 cs
 | .v (.slice none 0 0)=>.t k []
 | c=>c
def Wf:List Nat->List C->List C
 | k :: ks,c :: cs=>We k c :: Wf ks cs
 | [],c :: cs=>Vp c :: Wf [] cs
 | _,[]=>[]
theorem MG (k:Nat) (c:C):We k c=Vp c\/(c=.v (.slice none 0 0)/\We k c=.t k []):=by
 unfold We
 split
 ·exact .inl rfl
 ·exact .inr ⟨rfl,rfl⟩
 rename_i h1 h2
 refine .inl ?_
 cases c <;> first | rfl | exact absurd rfl (h1 _ _)
theorem MH {ks:List Nat} {cs:List C} {j:Nat} {c:C} (h:(Wf ks cs)[j]?=some c):∃ c0,cs[j]?=some c0/\(c=Vp c0\/∃ k,c0=.v (.slice none 0 0)/\c=.t k []):=by
 induction cs generalizing ks j with
 | nil=>cases ks <;> simp [Wf] at h
 | cons x r ih=>
  cases ks with
  | nil=>
   cases j with
   | zero=>simp [Wf] at h;exact ⟨x,rfl,.inl h.symm⟩
   | succ j=>simp [Wf] at h;obtain ⟨c0,h1,h2⟩:=ih h;exact ⟨c0,by simpa using h1,h2⟩
  | cons k ks=>
   cases j with
   | zero=>
    simp [Wf] at h
    refine ⟨x,rfl,?_⟩
    rcases MG k x with e | ⟨e1,e2⟩
    ·exact .inl (by rw [<- h,e])
    exact .inr ⟨k,e1,by rw [<- h,e2]⟩
   | succ j=>simp [Wf] at h;obtain ⟨c0,h1,h2⟩:=ih h;exact ⟨c0,by simpa using h1,h2⟩
theorem Qd {ks:List Nat} {cs:List C} {j:Nat} {k:Nat × Nat} {ts:List Tr}:(Wf ks cs)[j]? ≠ some (.o k ts):=by
 intro h
 obtain ⟨c0,_,h | ⟨_,_,h⟩⟩:=MH h
 ·exact Ml h.symm
 cases h
theorem MI (ks:List Nat) (cs:List C):(Wf ks cs).length=cs.length:=by
 induction cs generalizing ks with
 | nil=>cases ks <;> rfl
 | cons x r ih=>cases ks <;> simp [Wf,ih]
theorem MJ {s:ST} (i:Nat) (ks:List Nat) {r:Row} (hi:s.hp[i]?=some (.r r)):Le s { s with hp:=s.hp.set i (.r { r with cells:=Wf ks r.cells }) }:=by
 rintro M0 w0 a w ⟨g,hpp,hR⟩
 have hlt:i<s.hp.length:=(List.getElem?_eq_some_iff.1 hi).1
 have self:(s.hp.set i (.r { r with cells:=Wf ks r.cells }))[i]?=some (.r { r with cells:=Wf ks r.cells }):=by simp [hlt]
 have other:∀ q,q ≠ i->(s.hp.set i (.r { r with cells:=Wf ks r.cells }))[q]?=s.hp[q]?:=fun q hq=>by rw [gE5 (Ne.symm hq)]
 generalize hh:s.hp.set i (.r { r with cells:=Wf ks r.cells })=hp' at *
 have ncl:∀ j,¬ Lv hp' g (.cl i j):=by
  rintro j ⟨r2,k,cs,e1,e2,_⟩
  rw [self] at e1
  cases e1
  exact Qd e2
 have sub:∀ ℓ,Lv hp' g ℓ->Lv s.hp g ℓ:=by
  intro ℓ hl
  cases ℓ with
  | ob q=>
   by_cases hq:q=i
   ·subst hq
    rcases hl with ⟨r2,e1,e2⟩ | ⟨kv,e1⟩
    ·exact .inl ⟨r,hi,e2⟩
    rw [self] at e1;cases e1
   rcases hl with ⟨r2,e1,e2⟩ | ⟨kv,e1⟩
   ·exact .inl ⟨r2,by rw [<- other q hq];exact e1,e2⟩
   exact .inr ⟨kv,by rw [<- other q hq];exact e1⟩
  | cl q j=>
   by_cases hq:q=i
   ·subst hq;exact absurd hl (ncl j)
   obtain ⟨r2,k,cs,e1,e2,e3⟩:=hl
   exact ⟨r2,k,cs,by rw [<- other q hq];exact e1,e2,e3⟩
 have ow:∀ b,Ow hp' g b->Ow s.hp g b:=fun b ho=>ho.imp (fun h=>h) (fun ⟨ℓ,hl,e⟩=>⟨ℓ,sub ℓ hl,e⟩)
 have hm:Mo g s.hp w g hp' w (fun _=>True):=by
  refine ⟨fun q hq=>⟨?_,rfl,rfl⟩,fun b _ ho=>ow b ho,gBu _,fun _ _ _=>rfl,fun q _ hq r2 j k cs e1 e2=>?_⟩
  ·by_cases e:q=i
   ·subst e;exact ⟨_,self,rfl⟩
   obtain ⟨o,h1,h2⟩:=hq
   exact ⟨o,by rw [other q e];exact h1,h2⟩
  by_cases e:q=i
  rotate_left
  ·exact ⟨r2,by rw [<- other q e];exact e1,e2,fun _=>rfl⟩
  subst e
  rw [self] at e1
  cases e1
  exact absurd e2 Qd
 have hr:=hR.hr
 refine ⟨g,⟨by show s.pin<=hp'.length;rw [<- hh];simpa using hpp.1,hpp.2⟩,hR.mo hm ?_ (fun ℓ hl=>hR.new ℓ (sub ℓ hl)) hR.fp⟩
 refine ⟨hr.ml,fun ℓ hl=>hr.md ℓ (sub ℓ hl),fun ℓ ℓ' h1 h2=>hr.inj ℓ ℓ' (sub ℓ h1) (sub ℓ' h2),fun q r2 e1=>?_,fun q kv e1=>?_,hm.gl hr.gl⟩
 rotate_left
 ·by_cases e:q=i
  ·subst e;rw [self] at e1;cases e1
  rw [other q e] at e1
  exact MpR.mo hm e1 (hr.mp q kv e1) rfl
 by_cases e:q=i
 rotate_left
 ·rw [other q e] at e1
  exact RowR.mo hm e1 (hr.row q r2 e1) (fun _=>rfl) (fun _ _ _ _ _=>⟨rfl,rfl⟩)
 subst e
 rw [self] at e1
 cases e1
 rcases hr.row q r hi with ⟨k1,k2⟩ | ⟨k1,k2,arr,k3,k4,k5,k6,k7⟩
 ·exact .inl ⟨k1,by simp [k2,Wf]⟩
 refine .inr ⟨k1,fun h1 h2=>k2 h1 (gAL.1 (by rw [<- MI ks];exact gAL.2 h2)),arr,k3,by simpa [MI] using k4,k5,k6,fun j c hj=>?_⟩
 obtain ⟨c0,hc0,hcc⟩:=MH hj
 obtain ⟨u,u1,u2⟩:=k7 j c0 hc0
 refine ⟨u,u1,?_⟩
 rcases hcc with rfl | ⟨k,rfl,rfl⟩
 rotate_left
 ·have hu:u=.slice none 0 0:=u2
  rw [hu]
  exact Rd.e _ _ _
 cases c0 with
 | o k cs=>exact EQ (t:=.l k.1 cs) (fun b _ ho=>ow b ho) hr hi ncl sub hc0 (.inl rfl) u2
 | _=>exact CellR.mo hm u2 (fun k cs hc=>by cases hc)
theorem FU {s:ST} (i j id:Nat) {r:Row} {e0 k0:Nat} (hne:i ≠ id) (hi:s.hp[i]?=some (.r r)) (hj:r.cells[j]?=some (.v (.slice none 0 0))) (hid:s.hp[id]?=some (.r ⟨e0,k0,true,[]⟩)):Le s { s with hp:=s.hp.set i (.r { r with cells:=r.cells.set j (.s id 0) }) }:=by
 rintro M0 w0 a w ⟨g,hpp,hR⟩
 have hlt:i<s.hp.length:=(List.getElem?_eq_some_iff.1 hi).1
 have hjl:j<r.cells.length:=(List.getElem?_eq_some_iff.1 hj).1
 have self:(s.hp.set i (.r { r with cells:=r.cells.set j (.s id 0) }))[i]?=some (.r { r with cells:=r.cells.set j (.s id 0) }):=by simp [hlt]
 have other:∀ q,q ≠ i->(s.hp.set i (.r { r with cells:=r.cells.set j (.s id 0) }))[q]?=s.hp[q]?:=fun q hq=>by rw [gE5 (Ne.symm hq)]
 have cel:∀ q c,(r.cells.set j (.s id 0))[q]?=some c->(q=j/\c=.s id 0)\/(q ≠ j/\r.cells[q]?=some c):=by
  intro q c hq
  by_cases e:q=j
  ·subst e;rw [gEc hjl] at hq;cases hq;exact .inl ⟨rfl,rfl⟩
  rw [gE5 (Ne.symm e)] at hq;exact .inr ⟨e,hq⟩
 generalize hh:s.hp.set i (.r { r with cells:=r.cells.set j (.s id 0) })=hp' at *
 have sub:∀ ℓ,Lv hp' g ℓ->Lv s.hp g ℓ:=by
  intro ℓ hl
  cases ℓ with
  | ob q=>
   by_cases hq:q=i
   ·subst hq
    rcases hl with ⟨r2,e1,e2⟩ | ⟨kv,e1⟩
    ·exact .inl ⟨r,hi,e2⟩
    rw [self] at e1;cases e1
   rcases hl with ⟨r2,e1,e2⟩ | ⟨kv,e1⟩
   ·exact .inl ⟨r2,by rw [<- other q hq];exact e1,e2⟩
   exact .inr ⟨kv,by rw [<- other q hq];exact e1⟩
  | cl q j2=>
   obtain ⟨r2,k,cs,e1,e2,e3⟩:=hl
   by_cases hq:q=i
   rotate_left
   ·exact ⟨r2,k,cs,by rw [<- other q hq];exact e1,e2,e3⟩
   subst hq
   rw [self] at e1
   cases e1
   rcases cel j2 _ e2 with ⟨_,h⟩ | ⟨_,h⟩
   ·cases h
   exact ⟨r,k,cs,hi,h,e3⟩
 have ow:∀ b,Ow hp' g b->Ow s.hp g b:=fun b ho=>ho.imp (fun h=>h) (fun ⟨ℓ,hl,e⟩=>⟨ℓ,sub ℓ hl,e⟩)
 have hm:Mo g s.hp w g hp' w (fun _=>True):=by
  refine ⟨fun q hq=>⟨?_,rfl,rfl⟩,fun b _ ho=>ow b ho,gBu _,fun _ _ _=>rfl,fun q _ hq r2 j2 k cs e1 e2=>?_⟩
  ·by_cases e:q=i
   ·subst e;exact ⟨_,self,rfl⟩
   obtain ⟨o,h1,h2⟩:=hq
   exact ⟨o,by rw [other q e];exact h1,h2⟩
  by_cases e:q=i
  rotate_left
  ·exact ⟨r2,by rw [<- other q e];exact e1,e2,fun _=>rfl⟩
  subst e
  rw [self] at e1
  cases e1
  rcases cel j2 _ e2 with ⟨_,h⟩ | ⟨_,h⟩
  ·cases h
  exact ⟨r,hi,h,fun _=>rfl⟩
 have hr:=hR.hr
 refine ⟨g,⟨by show s.pin<=hp'.length;rw [<- hh];simpa using hpp.1,hpp.2⟩,hR.mo hm ?_ (fun ℓ hl=>hR.new ℓ (sub ℓ hl)) hR.fp⟩
 refine ⟨hr.ml,fun ℓ hl=>hr.md ℓ (sub ℓ hl),fun ℓ ℓ' h1 h2=>hr.inj ℓ ℓ' (sub ℓ h1) (sub ℓ' h2),fun q r2 e1=>?_,fun q kv e1=>?_,hm.gl hr.gl⟩
 rotate_left
 ·by_cases e:q=i
  ·subst e;rw [self] at e1;cases e1
  rw [other q e] at e1
  exact MpR.mo hm e1 (hr.mp q kv e1) rfl
 by_cases e:q=i
 rotate_left
 ·rw [other q e] at e1
  exact RowR.mo hm e1 (hr.row q r2 e1) (fun _=>rfl) (fun _ _ _ _ _=>⟨rfl,rfl⟩)
 subst e
 rw [self] at e1
 cases e1
 rcases hr.row q r hi with ⟨k1,k2⟩ | ⟨k1,k2,arr,k3,k4,k5,k6,k7⟩
 ·rw [k2] at hj;simp at hj
 refine .inr ⟨k1,fun h1 h2=>k2 h1 (gAL.1 (by rw [<- gAQ (i:=j) (a:=C.s id 0)];exact gAL.2 h2)),arr,k3,by simpa using k4,k5,k6,fun j2 c hj2=>?_⟩
 rcases cel j2 c hj2 with ⟨rfl,rfl⟩ | ⟨_,h⟩
 rotate_left
 ·obtain ⟨u,u1,u2⟩:=k7 j2 c h
  exact ⟨u,u1,CellR.mo hm u2 (fun k cs hc _=>⟨rfl,rfl⟩)⟩
 obtain ⟨u,u1,u2⟩:=k7 j2 _ hj
 have hu:u=.slice none 0 0:=u2
 refine ⟨u,u1,?_⟩
 have hκ:g.κ id=0:=by
  rcases hr.row id _ hid with ⟨z,_⟩ | ⟨_,z,_⟩
  ·exact z
  exact absurd rfl (z rfl)
 have hid':hp'[id]?=some (.r ⟨e0,k0,true,[]⟩):=by rw [other id (Ne.symm hne)];exact hid
 exact ⟨⟨_,hid',rfl⟩,gBE _,none,by rw [hu,hκ],fun hn=>absurd hκ hn,by simp⟩
theorem I6 {s:ST} (e k:Nat):Le s { s with hp:=s.hp++[.r ⟨e,k,true,[]⟩] }:=by
 rintro M0 w0 a w ⟨g,hpp,hR⟩
 have hb:=hR.birth0 (w':=w) (hp':=s.hp++[.r ⟨e,k,true,[]⟩]) (id:=s.hp.length) (r:=⟨e,k,true,[]⟩) CH (BO _) (Bb _) rfl (Fp.refl _ _)
 exact ⟨_,⟨by have:=hpp.1;simp;omega,hpp.2.trans (Dr hpp.1)⟩,hb⟩
def AJ (R:List (List Ar)):List C:=R.map fun r=>C.o (2,23) (Aw r)
theorem AP (xs:List (List Ar)):(AJ xs).length=xs.length:=by simp [AJ]
theorem EY (f:List Nat) (L:List (List Ar)):(AJ L).map (C.ren f)=AJ L:=by simp [AJ,C.ren,gAb]
theorem Cd (f:Nat->Nat) (L:List (List Ar)):(AJ L).map (C.up f)=AJ L:=by simp [AJ,C.up,gAb]
theorem Dc (L:List (List Ar)):(AJ L).map Vp=Br L:=by simp [AJ,Br,Vp,gAb]
theorem IZ (xs:List (List Ar)) (x:List Ar):AJ xs++[.o (2,23) (Aw x)]=AJ (xs++[x]):=by simp [AJ]

theorem P0 (R:List (List Ar)) (hn:R.length<=1000000) (hr:∀ r∈R,r.length<=1000000):FC Tryz.prog 53 [Ba R] [] (fun r o=>r=.a (.g [.s 0 R.length])/\o=[.r ⟨24,1,true,AJ R⟩,.r ⟨27,1,false,[.s 0 R.length]⟩]):=by
 refine A7 Tryz.func53 rfl (by rw [Tryz.ntmps53];simp) ?_
 rw [Tryz.ntmps53]
 simp only [B4,Ba]
 (refine aj (an @gBj.{0} @gBi.{0}) ?_;(repeat clear hK K);repeat refine kq fun K hK=>?_)
 refine As (I6 24 1) ?_
 simp only [gAm,gBc]
 refine As (FU 2 0 3 (by decide) rfl rfl rfl) ?_
 simp only [gBj,gBi]
 refine Ab (fun k:Nat=>{ tm:=[(1,.a (.c (.p 0 0))),(2,.a (.c (.p 1 0))),(3,.a (.c (.p 2 0))),(4,.i k)],hp:=[.r ⟨27,1,false,[.t 1 (AK R)]⟩,.r ⟨27,1,false,[.v (.slice none 0 0)]⟩,.r ⟨27,1,false,[.s 3 k]⟩,.r ⟨24,1,true,AJ (R.take k)⟩],n:=25,pin:=0 }) (fun k=>k<=R.length) (fun k=>R.length - k) 0 ?_ ?_ ?_
 ·omega
 ·(refine Bh ?_;simp only [CS,go_sem,gBq,AJ,gAX];try simp)
 rintro k hk K hK
 have hkl:(AJ (R.take k)).length=k:=by rw [AP];simp;omega
 by_cases hlt:k<R.length
 rotate_left
 ·have hl1:=Yq hlt
  have hke:k=R.length:=by omega
  subst hke
  rw [gBn]
  (refine aj (an @hl1 @A6) ?_;repeat refine kq fun K hK=>?_)
  refine W3 ?_
  (refine VZ ?_;repeat clear hK K)
  (repeat (first | (refine AA ?_;intro K hK) | refine Ai ?_ | refine Ag ?_ | (refine AX rfl rfl ?_;intro K1 hK1;simp only [go_sem,gBj,gBi,C.pl,C.one,gAf,gAh,gA3,gBp,gBq,gAs];(first | refine hK1 _ ?_ | refine AE (hK1 _ ?_));clear hK1 K1) | ((first | refine Aa ?_ | refine Am ?_);refine hK _ ?_;clear hK K)))
  ((try refine Ak ?_);(try simp only [Ad,Ay]);refine AB (A8 [3,1] rfl rfl) ?_;(try simp only [Yn,go_sem]);((try refine Ak ?_);(try refine Aa ?_);(try simp only [Ad,Ay]);refine AN (by first | exact .inl rfl | exact .inr rfl) rfl ?_;simp only [Vm,Cq,Ck,Cx,Tryz.results53,go_sem,true_and,and_true,EY,C.pl,gAf,gAh,gA3,gBp,gBq,gAs]))
 have hl1:=Yp hlt
 have hg:=gE1 hlt
 have hrk:=hr _ (gE6 hlt)
 (refine aj (an @hl1 @A6) ?_;repeat refine kq fun K hK=>?_)
 refine W2 ?_
 (refine ai ?_;repeat refine kq fun K hK=>?_)
 refine YH [] (.m 0 0 0 (.m 3 0 0 (.m 5 0 0 (.m 1 1 10 (.m 4 1 8 (.m 6 0 0 (.m 7 1 8 (.a 2 (.a 8 (.a 9 (.a 10 (.m 11 0 0 (.a 12 .e))))))))))))) ?_
 (refine VY (an @A6 (Ao hg)) ?_;repeat clear hK K)
 (refine VL rfl rfl ?_;intro K1 hK1;refine Bl rfl ?_;simp only [go_sem];(first | refine hK1 _ ?_ | refine AE (hK1 _ ?_));clear hK1 K1)
 (refine VL rfl rfl ?_;intro K1 hK1;refine QW rfl rfl rfl rfl ?_;simp only [go_sem,Cm,A3,Aq,gBq,gBc];(first | refine hK1 _ ?_ | refine AE (hK1 _ ?_));clear hK1 K1)
 (refine VL rfl rfl ?_;intro K1 hK1;refine Bl rfl ?_;simp only [go_sem];(first | refine hK1 _ ?_ | refine AE (hK1 _ ?_));clear hK1 K1)
 (refine VM rfl rfl rfl rfl ?_;intro K1 hK1;refine Bc rfl ?_;simp only [go_sem,hkl,gBB,gE7 (gBt hkl),C.one,gBp,gBq,gAf,gAh,gA3];(first | refine hK1 _ ?_ | refine AE (hK1 _ ?_));clear hK1 K1)
 (refine VX ?_;repeat clear hK K)
 (refine VM rfl rfl rfl rfl ?_;intro K1 hK1;refine Bc rfl ?_;simp only [go_sem];(first | refine hK1 _ ?_ | refine AE (hK1 _ ?_));clear hK1 K1)
 (refine VX ?_;repeat clear hK K)
 have hj:(AJ (R.take k)++[C.s 5 R[k].length])[k]?=some (.s 5 R[k].length):=by rw [gEb (by omega),hkl,gBC];rfl
 have hset:(AJ (R.take k)++[C.s 5 R[k].length]).set k (.o (2,23) (Aw R[k]))=AJ (R.take (k+1)):=by
  rw [gBh _ _ (by omega),hkl,gBC,gE8 hlt,<- IZ];rfl
 refine As (AQ (r:=⟨23,2,true,AG R[k]⟩) (ri:=⟨24,1,true,AJ (R.take k)++[.s 5 R[k].length]⟩) (ts:=Aw R[k]) 7 k 5 R[k].length (by decide) rfl hj rfl rfl (show 0<2 by omega) (AD _).symm (DB _)) ?_
 simp only [hset,go_sem]
 (refine ai ?_;(repeat clear hK K);repeat refine kq fun K hK=>?_)
 refine W4 ?_
 refine hK _ (k+1) (by omega) (by omega) ?_
 refine Le.trans (A8 [0,1,2,7] rfl rfl) ?_
 (try simp only [Yn,go_sem])
 (try simp only [EY])
 exact W5
end Go.Proofs.YtbnabodoabimnaaGreat
