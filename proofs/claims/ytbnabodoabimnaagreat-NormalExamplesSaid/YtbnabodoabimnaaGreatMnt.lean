/- Lemmas. -/
import Derived.Test.YtbnabodoabimnaaGreatMD
namespace Go.Proofs.YtbnabodoabimnaaGreat
set_option linter.unusedVariables false
set_option linter.unusedSimpArgs false
open Go.RowKit

def We (k:Nat):C->C
 | .o k cs=>.t k.1 cs
 | .v (.slice none 0 0)=>.t k []
 | c=>c
def Wf:List Nat->List C->List C
 | k :: ks,c :: cs=>We k c :: Wf ks cs
 | [],c :: cs=>Vp c :: Wf [] cs
 | _,[]=>[]
theorem MG (k:Nat) (c:C):We k c=Vp c\/(c=.v (.slice none 0 0)/\We k c=.t k []):=by
 unfold We
 split
 ·exact .inl rfl
 ·exact .inr ⟨rfl,rfl⟩
 rename_i h1 h2
 refine .inl ?_
 cases c <;> first | rfl | exact absurd rfl (h1 _ _)
theorem MH {ks:List Nat} {cs:List C} {j:Nat} {c:C} (h:(Wf ks cs)[j]?=some c):∃ c0,cs[j]?=some c0/\(c=Vp c0\/∃ k,c0=.v (.slice none 0 0)/\c=.t k []):=by
 induction cs generalizing ks j with
 | nil=>cases ks <;> simp [Wf] at h
 | cons x r ih=>
  cases ks with
  | nil=>
   cases j with
   | zero=>simp [Wf] at h;exact ⟨x,rfl,.inl h.symm⟩
   | succ j=>simp [Wf] at h;obtain ⟨c0,h1,h2⟩:=ih h;exact ⟨c0,by simpa using h1,h2⟩
  | cons k ks=>
   cases j with
   | zero=>
    simp [Wf] at h
    refine ⟨x,rfl,?_⟩
    rcases MG k x with e | ⟨e1,e2⟩
    ·exact .inl (by rw [<- h,e])
    exact .inr ⟨k,e1,by rw [<- h,e2]⟩
   | succ j=>simp [Wf] at h;obtain ⟨c0,h1,h2⟩:=ih h;exact ⟨c0,by simpa using h1,h2⟩
theorem Qd {ks:List Nat} {cs:List C} {j:Nat} {k:Nat × Nat} {ts:List Tr}:(Wf ks cs)[j]? ≠ some (.o k ts):=by
 intro h
 obtain ⟨c0,_,h | ⟨_,_,h⟩⟩:=MH h
 ·exact Ml h.symm
 cases h
theorem MI (ks:List Nat) (cs:List C):(Wf ks cs).length=cs.length:=by
 induction cs generalizing ks with
 | nil=>cases ks <;> rfl
 | cons x r ih=>cases ks <;> simp [Wf,ih]
theorem MJ {s:ST} (i:Nat) (ks:List Nat) {r:Row} (hi:s.hp[i]?=some (.r r)):Le s { s with hp:=s.hp.set i (.r { r with cells:=Wf ks r.cells }) }:=by
 rintro M0 w0 a w ⟨g,hpp,hR⟩
 have hlt:i<s.hp.length:=(List.getElem?_eq_some_iff.1 hi).1
 have self:(s.hp.set i (.r { r with cells:=Wf ks r.cells }))[i]?=some (.r { r with cells:=Wf ks r.cells }):=by simp [hlt]
 have other:∀ q,q ≠ i->(s.hp.set i (.r { r with cells:=Wf ks r.cells }))[q]?=s.hp[q]?:=fun q hq=>by rw [gE5 (Ne.symm hq)]
 generalize hh:s.hp.set i (.r { r with cells:=Wf ks r.cells })=hp' at *
 have ncl:∀ j,¬ Lv hp' g (.cl i j):=by
  rintro j ⟨r2,k,cs,e1,e2,_⟩
  rw [self] at e1
  cases e1
  exact Qd e2
 have sub:∀ ℓ,Lv hp' g ℓ->Lv s.hp g ℓ:=by
  intro ℓ hl
  cases ℓ with
  | ob q=>
   by_cases hq:q=i
   ·subst hq
    rcases hl with ⟨r2,e1,e2⟩ | ⟨kv,e1⟩
    ·exact .inl ⟨r,hi,e2⟩
    rw [self] at e1;cases e1
   rcases hl with ⟨r2,e1,e2⟩ | ⟨kv,e1⟩
   ·exact .inl ⟨r2,by rw [<- other q hq];exact e1,e2⟩
   exact .inr ⟨kv,by rw [<- other q hq];exact e1⟩
  | cl q j=>
   by_cases hq:q=i
   ·subst hq;exact absurd hl (ncl j)
   obtain ⟨r2,k,cs,e1,e2,e3⟩:=hl
   exact ⟨r2,k,cs,by rw [<- other q hq];exact e1,e2,e3⟩
 have ow:∀ b,Ow hp' g b->Ow s.hp g b:=fun b ho=>ho.imp (fun h=>h) (fun ⟨ℓ,hl,e⟩=>⟨ℓ,sub ℓ hl,e⟩)
 have hm:Mo g s.hp w g hp' w (fun _=>True):=by
  refine ⟨fun q hq=>⟨?_,rfl,rfl⟩,fun b _ ho=>ow b ho,Nat.le_refl _,fun _ _ _=>rfl,fun q _ hq r2 j k cs e1 e2=>?_⟩
  ·by_cases e:q=i
   ·subst e;exact ⟨_,self,rfl⟩
   obtain ⟨o,h1,h2⟩:=hq
   exact ⟨o,by rw [other q e];exact h1,h2⟩
  by_cases e:q=i
  rotate_left
  ·exact ⟨r2,by rw [<- other q e];exact e1,e2,fun _=>rfl⟩
  subst e
  rw [self] at e1
  cases e1
  exact absurd e2 Qd
 have hr:=hR.hr
 refine ⟨g,⟨by show s.pin<=hp'.length;rw [<- hh];simpa using hpp.1,hpp.2⟩,hR.mo hm ?_ (fun ℓ hl=>hR.new ℓ (sub ℓ hl)) hR.fp⟩
 refine ⟨hr.ml,fun ℓ hl=>hr.md ℓ (sub ℓ hl),fun ℓ ℓ' h1 h2=>hr.inj ℓ ℓ' (sub ℓ h1) (sub ℓ' h2),fun q r2 e1=>?_,fun q kv e1=>?_,hm.gl hr.gl⟩
 rotate_left
 ·by_cases e:q=i
  ·subst e;rw [self] at e1;cases e1
  rw [other q e] at e1
  exact MpR.mo hm e1 (hr.mp q kv e1) rfl
 by_cases e:q=i
 rotate_left
 ·rw [other q e] at e1
  exact RowR.mo hm e1 (hr.row q r2 e1) (fun _=>rfl) (fun _ _ _ _ _=>⟨rfl,rfl⟩)
 subst e
 rw [self] at e1
 cases e1
 rcases hr.row q r hi with ⟨k1,k2⟩ | ⟨k1,k2,arr,k3,k4,k5,k6,k7⟩
 ·exact .inl ⟨k1,by simp [k2,Wf]⟩
 refine .inr ⟨k1,fun h1 h2=>k2 h1 (List.length_eq_zero_iff.1 (by rw [<- MI ks];exact List.length_eq_zero_iff.2 h2)),arr,k3,by simpa [MI] using k4,k5,k6,fun j c hj=>?_⟩
 obtain ⟨c0,hc0,hcc⟩:=MH hj
 obtain ⟨u,u1,u2⟩:=k7 j c0 hc0
 refine ⟨u,u1,?_⟩
 rcases hcc with rfl | ⟨k,rfl,rfl⟩
 rotate_left
 ·have hu:u=.slice none 0 0:=u2
  rw [hu]
  exact Rd.e _ _ _
 cases c0 with
 | o k cs=>exact EQ (t:=.l k.1 cs) (fun b _ ho=>ow b ho) hr hi ncl sub hc0 (.inl rfl) u2
 | _=>exact CellR.mo hm u2 (fun k cs hc=>by cases hc)
theorem FU {s:ST} (i j id:Nat) {r:Row} {e0 k0:Nat} (hne:i ≠ id) (hi:s.hp[i]?=some (.r r)) (hj:r.cells[j]?=some (.v (.slice none 0 0))) (hid:s.hp[id]?=some (.r ⟨e0,k0,true,[]⟩)):Le s { s with hp:=s.hp.set i (.r { r with cells:=r.cells.set j (.s id 0) }) }:=by
 rintro M0 w0 a w ⟨g,hpp,hR⟩
 have hlt:i<s.hp.length:=(List.getElem?_eq_some_iff.1 hi).1
 have hjl:j<r.cells.length:=(List.getElem?_eq_some_iff.1 hj).1
 have self:(s.hp.set i (.r { r with cells:=r.cells.set j (.s id 0) }))[i]?=some (.r { r with cells:=r.cells.set j (.s id 0) }):=by simp [hlt]
 have other:∀ q,q ≠ i->(s.hp.set i (.r { r with cells:=r.cells.set j (.s id 0) }))[q]?=s.hp[q]?:=fun q hq=>by rw [gE5 (Ne.symm hq)]
 have cel:∀ q c,(r.cells.set j (.s id 0))[q]?=some c->(q=j/\c=.s id 0)\/(q ≠ j/\r.cells[q]?=some c):=by
  intro q c hq
  by_cases e:q=j
  ·subst e;rw [gEc hjl] at hq;cases hq;exact .inl ⟨rfl,rfl⟩
  rw [gE5 (Ne.symm e)] at hq;exact .inr ⟨e,hq⟩
 generalize hh:s.hp.set i (.r { r with cells:=r.cells.set j (.s id 0) })=hp' at *
 have sub:∀ ℓ,Lv hp' g ℓ->Lv s.hp g ℓ:=by
  intro ℓ hl
  cases ℓ with
  | ob q=>
   by_cases hq:q=i
   ·subst hq
    rcases hl with ⟨r2,e1,e2⟩ | ⟨kv,e1⟩
    ·exact .inl ⟨r,hi,e2⟩
    rw [self] at e1;cases e1
   rcases hl with ⟨r2,e1,e2⟩ | ⟨kv,e1⟩
   ·exact .inl ⟨r2,by rw [<- other q hq];exact e1,e2⟩
   exact .inr ⟨kv,by rw [<- other q hq];exact e1⟩
  | cl q j2=>
   obtain ⟨r2,k,cs,e1,e2,e3⟩:=hl
   by_cases hq:q=i
   rotate_left
   ·exact ⟨r2,k,cs,by rw [<- other q hq];exact e1,e2,e3⟩
   subst hq
   rw [self] at e1
   cases e1
   rcases cel j2 _ e2 with ⟨_,h⟩ | ⟨_,h⟩
   ·cases h
   exact ⟨r,k,cs,hi,h,e3⟩
 have ow:∀ b,Ow hp' g b->Ow s.hp g b:=fun b ho=>ho.imp (fun h=>h) (fun ⟨ℓ,hl,e⟩=>⟨ℓ,sub ℓ hl,e⟩)
 have hm:Mo g s.hp w g hp' w (fun _=>True):=by
  refine ⟨fun q hq=>⟨?_,rfl,rfl⟩,fun b _ ho=>ow b ho,Nat.le_refl _,fun _ _ _=>rfl,fun q _ hq r2 j2 k cs e1 e2=>?_⟩
  ·by_cases e:q=i
   ·subst e;exact ⟨_,self,rfl⟩
   obtain ⟨o,h1,h2⟩:=hq
   exact ⟨o,by rw [other q e];exact h1,h2⟩
  by_cases e:q=i
  rotate_left
  ·exact ⟨r2,by rw [<- other q e];exact e1,e2,fun _=>rfl⟩
  subst e
  rw [self] at e1
  cases e1
  rcases cel j2 _ e2 with ⟨_,h⟩ | ⟨_,h⟩
  ·cases h
  exact ⟨r,hi,h,fun _=>rfl⟩
 have hr:=hR.hr
 refine ⟨g,⟨by show s.pin<=hp'.length;rw [<- hh];simpa using hpp.1,hpp.2⟩,hR.mo hm ?_ (fun ℓ hl=>hR.new ℓ (sub ℓ hl)) hR.fp⟩
 refine ⟨hr.ml,fun ℓ hl=>hr.md ℓ (sub ℓ hl),fun ℓ ℓ' h1 h2=>hr.inj ℓ ℓ' (sub ℓ h1) (sub ℓ' h2),fun q r2 e1=>?_,fun q kv e1=>?_,hm.gl hr.gl⟩
 rotate_left
 ·by_cases e:q=i
  ·subst e;rw [self] at e1;cases e1
  rw [other q e] at e1
  exact MpR.mo hm e1 (hr.mp q kv e1) rfl
 by_cases e:q=i
 rotate_left
 ·rw [other q e] at e1
  exact RowR.mo hm e1 (hr.row q r2 e1) (fun _=>rfl) (fun _ _ _ _ _=>⟨rfl,rfl⟩)
 subst e
 rw [self] at e1
 cases e1
 rcases hr.row q r hi with ⟨k1,k2⟩ | ⟨k1,k2,arr,k3,k4,k5,k6,k7⟩
 ·rw [k2] at hj;simp at hj
 refine .inr ⟨k1,fun h1 h2=>k2 h1 (List.length_eq_zero_iff.1 (by rw [<- List.length_set (i:=j) (a:=C.s id 0)];exact List.length_eq_zero_iff.2 h2)),arr,k3,by simpa using k4,k5,k6,fun j2 c hj2=>?_⟩
 rcases cel j2 c hj2 with ⟨rfl,rfl⟩ | ⟨_,h⟩
 rotate_left
 ·obtain ⟨u,u1,u2⟩:=k7 j2 c h
  exact ⟨u,u1,CellR.mo hm u2 (fun k cs hc _=>⟨rfl,rfl⟩)⟩
 obtain ⟨u,u1,u2⟩:=k7 j2 _ hj
 have hu:u=.slice none 0 0:=u2
 refine ⟨u,u1,?_⟩
 have hκ:g.κ id=0:=by
  rcases hr.row id _ hid with ⟨z,_⟩ | ⟨_,z,_⟩
  ·exact z
  exact absurd rfl (z rfl)
 have hid':hp'[id]?=some (.r ⟨e0,k0,true,[]⟩):=by rw [other id (Ne.symm hne)];exact hid
 exact ⟨⟨_,hid',rfl⟩,Nat.zero_le _,none,by rw [hu,hκ],fun hn=>absurd hκ hn,by simp⟩
theorem I6 {s:ST} (e k:Nat):Le s { s with hp:=s.hp++[.r ⟨e,k,true,[]⟩] }:=by
 rintro M0 w0 a w ⟨g,hpp,hR⟩
 have hb:=hR.birth0 (w':=w) (hp':=s.hp++[.r ⟨e,k,true,[]⟩]) (id:=s.hp.length) (r:=⟨e,k,true,[]⟩) CH (BO _) (Bb _) rfl (Fp.refl _ _)
 exact ⟨_,⟨by have:=hpp.1;simp;omega,hpp.2.trans (Dr hpp.1)⟩,hb⟩
end Go.Proofs.YtbnabodoabimnaaGreat
