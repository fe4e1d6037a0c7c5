/- Lemmas. -/
import Derived.Test.YtjijjfkalheokaaGreatDoorG70
import Derived.Test.YtjijjfkalheokaaGreatDoorG37
import Derived.Test.YtjijjfkalheokaaGreatDoorZk
import Derived.Test.YtjijjfkalheokaaGreatDoorG45
import Derived.Test.YtjijjfkalheokaaGreatDoorG67
import Derived.Test.YtjijjfkalheokaaGreatDoorMD
namespace Go.Proofs.YtjijjfkalheokaaGreatDoor
set_option linter.unusedVariables false
set_option linter.unusedSimpArgs false
open Go.RowKit

def Y5 (f:Nat->Nat) (n c:Nat):List Nat:=(List.range n).filter fun s=>f s == c
def Y6 (f:Nat->Nat) (n:Nat):List (List Int):=(List.range n).map fun c=>(Y5 f n c).map Int.ofNat
theorem DH {f:Nat->Nat} {n c s:Nat}:s∈Y5 f n c↔s<n/\f s=c:=by simp [Y5]
theorem O4 (f:Nat->Nat) (n c:Nat):(Y5 f n c).length<=n:=by
 have:=List.length_filter_le (fun s=>f s == c) (List.range n)
 rwa [List.length_range] at this
theorem JB (f:Nat->Nat) (n:Nat):(Y6 f n).length=n:=by simp [Y6]
theorem O5 {f:Nat->Nat} {n c:Nat} (h:c<n):(Y6 f n)[c]?=some ((Y5 f n c).map Int.ofNat):=by simp [Y6,h]
section
variable {X : List (List Ar)} {D cl : List Int}
theorem O6 (hv:Bv X=true) (h:CpOk X D) {v i:Nat} (hs:v<X.length):RT X cl (XG D v) i↔RT X cl v i:=by
 obtain ⟨_,_,p3,p4,_⟩:=BN hv h hs
 constructor
 ·rintro ⟨u,hu,h1,h2⟩;exact ⟨u,hu,p3.trans h1,h2⟩
 rintro ⟨u,hu,h1,h2⟩;exact ⟨u,hu,p4.trans h1,h2⟩
theorem LU (hv:Bv X=true) (h:CpOk X D) {v i:Nat} {e:Int} (hs:v<X.length):RV X cl (XG D v) e i↔RV X cl v e i:=by
 obtain ⟨_,_,p3,p4,_⟩:=BN hv h hs
 constructor
 ·rintro ⟨h0,u,hu,h1,h2⟩;exact ⟨h0,u,hu,p3.trans h1,h2⟩
 rintro ⟨h0,u,hu,h1,h2⟩;exact ⟨h0,u,hu,p4.trans h1,h2⟩
def gT (X:List (List Ar)) (D cl:List Int) (c:Nat) (row:List Ar) (i:Nat):Prop:=∃ a∈row,a.1=0/\XG D a.2.toNat ≠ c/\RT X cl a.2.toNat i
def Y7 (X:List (List Ar)) (D cl:List Int) (c:Nat) (l:List Nat) (i:Nat):Prop:=∃ s∈l,cl.getD s 0=(i:Int)\/gT X D cl c (X.getD s []) i
def gV (X:List (List Ar)) (D cl:List Int) (c:Nat) (row:List Ar) (e:Int) (i:Nat):Prop:=∃ a∈row,(a.1 ≠ 0/\a.1=e/\RT X cl a.2.toNat i)\/(a.1=0/\XG D a.2.toNat ≠ c/\RV X cl a.2.toNat e i)
def Y8 (X:List (List Ar)) (D cl:List Int) (c:Nat) (l:List Nat) (e:Int) (i:Nat):Prop:=∃ s∈l,gV X D cl c (X.getD s []) e i
theorem L5 (hv:Bv X=true) {c t:Nat} (he:(c,t)∈Xy (XG D) X X.length):∃ s,s<X.length/\XG D s=c/\∃ a∈X.getD s [],a.1=0/\XG D a.2.toNat ≠ c/\XG D a.2.toNat=t:=by
 obtain ⟨s,hs,a,ha,h0,hne,e⟩:=Fb.1 he
 cases e
 exact ⟨s,hs,rfl,a,ha,h0,fun h=>hne h.symm,rfl⟩
theorem Su (hv:Bv X=true) (h:CpOk X D) {c:Nat} (hc:c<X.length) (hf:XG D c=c) (i:Nat):Y7 X D cl c (Y5 (XG D) X.length c) i↔RT X cl c i:=by
 have hlo:BE X=true:=gEg (gE4 hv).1
 constructor
 rotate_left
 ·rintro ⟨u,hu,h1,h2⟩
  rcases Js hv h hc h1 with e | ⟨t,he,h3⟩
  ·exact ⟨u,DH.2 ⟨hu,by rw [<- e,hf]⟩,.inl h2⟩
  rw [hf] at he
  obtain ⟨s,hs,hsc,a,ha,h0,hne,hat⟩:=L5 hv he
  have hb:=EJ hv hs ha
  refine ⟨s,DH.2 ⟨hs,hsc⟩,.inr ⟨a,ha,h0,hne,(O6 hv h hb.2.2.2).1 ?_⟩⟩
  rw [hat];exact ⟨u,hu,h3,h2⟩
 rintro ⟨s,hs,h1⟩
 obtain ⟨hsl,hsc⟩:=DH.1 hs
 have hcs:Rc (WP true X) c s:=by rw [<- hsc];exact (BN hv h hsl).2.2.2.1
 rcases h1 with h1 | ⟨a,ha,h0,_,u,hu,h3,h4⟩
 ·exact ⟨s,hsl,hcs,h1⟩
 have hb:=EJ hv hsl ha
 have hadj:a.2.toNat∈WP true X s:=by
  rw [Gs hv]
  have:((0:Int),((a.2.toNat:Nat):Int))=a:=by
   rcases a with ⟨x,y⟩
   simp only at h0 hb ⊢
   rw [h0];congr 1;omega
  rw [this];exact ha
 exact ⟨u,hu,(hcs.trans (.one hadj)).trans h3,h4⟩
theorem Sv (hv:Bv X=true) (h:CpOk X D) {c:Nat} (hc:c<X.length) (hf:XG D c=c) (e:Int) (i:Nat):Y8 X D cl c (Y5 (XG D) X.length c) e i↔RV X cl c e i:=by
 have hlo:BE X=true:=gEg (gE4 hv).1
 constructor
 rotate_left
 ·rintro ⟨hn,u,hu,h1,a,ha,h2,h3⟩
  rcases Js hv h hc h1 with ee | ⟨t,he,h4⟩
  ·exact ⟨u,DH.2 ⟨hu,by rw [<- ee,hf]⟩,a,ha,.inl ⟨by rw [h2];exact hn,h2,h3⟩⟩
  rw [hf] at he
  obtain ⟨s,hs,hsc,b,hb1,h0,hne,hat⟩:=L5 hv he
  have hb:=EJ hv hs hb1
  refine ⟨s,DH.2 ⟨hs,hsc⟩,b,hb1,.inr ⟨h0,hne,(LU hv h hb.2.2.2).1 ?_⟩⟩
  rw [hat];exact ⟨hn,u,hu,h4,a,ha,h2,h3⟩
 rintro ⟨s,hs,a,ha,h1⟩
 obtain ⟨hsl,hsc⟩:=DH.1 hs
 have hcs:Rc (WP true X) c s:=by rw [<- hsc];exact (BN hv h hsl).2.2.2.1
 rcases h1 with ⟨h0,h1,h2⟩ | ⟨h0,_,hn,u,hu,h3,h4⟩
 ·exact ⟨by rw [<- h1];exact h0,s,hsl,hcs,a,ha,h1,h2⟩
 have hb:=EJ hv hsl ha
 have hadj:a.2.toNat∈WP true X s:=by
  rw [Gs hv]
  have:((0:Int),((a.2.toNat:Nat):Int))=a:=by
   rcases a with ⟨x,y⟩
   simp only at h0 hb ⊢
   rw [h0];congr 1;omega
  rw [this];exact ha
 exact ⟨hn,u,hu,(hcs.trans (.one hadj)).trans h3,h4⟩
end
theorem V0 {X:List (List Ar)} {cl:List Int} (hc:Nrm X.length cl) (hn:X.length<=64) {v:Nat} (hv:v<X.length):∃ i,i<64/\RT X cl v i:=by
 have hcl:=hc.len
 have hm:cl.getD v 0∈cl:=by rw [gE2,gE1 (by omega)];exact gE6 _
 have:=hc.rng _ hm
 exact ⟨(cl.getD v 0).toNat,by omega,v,hv,.refl _,by omega⟩
theorem WS.or {v w:Nat} {p q r:Nat->Prop} (hv:WS v p) (hw:WS w q) (h:∀ i,i<64->(r i↔p i\/q i)):WS (v ||| w) r:=
 ⟨Uj hv.1 hw.1,fun i hi=>by rw [Sr,hv.2 i hi,hw.2 i hi,h i hi]⟩
theorem WS.pow {k:Nat} (hk:k<64):WS (2 ^ k) (fun i=>k=i):=⟨KY hk,fun i _=>Uk⟩
theorem WS.zero {p:Nat->Prop} (h:∀ i,¬ p i):WS 0 p:=⟨by omega,fun i _=>by simp [h i]⟩
theorem WS.iff {w:Nat} {p q:Nat->Prop} (h:WS w p) (e:∀ i,i<64->(p i↔q i)):WS w q:=⟨h.1,fun i hi=>by rw [h.2 i hi,e i hi]⟩
theorem Qh (X:List (List Ar)) (D cl:List Int) (c:Nat) (l:List Nat) (i:Nat):¬ Y7 X D cl c (l.take 0) i:=by rintro ⟨s,hs,_⟩;simp at hs
theorem Sw (X:List (List Ar)) (D cl:List Int) (c:Nat) (l:List Ar) (i:Nat):¬ gT X D cl c (l.take 0) i:=by rintro ⟨s,hs,_⟩;simp at hs
theorem Qi {X:List (List Ar)} {D cl:List Int} {c:Nat} {l:List Nat} {k:Nat} (h:k<l.length) (i:Nat):Y7 X D cl c (l.take (k+1)) i↔Y7 X D cl c (l.take k) i\/cl.getD l[k] 0=(i:Int)\/gT X D cl c (X.getD l[k] []) i:=by
 unfold Y7
 rw [gE8 h]
 simp only [List.mem_append,List.mem_singleton]
 constructor
 ·rintro ⟨s,hs | hs,h1⟩
  ·exact .inl ⟨s,hs,h1⟩
  subst hs;exact .inr h1
 rintro (⟨s,hs,h1⟩ | h1)
 ·exact ⟨s,.inl hs,h1⟩
 exact ⟨_,.inr rfl,h1⟩
theorem Sx {X:List (List Ar)} {D cl:List Int} {c:Nat} {row:List Ar} {k:Nat} (h:k<row.length) (i:Nat):gT X D cl c (row.take (k+1)) i↔gT X D cl c (row.take k) i\/(row[k].1=0/\XG D row[k].2.toNat ≠ c/\RT X cl row[k].2.toNat i):=by
 unfold gT
 rw [gE8 h]
 simp only [List.mem_append,List.mem_singleton]
 constructor
 ·rintro ⟨s,hs | hs,h1⟩
  ·exact .inl ⟨s,hs,h1⟩
  subst hs;exact .inr h1
 rintro (⟨s,hs,h1⟩ | h1)
 ·exact ⟨s,.inl hs,h1⟩
 exact ⟨_,.inr rfl,h1⟩
theorem Qj (X:List (List Ar)) (D cl:List Int) (c:Nat) (l:List Nat) (e:Int) (i:Nat):¬ Y8 X D cl c (l.take 0) e i:=by rintro ⟨s,hs,_⟩;simp at hs
theorem Sy (X:List (List Ar)) (D cl:List Int) (c:Nat) (l:List Ar) (e:Int) (i:Nat):¬ gV X D cl c (l.take 0) e i:=by rintro ⟨s,hs,_⟩;simp at hs
theorem Ql {X:List (List Ar)} {D cl:List Int} {c:Nat} {l:List Nat} {k:Nat} (h:k<l.length) (e:Int) (i:Nat):Y8 X D cl c (l.take (k+1)) e i↔Y8 X D cl c (l.take k) e i\/gV X D cl c (X.getD l[k] []) e i:=by
 unfold Y8
 rw [gE8 h]
 simp only [List.mem_append,List.mem_singleton]
 constructor
 ·rintro ⟨s,hs | hs,h1⟩
  ·exact .inl ⟨s,hs,h1⟩
  subst hs;exact .inr h1
 rintro (⟨s,hs,h1⟩ | h1)
 ·exact ⟨s,.inl hs,h1⟩
 exact ⟨_,.inr rfl,h1⟩
theorem Sz {X:List (List Ar)} {D cl:List Int} {c:Nat} {row:List Ar} {k:Nat} (h:k<row.length) (e:Int) (i:Nat):gV X D cl c (row.take (k+1)) e i↔gV X D cl c (row.take k) e i\/(row[k].1 ≠ 0/\row[k].1=e/\RT X cl row[k].2.toNat i)\/(row[k].1=0/\XG D row[k].2.toNat ≠ c/\RV X cl row[k].2.toNat e i):=by
 unfold gV
 rw [gE8 h]
 simp only [List.mem_append,List.mem_singleton]
 constructor
 ·rintro ⟨s,hs | hs,h1⟩
  ·exact .inl ⟨s,hs,h1⟩
  subst hs;exact .inr h1
 rintro (⟨s,hs,h1⟩ | h1)
 ·exact ⟨s,.inl hs,h1⟩
 exact ⟨_,.inr rfl,h1⟩
structure VSt (H:List Ob) (L:Nat) (V:List (Int × Nat × Nat)) (N:Int->Nat->Prop):Prop where
 nd:(V.map (·.1)).Nodup
 nk:(V.map (·.2.1)).Nodup
 ob:∀ p∈V,L<=p.2.1/\H[p.2.1]?=some (C4 p.2.2)/\p.2.2<2 ^ 64/\∃ i,i<64/\p.2.2.testBit i=true
 ex:∀ e i,i<64->((∃ p∈V,p.1=e/\p.2.2.testBit i=true)↔N e i)
theorem VSt.nil (H:List Ob) (L:Nat) {N:Int->Nat->Prop} (h:∀ e i,¬ N e i):VSt H L [] N:=⟨by simp,by simp,by simp,fun e i _=>by simp [h e i]⟩
theorem VSt.iff {H:List Ob} {L:Nat} {V:List (Int × Nat × Nat)} {N M:Int->Nat->Prop} (h:VSt H L V N) (e:∀ e i,i<64->(N e i↔M e i)):VSt H L V M:=⟨h.nd,h.nk,h.ob,fun x i hi=>(h.ex x i hi).trans (e x i hi)⟩
theorem VSt.pre {H G:List Ob} {L:Nat} {V:List (Int × Nat × Nat)} {N:Int->Nat->Prop} (h:VSt H L V N) (hp:Pre H G):VSt G L V N:=⟨h.nd,h.nk,fun p hp2=>by obtain ⟨a,b,c⟩:=h.ob p hp2;exact ⟨a,hp.at b,c⟩,h.ex⟩
theorem Gv {α β:Type} {f:α->β}:∀ {l:List α},(l.map f).Nodup->∀ {a b},a∈l->b∈l->f a=f b->a=b
 | [],_,_,_,h,_,_=>by simp at h
 | x :: l,hn,a,b,ha,hb,e=>by
  simp only [List.map_cons,List.nodup_cons] at hn
  rcases List.mem_cons.1 ha with h1 | h1
  ·rcases List.mem_cons.1 hb with h2 | h2
   ·rw [h1,h2]
   ·exact absurd (List.mem_map.2 ⟨b,h2,by rw [<- e,h1]⟩) hn.1
  ·rcases List.mem_cons.1 hb with h2 | h2
   ·exact absurd (List.mem_map.2 ⟨a,h1,by rw [e,h2]⟩) hn.1
   ·exact Gv hn.2 h1 h2 e
theorem VSt.setm {H:List Ob} {L i:Nat} {V:List (Int × Nat × Nat)} {N:Int->Nat->Prop} {kv:List (Value × C)} (h:VSt H L V N) (hi:H[i]?=some (.m kv)) (ob:Ob):VSt (H.set i ob) L V N:=⟨h.nd,h.nk,fun p hp=>by
 obtain ⟨a,b,c⟩:=h.ob p hp
 refine ⟨a,?_,c⟩
 have hne:i ≠ p.2.1:=by rintro rfl;rw [hi] at b;cases b
 rw [gE5 hne];exact b,h.ex⟩
theorem VSt.join {H G:List Ob} {L mid:Nat} {V:List (Int × Nat × Nat)} {N:Int->Nat->Prop} {e:Int} {w:Nat} {q:Nat->Prop} (h:VSt H L V N) (hm:H[mid]?=some (.m (Y4 V))) (hL:mid<L) (hLH:L<=H.length) (hw:WS w q) (hq:∃ i,i<64/\q i) (hj:SJ H mid V e w G):
  ∃ V',G[mid]?=some (.m (Y4 V'))/\VSt G L V' (fun e' i=>N e' i\/(e'=e/\q i))/\H.length<=G.length/\(∀ j,j<L->j ≠ mid->G[j]?=H[j]?)/\∀ j kv,H[j]?=some (.m kv)->j ≠ mid->G[j]?=some (.m kv):=by
 rcases hj with ⟨p,hp,he,rfl⟩ | ⟨hno,rfl⟩
 rotate_left
 ·have hml:mid<H.length:=Br hm
  refine ⟨V++[(e,H.length,w)],?_,⟨?_,?_,fun x hx=>?_,fun e' i hi=>?_⟩,by simp,fun j hj hjm=>by rw [gE5 (Ne.symm hjm),gEa (by omega)],fun j kv hj hjm=>by rw [gE5 (Ne.symm hjm),gEa (Br hj)];exact hj⟩
  rotate_left 4
  ·rw [<- h.ex e' i hi]
   simp only [List.mem_append,List.mem_singleton]
   constructor
   ·rintro ⟨x,hx | rfl,h1,h2⟩
    ·exact .inl ⟨x,hx,h1,h2⟩
    exact .inr ⟨h1.symm,(hw.2 i hi).1 h2⟩
   rintro (⟨x,hx,h1,h2⟩ | ⟨h1,h2⟩)
   ·exact ⟨x,.inl hx,h1,h2⟩
   exact ⟨_,.inr rfl,h1.symm,(hw.2 i hi).2 h2⟩
  ·exact gEc (by simp;omega)
  ·rw [List.map_append,List.nodup_append]
   refine ⟨h.nd,by simp,fun a ha b hb=>?_⟩
   obtain ⟨p,hp,rfl⟩:=List.mem_map.1 ha
   simp only [List.map_cons,List.map_nil,List.mem_singleton] at hb
   rw [hb];exact hno p hp
  ·rw [List.map_append,List.nodup_append]
   refine ⟨h.nk,by simp,fun a ha b hb=>?_⟩
   obtain ⟨p,hp,rfl⟩:=List.mem_map.1 ha
   simp only [List.map_cons,List.map_nil,List.mem_singleton] at hb
   have:=Br (h.ob p hp).2.1
   omega
  rcases List.mem_append.1 hx with hx | hx
  ·obtain ⟨a1,a2,a3⟩:=h.ob x hx
   refine ⟨a1,?_,a3⟩
   have:=Br a2
   rw [gE5 (by omega),gEa this]
   exact a2
  simp only [List.mem_singleton] at hx
  subst hx
  refine ⟨hLH,?_,hw.1,?_⟩
  ·rw [gE5 (by simp only;omega)];exact Bp _ _
  obtain ⟨i,hi,hb⟩:=hq
  exact ⟨i,hi,(hw.2 i hi).2 hb⟩
 obtain ⟨o1,o2,o3,o4⟩:=h.ob p hp
 obtain ⟨A,B,hAB⟩:=List.append_of_mem hp
 have hsame:Y4 (A++(p.1,p.2.1,p.2.2 ||| w) :: B)=Y4 V:=by rw [hAB];simp [Y4]
 have hne:∀ x∈V,x ≠ p->x.2.1 ≠ p.2.1:=fun x hx hxp e=>hxp (Gv h.nk hx hp e)
 have hpA:p ∉ A++B:=by
  have:=h.nd
  rw [hAB] at this
  intro hin
  simp only [List.map_append,List.map_cons] at this
  have h2:=(List.perm_middle (a:=p.1) (l₁:=A.map (·.1)) (l₂:=B.map (·.1))).nodup_iff.1 this
  rw [List.nodup_cons] at h2
  exact h2.1 (by rw [<- List.map_append];exact List.mem_map.2 ⟨p,hin,rfl⟩)
 have hmem:∀ x,x∈V↔x=p\/x∈A++B:=fun x=>by rw [hAB];simp only [List.mem_append,List.mem_cons];constructor <;> (intro h;rcases h with h | h | h <;> simp [h])
 refine ⟨A++(p.1,p.2.1,p.2.2 ||| w) :: B,?_,⟨?_,?_,fun x hx=>?_,fun e' i hi=>?_⟩,by simp,fun j hj hjm=>by rw [gE5 (by omega)],fun j kv hj hjm=>by
  have hne2:p.2.1 ≠ j:=by rintro rfl;rw [o2] at hj;cases hj
  rw [gE5 hne2];exact hj⟩
 ·rw [hsame,gE5 (by omega)];exact hm
 ·have:=h.nd;rw [hAB] at this;simpa using this
 ·have:=h.nk;rw [hAB] at this;simpa using this
 ·have hx2:x=(p.1,p.2.1,p.2.2 ||| w)\/x∈A++B:=by
   simp only [List.mem_append,List.mem_cons] at hx ⊢
   rcases hx with h | h | h <;> simp [h]
  rcases hx2 with rfl | hx2
  ·refine ⟨o1,?_,Uj o3 hw.1,?_⟩
   ·exact gEc (Br o2)
   obtain ⟨i,hi,hb⟩:=o4
   exact ⟨i,hi,Sr.2 (.inl hb)⟩
  have hxV:=(hmem x).2 (.inr hx2)
  obtain ⟨a1,a2,a3⟩:=h.ob x hxV
  refine ⟨a1,?_,a3⟩
  rw [gE5 (Ne.symm (hne x hxV (fun e=>hpA (e ▸ hx2))))]
  exact a2
 have e1:(∃ x∈A++(p.1,p.2.1,p.2.2 ||| w) :: B,x.1=e'/\x.2.2.testBit i=true)↔(p.1=e'/\(p.2.2 ||| w).testBit i=true)\/∃ x∈A++B,x.1=e'/\x.2.2.testBit i=true:=by
  simp only [List.mem_append,List.mem_cons]
  constructor
  ·rintro ⟨x,h | h | h,h2⟩
   ·exact .inr ⟨x,.inl h,h2⟩
   ·subst h;exact .inl h2
   exact .inr ⟨x,.inr h,h2⟩
  rintro (h2 | ⟨x,h | h,h2⟩)
  ·exact ⟨_,.inr (.inl rfl),h2⟩
  ·exact ⟨x,.inl h,h2⟩
  exact ⟨x,.inr (.inr h),h2⟩
 have e2:(∃ x∈V,x.1=e'/\x.2.2.testBit i=true)↔(p.1=e'/\p.2.2.testBit i=true)\/∃ x∈A++B,x.1=e'/\x.2.2.testBit i=true:=by
  constructor
  rotate_left
  ·rintro (h2 | ⟨x,hx,h2⟩)
   ·exact ⟨p,hp,h2⟩
   exact ⟨x,(hmem x).2 (.inr hx),h2⟩
  rintro ⟨x,hx,h2⟩
  rcases (hmem x).1 hx with rfl | hx
  ·exact .inl h2
  exact .inr ⟨x,hx,h2⟩
 rw [e1,Sr,hw.2 i hi,<- h.ex e' i hi,e2]
 constructor
 ·rintro (⟨a,b | b⟩ | c)
  ·exact .inl (.inl ⟨a,b⟩)
  ·exact .inr ⟨a ▸ he,b⟩
  exact .inl (.inr c)
 rintro ((⟨a,b⟩ | c) | ⟨a,b⟩)
 ·exact .inl ⟨a,.inl b⟩
 ·exact .inr c
 exact .inl ⟨he.trans a.symm,.inr b⟩
set_option maxRecDepth 100000
attribute [local go_sem] lga C.pl C.one
def NP (f:Nat->Nat) (E:List Ed) (k:Nat):List Nat:=(List.range k).filter fun s=>decide (f s=s) && Xz E s == 0
theorem NQ (f:Nat->Nat) (E:List Ed) (k:Nat):NP f E (k+1)=NP f E k++if f k=k/\Xz E k=0 then [k] else []:=by
 unfold NP
 rw [List.range_succ,List.filter_append]
 by_cases h1:f k=k <;> by_cases h2:Xz E k=0 <;> simp [h1,h2]
theorem Q8 (f:Nat->Nat) (E:List Ed) (k:Nat):(NP f E k).length<=k:=by
 have:=List.length_filter_le (fun s=>decide (f s=s) && Xz E s == 0) (List.range k)
 rwa [List.length_range] at this
theorem Kh.start {E:List Ed} {n:Nat} {f:Nat->Nat}:Kh E n f 0 0 (NP f E n) (XA n E):=by
 refine ⟨Gr _ _,fun c hc=>?_,(List.nodup_range).filter _,fun c hc=>?_,fun c hc hf=>?_,fun j c hj e he h1=>?_⟩
 ·rw [Hq hc];simp [Sf]
 ·have:=List.mem_filter.1 hc
  simp only [List.mem_range,Bool.and_eq_true,decide_eq_true_eq] at this
  exact ⟨this.1,this.2.1⟩
 ·rw [Hq hc]
  unfold NP
  rw [List.mem_filter]
  simp only [List.mem_range,Bool.and_eq_true,decide_eq_true_eq,beq_iff_eq]
  constructor
  ·rintro ⟨_,_,h⟩;rw [h];rfl
  intro h;injection h with h;exact ⟨hc,hf,by omega⟩
 have hin:=gE9 hj
 have h2:=(List.mem_filter.1 hin).2
 simp only [Bool.and_eq_true,decide_eq_true_eq,beq_iff_eq] at h2
 have h3:Xz E c=0:=h2.2
 unfold Xz at h3
 rw [List.countP_eq_zero] at h3
 exact absurd (by simpa using h1) (h3 e he)
set_option maxHeartbeats 8000000 in
theorem Ub (R:List (List Ar)) (D:List Int) (f rk:Nat->Nat) (hlo:∀ r∈R,∀ a∈r,0<=a.2/\a.2<(R.length:Int)) (htot:Bw R<=1000000) (hDl:D.length=R.length) (hD:∀ v,v<R.length->D[v]?=some (f v:Int)/\f v<R.length) (hE:∀ e∈Xy f R R.length,(e.1<R.length/\f e.1=e.1)/\e.2<R.length/\f e.2=e.2/\rk e.2<rk e.1) (hn:R.length<=1000000) (hr:∀ r∈R,r.length<=1000000):FC Tryz.prog 75 [B7 R,As D] [] (fun r o=>∃ Q,Hr (Xy f R R.length) R.length f Q/\r=.a (.c (.s 0 Q.length))/\o=[AA (Q.map Int.ofNat)]):=by
 refine A6 Tryz.func75 rfl (by rw [Tryz.ntmps75];simp) ?_
 rw [Tryz.ntmps75]
 simp only [Bf,B7,As]
 (refine Wu @A3 ?_;(repeat clear hK K);repeat refine kq fun K hK=>?_)
 have e0:List.replicate R.length (C.v (.int .i64 0))=A7 (XA R.length (Xy f R 0)):=by
  have:XA R.length (Xy f R 0)=List.replicate R.length 0:=List.ext_getElem (by simp [XA]) fun i h1 h2=>by simp [XA,Xy,Xz]
  rw [this];simp [A7]
 have e1:List.replicate R.length (C.o (1,3) [])=Bd (En R.length (Xy f R 0)):=by
  have:En R.length (Xy f R 0)=List.replicate R.length []:=List.ext_getElem (by simp [En]) fun i h1 h2=>by simp [En,Xy,XC]
  rw [this];simp [Bd,Ab]
 rw [e0,e1]
 refine A8 (fun k:Nat=>{ tm:=[(1,.a (.c (.t 1 (Ab D)))),(2,.a (.c (.p 0 0))),(5,.a (.c (.s 1 R.length))),(6,.a (.c (.s 2 R.length))),(28,.a (.c (.t 1 (Ah R)))),(29,.i R.length),(30,.i k)],hp:=[.r ⟨25,1,false,[.t 1 (Ah R)]⟩,.r ⟨3,1,true,A7 (XA R.length (Xy f R k))⟩,.r ⟨22,1,true,Bd (En R.length (Xy f R k))⟩],n:=133,pin:=0 }) (fun k=>k<=R.length) (fun k=>R.length - k) 0 ?_ ?_ ?_
 ·omega
 ·exact WE
 rintro k hk K hK
 by_cases hlt:k<R.length
 ·have d1:decide ((k:Int)<(R.length:Int))=true:=by simpa using hlt
  have hgR:=gE1 hlt
  have hgd:R.getD k []=R[k]:=by rw [gE2,hgR];rfl
  have hrl:=hr _ (gE6 hlt)
  have hbs:=hlo _ (gE6 hlt)
  have hel:=ND f R k hk
  have hto:=Cj hlt
  have hto2:=Hi R (k+1)
  have hsu:Xy f R (k+1)=Xy f R k++Xx f k R[k]:=by rw [KM,hgd]
  obtain ⟨gDk0,hfk⟩:=hD k hlt
  have gDk:=Am gDk0
  generalize R[k]=row at *
  generalize Xy f R k=E0 at *
  (refine Wu @d1 ?_;(repeat clear hK K);repeat refine kq fun K hK=>?_)
  refine WB ?_
  (refine Wu (an @A3 (an (Ag hgR) (an @A2 @Ak))) ?_;(repeat clear hK K);repeat refine kq fun K hK=>?_)
  refine A8 (fun j:Nat=>{ tm:=[(1,.a (.c (.t 1 (Ab D)))),(2,.a (.c (.p 0 0))),(5,.a (.c (.s 1 R.length))),(6,.a (.c (.s 2 R.length))),(7,.i k),(28,.a (.c (.t 1 (Ah R)))),(29,.i R.length),(30,.i k),(35,.a (.c (.t 2 (Ao row)))),(36,.i row.length),(37,.i j)],hp:=[.r ⟨25,1,false,[.t 1 (Ah R)]⟩,.r ⟨3,1,true,A7 (XA R.length (E0++Xx f k (row.take j)))⟩,.r ⟨22,1,true,Bd (En R.length (E0++Xx f k (row.take j)))⟩],n:=133,pin:=0 }) (fun j=>j<=row.length) (fun j=>row.length - j) 0 ?_ ?_ ?_
  ·omega
  ·simp only [List.take_zero,Xx,List.filterMap_nil,List.append_nil]
   exact WE
  rintro j hj K hK
  by_cases hlt2:j<row.length
  rotate_left
  ·have d2:decide ((j:Int)<(row.length:Int))=false:=by simpa using hlt2
   have hje:row.take j=row:=gE7 (by omega)
   rw [hje,<- hsu]
   (refine Wu @d2 ?_;(repeat clear hK K);repeat refine kq fun K hK=>?_)
   refine WC ?_
   (refine Wx ?_;repeat clear hK K)
   (refine Wt ?_;(repeat clear hK K);repeat refine kq fun K hK=>?_)
   refine WD ?_
   refine hK _ (k+1) (by omega) (by omega) ?_
   exact WE
  have d2:decide ((j:Int)<(row.length:Int))=true:=by simpa using hlt2
  have hat:=AL hlt2
  have hb:=hbs _ (gE6 hlt2)
  have hsn:=PZ f k (row.take j) row[j]
  rw [<- gE8 hlt2] at hsn
  have hrl2:=List.length_filterMap_le (Xw f k) (row.take j)
  have hrl3:(Xx f k (row.take j)).length<=j:=by have:=List.length_take_le j row;unfold Xx;omega
  generalize row[j]=a at *
  obtain ⟨e,t⟩:=a
  simp only at hat hb
  obtain ⟨tn,rfl⟩:∃ tn:Nat,t=(tn:Int):=⟨t.toNat,by omega⟩
  have htn:tn<R.length:=by omega
  obtain ⟨gDt0,hft⟩:=hD tn htn
  have gDt:=Am gDt0
  have hEl:(E0++Xx f k (row.take j)).length<=1000000:=by rw [List.length_append];omega
  have hdef:Xw f k (e,(tn:Int))=if e=0/\f k ≠ f tn then some (f k,f tn) else none:=rfl
  have hnx:E0++Xx f k (row.take (j+1))=(E0++Xx f k (row.take j))++(Xw f k (e,(tn:Int))).toList:=by rw [hsn,List.append_assoc]
  generalize E0++Xx f k (row.take j)=E at *
  have hcl:=Re E (f k)
  have hbl:=NF E (f tn)
  have hwl:=Gr R.length E
  have hbfl:=FL R.length E
  (refine Wu @d2 ?_;(repeat clear hK K);repeat refine kq fun K hK=>?_)
  refine WB ?_
  (refine Cn (an @hat (an @A2 @Ak)) ?_;(repeat clear hK K);repeat refine kq fun K hK=>?_)
  (refine Ac 10 [(0,0),(1,0),(2,0),(3,1),(4,0),(5,0),(6,1),(7,0),(8,1),(9,0),(10,2)] (by kernel_rfl) (by kernel_rfl) (by intro c st h;simp [Ae,AF,VT] at h) ?_)
  (refine Wq (an @A4 (an @hDl (an @gDk @gDt))) ?_;repeat clear hK K)
  by_cases hq:e=0/\f k ≠ f tn
  rotate_left
  ·rw [if_neg hq] at hdef
   rw [hdef] at hnx
   have hnx:E0++Xx f k (row.take (j+1))=E:=by rw [hnx];simp
   by_cases he:e=0
   rotate_left
   ·have d3:(e == 0)=false:=by simpa using he
    (refine Wu @d3 ?_;(repeat clear hK K);repeat refine kq fun K hK=>?_)
    refine WC ?_
    (refine Wt ?_;(repeat clear hK K);repeat refine kq fun K hK=>?_)
    refine WD ?_
    refine hK _ (j+1) (by omega) (by omega) ?_
    refine Le.trans (A9 [0,1,2] rfl rfl) ?_
    (try simp only [List.set_nil,List.take_nil,List.take_zero,List.map_append,go_sem])
    (try simp only [Af,D9])
    rw [hnx]
    exact WE
   have d3:(e == 0)=true:=by simpa using he
   have hff:f k=f tn:=Decidable.not_not.1 fun h=>hq ⟨he,h⟩
   have d4:((f k:Int) != (f tn:Int))=false:=by simp [hff]
   (refine Wu (an @d3 @d4) ?_;(repeat clear hK K);repeat refine kq fun K hK=>?_)
   refine WC ?_
   (refine Wt ?_;(repeat clear hK K);repeat refine kq fun K hK=>?_)
   refine WD ?_
   refine hK _ (j+1) (by omega) (by omega) ?_
   refine Le.trans (A9 [0,1,2] rfl rfl) ?_
   (try simp only [List.set_nil,List.take_nil,List.take_zero,List.map_append,go_sem])
   (try simp only [Af,D9])
   rw [hnx]
   exact WE
  obtain ⟨he,hff⟩:=hq
  have d3:(e == 0)=true:=by simpa using he
  have d4:((f k:Int) != (f tn:Int))=true:=by simp;omega
  rw [if_pos ⟨he,hff⟩] at hdef
  rw [hdef] at hnx
  have hnx:E0++Xx f k (row.take (j+1))=E++[(f k,f tn)]:=hnx
  have gW:(A7 (XA R.length E))[f k]?=some (.v (.int .i64 (Xz E (f k):Nat))):=Aq (Hq hfk)
  have gB:=DS (KN (E:=E) hft)
  have hws:=Q1 (E:=E) (t:=f tn) hfk
  have hbs2:=NE (E:=E) (c:=f k) hft
  have hml:((XC E (f tn)).map Int.ofNat).length<=1000000:=by rw [List.length_map];omega
  generalize (XC E (f tn)).map Int.ofNat=oc at *
  (refine Wu (an @d3 @d4) ?_;(repeat clear hK K);repeat refine kq fun K hK=>?_)
  refine WB ?_
  (refine Cn (an @A5 (an @hwl (an @gW (an @AK (an @hws (an @BB (an @gB (an @hbfl (an @CV (an @List.length_set.{0} (an @List.set_cons_zero.{0} (an @List.set_cons_succ.{0} (an @List.take_succ_cons.{0} (an @List.take_zero.{0} (an @List.drop_zero.{0} (an @List.length_take.{0} (an @List.length_drop.{0} (an @List.length_append.{0} (an @A4 (an @Az (an @AN (an @Bm (an @A5 (an @AU (an @AE (an @B1 (an @AG @AM))))))))))))))))))))))))))) ?_;(repeat clear hK K);repeat refine kq fun K hK=>?_)
  have hj6:((Bd (En R.length E)).set (f tn) (C.s 5 (oc.length+1)))[f tn]?=some (.s 5 (oc.length+1)):=by rw [gEc (by rw [BB];omega)]
  have hset6:((Bd (En R.length E)).set (f tn) (C.s 5 (oc.length+1))).set (f tn) (.o (1,3) (Ab (oc++[(f k:Int)])))=Bd (En R.length (E++[(f k,f tn)])):=by rw [CV,F3,hbs2]
  refine WD ?_
  refine hK _ (j+1) (by omega) (by omega) ?_
  refine Le.trans (AR (r:=⟨3,1,true,A7 (oc++[(f k:Int)])⟩) (ri:=⟨22,1,true,(Bd (En R.length E)).set (f tn) (C.s 5 (oc.length+1))⟩) (ts:=Ab (oc++[(f k:Int)])) 2 (f tn) 5 (oc.length+1) (by decide) rfl hj6 rfl rfl (show 0<1 by omega) (by rw [A5];simp) (EM _)) ?_
  simp only [hset6,go_sem]
  refine Le.trans (A9 [0,1,2] rfl rfl) ?_
  (try simp only [List.set_nil,List.take_nil,List.take_zero,List.map_append,go_sem])
  (try simp only [Af,D9])
  rw [hnx]
  exact WE
 have d1:decide ((k:Int)<(R.length:Int))=false:=by simpa using hlt
 have hke:k=R.length:=by omega
 have hel:=ND f R R.length (Nat.le_refl _)
 rw [List.take_length] at hel
 rw [hke] at d1
 rw [hke]
 obtain ⟨E,hEe⟩:∃ E,E=Xy f R R.length:=⟨_,rfl⟩
 rw [<- hEe] at hel hE ⊢
 have hwl:=Gr R.length E
 have hbfl:=FL R.length E
 (refine Wu @d1 ?_;(repeat clear hK K);repeat refine kq fun K hK=>?_)
 refine WC ?_
 (refine Wx ?_;repeat clear hK K)
 refine Au (Cm 2 rfl) ?_
 simp only [F8,go_sem]
 have htk:(Co (En R.length E)).take R.length=Co (En R.length E):=gE7 (by rw [BL];omega)
 have hif:(if R.length<=(Co (En R.length E)).length then C.t 1 (Co (En R.length E)) else C.u)=C.t 1 (Co (En R.length E)):=if_pos (by rw [BL];omega)
 (refine Au (Bg (r:=⟨22,1,true,CE (En R.length E)⟩) 2 (Co (En R.length E)) rfl (PQ _) (show 0<(1:Nat) by omega)) ?_;simp only [ST.frz,A0.frz,AV.frz,C.frz,Nat.le_refl,List.set_cons_zero,List.set_cons_succ,go_sem,htk,hif])
 (refine Wu (an @A4 @hDl) ?_;(repeat clear hK K);repeat refine kq fun K hK=>?_)
 refine Au (CT 13 3 1 ?_) ?_
 ·simp only [go_sem]
 refine Au (A9 [1,3] rfl rfl) ?_
 (try simp only [List.set_nil,List.take_nil,List.take_zero,List.map_append,go_sem])
 (try simp only [Af])
 refine A8 (fun k:Nat=>{ tm:=[(5,.a (.c (.s 0 R.length))),(6,.a (.c (.t 1 (Co (En R.length E))))),(13,.a (.c (.s 1 (NP f E k).length))),(76,.a (.c (.t 1 (Ab D)))),(77,.i R.length),(78,.i k)],hp:=[.r ⟨3,1,true,A7 (XA R.length E)⟩,.r ⟨3,1,true,A7 ((NP f E k).map Int.ofNat)⟩],n:=133,pin:=0 }) (fun k=>k<=R.length) (fun k=>R.length - k) 0 ?_ ?_ ?_
 ·omega
 ·simp only [NP,List.range_zero,List.filter_nil,List.map_nil,List.length_nil,A7]
  exact WE
 clear hk hlt d1 hke
 rintro k hk K hK
 have hql:=Q8 f E k
 have hsu:=NQ f E k
 by_cases hlt:k<R.length
 ·have d2:decide ((k:Int)<(R.length:Int))=true:=by simpa using hlt
  obtain ⟨gD0,hfk⟩:=hD k hlt
  have gD:=Am gD0
  have gW:(A7 (XA R.length E))[f k]?=some (.v (.int .i64 (Xz E (f k):Nat))):=Aq (Hq hfk)
  by_cases h1:f k=k
  rotate_left
  ·have d3:((k:Int) == (f k:Int))=false:=by simp;omega
   rw [if_neg (fun h=>h1 h.1),List.append_nil] at hsu
   (refine Wu @d2 ?_;(repeat clear hK K);repeat refine kq fun K hK=>?_)
   refine WB ?_
   (refine Wu (an @A4 (an @hDl (an @gD @d3))) ?_;(repeat clear hK K);repeat refine kq fun K hK=>?_)
   refine WC ?_
   (refine Wt ?_;(repeat clear hK K);repeat refine kq fun K hK=>?_)
   refine WD ?_
   refine hK _ (k+1) (by omega) (by omega) ?_
   rw [hsu]
   exact WE
  have d3:((k:Int) == (f k:Int))=true:=by simp [h1]
  by_cases h2:Xz E (f k)=0
  rotate_left
  ·have d4:(((Xz E (f k):Nat):Int) == 0)=false:=by simp;omega
   rw [if_neg (fun h=>h2 (by rw [h.1];exact h.2)),List.append_nil] at hsu
   (refine Wu @d2 ?_;(repeat clear hK K);repeat refine kq fun K hK=>?_)
   refine WB ?_
   (refine Wu (an @A4 (an @hDl (an @gD (an @d3 (an @A5 (an @hwl (an @gW @d4))))))) ?_;(repeat clear hK K);repeat refine kq fun K hK=>?_)
   refine WC ?_
   (refine Wt ?_;(repeat clear hK K);repeat refine kq fun K hK=>?_)
   refine WD ?_
   refine hK _ (k+1) (by omega) (by omega) ?_
   rw [hsu]
   exact WE
  have d4:(((Xz E (f k):Nat):Int) == 0)=true:=by simp [h2]
  rw [if_pos ⟨h1,by rw [<- h1];exact h2⟩] at hsu
  generalize NP f E k=Q at *
  (refine Wu @d2 ?_;(repeat clear hK K);repeat refine kq fun K hK=>?_)
  refine WB ?_
  (refine Wu (an @A4 (an @hDl (an @gD (an @d3 (an @A5 (an @hwl (an @gW @d4))))))) ?_;(repeat clear hK K);repeat refine kq fun K hK=>?_)
  refine WB ?_
  (refine Wu (an @List.length_map.{0,0} (an @List.set_cons_zero.{0} (an @List.set_cons_succ.{0} (an @List.take_succ_cons.{0} (an @List.take_zero.{0} (an @List.drop_zero.{0} (an @List.length_take.{0} (an @List.length_drop.{0} (an @List.length_append.{0} (an @A4 (an @Az (an @AN (an @Bm (an @A5 (an @AU (an @AE (an @B1 (an @AG @AM)))))))))))))))))) ?_;(repeat clear hK K);repeat refine kq fun K hK=>?_)
  refine WD ?_
  refine hK _ (k+1) (by omega) (by omega) ?_
  refine Le.trans (A9 [0,3] rfl rfl) ?_
  (try simp only [List.set_nil,List.take_nil,List.take_zero,List.map_append,go_sem])
  (try simp only [Af])
  have htk2:(Q.map Int.ofNat).take Q.length=Q.map Int.ofNat:=gE7 (by simp)
  rw [hsu]
  simp only [htk2,List.map_append,List.map_cons,List.map_nil,List.length_append,List.length_singleton,h1]
  exact WE
 have d2:decide ((k:Int)<(R.length:Int))=false:=by simpa using hlt
 have hke:k=R.length:=by omega
 rw [hke] at d2
 rw [hke]
 (refine Wu @d2 ?_;(repeat clear hK K);repeat refine kq fun K hK=>?_)
 refine WC ?_
 (refine Wx ?_;repeat clear hK K)
 (refine Wt ?_;(repeat clear hK K);repeat refine kq fun K hK=>?_)
 refine A8 (fun x:Nat × List Nat × List Int=>{ tm:=[(5,.a (.c (.s 0 R.length))),(6,.a (.c (.t 1 (Co (En R.length E))))),(13,.a (.c (.s 1 x.2.1.length))),(16,.i x.1)],hp:=[.r ⟨3,1,true,A7 x.2.2⟩,.r ⟨3,1,true,A7 (x.2.1.map Int.ofNat)⟩],n:=133,pin:=0 }) (fun x=>x.1<=x.2.1.length/\Kh E R.length f x.1 0 x.2.1 x.2.2) (fun x=>R.length - x.1) (0,NP f E R.length,XA R.length E) ?_ ?_ ?_
 ·exact ⟨by simp,Kh.start⟩
 ·exact WE
 clear hk hlt d2 hke hql hsu
 rintro ⟨i,Q,W⟩ ⟨hi,hK1⟩ K hK
 simp only at hi hK1
 have hQl:=hK1.qlen
 have hWl:=hK1.len
 by_cases hli:i<Q.length
 rotate_left
 ·have d3:decide ((i:Int)<(Q.length:Int))=false:=by simpa using hli
  have hie:i=Q.length:=by omega
  rw [hie] at hK1
  (refine Wu @d3 ?_;(repeat clear hK K);repeat refine kq fun K hK=>?_)
  refine WC ?_
  (refine Wx ?_;repeat clear hK K)
  (refine Wt ?_;(repeat clear hK K);repeat refine kq fun K hK=>?_)
  ((try refine Av ?_);(try simp only [Ae,AF]);refine B6 (A9 [1] rfl rfl) ?_;(try simp only [List.set_nil,List.take_nil,List.take_zero,List.map_append,go_sem]);((try refine Av ?_);(try refine Aa ?_);(try simp only [Ae,AF]);refine Bj (by first | exact .inl rfl | exact .inr rfl) rfl ?_;simp only [VU,Dy,Du,DL,Tryz.results75,go_sem,true_and,and_true,Af,AA]))
  exact ⟨Q,by rw [<- hEe];exact hK1.done rk (fun e he=>(hE e he).2),rfl,rfl⟩
 have d3:decide ((i:Int)<(Q.length:Int))=true:=by simpa using hli
 have hqg:Q.getD i 0=Q[i]:=by rw [gE2,gE1 hli];rfl
 have hqn:=(hK1.rep _ (gE6 hli)).1
 have gq:(A7 (Q.map Int.ofNat))[i]?=some (.v (.int .i64 ((Q[i]:Nat):Int))):=Aq (by rw [List.getElem?_map,gE1 hli];rfl)
 have hqi:=gE1 hli
 generalize Q[i]=q at *
 have gB:=DA (KN (E:=E) hqn)
 have hbl:=NF E q
 (refine Wu @d3 ?_;(repeat clear hK K);repeat refine kq fun K hK=>?_)
 refine WB ?_
 (refine Wu (an @A5 (an @List.length_map.{0,0} (an @gq (an @BL (an @hbfl (an @gB @A4)))))) ?_;(repeat clear hK K);repeat refine kq fun K hK=>?_)
 refine A8 (fun x:Nat × List Nat × List Int=>{ tm:=[(5,.a (.c (.s 0 R.length))),(6,.a (.c (.t 1 (Co (En R.length E))))),(13,.a (.c (.s 1 x.2.1.length))),(16,.i i),(110,.a (.c (.t 1 (Ab ((XC E q).map Int.ofNat))))),(111,.i (XC E q).length),(112,.i x.1)],hp:=[.r ⟨3,1,true,A7 x.2.2⟩,.r ⟨3,1,true,A7 (x.2.1.map Int.ofNat)⟩],n:=133,pin:=0 }) (fun x=>x.1<=(XC E q).length/\i<x.2.1.length/\x.2.1.getD i 0=q/\Kh E R.length f i x.1 x.2.1 x.2.2) (fun x=>(XC E q).length - x.1) (0,Q,W) ?_ ?_ ?_
 ·exact ⟨by simp,hli,hqg,hK1⟩
 ·exact WE
 clear hK1 hQl hWl hi hli d3 gq hqi hqg
 rintro ⟨m,Q,W⟩ ⟨hm,hli,hqg,hK1⟩ K hK
 simp only at hm hli hqg hK1
 have hQl:=hK1.qlen
 have hWl:=hK1.len
 by_cases hlm:m<(XC E q).length
 rotate_left
 ·have d4:decide ((m:Int)<((XC E q).length:Int))=false:=by simpa using hlm
  have hnx:=hK1.next hli (by rw [hqg];omega)
  (refine Wu @d4 ?_;(repeat clear hK K);repeat refine kq fun K hK=>?_)
  refine WC ?_
  (refine Wx ?_;repeat clear hK K)
  (refine Wt ?_;(repeat clear hK K);repeat refine kq fun K hK=>?_)
  refine WD ?_
  refine hK _ (i+1,Q,W) ⟨by simp only;omega,hnx⟩ (by simp only;omega) ?_
  exact WE
 have d4:decide ((m:Int)<((XC E q).length:Int))=true:=by simpa using hlm
 have hcm:(XC E (Q.getD i 0))[m]?=some (XC E q)[m]:=by rw [hqg];exact gE1 hlm
 obtain ⟨hc1,hc2,w,hw,hw1,hw2,hst1,hst2⟩:=hK1.step hli (fun e he=>(hE e he).1) hcm
 have gp:(Ab ((XC E q).map Int.ofNat))[m]?=some (.v (.int .i64 (((XC E q)[m]:Nat):Int))):=Am (by rw [List.getElem?_map,gE1 hlm];rfl)
 have hcle:=Re E (XC E q)[m]
 generalize (XC E q)[m]=c at *
 have gW:=Aq hw
 have gW2:(A7 (W.set c (w - 1)))[c]?=some (.v (.int .i64 (w - 1))):=Aq (gEc (by omega))
 have hb1:w - 1<=1000000:=by omega
 have hb0:0<=w - 1:=by omega
 by_cases he:w=1
 rotate_left
 ·have d5:((w - 1) == 0)=false:=by simp;omega
  have hnx:=hst1 he
  (refine Wu @d4 ?_;(repeat clear hK K);repeat refine kq fun K hK=>?_)
  refine WB ?_
  (refine Cn (an @gp (an @A4 (an @List.length_map.{0,0} (an @A5 (an @hWl (an @gW (an @AK (an @List.length_set.{0} (an @gW2 @d5))))))))) ?_;(repeat clear hK K);repeat refine kq fun K hK=>?_)
  refine WC ?_
  (refine Wt ?_;(repeat clear hK K);repeat refine kq fun K hK=>?_)
  refine WD ?_
  refine hK _ (m+1,Q,W.set c (w - 1)) ⟨by simp only;omega,hli,hqg,hnx⟩ (by simp only;omega) ?_
  exact WE
 have d5:((w - 1) == 0)=true:=by simp [he]
 have hnx:=hst2 he
 (refine Wu @d4 ?_;(repeat clear hK K);repeat refine kq fun K hK=>?_)
 refine WB ?_
 (refine Cn (an @gp (an @A4 (an @List.length_map.{0,0} (an @A5 (an @hWl (an @gW (an @AK (an @List.length_set.{0} (an @gW2 @d5))))))))) ?_;(repeat clear hK K);repeat refine kq fun K hK=>?_)
 refine WB ?_
 (refine Wu (an @List.length_map.{0,0} (an @List.set_cons_zero.{0} (an @List.set_cons_succ.{0} (an @List.take_succ_cons.{0} (an @List.take_zero.{0} (an @List.drop_zero.{0} (an @List.length_take.{0} (an @List.length_drop.{0} (an @List.length_append.{0} (an @A4 (an @Az (an @AN (an @Bm (an @A5 (an @AU (an @AE (an @B1 (an @AG @AM)))))))))))))))))) ?_;(repeat clear hK K);repeat refine kq fun K hK=>?_)
 refine WD ?_
 refine hK _ (m+1,Q++[c],W.set c (w - 1)) ⟨by simp only;omega,by simp only [List.length_append,List.length_singleton];omega,?_,hnx⟩ (by simp only;omega) ?_
 ·simp only
  rw [gE2,gEa hli,<- gE2]
  exact hqg
 refine Le.trans (A9 [0,3] rfl rfl) ?_
 (try simp only [List.set_nil,List.take_nil,List.take_zero,List.map_append,go_sem])
 (try simp only [Af])
 have htk2:(Q.map Int.ofNat).take Q.length=Q.map Int.ofNat:=gE7 (by simp)
 simp only [htk2,List.map_append,List.map_cons,List.map_nil,List.length_append,List.length_singleton]
 exact WE
def Gh.inB (g:Gh) (r0:Row):Gh:=⟨g.γ,g.κ,Ow [.r { r0 with cells:=r0.cells.map VX }] g⟩
theorem NR {g:Gh} {r0:Row} (i j:Nat):¬ Lv [.r { r0 with cells:=r0.cells.map VX }] g (.cl i j):=by
 rintro ⟨r2,k,cs,e1,e2,_⟩
 cases i with
 | succ i=>simp at e1
 | zero=>
  simp at e1
  subst e1
  simp only [List.getElem?_map,Option.map_eq_some_iff] at e2
  obtain ⟨c,_,hc⟩:=e2
  exact JP hc
theorem Hv {g:Gh} {r0:Row} (ℓ:Loc) (hl:Lv [.r { r0 with cells:=r0.cells.map VX }] g ℓ):Lv [.r r0] g ℓ:=by
 cases ℓ with
 | cl i j=>exact absurd hl (NR i j)
 | ob q=>
  cases q with
  | succ q=>rcases hl with ⟨r2,e1,_⟩ | ⟨kv,e1⟩ <;> simp at e1
  | zero=>
   rcases hl with ⟨r2,e1,e2⟩ | ⟨kv,e1⟩
   ·exact .inl ⟨r0,rfl,e2⟩
   simp at e1
theorem Ri {g:Gh} {r0:Row} {w:World} (hr:HR g [.r r0] w) {j n:Nat} {k:Nat × Nat} {cs:List Tr} {y:Value} (hj:r0.cells[j]?=some (.o k cs)) (hy:CR g [.r r0] w (.b 0 j n) y):CR (g.inB r0) [] w (.t k.1 cs) y:=by
 obtain ⟨_,h2⟩:=hy
 obtain ⟨h3,h4,_,_⟩:=h2 r0 k cs rfl hj
 rcases hr.row 0 r0 rfl with ⟨k1,k2⟩ | ⟨k1,k2,arr,k3,k4,k5,k6,k7⟩
 ·rw [k2] at hj;simp at hj
 obtain ⟨u,u1,u2⟩:=k7 j _ hj
 have huy:u=y:=by
  rw [cell_of_row w _ j arr _ (0,0) k3,u1] at h4
  exact Option.some.inj h4
 subst huy
 have h:=DK (st:={ tm:=[],hp:=[.r r0],n:=0,pin:=0 }) (t:=.l k.1 cs) (hp':=[.r { r0 with cells:=r0.cells.map VX }]) (fun b _ ho=>ho.imp (fun h=>h) (fun ⟨ℓ,hl,e⟩=>⟨ℓ,Hv ℓ hl,e⟩)) hr rfl (NR 0) Hv hj (.inl rfl) u2
 refine h.mono fun b hb ho=>?_
 rcases ho with ho | ⟨ℓ,hl,_⟩
 ·exact ho
 cases ℓ with
 | ob id=>rcases hl with ⟨r,h,_⟩ | ⟨kv,h⟩ <;> simp at h
 | cl id j=>obtain ⟨r,k,cs,h,_⟩:=hl;simp at h
theorem FC.inB {P:Program} {f:FuncId} {A A':List AV} {r0:Row} {e:TypeId} {Q:List Int->Prop} (hFC:FC P f A [] (fun r o=>∃ L,Q L/\r=.a (.c (.s 0 L.length))/\o=[.r ⟨e,1,true,A7 L⟩]))
  (hA:∀ (g:Gh) (w:World) (vals:List Value),HR g [.r r0] w->GA g [.r r0] w A' vals->GA (g.inB r0) [] w A vals):
  FC P f A' [.r r0] (fun r o=>∃ L,Q L/\r=.a (.c (.s 1 L.length))/\o=[.r r0,.r ⟨e,1,true,A7 L⟩]):=by
 intro g w vals hr hargs
 have noL:∀ (g:Gh) (ℓ:Loc),¬ Lv [] g ℓ:=by
  intro g ℓ hl
  cases ℓ with
  | ob id=>rcases hl with ⟨r,h,_⟩ | ⟨kv,h⟩ <;> simp at h
  | cl id j=>obtain ⟨r,k,cs,h,_⟩:=hl;simp at h
 have how:∀ b,Ow [] (g.inB r0) b->Ow [.r r0] g b:=fun b ho=>by
  rcases ho with (ho | ⟨ℓ,hl,e⟩) | ⟨ℓ,hl,_⟩
  ·exact .inl ho
  ·exact .inr ⟨ℓ,Hv ℓ hl,e⟩
  exact absurd hl (noL _ ℓ)
 have hHR:HR (g.inB r0) [] w:=by
  refine ⟨fun b hb=>?_,fun ℓ hl=>absurd hl (noL _ ℓ),fun ℓ _ hl=>absurd hl (noL _ ℓ),fun id r h=>by simp at h,fun id r h=>by simp at h,hr.gl.keep (Nat.le_refl _) (fun _ _ _=>rfl) (fun k _ h=>how k h)⟩
  rcases hb with hb | ⟨ℓ,hl,e⟩
  ·exact hr.ml b hb
  rw [<- e];exact hr.lt (Hv ℓ hl)
 refine (hFC (g.inB r0) w vals hHR (hA g w vals hr hargs)).mono ?_
 rintro en w' ⟨v,r,outs,g',rfl,⟨L,hQ,rfl,rfl⟩,h1,h2,h3,h4,h5⟩
 have hnew:∀ ℓ,Lv [.r ⟨e,1,true,A7 L⟩] g' ℓ->w.heap.size<=g'.γ ℓ:=fun ℓ hl=>(h3 ℓ hl).elim (fun ⟨ℓ2,hl2,_⟩=>absurd hl2 (noL _ ℓ2)) (fun h=>h)
 have hfx:∀ b,b<w.heap.size->w'.heap[b]?=w.heap[b]?:=fun b hb=>h5.block b hb (fun ⟨ℓ,hl,_⟩=>noL _ ℓ hl)
 let g2:Gh:=⟨fun ℓ=>match ℓ with
  | .ob 0=>g.γ (.ob 0)
  | .ob (i+1)=>g'.γ (.ob i)
  | .cl 0 j=>g.γ (.cl 0 j)
  | .cl (i+1) j=>g'.γ (.cl i j),fun i=>match i with
  | 0=>g.κ 0
  | i+1=>g'.κ i,g.M⟩
 have split:∀ ℓ,Lv [.r r0,.r ⟨e,1,true,A7 L⟩] g2 ℓ->(Lv [.r r0] g ℓ/\g2.γ ℓ=g.γ ℓ)\/∃ ℓ',Lv [.r ⟨e,1,true,A7 L⟩] g' ℓ'/\g2.γ ℓ=g'.γ ℓ'/\ℓ=(match ℓ' with | .ob i=>.ob (i+1) | .cl i j=>.cl (i+1) j):=by
  intro ℓ hl
  cases ℓ with
  | ob q=>
   cases q with
   | zero=>
    rcases hl with ⟨r2,e1,e2⟩ | ⟨kv,e1⟩
    ·exact .inl ⟨.inl ⟨r2,e1,e2⟩,rfl⟩
    simp at e1
   | succ q=>
    rcases hl with ⟨r2,e1,e2⟩ | ⟨kv,e1⟩
    ·exact .inr ⟨.ob q,.inl ⟨r2,e1,e2⟩,rfl,rfl⟩
    exact .inr ⟨.ob q,.inr ⟨kv,e1⟩,rfl,rfl⟩
  | cl q j=>
   obtain ⟨r2,k,cs,e1,e2,e3⟩:=hl
   cases q with
   | zero=>exact .inl ⟨⟨r2,k,cs,e1,e2,e3⟩,rfl⟩
   | succ q=>exact .inr ⟨.cl q j,⟨r2,k,cs,e1,e2,e3⟩,rfl,rfl⟩
 have how2:∀ b,b<w.heap.size->Ow [.r r0,.r ⟨e,1,true,A7 L⟩] g2 b->Ow [.r r0] g b:=by
  rintro b hb (ho | ⟨ℓ,hl,e⟩)
  ·exact .inl ho
  rcases split ℓ hl with ⟨h6,h7⟩ | ⟨ℓ',h6,h7,_⟩
  ·exact .inr ⟨ℓ,h6,by rw [<- e,h7]⟩
  have:=hnew ℓ' h6
  rw [<- e,h7] at hb;omega
 have hmo:Mo g [.r r0] w g2 [.r r0,.r ⟨e,1,true,A7 L⟩] w' (fun _=>True):=by
  refine ⟨fun q hq=>?_,how2,h5.size,fun b hb _=>hfx b hb,fun q _ hq r2 j k cs e1 e2=>?_⟩
  ·obtain ⟨o,q1,q2⟩:=hq
   cases q with
   | zero=>exact ⟨⟨o,q1,q2⟩,rfl,rfl⟩
   | succ q=>simp at q1
  obtain ⟨o,q1,q2⟩:=hq
  cases q with
  | zero=>
   simp at e1
   subst e1
   exact ⟨_,rfl,e2,fun hlt=>World.cell?_of_block (hfx _ hlt)⟩
  | succ q=>simp at q1
 refine ⟨v,.a (.c (.s 1 L.length)),[.r r0,.r ⟨e,1,true,A7 L⟩],g2,rfl,⟨L,hQ,rfl,rfl⟩,?_,⟨by simp,rfl,fun i hi=>?_⟩,fun ℓ hl=>?_,?_,?_⟩
 rotate_left
 ·have:i=0:=by simp at hi;exact hi
  subst this
  exact ⟨rfl,rfl⟩
 ·rcases split ℓ hl with ⟨h6,h7⟩ | ⟨ℓ',h6,h7,_⟩
  ·exact .inl ⟨ℓ,h6,h7.symm⟩
  exact .inr (by rw [h7];exact hnew ℓ' h6)
 ·obtain ⟨b1,b2,A0,b3,b4,b5⟩:=h4
  exact ⟨⟨_,rfl,rfl⟩,b2,A0,b3,b4,b5⟩
 ·exact h5.mono fun k _ ⟨ℓ,hl,_⟩=>absurd hl (noL _ ℓ)
 refine ⟨fun b hb=>Nat.lt_of_lt_of_le (hr.ml b hb) h5.size,fun ℓ hl hM=>?_,fun ℓ ℓ' a1 a2 a3=>?_,fun q r2 e1=>?_,fun q kv e1=>?_,hmo.gl hr.gl⟩
 rotate_left 3
 ·cases q with
  | zero=>simp at e1
  | succ q=>
   cases q with
   | succ q=>simp at e1
   | zero=>simp at e1
 ·rcases split ℓ hl with ⟨h6,h7⟩ | ⟨ℓ',h6,h7,_⟩
  ·rw [h7] at hM;exact hr.md ℓ h6 hM
  have b1:=hr.ml _ hM
  have b2:=hnew ℓ' h6
  omega
 ·rcases split ℓ a1 with ⟨c1,c2⟩ | ⟨m,c1,c2,c3⟩ <;> rcases split ℓ' a2 with ⟨d1,d2⟩ | ⟨m',d1,d2,d3⟩
  ·exact hr.inj ℓ ℓ' c1 d1 (by rw [<- c2,<- d2];exact a3)
  ·have b1:=hr.lt c1
   have b2:=hnew m' d1
   omega
  ·have b1:=hr.lt d1
   have b2:=hnew m c1
   omega
  have:=h1.inj m m' c1 d1 (by rw [<- c2,<- d2];exact a3)
  rw [c3,d3,this]
 cases q with
 | zero=>
  simp at e1
  subst e1
  exact RowR.mo hmo rfl (hr.row 0 r0 rfl) (fun hk=>hfx _ (hr.lt (.inl ⟨r0,rfl,hk⟩))) (fun j k cs hc hne=>⟨rfl,hfx _ (hr.lt (ℓ:=.cl 0 j) ⟨r0,k,cs,rfl,hc,hne⟩)⟩)
 | succ q=>
  cases q with
  | succ q=>simp at e1
  | zero=>
   simp at e1
   subst e1
   rcases h1.row 0 _ rfl with h6 | ⟨k1,k2,arr,k3,k4,k5,k6,k7⟩
   ·exact .inl h6
   refine .inr ⟨k1,k2,arr,k3,k4,k5,k6,fun j c hj=>?_⟩
   obtain ⟨u,u1,u2⟩:=k7 j c hj
   simp only [A7,List.getElem?_map,Option.map_eq_some_iff] at hj
   obtain ⟨x,_,rfl⟩:=hj
   exact ⟨u,u1,u2⟩
theorem Jt {P:Program} {g:Gh} {hp:List Ob} {w:World} {t:TypeId} {ty:Ty} {id off:Nat} {r:Row} {k:Nat × Nat} {cs:List Tr} {p:Value} (hr:HR g hp w) (hty:tyOf P t=some ty) (hag:ty.agg=true) (hsz:ty.size=1) (hp1:CR g hp w (.p id off) p) (hrow:hp[id]?=some (.r r)) (hcell:r.cells[off]?=some (.o k cs)) (hk:0<k.1):
  ∃ v,(∀ W,Fp (fun _=>False) w W->(Instr.loadAt t p).run P W=.ok v W)/\AVR (CR g hp w) (.a (.g [.b id off (cs.length / k.1)])) v:=by
 obtain ⟨b1,b2⟩:=hp1
 rw [b2]
 rcases hr.row id r hrow with ⟨_,h2⟩ | ⟨_,_,arr,ha,hl,hs,hm,hcells⟩
 ·rw [h2] at hcell;simp at hcell
 obtain ⟨u,f1,f2⟩:=hcells _ _ hcell
 have hcu:w.cell? ⟨g.γ (.ob id),off,none⟩=some u:=by rw [cell_of_row _ _ _ _ _ _ ha];exact f1
 refine ⟨.agg #[u],fun W hW=>CI hty hag _ off [u] (by rw [hsz];rfl) (fun j v hj=>?_),[u],rfl,rfl,fun i c hi=>?_⟩
 ·cases j with
  | zero=>
   simp at hj
   subst hj
   exact (hW.cell (p:=⟨_,_,none⟩) (Array.getElem?_eq_some_iff.1 ha).1 (fun h=>h)).trans hcu
  | succ j=>simp at hj
 cases i with
 | succ i=>simp at hi
 | zero=>
  simp at hi
  subst hi
  refine ⟨u,rfl,b1,fun r' k' cs' e1 e2=>?_⟩
  rw [hrow] at e1;cases e1
  rw [hcell] at e2;cases e2
  refine ⟨(Array.getElem?_eq_some_iff.1 ha).1,hcu,?_⟩
  rcases f2 with ⟨h1,A,h2,_⟩ | ⟨_,n,cp,arr',h2,h3,_⟩
  ·rw [h1];simp;exact ⟨_,_,h2⟩
  rw [h3,Nat.mul_div_cancel _ hk];exact ⟨rfl,_,_,h2⟩
theorem Vv {P:Program} {ops:Array Oper} {o:Oper} {st:ST} {K:ST->Prop} {stop i:Nat} {past:Bool} {rest:List (Nat × Nat)} {t:TypeId} {y:Operand} {ty:Ty} {id off:Nat} {r:Row} {k:Nat × Nat} {cs:List Tr} (hi:ops[i]?=some o) (hg:o.guard=none) (hd:VJ o st.n=true) (ho:o.op=.load t y) (hty:tyOf P t=some ty) (hag:ty.agg=true) (hsz:ty.size=1) (hy:st.ev y=.a (.c (.p id off))) (hrow:st.hp[id]?=some (.r r)) (hcell:r.cells[off]?=some (.o k cs)) (hk:0<k.1)
  (h:CU P ops stop false past rest (st.put o.dst (.a (.g [.b id off (cs.length / k.1)]))) K):CU P ops stop false past ((i,1) :: rest) st K:=by
 intro M0 w0 a w w1 Q he hp hR hN
 obtain ⟨g,hpp,hR⟩:=hR
 have hyv:=hR.ev y
 rw [hy] at hyv
 obtain ⟨v,h1,h2⟩:=Jt hR.hr hty hag hsz hyv hrow hcell hk
 have hw:=he rfl
 subst hw
 refine ⟨o,v,hi,.inl ⟨by simp [Region.wanted,hg],fun W hW=>?_⟩,h M0 w0 _ w w Q he hp ⟨g,by cases o.dst <;> exact hpp,hR.put (B3 hd) h2⟩ hN⟩
 obtain ⟨dst,op,ty,pos,af,gd⟩:=o
 simp only at ho
 subst ho
 simp [execOp,h1 W hW]
theorem StpC.f {P:Program} {o:Oper} {st:ST} {K:ST->Prop} (h:StpC P o st K True):UB P o st K:=fun M0 w0 a w N Q hR hN=>h M0 w0 a w N Q hR fun st' a' w' h1 h2 h3=>hN st' a' w' h1 h2 (h3 trivial)
theorem Q9 {n:Nat} {r:List Ar} {k:Nat} (h:k<r.length):(XE n r).take (k+1)=(XE n r).take k++[(r[k].1,r[k].2+(n:Int))]:=by
 rw [gE8 (by rw [CO];exact h)]
 simp [XE]
theorem Qa {n:Nat} {R:List (List Ar)} {k:Nat} (h:k<R.length):(XF n R).take (k+1)=(XF n R).take k++[XE n R[k]]:=by
 rw [gE8 (by rw [Hs];exact h)]
 simp [XF]
end Go.Proofs.YtjijjfkalheokaaGreatDoor
