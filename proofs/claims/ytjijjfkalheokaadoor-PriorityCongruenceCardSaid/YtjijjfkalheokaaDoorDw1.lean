/- Lemmas. -/
import Derived.Test.YtjijjfkalheokaaDoorQu1
import Derived.Test.YtjijjfkalheokaaDoorG70
import Derived.Test.YtjijjfkalheokaaDoorG45
import Derived.Test.YtjijjfkalheokaaDoorG39
import Derived.Test.YtjijjfkalheokaaDoorG42
import Derived.Test.YtjijjfkalheokaaDoorZk
namespace Go.Proofs.YtjijjfkalheokaaDoor
set_option linter.unusedVariables false
set_option linter.unusedSimpArgs false
open Go.RowKit

def MtW {α:Type} (A:List (List Ar)) (kA:Nat->α) (B:List (List Ar)) (kB:Nat->α):Prop:=
 ∀ s t,s<A.length->t<B.length->kA s=kB t->(Dv A s->Dv B t)/\∀ a∈(BE A).getD s [],∃ b∈(BE B).getD t [],b.1=a.1/\kB b.2.toNat=kA a.2.toNat
theorem P7 {R:List (List Ar)} (hv:Bg R=true) (hn:R.length<=100) {s:Nat} (hs:s<R.length) {a:Ar} (h:a∈(BE R).getD s []):0<=a.2/\a.2.toNat<R.length:=by
 have hb:=GA hv hn
 have hm:(BE R).getD s []∈BE R:=by
  rw [gE2,gE1 (by omega),Option.getD_some]
  exact gE6 _
 have:=(hb.2 _ hm).2 a h
 omega
theorem MD {α:Type} {R:List (List Ar)} {k:Nat->α} (hv:Bg R=true) (hn:R.length<=100) (hk:MtW R k R k) {c:List Int} (ih:∀ s t,s<R.length->t<R.length->k s=k t->c.getD s 0=c.getD t 0) {s t:Nat} (hs:s<R.length) (ht:t<R.length) (h:k s=k t):OS c ((BE R).getD s []) ((BE R).getD t [])=true:=by
 unfold OS
 refine List.all_eq_true.2 fun a ha=>?_
 obtain ⟨b,hb,e1,e2⟩:=(hk s t hs ht h).2 a ha
 unfold S8
 refine List.any_eq_true.2 ⟨b,hb,?_⟩
 rw [e1,ih _ _ (P7 hv hn ht hb).2 (P7 hv hn hs ha).2 e2]
 simp
theorem MtW.le {α:Type} {R:List (List Ar)} {k:Nat->α} (hv:Bg R=true) (hn:R.length<=100) (hk:MtW R k R k) {c:List Int} (hc:WkC R c) {s t:Nat} (hs:s<R.length) (ht:t<R.length) (h:k s=k t):c.getD s 0=c.getD t 0:=by
 obtain ⟨B,hB,i,hi,-⟩:=hc
 have hb:=GA hv hn
 subst hi
 induction i generalizing s t with
 | zero=>
  show (Vb B R.length).getD s 0=(Vb B R.length).getD t 0
  rw [Du hs,Du ht]
  have e:B.getD s false=B.getD t false:=by
   rw [Bool.eq_iff_iff,hB.2 s hs,hB.2 t ht]
   exact ⟨(hk s t hs ht h).1,(hk t s ht hs h.symm).1⟩
  unfold Va
  rw [e]
 | succ i ih=>
  have ih2:=fun s t hs ht h=>ih (s:=s) (t:=t) hs ht h
  have e:=(Ch (UY (BE R) (V0 (BE R) (Vb B R.length) i)) (BE R).length).eq s t (by omega) (by omega)
  refine e.2 ?_
  unfold UY
  rw [ih hs ht h,LV.2 ⟨MD hv hn hk ih2 hs ht h,MD hv hn hk ih2 ht hs h.symm⟩]
theorem WkC.key {R:List (List Ar)} (hv:Bg R=true) (hn:R.length<=100) {c:List Int} (hc:WkC R c):MtW R (fun s=>c.getD s 0) R (fun s=>c.getD s 0):=by
 obtain ⟨B,hB,i,hi,hf⟩:=hc
 have hb:=GA hv hn
 intro s t hs ht h
 simp only at h ⊢
 have e:=(Ch (UY (BE R) c) (BE R).length).eq s t (by omega) (by omega)
 have e0:(UW (UY (BE R) c) (BE R).length).1=c:=hf
 rw [e0] at e
 have e2:=congrArg Prod.snd (e.1 h)
 obtain ⟨c1,-⟩:=LV.1 e2
 refine ⟨fun hd=>?_,fun a ha=>?_⟩
 rotate_left
 ·obtain ⟨b,hb2,hq⟩:=List.any_eq_true.1 (List.all_eq_true.1 c1 a ha)
  simp only [Bool.and_eq_true,beq_iff_eq] at hq
  exact ⟨b,hb2,hq.1,hq.2⟩
 have hdv:∀ j,(V0 (BE R) (Vb B R.length) j).getD s 0=(V0 (BE R) (Vb B R.length) j).getD t 0->(Vb B R.length).getD s 0=(Vb B R.length).getD t 0:=by
  intro j
  induction j with
  | zero=>exact id
  | succ j ih=>intro q;exact ih (congrArg Prod.fst (((Ch (UY (BE R) (V0 (BE R) (Vb B R.length) j)) (BE R).length).eq s t (by omega) (by omega)).1 q))
 have q:=hdv i (by rw [<- hi];exact h)
 rw [Du hs,Du ht] at q
 refine (hB.2 t ht).1 ?_
 have h2:=(hB.2 s hs).2 hd
 unfold Va at q
 rw [h2] at q
 generalize B.getD 0 false=x0 at q
 generalize B.getD t false=x1 at q ⊢
 revert q
 cases x0 <;> cases x1 <;> decide
/-! Side by side. -/
def VwW {α:Type} (Z:List (List Ar)) (k:Nat->α) (s:Nat) (X:List (List Ar)) (kX:Nat->α) (s':Nat):Prop:=
 s'<X.length/\k s=kX s'/\(Dv Z s↔Dv X s')/\(∀ a∈(BE Z).getD s [],∃ b∈(BE X).getD s' [],b.1=a.1/\kX b.2.toNat=k a.2.toNat)/\∀ b∈(BE X).getD s' [],∃ a∈(BE Z).getD s [],a.1=b.1/\k a.2.toNat=kX b.2.toNat
theorem VwW.mt {α:Type} {Z X Y:List (List Ar)} {k kX kY:Nat->α} {s t s' t':Nat} (h1:VwW Z k s X kX s') (h2:VwW Z k t Y kY t') (hm:MtW X kX Y kY) (h:k s=k t):(Dv Z s->Dv Z t)/\∀ a∈(BE Z).getD s [],∃ b∈(BE Z).getD t [],b.1=a.1/\k b.2.toNat=k a.2.toNat:=by
 obtain ⟨a1,a2,a3,a4,a5⟩:=h1
 obtain ⟨b1,b2,b3,b4,b5⟩:=h2
 obtain ⟨m1,m2⟩:=hm s' t' a1 b1 (by rw [<- a2,<- b2,h])
 refine ⟨fun d=>b3.2 (m1 (a3.1 d)),fun a ha=>?_⟩
 obtain ⟨x,hx,e1,e2⟩:=a4 a ha
 obtain ⟨y,hy,e3,e4⟩:=m2 x hx
 obtain ⟨z,hz,e5,e6⟩:=b5 y hy
 exact ⟨z,hz,by rw [e5,e3,e1],by rw [e6,e4,e2]⟩
theorem Yv {A R:List (List Ar)} (hA:Bg A=true) {s u:Nat} {e:Int} (hs:s<A.length):WA (Dy A R) s e u↔WA A s e u:=by
 have hE:=Ce true (gEg (gE4 hA).1:Br A=true)
 unfold WA
 refine or_congr (and_congr_right fun _=>HB hE hs) (and_congr_right fun _=>exists_congr fun t=>?_)
 rw [HB hE hs]
 refine and_congr_right fun hr=>?_
 have htl:=hr.lt hs hE
 rw [Rq htl]
 exact exists_congr fun a=>and_congr_right fun ha=>and_congr_right fun _=>HB hE (Em hA htl ha).2.2.2
theorem Yw {A R:List (List Ar)} (hR:Bg R=true) {s u:Nat} {e:Int} (hs:s<R.length):WA (Dy A R) (A.length+s) e u↔∃ v,u=A.length+v/\WA R s e v:=by
 have hlo:Br R=true:=gEg (gE4 hR).1
 have hE:=Ce true hlo
 have hsh:∀ {t:Nat} {b:Ar},t<R.length->b∈R.getD t []->(b.2+(A.length:Int)).toNat=A.length+b.2.toNat:=fun ht hb=>by have:=Em hR ht hb;omega
 unfold WA
 constructor
 rotate_left
 ·rintro ⟨v,rfl,⟨h0,h1⟩ | ⟨h0,t,ht,b,hb,h1,h2⟩⟩
  ·exact .inl ⟨h0,(HD hlo).2 ⟨v,rfl,h1⟩⟩
  have htl:=ht.lt hs hE
  refine .inr ⟨h0,A.length+t,(HD hlo).2 ⟨t,rfl,ht⟩,(b.1,b.2+(A.length:Int)),by rw [Rr];exact List.mem_map.2 ⟨b,hb,rfl⟩,h1,?_⟩
  simp only
  rw [hsh htl hb]
  exact (HD hlo).2 ⟨v,rfl,h2⟩
 rintro (⟨h0,h1⟩ | ⟨h0,t,ht,a,ha,h1,h2⟩)
 ·obtain ⟨v,rfl,hr⟩:=(HD hlo).1 h1
  exact ⟨v,rfl,.inl ⟨h0,hr⟩⟩
 obtain ⟨v,rfl,hr⟩:=(HD hlo).1 ht
 rw [Rr] at ha
 obtain ⟨b,hb,rfl⟩:=List.mem_map.1 ha
 have hvl:=hr.lt hs hE
 simp only at h1 h2
 rw [hsh hvl hb] at h2
 obtain ⟨v2,rfl,hr2⟩:=(HD hlo).1 h2
 exact ⟨v2,rfl,.inr ⟨h0,v,hr,b,hb,h1,hr2⟩⟩
theorem WA.lt {R:List (List Ar)} (hR:Bg R=true) {s u:Nat} {e:Int} (hs:s<R.length) (h:WA R s e u):u<R.length:=by
 have hE:=Ce true (gEg (gE4 hR).1:Br R=true)
 rcases h with ⟨_,h⟩ | ⟨_,t,ht,a,ha,_,h⟩
 ·exact h.lt hs hE
 exact h.lt (Em hR (ht.lt hs hE) ha).2.2.2 hE
theorem Y6 {A R:List (List Ar)} (hz:Bg (Dy A R)=true) (hA:Bg A=true) {s:Nat} (hs:s<A.length) {a:Ar}:a∈(BE (Dy A R)).getD s []↔a∈(BE A).getD s []:=by
 rw [Cj hz (by rw [C1];omega),Cj hA hs]
 constructor
 rotate_left
 ·rintro ⟨u,hu,h1,h2⟩
  exact ⟨u,by rw [C1];omega,(Yv hA hs).2 h1,h2⟩
 rintro ⟨u,_,h1,h2⟩
 have h3:=(Yv hA hs).1 h1
 exact ⟨u,h3.lt hA hs,h3,h2⟩
theorem Y7 {A R:List (List Ar)} (hz:Bg (Dy A R)=true) (hR:Bg R=true) {s:Nat} (hs:s<R.length) {a:Ar}:a∈(BE (Dy A R)).getD (A.length+s) []↔∃ b∈(BE R).getD s [],a=(b.1,b.2+(A.length:Int)):=by
 rw [Cj hz (by rw [C1];omega)]
 constructor
 rotate_left
 ·rintro ⟨b,hb,rfl⟩
  obtain ⟨v,hv,h1,h2⟩:=(Cj hR hs).1 hb
  exact ⟨A.length+v,by rw [C1];omega,(Yw hR hs).2 ⟨v,rfl,h1⟩,by simp only;omega⟩
 rintro ⟨u,_,h1,h2⟩
 obtain ⟨v,rfl,h3⟩:=(Yw hR hs).1 h1
 exact ⟨(a.1,(v:Int)),(Cj hR hs).2 ⟨v,h3.lt hR hs,h3,rfl⟩,by obtain ⟨e,t⟩:=a;simp only at h2 ⊢;rw [h2];congr 1;omega⟩
theorem MtW.both {α:Type} {A R:List (List Ar)} {kA kR:Nat->α} (hA:Bg A=true) (hR:Bg R=true) (hn:A.length+R.length<=100) (hz:Bg (Dy A R)=true) (h1:MtW A kA A kA) (h2:MtW A kA R kR) (h3:MtW R kR A kA) (h4:MtW R kR R kR):MtW (Dy A R) (YV A.length kA kR) (Dy A R) (YV A.length kA kR):=by
 have hlA:Br A=true:=gEg (gE4 hA).1
 have hlo:Br R=true:=gEg (gE4 hR).1
 have hE:=Ce true hlA
 have v1:∀ s,s<A.length->VwW (Dy A R) (YV A.length kA kR) s A kA s:=fun s hs=>by
  have hk:∀ a∈(BE A).getD s [],YV A.length kA kR a.2.toNat=kA a.2.toNat:=fun a ha=>if_pos (P7 hA (by omega) hs ha).2
  refine ⟨hs,if_pos hs,Ss hE hs,fun a ha=>?_,fun b hb=>?_⟩
  rotate_left
  ·exact ⟨b,(Y6 hz hA hs).2 hb,rfl,hk b hb⟩
  have ha:=(Y6 hz hA hs).1 ha
  exact ⟨a,ha,rfl,(hk a ha).symm⟩
 have v2:∀ s,s<R.length->VwW (Dy A R) (YV A.length kA kR) (A.length+s) R kR s:=fun s hs=>by
  have hk:∀ a∈(BE R).getD s [],YV A.length kA kR (a.2+(A.length:Int)).toNat=kR a.2.toNat:=fun a ha=>by
   have:=P7 hR (by omega) hs ha
   unfold YV
   rw [if_neg (by omega)]
   congr 1;omega
  refine ⟨hs,by unfold YV;rw [if_neg (by omega)];congr 1;omega,St hlo,fun a ha=>?_,fun b hb=>?_⟩
  rotate_left
  ·exact ⟨_,(Y7 hz hR hs).2 ⟨b,hb,rfl⟩,rfl,hk b hb⟩
  obtain ⟨b,hb,rfl⟩:=(Y7 hz hR hs).1 ha
  exact ⟨b,hb,rfl,(hk b hb).symm⟩
 have hv:∀ s,s<(Dy A R).length->s<A.length\/∃ s',s'<R.length/\s=A.length+s':=fun s hs=>by
  rw [C1] at hs
  by_cases e:s<A.length
  ·exact .inl e
  exact .inr ⟨s - A.length,by omega,by omega⟩
 intro s t hs ht h
 rcases hv s hs with hs2 | ⟨s,hs2,rfl⟩ <;> rcases hv t ht with ht2 | ⟨t,ht2,rfl⟩
 ·exact (v1 s hs2).mt (v1 t ht2) h1 h
 ·exact (v1 s hs2).mt (v2 t ht2) h2 h
 ·exact (v2 s hs2).mt (v1 t ht2) h3 h
 exact (v2 s hs2).mt (v2 t ht2) h4 h
section
variable {R X : List (List Ar)} {f kX : Nat -> Nat}
theorem QuX.mt1W (h:QuX R X f kX) (hR:Bg R=true) (hX:Bg X=true):MtW R f X kX:=by
 have hE:=Ce true (gEg (gE4 hR).1:Br R=true)
 intro s j hs hj e
 refine ⟨fun ⟨g,hg,hd⟩=>?_,fun a ha=>?_⟩
 ·obtain ⟨i,hi,hp,ei⟩:=h.path hR hX hs hj e hg
  have hl:=h.lp g i (hg.lt hs hE) hi ei.symm ⟨g,.refl _,hd⟩
  exact ⟨i,hp,i,(Ff hX).2 hl,.refl _⟩
 obtain ⟨u,hul,hw,hu⟩:=(Cj hR hs).1 ha
 rcases hw with ⟨h0,hr⟩ | ⟨h0,t,hr,b,hb,h1,h2⟩
 ·obtain ⟨i,hi,hp,ei⟩:=h.path hR hX hs hj e hr
  exact ⟨(0,(i:Int)),(Cj hX hj).2 ⟨i,hi,.inl ⟨rfl,hp⟩,rfl⟩,h0.symm,by rw [hu];simpa using ei⟩
 obtain ⟨i,hi,hp,ei⟩:=h.path hR hX hs hj e hr
 have htl:=hr.lt hs hE
 obtain ⟨i2,q1,q2,q3⟩:=h.fw t i htl hi ei.symm _ hb (.inl (by rw [h1];exact h0))
 obtain ⟨i3,p1,p2,p3⟩:=h.path hR hX (Em hR htl hb).2.2.2 q1 q3.symm h2
 exact ⟨(a.1,(i3:Int)),(Cj hX hj).2 ⟨i3,p1,.inr ⟨h0,i,hp,_,q2,h1,by simpa using p2⟩,rfl⟩,rfl,by rw [hu];simpa using p3⟩
theorem QuX.stepW (h:QuX R X f kX) (hR:Bg R=true) (hX:Bg X=true) (hk:MtW R f R f) {i j:Nat} {u:Nat} (hu:u<R.length) (hj:j<X.length) (e:f u=kX j) (hi:i∈Uy true X j):i<X.length/\∃ v,v<R.length/\Rc (Uy true R) u v/\f v=kX i:=by
 have hE:=Ce true (gEg (gE4 hR).1:Br R=true)
 obtain ⟨i',h1,h2,h3⟩:=h.bw j _ hj ((Ff hX).1 hi)
 have hii:i=i':=by simp only at h2;omega
 subst hii
 refine ⟨h1,?_⟩
 rcases h3 with ⟨s,hs,es,b,hb,eb,fb,_⟩ | ⟨_,rfl,_⟩
 rotate_left
 ·exact ⟨u,hu,.refl _,e⟩
 have hbl:=Yd hR hb
 have hbs:(0,b.2)∈(BE R).getD s []:=(Cj hR hs).2 ⟨b.2.toNat,hbl.2,.inl ⟨rfl,.one ((Ff hR).2 (by
  obtain ⟨x,y⟩:=b
  simp only at eb hbl ⊢
  subst eb
  rw [Int.toNat_of_nonneg hbl.1]
  exact hb))⟩,by simp only;omega⟩
 obtain ⟨c,hc,e1,e2⟩:=(hk s u hs hu (by rw [es,e])).2 _ hbs
 obtain ⟨v,hvl,hw,hv⟩:=(Cj hR hu).1 hc
 rcases hw with ⟨_,hr⟩ | ⟨h0,_⟩
 ·exact ⟨v,hvl,hr,by rw [hv] at e2;simp only [Int.toNat_natCast] at e2;rw [e2,fb]⟩
 exact absurd e1 h0
theorem QuX.backW (h:QuX R X f kX) (hR:Bg R=true) (hX:Bg X=true) (hk:MtW R f R f) {i j:Nat} {u:Nat} (hu:u<R.length) (hj:j<X.length) (e:f u=kX j) (hr:Rc (Uy true X) j i):i<X.length/\∃ v,v<R.length/\Rc (Uy true R) u v/\f v=kX i:=by
 induction hr with
 | refl=>exact ⟨hj,u,hu,.refl _,e⟩
 | tail _ hw ih=>
  obtain ⟨h1,v,hv,hp,ev⟩:=ih
  obtain ⟨h2,w,hw2,hp2,ew⟩:=h.stepW hR hX hk hv h1 ev hw
  exact ⟨h2,w,hw2,hp.trans hp2,ew⟩
theorem QuX.mt2W (h:QuX R X f kX) (hR:Bg R=true) (hX:Bg X=true) (hk:MtW R f R f):MtW X kX R f:=by
 have hE:=Ce true (gEg (gE4 hR).1:Br R=true)
 intro j s hj hs e
 refine ⟨fun ⟨i,hi,w,hw,hwi⟩=>?_,fun a ha=>?_⟩
 ·obtain ⟨hil,u,hu,hp,eu⟩:=h.backW hR hX hk hs hj e.symm hi
  obtain ⟨i',h1,h2,h3⟩:=h.bw i _ hil ((Ff hX).1 hw)
  have hii:w=i':=by simp only at h2;omega
  subst hii
  have hdu:Dv R u:=by
   rcases h3 with ⟨_,_,_,_,_,_,_,hor⟩ | ⟨_,rfl,s',hs',es',hd⟩
   rotate_left
   ·exact (hk s' u hs' hu (by rw [es',eu])).1 hd
   have hne:kX w ≠ kX i:=by simpa using hor
   refine Xr hR (P:=fun u=>f u=kX i) (fun u hu eu=>?_) _ u hu eu (Nat.le_refl _)
   obtain ⟨_,x,hx,hux,ex⟩:=h.stepW hR hX hk hu hil eu hw
   obtain ⟨_,y,hy,hxy,ey⟩:=h.backW hR hX hk hx h1 ex hwi
   obtain ⟨z,hz,hzx⟩:=XL hux (fun q=>hne (by rw [<- ex,<- q,eu]))
   exact ⟨z,y,hz,hzx.trans hxy,hy,ey⟩
  obtain ⟨g,hg,hd⟩:=hdu
  exact ⟨g,hp.trans hg,hd⟩
 obtain ⟨i,hil0,hw,hi⟩:=(Cj hX hj).1 ha
 rcases hw with ⟨h0,hr⟩ | ⟨h0,i1,hr,b0,hb,hb1,hr2⟩
 ·obtain ⟨_,v,hv,hp,ev⟩:=h.backW hR hX hk hs hj e.symm hr
  exact ⟨(0,(v:Int)),(Cj hR hs).2 ⟨v,hv,.inl ⟨rfl,hp⟩,rfl⟩,h0.symm,by rw [hi];simpa using ev⟩
 obtain ⟨hil,v,hv,hp,ev⟩:=h.backW hR hX hk hs hj e.symm hr
 obtain ⟨i2,q1,q2,q3⟩:=h.bw i1 b0 hil hb
 rcases q3 with ⟨s',hs',es',b,hb2,eb,fb,_⟩ | ⟨h9,_⟩
 rotate_left
 ·exact absurd (hb1.symm.trans h9) h0
 have hbl:=Em hR hs' hb2
 have hbs:b∈(BE R).getD s' []:=(Cj hR hs').2 ⟨b.2.toNat,hbl.2.2.2,.inr ⟨by rw [eb,hb1];exact h0,s',.refl _,b,hb2,rfl,.refl _⟩,by omega⟩
 obtain ⟨c,hc,e1,e2⟩:=(hk s' v hs' hv (by rw [es',ev])).2 _ hbs
 obtain ⟨w,hwl,hw2,hwe⟩:=(Cj hR hv).1 hc
 have ew:f w=kX i2:=by rw [hwe] at e2;simp only [Int.toNat_natCast] at e2;rw [e2,fb]
 have hi2:b0.2.toNat=i2:=by rw [q2];simp
 rw [hi2] at hr2
 obtain ⟨_,z,hz,hwz,ez⟩:=h.backW hR hX hk hwl q1 ew hr2
 rcases hw2 with ⟨h8,_⟩ | ⟨_,t,ht,d,hd,hd1,hd2⟩
 ·exact absurd (by rw [<- hb1,<- eb,<- e1,h8]) h0
 exact ⟨(a.1,(z:Int)),(Cj hR hs).2 ⟨z,hz,.inr ⟨h0,t,hp.trans ht,d,hd,by rw [hd1,e1,eb,hb1],hd2.trans hwz⟩,rfl⟩,rfl,by rw [hi];simpa using ez⟩
theorem QuX.mt3W (h:QuX R X f kX):MtW X kX X kX:=fun i j hi hj e=>by
 have:=h.inj i j hi hj e
 subst this
 exact ⟨id,fun a ha=>⟨a,ha,rfl,rfl⟩⟩
end
set_option maxRecDepth 100000
attribute [local go_sem] lga C.pl C.one
theorem Wl (L:List C) (s:Nat) (x y:C):(L.set s x).set s y=L.set s y:=by simp
theorem MM (x y:Operand) (a:Ar):EL Tryd.prog .neq 29 x y [.int .i64 a.1,.int .i64 a.2] [.int .i64 a.1,.int .i64 a.2] false=True:=by
 have h:=LH x y a a
 rw [gEg (rfl:a=a)] at h
 exact h
theorem KB (r:List Ar) (hn:r.length<=1000000):FC Tryd.prog 22 [.a (.c (.t 2 (Al r))),.a (.c (.t 2 (Al r)))] [] (fun x o=>o=[]/\x=.b true):=by
 refine A8 Tryd.func22 rfl (by rw [Tryd.ntmps22];simp) ?_
 rw [Tryd.ntmps22]
 simp only [Bs]
 have d0:((r.length:Int) != (r.length:Int))=false:=by simp
 (refine Ue (an @A4 (an @AA @d0)) ?_;(repeat clear hK K);repeat refine kq fun K hK=>?_)
 refine Ul ?_
 (refine Ud ?_;(repeat clear hK K);repeat refine kq fun K hK=>?_)
 refine Ac (fun k:Nat=>{ tm:=[(0,.a (.c (.t 2 (Al r)))),(1,.a (.c (.t 2 (Al r)))),(5,.i k)],hp:=[],n:=26,pin:=0 }) (fun k=>k<=r.length) (fun k=>r.length - k) 0 ?_ ?_ ?_
 ·omega
 ·exact Un
 rintro k hk K hK
 by_cases hlt:k<r.length
 rotate_left
 ·have d1:decide ((k:Int)<(r.length:Int))=false:=by simpa using hlt
  (refine Ue (an @d1 (an @A4 @AA)) ?_;(repeat clear hK K);repeat refine kq fun K hK=>?_)
  refine Ul ?_
  (refine Uh ?_;repeat clear hK K)
  (refine Ud ?_;(repeat clear hK K);repeat refine kq fun K hK=>?_)
  exact Re [] Tryd.results22
 have d1:decide ((k:Int)<(r.length:Int))=true:=by simpa using hlt
 have hat:=AH hlt
 have d2:(!decide (r[k]=r[k]))=false:=by simp
 (refine Ue (an @d1 (an @A4 @AA)) ?_;(repeat clear hK K);repeat refine kq fun K hK=>?_)
 refine Uk ?_
 (refine Ud ?_;(repeat clear hK K);repeat refine kq fun K hK=>?_)
 (refine Ag 8 [(0,0),(1,0),(2,0),(3,1),(4,0),(5,0),(6,0),(7,1),(8,2)] (by kernel_rfl) (by kernel_rfl) (by intro c st h;simp [Ai,AX,Tz] at h) ?_)
 (repeat (first | ((first | refine QN rfl rfl rfl ?_ | refine QO rfl rfl rfl ?_);intro K1 hK1;simp only [go_sem,hat,A4,AA,MM,CN,decide_true,Bool.not_true,beq_self_eq_true,Bool.and_self,true_and];(first | refine hK1 _ ?_ | refine AE (hK1 _ ?_));clear hK1 K1) | (refine QP rfl rfl rfl rfl ?_;intro K1 hK1;simp only [go_sem,hat,A4,AA,MM,CN,decide_true,Bool.not_true,beq_self_eq_true,Bool.and_self,true_and];(first | refine hK1 _ ?_ | refine AE (hK1 _ ?_));clear hK1 K1) | (refine Hh ?_;refine hK _ ?_;clear hK K)))
 refine Ul ?_
 (refine Ud ?_;(repeat clear hK K);repeat refine kq fun K hK=>?_)
 refine Um ?_
 refine hK _ (k+1) (by omega) (by omega) ?_
 exact Un
theorem Iz (R:List (List Ar)) (hn:R.length<=1000000) (hr:∀ r∈R,r.length<=1000000):FC Tryd.prog 7 [BS R,BS R] [] (fun x o=>o=[]/\x=.b true):=by
 refine A8 Tryd.func7 rfl (by rw [Tryd.ntmps7];simp) ?_
 rw [Tryd.ntmps7]
 simp only [Bs,BS]
 have d0:((R.length:Int) != (R.length:Int))=false:=by simp
 (refine Ue (an @A6 @d0) ?_;(repeat clear hK K);repeat refine kq fun K hK=>?_)
 refine Ul ?_
 (refine Ud ?_;(repeat clear hK K);repeat refine kq fun K hK=>?_)
 refine Ac (fun k:Nat=>{ tm:=[(2,.a (.c (.p 0 0))),(3,.a (.c (.p 1 0))),(5,.i k)],hp:=[.r ⟨24,1,false,[.t 1 (Ae R)]⟩,.r ⟨24,1,false,[.t 1 (Ae R)]⟩],n:=32,pin:=0 }) (fun k=>k<=R.length) (fun k=>R.length - k) 0 ?_ ?_ ?_
 ·omega
 ·exact Un
 rintro k hk K hK
 by_cases hlt:k<R.length
 rotate_left
 ·have d1:decide ((k:Int)<(R.length:Int))=false:=by simpa using hlt
  (refine Ue (an @d1 @A6) ?_;(repeat clear hK K);repeat refine kq fun K hK=>?_)
  refine Ul ?_
  (refine Uh ?_;repeat clear hK K)
  (refine Ud ?_;(repeat clear hK K);repeat refine kq fun K hK=>?_)
  exact Re [] Tryd.results7
 have d1:decide ((k:Int)<(R.length:Int))=true:=by simpa using hlt
 have hg:=gE1 hlt
 (refine Ue (an @d1 @A6) ?_;(repeat clear hK K);repeat refine kq fun K hK=>?_)
 refine Uk ?_
 (refine Ud ?_;(repeat clear hK K);repeat refine kq fun K hK=>?_)
 (refine Ag 10 [(0,0),(1,1),(2,0),(3,0),(4,1),(5,0),(6,1),(7,0),(8,0),(9,1),(10,2),(11,0)] (by kernel_rfl) (by kernel_rfl) (by intro c st h;simp [Ai,AX,Tz] at h) ?_)
 (refine Ua (an @A6 (AQ hg)) ?_;repeat clear hK K)
 (refine S5 (KB R[k] (hr _ (gE6 hlt))) ?_;intro K1 hK1)
 rintro _ _ ⟨rfl,rfl⟩
 (refine Uj ?_;clear hK1 K1)
 (refine Ua @Bool.not_true ?_;repeat clear hK K)
 refine Ul ?_
 (refine Ud ?_;(repeat clear hK K);repeat refine kq fun K hK=>?_)
 refine Um ?_
 refine hK _ (k+1) (by omega) (by omega) ?_
 exact Un
end Go.Proofs.YtjijjfkalheokaaDoor
