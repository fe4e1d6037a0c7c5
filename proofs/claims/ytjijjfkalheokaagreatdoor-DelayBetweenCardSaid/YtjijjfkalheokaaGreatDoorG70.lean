/- Lemmas. -/
import Derived.Test.YtjijjfkalheokaaGreatDoorG67
import Derived.Test.YtjijjfkalheokaaGreatDoorG45
import Derived.Test.YtjijjfkalheokaaGreatDoorG39
import Derived.Lib.TrailingZeros
import Derived.Test.YtjijjfkalheokaaGreatDoorG59
import Derived.Test.YtjijjfkalheokaaGreatDoorZk
import Derived.Test.YtjijjfkalheokaaGreatDoorTl3
import Derived.Test.YtjijjfkalheokaaGreatDoorMK
import Derived.Test.YtjijjfkalheokaaGreatDoorG42
namespace Go.Proofs.YtjijjfkalheokaaGreatDoor
set_option linter.unusedVariables false
set_option linter.unusedSimpArgs false
open Go.RowKit
set_option maxRecDepth 100000
attribute [local go_sem] lga C.pl C.one

def rL (n:Nat) (B:List Bool):List Int:=((List.range n).filter (Bu B)).map Int.ofNat
theorem Kx (n:Nat) (B:List Bool):(rL n B).length<=n:=by
 unfold rL
 rw [List.length_map]
 have:=List.length_filter_le (Bu B) (List.range n)
 rwa [List.length_range] at this
def Cy (R:List (List Ar)) (s:Nat):Prop:=∃ w,w∈WP true R s/\Rc (WP true R) w s
def CyL (R:List (List Ar)) (k:Nat) (Ls:List Nat):Prop:=Ls.length<=k/\∀ g,g∈Ls↔g<k/\Cy R g
theorem CyL.yes {R:List (List Ar)} {k:Nat} {Ls:List Nat} (h:CyL R k Ls) (hc:Cy R k):CyL R (k+1) (Ls++[k]):=by
 refine ⟨by simp only [List.length_append,List.length_singleton];have:=h.1;omega,fun g=>?_⟩
 rw [List.mem_append,h.2,List.mem_singleton]
 constructor
 ·rintro (⟨h1,h2⟩ | rfl)
  ·exact ⟨by omega,h2⟩
  exact ⟨by omega,hc⟩
 rintro ⟨h1,h2⟩
 by_cases e:g=k
 ·exact .inr e
 exact .inl ⟨by omega,h2⟩
def WA (R:List (List Ar)) (s:Nat) (e:Int) (u:Nat):Prop:=(e=0/\Rc (WP true R) s u)\/(e ≠ 0/\∃ t,Rc (WP true R) s t/\∃ a∈R.getD t [],a.1=e/\Rc (WP true R) a.2.toNat u)
def U1 (R:List (List Ar)) (s:Nat) (e:Int) (L:List Int):Prop:=∃ B:List Bool,B.length=R.length/\L=rL R.length B/\∀ u,u<R.length->(Bu B u=true↔WA R s e u)
theorem UU {n:Nat} {B:List Bool}:∀ x∈rL n B,0<=x/\x<(n:Int):=fun x hx=>by
 unfold rL at hx
 obtain ⟨u,hu,rfl⟩:=List.mem_map.1 hx
 have:=(List.mem_filter.1 hu).1
 rw [List.mem_range] at this
 simp only [Int.ofNat_eq_natCast];omega
noncomputable def XI (R:List (List Ar)) (s:Nat) (e:Int):List Int:=rL R.length ((List.range R.length).map fun u=>@decide (WA R s e u) (Classical.propDecidable _))
theorem Rh (R:List (List Ar)) (s:Nat) (e:Int):U1 R s e (XI R s e):=by
 refine ⟨(List.range R.length).map fun u=>@decide (WA R s e u) (Classical.propDecidable _),by simp,rfl,fun u hu=>?_⟩
 unfold Bu
 rw [gE2,List.getElem?_map,List.getElem?_range hu]
 exact @decide_eq_true_iff _ (Classical.propDecidable _)
theorem NJ {R:List (List Ar)} (_hlo:BE R=true) {s:Nat} {e:Int} (_hs:s<R.length):(XI R s e).length<=R.length/\∀ x∈XI R s e,0<=x/\x<(R.length:Int):=⟨Kx _ _,fun x hx=>UU x hx⟩
noncomputable def XJ (R:List (List Ar)) (s:Nat) (e:Int):List Ar:=(XI R s e).map fun u=>(e,u)
noncomputable def XK (R:List (List Ar)) (Ev:List Int) (s k:Nat):List Ar:=(Ev.take k).flatMap (XJ R s)
noncomputable def XL (R:List (List Ar)) (Ev:List Int) (s:Nat):List Ar:=XK R Ev s Ev.length
noncomputable def XM (R:List (List Ar)) (Ev:List Int) (k:Nat):List (List Ar):=(List.range k).map (XL R Ev)
theorem Fc (R:List (List Ar)) (Ev:List Int) (k:Nat):(XM R Ev k).length=k:=by simp [XM]
theorem KR {R:List (List Ar)} {Ev:List Int} {s k:Nat} (h:k<Ev.length):XK R Ev s (k+1)=XK R Ev s k++XJ R s Ev[k]:=by
 unfold XK
 rw [gE8 h,List.flatMap_append]
 simp
theorem NK {R:List (List Ar)} (hlo:BE R=true) {Ev:List Int} {s:Nat} (hs:s<R.length):∀ k,k<=Ev.length->(XK R Ev s k).length<=k*R.length:=by
 intro k
 induction k with
 | zero=>intro _;simp [XK]
 | succ k ih=>
  intro hk
  have h1:=ih (by omega)
  have h2:=(NJ hlo (e:=Ev[k]) hs).1
  rw [KR hk,List.length_append,XJ,List.length_map,Nat.succ_mul]
  omega
noncomputable def C9 (R:List (List Ar)):List (List Ar):=XM R (Xn R R.length) R.length
theorem Ht {R:List (List Ar)} (hv:Bv R=true) (hn:R.length<=100):(C9 R).length=R.length/\∀ r∈C9 R,r.length<=1000000/\∀ a∈r,0<=a.2/\a.2<(R.length:Int):=by
 have hlo:BE R=true:=gEg (gE4 hv).1
 have hl:(C9 R).length=R.length:=Fc _ _ _
 have hev:=Iz (R:=R) (fun r hr a ha=>by have:=(gE4 hlo).2.2.2 r hr a ha;omega) R.length (Nat.le_refl _)
 have hevl:(Xn R R.length).length<=1026:=Ix hev.1 (by simpa using hev.2.1)
 refine ⟨hl,fun r hr=>?_⟩
 obtain ⟨s,hs,rfl⟩:=List.mem_map.1 hr
 rw [List.mem_range] at hs
 have h1:=NK hlo (Ev:=Xn R R.length) hs _ (Nat.le_refl _)
 have h2:(Xn R R.length).length*R.length<=1026*100:=Nat.mul_le_mul hevl hn
 refine ⟨by unfold XL;omega,fun a ha=>?_⟩
 unfold XL XK at ha
 obtain ⟨e,_,h⟩:=List.mem_flatMap.1 ha
 obtain ⟨x,hx,rfl⟩:=List.mem_map.1 h
 exact (NJ hlo hs).2 x hx
def AQ (w:Nat):List Int:=((List.range 64).filter fun i=>w.testBit i).map Int.ofNat
def WS (w:Nat) (p:Nat->Prop):Prop:=w<2 ^ 64/\∀ i,i<64->(w.testBit i=true↔p i)
theorem WS.lt {w:Nat} {p:Nat->Prop} (h:WS w p):w<18446744073709551616:=h.1
theorem Ui {w i:Nat} (h:w<2 ^ 64) (hi:64<=i):w.testBit i=false:=Nat.testBit_lt_two_pow (Nat.lt_of_lt_of_le h (Nat.pow_le_pow_right (by decide) hi))
theorem Rk {v w:Nat} (hv:v<2 ^ 64) (hw:w<2 ^ 64) (h:∀ i,i<64->v.testBit i=w.testBit i):v=w:=by
 refine Nat.eq_of_testBit_eq fun i=>?_
 rcases Nat.lt_or_ge i 64 with hi | hi
 ·exact h i hi
 rw [Ui hv hi,Ui hw hi]
theorem WS.uniq {v w:Nat} {p q:Nat->Prop} (hv:WS v p) (hw:WS w q) (h:∀ i,i<64->(p i↔q i)):v=w:=by
 refine Rk hv.1 hw.1 fun i hi=>?_
 rw [Bool.eq_iff_iff,hv.2 i hi,hw.2 i hi,h i hi]
theorem LP:AQ 0=[]:=by
 unfold AQ
 rw [List.filter_eq_nil_iff.2 (fun i _=>by simp)]
 rfl
theorem CP (w:Nat):(AQ w).length<=64:=by
 unfold AQ
 rw [List.length_map]
 exact Nat.le_trans (List.length_filter_le _ _) (by simp)
theorem Db {w:Nat} {x:Int}:x∈AQ w↔∃ i,i<64/\w.testBit i=true/\x=(i:Int):=by
 unfold AQ
 simp only [List.mem_map,List.mem_filter,List.mem_range]
 constructor
 ·rintro ⟨i,⟨h1,h2⟩,rfl⟩;exact ⟨i,h1,h2,rfl⟩
 rintro ⟨i,h1,h2,rfl⟩;exact ⟨i,⟨h1,h2⟩,rfl⟩
theorem KW {w:Nat}:∀ x∈AQ w,0<=x/\x<64:=fun x hx=>by
 obtain ⟨i,h1,_,rfl⟩:=Db.1 hx
 omega
theorem IE {v w:Nat} (hv:v<2 ^ 64) (hw:w<2 ^ 64) (h:AQ v=AQ w):v=w:=by
 refine Rk hv hw fun i hi=>?_
 have key:((i:Int)∈AQ v)↔((i:Int)∈AQ w):=by rw [h]
 rw [Db,Db] at key
 have e:∀ u:Nat,(∃ j,j<64/\u.testBit j=true/\(i:Int)=(j:Int))↔u.testBit i=true:=fun u=>by
  constructor
  rotate_left
  ·intro h2;exact ⟨i,hi,h2,rfl⟩
  rintro ⟨j,_,h2,h3⟩
  have:i=j:=by omega
  rw [this];exact h2
 rw [e,e] at key
 rw [Bool.eq_iff_iff];exact key
theorem IF (w:Nat):WI (AQ w):=by
 unfold AQ WI
 rw [List.pairwise_map]
 refine List.Pairwise.filter _ ?_
 refine List.pairwise_lt_range.imp fun {a b} h=>?_
 simp only [Int.ofNat_eq_natCast];omega
theorem KX (k m i:Nat):(2 ^ k*(2*m+1)).testBit i=if i<k then false else if i=k then true else (2*m).testBit (i - k):=by
 rw [Nat.testBit_two_pow_mul]
 by_cases h:i<k
 ·rw [if_pos h];simp [show ¬ k<=i by omega]
 rw [if_neg h]
 by_cases e:i=k
 ·subst e;rw [if_pos rfl];simp [Nat.testBit_zero]
 rw [if_neg e]
 obtain ⟨d,hd⟩:∃ d,i - k=d+1:=⟨i - k - 1,by omega⟩
 rw [hd,Nat.testBit_succ,Nat.testBit_succ]
 simp [show k<=i by omega,show (2*m+1) / 2=m by omega]
theorem Hy (k m i:Nat):(2 ^ k*(2*m)).testBit i=if i<k then false else if i=k then false else (2*m).testBit (i - k):=by
 rw [Nat.testBit_two_pow_mul]
 by_cases h:i<k
 ·rw [if_pos h];simp [show ¬ k<=i by omega]
 rw [if_neg h]
 by_cases e:i=k
 ·subst e;rw [if_pos rfl];simp [Nat.testBit_zero]
 rw [if_neg e];simp [show k<=i by omega]
theorem Qf (k m:Nat):(2 ^ k*(2*m+1)) &&& (2 ^ k*(2*m+1) - 1)=2 ^ k*(2*m):=by
 have hp:0<2 ^ k:=Nat.two_pow_pos k
 have e1:2 ^ k*(2*m+1) - 1=2 ^ k*(2*m)+(2 ^ k - 1):=by
  rw [Nat.mul_add,Nat.mul_one];omega
 refine Nat.eq_of_testBit_eq fun i=>?_
 rw [Nat.testBit_and,KX,e1,Nat.testBit_two_pow_mul_add _ (by omega),Hy]
 by_cases h:i<k
 ·rw [if_pos h,if_pos h,if_pos h];rfl
 rw [if_neg h,if_neg h,if_neg h]
 by_cases e:i=k
 ·subst e;rw [if_pos rfl,if_pos rfl];simp [Nat.testBit_zero]
 rw [if_neg e,if_neg e];simp
theorem NW {w:Nat} (h0:0<w) (h:w<2 ^ 64):Lib.ctz 64 w<64/\(w &&& (w - 1))<w/\AQ w=(Lib.ctz 64 w:Int) :: AQ (w &&& (w - 1)):=by
 obtain ⟨m,hm,hk⟩:=Lib.ctzFrom_spec 64 w h0 h
 have hc:Lib.ctz 64 w=Lib.ctzFrom 64 w:=by unfold Lib.ctz;rw [if_neg (by omega)]
 rw [hc]
 generalize Lib.ctzFrom 64 w=k at *
 have ha:(w &&& (w - 1))=2 ^ k*(2*m):=by rw [hm];exact Qf k m
 have hp:0<2 ^ k:=Nat.two_pow_pos k
 have hlt:2 ^ k*(2*m)<w:=by rw [hm,Nat.mul_add];omega
 refine ⟨hk,by rw [ha];exact hlt,?_⟩
 rw [ha]
 refine Jc (IF _) ?_ fun x=>?_
 ·unfold WI
  refine List.pairwise_cons.2 ⟨fun x hx=>?_,IF _⟩
  obtain ⟨i,h1,h2,rfl⟩:=Db.1 hx
  rw [Hy] at h2
  by_cases h:i<k
  ·rw [if_pos h] at h2;cases h2
  rw [if_neg h] at h2
  by_cases e:i=k
  ·rw [if_pos e] at h2;cases h2
  omega
 rw [List.mem_cons,Db,Db]
 constructor
 ·rintro ⟨i,h1,h2,rfl⟩
  rw [hm,KX] at h2
  by_cases h:i<k
  ·rw [if_pos h] at h2;cases h2
  rw [if_neg h] at h2
  by_cases e:i=k
  ·exact .inl (by rw [e])
  rw [if_neg e] at h2
  exact .inr ⟨i,h1,by rw [Hy,if_neg h,if_neg e];exact h2,rfl⟩
 rintro (rfl | ⟨i,h1,h2,rfl⟩)
 ·exact ⟨k,hk,by rw [hm,KX,if_neg (by omega),if_pos rfl],rfl⟩
 rw [Hy] at h2
 by_cases h:i<k
 ·rw [if_pos h] at h2;cases h2
 rw [if_neg h] at h2
 by_cases e:i=k
 ·rw [if_pos e] at h2;cases h2
 rw [if_neg e] at h2
 exact ⟨i,h1,by rw [hm,KX,if_neg h,if_neg e];exact h2,rfl⟩
theorem Uj {v w:Nat} (hv:v<2 ^ 64) (hw:w<2 ^ 64):(v ||| w)<2 ^ 64:=Nat.or_lt_two_pow hv hw
theorem Sr {v w i:Nat}:(v ||| w).testBit i=true↔v.testBit i=true\/w.testBit i=true:=by rw [Nat.testBit_or];simp
theorem Uk {k i:Nat}:(2 ^ k).testBit i=true↔k=i:=by rw [Nat.testBit_two_pow];simp
theorem KY {k:Nat} (h:k<64):2 ^ k<2 ^ 64:=Nat.pow_lt_pow_right (by decide) h
def FM (x:Int) (t:Nat) (V:List (Int × Nat)):List Int:=x :: ((AQ t).length:Int) :: (AQ t++V.flatMap fun p=>p.1 :: ((AQ p.2).length:Int) :: AQ p.2)
theorem NX {α:Type} {a b c d:List α} (h:a++b=c++d) (hl:a.length=c.length):a=c/\b=d:=List.append_inj h hl
theorem KZ:∀ {V W:List (Int × Nat)},(∀ p∈V,p.2<2 ^ 64)->(∀ p∈W,p.2<2 ^ 64)->(V.flatMap fun p=>p.1 :: ((AQ p.2).length:Int) :: AQ p.2)=(W.flatMap fun p=>p.1 :: ((AQ p.2).length:Int) :: AQ p.2)->V=W
 | [],[],_,_,_=>rfl
 | [],q :: W,_,_,h=>by simp at h
 | p :: V,[],_,_,h=>by simp at h
 | p :: V,q :: W,hv,hw,h=>by
  simp only [List.flatMap_cons,List.cons_append,List.cons.injEq] at h
  obtain ⟨h1,h2,h3⟩:=h
  obtain ⟨h4,h5⟩:=NX h3 (by omega)
  have h6:=IE (hv p List.mem_cons_self) (hw q List.mem_cons_self) h4
  have h7:=KZ (fun p hp=>hv p (gEf _ hp)) (fun p hp=>hw p (gEf _ hp)) h5
  rw [h7]
  congr 1
  exact Prod.ext h1 h6
theorem Qg {x y:Int} {s t:Nat} {V W:List (Int × Nat)} (hs:s<2 ^ 64) (ht:t<2 ^ 64) (hV:∀ p∈V,p.2<2 ^ 64) (hW:∀ p∈W,p.2<2 ^ 64) (h:FM x s V=FM y t W):x=y/\s=t/\V=W:=by
 unfold FM at h
 simp only [List.cons.injEq] at h
 obtain ⟨h1,h2,h3⟩:=h
 obtain ⟨h4,h5⟩:=NX h3 (by omega)
 exact ⟨h1,IE hs ht h4,KZ hV hW h5⟩
def RT (X:List (List Ar)) (cl:List Int) (c i:Nat):Prop:=∃ u,u<X.length/\Rc (WP true X) c u/\cl.getD u 0=(i:Int)
def RV (X:List (List Ar)) (cl:List Int) (c:Nat) (e:Int) (i:Nat):Prop:=e ≠ 0/\∃ u,u<X.length/\Rc (WP true X) c u/\∃ a∈X.getD u [],a.1=e/\RT X cl a.2.toNat i
theorem Ss {n:Nat} {B:List Bool} {x:Int}:x∈rL n B↔∃ i,i<n/\Bu B i=true/\x=(i:Int):=by
 unfold rL
 simp only [List.mem_map,List.mem_filter,List.mem_range]
 constructor
 ·rintro ⟨i,⟨h1,h2⟩,rfl⟩;exact ⟨i,h1,h2,rfl⟩
 rintro ⟨i,h1,h2,rfl⟩;exact ⟨i,⟨h1,h2⟩,rfl⟩
theorem NY {R:List (List Ar)} {s:Nat} {e x:Int}:x∈XI R s e↔∃ u,u<R.length/\WA R s e u/\x=(u:Int):=by
 obtain ⟨B,_,h2,h3⟩:=Rh R s e
 rw [h2,Ss]
 constructor
 ·rintro ⟨i,h4,h5,h6⟩;exact ⟨i,h4,(h3 i h4).1 h5,h6⟩
 rintro ⟨i,h4,h5,h6⟩;exact ⟨i,h4,(h3 i h4).2 h5,h6⟩
theorem EJ {X:List (List Ar)} (hv:Bv X=true) {u:Nat} (hu:u<X.length) {a:Ar} (ha:a∈X.getD u []):0<=a.1/\a.1<=1025/\0<=a.2/\a.2.toNat<X.length:=by
 have hlo:BE X=true:=gEg (gE4 hv).1
 rw [gE2,gE1 hu,Option.getD_some] at ha
 have:=(gE4 hlo).2.2.2 _ (gE6 hu) a ha
 exact ⟨this.1,by omega,this.2.2.1,by omega⟩
theorem EK {X:List (List Ar)} (hv:Bv X=true) {s:Nat} (hs:s<X.length) {a:Ar}:a∈(C9 X).getD s []↔∃ u,u<X.length/\WA X s a.1 u/\a.2=(u:Int):=by
 have hlo:BE X=true:=gEg (gE4 hv).1
 have hE:=Cw true hlo
 have hg:(C9 X).getD s []=XL X (Xn X X.length) s:=by simp [C9,XM,gE2,hs]
 have hev:=Iz (R:=X) (fun r hr a ha=>by have:=(gE4 hlo).2.2.2 r hr a ha;omega) X.length (Nat.le_refl _)
 rw [List.take_length] at hev
 rw [hg]
 unfold XL XK
 rw [List.take_length,List.mem_flatMap]
 constructor
 ·rintro ⟨e,he,h⟩
  obtain ⟨x,hx,rfl⟩:=List.mem_map.1 h
  exact NY.1 hx
 rintro ⟨u,hu,h1,h2⟩
 have hmem:a.1∈Xn X X.length:=by
  rcases h1 with ⟨h,_⟩ | ⟨_,t,ht,b,hb,h4,_⟩
  ·rw [h];exact hev.2.2.1
  have htl:=ht.lt hs hE
  rw [gE2,gE1 htl,Option.getD_some] at hb
  rw [<- h4]
  exact hev.2.2.2 _ (gE6 htl) b hb
 exact ⟨a.1,hmem,List.mem_map.2 ⟨a.2,NY.2 ⟨u,hu,h1,h2⟩,rfl⟩⟩
theorem Fe {X:List (List Ar)} (hv:Bv X=true) {cl:List Int} {s:Nat} (hs:s<X.length) (i:Nat):((0:Int),(i:Int))∈Xi (C9 X) cl s↔RT X cl s i:=by
 rw [DG]
 constructor
 rotate_left
 ·rintro ⟨u,hu,h1,h2⟩
  exact ⟨(0,(u:Int)),(EK hv hs).2 ⟨u,hu,.inl ⟨rfl,h1⟩,rfl⟩,by show (_,_)=(_,cl.getD ((u:Int)).toNat 0);rw [Int.toNat_natCast,h2]⟩
 rintro ⟨a,ha,e⟩
 obtain ⟨u,hu,h1,h2⟩:=(EK hv hs).1 ha
 simp only [Prod.mk.injEq] at e
 obtain ⟨e1,e2⟩:=e
 rcases h1 with ⟨_,h1⟩ | ⟨h1,_⟩
 rotate_left
 ·exact absurd e1.symm h1
 refine ⟨u,hu,h1,?_⟩
 rw [e2,h2];simp
theorem Ff {X:List (List Ar)} (hv:Bv X=true) {cl:List Int} {s:Nat} (hs:s<X.length) {e:Int} (he:e ≠ 0) (i:Nat):(e,(i:Int))∈Xi (C9 X) cl s↔RV X cl s e i:=by
 have hlo:BE X=true:=gEg (gE4 hv).1
 have hE:=Cw true hlo
 rw [DG]
 constructor
 rotate_left
 ·rintro ⟨_,t,htl,ht,b,hb,h3,u,hu,h4,h5⟩
  exact ⟨(e,(u:Int)),(EK hv hs).2 ⟨u,hu,.inr ⟨he,t,ht,b,hb,h3,h4⟩,rfl⟩,by show (_,_)=(_,cl.getD ((u:Int)).toNat 0);rw [Int.toNat_natCast,h5]⟩
 rintro ⟨a,ha,e0⟩
 obtain ⟨u,hu,h1,h2⟩:=(EK hv hs).1 ha
 simp only [Prod.mk.injEq] at e0
 obtain ⟨e1,e2⟩:=e0
 rcases h1 with ⟨h1,_⟩ | ⟨h1,t,ht,b,hb,h3,h4⟩
 ·exact absurd (e1.trans h1) he
 exact ⟨he,t,ht.lt hs hE,ht,b,hb,h3.trans e1.symm,u,hu,h4,by rw [e2,h2];simp⟩
theorem NZ {X:List (List Ar)} (hv:Bv X=true) {cl:List Int} (hc:Nrm X.length cl) {s:Nat} (hs:s<X.length) {x:Ar} (hx:x∈Xi (C9 X) cl s):∃ i:Nat,i<X.length/\x.2=(i:Int):=by
 obtain ⟨a,ha,rfl⟩:=DG.1 hx
 obtain ⟨u,hu,_,h2⟩:=(EK hv hs).1 ha
 have hcl:=hc.len
 have hm:cl.getD u 0∈cl:=by rw [gE2,gE1 (by omega)];exact gE6 _
 have:=hc.rng _ hm
 simp only [h2,Int.toNat_natCast]
 exact ⟨(cl.getD u 0).toNat,by omega,by omega⟩
structure KeyOf (X:List (List Ar)) (cl:List Int) (s:Nat) (L:List Int):Prop where
 ex:∃ (t:Nat) (V:List (Int × Nat)),L=FM (cl.getD s 0) t V/\WS t (RT X cl s)/\WI (V.map (·.1))/\(∀ p∈V,(0<=p.1/\p.1<=1025)/\WS p.2 (RV X cl s p.1)/\∃ i,RV X cl s p.1 i)/\∀ e i,RV X cl s e i->e∈V.map (·.1)
theorem UY {X:List (List Ar)} (_hv:Bv X=true) {cl:List Int} (hc:Nrm X.length cl) {s:Nat} {e:Int} {i:Nat} (h:RV X cl s e i):i<X.length:=by
 obtain ⟨_,_,_,_,_,_,_,u,hu,_,h2⟩:=h
 have hcl:=hc.len
 have hm:cl.getD u 0∈cl:=by rw [gE2,gE1 (by omega)];exact gE6 _
 have:=hc.rng _ hm
 omega
theorem KeyOf.iff {X:List (List Ar)} (hv:Bv X=true) (hn:X.length<=64) {cl:List Int} (hc:Nrm X.length cl) {s t:Nat} (hs:s<X.length) (ht:t<X.length) {L M:List Int} (h1:KeyOf X cl s L) (h2:KeyOf X cl t M):L=M↔Xj (C9 X) cl s=Xj (C9 X) cl t:=by
 obtain ⟨τ,V,rfl,a1,a2,a3,a4⟩:=h1.ex
 obtain ⟨σ,W,rfl,b1,b2,b3,b4⟩:=h2.ex
 unfold Xj
 constructor
 rotate_left
 ·intro h
  simp only [Prod.mk.injEq] at h
  obtain ⟨c1,c2⟩:=h
  have et:∀ i,RT X cl s i↔RT X cl t i:=fun i=>by rw [<- Fe hv hs,<- Fe hv ht,c2]
  have ev:∀ e i,RV X cl s e i↔RV X cl t e i:=fun e i=>by
   by_cases he:e=0
   rotate_left
   ·rw [<- Ff hv hs he,<- Ff hv ht he,c2]
   constructor
   ·rintro ⟨h,_⟩;exact absurd he h
   rintro ⟨h,_⟩;exact absurd he h
  have e1:τ=σ:=a1.uniq b1 fun i _=>et i
  have e2:V.map (·.1)=W.map (·.1):=by
   refine Jc a2 b2 fun e=>?_
   constructor
   ·intro he
    obtain ⟨p,hp,rfl⟩:=List.mem_map.1 he
    obtain ⟨i,hi⟩:=(a3 p hp).2.2
    exact b4 _ i ((ev _ i).1 hi)
   intro he
   obtain ⟨p,hp,rfl⟩:=List.mem_map.1 he
   obtain ⟨i,hi⟩:=(b3 p hp).2.2
   exact a4 _ i ((ev _ i).2 hi)
  have e3:V=W:=by
   have hl:V.length=W.length:=by have:=congrArg List.length e2;simpa using this
   refine List.ext_getElem hl fun j h1 h2=>?_
   have hj:V[j].1=W[j].1:=by
    have h3:(V.map (·.1))[j]?=(W.map (·.1))[j]?:=by rw [e2]
    simpa [h1,h2] using h3
   refine Prod.ext hj ((a3 _ (gE6 h1)).2.1.uniq (b3 _ (gE6 h2)).2.1 fun i _=>?_)
   rw [hj];exact ev _ i
  rw [c1,e1,e3]
 intro h
 obtain ⟨c1,c2,c3⟩:=Qg a1.1 b1.1 (fun p hp=>(a3 p hp).2.1.1) (fun p hp=>(b3 p hp).2.1.1) h
 subst c2;subst c3
 refine Prod.ext c1 ?_
 refine Cg (B9 _) (B9 _) fun x=>?_
 show x∈Xi (C9 X) cl s↔x∈Xi (C9 X) cl t
 have key:∀ u,u<X.length->u=s\/u=t->(x∈Xi (C9 X) cl u↔∃ i:Nat,i<64/\x.2=(i:Int)/\((x.1=0/\τ.testBit i=true)\/(x.1 ≠ 0/\∃ w,(x.1,w)∈V/\w.testBit i=true))):=by
  intro u hu hst
  have wt:WS τ (RT X cl u):=by rcases hst with rfl | rfl <;> assumption
  have wv:∀ p∈V,WS p.2 (RV X cl u p.1):=fun p hp=>by
   rcases hst with rfl | rfl
   ·exact (a3 p hp).2.1
   exact (b3 p hp).2.1
  have wc:∀ e i,RV X cl u e i->e∈V.map (·.1):=by rcases hst with rfl | rfl <;> assumption
  obtain ⟨e,y⟩:=x
  constructor
  rotate_left
  ·rintro ⟨i,hi,hy,h⟩
   simp only at hy h
   subst hy
   rcases h with ⟨rfl,h⟩ | ⟨he,w,hw,h⟩
   ·exact (Fe hv hu i).2 ((wt.2 i hi).1 h)
   exact (Ff hv hu he i).2 (((wv _ hw).2 i hi).1 h)
  intro hx
  obtain ⟨i,hi,hy⟩:=NZ hv hc hu hx
  simp only at hy ⊢
  subst hy
  refine ⟨i,by omega,rfl,?_⟩
  by_cases he:e=0
  ·subst he
   exact .inl ⟨rfl,(wt.2 i (by omega)).2 ((Fe hv hu i).1 hx)⟩
  have hr:=(Ff hv hu he i).1 hx
  obtain ⟨p,hp,e1⟩:=List.mem_map.1 (wc e i hr)
  refine .inr ⟨he,p.2,?_,((wv p hp).2 i (by omega)).2 (by rw [e1];exact hr)⟩
  rw [<- e1];exact hp
 rw [key s hs (.inl rfl),key t ht (.inr rfl)]
end Go.Proofs.YtjijjfkalheokaaGreatDoor
namespace Go.Proofs.YtjijjfkalheokaaGreatDoor
set_option linter.unusedVariables false
set_option linter.unusedSimpArgs false
open Go.RowKit
set_option maxRecDepth 100000

end Go.Proofs.YtjijjfkalheokaaGreatDoor
namespace Go.Proofs.YtjijjfkalheokaaGreatDoor
set_option linter.unusedVariables false
set_option linter.unusedSimpArgs false
open Go.RowKit
set_option maxRecDepth 100000

theorem Qz (xs ys:List Int) (hn:xs.length<=140737488355328) (hm:ys.length<=140737488355328):FC Tryz.prog 46 [As xs,As ys] [] (fun r o=>o=[]/\r=.b (decide (xs=ys))):=by
 refine A6 Tryz.func46 rfl (by rw [Tryz.ntmps46];simp) ?_
 rw [Tryz.ntmps46]
 simp only [Bf,As]
 (refine Wu @A4 ?_;(repeat clear hK K);repeat refine kq fun K hK=>?_)
 (refine At ?_;intro X Y hX hY;simp only [go_sem])
 refine ⟨fun h=>hX ?_,fun h=>hY ?_⟩
 ·clear hX hY X Y
  (refine Wt ?_;(repeat clear hK K);repeat refine kq fun K hK=>?_)
  refine WH Tryz.results46 ?_
  have:xs ≠ ys:=by rintro rfl;simp at h
  simp [this]
 clear hX hY X Y
 have hlen:xs.length=ys.length:=by simp at h;omega
 clear h
 (refine Wt ?_;(repeat clear hK K);repeat refine kq fun K hK=>?_)
 refine A8 (fun k:Nat=>{ tm:=[(0,.a (.c (.t 1 (Ab xs)))),(1,.a (.c (.t 1 (Ab ys)))),(5,.i k)],hp:=[],n:=26,pin:=0 }) (fun k=>k<=xs.length/\xs.take k=ys.take k) (fun k=>xs.length - k) 0 ?_ ?_ ?_
 ·exact ⟨by omega,rfl⟩
 ·exact WE
 rintro k ⟨hk,he⟩ K hK
 (refine Wu @A4 ?_;(repeat clear hK K);repeat refine kq fun K hK=>?_)
 (refine At ?_;intro X Y hX hY;simp only [go_sem])
 refine ⟨fun h=>hX ?_,fun h=>hY ?_⟩
 rotate_left
 ·have hge:k=xs.length:=by simp at h;omega
  clear hX hY X Y
  (refine Wx ?_;repeat clear hK K)
  (refine Wt ?_;(repeat clear hK K);repeat refine kq fun K hK=>?_)
  refine WH Tryz.results46 ?_
  have:xs=ys:=by
   rw [hge,List.take_length,hlen,List.take_length] at he
   exact he
  simp [this]
 have hlt:k<xs.length:=by simpa using h
 have hlt2:k<ys.length:=by omega
 clear hX hY X Y h
 (refine Wt ?_;(repeat clear hK K);repeat refine kq fun K hK=>?_)
 (refine Ac 8 [(0,0),(1,0),(2,0),(3,1),(4,0),(5,0),(6,0),(7,1),(8,2)] (by kernel_rfl) (by kernel_rfl) (by intro c st h;simp [Ae,AF,VT] at h) ?_)
 (refine Wq (an @A4 (an (Am (gE1 hlt)) (Am (gE1 hlt2)))) ?_;repeat clear hK K)
 (refine At ?_;intro X Y hX hY;simp only [go_sem])
 refine ⟨fun h=>hX ?_,fun h=>hY ?_⟩
 ·clear hX hY X Y
  (refine Wt ?_;(repeat clear hK K);repeat refine kq fun K hK=>?_)
  refine WH Tryz.results46 ?_
  have:xs ≠ ys:=by rintro rfl;simp at h
  simp [this]
 clear hX hY X Y
 (refine Wt ?_;(repeat clear hK K);repeat refine kq fun K hK=>?_)
 refine WD ?_
 refine hK _ (k+1) ⟨by omega,?_⟩ (by omega) ?_
 rotate_left
 ·exact WE
 have h1:xs[k]=ys[k]:=by simpa using h
 rw [gE8 hlt,gE8 hlt2,he,h1]
end Go.Proofs.YtjijjfkalheokaaGreatDoor
namespace Go.Proofs.YtjijjfkalheokaaGreatDoor
set_option linter.unusedVariables false
set_option linter.unusedSimpArgs false
open Go.RowKit
set_option maxRecDepth 100000

end Go.Proofs.YtjijjfkalheokaaGreatDoor
namespace Go.Proofs.YtjijjfkalheokaaGreatDoor
set_option linter.unusedVariables false
set_option linter.unusedSimpArgs false
open Go.RowKit
set_option maxRecDepth 100000
attribute [local go_sem] lga C.pl C.one

def WkC (R:List (List Ar)) (c:List Int):Prop:=∃ B,DvL R B/\FxS (C9 R) (Xv B R.length) c
def MtW {α:Type} (A:List (List Ar)) (kA:Nat->α) (B:List (List Ar)) (kB:Nat->α):Prop:=
 ∀ s t,s<A.length->t<B.length->kA s=kB t->(Dv A s->Dv B t)/\∀ a∈(C9 A).getD s [],∃ b∈(C9 B).getD t [],b.1=a.1/\kB b.2.toNat=kA a.2.toNat
theorem YN {R:List (List Ar)} (hv:Bv R=true) (hn:R.length<=100) {s:Nat} (hs:s<R.length) {a:Ar} (h:a∈(C9 R).getD s []):0<=a.2/\a.2.toNat<R.length:=by
 have hb:=Ht hv hn
 have hm:(C9 R).getD s []∈C9 R:=by
  rw [gE2,gE1 (by omega),Option.getD_some]
  exact gE6 _
 have:=(hb.2 _ hm).2 a h
 omega
theorem YY {α:Type} {R:List (List Ar)} {k:Nat->α} (hv:Bv R=true) (hn:R.length<=100) (hk:MtW R k R k) {c:List Int} (ih:∀ s t,s<R.length->t<R.length->k s=k t->c.getD s 0=c.getD t 0) {s t:Nat} (hs:s<R.length) (ht:t<R.length) (h:k s=k t):Iy c ((C9 R).getD s []) ((C9 R).getD t [])=true:=by
 unfold Iy
 refine List.all_eq_true.2 fun a ha=>?_
 obtain ⟨b,hb,e1,e2⟩:=(hk s t hs ht h).2 a ha
 unfold LN
 refine List.any_eq_true.2 ⟨b,hb,?_⟩
 rw [e1,ih _ _ (YN hv hn ht hb).2 (YN hv hn hs ha).2 e2]
 simp
theorem MtW.le {α:Type} {R:List (List Ar)} {k:Nat->α} (hv:Bv R=true) (hn:R.length<=100) (hk:MtW R k R k) {c:List Int} (hc:WkC R c) {s t:Nat} (hs:s<R.length) (ht:t<R.length) (h:k s=k t):c.getD s 0=c.getD t 0:=by
 obtain ⟨B,hB,i,hi,-⟩:=hc
 have hb:=Ht hv hn
 subst hi
 induction i generalizing s t with
 | zero=>
  show (Xv B R.length).getD s 0=(Xv B R.length).getD t 0
  rw [Jq hs,Jq ht]
  have e:B.getD s false=B.getD t false:=by
   rw [Bool.eq_iff_iff,hB.2 s hs,hB.2 t ht]
   exact ⟨(hk s t hs ht h).1,(hk t s ht hs h.symm).1⟩
  unfold Xu
  rw [e]
 | succ i ih=>
  have ih2:=fun s t hs ht h=>ih (s:=s) (t:=t) hs ht h
  have e:=(Cx (Xj (C9 R) (Xl (C9 R) (Xv B R.length) i)) (C9 R).length).eq s t (by omega) (by omega)
  refine e.2 ?_
  unfold Xj
  rw [ih hs ht h,Se.2 ⟨YY hv hn hk ih2 hs ht h,YY hv hn hk ih2 ht hs h.symm⟩]
theorem WkC.key {R:List (List Ar)} (hv:Bv R=true) (hn:R.length<=100) {c:List Int} (hc:WkC R c):MtW R (fun s=>c.getD s 0) R (fun s=>c.getD s 0):=by
 obtain ⟨B,hB,i,hi,hf⟩:=hc
 have hb:=Ht hv hn
 intro s t hs ht h
 simp only at h ⊢
 have e:=(Cx (Xj (C9 R) c) (C9 R).length).eq s t (by omega) (by omega)
 have e0:(Xh (Xj (C9 R) c) (C9 R).length).1=c:=hf
 rw [e0] at e
 have e2:=congrArg Prod.snd (e.1 h)
 obtain ⟨c1,-⟩:=Se.1 e2
 refine ⟨fun hd=>?_,fun a ha=>?_⟩
 rotate_left
 ·obtain ⟨b,hb2,hq⟩:=List.any_eq_true.1 (List.all_eq_true.1 c1 a ha)
  simp only [Bool.and_eq_true,beq_iff_eq] at hq
  exact ⟨b,hb2,hq.1,hq.2⟩
 have hdv:∀ j,(Xl (C9 R) (Xv B R.length) j).getD s 0=(Xl (C9 R) (Xv B R.length) j).getD t 0->(Xv B R.length).getD s 0=(Xv B R.length).getD t 0:=by
  intro j
  induction j with
  | zero=>exact id
  | succ j ih=>intro q;exact ih (congrArg Prod.fst (((Cx (Xj (C9 R) (Xl (C9 R) (Xv B R.length) j)) (C9 R).length).eq s t (by omega) (by omega)).1 q))
 have q:=hdv i (by rw [<- hi];exact h)
 rw [Jq hs,Jq ht] at q
 refine (hB.2 t ht).1 ?_
 have h2:=(hB.2 s hs).2 hd
 unfold Xu at q
 rw [h2] at q
 generalize B.getD 0 false=x0 at q
 generalize B.getD t false=x1 at q ⊢
 revert q
 cases x0 <;> cases x1 <;> decide
/-! Side by side. -/
def VwW {α:Type} (Z:List (List Ar)) (k:Nat->α) (s:Nat) (X:List (List Ar)) (kX:Nat->α) (s':Nat):Prop:=
 s'<X.length/\k s=kX s'/\(Dv Z s↔Dv X s')/\(∀ a∈(C9 Z).getD s [],∃ b∈(C9 X).getD s' [],b.1=a.1/\kX b.2.toNat=k a.2.toNat)/\∀ b∈(C9 X).getD s' [],∃ a∈(C9 Z).getD s [],a.1=b.1/\k a.2.toNat=kX b.2.toNat
theorem VwW.mt {α:Type} {Z X Y:List (List Ar)} {k kX kY:Nat->α} {s t s' t':Nat} (h1:VwW Z k s X kX s') (h2:VwW Z k t Y kY t') (hm:MtW X kX Y kY) (h:k s=k t):(Dv Z s->Dv Z t)/\∀ a∈(C9 Z).getD s [],∃ b∈(C9 Z).getD t [],b.1=a.1/\k b.2.toNat=k a.2.toNat:=by
 obtain ⟨a1,a2,a3,a4,a5⟩:=h1
 obtain ⟨b1,b2,b3,b4,b5⟩:=h2
 obtain ⟨m1,m2⟩:=hm s' t' a1 b1 (by rw [<- a2,<- b2,h])
 refine ⟨fun d=>b3.2 (m1 (a3.1 d)),fun a ha=>?_⟩
 obtain ⟨x,hx,e1,e2⟩:=a4 a ha
 obtain ⟨y,hy,e3,e4⟩:=m2 x hx
 obtain ⟨z,hz,e5,e6⟩:=b5 y hy
 exact ⟨z,hz,by rw [e5,e3,e1],by rw [e6,e4,e2]⟩
theorem Zp {A R:List (List Ar)} (hA:Bv A=true) {s u:Nat} {e:Int} (hs:s<A.length):WA (Eo A R) s e u↔WA A s e u:=by
 have hE:=Cw true (gEg (gE4 hA).1:BE A=true)
 unfold WA
 refine or_congr (and_congr_right fun _=>IA hE hs) (and_congr_right fun _=>exists_congr fun t=>?_)
 rw [IA hE hs]
 refine and_congr_right fun hr=>?_
 have htl:=hr.lt hs hE
 rw [U6 htl]
 exact exists_congr fun a=>and_congr_right fun ha=>and_congr_right fun _=>IA hE (EJ hA htl ha).2.2.2
theorem Zq {A R:List (List Ar)} (hR:Bv R=true) {s u:Nat} {e:Int} (hs:s<R.length):WA (Eo A R) (A.length+s) e u↔∃ v,u=A.length+v/\WA R s e v:=by
 have hlo:BE R=true:=gEg (gE4 hR).1
 have hE:=Cw true hlo
 have hsh:∀ {t:Nat} {b:Ar},t<R.length->b∈R.getD t []->(b.2+(A.length:Int)).toNat=A.length+b.2.toNat:=fun ht hb=>by have:=EJ hR ht hb;omega
 unfold WA
 constructor
 rotate_left
 ·rintro ⟨v,rfl,⟨h0,h1⟩ | ⟨h0,t,ht,b,hb,h1,h2⟩⟩
  ·exact .inl ⟨h0,(IB hlo).2 ⟨v,rfl,h1⟩⟩
  have htl:=ht.lt hs hE
  refine .inr ⟨h0,A.length+t,(IB hlo).2 ⟨t,rfl,ht⟩,(b.1,b.2+(A.length:Int)),by rw [U7];exact List.mem_map.2 ⟨b,hb,rfl⟩,h1,?_⟩
  simp only
  rw [hsh htl hb]
  exact (IB hlo).2 ⟨v,rfl,h2⟩
 rintro (⟨h0,h1⟩ | ⟨h0,t,ht,a,ha,h1,h2⟩)
 ·obtain ⟨v,rfl,hr⟩:=(IB hlo).1 h1
  exact ⟨v,rfl,.inl ⟨h0,hr⟩⟩
 obtain ⟨v,rfl,hr⟩:=(IB hlo).1 ht
 rw [U7] at ha
 obtain ⟨b,hb,rfl⟩:=List.mem_map.1 ha
 have hvl:=hr.lt hs hE
 simp only at h1 h2
 rw [hsh hvl hb] at h2
 obtain ⟨v2,rfl,hr2⟩:=(IB hlo).1 h2
 exact ⟨v2,rfl,.inr ⟨h0,v,hr,b,hb,h1,hr2⟩⟩
theorem WA.lt {R:List (List Ar)} (hR:Bv R=true) {s u:Nat} {e:Int} (hs:s<R.length) (h:WA R s e u):u<R.length:=by
 have hE:=Cw true (gEg (gE4 hR).1:BE R=true)
 rcases h with ⟨_,h⟩ | ⟨_,t,ht,a,ha,_,h⟩
 ·exact h.lt hs hE
 exact h.lt (EJ hR (ht.lt hs hE) ha).2.2.2 hE
theorem Zg {A R:List (List Ar)} (hz:Bv (Eo A R)=true) (hA:Bv A=true) {s:Nat} (hs:s<A.length) {a:Ar}:a∈(C9 (Eo A R)).getD s []↔a∈(C9 A).getD s []:=by
 rw [EK hz (by rw [CF];omega),EK hA hs]
 constructor
 rotate_left
 ·rintro ⟨u,hu,h1,h2⟩
  exact ⟨u,by rw [CF];omega,(Zp hA hs).2 h1,h2⟩
 rintro ⟨u,_,h1,h2⟩
 have h3:=(Zp hA hs).1 h1
 exact ⟨u,h3.lt hA hs,h3,h2⟩
theorem Zh {A R:List (List Ar)} (hz:Bv (Eo A R)=true) (hR:Bv R=true) {s:Nat} (hs:s<R.length) {a:Ar}:a∈(C9 (Eo A R)).getD (A.length+s) []↔∃ b∈(C9 R).getD s [],a=(b.1,b.2+(A.length:Int)):=by
 rw [EK hz (by rw [CF];omega)]
 constructor
 rotate_left
 ·rintro ⟨b,hb,rfl⟩
  obtain ⟨v,hv,h1,h2⟩:=(EK hR hs).1 hb
  exact ⟨A.length+v,by rw [CF];omega,(Zq hR hs).2 ⟨v,rfl,h1⟩,by simp only;omega⟩
 rintro ⟨u,_,h1,h2⟩
 obtain ⟨v,rfl,h3⟩:=(Zq hR hs).1 h1
 exact ⟨(a.1,(v:Int)),(EK hR hs).2 ⟨v,h3.lt hR hs,h3,rfl⟩,by obtain ⟨e,t⟩:=a;simp only at h2 ⊢;rw [h2];congr 1;omega⟩
theorem MtW.both {α:Type} {A R:List (List Ar)} {kA kR:Nat->α} (hA:Bv A=true) (hR:Bv R=true) (hn:A.length+R.length<=100) (hz:Bv (Eo A R)=true) (h1:MtW A kA A kA) (h2:MtW A kA R kR) (h3:MtW R kR A kA) (h4:MtW R kR R kR):MtW (Eo A R) (ZF A.length kA kR) (Eo A R) (ZF A.length kA kR):=by
 have hlA:BE A=true:=gEg (gE4 hA).1
 have hlo:BE R=true:=gEg (gE4 hR).1
 have hE:=Cw true hlA
 have v1:∀ s,s<A.length->VwW (Eo A R) (ZF A.length kA kR) s A kA s:=fun s hs=>by
  have hk:∀ a∈(C9 A).getD s [],ZF A.length kA kR a.2.toNat=kA a.2.toNat:=fun a ha=>if_pos (YN hA (by omega) hs ha).2
  refine ⟨hs,if_pos hs,UV hE hs,fun a ha=>?_,fun b hb=>?_⟩
  rotate_left
  ·exact ⟨b,(Zg hz hA hs).2 hb,rfl,hk b hb⟩
  have ha:=(Zg hz hA hs).1 ha
  exact ⟨a,ha,rfl,(hk a ha).symm⟩
 have v2:∀ s,s<R.length->VwW (Eo A R) (ZF A.length kA kR) (A.length+s) R kR s:=fun s hs=>by
  have hk:∀ a∈(C9 R).getD s [],ZF A.length kA kR (a.2+(A.length:Int)).toNat=kR a.2.toNat:=fun a ha=>by
   have:=YN hR (by omega) hs ha
   unfold ZF
   rw [if_neg (by omega)]
   congr 1;omega
  refine ⟨hs,by unfold ZF;rw [if_neg (by omega)];congr 1;omega,UW hlo,fun a ha=>?_,fun b hb=>?_⟩
  rotate_left
  ·exact ⟨_,(Zh hz hR hs).2 ⟨b,hb,rfl⟩,rfl,hk b hb⟩
  obtain ⟨b,hb,rfl⟩:=(Zh hz hR hs).1 ha
  exact ⟨b,hb,rfl,(hk b hb).symm⟩
 have hv:∀ s,s<(Eo A R).length->s<A.length\/∃ s',s'<R.length/\s=A.length+s':=fun s hs=>by
  rw [CF] at hs
  by_cases e:s<A.length
  ·exact .inl e
  exact .inr ⟨s - A.length,by omega,by omega⟩
 intro s t hs ht h
 rcases hv s hs with hs2 | ⟨s,hs2,rfl⟩ <;> rcases hv t ht with ht2 | ⟨t,ht2,rfl⟩
 ·exact (v1 s hs2).mt (v1 t ht2) h1 h
 ·exact (v1 s hs2).mt (v2 t ht2) h2 h
 ·exact (v2 s hs2).mt (v1 t ht2) h3 h
 exact (v2 s hs2).mt (v2 t ht2) h4 h
section
variable {R X : List (List Ar)} {f kX : Nat -> Nat}
theorem QuX.mt1W (h:QuX R X f kX) (hR:Bv R=true) (hX:Bv X=true):MtW R f X kX:=by
 have hE:=Cw true (gEg (gE4 hR).1:BE R=true)
 intro s j hs hj e
 refine ⟨fun ⟨g,hg,hd⟩=>?_,fun a ha=>?_⟩
 ·obtain ⟨i,hi,hp,ei⟩:=h.path hR hX hs hj e hg
  have hl:=h.lp g i (hg.lt hs hE) hi ei.symm ⟨g,.refl _,hd⟩
  exact ⟨i,hp,i,(Gs hX).2 hl,.refl _⟩
 obtain ⟨u,hul,hw,hu⟩:=(EK hR hs).1 ha
 rcases hw with ⟨h0,hr⟩ | ⟨h0,t,hr,b,hb,h1,h2⟩
 ·obtain ⟨i,hi,hp,ei⟩:=h.path hR hX hs hj e hr
  exact ⟨(0,(i:Int)),(EK hX hj).2 ⟨i,hi,.inl ⟨rfl,hp⟩,rfl⟩,h0.symm,by rw [hu];simpa using ei⟩
 obtain ⟨i,hi,hp,ei⟩:=h.path hR hX hs hj e hr
 have htl:=hr.lt hs hE
 obtain ⟨i2,q1,q2,q3⟩:=h.fw t i htl hi ei.symm _ hb (.inl (by rw [h1];exact h0))
 obtain ⟨i3,p1,p2,p3⟩:=h.path hR hX (EJ hR htl hb).2.2.2 q1 q3.symm h2
 exact ⟨(a.1,(i3:Int)),(EK hX hj).2 ⟨i3,p1,.inr ⟨h0,i,hp,_,q2,h1,by simpa using p2⟩,rfl⟩,rfl,by rw [hu];simpa using p3⟩
theorem QuX.stepW (h:QuX R X f kX) (hR:Bv R=true) (hX:Bv X=true) (hk:MtW R f R f) {i j:Nat} {u:Nat} (hu:u<R.length) (hj:j<X.length) (e:f u=kX j) (hi:i∈WP true X j):i<X.length/\∃ v,v<R.length/\Rc (WP true R) u v/\f v=kX i:=by
 have hE:=Cw true (gEg (gE4 hR).1:BE R=true)
 obtain ⟨i',h1,h2,h3⟩:=h.bw j _ hj ((Gs hX).1 hi)
 have hii:i=i':=by simp only at h2;omega
 subst hii
 refine ⟨h1,?_⟩
 rcases h3 with ⟨s,hs,es,b,hb,eb,fb,_⟩ | ⟨_,rfl,_⟩
 rotate_left
 ·exact ⟨u,hu,.refl _,e⟩
 have hbl:=cS hR hb
 have hbs:(0,b.2)∈(C9 R).getD s []:=(EK hR hs).2 ⟨b.2.toNat,hbl.2,.inl ⟨rfl,.one ((Gs hR).2 (by
  obtain ⟨x,y⟩:=b
  simp only at eb hbl ⊢
  subst eb
  rw [Int.toNat_of_nonneg hbl.1]
  exact hb))⟩,by simp only;omega⟩
 obtain ⟨c,hc,e1,e2⟩:=(hk s u hs hu (by rw [es,e])).2 _ hbs
 obtain ⟨v,hvl,hw,hv⟩:=(EK hR hu).1 hc
 rcases hw with ⟨_,hr⟩ | ⟨h0,_⟩
 ·exact ⟨v,hvl,hr,by rw [hv] at e2;simp only [Int.toNat_natCast] at e2;rw [e2,fb]⟩
 exact absurd e1 h0
theorem QuX.backW (h:QuX R X f kX) (hR:Bv R=true) (hX:Bv X=true) (hk:MtW R f R f) {i j:Nat} {u:Nat} (hu:u<R.length) (hj:j<X.length) (e:f u=kX j) (hr:Rc (WP true X) j i):i<X.length/\∃ v,v<R.length/\Rc (WP true R) u v/\f v=kX i:=by
 induction hr with
 | refl=>exact ⟨hj,u,hu,.refl _,e⟩
 | tail _ hw ih=>
  obtain ⟨h1,v,hv,hp,ev⟩:=ih
  obtain ⟨h2,w,hw2,hp2,ew⟩:=h.stepW hR hX hk hv h1 ev hw
  exact ⟨h2,w,hw2,hp.trans hp2,ew⟩
theorem QuX.mt2W (h:QuX R X f kX) (hR:Bv R=true) (hX:Bv X=true) (hk:MtW R f R f):MtW X kX R f:=by
 have hE:=Cw true (gEg (gE4 hR).1:BE R=true)
 intro j s hj hs e
 refine ⟨fun ⟨i,hi,w,hw,hwi⟩=>?_,fun a ha=>?_⟩
 ·obtain ⟨hil,u,hu,hp,eu⟩:=h.backW hR hX hk hs hj e.symm hi
  obtain ⟨i',h1,h2,h3⟩:=h.bw i _ hil ((Gs hX).1 hw)
  have hii:w=i':=by simp only at h2;omega
  subst hii
  have hdu:Dv R u:=by
   rcases h3 with ⟨_,_,_,_,_,_,_,hor⟩ | ⟨_,rfl,s',hs',es',hd⟩
   rotate_left
   ·exact (hk s' u hs' hu (by rw [es',eu])).1 hd
   have hne:kX w ≠ kX i:=by simpa using hor
   refine cy hR (P:=fun u=>f u=kX i) (fun u hu eu=>?_) _ u hu eu (Nat.le_refl _)
   obtain ⟨_,x,hx,hux,ex⟩:=h.stepW hR hX hk hu hil eu hw
   obtain ⟨_,y,hy,hxy,ey⟩:=h.backW hR hX hk hx h1 ex hwi
   obtain ⟨z,hz,hzx⟩:=cL hux (fun q=>hne (by rw [<- ex,<- q,eu]))
   exact ⟨z,y,hz,hzx.trans hxy,hy,ey⟩
  obtain ⟨g,hg,hd⟩:=hdu
  exact ⟨g,hp.trans hg,hd⟩
 obtain ⟨i,hil0,hw,hi⟩:=(EK hX hj).1 ha
 rcases hw with ⟨h0,hr⟩ | ⟨h0,i1,hr,b0,hb,hb1,hr2⟩
 ·obtain ⟨_,v,hv,hp,ev⟩:=h.backW hR hX hk hs hj e.symm hr
  exact ⟨(0,(v:Int)),(EK hR hs).2 ⟨v,hv,.inl ⟨rfl,hp⟩,rfl⟩,h0.symm,by rw [hi];simpa using ev⟩
 obtain ⟨hil,v,hv,hp,ev⟩:=h.backW hR hX hk hs hj e.symm hr
 obtain ⟨i2,q1,q2,q3⟩:=h.bw i1 b0 hil hb
 rcases q3 with ⟨s',hs',es',b,hb2,eb,fb,_⟩ | ⟨h9,_⟩
 rotate_left
 ·exact absurd (hb1.symm.trans h9) h0
 have hbl:=EJ hR hs' hb2
 have hbs:b∈(C9 R).getD s' []:=(EK hR hs').2 ⟨b.2.toNat,hbl.2.2.2,.inr ⟨by rw [eb,hb1];exact h0,s',.refl _,b,hb2,rfl,.refl _⟩,by omega⟩
 obtain ⟨c,hc,e1,e2⟩:=(hk s' v hs' hv (by rw [es',ev])).2 _ hbs
 obtain ⟨w,hwl,hw2,hwe⟩:=(EK hR hv).1 hc
 have ew:f w=kX i2:=by rw [hwe] at e2;simp only [Int.toNat_natCast] at e2;rw [e2,fb]
 have hi2:b0.2.toNat=i2:=by rw [q2];simp
 rw [hi2] at hr2
 obtain ⟨_,z,hz,hwz,ez⟩:=h.backW hR hX hk hwl q1 ew hr2
 rcases hw2 with ⟨h8,_⟩ | ⟨_,t,ht,d,hd,hd1,hd2⟩
 ·exact absurd (by rw [<- hb1,<- eb,<- e1,h8]) h0
 exact ⟨(a.1,(z:Int)),(EK hR hs).2 ⟨z,hz,.inr ⟨h0,t,hp.trans ht,d,hd,by rw [hd1,e1,eb,hb1],hd2.trans hwz⟩,rfl⟩,rfl,by rw [hi];simpa using ez⟩
theorem QuX.mt3W (h:QuX R X f kX):MtW X kX X kX:=fun i j hi hj e=>by
 have:=h.inj i j hi hj e
 subst this
 exact ⟨id,fun a ha=>⟨a,ha,rfl,rfl⟩⟩
end
theorem Pl (L:List C) (s:Nat) (x y:C):(L.set s x).set s y=L.set s y:=by simp
theorem On (x y:Operand) (a:Ar):FR Tryz.prog .neq 46 x y [.int .i64 a.1,.int .i64 a.2] [.int .i64 a.1,.int .i64 a.2] false=True:=by
 have h:=Nc x y a a
 rw [gEg (rfl:a=a)] at h
 exact h
theorem LX (r:List Ar) (hn:r.length<=1000000):FC Tryz.prog 54 [.a (.c (.t 2 (Ao r))),.a (.c (.t 2 (Ao r)))] [] (fun x o=>o=[]/\x=.b true):=by
 refine A6 Tryz.func54 rfl (by rw [Tryz.ntmps54];simp) ?_
 rw [Tryz.ntmps54]
 simp only [Bf]
 have d0:((r.length:Int) != (r.length:Int))=false:=by simp
 (refine Wu (an @A2 (an @Ak @d0)) ?_;(repeat clear hK K);repeat refine kq fun K hK=>?_)
 refine WC ?_
 (refine Wt ?_;(repeat clear hK K);repeat refine kq fun K hK=>?_)
 refine A8 (fun k:Nat=>{ tm:=[(0,.a (.c (.t 2 (Ao r)))),(1,.a (.c (.t 2 (Ao r)))),(5,.i k)],hp:=[],n:=26,pin:=0 }) (fun k=>k<=r.length) (fun k=>r.length - k) 0 ?_ ?_ ?_
 ·omega
 ·exact WE
 rintro k hk K hK
 by_cases hlt:k<r.length
 rotate_left
 ·have d1:decide ((k:Int)<(r.length:Int))=false:=by simpa using hlt
  (refine Wu (an @d1 (an @A2 @Ak)) ?_;(repeat clear hK K);repeat refine kq fun K hK=>?_)
  refine WC ?_
  (refine Wx ?_;repeat clear hK K)
  (refine Wt ?_;(repeat clear hK K);repeat refine kq fun K hK=>?_)
  exact Lq [] Tryz.results54
 have d1:decide ((k:Int)<(r.length:Int))=true:=by simpa using hlt
 have hat:=AL hlt
 have d2:(!decide (r[k]=r[k]))=false:=by simp
 (refine Wu (an @d1 (an @A2 @Ak)) ?_;(repeat clear hK K);repeat refine kq fun K hK=>?_)
 refine WB ?_
 (refine Wt ?_;(repeat clear hK K);repeat refine kq fun K hK=>?_)
 (refine Ac 8 [(0,0),(1,0),(2,0),(3,1),(4,0),(5,0),(6,0),(7,1),(8,2)] (by kernel_rfl) (by kernel_rfl) (by intro c st h;simp [Ae,AF,VT] at h) ?_)
 (repeat (first | ((first | refine Rz rfl rfl rfl ?_ | refine RA rfl rfl rfl ?_);intro K1 hK1;simp only [go_sem,hat,A2,Ak,On,Dm,decide_true,Bool.not_true,beq_self_eq_true,Bool.and_self,true_and];(first | refine hK1 _ ?_ | refine AD (hK1 _ ?_));clear hK1 K1) | (refine RB rfl rfl rfl rfl ?_;intro K1 hK1;simp only [go_sem,hat,A2,Ak,On,Dm,decide_true,Bool.not_true,beq_self_eq_true,Bool.and_self,true_and];(first | refine hK1 _ ?_ | refine AD (hK1 _ ?_));clear hK1 K1) | (refine H9 ?_;refine hK _ ?_;clear hK K)))
 refine WC ?_
 (refine Wt ?_;(repeat clear hK K);repeat refine kq fun K hK=>?_)
 refine WD ?_
 refine hK _ (k+1) (by omega) (by omega) ?_
 exact WE
theorem JC (R:List (List Ar)) (hn:R.length<=1000000) (hr:∀ r∈R,r.length<=1000000):FC Tryz.prog 29 [B7 R,B7 R] [] (fun x o=>o=[]/\x=.b true):=by
 refine A6 Tryz.func29 rfl (by rw [Tryz.ntmps29];simp) ?_
 rw [Tryz.ntmps29]
 simp only [Bf,B7]
 have d0:((R.length:Int) != (R.length:Int))=false:=by simp
 (refine Wu (an @A3 @d0) ?_;(repeat clear hK K);repeat refine kq fun K hK=>?_)
 refine WC ?_
 (refine Wt ?_;(repeat clear hK K);repeat refine kq fun K hK=>?_)
 refine A8 (fun k:Nat=>{ tm:=[(2,.a (.c (.p 0 0))),(3,.a (.c (.p 1 0))),(5,.i k)],hp:=[.r ⟨25,1,false,[.t 1 (Ah R)]⟩,.r ⟨25,1,false,[.t 1 (Ah R)]⟩],n:=32,pin:=0 }) (fun k=>k<=R.length) (fun k=>R.length - k) 0 ?_ ?_ ?_
 ·omega
 ·exact WE
 rintro k hk K hK
 by_cases hlt:k<R.length
 rotate_left
 ·have d1:decide ((k:Int)<(R.length:Int))=false:=by simpa using hlt
  (refine Wu (an @d1 @A3) ?_;(repeat clear hK K);repeat refine kq fun K hK=>?_)
  refine WC ?_
  (refine Wx ?_;repeat clear hK K)
  (refine Wt ?_;(repeat clear hK K);repeat refine kq fun K hK=>?_)
  exact Lq [] Tryz.results29
 have d1:decide ((k:Int)<(R.length:Int))=true:=by simpa using hlt
 have hg:=gE1 hlt
 (refine Wu (an @d1 @A3) ?_;(repeat clear hK K);repeat refine kq fun K hK=>?_)
 refine WB ?_
 (refine Wt ?_;(repeat clear hK K);repeat refine kq fun K hK=>?_)
 (refine Ac 10 [(0,0),(1,1),(2,0),(3,0),(4,1),(5,0),(6,1),(7,0),(8,0),(9,1),(10,2),(11,0)] (by kernel_rfl) (by kernel_rfl) (by intro c st h;simp [Ae,AF,VT] at h) ?_)
 (refine Wq (an @A3 (Ag hg)) ?_;repeat clear hK K)
 (refine MF (LX R[k] (hr _ (gE6 hlt))) ?_;intro K1 hK1)
 rintro _ _ ⟨rfl,rfl⟩
 (refine Wz ?_;clear hK1 K1)
 (refine Wq @Bool.not_true ?_;repeat clear hK K)
 refine WC ?_
 (refine Wt ?_;(repeat clear hK K);repeat refine kq fun K hK=>?_)
 refine WD ?_
 refine hK _ (k+1) (by omega) (by omega) ?_
 exact WE
end Go.Proofs.YtjijjfkalheokaaGreatDoor
