/- Lemmas. -/
import Derived.Test.YtjijjfkalheokaaGreatDoorZk
import Derived.Test.YtjijjfkalheokaaGreatDoorG11
import Derived.Test.YtjijjfkalheokaaGreatDoorG45
import Derived.Test.YtjijjfkalheokaaGreatDoorMD
import Derived.Test.YtjijjfkalheokaaGreatDoorShlf
import Derived.Shelf.SlSortCmp.NoneTotal
import Derived.Test.YtjijjfkalheokaaGreatDoorTj1
import Derived.Shelf.SlSortCmp.Kit1
import Derived.Test.YtjijjfkalheokaaGreatDoorMF
import Derived.Test.YtjijjfkalheokaaGreatDoorShlfS
import Derived.Shelf.Sort.Plain
import Derived.Shelf.Slices.In.SortNone
import Derived.Test.YtjijjfkalheokaaGreatDoorG42
import Derived.Test.YtjijjfkalheokaaGreatDoorMK
namespace Go.Proofs.YtjijjfkalheokaaGreatDoor
set_option linter.unusedVariables false
set_option linter.unusedSimpArgs false
open Go.RowKit
set_option maxRecDepth 100000

theorem DR {xs:List Ar} {i:Nat} (h:i<xs.length):(((Ax xs).drop (i*2)).take 2)=[.v (.int .i64 xs[i].1),.v (.int .i64 xs[i].2)]:=by
 have:=congrArg (List.map C.ofTr) (AL h)
 rw [List.map_take,List.map_drop,Cp] at this
 exact this
theorem Nb {ys:List Ar} {m:Nat} (h:m<ys.length) {a b:Int}:((Ax ys).set (m*2) (.v (.int .i64 a))).set (m*2+1) (.v (.int .i64 b))=Ax (ys.set m (a,b)):=by
 induction ys generalizing m with
 | nil=>simp at h
 | cons y r ih=>
  have e:Ax (y :: r)=C.v (.int .i64 y.1) :: C.v (.int .i64 y.2) :: Ax r:=rfl
  cases m with
  | zero=>rw [e];rfl
  | succ m=>
   have e2:Ax ((y :: r).set (m+1) (a,b))=C.v (.int .i64 y.1) :: C.v (.int .i64 y.2) :: Ax (r.set m (a,b)):=rfl
   rw [e,e2,<- ih (by simpa using h),show (m+1)*2=m*2+1+1 by omega]
   rfl
theorem Nc (x y:Operand) (a b:Ar):FR Tryz.prog .neq 46 x y [.int .i64 a.1,.int .i64 a.2] [.int .i64 b.1,.int .i64 b.2] (!decide (a=b))=True:=by
 rw [<- Dm]
 refine eq_true ?_
 have:=(TW x y [.v (.int .i64 a.1),.v (.int .i64 a.2)] [.v (.int .i64 b.1),.v (.int .i64 b.2)] _ _ rfl rfl rfl rfl).2
 simpa [VD] using this
theorem Nd:∀ l:List Ar,LJ l=PD l:=by
 have h:∀ (l:List Ar) (p:Ar),Ei p l=DC p l:=by
  intro l
  induction l with
  | nil=>intro p;rfl
  | cons y ys ih=>intro p;simp only [Ei,DC,ih]
 intro l
 cases l with
 | nil=>rfl
 | cons x xs=>simp only [LJ,PD,h]
attribute [local go_sem] List.map_cons List.map_nil List.take_succ_cons List.take_zero List.drop_zero List.drop_succ_cons C.pl C.one List.all_cons List.all_nil Bool.and_true
set_option maxHeartbeats 1000000 in
theorem It (L:List Ar) (hn:L.length<=100000000):FC Tryz.prog 68 [.a (.c (.s 0 L.length))] [.r ⟨46,2,true,Ax L⟩]
  (fun r o=>r=.a (.c (.s 0 (LJ L).length))/\∃ rest us,Fz rest us/\(L=[]->rest=[])/\o=[.r ⟨46,2,true,Ax (LJ L)++rest⟩]):=by
 refine A6 Tryz.func68 rfl (by rw [Tryz.ntmps68];simp) ?_
 rw [Tryz.ntmps68]
 simp only [Bf]
 (refine Wt ?_;(repeat clear hK K);repeat refine kq fun K hK=>?_)
 (refine At ?_;intro X Y hX hY;simp only [go_sem])
 refine ⟨fun h=>hX ?_,fun h=>hY ?_⟩
 ·clear hX hY X Y
  (refine Wt ?_;(repeat clear hK K);repeat refine kq fun K hK=>?_)
  refine WH Tryz.results68 ?_
  have hc:LJ L=L:=by
   match L,h with
   | [],_=>rfl
   | [x],_=>rfl
   | _ :: _ :: _,h=>simp at h;omega
  rw [hc]
  exact ⟨rfl,[],[],trivial,fun _=>rfl,by simp⟩
 clear hX hY X Y
 have h2:2<=L.length:=by simp at h;omega
 clear h
 (refine Wt ?_;(repeat clear hK K);repeat refine kq fun K hK=>?_)
 refine A8 (fun k:Nat=>{ tm:=[(0,.a (.c (.s 0 L.length))),(3,.i (k+1:Nat))],hp:=[.r ⟨46,2,true,Ax L⟩],n:=61,pin:=1 }) (fun k=>k+1<=L.length/\LJ L=L.take (k+1)++Ei (L.getD k (0,0)) (L.drop (k+1))) (fun k=>L.length - k) 0 ?_ ?_ ?_
 ·refine ⟨by omega,?_⟩
  match L,h2 with
  | x :: r,_=>simp [LJ]
 ·exact WE
 rintro k ⟨hk,he⟩ K hK
 (refine Wt ?_;(repeat clear hK K);repeat refine kq fun K hK=>?_)
 (refine At ?_;intro X Y hX hY;simp only [go_sem])
 refine ⟨fun h=>hX ?_,fun h=>hY ?_⟩
 rotate_left
 ·have hge:k+1=L.length:=by simp at h;omega
  clear hX hY X Y
  (refine Wx ?_;repeat clear hK K)
  (refine Wt ?_;(repeat clear hK K);repeat refine kq fun K hK=>?_)
  refine WH Tryz.results68 ?_
  have hc:LJ L=L:=by rw [he,hge];simp [Ei]
  rw [hc]
  exact ⟨rfl,[],[],trivial,fun _=>rfl,by simp⟩
 have hlt:k+1<L.length:=by simp at h;omega
 have hlt0:k<L.length:=by omega
 clear hX hY X Y h
 have e1:((k+1:Nat):Int) - 1=(k:Int):=by omega
 have g0:L.getD k (0,0)=L[k]:=by simp [List.getD,hlt0]
 rw [g0] at he
 have hst:=GW he (Nat.le_refl _) (gE1 hlt)
 (refine Wt ?_;(repeat clear hK K);repeat refine kq fun K hK=>?_)
 (refine Ac 9 [(0,0),(1,0),(2,0),(3,1),(4,0),(5,0),(6,0),(7,0),(8,1),(9,2)] (by kernel_rfl) (by kernel_rfl) (by intro c st h;simp [Ae,AF,VT] at h) ?_)
 (refine Wq (an @e1 (an (DR hlt) (an (DR hlt0) (an @Ap (an @MJ (an @Dm @true_and)))))) ?_;repeat clear hK K)
 (refine At ?_;intro X Y hX hY;simp only [go_sem])
 refine ⟨fun h=>hX ?_,fun h=>hY ?_⟩
 rotate_left
 ·clear hX hY X Y
  have hne:L[k+1] ≠ L[k]:=by simpa using h
  clear h
  (refine Wt ?_;(repeat clear hK K);repeat refine kq fun K hK=>?_)
  refine WD ?_
  refine hK _ (k+1) ⟨hlt,?_⟩ (by omega) ?_
  rotate_left
  ·exact WE
  have h1:=hst.2.1 hne
  rw [hst.2.2 hne rfl] at h1
  have:L.getD (k+1) (0,0)=L[k+1]:=by simp [List.getD,hlt]
  rw [this]
  exact h1
 clear hX hY X Y
 have heq:L[k+1]=L[k]:=by simpa using h
 clear h
 have hI:=hst.1 heq
 clear hst he
 (refine Wt ?_;(repeat clear hK K);repeat refine kq fun K hK=>?_)
 refine A8 (fun q:Nat × Nat × List Ar=>{ tm:=[(0,.a (.c (.s 0 L.length))),(3,.i q.1),(4,.a (.c (.w 0 (k+1) (L.length - (k+1)) 2))),(5,.i (q.2.1+1:Nat))],hp:=[.r ⟨46,2,true,Ax q.2.2⟩],n:=61,pin:=1 })
  (fun q=>q.2.2.length=L.length/\(∀ x∈q.2.2,x∈L)/\q.1<=k+1+q.2.1/\k+2+q.2.1<=L.length/\LJ L=q.2.2.take q.1++Ei (q.2.2.getD (k+1+q.2.1) (0,0)) (q.2.2.drop (k+2+q.2.1))) (fun q=>L.length - q.2.1) (k+1,0,L) ?_ ?_ ?_
 ·refine ⟨rfl,fun x h=>h,by simp,by simp only;omega,?_⟩
  have:L.getD (k+1) (0,0)=L[k+1]:=by simp [List.getD,hlt]
  simp only [Nat.add_zero,this]
  exact hI
 ·exact WE
 clear hI
 rintro ⟨m,j,ys⟩ ⟨hyl,hys,hm,hj,he⟩ K hK
 simp only at hyl hys hm hj he
 (refine Wt ?_;(repeat clear hK K);repeat refine kq fun K hK=>?_)
 (refine At ?_;intro X Y hX hY;simp only [go_sem])
 refine ⟨fun h=>hX ?_,fun h=>hY ?_⟩
 rotate_left
 ·clear hX hY X Y
  (refine Wx ?_;repeat clear hK K)
  have hend:ys.length<=k+2+j:=by simp at h;omega
  have hfin:=N9 he hend
  have hm2:m<L.length:=by omega
  (refine Wt ?_;(repeat clear hK K);repeat refine kq fun K hK=>?_)
  refine Ai rfl ?_;intro K1 hK1
  refine Mw (n:=L.length - m) (off:=m) (k:=2) (id:=0) rfl rfl Tryz.underlying42 ty46 (by simp only [go_sem]) rfl (by omega) rfl rfl (by simp only [Ap];omega) ?_
  intro zs hz1 hz2
  have hset:DJ (Ax ys) (m*2) zs=Ax (ys.take m)++zs:=by
   rw [Kp _ _ _ (by rw [Ap];omega),DQ]
  simp only [hset,List.set_cons_zero,go_sem]
  refine hK1 _ ?_;clear hK1 K1
  (refine Wt ?_;(repeat clear hK K);repeat refine kq fun K hK=>?_)
  refine WH Tryz.results68 ?_
  have hc:LJ L=ys.take m:=hfin
  rw [hc]
  refine ⟨by rw [List.length_take,Nat.min_eq_left (by omega)],zs,zs.map fun _=>Tr.v (.int .i64 0),?_,fun h0=>by rw [h0] at h2;simp at h2,rfl⟩
  have:zs=zs.map id:=by simp
  rw [this,List.map_map]
  exact Fz.map fun c hc=>by
   have:=hz2 c hc
   simp at this
   subst this
   exact .inl rfl
 have hlt:k+1+(j+1)<ys.length:=by simp at h;omega
 have hlt0:k+1+j<ys.length:=by omega
 have hw:((j+1:Nat):Int)<((L.length - (k+1):Nat):Int):=by omega
 have hw0:(j:Int)<((L.length - (k+1):Nat):Int):=by omega
 clear hX hY X Y h
 have e1:((j+1:Nat):Int) - 1=(j:Int):=by omega
 have g0:ys.getD (k+1+j) (0,0)=ys[k+1+j]:=by simp [List.getD,hlt0]
 rw [g0,show k+2+j=k+1+(j+1) from by omega] at he
 have hst:=GW he (by omega) (gE1 hlt)
 (refine Wt ?_;(repeat clear hK K);repeat refine kq fun K hK=>?_)
 have hk1:k+1+(j+1)=k+1+(j+1):=rfl
 (refine Ac 9 [(0,0),(1,0),(2,0),(3,1),(4,0),(5,0),(6,0),(7,0),(8,1),(9,2)] (by kernel_rfl) (by kernel_rfl) (by intro c st h;simp [Ae,AF,VT] at h) ?_)
 (refine Wq (an @e1 (an (DR hlt) (an (DR hlt0) (an @Ap (an @Nc (an @Dm @true_and)))))) ?_;repeat clear hK K)
 (refine At ?_;intro X Y hX hY;simp only [go_sem])
 refine ⟨fun h=>hX ?_,fun h=>hY ?_⟩
 rotate_left
 ·clear hX hY X Y
  have heq:ys[k+1+(j+1)]=ys[k+1+j]:=by simpa using h
  clear h
  (refine Wt ?_;(repeat clear hK K);repeat refine kq fun K hK=>?_)
  refine WD ?_
  refine hK _ (m,j+1,ys) ⟨hyl,hys,by simp only;omega,by simp only;omega,?_⟩ (by simp only;omega) ?_
  rotate_left
  ·exact WE
  have h1:=hst.1 heq
  have:ys.getD (k+1+(j+1)) (0,0)=ys[k+1+(j+1)]:=by simp [List.getD,hlt]
  simp only
  rw [this,show k+2+(j+1)=k+1+(j+1)+1 from by omega]
  exact h1
 clear hX hY X Y
 have hne:ys[k+1+(j+1)] ≠ ys[k+1+j]:=by simpa using h
 clear h
 have hm1:m<ys.length:=by omega
 (repeat (first | (refine AC ?_;intro K hK) | refine Aj ?_ | refine Ad ?_ | (refine B5 rfl rfl ?_;intro K1 hK1;simp only [go_sem,DR hlt,Ap,DJ,Nb hm1];(first | refine hK1 _ ?_ | refine AD (hK1 _ ?_));clear hK1 K1) | ((first | refine Aa ?_ | refine Al ?_);refine hK _ ?_;clear hK K)))
 refine WD ?_
 have hst2:=hst.2.1 hne
 have hpp:(ys.set m ys[k+1+(j+1)]).getD (k+1+(j+1)) (0,0)=ys[k+1+(j+1)]:=by
  rw [List.getD,gE5 (by omega),gE1 hlt];rfl
 refine hK _ (m+1,j+1,ys.set m ys[k+1+(j+1)]) ⟨by simp [hyl],?_,by simp only;omega,by simp only;omega,?_⟩ (by simp only;omega) ?_
 rotate_left
 ·simp only
  rw [hpp,show k+2+(j+1)=k+1+(j+1)+1 from by omega]
  exact hst2
 ·exact WE
 intro x hx
 rcases List.mem_or_eq_of_mem_set hx with hx | rfl
 ·exact hys x hx
 exact hys _ (gE6 hlt)

open Go.RowKit Go.Shelf Go.Sort
def X2 (a:Ar):List Value:=[.int .i64 a.1,.int .i64 a.2]
theorem Gm (xs:List Ar):Ax xs=(xs.flatMap X2).map C.v:=by simp [Ax,X2,List.map_flatMap]
theorem Vu:Sort.SWO (ltOf Gc) where
 irrefl x:=by rw [show ltOf Gc x x=WK x x from Ce x x];exact Ef x
 trans x y z h1 h2:=by
  rw [show ltOf Gc x y=WK x y from Ce x y] at h1
  rw [show ltOf Gc y z=WK y z from Ce y z] at h2
  rw [show ltOf Gc x z=WK x z from Ce x z]
  exact D7 h1 h2
 ntrans x y z h1 h2:=by
  rw [show ltOf Gc x y=WK x y from Ce x y] at h1
  rw [show ltOf Gc y z=WK y z from Ce y z] at h2
  rw [show ltOf Gc x z=WK x z from Ce x z]
  cases h3:WK x z with
  | false=>rfl
  | true=>
   have h1:¬ WK x y=true:=by rw [h1];simp
   have h2:¬ WK y z=true:=by rw [h2];simp
   rw [C0] at h1 h2 h3
   omega
theorem Nf (xs:List Ar):flatK X2 2 xs.toArray=(xs.flatMap X2).toArray:=by
 apply Array.ext
 ·simp [Dc X2 2 (fun _=>rfl)]
 intro t h1 h2
 simp only [size_flatK,List.size_toArray] at h1
 have hd:t / 2<xs.length:=Nat.div_lt_of_lt_mul (by rw [Nat.mul_comm];exact h1)
 have hm:t % 2<2:=Nat.mod_lt _ (by omega)
 have hg:=Fy X2 2 (fun _=>rfl) xs (t / 2) (t % 2) xs[t / 2] (gE1 hd) hm
 have htd:t / 2*2+t % 2=t:=by rw [Nat.mul_comm];exact Nat.div_add_mod t 2
 rw [htd] at hg
 have h3:=get_flatK X2 2 xs.toArray t (by simpa using h1)
 rw [getElem!_pos _ t (by simpa using h1)] at h3
 rw [h3]
 have h4:(xs.toArray)[t / 2]! = xs[t / 2]:=by simp [hd]
 rw [h4,getElem!_pos _ _ (by simp [X2];omega)]
 have hlt:t<(xs.flatMap X2).length:=by rw [Dc X2 2 (fun _=>rfl)];exact h1
 rw [gE1 hlt,gE1 (by simp [X2];omega)] at hg
 exact (Option.some.inj hg).symm
def Fx (xs:List Ar):List Ar:=xs.mergeSort fun x y=>!(ltOf Gc) y x
theorem LK (l:List Ar):(Fx l).Perm l:=List.mergeSort_perm _ _
theorem PK (l:List Ar):(Fx l).Pairwise fun a b=>WK b a=false:=by
 have e (x y:Ar):ltOf Gc x y=WK x y:=Ce x y
 have h:=List.pairwise_mergeSort (le:=fun x y=>!(ltOf Gc) y x) (fun a b c h1 h2=>by
  simp only [e,Bool.not_eq_true'] at *
  cases h3:WK c a with
  | false=>rfl
  | true=>
   have h1:¬ WK b a=true:=by rw [h1];simp
   have h2:¬ WK c b=true:=by rw [h2];simp
   rw [C0] at h1 h2 h3
   omega) (fun a b=>by
  simp only [e]
  cases h1:WK b a <;> cases h2:WK a b <;> simp
  rw [C0] at h1 h2;omega) l
 refine h.imp ?_
 intro a b hab
 simpa [e] using hab
theorem Iu {w w':World} (h:Fp (fun _=>False) w w'):∃ q os,w'=grow (w.drewN q) os:=by
 refine ⟨w'.drawn - w.drawn,w'.heap.extract w.heap.size w'.heap.size,?_⟩
 obtain ⟨hp,tp,dr,o,ou⟩:=w'
 obtain ⟨h1,h2,h3,h4,h5,h6⟩:=h
 simp only at h1 h2 h3 h4 h5 h6
 subst h1;subst h2;subst h3
 simp only [grow,World.drewN]
 congr 1
 rotate_left
 ·omega
 apply Array.ext'
 simp only [Array.toList_append,Array.toList_extract]
 apply List.ext_getElem?
 intro i
 by_cases hi:i<w.heap.size
 ·rw [gEa (by simpa using hi)]
  have:=h5 i hi (fun h=>h)
  simpa using this
 rw [gEb (by simpa using hi)]
 simp only [List.extract_eq_take_drop,Array.length_toList,List.getElem?_take,List.getElem?_drop]
 split
 ·congr 1;omega
 rename_i hn;simp;omega
theorem UF (gg:Gh) (ℓ:Loc):¬ Lv [] gg ℓ:=by
 intro hl
 cases ℓ with
 | ob id=>rcases hl with ⟨r,h,_⟩ | ⟨kv,h⟩ <;> simp at h
 | cl id j=>obtain ⟨r,k,cs,h,_⟩:=hl;simp at h
theorem X3 {g:Gh} {e:TypeId} {L:List Ar} {ℓ:Loc}:Lv [.r ⟨e,2,true,Ax L⟩] g ℓ↔ℓ=.ob 0/\g.κ 0 ≠ 0:=by
 cases ℓ with
 | ob id=>
  constructor
  rotate_left
  ·rintro ⟨h1,h2⟩
   cases h1
   exact .inl ⟨_,rfl,h2⟩
  rintro (⟨r,h1,h2⟩ | ⟨kv,h1⟩)
  rotate_left
  ·cases id with
   | zero=>simp at h1
   | succ i=>simp at h1
  cases id with
  | zero=>exact ⟨rfl,h2⟩
  | succ i=>simp at h1
 | cl id j=>
  constructor
  rotate_left
  ·rintro ⟨h1,h2⟩;cases h1
  rintro ⟨r,k,cs,h1,h2,h3⟩
  cases id with
  | zero=>
   simp at h1;subst h1
   rw [Gm,List.getElem?_map,Option.map_eq_some_iff] at h2
   obtain ⟨x,_,h2⟩:=h2
   cases h2
  | succ i=>simp at h1
set_option maxHeartbeats 1000000 in
theorem Kr (f : FuncId) (hf : Bh Tryz.prog f = true) (hcmp : ∀ a b : Ar, FC Tryz.prog f [.a (.g [.v (.int .i64 a.1), .v (.int .i64 a.2)]), .a (.g [.v (.int .i64 b.1), .v (.int .i64 b.2)])] [] (fun r o => o = [] /\ r = .i (Gc a b))) (L : List Ar) (hsz : L.length <= 100000000) :
  FC Tryz.prog 67 [.a (.c (.s 0 L.length)), .a (.c (.f f []))] [.r ⟨46, 2, true, Ax L⟩]
   (fun r o => r = .u /\ ∃ L' : List Ar, L'.Perm L /\ L'.Pairwise (fun a b => WK b a = false) /\ o = [.r ⟨46, 2, true, Ax L'⟩]) := by
 intro g w vals hr hargs
 obtain ⟨hlen, hargs⟩ := hargs
 obtain ⟨v1, e1, b1, b2, A, rfl, b4, b5⟩ := hargs 0 _ rfl
 obtain ⟨v2, e2, c1, c2⟩ := hargs 1 _ rfl
 have hv2 : v2 = .func (.func f) #[] #[] := by rw [c2]; simp [Vz]
 subst hv2
 have hvals : vals = [.slice A L.length (g.κ 0), .func (.func f) #[] #[]] := by
  match vals, hlen with
  | [a, b], _ => simp at e1 e2; simp [e1, e2]
 subst hvals
 rcases hr.row 0 _ rfl with ⟨h0, hnil⟩ | ⟨h0, hne, arr, ha, hle, hs, hmx, hcells⟩
 ·have hL0 : L = [] := by
   have : (Ax L).length = 0 := by have h : Ax L = [] := hnil; rw [h]; rfl
   rw [Ap] at this
   exact List.length_eq_zero_iff.1 (by omega)
  subst hL0
  refine (AnyF.slices_SortFunc_none Tryz.sortArcs A (g.κ 0) (.func (.func f) #[] #[]) w).mono ?_
  rintro e' w' ⟨rfl, rfl⟩
  exact ⟨.tuple #[], .u, _, g, rfl, ⟨rfl, [], List.Perm.refl _, List.Pairwise.nil, rfl⟩, hr, ⟨Nat.le_refl _, Ext.refl _ _⟩, fun ℓ hl => .inl ⟨ℓ, hl, rfl⟩, trivial, Fp.refl _ _⟩
 have hL0 : L ≠ [] := fun e => by subst e; exact hne rfl rfl
 have x0 : 0 < L.length := List.length_pos_iff.2 hL0
 rw [b4 h0] at *
 have hblk : g.γ (.ob 0) < w.heap.size := (Array.getElem?_eq_some_iff.1 ha).1
 have hle' : L.length * 2 <= arr.size := by simpa [Ap] using hle
 have hfl := Dc X2 2 (fun _ => rfl) L
 have hget : ∀ j, j < L.length * 2 -> arr[j]? = (L.flatMap X2)[j]? := by
  intro j hj
  obtain ⟨v, hv⟩ : ∃ v, (L.flatMap X2)[j]? = some v := ⟨_, gE1 (by rw [hfl]; exact hj)⟩
  obtain ⟨u, u1, u2⟩ := hcells j (.v v) (by rw [Gm, List.getElem?_map, hv]; rfl)
  have hu : u = v := u2
  rw [u1, hv, hu]
 have hlays : CmpLays Tryz.prog f #[] X2 2 Gc (g.γ (.ob 0)) 0 L.toArray.size w := by
  intro m os dk _ x y
  have hoth : ∀ k, k < w.heap.size -> ¬ Ow [.r ⟨46, 2, true, Ax L⟩] g k -> (sortWorldK X2 2 w (g.γ (.ob 0)) 0 m dk os).heap[k]? = w.heap[k]? := by
   intro k hk hn
   have hn2 : k ≠ g.γ (.ob 0) := fun e => hn (.inr ⟨.ob 0, X3.2 ⟨rfl, h0⟩, e.symm⟩)
   unfold sortWorldK putRowK putRow mapBlock Sort.grow Sort.ahead
   simp only
   rw [Array.getElem?_append_left (by simpa using hk), Array.getElem?_modify, if_neg (Ne.symm hn2)]
  generalize hW : sortWorldK X2 2 w (g.γ (.ob 0)) 0 m dk os = W at hoth
  have hsz' : w.heap.size <= W.heap.size := by rw [<- hW]; simp [sortWorldK, putRowK, putRow, mapBlock, Sort.grow, Sort.ahead]
  have hHR : HR ⟨g.γ, g.κ, fun _ => False⟩ [] W := ⟨fun b hb => hb.elim, fun ℓ hl => absurd hl (UF _ ℓ), fun ℓ _ hl => absurd hl (UF _ ℓ), fun id r h => by simp at h, fun id r h => by simp at h, hr.gl.keep hsz' hoth (fun k _ hk => hk.elim (fun h => h.elim) (fun ⟨ℓ, hl, _⟩ => absurd hl (UF _ ℓ)))⟩
  have hA : GA ⟨g.γ, g.κ, fun _ => False⟩ [] W [.a (.g [.v (.int .i64 x.1), .v (.int .i64 x.2)]), .a (.g [.v (.int .i64 y.1), .v (.int .i64 y.2)])] [.agg #[.int .i64 x.1, .int .i64 x.2], .agg #[.int .i64 y.1, .int .i64 y.2]] := by
   refine ⟨rfl, fun i a hi => ?_⟩
   have ag : ∀ z : Ar, A0R (CR ⟨g.γ, g.κ, fun _ => False⟩ [] W) (.g [.v (.int .i64 z.1), .v (.int .i64 z.2)]) (.agg #[.int .i64 z.1, .int .i64 z.2]) := fun z => ⟨[.int .i64 z.1, .int .i64 z.2], rfl, rfl, fun q c hq => by
    match q, hq with
    | 0, hq => simp at hq; subst hq; exact ⟨_, rfl, rfl⟩
    | 1, hq => simp at hq; subst hq; exact ⟨_, rfl, rfl⟩
    | q + 2, hq => simp at hq⟩
   match i, hi with
   | 0, hi => cases hi; exact ⟨_, rfl, ag x⟩
   | 1, hi => cases hi; exact ⟨_, rfl, ag y⟩
   | i + 2, hi => simp at hi
  refine Calls.mono (hcmp x y _ _ _ hHR hA) ?_
  rintro e' w' ⟨v, r, outs, g', rfl, ⟨rfl, rfl⟩, _, _, _, hv, hfp⟩
  exact ⟨by rw [show v = _ from hv], Iu (hfp.mono fun k _ ⟨ℓ, hl, _⟩ => absurd hl (UF _ ℓ))⟩
 have hH : HoldsK X2 2 w (g.γ (.ob 0)) 0 L.toArray := by
  unfold HoldsK Holds
  rw [Nf]
  intro j hj
  simp only [List.size_toArray, hfl] at hj
  constructor
  rotate_left
  ·simp [World.frozen?, ha]
  rw [Nat.zero_add, cell_of_row w _ j arr _ (0, 0) ha, hget j hj, getElem!_pos _ j (by simpa [hfl] using hj)]
  simp [hfl, hj]
 have eg : ∀ args w, (callFunc f args).run Tryz.prog w = .ok (.enter f args) w := fun args w => BP hf args w
 have hcon := AnyQ.slices_SortFunc_total Tryz.sortArcs 2 Tryz.isAgg46 Tryz.sizeOf46 X2 (fun _ => rfl) (fun x v hv => by simp [X2] at hv; rcases hv with rfl | rfl <;> rfl) Gc Vu f #[] (g.γ (.ob 0)) 0 (g.κ 0) L.toArray w eg hlays hH hblk (by simp; omega)
  (fun x y h1 h2 => by
   rw [show ltOf Gc x y = WK x y from Ce x y] at h1
   rw [show ltOf Gc y x = WK y x from Ce y x] at h2
   rcases Hh x y with h | h | h
   ·rw [h] at h1; cases h1
   ·exact h
   ·rw [h] at h2; cases h2)
 change Calls Tryz.prog 67 _ _ _ at hcon
 have hsz2 : L.toArray.size = L.length := by simp
 rw [hsz2] at hcon
 refine hcon.mono ?_
 rintro e' w' ⟨rfl, m, os, rfl⟩
 have hSl : (Fx L).length = L.length := List.length_mergeSort _
 have hfl' := Dc X2 2 (fun _ => rfl) (Fx L)
 have hself : (sortWorldK X2 2 w (g.γ (.ob 0)) 0 m (Fx L).toArray os).heap[g.γ (.ob 0)]? = some (.cells (putCells id 0 ((Fx L).flatMap X2).toArray arr) 46 (0, 0)) := by
  unfold sortWorldK putRowK putRow mapBlock Sort.grow Sort.ahead
  rw [Nf]
  simp only
  rw [Array.getElem?_append_left (by simpa using hblk), Array.getElem?_modify, if_pos rfl, ha]
  rfl
 have hsize : w.heap.size <= (sortWorldK X2 2 w (g.γ (.ob 0)) 0 m (Fx L).toArray os).heap.size := by simp [sortWorldK, putRowK, putRow, mapBlock, Sort.grow, Sort.ahead]
 have hother : ∀ k, k < w.heap.size -> k ≠ g.γ (.ob 0) -> (sortWorldK X2 2 w (g.γ (.ob 0)) 0 m (Fx L).toArray os).heap[k]? = w.heap[k]? := by
  intro k hk hn
  unfold sortWorldK putRowK putRow mapBlock Sort.grow Sort.ahead
  simp only
  rw [Array.getElem?_append_left (by simpa using hk), Array.getElem?_modify, if_neg (Ne.symm hn)]
 have hfp : Fp (FX [.r ⟨46, 2, true, Ax L⟩] g) w (sortWorldK X2 2 w (g.γ (.ob 0)) 0 m (Fx L).toArray os) :=
  ⟨rfl, rfl, rfl, hsize, fun k hk hm => hother k hk fun e => hm ⟨.ob 0, X3.2 ⟨rfl, h0⟩, e.symm⟩, by simp [sortWorldK, putRowK, putRow, mapBlock, Sort.grow, Sort.ahead]⟩
 refine ⟨.tuple #[], .u, _, g, rfl, ⟨rfl, Fx L, LK L, PK L, rfl⟩, ?_, ⟨by simp, Ext.refl _ _⟩, fun ℓ hl => .inl ⟨ℓ, X3.2 (X3.1 hl), rfl⟩, trivial, hfp⟩
 refine ⟨fun b hb => Nat.lt_of_lt_of_le (hr.ml b hb) hsize, fun ℓ hl => hr.md ℓ (X3.2 (X3.1 hl)), fun ℓ ℓ' hl hl' => hr.inj ℓ ℓ' (X3.2 (X3.1 hl)) (X3.2 (X3.1 hl')), fun id r hid => ?_, fun id r hid => ?_, hr.gl.keep hsize (fun k hk hn => hother k hk (fun e => hn (.inr ⟨.ob 0, X3.2 ⟨rfl, h0⟩, e.symm⟩))) (fun k _ hk => hk.imp (fun h => h) (fun ⟨ℓ, hl, e⟩ => ⟨ℓ, X3.2 (X3.1 hl), e⟩))⟩
 rotate_left
 ·cases id with
  | zero => simp at hid
  | succ i => simp at hid
 cases id with
 | succ i => simp at hid
 | zero =>
  simp at hid
  subst hid
  refine .inr ⟨h0, fun _ hn => ?_, _, hself, ?_, ?_, hmx, fun j c hj => ?_⟩
  ·have : (Ax (Fx L)).length = 0 := by simp only at hn; rw [hn]; rfl
   rw [Ap, hSl] at this; omega
  ·simp only [Ap, hSl, putCells, Array.size_mapIdx]; exact hle'
  ·simpa [putCells] using hs
  rw [Gm, List.getElem?_map, Option.map_eq_some_iff] at hj
  obtain ⟨v, hv, rfl⟩ := hj
  have hjl : j < L.length * 2 := by have := (List.getElem?_eq_some_iff.1 hv).1; rw [hfl', hSl] at this; exact this
  refine ⟨v, ?_, rfl⟩
  have hj2 : j < ((Fx L).flatMap X2).length := by rw [hfl', hSl]; exact hjl
  have hjc : j < arr.size := by omega
  simp only [putCells, Array.getElem?_mapIdx, Nat.zero_le, true_and, Nat.zero_add, List.size_toArray, hj2, if_true, Nat.sub_zero]
  rw [gEd hjc]
  rw [gE1 hj2] at hv
  have hv2 := Option.some.inj hv
  rw [<- hv2]
  simp
  rw [gE1 hj2]; rfl
theorem S0 {s:ST} (i m:Nat) {r:Row} (hi:s.hp[i]?=some (.r r)) (hm:r.sl=true->r.cells.take m=[]->r.cells=[]):Le s { s with hp:=s.hp.set i (.r { r with cells:=r.cells.take m }) }:=by
 rintro M0 w0 a w ⟨g,hpp,hR⟩
 have hlt:i<s.hp.length:=(List.getElem?_eq_some_iff.1 hi).1
 have self:(s.hp.set i (.r { r with cells:=r.cells.take m }))[i]?=some (.r { r with cells:=r.cells.take m }):=by simp [hlt]
 have other:∀ q,q ≠ i->(s.hp.set i (.r { r with cells:=r.cells.take m }))[q]?=s.hp[q]?:=fun q hq=>by rw [gE5 (Ne.symm hq)]
 have tk:∀ (j:Nat) (c:C),(r.cells.take m)[j]?=some c->r.cells[j]?=some c:=fun j c h=>by
  rw [List.getElem?_take] at h
  split at h
  ·exact h
  cases h
 generalize hh:s.hp.set i (.r { r with cells:=r.cells.take m })=hp' at *
 have sub:∀ ℓ,Lv hp' g ℓ->Lv s.hp g ℓ:=by
  intro ℓ hl
  cases ℓ with
  | ob q=>
   by_cases hq:q=i
   ·subst hq
    rcases hl with ⟨r2,e1,e2⟩ | ⟨kv,e1⟩
    ·exact .inl ⟨r,hi,e2⟩
    rw [self] at e1;cases e1
   rcases hl with ⟨r2,e1,e2⟩ | ⟨kv,e1⟩
   ·exact .inl ⟨r2,by rw [<- other q hq];exact e1,e2⟩
   exact .inr ⟨kv,by rw [<- other q hq];exact e1⟩
  | cl q j=>
   by_cases hq:q=i
   rotate_left
   ·obtain ⟨r2,k,cs,e1,e2,e3⟩:=hl
    exact ⟨r2,k,cs,by rw [<- other q hq];exact e1,e2,e3⟩
   subst hq
   obtain ⟨r2,k,cs,e1,e2,e3⟩:=hl
   rw [self] at e1;cases e1
   exact ⟨r,k,cs,hi,tk j _ e2,e3⟩
 have ow:∀ b,Ow hp' g b->Ow s.hp g b:=fun b ho=>ho.imp (fun h=>h) (fun ⟨ℓ,hl,e⟩=>⟨ℓ,sub ℓ hl,e⟩)
 have hmo:Mo g s.hp w g hp' w (fun _=>True):=by
  refine ⟨fun q hq=>⟨?_,rfl,rfl⟩,fun b _ ho=>ow b ho,Nat.le_refl _,fun _ _ _=>rfl,fun q _ hq r2 j k cs e1 e2=>?_⟩
  ·by_cases e:q=i
   ·subst e;exact ⟨_,self,rfl⟩
   obtain ⟨o,h1,h2⟩:=hq
   exact ⟨o,by rw [other q e];exact h1,h2⟩
  by_cases e:q=i
  rotate_left
  ·exact ⟨r2,by rw [<- other q e];exact e1,e2,fun _=>rfl⟩
  subst e
  rw [self] at e1
  cases e1
  exact ⟨r,hi,tk j _ e2,fun _=>rfl⟩
 have hr:=hR.hr
 refine ⟨g,⟨by show s.pin<=hp'.length;rw [<- hh];simpa using hpp.1,hpp.2⟩,hR.mo hmo ?_ (fun ℓ hl=>hR.new ℓ (sub ℓ hl)) hR.fp⟩
 refine ⟨hr.ml,fun ℓ hl=>hr.md ℓ (sub ℓ hl),fun ℓ ℓ' h1 h2=>hr.inj ℓ ℓ' (sub ℓ h1) (sub ℓ' h2),fun q r2 e1=>?_,fun q kv e1=>?_,hmo.gl hr.gl⟩
 rotate_left
 ·by_cases e:q=i
  ·subst e;rw [self] at e1;cases e1
  rw [other q e] at e1
  exact MpR.mo hmo e1 (hr.mp q kv e1) rfl
 by_cases e:q=i
 rotate_left
 ·rw [other q e] at e1
  exact RowR.mo hmo e1 (hr.row q r2 e1) (fun _=>rfl) (fun _ _ _ _ _=>⟨rfl,rfl⟩)
 subst e
 rw [self] at e1
 cases e1
 rcases hr.row q r hi with ⟨k1,k2⟩ | ⟨k1,k2,arr,k3,k4,k5,k6,k7⟩
 ·exact .inl ⟨k1,by simp [k2]⟩
 refine .inr ⟨k1,fun h1 h2=>k2 h1 (hm h1 h2),arr,k3,Nat.le_trans (by simp only [List.length_take];omega) k4,k5,k6,fun j c hj=>?_⟩
 obtain ⟨u,u1,u2⟩:=k7 j c (tk j c hj)
 exact ⟨u,u1,CellR.mo hmo u2 (fun k cs hc _=>⟨rfl,rfl⟩)⟩
attribute [local go_sem] lga C.pl C.one
theorem CN (f:Nat->Nat) (L:List Ar):(Ax L).map (C.up f)=Ax L:=by
 unfold Ax
 rw [List.map_flatMap]
 rfl
theorem CH (f:List Nat) (L:List Ar):(Ax L).map (C.ren f)=Ax L:=by
 unfold Ax
 rw [List.map_flatMap]
 rfl
theorem Kt (r:List Ar):(Ao r).map C.ofTr=Ax r:=by
 unfold Ao Ax
 rw [List.map_flatMap]
 rfl
theorem Ku (q:List Ar) (ys:List C) (f:C->C) (hf:(Ax q).map f=Ax q):((Ax q++ys).map f).take (q.length*2)=Ax q:=by
 rw [List.map_append,hf,List.take_append_of_le_length (by rw [Ap];exact Nat.le_refl _),gE7 (by rw [Ap];exact Nat.le_refl _)]

theorem F5 {xs:List Ar} {i:Nat} {e t:Int} (h:xs[i]?=some (e,t)) (x:Int):(Ax xs).set (i*2+1) (.v (.int .i64 x))=Ax (xs.set i (e,x)):=by
 induction xs generalizing i with
 | nil=>simp at h
 | cons a r ih=>
  cases i with
  | zero=>simp at h;subst h;rfl
  | succ i=>
   rw [List.getElem?_cons_succ] at h
   rw [show (i+1)*2+1=i*2+1+2 from by omega,List.set_cons_succ]
   show C.v _ :: C.v _ :: (Ax r).set (i*2+1) _=_
   rw [ih h];rfl
theorem GX (out:List (List Ar)) (x:List Ar) {i:Nat} (h:out.length=i):(AO out).take i++[C.t 2 (Ao x)]=AO (out++[x]):=by
 subst h
 rw [gE7 (by rw [Ay];exact Nat.le_refl _)]
 simp [AO]
theorem Ho (l:List Int) (x:Int):(A7 l).take l.length++[C.v (.int .i64 x)]=A7 (l++[x]):=by
 rw [gE7 (by rw [A5];exact Nat.le_refl _),AE]
theorem NL.start (q:List Ar) (num old:List Int):NL (Eh q num old) q q 0 num old:=⟨by simp,by simp,by simp,rfl⟩
theorem NL.fin {R:List Int × List Int × List Ar} {ya q:List Ar} {k:Nat} {num old:List Int} (h:NL R ya q k num old) (hk:q.length<=k) (hl:ya.length=q.length):ya=R.2.2/\num=R.1/\old=R.2.1:=by
 obtain ⟨h1,h2,h3,h4⟩:=h
 rw [List.drop_of_length_le hk] at h1 h2 h3
 rw [gE7 (by omega)] at h1
 simp only [Eh,List.append_nil] at h1 h2 h3
 exact ⟨h1,h2,h3⟩
structure Fw (E:Nat->List Nat) (n:Nat) (F:List Nat) (rd:Int) (seen:List Int) (out:List Nat):Prop where
 len:seen.length=n
 st:∀ u,u<n->(seen.getD u 0=rd↔u∈out)
 nd:out.Nodup
 lt:∀ u∈out,u<n
 snd:∀ u∈out,∃ v∈F,Rc E v u
 bd:∀ x∈seen,x<=rd
variable {E : Nat -> List Nat} {n : Nat} {F : List Nat} {rd : Int} {seen : List Int} {out : List Nat}
theorem Fw.start (h : seen.length = n) (hb : ∀ x ∈ seen, x < rd) : Fw E n F rd seen [] :=
 ⟨h, fun u hu => ⟨fun e => by
  rw [gE2, gE1 (by omega), Option.getD_some] at e
  have := hb _ (gE6 (show u < seen.length by omega)); omega, fun h => by simp at h⟩, List.nodup_nil, fun u h => by simp at h, fun u h => by simp at h, fun x h => by have := hb x h; omega⟩
theorem Fw.push (h:Fw E n F rd seen out) {u:Nat} (hu:u<n) (hn:seen.getD u 0 ≠ rd) (hs:∃ v∈F,Rc E v u):Fw E n F rd (seen.set u rd) (out++[u]):=by
 have hno:u ∉ out:=fun hm=>hn ((h.st u hu).2 hm)
 refine ⟨by rw [List.length_set];exact h.len,fun w hw=>?_,?_,fun w hw=>?_,fun w hw=>?_,fun x hx=>?_⟩
 rotate_left
 ·exact List.nodup_append.2 ⟨h.nd,by simp,fun a ha b hb=>by simp at hb;subst hb;exact fun e=>hno (e ▸ ha)⟩
 ·rcases List.mem_append.1 hw with h1 | h1
  ·exact h.lt w h1
  simp at h1;omega
 ·rcases List.mem_append.1 hw with h1 | h1
  ·exact h.snd w h1
  simp at h1;subst h1;exact hs
 ·rcases List.mem_or_eq_of_mem_set hx with h1 | h1
  ·exact h.bd x h1
  omega
 rw [gE2,List.getElem?_set]
 by_cases e:u=w
 ·subst e
  rw [if_pos rfl,if_pos (by rw [h.len];exact hw)]
  simp
 rw [if_neg e,<- gE2,h.st w hw]
 simp [Ne.symm e]
theorem Fw.mem (h:Fw E n F rd seen out) {u:Nat} (hu:u<n) (hs:seen.getD u 0=rd):u∈out:=(h.st u hu).1 hs
theorem KA:∀ (n:Nat) (l:List Nat),l.Nodup->(∀ u∈l,u<n)->l.length<=n:=by
 intro n
 induction n with
 | zero=>intro l _ h;cases l with
  | nil=>simp
  | cons a r=>have:=h a (by simp);omega
 | succ n ih=>
  intro l hn hl
  have h1:(l.erase n).length<=n:=ih _ (hn.erase n) fun u hu=>by
   have h2:=(List.Nodup.mem_erase_iff hn).1 hu
   have:=hl u h2.2
   omega
  have:=List.length_erase (a:=n) (l:=l)
  split at this <;> omega
theorem Fw.le (h:Fw E n F rd seen out):out.length<=n:=KA n out h.nd h.lt
theorem Fw.done (h:Fw E n F rd seen out) (hF:∀ v∈F,v∈out) (hc:∀ u∈out,∀ w∈E u,w∈out) (u:Nat):u∈out↔∃ v∈F,Rc E v u:=by
 refine ⟨h.snd u,fun ⟨v,hv,hr⟩=>?_⟩
 induction hr with
 | refl=>exact hF v hv
 | tail _ he ih=>exact hc _ (ih ⟨v,hv,‹_›⟩) _ he
def FJ (n:Nat) (p:Nat->Bool):List Nat:=(List.range n).filter p
theorem DT {n:Nat} {p:Nat->Bool} {u:Nat}:u∈FJ n p↔u<n/\p u=true:=by simp [FJ]
end Go.Proofs.YtjijjfkalheokaaGreatDoor
namespace Go.Proofs.YtjijjfkalheokaaGreatDoor
set_option linter.unusedVariables false
set_option linter.unusedSimpArgs false
open Go.RowKit Go.Shelf Go.Sort
set_option maxRecDepth 100000

section
variable {α : Type} [Inhabited α] {enc : α -> Value} {w : World} {blk off m : Nat} {dk : Array α} {os : Array Obj}
theorem Jn:w.heap.size<=(sortWorld enc w blk off m dk os).heap.size:=by
 simp [sortWorld,grow,putRow,mapBlock,Sort.ahead]
theorem KC {k:Nat} (hk:k<w.heap.size) (hne:k ≠ blk):(sortWorld enc w blk off m dk os).heap[k]?=w.heap[k]?:=by
 simp only [sortWorld,grow,putRow,mapBlock,Sort.ahead]
 rw [Array.getElem?_append_left (by simpa using hk),Array.getElem?_modify,if_neg (Ne.symm hne)]
theorem S8 {arr:Array Value} {e:TypeId} {fz:Nat × Nat} (h:w.heap[blk]?=some (.cells arr e fz)):(sortWorld enc w blk off m dk os).heap[blk]?=some (.cells (putCells enc off dk arr) e fz):=by
 have hk:=(Array.getElem?_eq_some_iff.1 h).1
 simp only [sortWorld,grow,putRow,mapBlock,Sort.ahead]
 rw [Array.getElem?_append_left (by simpa using hk),Array.getElem?_modify,if_pos rfl,h]
 rfl
theorem UT {M:Nat->Prop} (hM:M blk):Fp M w (sortWorld enc w blk off m dk os):=
 ⟨rfl,rfl,rfl,Jn,fun k hk hm=>KC hk (fun e=>hm (e ▸ hM)),by simp [sortWorld,grow,putRow,mapBlock,Sort.ahead]⟩
end
theorem S9 {t:Tr} {k:Nat × Nat} {cs:List Tr}:C.ofTr t ≠ .o k cs:=by cases t <;> simp [C.ofTr]
theorem Xa {g:Gh} {α0:Type} {tr:α0->Tr} {e:TypeId} {L:List α0} {ℓ:Loc}:Lv [.r ⟨e,1,true,L.map fun x=>C.ofTr (tr x)⟩] g ℓ↔ℓ=.ob 0/\g.κ 0 ≠ 0:=by
 cases ℓ with
 | ob id=>
  constructor
  rotate_left
  ·rintro ⟨h1,h2⟩
   cases h1
   exact .inl ⟨_,rfl,h2⟩
  rintro (⟨r,h1,h2⟩ | ⟨kv,h1⟩)
  rotate_left
  ·cases id with
   | zero=>simp at h1
   | succ i=>simp at h1
  cases id with
  | zero=>exact ⟨rfl,h2⟩
  | succ i=>simp at h1
 | cl id j=>
  constructor
  rotate_left
  ·rintro ⟨h1,h2⟩;cases h1
  rintro ⟨r,k,cs,h1,h2,h3⟩
  cases id with
  | zero=>
   simp at h1;subst h1
   rw [List.getElem?_map,Option.map_eq_some_iff] at h2
   obtain ⟨x,_,h2⟩:=h2
   exact absurd h2 S9
  | succ i=>simp at h1
def Xb (x:Int):Tr:=.v (.int .i64 x)
theorem KD (L:List Int) (hsz:L.length<=100000000):FC Tryz.prog 106 [.a (.c (.s 0 L.length))] [.r ⟨3,1,true,A7 L⟩] (fun r o=>r=.u/\∃ L':List Int,L'.Perm L/\L'.Pairwise (fun a b=>a<=b)/\o=[.r ⟨3,1,true,A7 L'⟩]):=by
 intro g w vals hr hargs
 obtain ⟨hlen,hargs⟩:=hargs
 obtain ⟨v1,e1,b1,b2,A,rfl,b4,b5⟩:=hargs 0 _ rfl
 have hvals:vals=[.slice A L.length (g.κ 0)]:=by
  match vals,hlen with
  | [a],_=>simp at e1;simp [e1]
 subst hvals
 have lvI:∀ {L:List Int} {ℓ:Loc},Lv [.r ⟨3,1,true,A7 L⟩] g ℓ↔ℓ=.ob 0/\g.κ 0 ≠ 0:=fun {L ℓ}=>Xa (tr:=Xb) (L:=L)
 rcases hr.row 0 _ rfl with ⟨h0,hnil⟩ | ⟨h0,hne,arr,ha,hle,hs,hmx,hcells⟩
 ·have hL0:L=[]:=by
   have h:A7 L=[]:=hnil
   simpa [A7] using h
  subst hL0
  refine (Any.slices_Sort_int_none Tryz.sortInts A (g.κ 0) w).mono ?_
  rintro e' w' ⟨rfl,rfl⟩
  exact ⟨.tuple #[],.u,_,g,rfl,⟨rfl,[],List.Perm.refl _,List.Pairwise.nil,rfl⟩,hr,⟨Nat.le_refl _,Ext.refl _ _⟩,fun ℓ hl=>.inl ⟨ℓ,hl,rfl⟩,trivial,Fp.refl _ _⟩
 rw [b4 h0] at *
 have hblk:g.γ (.ob 0)<w.heap.size:=(Array.getElem?_eq_some_iff.1 ha).1
 have hOw:Ow [.r ⟨3,1,true,A7 L⟩] g (g.γ (.ob 0)):=.inr ⟨.ob 0,lvI.2 ⟨rfl,h0⟩,rfl⟩
 have hle':L.length<=arr.size:=by simpa [A5] using hle
 have hget:∀ j (hj:j<L.length),arr[j]?=some (.int .i64 L[j]):=by
  intro j hj
  obtain ⟨u,u1,u2⟩:=hcells j (.v (.int .i64 L[j])) (Aq (gE1 hj))
  rw [u1,show u=.int .i64 L[j] from u2]
 have hH:Holds (Value.int .i64) w (g.γ (.ob 0)) 0 L.toArray:=by
  intro j hj
  simp only [List.size_toArray] at hj
  constructor
  rotate_left
  ·simp [World.frozen?,ha]
  rw [Nat.zero_add,cell_of_row w _ j arr _ (0,0) ha,hget j hj,getElem!_pos _ j (by simpa using hj)]
  simp
 refine (Any.slices_Sort_int Tryz.sortInts (g.γ (.ob 0)) 0 (g.κ 0) L w hH hblk (by omega)).mono ?_
 rintro e' w' ⟨rfl,m,os,rfl⟩
 obtain ⟨L',hL'⟩:∃ L',L'=L.mergeSort fun x y=>decide (x<=y):=⟨_,rfl⟩
 have hperm:L'.Perm L:=by rw [hL'];exact List.mergeSort_perm _ _
 have hsort:L'.Pairwise (fun a b=>a<=b):=by
  rw [hL']
  have:=List.pairwise_mergeSort (le:=fun x y:Int=>decide (x<=y)) (fun a b c h1 h2=>by simp at *;omega) (fun a b=>by simp;omega) L
  exact this.imp fun h=>by simpa using h
 rw [<- hL']
 have hll:=hperm.length_eq
 show Pb _ _ _ _ _ (sortWorld (Value.int .i64) w (g.γ (.ob 0)) 0 m L'.toArray os)
 refine ⟨.tuple #[],.u,_,g,rfl,⟨rfl,L',hperm,hsort,rfl⟩,?_,⟨Nat.le_refl _,Ext.refl _ _⟩,fun ℓ hl=>.inl ⟨ℓ,lvI.2 (lvI.1 hl),rfl⟩,trivial,UT ⟨.ob 0,lvI.2 ⟨rfl,h0⟩,rfl⟩⟩
 refine ⟨fun b hb=>Nat.lt_of_lt_of_le (hr.ml b hb) Jn,fun ℓ hl=>hr.md ℓ (lvI.2 (lvI.1 hl)),fun ℓ ℓ' hl hl'=>hr.inj ℓ ℓ' (lvI.2 (lvI.1 hl)) (lvI.2 (lvI.1 hl')),fun id r hid=>?_,fun id r hid=>?_,hr.gl.keep Jn (fun k hk hn=>KC hk (fun e=>hn (e ▸ hOw))) (fun k _ hk=>hk.imp (fun h=>h) (fun ⟨ℓ,hl,e⟩=>⟨ℓ,lvI.2 (lvI.1 hl),e⟩))⟩
 rotate_left
 ·cases id with
  | zero=>simp at hid
  | succ i=>simp at hid
 cases id with
 | succ i=>simp at hid
 | zero=>
  simp at hid
  subst hid
  refine .inr ⟨h0,fun _ hn=>?_,_,S8 ha,?_,?_,hmx,fun j c hj=>?_⟩
  ·have h1:L'=[]:=by simpa [A7] using hn
   rw [h1] at hll
   have h2:L=[]:=List.length_eq_zero_iff.1 hll.symm
   exact hne rfl (by simp [h2,A7])
  ·simp only [A5,putCells,Array.size_mapIdx];omega
  ·simpa [putCells] using hs
  have hjl:j<L'.length:=by have:=(List.getElem?_eq_some_iff.1 hj).1;rw [A5] at this;exact this
  have hc:c=.v (.int .i64 L'[j]):=by
   rw [Aq (gE1 hjl)] at hj
   exact (Option.some.inj hj).symm
  subst hc
  refine ⟨.int .i64 L'[j],?_,rfl⟩
  unfold putCells
  rw [Array.getElem?_mapIdx,gEd (by omega)]
  simp [hjl]
open Go.RowKit
attribute [local go_sem] lga C.pl C.one
def Xe (r:List Ar) (e:Int):List Nat:=(r.filter fun a=>a.1 == e).map fun a=>a.2.toNat
def tg (R:List (List Ar)) (F:List Nat) (e:Int):List Nat:=F.flatMap fun s=>Xe (R.getD s []) e
theorem Nq {r:List Ar} {e:Int} {u:Nat}:u∈Xe r e↔∃ a∈r,a.1=e/\a.2.toNat=u:=by
 unfold Xe
 rw [List.mem_map]
 constructor
 rotate_left
 ·rintro ⟨a,ha,he,rfl⟩
  exact ⟨a,List.mem_filter.2 ⟨ha,by simpa using he⟩,rfl⟩
 rintro ⟨a,ha,rfl⟩
 have:=List.mem_filter.1 ha
 exact ⟨a,this.1,by simpa using this.2,rfl⟩
theorem Ra {R:List (List Ar)} {F:List Nat} {e:Int} {u:Nat}:u∈tg R F e↔∃ s∈F,u∈Xe (R.getD s []) e:=by unfold tg;rw [List.mem_flatMap]
theorem Ix {l:List Int} {n:Nat} (h:WI l) (hb:∀ x∈l,0<=x/\x<(n:Int)):l.length<=n:=by
 have h1:(l.map Int.toNat).Nodup:=by
  unfold WI at h
  rw [List.Nodup,List.pairwise_map]
  refine h.imp_of_mem fun {a b} ha hb2 hab e=>?_
  have:=hb a ha
  have:=hb b hb2
  omega
 have:=KA n (l.map Int.toNat) h1 fun u hu=>by
  obtain ⟨x,hx,rfl⟩:=List.mem_map.1 hu
  have:=hb x hx
  omega
 simpa using this
def Xm (acc:List Int) (r:List Ar):List Int:=r.foldl (fun acc a=>Fu a.1 acc) acc
def Xn (R:List (List Ar)) (k:Nat):List Int:=(R.take k).foldl Xm [0]
theorem KL {R:List (List Ar)} {k:Nat} (h:k<R.length):Xn R (k+1)=Xm (Xn R k) R[k]:=by
 unfold Xn
 rw [gE8 h,List.foldl_append];rfl
theorem Gp {x:Int}:∀ (r:List Ar) (acc:List Int),x∈Xm acc r↔x∈acc\/∃ a∈r,a.1=x
 | [],acc=>by simp [Xm]
 | a :: r,acc=>by
  show x∈Xm (Fu a.1 acc) r↔_
  rw [Gp r,DN]
  simp only [List.mem_cons,exists_eq_or_imp]
  constructor
  ·rintro ((rfl | h) | h)
   ·exact .inr (.inl rfl)
   ·exact .inl h
   ·exact .inr (.inr h)
  ·rintro (h | h | h)
   ·exact .inl (.inr h)
   ·exact .inl (.inl h.symm)
   ·exact .inr h
theorem Jo:∀ (r:List Ar) (acc:List Int),WI acc->WI (Xm acc r)
 | [],_,h=>h
 | _ :: r,_,h=>Jo r _ (He h)
theorem Iz {R:List (List Ar)} (hb:∀ r∈R,∀ a∈r,0<=a.1/\a.1<=1025) (k:Nat):k<=R.length->WI (Xn R k)/\(∀ x∈Xn R k,0<=x/\x<1026)/\(0:Int)∈Xn R k/\∀ r∈R.take k,∀ a∈r,a.1∈Xn R k:=by
 induction k with
 | zero=>intro _;exact ⟨by simp [Xn,WI],by simp [Xn],by simp [Xn],by simp⟩
 | succ k ih=>
  intro hk
  obtain ⟨h1,h2,h3,h4⟩:=ih (by omega)
  have hkl:k<R.length:=hk
  rw [KL hkl]
  refine ⟨Jo _ _ h1,fun x hx=>?_,(Gp _ _).2 (.inl h3),fun r hr a ha=>?_⟩
  ·rcases (Gp _ _).1 hx with h | ⟨a,ha,rfl⟩
   ·exact h2 x h
   have:=hb _ (gE6 hkl) a ha;omega
  rw [Gp]
  rw [gE8 hkl] at hr
  rcases List.mem_append.1 hr with h | h
  ·exact .inl (h4 r h a ha)
  simp at h;subst h;exact .inr ⟨a,ha,rfl⟩
noncomputable def Xo (R:List (List Ar)) (s:Nat):List Nat:=FJ R.length (fun u=>@decide (Rc (WP true R) s u) (Classical.propDecidable _))
theorem Gq {R:List (List Ar)} {s u:Nat}:u∈Xo R s↔u<R.length/\Rc (WP true R) s u:=by
 unfold Xo
 rw [DT]
 simp
noncomputable def Xp (R:List (List Ar)) (s:Nat) (e:Int):List Int:=if e=0 then (Xo R s).map Int.ofNat else (FJ R.length (fun u=>decide (u∈tg R (Xo R s) e))).map Int.ofNat
theorem Jp {R:List (List Ar)} (hlo:BE R=true) {s:Nat} (hs:s<R.length) {e x:Int}:x∈Xp R s e↔(e=0/\∃ u:Nat,x=(u:Int)/\Rc (WP true R) s u)\/(e ≠ 0/\∃ t,Rc (WP true R) s t/\∃ a∈R.getD t [],a.1=e/\a.2=x):=by
 have hE:=Cw true hlo
 unfold Xp
 by_cases e0:e=0
 ·rw [if_pos e0,List.mem_map]
  constructor
  ·rintro ⟨u,hu,rfl⟩
   exact .inl ⟨e0,u,rfl,(Gq.1 hu).2⟩
  rintro (⟨_,u,rfl,hu⟩ | ⟨h,_⟩)
  ·exact ⟨u,Gq.2 ⟨hu.lt hs hE,hu⟩,rfl⟩
  exact absurd e0 h
 rw [if_neg e0,List.mem_map]
 constructor
 ·rintro ⟨u,hu,rfl⟩
  rw [DT,decide_eq_true_iff,Ra] at hu
  obtain ⟨_,t,ht,h2⟩:=hu
  obtain ⟨a,ha,h3,h4⟩:=Nq.1 h2
  have htl:=(Gq.1 ht).1
  have hb:0<=a.2:=by
   rw [gE2,gE1 htl,Option.getD_some] at ha
   exact ((gE4 hlo).2.2.2 _ (gE6 htl) a ha).2.2.1
  exact .inr ⟨e0,t,(Gq.1 ht).2,a,ha,h3,by simp only [Int.ofNat_eq_natCast];omega⟩
 rintro (⟨h,_⟩ | ⟨_,t,ht,a,ha,h3,rfl⟩)
 ·exact absurd h e0
 have htl:=ht.lt hs hE
 have hb:=ha
 rw [gE2,gE1 htl,Option.getD_some] at hb
 have hb2:=(gE4 hlo).2.2.2 _ (gE6 htl) a hb
 refine ⟨a.2.toNat,?_,by simp only [Int.ofNat_eq_natCast];omega⟩
 rw [DT,decide_eq_true_iff,Ra]
 exact ⟨by omega,t,Gq.2 ⟨htl,ht⟩,Nq.2 ⟨a,ha,h3,rfl⟩⟩
theorem Zc {R:List (List Ar)} (hlo:BE R=true) {s:Nat} {e:Int} (hs:s<R.length):(Xp R s e).length<=R.length/\∀ x∈Xp R s e,0<=x/\x<(R.length:Int):=by
 have hl:∀ p:Nat->Bool,(FJ R.length p).length<=R.length:=fun p=>by
  unfold FJ
  exact Nat.le_trans (List.length_filter_le _ _) (by simp)
 refine ⟨?_,fun x hx=>?_⟩
 ·unfold Xp
  split <;> rw [List.length_map] <;> exact hl _
 unfold Xp at hx
 split at hx
 ·obtain ⟨u,hu,rfl⟩:=List.mem_map.1 hx
  have:=(DT.1 hu).1
  simp only [Int.ofNat_eq_natCast];omega
 obtain ⟨u,hu,rfl⟩:=List.mem_map.1 hx
 have:=(DT.1 hu).1
 simp only [Int.ofNat_eq_natCast];omega
noncomputable def Xq (R:List (List Ar)) (s:Nat) (e:Int):List Ar:=(Xp R s e).map fun u=>(e,u)
noncomputable def Xr (R:List (List Ar)) (Ev:List Int) (s k:Nat):List Ar:=(Ev.take k).flatMap (Xq R s)
noncomputable def Xs (R:List (List Ar)) (Ev:List Int) (s:Nat):List Ar:=Xr R Ev s Ev.length
noncomputable def Xt (R:List (List Ar)) (Ev:List Int) (k:Nat):List (List Ar):=(List.range k).map (Xs R Ev)
theorem Zi (R:List (List Ar)) (Ev:List Int) (k:Nat):(Xt R Ev k).length=k:=by simp [Xt]
theorem Z8 {R:List (List Ar)} {Ev:List Int} {s k:Nat} (h:k<Ev.length):Xr R Ev s (k+1)=Xr R Ev s k++Xq R s Ev[k]:=by
 unfold Xr
 rw [gE8 h,List.flatMap_append]
 simp
theorem Zj {R:List (List Ar)} (hlo:BE R=true) {Ev:List Int} {s:Nat} (hs:s<R.length):∀ k,k<=Ev.length->(Xr R Ev s k).length<=k*R.length:=by
 intro k
 induction k with
 | zero=>intro _;simp [Xr]
 | succ k ih=>
  intro hk
  have h1:=ih (by omega)
  have h2:=(Zc hlo (e:=Ev[k]) hs).1
  rw [Z8 hk,List.length_append,Xq,List.length_map,Nat.succ_mul]
  omega
noncomputable def Tt (R:List (List Ar)):List (List Ar):=Xt R (Xn R R.length) R.length
theorem Hp {R:List (List Ar)} (hv:Bv R=true) {s:Nat} (hs:s<R.length) {a:Ar}:a∈(Tt R).getD s []↔(a.1=0/\∃ u:Nat,a.2=(u:Int)/\Rc (WP true R) s u)\/(a.1 ≠ 0/\∃ t,Rc (WP true R) s t/\a∈R.getD t []):=by
 have hlo:BE R=true:=gEg (gE4 hv).1
 have hg:(Tt R).getD s []=Xs R (Xn R R.length) s:=by simp [Tt,Xt,gE2,hs]
 have hev:=Iz (R:=R) (fun r hr a ha=>by have:=(gE4 hlo).2.2.2 r hr a ha;omega) R.length (Nat.le_refl _)
 rw [List.take_length] at hev
 rw [hg]
 unfold Xs Xr
 rw [List.take_length,List.mem_flatMap]
 constructor
 ·rintro ⟨e,he,h⟩
  obtain ⟨x,hx,rfl⟩:=List.mem_map.1 h
  rcases (Jp hlo hs).1 hx with ⟨h1,u,rfl,h2⟩ | ⟨h1,t,h2,b,hb,h3,h4⟩
  ·exact .inl ⟨h1,u,rfl,h2⟩
  refine .inr ⟨h1,t,h2,?_⟩
  have:b=(e,x):=by rcases b with ⟨p,q⟩;simp only at h3 h4;rw [h3,h4]
  rw [<- this];exact hb
 rintro (⟨h1,u,h2,h3⟩ | ⟨h1,t,h2,h3⟩)
 ·refine ⟨0,hev.2.2.1,List.mem_map.2 ⟨(u:Int),(Jp hlo hs).2 (.inl ⟨rfl,u,rfl,h3⟩),?_⟩⟩
  rcases a with ⟨p,q⟩;simp only at h1 h2 ⊢;rw [h1,h2]
 have htl:=h2.lt hs (Cw true hlo)
 have h4:=h3
 rw [gE2,gE1 htl,Option.getD_some] at h4
 exact ⟨a.1,hev.2.2.2 _ (gE6 htl) a h4,List.mem_map.2 ⟨a.2,(Jp hlo hs).2 (.inr ⟨h1,t,h2,a,h3,rfl,rfl⟩),rfl⟩⟩
theorem YI {R:List (List Ar)} (hv:Bv R=true) (hn:R.length<=100):(Tt R).length=R.length/\∀ r∈Tt R,r.length<=1000000/\∀ a∈r,0<=a.2/\a.2<(R.length:Int):=by
 have hlo:BE R=true:=gEg (gE4 hv).1
 have hl:(Tt R).length=R.length:=Zi _ _ _
 have hev:=Iz (R:=R) (fun r hr a ha=>by have:=(gE4 hlo).2.2.2 r hr a ha;omega) R.length (Nat.le_refl _)
 have hevl:(Xn R R.length).length<=1026:=Ix hev.1 (by simpa using hev.2.1)
 refine ⟨hl,fun r hr=>?_⟩
 obtain ⟨s,hs,rfl⟩:=List.mem_map.1 hr
 rw [List.mem_range] at hs
 have h1:=Zj hlo (Ev:=Xn R R.length) hs _ (Nat.le_refl _)
 have h2:(Xn R R.length).length*R.length<=1026*100:=Nat.mul_le_mul hevl hn
 refine ⟨by unfold Xs;omega,fun a ha=>?_⟩
 unfold Xs Xr at ha
 obtain ⟨e,_,h⟩:=List.mem_flatMap.1 ha
 obtain ⟨x,hx,rfl⟩:=List.mem_map.1 h
 exact (Zc hlo hs).2 x hx
def Xu (B:List Bool) (s:Nat):Int:=if B.getD s false=B.getD 0 false then 0 else 1
def Xv (B:List Bool) (n:Nat):List Int:=(List.range n).map (Xu B)
theorem Jq {B:List Bool} {n s:Nat} (h:s<n):(Xv B n).getD s 0=Xu B s:=by simp [Xv,gE2,h]
theorem U5 {B:List Bool}:∀ n,1<=n->(Xh (fun s=>B.getD s false) n).1=Xv B n/\((Xh (fun s=>B.getD s false) n).2=1/\(∀ s,s<n->B.getD s false=B.getD 0 false)\/(Xh (fun s=>B.getD s false) n).2=2/\∃ s,s<n/\B.getD s false ≠ B.getD 0 false):=by
 intro n
 induction n with
 | zero=>intro h;omega
 | succ n ih=>
  intro _
  by_cases h0:n=0
  ·subst h0
   refine ⟨?_,.inl ⟨rfl,fun s hs=>by rw [show s=0 by omega]⟩⟩
   show ([]++[((0:Nat):Int)])=_
   simp [Xv,Xu]
  obtain ⟨h1,h2⟩:=ih (by omega)
  have hd:Xv B (n+1)=Xv B n++[Xu B n]:=by simp [Xv,List.range_succ]
  rcases FK (fun s=>B.getD s false) n with ⟨t,a1,a2,a3,a4⟩ | ⟨a3,a4⟩
  ·rw [a4,hd,h1,Jq a1]
   have e1:Xu B t=Xu B n:=by unfold Xu;rw [a2]
   refine ⟨by rw [e1],?_⟩
   rcases h2 with ⟨b1,b2⟩ | ⟨b1,s,b2,b3⟩
   rotate_left
   ·exact .inr ⟨b1,s,by omega,b3⟩
   refine .inl ⟨b1,fun s hs=>?_⟩
   by_cases e:s=n
   ·subst e;rw [<- a2];exact b2 t a1
   exact b2 s (by omega)
  have hne:=a3 0 (by omega)
  have hone:(Xh (fun s=>B.getD s false) n).2=1:=by
   rcases h2 with ⟨b1,_⟩ | ⟨_,s,b2,b3⟩
   ·exact b1
   exfalso
   have c1:=a3 s b2
   revert hne c1 b3
   generalize B.getD s false=x
   generalize B.getD 0 false=y
   generalize B.getD n false=z
   cases x <;> cases y <;> cases z <;> simp
  rw [a4,hd,h1,hone]
  refine ⟨by unfold Xu;rw [if_neg (Ne.symm hne)];rfl,.inr ⟨rfl,n,by omega,Ne.symm hne⟩⟩
theorem NC (B:List Bool) {n:Nat} (h:1<=n):Nrm n (Xv B n):=by
 rw [<- (U5 n h).1]
 exact Rb _ _
def DlC (R:List (List Ar)) (c:List Int):Prop:=∃ B,DvL R B/\FxS (Tt R) (Xv B R.length) c
def XN (cl:List Int) (a:Ar):Option Ar:=if a.1 ≠ 0 then some (a.1,cl.getD a.2.toNat 0) else none
def XO (cl:List Int) (row:List Ar):List Ar:=row.filterMap (XN cl)
def XP (cl:List Int) (X:List (List Ar)) (s:Nat):List Ar:=(0,cl.getD s 0) :: XO cl (X.getD s [])
def XQ (f:Nat->Nat) (cl:List Int) (X:List (List Ar)) (k c:Nat):List Ar:=((List.range k).filter fun s=>f s == c).flatMap (XP cl X)
def XR (f:Nat->Nat) (cl:List Int) (X:List (List Ar)) (k:Nat):List (List Ar):=(List.range X.length).map (XQ f cl X k)
theorem cF (cl:List Int) (row:List Ar) (a:Ar):XO cl (row++[a])=XO cl row++(XN cl a).toList:=by
 unfold XO
 rw [List.filterMap_append]
 cases h:XN cl a <;> simp [h]
theorem Sg (cl:List Int) (row:List Ar):(XO cl row).length<=row.length:=List.length_filterMap_le _ _
theorem NM (f:Nat->Nat) (cl:List Int) (X:List (List Ar)) (k:Nat):(XR f cl X k).length=X.length:=by simp [XR]
theorem Sh {f:Nat->Nat} {cl:List Int} {X:List (List Ar)} {k c:Nat} (h:c<X.length):(XR f cl X k)[c]?=some (XQ f cl X k c):=by simp [XR,h]
theorem cG (f:Nat->Nat) (cl:List Int) (X:List (List Ar)):XR f cl X 0=List.replicate X.length []:=by
 refine List.ext_getElem (by simp [XR]) fun i h1 h2=>?_
 simp [XR,XQ]
theorem Q7 (f:Nat->Nat) (cl:List Int) (X:List (List Ar)) (k c:Nat):XQ f cl X (k+1) c=XQ f cl X k c++if f k=c then XP cl X k else []:=by
 unfold XQ
 rw [List.range_succ,List.filter_append,List.flatMap_append]
 congr 1
 by_cases h:f k=c
 ·simp [h]
 simp [h]
theorem cH {f:Nat->Nat} {cl:List Int} {X:List (List Ar)} {k:Nat} (h:f k<X.length):(XR f cl X k).set (f k) (XQ f cl X k (f k)++XP cl X k)=XR f cl X (k+1):=by
 refine List.ext_getElem (by simp [XR]) fun i h1 h2=>?_
 have hi:i<X.length:=by simpa [XR] using h2
 rw [List.getElem_set]
 split
 ·rename_i e
  subst e
  simp only [XR,List.getElem_map,List.getElem_range,Q7,if_true]
 rename_i e
 simp only [XR,List.getElem_map,List.getElem_range,Q7,if_neg e,List.append_nil]
theorem NN (f:Nat->Nat) (cl:List Int) (X:List (List Ar)) (c:Nat):∀ k,k<=X.length->(XQ f cl X k c).length<=k+Bw (X.take k):=by
 intro k
 induction k with
 | zero=>intro _;simp [XQ]
 | succ k ih=>
  intro hk
  have h1:=ih (by omega)
  have h2:=Cj (R:=X) (k:=k) hk
  have h3:=Sg cl X[k]
  have h4:X.getD k []=X[k]:=by rw [gE2,gE1 hk];rfl
  rw [Q7,List.length_append]
  split
  ·unfold XP;rw [h4,List.length_cons];omega
  simp;omega
def XS (E:List Ed) (c:Nat):List Int:=(E.filter fun e=>e.1 == c).map fun e=>(e.2:Int)
def XT (n:Nat) (E:List Ed):List (List Int):=(List.range n).map (XS E)
theorem cw (n:Nat) (E:List Ed):(XT n E).length=n:=by simp [XT]
theorem Si {n:Nat} {E:List Ed} {c:Nat} (h:c<n):(XT n E)[c]?=some (XS E c):=by simp [XT,h]
theorem cx (E:List Ed) (c:Nat):(XS E c).length<=E.length:=by unfold XS;rw [List.length_map];exact List.length_filter_le _ _
theorem cq (E:List Ed) (c t d:Nat):XS (E++[(c,t)]) d=XS E d++if c=d then [(t:Int)] else []:=by
 unfold XS
 rw [List.filter_append,List.map_append]
 by_cases h:c=d
 ·simp [h]
 simp [h]
theorem cI {n:Nat} {E:List Ed} {c t:Nat} (h:c<n):(XT n E).set c (XS E c++[(t:Int)])=XT n (E++[(c,t)]):=by
 refine List.ext_getElem (by simp [XT]) fun i h1 h2=>?_
 rw [List.getElem_set]
 split
 ·rename_i e
  subst e
  simp only [XT,List.getElem_map,List.getElem_range,cq,if_true]
 rename_i e
 simp only [XT,List.getElem_map,List.getElem_range,cq,if_neg e,List.append_nil]
theorem cJ (n:Nat):XT n []=List.replicate n []:=by
 refine List.ext_getElem (by simp [XT]) fun i h1 h2=>?_
 simp [XT,XS]
theorem NO {E:List Ed} {c:Nat} {x:Int}:x∈XS E c↔∃ t:Nat,x=(t:Int)/\(c,t)∈E:=by
 unfold XS
 simp only [List.mem_map,List.mem_filter,beq_iff_eq]
 constructor
 rotate_left
 ·rintro ⟨t,rfl,h⟩
  exact ⟨(c,t),⟨h,rfl⟩,rfl⟩
 rintro ⟨e,⟨h1,h2⟩,rfl⟩
 exact ⟨e.2,rfl,by rw [<- h2];exact h1⟩
def XU (O:List (List Ar)) (nx:List Int):List Ar:=nx.flatMap fun t=>O.getD t.toNat []
def XV (N:List (List Int)) (O:List (List Ar)) (c:Nat):List (List Ar):=O.set c (Cq (O.getD c []++XU O (N.getD c [])))
theorem cK (O:List (List Ar)) (nx:List Int) (t:Int):XU O (nx++[t])=XU O nx++O.getD t.toNat []:=by simp [XU]
theorem cR {O:List (List Ar)} {B:Nat} (h:∀ c,(O.getD c []).length<=B):∀ nx:List Int,(XU O nx).length<=nx.length*B:=by
 intro nx
 induction nx with
 | nil=>simp [XU]
 | cons t r ih=>
  have h1:=h t.toNat
  have h2:XU O (t :: r)=O.getD t.toNat []++XU O r:=rfl
  rw [h2,List.length_append,List.length_cons,Nat.succ_mul]
  omega
theorem Sj (N:List (List Int)) (O:List (List Ar)) (c:Nat):(XV N O c).length=O.length:=by simp [XV]
theorem Da {α:Type} [DecidableEq α]:∀ {l m:List α},l.Nodup->(∀ x∈l,x∈m)->l.length<=m.length
 | [],_,_,_=>Nat.zero_le _
 | a :: l,m,h,hs=>by
  have h2:=List.nodup_cons.1 h
  have ha:=hs a List.mem_cons_self
  have ih:=Da (m:=m.erase a) h2.2 fun x hx=>(List.mem_erase_of_ne (fun e=>h2.1 (by rw [<- e];exact hx))).2 (hs x (gEf _ hx))
  have h3:=List.length_erase_of_mem ha
  have h4:=List.length_pos_of_mem ha
  simp only [List.length_cons]
  omega
theorem Jr {l:List Ar} (h:SortA l):l.Nodup:=h.imp fun {a b} hab=>by
 rintro rfl
 rw [Ef] at hab;cases hab
def XW (cl:List Int) (X:List (List Ar)):List Ar:=(List.range X.length).flatMap (XP cl X)
theorem Sk (cl:List Int) (X:List (List Ar)):(XW cl X).length<=X.length+Bw X:=by
 have h:XW cl X=XQ (fun _=>0) cl X X.length 0:=by
  unfold XW XQ
  rw [List.filter_eq_self.2 (fun _ _=>by simp)]
 rw [h]
 have:=NN (fun _=>0) cl X 0 X.length (Nat.le_refl _)
 rwa [List.take_length] at this
structure P3 (f:Nat->Nat) (cl:List Int) (X:List (List Ar)) (Q:List Nat) (i:Nat) (O:List (List Ar)):Prop where
 len:O.length=X.length
 sz:∀ c,(O.getD c []).length<=X.length+Bw X
 sub:∀ c,∀ x∈O.getD c [],x∈XW cl X
 raw:∀ c,c<X.length->c ∉ Q.take i->O.getD c []=XQ f cl X X.length c
 don:∀ c,c∈Q.take i->SortA (O.getD c [])/\∀ x,x∈O.getD c []↔∃ s,s<X.length/\Rc (WP true X) c s/\x∈XP cl X s
theorem Hu (f:Nat->Nat) (cl:List Int) (X:List (List Ar)) (k:Nat) {c:Nat} (h:c<X.length):(XR f cl X k).getD c []=XQ f cl X k c:=by rw [gE2,Sh h];rfl
theorem P3.start (f:Nat->Nat) (cl:List Int) (X:List (List Ar)) (Q:List Nat):P3 f cl X Q 0 (XR f cl X X.length):=by
 have out:∀ c,¬ c<X.length->(XR f cl X X.length).getD c []=[]:=fun c h=>by rw [gE2,List.getElem?_eq_none (by rw [NM];omega)];rfl
 refine ⟨NM _ _ _ _,fun c=>?_,fun c x hx=>?_,fun c hc _=>Hu _ _ _ _ hc,fun c hc=>by simp at hc⟩
 ·by_cases h:c<X.length
  rotate_left
  ·rw [out c h];simp
  rw [Hu _ _ _ _ h]
  have:=NN f cl X c X.length (Nat.le_refl _)
  rwa [List.take_length] at this
 by_cases h:c<X.length
 rotate_left
 ·rw [out c h] at hx;simp at hx
 rw [Hu _ _ _ _ h] at hx
 obtain ⟨s,h1,h2⟩:=List.mem_flatMap.1 hx
 exact List.mem_flatMap.2 ⟨s,(List.mem_filter.1 h1).1,h2⟩
theorem Js {X:List (List Ar)} {D:List Int} (hv:Bv X=true) (h:CpOk X D) {v s:Nat} (hvl:v<X.length) (hr:Rc (WP true X) v s):XG D v=XG D s\/∃ t,(XG D v,t)∈Xy (XG D) X X.length/\Rc (WP true X) t s:=by
 have hlo:BE X=true:=gEg (gE4 hv).1
 have hE:=Cw true hlo
 induction hr with
 | refl=>exact .inl rfl
 | @tail u w h1 h2 ih=>
  rcases ih with e | ⟨t,e1,e2⟩
  rotate_left
  ·exact .inr ⟨t,e1,e2.tail h2⟩
  by_cases ew:XG D u=XG D w
  ·exact .inl (e.trans ew)
  have hu:=h1.lt hvl hE
  have hw:=hE _ hu _ h2
  refine .inr ⟨XG D w,?_,(BN hv h hw).2.2.2.1⟩
  rw [Fb]
  rw [Gs hv] at h2
  exact ⟨u,hu,(0,(w:Int)),h2,rfl,by simpa using ew,by rw [e];simp⟩
theorem Ua {X:List (List Ar)} {D:List Int} (hv:Bv X=true) (h:CpOk X D) {c t:Nat} (he:(c,t)∈Xy (XG D) X X.length):Rc (WP true X) c t:=by
 have hlo:BE X=true:=gEg (gE4 hv).1
 obtain ⟨s,hs,a,ha,h0,hne,e⟩:=Fb.1 he
 cases e
 have hg:X.getD s []=X[s]:=by rw [gE2,gE1 hs];rfl
 have hb:=(gE4 hlo).2.2.2 _ (gE6 hs) a (by rw [<- hg];exact ha)
 have ht:a.2.toNat<X.length:=by omega
 have hadj:a.2.toNat∈WP true X s:=by
  rw [Gs hv]
  have:((0:Int),((a.2.toNat:Nat):Int))=a:=by
   rcases a with ⟨x,y⟩
   simp only at h0 hb ⊢
   rw [h0];congr 1;omega
  rw [this];exact ha
 exact ((BN hv h hs).2.2.2.1.trans (.one hadj)).trans (BN hv h ht).2.2.1
theorem P3.step {X:List (List Ar)} {D cl:List Int} {Q:List Nat} {O:List (List Ar)} {i:Nat} (hv:Bv X=true) (h:CpOk X D) (hQ:Hr (Xy (XG D) X X.length) X.length (XG D) Q) (hP:P3 (XG D) cl X Q i O) {c:Nat} (hi:Q[i]?=some c):P3 (XG D) cl X Q (i+1) (XV (XT X.length (Xy (XG D) X X.length)) O c):=by
 have hlo:BE X=true:=gEg (gE4 hv).1
 have hE:=Cw true hlo
 obtain ⟨hnd,hmem,htop⟩:=hQ
 have hil:i<Q.length:=(List.getElem?_eq_some_iff.1 hi).1
 have hcQ:c∈Q:=gE9 hi
 obtain ⟨hc,hfc⟩:=(hmem c).1 hcQ
 have hcn:c ∉ Q.take i:=fun hin=>by
  obtain ⟨j,hj,e⟩:=List.mem_take_iff_getElem.1 hin
  have h1:=(List.getElem?_eq_some_iff.1 hi).2
  have h2:Q[j]'(by omega)=Q[i]:=e.trans h1.symm
  have:=(List.getElem_inj hnd).1 h2
  omega
 have hsucc:Q.take (i+1)=Q.take i++[c]:=by
  rw [gE8 hil,(List.getElem?_eq_some_iff.1 hi).2]
 have hN:(XT X.length (Xy (XG D) X X.length)).getD c []=XS (Xy (XG D) X X.length) c:=by rw [gE2,Si hc];rfl
 have hself:(XV (XT X.length (Xy (XG D) X X.length)) O c).getD c []=Cq (O.getD c []++XU O (XS (Xy (XG D) X X.length) c)):=by
  unfold XV
  rw [hN,gE2,gEc (by rw [hP.len];exact hc)];rfl
 have hoth:∀ d,d ≠ c->(XV (XT X.length (Xy (XG D) X X.length)) O c).getD d []=O.getD d []:=fun d hd=>by
  unfold XV
  rw [gE2,gE5 (Ne.symm hd),<- gE2]
 have hin:∀ x,x∈O.getD c []++XU O (XS (Xy (XG D) X X.length) c)->x∈XW cl X:=fun x hx=>by
  rcases List.mem_append.1 hx with hx | hx
  ·exact hP.sub _ _ hx
  obtain ⟨t,_,ht⟩:=List.mem_flatMap.1 hx
  exact hP.sub _ _ ht
 have hmemc:∀ x,x∈O.getD c []++XU O (XS (Xy (XG D) X X.length) c)↔∃ s,s<X.length/\Rc (WP true X) c s/\x∈XP cl X s:=by
  intro x
  rw [List.mem_append,hP.raw c hc hcn]
  constructor
  rotate_left
  ·rintro ⟨s,hs,h1,h2⟩
   rcases Js hv h hc h1 with e | ⟨t,he,h3⟩
   ·refine .inl (List.mem_flatMap.2 ⟨s,List.mem_filter.2 ⟨by simpa using hs,?_⟩,h2⟩)
    rw [hfc] at e;simp [e]
   rw [hfc] at he
   refine .inr (List.mem_flatMap.2 ⟨(t:Int),NO.2 ⟨t,rfl,he⟩,?_⟩)
   simp only [Int.toNat_natCast]
   obtain ⟨j,hj,hjt⟩:=htop i c hi _ he rfl
   have ht:t∈Q.take i:=by
    rw [List.mem_take_iff_getElem]
    have h5:=List.getElem?_eq_some_iff.1 hjt
    exact ⟨j,by have:=h5.1;omega,h5.2⟩
   exact ((hP.don t ht).2 x).2 ⟨s,hs,h3,h2⟩
  rintro (hx | hx)
  ·obtain ⟨s,h1,h2⟩:=List.mem_flatMap.1 hx
   have h3:=List.mem_filter.1 h1
   have hs:s<X.length:=by simpa using h3.1
   have hfs:XG D s=c:=by simpa using h3.2
   refine ⟨s,hs,?_,h2⟩
   rw [<- hfs];exact (BN hv h hs).2.2.2.1
  obtain ⟨t,h1,h2⟩:=List.mem_flatMap.1 hx
  obtain ⟨t,rfl,he⟩:=NO.1 h1
  (try simp only [Int.toNat_natCast] at h2)
  obtain ⟨j,hj,hjt⟩:=htop i c hi _ he rfl
  have ht:t∈Q.take i:=by
   rw [List.mem_take_iff_getElem]
   have h5:=List.getElem?_eq_some_iff.1 hjt
   exact ⟨j,by have:=h5.1;omega,h5.2⟩
  obtain ⟨s,hs,h3,h4⟩:=((hP.don t ht).2 x).1 h2
  exact ⟨s,hs,(Ua hv h he).trans h3,h4⟩
 refine ⟨by rw [Sj,hP.len],fun d=>?_,fun d x hx=>?_,fun d hd hdn=>?_,fun d hd=>?_⟩
 ·by_cases e:d=c
  rotate_left
  ·rw [hoth d e];exact hP.sz d
  subst e
  rw [hself]
  refine Nat.le_trans (Da (m:=XW cl X) (Jr (B9 _)) fun x hx=>hin x ((C8 _ _).1 hx)) (Sk cl X)
 ·by_cases e:d=c
  rotate_left
  ·rw [hoth d e] at hx;exact hP.sub d x hx
  subst e
  rw [hself,C8] at hx
  exact hin x hx
 ·rw [hsucc] at hdn
  have e:d ≠ c:=fun e=>hdn (by rw [e];simp)
  rw [hoth d e]
  exact hP.raw d hd fun h=>hdn (List.mem_append_left _ h)
 rw [hsucc] at hd
 rcases List.mem_append.1 hd with h1 | h1
 ·have e:d ≠ c:=fun e=>hcn (by rw [<- e];exact h1)
  rw [hoth d e]
  exact hP.don d h1
 have e:d=c:=by simpa using h1
 subst e
 rw [hself]
 exact ⟨B9 _,fun x=>by rw [C8];exact hmemc x⟩
theorem P3.done {X:List (List Ar)} {D cl:List Int} {Q:List Nat} {O:List (List Ar)} (hv:Bv X=true) (h:CpOk X D) (hQ:Hr (Xy (XG D) X X.length) X.length (XG D) Q) (hP:P3 (XG D) cl X Q Q.length O) {s:Nat} (hs:s<X.length):O.getD (XG D s) []=Xi (Tt X) cl s:=by
 obtain ⟨_,p2,p3,p4,p5⟩:=BN hv h hs
 have hin:XG D s∈Q.take Q.length:=by rw [List.take_length];exact (hQ.2.1 _).2 ⟨p2,p5⟩
 obtain ⟨h1,h2⟩:=hP.don _ hin
 refine Cg h1 (B9 _) fun x=>?_
 have hE:=Cw true (gEg (gE4 hv).1:BE X=true)
 rw [h2]
 refine Iff.trans ?_ (DG (S:=Tt X) (c:=cl) (s:=s) (x:=x)).symm
 constructor
 rotate_left
 ·rintro ⟨a,ha,rfl⟩
  rcases (Hp hv hs).1 ha with ⟨h0,u,e,h3⟩ | ⟨h0,t,h3,h4⟩
  ·have hu:=h3.lt hs hE
   refine ⟨u,hu,p4.trans h3,List.mem_cons.2 (.inl ?_)⟩
   rw [h0,e];simp
  refine ⟨t,h3.lt hs hE,p4.trans h3,gEf _ (List.mem_filterMap.2 ⟨a,h4,?_⟩)⟩
  unfold XN
  rw [if_pos h0]
 rintro ⟨u,hu,h3,h4⟩
 have hsu:=p3.trans h3
 rcases List.mem_cons.1 h4 with rfl | h4
 ·exact ⟨(0,(u:Int)),(Hp hv hs).2 (.inl ⟨rfl,u,rfl,hsu⟩),by simp⟩
 obtain ⟨a,ha,e⟩:=List.mem_filterMap.1 h4
 unfold XN at e
 split at e
 rotate_left
 ·cases e
 rename_i h0
 cases e
 exact ⟨a,(Hp hv hs).2 (.inr ⟨h0,u,hsu,ha⟩),rfl⟩
section
variable {P : Program} {o : Oper} {st : ST} {K : ST -> Prop} {t kt e : TypeId} {s : Ks} {zv : Value} {id : Nat} {kv : List (Value × C)} {key : Value}
def XX (zv:Value) (ok:Bool):Option (Nat × C)->AV
 | some (_,c)=>match ok with
  | true=>.tup [.c c,.c (.v (.bool true))]
  | false=>.a (.c c)
 | none=>match ok with
  | true=>.tup [.c (.v zv),.c (.v (.bool false))]
  | false=>.a (.c (.v zv))
theorem Ci {x ix:Operand} {ok:Bool} {r:Option (Nat × C)} (hu:P.underlying t=some (.map kt e)) (hK:KeyOk P kt s) (hze:(P.info? e).bind (·.zero)=some zv)
  (hd:VJ o st.n=true) (ho:o.op=.lookup t x ix ok) (hx:st.ev x=.a (.c (.m id))) (hm:st.hp[id]?=some (.m kv)) (hpl:kv.all (fun p=>p.2.pl)=true) (hkey:EP (st.ev ix)=some key) (hfit:Fj s key=true) (hf:BJ s key kv 0=some r)
  (h:K (st.put o.dst (XX zv ok r))):Stp P o st K:=by
 refine ER hd (fun g w ρ hr hR=>?_) h
 obtain ⟨dst,op,ty,pos,af,gd⟩:=o
 simp only at ho
 subst ho
 have hz1:∀ w,(zeroValue e).run P w=.ok zv w:=by
  intro w
  cases hi:P.info? e with
  | none=>rw [hi] at hze;cases hze
  | some i=>
   rw [hi] at hze
   simp only [Option.bind_some] at hze
   simp [zeroValue,CS hi,hze]
 obtain ⟨es,clock,m1,m2,m3,m4⟩:=(hr.mp id kv hm).map hf
 have e1:=hR x
 rw [hx] at e1
 obtain ⟨_,e1⟩:=e1
 have e2:=hR ix
 have e2:=JR hkey e2
 have hKv:KvOk kv es.toList:=⟨by simpa using m2,fun i p hp=>by
  obtain ⟨⟨e,f1,f2,_⟩,_⟩:=m3 i p hp
  exact ⟨e,by simpa using f1,f2⟩⟩
 obtain ⟨q,hq⟩:∃ q,BZ s key key=some q:=by
  unfold Fj at hfit
  split at hfit
  ·exact ⟨_,‹_›⟩
  cases hfit
 have hck:=hK.ck key q hq es.isEmpty w
 cases r with
 | some p=>
  obtain ⟨j,c⟩:=p
  obtain ⟨h1,h2⟩:=Ja hK key w hKv hf
  obtain ⟨k',h3,h4⟩:=h2 j c rfl
  obtain ⟨⟨e,f1,f2,f3⟩,f4⟩:=m3 j _ h3
  have hc:CR g st.hp w c e.val:=by
   have:=List.all_eq_true.1 hpl _ (gE9 h3)
   exact CellR.cr this f3
  have hfnd:W9 es.toList 0 (some (j,c))=some (j,e.val):=by simp [W9,f1]
  rw [hfnd] at h1
  cases ok with
  | true=>
   refine ⟨.tuple #[e.val,.bool true],?_,[e.val,.bool true],rfl,rfl,fun i a ha=>?_⟩
   ·simp [execOp,Instr.lookup,run_underlying hu,e1,MapKept.run_getObj_map m1,e2,hck,h1]
   match i,ha with
   | 0,ha=>cases ha;exact ⟨_,rfl,hc⟩
   | 1,ha=>cases ha;exact ⟨_,rfl,rfl⟩
  | false=>
   refine ⟨e.val,?_,hc⟩
   simp [execOp,Instr.lookup,run_underlying hu,e1,MapKept.run_getObj_map m1,e2,hck,h1]
 | none=>
  obtain ⟨h1,_⟩:=Ja hK key w hKv hf
  have hfnd:W9 es.toList 0 none=none:=rfl
  rw [hfnd] at h1
  cases ok with
  | true=>
   refine ⟨.tuple #[zv,.bool false],?_,[zv,.bool false],rfl,rfl,fun i a ha=>?_⟩
   ·simp [execOp,Instr.lookup,run_underlying hu,e1,MapKept.run_getObj_map m1,e2,hck,h1,hz1 w]
   match i,ha with
   | 0,ha=>cases ha;exact ⟨_,rfl,rfl⟩
   | 1,ha=>cases ha;exact ⟨_,rfl,rfl⟩
  | false=>
   refine ⟨zv,?_,rfl⟩
   simp [execOp,Instr.lookup,run_underlying hu,e1,MapKept.run_getObj_map m1,e2,hck,h1,hz1 w]
theorem GY {m kx v:Operand} {c:C} (hu:P.underlying t=some (.map kt e)) (hK:KeyOk P kt s) (hd:VJ o st.n=true) (ho:o.op=.mapUpdate t m kx v) (hm:st.ev m=.a (.c (.m id))) (hmm:st.hp[id]?=some (.m kv)) (hpl:kv.all (fun p=>p.2.pl)=true)
  (hkey:EP (st.ev kx)=some key) (hfit:Fj s key=true) (hv:st.ev v=.a (.c c)) (hone:c.one=true) (hf:BJ s key kv 0=some none)
  (h:K ({ st with hp:=st.hp.set id (.m (kv++[(key,c)])) }.put o.dst .u)):Stp P o st K:=by
 obtain ⟨q,hq⟩:∃ q,BZ s key key=some q:=by
  unfold Fj at hfit
  split at hfit
  ·exact ⟨_,‹_›⟩
  cases hfit
 have hcell:∀ {g:Gh} {w:World} {u:Value},CR g st.hp w c u->CellR g st.hp w id 0 c u:=fun h=>Fg hone h
 have hcpl:c.pl=true:=by cases c <;> first | rfl | cases hone
 intro M0 w0 a w N Q hR hN
 obtain ⟨g,⟨hp1,hp2⟩,hR⟩:=hR
 have e1:=hR.ev m
 rw [hm] at e1
 obtain ⟨_,e1⟩:=e1
 have e2:=hR.ev kx
 have e2:=JR hkey e2
 have e3:=hR.ev v
 rw [hv] at e3
 obtain ⟨es,clock,m1,m2,m3,m4⟩:=(hR.hr.mp id kv hmm).map hf
 have hKv:KvOk kv es.toList:=⟨by simpa using m2,fun i p hp=>by
  obtain ⟨⟨e,f1,f2,_⟩,_⟩:=m3 i p hp
  exact ⟨e,by simpa using f1,f2⟩⟩
 obtain ⟨h1,_⟩:=Ja hK key w hKv hf
 have hfnd:W9 es.toList 0 none=none:=rfl
 rw [hfnd] at h1
 have hl:es.size=kv.length:=by simpa using hKv.1
 have r1:(Instr.mapUpdate t (.map (some (g.γ (.ob id)))) key (a.eval v)).run P w=.ok () { w with heap:=w.heap.setIfInBounds (g.γ (.ob id)) (.map (es.push { key:=key,val:=a.eval v,born:=clock }) (clock+1)) }:=by
  simp [Instr.mapUpdate,run_underlying hu,MapKept.run_getObj_map m1,hK.ck key q hq,h1,MapKept.run_setObj_map _ m1]
 have hset:=hR.mapset (es':=es.push { key:=key,val:=a.eval v,born:=clock }) (clock:=clock+1) (kv':=kv++[(key,c)]) hmm (by simp [hl]) (fun i p hp=>by
  rcases Nat.lt_or_ge i kv.length with hi | hi
  ·rw [gEa hi] at hp
   obtain ⟨⟨e',g1,g2,g3⟩,g4⟩:=m3 i p hp
   exact ⟨⟨e',by rw [Array.getElem?_push_lt (by omega)];rw [<- g1];simp [show i<es.size by omega],g2,g3⟩,g4⟩
  ·rw [gEb hi] at hp
   have hi':i=kv.length:=by
    have:=(List.getElem?_eq_some_iff.1 hp).1
    simp at this
    omega
   subst hi'
   simp at hp
   subst hp
   exact ⟨⟨{ key:=key,val:=a.eval v,born:=clock },by rw [<- hl];simp,rfl,hcell e3⟩,fun k' cs e=>by
    simp only at e
    rw [e] at hcpl;cases hcpl⟩) (m4.push _ _)
 have hrun:(execOp a.eval o).run P w=.ok .skip { w with heap:=w.heap.setIfInBounds (g.γ (.ob id)) (.map (es.push { key:=key,val:=a.eval v,born:=clock }) (clock+1)) }:=by
  unfold execOp
  simp [ho,e1,e2,r1]
 unfold Oper.wp
 rw [hrun]
 exact hN _ _ _ h ⟨g,⟨by cases o.dst <;> (simp [ST.put];omega),by cases o.dst <;> exact hp2⟩,hset.put (B3 hd) trivial⟩
theorem Sm {src d el:TypeId} {x:Operand} {n q:Nat} {sl:Bool} {cells:List C} {ns:List Int} (hu1:P.underlying src=some (.slice el)) (hu2:P.underlying d=some .string) (hu3:P.underlying el=some (.int .u8))
  (hd:VJ o st.n=true) (ho:o.op=.convert src d x) (hx:st.ev x=.a (.c (.s id n))) (hrow':st.hp[id]?=some (.r ⟨q,1,sl,cells⟩)) (hns:ns.length=n) (e1:cells.take n=ns.map (fun m=>C.v (.int .u8 m)))
  (h:K (st.put o.dst (.a (.c (.v (.string ⟨⟨ns.map fun (m:Int)=>UInt8.ofNat m.toNat⟩⟩)))))):Stp P o st K:=by
 refine ER hd (fun g w ρ hr hR=>?_) h
 obtain ⟨dst,op,ty,pos,af,gd⟩:=o
 simp only at ho
 subst ho
 have e2:=hR x
 rw [hx] at e2
 obtain ⟨_,hn,A,e2,e3,_⟩:=e2
 refine ⟨.string ⟨⟨ns.map fun (m:Int)=>UInt8.ofNat m.toNat⟩⟩,?_,rfl⟩
 have hconv:(Conv.bytesToString (.slice A n (g.κ id))).run P w=.ok (.string ⟨⟨ns.map fun (m:Int)=>UInt8.ofNat m.toNat⟩⟩) w:=by
  rcases hr.row id _ hrow' with ⟨h0,h2⟩ | ⟨h0,_,arr,ha,hla,hs,_,hcells⟩
  ·have hn0:n=0:=by omega
   subst hn0
   have:ns=[]:=List.eq_nil_of_length_eq_zero hns
   subst this
   cases A with
   | none=>simp [Conv.bytesToString,ByteArray.empty,ByteArray.emptyWithCapacity];rfl
   | some a=>simp [Conv.bytesToString,loadCells,loadCellsFrom,ByteArray.empty,ByteArray.emptyWithCapacity];rfl
  rw [e3 h0]
  have hload:(loadCells ⟨g.γ (.ob id),0,none⟩ n).run P w=.ok (ns.map (Value.int .u8)).toArray w:=by
   unfold loadCells
   rw [BO _ _ _ 0 (ns.map (Value.int .u8)) #[] (by simpa using hns) (fun q u hq=>?_)]
   ·simp
   rw [cell_of_row _ _ _ _ _ _ ha]
   rw [List.getElem?_map,Option.map_eq_some_iff] at hq
   obtain ⟨m,hm,rfl⟩:=hq
   have hlt:q<n:=by rw [<- hns];exact (List.getElem?_eq_some_iff.1 hm).1
   have hcq:cells[q]?=some (.v (.int .u8 m)):=by
    have:(cells.take n)[q]?=some (.v (.int .u8 m)):=by rw [e1];simp [hm]
    rw [List.getElem?_take,if_pos hlt] at this
    exact this
   obtain ⟨u,f1,f2⟩:=hcells q _ hcq
   have f2:u=.int .u8 m:=f2
   subst f2
   simpa using f1
  simp only [Conv.bytesToString,Sem.run_bind,hload,Result.andThen_ok]
  rw [MB (fun n s w=>by simp)]
  simp [ByteArray.empty,ByteArray.emptyWithCapacity]
  rfl
 simp [execOp,convert,run_underlying hu1,run_underlying hu2,e2,run_underlying hu3,hconv]
end
end Go.Proofs.YtjijjfkalheokaaGreatDoor
