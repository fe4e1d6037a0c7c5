/- Lemmas. -/
import Derived.Test.YtjijjfkalheokaaGreatDoorZk
import Derived.Test.YtjijjfkalheokaaGreatDoorG11
import Derived.Test.YtjijjfkalheokaaGreatDoorG45
import Derived.Test.YtjijjfkalheokaaGreatDoorMD
import Derived.Test.YtjijjfkalheokaaGreatDoorShlf
import Derived.Shelf.SlSortCmp.NoneTotal
import Derived.Test.YtjijjfkalheokaaGreatDoorTj1
import Derived.Shelf.SlSortCmp.Kit1
import Derived.Test.YtjijjfkalheokaaGreatDoorMF
import Derived.Test.YtjijjfkalheokaaGreatDoorShlfS
import Derived.Shelf.Sort.Plain
import Derived.Shelf.Slices.In.SortNone
import Derived.Test.YtjijjfkalheokaaGreatDoorG42
namespace Go.Proofs.YtjijjfkalheokaaGreatDoor
set_option linter.unusedVariables false
set_option linter.unusedSimpArgs false
open Go.RowKit
set_option maxRecDepth 100000

theorem DR {xs:List Ar} {i:Nat} (h:i<xs.length):(((Ax xs).drop (i*2)).take 2)=[.v (.int .i64 xs[i].1),.v (.int .i64 xs[i].2)]:=by
 have:=congrArg (List.map C.ofTr) (AL h)
 rw [List.map_take,List.map_drop,Cp] at this
 exact this
theorem Nb {ys:List Ar} {m:Nat} (h:m<ys.length) {a b:Int}:((Ax ys).set (m*2) (.v (.int .i64 a))).set (m*2+1) (.v (.int .i64 b))=Ax (ys.set m (a,b)):=by
 induction ys generalizing m with
 | nil=>simp at h
 | cons y r ih=>
  have e:Ax (y :: r)=C.v (.int .i64 y.1) :: C.v (.int .i64 y.2) :: Ax r:=rfl
  cases m with
  | zero=>rw [e];rfl
  | succ m=>
   have e2:Ax ((y :: r).set (m+1) (a,b))=C.v (.int .i64 y.1) :: C.v (.int .i64 y.2) :: Ax (r.set m (a,b)):=rfl
   rw [e,e2,<- ih (by simpa using h),show (m+1)*2=m*2+1+1 by omega]
   rfl
theorem Nc (x y:Operand) (a b:Ar):FR Tryz.prog .neq 46 x y [.int .i64 a.1,.int .i64 a.2] [.int .i64 b.1,.int .i64 b.2] (!decide (a=b))=True:=by
 rw [<- Dm]
 refine eq_true ?_
 have:=(TW x y [.v (.int .i64 a.1),.v (.int .i64 a.2)] [.v (.int .i64 b.1),.v (.int .i64 b.2)] _ _ rfl rfl rfl rfl).2
 simpa [VD] using this
theorem Nd:∀ l:List Ar,LJ l=PD l:=by
 have h:∀ (l:List Ar) (p:Ar),Ei p l=DC p l:=by
  intro l
  induction l with
  | nil=>intro p;rfl
  | cons y ys ih=>intro p;simp only [Ei,DC,ih]
 intro l
 cases l with
 | nil=>rfl
 | cons x xs=>simp only [LJ,PD,h]
attribute [local go_sem] List.map_cons List.map_nil List.take_succ_cons List.take_zero List.drop_zero List.drop_succ_cons C.pl C.one List.all_cons List.all_nil Bool.and_true
set_option maxHeartbeats 1000000 in
theorem It (L:List Ar) (hn:L.length<=100000000):FC Tryz.prog 68 [.a (.c (.s 0 L.length))] [.r ⟨46,2,true,Ax L⟩]
  (fun r o=>r=.a (.c (.s 0 (LJ L).length))/\∃ rest us,Fz rest us/\(L=[]->rest=[])/\o=[.r ⟨46,2,true,Ax (LJ L)++rest⟩]):=by
 refine A6 Tryz.func68 rfl (by rw [Tryz.ntmps68];simp) ?_
 rw [Tryz.ntmps68]
 simp only [Bf]
 (refine Wt ?_;(repeat clear hK K);repeat refine kq fun K hK=>?_)
 (refine At ?_;intro X Y hX hY;simp only [go_sem])
 refine ⟨fun h=>hX ?_,fun h=>hY ?_⟩
 ·clear hX hY X Y
  (refine Wt ?_;(repeat clear hK K);repeat refine kq fun K hK=>?_)
  refine WH Tryz.results68 ?_
  have hc:LJ L=L:=by
   match L,h with
   | [],_=>rfl
   | [x],_=>rfl
   | _ :: _ :: _,h=>simp at h;omega
  rw [hc]
  exact ⟨rfl,[],[],trivial,fun _=>rfl,by simp⟩
 clear hX hY X Y
 have h2:2<=L.length:=by simp at h;omega
 clear h
 (refine Wt ?_;(repeat clear hK K);repeat refine kq fun K hK=>?_)
 refine A8 (fun k:Nat=>{ tm:=[(0,.a (.c (.s 0 L.length))),(3,.i (k+1:Nat))],hp:=[.r ⟨46,2,true,Ax L⟩],n:=61,pin:=1 }) (fun k=>k+1<=L.length/\LJ L=L.take (k+1)++Ei (L.getD k (0,0)) (L.drop (k+1))) (fun k=>L.length - k) 0 ?_ ?_ ?_
 ·refine ⟨by omega,?_⟩
  match L,h2 with
  | x :: r,_=>simp [LJ]
 ·exact WE
 rintro k ⟨hk,he⟩ K hK
 (refine Wt ?_;(repeat clear hK K);repeat refine kq fun K hK=>?_)
 (refine At ?_;intro X Y hX hY;simp only [go_sem])
 refine ⟨fun h=>hX ?_,fun h=>hY ?_⟩
 rotate_left
 ·have hge:k+1=L.length:=by simp at h;omega
  clear hX hY X Y
  (refine Wx ?_;repeat clear hK K)
  (refine Wt ?_;(repeat clear hK K);repeat refine kq fun K hK=>?_)
  refine WH Tryz.results68 ?_
  have hc:LJ L=L:=by rw [he,hge];simp [Ei]
  rw [hc]
  exact ⟨rfl,[],[],trivial,fun _=>rfl,by simp⟩
 have hlt:k+1<L.length:=by simp at h;omega
 have hlt0:k<L.length:=by omega
 clear hX hY X Y h
 have e1:((k+1:Nat):Int) - 1=(k:Int):=by omega
 have g0:L.getD k (0,0)=L[k]:=by simp [List.getD,hlt0]
 rw [g0] at he
 have hst:=GW he (Nat.le_refl _) (gE1 hlt)
 (refine Wt ?_;(repeat clear hK K);repeat refine kq fun K hK=>?_)
 (refine Ac 9 [(0,0),(1,0),(2,0),(3,1),(4,0),(5,0),(6,0),(7,0),(8,1),(9,2)] (by kernel_rfl) (by kernel_rfl) (by intro c st h;simp [Ae,AF,VT] at h) ?_)
 (refine Wq (an @e1 (an (DR hlt) (an (DR hlt0) (an @Ap (an @MJ (an @Dm @true_and)))))) ?_;repeat clear hK K)
 (refine At ?_;intro X Y hX hY;simp only [go_sem])
 refine ⟨fun h=>hX ?_,fun h=>hY ?_⟩
 rotate_left
 ·clear hX hY X Y
  have hne:L[k+1] ≠ L[k]:=by simpa using h
  clear h
  (refine Wt ?_;(repeat clear hK K);repeat refine kq fun K hK=>?_)
  refine WD ?_
  refine hK _ (k+1) ⟨hlt,?_⟩ (by omega) ?_
  rotate_left
  ·exact WE
  have h1:=hst.2.1 hne
  rw [hst.2.2 hne rfl] at h1
  have:L.getD (k+1) (0,0)=L[k+1]:=by simp [List.getD,hlt]
  rw [this]
  exact h1
 clear hX hY X Y
 have heq:L[k+1]=L[k]:=by simpa using h
 clear h
 have hI:=hst.1 heq
 clear hst he
 (refine Wt ?_;(repeat clear hK K);repeat refine kq fun K hK=>?_)
 refine A8 (fun q:Nat × Nat × List Ar=>{ tm:=[(0,.a (.c (.s 0 L.length))),(3,.i q.1),(4,.a (.c (.w 0 (k+1) (L.length - (k+1)) 2))),(5,.i (q.2.1+1:Nat))],hp:=[.r ⟨46,2,true,Ax q.2.2⟩],n:=61,pin:=1 })
  (fun q=>q.2.2.length=L.length/\(∀ x∈q.2.2,x∈L)/\q.1<=k+1+q.2.1/\k+2+q.2.1<=L.length/\LJ L=q.2.2.take q.1++Ei (q.2.2.getD (k+1+q.2.1) (0,0)) (q.2.2.drop (k+2+q.2.1))) (fun q=>L.length - q.2.1) (k+1,0,L) ?_ ?_ ?_
 ·refine ⟨rfl,fun x h=>h,by simp,by simp only;omega,?_⟩
  have:L.getD (k+1) (0,0)=L[k+1]:=by simp [List.getD,hlt]
  simp only [Nat.add_zero,this]
  exact hI
 ·exact WE
 clear hI
 rintro ⟨m,j,ys⟩ ⟨hyl,hys,hm,hj,he⟩ K hK
 simp only at hyl hys hm hj he
 (refine Wt ?_;(repeat clear hK K);repeat refine kq fun K hK=>?_)
 (refine At ?_;intro X Y hX hY;simp only [go_sem])
 refine ⟨fun h=>hX ?_,fun h=>hY ?_⟩
 rotate_left
 ·clear hX hY X Y
  (refine Wx ?_;repeat clear hK K)
  have hend:ys.length<=k+2+j:=by simp at h;omega
  have hfin:=N9 he hend
  have hm2:m<L.length:=by omega
  (refine Wt ?_;(repeat clear hK K);repeat refine kq fun K hK=>?_)
  refine Ai rfl ?_;intro K1 hK1
  refine Mw (n:=L.length - m) (off:=m) (k:=2) (id:=0) rfl rfl Tryz.underlying42 ty46 (by simp only [go_sem]) rfl (by omega) rfl rfl (by simp only [Ap];omega) ?_
  intro zs hz1 hz2
  have hset:DJ (Ax ys) (m*2) zs=Ax (ys.take m)++zs:=by
   rw [Kp _ _ _ (by rw [Ap];omega),DQ]
  simp only [hset,List.set_cons_zero,go_sem]
  refine hK1 _ ?_;clear hK1 K1
  (refine Wt ?_;(repeat clear hK K);repeat refine kq fun K hK=>?_)
  refine WH Tryz.results68 ?_
  have hc:LJ L=ys.take m:=hfin
  rw [hc]
  refine ⟨by rw [List.length_take,Nat.min_eq_left (by omega)],zs,zs.map fun _=>Tr.v (.int .i64 0),?_,fun h0=>by rw [h0] at h2;simp at h2,rfl⟩
  have:zs=zs.map id:=by simp
  rw [this,List.map_map]
  exact Fz.map fun c hc=>by
   have:=hz2 c hc
   simp at this
   subst this
   exact .inl rfl
 have hlt:k+1+(j+1)<ys.length:=by simp at h;omega
 have hlt0:k+1+j<ys.length:=by omega
 have hw:((j+1:Nat):Int)<((L.length - (k+1):Nat):Int):=by omega
 have hw0:(j:Int)<((L.length - (k+1):Nat):Int):=by omega
 clear hX hY X Y h
 have e1:((j+1:Nat):Int) - 1=(j:Int):=by omega
 have g0:ys.getD (k+1+j) (0,0)=ys[k+1+j]:=by simp [List.getD,hlt0]
 rw [g0,show k+2+j=k+1+(j+1) from by omega] at he
 have hst:=GW he (by omega) (gE1 hlt)
 (refine Wt ?_;(repeat clear hK K);repeat refine kq fun K hK=>?_)
 have hk1:k+1+(j+1)=k+1+(j+1):=rfl
 (refine Ac 9 [(0,0),(1,0),(2,0),(3,1),(4,0),(5,0),(6,0),(7,0),(8,1),(9,2)] (by kernel_rfl) (by kernel_rfl) (by intro c st h;simp [Ae,AF,VT] at h) ?_)
 (refine Wq (an @e1 (an (DR hlt) (an (DR hlt0) (an @Ap (an @Nc (an @Dm @true_and)))))) ?_;repeat clear hK K)
 (refine At ?_;intro X Y hX hY;simp only [go_sem])
 refine ⟨fun h=>hX ?_,fun h=>hY ?_⟩
 rotate_left
 ·clear hX hY X Y
  have heq:ys[k+1+(j+1)]=ys[k+1+j]:=by simpa using h
  clear h
  (refine Wt ?_;(repeat clear hK K);repeat refine kq fun K hK=>?_)
  refine WD ?_
  refine hK _ (m,j+1,ys) ⟨hyl,hys,by simp only;omega,by simp only;omega,?_⟩ (by simp only;omega) ?_
  rotate_left
  ·exact WE
  have h1:=hst.1 heq
  have:ys.getD (k+1+(j+1)) (0,0)=ys[k+1+(j+1)]:=by simp [List.getD,hlt]
  simp only
  rw [this,show k+2+(j+1)=k+1+(j+1)+1 from by omega]
  exact h1
 clear hX hY X Y
 have hne:ys[k+1+(j+1)] ≠ ys[k+1+j]:=by simpa using h
 clear h
 have hm1:m<ys.length:=by omega
 (repeat (first | (refine AC ?_;intro K hK) | refine Aj ?_ | refine Ad ?_ | (refine B5 rfl rfl ?_;intro K1 hK1;simp only [go_sem,DR hlt,Ap,DJ,Nb hm1];(first | refine hK1 _ ?_ | refine AD (hK1 _ ?_));clear hK1 K1) | ((first | refine Aa ?_ | refine Al ?_);refine hK _ ?_;clear hK K)))
 refine WD ?_
 have hst2:=hst.2.1 hne
 have hpp:(ys.set m ys[k+1+(j+1)]).getD (k+1+(j+1)) (0,0)=ys[k+1+(j+1)]:=by
  rw [List.getD,gE5 (by omega),gE1 hlt];rfl
 refine hK _ (m+1,j+1,ys.set m ys[k+1+(j+1)]) ⟨by simp [hyl],?_,by simp only;omega,by simp only;omega,?_⟩ (by simp only;omega) ?_
 rotate_left
 ·simp only
  rw [hpp,show k+2+(j+1)=k+1+(j+1)+1 from by omega]
  exact hst2
 ·exact WE
 intro x hx
 rcases List.mem_or_eq_of_mem_set hx with hx | rfl
 ·exact hys x hx
 exact hys _ (gE6 hlt)

open Go.RowKit Go.Shelf Go.Sort
def X2 (a:Ar):List Value:=[.int .i64 a.1,.int .i64 a.2]
theorem Gm (xs:List Ar):Ax xs=(xs.flatMap X2).map C.v:=by simp [Ax,X2,List.map_flatMap]
theorem Vu:Sort.SWO (ltOf Gc) where
 irrefl x:=by rw [show ltOf Gc x x=WK x x from Ce x x];exact Ef x
 trans x y z h1 h2:=by
  rw [show ltOf Gc x y=WK x y from Ce x y] at h1
  rw [show ltOf Gc y z=WK y z from Ce y z] at h2
  rw [show ltOf Gc x z=WK x z from Ce x z]
  exact D7 h1 h2
 ntrans x y z h1 h2:=by
  rw [show ltOf Gc x y=WK x y from Ce x y] at h1
  rw [show ltOf Gc y z=WK y z from Ce y z] at h2
  rw [show ltOf Gc x z=WK x z from Ce x z]
  cases h3:WK x z with
  | false=>rfl
  | true=>
   have h1:¬ WK x y=true:=by rw [h1];simp
   have h2:¬ WK y z=true:=by rw [h2];simp
   rw [C0] at h1 h2 h3
   omega
theorem Nf (xs:List Ar):flatK X2 2 xs.toArray=(xs.flatMap X2).toArray:=by
 apply Array.ext
 ·simp [Dc X2 2 (fun _=>rfl)]
 intro t h1 h2
 simp only [size_flatK,List.size_toArray] at h1
 have hd:t / 2<xs.length:=Nat.div_lt_of_lt_mul (by rw [Nat.mul_comm];exact h1)
 have hm:t % 2<2:=Nat.mod_lt _ (by omega)
 have hg:=Fy X2 2 (fun _=>rfl) xs (t / 2) (t % 2) xs[t / 2] (gE1 hd) hm
 have htd:t / 2*2+t % 2=t:=by rw [Nat.mul_comm];exact Nat.div_add_mod t 2
 rw [htd] at hg
 have h3:=get_flatK X2 2 xs.toArray t (by simpa using h1)
 rw [getElem!_pos _ t (by simpa using h1)] at h3
 rw [h3]
 have h4:(xs.toArray)[t / 2]! = xs[t / 2]:=by simp [hd]
 rw [h4,getElem!_pos _ _ (by simp [X2];omega)]
 have hlt:t<(xs.flatMap X2).length:=by rw [Dc X2 2 (fun _=>rfl)];exact h1
 rw [gE1 hlt,gE1 (by simp [X2];omega)] at hg
 exact (Option.some.inj hg).symm
def Fx (xs:List Ar):List Ar:=xs.mergeSort fun x y=>!(ltOf Gc) y x
theorem LK (l:List Ar):(Fx l).Perm l:=List.mergeSort_perm _ _
theorem PK (l:List Ar):(Fx l).Pairwise fun a b=>WK b a=false:=by
 have e (x y:Ar):ltOf Gc x y=WK x y:=Ce x y
 have h:=List.pairwise_mergeSort (le:=fun x y=>!(ltOf Gc) y x) (fun a b c h1 h2=>by
  simp only [e,Bool.not_eq_true'] at *
  cases h3:WK c a with
  | false=>rfl
  | true=>
   have h1:¬ WK b a=true:=by rw [h1];simp
   have h2:¬ WK c b=true:=by rw [h2];simp
   rw [C0] at h1 h2 h3
   omega) (fun a b=>by
  simp only [e]
  cases h1:WK b a <;> cases h2:WK a b <;> simp
  rw [C0] at h1 h2;omega) l
 refine h.imp ?_
 intro a b hab
 simpa [e] using hab
theorem Iu {w w':World} (h:Fp (fun _=>False) w w'):∃ q os,w'=grow (w.drewN q) os:=by
 refine ⟨w'.drawn - w.drawn,w'.heap.extract w.heap.size w'.heap.size,?_⟩
 obtain ⟨hp,tp,dr,o,ou⟩:=w'
 obtain ⟨h1,h2,h3,h4,h5,h6⟩:=h
 simp only at h1 h2 h3 h4 h5 h6
 subst h1;subst h2;subst h3
 simp only [grow,World.drewN]
 congr 1
 rotate_left
 ·omega
 apply Array.ext'
 simp only [Array.toList_append,Array.toList_extract]
 apply List.ext_getElem?
 intro i
 by_cases hi:i<w.heap.size
 ·rw [gEa (by simpa using hi)]
  have:=h5 i hi (fun h=>h)
  simpa using this
 rw [gEb (by simpa using hi)]
 simp only [List.extract_eq_take_drop,Array.length_toList,List.getElem?_take,List.getElem?_drop]
 split
 ·congr 1;omega
 rename_i hn;simp;omega
theorem UF (gg:Gh) (ℓ:Loc):¬ Lv [] gg ℓ:=by
 intro hl
 cases ℓ with
 | ob id=>rcases hl with ⟨r,h,_⟩ | ⟨kv,h⟩ <;> simp at h
 | cl id j=>obtain ⟨r,k,cs,h,_⟩:=hl;simp at h
theorem X3 {g:Gh} {e:TypeId} {L:List Ar} {ℓ:Loc}:Lv [.r ⟨e,2,true,Ax L⟩] g ℓ↔ℓ=.ob 0/\g.κ 0 ≠ 0:=by
 cases ℓ with
 | ob id=>
  constructor
  rotate_left
  ·rintro ⟨h1,h2⟩
   cases h1
   exact .inl ⟨_,rfl,h2⟩
  rintro (⟨r,h1,h2⟩ | ⟨kv,h1⟩)
  rotate_left
  ·cases id with
   | zero=>simp at h1
   | succ i=>simp at h1
  cases id with
  | zero=>exact ⟨rfl,h2⟩
  | succ i=>simp at h1
 | cl id j=>
  constructor
  rotate_left
  ·rintro ⟨h1,h2⟩;cases h1
  rintro ⟨r,k,cs,h1,h2,h3⟩
  cases id with
  | zero=>
   simp at h1;subst h1
   rw [Gm,List.getElem?_map,Option.map_eq_some_iff] at h2
   obtain ⟨x,_,h2⟩:=h2
   cases h2
  | succ i=>simp at h1
set_option maxHeartbeats 1000000 in
theorem Kr (f : FuncId) (hf : Bh Tryz.prog f = true) (hcmp : ∀ a b : Ar, FC Tryz.prog f [.a (.g [.v (.int .i64 a.1), .v (.int .i64 a.2)]), .a (.g [.v (.int .i64 b.1), .v (.int .i64 b.2)])] [] (fun r o => o = [] /\ r = .i (Gc a b))) (L : List Ar) (hsz : L.length <= 100000000) :
  FC Tryz.prog 67 [.a (.c (.s 0 L.length)), .a (.c (.f f []))] [.r ⟨46, 2, true, Ax L⟩]
   (fun r o => r = .u /\ ∃ L' : List Ar, L'.Perm L /\ L'.Pairwise (fun a b => WK b a = false) /\ o = [.r ⟨46, 2, true, Ax L'⟩]) := by
 intro g w vals hr hargs
 obtain ⟨hlen, hargs⟩ := hargs
 obtain ⟨v1, e1, b1, b2, A, rfl, b4, b5⟩ := hargs 0 _ rfl
 obtain ⟨v2, e2, c1, c2⟩ := hargs 1 _ rfl
 have hv2 : v2 = .func (.func f) #[] #[] := by rw [c2]; simp [Vz]
 subst hv2
 have hvals : vals = [.slice A L.length (g.κ 0), .func (.func f) #[] #[]] := by
  match vals, hlen with
  | [a, b], _ => simp at e1 e2; simp [e1, e2]
 subst hvals
 rcases hr.row 0 _ rfl with ⟨h0, hnil⟩ | ⟨h0, hne, arr, ha, hle, hs, hmx, hcells⟩
 ·have hL0 : L = [] := by
   have : (Ax L).length = 0 := by have h : Ax L = [] := hnil; rw [h]; rfl
   rw [Ap] at this
   exact List.length_eq_zero_iff.1 (by omega)
  subst hL0
  refine (AnyF.slices_SortFunc_none Tryz.sortArcs A (g.κ 0) (.func (.func f) #[] #[]) w).mono ?_
  rintro e' w' ⟨rfl, rfl⟩
  exact ⟨.tuple #[], .u, _, g, rfl, ⟨rfl, [], List.Perm.refl _, List.Pairwise.nil, rfl⟩, hr, ⟨Nat.le_refl _, Ext.refl _ _⟩, fun ℓ hl => .inl ⟨ℓ, hl, rfl⟩, trivial, Fp.refl _ _⟩
 have hL0 : L ≠ [] := fun e => by subst e; exact hne rfl rfl
 have x0 : 0 < L.length := List.length_pos_iff.2 hL0
 rw [b4 h0] at *
 have hblk : g.γ (.ob 0) < w.heap.size := (Array.getElem?_eq_some_iff.1 ha).1
 have hle' : L.length * 2 <= arr.size := by simpa [Ap] using hle
 have hfl := Dc X2 2 (fun _ => rfl) L
 have hget : ∀ j, j < L.length * 2 -> arr[j]? = (L.flatMap X2)[j]? := by
  intro j hj
  obtain ⟨v, hv⟩ : ∃ v, (L.flatMap X2)[j]? = some v := ⟨_, gE1 (by rw [hfl]; exact hj)⟩
  obtain ⟨u, u1, u2⟩ := hcells j (.v v) (by rw [Gm, List.getElem?_map, hv]; rfl)
  have hu : u = v := u2
  rw [u1, hv, hu]
 have hlays : CmpLays Tryz.prog f #[] X2 2 Gc (g.γ (.ob 0)) 0 L.toArray.size w := by
  intro m os dk _ x y
  have hoth : ∀ k, k < w.heap.size -> ¬ Ow [.r ⟨46, 2, true, Ax L⟩] g k -> (sortWorldK X2 2 w (g.γ (.ob 0)) 0 m dk os).heap[k]? = w.heap[k]? := by
   intro k hk hn
   have hn2 : k ≠ g.γ (.ob 0) := fun e => hn (.inr ⟨.ob 0, X3.2 ⟨rfl, h0⟩, e.symm⟩)
   unfold sortWorldK putRowK putRow mapBlock Sort.grow Sort.ahead
   simp only
   rw [Array.getElem?_append_left (by simpa using hk), Array.getElem?_modify, if_neg (Ne.symm hn2)]
  generalize hW : sortWorldK X2 2 w (g.γ (.ob 0)) 0 m dk os = W at hoth
  have hsz' : w.heap.size <= W.heap.size := by rw [<- hW]; simp [sortWorldK, putRowK, putRow, mapBlock, Sort.grow, Sort.ahead]
  have hHR : HR ⟨g.γ, g.κ, fun _ => False⟩ [] W := ⟨fun b hb => hb.elim, fun ℓ hl => absurd hl (UF _ ℓ), fun ℓ _ hl => absurd hl (UF _ ℓ), fun id r h => by simp at h, fun id r h => by simp at h, hr.gl.keep hsz' hoth (fun k _ hk => hk.elim (fun h => h.elim) (fun ⟨ℓ, hl, _⟩ => absurd hl (UF _ ℓ)))⟩
  have hA : GA ⟨g.γ, g.κ, fun _ => False⟩ [] W [.a (.g [.v (.int .i64 x.1), .v (.int .i64 x.2)]), .a (.g [.v (.int .i64 y.1), .v (.int .i64 y.2)])] [.agg #[.int .i64 x.1, .int .i64 x.2], .agg #[.int .i64 y.1, .int .i64 y.2]] := by
   refine ⟨rfl, fun i a hi => ?_⟩
   have ag : ∀ z : Ar, A0R (CR ⟨g.γ, g.κ, fun _ => False⟩ [] W) (.g [.v (.int .i64 z.1), .v (.int .i64 z.2)]) (.agg #[.int .i64 z.1, .int .i64 z.2]) := fun z => ⟨[.int .i64 z.1, .int .i64 z.2], rfl, rfl, fun q c hq => by
    match q, hq with
    | 0, hq => simp at hq; subst hq; exact ⟨_, rfl, rfl⟩
    | 1, hq => simp at hq; subst hq; exact ⟨_, rfl, rfl⟩
    | q + 2, hq => simp at hq⟩
   match i, hi with
   | 0, hi => cases hi; exact ⟨_, rfl, ag x⟩
   | 1, hi => cases hi; exact ⟨_, rfl, ag y⟩
   | i + 2, hi => simp at hi
  refine Calls.mono (hcmp x y _ _ _ hHR hA) ?_
  rintro e' w' ⟨v, r, outs, g', rfl, ⟨rfl, rfl⟩, _, _, _, hv, hfp⟩
  exact ⟨by rw [show v = _ from hv], Iu (hfp.mono fun k _ ⟨ℓ, hl, _⟩ => absurd hl (UF _ ℓ))⟩
 have hH : HoldsK X2 2 w (g.γ (.ob 0)) 0 L.toArray := by
  unfold HoldsK Holds
  rw [Nf]
  intro j hj
  simp only [List.size_toArray, hfl] at hj
  constructor
  rotate_left
  ·simp [World.frozen?, ha]
  rw [Nat.zero_add, cell_of_row w _ j arr _ (0, 0) ha, hget j hj, getElem!_pos _ j (by simpa [hfl] using hj)]
  simp [hfl, hj]
 have eg : ∀ args w, (callFunc f args).run Tryz.prog w = .ok (.enter f args) w := fun args w => BP hf args w
 have hcon := AnyQ.slices_SortFunc_total Tryz.sortArcs 2 Tryz.isAgg46 Tryz.sizeOf46 X2 (fun _ => rfl) (fun x v hv => by simp [X2] at hv; rcases hv with rfl | rfl <;> rfl) Gc Vu f #[] (g.γ (.ob 0)) 0 (g.κ 0) L.toArray w eg hlays hH hblk (by simp; omega)
  (fun x y h1 h2 => by
   rw [show ltOf Gc x y = WK x y from Ce x y] at h1
   rw [show ltOf Gc y x = WK y x from Ce y x] at h2
   rcases Hh x y with h | h | h
   ·rw [h] at h1; cases h1
   ·exact h
   ·rw [h] at h2; cases h2)
 change Calls Tryz.prog 67 _ _ _ at hcon
 have hsz2 : L.toArray.size = L.length := by simp
 rw [hsz2] at hcon
 refine hcon.mono ?_
 rintro e' w' ⟨rfl, m, os, rfl⟩
 have hSl : (Fx L).length = L.length := List.length_mergeSort _
 have hfl' := Dc X2 2 (fun _ => rfl) (Fx L)
 have hself : (sortWorldK X2 2 w (g.γ (.ob 0)) 0 m (Fx L).toArray os).heap[g.γ (.ob 0)]? = some (.cells (putCells id 0 ((Fx L).flatMap X2).toArray arr) 46 (0, 0)) := by
  unfold sortWorldK putRowK putRow mapBlock Sort.grow Sort.ahead
  rw [Nf]
  simp only
  rw [Array.getElem?_append_left (by simpa using hblk), Array.getElem?_modify, if_pos rfl, ha]
  rfl
 have hsize : w.heap.size <= (sortWorldK X2 2 w (g.γ (.ob 0)) 0 m (Fx L).toArray os).heap.size := by simp [sortWorldK, putRowK, putRow, mapBlock, Sort.grow, Sort.ahead]
 have hother : ∀ k, k < w.heap.size -> k ≠ g.γ (.ob 0) -> (sortWorldK X2 2 w (g.γ (.ob 0)) 0 m (Fx L).toArray os).heap[k]? = w.heap[k]? := by
  intro k hk hn
  unfold sortWorldK putRowK putRow mapBlock Sort.grow Sort.ahead
  simp only
  rw [Array.getElem?_append_left (by simpa using hk), Array.getElem?_modify, if_neg (Ne.symm hn)]
 have hfp : Fp (FX [.r ⟨46, 2, true, Ax L⟩] g) w (sortWorldK X2 2 w (g.γ (.ob 0)) 0 m (Fx L).toArray os) :=
  ⟨rfl, rfl, rfl, hsize, fun k hk hm => hother k hk fun e => hm ⟨.ob 0, X3.2 ⟨rfl, h0⟩, e.symm⟩, by simp [sortWorldK, putRowK, putRow, mapBlock, Sort.grow, Sort.ahead]⟩
 refine ⟨.tuple #[], .u, _, g, rfl, ⟨rfl, Fx L, LK L, PK L, rfl⟩, ?_, ⟨by simp, Ext.refl _ _⟩, fun ℓ hl => .inl ⟨ℓ, X3.2 (X3.1 hl), rfl⟩, trivial, hfp⟩
 refine ⟨fun b hb => Nat.lt_of_lt_of_le (hr.ml b hb) hsize, fun ℓ hl => hr.md ℓ (X3.2 (X3.1 hl)), fun ℓ ℓ' hl hl' => hr.inj ℓ ℓ' (X3.2 (X3.1 hl)) (X3.2 (X3.1 hl')), fun id r hid => ?_, fun id r hid => ?_, hr.gl.keep hsize (fun k hk hn => hother k hk (fun e => hn (.inr ⟨.ob 0, X3.2 ⟨rfl, h0⟩, e.symm⟩))) (fun k _ hk => hk.imp (fun h => h) (fun ⟨ℓ, hl, e⟩ => ⟨ℓ, X3.2 (X3.1 hl), e⟩))⟩
 rotate_left
 ·cases id with
  | zero => simp at hid
  | succ i => simp at hid
 cases id with
 | succ i => simp at hid
 | zero =>
  simp at hid
  subst hid
  refine .inr ⟨h0, fun _ hn => ?_, _, hself, ?_, ?_, hmx, fun j c hj => ?_⟩
  ·have : (Ax (Fx L)).length = 0 := by simp only at hn; rw [hn]; rfl
   rw [Ap, hSl] at this; omega
  ·simp only [Ap, hSl, putCells, Array.size_mapIdx]; exact hle'
  ·simpa [putCells] using hs
  rw [Gm, List.getElem?_map, Option.map_eq_some_iff] at hj
  obtain ⟨v, hv, rfl⟩ := hj
  have hjl : j < L.length * 2 := by have := (List.getElem?_eq_some_iff.1 hv).1; rw [hfl', hSl] at this; exact this
  refine ⟨v, ?_, rfl⟩
  have hj2 : j < ((Fx L).flatMap X2).length := by rw [hfl', hSl]; exact hjl
  have hjc : j < arr.size := by omega
  simp only [putCells, Array.getElem?_mapIdx, Nat.zero_le, true_and, Nat.zero_add, List.size_toArray, hj2, if_true, Nat.sub_zero]
  rw [gEd hjc]
  rw [gE1 hj2] at hv
  have hv2 := Option.some.inj hv
  rw [<- hv2]
  simp
  rw [gE1 hj2]; rfl
theorem S0 {s:ST} (i m:Nat) {r:Row} (hi:s.hp[i]?=some (.r r)) (hm:r.sl=true->r.cells.take m=[]->r.cells=[]):Le s { s with hp:=s.hp.set i (.r { r with cells:=r.cells.take m }) }:=by
 rintro M0 w0 a w ⟨g,hpp,hR⟩
 have hlt:i<s.hp.length:=(List.getElem?_eq_some_iff.1 hi).1
 have self:(s.hp.set i (.r { r with cells:=r.cells.take m }))[i]?=some (.r { r with cells:=r.cells.take m }):=by simp [hlt]
 have other:∀ q,q ≠ i->(s.hp.set i (.r { r with cells:=r.cells.take m }))[q]?=s.hp[q]?:=fun q hq=>by rw [gE5 (Ne.symm hq)]
 have tk:∀ (j:Nat) (c:C),(r.cells.take m)[j]?=some c->r.cells[j]?=some c:=fun j c h=>by
  rw [List.getElem?_take] at h
  split at h
  ·exact h
  cases h
 generalize hh:s.hp.set i (.r { r with cells:=r.cells.take m })=hp' at *
 have sub:∀ ℓ,Lv hp' g ℓ->Lv s.hp g ℓ:=by
  intro ℓ hl
  cases ℓ with
  | ob q=>
   by_cases hq:q=i
   ·subst hq
    rcases hl with ⟨r2,e1,e2⟩ | ⟨kv,e1⟩
    ·exact .inl ⟨r,hi,e2⟩
    rw [self] at e1;cases e1
   rcases hl with ⟨r2,e1,e2⟩ | ⟨kv,e1⟩
   ·exact .inl ⟨r2,by rw [<- other q hq];exact e1,e2⟩
   exact .inr ⟨kv,by rw [<- other q hq];exact e1⟩
  | cl q j=>
   by_cases hq:q=i
   rotate_left
   ·obtain ⟨r2,k,cs,e1,e2,e3⟩:=hl
    exact ⟨r2,k,cs,by rw [<- other q hq];exact e1,e2,e3⟩
   subst hq
   obtain ⟨r2,k,cs,e1,e2,e3⟩:=hl
   rw [self] at e1;cases e1
   exact ⟨r,k,cs,hi,tk j _ e2,e3⟩
 have ow:∀ b,Ow hp' g b->Ow s.hp g b:=fun b ho=>ho.imp (fun h=>h) (fun ⟨ℓ,hl,e⟩=>⟨ℓ,sub ℓ hl,e⟩)
 have hmo:Mo g s.hp w g hp' w (fun _=>True):=by
  refine ⟨fun q hq=>⟨?_,rfl,rfl⟩,fun b _ ho=>ow b ho,Nat.le_refl _,fun _ _ _=>rfl,fun q _ hq r2 j k cs e1 e2=>?_⟩
  ·by_cases e:q=i
   ·subst e;exact ⟨_,self,rfl⟩
   obtain ⟨o,h1,h2⟩:=hq
   exact ⟨o,by rw [other q e];exact h1,h2⟩
  by_cases e:q=i
  rotate_left
  ·exact ⟨r2,by rw [<- other q e];exact e1,e2,fun _=>rfl⟩
  subst e
  rw [self] at e1
  cases e1
  exact ⟨r,hi,tk j _ e2,fun _=>rfl⟩
 have hr:=hR.hr
 refine ⟨g,⟨by show s.pin<=hp'.length;rw [<- hh];simpa using hpp.1,hpp.2⟩,hR.mo hmo ?_ (fun ℓ hl=>hR.new ℓ (sub ℓ hl)) hR.fp⟩
 refine ⟨hr.ml,fun ℓ hl=>hr.md ℓ (sub ℓ hl),fun ℓ ℓ' h1 h2=>hr.inj ℓ ℓ' (sub ℓ h1) (sub ℓ' h2),fun q r2 e1=>?_,fun q kv e1=>?_,hmo.gl hr.gl⟩
 rotate_left
 ·by_cases e:q=i
  ·subst e;rw [self] at e1;cases e1
  rw [other q e] at e1
  exact MpR.mo hmo e1 (hr.mp q kv e1) rfl
 by_cases e:q=i
 rotate_left
 ·rw [other q e] at e1
  exact RowR.mo hmo e1 (hr.row q r2 e1) (fun _=>rfl) (fun _ _ _ _ _=>⟨rfl,rfl⟩)
 subst e
 rw [self] at e1
 cases e1
 rcases hr.row q r hi with ⟨k1,k2⟩ | ⟨k1,k2,arr,k3,k4,k5,k6,k7⟩
 ·exact .inl ⟨k1,by simp [k2]⟩
 refine .inr ⟨k1,fun h1 h2=>k2 h1 (hm h1 h2),arr,k3,Nat.le_trans (by simp only [List.length_take];omega) k4,k5,k6,fun j c hj=>?_⟩
 obtain ⟨u,u1,u2⟩:=k7 j c (tk j c hj)
 exact ⟨u,u1,CellR.mo hmo u2 (fun k cs hc _=>⟨rfl,rfl⟩)⟩
attribute [local go_sem] lga C.pl C.one
theorem CN (f:Nat->Nat) (L:List Ar):(Ax L).map (C.up f)=Ax L:=by
 unfold Ax
 rw [List.map_flatMap]
 rfl
theorem CH (f:List Nat) (L:List Ar):(Ax L).map (C.ren f)=Ax L:=by
 unfold Ax
 rw [List.map_flatMap]
 rfl
theorem Kt (r:List Ar):(Ao r).map C.ofTr=Ax r:=by
 unfold Ao Ax
 rw [List.map_flatMap]
 rfl
theorem Ku (q:List Ar) (ys:List C) (f:C->C) (hf:(Ax q).map f=Ax q):((Ax q++ys).map f).take (q.length*2)=Ax q:=by
 rw [List.map_append,hf,List.take_append_of_le_length (by rw [Ap];exact Nat.le_refl _),gE7 (by rw [Ap];exact Nat.le_refl _)]

theorem F5 {xs:List Ar} {i:Nat} {e t:Int} (h:xs[i]?=some (e,t)) (x:Int):(Ax xs).set (i*2+1) (.v (.int .i64 x))=Ax (xs.set i (e,x)):=by
 induction xs generalizing i with
 | nil=>simp at h
 | cons a r ih=>
  cases i with
  | zero=>simp at h;subst h;rfl
  | succ i=>
   rw [List.getElem?_cons_succ] at h
   rw [show (i+1)*2+1=i*2+1+2 from by omega,List.set_cons_succ]
   show C.v _ :: C.v _ :: (Ax r).set (i*2+1) _=_
   rw [ih h];rfl
theorem GX (out:List (List Ar)) (x:List Ar) {i:Nat} (h:out.length=i):(AO out).take i++[C.t 2 (Ao x)]=AO (out++[x]):=by
 subst h
 rw [gE7 (by rw [Ay];exact Nat.le_refl _)]
 simp [AO]
theorem Ho (l:List Int) (x:Int):(A7 l).take l.length++[C.v (.int .i64 x)]=A7 (l++[x]):=by
 rw [gE7 (by rw [A5];exact Nat.le_refl _),AE]
theorem NL.start (q:List Ar) (num old:List Int):NL (Eh q num old) q q 0 num old:=⟨by simp,by simp,by simp,rfl⟩
theorem NL.fin {R:List Int × List Int × List Ar} {ya q:List Ar} {k:Nat} {num old:List Int} (h:NL R ya q k num old) (hk:q.length<=k) (hl:ya.length=q.length):ya=R.2.2/\num=R.1/\old=R.2.1:=by
 obtain ⟨h1,h2,h3,h4⟩:=h
 rw [List.drop_of_length_le hk] at h1 h2 h3
 rw [gE7 (by omega)] at h1
 simp only [Eh,List.append_nil] at h1 h2 h3
 exact ⟨h1,h2,h3⟩
set_option maxHeartbeats 8000000 in
theorem Iv (R:List (List Ar)) (hv:BE R=true) (hn:R.length<=1000000) (hr:∀ r∈R,r.length<=1000000):FC Tryz.prog 37 [B7 R] [] (fun r o=>o=[.r ⟨25,1,false,[.t 1 (Ah (BT R).1)]⟩]/\r=.tup [.g [.t 1 (Ah (BT R).1)],.c (.t 1 (Ab (BT R).2)),.c (.v (.int .i64 0))]):=by
 refine A6 Tryz.func37 rfl (by rw [Tryz.ntmps37];simp) ?_
 rw [Tryz.ntmps37]
 simp only [Bf,B7]
 have h1:1<=R.length:=(gE4 hv).1
 have hbd:=(gE4 hv).2.2.2
 (refine Wt ?_;(repeat clear hK K);repeat refine kq fun K hK=>?_)
 (refine Wy (Kf R (by omega) (fun r h=>by have:=hr r h;omega)) ?_;intro K1 hK1)
 rintro _ _ ⟨rfl,rfl⟩
 (refine Wz ?_;clear hK1 K1)
 (refine Wu (an @hv @Bool.not_true) ?_;(repeat clear hK K);repeat refine kq fun K hK=>?_)
 refine WC ?_
 (refine Wu @A3 ?_;(repeat clear hK K);repeat refine kq fun K hK=>?_)
 (refine Ai rfl ?_;intro K1 hK1;refine AH (ids:=[]) [2] (Gg (-1) R.length h1 hn) rfl rfl (by simp only [go_sem]) (by first | assumption | kernel_rfl) rfl rfl (by (simp only [List.map_append,List.append_nil,go_sem]) <;> rfl) (by (simp only [VS,AA,A7,go_sem]) <;> rfl) ?_ ?_)
 ·rintro _ _ ⟨rfl,rfl⟩;rfl
 rintro _ _ ⟨rfl,rfl⟩
 (simp only [As,Bl,AA,BQ,List.append_nil,List.nil_append,List.length_map,go_sem];refine hK1 _ ?_;clear hK1 K1)
 have g0:0<(List.replicate R.length (-1:Int)).length:=by simp;omega
 (refine Cn (an @A5 (an @List.length_replicate.{0} @AK)) ?_;(repeat clear hK K);repeat refine kq fun K hK=>?_)
 refine Au (CT 7 42 1 ?_) ?_
 ·simp only [go_sem]
 refine Au (A9 [0,1,3,4,5] rfl rfl) ?_
 (try simp only [List.set_nil,List.take_nil,List.take_zero,List.map_append,go_sem])
 (try simp only [Af])
 refine A8 (fun x:Nat × List Int × List Int × List (List Ar)=>{ tm:=[(1,.a (.c (.p 0 0))),(2,.a (.c (.p 1 0))),(5,.a (.c (.s 2 R.length))),(6,.a (.c (.s 3 x.2.2.1.length))),(7,.a (.c (.s 4 x.1))),(8,.i x.1)],hp:=[.r ⟨25,1,false,[.t 1 (Ah R)]⟩,.r ⟨25,1,false,[.v (.slice none 0 0)]⟩,.r ⟨3,1,true,A7 x.2.1⟩,.r ⟨3,1,true,A7 x.2.2.1⟩,.r ⟨42,1,true,AO x.2.2.2⟩],n:=86,pin:=0 }) (fun x=>NumOk R.length x.2.1 x.2.2.1/\NumInj x.2.1 x.2.2.1/\F2 R (R.length - x.1) x.1 x.2.1 x.2.2.1 x.2.2.2=BT R/\x.1<=x.2.2.1.length/\x.2.2.2.length=x.1) (fun x=>R.length - x.1) (0,(List.replicate R.length (-1)).set 0 0,[0],[]) ?_ ?_ ?_
 ·exact ⟨NumOk.start h1,NumInj.start h1,rfl,by simp,rfl⟩
 ·exact WE
 rintro ⟨i,num,old,out⟩ ⟨hN,hI,hC,hio,hoi⟩ K hK
 simp only at hN hI hC hio hoi
 have hlen:=hN.len
 have hle:=hN.le
 by_cases hlt:i<old.length
 rotate_left
 ·have d1:decide ((i:Int)<(old.length:Int))=false:=by simpa using hlt
  have hfin:BT R=(out,old):=by rw [<- hC];exact GT (by omega)
  (refine Wu @d1 ?_;(repeat clear hK K);repeat refine kq fun K hK=>?_)
  refine WC ?_
  (refine Wx ?_;repeat clear hK K)
  have htk:(Ah out).take i=Ah out:=gE7 (by rw [A3];omega)
  have htk2:(Ab old).take old.length=Ab old:=gE7 (by rw [A4];exact Nat.le_refl _)
  (refine Au (Bg (r:=⟨42,1,true,AO out⟩) 4 (Ah out) rfl (CZ _) (show 0<(1:Nat) by omega)) ?_;simp only [ST.frz,A0.frz,AV.frz,C.frz,Nat.le_refl,List.set_cons_zero,List.set_cons_succ,go_sem,htk,A3,hoi])
  (refine Au (Bg (r:=⟨3,1,true,A7 old⟩) 3 (Ab old) rfl (EM _) (show 0<(1:Nat) by omega)) ?_;simp only [ST.frz,A0.frz,AV.frz,C.frz,Nat.le_refl,List.set_cons_zero,List.set_cons_succ,go_sem,htk2,A4])
  (refine Wt ?_;(repeat clear hK K);repeat refine kq fun K hK=>?_)
  refine WF [1] Tryz.results37 ?_
  rw [hfin]
  exact ⟨rfl,rfl⟩
 have d1:decide ((i:Int)<(old.length:Int))=true:=by simpa using hlt
 have hs0:=hN.st _ (gE6 hlt)
 obtain ⟨sn,hsn⟩:∃ sn:Nat,old[i]=sn:=⟨old[i].toNat,by omega⟩
 have hsl:sn<R.length:=by omega
 have go:(A7 old)[i]?=some (.v (.int .i64 sn)):=by rw [<- hsn];exact Aq (gE1 hlt)
 have hgR:=gE1 hsl
 have hrl:=hr _ (gE6 hsl)
 have hst:=GU (rows:=R) (n:=R.length) (i:=i) (num:=num) (old:=old) (out:=out) (s:=(sn:Int)) (r:=R[sn]) (by omega) (by rw [gE1 hlt,hsn]) (by simp [hgR]) rfl
 generalize hrr:R[sn]=r at *
 have hcl:=GQ (Ao r) (by rw [A2];omega)
 rw [Kt,A2,Ak] at hcl
 (refine Wu @d1 ?_;(repeat clear hK K);repeat refine kq fun K hK=>?_)
 refine WB ?_
 (refine Wt ?_;(repeat clear hK K);repeat refine kq fun K hK=>?_)
 (refine Ac 8 [(0,0),(1,1),(2,0),(3,0),(4,0),(5,1),(6,0),(7,1),(8,2),(9,0)] (by kernel_rfl) (by kernel_rfl) (by intro c st h;simp [Ae,AF,VT] at h) ?_)
 (refine Wq (an @A3 (an (Ag hgR) (an @A5 @go))) ?_;repeat clear hK K)
 (refine MF hcl ?_;intro K1 hK1)
 rintro _ _ ⟨rfl,rfl⟩
 (simp only [As,Bl,CN,List.append_nil,List.nil_append,List.length_map,go_sem];refine hK1 _ ?_;clear hK1 K1)
 (refine Wp ?_;repeat clear hK K)
 (refine Wt ?_;(repeat clear hK K);repeat refine kq fun K hK=>?_)
 (refine Ai rfl ?_;intro K1 hK1;refine AH (ids:=[]) [5] (Kr 64 (by kernel_rfl) Je r (by omega)) rfl rfl (by simp only [go_sem]) (by first | assumption | kernel_rfl) rfl rfl (by (simp only [List.map_append,List.append_nil,go_sem]) <;> rfl) (by (simp only [VS,CH,go_sem]) <;> rfl) ?_ ?_)
 ·rintro _ _ ⟨rfl,L',_,_,rfl⟩;rfl
 rintro _ _ ⟨rfl,L',hperm,hsort,rfl⟩
 (simp only [As,Bl,CN,List.append_nil,List.nil_append,List.length_map,go_sem];refine hK1 _ ?_;clear hK1 K1)
 have hLl:=hperm.length_eq
 have hq:LJ L'=Cq r:=by rw [Nd];exact N1 hperm hsort
 rw [<- hLl]
 (refine Wt ?_;(repeat clear hK K);repeat refine kq fun K hK=>?_)
 (refine Ai rfl ?_;intro K1 hK1;refine AH (ids:=[]) [5] (It L' (by omega)) rfl rfl (by simp only [go_sem]) (by first | assumption | kernel_rfl) rfl rfl (by (simp only [List.map_append,List.append_nil,go_sem]) <;> rfl) (by (simp only [VS,CH,go_sem]) <;> rfl) ?_ ?_)
 ·rintro _ _ ⟨rfl,rest,us,_,_,rfl⟩;rfl
 rintro _ _ ⟨rfl,rest,us,hrest,hr0,rfl⟩
 (simp only [As,Bl,CN,List.append_nil,List.nil_append,List.length_map,go_sem];refine hK1 _ ?_;clear hK1 K1)
 (refine Wt ?_;(repeat clear hK K);repeat refine kq fun K hK=>?_)
 obtain ⟨q,hqd⟩:∃ q,q=Cq r:=⟨_,rfl⟩
 rw [<- hqd] at hq hst
 have hqs:SortA q:=by rw [hqd];exact B9 r
 have hql:q.length<=1000000:=by rw [hqd];exact Nat.le_trans (Gj r) (by omega)
 have hqb:∀ a∈q,0<=a.2/\a.2<(R.length:Int):=fun a ha=>by
  rw [hqd,C8] at ha
  have:=hbd r (by rw [<- hrr];exact gE6 hsl) a ha
  exact ⟨this.2.2.1,this.2.2.2⟩
 rw [hq]
 refine Au (S0 5 (q.length*2) rfl ?_) ?_
 ·intro _ h
  rw [Ku _ _ _ (CN _ _)] at h
  have hq0:q=[]:=by
   have:=congrArg List.length h
   rw [Ap] at this
   exact List.length_eq_zero_iff.1 (by simp at this;omega)
  have hL0:L'=[]:=by
   cases L' with
   | nil=>rfl
   | cons x xs=>
    have:LJ (x :: xs)=[]:=by rw [hq,hq0]
    simp [LJ] at this
  rw [hr0 hL0,hq0];rfl
 simp only [Ku _ _ _ (CN _ _),go_sem]
 refine A8 (fun x:Nat × List Int × List Int × List Ar=>{ tm:=[(1,.a (.c (.p 0 0))),(2,.a (.c (.p 1 0))),(5,.a (.c (.s 2 R.length))),(6,.a (.c (.s 3 x.2.2.1.length))),(7,.a (.c (.s 4 i))),(8,.i i),(9,.a (.c (.s 5 q.length))),(43,.a (.c (.s 5 q.length))),(44,.i q.length),(45,.i x.1)],hp:=[.r ⟨25,1,false,[.t 1 (Ah R)]⟩,.r ⟨25,1,false,[.v (.slice none 0 0)]⟩,.r ⟨3,1,true,A7 x.2.1⟩,.r ⟨3,1,true,A7 x.2.2.1⟩,.r ⟨42,1,true,AO out⟩,.r ⟨46,2,true,Ax x.2.2.2⟩],n:=86,pin:=0 }) (fun x=>x.1<=q.length/\x.2.2.2.length=q.length/\NumOk R.length x.2.1 x.2.2.1/\old.length<=x.2.2.1.length/\NL (Eh q num old) x.2.2.2 q x.1 x.2.1 x.2.2.1) (fun x=>q.length - x.1) (0,num,old,q) ?_ ?_ ?_
 ·exact ⟨by simp,rfl,hN,Nat.le_refl _,NL.start q num old⟩
 ·exact WE
 rintro ⟨k,num1,old1,ya⟩ ⟨hk,hyl,hN1,hol,hNL⟩ K hK
 simp only at hk hyl hN1 hol hNL
 have hlen1:=hN1.len
 have hle1:=hN1.le
 by_cases hlt2:k<q.length
 rotate_left
 ·have d2:decide ((k:Int)<(q.length:Int))=false:=by simpa using hlt2
  obtain ⟨f1,f2,f3⟩:=hNL.fin (by omega) hyl
  have hnd:ya.Nodup:=by rw [f1];exact LG q hqs (fun a ha=>by rw [hlen];exact hqb a ha) hI
  have hI2:NumInj num1 old1:=by rw [f2,f3];exact Kl q (fun a ha=>by rw [hlen];exact hqb a ha) hI
  (refine Wu @d2 ?_;(repeat clear hK K);repeat refine kq fun K hK=>?_)
  refine WC ?_
  (refine Wx ?_;repeat clear hK K)
  rw [<- hyl]
  (refine Wt ?_;(repeat clear hK K);repeat refine kq fun K hK=>?_)
  (refine Ai rfl ?_;intro K1 hK1;refine AH (ids:=[]) [5] (Kr 64 (by kernel_rfl) Je ya (by omega)) rfl rfl (by simp only [go_sem]) (by first | assumption | kernel_rfl) rfl rfl (by (simp only [List.map_append,List.append_nil,go_sem]) <;> rfl) (by (simp only [VS,CH,go_sem]) <;> rfl) ?_ ?_)
  ·rintro _ _ ⟨rfl,L2,_,_,rfl⟩;rfl
  rintro _ _ ⟨rfl,L2,hp2,hs2,rfl⟩
  (simp only [As,Bl,CN,List.append_nil,List.nil_append,List.length_map,go_sem];refine hK1 _ ?_;clear hK1 K1)
  have hL2:L2=Cq ya:=LE hnd hp2 hs2
  have hL2l:=hp2.length_eq
  rw [<- hL2l]
  (refine BS (Bg (r:=⟨46,2,true,Ax L2⟩) 5 (Ao L2) rfl (Dl _) (show 0<(2:Nat) by omega)) ?_;simp only [ST.frz,A0.frz,AV.frz,C.frz,Nat.le_refl,List.set_cons_zero,List.set_cons_succ,go_sem,A2,Ak,BA,List.take_length])
  have crp:=GX out L2 hoi
  (refine Wu (an @crp (an @Ay @hoi)) ?_;(repeat clear hK K);repeat refine kq fun K hK=>?_)
  refine WD ?_
  refine hK _ (i+1,num1,old1,out++[L2]) ⟨hN1,hI2,?_,by simp only;omega,by simp [hoi]⟩ (by simp only;omega) ?_
  ·simp only
   rw [<- hC,hst,LF,f2,f3,hL2,f1]
   rfl
  refine Le.trans (A9 [0,1,2,3,7] rfl rfl) ?_
  (try simp only [List.set_nil,List.take_nil,List.take_zero,List.map_append,go_sem])
  (try simp only [Af,CH,Bs])
  exact WE
 have d2:decide ((k:Int)<(q.length:Int))=true:=by simpa using hlt2
 have hky:k<ya.length:=by omega
 have hyq:ya[k]=q[k]:=by
  have:=congrArg (fun l=>l[0]?) hNL.2.2.2
  simp only [List.getElem?_drop,Nat.add_zero] at this
  rw [gE1 hky,gE1 hlt2] at this
  exact Option.some.inj this
 have hyb:=hqb _ (gE6 hlt2)
 rw [<- hyq] at hyb
 obtain ⟨e,tn,hya⟩:∃ (e:Int) (tn:Nat),ya[k]=(e,(tn:Int)):=⟨ya[k].1,ya[k].2.toNat,by
  have:(ya[k].2.toNat:Int)=ya[k].2:=by omega
  rw [this]⟩
 have hyk:ya[k]?=some (e,(tn:Int)):=by rw [gE1 hky,hya]
 have htl:tn<R.length:=by rw [hya] at hyb;have:=hyb.2;simp only at this;omega
 have hat:=DR hky
 rw [hya] at hat
 have gn:(A7 num1)[tn]?=some (.v (.int .i64 num1[tn])):=Aq (gE1 (by omega))
 have gn2:num1[tn]?=some num1[tn]:=gE1 (by omega)
 (refine Wu @d2 ?_;(repeat clear hK K);repeat refine kq fun K hK=>?_)
 refine WB ?_
 by_cases hx:num1[tn]<0
 rotate_left
 ·have d3:decide (num1[tn]<0)=false:=by simpa using hx
  have cs:=F5 hyk num1[tn]
  (refine Cn (an @hat (an @Ap (an @hyl (an @gn (an @d3 (an @A5 @hlen1)))))) ?_;(repeat clear hK K);repeat refine kq fun K hK=>?_)
  refine WC ?_
  (refine Cn (an @gn (an @cs (an @Ap (an @hyl (an @A5 @hlen1))))) ?_;(repeat clear hK K);repeat refine kq fun K hK=>?_)
  refine WD ?_
  refine hK _ (k+1,num1,old1,ya.set k (e,num1[tn])) ⟨hlt2,by simp [hyl],hN1,hol,hNL.pos hyk gn2 hx⟩ (by simp only;omega) ?_
  refine Le.trans (A9 [0,1,2,3,4,5] rfl rfl) ?_
  (try simp only [List.set_nil,List.take_nil,List.take_zero,List.map_append,go_sem])
  (try simp only [Af,CH,Bs])
  exact WE
 have d3:decide (num1[tn]<0)=true:=by simpa using hx
 have gs:(A7 (num1.set tn (old1.length:Int)))[tn]?=some (.v (.int .i64 (old1.length:Int))):=Aq (gEc (by omega))
 have op:=Ho old1 (tn:Int)
 have cs:=F5 hyk (old1.length:Int)
 (refine Cn (an @hat (an @Ap (an @hyl (an @gn (an @d3 (an @A5 @hlen1)))))) ?_;(repeat clear hK K);repeat refine kq fun K hK=>?_)
 refine WB ?_
 (refine Cn (an @A5 (an @hlen1 (an @AK (an @op (an @gs (an @cs (an @Ap (an @hyl @List.length_set.{0})))))))) ?_;(repeat clear hK K);repeat refine kq fun K hK=>?_)
 refine WD ?_
 have hone:AX num1 old1 (tn:Int)=(num1.set tn (old1.length:Int),old1++[(tn:Int)]):=by
  simp only [AX,Int.toNat_natCast,List.getD,gn2,Option.getD_some,if_pos hx]
 have hN2:=hN1.one (t:=(tn:Int)) (by omega) (by omega)
 rw [hone] at hN2
 refine hK _ (k+1,num1.set tn (old1.length:Int),old1++[(tn:Int)],ya.set k (e,(old1.length:Int))) ⟨hlt2,by simp [hyl],hN2,by simp;omega,hNL.neg hyk gn2 hx rfl⟩ (by simp only;omega) ?_
 refine Le.trans (A9 [0,1,2,8,4,5] rfl rfl) ?_
 (try simp only [List.set_nil,List.take_nil,List.take_zero,List.map_append,go_sem])
 (try simp only [Af,CH,Bs])
 simp only [List.length_append,List.length_cons,List.length_nil]
 exact WE
structure Fw (E:Nat->List Nat) (n:Nat) (F:List Nat) (rd:Int) (seen:List Int) (out:List Nat):Prop where
 len:seen.length=n
 st:∀ u,u<n->(seen.getD u 0=rd↔u∈out)
 nd:out.Nodup
 lt:∀ u∈out,u<n
 snd:∀ u∈out,∃ v∈F,Rc E v u
 bd:∀ x∈seen,x<=rd
variable {E : Nat -> List Nat} {n : Nat} {F : List Nat} {rd : Int} {seen : List Int} {out : List Nat}
theorem Fw.start (h : seen.length = n) (hb : ∀ x ∈ seen, x < rd) : Fw E n F rd seen [] :=
 ⟨h, fun u hu => ⟨fun e => by
  rw [gE2, gE1 (by omega), Option.getD_some] at e
  have := hb _ (gE6 (show u < seen.length by omega)); omega, fun h => by simp at h⟩, List.nodup_nil, fun u h => by simp at h, fun u h => by simp at h, fun x h => by have := hb x h; omega⟩
theorem Fw.push (h:Fw E n F rd seen out) {u:Nat} (hu:u<n) (hn:seen.getD u 0 ≠ rd) (hs:∃ v∈F,Rc E v u):Fw E n F rd (seen.set u rd) (out++[u]):=by
 have hno:u ∉ out:=fun hm=>hn ((h.st u hu).2 hm)
 refine ⟨by rw [List.length_set];exact h.len,fun w hw=>?_,?_,fun w hw=>?_,fun w hw=>?_,fun x hx=>?_⟩
 rotate_left
 ·exact List.nodup_append.2 ⟨h.nd,by simp,fun a ha b hb=>by simp at hb;subst hb;exact fun e=>hno (e ▸ ha)⟩
 ·rcases List.mem_append.1 hw with h1 | h1
  ·exact h.lt w h1
  simp at h1;omega
 ·rcases List.mem_append.1 hw with h1 | h1
  ·exact h.snd w h1
  simp at h1;subst h1;exact hs
 ·rcases List.mem_or_eq_of_mem_set hx with h1 | h1
  ·exact h.bd x h1
  omega
 rw [gE2,List.getElem?_set]
 by_cases e:u=w
 ·subst e
  rw [if_pos rfl,if_pos (by rw [h.len];exact hw)]
  simp
 rw [if_neg e,<- gE2,h.st w hw]
 simp [Ne.symm e]
theorem Fw.mem (h:Fw E n F rd seen out) {u:Nat} (hu:u<n) (hs:seen.getD u 0=rd):u∈out:=(h.st u hu).1 hs
theorem KA:∀ (n:Nat) (l:List Nat),l.Nodup->(∀ u∈l,u<n)->l.length<=n:=by
 intro n
 induction n with
 | zero=>intro l _ h;cases l with
  | nil=>simp
  | cons a r=>have:=h a (by simp);omega
 | succ n ih=>
  intro l hn hl
  have h1:(l.erase n).length<=n:=ih _ (hn.erase n) fun u hu=>by
   have h2:=(List.Nodup.mem_erase_iff hn).1 hu
   have:=hl u h2.2
   omega
  have:=List.length_erase (a:=n) (l:=l)
  split at this <;> omega
theorem Fw.le (h:Fw E n F rd seen out):out.length<=n:=KA n out h.nd h.lt
theorem Fw.done (h:Fw E n F rd seen out) (hF:∀ v∈F,v∈out) (hc:∀ u∈out,∀ w∈E u,w∈out) (u:Nat):u∈out↔∃ v∈F,Rc E v u:=by
 refine ⟨h.snd u,fun ⟨v,hv,hr⟩=>?_⟩
 induction hr with
 | refl=>exact hF v hv
 | tail _ he ih=>exact hc _ (ih ⟨v,hv,‹_›⟩) _ he
def FJ (n:Nat) (p:Nat->Bool):List Nat:=(List.range n).filter p
theorem Jm (n:Nat) (p:Nat->Bool):(FJ n p).Pairwise (· < ·):=List.Pairwise.filter _ List.pairwise_lt_range
theorem DT {n:Nat} {p:Nat->Bool} {u:Nat}:u∈FJ n p↔u<n/\p u=true:=by simp [FJ]
theorem R9:∀ {l m:List Nat},l.Pairwise (· < ·)->m.Pairwise (· < ·)->(∀ a,a∈l↔a∈m)->l=m
 | [],[],_,_,_=>rfl
 | [],b :: m,_,_,h=>by have:=(h b).2 (by simp);simp at this
 | a :: l,[],_,_,h=>by have:=(h a).1 (by simp);simp at this
 | a :: l,b :: m,hl,hm,h=>by
  have hl':=List.pairwise_cons.1 hl
  have hm':=List.pairwise_cons.1 hm
  have hab:a=b:=by
   rcases List.mem_cons.1 ((h a).1 (by simp)) with e | e
   ·exact e
   ·rcases List.mem_cons.1 ((h b).2 (by simp)) with e' | e'
    ·exact e'.symm
    ·have h1:=hm'.1 a e
     have h2:=hl'.1 b e'
     omega
  subst hab
  congr 1
  refine R9 hl'.2 hm'.2 fun c=>⟨fun hc=>?_,fun hc=>?_⟩
  ·rcases List.mem_cons.1 ((h c).1 (gEf _ hc)) with e | e
   ·subst e;have:=hl'.1 c hc;omega
   ·exact e
  ·rcases List.mem_cons.1 ((h c).2 (gEf _ hc)) with e | e
   ·subst e;have:=hm'.1 c hc;omega
   ·exact e
theorem PU {l m:List Nat} {p:Nat->Bool} (hp:m.Perm l) (hs:m.Pairwise (·<=·)) (hn:l.Nodup) (hl:∀ u,u∈l↔u<n/\p u=true):m=FJ n p:=by
 have hm:m.Nodup:=hp.symm.nodup hn
 refine R9 ?_ (Jm n p) fun a=>by rw [hp.mem_iff,hl,DT]
 refine List.Pairwise.imp (fun h=>by omega) (List.Pairwise.and hs hm)
theorem PV {r:List (Int × Int)} {k:Nat} {a:Int × Int} (h0:∀ j b,j<k+1->r[j]?=some b->b.1=0) (hk:r[k]?=some a):a∈r.takeWhile fun a=>a.1 == 0:=by
 induction r generalizing k with
 | nil=>simp at hk
 | cons b r ih=>
  have hb:=h0 0 b (by omega) rfl
  rw [List.takeWhile_cons,if_pos (by simp [hb])]
  cases k with
  | zero=>simp at hk;subst hk;simp
  | succ k=>exact gEf _ (ih (k:=k) (fun j c hj hc=>h0 (j+1) c (by omega) (by simpa using hc)) (by simpa using hk))
theorem KB {r:List (Int × Int)} {k:Nat} {t:Bool} {a:Int × Int} (h0:t=true->∀ j b,j<k+1->r[j]?=some b->b.1=0) (hk:r[k]?=some a):a∈BR t r:=by
 unfold BR
 split
 rotate_left
 ·exact gE9 hk
 rename_i ht
 exact PV (h0 ht) hk
theorem LL {r:List (Int × Int)} {k:Nat} (h0:∀ j a,j<k->r[j]?=some a->a.1=0) (h1:∀ a,r[k]?=some a->a.1 ≠ 0):BR true r=r.take k:=by
 unfold BR
 rw [if_pos rfl]
 induction r generalizing k with
 | nil=>simp
 | cons a r ih=>
  cases k with
  | zero=>
   have:=h1 a rfl
   simp [List.takeWhile_cons,this]
  | succ k=>
   have:=h0 0 a (by omega) rfl
   rw [List.takeWhile_cons,if_pos (by simp [this]),List.take_succ_cons,ih (k:=k) (fun j b hj hb=>h0 (j+1) b (by omega) (by simpa using hb)) (fun b hb=>h1 b (by simpa using hb))]
end Go.Proofs.YtjijjfkalheokaaGreatDoor
namespace Go.Proofs.YtjijjfkalheokaaGreatDoor
set_option linter.unusedVariables false
set_option linter.unusedSimpArgs false
open Go.RowKit Go.Shelf Go.Sort
set_option maxRecDepth 100000

section
variable {α : Type} [Inhabited α] {enc : α -> Value} {w : World} {blk off m : Nat} {dk : Array α} {os : Array Obj}
theorem Jn:w.heap.size<=(sortWorld enc w blk off m dk os).heap.size:=by
 simp [sortWorld,grow,putRow,mapBlock,Sort.ahead]
theorem KC {k:Nat} (hk:k<w.heap.size) (hne:k ≠ blk):(sortWorld enc w blk off m dk os).heap[k]?=w.heap[k]?:=by
 simp only [sortWorld,grow,putRow,mapBlock,Sort.ahead]
 rw [Array.getElem?_append_left (by simpa using hk),Array.getElem?_modify,if_neg (Ne.symm hne)]
theorem S8 {arr:Array Value} {e:TypeId} {fz:Nat × Nat} (h:w.heap[blk]?=some (.cells arr e fz)):(sortWorld enc w blk off m dk os).heap[blk]?=some (.cells (putCells enc off dk arr) e fz):=by
 have hk:=(Array.getElem?_eq_some_iff.1 h).1
 simp only [sortWorld,grow,putRow,mapBlock,Sort.ahead]
 rw [Array.getElem?_append_left (by simpa using hk),Array.getElem?_modify,if_pos rfl,h]
 rfl
theorem UT {M:Nat->Prop} (hM:M blk):Fp M w (sortWorld enc w blk off m dk os):=
 ⟨rfl,rfl,rfl,Jn,fun k hk hm=>KC hk (fun e=>hm (e ▸ hM)),by simp [sortWorld,grow,putRow,mapBlock,Sort.ahead]⟩
end
theorem S9 {t:Tr} {k:Nat × Nat} {cs:List Tr}:C.ofTr t ≠ .o k cs:=by cases t <;> simp [C.ofTr]
theorem Xa {g:Gh} {α0:Type} {tr:α0->Tr} {e:TypeId} {L:List α0} {ℓ:Loc}:Lv [.r ⟨e,1,true,L.map fun x=>C.ofTr (tr x)⟩] g ℓ↔ℓ=.ob 0/\g.κ 0 ≠ 0:=by
 cases ℓ with
 | ob id=>
  constructor
  rotate_left
  ·rintro ⟨h1,h2⟩
   cases h1
   exact .inl ⟨_,rfl,h2⟩
  rintro (⟨r,h1,h2⟩ | ⟨kv,h1⟩)
  rotate_left
  ·cases id with
   | zero=>simp at h1
   | succ i=>simp at h1
  cases id with
  | zero=>exact ⟨rfl,h2⟩
  | succ i=>simp at h1
 | cl id j=>
  constructor
  rotate_left
  ·rintro ⟨h1,h2⟩;cases h1
  rintro ⟨r,k,cs,h1,h2,h3⟩
  cases id with
  | zero=>
   simp at h1;subst h1
   rw [List.getElem?_map,Option.map_eq_some_iff] at h2
   obtain ⟨x,_,h2⟩:=h2
   exact absurd h2 S9
  | succ i=>simp at h1
def Xb (x:Int):Tr:=.v (.int .i64 x)
theorem KD (L:List Int) (hsz:L.length<=100000000):FC Tryz.prog 106 [.a (.c (.s 0 L.length))] [.r ⟨3,1,true,A7 L⟩] (fun r o=>r=.u/\∃ L':List Int,L'.Perm L/\L'.Pairwise (fun a b=>a<=b)/\o=[.r ⟨3,1,true,A7 L'⟩]):=by
 intro g w vals hr hargs
 obtain ⟨hlen,hargs⟩:=hargs
 obtain ⟨v1,e1,b1,b2,A,rfl,b4,b5⟩:=hargs 0 _ rfl
 have hvals:vals=[.slice A L.length (g.κ 0)]:=by
  match vals,hlen with
  | [a],_=>simp at e1;simp [e1]
 subst hvals
 have lvI:∀ {L:List Int} {ℓ:Loc},Lv [.r ⟨3,1,true,A7 L⟩] g ℓ↔ℓ=.ob 0/\g.κ 0 ≠ 0:=fun {L ℓ}=>Xa (tr:=Xb) (L:=L)
 rcases hr.row 0 _ rfl with ⟨h0,hnil⟩ | ⟨h0,hne,arr,ha,hle,hs,hmx,hcells⟩
 ·have hL0:L=[]:=by
   have h:A7 L=[]:=hnil
   simpa [A7] using h
  subst hL0
  refine (Any.slices_Sort_int_none Tryz.sortInts A (g.κ 0) w).mono ?_
  rintro e' w' ⟨rfl,rfl⟩
  exact ⟨.tuple #[],.u,_,g,rfl,⟨rfl,[],List.Perm.refl _,List.Pairwise.nil,rfl⟩,hr,⟨Nat.le_refl _,Ext.refl _ _⟩,fun ℓ hl=>.inl ⟨ℓ,hl,rfl⟩,trivial,Fp.refl _ _⟩
 rw [b4 h0] at *
 have hblk:g.γ (.ob 0)<w.heap.size:=(Array.getElem?_eq_some_iff.1 ha).1
 have hOw:Ow [.r ⟨3,1,true,A7 L⟩] g (g.γ (.ob 0)):=.inr ⟨.ob 0,lvI.2 ⟨rfl,h0⟩,rfl⟩
 have hle':L.length<=arr.size:=by simpa [A5] using hle
 have hget:∀ j (hj:j<L.length),arr[j]?=some (.int .i64 L[j]):=by
  intro j hj
  obtain ⟨u,u1,u2⟩:=hcells j (.v (.int .i64 L[j])) (Aq (gE1 hj))
  rw [u1,show u=.int .i64 L[j] from u2]
 have hH:Holds (Value.int .i64) w (g.γ (.ob 0)) 0 L.toArray:=by
  intro j hj
  simp only [List.size_toArray] at hj
  constructor
  rotate_left
  ·simp [World.frozen?,ha]
  rw [Nat.zero_add,cell_of_row w _ j arr _ (0,0) ha,hget j hj,getElem!_pos _ j (by simpa using hj)]
  simp
 refine (Any.slices_Sort_int Tryz.sortInts (g.γ (.ob 0)) 0 (g.κ 0) L w hH hblk (by omega)).mono ?_
 rintro e' w' ⟨rfl,m,os,rfl⟩
 obtain ⟨L',hL'⟩:∃ L',L'=L.mergeSort fun x y=>decide (x<=y):=⟨_,rfl⟩
 have hperm:L'.Perm L:=by rw [hL'];exact List.mergeSort_perm _ _
 have hsort:L'.Pairwise (fun a b=>a<=b):=by
  rw [hL']
  have:=List.pairwise_mergeSort (le:=fun x y:Int=>decide (x<=y)) (fun a b c h1 h2=>by simp at *;omega) (fun a b=>by simp;omega) L
  exact this.imp fun h=>by simpa using h
 rw [<- hL']
 have hll:=hperm.length_eq
 show Pb _ _ _ _ _ (sortWorld (Value.int .i64) w (g.γ (.ob 0)) 0 m L'.toArray os)
 refine ⟨.tuple #[],.u,_,g,rfl,⟨rfl,L',hperm,hsort,rfl⟩,?_,⟨Nat.le_refl _,Ext.refl _ _⟩,fun ℓ hl=>.inl ⟨ℓ,lvI.2 (lvI.1 hl),rfl⟩,trivial,UT ⟨.ob 0,lvI.2 ⟨rfl,h0⟩,rfl⟩⟩
 refine ⟨fun b hb=>Nat.lt_of_lt_of_le (hr.ml b hb) Jn,fun ℓ hl=>hr.md ℓ (lvI.2 (lvI.1 hl)),fun ℓ ℓ' hl hl'=>hr.inj ℓ ℓ' (lvI.2 (lvI.1 hl)) (lvI.2 (lvI.1 hl')),fun id r hid=>?_,fun id r hid=>?_,hr.gl.keep Jn (fun k hk hn=>KC hk (fun e=>hn (e ▸ hOw))) (fun k _ hk=>hk.imp (fun h=>h) (fun ⟨ℓ,hl,e⟩=>⟨ℓ,lvI.2 (lvI.1 hl),e⟩))⟩
 rotate_left
 ·cases id with
  | zero=>simp at hid
  | succ i=>simp at hid
 cases id with
 | succ i=>simp at hid
 | zero=>
  simp at hid
  subst hid
  refine .inr ⟨h0,fun _ hn=>?_,_,S8 ha,?_,?_,hmx,fun j c hj=>?_⟩
  ·have h1:L'=[]:=by simpa [A7] using hn
   rw [h1] at hll
   have h2:L=[]:=List.length_eq_zero_iff.1 hll.symm
   exact hne rfl (by simp [h2,A7])
  ·simp only [A5,putCells,Array.size_mapIdx];omega
  ·simpa [putCells] using hs
  have hjl:j<L'.length:=by have:=(List.getElem?_eq_some_iff.1 hj).1;rw [A5] at this;exact this
  have hc:c=.v (.int .i64 L'[j]):=by
   rw [Aq (gE1 hjl)] at hj
   exact (Option.some.inj hj).symm
  subst hc
  refine ⟨.int .i64 L'[j],?_,rfl⟩
  unfold putCells
  rw [Array.getElem?_mapIdx,gEd (by omega)]
  simp [hjl]
open Go.RowKit
attribute [local go_sem] lga C.pl C.one
def Xc (R:List (List Ar)) (id:Nat) (rd:Int):Ob:=.r ⟨126,3,false,[.t 1 (Ah R),.s id R.length,.v (.int .i64 rd)]⟩
theorem Sa (R:List (List Ar)) (hn:R.length<=1000000):FC Tryz.prog 73 [B7 R] [] (fun r o=>o=[Xc R 1 0,.r ⟨3,1,true,A7 (List.replicate R.length 0)⟩]/\r=.a (.c (.p 0 0))):=by
 refine A6 Tryz.func73 rfl (by rw [Tryz.ntmps73];simp) ?_
 rw [Tryz.ntmps73]
 simp only [Bf,B7]
 (refine Wt ?_;(repeat clear hK K);repeat refine kq fun K hK=>?_)
 (refine AJ [] (.m 1 0 0 (.m 0 1 6 (.m 2 1 4 (.m 3 0 0 (.a 4 (.m 5 0 0 (.a 6 (.a 7 .e)))))))) (by kernel_rfl) (by kernel_rfl) (by intro c st h;simp [Ae,AF,VT] at h) ?_)
 (refine Ww @A3 ?_;repeat clear hK K)
 (refine Wj rfl rfl ?_;intro K1 hK1;refine Bx rfl ?_;simp only [go_sem,A3];(first | refine hK1 _ ?_ | refine AD (hK1 _ ?_));clear hK1 K1)
 (refine Wv ?_;repeat clear hK K)
 (refine Wj rfl rfl ?_;intro K1 hK1;refine Bx rfl ?_;simp only [go_sem];(first | refine hK1 _ ?_ | refine AD (hK1 _ ?_));clear hK1 K1)
 (refine Wv ?_;repeat clear hK K)
 (refine Wk rfl rfl rfl rfl ?_;intro K1 hK1;refine AP rfl ?_;simp only [go_sem];(first | refine hK1 _ ?_ | refine AD (hK1 _ ?_));clear hK1 K1)
 refine CL ⟨by simp,by simp,?_⟩
 (try simp only [Ae,AF])
 refine hK _ ?_
 clear hK K
 have e0:List.replicate R.length (C.v (.int .i64 0))=A7 (List.replicate R.length 0):=by simp [A7]
 rw [e0]
 (refine Wt ?_;(repeat clear hK K);repeat refine kq fun K hK=>?_)
 ((try refine Av ?_);(try simp only [Ae,AF]);refine B6 (A9 [2,1] rfl rfl) ?_;(try simp only [List.set_nil,List.take_nil,List.take_zero,List.map_append,go_sem]);((try refine Av ?_);(try refine Aa ?_);(try simp only [Ae,AF]);refine Bj (by first | exact .inl rfl | exact .inr rfl) rfl ?_;simp only [VU,Dy,Du,DL,Tryz.results73,go_sem,true_and,and_true,Af,Xc]))
def Xd:List Ar->Bool
 | []=>true
 | a :: _=>a.1 != 0
theorem Iw (R:List (List Ar)) (s:Nat) (h:s<R.length) (hn:R.length<=1000000) (hr:∀ r∈R,r.length<=1000000):FC Tryz.prog 36 [B7 R,.i s] [] (fun r o=>o=[]/\r=.b (Xd R[s])):=by
 refine A6 Tryz.func36 rfl (by rw [Tryz.ntmps36];simp) ?_
 rw [Tryz.ntmps36]
 simp only [Bf,B7]
 have hg:=gE1 h
 have hrl:=hr _ (gE6 h)
 generalize R[s]=row at *
 by_cases h0:row.length=0
 ·have d0:((row.length:Int) == 0)=true:=by simp [h0]
  (refine Wu (an @A3 (an (Ag hg) (an @A2 (an @Ak @d0)))) ?_;(repeat clear hK K);repeat refine kq fun K hK=>?_)
  refine WF [] Tryz.results36 ?_
  have:row=[]:=List.length_eq_zero_iff.1 h0
  subst this;rfl
 have d0:((row.length:Int) == 0)=false:=by simp;intro e;simp [e] at h0
 have h1:0<row.length:=by omega
 have hc:(Ao row)[Int.toNat 0*2]?=some (.v (.int .i64 row[0].1)):=CC h1
 (refine Wu (an @A3 (an (Ag hg) (an @A2 (an @Ak (an @d0 @hc))))) ?_;(repeat clear hK K);repeat refine kq fun K hK=>?_)
 refine WF [] Tryz.results36 ?_
 cases row with
 | nil=>exact absurd rfl h0
 | cons a q=>rfl
set_option maxHeartbeats 8000000 in
theorem Np (R:List (List Ar)) (t:Bool) (F:List Nat) (hlo:BE R=true) (hn:R.length<=1000000) (hr:∀ r∈R,r.length<=1000000) (hF:∀ v∈F,v<R.length) (hFl:F.length<=1000000) (seen:List Int) (rd:Int) (hs:seen.length=R.length) (hb:∀ x∈seen,x<=rd) (h0:0<=rd) (h1:rd<=1000000000):
  FC Tryz.prog 74 [.a (.c (.p 0 0)),.a (.c (.t 1 (Ab (F.map Int.ofNat)))),.b t] [Xc R 1 rd,.r ⟨3,1,true,A7 seen⟩] (fun r o=>∃ seen':List Int,seen'.length=R.length/\(∀ x∈seen',x<=rd+1)/\∃ p:Nat->Bool,(∀ u,u<R.length->(p u=true↔∃ v∈F,Rc (WP t R) v u))/\o=[Xc R 1 (rd+1),.r ⟨3,1,true,A7 seen'⟩,.r ⟨3,1,true,A7 ((FJ R.length p).map Int.ofNat)⟩]/\r=.a (.c (.s 2 (FJ R.length p).length))):=by
 refine A6 Tryz.func74 rfl (by rw [Tryz.ntmps74];simp) ?_
 rw [Tryz.ntmps74]
 simp only [Bf,Xc]
 have hbd:=(gE4 hlo).2.2.2
 have hFl2:(F.map Int.ofNat).length=F.length:=by simp
 (refine Cn (an @A4 @hFl2) ?_;(repeat clear hK K);repeat refine kq fun K hK=>?_)
 refine Au (CT 7 3 1 ?_) ?_
 ·simp only [go_sem]
 refine A8 (fun x:Nat × List Int × List Nat=>{ tm:=[(0,.a (.c (.p 0 0))),(2,.b t),(7,.a (.c (.s 2 x.2.2.length))),(20,.a (.c (.t 1 (Ab (F.map Int.ofNat))))),(21,.i F.length),(22,.i x.1)],hp:=[.r ⟨126,3,false,[.t 1 (Ah R),.s 1 R.length,.v (.int .i64 (rd+1))]⟩,.r ⟨3,1,true,A7 x.2.1⟩,.r ⟨3,1,true,A7 (x.2.2.map Int.ofNat)⟩],n:=114,pin:=2 }) (fun x=>x.1<=F.length/\Fw (WP t R) R.length F (rd+1) x.2.1 x.2.2/\∀ v∈F.take x.1,v∈x.2.2) (fun x=>F.length - x.1) (0,seen,[]) ?_ ?_ ?_
 ·exact ⟨by simp,Fw.start hs (fun x hx=>by have:=hb x hx;omega),by simp⟩
 ·exact WE
 rintro ⟨k,sn,out⟩ ⟨hk,hW,hT⟩ K hK
 simp only at hk hW hT
 have hsl:=hW.len
 have hol:=hW.le
 by_cases hlt:k<F.length
 ·have d1:decide ((k:Int)<(F.length:Int))=true:=by simpa using hlt
  have gF:(Ab (F.map Int.ofNat))[k]?=some (.v (.int .i64 (F[k]:Int))):=Am (by rw [List.getElem?_map,gE1 hlt];rfl)
  have hul:=hF _ (gE6 hlt)
  have hFk:=gE6 hlt
  have hTk:F.take (k+1)=F.take k++[F[k]]:=gE8 hlt
  generalize F[k]=u at *
  have gs:(A7 sn)[u]?=some (.v (.int .i64 sn[u])):=Aq (gE1 (by omega))
  have gd:sn.getD u 0=sn[u]:=by rw [gE2,gE1 (by omega)];rfl
  (refine Wu @d1 ?_;(repeat clear hK K);repeat refine kq fun K hK=>?_)
  refine WB ?_
  by_cases hq:sn[u]=rd+1
  ·have d2:(sn[u] != rd+1)=false:=by rw [hq];simp
   have hmem:=hW.mem hul (by rw [gd,hq])
   (refine Wu (an @gF (an @A4 @hFl2)) ?_;(repeat clear hK K);repeat refine kq fun K hK=>?_)
   (refine Ac 11 [(0,0),(1,0),(2,0),(3,1),(4,0),(5,0),(6,1),(7,0),(8,0),(9,0),(10,1),(11,2)] (by kernel_rfl) (by kernel_rfl) (by intro c st h;simp [Ae,AF,VT] at h) ?_)
   (refine Wq (an @gs (an @A5 (an @hsl @d2))) ?_;repeat clear hK K)
   refine WC ?_
   (refine Wt ?_;(repeat clear hK K);repeat refine kq fun K hK=>?_)
   refine WD ?_
   refine hK _ (k+1,sn,out) ⟨by simp only;omega,hW,fun v hv=>?_⟩ (by simp only;omega) ?_
   rotate_left
   ·exact WE
   simp only at hv
   rw [hTk] at hv
   rcases List.mem_append.1 hv with h | h
   ·exact hT v h
   simp at h;subst h;exact hmem
  have d2:(sn[u] != rd+1)=true:=by simpa using hq
  have hW2:=hW.push hul (by rw [gd];exact hq) ⟨u,hFk,.refl _⟩
  have op1:=F0 out u []
  simp only [List.append_nil] at op1
  (refine Wu (an @gF (an @A4 @hFl2)) ?_;(repeat clear hK K);repeat refine kq fun K hK=>?_)
  (refine Ac 11 [(0,0),(1,0),(2,0),(3,1),(4,0),(5,0),(6,1),(7,0),(8,0),(9,0),(10,1),(11,2)] (by kernel_rfl) (by kernel_rfl) (by intro c st h;simp [Ae,AF,VT] at h) ?_)
  (refine Wq (an @gs (an @A5 (an @hsl @d2))) ?_;repeat clear hK K)
  refine WB ?_
  (refine Wt ?_;(repeat clear hK K);repeat refine kq fun K hK=>?_)
  (refine Ac 10 [(0,0),(1,0),(2,0),(3,1),(4,0),(5,0),(6,0),(7,0),(8,1),(9,0),(10,2)] (by kernel_rfl) (by kernel_rfl) (by intro c st h;simp [Ae,AF,VT] at h) ?_)
  (refine UQ (an @A5 (an @hsl @AK)) ?_;repeat clear hK K)
  (refine Wu (an @A5 (an @List.length_map.{0,0} (an @op1 @Nat.le_refl))) ?_;(repeat clear hK K);repeat refine kq fun K hK=>?_)
  refine WD ?_
  refine hK _ (k+1,sn.set u (rd+1),out++[u]) ⟨by simp only;omega,hW2,fun v hv=>?_⟩ (by simp only;omega) ?_
  ·simp only at hv
   rw [hTk] at hv
   rcases List.mem_append.1 hv with h | h
   ·exact List.mem_append_left _ (hT v h)
   simp at h;subst h;simp
  refine Le.trans (A9 [0,1,4] rfl rfl) ?_
  (try simp only [List.set_nil,List.take_nil,List.take_zero,List.map_append,go_sem])
  (try simp only [Af])
  simp only [List.length_append,List.length_cons,List.length_nil]
  exact WE
 have d1:decide ((k:Int)<(F.length:Int))=false:=by simpa using hlt
 have hT2:∀ v∈F,v∈out:=fun v hv=>hT v (by rw [gE7 (by omega)];exact hv)
 clear hT
 (refine Wu @d1 ?_;(repeat clear hK K);repeat refine kq fun K hK=>?_)
 refine WC ?_
 (refine Wx ?_;repeat clear hK K)
 (refine Wt ?_;(repeat clear hK K);repeat refine kq fun K hK=>?_)
 refine A8 (fun x:Nat × List Int × List Nat=>{ tm:=[(0,.a (.c (.p 0 0))),(2,.b t),(7,.a (.c (.s 2 x.2.2.length))),(10,.i x.1)],hp:=[.r ⟨126,3,false,[.t 1 (Ah R),.s 1 R.length,.v (.int .i64 (rd+1))]⟩,.r ⟨3,1,true,A7 x.2.1⟩,.r ⟨3,1,true,A7 (x.2.2.map Int.ofNat)⟩],n:=114,pin:=2 }) (fun x=>x.1<=x.2.2.length/\Fw (WP t R) R.length F (rd+1) x.2.1 x.2.2/\(∀ v∈F,v∈x.2.2)/\∀ (j u:Nat),j<x.1->x.2.2[j]?=some u->∀ w∈WP t R u,w∈x.2.2) (fun x=>R.length - x.1) (0,sn,out) ?_ ?_ ?_
 ·exact ⟨by simp,hW,hT2,by simp⟩
 ·exact WE
 clear hW hT2 hsl hol hk hlt d1
 clear out sn
 rintro ⟨i,sn,out⟩ ⟨hi,hW,hT,hC⟩ K hK
 simp only at hi hW hT hC
 have hsl:=hW.len
 have hol:=hW.le
 by_cases hlt:i<out.length
 rotate_left
 ·have d1:decide ((i:Int)<(out.length:Int))=false:=by simpa using hlt
  obtain ⟨p,hp⟩:∃ p:Nat->Bool,p=fun u=>decide (u∈out):=⟨_,rfl⟩
  have hdone:=hW.done hT (fun u hu w hw=>by
   obtain ⟨j,hj⟩:=List.getElem?_of_mem hu
   exact hC j u (by have:=(List.getElem?_eq_some_iff.1 hj).1;omega) hj w hw)
  have hlm:(out.map Int.ofNat).length=out.length:=by simp
  (refine Wu (an @d1 (an @A5 @List.length_map.{0,0})) ?_;(repeat clear hK K);repeat refine kq fun K hK=>?_)
  refine WC ?_
  (refine Wx ?_;repeat clear hK K)
  rw [<- hlm]
  (refine Wt ?_;(repeat clear hK K);repeat refine kq fun K hK=>?_)
  (refine Ai rfl ?_;intro K1 hK1;refine AH (ids:=[]) [2] (KD (out.map Int.ofNat) (by rw [hlm];omega)) rfl rfl (by simp only [go_sem]) (by first | assumption | kernel_rfl) rfl rfl (by (simp only [List.map_append,List.append_nil,go_sem]) <;> rfl) (by (simp only [VS,Af,go_sem]) <;> rfl) ?_ ?_)
  ·rintro _ _ ⟨rfl,L',_,_,rfl⟩;rfl
  rintro _ _ ⟨rfl,L',hperm,hsort,rfl⟩
  (simp only [As,Bl,BQ,List.append_nil,List.nil_append,List.length_map,go_sem];refine hK1 _ ?_;clear hK1 K1)
  have hLo:L'=(FJ R.length p).map Int.ofNat:=by
   obtain ⟨m,hm⟩:∃ m:List Nat,L'=m.map Int.ofNat:=by
    refine ⟨L'.map Int.toNat,?_⟩
    rw [List.map_map]
    refine (List.map_id L').symm.trans (List.map_congr_left fun x hx=>?_)
    have h:=(hperm.mem_iff).1 hx
    obtain ⟨y,_,rfl⟩:=List.mem_map.1 h
    rfl
   subst hm
   have hp2:m.Perm out:=by
    have:=hperm.map Int.toNat
    simpa [List.map_map,Function.comp_def] using this
   have hs2:m.Pairwise (·<=·):=by
    rw [List.pairwise_map] at hsort
    exact hsort.imp fun h=>by simpa using h
   rw [PU (p:=p) hp2 hs2 hW.nd (fun u=>⟨fun h=>⟨hW.lt u h,by rw [hp];simpa using h⟩,fun h=>by have:=h.2;rw [hp] at this;simpa using this⟩)]
  have hll:out.length=(FJ R.length p).length:=by have h:=hperm.length_eq;rw [hLo] at h;simpa using h.symm
  rw [hll,hLo]
  (refine Wt ?_;(repeat clear hK K);repeat refine kq fun K hK=>?_)
  ((try refine Av ?_);(try simp only [Ae,AF]);refine B6 (A9 [0,1,2] rfl rfl) ?_;(try simp only [List.set_nil,List.take_nil,List.take_zero,List.map_append,go_sem]);((try refine Av ?_);(try refine Aa ?_);(try simp only [Ae,AF]);refine Bj (by first | exact .inl rfl | exact .inr rfl) rfl ?_;simp only [VU,Dy,Du,DL,Tryz.results74,go_sem,true_and,and_true,Af,Xc]))
  exact ⟨sn,hsl,hW.bd,p,fun u hu=>by rw [<- hdone u,hp];simp,rfl,rfl⟩
 have d1:decide ((i:Int)<(out.length:Int))=true:=by simpa using hlt
 have go:(A7 (out.map Int.ofNat))[i]?=some (.v (.int .i64 (out[i]:Int))):=Aq (by rw [List.getElem?_map,gE1 hlt];rfl)
 have hul:=hW.lt _ (gE6 hlt)
 have hsu:=hW.snd _ (gE6 hlt)
 have hoi:out[i]?=some out[i]:=gE1 hlt
 generalize out[i]=u at *
 have hgR:=gE1 hul
 have hrl:=hr _ (gE6 hul)
 have hbr:=hbd _ (gE6 hul)
 have hAu:WP t R u=(BR t R[u]).map fun a=>a.2.toNat:=by
  unfold WP;rw [gE2,hgR];rfl
 generalize hrr:R[u]=row at *
 have hKo:=hK
 (refine Wu (an @d1 (an @A5 @List.length_map.{0,0})) ?_;(repeat clear hK K);repeat refine kq fun K hK=>?_)
 refine WB ?_
 (refine Wt ?_;(repeat clear hK K);repeat refine kq fun K hK=>?_)
 (refine Ac 11 [(0,0),(1,0),(2,0),(3,0),(4,1),(5,0),(6,0),(7,0),(8,1),(9,0),(10,1),(12,0),(11,2)] (by kernel_rfl) (by kernel_rfl) (by intro c st h;simp [Ae,AF,VT] at h) ?_)
 (refine Wq (an @A3 (an (Ag hgR) (an @A5 (an @List.length_map.{0,0} (an @go (an @A2 @Ak)))))) ?_;repeat clear hK K)
 (refine Wt ?_;(repeat clear hK K);repeat refine kq fun K hK=>?_)
 refine A8 (fun x:Nat × List Int × List Nat=>{ tm:=[(0,.a (.c (.p 0 0))),(2,.b t),(7,.a (.c (.s 2 x.2.2.length))),(10,.i i),(69,.a (.c (.t 2 (Ao row)))),(70,.i row.length),(71,.i x.1)],hp:=[.r ⟨126,3,false,[.t 1 (Ah R),.s 1 R.length,.v (.int .i64 (rd+1))]⟩,.r ⟨3,1,true,A7 x.2.1⟩,.r ⟨3,1,true,A7 (x.2.2.map Int.ofNat)⟩],n:=114,pin:=2 }) (fun x=>x.1<=row.length/\Fw (WP t R) R.length F (rd+1) x.2.1 x.2.2/\(∃ l,x.2.2=out++l)/\(t=true->∀ j a,j<x.1->row[j]?=some a->a.1=0)/\∀ a∈row.take x.1,a.2.toNat∈x.2.2) (fun x=>row.length - x.1) (0,sn,out) ?_ ?_ ?_
 ·exact ⟨by simp,hW,⟨[],by simp⟩,by simp,by simp⟩
 ·exact WE
 have fin:∀ (sn1:List Int) (out1:List Nat),Fw (WP t R) R.length F (rd+1) sn1 out1->(∃ l,out1=out++l)->(∀ a∈BR t row,a.2.toNat∈out1)->(i+1<=out1.length/\Fw (WP t R) R.length F (rd+1) sn1 out1/\(∀ v∈F,v∈out1)/\∀ (j u:Nat),j<i+1->out1[j]?=some u->∀ w∈WP t R u,w∈out1):=by
  rintro sn1 out1 q1 ⟨l,rfl⟩ q3
  refine ⟨by simp;omega,q1,fun v hv=>List.mem_append_left _ (hT v hv),fun j x hj hx w hw=>?_⟩
  rw [gEa (by omega)] at hx
  by_cases e:j=i
  rotate_left
  ·exact List.mem_append_left _ (hC j x (by omega) hx w hw)
  subst e
  rw [hoi] at hx;cases hx
  rw [hAu] at hw
  obtain ⟨a,ha,rfl⟩:=List.mem_map.1 hw
  exact q3 a ha
 rintro ⟨k,sn1,out1⟩ ⟨hk,hW1,hl1,hz,hT1⟩ K hK
 simp only at hk hW1 hl1 hz hT1
 have hsl1:=hW1.len
 have hol1:=hW1.le
 by_cases hlt2:k<row.length
 rotate_left
 ·have d2:decide ((k:Int)<(row.length:Int))=false:=by simpa using hlt2
  (refine Wu @d2 ?_;(repeat clear hK K);repeat refine kq fun K hK=>?_)
  refine WC ?_
  (refine Wx ?_;repeat clear hK K)
  (refine Wt ?_;(repeat clear hK K);repeat refine kq fun K hK=>?_)
  refine WD ?_
  refine hKo _ (i+1,sn1,out1) (fin sn1 out1 hW1 hl1 (fun a ha=>?_)) (by simp only;omega) ?_
  rotate_left
  ·exact WE
  refine hT1 a ?_
  rw [gE7 (by omega)]
  unfold BR at ha
  split at ha
  ·exact (List.takeWhile_sublist _).subset ha
  exact ha
 have d2:decide ((k:Int)<(row.length:Int))=true:=by simpa using hlt2
 have hat:=AL hlt2
 have hb2:=hbr _ (gE6 hlt2)
 have hrk:row[k]?=some row[k]:=gE1 hlt2
 have hTk:row.take (k+1)=row.take k++[row[k]]:=gE8 hlt2
 generalize row[k]=a at *
 obtain ⟨e,tn,rfl⟩:∃ (e:Int) (tn:Nat),a=(e,(tn:Int)):=⟨a.1,a.2.toNat,by
  have:(a.2.toNat:Int)=a.2:=by omega
  rw [this]⟩
 simp only at hb2
 have htn:tn<R.length:=by omega
 by_cases hst:t=true/\e ≠ 0
 ·obtain ⟨ht,he⟩:=hst
  subst ht
  have d3:(e != 0)=true:=by simpa using he
  (refine Wu @d2 ?_;(repeat clear hK K);repeat refine kq fun K hK=>?_)
  refine WB ?_
  (refine Cn (an @hat (an @A2 (an @Ak @d3))) ?_;(repeat clear hK K);repeat refine kq fun K hK=>?_)
  refine WB ?_
  (refine Wx ?_;repeat clear hK K)
  (refine Wt ?_;(repeat clear hK K);repeat refine kq fun K hK=>?_)
  refine WD ?_
  refine hKo _ (i+1,sn1,out1) (fin sn1 out1 hW1 hl1 (fun a ha=>?_)) (by simp only;omega) ?_
  ·rw [LL (hz rfl) (fun b hb=>by rw [hrk] at hb;cases hb;exact he)] at ha
   exact hT1 a ha
  refine Le.trans (A9 [0,1,2] rfl rfl) ?_
  (try simp only [List.set_nil,List.take_nil,List.take_zero,List.map_append,go_sem])
  (try simp only [Af])
  exact WE
 have hz2:t=true->∀ j a,j<k+1->row[j]?=some a->a.1=0:=fun ht j a hj ha=>by
  by_cases e2:j=k
  rotate_left
  ·exact hz ht j a (by omega) ha
  subst e2
  rw [hrk] at ha;cases ha
  exact Decidable.byContradiction fun h=>hst ⟨ht,h⟩
 have gs:(A7 sn1)[tn]?=some (.v (.int .i64 sn1[tn])):=Aq (gE1 (by omega))
 have gd:sn1.getD tn 0=sn1[tn]:=by rw [gE2,gE1 (by omega)];rfl
 cases t with
 | false=>
  (refine Wu @d2 ?_;(repeat clear hK K);repeat refine kq fun K hK=>?_)
  refine WB ?_
  (refine Cn (an @hat (an @A2 @Ak)) ?_;(repeat clear hK K);repeat refine kq fun K hK=>?_)
  refine WC ?_
  by_cases hq:sn1[tn]=rd+1
  ·have d4:(sn1[tn] != rd+1)=false:=by rw [hq];simp
   have hmem:=hW1.mem htn (by rw [gd,hq])
   (refine Wt ?_;(repeat clear hK K);repeat refine kq fun K hK=>?_)
   (refine Ac 12 [(0,0),(1,0),(2,0),(3,1),(4,0),(5,1),(6,0),(7,1),(8,0),(9,0),(10,0),(11,1),(12,2)] (by kernel_rfl) (by kernel_rfl) (by intro c st h;simp [Ae,AF,VT] at h) ?_)
   (refine Wq (an @gs (an @A5 (an @hsl1 @d4))) ?_;repeat clear hK K)
   refine WC ?_
   (refine Wt ?_;(repeat clear hK K);repeat refine kq fun K hK=>?_)
   refine WD ?_
   refine hK _ (k+1,sn1,out1) ⟨by simp only;omega,hW1,hl1,hz2,fun a ha=>?_⟩ (by simp only;omega) ?_
   ·simp only at ha
    rw [hTk] at ha
    rcases List.mem_append.1 ha with h | h
    ·exact hT1 a h
    simp at h;subst h;simpa using hmem
   refine Le.trans (A9 [0,1,2] rfl rfl) ?_
   (try simp only [List.set_nil,List.take_nil,List.take_zero,List.map_append,go_sem])
   (try simp only [Af])
   exact WE
  have d4:(sn1[tn] != rd+1)=true:=by simpa using hq
  obtain ⟨v,hv,hvu⟩:=hsu
  have hW2:=hW1.push htn (by rw [gd];exact hq) ⟨v,hv,hvu.tail (by rw [hAu];exact List.mem_map.2 ⟨(e,(tn:Int)),KB hz2 hrk,by simp⟩)⟩
  have op1:=F0 out1 tn []
  simp only [List.append_nil] at op1
  (refine Wt ?_;(repeat clear hK K);repeat refine kq fun K hK=>?_)
  (refine Ac 12 [(0,0),(1,0),(2,0),(3,1),(4,0),(5,1),(6,0),(7,1),(8,0),(9,0),(10,0),(11,1),(12,2)] (by kernel_rfl) (by kernel_rfl) (by intro c st h;simp [Ae,AF,VT] at h) ?_)
  (refine Wq (an @gs (an @A5 (an @hsl1 @d4))) ?_;repeat clear hK K)
  refine WB ?_
  (refine Wt ?_;(repeat clear hK K);repeat refine kq fun K hK=>?_)
  (refine Ac 11 [(0,0),(1,0),(2,0),(3,1),(4,0),(5,1),(6,0),(7,0),(8,0),(9,1),(10,0),(11,2)] (by kernel_rfl) (by kernel_rfl) (by intro c st h;simp [Ae,AF,VT] at h) ?_)
  (refine UQ (an @A5 (an @hsl1 @AK)) ?_;repeat clear hK K)
  (refine Wu (an @A5 (an @List.length_map.{0,0} (an @op1 @Nat.le_refl))) ?_;(repeat clear hK K);repeat refine kq fun K hK=>?_)
  refine WD ?_
  obtain ⟨l,hl⟩:=hl1
  refine hK _ (k+1,sn1.set tn (rd+1),out1++[tn]) ⟨by simp only;omega,hW2,⟨l++[tn],by simp only;rw [hl,List.append_assoc]⟩,hz2,fun a ha=>?_⟩ (by simp only;omega) ?_
  ·simp only at ha
   rw [hTk] at ha
   rcases List.mem_append.1 ha with h | h
   ·exact List.mem_append_left _ (hT1 a h)
   simp at h;subst h;simp
  refine Le.trans (A9 [0,1,5] rfl rfl) ?_
  (try simp only [List.set_nil,List.take_nil,List.take_zero,List.map_append,go_sem])
  (try simp only [Af])
  simp only [List.length_append,List.length_cons,List.length_nil]
  exact WE
 | true=>
  have d3:(e != 0)=false:=by
   have:e=0:=Decidable.byContradiction fun h=>hst ⟨rfl,h⟩
   simp [this]
  (refine Wu @d2 ?_;(repeat clear hK K);repeat refine kq fun K hK=>?_)
  refine WB ?_
  (refine Cn (an @hat (an @A2 (an @Ak @d3))) ?_;(repeat clear hK K);repeat refine kq fun K hK=>?_)
  refine WC ?_
  by_cases hq:sn1[tn]=rd+1
  ·have d4:(sn1[tn] != rd+1)=false:=by rw [hq];simp
   have hmem:=hW1.mem htn (by rw [gd,hq])
   (refine Wt ?_;(repeat clear hK K);repeat refine kq fun K hK=>?_)
   (refine Ac 12 [(0,0),(1,0),(2,0),(3,1),(4,0),(5,1),(6,0),(7,1),(8,0),(9,0),(10,0),(11,1),(12,2)] (by kernel_rfl) (by kernel_rfl) (by intro c st h;simp [Ae,AF,VT] at h) ?_)
   (refine Wq (an @gs (an @A5 (an @hsl1 @d4))) ?_;repeat clear hK K)
   refine WC ?_
   (refine Wt ?_;(repeat clear hK K);repeat refine kq fun K hK=>?_)
   refine WD ?_
   refine hK _ (k+1,sn1,out1) ⟨by simp only;omega,hW1,hl1,hz2,fun a ha=>?_⟩ (by simp only;omega) ?_
   ·simp only at ha
    rw [hTk] at ha
    rcases List.mem_append.1 ha with h | h
    ·exact hT1 a h
    simp at h;subst h;simpa using hmem
   refine Le.trans (A9 [0,1,2] rfl rfl) ?_
   (try simp only [List.set_nil,List.take_nil,List.take_zero,List.map_append,go_sem])
   (try simp only [Af])
   exact WE
  have d4:(sn1[tn] != rd+1)=true:=by simpa using hq
  obtain ⟨v,hv,hvu⟩:=hsu
  have hW2:=hW1.push htn (by rw [gd];exact hq) ⟨v,hv,hvu.tail (by rw [hAu];exact List.mem_map.2 ⟨(e,(tn:Int)),KB hz2 hrk,by simp⟩)⟩
  have op1:=F0 out1 tn []
  simp only [List.append_nil] at op1
  (refine Wt ?_;(repeat clear hK K);repeat refine kq fun K hK=>?_)
  (refine Ac 12 [(0,0),(1,0),(2,0),(3,1),(4,0),(5,1),(6,0),(7,1),(8,0),(9,0),(10,0),(11,1),(12,2)] (by kernel_rfl) (by kernel_rfl) (by intro c st h;simp [Ae,AF,VT] at h) ?_)
  (refine Wq (an @gs (an @A5 (an @hsl1 @d4))) ?_;repeat clear hK K)
  refine WB ?_
  (refine Wt ?_;(repeat clear hK K);repeat refine kq fun K hK=>?_)
  (refine Ac 11 [(0,0),(1,0),(2,0),(3,1),(4,0),(5,1),(6,0),(7,0),(8,0),(9,1),(10,0),(11,2)] (by kernel_rfl) (by kernel_rfl) (by intro c st h;simp [Ae,AF,VT] at h) ?_)
  (refine UQ (an @A5 (an @hsl1 @AK)) ?_;repeat clear hK K)
  (refine Wu (an @A5 (an @List.length_map.{0,0} (an @op1 @Nat.le_refl))) ?_;(repeat clear hK K);repeat refine kq fun K hK=>?_)
  refine WD ?_
  obtain ⟨l,hl⟩:=hl1
  refine hK _ (k+1,sn1.set tn (rd+1),out1++[tn]) ⟨by simp only;omega,hW2,⟨l++[tn],by simp only;rw [hl,List.append_assoc]⟩,hz2,fun a ha=>?_⟩ (by simp only;omega) ?_
  ·simp only at ha
   rw [hTk] at ha
   rcases List.mem_append.1 ha with h | h
   ·exact List.mem_append_left _ (hT1 a h)
   simp at h;subst h;simp
  refine Le.trans (A9 [0,1,5] rfl rfl) ?_
  (try simp only [List.set_nil,List.take_nil,List.take_zero,List.map_append,go_sem])
  (try simp only [Af])
  simp only [List.length_append,List.length_cons,List.length_nil]
  exact WE
def Xe (r:List Ar) (e:Int):List Nat:=(r.filter fun a=>a.1 == e).map fun a=>a.2.toNat
def tg (R:List (List Ar)) (F:List Nat) (e:Int):List Nat:=F.flatMap fun s=>Xe (R.getD s []) e
theorem Nq {r:List Ar} {e:Int} {u:Nat}:u∈Xe r e↔∃ a∈r,a.1=e/\a.2.toNat=u:=by
 unfold Xe
 rw [List.mem_map]
 constructor
 rotate_left
 ·rintro ⟨a,ha,he,rfl⟩
  exact ⟨a,List.mem_filter.2 ⟨ha,by simpa using he⟩,rfl⟩
 rintro ⟨a,ha,rfl⟩
 have:=List.mem_filter.1 ha
 exact ⟨a,this.1,by simpa using this.2,rfl⟩
theorem Ra {R:List (List Ar)} {F:List Nat} {e:Int} {u:Nat}:u∈tg R F e↔∃ s∈F,u∈Xe (R.getD s []) e:=by unfold tg;rw [List.mem_flatMap]
theorem Ix {l:List Int} {n:Nat} (h:WI l) (hb:∀ x∈l,0<=x/\x<(n:Int)):l.length<=n:=by
 have h1:(l.map Int.toNat).Nodup:=by
  unfold WI at h
  rw [List.Nodup,List.pairwise_map]
  refine h.imp_of_mem fun {a b} ha hb2 hab e=>?_
  have:=hb a ha
  have:=hb b hb2
  omega
 have:=KA n (l.map Int.toNat) h1 fun u hu=>by
  obtain ⟨x,hx,rfl⟩:=List.mem_map.1 hu
  have:=hb x hx
  omega
 simpa using this
end Go.Proofs.YtjijjfkalheokaaGreatDoor
