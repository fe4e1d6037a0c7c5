/- Lemmas. -/
import Derived.Test.YtjijjfkalheokaaDoorZk
import Derived.Test.YtjijjfkalheokaaDoorG11
import Derived.Test.YtjijjfkalheokaaDoorG45
import Derived.Test.YtjijjfkalheokaaDoorMD
import Derived.Test.YtjijjfkalheokaaDoorShlf
import Derived.Shelf.SlSortCmp.NoneTotal
import Derived.Test.YtjijjfkalheokaaDoorTj1
import Derived.Shelf.SlSortCmp.Kit1
import Derived.Test.YtjijjfkalheokaaDoorMF
import Derived.Test.YtjijjfkalheokaaDoorShlfS
import Derived.Shelf.Sort.Plain
import Derived.Shelf.Slices.In.SortNone
import Derived.Test.YtjijjfkalheokaaDoorG42
namespace Go.Proofs.YtjijjfkalheokaaDoor
set_option linter.unusedVariables false
set_option linter.unusedSimpArgs false
open Go.RowKit
set_option maxRecDepth 100000

theorem D0 {xs:List Ar} {i:Nat} (h:i<xs.length):(((Ao xs).drop (i*2)).take 2)=[.v (.int .i64 xs[i].1),.v (.int .i64 xs[i].2)]:=by
 have:=congrArg (List.map C.ofTr) (AH h)
 rw [List.map_take,List.map_drop,Lf] at this
 exact this
theorem LG {ys:List Ar} {m:Nat} (h:m<ys.length) {a b:Int}:((Ao ys).set (m*2) (.v (.int .i64 a))).set (m*2+1) (.v (.int .i64 b))=Ao (ys.set m (a,b)):=by
 induction ys generalizing m with
 | nil=>simp at h
 | cons y r ih=>
  have e:Ao (y :: r)=C.v (.int .i64 y.1) :: C.v (.int .i64 y.2) :: Ao r:=rfl
  cases m with
  | zero=>rw [e];rfl
  | succ m=>
   have e2:Ao ((y :: r).set (m+1) (a,b))=C.v (.int .i64 y.1) :: C.v (.int .i64 y.2) :: Ao (r.set m (a,b)):=rfl
   rw [e,e2,<- ih (by simpa using h),show (m+1)*2=m*2+1+1 by omega]
   rfl
theorem LH (x y:Operand) (a b:Ar):EL Tryd.prog .neq 29 x y [.int .i64 a.1,.int .i64 a.2] [.int .i64 b.1,.int .i64 b.2] (!decide (a=b))=True:=by
 rw [<- CN]
 refine eq_true ?_
 have:=(Rg x y [.v (.int .i64 a.1),.v (.int .i64 a.2)] [.v (.int .i64 b.1),.v (.int .i64 b.2)] _ _ rfl rfl rfl rfl).2
 simpa [Th] using this
theorem LI:∀ l:List Ar,Kj l=NB l:=by
 have h:∀ (l:List Ar) (p:Ar),Dt p l=CP p l:=by
  intro l
  induction l with
  | nil=>intro p;rfl
  | cons y ys ih=>intro p;simp only [Dt,CP,ih]
 intro l
 cases l with
 | nil=>rfl
 | cons x xs=>simp only [Kj,NB,h]
attribute [local go_sem] List.map_cons List.map_nil List.take_succ_cons List.take_zero List.drop_zero List.drop_succ_cons C.pl C.one List.all_cons List.all_nil Bool.and_true
set_option maxHeartbeats 1000000 in
theorem Hv (L:List Ar) (hn:L.length<=100000000):FC Tryd.prog 40 [.a (.c (.s 0 L.length))] [.r ⟨29,2,true,Ao L⟩]
  (fun r o=>r=.a (.c (.s 0 (Kj L).length))/\∃ rest us,Fz rest us/\(L=[]->rest=[])/\o=[.r ⟨29,2,true,Ao (Kj L)++rest⟩]):=by
 refine A8 Tryd.func40 rfl (by rw [Tryd.ntmps40];simp) ?_
 rw [Tryd.ntmps40]
 simp only [Bs]
 (refine Ud ?_;(repeat clear hK K);repeat refine kq fun K hK=>?_)
 (refine Aw ?_;intro X Y hX hY;simp only [go_sem])
 refine ⟨fun h=>hX ?_,fun h=>hY ?_⟩
 ·clear hX hY X Y
  (refine Ud ?_;(repeat clear hK K);repeat refine kq fun K hK=>?_)
  refine Uq Tryd.results40 ?_
  have hc:Kj L=L:=by
   match L,h with
   | [],_=>rfl
   | [x],_=>rfl
   | _ :: _ :: _,h=>simp at h;omega
  rw [hc]
  exact ⟨rfl,[],[],trivial,fun _=>rfl,by simp⟩
 clear hX hY X Y
 have h2:2<=L.length:=by simp at h;omega
 clear h
 (refine Ud ?_;(repeat clear hK K);repeat refine kq fun K hK=>?_)
 refine Ac (fun k:Nat=>{ tm:=[(0,.a (.c (.s 0 L.length))),(3,.i (k+1:Nat))],hp:=[.r ⟨29,2,true,Ao L⟩],n:=61,pin:=1 }) (fun k=>k+1<=L.length/\Kj L=L.take (k+1)++Dt (L.getD k (0,0)) (L.drop (k+1))) (fun k=>L.length - k) 0 ?_ ?_ ?_
 ·refine ⟨by omega,?_⟩
  match L,h2 with
  | x :: r,_=>simp [Kj]
 ·exact Un
 rintro k ⟨hk,he⟩ K hK
 (refine Ud ?_;(repeat clear hK K);repeat refine kq fun K hK=>?_)
 (refine Aw ?_;intro X Y hX hY;simp only [go_sem])
 refine ⟨fun h=>hX ?_,fun h=>hY ?_⟩
 rotate_left
 ·have hge:k+1=L.length:=by simp at h;omega
  clear hX hY X Y
  (refine Uh ?_;repeat clear hK K)
  (refine Ud ?_;(repeat clear hK K);repeat refine kq fun K hK=>?_)
  refine Uq Tryd.results40 ?_
  have hc:Kj L=L:=by rw [he,hge];simp [Dt]
  rw [hc]
  exact ⟨rfl,[],[],trivial,fun _=>rfl,by simp⟩
 have hlt:k+1<L.length:=by simp at h;omega
 have hlt0:k<L.length:=by omega
 clear hX hY X Y h
 have e1:((k+1:Nat):Int) - 1=(k:Int):=by omega
 have g0:L.getD k (0,0)=L[k]:=by simp [List.getD,hlt0]
 rw [g0] at he
 have hst:=FS he (Nat.le_refl _) (gE1 hlt)
 (refine Ud ?_;(repeat clear hK K);repeat refine kq fun K hK=>?_)
 (refine Ag 9 [(0,0),(1,0),(2,0),(3,1),(4,0),(5,0),(6,0),(7,0),(8,1),(9,2)] (by kernel_rfl) (by kernel_rfl) (by intro c st h;simp [Ai,AX,Tz] at h) ?_)
 (refine Ua (an @e1 (an (D0 hlt) (an (D0 hlt0) (an @Aq (an @Pv (an @CN @true_and)))))) ?_;repeat clear hK K)
 (refine Aw ?_;intro X Y hX hY;simp only [go_sem])
 refine ⟨fun h=>hX ?_,fun h=>hY ?_⟩
 rotate_left
 ·clear hX hY X Y
  have hne:L[k+1] ≠ L[k]:=by simpa using h
  clear h
  (refine Ud ?_;(repeat clear hK K);repeat refine kq fun K hK=>?_)
  refine Um ?_
  refine hK _ (k+1) ⟨hlt,?_⟩ (by omega) ?_
  rotate_left
  ·exact Un
  have h1:=hst.2.1 hne
  rw [hst.2.2 hne rfl] at h1
  have:L.getD (k+1) (0,0)=L[k+1]:=by simp [List.getD,hlt]
  rw [this]
  exact h1
 clear hX hY X Y
 have heq:L[k+1]=L[k]:=by simpa using h
 clear h
 have hI:=hst.1 heq
 clear hst he
 (refine Ud ?_;(repeat clear hK K);repeat refine kq fun K hK=>?_)
 refine Ac (fun q:Nat × Nat × List Ar=>{ tm:=[(0,.a (.c (.s 0 L.length))),(3,.i q.1),(4,.a (.c (.w 0 (k+1) (L.length - (k+1)) 2))),(5,.i (q.2.1+1:Nat))],hp:=[.r ⟨29,2,true,Ao q.2.2⟩],n:=61,pin:=1 })
  (fun q=>q.2.2.length=L.length/\(∀ x∈q.2.2,x∈L)/\q.1<=k+1+q.2.1/\k+2+q.2.1<=L.length/\Kj L=q.2.2.take q.1++Dt (q.2.2.getD (k+1+q.2.1) (0,0)) (q.2.2.drop (k+2+q.2.1))) (fun q=>L.length - q.2.1) (k+1,0,L) ?_ ?_ ?_
 ·refine ⟨rfl,fun x h=>h,by simp,by simp only;omega,?_⟩
  have:L.getD (k+1) (0,0)=L[k+1]:=by simp [List.getD,hlt]
  simp only [Nat.add_zero,this]
  exact hI
 ·exact Un
 clear hI
 rintro ⟨m,j,ys⟩ ⟨hyl,hys,hm,hj,he⟩ K hK
 simp only at hyl hys hm hj he
 (refine Ud ?_;(repeat clear hK K);repeat refine kq fun K hK=>?_)
 (refine Aw ?_;intro X Y hX hY;simp only [go_sem])
 refine ⟨fun h=>hX ?_,fun h=>hY ?_⟩
 rotate_left
 ·clear hX hY X Y
  (refine Uh ?_;repeat clear hK K)
  have hend:ys.length<=k+2+j:=by simp at h;omega
  have hfin:=LF he hend
  have hm2:m<L.length:=by omega
  (refine Ud ?_;(repeat clear hK K);repeat refine kq fun K hK=>?_)
  refine A9 rfl ?_;intro K1 hK1
  refine L1 (n:=L.length - m) (off:=m) (k:=2) (id:=0) rfl rfl Tryd.underlying30 ty29 (by simp only [go_sem]) rfl (by omega) rfl rfl (by simp only [Aq];omega) ?_
  intro zs hz1 hz2
  have hset:De (Ao ys) (m*2) zs=Ao (ys.take m)++zs:=by
   rw [Jh _ _ _ (by rw [Aq];omega),FP]
  simp only [hset,List.set_cons_zero,go_sem]
  refine hK1 _ ?_;clear hK1 K1
  (refine Ud ?_;(repeat clear hK K);repeat refine kq fun K hK=>?_)
  refine Uq Tryd.results40 ?_
  have hc:Kj L=ys.take m:=hfin
  rw [hc]
  refine ⟨by rw [List.length_take,Nat.min_eq_left (by omega)],zs,zs.map fun _=>Tr.v (.int .i64 0),?_,fun h0=>by rw [h0] at h2;simp at h2,rfl⟩
  have:zs=zs.map id:=by simp
  rw [this,List.map_map]
  exact Fz.map fun c hc=>by
   have:=hz2 c hc
   simp at this
   subst this
   exact .inl rfl
 have hlt:k+1+(j+1)<ys.length:=by simp at h;omega
 have hlt0:k+1+j<ys.length:=by omega
 have hw:((j+1:Nat):Int)<((L.length - (k+1):Nat):Int):=by omega
 have hw0:(j:Int)<((L.length - (k+1):Nat):Int):=by omega
 clear hX hY X Y h
 have e1:((j+1:Nat):Int) - 1=(j:Int):=by omega
 have g0:ys.getD (k+1+j) (0,0)=ys[k+1+j]:=by simp [List.getD,hlt0]
 rw [g0,show k+2+j=k+1+(j+1) from by omega] at he
 have hst:=FS he (by omega) (gE1 hlt)
 (refine Ud ?_;(repeat clear hK K);repeat refine kq fun K hK=>?_)
 have hk1:k+1+(j+1)=k+1+(j+1):=rfl
 (refine Ag 9 [(0,0),(1,0),(2,0),(3,1),(4,0),(5,0),(6,0),(7,0),(8,1),(9,2)] (by kernel_rfl) (by kernel_rfl) (by intro c st h;simp [Ai,AX,Tz] at h) ?_)
 (refine Ua (an @e1 (an (D0 hlt) (an (D0 hlt0) (an @Aq (an @LH (an @CN @true_and)))))) ?_;repeat clear hK K)
 (refine Aw ?_;intro X Y hX hY;simp only [go_sem])
 refine ⟨fun h=>hX ?_,fun h=>hY ?_⟩
 rotate_left
 ·clear hX hY X Y
  have heq:ys[k+1+(j+1)]=ys[k+1+j]:=by simpa using h
  clear h
  (refine Ud ?_;(repeat clear hK K);repeat refine kq fun K hK=>?_)
  refine Um ?_
  refine hK _ (m,j+1,ys) ⟨hyl,hys,by simp only;omega,by simp only;omega,?_⟩ (by simp only;omega) ?_
  rotate_left
  ·exact Un
  have h1:=hst.1 heq
  have:ys.getD (k+1+(j+1)) (0,0)=ys[k+1+(j+1)]:=by simp [List.getD,hlt]
  simp only
  rw [this,show k+2+(j+1)=k+1+(j+1)+1 from by omega]
  exact h1
 clear hX hY X Y
 have hne:ys[k+1+(j+1)] ≠ ys[k+1+j]:=by simpa using h
 clear h
 have hm1:m<ys.length:=by omega
 (repeat (first | (refine Au ?_;intro K hK) | refine Ah ?_ | refine Aa ?_ | (refine B4 rfl rfl ?_;intro K1 hK1;simp only [go_sem,D0 hlt,Aq,De,LG hm1];(first | refine hK1 _ ?_ | refine AE (hK1 _ ?_));clear hK1 K1) | ((first | refine Ab ?_ | refine Aj ?_);refine hK _ ?_;clear hK K)))
 refine Um ?_
 have hst2:=hst.2.1 hne
 have hpp:(ys.set m ys[k+1+(j+1)]).getD (k+1+(j+1)) (0,0)=ys[k+1+(j+1)]:=by
  rw [List.getD,gE5 (by omega),gE1 hlt];rfl
 refine hK _ (m+1,j+1,ys.set m ys[k+1+(j+1)]) ⟨by simp [hyl],?_,by simp only;omega,by simp only;omega,?_⟩ (by simp only;omega) ?_
 rotate_left
 ·simp only
  rw [hpp,show k+2+(j+1)=k+1+(j+1)+1 from by omega]
  exact hst2
 ·exact Un
 intro x hx
 rcases List.mem_or_eq_of_mem_set hx with hx | rfl
 ·exact hys x hx
 exact hys _ (gE6 hlt)

open Go.RowKit Go.Shelf Go.Sort
def UJ (a:Ar):List Value:=[.int .i64 a.1,.int .i64 a.2]
theorem Fc (xs:List Ar):Ao xs=(xs.flatMap UJ).map C.v:=by simp [Ao,UJ,List.map_flatMap]
theorem T7:Sort.SWO (ltOf F5) where
 irrefl x:=by rw [show ltOf F5 x x=Ut x x from BM x x];exact E3 x
 trans x y z h1 h2:=by
  rw [show ltOf F5 x y=Ut x y from BM x y] at h1
  rw [show ltOf F5 y z=Ut y z from BM y z] at h2
  rw [show ltOf F5 x z=Ut x z from BM x z]
  exact Cq h1 h2
 ntrans x y z h1 h2:=by
  rw [show ltOf F5 x y=Ut x y from BM x y] at h1
  rw [show ltOf F5 y z=Ut y z from BM y z] at h2
  rw [show ltOf F5 x z=Ut x z from BM x z]
  cases h3:Ut x z with
  | false=>rfl
  | true=>
   have h1:¬ Ut x y=true:=by rw [h1];simp
   have h2:¬ Ut y z=true:=by rw [h2];simp
   rw [BA] at h1 h2 h3
   omega
theorem LJ (xs:List Ar):flatK UJ 2 xs.toArray=(xs.flatMap UJ).toArray:=by
 apply Array.ext
 ·simp [Dz UJ 2 (fun _=>rfl)]
 intro t h1 h2
 simp only [size_flatK,List.size_toArray] at h1
 have hd:t / 2<xs.length:=Nat.div_lt_of_lt_mul (by rw [Nat.mul_comm];exact h1)
 have hm:t % 2<2:=Nat.mod_lt _ (by omega)
 have hg:=FZ UJ 2 (fun _=>rfl) xs (t / 2) (t % 2) xs[t / 2] (gE1 hd) hm
 have htd:t / 2*2+t % 2=t:=by rw [Nat.mul_comm];exact Nat.div_add_mod t 2
 rw [htd] at hg
 have h3:=get_flatK UJ 2 xs.toArray t (by simpa using h1)
 rw [getElem!_pos _ t (by simpa using h1)] at h3
 rw [h3]
 have h4:(xs.toArray)[t / 2]! = xs[t / 2]:=by simp [hd]
 rw [h4,getElem!_pos _ _ (by simp [UJ];omega)]
 have hlt:t<(xs.flatMap UJ).length:=by rw [Dz UJ 2 (fun _=>rfl)];exact h1
 rw [gE1 hlt,gE1 (by simp [UJ];omega)] at hg
 exact (Option.some.inj hg).symm
def Eu (xs:List Ar):List Ar:=xs.mergeSort fun x y=>!(ltOf F5) y x
theorem Kk (l:List Ar):(Eu l).Perm l:=List.mergeSort_perm _ _
theorem NH (l:List Ar):(Eu l).Pairwise fun a b=>Ut b a=false:=by
 have e (x y:Ar):ltOf F5 x y=Ut x y:=BM x y
 have h:=List.pairwise_mergeSort (le:=fun x y=>!(ltOf F5) y x) (fun a b c h1 h2=>by
  simp only [e,Bool.not_eq_true'] at *
  cases h3:Ut c a with
  | false=>rfl
  | true=>
   have h1:¬ Ut b a=true:=by rw [h1];simp
   have h2:¬ Ut c b=true:=by rw [h2];simp
   rw [BA] at h1 h2 h3
   omega) (fun a b=>by
  simp only [e]
  cases h1:Ut b a <;> cases h2:Ut a b <;> simp
  rw [BA] at h1 h2;omega) l
 refine h.imp ?_
 intro a b hab
 simpa [e] using hab
theorem Hw {w w':World} (h:Fp (fun _=>False) w w'):∃ q os,w'=grow (w.drewN q) os:=by
 refine ⟨w'.drawn - w.drawn,w'.heap.extract w.heap.size w'.heap.size,?_⟩
 obtain ⟨hp,tp,dr,o,ou⟩:=w'
 obtain ⟨h1,h2,h3,h4,h5,h6⟩:=h
 simp only at h1 h2 h3 h4 h5 h6
 subst h1;subst h2;subst h3
 simp only [grow,World.drewN]
 congr 1
 rotate_left
 ·omega
 apply Array.ext'
 simp only [Array.toList_append,Array.toList_extract]
 apply List.ext_getElem?
 intro i
 by_cases hi:i<w.heap.size
 ·rw [gEa (by simpa using hi)]
  have:=h5 i hi (fun h=>h)
  simpa using this
 rw [gEb (by simpa using hi)]
 simp only [List.extract_eq_take_drop,Array.length_toList,List.getElem?_take,List.getElem?_drop]
 split
 ·congr 1;omega
 rename_i hn;simp;omega
theorem S7 (gg:Gh) (ℓ:Loc):¬ Lv [] gg ℓ:=by
 intro hl
 cases ℓ with
 | ob id=>rcases hl with ⟨r,h,_⟩ | ⟨kv,h⟩ <;> simp at h
 | cl id j=>obtain ⟨r,k,cs,h,_⟩:=hl;simp at h
theorem UK {g:Gh} {e:TypeId} {L:List Ar} {ℓ:Loc}:Lv [.r ⟨e,2,true,Ao L⟩] g ℓ↔ℓ=.ob 0/\g.κ 0 ≠ 0:=by
 cases ℓ with
 | ob id=>
  constructor
  rotate_left
  ·rintro ⟨h1,h2⟩
   cases h1
   exact .inl ⟨_,rfl,h2⟩
  rintro (⟨r,h1,h2⟩ | ⟨kv,h1⟩)
  rotate_left
  ·cases id with
   | zero=>simp at h1
   | succ i=>simp at h1
  cases id with
  | zero=>exact ⟨rfl,h2⟩
  | succ i=>simp at h1
 | cl id j=>
  constructor
  rotate_left
  ·rintro ⟨h1,h2⟩;cases h1
  rintro ⟨r,k,cs,h1,h2,h3⟩
  cases id with
  | zero=>
   simp at h1;subst h1
   rw [Fc,List.getElem?_map,Option.map_eq_some_iff] at h2
   obtain ⟨x,_,h2⟩:=h2
   cases h2
  | succ i=>simp at h1
set_option maxHeartbeats 1000000 in
theorem Ji (f : FuncId) (hf : B0 Tryd.prog f = true) (hcmp : ∀ a b : Ar, FC Tryd.prog f [.a (.g [.v (.int .i64 a.1), .v (.int .i64 a.2)]), .a (.g [.v (.int .i64 b.1), .v (.int .i64 b.2)])] [] (fun r o => o = [] /\ r = .i (F5 a b))) (L : List Ar) (hsz : L.length <= 100000000) :
  FC Tryd.prog 39 [.a (.c (.s 0 L.length)), .a (.c (.f f []))] [.r ⟨29, 2, true, Ao L⟩]
   (fun r o => r = .u /\ ∃ L' : List Ar, L'.Perm L /\ L'.Pairwise (fun a b => Ut b a = false) /\ o = [.r ⟨29, 2, true, Ao L'⟩]) := by
 intro g w vals hr hargs
 obtain ⟨hlen, hargs⟩ := hargs
 obtain ⟨v1, e1, b1, b2, A, rfl, b4, b5⟩ := hargs 0 _ rfl
 obtain ⟨v2, e2, c1, c2⟩ := hargs 1 _ rfl
 have hv2 : v2 = .func (.func f) #[] #[] := by rw [c2]; simp [Td]
 subst hv2
 have hvals : vals = [.slice A L.length (g.κ 0), .func (.func f) #[] #[]] := by
  match vals, hlen with
  | [a, b], _ => simp at e1 e2; simp [e1, e2]
 subst hvals
 rcases hr.row 0 _ rfl with ⟨h0, hnil⟩ | ⟨h0, hne, arr, ha, hle, hs, hmx, hcells⟩
 ·have hL0 : L = [] := by
   have : (Ao L).length = 0 := by have h : Ao L = [] := hnil; rw [h]; rfl
   rw [Aq] at this
   exact List.length_eq_zero_iff.1 (by omega)
  subst hL0
  refine (AnyF.slices_SortFunc_none Tryd.sortArcs A (g.κ 0) (.func (.func f) #[] #[]) w).mono ?_
  rintro e' w' ⟨rfl, rfl⟩
  exact ⟨.tuple #[], .u, _, g, rfl, ⟨rfl, [], List.Perm.refl _, List.Pairwise.nil, rfl⟩, hr, ⟨Nat.le_refl _, Ext.refl _ _⟩, fun ℓ hl => .inl ⟨ℓ, hl, rfl⟩, trivial, Fp.refl _ _⟩
 have hL0 : L ≠ [] := fun e => by subst e; exact hne rfl rfl
 have x0 : 0 < L.length := List.length_pos_iff.2 hL0
 rw [b4 h0] at *
 have hblk : g.γ (.ob 0) < w.heap.size := (Array.getElem?_eq_some_iff.1 ha).1
 have hle' : L.length * 2 <= arr.size := by simpa [Aq] using hle
 have hfl := Dz UJ 2 (fun _ => rfl) L
 have hget : ∀ j, j < L.length * 2 -> arr[j]? = (L.flatMap UJ)[j]? := by
  intro j hj
  obtain ⟨v, hv⟩ : ∃ v, (L.flatMap UJ)[j]? = some v := ⟨_, gE1 (by rw [hfl]; exact hj)⟩
  obtain ⟨u, u1, u2⟩ := hcells j (.v v) (by rw [Fc, List.getElem?_map, hv]; rfl)
  have hu : u = v := u2
  rw [u1, hv, hu]
 have hlays : CmpLays Tryd.prog f #[] UJ 2 F5 (g.γ (.ob 0)) 0 L.toArray.size w := by
  intro m os dk _ x y
  have hoth : ∀ k, k < w.heap.size -> ¬ Ow [.r ⟨29, 2, true, Ao L⟩] g k -> (sortWorldK UJ 2 w (g.γ (.ob 0)) 0 m dk os).heap[k]? = w.heap[k]? := by
   intro k hk hn
   have hn2 : k ≠ g.γ (.ob 0) := fun e => hn (.inr ⟨.ob 0, UK.2 ⟨rfl, h0⟩, e.symm⟩)
   unfold sortWorldK putRowK putRow mapBlock Sort.grow Sort.ahead
   simp only
   rw [Array.getElem?_append_left (by simpa using hk), Array.getElem?_modify, if_neg (Ne.symm hn2)]
  generalize hW : sortWorldK UJ 2 w (g.γ (.ob 0)) 0 m dk os = W at hoth
  have hsz' : w.heap.size <= W.heap.size := by rw [<- hW]; simp [sortWorldK, putRowK, putRow, mapBlock, Sort.grow, Sort.ahead]
  have hHR : HR ⟨g.γ, g.κ, fun _ => False⟩ [] W := ⟨fun b hb => hb.elim, fun ℓ hl => absurd hl (S7 _ ℓ), fun ℓ _ hl => absurd hl (S7 _ ℓ), fun id r h => by simp at h, fun id r h => by simp at h, hr.gl.keep hsz' hoth (fun k _ hk => hk.elim (fun h => h.elim) (fun ⟨ℓ, hl, _⟩ => absurd hl (S7 _ ℓ)))⟩
  have hA : Fq ⟨g.γ, g.κ, fun _ => False⟩ [] W [.a (.g [.v (.int .i64 x.1), .v (.int .i64 x.2)]), .a (.g [.v (.int .i64 y.1), .v (.int .i64 y.2)])] [.agg #[.int .i64 x.1, .int .i64 x.2], .agg #[.int .i64 y.1, .int .i64 y.2]] := by
   refine ⟨rfl, fun i a hi => ?_⟩
   have ag : ∀ z : Ar, A0R (CR ⟨g.γ, g.κ, fun _ => False⟩ [] W) (.g [.v (.int .i64 z.1), .v (.int .i64 z.2)]) (.agg #[.int .i64 z.1, .int .i64 z.2]) := fun z => ⟨[.int .i64 z.1, .int .i64 z.2], rfl, rfl, fun q c hq => by
    match q, hq with
    | 0, hq => simp at hq; subst hq; exact ⟨_, rfl, rfl⟩
    | 1, hq => simp at hq; subst hq; exact ⟨_, rfl, rfl⟩
    | q + 2, hq => simp at hq⟩
   match i, hi with
   | 0, hi => cases hi; exact ⟨_, rfl, ag x⟩
   | 1, hi => cases hi; exact ⟨_, rfl, ag y⟩
   | i + 2, hi => simp at hi
  refine Calls.mono (hcmp x y _ _ _ hHR hA) ?_
  rintro e' w' ⟨v, r, outs, g', rfl, ⟨rfl, rfl⟩, _, _, _, hv, hfp⟩
  exact ⟨by rw [show v = _ from hv], Hw (hfp.mono fun k _ ⟨ℓ, hl, _⟩ => absurd hl (S7 _ ℓ))⟩
 have hH : HoldsK UJ 2 w (g.γ (.ob 0)) 0 L.toArray := by
  unfold HoldsK Holds
  rw [LJ]
  intro j hj
  simp only [List.size_toArray, hfl] at hj
  constructor
  rotate_left
  ·simp [World.frozen?, ha]
  rw [Nat.zero_add, cell_of_row w _ j arr _ (0, 0) ha, hget j hj, getElem!_pos _ j (by simpa [hfl] using hj)]
  simp [hfl, hj]
 have eg : ∀ args w, (callFunc f args).run Tryd.prog w = .ok (.enter f args) w := fun args w => Bl hf args w
 have hcon := AnyQ.slices_SortFunc_total Tryd.sortArcs 2 Tryd.isAgg29 Tryd.sizeOf29 UJ (fun _ => rfl) (fun x v hv => by simp [UJ] at hv; rcases hv with rfl | rfl <;> rfl) F5 T7 f #[] (g.γ (.ob 0)) 0 (g.κ 0) L.toArray w eg hlays hH hblk (by simp; omega)
  (fun x y h1 h2 => by
   rw [show ltOf F5 x y = Ut x y from BM x y] at h1
   rw [show ltOf F5 y x = Ut y x from BM y x] at h2
   rcases Gi x y with h | h | h
   ·rw [h] at h1; cases h1
   ·exact h
   ·rw [h] at h2; cases h2)
 change Calls Tryd.prog 39 _ _ _ at hcon
 have hsz2 : L.toArray.size = L.length := by simp
 rw [hsz2] at hcon
 refine hcon.mono ?_
 rintro e' w' ⟨rfl, m, os, rfl⟩
 have hSl : (Eu L).length = L.length := List.length_mergeSort _
 have hfl' := Dz UJ 2 (fun _ => rfl) (Eu L)
 have hself : (sortWorldK UJ 2 w (g.γ (.ob 0)) 0 m (Eu L).toArray os).heap[g.γ (.ob 0)]? = some (.cells (putCells id 0 ((Eu L).flatMap UJ).toArray arr) 29 (0, 0)) := by
  unfold sortWorldK putRowK putRow mapBlock Sort.grow Sort.ahead
  rw [LJ]
  simp only
  rw [Array.getElem?_append_left (by simpa using hblk), Array.getElem?_modify, if_pos rfl, ha]
  rfl
 have hsize : w.heap.size <= (sortWorldK UJ 2 w (g.γ (.ob 0)) 0 m (Eu L).toArray os).heap.size := by simp [sortWorldK, putRowK, putRow, mapBlock, Sort.grow, Sort.ahead]
 have hother : ∀ k, k < w.heap.size -> k ≠ g.γ (.ob 0) -> (sortWorldK UJ 2 w (g.γ (.ob 0)) 0 m (Eu L).toArray os).heap[k]? = w.heap[k]? := by
  intro k hk hn
  unfold sortWorldK putRowK putRow mapBlock Sort.grow Sort.ahead
  simp only
  rw [Array.getElem?_append_left (by simpa using hk), Array.getElem?_modify, if_neg (Ne.symm hn)]
 have hfp : Fp (ER [.r ⟨29, 2, true, Ao L⟩] g) w (sortWorldK UJ 2 w (g.γ (.ob 0)) 0 m (Eu L).toArray os) :=
  ⟨rfl, rfl, rfl, hsize, fun k hk hm => hother k hk fun e => hm ⟨.ob 0, UK.2 ⟨rfl, h0⟩, e.symm⟩, by simp [sortWorldK, putRowK, putRow, mapBlock, Sort.grow, Sort.ahead]⟩
 refine ⟨.tuple #[], .u, _, g, rfl, ⟨rfl, Eu L, Kk L, NH L, rfl⟩, ?_, ⟨by simp, Ext.refl _ _⟩, fun ℓ hl => .inl ⟨ℓ, UK.2 (UK.1 hl), rfl⟩, trivial, hfp⟩
 refine ⟨fun b hb => Nat.lt_of_lt_of_le (hr.ml b hb) hsize, fun ℓ hl => hr.md ℓ (UK.2 (UK.1 hl)), fun ℓ ℓ' hl hl' => hr.inj ℓ ℓ' (UK.2 (UK.1 hl)) (UK.2 (UK.1 hl')), fun id r hid => ?_, fun id r hid => ?_, hr.gl.keep hsize (fun k hk hn => hother k hk (fun e => hn (.inr ⟨.ob 0, UK.2 ⟨rfl, h0⟩, e.symm⟩))) (fun k _ hk => hk.imp (fun h => h) (fun ⟨ℓ, hl, e⟩ => ⟨ℓ, UK.2 (UK.1 hl), e⟩))⟩
 rotate_left
 ·cases id with
  | zero => simp at hid
  | succ i => simp at hid
 cases id with
 | succ i => simp at hid
 | zero =>
  simp at hid
  subst hid
  refine .inr ⟨h0, fun _ hn => ?_, _, hself, ?_, ?_, hmx, fun j c hj => ?_⟩
  ·have : (Ao (Eu L)).length = 0 := by simp only at hn; rw [hn]; rfl
   rw [Aq, hSl] at this; omega
  ·simp only [Aq, hSl, putCells, Array.size_mapIdx]; exact hle'
  ·simpa [putCells] using hs
  rw [Fc, List.getElem?_map, Option.map_eq_some_iff] at hj
  obtain ⟨v, hv, rfl⟩ := hj
  have hjl : j < L.length * 2 := by have := (List.getElem?_eq_some_iff.1 hv).1; rw [hfl', hSl] at this; exact this
  refine ⟨v, ?_, rfl⟩
  have hj2 : j < ((Eu L).flatMap UJ).length := by rw [hfl', hSl]; exact hjl
  have hjc : j < arr.size := by omega
  simp only [putCells, Array.getElem?_mapIdx, Nat.zero_le, true_and, Nat.zero_add, List.size_toArray, hj2, if_true, Nat.sub_zero]
  rw [gEd hjc]
  rw [gE1 hj2] at hv
  have hv2 := Option.some.inj hv
  rw [<- hv2]
  simp
  rw [gE1 hj2]; rfl
theorem PG {s:ST} (i m:Nat) {r:Row} (hi:s.hp[i]?=some (.r r)) (hm:r.sl=true->r.cells.take m=[]->r.cells=[]):Le s { s with hp:=s.hp.set i (.r { r with cells:=r.cells.take m }) }:=by
 rintro M0 w0 a w ⟨g,hpp,hR⟩
 have hlt:i<s.hp.length:=(List.getElem?_eq_some_iff.1 hi).1
 have self:(s.hp.set i (.r { r with cells:=r.cells.take m }))[i]?=some (.r { r with cells:=r.cells.take m }):=by simp [hlt]
 have other:∀ q,q ≠ i->(s.hp.set i (.r { r with cells:=r.cells.take m }))[q]?=s.hp[q]?:=fun q hq=>by rw [gE5 (Ne.symm hq)]
 have tk:∀ (j:Nat) (c:C),(r.cells.take m)[j]?=some c->r.cells[j]?=some c:=fun j c h=>by
  rw [List.getElem?_take] at h
  split at h
  ·exact h
  cases h
 generalize hh:s.hp.set i (.r { r with cells:=r.cells.take m })=hp' at *
 have sub:∀ ℓ,Lv hp' g ℓ->Lv s.hp g ℓ:=by
  intro ℓ hl
  cases ℓ with
  | ob q=>
   by_cases hq:q=i
   ·subst hq
    rcases hl with ⟨r2,e1,e2⟩ | ⟨kv,e1⟩
    ·exact .inl ⟨r,hi,e2⟩
    rw [self] at e1;cases e1
   rcases hl with ⟨r2,e1,e2⟩ | ⟨kv,e1⟩
   ·exact .inl ⟨r2,by rw [<- other q hq];exact e1,e2⟩
   exact .inr ⟨kv,by rw [<- other q hq];exact e1⟩
  | cl q j=>
   by_cases hq:q=i
   rotate_left
   ·obtain ⟨r2,k,cs,e1,e2,e3⟩:=hl
    exact ⟨r2,k,cs,by rw [<- other q hq];exact e1,e2,e3⟩
   subst hq
   obtain ⟨r2,k,cs,e1,e2,e3⟩:=hl
   rw [self] at e1;cases e1
   exact ⟨r,k,cs,hi,tk j _ e2,e3⟩
 have ow:∀ b,Ow hp' g b->Ow s.hp g b:=fun b ho=>ho.imp (fun h=>h) (fun ⟨ℓ,hl,e⟩=>⟨ℓ,sub ℓ hl,e⟩)
 have hmo:Mo g s.hp w g hp' w (fun _=>True):=by
  refine ⟨fun q hq=>⟨?_,rfl,rfl⟩,fun b _ ho=>ow b ho,Nat.le_refl _,fun _ _ _=>rfl,fun q _ hq r2 j k cs e1 e2=>?_⟩
  ·by_cases e:q=i
   ·subst e;exact ⟨_,self,rfl⟩
   obtain ⟨o,h1,h2⟩:=hq
   exact ⟨o,by rw [other q e];exact h1,h2⟩
  by_cases e:q=i
  rotate_left
  ·exact ⟨r2,by rw [<- other q e];exact e1,e2,fun _=>rfl⟩
  subst e
  rw [self] at e1
  cases e1
  exact ⟨r,hi,tk j _ e2,fun _=>rfl⟩
 have hr:=hR.hr
 refine ⟨g,⟨by show s.pin<=hp'.length;rw [<- hh];simpa using hpp.1,hpp.2⟩,hR.mo hmo ?_ (fun ℓ hl=>hR.new ℓ (sub ℓ hl)) hR.fp⟩
 refine ⟨hr.ml,fun ℓ hl=>hr.md ℓ (sub ℓ hl),fun ℓ ℓ' h1 h2=>hr.inj ℓ ℓ' (sub ℓ h1) (sub ℓ' h2),fun q r2 e1=>?_,fun q kv e1=>?_,hmo.gl hr.gl⟩
 rotate_left
 ·by_cases e:q=i
  ·subst e;rw [self] at e1;cases e1
  rw [other q e] at e1
  exact MpR.mo hmo e1 (hr.mp q kv e1) rfl
 by_cases e:q=i
 rotate_left
 ·rw [other q e] at e1
  exact RowR.mo hmo e1 (hr.row q r2 e1) (fun _=>rfl) (fun _ _ _ _ _=>⟨rfl,rfl⟩)
 subst e
 rw [self] at e1
 cases e1
 rcases hr.row q r hi with ⟨k1,k2⟩ | ⟨k1,k2,arr,k3,k4,k5,k6,k7⟩
 ·exact .inl ⟨k1,by simp [k2]⟩
 refine .inr ⟨k1,fun h1 h2=>k2 h1 (hm h1 h2),arr,k3,Nat.le_trans (by simp only [List.length_take];omega) k4,k5,k6,fun j c hj=>?_⟩
 obtain ⟨u,u1,u2⟩:=k7 j c (tk j c hj)
 exact ⟨u,u1,CellR.mo hmo u2 (fun k cs hc _=>⟨rfl,rfl⟩)⟩
attribute [local go_sem] lga C.pl C.one
theorem C9 (f:Nat->Nat) (L:List Ar):(Ao L).map (C.up f)=Ao L:=by
 unfold Ao
 rw [List.map_flatMap]
 rfl
theorem C4 (f:List Nat) (L:List Ar):(Ao L).map (C.ren f)=Ao L:=by
 unfold Ao
 rw [List.map_flatMap]
 rfl
theorem Jj (r:List Ar):(Al r).map C.ofTr=Ao r:=by
 unfold Al Ao
 rw [List.map_flatMap]
 rfl
theorem Jk (q:List Ar) (ys:List C) (f:C->C) (hf:(Ao q).map f=Ao q):((Ao q++ys).map f).take (q.length*2)=Ao q:=by
 rw [List.map_append,hf,List.take_append_of_le_length (by rw [Aq];exact Nat.le_refl _),gE7 (by rw [Aq];exact Nat.le_refl _)]

theorem E9 {xs:List Ar} {i:Nat} {e t:Int} (h:xs[i]?=some (e,t)) (x:Int):(Ao xs).set (i*2+1) (.v (.int .i64 x))=Ao (xs.set i (e,x)):=by
 induction xs generalizing i with
 | nil=>simp at h
 | cons a r ih=>
  cases i with
  | zero=>simp at h;subst h;rfl
  | succ i=>
   rw [List.getElem?_cons_succ] at h
   rw [show (i+1)*2+1=i*2+1+2 from by omega,List.set_cons_succ]
   show C.v _ :: C.v _ :: (Ao r).set (i*2+1) _=_
   rw [ih h];rfl
theorem Kl (out:List (List Ar)) (x:List Ar) {i:Nat} (h:out.length=i):(Bd out).take i++[C.t 2 (Al x)]=Bd (out++[x]):=by
 subst h
 rw [gE7 (by rw [F2];exact Nat.le_refl _)]
 simp [Bd]
theorem Jl (l:List Int) (x:Int):(A5 l).take l.length++[C.v (.int .i64 x)]=A5 (l++[x]):=by
 rw [gE7 (by rw [A2];exact Nat.le_refl _),Az]
theorem NL.start (q:List Ar) (num old:List Int):NL (Ds q num old) q q 0 num old:=⟨by simp,by simp,by simp,rfl⟩
theorem NL.fin {R:List Int × List Int × List Ar} {ya q:List Ar} {k:Nat} {num old:List Int} (h:NL R ya q k num old) (hk:q.length<=k) (hl:ya.length=q.length):ya=R.2.2/\num=R.1/\old=R.2.1:=by
 obtain ⟨h1,h2,h3,h4⟩:=h
 rw [List.drop_of_length_le hk] at h1 h2 h3
 rw [gE7 (by omega)] at h1
 simp only [Ds,List.append_nil] at h1 h2 h3
 exact ⟨h1,h2,h3⟩
set_option maxHeartbeats 8000000 in
theorem Hx (R:List (List Ar)) (hv:Br R=true) (hn:R.length<=1000000) (hr:∀ r∈R,r.length<=1000000):FC Tryd.prog 18 [BS R] [] (fun r o=>o=[.r ⟨24,1,false,[.t 1 (Ae (CG R).1)]⟩]/\r=.tup [.g [.t 1 (Ae (CG R).1)],.c (.t 1 (Af (CG R).2)),.c (.v (.int .i64 0))]):=by
 refine A8 Tryd.func18 rfl (by rw [Tryd.ntmps18];simp) ?_
 rw [Tryd.ntmps18]
 simp only [Bs,BS]
 have h1:1<=R.length:=(gE4 hv).1
 have hbd:=(gE4 hv).2.2.2
 (refine Ud ?_;(repeat clear hK K);repeat refine kq fun K hK=>?_)
 (refine Ui (J9 R (by omega) (fun r h=>by have:=hr r h;omega)) ?_;intro K1 hK1)
 rintro _ _ ⟨rfl,rfl⟩
 (refine Uj ?_;clear hK1 K1)
 (refine Ue (an @hv @Bool.not_true) ?_;(repeat clear hK K);repeat refine kq fun K hK=>?_)
 refine Ul ?_
 (refine Ue @A6 ?_;(repeat clear hK K);repeat refine kq fun K hK=>?_)
 (refine A9 rfl ?_;intro K1 hK1;refine As (ids:=[]) [2] (F8 (-1) R.length h1 hn) rfl rfl (by simp only [go_sem]) (by first | assumption | kernel_rfl) rfl rfl (by (simp only [List.map_append,List.append_nil,go_sem]) <;> rfl) (by (simp only [Tx,Am,A5,go_sem]) <;> rfl) ?_ ?_)
 ·rintro _ _ ⟨rfl,rfl⟩;rfl
 rintro _ _ ⟨rfl,rfl⟩
 (simp only [AK,CB,Am,Bw,List.append_nil,List.nil_append,List.length_map,go_sem];refine hK1 _ ?_;clear hK1 K1)
 have g0:0<(List.replicate R.length (-1:Int)).length:=by simp;omega
 (refine CY (an @A2 (an @List.length_replicate.{0} @AL)) ?_;(repeat clear hK K);repeat refine kq fun K hK=>?_)
 refine B1 (CK 7 30 1 ?_) ?_
 ·simp only [go_sem]
 refine B1 (Ad [0,1,3,4,5] rfl rfl) ?_
 (try simp only [List.set_nil,List.take_nil,List.take_zero,List.map_append,go_sem])
 (try simp only [A7])
 refine Ac (fun x:Nat × List Int × List Int × List (List Ar)=>{ tm:=[(1,.a (.c (.p 0 0))),(2,.a (.c (.p 1 0))),(5,.a (.c (.s 2 R.length))),(6,.a (.c (.s 3 x.2.2.1.length))),(7,.a (.c (.s 4 x.1))),(8,.i x.1)],hp:=[.r ⟨24,1,false,[.t 1 (Ae R)]⟩,.r ⟨24,1,false,[.v (.slice none 0 0)]⟩,.r ⟨3,1,true,A5 x.2.1⟩,.r ⟨3,1,true,A5 x.2.2.1⟩,.r ⟨30,1,true,Bd x.2.2.2⟩],n:=86,pin:=0 }) (fun x=>NumOk R.length x.2.1 x.2.2.1/\NumInj x.2.1 x.2.2.1/\Hs R (R.length - x.1) x.1 x.2.1 x.2.2.1 x.2.2.2=CG R/\x.1<=x.2.2.1.length/\x.2.2.2.length=x.1) (fun x=>R.length - x.1) (0,(List.replicate R.length (-1)).set 0 0,[0],[]) ?_ ?_ ?_
 ·exact ⟨NumOk.start h1,NumInj.start h1,rfl,by simp,rfl⟩
 ·exact Un
 rintro ⟨i,num,old,out⟩ ⟨hN,hI,hC,hio,hoi⟩ K hK
 simp only at hN hI hC hio hoi
 have hlen:=hN.len
 have hle:=hN.le
 by_cases hlt:i<old.length
 rotate_left
 ·have d1:decide ((i:Int)<(old.length:Int))=false:=by simpa using hlt
  have hfin:CG R=(out,old):=by rw [<- hC];exact Ka (by omega)
  (refine Ue @d1 ?_;(repeat clear hK K);repeat refine kq fun K hK=>?_)
  refine Ul ?_
  (refine Uh ?_;repeat clear hK K)
  have htk:(Ae out).take i=Ae out:=gE7 (by rw [A6];omega)
  have htk2:(Af old).take old.length=Af old:=gE7 (by rw [A3];exact Nat.le_refl _)
  (refine B1 (Bh (r:=⟨30,1,true,Bd out⟩) 4 (Ae out) rfl (F4 _) (show 0<(1:Nat) by omega)) ?_;simp only [ST.frz,A0.frz,AV.frz,C.frz,Nat.le_refl,List.set_cons_zero,List.set_cons_succ,go_sem,htk,A6,hoi])
  (refine B1 (Bh (r:=⟨3,1,true,A5 old⟩) 3 (Af old) rfl (I9 _) (show 0<(1:Nat) by omega)) ?_;simp only [ST.frz,A0.frz,AV.frz,C.frz,Nat.le_refl,List.set_cons_zero,List.set_cons_succ,go_sem,htk2,A3])
  (refine Ud ?_;(repeat clear hK K);repeat refine kq fun K hK=>?_)
  refine Uo [1] Tryd.results18 ?_
  rw [hfin]
  exact ⟨rfl,rfl⟩
 have d1:decide ((i:Int)<(old.length:Int))=true:=by simpa using hlt
 have hs0:=hN.st _ (gE6 hlt)
 obtain ⟨sn,hsn⟩:∃ sn:Nat,old[i]=sn:=⟨old[i].toNat,by omega⟩
 have hsl:sn<R.length:=by omega
 have go:(A5 old)[i]?=some (.v (.int .i64 sn)):=by rw [<- hsn];exact Ak (gE1 hlt)
 have hgR:=gE1 hsl
 have hrl:=hr _ (gE6 hsl)
 have hst:=Kb (rows:=R) (n:=R.length) (i:=i) (num:=num) (old:=old) (out:=out) (s:=(sn:Int)) (r:=R[sn]) (by omega) (by rw [gE1 hlt,hsn]) (by simp [hgR]) rfl
 generalize hrr:R[sn]=r at *
 have hcl:=FM (Al r) (by rw [A4];omega)
 rw [Jj,A4,AA] at hcl
 (refine Ue @d1 ?_;(repeat clear hK K);repeat refine kq fun K hK=>?_)
 refine Uk ?_
 (refine Ud ?_;(repeat clear hK K);repeat refine kq fun K hK=>?_)
 (refine Ag 8 [(0,0),(1,1),(2,0),(3,0),(4,0),(5,1),(6,0),(7,1),(8,2),(9,0)] (by kernel_rfl) (by kernel_rfl) (by intro c st h;simp [Ai,AX,Tz] at h) ?_)
 (refine Ua (an @A6 (an (AQ hgR) (an @A2 @go))) ?_;repeat clear hK K)
 (refine S5 hcl ?_;intro K1 hK1)
 rintro _ _ ⟨rfl,rfl⟩
 (simp only [AK,CB,C9,List.append_nil,List.nil_append,List.length_map,go_sem];refine hK1 _ ?_;clear hK1 K1)
 (refine U9 ?_;repeat clear hK K)
 (refine Ud ?_;(repeat clear hK K);repeat refine kq fun K hK=>?_)
 (refine A9 rfl ?_;intro K1 hK1;refine As (ids:=[]) [5] (Ji 36 (by kernel_rfl) Ib r (by omega)) rfl rfl (by simp only [go_sem]) (by first | assumption | kernel_rfl) rfl rfl (by (simp only [List.map_append,List.append_nil,go_sem]) <;> rfl) (by (simp only [Tx,C4,go_sem]) <;> rfl) ?_ ?_)
 ·rintro _ _ ⟨rfl,L',_,_,rfl⟩;rfl
 rintro _ _ ⟨rfl,L',hperm,hsort,rfl⟩
 (simp only [AK,CB,C9,List.append_nil,List.nil_append,List.length_map,go_sem];refine hK1 _ ?_;clear hK1 K1)
 have hLl:=hperm.length_eq
 have hq:Kj L'=CI r:=by rw [LI];exact Ly hperm hsort
 rw [<- hLl]
 (refine Ud ?_;(repeat clear hK K);repeat refine kq fun K hK=>?_)
 (refine A9 rfl ?_;intro K1 hK1;refine As (ids:=[]) [5] (Hv L' (by omega)) rfl rfl (by simp only [go_sem]) (by first | assumption | kernel_rfl) rfl rfl (by (simp only [List.map_append,List.append_nil,go_sem]) <;> rfl) (by (simp only [Tx,C4,go_sem]) <;> rfl) ?_ ?_)
 ·rintro _ _ ⟨rfl,rest,us,_,_,rfl⟩;rfl
 rintro _ _ ⟨rfl,rest,us,hrest,hr0,rfl⟩
 (simp only [AK,CB,C9,List.append_nil,List.nil_append,List.length_map,go_sem];refine hK1 _ ?_;clear hK1 K1)
 (refine Ud ?_;(repeat clear hK K);repeat refine kq fun K hK=>?_)
 obtain ⟨q,hqd⟩:∃ q,q=CI r:=⟨_,rfl⟩
 rw [<- hqd] at hq hst
 have hqs:SortA q:=by rw [hqd];exact AD r
 have hql:q.length<=1000000:=by rw [hqd];exact Nat.le_trans (Lx r) (by omega)
 have hqb:∀ a∈q,0<=a.2/\a.2<(R.length:Int):=fun a ha=>by
  rw [hqd,C8] at ha
  have:=hbd r (by rw [<- hrr];exact gE6 hsl) a ha
  exact ⟨this.2.2.1,this.2.2.2⟩
 rw [hq]
 refine B1 (PG 5 (q.length*2) rfl ?_) ?_
 ·intro _ h
  rw [Jk _ _ _ (C9 _ _)] at h
  have hq0:q=[]:=by
   have:=congrArg List.length h
   rw [Aq] at this
   exact List.length_eq_zero_iff.1 (by simp at this;omega)
  have hL0:L'=[]:=by
   cases L' with
   | nil=>rfl
   | cons x xs=>
    have:Kj (x :: xs)=[]:=by rw [hq,hq0]
    simp [Kj] at this
  rw [hr0 hL0,hq0];rfl
 simp only [Jk _ _ _ (C9 _ _),go_sem]
 refine Ac (fun x:Nat × List Int × List Int × List Ar=>{ tm:=[(1,.a (.c (.p 0 0))),(2,.a (.c (.p 1 0))),(5,.a (.c (.s 2 R.length))),(6,.a (.c (.s 3 x.2.2.1.length))),(7,.a (.c (.s 4 i))),(8,.i i),(9,.a (.c (.s 5 q.length))),(43,.a (.c (.s 5 q.length))),(44,.i q.length),(45,.i x.1)],hp:=[.r ⟨24,1,false,[.t 1 (Ae R)]⟩,.r ⟨24,1,false,[.v (.slice none 0 0)]⟩,.r ⟨3,1,true,A5 x.2.1⟩,.r ⟨3,1,true,A5 x.2.2.1⟩,.r ⟨30,1,true,Bd out⟩,.r ⟨29,2,true,Ao x.2.2.2⟩],n:=86,pin:=0 }) (fun x=>x.1<=q.length/\x.2.2.2.length=q.length/\NumOk R.length x.2.1 x.2.2.1/\old.length<=x.2.2.1.length/\NL (Ds q num old) x.2.2.2 q x.1 x.2.1 x.2.2.1) (fun x=>q.length - x.1) (0,num,old,q) ?_ ?_ ?_
 ·exact ⟨by simp,rfl,hN,Nat.le_refl _,NL.start q num old⟩
 ·exact Un
 rintro ⟨k,num1,old1,ya⟩ ⟨hk,hyl,hN1,hol,hNL⟩ K hK
 simp only at hk hyl hN1 hol hNL
 have hlen1:=hN1.len
 have hle1:=hN1.le
 by_cases hlt2:k<q.length
 rotate_left
 ·have d2:decide ((k:Int)<(q.length:Int))=false:=by simpa using hlt2
  obtain ⟨f1,f2,f3⟩:=hNL.fin (by omega) hyl
  have hnd:ya.Nodup:=by rw [f1];exact Kf q hqs (fun a ha=>by rw [hlen];exact hqb a ha) hI
  have hI2:NumInj num1 old1:=by rw [f2,f3];exact Je q (fun a ha=>by rw [hlen];exact hqb a ha) hI
  (refine Ue @d2 ?_;(repeat clear hK K);repeat refine kq fun K hK=>?_)
  refine Ul ?_
  (refine Uh ?_;repeat clear hK K)
  rw [<- hyl]
  (refine Ud ?_;(repeat clear hK K);repeat refine kq fun K hK=>?_)
  (refine A9 rfl ?_;intro K1 hK1;refine As (ids:=[]) [5] (Ji 36 (by kernel_rfl) Ib ya (by omega)) rfl rfl (by simp only [go_sem]) (by first | assumption | kernel_rfl) rfl rfl (by (simp only [List.map_append,List.append_nil,go_sem]) <;> rfl) (by (simp only [Tx,C4,go_sem]) <;> rfl) ?_ ?_)
  ·rintro _ _ ⟨rfl,L2,_,_,rfl⟩;rfl
  rintro _ _ ⟨rfl,L2,hp2,hs2,rfl⟩
  (simp only [AK,CB,C9,List.append_nil,List.nil_append,List.length_map,go_sem];refine hK1 _ ?_;clear hK1 K1)
  have hL2:L2=CI ya:=Kd hnd hp2 hs2
  have hL2l:=hp2.length_eq
  rw [<- hL2l]
  (refine B3 (Bh (r:=⟨29,2,true,Ao L2⟩) 5 (Al L2) rfl (Dp _) (show 0<(2:Nat) by omega)) ?_;simp only [ST.frz,A0.frz,AV.frz,C.frz,Nat.le_refl,List.set_cons_zero,List.set_cons_succ,go_sem,A4,AA,CZ,List.take_length])
  have crp:=Kl out L2 hoi
  (refine Ue (an @crp (an @F2 @hoi)) ?_;(repeat clear hK K);repeat refine kq fun K hK=>?_)
  refine Um ?_
  refine hK _ (i+1,num1,old1,out++[L2]) ⟨hN1,hI2,?_,by simp only;omega,by simp [hoi]⟩ (by simp only;omega) ?_
  ·simp only
   rw [<- hC,hst,Ke,f2,f3,hL2,f1]
   rfl
  refine Le.trans (Ad [0,1,2,3,7] rfl rfl) ?_
  (try simp only [List.set_nil,List.take_nil,List.take_zero,List.map_append,go_sem])
  (try simp only [A7,C4,F3])
  exact Un
 have d2:decide ((k:Int)<(q.length:Int))=true:=by simpa using hlt2
 have hky:k<ya.length:=by omega
 have hyq:ya[k]=q[k]:=by
  have:=congrArg (fun l=>l[0]?) hNL.2.2.2
  simp only [List.getElem?_drop,Nat.add_zero] at this
  rw [gE1 hky,gE1 hlt2] at this
  exact Option.some.inj this
 have hyb:=hqb _ (gE6 hlt2)
 rw [<- hyq] at hyb
 obtain ⟨e,tn,hya⟩:∃ (e:Int) (tn:Nat),ya[k]=(e,(tn:Int)):=⟨ya[k].1,ya[k].2.toNat,by
  have:(ya[k].2.toNat:Int)=ya[k].2:=by omega
  rw [this]⟩
 have hyk:ya[k]?=some (e,(tn:Int)):=by rw [gE1 hky,hya]
 have htl:tn<R.length:=by rw [hya] at hyb;have:=hyb.2;simp only at this;omega
 have hat:=D0 hky
 rw [hya] at hat
 have gn:(A5 num1)[tn]?=some (.v (.int .i64 num1[tn])):=Ak (gE1 (by omega))
 have gn2:num1[tn]?=some num1[tn]:=gE1 (by omega)
 (refine Ue @d2 ?_;(repeat clear hK K);repeat refine kq fun K hK=>?_)
 refine Uk ?_
 by_cases hx:num1[tn]<0
 rotate_left
 ·have d3:decide (num1[tn]<0)=false:=by simpa using hx
  have cs:=E9 hyk num1[tn]
  (refine CY (an @hat (an @Aq (an @hyl (an @gn (an @d3 (an @A2 @hlen1)))))) ?_;(repeat clear hK K);repeat refine kq fun K hK=>?_)
  refine Ul ?_
  (refine CY (an @gn (an @cs (an @Aq (an @hyl (an @A2 @hlen1))))) ?_;(repeat clear hK K);repeat refine kq fun K hK=>?_)
  refine Um ?_
  refine hK _ (k+1,num1,old1,ya.set k (e,num1[tn])) ⟨hlt2,by simp [hyl],hN1,hol,hNL.pos hyk gn2 hx⟩ (by simp only;omega) ?_
  refine Le.trans (Ad [0,1,2,3,4,5] rfl rfl) ?_
  (try simp only [List.set_nil,List.take_nil,List.take_zero,List.map_append,go_sem])
  (try simp only [A7,C4,F3])
  exact Un
 have d3:decide (num1[tn]<0)=true:=by simpa using hx
 have gs:(A5 (num1.set tn (old1.length:Int)))[tn]?=some (.v (.int .i64 (old1.length:Int))):=Ak (gEc (by omega))
 have op:=Jl old1 (tn:Int)
 have cs:=E9 hyk (old1.length:Int)
 (refine CY (an @hat (an @Aq (an @hyl (an @gn (an @d3 (an @A2 @hlen1)))))) ?_;(repeat clear hK K);repeat refine kq fun K hK=>?_)
 refine Uk ?_
 (refine CY (an @A2 (an @hlen1 (an @AL (an @op (an @gs (an @cs (an @Aq (an @hyl @List.length_set.{0})))))))) ?_;(repeat clear hK K);repeat refine kq fun K hK=>?_)
 refine Um ?_
 have hone:AP num1 old1 (tn:Int)=(num1.set tn (old1.length:Int),old1++[(tn:Int)]):=by
  simp only [AP,Int.toNat_natCast,List.getD,gn2,Option.getD_some,if_pos hx]
 have hN2:=hN1.one (t:=(tn:Int)) (by omega) (by omega)
 rw [hone] at hN2
 refine hK _ (k+1,num1.set tn (old1.length:Int),old1++[(tn:Int)],ya.set k (e,(old1.length:Int))) ⟨hlt2,by simp [hyl],hN2,by simp;omega,hNL.neg hyk gn2 hx rfl⟩ (by simp only;omega) ?_
 refine Le.trans (Ad [0,1,2,8,4,5] rfl rfl) ?_
 (try simp only [List.set_nil,List.take_nil,List.take_zero,List.map_append,go_sem])
 (try simp only [A7,C4,F3])
 simp only [List.length_append,List.length_cons,List.length_nil]
 exact Un
structure Fw (E:Nat->List Nat) (n:Nat) (F:List Nat) (rd:Int) (seen:List Int) (out:List Nat):Prop where
 len:seen.length=n
 st:∀ u,u<n->(seen.getD u 0=rd↔u∈out)
 nd:out.Nodup
 lt:∀ u∈out,u<n
 snd:∀ u∈out,∃ v∈F,Rc E v u
 bd:∀ x∈seen,x<=rd
variable {E : Nat -> List Nat} {n : Nat} {F : List Nat} {rd : Int} {seen : List Int} {out : List Nat}
theorem Fw.start (h : seen.length = n) (hb : ∀ x ∈ seen, x < rd) : Fw E n F rd seen [] :=
 ⟨h, fun u hu => ⟨fun e => by
  rw [gE2, gE1 (by omega), Option.getD_some] at e
  have := hb _ (gE6 (show u < seen.length by omega)); omega, fun h => by simp at h⟩, List.nodup_nil, fun u h => by simp at h, fun u h => by simp at h, fun x h => by have := hb x h; omega⟩
theorem Fw.push (h:Fw E n F rd seen out) {u:Nat} (hu:u<n) (hn:seen.getD u 0 ≠ rd) (hs:∃ v∈F,Rc E v u):Fw E n F rd (seen.set u rd) (out++[u]):=by
 have hno:u ∉ out:=fun hm=>hn ((h.st u hu).2 hm)
 refine ⟨by rw [List.length_set];exact h.len,fun w hw=>?_,?_,fun w hw=>?_,fun w hw=>?_,fun x hx=>?_⟩
 rotate_left
 ·exact List.nodup_append.2 ⟨h.nd,by simp,fun a ha b hb=>by simp at hb;subst hb;exact fun e=>hno (e ▸ ha)⟩
 ·rcases List.mem_append.1 hw with h1 | h1
  ·exact h.lt w h1
  simp at h1;omega
 ·rcases List.mem_append.1 hw with h1 | h1
  ·exact h.snd w h1
  simp at h1;subst h1;exact hs
 ·rcases List.mem_or_eq_of_mem_set hx with h1 | h1
  ·exact h.bd x h1
  omega
 rw [gE2,List.getElem?_set]
 by_cases e:u=w
 ·subst e
  rw [if_pos rfl,if_pos (by rw [h.len];exact hw)]
  simp
 rw [if_neg e,<- gE2,h.st w hw]
 simp [Ne.symm e]
theorem Fw.mem (h:Fw E n F rd seen out) {u:Nat} (hu:u<n) (hs:seen.getD u 0=rd):u∈out:=(h.st u hu).1 hs
theorem Jn:∀ (n:Nat) (l:List Nat),l.Nodup->(∀ u∈l,u<n)->l.length<=n:=by
 intro n
 induction n with
 | zero=>intro l _ h;cases l with
  | nil=>simp
  | cons a r=>have:=h a (by simp);omega
 | succ n ih=>
  intro l hn hl
  have h1:(l.erase n).length<=n:=ih _ (hn.erase n) fun u hu=>by
   have h2:=(List.Nodup.mem_erase_iff hn).1 hu
   have:=hl u h2.2
   omega
  have:=List.length_erase (a:=n) (l:=l)
  split at this <;> omega
theorem Fw.le (h:Fw E n F rd seen out):out.length<=n:=Jn n out h.nd h.lt
theorem Fw.done (h:Fw E n F rd seen out) (hF:∀ v∈F,v∈out) (hc:∀ u∈out,∀ w∈E u,w∈out) (u:Nat):u∈out↔∃ v∈F,Rc E v u:=by
 refine ⟨h.snd u,fun ⟨v,hv,hr⟩=>?_⟩
 induction hr with
 | refl=>exact hF v hv
 | tail _ he ih=>exact hc _ (ih ⟨v,hv,‹_›⟩) _ he
def Gt (n:Nat) (p:Nat->Bool):List Nat:=(List.range n).filter p
theorem Cf {n:Nat} {p:Nat->Bool} {u:Nat}:u∈Gt n p↔u<n/\p u=true:=by simp [Gt]
end Go.Proofs.YtjijjfkalheokaaDoor
namespace Go.Proofs.YtjijjfkalheokaaDoor
set_option linter.unusedVariables false
set_option linter.unusedSimpArgs false
open Go.RowKit Go.Shelf Go.Sort
set_option maxRecDepth 100000

section
variable {α : Type} [Inhabited α] {enc : α -> Value} {w : World} {blk off m : Nat} {dk : Array α} {os : Array Obj}
theorem Ik:w.heap.size<=(sortWorld enc w blk off m dk os).heap.size:=by
 simp [sortWorld,grow,putRow,mapBlock,Sort.ahead]
theorem Jp {k:Nat} (hk:k<w.heap.size) (hne:k ≠ blk):(sortWorld enc w blk off m dk os).heap[k]?=w.heap[k]?:=by
 simp only [sortWorld,grow,putRow,mapBlock,Sort.ahead]
 rw [Array.getElem?_append_left (by simpa using hk),Array.getElem?_modify,if_neg (Ne.symm hne)]
theorem PP {arr:Array Value} {e:TypeId} {fz:Nat × Nat} (h:w.heap[blk]?=some (.cells arr e fz)):(sortWorld enc w blk off m dk os).heap[blk]?=some (.cells (putCells enc off dk arr) e fz):=by
 have hk:=(Array.getElem?_eq_some_iff.1 h).1
 simp only [sortWorld,grow,putRow,mapBlock,Sort.ahead]
 rw [Array.getElem?_append_left (by simpa using hk),Array.getElem?_modify,if_pos rfl,h]
 rfl
theorem Sp {M:Nat->Prop} (hM:M blk):Fp M w (sortWorld enc w blk off m dk os):=
 ⟨rfl,rfl,rfl,Ik,fun k hk hm=>Jp hk (fun e=>hm (e ▸ hM)),by simp [sortWorld,grow,putRow,mapBlock,Sort.ahead]⟩
end
theorem PQ {t:Tr} {k:Nat × Nat} {cs:List Tr}:C.ofTr t ≠ .o k cs:=by cases t <;> simp [C.ofTr]
theorem UQ {g:Gh} {α0:Type} {tr:α0->Tr} {e:TypeId} {L:List α0} {ℓ:Loc}:Lv [.r ⟨e,1,true,L.map fun x=>C.ofTr (tr x)⟩] g ℓ↔ℓ=.ob 0/\g.κ 0 ≠ 0:=by
 cases ℓ with
 | ob id=>
  constructor
  rotate_left
  ·rintro ⟨h1,h2⟩
   cases h1
   exact .inl ⟨_,rfl,h2⟩
  rintro (⟨r,h1,h2⟩ | ⟨kv,h1⟩)
  rotate_left
  ·cases id with
   | zero=>simp at h1
   | succ i=>simp at h1
  cases id with
  | zero=>exact ⟨rfl,h2⟩
  | succ i=>simp at h1
 | cl id j=>
  constructor
  rotate_left
  ·rintro ⟨h1,h2⟩;cases h1
  rintro ⟨r,k,cs,h1,h2,h3⟩
  cases id with
  | zero=>
   simp at h1;subst h1
   rw [List.getElem?_map,Option.map_eq_some_iff] at h2
   obtain ⟨x,_,h2⟩:=h2
   exact absurd h2 PQ
  | succ i=>simp at h1
def UR (x:Int):Tr:=.v (.int .i64 x)
theorem Jq (L:List Int) (hsz:L.length<=100000000):FC Tryd.prog 69 [.a (.c (.s 0 L.length))] [.r ⟨3,1,true,A5 L⟩] (fun r o=>r=.u/\∃ L':List Int,L'.Perm L/\L'.Pairwise (fun a b=>a<=b)/\o=[.r ⟨3,1,true,A5 L'⟩]):=by
 intro g w vals hr hargs
 obtain ⟨hlen,hargs⟩:=hargs
 obtain ⟨v1,e1,b1,b2,A,rfl,b4,b5⟩:=hargs 0 _ rfl
 have hvals:vals=[.slice A L.length (g.κ 0)]:=by
  match vals,hlen with
  | [a],_=>simp at e1;simp [e1]
 subst hvals
 have lvI:∀ {L:List Int} {ℓ:Loc},Lv [.r ⟨3,1,true,A5 L⟩] g ℓ↔ℓ=.ob 0/\g.κ 0 ≠ 0:=fun {L ℓ}=>UQ (tr:=UR) (L:=L)
 rcases hr.row 0 _ rfl with ⟨h0,hnil⟩ | ⟨h0,hne,arr,ha,hle,hs,hmx,hcells⟩
 ·have hL0:L=[]:=by
   have h:A5 L=[]:=hnil
   simpa [A5] using h
  subst hL0
  refine (Any.slices_Sort_int_none Tryd.sortInts A (g.κ 0) w).mono ?_
  rintro e' w' ⟨rfl,rfl⟩
  exact ⟨.tuple #[],.u,_,g,rfl,⟨rfl,[],List.Perm.refl _,List.Pairwise.nil,rfl⟩,hr,⟨Nat.le_refl _,Ext.refl _ _⟩,fun ℓ hl=>.inl ⟨ℓ,hl,rfl⟩,trivial,Fp.refl _ _⟩
 rw [b4 h0] at *
 have hblk:g.γ (.ob 0)<w.heap.size:=(Array.getElem?_eq_some_iff.1 ha).1
 have hOw:Ow [.r ⟨3,1,true,A5 L⟩] g (g.γ (.ob 0)):=.inr ⟨.ob 0,lvI.2 ⟨rfl,h0⟩,rfl⟩
 have hle':L.length<=arr.size:=by simpa [A2] using hle
 have hget:∀ j (hj:j<L.length),arr[j]?=some (.int .i64 L[j]):=by
  intro j hj
  obtain ⟨u,u1,u2⟩:=hcells j (.v (.int .i64 L[j])) (Ak (gE1 hj))
  rw [u1,show u=.int .i64 L[j] from u2]
 have hH:Holds (Value.int .i64) w (g.γ (.ob 0)) 0 L.toArray:=by
  intro j hj
  simp only [List.size_toArray] at hj
  constructor
  rotate_left
  ·simp [World.frozen?,ha]
  rw [Nat.zero_add,cell_of_row w _ j arr _ (0,0) ha,hget j hj,getElem!_pos _ j (by simpa using hj)]
  simp
 refine (Any.slices_Sort_int Tryd.sortInts (g.γ (.ob 0)) 0 (g.κ 0) L w hH hblk (by omega)).mono ?_
 rintro e' w' ⟨rfl,m,os,rfl⟩
 obtain ⟨L',hL'⟩:∃ L',L'=L.mergeSort fun x y=>decide (x<=y):=⟨_,rfl⟩
 have hperm:L'.Perm L:=by rw [hL'];exact List.mergeSort_perm _ _
 have hsort:L'.Pairwise (fun a b=>a<=b):=by
  rw [hL']
  have:=List.pairwise_mergeSort (le:=fun x y:Int=>decide (x<=y)) (fun a b c h1 h2=>by simp at *;omega) (fun a b=>by simp;omega) L
  exact this.imp fun h=>by simpa using h
 rw [<- hL']
 have hll:=hperm.length_eq
 show N3 _ _ _ _ _ (sortWorld (Value.int .i64) w (g.γ (.ob 0)) 0 m L'.toArray os)
 refine ⟨.tuple #[],.u,_,g,rfl,⟨rfl,L',hperm,hsort,rfl⟩,?_,⟨Nat.le_refl _,Ext.refl _ _⟩,fun ℓ hl=>.inl ⟨ℓ,lvI.2 (lvI.1 hl),rfl⟩,trivial,Sp ⟨.ob 0,lvI.2 ⟨rfl,h0⟩,rfl⟩⟩
 refine ⟨fun b hb=>Nat.lt_of_lt_of_le (hr.ml b hb) Ik,fun ℓ hl=>hr.md ℓ (lvI.2 (lvI.1 hl)),fun ℓ ℓ' hl hl'=>hr.inj ℓ ℓ' (lvI.2 (lvI.1 hl)) (lvI.2 (lvI.1 hl')),fun id r hid=>?_,fun id r hid=>?_,hr.gl.keep Ik (fun k hk hn=>Jp hk (fun e=>hn (e ▸ hOw))) (fun k _ hk=>hk.imp (fun h=>h) (fun ⟨ℓ,hl,e⟩=>⟨ℓ,lvI.2 (lvI.1 hl),e⟩))⟩
 rotate_left
 ·cases id with
  | zero=>simp at hid
  | succ i=>simp at hid
 cases id with
 | succ i=>simp at hid
 | zero=>
  simp at hid
  subst hid
  refine .inr ⟨h0,fun _ hn=>?_,_,PP ha,?_,?_,hmx,fun j c hj=>?_⟩
  ·have h1:L'=[]:=by simpa [A5] using hn
   rw [h1] at hll
   have h2:L=[]:=List.length_eq_zero_iff.1 hll.symm
   exact hne rfl (by simp [h2,A5])
  ·simp only [A2,putCells,Array.size_mapIdx];omega
  ·simpa [putCells] using hs
  have hjl:j<L'.length:=by have:=(List.getElem?_eq_some_iff.1 hj).1;rw [A2] at this;exact this
  have hc:c=.v (.int .i64 L'[j]):=by
   rw [Ak (gE1 hjl)] at hj
   exact (Option.some.inj hj).symm
  subst hc
  refine ⟨.int .i64 L'[j],?_,rfl⟩
  unfold putCells
  rw [Array.getElem?_mapIdx,gEd (by omega)]
  simp [hjl]
open Go.RowKit
attribute [local go_sem] lga C.pl C.one
def UU (r:List Ar) (e:Int):List Nat:=(r.filter fun a=>a.1 == e).map fun a=>a.2.toNat
def tg (R:List (List Ar)) (F:List Nat) (e:Int):List Nat:=F.flatMap fun s=>UU (R.getD s []) e
theorem LQ {r:List Ar} {e:Int} {u:Nat}:u∈UU r e↔∃ a∈r,a.1=e/\a.2.toNat=u:=by
 unfold UU
 rw [List.mem_map]
 constructor
 rotate_left
 ·rintro ⟨a,ha,he,rfl⟩
  exact ⟨a,List.mem_filter.2 ⟨ha,by simpa using he⟩,rfl⟩
 rintro ⟨a,ha,rfl⟩
 have:=List.mem_filter.1 ha
 exact ⟨a,this.1,by simpa using this.2,rfl⟩
theorem OQ {R:List (List Ar)} {F:List Nat} {e:Int} {u:Nat}:u∈tg R F e↔∃ s∈F,u∈UU (R.getD s []) e:=by unfold tg;rw [List.mem_flatMap]
theorem OR {l:List Int} {n:Nat} (h:Ur l) (hb:∀ x∈l,0<=x/\x<(n:Int)):l.length<=n:=by
 have h1:(l.map Int.toNat).Nodup:=by
  unfold Ur at h
  rw [List.Nodup,List.pairwise_map]
  refine h.imp_of_mem fun {a b} ha hb2 hab e=>?_
  have:=hb a ha
  have:=hb b hb2
  omega
 have:=Jn n (l.map Int.toNat) h1 fun u hu=>by
  obtain ⟨x,hx,rfl⟩:=List.mem_map.1 hu
  have:=hb x hx
  omega
 simpa using this
def V1 (acc:List Int) (r:List Ar):List Int:=r.foldl (fun acc a=>La a.1 acc) acc
def V3 (R:List (List Ar)) (k:Nat):List Int:=(R.take k).foldl V1 [0]
theorem NO {R:List (List Ar)} {k:Nat} (h:k<R.length):V3 R (k+1)=V1 (V3 R k) R[k]:=by
 unfold V3
 rw [gE8 h,List.foldl_append];rfl
theorem Gu {x:Int}:∀ (r:List Ar) (acc:List Int),x∈V1 acc r↔x∈acc\/∃ a∈r,a.1=x
 | [],acc=>by simp [V1]
 | a :: r,acc=>by
  show x∈V1 (La a.1 acc) r↔_
  rw [Gu r,DJ]
  simp only [List.mem_cons,exists_eq_or_imp]
  constructor
  ·rintro ((rfl | h) | h)
   ·exact .inr (.inl rfl)
   ·exact .inl h
   ·exact .inr (.inr h)
  ·rintro (h | h | h)
   ·exact .inl (.inr h)
   ·exact .inl (.inl h.symm)
   ·exact .inr h
theorem LX:∀ (r:List Ar) (acc:List Int),Ur acc->Ur (V1 acc r)
 | [],_,h=>h
 | _ :: r,_,h=>LX r _ (IY h)
theorem Ju {R:List (List Ar)} (hb:∀ r∈R,∀ a∈r,0<=a.1/\a.1<=1025) (k:Nat):k<=R.length->Ur (V3 R k)/\(∀ x∈V3 R k,0<=x/\x<1026)/\(0:Int)∈V3 R k/\∀ r∈R.take k,∀ a∈r,a.1∈V3 R k:=by
 induction k with
 | zero=>intro _;exact ⟨by simp [V3,Ur],by simp [V3],by simp [V3],by simp⟩
 | succ k ih=>
  intro hk
  obtain ⟨h1,h2,h3,h4⟩:=ih (by omega)
  have hkl:k<R.length:=hk
  rw [NO hkl]
  refine ⟨LX _ _ h1,fun x hx=>?_,(Gu _ _).2 (.inl h3),fun r hr a ha=>?_⟩
  ·rcases (Gu _ _).1 hx with h | ⟨a,ha,rfl⟩
   ·exact h2 x h
   have:=hb _ (gE6 hkl) a ha;omega
  rw [Gu]
  rw [gE8 hkl] at hr
  rcases List.mem_append.1 hr with h | h
  ·exact .inl (h4 r h a ha)
  simp at h;subst h;exact .inr ⟨a,ha,rfl⟩
noncomputable def V4 (R:List (List Ar)) (s:Nat):List Nat:=Gt R.length (fun u=>@decide (Rc (Uy true R) s u) (Classical.propDecidable _))
theorem Fd {R:List (List Ar)} {s u:Nat}:u∈V4 R s↔u<R.length/\Rc (Uy true R) s u:=by
 unfold V4
 rw [Cf]
 simp
noncomputable def V5 (R:List (List Ar)) (s:Nat) (e:Int):List Int:=if e=0 then (V4 R s).map Int.ofNat else (Gt R.length (fun u=>decide (u∈tg R (V4 R s) e))).map Int.ofNat
theorem Il {R:List (List Ar)} (hlo:Br R=true) {s:Nat} (hs:s<R.length) {e x:Int}:x∈V5 R s e↔(e=0/\∃ u:Nat,x=(u:Int)/\Rc (Uy true R) s u)\/(e ≠ 0/\∃ t,Rc (Uy true R) s t/\∃ a∈R.getD t [],a.1=e/\a.2=x):=by
 have hE:=Ce true hlo
 unfold V5
 by_cases e0:e=0
 ·rw [if_pos e0,List.mem_map]
  constructor
  ·rintro ⟨u,hu,rfl⟩
   exact .inl ⟨e0,u,rfl,(Fd.1 hu).2⟩
  rintro (⟨_,u,rfl,hu⟩ | ⟨h,_⟩)
  ·exact ⟨u,Fd.2 ⟨hu.lt hs hE,hu⟩,rfl⟩
  exact absurd e0 h
 rw [if_neg e0,List.mem_map]
 constructor
 ·rintro ⟨u,hu,rfl⟩
  rw [Cf,decide_eq_true_iff,OQ] at hu
  obtain ⟨_,t,ht,h2⟩:=hu
  obtain ⟨a,ha,h3,h4⟩:=LQ.1 h2
  have htl:=(Fd.1 ht).1
  have hb:0<=a.2:=by
   rw [gE2,gE1 htl,Option.getD_some] at ha
   exact ((gE4 hlo).2.2.2 _ (gE6 htl) a ha).2.2.1
  exact .inr ⟨e0,t,(Fd.1 ht).2,a,ha,h3,by simp only [Int.ofNat_eq_natCast];omega⟩
 rintro (⟨h,_⟩ | ⟨_,t,ht,a,ha,h3,rfl⟩)
 ·exact absurd h e0
 have htl:=ht.lt hs hE
 have hb:=ha
 rw [gE2,gE1 htl,Option.getD_some] at hb
 have hb2:=(gE4 hlo).2.2.2 _ (gE6 htl) a hb
 refine ⟨a.2.toNat,?_,by simp only [Int.ofNat_eq_natCast];omega⟩
 rw [Cf,decide_eq_true_iff,OQ]
 exact ⟨by omega,t,Fd.2 ⟨htl,ht⟩,LQ.2 ⟨a,ha,h3,rfl⟩⟩
theorem OV {R:List (List Ar)} (hlo:Br R=true) {s:Nat} {e:Int} (hs:s<R.length):(V5 R s e).length<=R.length/\∀ x∈V5 R s e,0<=x/\x<(R.length:Int):=by
 have hl:∀ p:Nat->Bool,(Gt R.length p).length<=R.length:=fun p=>by
  unfold Gt
  exact Nat.le_trans (List.length_filter_le _ _) (by simp)
 refine ⟨?_,fun x hx=>?_⟩
 ·unfold V5
  split <;> rw [List.length_map] <;> exact hl _
 unfold V5 at hx
 split at hx
 ·obtain ⟨u,hu,rfl⟩:=List.mem_map.1 hx
  have:=(Cf.1 hu).1
  simp only [Int.ofNat_eq_natCast];omega
 obtain ⟨u,hu,rfl⟩:=List.mem_map.1 hx
 have:=(Cf.1 hu).1
 simp only [Int.ofNat_eq_natCast];omega
noncomputable def V6 (R:List (List Ar)) (s:Nat) (e:Int):List Ar:=(V5 R s e).map fun u=>(e,u)
noncomputable def V7 (R:List (List Ar)) (Ev:List Int) (s k:Nat):List Ar:=(Ev.take k).flatMap (V6 R s)
noncomputable def V8 (R:List (List Ar)) (Ev:List Int) (s:Nat):List Ar:=V7 R Ev s Ev.length
noncomputable def V9 (R:List (List Ar)) (Ev:List Int) (k:Nat):List (List Ar):=(List.range k).map (V8 R Ev)
theorem PV (R:List (List Ar)) (Ev:List Int) (k:Nat):(V9 R Ev k).length=k:=by simp [V9]
theorem NP {R:List (List Ar)} {Ev:List Int} {s k:Nat} (h:k<Ev.length):V7 R Ev s (k+1)=V7 R Ev s k++V6 R s Ev[k]:=by
 unfold V7
 rw [gE8 h,List.flatMap_append]
 simp
theorem PW {R:List (List Ar)} (hlo:Br R=true) {Ev:List Int} {s:Nat} (hs:s<R.length):∀ k,k<=Ev.length->(V7 R Ev s k).length<=k*R.length:=by
 intro k
 induction k with
 | zero=>intro _;simp [V7]
 | succ k ih=>
  intro hk
  have h1:=ih (by omega)
  have h2:=(OV hlo (e:=Ev[k]) hs).1
  rw [NP hk,List.length_append,V6,List.length_map,Nat.succ_mul]
  omega
noncomputable def Gv (R:List (List Ar)):List (List Ar):=V9 R (V3 R R.length) R.length
theorem Gw {R:List (List Ar)} (hv:Bg R=true) {s:Nat} (hs:s<R.length) {a:Ar}:a∈(Gv R).getD s []↔(a.1=0/\∃ u:Nat,a.2=(u:Int)/\Rc (Uy true R) s u)\/(a.1 ≠ 0/\∃ t,Rc (Uy true R) s t/\a∈R.getD t []):=by
 have hlo:Br R=true:=gEg (gE4 hv).1
 have hg:(Gv R).getD s []=V8 R (V3 R R.length) s:=by simp [Gv,V9,gE2,hs]
 have hev:=Ju (R:=R) (fun r hr a ha=>by have:=(gE4 hlo).2.2.2 r hr a ha;omega) R.length (Nat.le_refl _)
 rw [List.take_length] at hev
 rw [hg]
 unfold V8 V7
 rw [List.take_length,List.mem_flatMap]
 constructor
 ·rintro ⟨e,he,h⟩
  obtain ⟨x,hx,rfl⟩:=List.mem_map.1 h
  rcases (Il hlo hs).1 hx with ⟨h1,u,rfl,h2⟩ | ⟨h1,t,h2,b,hb,h3,h4⟩
  ·exact .inl ⟨h1,u,rfl,h2⟩
  refine .inr ⟨h1,t,h2,?_⟩
  have:b=(e,x):=by rcases b with ⟨p,q⟩;simp only at h3 h4;rw [h3,h4]
  rw [<- this];exact hb
 rintro (⟨h1,u,h2,h3⟩ | ⟨h1,t,h2,h3⟩)
 ·refine ⟨0,hev.2.2.1,List.mem_map.2 ⟨(u:Int),(Il hlo hs).2 (.inl ⟨rfl,u,rfl,h3⟩),?_⟩⟩
  rcases a with ⟨p,q⟩;simp only at h1 h2 ⊢;rw [h1,h2]
 have htl:=h2.lt hs (Ce true hlo)
 have h4:=h3
 rw [gE2,gE1 htl,Option.getD_some] at h4
 exact ⟨a.1,hev.2.2.2 _ (gE6 htl) a h4,List.mem_map.2 ⟨a.2,(Il hlo hs).2 (.inr ⟨h1,t,h2,a,h3,rfl,rfl⟩),rfl⟩⟩
theorem LY {R:List (List Ar)} (hv:Bg R=true) (hn:R.length<=100):(Gv R).length=R.length/\∀ r∈Gv R,r.length<=1000000/\∀ a∈r,0<=a.2/\a.2<(R.length:Int):=by
 have hlo:Br R=true:=gEg (gE4 hv).1
 have hl:(Gv R).length=R.length:=PV _ _ _
 have hev:=Ju (R:=R) (fun r hr a ha=>by have:=(gE4 hlo).2.2.2 r hr a ha;omega) R.length (Nat.le_refl _)
 have hevl:(V3 R R.length).length<=1026:=OR hev.1 (by simpa using hev.2.1)
 refine ⟨hl,fun r hr=>?_⟩
 obtain ⟨s,hs,rfl⟩:=List.mem_map.1 hr
 rw [List.mem_range] at hs
 have h1:=PW hlo (Ev:=V3 R R.length) hs _ (Nat.le_refl _)
 have h2:(V3 R R.length).length*R.length<=1026*100:=Nat.mul_le_mul hevl hn
 refine ⟨by unfold V8;omega,fun a ha=>?_⟩
 unfold V8 V7 at ha
 obtain ⟨e,_,h⟩:=List.mem_flatMap.1 ha
 obtain ⟨x,hx,rfl⟩:=List.mem_map.1 h
 exact (OV hlo hs).2 x hx
def Va (B:List Bool) (s:Nat):Int:=if B.getD s false=B.getD 0 false then 0 else 1
def Vb (B:List Bool) (n:Nat):List Int:=(List.range n).map (Va B)
theorem Du {B:List Bool} {n s:Nat} (h:s<n):(Vb B n).getD s 0=Va B s:=by simp [Vb,gE2,h]
theorem Rp {B:List Bool}:∀ n,1<=n->(UW (fun s=>B.getD s false) n).1=Vb B n/\((UW (fun s=>B.getD s false) n).2=1/\(∀ s,s<n->B.getD s false=B.getD 0 false)\/(UW (fun s=>B.getD s false) n).2=2/\∃ s,s<n/\B.getD s false ≠ B.getD 0 false):=by
 intro n
 induction n with
 | zero=>intro h;omega
 | succ n ih=>
  intro _
  by_cases h0:n=0
  ·subst h0
   refine ⟨?_,.inl ⟨rfl,fun s hs=>by rw [show s=0 by omega]⟩⟩
   show ([]++[((0:Nat):Int)])=_
   simp [Vb,Va]
  obtain ⟨h1,h2⟩:=ih (by omega)
  have hd:Vb B (n+1)=Vb B n++[Va B n]:=by simp [Vb,List.range_succ]
  rcases EE (fun s=>B.getD s false) n with ⟨t,a1,a2,a3,a4⟩ | ⟨a3,a4⟩
  ·rw [a4,hd,h1,Du a1]
   have e1:Va B t=Va B n:=by unfold Va;rw [a2]
   refine ⟨by rw [e1],?_⟩
   rcases h2 with ⟨b1,b2⟩ | ⟨b1,s,b2,b3⟩
   rotate_left
   ·exact .inr ⟨b1,s,by omega,b3⟩
   refine .inl ⟨b1,fun s hs=>?_⟩
   by_cases e:s=n
   ·subst e;rw [<- a2];exact b2 t a1
   exact b2 s (by omega)
  have hne:=a3 0 (by omega)
  have hone:(UW (fun s=>B.getD s false) n).2=1:=by
   rcases h2 with ⟨b1,_⟩ | ⟨_,s,b2,b3⟩
   ·exact b1
   exfalso
   have c1:=a3 s b2
   revert hne c1 b3
   generalize B.getD s false=x
   generalize B.getD 0 false=y
   generalize B.getD n false=z
   cases x <;> cases y <;> cases z <;> simp
  rw [a4,hd,h1,hone]
  refine ⟨by unfold Va;rw [if_neg (Ne.symm hne)];rfl,.inr ⟨rfl,n,by omega,Ne.symm hne⟩⟩
theorem PX (B:List Bool) {n:Nat} (h:1<=n):Nrm n (Vb B n):=by
 rw [<- (Rp n h).1]
 exact OT _ _
def DlC (R:List (List Ar)) (c:List Int):Prop:=∃ B,DvL R B/\FxS (Gv R) (Vb B R.length) c
def W3 (f:Nat->Nat) (c:Nat) (o:List (List Ar)) (a:Ar):List (List Ar):=o.set c (GR (a.1,(f a.2.toNat:Int)) (o.getD c []))
def YL (f:Nat->Nat) (c:Nat) (o:List (List Ar)) (row:List Ar):List (List Ar):=row.foldl (W3 f c) o
theorem QC (f:Nat->Nat) (c:Nat) (o:List (List Ar)) (a:Ar):(W3 f c o a).length=o.length:=by simp [W3]
def SameS (o p:List (List Ar)):Prop:=o.length=p.length/\∀ i a,a∈o.getD i []↔a∈p.getD i []
theorem SameS.one {f:Nat->Nat} {c:Nat} {o p:List (List Ar)} (h:SameS o p) (a:Ar):SameS (W3 f c o a) (UE f c p a):=by
 refine ⟨by rw [QC,PD];exact h.1,fun i b=>?_⟩
 have h1:=h.1
 unfold W3 UE
 simp only [gE2,List.getElem?_set]
 by_cases hi:c=i
 rotate_left
 ·rw [if_neg hi,if_neg hi]
  have h2:=h.2 i b
  simpa only [gE2] using h2
 subst hi
 by_cases hc:c<o.length
 rotate_left
 ·rw [if_pos rfl,if_neg hc,if_pos rfl,if_neg (by omega)]
 have h2:=h.2 c b
 simp only [gE2] at h2
 rw [if_pos rfl,if_pos hc,if_pos rfl,if_pos (by omega)]
 simp only [Option.getD_some,Gj,List.mem_append,List.mem_singleton,h2,or_comm]
theorem SameS.row {f:Nat->Nat} {c:Nat}:∀ (row:List Ar) {o p:List (List Ar)},SameS o p->SameS (YL f c o row) (YK f c p row)
 | [],_,_,h=>h
 | a :: r,_,_,h=>SameS.row r (h.one a)
def NumSur (num old:List Int):Prop:=∀ (j:Nat) (s:Int),old[j]?=some s->0<=s/\num[s.toNat]?=some (j:Int)
theorem NumSur.one {num old:List Int} (h:NumSur num old) {t:Int} (h0:0<=t) (h1:t<num.length):NumSur (AP num old t).1 (AP num old t).2:=by
 have htl:t.toNat<num.length:=by omega
 unfold AP
 split
 rotate_left
 ·exact h
 rename_i hneg
 intro j s hs
 simp only at hs ⊢
 rcases Nat.lt_or_ge j old.length with hj | hj
 ·rw [gEa hj] at hs
  obtain ⟨q1,q2⟩:=h j s hs
  refine ⟨q1,?_⟩
  rw [List.getElem?_set,if_neg,q2]
  intro e
  rw [e,gE2,q2,Option.getD_some] at hneg
  omega
 rw [gEb hj] at hs
 have hj':j=old.length:=by
  have:=(List.getElem?_eq_some_iff.1 hs).1
  simp at this
  omega
 subst hj'
 simp at hs
 subst hs
 exact ⟨h0,by rw [List.getElem?_set,if_pos rfl,if_pos htl]⟩
theorem Xa (r:List Ar) {num old:List Int} (hr:∀ a∈r,0<=a.2/\a.2<num.length) (h:NumSur num old):NumSur (Ds r num old).1 (Ds r num old).2.1:=by
 induction r generalizing num old with
 | nil=>exact h
 | cons a tl ih=>
  have ha:=hr a (by simp)
  exact ih (fun b hb=>by rw [FR];exact hr b (by simp [hb])) (h.one ha.1 ha.2)
theorem Xh (num old:List Int) (t:Int) {j:Nat} {s:Int} (h:old[j]?=some s):(AP num old t).2[j]?=some s:=by
 unfold AP
 split
 rotate_left
 ·exact h
 simp only
 rw [gEa (List.getElem?_eq_some_iff.1 h).1,h]
theorem WL (r:List Ar) {num old:List Int} {j:Nat} {s:Int} (h:old[j]?=some s):(Ds r num old).2.1[j]?=some s:=by
 induction r generalizing num old with
 | nil=>exact h
 | cons a tl ih=>exact ih (Xh num old a.2 h)
theorem WV (r:List Ar) (num old:List Int):old.length<=(Ds r num old).2.1.length:=by
 rcases Nat.eq_zero_or_pos old.length with h | h
 ·omega
 have:=WL r (num:=num) (old:=old) (j:=old.length - 1) (s:=old[old.length - 1]) (gE1 (by omega))
 have:=(List.getElem?_eq_some_iff.1 this).1
 omega
theorem NumSur.start {n:Nat} (hn:0<n):NumSur ((List.replicate n (-1)).set 0 0) [0]:=by
 intro j s hs
 cases j with
 | succ j=>simp at hs
 | zero=>
  simp at hs;subst hs
  exact ⟨by omega,by simp [hn]⟩
theorem Xl (V:List (List Ar)) (s:Nat):BP (V.set s [])+(V.getD s []).length=BP V:=by
 induction V generalizing s with
 | nil=>simp [BP]
 | cons x r ih=>
  cases s with
  | zero=>simp [BP];omega
  | succ s=>
   have:=ih s
   simp only [List.set_cons_succ,List.getD_cons_succ]
   simp only [BP,List.map_cons,List.sum_cons] at this ⊢
   omega
theorem WW (l acc:List Ar) (h:SortA acc):SortA (l.foldl (fun acc a=>GR a acc) acc):=by
 induction l generalizing acc with
 | nil=>exact h
 | cons a r ih=>exact ih _ (Ld h)
structure RowsG (n:Nat) (out:List (List Ar)):Prop where
 so:∀ r∈out,SortA r
 bd:∀ r∈out,∀ a∈r,0<=a.1/\a.1<=1025/\0<=a.2/\a.2<(n:Int)
theorem RowsG.le {n m:Nat} {out:List (List Ar)} (h:RowsG n out) (hm:n<=m):RowsG m out:=⟨h.so,fun r hr a ha=>by have:=h.bd r hr a ha;omega⟩
theorem WX {R:List (List Ar)} {B:Nat} (hb:∀ r∈R,∀ a∈r,0<=a.1/\a.1<=1025/\0<=a.2/\a.2<(R.length:Int)):∀ (f i:Nat) (num old:List Int) (out V:List (List Ar)),NumOk R.length num old->NumInj num old->NumSur num old->i=out.length->i<=old.length->R.length<=f+i->
  RowsG old.length out->V.length=R.length->(∀ s,s<R.length->(∀ j,j<i->old[j]? ≠ some (s:Int))->V.getD s []=R.getD s [])->BP out+BP V<=B->
  old.length<=(Hs R f i num old out).1.length/\(Hs R f i num old out).1.length<=R.length/\RowsG (Hs R f i num old out).1.length (Hs R f i num old out).1/\BP (Hs R f i num old out).1<=B:=by
 intro f
 induction f with
 | zero=>
  intro i num old out V hN hI hS hi ho hf hG hVl hV ht
  have hle:=hN.le
  simp only [Hs]
  exact ⟨by omega,by omega,hG.le (by omega),by omega⟩
 | succ f ih=>
  intro i num old out V hN hI hS hi ho hf hG hVl hV ht
  have hle:=hN.le
  unfold Hs
  split
  ·rename_i hs
   have:=List.getElem?_eq_none_iff.1 hs
   exact ⟨by simp only;omega,by simp only;omega,hG.le (by simp only;omega),by simp only;omega⟩
  rename_i s hs
  have hs0:=hN.st s (gE9 hs)
  have hsl:s.toNat<R.length:=by omega
  have hil:=(List.getElem?_eq_some_iff.1 hs).1
  have hg:R.getD s.toNat []=R[s.toNat]:=by rw [gE2,gE1 hsl];rfl
  have hrm:=gE6 hsl
  have hVs:V.getD s.toNat []=R.getD s.toNat []:=hV s.toNat hsl fun j hj he=>by
   have e:((s.toNat:Nat):Int)=s:=by omega
   rw [e] at he
   have q1:=(hS j s he).2
   have q2:=(hS i s hs).2
   rw [q1] at q2
   injection q2 with q2
   omega
  have hts:=Xl V s.toNat
  rw [hVs,hg] at hts
  rw [hg]
  have hq:∀ a∈CI R[s.toNat],0<=a.2/\a.2<(num.length:Int):=fun a ha=>by
   have:=hb _ hrm a ((C8 _ a).1 ha);rw [hN.len];omega
  have hqe:∀ a∈CI R[s.toNat],0<=a.1/\a.1<=1025:=fun a ha=>by
   have:=hb _ hrm a ((C8 _ a).1 ha);omega
  have hl3:=Lx R[s.toNat]
  generalize CI R[s.toNat]=q at *
  have hN2:=NumOk.go q [] hN (by rw [<- hN.len];exact hq)
  have hn2:=Ke q num old []
  rw [hn2] at hN2 ⊢
  simp only at hN2 ⊢
  have hI2:=Je q hq hI
  have hS2:=Xa q hq hS
  obtain ⟨hm1,hm2⟩:=NC (old:=old) q hq
  have hgr:=WV q num old
  have hold:∀ (j:Nat) (x:Int),old[j]?=some x->(Ds q num old).2.1[j]?=some x:=fun j x h=>WL q h
  have hrow:SortA ((Ds q num old).2.2.foldl (fun acc a=>GR a acc) []):=WW _ _ List.Pairwise.nil
  have hrl:=Gr (Ds q num old).2.2 []
  have hrb:∀ a∈(Ds q num old).2.2.foldl (fun acc a=>GR a acc) [],0<=a.1/\a.1<=1025/\0<=a.2/\a.2<((Ds q num old).2.1.length:Int):=fun a ha=>by
   rw [Gq] at ha
   rcases ha with ha | ha
   ·simp at ha
   rw [hm1] at ha
   obtain ⟨b,hb1,rfl⟩:=List.mem_map.1 ha
   obtain ⟨x,hx,hp⟩:=hm2 b hb1
   have h1:=hqe b hb1
   have h2:=(List.getElem?_eq_some_iff.1 (hI2.inj _ _ hx hp)).1
   simp only [gE2,hx,Option.getD_some]
   omega
  rw [hm1,List.length_map] at hrl
  simp only [List.length_nil,Nat.zero_add] at hrl
  rw [<- hm1] at hrl
  generalize (Ds q num old).2.2.foldl (fun acc a=>GR a acc) []=nr at *
  generalize (Ds q num old).1=num2 at *
  generalize (Ds q num old).2.1=old2 at *
  obtain ⟨k1,k2,k3,k4⟩:=ih (i+1) num2 old2 (out++[nr]) (V.set s.toNat []) hN2 hI2 hS2 (by simp;omega) (by omega) (by omega) ⟨fun r hr=>by
   rcases List.mem_append.1 hr with h | h
   ·exact hG.so r h
   ·simp at h;subst h;exact hrow,fun r hr a ha=>by
   rcases List.mem_append.1 hr with h | h
   ·have:=hG.bd r h a ha;omega
   ·simp at h;subst h;exact hrb a ha⟩ (by simp [hVl]) (fun t htl hto=>by
   have hne:s.toNat ≠ t:=fun e=>hto i (by omega) (by rw [hold i s hs];congr 1;omega)
   rw [gE2,gE5 hne,<- gE2]
   exact hV t htl fun j hj he=>hto j (by omega) (hold j _ he)) (by rw [Lh];omega)
  exact ⟨by omega,k2,k3,k4⟩
theorem Wk {R:List (List Ar)} (h:Br R=true):Bg (CG R).1=true:=by
 have hp:Sn R:=gE4 h
 have h1:=hp.1
 obtain ⟨k1,k2,k3,k4⟩:=WX (B:=BP R) hp.2.2.2 R.length 0 _ _ [] R (NumOk.start h1) (NumInj.start h1) (NumSur.start h1) rfl (by simp) (by omega) ⟨by simp,by simp⟩ rfl (fun _ _ _=>rfl) (by simp [BP])
 have h2:=hp.2.1
 have h3:=hp.2.2.1
 simp only [List.length_singleton] at k1
 exact gEg ⟨⟨k1,Nat.le_trans k2 h2,Nat.le_trans k4 h3,k3.bd⟩,k3.so⟩
end Go.Proofs.YtjijjfkalheokaaDoor
