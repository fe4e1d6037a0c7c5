/- Lemmas. -/
import Derived.Test.YtjijjfkalheokaaDoorZk
import Derived.Test.YtjijjfkalheokaaDoorTy
import Derived.Test.YtjijjfkalheokaaDoorME
import Derived.Test.YtjijjfkalheokaaDoorTs1
import Derived.Test.YtjijjfkalheokaaDoorMD
namespace Go.Proofs.YtjijjfkalheokaaDoor
set_option linter.unusedVariables false
set_option linter.unusedSimpArgs false
open Go.RowKit

def Af (xs:List Int):List Tr:=xs.map fun x=>.v (.int .i64 x)
def AK (xs:List Int):AV:=.a (.c (.t 1 (Af xs)))
def C0 (L:List (List Int)):List Tr:=L.map fun r=>.l 1 (Af r)
def CB (L:List (List Int)):AV:=.a (.c (.t 1 (C0 L)))
def Al (xs:List (Int × Int)):List Tr:=xs.flatMap fun a=>[.v (.int .i64 a.1),.v (.int .i64 a.2)]
def CH (xs:List (Int × Int)):AV:=.a (.c (.t 2 (Al xs)))
def Ae (R:List (List (Int × Int))):List Tr:=R.map fun r=>.l 2 (Al r)
def BS (R:List (List (Int × Int))):AV:=.a (.g [.t 1 (Ae R)])
theorem A3 (xs:List Int):(Af xs).length=xs.length:=by simp [Af]
theorem BR (xs:List (List Int)):(C0 xs).length=xs.length:=by simp [C0]
theorem A6 (xs:List (List (Int × Int))):(Ae xs).length=xs.length:=by simp [Ae]
theorem A4 (xs:List (Int × Int)):(Al xs).length=xs.length*2:=by
 induction xs with
 | nil=>rfl
 | cons x r ih=>simp only [Al,List.flatMap_cons,List.length_append,List.length_cons,List.length_nil] at ih ⊢;omega
theorem Ap {xs:List Int} {i:Nat} {x:Int} (h:xs[i]?=some x):(Af xs)[i]?=some (.v (.int .i64 x)):=by simp [Af,h]
theorem DL {xs:List (List Int)} {i:Nat} {x:List Int} (h:xs[i]?=some x):(C0 xs)[i]?=some (.l 1 (Af x)):=by simp [C0,h]
theorem AQ {xs:List (List (Int × Int))} {i:Nat} {x:List (Int × Int)} (h:xs[i]?=some x):(Ae xs)[i]?=some (.l 2 (Al x)):=by simp [Ae,h]
theorem Nj (xs:List Int):(Af xs).map C.ofTr=xs.map fun x=>.v (.int .i64 x):=by simp [Af,C.ofTr,Function.comp_def]
theorem Nk (ρ:List Nat) (ts:List Tr):(ts.map C.ofTr).map (C.ren ρ)=ts.map C.ofTr:=by
 simp only [List.map_map]
 exact List.map_congr_left fun t _=>by cases t <;> rfl
theorem Pt (f:Nat->Nat) (ts:List Tr):(ts.map C.ofTr).map (C.up f)=ts.map C.ofTr:=by
 simp only [List.map_map]
 exact List.map_congr_left fun t _=>by cases t <;> rfl
attribute [go_sem] Nk Pt
set_option maxRecDepth 100000 in
theorem FM (ts:List Tr) (hn:ts.length<=100000000):FC Tryd.prog 38 [.a (.c (.t 2 ts))] [] (fun r o=>r=.a (.c (.s 0 (ts.length / 2)))/\o=[.r ⟨29,2,true,ts.map C.ofTr⟩]):=by
 refine A8 Tryd.func38 rfl (by rw [Tryd.ntmps38];simp) ?_
 rw [Tryd.ntmps38]
 simp only [Bs]
 (refine Ud ?_;(repeat clear hK K);repeat refine kq fun K hK=>?_)
 refine A9 rfl ?_;intro K1 hK1
 refine HZ rfl rfl Tryd.underlying30 (.inl rfl) (.inl ⟨2,ts,by simp only [go_sem],?_⟩)
 intro b hb
 simp only [go_sem]
 refine hK1 _ ?_;clear hK1 K1
 (refine Ud ?_;(repeat clear hK K);repeat refine kq fun K hK=>?_)
 (refine Aw ?_;intro X Y hX hY;simp only [go_sem])
 refine ⟨fun h=>hX ?_,fun h=>hY ?_⟩
 ·have hts:=hb h
  subst hts
  (refine Ud ?_;(repeat clear hK K);repeat refine kq fun K hK=>?_)
  refine AU ?_
  simp only [Ai]
  refine BQ (CK 2 29 2 ?_) ?_
  ·simp only [go_sem]
  exact L9 Tryd.results38
 clear hX hY X Y
 (refine Ud ?_;(repeat clear hK K);repeat refine kq fun K hK=>?_)
 refine AU ?_
 refine BQ (Ad [1] rfl rfl) ?_
 (try simp only [List.set_nil,List.take_nil,List.take_zero,List.map_append,go_sem])
 exact L9 Tryd.results38
end Go.Proofs.YtjijjfkalheokaaDoor
namespace Go.Proofs.YtjijjfkalheokaaDoor
set_option linter.unusedVariables false
set_option linter.unusedSimpArgs false
open Go.RowKit
set_option maxRecDepth 100000


end Go.Proofs.YtjijjfkalheokaaDoor
namespace Go.Proofs.YtjijjfkalheokaaDoor
set_option linter.unusedVariables false
set_option linter.unusedSimpArgs false
open Go.RowKit
set_option maxRecDepth 100000

end Go.Proofs.YtjijjfkalheokaaDoor
namespace Go.Proofs.YtjijjfkalheokaaDoor
set_option linter.unusedVariables false
set_option linter.unusedSimpArgs false
open Go.RowKit
set_option maxRecDepth 100000

theorem Y3 (v n:Int) (hn:1<=n) : -n<v.tmod n/\v.tmod n<n:=by
 by_cases h:0<=v
 ·rw [Int.tmod_eq_emod_of_nonneg h]
  have h1:=Int.emod_nonneg v (show n ≠ 0 by omega)
  exact ⟨by omega,Int.emod_lt_of_pos _ (by omega)⟩
 have h1:v.tmod n = -((-v).tmod n):=by rw [Int.neg_tmod];omega
 have h2:=Int.emod_nonneg (-v) (show n ≠ 0 by omega)
 have h3:=Int.emod_lt_of_pos (-v) (show 0<n by omega)
 rw [h1,Int.tmod_eq_emod_of_nonneg (show 0 <= -v by omega)]
 omega

def tape (T:List Int) (a:Nat):Ob:=.r ⟨54,2,false,[.t 1 (Af T),.v (.int .i64 a)]⟩
structure TpOk (T:List Int):Prop where
 len:T.length<=9223372036854775807
 in_:∀ x∈T,MP x
theorem Yr (T:List Int):FC Tryd.prog 9 [AK T] [] (fun r o=>r=.a (.c (.p 0 0))/\o=[tape T 0]):=by
 refine A8 Tryd.func9 rfl (by rw [Tryd.ntmps9];simp) ?_
 rw [Tryd.ntmps9]
 simp only [Bs,AK]
 (refine Ue (an @List.set_cons_zero.{0} @List.set_cons_succ.{0}) ?_;(repeat clear hK K);repeat refine kq fun K hK=>?_)
 refine Uq Tryd.results9 ?_
 rfl

theorem Wz (T:List Int) (a:Nat) (n:Int) (hT:TpOk T) (ha:a<=1000000000) (hn:n<=1000000000):
  FC Tryd.prog 26 [.a (.c (.p 0 0)),.i n] [tape T a] (fun r o=>o=[tape T (a+1)]/\∃ v:Nat,r=.i v/\((v:Int)<n\/v=0)):=by
 refine A8 Tryd.func26 rfl (by rw [Tryd.ntmps26];simp) ?_
 rw [Tryd.ntmps26]
 simp only [Bs,tape]
 have hl:=hT.len
 (refine Ud ?_;(repeat clear hK K);repeat refine kq fun K hK=>?_)
 (refine Ag 9 [(0,0),(1,0),(2,0),(3,1),(4,0),(5,0),(6,0),(7,1),(8,0),(9,2)] (by kernel_rfl) (by kernel_rfl) (by intro c st h;simp [Ai,AX,Tz] at h) ?_)
 (refine Ua @A3 ?_;repeat clear hK K)
 (refine Aw ?_;intro X Y hX hY;simp only [go_sem])
 refine ⟨fun h=>hX ?_,fun h=>hY ?_⟩
 rotate_left
 ·clear hX hY X Y h
  (refine Ue (an @List.set_cons_zero.{0} @List.set_cons_succ.{0}) ?_;(repeat clear hK K);repeat refine kq fun K hK=>?_)
  (refine Aw ?_;intro X Y hX hY;simp only [go_sem])
  refine ⟨fun h=>hX ?_,fun h=>hY ?_⟩
  ·clear hX hY X Y
   (refine Ud ?_;(repeat clear hK K);repeat refine kq fun K hK=>?_)
   refine Uq Tryd.results26 ?_
   exact ⟨rfl,0,rfl,.inr rfl⟩
  have hn1:1<=n:=by simp at h;omega
  have hb:=Y3 (5*(a:Int)+3) n hn1
  clear hX hY X Y
  (refine Ud ?_;(repeat clear hK K);repeat refine kq fun K hK=>?_)
  (refine Aw ?_;intro X Y hX hY;simp only [go_sem])
  refine ⟨fun h=>hX ?_,fun h=>hY ?_⟩
  rotate_left
  ·clear hX hY X Y
   have h1:0<=Int.tmod (5*(a:Int)+3) n:=by simpa using h
   (refine Ud ?_;(repeat clear hK K);repeat refine kq fun K hK=>?_)
   refine Uq Tryd.results26 ?_
   exact ⟨rfl,(Int.tmod (5*(a:Int)+3) n).toNat,by rw [Int.toNat_of_nonneg (by omega)],.inl (by omega)⟩
  clear hX hY X Y
  have h1:Int.tmod (5*(a:Int)+3) n<0:=by simpa using h
  (refine Ud ?_;(repeat clear hK K);repeat refine kq fun K hK=>?_)
  refine Uq Tryd.results26 ?_
  exact ⟨rfl,(Int.tmod (5*(a:Int)+3) n+n).toNat,by rw [Int.toNat_of_nonneg (by omega)],.inl (by omega)⟩
 have hlt:a<T.length:=by simpa using h
 have hv:=hT.in_ _ (gE6 hlt)
 simp only [MP] at hv
 clear hX hY X Y h
 (refine Ag 10 [(0,0),(1,0),(2,0),(3,1),(4,0),(5,0),(6,0),(7,1),(8,0),(9,1),(10,2)] (by kernel_rfl) (by kernel_rfl) (by intro c st h;simp [Ai,AX,Tz] at h) ?_)
 (refine Ua (an @A3 (Ap (gE1 hlt))) ?_;repeat clear hK K)
 (refine Ue (an @List.set_cons_zero.{0} @List.set_cons_succ.{0}) ?_;(repeat clear hK K);repeat refine kq fun K hK=>?_)
 (refine Aw ?_;intro X Y hX hY;simp only [go_sem])
 refine ⟨fun h=>hX ?_,fun h=>hY ?_⟩
 ·clear hX hY X Y
  (refine Ud ?_;(repeat clear hK K);repeat refine kq fun K hK=>?_)
  refine Uq Tryd.results26 ?_
  exact ⟨rfl,0,rfl,.inr rfl⟩
 have hn1:1<=n:=by simp at h;omega
 have hb:=Y3 (T[a]) n hn1
 clear hX hY X Y
 (refine Ud ?_;(repeat clear hK K);repeat refine kq fun K hK=>?_)
 (refine Aw ?_;intro X Y hX hY;simp only [go_sem])
 refine ⟨fun h=>hX ?_,fun h=>hY ?_⟩
 rotate_left
 ·clear hX hY X Y
  have h1:0<=Int.tmod (T[a]) n:=by simpa using h
  (refine Ud ?_;(repeat clear hK K);repeat refine kq fun K hK=>?_)
  refine Uq Tryd.results26 ?_
  exact ⟨rfl,(Int.tmod (T[a]) n).toNat,by rw [Int.toNat_of_nonneg (by omega)],.inl (by omega)⟩
 clear hX hY X Y
 have h1:Int.tmod (T[a]) n<0:=by simpa using h
 (refine Ud ?_;(repeat clear hK K);repeat refine kq fun K hK=>?_)
 refine Uq Tryd.results26 ?_
 exact ⟨rfl,(Int.tmod (T[a]) n+n).toNat,by rw [Int.toNat_of_nonneg (by omega)],.inl (by omega)⟩

/-! rows of numbers -/
def A5 (xs:List Int):List C:=xs.map fun x=>C.v (.int .i64 x)
def Am (xs:List Int):Ob:=.r ⟨3,1,true,A5 xs⟩
theorem A2 (xs:List Int):(A5 xs).length=xs.length:=by simp [A5]
theorem Ak {xs:List Int} {i:Nat} {x:Int} (h:xs[i]?=some x):(A5 xs)[i]?=some (.v (.int .i64 x)):=by simp [A5,h]
theorem AB (xs:List Int) (n:Nat):(A5 xs).take n=A5 (xs.take n):=by simp [A5,List.map_take]
theorem AN (xs:List Int) (n:Nat):(A5 xs).drop n=A5 (xs.drop n):=by simp [A5,List.map_drop]
theorem B5 (xs ys:List Int):A5 xs++A5 ys=A5 (xs++ys):=by simp [A5]
theorem AY (xs:List Int):(A5 xs).all C.one=true:=by simp [A5,C.one]
theorem Az (xs:List Int) (x:Int):A5 xs++[.v (.int .i64 x)]=A5 (xs++[x]):=by simp [A5]
theorem A7 (f:List Nat) (L:List Int):(A5 L).map (C.ren f)=A5 L:=by simp [A5,C.ren,Function.comp_def]
theorem Bw (f:Nat->Nat) (L:List Int):(A5 L).map (C.up f)=A5 L:=by simp [A5,C.up,Function.comp_def]
theorem AC (xs:List Int) (n:Nat):(Af xs).take n=Af (xs.take n):=by simp [Af,List.map_take]
theorem AO (xs:List Int) (n:Nat):(Af xs).drop n=Af (xs.drop n):=by simp [Af,List.map_drop]
theorem Bz (xs:List Int):(Af xs).map C.ofTr=A5 xs:=Nj xs
theorem I9 (L:List Int):Fz (A5 L) (Af L):=by unfold A5 Af;exact Fz.map fun x _=>.inl rfl
abbrev Ar:=Int × Int
def Ut (a b:Ar):Bool:=decide (a.1<b.1) || (a.1 == b.1 && decide (a.2<b.2))
theorem BA {a b:Ar}:Ut a b=true↔a.1<b.1\/(a.1=b.1/\a.2<b.2):=by simp [Ut]
theorem E3 (a:Ar):Ut a a=false:=by simp [Ut]
theorem Cq {a b c:Ar} (h1:Ut a b=true) (h2:Ut b c=true):Ut a c=true:=by
 rw [BA] at *;omega
theorem Gi (a b:Ar):Ut a b=true\/a=b\/Ut b a=true:=by
 rw [BA,BA]
 obtain ⟨a1,a2⟩:=a
 obtain ⟨b1,b2⟩:=b
 simp only [Prod.mk.injEq]
 omega
def GR (x:Ar):List Ar->List Ar
 | []=>[x]
 | y :: ys=>if Ut y x then y :: GR x ys else if y=x then y :: ys else x :: y :: ys
theorem Gj (x a:Ar) (l:List Ar):a∈GR x l↔a=x\/a∈l:=by
 induction l with
 | nil=>simp [GR]
 | cons y ys ih=>
  simp only [GR]
  split
  ·simp [ih];constructor <;> (intro h;rcases h with h | h | h <;> simp [h])
  split
  ·rename_i h;subst h;simp
  simp
theorem Nl (x:Ar) (l:List Ar):(GR x l).length<=l.length+1:=by
 induction l with
 | nil=>simp [GR]
 | cons y ys ih=>
  simp only [GR]
  split
  ·simp;omega
  split <;> simp
def SortA (l:List Ar):Prop:=l.Pairwise fun a b=>Ut a b=true
theorem Ld {x:Ar} {l:List Ar} (h:SortA l):SortA (GR x l):=by
 unfold SortA at *
 induction l with
 | nil=>simp [GR]
 | cons y ys ih=>
  rw [List.pairwise_cons] at h
  simp only [GR]
  split
  ·rename_i hl
   rw [List.pairwise_cons]
   refine ⟨fun a ha=>?_,ih h.2⟩
   rcases (Gj x a ys).1 ha with rfl | ha
   ·exact hl
   exact h.1 a ha
  split
  ·exact List.pairwise_cons.2 h
  rename_i hl hne
  have hxy:Ut x y=true:=by
   rcases Gi x y with h | h | h
   ·exact h
   ·exact absurd h.symm hne
   exact absurd h hl
  rw [List.pairwise_cons]
  refine ⟨fun a ha=>?_,List.pairwise_cons.2 h⟩
  rcases List.mem_cons.1 ha with rfl | ha
  ·exact hxy
  exact Cq hxy (h.1 a ha)
theorem Xj {x:Ar}:∀ {xs:List Ar} {k:Nat},k<=xs.length->(∀ i y,i<k->xs[i]?=some y->Ut y x=true)->(∀ y,xs[k]?=some y->Ut y x=false/\y ≠ x)->GR x xs=xs.take k++x :: xs.drop k
 | [],k,hk,_,_=>by simp at hk;subst hk;rfl
 | y :: ys,0,_,_,h2=>by
  obtain ⟨h3,h4⟩:=h2 y rfl
  simp only [GR,List.take_zero,List.drop_zero,List.nil_append]
  rw [if_neg (by rw [h3];simp),if_neg h4]
 | y :: ys,k+1,hk,h1,h2=>by
  have:=h1 0 y (by omega) rfl
  simp only [GR,List.take_succ_cons,List.drop_succ_cons,List.cons_append]
  rw [if_pos this,Xj (by simpa using hk) (fun i z hi hz=>h1 (i+1) z (by omega) hz) (fun z hz=>h2 z hz)]
theorem X9 {x:Ar}:∀ {xs:List Ar} {k:Nat},(∀ i y,i<k->xs[i]?=some y->Ut y x=true)->xs[k]?=some x->GR x xs=xs
 | [],k,_,h=>by simp at h
 | y :: ys,0,_,h=>by simp at h;subst h;simp [GR,E3]
 | y :: ys,k+1,h1,h=>by
  have:=h1 0 y (by omega) rfl
  simp only [GR]
  rw [if_pos this,X9 (fun i z hi hz=>h1 (i+1) z (by omega) hz) h]
def OkRow (k m:Nat) (r:List Ar):Prop:=SortA r/\r.length<=k/\∀ a∈r,0<=a.1/\a.1<=1025/\0<=a.2/\a.2<m
def OkSys (k m:Nat) (R:List (List Ar)):Prop:=R.length=m/\∀ r∈R,OkRow k m r
theorem OkRow.ins {k m : Nat} {r : List Ar} (h : OkRow k m r) {x : Ar} (hx : 0 <= x.1 /\ x.1 <= 1025 /\ 0 <= x.2 /\ x.2 < m) : OkRow (k + 1) m (GR x r) :=
 ⟨Ld h.1, Nat.le_trans (Nl x r) (by have := h.2.1; omega), fun a ha => by
  rcases (Gj x a r).1 ha with rfl | ha
  ·exact hx
  ·exact h.2.2 a ha⟩
theorem OkRow.le {k k' m:Nat} {r:List Ar} (h:OkRow k m r) (hk:k<=k'):OkRow k' m r:=⟨h.1,Nat.le_trans h.2.1 hk,h.2.2⟩
theorem OkSys.le {k k' m:Nat} {R:List (List Ar)} (h:OkSys k m R) (hk:k<=k'):OkSys k' m R:=⟨h.1,fun r hr=>(h.2 r hr).le hk⟩
theorem OkSys.set {k m : Nat} {R : List (List Ar)} (h : OkSys k m R) {r : List Ar} (hr : OkRow k m r) (s : Nat) : OkSys k m (R.set s r) :=
 ⟨by simp [h.1], fun q hq => by
  rcases List.mem_or_eq_of_mem_set hq with hq | rfl
  ·exact h.2 q hq
  ·exact hr⟩

/-! trees and cells -/
open Go.RowKit
def Ao (xs:List Ar):List C:=xs.flatMap fun a=>[C.v (.int .i64 a.1),C.v (.int .i64 a.2)]
def Bd (R:List (List Ar)):List C:=R.map fun r=>C.t 2 (Al r)
theorem Aq (xs:List Ar):(Ao xs).length=xs.length*2:=by
 induction xs with
 | nil=>rfl
 | cons x r ih=>
  have:Ao (x :: r)=[C.v (.int .i64 x.1),C.v (.int .i64 x.2)]++Ao r:=rfl
  rw [this,List.length_append,ih,List.length_cons];simp;omega
theorem F1 (xs ys:List Ar):Ao xs++Ao ys=Ao (xs++ys):=by simp [Ao]
theorem K5 (xs:List Ar) (x y:Int):Ao xs++[.v (.int .i64 x),.v (.int .i64 y)]=Ao (xs++[(x,y)]):=by simp [Ao]
theorem WB (xs:List Ar):(Ao xs).all C.one=true:=by simp [Ao,C.one]
theorem Lf (xs:List Ar):(Al xs).map C.ofTr=Ao xs:=by simp [Al,Ao,List.map_flatMap,C.ofTr]
theorem E4 {α β:Type} (f:α->List β) (hf:∀ a,(f a).length=2):∀ (xs:List α) (n:Nat),(xs.flatMap f).take (n*2)=(xs.take n).flatMap f
 | [],n=>by simp
 | x :: r,0=>by simp
 | x :: r,n+1=>by
  simp only [List.flatMap_cons,List.take_succ_cons]
  rw [show (n+1)*2=(f x).length+n*2 by rw [hf];omega,List.take_length_add_append,E4 f hf r n]
theorem FN {α β:Type} (f:α->List β) (hf:∀ a,(f a).length=2):∀ (xs:List α) (n:Nat),(xs.flatMap f).drop (n*2)=(xs.drop n).flatMap f
 | [],n=>by simp
 | x :: r,0=>by simp
 | x :: r,n+1=>by
  simp only [List.flatMap_cons,List.drop_succ_cons]
  rw [show (n+1)*2=(f x).length+n*2 by rw [hf];omega,List.drop_length_add_append,FN f hf r n]
theorem CZ (xs:List Ar) (n:Nat):(Al xs).take (n*2)=Al (xs.take n):=E4 _ (fun _=>rfl) xs n
theorem FO (xs:List Ar) (n:Nat):(Al xs).drop (n*2)=Al (xs.drop n):=FN _ (fun _=>rfl) xs n
theorem FP (xs:List Ar) (n:Nat):(Ao xs).take (n*2)=Ao (xs.take n):=E4 _ (fun _=>rfl) xs n
theorem AH {xs:List Ar} {i:Nat} (h:i<xs.length):(((Al xs).drop (i*2)).take 2)=[.v (.int .i64 xs[i].1),.v (.int .i64 xs[i].2)]:=by
 rw [FO]
 have e:xs.drop i=xs[i] :: xs.drop (i+1):=List.drop_eq_getElem_cons h
 rw [e]
 rfl
theorem Dp (L:List Ar):Fz (Ao L) (Al L):=by
 unfold Ao Al
 exact Fz.flatMap fun x _=>⟨.inl rfl,.inl rfl,trivial⟩
theorem F2 (xs:List (List Ar)):(Bd xs).length=xs.length:=by simp [Bd]
theorem WC {xs:List (List Ar)} {i:Nat} {x:List Ar} (h:xs[i]?=some x):(Bd xs)[i]?=some (.t 2 (Al x)):=by simp [Bd,h]
theorem WU (xs:List (List Ar)) (i:Nat) (x:List Ar):(Bd xs).set i (.t 2 (Al x))=Bd (xs.set i x):=by simp [Bd,List.map_set]
theorem F3 (f:List Nat) (L:List (List Ar)):(Bd L).map (C.ren f)=Bd L:=by simp [Bd,C.ren,Function.comp_def]
theorem Ws (f:Nat->Nat) (L:List (List Ar)):(Bd L).map (C.up f)=Bd L:=by simp [Bd,C.up,Function.comp_def]
theorem F4 (L:List (List Ar)):Fz (Bd L) (Ae L):=by unfold Bd Ae;exact Fz.map fun x _=>.inl rfl
end Go.Proofs.YtjijjfkalheokaaDoor
