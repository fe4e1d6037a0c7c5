/- Lemmas. -/
import Derived.Test.YtjijjfkalheokaaGreatDoorZk
import Derived.Test.YtjijjfkalheokaaGreatDoorTy
import Derived.Test.YtjijjfkalheokaaGreatDoorME
import Derived.Test.YtjijjfkalheokaaGreatDoorTs1
import Derived.Test.YtjijjfkalheokaaGreatDoorMD
namespace Go.Proofs.YtjijjfkalheokaaGreatDoor
set_option linter.unusedVariables false
set_option linter.unusedSimpArgs false
open Go.RowKit

def Ab (xs:List Int):List Tr:=xs.map fun x=>.v (.int .i64 x)
def As (xs:List Int):AV:=.a (.c (.t 1 (Ab xs)))
def Co (L:List (List Int)):List Tr:=L.map fun r=>.l 1 (Ab r)
def Bl (L:List (List Int)):AV:=.a (.c (.t 1 (Co L)))
def Ao (xs:List (Int × Int)):List Tr:=xs.flatMap fun a=>[.v (.int .i64 a.1),.v (.int .i64 a.2)]
def BK (xs:List (Int × Int)):AV:=.a (.c (.t 2 (Ao xs)))
def Ah (R:List (List (Int × Int))):List Tr:=R.map fun r=>.l 2 (Ao r)
def B7 (R:List (List (Int × Int))):AV:=.a (.g [.t 1 (Ah R)])
theorem A4 (xs:List Int):(Ab xs).length=xs.length:=by simp [Ab]
theorem BL (xs:List (List Int)):(Co xs).length=xs.length:=by simp [Co]
theorem A3 (xs:List (List (Int × Int))):(Ah xs).length=xs.length:=by simp [Ah]
theorem A2 (xs:List (Int × Int)):(Ao xs).length=xs.length*2:=by
 induction xs with
 | nil=>rfl
 | cons x r ih=>simp only [Ao,List.flatMap_cons,List.length_append,List.length_cons,List.length_nil] at ih ⊢;omega
theorem Am {xs:List Int} {i:Nat} {x:Int} (h:xs[i]?=some x):(Ab xs)[i]?=some (.v (.int .i64 x)):=by simp [Ab,h]
theorem DA {xs:List (List Int)} {i:Nat} {x:List Int} (h:xs[i]?=some x):(Co xs)[i]?=some (.l 1 (Ab x)):=by simp [Co,h]
theorem Ag {xs:List (List (Int × Int))} {i:Nat} {x:List (Int × Int)} (h:xs[i]?=some x):(Ah xs)[i]?=some (.l 2 (Ao x)):=by simp [Ah,h]
theorem Ps (xs:List Int):(Ab xs).map C.ofTr=xs.map fun x=>.v (.int .i64 x):=by simp [Ab,C.ofTr,Function.comp_def]
theorem Dj (ρ:List Nat) (ts:List Tr):(ts.map C.ofTr).map (C.ren ρ)=ts.map C.ofTr:=by
 simp only [List.map_map]
 exact List.map_congr_left fun t _=>by cases t <;> rfl
theorem RJ (f:Nat->Nat) (ts:List Tr):(ts.map C.ofTr).map (C.up f)=ts.map C.ofTr:=by
 simp only [List.map_map]
 exact List.map_congr_left fun t _=>by cases t <;> rfl
attribute [go_sem] Dj RJ
set_option maxRecDepth 100000 in
theorem GQ (ts:List Tr) (hn:ts.length<=100000000):FC Tryz.prog 66 [.a (.c (.t 2 ts))] [] (fun r o=>r=.a (.c (.s 0 (ts.length / 2)))/\o=[.r ⟨46,2,true,ts.map C.ofTr⟩]):=by
 refine A6 Tryz.func66 rfl (by rw [Tryz.ntmps66];simp) ?_
 rw [Tryz.ntmps66]
 simp only [Bf]
 (refine Wt ?_;(repeat clear hK K);repeat refine kq fun K hK=>?_)
 refine Ai rfl ?_;intro K1 hK1
 refine J4 rfl rfl Tryz.underlying42 (.inl rfl) (.inl ⟨2,ts,by simp only [go_sem],?_⟩)
 intro b hb
 simp only [go_sem]
 refine hK1 _ ?_;clear hK1 K1
 (refine Wt ?_;(repeat clear hK K);repeat refine kq fun K hK=>?_)
 (refine At ?_;intro X Y hX hY;simp only [go_sem])
 refine ⟨fun h=>hX ?_,fun h=>hY ?_⟩
 ·have hts:=hb h
  subst hts
  (refine Wt ?_;(repeat clear hK K);repeat refine kq fun K hK=>?_)
  refine Av ?_
  simp only [Ae]
  refine B6 (CT 2 46 2 ?_) ?_
  ·simp only [go_sem]
  exact M6 Tryz.results66
 clear hX hY X Y
 (refine Wt ?_;(repeat clear hK K);repeat refine kq fun K hK=>?_)
 refine Av ?_
 refine B6 (A9 [1] rfl rfl) ?_
 (try simp only [List.set_nil,List.take_nil,List.take_zero,List.map_append,go_sem])
 exact M6 Tryz.results66
end Go.Proofs.YtjijjfkalheokaaGreatDoor
namespace Go.Proofs.YtjijjfkalheokaaGreatDoor
set_option linter.unusedVariables false
set_option linter.unusedSimpArgs false
open Go.RowKit
set_option maxRecDepth 100000


end Go.Proofs.YtjijjfkalheokaaGreatDoor
namespace Go.Proofs.YtjijjfkalheokaaGreatDoor
set_option linter.unusedVariables false
set_option linter.unusedSimpArgs false
open Go.RowKit
set_option maxRecDepth 100000

end Go.Proofs.YtjijjfkalheokaaGreatDoor
namespace Go.Proofs.YtjijjfkalheokaaGreatDoor
set_option linter.unusedVariables false
set_option linter.unusedSimpArgs false
open Go.RowKit
set_option maxRecDepth 100000

theorem R5 (v n:Int) (hn:1<=n) : -n<v.tmod n/\v.tmod n<n:=by
 by_cases h:0<=v
 ·rw [Int.tmod_eq_emod_of_nonneg h]
  have h1:=Int.emod_nonneg v (show n ≠ 0 by omega)
  exact ⟨by omega,Int.emod_lt_of_pos _ (by omega)⟩
 have h1:v.tmod n = -((-v).tmod n):=by rw [Int.neg_tmod];omega
 have h2:=Int.emod_nonneg (-v) (show n ≠ 0 by omega)
 have h3:=Int.emod_lt_of_pos (-v) (show 0<n by omega)
 rw [h1,Int.tmod_eq_emod_of_nonneg (show 0 <= -v by omega)]
 omega

def tape (T:List Int) (a:Nat):Ob:=.r ⟨41,2,false,[.t 1 (Ab T),.v (.int .i64 a)]⟩
structure TpOk (T:List Int):Prop where
 len:T.length<=9223372036854775807
 in_:∀ x∈T,Ld x
theorem TV (T:List Int):FC Tryz.prog 7 [As T] [] (fun r o=>r=.a (.c (.p 0 0))/\o=[tape T 0]):=by
 refine A6 Tryz.func7 rfl (by rw [Tryz.ntmps7];simp) ?_
 rw [Tryz.ntmps7]
 simp only [Bf,As]
 (refine Wu (an @List.set_cons_zero.{0} @List.set_cons_succ.{0}) ?_;(repeat clear hK K);repeat refine kq fun K hK=>?_)
 refine WH Tryz.results7 ?_
 rfl

theorem Dk (T:List Int) (a:Nat) (n:Int) (hT:TpOk T) (ha:a<=1000000000) (hn:n<=1000000000):
  FC Tryz.prog 32 [.a (.c (.p 0 0)),.i n] [tape T a] (fun r o=>o=[tape T (a+1)]/\∃ v:Nat,r=.i v/\((v:Int)<n\/v=0)):=by
 refine A6 Tryz.func32 rfl (by rw [Tryz.ntmps32];simp) ?_
 rw [Tryz.ntmps32]
 simp only [Bf,tape]
 have hl:=hT.len
 (refine Wt ?_;(repeat clear hK K);repeat refine kq fun K hK=>?_)
 (refine Ac 9 [(0,0),(1,0),(2,0),(3,1),(4,0),(5,0),(6,0),(7,1),(8,0),(9,2)] (by kernel_rfl) (by kernel_rfl) (by intro c st h;simp [Ae,AF,VT] at h) ?_)
 (refine Wq @A4 ?_;repeat clear hK K)
 (refine At ?_;intro X Y hX hY;simp only [go_sem])
 refine ⟨fun h=>hX ?_,fun h=>hY ?_⟩
 rotate_left
 ·clear hX hY X Y h
  (refine Wu (an @List.set_cons_zero.{0} @List.set_cons_succ.{0}) ?_;(repeat clear hK K);repeat refine kq fun K hK=>?_)
  (refine At ?_;intro X Y hX hY;simp only [go_sem])
  refine ⟨fun h=>hX ?_,fun h=>hY ?_⟩
  ·clear hX hY X Y
   (refine Wt ?_;(repeat clear hK K);repeat refine kq fun K hK=>?_)
   refine WH Tryz.results32 ?_
   exact ⟨rfl,0,rfl,.inr rfl⟩
  have hn1:1<=n:=by simp at h;omega
  have hb:=R5 (5*(a:Int)+3) n hn1
  clear hX hY X Y
  (refine Wt ?_;(repeat clear hK K);repeat refine kq fun K hK=>?_)
  (refine At ?_;intro X Y hX hY;simp only [go_sem])
  refine ⟨fun h=>hX ?_,fun h=>hY ?_⟩
  rotate_left
  ·clear hX hY X Y
   have h1:0<=Int.tmod (5*(a:Int)+3) n:=by simpa using h
   (refine Wt ?_;(repeat clear hK K);repeat refine kq fun K hK=>?_)
   refine WH Tryz.results32 ?_
   exact ⟨rfl,(Int.tmod (5*(a:Int)+3) n).toNat,by rw [Int.toNat_of_nonneg (by omega)],.inl (by omega)⟩
  clear hX hY X Y
  have h1:Int.tmod (5*(a:Int)+3) n<0:=by simpa using h
  (refine Wt ?_;(repeat clear hK K);repeat refine kq fun K hK=>?_)
  refine WH Tryz.results32 ?_
  exact ⟨rfl,(Int.tmod (5*(a:Int)+3) n+n).toNat,by rw [Int.toNat_of_nonneg (by omega)],.inl (by omega)⟩
 have hlt:a<T.length:=by simpa using h
 have hv:=hT.in_ _ (gE6 hlt)
 simp only [Ld] at hv
 clear hX hY X Y h
 (refine Ac 10 [(0,0),(1,0),(2,0),(3,1),(4,0),(5,0),(6,0),(7,1),(8,0),(9,1),(10,2)] (by kernel_rfl) (by kernel_rfl) (by intro c st h;simp [Ae,AF,VT] at h) ?_)
 (refine Wq (an @A4 (Am (gE1 hlt))) ?_;repeat clear hK K)
 (refine Wu (an @List.set_cons_zero.{0} @List.set_cons_succ.{0}) ?_;(repeat clear hK K);repeat refine kq fun K hK=>?_)
 (refine At ?_;intro X Y hX hY;simp only [go_sem])
 refine ⟨fun h=>hX ?_,fun h=>hY ?_⟩
 ·clear hX hY X Y
  (refine Wt ?_;(repeat clear hK K);repeat refine kq fun K hK=>?_)
  refine WH Tryz.results32 ?_
  exact ⟨rfl,0,rfl,.inr rfl⟩
 have hn1:1<=n:=by simp at h;omega
 have hb:=R5 (T[a]) n hn1
 clear hX hY X Y
 (refine Wt ?_;(repeat clear hK K);repeat refine kq fun K hK=>?_)
 (refine At ?_;intro X Y hX hY;simp only [go_sem])
 refine ⟨fun h=>hX ?_,fun h=>hY ?_⟩
 rotate_left
 ·clear hX hY X Y
  have h1:0<=Int.tmod (T[a]) n:=by simpa using h
  (refine Wt ?_;(repeat clear hK K);repeat refine kq fun K hK=>?_)
  refine WH Tryz.results32 ?_
  exact ⟨rfl,(Int.tmod (T[a]) n).toNat,by rw [Int.toNat_of_nonneg (by omega)],.inl (by omega)⟩
 clear hX hY X Y
 have h1:Int.tmod (T[a]) n<0:=by simpa using h
 (refine Wt ?_;(repeat clear hK K);repeat refine kq fun K hK=>?_)
 refine WH Tryz.results32 ?_
 exact ⟨rfl,(Int.tmod (T[a]) n+n).toNat,by rw [Int.toNat_of_nonneg (by omega)],.inl (by omega)⟩

/-! rows of numbers -/
def A7 (xs:List Int):List C:=xs.map fun x=>C.v (.int .i64 x)
def AA (xs:List Int):Ob:=.r ⟨3,1,true,A7 xs⟩
theorem A5 (xs:List Int):(A7 xs).length=xs.length:=by simp [A7]
theorem Aq {xs:List Int} {i:Nat} {x:Int} (h:xs[i]?=some x):(A7 xs)[i]?=some (.v (.int .i64 x)):=by simp [A7,h]
theorem AG (xs:List Int) (n:Nat):(A7 xs).take n=A7 (xs.take n):=by simp [A7,List.map_take]
theorem AM (xs:List Int) (n:Nat):(A7 xs).drop n=A7 (xs.drop n):=by simp [A7,List.map_drop]
theorem B1 (xs ys:List Int):A7 xs++A7 ys=A7 (xs++ys):=by simp [A7]
theorem AU (xs:List Int):(A7 xs).all C.one=true:=by simp [A7,C.one]
theorem AE (xs:List Int) (x:Int):A7 xs++[.v (.int .i64 x)]=A7 (xs++[x]):=by simp [A7]
theorem Af (f:List Nat) (L:List Int):(A7 L).map (C.ren f)=A7 L:=by simp [A7,C.ren,Function.comp_def]
theorem BQ (f:Nat->Nat) (L:List Int):(A7 L).map (C.up f)=A7 L:=by simp [A7,C.up,Function.comp_def]
theorem Az (xs:List Int) (n:Nat):(Ab xs).take n=Ab (xs.take n):=by simp [Ab,List.map_take]
theorem AN (xs:List Int) (n:Nat):(Ab xs).drop n=Ab (xs.drop n):=by simp [Ab,List.map_drop]
theorem Bm (xs:List Int):(Ab xs).map C.ofTr=A7 xs:=Ps xs
theorem EM (L:List Int):Fz (A7 L) (Ab L):=by unfold A7 Ab;exact Fz.map fun x _=>.inl rfl
abbrev Ar:=Int × Int
def WK (a b:Ar):Bool:=decide (a.1<b.1) || (a.1 == b.1 && decide (a.2<b.2))
theorem C0 {a b:Ar}:WK a b=true↔a.1<b.1\/(a.1=b.1/\a.2<b.2):=by simp [WK]
theorem Ef (a:Ar):WK a a=false:=by simp [WK]
theorem D7 {a b c:Ar} (h1:WK a b=true) (h2:WK b c=true):WK a c=true:=by
 rw [C0] at *;omega
theorem Hh (a b:Ar):WK a b=true\/a=b\/WK b a=true:=by
 rw [C0,C0]
 obtain ⟨a1,a2⟩:=a
 obtain ⟨b1,b2⟩:=b
 simp only [Prod.mk.injEq]
 omega
def D1 (x:Ar):List Ar->List Ar
 | []=>[x]
 | y :: ys=>if WK y x then y :: D1 x ys else if y=x then y :: ys else x :: y :: ys
theorem FH (x a:Ar) (l:List Ar):a∈D1 x l↔a=x\/a∈l:=by
 induction l with
 | nil=>simp [D1]
 | cons y ys ih=>
  simp only [D1]
  split
  ·simp [ih];constructor <;> (intro h;rcases h with h | h | h <;> simp [h])
  split
  ·rename_i h;subst h;simp
  simp
theorem DO (x:Ar) (l:List Ar):(D1 x l).length<=l.length+1:=by
 induction l with
 | nil=>simp [D1]
 | cons y ys ih=>
  simp only [D1]
  split
  ·simp;omega
  split <;> simp
def SortA (l:List Ar):Prop:=l.Pairwise fun a b=>WK a b=true
theorem Ii {x:Ar} {l:List Ar} (h:SortA l):SortA (D1 x l):=by
 unfold SortA at *
 induction l with
 | nil=>simp [D1]
 | cons y ys ih=>
  rw [List.pairwise_cons] at h
  simp only [D1]
  split
  ·rename_i hl
   rw [List.pairwise_cons]
   refine ⟨fun a ha=>?_,ih h.2⟩
   rcases (FH x a ys).1 ha with rfl | ha
   ·exact hl
   exact h.1 a ha
  split
  ·exact List.pairwise_cons.2 h
  rename_i hl hne
  have hxy:WK x y=true:=by
   rcases Hh x y with h | h | h
   ·exact h
   ·exact absurd h.symm hne
   exact absurd h hl
  rw [List.pairwise_cons]
  refine ⟨fun a ha=>?_,List.pairwise_cons.2 h⟩
  rcases List.mem_cons.1 ha with rfl | ha
  ·exact hxy
  exact D7 hxy (h.1 a ha)
theorem MI {x:Ar}:∀ {xs:List Ar} {k:Nat},k<=xs.length->(∀ i y,i<k->xs[i]?=some y->WK y x=true)->(∀ y,xs[k]?=some y->WK y x=false/\y ≠ x)->D1 x xs=xs.take k++x :: xs.drop k
 | [],k,hk,_,_=>by simp at hk;subst hk;rfl
 | y :: ys,0,_,_,h2=>by
  obtain ⟨h3,h4⟩:=h2 y rfl
  simp only [D1,List.take_zero,List.drop_zero,List.nil_append]
  rw [if_neg (by rw [h3];simp),if_neg h4]
 | y :: ys,k+1,hk,h1,h2=>by
  have:=h1 0 y (by omega) rfl
  simp only [D1,List.take_succ_cons,List.drop_succ_cons,List.cons_append]
  rw [if_pos this,MI (by simpa using hk) (fun i z hi hz=>h1 (i+1) z (by omega) hz) (fun z hz=>h2 z hz)]
theorem K3 {x:Ar}:∀ {xs:List Ar} {k:Nat},(∀ i y,i<k->xs[i]?=some y->WK y x=true)->xs[k]?=some x->D1 x xs=xs
 | [],k,_,h=>by simp at h
 | y :: ys,0,_,h=>by simp at h;subst h;simp [D1,Ef]
 | y :: ys,k+1,h1,h=>by
  have:=h1 0 y (by omega) rfl
  simp only [D1]
  rw [if_pos this,K3 (fun i z hi hz=>h1 (i+1) z (by omega) hz) h]
def OkRow (k m:Nat) (r:List Ar):Prop:=SortA r/\r.length<=k/\∀ a∈r,0<=a.1/\a.1<=1025/\0<=a.2/\a.2<m
def OkSys (k m:Nat) (R:List (List Ar)):Prop:=R.length=m/\∀ r∈R,OkRow k m r
theorem OkRow.ins {k m : Nat} {r : List Ar} (h : OkRow k m r) {x : Ar} (hx : 0 <= x.1 /\ x.1 <= 1025 /\ 0 <= x.2 /\ x.2 < m) : OkRow (k + 1) m (D1 x r) :=
 ⟨Ii h.1, Nat.le_trans (DO x r) (by have := h.2.1; omega), fun a ha => by
  rcases (FH x a r).1 ha with rfl | ha
  ·exact hx
  ·exact h.2.2 a ha⟩
theorem OkRow.le {k k' m:Nat} {r:List Ar} (h:OkRow k m r) (hk:k<=k'):OkRow k' m r:=⟨h.1,Nat.le_trans h.2.1 hk,h.2.2⟩
theorem OkSys.le {k k' m:Nat} {R:List (List Ar)} (h:OkSys k m R) (hk:k<=k'):OkSys k' m R:=⟨h.1,fun r hr=>(h.2 r hr).le hk⟩
theorem OkSys.set {k m : Nat} {R : List (List Ar)} (h : OkSys k m R) {r : List Ar} (hr : OkRow k m r) (s : Nat) : OkSys k m (R.set s r) :=
 ⟨by simp [h.1], fun q hq => by
  rcases List.mem_or_eq_of_mem_set hq with hq | rfl
  ·exact h.2 q hq
  ·exact hr⟩

/-! trees and cells -/
open Go.RowKit
def Ax (xs:List Ar):List C:=xs.flatMap fun a=>[C.v (.int .i64 a.1),C.v (.int .i64 a.2)]
def AO (R:List (List Ar)):List C:=R.map fun r=>C.t 2 (Ao r)
theorem Ap (xs:List Ar):(Ax xs).length=xs.length*2:=by
 induction xs with
 | nil=>rfl
 | cons x r ih=>
  have:Ax (x :: r)=[C.v (.int .i64 x.1),C.v (.int .i64 x.2)]++Ax r:=rfl
  rw [this,List.length_append,ih,List.length_cons];simp;omega
theorem D8 (xs ys:List Ar):Ax xs++Ax ys=Ax (xs++ys):=by simp [Ax]
theorem BF (xs:List Ar) (x y:Int):Ax xs++[.v (.int .i64 x),.v (.int .i64 y)]=Ax (xs++[(x,y)]):=by simp [Ax]
theorem Ez (xs:List Ar):(Ax xs).all C.one=true:=by simp [Ax,C.one]
theorem Cp (xs:List Ar):(Ao xs).map C.ofTr=Ax xs:=by simp [Ao,Ax,List.map_flatMap,C.ofTr]
theorem EW {α β:Type} (f:α->List β) (hf:∀ a,(f a).length=2):∀ (xs:List α) (n:Nat),(xs.flatMap f).take (n*2)=(xs.take n).flatMap f
 | [],n=>by simp
 | x :: r,0=>by simp
 | x :: r,n+1=>by
  simp only [List.flatMap_cons,List.take_succ_cons]
  rw [show (n+1)*2=(f x).length+n*2 by rw [hf];omega,List.take_length_add_append,EW f hf r n]
theorem GR {α β:Type} (f:α->List β) (hf:∀ a,(f a).length=2):∀ (xs:List α) (n:Nat),(xs.flatMap f).drop (n*2)=(xs.drop n).flatMap f
 | [],n=>by simp
 | x :: r,0=>by simp
 | x :: r,n+1=>by
  simp only [List.flatMap_cons,List.drop_succ_cons]
  rw [show (n+1)*2=(f x).length+n*2 by rw [hf];omega,List.drop_length_add_append,GR f hf r n]
theorem BA (xs:List Ar) (n:Nat):(Ao xs).take (n*2)=Ao (xs.take n):=EW _ (fun _=>rfl) xs n
theorem DP (xs:List Ar) (n:Nat):(Ao xs).drop (n*2)=Ao (xs.drop n):=GR _ (fun _=>rfl) xs n
theorem DQ (xs:List Ar) (n:Nat):(Ax xs).take (n*2)=Ax (xs.take n):=EW _ (fun _=>rfl) xs n
theorem AL {xs:List Ar} {i:Nat} (h:i<xs.length):(((Ao xs).drop (i*2)).take 2)=[.v (.int .i64 xs[i].1),.v (.int .i64 xs[i].2)]:=by
 rw [DP]
 have e:xs.drop i=xs[i] :: xs.drop (i+1):=List.drop_eq_getElem_cons h
 rw [e]
 rfl
theorem Dl (L:List Ar):Fz (Ax L) (Ao L):=by
 unfold Ax Ao
 exact Fz.flatMap fun x _=>⟨.inl rfl,.inl rfl,trivial⟩
theorem Ay (xs:List (List Ar)):(AO xs).length=xs.length:=by simp [AO]
theorem BM {xs:List (List Ar)} {i:Nat} {x:List Ar} (h:xs[i]?=some x):(AO xs)[i]?=some (.t 2 (Ao x)):=by simp [AO,h]
theorem EA (xs:List (List Ar)) (i:Nat) (x:List Ar):(AO xs).set i (.t 2 (Ao x))=AO (xs.set i x):=by simp [AO,List.map_set]
theorem Bs (f:List Nat) (L:List (List Ar)):(AO L).map (C.ren f)=AO L:=by simp [AO,C.ren,Function.comp_def]
theorem C6 (f:Nat->Nat) (L:List (List Ar)):(AO L).map (C.up f)=AO L:=by simp [AO,C.up,Function.comp_def]
theorem CZ (L:List (List Ar)):Fz (AO L) (Ah L):=by unfold AO Ah;exact Fz.map fun x _=>.inl rfl
end Go.Proofs.YtjijjfkalheokaaGreatDoor
