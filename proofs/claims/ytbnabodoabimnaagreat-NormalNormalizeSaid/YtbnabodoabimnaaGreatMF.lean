/- Lemmas. -/
import Derived.Test.YtbnabodoabimnaaGreatZk
import Derived.Test.YtbnabodoabimnaaGreatTy
import Derived.Test.YtbnabodoabimnaaGreatME
import Derived.Test.YtbnabodoabimnaaGreatTs1
import Derived.Test.YtbnabodoabimnaaGreatMD
namespace Go.Proofs.YtbnabodoabimnaaGreat
set_option linter.unusedVariables false
set_option linter.unusedSimpArgs false
open Go.RowKit
def Ac (xs:List Int):List Tr:=xs.map fun x=>.v (.int .i64 x)
def Ap (xs:List Int):AV:=.a (.c (.t 1 (Ac xs)))
def Az (L:List (List Int)):List Tr:=L.map fun r=>.l 1 (Ac r)
def AC (L:List (List Int)):AV:=.a (.c (.t 1 (Az L)))
def Aw (xs:List (Int × Int)):List Tr:=xs.flatMap fun a=>[.v (.int .i64 a.1),.v (.int .i64 a.2)]
def GX (xs:List (Int × Int)):AV:=.a (.c (.t 2 (Aw xs)))
def AK (R:List (List (Int × Int))):List Tr:=R.map fun r=>.l 2 (Aw r)
def Ba (R:List (List (Int × Int))):AV:=.a (.g [.t 1 (AK R)])
theorem A2 (xs:List Int):(Ac xs).length=xs.length:=by simp [Ac]
theorem Ae (xs:List (List Int)):(Az xs).length=xs.length:=by simp [Az]
theorem A6 (xs:List (List (Int × Int))):(AK xs).length=xs.length:=by simp [AK]
theorem A3 (xs:List (Int × Int)):(Aw xs).length=xs.length*2:=by
 induction xs with
 | nil=>rfl
 | cons x r ih=>simp only [Aw,gAu,gAI,gAJ,gAO] at ih ⊢;omega
theorem Al {xs:List Int} {i:Nat} {x:Int} (h:xs[i]?=some x):(Ac xs)[i]?=some (.v (.int .i64 x)):=by simp [Ac,h]
theorem AR {xs:List (List Int)} {i:Nat} {x:List Int} (h:xs[i]?=some x):(Az xs)[i]?=some (.l 1 (Ac x)):=by simp [Az,h]
theorem Ao {xs:List (List (Int × Int))} {i:Nat} {x:List (Int × Int)} (h:xs[i]?=some x):(AK xs)[i]?=some (.l 2 (Aw x)):=by simp [AK,h]
theorem OS (xs:List Int):(Ac xs).map C.ofTr=xs.map fun x=>.v (.int .i64 x):=by simp [Ac,C.ofTr,gAb]
theorem JW (xs:List (List Int)):(Az xs).map C.ofTr=xs.map fun x=>.t 1 (Ac x):=by simp [Az,C.ofTr,gAb]

theorem Dl (ρ:List Nat) (ts:List Tr):(ts.map C.ofTr).map (C.ren ρ)=ts.map C.ofTr:=by
 simp only [gAW]
 exact gAU fun t _=>by cases t <;> rfl
theorem QZ (f:Nat->Nat) (ts:List Tr):(ts.map C.ofTr).map (C.up f)=ts.map C.ofTr:=by
 simp only [gAW]
 exact gAU fun t _=>by cases t <;> rfl
attribute [go_sem] Dl QZ
set_option maxRecDepth 100000 in
theorem GA (ts:List Tr) (hn:ts.length<=100000000):FC Tryz.prog 121 [.a (.c (.t 1 ts))] [] (fun r o=>r=.a (.c (.s 0 (ts.length / 1)))/\o=[.r ⟨3,1,true,ts.map C.ofTr⟩]):=by
 refine A7 Tryz.func121 rfl (by rw [Tryz.ntmps121];simp) ?_
 rw [Tryz.ntmps121]
 simp only [B4]
 (refine VV ?_;unhygienic intros)
 refine Aj rfl ?_;intro K1 hK1
 refine Md rfl rfl Tryz.underlying37 (.inl rfl) (.inl ⟨1,ts,by simp only [go_sem],?_⟩)
 intro b hb
 simp only [go_sem]
 refine hK1 _ ?_;clear hK1 K1
 (refine VV ?_;(repeat clear hK K);unhygienic intros)
 (refine Ah ?_;intro X Y hX hY;simp only [go_sem])
 refine ⟨fun h=>hX ?_,fun h=>hY ?_⟩
 rotate_left
 ·clear hX hY X Y
  (refine VV ?_;(repeat clear hK K);unhygienic intros)
  refine Ak ?_
  refine AB (A8 [1] rfl rfl) ?_
  (try simp only [Yn,go_sem])
  exact OQ Tryz.results121
 have hts:=hb h
 subst hts
 (refine VV ?_;(repeat clear hK K);unhygienic intros)
 refine Ak ?_
 simp only [Ad]
 refine AB (BJ 2 3 1 ?_) ?_
 ·simp only [go_sem]
 exact OQ Tryz.results121
set_option maxRecDepth 100000 in
theorem Lm (ts:List Tr) (hn:ts.length<=100000000):FC Tryz.prog 142 [.a (.c (.t 1 ts))] [] (fun r o=>r=.a (.c (.s 0 (ts.length / 1)))/\o=[.r ⟨37,1,true,ts.map C.ofTr⟩]):=by
 refine A7 Tryz.func142 rfl (by rw [Tryz.ntmps142];simp) ?_
 rw [Tryz.ntmps142]
 simp only [B4]
 (refine VV ?_;unhygienic intros)
 refine Aj rfl ?_;intro K1 hK1
 refine Md rfl rfl Tryz.underlying33 (.inl rfl) (.inl ⟨1,ts,by simp only [go_sem],?_⟩)
 intro b hb
 simp only [go_sem]
 refine hK1 _ ?_;clear hK1 K1
 (refine VV ?_;(repeat clear hK K);unhygienic intros)
 (refine Ah ?_;intro X Y hX hY;simp only [go_sem])
 refine ⟨fun h=>hX ?_,fun h=>hY ?_⟩
 rotate_left
 ·clear hX hY X Y
  (refine VV ?_;(repeat clear hK K);unhygienic intros)
  refine Ak ?_
  refine AB (A8 [1] rfl rfl) ?_
  (try simp only [Yn,go_sem])
  exact OQ Tryz.results142
 have hts:=hb h
 subst hts
 (refine VV ?_;(repeat clear hK K);unhygienic intros)
 refine Ak ?_
 simp only [Ad]
 refine AB (BJ 2 37 1 ?_) ?_
 ·simp only [go_sem]
 exact OQ Tryz.results142
end Go.Proofs.YtbnabodoabimnaaGreat
namespace Go.Proofs.YtbnabodoabimnaaGreat
set_option linter.unusedVariables false
set_option linter.unusedSimpArgs false
open Go.RowKit
set_option maxRecDepth 100000
theorem Ln (xs:List Int) (x:Int) (hn:xs.length<=140737488355328):FC Tryz.prog 101 [Ap xs,.i x] [] (fun r o=>o=[]/\∃ n:Int,r=.i n /\ -1<=n/\(0<=n↔x∈xs)):=by
 refine A7 Tryz.func101 rfl (by rw [Tryz.ntmps101];simp) ?_
 rw [Tryz.ntmps101]
 simp only [B4,Ap]
 (refine VV ?_;(repeat clear hK K);unhygienic intros)
 refine Ab (fun k:Nat=>{ tm:=[(0,.a (.c (.t 1 (Ac xs)))),(1,.i x),(7,.i xs.length),(8,.i k)],hp:=[],n:=19,pin:=0 }) (fun k=>k<=xs.length/\∀ i,i<k->xs[i]? ≠ some x) (fun k=>xs.length - k) 0 ?_ ?_ ?_
 ·exact ⟨by omega,by intro i hi;omega⟩
 ·refine Bh ?_
  simp only [CS,A2,go_sem]
  simp
 rintro k ⟨hk,hno⟩ K hK
 (refine VV ?_;(repeat clear hK K);unhygienic intros)
 (refine Ah ?_;intro X Y hX hY;simp only [go_sem])
 refine ⟨fun h=>hX ?_,fun h=>hY ?_⟩
 rotate_left
 ·have hge:k=xs.length:=by simp at h;omega
  clear hX hY X Y
  (refine VZ ?_;repeat clear hK K)
  (refine VV ?_;(repeat clear hK K);unhygienic intros)
  refine W8 Tryz.results101 ?_
  have hm:x ∉ xs:=by
   intro hm
   obtain ⟨i,hi⟩:=gB6.1 hm
   exact hno i (by rw [hge];exact (List.getElem?_eq_some_iff.1 hi).1) hi
  exact ⟨-1,rfl,by omega,by simp [hm]⟩
 have hlt:k<xs.length:=by simpa using h
 clear hX hY X Y h
 (refine VW (an @A2 (Al (gE1 hlt))) ?_;(repeat clear hK K);unhygienic intros)
 (refine Ah ?_;intro X Y hX hY;simp only [go_sem])
 refine ⟨fun h=>hX ?_,fun h=>hY ?_⟩
 ·clear hX hY X Y
  (refine VV ?_;(repeat clear hK K);unhygienic intros)
  refine W8 Tryz.results101 ?_
  have hm:x∈xs:=by rw [beq_iff_eq.1 h];exact gE6 hlt
  exact ⟨k,rfl,by omega,by simp [hm]⟩
 clear hX hY X Y
 (refine VV ?_;(repeat clear hK K);unhygienic intros)
 refine W4 ?_
 refine hK _ (k+1) ⟨by omega,fun i hi=>?_⟩ (by omega) ?_
 rotate_left
 ·refine Bh ?_
  simp only [CS,go_sem]
  simp
 by_cases e:i=k
 ·subst e;rw [gE1 hlt];simpa using Ne.symm (beq_eq_false_iff_ne.1 h)
 exact hno i (by omega)

theorem Et (xs:List Int) (x:Int) (hn:xs.length<=140737488355328):FC Tryz.prog 72 [Ap xs,.i x] [] (fun r o=>o=[]/\r=.b (decide (x∈xs))):=by
 refine A7 Tryz.func72 rfl (by rw [Tryz.ntmps72];simp) ?_
 rw [Tryz.ntmps72]
 simp only [B4,Ap]
 (refine VV ?_;unhygienic intros)
 (refine W0 (Ln xs x hn) ?_;intro K1 hK1)
 rintro _ _ ⟨rfl,n,rfl,hn1,hn2⟩
 (refine W1 ?_;clear hK1 K1)
 (refine VV ?_;(repeat clear hK K);unhygienic intros)
 have e:decide (n>=0)=decide (x∈xs):=by rw [gA4,decide_eq_true_iff,decide_eq_true_iff];exact hn2
 refine W8 Tryz.results72 ?_
 simp only [e]

theorem JX {xs:List Int} (h:∀ i a b,xs[i]?=some a->xs[i+1]?=some b->a<b):Gb xs=true:=by
 induction xs with
 | nil=>rfl
 | cons a r ih=>
  cases r with
  | nil=>rfl
  | cons b r=>
   have h1:=h 0 a b rfl rfl
   have h2:=ih fun i x y hx hy=>h (i+1) x y (by simpa using hx) (by simpa using hy)
   simp [Gb,h1,h2]
theorem JY {xs:List Int} {i:Nat} {a b:Int} (ha:xs[i]?=some a) (hb:xs[i+1]?=some b) (h:b<=a):Gb xs=false:=by
 cases hx:Gb xs with
 | false=>rfl
 | true=>
  have hp:=(Fl xs).1 hx
  have h1:=List.getElem?_eq_some_iff.1 ha
  have h2:=List.getElem?_eq_some_iff.1 hb
  have:=gBf.1 hp i (i+1) h1.1 h2.1 (by omega)
  rw [h1.2,h2.2] at this
  omega
theorem UV (xs:List Int) (hn:xs.length<=140737488355328):FC Tryz.prog 141 [Ap xs] [] (fun r o=>o=[]/\r=.b (Gb xs)):=by
 refine A7 Tryz.func141 rfl (by rw [Tryz.ntmps141];simp) ?_
 rw [Tryz.ntmps141]
 simp only [B4,Ap]
 (refine VV ?_;(repeat clear hK K);unhygienic intros)
 refine Ab (fun k:Nat=>{ tm:=[(0,.a (.c (.t 1 (Ac xs)))),(3,.i (k+1:Nat))],hp:=[],n:=20,pin:=0 }) (fun k=>k<=xs.length/\∀ i a b,i<k->xs[i]?=some a->xs[i+1]?=some b->a<b) (fun k=>xs.length - k) 0 ?_ ?_ ?_
 ·exact ⟨by omega,by intro i a b hi;omega⟩
 ·refine Bh ?_
  simp only [CS,go_sem]
  simp
 rintro k ⟨hk,hno⟩ K hK
 (refine VW @A2 ?_;(repeat clear hK K);unhygienic intros)
 (refine Ah ?_;intro X Y hX hY;simp only [go_sem])
 refine ⟨fun h=>hX ?_,fun h=>hY ?_⟩
 rotate_left
 ·have hge:xs.length<=k+1:=by simp at h;omega
  clear hX hY X Y
  (refine VZ ?_;repeat clear hK K)
  (refine VV ?_;(repeat clear hK K);unhygienic intros)
  refine W8 Tryz.results141 ?_
  have:=JX (xs:=xs) fun i a b ha hb=>hno i a b (by have:=(List.getElem?_eq_some_iff.1 hb).1;omega) ha hb
  simp [this]
 have hlt:k+1<xs.length:=by simp at h;omega
 clear hX hY X Y h
 have e1:((k+1:Nat):Int) - 1=(k:Int):=by omega
 (refine VV ?_;unhygienic intros)
 refine Yr 9 [(0,0),(1,0),(2,0),(3,0),(4,1),(5,0),(6,0),(7,0),(8,1),(9,2)] ?_
 (refine VS (an @e1 (an @A2 (an (Al (gE1 hlt)) (Al (gE1 (Nat.lt_of_succ_lt hlt)))))) ?_;repeat clear hK K)
 (refine Ah ?_;intro X Y hX hY;simp only [go_sem])
 refine ⟨fun h=>hX ?_,fun h=>hY ?_⟩
 ·clear hX hY X Y
  (refine VV ?_;(repeat clear hK K);unhygienic intros)
  refine W8 Tryz.results141 ?_
  have:=JY (gE1 (Nat.lt_of_succ_lt hlt)) (gE1 hlt) (by simpa using h)
  simp [this]
 clear hX hY X Y
 (refine VV ?_;(repeat clear hK K);unhygienic intros)
 refine W4 ?_
 refine hK _ (k+1) ⟨by omega,fun i a b hi ha hb=>?_⟩ (by omega) ?_
 rotate_left
 ·refine Bh ?_
  simp only [CS,go_sem]
  simp
 by_cases e:i=k
 rotate_left
 ·exact hno i a b (by omega) ha hb
 subst e
 rw [gE1 (Nat.lt_of_succ_lt hlt)] at ha
 rw [gE1 hlt] at hb
 cases ha;cases hb
 simpa using h
theorem Mu (xs:List Int) (hn:xs.length<=140737488355328):FC Tryz.prog 87 [Ap xs] [] (fun r o=>o=[]/\r=.b (Gb xs)):=by
 refine A7 Tryz.func87 rfl (by rw [Tryz.ntmps87];simp) ?_
 rw [Tryz.ntmps87]
 simp only [B4,Ap]
 (refine VV ?_;(repeat clear hK K);unhygienic intros)
 refine Ab (fun k:Nat=>{ tm:=[(0,.a (.c (.t 1 (Ac xs)))),(3,.i (k+1:Nat))],hp:=[],n:=20,pin:=0 }) (fun k=>k<=xs.length/\∀ i a b,i<k->xs[i]?=some a->xs[i+1]?=some b->a<b) (fun k=>xs.length - k) 0 ?_ ?_ ?_
 ·exact ⟨by omega,by intro i a b hi;omega⟩
 ·refine Bh ?_
  simp only [CS,go_sem]
  simp
 rintro k ⟨hk,hno⟩ K hK
 (refine VW @A2 ?_;(repeat clear hK K);unhygienic intros)
 (refine Ah ?_;intro X Y hX hY;simp only [go_sem])
 refine ⟨fun h=>hX ?_,fun h=>hY ?_⟩
 rotate_left
 ·have hge:xs.length<=k+1:=by simp at h;omega
  clear hX hY X Y
  (refine VZ ?_;repeat clear hK K)
  (refine VV ?_;(repeat clear hK K);unhygienic intros)
  refine W8 Tryz.results87 ?_
  have:=JX (xs:=xs) fun i a b ha hb=>hno i a b (by have:=(List.getElem?_eq_some_iff.1 hb).1;omega) ha hb
  simp [this]
 have hlt:k+1<xs.length:=by simp at h;omega
 clear hX hY X Y h
 have e1:((k+1:Nat):Int) - 1=(k:Int):=by omega
 (refine VV ?_;unhygienic intros)
 refine Yr 9 [(0,0),(1,0),(2,0),(3,0),(4,1),(5,0),(6,0),(7,0),(8,1),(9,2)] ?_
 (refine VS (an @e1 (an @A2 (an (Al (gE1 hlt)) (Al (gE1 (Nat.lt_of_succ_lt hlt)))))) ?_;repeat clear hK K)
 (refine Ah ?_;intro X Y hX hY;simp only [go_sem])
 refine ⟨fun h=>hX ?_,fun h=>hY ?_⟩
 ·clear hX hY X Y
  (refine VV ?_;(repeat clear hK K);unhygienic intros)
  refine W8 Tryz.results87 ?_
  have:=JY (gE1 (Nat.lt_of_succ_lt hlt)) (gE1 hlt) (by simpa using h)
  simp [this]
 clear hX hY X Y
 (refine VV ?_;(repeat clear hK K);unhygienic intros)
 refine W4 ?_
 refine hK _ (k+1) ⟨by omega,fun i a b hi ha hb=>?_⟩ (by omega) ?_
 rotate_left
 ·refine Bh ?_
  simp only [CS,go_sem]
  simp
 by_cases e:i=k
 rotate_left
 ·exact hno i a b (by omega) ha hb
 subst e
 rw [gE1 (Nat.lt_of_succ_lt hlt)] at ha
 rw [gE1 hlt] at hb
 cases ha;cases hb
 simpa using h
theorem Qc (v n:Int) (hn:1<=n) : -n<v.tmod n/\v.tmod n<n:=by
 by_cases h:0<=v
 ·rw [Int.tmod_eq_emod_of_nonneg h]
  have h1:=Int.emod_nonneg v (show n ≠ 0 by omega)
  exact ⟨by omega,Int.emod_lt_of_pos _ (by omega)⟩
 have h1:v.tmod n = -((-v).tmod n):=by rw [Int.neg_tmod];omega
 have h2:=Int.emod_nonneg (-v) (show n ≠ 0 by omega)
 have h3:=Int.emod_lt_of_pos (-v) (show 0<n by omega)
 rw [h1,Int.tmod_eq_emod_of_nonneg (show 0 <= -v by omega)]
 omega

def tape (T:List Int) (a:Nat):Ob:=.r ⟨66,2,false,[.t 1 (Ac T),.v (.int .i64 a)]⟩
structure TpOk (T:List Int):Prop where
 len:T.length<=9223372036854775807
 in_:∀ x∈T,L6 x
theorem Tm (T:List Int):FC Tryz.prog 14 [Ap T] [] (fun r o=>r=.a (.c (.p 0 0))/\o=[tape T 0]):=by
 refine A7 Tryz.func14 rfl (by rw [Tryz.ntmps14];simp) ?_
 rw [Tryz.ntmps14]
 simp only [B4,Ap]
 (refine aj (an @gBj.{0} @gBi.{0}) ?_;(repeat clear hK K);repeat refine kq fun K hK=>?_)
 refine W8 Tryz.results14 ?_
 rfl

theorem CY (T:List Int) (a:Nat) (n:Int) (hT:TpOk T) (ha:a<=1000000000) (hn:n<=1000000000):
  FC Tryz.prog 40 [.a (.c (.p 0 0)),.i n] [tape T a] (fun r o=>o=[tape T (a+1)]/\∃ v:Nat,r=.i v/\((v:Int)<n\/v=0)):=by
 refine A7 Tryz.func40 rfl (by rw [Tryz.ntmps40];simp) ?_
 rw [Tryz.ntmps40]
 simp only [B4,tape]
 have hl:=hT.len
 (refine ai ?_;repeat refine kq fun K hK=>?_)
 refine Yr 9 [(0,0),(1,0),(2,0),(3,1),(4,0),(5,0),(6,0),(7,1),(8,0),(9,2)] ?_
 (refine VS @A2 ?_;repeat clear hK K)
 (refine Ah ?_;intro X Y hX hY;simp only [go_sem])
 refine ⟨fun h=>hX ?_,fun h=>hY ?_⟩
 rotate_left
 ·clear hX hY X Y h
  (refine aj (an @gBj.{0} @gBi.{0}) ?_;(repeat clear hK K);repeat refine kq fun K hK=>?_)
  (refine Ah ?_;intro X Y hX hY;simp only [go_sem])
  refine ⟨fun h=>hX ?_,fun h=>hY ?_⟩
  ·clear hX hY X Y
   (refine ai ?_;(repeat clear hK K);repeat refine kq fun K hK=>?_)
   refine W8 Tryz.results40 ?_
   exact ⟨rfl,0,rfl,.inr rfl⟩
  have hn1:1<=n:=by simp at h;omega
  have hb:=Qc (5*(a:Int)+3) n hn1
  clear hX hY X Y
  (refine ai ?_;(repeat clear hK K);repeat refine kq fun K hK=>?_)
  (refine Ah ?_;intro X Y hX hY;simp only [go_sem])
  refine ⟨fun h=>hX ?_,fun h=>hY ?_⟩
  rotate_left
  ·clear hX hY X Y
   have h1:0<=Int.tmod (5*(a:Int)+3) n:=by simpa using h
   (refine ai ?_;(repeat clear hK K);repeat refine kq fun K hK=>?_)
   refine W8 Tryz.results40 ?_
   exact ⟨rfl,(Int.tmod (5*(a:Int)+3) n).toNat,by rw [Int.toNat_of_nonneg (by omega)],.inl (by omega)⟩
  clear hX hY X Y
  have h1:Int.tmod (5*(a:Int)+3) n<0:=by simpa using h
  (refine ai ?_;(repeat clear hK K);repeat refine kq fun K hK=>?_)
  refine W8 Tryz.results40 ?_
  exact ⟨rfl,(Int.tmod (5*(a:Int)+3) n+n).toNat,by rw [Int.toNat_of_nonneg (by omega)],.inl (by omega)⟩
 have hlt:a<T.length:=by simpa using h
 have hv:=hT.in_ _ (gE6 hlt)
 simp only [L6] at hv
 clear hX hY X Y h
 refine Yr 10 [(0,0),(1,0),(2,0),(3,1),(4,0),(5,0),(6,0),(7,1),(8,0),(9,1),(10,2)] ?_
 (refine VS (an @A2 (Al (gE1 hlt))) ?_;repeat clear hK K)
 (refine aj (an @gBj.{0} @gBi.{0}) ?_;(repeat clear hK K);repeat refine kq fun K hK=>?_)
 (refine Ah ?_;intro X Y hX hY;simp only [go_sem])
 refine ⟨fun h=>hX ?_,fun h=>hY ?_⟩
 ·clear hX hY X Y
  (refine ai ?_;(repeat clear hK K);repeat refine kq fun K hK=>?_)
  refine W8 Tryz.results40 ?_
  exact ⟨rfl,0,rfl,.inr rfl⟩
 have hn1:1<=n:=by simp at h;omega
 have hb:=Qc (T[a]) n hn1
 clear hX hY X Y
 (refine ai ?_;(repeat clear hK K);repeat refine kq fun K hK=>?_)
 (refine Ah ?_;intro X Y hX hY;simp only [go_sem])
 refine ⟨fun h=>hX ?_,fun h=>hY ?_⟩
 rotate_left
 ·clear hX hY X Y
  have h1:0<=Int.tmod (T[a]) n:=by simpa using h
  (refine ai ?_;(repeat clear hK K);repeat refine kq fun K hK=>?_)
  refine W8 Tryz.results40 ?_
  exact ⟨rfl,(Int.tmod (T[a]) n).toNat,by rw [Int.toNat_of_nonneg (by omega)],.inl (by omega)⟩
 clear hX hY X Y
 have h1:Int.tmod (T[a]) n<0:=by simpa using h
 (refine ai ?_;(repeat clear hK K);repeat refine kq fun K hK=>?_)
 refine W8 Tryz.results40 ?_
 exact ⟨rfl,(Int.tmod (T[a]) n+n).toNat,by rw [Int.toNat_of_nonneg (by omega)],.inl (by omega)⟩

/-! rows of numbers -/
def A9 (xs:List Int):List C:=xs.map fun x=>C.v (.int .i64 x)
def Be (xs:List Int):Ob:=.r ⟨3,1,true,A9 xs⟩
theorem A4 (xs:List Int):(A9 xs).length=xs.length:=by simp [A9]
theorem At {xs:List Int} {i:Nat} {x:Int} (h:xs[i]?=some x):(A9 xs)[i]?=some (.v (.int .i64 x)):=by simp [A9,h]
theorem BF (xs:List Int) (n:Nat):(A9 xs).take n=A9 (xs.take n):=by simp [A9,List.map_take]
theorem CB (xs:List Int) (n:Nat):(A9 xs).drop n=A9 (xs.drop n):=by simp [A9,List.map_drop]
theorem D8 (xs ys:List Int):A9 xs++A9 ys=A9 (xs++ys):=by simp [A9]
theorem CL (xs:List Int):(A9 xs).all C.one=true:=by simp [A9,C.one]
theorem BG (xs:List Int) (x:Int):A9 xs++[.v (.int .i64 x)]=A9 (xs++[x]):=by simp [A9]
theorem A5 (f:List Nat) (L:List Int):(A9 L).map (C.ren f)=A9 L:=by simp [A9,C.ren,gAb]
theorem AL (f:Nat->Nat) (L:List Int):(A9 L).map (C.up f)=A9 L:=by simp [A9,C.up,gAb]
theorem Bf (xs:List Int) (n:Nat):(Ac xs).take n=Ac (xs.take n):=by simp [Ac,List.map_take]
theorem CC (xs:List Int) (n:Nat):(Ac xs).drop n=Ac (xs.drop n):=by simp [Ac,List.map_drop]
theorem Dz (xs:List Int):(Ac xs).map C.ofTr=A9 xs:=OS xs
theorem ES (L:List Int):Fz (A9 L) (Ac L):=by unfold A9 Ac;exact Fz.map fun x _=>.inl rfl
abbrev Ar:=Int × Int
def Wb (a b:Ar):Bool:=decide (a.1<b.1) || (a.1 == b.1 && decide (a.2<b.2))
theorem DA {a b:Ar}:Wb a b=true↔a.1<b.1\/(a.1=b.1/\a.2<b.2):=by simp [Wb]
theorem GY (a:Ar):Wb a a=false:=by simp [Wb]
theorem I1 {a b c:Ar} (h1:Wb a b=true) (h2:Wb b c=true):Wb a c=true:=by
 rw [DA] at *;omega
theorem Zv (a b:Ar):Wb a b=true\/a=b\/Wb b a=true:=by
 rw [DA,DA]
 obtain ⟨a1,a2⟩:=a
 obtain ⟨b1,b2⟩:=b
 simp only [gBJ]
 omega
def E5 (x:Ar):List Ar->List Ar
 | []=>[x]
 | y :: ys=>if Wb y x then y :: E5 x ys else if y=x then y :: ys else x :: y :: ys
theorem Fo (x a:Ar) (l:List Ar):a∈E5 x l↔a=x\/a∈l:=by
 induction l with
 | nil=>simp [E5]
 | cons y ys ih=>
  simp only [E5]
  split
  ·simp [ih];constructor <;> (intro h;rcases h with h | h | h <;> simp [h])
  split
  ·rename_i h;subst h;simp
  simp
theorem JZ (x:Ar) (l:List Ar):(E5 x l).length<=l.length+1:=by
 induction l with
 | nil=>simp [E5]
 | cons y ys ih=>
  simp only [E5]
  split
  ·simp;omega
  split <;> simp
def SortA (l:List Ar):Prop:=l.Pairwise fun a b=>Wb a b=true
theorem I2 {x:Ar} {l:List Ar} (h:SortA l):SortA (E5 x l):=by
 unfold SortA at *
 induction l with
 | nil=>simp [E5]
 | cons y ys ih=>
  rw [gBe] at h
  simp only [E5]
  split
  ·rename_i hl
   rw [gBe]
   refine ⟨fun a ha=>?_,ih h.2⟩
   rcases (Fo x a ys).1 ha with rfl | ha
   ·exact hl
   exact h.1 a ha
  split
  ·exact gBe.2 h
  rename_i hl hne
  have hxy:Wb x y=true:=by
   rcases Zv x y with h | h | h
   ·exact h
   ·exact absurd h.symm hne
   exact absurd h hl
  rw [gBe]
  refine ⟨fun a ha=>?_,gBe.2 h⟩
  rcases gB2.1 ha with rfl | ha
  ·exact hxy
  exact I1 hxy (h.1 a ha)
theorem Mw {x:Ar}:∀ {xs:List Ar} {k:Nat},k<=xs.length->(∀ i y,i<k->xs[i]?=some y->Wb y x=true)->(∀ y,xs[k]?=some y->Wb y x=false/\y ≠ x)->E5 x xs=xs.take k++x :: xs.drop k
 | [],k,hk,_,_=>by simp at hk;subst hk;rfl
 | y :: ys,0,_,_,h2=>by
  obtain ⟨h3,h4⟩:=h2 y rfl
  simp only [E5,gBq,gAs,gBc]
  rw [if_neg (by rw [h3];simp),if_neg h4]
 | y :: ys,k+1,hk,h1,h2=>by
  have:=h1 0 y (by omega) rfl
  simp only [E5,gBp,gAr,gAm]
  rw [if_pos this,Mw (by simpa using hk) (fun i z hi hz=>h1 (i+1) z (by omega) hz) (fun z hz=>h2 z hz)]
theorem K0 {x:Ar}:∀ {xs:List Ar} {k:Nat},(∀ i y,i<k->xs[i]?=some y->Wb y x=true)->xs[k]?=some x->E5 x xs=xs
 | [],k,_,h=>by simp at h
 | y :: ys,0,_,h=>by simp at h;subst h;simp [E5,GY]
 | y :: ys,k+1,h1,h=>by
  have:=h1 0 y (by omega) rfl
  simp only [E5]
  rw [if_pos this,K0 (fun i z hi hz=>h1 (i+1) z (by omega) hz) h]
def OkRow (k m:Nat) (r:List Ar):Prop:=SortA r/\r.length<=k/\∀ a∈r,0<=a.1/\a.1<=1025/\0<=a.2/\a.2<m
def OkSys (k m:Nat) (R:List (List Ar)):Prop:=R.length=m/\∀ r∈R,OkRow k m r
theorem OkRow.ins {k m : Nat} {r : List Ar} (h : OkRow k m r) {x : Ar} (hx : 0 <= x.1 /\ x.1 <= 1025 /\ 0 <= x.2 /\ x.2 < m) : OkRow (k + 1) m (E5 x r) :=
 ⟨I2 h.1, gBv (JZ x r) (by have := h.2.1; omega), fun a ha => by
  rcases (Fo x a r).1 ha with rfl | ha
  ·exact hx
  ·exact h.2.2 a ha⟩
theorem OkRow.le {k k' m:Nat} {r:List Ar} (h:OkRow k m r) (hk:k<=k'):OkRow k' m r:=⟨h.1,gBv h.2.1 hk,h.2.2⟩
theorem OkSys.le {k k' m:Nat} {R:List (List Ar)} (h:OkSys k m R) (hk:k<=k'):OkSys k' m R:=⟨h.1,fun r hr=>(h.2 r hr).le hk⟩
theorem OkSys.set {k m : Nat} {R : List (List Ar)} (h : OkSys k m R) {r : List Ar} (hr : OkRow k m r) (s : Nat) : OkSys k m (R.set s r) :=
 ⟨by simp [h.1], fun q hq => by
  rcases gB9 hq with hq | rfl
  ·exact h.2 q hq
  ·exact hr⟩

/-! trees and cells -/
open Go.RowKit
def AG (xs:List Ar):List C:=xs.flatMap fun a=>[C.v (.int .i64 a.1),C.v (.int .i64 a.2)]
def Br (R:List (List Ar)):List C:=R.map fun r=>C.t 2 (Aw r)
theorem AD (xs:List Ar):(AG xs).length=xs.length*2:=by
 induction xs with
 | nil=>rfl
 | cons x r ih=>
  have:AG (x :: r)=[C.v (.int .i64 x.1),C.v (.int .i64 x.2)]++AG r:=rfl
  rw [this,gAI,ih,gAJ];simp;omega
theorem D9 (xs ys:List Ar):AG xs++AG ys=AG (xs++ys):=by simp [AG]
theorem B9 (xs:List Ar) (x y:Int):AG xs++[.v (.int .i64 x),.v (.int .i64 y)]=AG (xs++[(x,y)]):=by simp [AG]
theorem Eu (xs:List Ar):(AG xs).all C.one=true:=by simp [AG,C.one]
theorem Cm (xs:List Ar):(Aw xs).map C.ofTr=AG xs:=by simp [Aw,AG,List.map_flatMap,C.ofTr]
theorem EU {α β:Type} (f:α->List β) (hf:∀ a,(f a).length=2):∀ (xs:List α) (n:Nat),(xs.flatMap f).take (n*2)=(xs.take n).flatMap f
 | [],n=>by simp
 | x :: r,0=>by simp
 | x :: r,n+1=>by
  simp only [gAu,gBp]
  rw [show (n+1)*2=(f x).length+n*2 by rw [hf];omega,List.take_length_add_append,EU f hf r n]
theorem GB {α β:Type} (f:α->List β) (hf:∀ a,(f a).length=2):∀ (xs:List α) (n:Nat),(xs.flatMap f).drop (n*2)=(xs.drop n).flatMap f
 | [],n=>by simp
 | x :: r,0=>by simp
 | x :: r,n+1=>by
  simp only [gAu,gAr]
  rw [show (n+1)*2=(f x).length+n*2 by rw [hf];omega,List.drop_length_add_append,GB f hf r n]
theorem BH (xs:List Ar) (n:Nat):(Aw xs).take (n*2)=Aw (xs.take n):=EU _ (fun _=>rfl) xs n
theorem EV (xs:List Ar) (n:Nat):(Aw xs).drop (n*2)=Aw (xs.drop n):=GB _ (fun _=>rfl) xs n
theorem EW (xs:List Ar) (n:Nat):(AG xs).take (n*2)=AG (xs.take n):=EU _ (fun _=>rfl) xs n
theorem AS {xs:List Ar} {i:Nat} (h:i<xs.length):(((Aw xs).drop (i*2)).take 2)=[.v (.int .i64 xs[i].1),.v (.int .i64 xs[i].2)]:=by
 rw [EV]
 have e:xs.drop i=xs[i] :: xs.drop (i+1):=gAp h
 rw [e]
 rfl
theorem DB (L:List Ar):Fz (AG L) (Aw L):=by
 unfold AG Aw
 exact Fz.flatMap fun x _=>⟨.inl rfl,.inl rfl,trivial⟩
theorem AH (xs:List (List Ar)):(Br xs).length=xs.length:=by simp [Br]
theorem BC {xs:List (List Ar)} {i:Nat} {x:List Ar} (h:xs[i]?=some x):(Br xs)[i]?=some (.t 2 (Aw x)):=by simp [Br,h]
theorem Ew (xs:List (List Ar)) (i:Nat) (x:List Ar):(Br xs).set i (.t 2 (Aw x))=Br (xs.set i x):=by simp [Br,gAY]
theorem Cc (f:List Nat) (L:List (List Ar)):(Br L).map (C.ren f)=Br L:=by simp [Br,C.ren,gAb]
theorem BX (f:Nat->Nat) (L:List (List Ar)):(Br L).map (C.up f)=Br L:=by simp [Br,C.up,gAb]
theorem GZ (L:List (List Ar)):Fz (Br L) (AK L):=by unfold Br AK;exact Fz.map fun x _=>.inl rfl
end Go.Proofs.YtbnabodoabimnaaGreat
