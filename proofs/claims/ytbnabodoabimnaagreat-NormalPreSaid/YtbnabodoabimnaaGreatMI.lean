/- Lemmas. -/
import Derived.Test.YtbnabodoabimnaaGreatZk
import Derived.Test.YtbnabodoabimnaaGreatG45
import Derived.Test.YtbnabodoabimnaaGreatG70
import Derived.Test.YtbnabodoabimnaaGreatNw3
import Derived.Test.YtbnabodoabimnaaGreatMF
namespace Go.Proofs.YtbnabodoabimnaaGreat
set_option linter.unusedVariables false
set_option linter.unusedSimpArgs false
open Go.RowKit
set_option maxRecDepth 100000

theorem TL (xs:List Int) (x:Int) (hn:xs.length<=140737488355328):FC Tryz.prog 74 [Ap xs,.i x] [] (fun r o=>o=[]/\r=.b (decide (x∈xs))):=by
 refine A7 Tryz.func74 rfl (by rw [Tryz.ntmps74];simp) ?_
 rw [Tryz.ntmps74]
 simp only [B4,Ap]
 (refine VV ?_;(repeat clear hK K);repeat refine kq fun K hK=>?_)
 refine Ab (fun k:Nat=>{ tm:=[(0,.a (.c (.t 1 (Ac xs)))),(1,.i x),(5,.i k)],hp:=[],n:=18,pin:=0 }) (fun k=>k<=xs.length/\∀ i,i<k->xs[i]? ≠ some x) (fun k=>xs.length - k) 0 ?_ ?_ ?_
 ·exact ⟨by omega,by intro i hi;omega⟩
 ·exact W5
 rintro k ⟨hk,hno⟩ K hK
 (refine VW @A2 ?_;(repeat clear hK K);repeat refine kq fun K hK=>?_)
 (refine Ah ?_;intro X Y hX hY;simp only [go_sem])
 refine ⟨fun h=>hX ?_,fun h=>hY ?_⟩
 rotate_left
 ·have hge:k=xs.length:=by simp at h;omega
  clear hX hY X Y
  (refine VZ ?_;repeat clear hK K)
  (refine VV ?_;(repeat clear hK K);repeat refine kq fun K hK=>?_)
  refine W8 Tryz.results74 ?_
  have:x ∉ xs:=by
   intro hm
   obtain ⟨i,hi⟩:=List.mem_iff_getElem?.1 hm
   exact hno i (by rw [hge];exact (List.getElem?_eq_some_iff.1 hi).1) hi
  simp [this]
 have hlt:k<xs.length:=by simpa using h
 clear hX hY X Y h
 (refine VW (an @A2 (Al (gE1 hlt))) ?_;(repeat clear hK K);repeat refine kq fun K hK=>?_)
 (refine Ah ?_;intro X Y hX hY;simp only [go_sem])
 refine ⟨fun h=>hX ?_,fun h=>hY ?_⟩
 ·clear hX hY X Y
  (refine VV ?_;(repeat clear hK K);repeat refine kq fun K hK=>?_)
  refine W8 Tryz.results74 ?_
  have:x∈xs:=by rw [<- beq_iff_eq.1 h];exact gE6 hlt
  simp [this]
 clear hX hY X Y
 (refine VV ?_;(repeat clear hK K);repeat refine kq fun K hK=>?_)
 refine W4 ?_
 refine hK _ (k+1) ⟨by omega,fun i hi=>?_⟩ (by omega) ?_
 rotate_left
 ·exact W5
 by_cases e:i=k
 ·subst e;rw [gE1 hlt];simpa using h
 exact hno i (by omega)


theorem Qq (x:Int) (a b:List Int):Dp (x :: a) b=(decide (x∈b) && Dp a b):=rfl
theorem S8 (xs ys:List Int) (hn:xs.length<=140737488355328) (hm:ys.length<=140737488355328):FC Tryz.prog 89 [Ap xs,Ap ys] [] (fun r o=>o=[]/\r=.b (Dp xs ys)):=by
 refine A7 Tryz.func89 rfl (by rw [Tryz.ntmps89];simp) ?_
 rw [Tryz.ntmps89]
 simp only [B4,Ap]
 (refine VV ?_;(repeat clear hK K);repeat refine kq fun K hK=>?_)
 refine Ab (fun k:Nat=>{ tm:=[(0,.a (.c (.t 1 (Ac xs)))),(1,.a (.c (.t 1 (Ac ys)))),(5,.i k)],hp:=[],n:=19,pin:=0 }) (fun k=>k<=xs.length/\Dp xs ys=Dp (xs.drop k) ys) (fun k=>xs.length - k) 0 ?_ ?_ ?_
 ·exact ⟨by omega,rfl⟩
 ·exact W5
 rintro k ⟨hk,he⟩ K hK
 (refine VW @A2 ?_;(repeat clear hK K);repeat refine kq fun K hK=>?_)
 (refine Ah ?_;intro X Y hX hY;simp only [go_sem])
 refine ⟨fun h=>hX ?_,fun h=>hY ?_⟩
 rotate_left
 ·have hge:xs.length<=k:=by simp at h;omega
  clear hX hY X Y
  (refine VZ ?_;repeat clear hK K)
  (refine VV ?_;(repeat clear hK K);repeat refine kq fun K hK=>?_)
  refine W8 Tryz.results89 ?_
  rw [he,List.drop_eq_nil_of_le hge]
  simp [Dp]
 have hlt:k<xs.length:=by simpa using h
 clear hX hY X Y h
 rw [Bm hlt] at he
 (refine VW (an @A2 (Al (gE1 hlt))) ?_;(repeat clear hK K);repeat refine kq fun K hK=>?_)
 (refine W0 (TL ys xs[k] hm) ?_;intro K1 hK1)
 rintro _ _ ⟨rfl,rfl⟩
 (refine W1 ?_;clear hK1 K1)
 (refine VV ?_;(repeat clear hK K);repeat refine kq fun K hK=>?_)
 (refine Ah ?_;intro X Y hX hY;simp only [go_sem])
 refine ⟨fun h=>hX ?_,fun h=>hY ?_⟩
 ·clear hX hY X Y
  (refine VV ?_;(repeat clear hK K);repeat refine kq fun K hK=>?_)
  refine W8 Tryz.results89 ?_
  rw [he,Qq]
  simp at h
  simp [h]
 clear hX hY X Y
 (refine VV ?_;(repeat clear hK K);repeat refine kq fun K hK=>?_)
 refine W4 ?_
 refine hK _ (k+1) ⟨by omega,?_⟩ (by omega) ?_
 rotate_left
 ·exact W5
 rw [he,Qq]
 simp at h
 simp [h]

end Go.Proofs.YtbnabodoabimnaaGreat
namespace Go.Proofs.YtbnabodoabimnaaGreat
set_option linter.unusedVariables false
set_option linter.unusedSimpArgs false
open Go.RowKit
set_option maxRecDepth 100000

theorem Hp (xs ys:List Int) (hn:xs.length<=140737488355328) (hm:ys.length<=140737488355328):FC Tryz.prog 39 [Ap xs,Ap ys] [] (fun r o=>o=[]/\r=.b (decide (xs=ys))):=by
 refine A7 Tryz.func39 rfl (by rw [Tryz.ntmps39];simp) ?_
 rw [Tryz.ntmps39]
 simp only [B4,Ap]
 (refine VW @A2 ?_;(repeat clear hK K);repeat refine kq fun K hK=>?_)
 (refine Ah ?_;intro X Y hX hY;simp only [go_sem])
 refine ⟨fun h=>hX ?_,fun h=>hY ?_⟩
 ·clear hX hY X Y
  (refine VV ?_;(repeat clear hK K);repeat refine kq fun K hK=>?_)
  refine W8 Tryz.results39 ?_
  have:xs ≠ ys:=by rintro rfl;simp at h
  simp [this]
 clear hX hY X Y
 have hlen:xs.length=ys.length:=by simp at h;omega
 clear h
 (refine VV ?_;(repeat clear hK K);repeat refine kq fun K hK=>?_)
 refine Ab (fun k:Nat=>{ tm:=[(0,.a (.c (.t 1 (Ac xs)))),(1,.a (.c (.t 1 (Ac ys)))),(5,.i k)],hp:=[],n:=26,pin:=0 }) (fun k=>k<=xs.length/\xs.take k=ys.take k) (fun k=>xs.length - k) 0 ?_ ?_ ?_
 ·exact ⟨by omega,rfl⟩
 ·exact W5
 rintro k ⟨hk,he⟩ K hK
 (refine VW @A2 ?_;(repeat clear hK K);repeat refine kq fun K hK=>?_)
 (refine Ah ?_;intro X Y hX hY;simp only [go_sem])
 refine ⟨fun h=>hX ?_,fun h=>hY ?_⟩
 rotate_left
 ·have hge:k=xs.length:=by simp at h;omega
  clear hX hY X Y
  (refine VZ ?_;repeat clear hK K)
  (refine VV ?_;(repeat clear hK K);repeat refine kq fun K hK=>?_)
  refine W8 Tryz.results39 ?_
  have:xs=ys:=by
   rw [hge,List.take_length,hlen,List.take_length] at he
   exact he
  simp [this]
 have hlt:k<xs.length:=by simpa using h
 have hlt2:k<ys.length:=by omega
 clear hX hY X Y h
 (refine VV ?_;(repeat clear hK K);repeat refine kq fun K hK=>?_)
 (refine Af 8 [(0,0),(1,0),(2,0),(3,1),(4,0),(5,0),(6,0),(7,1),(8,2)] (by kernel_rfl) (by kernel_rfl) (by intro c st h;simp [Ad,Ay,Vl] at h) ?_)
 (refine VS (an @A2 (an (Al (gE1 hlt)) (Al (gE1 hlt2)))) ?_;repeat clear hK K)
 (refine Ah ?_;intro X Y hX hY;simp only [go_sem])
 refine ⟨fun h=>hX ?_,fun h=>hY ?_⟩
 ·clear hX hY X Y
  (refine VV ?_;(repeat clear hK K);repeat refine kq fun K hK=>?_)
  refine W8 Tryz.results39 ?_
  have:xs ≠ ys:=by rintro rfl;simp at h
  simp [this]
 clear hX hY X Y
 (refine VV ?_;(repeat clear hK K);repeat refine kq fun K hK=>?_)
 refine W4 ?_
 refine hK _ (k+1) ⟨by omega,?_⟩ (by omega) ?_
 rotate_left
 ·exact W5
 have h1:xs[k]=ys[k]:=by simpa using h
 rw [gE8 hlt,gE8 hlt2,he,h1]
theorem KQ (xs ys:List (List Int)) (hn:xs.length<=140737488355328) (hm:ys.length<=140737488355328) (hb:∀ x∈xs,x.length<=140737488355328) (hc:∀ x∈ys,x.length<=140737488355328):FC Tryz.prog 12 [AC xs,AC ys] [] (fun r o=>o=[]/\r=.b (decide (xs=ys))):=by
 refine A7 Tryz.func12 rfl (by rw [Tryz.ntmps12];simp) ?_
 rw [Tryz.ntmps12]
 simp only [B4,AC]
 (refine VW @Ae ?_;(repeat clear hK K);repeat refine kq fun K hK=>?_)
 (refine Ah ?_;intro X Y hX hY;simp only [go_sem])
 refine ⟨fun h=>hX ?_,fun h=>hY ?_⟩
 ·clear hX hY X Y
  (refine VV ?_;(repeat clear hK K);repeat refine kq fun K hK=>?_)
  refine W8 Tryz.results12 ?_
  have:xs ≠ ys:=by rintro rfl;simp at h
  simp [this]
 clear hX hY X Y
 have hlen:xs.length=ys.length:=by simp at h;omega
 clear h
 (refine VV ?_;(repeat clear hK K);repeat refine kq fun K hK=>?_)
 refine Ab (fun k:Nat=>{ tm:=[(0,.a (.c (.t 1 (Az xs)))),(1,.a (.c (.t 1 (Az ys)))),(5,.i k)],hp:=[],n:=27,pin:=0 }) (fun k=>k<=xs.length/\xs.take k=ys.take k) (fun k=>xs.length - k) 0 ?_ ?_ ?_
 ·exact ⟨by omega,rfl⟩
 ·exact W5
 rintro k ⟨hk,he⟩ K hK
 (refine VW @Ae ?_;(repeat clear hK K);repeat refine kq fun K hK=>?_)
 (refine Ah ?_;intro X Y hX hY;simp only [go_sem])
 refine ⟨fun h=>hX ?_,fun h=>hY ?_⟩
 rotate_left
 ·have hge:k=xs.length:=by simp at h;omega
  clear hX hY X Y
  (refine VZ ?_;repeat clear hK K)
  (refine VV ?_;(repeat clear hK K);repeat refine kq fun K hK=>?_)
  refine W8 Tryz.results12 ?_
  have:xs=ys:=by
   rw [hge,List.take_length,hlen,List.take_length] at he
   exact he
  simp [this]
 have hlt:k<xs.length:=by simpa using h
 have hlt2:k<ys.length:=by omega
 clear hX hY X Y h
 (refine VV ?_;(repeat clear hK K);repeat refine kq fun K hK=>?_)
 (refine Af 8 [(0,0),(1,0),(2,0),(3,1),(4,0),(5,0),(6,0),(7,1),(8,2),(9,0)] (by kernel_rfl) (by kernel_rfl) (by intro c st h;simp [Ad,Ay,Vl] at h) ?_)
 (refine VS (an @Ae (an (AR (gE1 hlt)) (AR (gE1 hlt2)))) ?_;repeat clear hK K)
 refine Vt rfl rfl rfl ?_;intro K1 hK1
 refine (Av (ids:=[]) (Hp xs[k] ys[k] (hb _ (gE6 hlt)) (hc _ (gE6 hlt2))) rfl rfl (by simp only [go_sem]) (by kernel_rfl) (by (simp only [List.getElem_toArray,List.getElem_cons_zero,List.getElem_cons_succ,F9,List.append_nil,AV.ren,A0.ren,C.ren,go_sem]) <;> rfl) ?_).stp
 rintro _ _ ⟨rfl,rfl⟩
 (refine W1 ?_;clear hK1 K1)
 (refine VR ?_;repeat clear hK K)
 (refine Ah ?_;intro X Y hX hY;simp only [go_sem])
 refine ⟨fun h=>hX ?_,fun h=>hY ?_⟩
 ·clear hX hY X Y
  (refine VV ?_;(repeat clear hK K);repeat refine kq fun K hK=>?_)
  refine W8 Tryz.results12 ?_
  have:xs ≠ ys:=by rintro rfl;simp at h
  simp [this]
 clear hX hY X Y
 (refine VV ?_;(repeat clear hK K);repeat refine kq fun K hK=>?_)
 refine W4 ?_
 refine hK _ (k+1) ⟨by omega,?_⟩ (by omega) ?_
 rotate_left
 ·exact W5
 have h1:xs[k]=ys[k]:=by simpa using h
 rw [gE8 hlt,gE8 hlt2,he,h1]
end Go.Proofs.YtbnabodoabimnaaGreat
namespace Go.Proofs.YtbnabodoabimnaaGreat
set_option linter.unusedVariables false
set_option linter.unusedSimpArgs false
open Go.RowKit
set_option maxRecDepth 100000

theorem S9 (xs ys:List Int) (hn:xs.length<=140737488355328) (hm:ys.length<=140737488355328):FC Tryz.prog 124 [Ap xs,Ap ys] [] (fun r o=>o=[]/\r=.b (Bi xs ys)):=by
 refine A7 Tryz.func124 rfl (by rw [Tryz.ntmps124];simp) ?_
 rw [Tryz.ntmps124]
 simp only [B4,Ap]
 (refine VV ?_;(repeat clear hK K);repeat refine kq fun K hK=>?_)
 refine Ab (fun k:Nat=>{ tm:=[(0,.a (.c (.t 1 (Ac xs)))),(1,.a (.c (.t 1 (Ac ys)))),(5,.i k)],hp:=[],n:=41,pin:=0 }) (fun k=>k<=xs.length/\k<=ys.length/\Bi xs ys=Bi (xs.drop k) (ys.drop k)) (fun k=>xs.length - k) 0 ?_ ?_ ?_
 ·exact ⟨by omega,by omega,rfl⟩
 ·exact W5
 rintro k ⟨hk,hk2,he⟩ K hK
 have fin:∀ b:Bool,b=decide ((xs.length:Int)<(ys.length:Int))->(xs.length<=k\/ys.length<=k)->b=Bi xs ys:=by
  intro b hb hor
  rw [he,hb]
  rcases hor with h | h
  ·rw [List.drop_eq_nil_of_le h]
   by_cases e:k<ys.length
   ·rw [Bm e];simp [Bi];omega
   rw [List.drop_eq_nil_of_le (by omega)];simp [Bi];omega
  rw [List.drop_eq_nil_of_le h]
  by_cases e:k<xs.length
  ·rw [Bm e];simp [Bi];omega
  rw [List.drop_eq_nil_of_le (by omega)];simp [Bi];omega
 by_cases hlt:k<xs.length
 rotate_left
 ·have hl1:decide ((k:Int)<(xs.length:Int))=false:=by simpa using hlt
  (refine VW (an @A2 @hl1) ?_;(repeat clear hK K);repeat refine kq fun K hK=>?_)
  (refine Ah ?_;intro X Y hX hY;simp only [go_sem])
  refine hY ?_;clear hX hY X Y
  (refine VZ ?_;repeat clear hK K)
  (refine VW @A2 ?_;(repeat clear hK K);repeat refine kq fun K hK=>?_)
  refine W8 Tryz.results124 ?_
  rw [fin _ rfl (.inl (by omega))]
 have hl1:decide ((k:Int)<(xs.length:Int))=true:=by simpa using hlt
 (refine VW (an @A2 @hl1) ?_;(repeat clear hK K);repeat refine kq fun K hK=>?_)
 (refine Ah ?_;intro X Y hX hY;simp only [go_sem])
 refine ⟨fun h=>hX ?_,fun h=>hY ?_⟩
 rotate_left
 ·have hge:ys.length<=k:=by simpa using h
  clear hX hY X Y
  (refine VZ ?_;repeat clear hK K)
  (refine VW @A2 ?_;(repeat clear hK K);repeat refine kq fun K hK=>?_)
  refine W8 Tryz.results124 ?_
  rw [fin _ rfl (.inr hge)]
 have hlt2:k<ys.length:=by simpa using h
 clear hX hY X Y h
 rw [Bm hlt,Bm hlt2] at he
 (refine VV ?_;(repeat clear hK K);repeat refine kq fun K hK=>?_)
 (refine Af 8 [(0,0),(1,0),(2,0),(3,1),(4,0),(5,0),(6,0),(7,1),(8,2)] (by kernel_rfl) (by kernel_rfl) (by intro c st h;simp [Ad,Ay,Vl] at h) ?_)
 (refine VS (an @A2 (an (Al (gE1 hlt)) (Al (gE1 hlt2)))) ?_;repeat clear hK K)
 (refine Ah ?_;intro X Y hX hY;simp only [go_sem])
 refine ⟨fun h=>hX ?_,fun h=>hY ?_⟩
 rotate_left
 ·clear hX hY X Y
  (refine VV ?_;(repeat clear hK K);repeat refine kq fun K hK=>?_)
  refine W4 ?_
  refine hK _ (k+1) ⟨by omega,by omega,?_⟩ (by omega) ?_
  rotate_left
  ·exact W5
  have h1:xs[k]=ys[k]:=by simpa using h
  rw [he]
  simp [Bi,h1]
 clear hX hY X Y
 (refine VV ?_;(repeat clear hK K);repeat refine kq fun K hK=>?_)
 (refine Af 9 [(0,0),(1,0),(2,0),(3,1),(4,0),(5,0),(6,0),(7,1),(8,0),(9,2)] (by kernel_rfl) (by kernel_rfl) (by intro c st h;simp [Ad,Ay,Vl] at h) ?_)
 (refine VS (an @A2 (an (Al (gE1 hlt)) (Al (gE1 hlt2)))) ?_;repeat clear hK K)
 refine W8 Tryz.results124 ?_
 have h1:xs[k] ≠ ys[k]:=by simpa using h
 rw [he]
 simp [Bi,h1]
end Go.Proofs.YtbnabodoabimnaaGreat
namespace Go.Proofs.YtbnabodoabimnaaGreat
set_option linter.unusedVariables false
set_option linter.unusedSimpArgs false
open Go.RowKit
set_option maxRecDepth 100000
attribute [local go_sem] lga C.pl C.one

set_option maxHeartbeats 4000000 in
theorem Sa (R:List (List Ar)) (X:List Nat) (e:Int) (hv:C7 R=true) (hX:ClS R X) (h3:0<e) (h4:e<=1025) (hn:R.length<=1000000) (hr:∀ r∈R,r.length<=1000000):FC Tryz.prog 58 [Ba R,.a (.c (.t 1 (Ac (X.map Int.ofNat)))),.i e] [] (fun r o=>o=[]/\r=Ap ((EP R X e).map Int.ofNat)):=by
 refine A7 Tryz.func58 rfl (by rw [Tryz.ntmps58];simp) ?_
 rw [Tryz.ntmps58]
 simp only [B4,Ba]
 have hlo:BZ R=true:=gEg (gE4 hv).1
 have hbd:=(gE4 hlo).2.2.2
 have he:e ≠ 0:=by omega
 have hXn:=hX.len
 have hXi:∀ x∈X.map Int.ofNat,0<=x/\x<(R.length:Int):=fun x hx=>by
  obtain ⟨u,hu,rfl⟩:=List.mem_map.1 hx
  have:=hX.lt u hu
  exact ⟨Int.natCast_nonneg u,by show (u:Int) < _;omega⟩
 have c3:decide (e<0)=false:=decide_eq_false (by omega)
 have c4:decide (e > 1025)=false:=decide_eq_false (by omega)
 (refine VV ?_;(repeat clear hK K);repeat refine kq fun K hK=>?_)
 (refine W0 (Db R (by omega) (fun r h=>by have:=hr r h;omega)) ?_;intro K1 hK1)
 rintro _ _ ⟨rfl,rfl⟩
 (refine W1 ?_;clear hK1 K1)
 (refine VW (an @hv @Bool.not_true) ?_;(repeat clear hK K);repeat refine kq fun K hK=>?_)
 (refine AY rfl rfl (by simp only [go_sem] <;> rfl) ?_;intro K1 hK1;refine (Av (ids:=[]) (MO R (X.map Int.ofNat) hXi hn (by rw [List.length_map];omega)) rfl rfl (by simp only [go_sem]) (by kernel_rfl) (by (simp only [List.append_nil,go_sem]) <;> rfl) ?_).stp)
 rintro _ _ ⟨rfl,rfl⟩
 (refine W1 ?_;clear hK1 K1)
 (refine VW (an @Bool.not_true (an @c3 @c4)) ?_;(repeat clear hK K);repeat refine kq fun K hK=>?_)
 refine W3 ?_
 (refine VV ?_;(repeat clear hK K);repeat refine kq fun K hK=>?_)
 (refine W0 (Id R X hv hX.lt (by omega) hn hr) ?_;intro K1 hK1)
 rintro _ _ ⟨B,hB,rfl,rfl⟩
 (refine W1 ?_;clear hK1 K1)
 have hLM:rL R.length B=X.map Int.ofNat:=by
  have:DV R.length (Bx B)=X:=by
   obtain ⟨p,hp⟩:=hX.1
   refine G0 (Bu _ _) (by rw [hp];exact Bu _ _) fun u=>?_
   rw [BI,hB.2]
   constructor
   ·rintro ⟨h5,v,h6,h7⟩;exact hX.2 v h6 u h5 h7
   intro h5;exact ⟨hX.lt u h5,u,h5,.refl u⟩
  show (DV R.length (Bx B)).map Int.ofNat=_
  rw [this]
 obtain ⟨M,hM⟩:∃ M,M=X:=⟨_,rfl⟩
 have hMm:∀ v,v∈M->v<R.length:=fun v h=>hX.lt v (hM ▸ h)
 have hMl:M.length<=R.length:=by rw [hM];exact hX.len
 have d0:(e == 0)=false:=by simpa using he
 rw [<- hM] at hLM
 rw [hLM]
 clear hLM
 (refine VW @d0 ?_;(repeat clear hK K);repeat refine kq fun K hK=>?_)
 refine W3 ?_
 (refine VV ?_;(repeat clear hK K);repeat refine kq fun K hK=>?_)
 refine As (Dj 8 1 ?_) ?_
 ·simp only [go_sem]
 have htn:Ac ([]:List Int)=[]:=rfl
 refine Ab (fun i:Nat=>{ tm:=[(2,.i e),(3,.a (.c (.p 0 0))),(7,.a (.c (.t 1 (Ac (M.map Int.ofNat))))),(8,.a (.c (.t 1 (Ac (WC R (M.take i) e []))))),(9,.i i)],hp:=[.r ⟨27,1,false,[.t 1 (AK R)]⟩],n:=84,pin:=0 }) (fun i=>i<=M.length) (fun i=>M.length - i) 0 ?_ ?_ ?_
 ·omega
 ·simp only [List.take_zero,WC,List.foldl_nil,htn]
  exact W5
 rintro i hi K hK
 by_cases hlt:i<M.length
 rotate_left
 ·have d1:decide ((i:Int)<(M.length:Int))=false:=by simpa using hlt
  have htM:M.take i=M:=gE7 (by omega)
  rw [htM]
  have htm:∀ x,x∈WC R M e []↔∃ s∈M,∃ a∈R.getD s [],a.1=e/\a.2=x:=fun x=>by rw [N6];simp
  have htb:∀ x∈WC R M e [],0<=x/\x<(R.length:Int):=fun x hx=>by
   obtain ⟨s,hs,a,ha,_,rfl⟩:=(htm x).1 hx
   have hsl2:=hMm s hs
   rw [gE2,gE1 hsl2,Option.getD_some] at ha
   have:=hbd _ (gE6 hsl2) a ha
   exact ⟨this.2.2.1,this.2.2.2⟩
  have htl:=E7 (N7 (R:=R) (e:=e) M [] List.Pairwise.nil) htb
  generalize WC R M e []=T at *
  obtain ⟨F,hF⟩:∃ F:List Nat,F=T.map Int.toNat:=⟨_,rfl⟩
  have hFT:T=F.map Int.ofNat:=by rw [hF,Np fun x hx=>(htb x hx).1]
  have hFl:F.length<=R.length:=by rw [hF,List.length_map];exact htl
  have hFm:∀ v,v∈F↔(v:Int)∈T:=fun v=>by
   rw [hF,List.mem_map]
   constructor
   rotate_left
   ·intro h;exact ⟨_,h,by simp⟩
   rintro ⟨x,hx,rfl⟩
   have:=htb x hx
   rw [show ((x.toNat:Nat):Int)=x by omega];exact hx
  rw [hFT]
  (refine VW (an @d1 (an @A2 @List.length_map.{0,0})) ?_;(repeat clear hK K);repeat refine kq fun K hK=>?_)
  refine W3 ?_
  (refine VZ ?_;repeat clear hK K)
  (refine VV ?_;(repeat clear hK K);repeat refine kq fun K hK=>?_)
  (refine W0 (Id R F hv (fun v hv=>by have:=htb _ ((hFm v).1 hv);omega) (by omega) hn hr) ?_;intro K1 hK1)
  rintro _ _ ⟨B2,hB2,rfl,rfl⟩
  (refine W1 ?_;clear hK1 K1)
  (refine VV ?_;(repeat clear hK K);repeat refine kq fun K hK=>?_)
  refine W6 [] Tryz.results58 ?_
  have hA:DV R.length (Bx B2)=EP R X e:=Nl fun u hu=>by
   rw [hB2.2]
   constructor
   ·rintro ⟨v,h5,h6⟩
    obtain ⟨s,hs,a,ha,hae,hav⟩:=(htm _).1 ((hFm v).1 h5)
    refine ⟨v,EB.2 ⟨s,hM ▸ hs,DF.2 ⟨a,ha,hae,?_⟩⟩,h6⟩
    rw [hav,Int.toNat_natCast]
   rintro ⟨v,h5,h6⟩
   obtain ⟨s,hs,h7⟩:=EB.1 h5
   obtain ⟨a,ha,hae,rfl⟩:=DF.1 h7
   refine ⟨a.2.toNat,(hFm _).2 ((htm _).2 ⟨s,hM ▸ hs,a,ha,hae,?_⟩),h6⟩
   have hsr:=hX.lt s hs
   rw [gE2,gE1 hsr,Option.getD_some] at ha
   have:=hbd _ (gE6 hsr) a ha
   omega
  show Ap ((DV R.length (Bx B2)).map Int.ofNat)=_
  rw [hA]
 have d1:decide ((i:Int)<(M.length:Int))=true:=by simpa using hlt
 have gL:(Ac (M.map Int.ofNat))[i]?=some (.v (.int .i64 (M[i]:Int))):=Al (by rw [List.getElem?_map,gE1 hlt];rfl)
 have hul:=hMm _ (gE6 hlt)
 have hTk:M.take (i+1)=M.take i++[M[i]]:=gE8 hlt
 have hsub:∀ v∈M.take i,v<R.length:=fun v hv=>hMm v (List.mem_of_mem_take hv)
 generalize M[i]=u at *
 have hgR:=gE1 hul
 have hrl:=hr _ (gE6 hul)
 have hRu:R.getD u []=R[u]:=by rw [gE2,hgR];rfl
 have hbr:=hbd _ (gE6 hul)
 generalize hrr:R[u]=row at *
 have hacc:W9 (WC R (M.take i) e [])/\∀ x∈WC R (M.take i) e [],0<=x/\x<(R.length:Int):=by
  refine ⟨N7 _ _ List.Pairwise.nil,fun x hx=>?_⟩
  rw [N6] at hx
  rcases hx with h | ⟨s,hs,a,ha,_,rfl⟩
  ·simp at h
  have hsl2:=hsub s hs
  rw [gE2,gE1 hsl2,Option.getD_some] at ha
  have:=hbd _ (gE6 hsl2) a ha
  exact ⟨this.2.2.1,this.2.2.2⟩
 have hnx:WC R (M.take (i+1)) e []=IA row e (WC R (M.take i) e []):=by rw [hTk,Pg,hRu]
 generalize WC R (M.take i) e []=acc at *
 have hKo:=hK
 (refine VW (an @d1 (an @A2 @List.length_map.{0,0})) ?_;(repeat clear hK K);repeat refine kq fun K hK=>?_)
 refine W2 ?_
 (refine VV ?_;(repeat clear hK K);repeat refine kq fun K hK=>?_)
 refine Ab (fun k:Nat=>{ tm:=[(2,.i e),(3,.a (.c (.p 0 0))),(7,.a (.c (.t 1 (Ac (M.map Int.ofNat))))),(8,.a (.c (.t 1 (Ac (IA (row.take k) e acc))))),(9,.i i),(10,.i k)],hp:=[.r ⟨27,1,false,[.t 1 (AK R)]⟩],n:=84,pin:=0 }) (fun k=>k<=row.length) (fun k=>row.length - k) 0 ?_ ?_ ?_
 ·omega
 ·simp only [List.take_zero,IA,List.foldl_nil]
  exact W5
 rintro k hk K hK
 by_cases hlt2:k<row.length
 rotate_left
 ·have d2:decide ((k:Int)<(row.length:Int))=false:=by simpa using hlt2
  have htr:row.take k=row:=gE7 (by omega)
  rw [htr,<- hnx]
  (refine VV ?_;(repeat clear hK K);repeat refine kq fun K hK=>?_)
  (refine Af 10 [(0,0),(1,0),(2,1),(3,0),(4,0),(5,0),(6,1),(7,0),(8,1),(9,0),(10,2)] (by kernel_rfl) (by kernel_rfl) (by intro c st h;simp [Ad,Ay,Vl] at h) ?_)
  (refine VS (an @A6 (an (Ao hgR) (an @A2 (an @List.length_map.{0,0} (an @gL (an @A3 (an @Aq @d2))))))) ?_;repeat clear hK K)
  refine W3 ?_
  (refine VZ ?_;repeat clear hK K)
  (refine VV ?_;(repeat clear hK K);repeat refine kq fun K hK=>?_)
  refine W4 ?_
  refine hKo _ (i+1) (by omega) (by omega) ?_
  exact W5
 have d2:decide ((k:Int)<(row.length:Int))=true:=by simpa using hlt2
 have ha0:=DQ hlt2
 have ha1:=Fq hlt2
 have hsn:=N5 (row.take k) e acc row[k]
 rw [<- gE8 hlt2] at hsn
 have hql:(IA (row.take k) e acc).length<=R.length:=E7 (Kw _ _ hacc.1) fun x hx=>by
  rw [Kv] at hx
  rcases hx with h | ⟨a,ha,_,rfl⟩
  ·exact hacc.2 x h
  have:=hbr a (List.mem_of_mem_take ha)
  exact ⟨this.2.2.1,this.2.2.2⟩
 generalize IA (row.take k) e acc=q at *
 (refine VV ?_;(repeat clear hK K);repeat refine kq fun K hK=>?_)
 (refine Af 10 [(0,0),(1,0),(2,1),(3,0),(4,0),(5,0),(6,1),(7,0),(8,1),(9,0),(10,2)] (by kernel_rfl) (by kernel_rfl) (by intro c st h;simp [Ad,Ay,Vl] at h) ?_)
 (refine VS (an @A6 (an (Ao hgR) (an @A2 (an @List.length_map.{0,0} (an @gL (an @A3 (an @Aq @d2))))))) ?_;repeat clear hK K)
 refine W2 ?_
 (refine VV ?_;(repeat clear hK K);repeat refine kq fun K hK=>?_)
 by_cases hae:row[k].1=e
 rotate_left
 ·have d3:(row[k].1 == e)=false:=by simpa using hae
  rw [if_neg hae] at hsn
  (refine Af 13 [(0,0),(1,1),(2,0),(3,0),(4,0),(5,1),(6,0),(7,1),(8,0),(9,0),(10,0),(11,1),(12,0),(13,2)] (by kernel_rfl) (by kernel_rfl) (by intro c st h;simp [Ad,Ay,Vl] at h) ?_)
  (refine VS (an @A6 (an (Ao hgR) (an @A2 (an @List.length_map.{0,0} (an @gL (an @A3 (an @Aq (an @ha0 @d3)))))))) ?_;repeat clear hK K)
  refine W3 ?_
  (refine VV ?_;(repeat clear hK K);repeat refine kq fun K hK=>?_)
  refine W4 ?_
  refine hK _ (k+1) (by omega) (by omega) ?_
  rw [hsn]
  exact W5
 have d3:(row[k].1 == e)=true:=by simpa using hae
 rw [if_pos hae] at hsn
 (refine Af 13 [(0,0),(1,1),(2,0),(3,0),(4,0),(5,1),(6,0),(7,1),(8,0),(9,0),(10,0),(11,1),(12,0),(13,2)] (by kernel_rfl) (by kernel_rfl) (by intro c st h;simp [Ad,Ay,Vl] at h) ?_)
 (refine VS (an @A6 (an (Ao hgR) (an @A2 (an @List.length_map.{0,0} (an @gL (an @A3 (an @Aq (an @ha0 @d3)))))))) ?_;repeat clear hK K)
 refine W2 ?_
 (refine VV ?_;(repeat clear hK K);repeat refine kq fun K hK=>?_)
 (refine Af 13 [(0,0),(1,0),(2,1),(3,0),(4,0),(5,0),(6,1),(7,0),(8,1),(9,0),(10,0),(11,0),(12,1),(13,2),(14,0)] (by kernel_rfl) (by kernel_rfl) (by intro c st h;simp [Ad,Ay,Vl] at h) ?_)
 (refine VS (an @A6 (an (Ao hgR) (an @A2 (an @List.length_map.{0,0} (an @gL (an @A3 (an @Aq @ha1))))))) ?_;repeat clear hK K)
 (refine Qa (Ja q row[k].2 (by omega)) ?_;intro K1 hK1)
 rintro _ _ ⟨rfl,rfl⟩
 (refine W1 ?_;clear hK1 K1)
 (refine VR ?_;repeat clear hK K)
 (refine VV ?_;(repeat clear hK K);repeat refine kq fun K hK=>?_)
 refine W4 ?_
 refine hK _ (k+1) (by omega) (by omega) ?_
 rw [hsn]
 exact W5
def XD (l:List Int) (acc:List Int):List Int:=l.foldl (fun acc e=>if e != 0 then Df e acc else acc) acc
def XE (R:List (List Ar)) (X:List Nat) (acc:List Int):List Int:=X.foldl (fun acc s=>XD (WD (R.getD s [])) acc) acc
theorem PF (l:List Int) (e:Int) (acc:List Int):XD (l++[e]) acc=if e != 0 then Df e (XD l acc) else XD l acc:=by unfold XD;rw [List.foldl_append];rfl
theorem PG (R:List (List Ar)) (X:List Nat) (s:Nat) (acc:List Int):XE R (X++[s]) acc=XD (WD (R.getD s [])) (XE R X acc):=by unfold XE;rw [List.foldl_append];rfl
theorem Jq {x:Int}:∀ (l acc:List Int),x∈XD l acc↔x∈acc\/(x∈l/\x ≠ 0)
 | [],acc=>by simp [XD]
 | e :: l,acc=>by
  have ih:=fun a=>Jq (x:=x) l a
  show x∈XD l (if e != 0 then Df e acc else acc)↔_
  rw [ih]
  by_cases h:e=0
  ·have d:(e != 0)=false:=by simp [h]
   rw [d,if_neg (by decide),List.mem_cons]
   constructor
   ·rintro (q | ⟨q,q2⟩)
    ·exact .inl q
    ·exact .inr ⟨.inr q,q2⟩
   ·rintro (q | ⟨rfl | q,q2⟩)
    ·exact .inl q
    ·exact absurd h q2
    ·exact .inr ⟨q,q2⟩
  ·have d:(e != 0)=true:=by simp [h]
   rw [d,if_pos rfl,Cv,List.mem_cons]
   constructor
   ·rintro ((rfl | q) | ⟨q,q2⟩)
    ·exact .inr ⟨.inl rfl,h⟩
    ·exact .inl q
    ·exact .inr ⟨.inr q,q2⟩
   ·rintro (q | ⟨rfl | q,q2⟩)
    ·exact .inl (.inr q)
    ·exact .inl (.inl rfl)
    ·exact .inr ⟨q,q2⟩
theorem Jr:∀ (l acc:List Int),W9 acc->W9 (XD l acc)
 | [],_,h=>h
 | e :: l,acc,h=>by
  show W9 (XD l (if e != 0 then Df e acc else acc))
  refine Jr l _ ?_
  split
  ·exact DN h
  ·exact h
theorem Js {R:List (List Ar)} {x:Int}:∀ (X:List Nat) (acc:List Int),x∈XE R X acc↔x∈acc\/∃ s∈X,x∈WD (R.getD s [])/\x ≠ 0
 | [],acc=>by simp [XE]
 | s :: X,acc=>by
  show x∈XE R X (XD (WD (R.getD s [])) acc)↔_
  rw [Js X,Jq]
  simp only [List.mem_cons,exists_eq_or_imp,or_assoc]
theorem Jt {R:List (List Ar)}:∀ (X:List Nat) (acc:List Int),W9 acc->W9 (XE R X acc)
 | [],_,h=>h
 | _ :: X,_,h=>Jt X _ (Jr _ _ h)
theorem Sb (R:List (List Ar)) (X:List Nat):XE R X []=Xf R X:=by
 refine GV (Jt X [] List.Pairwise.nil) (Hm R X) fun x=>?_
 rw [Js,Dm]
 constructor
 rotate_left
 ·rintro ⟨s,hs,a,ha,h0,rfl⟩
  exact .inr ⟨s,hs,C9.2 ⟨a,ha,rfl⟩,h0⟩
 rintro (h | ⟨s,hs,h,h0⟩)
 ·simp at h
 obtain ⟨a,ha,rfl⟩:=C9.1 h
 exact ⟨s,hs,a,ha,h0,rfl⟩
set_option maxHeartbeats 4000000 in
theorem Sc (R:List (List Ar)) (X:List Nat) (hv:C7 R=true) (hXs:∀ s∈X,s<R.length) (hXn:X.length<=1000000) (hn:R.length<=1000000) (hr:∀ r∈R,r.length<=1000000):FC Tryz.prog 57 [Ba R,.a (.c (.t 1 (Ac (X.map Int.ofNat))))] [] (fun r o=>o=[]/\r=Ap (Xf R X)):=by
 refine A7 Tryz.func57 rfl (by rw [Tryz.ntmps57];simp) ?_
 rw [Tryz.ntmps57]
 simp only [B4,Ba]
 have hlo:BZ R=true:=gEg (gE4 hv).1
 have hbd:=(gE4 hlo).2.2.2
 have hb0:∀ s∈X,∀ x∈WD (R.getD s []),0<=x/\x<((1026:Nat):Int):=fun s hs x hx=>by
  obtain ⟨a,ha,rfl⟩:=C9.1 hx
  rw [gE2,gE1 (hXs s hs),Option.getD_some] at ha
  have:=hbd _ (gE6 (hXs s hs)) a ha
  omega
 (refine VV ?_;(repeat clear hK K);repeat refine kq fun K hK=>?_)
 refine As (Dj 5 1 ?_) ?_
 ·simp only [go_sem]
 have htn:Ac ([]:List Int)=[]:=rfl
 refine Ab (fun i:Nat=>{ tm:=[(1,.a (.c (.t 1 (Ac (X.map Int.ofNat))))),(2,.a (.c (.p 0 0))),(5,.a (.c (.t 1 (Ac (XE R (X.take i) []))))),(6,.i i)],hp:=[.r ⟨27,1,false,[.t 1 (AK R)]⟩],n:=39,pin:=0 }) (fun i=>i<=X.length) (fun i=>X.length - i) 0 ?_ ?_ ?_
 ·omega
 ·simp only [List.take_zero,XE,List.foldl_nil,htn]
  exact W5
 rintro i hi K hK
 by_cases hlt:i<X.length
 rotate_left
 ·have d1:decide ((i:Int)<(X.length:Int))=false:=by simpa using hlt
  have hke:X.take i=X:=gE7 (by omega)
  rw [hke,Sb]
  (refine VW (an @d1 (an @A2 @List.length_map.{0,0})) ?_;(repeat clear hK K);repeat refine kq fun K hK=>?_)
  refine W3 ?_
  (refine VZ ?_;repeat clear hK K)
  (refine VV ?_;(repeat clear hK K);repeat refine kq fun K hK=>?_)
  ((try refine Ak ?_);(try simp only [Ad,Ay]);refine AB (A8 [] rfl rfl) ?_;(try simp only [List.set_nil,List.take_nil,List.take_zero,List.map_append,go_sem]);((try refine Ak ?_);(try refine Aa ?_);(try simp only [Ad,Ay]);refine AN (by first | exact .inl rfl | exact .inr rfl) rfl ?_;simp only [Vm,Cq,Ck,Cx,Tryz.results57,go_sem,true_and,and_true,Ap]))
 have d1:decide ((i:Int)<(X.length:Int))=true:=by simpa using hlt
 have gX:(Ac (X.map Int.ofNat))[i]?=some (.v (.int .i64 (X[i]:Nat))):=Al (by rw [List.getElem?_map,gE1 hlt];rfl)
 have hul:=hXs _ (gE6 hlt)
 have hTk:X.take (i+1)=X.take i++[X[i]]:=gE8 hlt
 have hsn:=PG R (X.take i) X[i] []
 rw [<- hTk] at hsn
 have hb1:=hb0 _ (gE6 hlt)
 have hacc:W9 (XE R (X.take i) [])/\∀ x∈XE R (X.take i) [],0<=x/\x<((1026:Nat):Int):=by
  refine ⟨Jt _ _ List.Pairwise.nil,fun x hx=>?_⟩
  rcases (Js _ _).1 hx with h | ⟨s,hs,h,_⟩
  ·simp at h
  exact hb0 s (List.mem_of_mem_take hs) x h
 generalize X[i]=u at *
 generalize XE R (X.take i) []=acc at *
 have hRu:R.getD u []=R[u]:=by rw [gE2,gE1 hul];rfl
 have hin:=Hh R u hv hul hn hr
 rw [hRu] at hsn hb1
 have hil:=E7 (Nw R[u]) hb1
 generalize WD R[u]=l at *
 have hKo:=hK
 (refine VW (an @d1 (an @A2 @List.length_map.{0,0})) ?_;(repeat clear hK K);repeat refine kq fun K hK=>?_)
 refine W2 ?_
 (refine VV ?_;(repeat clear hK K);repeat refine kq fun K hK=>?_)
 (refine Af 5 [(0,1),(1,0),(2,0),(3,0),(4,1),(5,2),(6,0)] (by kernel_rfl) (by kernel_rfl) (by intro c st h;simp [Ad,Ay,Vl] at h) ?_)
 (refine VS (an @gX (an @A2 @List.length_map.{0,0})) ?_;repeat clear hK K)
 (refine Qa hin ?_;intro K1 hK1)
 rintro _ _ ⟨rfl,rfl⟩
 (refine W1 ?_;clear hK1 K1)
 (refine VR ?_;repeat clear hK K)
 (refine VV ?_;(repeat clear hK K);repeat refine kq fun K hK=>?_)
 refine Ab (fun k:Nat=>{ tm:=[(1,.a (.c (.t 1 (Ac (X.map Int.ofNat))))),(2,.a (.c (.p 0 0))),(5,.a (.c (.t 1 (Ac (XD (l.take k) acc))))),(6,.i i),(7,.a (.c (.t 1 (Ac l)))),(8,.i k)],hp:=[.r ⟨27,1,false,[.t 1 (AK R)]⟩],n:=39,pin:=0 }) (fun k=>k<=l.length) (fun k=>l.length - k) 0 ?_ ?_ ?_
 ·omega
 ·simp only [List.take_zero,XD,List.foldl_nil]
  exact W5
 rintro k hk K hK
 by_cases hlt2:k<l.length
 rotate_left
 ·have d2:decide ((k:Int)<(l.length:Int))=false:=by simpa using hlt2
  have htr:l.take k=l:=gE7 (by omega)
  rw [htr,<- hsn]
  (refine VW (an @d2 @A2) ?_;(repeat clear hK K);repeat refine kq fun K hK=>?_)
  refine W3 ?_
  (refine VZ ?_;repeat clear hK K)
  (refine VV ?_;(repeat clear hK K);repeat refine kq fun K hK=>?_)
  refine W4 ?_
  refine hKo _ (i+1) (by omega) (by omega) ?_
  exact W5
 have d2:decide ((k:Int)<(l.length:Int))=true:=by simpa using hlt2
 have gl:=Al (gE1 hlt2)
 have hsn2:=PF (l.take k) l[k] acc
 rw [<- gE8 hlt2] at hsn2
 have hql:(XD (l.take k) acc).length<=1026:=E7 (Jr _ _ hacc.1) fun x hx=>by
  rcases (Jq _ _).1 hx with h | ⟨h,_⟩
  ·exact hacc.2 x h
  exact hb1 x (List.mem_of_mem_take h)
 generalize XD (l.take k) acc=q at *
 generalize l[k]=e at *
 cases he:(e != 0) with
 | true=>
  rw [he,if_pos rfl] at hsn2
  (refine VW (an @d2 @A2) ?_;(repeat clear hK K);repeat refine kq fun K hK=>?_)
  refine W2 ?_
  (refine VW (an @A2 (an @gl @he)) ?_;(repeat clear hK K);repeat refine kq fun K hK=>?_)
  refine W2 ?_
  (refine VW (an @A2 @gl) ?_;(repeat clear hK K);repeat refine kq fun K hK=>?_)
  (refine W0 (Ja q e (by omega)) ?_;intro K1 hK1)
  rintro _ _ ⟨rfl,rfl⟩
  (refine W1 ?_;clear hK1 K1)
  (refine VV ?_;(repeat clear hK K);repeat refine kq fun K hK=>?_)
  refine W4 ?_
  refine hK _ (k+1) (by omega) (by omega) ?_
  rw [hsn2]
  exact W5
 | false=>
  rw [he,if_neg (by decide)] at hsn2
  (refine VW (an @d2 @A2) ?_;(repeat clear hK K);repeat refine kq fun K hK=>?_)
  refine W2 ?_
  (refine VW (an @A2 (an @gl @he)) ?_;(repeat clear hK K);repeat refine kq fun K hK=>?_)
  refine W3 ?_
  (refine VV ?_;(repeat clear hK K);repeat refine kq fun K hK=>?_)
  refine W4 ?_
  refine hK _ (k+1) (by omega) (by omega) ?_
  rw [hsn2]
  exact W5
def XF (S:List (List Nat)) (x:List Nat):Int:=if x∈S then (S.idxOf x:Nat) else -1
theorem KR {x:List Nat}:∀ {S:List (List Nat)} {i:Nat},S[i]?=some x->(∀ j y,j<i->S[j]?=some y->y ≠ x)->S.idxOf x=i
 | [],i,h,_=>by simp at h
 | y :: S,0,h,_=>by
  simp only [List.getElem?_cons_zero,Option.some.injEq] at h
  subst h
  simp
 | y :: S,i+1,h,hno=>by
  have hy:y ≠ x:=hno 0 y (by omega) rfl
  rw [List.idxOf_cons]
  have:(y == x)=false:=by simpa using hy
  rw [this]
  have:=KR (S:=S) (i:=i) (by simpa using h) fun j z hj hz=>hno (j+1) z (by omega) (by simpa using hz)
  simp only [cond_false,this]
theorem NF (S:List (List Nat)) (x:List Nat) (hS:∀ y∈S,y.length<=1000000) (hx:x.length<=1000000) (hSn:S.length<=1000000):
  FC Tryz.prog 59 [.a (.c (.s 0 S.length)),.a (.c (.t 1 (Ac (x.map Int.ofNat))))] [.r ⟨37,1,true,Au (Xu S)⟩] (fun r o=>o=[.r ⟨37,1,true,Au (Xu S)⟩]/\r=.i (XF S x)):=by
 refine A7 Tryz.func59 rfl (by rw [Tryz.ntmps59];simp) ?_
 rw [Tryz.ntmps59]
 simp only [B4]
 have hcS:(Au (Xu S)).length=S.length:=by simp [Au,Xu]
 (refine VV ?_;(repeat clear hK K);repeat refine kq fun K hK=>?_)
 refine Ab (fun i:Nat=>{ tm:=[(0,.a (.c (.s 0 S.length))),(1,.a (.c (.t 1 (Ac (x.map Int.ofNat))))),(5,.i i)],hp:=[.r ⟨37,1,true,Au (Xu S)⟩],n:=19,pin:=1 }) (fun i=>i<=S.length/\∀ j y,j<i->S[j]?=some y->y ≠ x) (fun i=>S.length - i) 0 ?_ ?_ ?_
 ·exact ⟨by omega,by intro i y hi;omega⟩
 ·exact W5
 rintro i ⟨hi,hno⟩ K hK
 by_cases hlt:i<S.length
 rotate_left
 ·have d1:decide ((i:Int)<(S.length:Int))=false:=by simpa using hlt
  (refine VW @d1 ?_;(repeat clear hK K);repeat refine kq fun K hK=>?_)
  refine W3 ?_
  (refine VZ ?_;repeat clear hK K)
  (refine VV ?_;(repeat clear hK K);repeat refine kq fun K hK=>?_)
  refine W7 [0] Tryz.results59 @BD ?_
  unfold XF
  rw [if_neg fun h=>?_]
  obtain ⟨j,hj⟩:=List.mem_iff_getElem?.1 h
  exact hno j x (by have:=(List.getElem?_eq_some_iff.1 hj).1;omega) hj rfl
 have d1:decide ((i:Int)<(S.length:Int))=true:=by simpa using hlt
 have hg:=gE1 hlt
 have gC:(Au (Xu S))[i]?=some (.t 1 (Ac (S[i].map Int.ofNat))):=by simp [Au,Xu,hg]
 have hyn:=hS _ (gE6 hlt)
 generalize S[i]=y at *
 have hint:=Hp (y.map Int.ofNat) (x.map Int.ofNat) (by rw [List.length_map];omega) (by rw [List.length_map];omega)
 have hinj:y.map Int.ofNat=x.map Int.ofNat↔y=x:=List.map_inj_right fun a b h=>Int.ofNat.inj h
 (refine VW @d1 ?_;(repeat clear hK K);repeat refine kq fun K hK=>?_)
 refine W2 ?_
 (refine VW (an @gC @hcS) ?_;(repeat clear hK K);repeat refine kq fun K hK=>?_)
 (refine W0 hint ?_;intro K1 hK1)
 rintro _ _ ⟨rfl,rfl⟩
 (refine W1 ?_;clear hK1 K1)
 (refine VV ?_;(repeat clear hK K);repeat refine kq fun K hK=>?_)
 (refine Ah ?_;intro X Y hX hY;simp only [go_sem])
 refine ⟨fun h=>hX ?_,fun h=>hY ?_⟩
 ·have he:y=x:=hinj.1 (gE4 h)
  clear hX hY X Y
  (refine VV ?_;(repeat clear hK K);repeat refine kq fun K hK=>?_)
  refine W7 [0] Tryz.results59 @BD ?_
  unfold XF
  subst he
  rw [if_pos (gE9 hg),KR hg hno]
 have he:¬ y=x:=fun q=>of_decide_eq_false h (hinj.2 q)
 clear hX hY X Y
 (refine VV ?_;(repeat clear hK K);repeat refine kq fun K hK=>?_)
 refine W4 ?_
 refine hK _ (i+1) ⟨by omega,fun j z hj hz=>?_⟩ (by omega) ?_
 rotate_left
 ·exact W5
 by_cases e:j=i
 ·subst e;rw [hg] at hz;cases hz;exact he
 exact hno j z (by omega) hz
end Go.Proofs.YtbnabodoabimnaaGreat
namespace Go.Proofs.YtbnabodoabimnaaGreat
set_option linter.unusedVariables false
set_option linter.unusedSimpArgs false
open Go.RowKit
set_option maxRecDepth 100000

theorem GE (xs:List (List Int)) (n:Nat):(Au xs).take n=Au (xs.take n):=by simp [Au,List.map_take]
theorem GF (xs:List (List Int)) (n:Nat):(Au xs).drop n=Au (xs.drop n):=by simp [Au,List.map_drop]
theorem Ir (xs ys:List (List Int)):Au xs++Au ys=Au (xs++ys):=by simp [Au]
theorem Is (xs:List (List Int)):(Au xs).all C.one=true:=by simp [Au,C.one]
theorem GG (xs:List (List Int)) (x:List Int):Au xs++[.t 1 (Ac x)]=Au (xs++[x]):=by simp [Au]
theorem CF (xs:List (List Int)) (n:Nat):(Az xs).take n=Az (xs.take n):=by simp [Az,List.map_take]
theorem GH (xs:List (List Int)) (n:Nat):(Az xs).drop n=Az (xs.drop n):=by simp [Az,List.map_drop]
theorem NG (xs:List (List Int)):(Az xs).map C.ofTr=Au xs:=JW xs
theorem TM (L:List (List Int)):Fz (Au L) (Az L):=by unfold Au Az;exact Fz.map fun x _=>.inl rfl
theorem NH {x:List Int}:∀ {xs:List (List Int)} {k:Nat},k<=xs.length->(∀ i y,i<k->xs[i]?=some y->Bi y x=true)->(∀ y,xs[k]?=some y->Bi y x=false/\y ≠ x)->Gi x xs=xs.take k++x :: xs.drop k
 | [],k,hk,_,_=>by simp at hk;subst hk;rfl
 | y :: ys,0,_,_,h2=>by
  obtain ⟨h3,h4⟩:=h2 y rfl
  simp only [Gi,List.take_zero,List.drop_zero,List.nil_append]
  rw [if_neg (by rw [h3];simp),if_neg h4]
 | y :: ys,k+1,hk,h1,h2=>by
  have:=h1 0 y (by omega) rfl
  simp only [Gi,List.take_succ_cons,List.drop_succ_cons,List.cons_append]
  rw [if_pos this,NH (by simpa using hk) (fun i z hi hz=>h1 (i+1) z (by omega) hz) (fun z hz=>h2 z hz)]
theorem KS {x:List Int}:∀ {xs:List (List Int)} {k:Nat},(∀ i y,i<k->xs[i]?=some y->Bi y x=true)->xs[k]?=some x->Gi x xs=xs
 | [],k,_,h=>by simp at h
 | y :: ys,0,_,h=>by simp at h;subst h;simp [Gi,CK]
 | y :: ys,k+1,h1,h=>by
  have:=h1 0 y (by omega) rfl
  simp only [Gi]
  rw [if_pos this,KS (fun i z hi hz=>h1 (i+1) z (by omega) hz) h]

theorem NI (xs:List (List Int)) (x:List Int) (hn:xs.length<=100000000) (hx:x.length<=140737488355328) (hb:∀ y∈xs,y.length<=140737488355328):FC Tryz.prog 127 [AC xs,Ap x] [] (fun r o=>o=[]/\r=AC (Gi x xs)):=by
 refine A7 Tryz.func127 rfl (by rw [Tryz.ntmps127];simp) ?_
 rw [Tryz.ntmps127]
 simp only [B4,Ap,AC]
 (refine VV ?_;(repeat clear hK K);repeat refine kq fun K hK=>?_)
 refine Ab (fun k:Nat=>{ tm:=[(0,.a (.c (.t 1 (Az xs)))),(1,.a (.c (.t 1 (Ac x)))),(5,.i k)],hp:=[],n:=48,pin:=0 }) (fun k=>k<=xs.length/\∀ i y,i<k->xs[i]?=some y->Bi y x=true) (fun k=>xs.length - k) 0 ?_ ?_ ?_
 ·exact ⟨by omega,by intro i y hi;omega⟩
 ·exact W5
 rintro k ⟨hk,he⟩ K hK
 have fin:(∀ z,xs[k]?=some z->Bi z x=false/\z ≠ x)->Gi x xs=xs.take k++[x]++xs.drop k:=by
  intro h1
  rw [NH hk he h1];simp
 have hlen:(xs.take k++[x]++xs.drop k).length=k+1+(xs.length - k):=by simp;omega
 have hlen2:(xs.take k).length=k:=by simp;omega
 have hlen3:(xs.take k++[x]).length=k+1:=by simp;omega
 by_cases hlt:k<xs.length
 rotate_left
 ·have hl1:decide ((k:Int)<(xs.length:Int))=false:=by simpa using hlt
  (refine VW (an @hl1 @Ae) ?_;(repeat clear hK K);repeat refine kq fun K hK=>?_)
  refine W3 ?_
  (refine VZ ?_;repeat clear hK K)
  (refine VW (an @hl1 @Ae) ?_;(repeat clear hK K);repeat refine kq fun K hK=>?_)
  refine W3 ?_
  (refine VW (an @List.set_cons_zero.{0} (an @List.set_cons_succ.{0} (an @List.take_succ_cons.{0} (an @List.take_zero.{0} (an @List.drop_zero.{0} (an @List.length_take.{0} (an @List.length_drop.{0} (an @List.length_append.{0} (an @Ae (an @CF (an @GH (an @NG (an @CP (an @Is (an @GG (an @Ir (an @GE (an @GF (an (Nat.min_eq_left hk) (an (gE7 (Nat.le_of_eq hlen2)) (gE7 (Nat.le_of_eq hlen3)))))))))))))))))))))) ?_;(repeat clear hK K);repeat refine kq fun K hK=>?_)
  ((try refine Ak ?_);(try simp only [Ad,Ay]);refine AB (B6 (r:=⟨37,1,true,Au (xs.take k++[x]++xs.drop k)⟩) 4 (Az (xs.take k++[x]++xs.drop k)) rfl (TM _) (show 0<(1:Nat) by omega)) ?_;refine AB (A8 [] rfl rfl) ?_;simp only [ST.frz,A0.frz,AV.frz,C.frz,Nat.le_refl,List.set_cons_zero,List.set_cons_succ,go_sem,Ae,hlen,Nat.le_refl,CF,gE7 (Nat.le_of_eq hlen)];(try simp only [List.set_nil,List.take_nil,List.take_zero,List.map_append,go_sem]);((try refine Ak ?_);(try refine Aa ?_);(try simp only [Ad,Ay]);refine AN (by first | exact .inl rfl | exact .inr rfl) rfl ?_;simp only [Vm,Cq,Ck,Cx,Tryz.results127,go_sem,true_and,and_true,Ae,hlen,Nat.le_refl,CF,gE7 (Nat.le_of_eq hlen)]))
  rw [fin (fun z hz=>by rw [List.getElem?_eq_none (by omega)] at hz;cases hz)]
 have hl1:decide ((k:Int)<(xs.length:Int))=true:=by simpa using hlt
 have hbk:=hb _ (gE6 hlt)
 (refine VW (an @hl1 (an @Ae (AR (gE1 hlt)))) ?_;(repeat clear hK K);repeat refine kq fun K hK=>?_)
 (refine AY rfl rfl (by simp only [go_sem] <;> rfl) ?_;intro K1 hK1;refine (Av (ids:=[]) (S9 xs[k] x hbk hx) rfl rfl (by simp only [go_sem]) (by kernel_rfl) (by (simp only [List.append_nil,go_sem]) <;> rfl) ?_).stp)
 rintro _ _ ⟨rfl,rfl⟩
 (refine W1 ?_;clear hK1 K1)
 (refine VV ?_;(repeat clear hK K);repeat refine kq fun K hK=>?_)
 (refine Ah ?_;intro X Y hX hY;simp only [go_sem])
 refine ⟨fun h=>hX ?_,fun h=>hY ?_⟩
 ·clear hX hY X Y
  (refine VV ?_;(repeat clear hK K);repeat refine kq fun K hK=>?_)
  refine W4 ?_
  refine hK _ (k+1) ⟨by omega,fun i y hi hy=>?_⟩ (by omega) ?_
  rotate_left
  ·exact W5
  by_cases e:i=k
  ·subst e;rw [gE1 hlt] at hy;cases hy;exact h
  exact he i y (by omega) hy
 have hle:Bi xs[k] x=false:=h
 clear hX hY X Y
 (refine VZ ?_;repeat clear hK K)
 (refine VW (an @hl1 (an @Ae (AR (gE1 hlt)))) ?_;(repeat clear hK K);repeat refine kq fun K hK=>?_)
 (refine AY rfl rfl (by simp only [go_sem] <;> rfl) ?_;intro K1 hK1;refine (Av (ids:=[]) (Hp xs[k] x hbk hx) rfl rfl (by simp only [go_sem]) (by kernel_rfl) (by (simp only [List.append_nil,go_sem]) <;> rfl) ?_).stp)
 rintro _ _ ⟨rfl,rfl⟩
 (refine W1 ?_;clear hK1 K1)
 (refine VV ?_;(repeat clear hK K);repeat refine kq fun K hK=>?_)
 (refine Ah ?_;intro X Y hX hY;simp only [go_sem])
 refine ⟨fun h=>hX ?_,fun h=>hY ?_⟩
 ·clear hX hY X Y
  (refine VV ?_;(repeat clear hK K);repeat refine kq fun K hK=>?_)
  refine W8 Tryz.results127 ?_
  rw [KS he (by rw [gE1 hlt];simpa using h)]
 have hne:xs[k] ≠ x:=by simpa using h
 clear hX hY X Y
 (refine VW (an @List.set_cons_zero.{0} (an @List.set_cons_succ.{0} (an @List.take_succ_cons.{0} (an @List.take_zero.{0} (an @List.drop_zero.{0} (an @List.length_take.{0} (an @List.length_drop.{0} (an @List.length_append.{0} (an @Ae (an @CF (an @GH (an @NG (an @CP (an @Is (an @GG (an @Ir (an @GE (an @GF (an (Nat.min_eq_left hk) (an (gE7 (Nat.le_of_eq hlen2)) (gE7 (Nat.le_of_eq hlen3)))))))))))))))))))))) ?_;(repeat clear hK K);repeat refine kq fun K hK=>?_)
 ((try refine Ak ?_);(try simp only [Ad,Ay]);refine AB (B6 (r:=⟨37,1,true,Au (xs.take k++[x]++xs.drop k)⟩) 4 (Az (xs.take k++[x]++xs.drop k)) rfl (TM _) (show 0<(1:Nat) by omega)) ?_;refine AB (A8 [] rfl rfl) ?_;simp only [ST.frz,A0.frz,AV.frz,C.frz,Nat.le_refl,List.set_cons_zero,List.set_cons_succ,go_sem,Ae,hlen,Nat.le_refl,CF,gE7 (Nat.le_of_eq hlen)];(try simp only [List.set_nil,List.take_nil,List.take_zero,List.map_append,go_sem]);((try refine Ak ?_);(try refine Aa ?_);(try simp only [Ad,Ay]);refine AN (by first | exact .inl rfl | exact .inr rfl) rfl ?_;simp only [Vm,Cq,Ck,Cx,Tryz.results127,go_sem,true_and,and_true,Ae,hlen,Nat.le_refl,CF,gE7 (Nat.le_of_eq hlen)]))
 rw [fin (fun z hz=>by rw [gE1 hlt] at hz;cases hz;exact ⟨hle,hne⟩)]
theorem Ju (L:List (List Int)) (s:List Int) {j:Nat} (h:j<L.length):((L.take (j+1)).all fun o=>!(decide (o.length<s.length) && Dp o s))=(((L.take j).all fun o=>!(decide (o.length<s.length) && Dp o s)) && !(decide (L[j].length<s.length) && Dp L[j] s)):=by
 rw [gE8 h,List.all_append];simp
set_option maxHeartbeats 1000000 in
theorem Sd (L:List (List Int)) (hn:L.length<=1000000) (hb:∀ x∈L,x.length<=100000000):FC Tryz.prog 95 [AC L] [] (fun r o=>o=[]/\r=AC (D2 L)):=by
 refine A7 Tryz.func95 rfl (by rw [Tryz.ntmps95];simp) ?_
 rw [Tryz.ntmps95]
 simp only [B4,AC]
 (refine VV ?_;(repeat clear hK K);repeat refine kq fun K hK=>?_)
 refine Ab (fun k:Nat=>{ tm:=[(0,.a (.c (.t 1 (Az L)))),(3,.a (.c (.v (.slice none 0 0)))),(4,.i k)],hp:=[],n:=66,pin:=0 }) (fun k=>k<=L.length/\∀ i x,i<k->L[i]?=some x->Gb x=true) (fun k=>L.length - k) 0 ?_ ?_ ?_
 ·exact ⟨by omega,by intro i x hi;omega⟩
 ·exact W5
 rintro k ⟨hk,hno⟩ K hK
 (refine VW @Ae ?_;(repeat clear hK K);repeat refine kq fun K hK=>?_)
 (refine Ah ?_;intro X Y hX hY;simp only [go_sem])
 refine ⟨fun h=>hX ?_,fun h=>hY ?_⟩
 ·have hlt:k<L.length:=by simpa using h
  clear hX hY X Y h
  (refine VW (an @Ae (AR (gE1 hlt))) ?_;(repeat clear hK K);repeat refine kq fun K hK=>?_)
  (refine W0 (Mu L[k] (Nat.le_trans (hb _ (gE6 hlt)) (by omega))) ?_;intro K1 hK1)
  rintro _ _ ⟨rfl,rfl⟩
  (refine W1 ?_;clear hK1 K1)
  (refine VV ?_;(repeat clear hK K);repeat refine kq fun K hK=>?_)
  (refine Ah ?_;intro X Y hX hY;simp only [go_sem])
  refine ⟨fun h=>hX ?_,fun h=>hY ?_⟩
  rotate_left
  ·clear hX hY X Y
   have h1:Gb L[k]=true:=by simpa using h
   (refine VV ?_;(repeat clear hK K);repeat refine kq fun K hK=>?_)
   refine W4 ?_
   refine hK _ (k+1) ⟨by omega,fun i x hi hx=>?_⟩ (by omega) ?_
   rotate_left
   ·exact W5
   by_cases e:i=k
   ·subst e;rw [gE1 hlt] at hx;cases hx;exact h1
   exact hno i x (by omega) hx
  clear hX hY X Y
  (refine VV ?_;(repeat clear hK K);repeat refine kq fun K hK=>?_)
  refine Ak ?_
  simp only [Ad,Ay]
  refine AB (Dj 2 1 ?_) ?_
  ·simp only [go_sem]
  refine W8 Tryz.results95 ?_
  have h1:Gb L[k]=false:=by simpa using h
  have h2:L.all Gb=false:=by
   rw [List.all_eq_false]
   exact ⟨L[k],gE6 hlt,by simp [h1]⟩
  simp [D2,h2,Az]
 have hge:k=L.length:=by simp at h;omega
 clear hX hY X Y
 have hall:L.all Gb=true:=by
  rw [List.all_eq_true]
  intro s hs
  obtain ⟨i,hi⟩:=List.mem_iff_getElem?.1 hs
  exact hno i s (by rw [hge];exact (List.getElem?_eq_some_iff.1 hi).1) hi
 clear hno
 (refine VZ ?_;repeat clear hK K)
 (refine VV ?_;(repeat clear hK K);repeat refine kq fun K hK=>?_)
 refine As (Dj 3 1 ?_) ?_
 ·simp only [go_sem]
 refine Ab (fun p:Nat × List (List Int)=>{ tm:=[(0,.a (.c (.t 1 (Az L)))),(3,.a (.c (.t 1 (Az p.2)))),(5,.i p.1)],hp:=[],n:=66,pin:=0 }) (fun p=>p.1<=L.length/\p.2.length<=p.1/\(∀ s∈p.2,s∈L)/\Gj L (L.drop p.1) p.2=D2 L) (fun p=>L.length - p.1) (0,[]) ?_ ?_ ?_
 ·exact ⟨by omega,by simp,by simp,by simp [D2,hall]⟩
 ·(refine Bh ?_;simp only [CS,go_sem,Az,List.map_nil];try simp)
 rintro ⟨k,acc⟩ ⟨hk,hal,hsub,he⟩ K hK
 simp only at hk hal hsub he ⊢
 (refine VW @Ae ?_;(repeat clear hK K);repeat refine kq fun K hK=>?_)
 (refine Ah ?_;intro X Y hX hY;simp only [go_sem])
 refine ⟨fun h=>hX ?_,fun h=>hY ?_⟩
 rotate_left
 ·have hge:L.length<=k:=by simpa using h
  clear hX hY X Y
  rw [List.drop_eq_nil_of_le hge] at he
  simp only [Gj] at he
  (refine VZ ?_;repeat clear hK K)
  (refine VV ?_;(repeat clear hK K);repeat refine kq fun K hK=>?_)
  refine W8 Tryz.results95 ?_
  rw [he]
 have hlt:k<L.length:=by simpa using h
 clear hX hY X Y h
 have hbk:=hb _ (gE6 hlt)
 (refine VV ?_;(repeat clear hK K);repeat refine kq fun K hK=>?_)
 refine Ab (fun j:Nat=>{ tm:=[(0,.a (.c (.t 1 (Az L)))),(3,.a (.c (.t 1 (Az acc)))),(5,.i k),(6,.b ((L.take j).all fun o=>!(decide (o.length<L[k].length) && Dp o L[k]))),(7,.i j)],hp:=[],n:=66,pin:=0 }) (fun j=>j<=L.length) (fun j=>L.length - j) 0 ?_ ?_ ?_
 ·omega
 ·exact W5
 rintro j hj K hK
 have ht:=@Ju L L[k] j
 (refine VW @Ae ?_;(repeat clear hK K);repeat refine kq fun K hK=>?_)
 (refine Ah ?_;intro X Y hX hY;simp only [go_sem])
 refine ⟨fun h=>hX ?_,fun h=>hY ?_⟩
 rotate_left
 ·have hge:j=L.length:=by simp at h;omega
  clear hX hY X Y
  have hB:((L.take j).all fun o=>!(decide (o.length<L[k].length) && Dp o L[k]))=E4 L L[k]:=by rw [hge,List.take_length];rfl
  rw [hB]
  rw [Bm hlt] at he
  simp only [Gj] at he
  (refine VZ ?_;repeat clear hK K)
  (refine VV ?_;(repeat clear hK K);repeat refine kq fun K hK=>?_)
  (refine Ah ?_;intro X Y hX hY;simp only [go_sem])
  refine ⟨fun h=>hX ?_,fun h=>hY ?_⟩
  rotate_left
  ·clear hX hY X Y
   rw [if_neg (by rw [h];simp)] at he
   (refine VV ?_;(repeat clear hK K);repeat refine kq fun K hK=>?_)
   refine W4 ?_
   refine hK _ (k+1,acc) ⟨by simp only;omega,by simp only;omega,hsub,he⟩ (by simp only;omega) ?_
   exact W5
  clear hX hY X Y
  rw [h,if_pos rfl] at he
  (refine VW (an @Ae (AR (gE1 hlt))) ?_;(repeat clear hK K);repeat refine kq fun K hK=>?_)
  (refine W0 (NI acc L[k] (by omega) (Nat.le_trans hbk (by omega)) (fun y hy=>Nat.le_trans (hb y (hsub y hy)) (by omega))) ?_;intro K1 hK1)
  rintro _ _ ⟨rfl,rfl⟩
  (refine W1 ?_;clear hK1 K1)
  (refine VV ?_;(repeat clear hK K);repeat refine kq fun K hK=>?_)
  refine W4 ?_
  have:=JU L[k] acc
  refine hK _ (k+1,Gi L[k] acc) ⟨by simp only;omega,by simp only;omega,fun s hs=>?_,he⟩ (by simp only;omega) ?_
  rotate_left
  ·exact W5
  rcases (GW _ _ _).1 hs with rfl | hs
  ·exact gE6 hlt
  exact hsub s hs
 have hlj:j<L.length:=by simpa using h
 have ht:=ht hlj
 clear hX hY X Y h
 generalize hB:((L.take j).all fun o=>!(decide (o.length<L[k].length) && Dp o L[k]))=B at *
 have hbj:=hb _ (gE6 hlj)
 (refine VV ?_;(repeat clear hK K);repeat refine kq fun K hK=>?_)
 (refine Af 22 [(0,0),(1,0),(2,0),(3,0),(4,0),(5,1),(6,0),(7,0),(8,0),(9,0),(10,1),(11,0),(12,0),(13,0),(14,0),(15,0),(16,0),(17,1),(18,0),(19,0),(20,0),(21,1),(22,2),(23,0),(24,0),(25,0),(26,0)] (by kernel_rfl) (by kernel_rfl) (by intro c st h;simp [Ad,Ay,Vl] at h) ?_)
 cases B with
 | false=>
  (refine VQ (an @Ae @A2) ?_;repeat clear hK K)
  (refine VV ?_;(repeat clear hK K);repeat refine kq fun K hK=>?_)
  refine W4 ?_
  refine hK _ (j+1) (by omega) (by omega) ?_
  simp only [ht]
  exact W5
 | true=>
  by_cases hl:L[j].length<L[k].length
  rotate_left
  ·have hl1:decide ((L[j].length:Int)<(L[k].length:Int))=false:=by simpa using hl
   (refine VQ (an @Ae (an @A2 (an (AR (gE1 hlt)) (an (AR (gE1 hlj)) (an @hl1 @Bool.not_false))))) ?_;repeat clear hK K)
   (refine VV ?_;(repeat clear hK K);repeat refine kq fun K hK=>?_)
   refine W4 ?_
   refine hK _ (j+1) (by omega) (by omega) ?_
   simp only [ht,hl,decide_false,Bool.false_and,Bool.not_false,Bool.and_true]
   exact W5
  have hl1:decide ((L[j].length:Int)<(L[k].length:Int))=true:=by simpa using hl
  (refine VQ (an @Ae (an @A2 (an (AR (gE1 hlt)) (an (AR (gE1 hlj)) @hl1)))) ?_;repeat clear hK K)
  (refine Ue rfl rfl rfl (by simp only [go_sem] <;> rfl) rfl ?_;intro K1 hK1;refine (Av (ids:=[]) (S8 L[j] L[k] (Nat.le_trans hbj (by omega)) (Nat.le_trans hbk (by omega))) rfl rfl (by simp only [go_sem]) (by kernel_rfl) (by (simp only [List.append_nil,go_sem]) <;> rfl) ?_).stp)
  rintro _ _ ⟨rfl,rfl⟩
  (refine W1 ?_;clear hK1 K1)
  (refine VP ?_;repeat clear hK K)
  (refine VV ?_;(repeat clear hK K);repeat refine kq fun K hK=>?_)
  refine W4 ?_
  refine hK _ (j+1) (by omega) (by omega) ?_
  simp only [ht,hl,decide_true,Bool.true_and]
  exact W5
attribute [local go_sem] lga C.pl C.one
noncomputable def XG (R:List (List Ar)) (m:Int) (X:List Nat):List (List Int):=if m=1 then [] else if m=2 then D2 (Xg R X) else if Xm R X=true then [] else D2 (Xg R X)
noncomputable def XH (R:List (List Ar)) (m:Int) (X:List Nat):Bool:=if m=1 then false else if m=2 then false else Xm R X
set_option maxHeartbeats 4000000 in
theorem Se (R:List (List Ar)) (m:Int) (X:List Nat) (hv:C7 R=true) (hXs:∀ s∈X,s<R.length) (hXn:X.length<=1000) (hn:R.length<=1000000) (hr:∀ r∈R,r.length<=1000000):FC Tryz.prog 56 [Ba R,.a (.c (.t 1 (Ac (X.map Int.ofNat)))),.i m] [] (fun r o=>o=[]/\r=.tup [.c (.t 1 (Az (XG R m X))),.c (.v (.bool (XH R m X)))]):=by
 refine A7 Tryz.func56 rfl (by rw [Tryz.ntmps56];simp) ?_
 rw [Tryz.ntmps56]
 simp only [B4,Ba]
 have hlo:BZ R=true:=gEg (gE4 hv).1
 have hbd:=(gE4 hlo).2.2.2
 have hev:∀ r∈R,∀ a∈r,0<=a.1/\a.1<=1025:=fun r hr a ha=>by have:=hbd r hr a ha;omega
 (refine VV ?_;(repeat clear hK K);repeat refine kq fun K hK=>?_)
 (refine W0 (Pe R hv hn hr) ?_;intro K1 hK1)
 rintro _ _ ⟨B,hB,rfl,rfl⟩
 (refine W1 ?_;clear hK1 K1)
 (refine VV ?_;(repeat clear hK K);repeat refine kq fun K hK=>?_)
 refine As (BJ 8 37 1 ?_) ?_
 ·simp only [go_sem]
 simp only [List.cons_append,List.nil_append]
 refine Ab (fun i:Nat=>{ tm:=[(1,.a (.c (.t 1 (Ac (X.map Int.ofNat))))),(2,.i m),(3,.a (.c (.p 0 0))),(8,.a (.c (.s 1 (Xg R (X.take i)).length))),(9,.b ((X.take i).any fun s=>B.getD s false)),(10,.a (.c (.t 1 (Ws B)))),(11,.i i)],hp:=[.r ⟨27,1,false,[.t 1 (AK R)]⟩,.r ⟨37,1,true,Au (Xg R (X.take i))⟩],n:=58,pin:=0 }) (fun i=>i<=X.length) (fun i=>X.length - i) 0 ?_ ?_ ?_
 ·omega
 ·have hc0:Au []=[]:=rfl
  simp only [List.take_zero,Xg,List.filterMap_nil,hc0,List.any_nil,List.length_nil]
  exact W5
 rintro i hi K hK
 by_cases hlt:i<X.length
 ·have d1:decide ((i:Int)<(X.length:Int))=true:=by simpa using hlt
  have gX:(Ac (X.map Int.ofNat))[i]?=some (.v (.int .i64 (X[i]:Nat))):=Al (by rw [List.getElem?_map,gE1 hlt];rfl)
  have hul:=hXs _ (gE6 hlt)
  have hTk:X.take (i+1)=X.take i++[X[i]]:=gE8 hlt
  have hsn:=KO R (X.take i) X[i]
  have han:(X.take (i+1)).any (fun s=>B.getD s false)=((X.take i).any (fun s=>B.getD s false) || B.getD X[i] false):=by rw [hTk,List.any_append];simp
  rw [<- hTk] at hsn
  have hnl:=Ei R (X.take i)
  rw [List.length_take] at hnl
  generalize Xg R (X.take i)=Q at *
  generalize (X.take i).any (fun s=>B.getD s false)=dv at *
  generalize X[i]=u at *
  have hRu:R.getD u []=R[u]:=by rw [gE2,gE1 hul];rfl
  have hacc:=LE R u hv hul hn hr
  rw [hRu] at hsn
  generalize Gd R[u]=ac at *
  obtain ⟨a,ok⟩:=ac
  have hBu:u<B.length:=by rw [hB.1];exact hul
  have gB:=J5 (gE1 hBu)
  have hBg:B.getD u false=B[u]:=by rw [gE2,gE1 hBu];rfl
  rw [hBg] at han
  have hcl:(Au Q).length=Q.length:=by simp [Au]
  have htkD:(Au Q).take Q.length++[C.t 1 (Ac a)]=Au (Q++[a]):=by
   rw [gE7 (by simp [Au])];simp [Au]
  (refine VW (an @d1 (an @A2 @List.length_map.{0,0})) ?_;(repeat clear hK K);repeat refine kq fun K hK=>?_)
  refine W2 ?_
  cases dv
  all_goals
   (refine VW (an @gX (an @A2 (an @List.length_map.{0,0} (an @DE @gB)))) ?_;(repeat clear hK K);repeat refine kq fun K hK=>?_)
   (refine Af 5 [(0,1),(1,0),(2,0),(3,0),(4,1),(5,2),(6,0),(7,0),(8,0),(9,0),(10,0)] (by kernel_rfl) (by kernel_rfl) (by intro c st h;simp [Ad,Ay,Vl] at h) ?_)
   (refine VS (an @gX (an @A2 @List.length_map.{0,0})) ?_;repeat clear hK K)
   (refine Qa hacc ?_;intro K1 hK1)
   rintro _ _ ⟨rfl,rfl⟩
   (refine W1 ?_;clear hK1 K1)
   (refine VR ?_;repeat clear hK K)
   (refine VV ?_;(repeat clear hK K);repeat refine kq fun K hK=>?_)
   cases ok with
   | true=>
    rw [if_pos rfl] at hsn
    refine W2 ?_
    (refine VW (an @hcl @htkD) ?_;(repeat clear hK K);repeat refine kq fun K hK=>?_)
    refine W4 ?_
    refine hK _ (i+1) (by omega) (by omega) ?_
    rw [hsn,han]
    simp only [List.length_append,List.length_cons,List.length_nil,Bool.true_or,Bool.false_or]
    refine Le.trans (A8 [0,3] rfl rfl) ?_
    simp only [go_sem,BD]
    exact W5
   | false=>
    rw [if_neg (by simp),List.append_nil] at hsn
    refine W3 ?_
    (refine VV ?_;(repeat clear hK K);repeat refine kq fun K hK=>?_)
    refine W4 ?_
    refine hK _ (i+1) (by omega) (by omega) ?_
    rw [hsn,han]
    simp only [Bool.true_or,Bool.false_or]
    exact W5
 have d1:decide ((i:Int)<(X.length:Int))=false:=by simpa using hlt
 have hke:X.take i=X:=gE7 (by omega)
 have hdx:(X.any fun s=>B.getD s false)=Xm R X:=Ql hB hXs
 have hno:=Ip hev hXs
 have hNl:=Ei R X
 have hmn:=Sd (Xg R X) (by omega) fun y hy=>by
  have h5:=hno y hy
  have:=E7 h5.1 h5.2
  omega
 rw [hke,hdx]
 obtain ⟨D,hD⟩:∃ D,Xg R X=D:=⟨_,rfl⟩
 rw [hD] at hmn ⊢
 have htkD:(Az D).take D.length=Az D:=gE7 (by rw [Ae];exact Nat.le_refl _)
 simp only [AC] at hmn
 (refine VW (an @d1 (an @A2 @List.length_map.{0,0})) ?_;(repeat clear hK K);repeat refine kq fun K hK=>?_)
 refine W3 ?_
 (refine VZ ?_;repeat clear hK K)
 (refine As (B6 (r:=⟨37,1,true,Au D⟩) 1 (Az D) rfl (D0 D) (show 0<(1:Nat) by omega)) ?_;simp only [ST.frz,A0.frz,AV.frz,C.frz,Nat.le_refl,List.set_cons_zero,List.set_cons_succ,go_sem,Ae,htkD])
 by_cases hm1:m=1
 ·have e1:(m == 1)=true:=by simpa using hm1
  (refine VW @e1 ?_;(repeat clear hK K);repeat refine kq fun K hK=>?_)
  refine W2 ?_
  (refine VV ?_;(repeat clear hK K);repeat refine kq fun K hK=>?_)
  refine As (Dj 6 1 ?_) ?_
  ·simp only [go_sem]
  refine W6 [] Tryz.results56 ?_
  rw [XG,XH,if_pos hm1,if_pos hm1];rfl
 have e1:(m == 1)=false:=by simpa using hm1
 (refine VW @e1 ?_;(repeat clear hK K);repeat refine kq fun K hK=>?_)
 refine W3 ?_
 by_cases hm2:m=2
 ·have e2:(m == 2)=true:=by simpa using hm2
  (refine VW @e2 ?_;(repeat clear hK K);repeat refine kq fun K hK=>?_)
  refine W2 ?_
  (refine VV ?_;(repeat clear hK K);repeat refine kq fun K hK=>?_)
  (refine W0 hmn ?_;intro K1 hK1)
  rintro _ _ ⟨rfl,rfl⟩
  (refine W1 ?_;clear hK1 K1)
  (refine VV ?_;(repeat clear hK K);repeat refine kq fun K hK=>?_)
  refine W6 [] Tryz.results56 ?_
  rw [XG,XH,if_neg hm1,if_neg hm1,if_pos hm2,if_pos hm2,hD]
 have e2:(m == 2)=false:=by simpa using hm2
 (refine VW @e2 ?_;(repeat clear hK K);repeat refine kq fun K hK=>?_)
 refine W3 ?_
 cases hdv:Xm R X with
 | true=>
  (refine VV ?_;(repeat clear hK K);repeat refine kq fun K hK=>?_)
  refine W2 ?_
  (refine VV ?_;(repeat clear hK K);repeat refine kq fun K hK=>?_)
  refine As (Dj 6 1 ?_) ?_
  ·simp only [go_sem]
  refine W6 [] Tryz.results56 ?_
  rw [XG,XH,if_neg hm1,if_neg hm1,if_neg hm2,if_neg hm2,if_pos hdv,hdv];rfl
 | false=>
  (refine VV ?_;(repeat clear hK K);repeat refine kq fun K hK=>?_)
  refine W3 ?_
  (refine VV ?_;(repeat clear hK K);repeat refine kq fun K hK=>?_)
  (refine W0 hmn ?_;intro K1 hK1)
  rintro _ _ ⟨rfl,rfl⟩
  (refine W1 ?_;clear hK1 K1)
  (refine VV ?_;(repeat clear hK K);repeat refine kq fun K hK=>?_)
  refine W6 [] Tryz.results56 ?_
  rw [XG,XH,if_neg hm1,if_neg hm1,if_neg hm2,if_neg hm2,hdv,if_neg (by decide),hD]
theorem TN {R:List (List Ar)} {m:Int} (hm:Fy m=true) (X:List Nat) (S:List (List Nat)):Xn R m X S=if XH R m X=true then (([],XG R m X,true),S) else (((Xl R X (Xf R X) S).1,XG R m X,false),(Xl R X (Xf R X) S).2):=by
 have h3:m=1\/m=2\/m=3:=by
  simp only [Fy,Bool.or_eq_true,beq_iff_eq,or_assoc] at hm
  exact hm
 unfold Xn XH XG
 rcases h3 with rfl | rfl | rfl
 ·simp
 ·simp
 cases h:Xm R X <;> simp
set_option maxHeartbeats 8000000 in
theorem NJ (R:List (List Ar)) (m:Int) (hn:R.length<=7) (hr:∀ r∈R,r.length<=10000):FC Tryz.prog 26 [Ba R,.i m] [] (fun r o=>o=[]/\UK R m r):=by
 refine A7 Tryz.func26 rfl (by rw [Tryz.ntmps26];simp) ?_
 rw [Tryz.ntmps26]
 simp only [B4,Ba]
 have hr6:∀ r∈R,r.length<=1000000:=fun r h=>by have:=hr r h;omega
 (refine VV ?_;(repeat clear hK K);repeat refine kq fun K hK=>?_)
 (refine W0 (Db R (by omega) (fun r h=>by have:=hr r h;omega)) ?_;intro K1 hK1)
 rintro _ _ ⟨rfl,rfl⟩
 (refine W1 ?_;clear hK1 K1)
 cases hv:C7 R with
 | false=>
  (refine VW @Bool.not_false ?_;(repeat clear hK K);repeat refine kq fun K hK=>?_)
  refine W2 ?_
  (refine VV ?_;(repeat clear hK K);repeat refine kq fun K hK=>?_)
  refine W6 [] Tryz.results26 ?_
  exact .inr ⟨by simp [hv],rfl⟩
 | true=>
  (refine VW @Bool.not_true ?_;(repeat clear hK K);repeat refine kq fun K hK=>?_)
  (refine AY rfl rfl (by simp only [go_sem] <;> rfl) ?_;intro K1 hK1;refine (Av (ids:=[]) (NC m) rfl rfl (by simp only [go_sem]) (by kernel_rfl) (by (simp only [List.append_nil,go_sem]) <;> rfl) ?_).stp)
  rintro _ _ ⟨rfl,rfl⟩
  (refine W1 ?_;clear hK1 K1)
  cases hm:Fy m with
  | false=>
   (refine VW @Bool.not_false ?_;(repeat clear hK K);repeat refine kq fun K hK=>?_)
   refine W2 ?_
   (refine VV ?_;(repeat clear hK K);repeat refine kq fun K hK=>?_)
   refine W6 [] Tryz.results26 ?_
   exact .inr ⟨by simp [hm],rfl⟩
  | true=>
   have hlo:BZ R=true:=gEg (gE4 hv).1
   have hbd:=(gE4 hlo).2.2.2
   have hev:∀ r∈R,∀ a∈r,0<=a.1/\a.1<=1025:=fun r hr a ha=>by have:=hbd r hr a ha;omega
   have hR1:1<=R.length:=(gE4 hlo).1
   have hF0:∀ v∈[0],v<R.length:=fun v hv=>by rw [List.mem_singleton.1 hv];exact hR1
   (refine VW @Bool.not_true ?_;(repeat clear hK K);repeat refine kq fun K hK=>?_)
   refine W3 ?_
   (refine VV ?_;(repeat clear hK K);repeat refine kq fun K hK=>?_)
   (refine Bw (B6 (r:=⟨3,1,true,A9 [(0:Int)]⟩) 1 (Ac [(0:Int)]) rfl (ES _) (show 0<(1:Nat) by omega)) ?_;simp only [ST.frz,A0.frz,AV.frz,C.frz,Nat.le_refl,List.set_cons_zero,List.set_cons_succ,go_sem,EA,A2,List.length_cons,List.length_nil])
   (refine VV ?_;(repeat clear hK K);repeat refine kq fun K hK=>?_)
   (refine W0 (Id R [0] hv hF0 (by decide) (by omega) hr6) ?_;intro K1 hK1)
   rintro _ _ ⟨B0,hB0,rfl,rfl⟩
   (refine W1 ?_;clear hK1 K1)
   have hL0:rL R.length B0=(WL R 0).map Int.ofNat:=by
    show (DV R.length (Bx B0)).map Int.ofNat=_
    rw [ND fun u hu=>hB0.2 u]
   rw [hL0]
   have hpz:B8 R m 0=([WL R 0],[]):=rfl
   have hPz:=PrI.zero R m
   (refine VV ?_;(repeat clear hK K);repeat refine kq fun K hK=>?_)
   refine As (BJ 8 35 3 ?_) ?_
   ·simp only [go_sem]
   refine As (A8 [0,2,3] rfl rfl) ?_
   simp only [go_sem]
   refine Ab (fun x:Nat × Int=>{ tm:=[(1,.i m),(2,.a (.c (.p 0 0))),(7,.a (.c (.s 1 (B8 R m x.1).1.length))),(8,.a (.c (.s 2 x.1))),(9,.i x.2),(10,.i x.1)],hp:=[.r ⟨27,1,false,[.t 1 (AK R)]⟩,.r ⟨37,1,true,Au (Xu (B8 R m x.1).1)⟩,.r ⟨35,3,true,cN (B8 R m x.1).2⟩],n:=118,pin:=0 }) (fun x=>PrI R x.1 (B8 R m x.1)/\0<=x.2/\x.2<=1026*(x.1:Int)) (fun x=>128 - x.1) (0,0) ?_ ?_ ?_
   ·exact ⟨hPz,by decide,by decide⟩
   ·have hcN:cN []=[]:=rfl
    have hc1:Au (Xu [WL R 0])=[.t 1 (Ac ((WL R 0).map Int.ofNat))]:=rfl
    simp only [hpz,hcN,hc1,List.length_cons,List.length_nil]
    exact W5
   rintro ⟨k,ar⟩ ⟨hP,ha0,ha1⟩ K hK
   simp only at hP ha0 ha1 hK ⊢
   have hTl:=hP.st.len
   have hT7:(B8 R m k).1.length<=128:=Nat.le_trans hTl (Nat.pow_le_pow_right (by omega) hn)
   by_cases hlt:k<(B8 R m k).1.length
   rotate_left
   ·have hend:(B8 R m k).1.length=k:=by have:=hP.le;omega
    have hPn:=hP.n
    have hpe:PreE R m (B8 R m k):=⟨k,rfl,hend,hP⟩
    generalize B8 R m k=p at *
    obtain ⟨T,N⟩:=p
    simp only at hend hPn hT7 ⊢
    have d1:decide ((k:Int)<(T.length:Int))=false:=decide_eq_false (by omega)
    have htkN:(tN N).take (k*3)=tN N:=by rw [<- hPn];exact Nn N
    have htkT:(Az (Xu T)).take T.length=Az (Xu T):=gE7 (by rw [Ae,CQ];exact Nat.le_refl _)
    (refine VW @d1 ?_;(repeat clear hK K);repeat refine kq fun K hK=>?_)
    refine W3 ?_
    (refine VZ ?_;repeat clear hK K)
    (refine As (B6 (r:=⟨35,3,true,cN N⟩) 2 (tN N) rfl (Pu N) (show 0<(3:Nat) by omega)) ?_;simp only [ST.frz,A0.frz,AV.frz,C.frz,Nat.le_refl,List.set_cons_zero,List.set_cons_succ,go_sem,Bz,hPn,htkN])
    (refine As (B6 (r:=⟨37,1,true,Au (Xu T)⟩) 1 (Az (Xu T)) rfl (D0 _) (show 0<(1:Nat) by omega)) ?_;simp only [ST.frz,A0.frz,AV.frz,C.frz,Nat.le_refl,List.set_cons_zero,List.set_cons_succ,go_sem,Ae,CQ,htkT])
    (refine VV ?_;(repeat clear hK K);repeat refine kq fun K hK=>?_)
    refine W6 [] Tryz.results26 ?_
    exact .inl ⟨hm,hv,(T,N),hpe,rfl⟩
   have hst:=hP.step hlt
   have hg:=gE1 hlt
   have hps:=C0 hg
   have hcl:=hP.st.cl _ (gE6 hlt)
   have hPst:=hP.st
   have hPn:=hP.n
   have har:=Ho hPst hev m hcl
   rw [TN hm] at hps har
   have hlab:=Se R m (B8 R m k).1[k] hv hcl.lt (by have:=hcl.len;omega) (by omega) hr6
   have hvis:=Sc R (B8 R m k).1[k] hv hcl.lt (by have:=hcl.len;omega) (by omega) hr6
   have hLb:=NB hev hcl.lt
   have hL0:∀ e∈Xf R (B8 R m k).1[k],0<e/\e<=1025:=fun e he=>by
    obtain ⟨s,hs,a,ha,h0,rfl⟩:=Dm.1 he
    rw [gE2,gE1 (hcl.lt s hs),Option.getD_some] at ha
    have:=hev _ (gE6 (hcl.lt s hs)) a ha
    omega
   have hYl:(XG R m (B8 R m k).1[k]).length<=7:=by
    have h5:=Ei R (B8 R m k).1[k]
    have h6:=Es (Xg R (B8 R m k).1[k])
    have h7:=hcl.len
    unfold XG
    split
    ·simp
    split
    ·omega
    split
    ·simp
    omega
   generalize Xf R (B8 R m k).1[k]=L at *
   generalize XG R m (B8 R m k).1[k]=Y at *
   generalize XH R m (B8 R m k).1[k]=dv at *
   generalize (B8 R m k).1[k]=X at *
   obtain ⟨S,hS⟩:∃ S,S=(B8 R m k).1:=⟨_,rfl⟩
   obtain ⟨N,hN⟩:∃ N,N=(B8 R m k).2:=⟨_,rfl⟩
   rw [<- hS] at hps har hg hT7 hlt hPst ⊢
   rw [<- hN] at hPn hps ⊢
   have d1:decide ((k:Int)<(S.length:Int))=true:=by simpa using hlt
   have d4:decide ((S.length:Int) > 4096)=false:=decide_eq_false (by omega)
   have d6:decide ((Y.length:Int) > 1024)=false:=decide_eq_false (by omega)
   have gC0:∀ T:List (List Nat),T[k]?=some X->(Au (Xu T))[k]?=some (.t 1 (Ac (X.map Int.ofNat))):=fun T h=>by simp [Au,Xu,h]
   have gC:=gC0 S hg
   have hcS:∀ T:List (List Nat),(Au (Xu T)).length=T.length:=fun T=>by simp [Au,Xu]
   simp only [Ba] at hlab hvis
   have hKo:=hK
   (refine VW @d1 ?_;(repeat clear hK K);repeat refine kq fun K hK=>?_)
   refine W2 ?_
   (refine VV ?_;(repeat clear hK K);repeat refine kq fun K hK=>?_)
   (refine Af 6 [(0,1),(1,0),(2,0),(3,0),(4,1),(5,0),(6,2),(7,0),(8,0),(9,0),(10,0),(11,0)] (by kernel_rfl) (by kernel_rfl) (by intro c st h;simp [Ad,Ay,Vl] at h) ?_)
   (refine VS (an @gC @hcS) ?_;repeat clear hK K)
   (refine Qa hlab ?_;intro K1 hK1)
   rintro _ _ ⟨rfl,rfl⟩
   (refine W1 ?_;clear hK1 K1)
   (refine VR ?_;repeat clear hK K)
   (refine VW (an @d4 (an @d6 @Ae)) ?_;(repeat clear hK K);repeat refine kq fun K hK=>?_)
   refine W3 ?_
   (refine SU ?_;(repeat clear hK K);repeat refine kq fun K hK=>?_)
   (refine Af 5 [(0,1),(1,0),(2,0),(3,0),(4,1),(5,2),(6,0)] (by kernel_rfl) (by kernel_rfl) (by intro c st h;simp [Ad,Ay,Vl] at h) ?_)
   (refine VS (an @gC @hcS) ?_;repeat clear hK K)
   (refine Qa hvis ?_;intro K1 hK1)
   rintro _ _ ⟨rfl,rfl⟩
   (refine W1 ?_;clear hK1 K1)
   (refine VR ?_;repeat clear hK K)
   (refine VV ?_;(repeat clear hK K);repeat refine kq fun K hK=>?_)
   refine As (I6 23 2) ?_
   simp only [List.cons_append,List.nil_append]
   refine As (FU 3 0 4 (by decide) rfl rfl rfl) ?_
   simp only [List.set_cons_zero,List.set_cons_succ]
   refine Ab (fun j:Nat=>{ tm:=[(1,.i m),(2,.a (.c (.p 0 0))),(7,.a (.c (.s 1 (Xl R X (L.take j) S).2.length))),(8,.a (.c (.s 2 k))),(9,.i ar),(10,.i k),(12,.b dv),(13,.a (.c (.p 3 0))),(14,.a (.c (.t 1 (Ac L)))),(15,.i j)],hp:=[.r ⟨27,1,false,[.t 1 (AK R)]⟩,.r ⟨37,1,true,Au (Xu (Xl R X (L.take j) S).2)⟩,.r ⟨35,3,true,cN N⟩,.r ⟨35,3,false,[.s 4 (Xl R X (L.take j) S).1.length,.t 1 (Az Y),.v (.bool dv)]⟩,.r ⟨23,2,true,AG (Xl R X (L.take j) S).1⟩],n:=118,pin:=0 }) (fun j=>j<=L.length/\(dv=true->j=0)) (fun j=>L.length - j) 0 ?_ ?_ ?_
   ·exact ⟨by omega,fun _=>rfl⟩
   ·have hca:AG ([]:List Ar)=[]:=rfl
    simp only [List.take_zero,Xl,List.foldl_nil,List.length_nil,hca]
    exact W5
   rintro j ⟨hj,hj0⟩ K hK
   have hai:=ArI.all hPst X (L.take j)
   by_cases hc:j<L.length/\dv=false
   rotate_left
   ·have hend:(dv=true/\j=0)\/(dv=false/\L.take j=L):=by
     cases dv with
     | true=>exact .inl ⟨rfl,hj0 rfl⟩
     | false=>exact .inr ⟨rfl,gE7 (by by_cases h:j<L.length;exact absurd ⟨h,rfl⟩ hc;omega)⟩
    have hz:B8 R m (k+1)=((Xl R X (L.take j) S).2,N++[((Xl R X (L.take j) S).1,Y,dv)])/\(Xl R X (L.take j) S).1.length<=1026:=by
     rcases hend with ⟨rfl,rfl⟩ | ⟨rfl,h5⟩
     ·rw [if_pos rfl] at hps har
      exact ⟨hps,har⟩
     rw [if_neg (by decide)] at hps har
     rw [h5]
     exact ⟨hps,har⟩
    clear hps har
    generalize Xl R X (L.take j) S=p at *
    obtain ⟨A,T⟩:=p
    simp only at hz hai ⊢
    obtain ⟨hps,har⟩:=hz
    have d5:decide (ar+(A.length:Int) > 262144)=false:=decide_eq_false (by omega)
    have htkN:(cN N).take (k*3)++[.t 2 (Aw A),.t 1 (Az Y),.v (.bool dv)]=cN (N++[(A,Y,dv)]):=by
     rw [<- hPn,gE7 (by rw [Im];exact Nat.le_refl _)]
     exact Jh N (A,Y,dv)
    have hgo:(decide ((j:Int)<(L.length:Int))=false/\1+1=2)\/(decide ((j:Int)<(L.length:Int))=true/\dv=true):=by
     by_cases h:j<L.length
     rotate_left
     ·exact .inl ⟨by simpa using h,rfl⟩
     refine .inr ⟨by simpa using h,?_⟩
     cases dv with
     | true=>rfl
     | false=>exact absurd ⟨h,rfl⟩ hc
    clear hend hj0 hc
    rcases hgo with ⟨d2,dq⟩ | ⟨d2,rfl⟩
    all_goals
     (refine VW (an @d2 (an @A2 @Bool.not_true)) ?_;(repeat clear hK K);repeat refine kq fun K hK=>?_)
     refine W3 ?_
     (refine VZ ?_;repeat clear hK K)
     refine As (AQ (r:=⟨23,2,true,AG A⟩) (ri:=⟨35,3,false,[.s 4 A.length,.t 1 (Az Y),.v (.bool _)]⟩) (ts:=Aw A) 3 0 4 A.length (by decide) rfl rfl rfl rfl (show 0<2 by omega) (by rw [AD]) (DB _)) ?_
     simp only [go_sem]
     refine As (CI 3 rfl) ?_
     simp only [Vp,List.map_cons,List.map_nil,go_sem]
     (refine VW (an @A3 (an @Aq @d5)) ?_;(repeat clear hK K);repeat refine kq fun K hK=>?_)
     refine W3 ?_
     (refine VW (an @Im (an @Cw @hPn)) ?_;(repeat clear hK K);repeat refine kq fun K hK=>?_)
     refine W4 ?_
     refine hKo _ (k+1,ar+A.length) ⟨hst,by simp only;omega,by simp only;omega⟩ (by simp only;omega) ?_
     simp only [hps,htkN]
     refine Le.trans (A8 [0,1,6] rfl rfl) ?_
     simp only [go_sem,BD,G5]
     exact W5
   obtain ⟨hjl,hdv⟩:=hc
   subst hdv
   have d2:decide ((j:Int)<(L.length:Int))=true:=by simpa using hjl
   have hgL:=gE1 hjl
   have gL:=Al hgL
   have hTk:L.take (j+1)=L.take j++[L[j]]:=gE8 hjl
   have hnx:=KE R X (L.take j) S L[j]
   rw [<- hTk] at hnx
   have hel:(L.take j).length=j:=by rw [List.length_take];omega
   have he0:=hL0 _ (gE6 hjl)
   generalize L[j]=e at *
   generalize Xl R X (L.take j) S=p at *
   obtain ⟨A,T⟩:=p
   simp only [LV] at hai hnx ⊢
   have hAl:A.length=j:=by rw [<- hel,<- hai.ev,List.length_map]
   have hTl2:=hai.st.len
   have hT72:T.length<=128:=Nat.le_trans hTl2 (Nat.pow_le_pow_right (by omega) hn)
   have hTX:T[k]?=some X:=by rw [hai.pre k hlt,hg]
   have hkT:k<T.length:=(List.getElem?_eq_some_iff.1 hTX).1
   have gT:=gC0 T hTX
   have hcT:=hcS T
   have hcx:=ClS.aft (R:=R) X e
   have hxl:=hcx.len
   have haft:=Sa R X e hv hcl he0.1 he0.2 (by omega) hr6
   have hpl:=NF T (EP R X e) (fun y hy=>by have:=(hai.st.cl y hy).len;omega) (by omega) (by omega)
   generalize EP R X e=x at *
   simp only [Ba,Ap] at haft
   have htkA:(AG A).take (A.length*2)=AG A:=gE7 (by rw [AD];exact Nat.le_refl _)
   (refine VW (an @d2 (an @A2 @Bool.not_false)) ?_;(repeat clear hK K);repeat refine kq fun K hK=>?_)
   refine W2 ?_
   (refine VV ?_;(repeat clear hK K);repeat refine kq fun K hK=>?_)
   (refine Af 9 [(0,1),(1,0),(2,0),(3,0),(4,1),(5,0),(6,0),(7,0),(8,1),(9,2),(10,0)] (by kernel_rfl) (by kernel_rfl) (by intro c st h;simp [Ad,Ay,Vl] at h) ?_)
   (refine VS (an @gT (an @hcT (an @gL @A2))) ?_;repeat clear hK K)
   (refine Qa haft ?_;intro K1 hK1)
   rintro _ _ ⟨rfl,rfl⟩
   (refine W1 ?_;clear hK1 K1)
   (refine VR ?_;repeat clear hK K)
   (refine VV ?_;(repeat clear hK K);repeat refine kq fun K hK=>?_)
   (refine Aj rfl ?_;intro K1 hK1;refine Ax (ids:=[]) [1] (hpl) rfl rfl (by simp only [go_sem]) (by first | assumption | kernel_rfl) rfl rfl (by (simp only [List.map_append,List.append_nil,go_sem]) <;> rfl) (by (simp only [Vk,BD,go_sem]) <;> rfl) ?_ ?_)
   ·rintro _ _ ⟨rfl,rfl⟩;rfl
   rintro _ _ ⟨rfl,rfl⟩
   (simp only [Ap,AC,Ft,List.append_nil,List.nil_append,List.length_map,go_sem];refine hK1 _ ?_;clear hK1 K1)
   by_cases hx:x∈T
   ·have hpv:XF T x=(Xi T x:Int):=by unfold XF Xi;rw [if_pos hx]
    have hnd:Xk T x=T:=if_pos hx
    have d3:decide (((Xi T x:Nat):Int)<0)=false:=decide_eq_false (by omega)
    rw [hpv]
    rw [hnd] at hnx
    (refine VW @d3 ?_;(repeat clear hK K);repeat refine kq fun K hK=>?_)
    refine W3 ?_
    (refine VV ?_;(repeat clear hK K);repeat refine kq fun K hK=>?_)
    (refine AF [] (.m 0 0 0 (.m 1 1 9 (.m 2 0 0 (.m 3 0 0 (.m 4 0 0 (.m 5 1 8 (.m 6 0 0 (.m 7 0 0 (.a 8 (.a 9 (.m 10 0 0 (.a 11 .e)))))))))))) (by kernel_rfl) (by kernel_rfl) (by intro c st h;simp [Ad,Ay,Vl] at h) ?_)
    (refine VY (an @gL @A2) ?_;repeat clear hK K)
    (refine VL rfl rfl ?_;intro K1 hK1;refine Bl rfl ?_;simp only [go_sem];(first | refine hK1 _ ?_ | refine AE (hK1 _ ?_));clear hK1 K1)
    (refine E3 rfl rfl rfl ?_;intro K1 hK1;refine Cl rfl rfl rfl rfl (by first | rfl | simp only [Ct,List.getD_cons_zero,List.getD_cons_succ,hne,List.isEmpty_cons,Bool.not_false,Bool.true_and,Bool.and_true,Bool.and_self]) rfl ?_;simp only [go_sem,Cm,AD,Aq,htkA,B9];(first | refine hK1 _ ?_ | refine AE (hK1 _ ?_));clear hK1 K1)
    (refine VX ?_;repeat clear hK K)
    (refine VM rfl rfl rfl rfl ?_;intro K1 hK1;refine Bc rfl ?_;simp only [go_sem,ST.put,De,A0.cells];(first | refine hK1 _ ?_ | refine AE (hK1 _ ?_));clear hK1 K1)
    (refine VX ?_;repeat clear hK K)
    (refine VV ?_;(repeat clear hK K);repeat refine kq fun K hK=>?_)
    refine W4 ?_
    refine hK _ (j+1) ⟨by omega,fun h=>absurd h (by decide)⟩ (by omega) ?_
    simp only [hnx,htkA,B9,List.length_append,List.length_cons,List.length_nil]
    refine Le.trans (A8 [0,1,2,3,6] rfl rfl) ?_
    simp only [go_sem,BD,G5,Dd]
    exact W5
   have hpv:XF T x = -1:=by unfold XF;rw [if_neg hx]
   have hnd:Xk T x=T++[x]:=if_neg hx
   have hnn:Xi T x=T.length:=Qm hx
   have d3:decide ((-1:Int)<0)=true:=by decide
   have htkS:(Au (Xu T)).take T.length++[C.t 1 (Ac (x.map Int.ofNat))]=Au (Xu (T++[x])):=by
    rw [gE7 (by rw [hcT];exact Nat.le_refl _)];simp [Au,Xu]
   rw [hpv]
   rw [hnd,hnn] at hnx
   (refine VW @d3 ?_;(repeat clear hK K);repeat refine kq fun K hK=>?_)
   refine W2 ?_
   (refine VW (an @hcT @htkS) ?_;(repeat clear hK K);repeat refine kq fun K hK=>?_)
   (refine AF [] (.m 0 0 0 (.m 1 1 9 (.m 2 0 0 (.m 3 0 0 (.m 4 0 0 (.m 5 1 8 (.m 6 0 0 (.m 7 0 0 (.a 8 (.a 9 (.m 10 0 0 (.a 11 .e)))))))))))) (by kernel_rfl) (by kernel_rfl) (by intro c st h;simp [Ad,Ay,Vl] at h) ?_)
   (refine VY (an @gL @A2) ?_;repeat clear hK K)
   (refine VL rfl rfl ?_;intro K1 hK1;refine Bl rfl ?_;simp only [go_sem];(first | refine hK1 _ ?_ | refine AE (hK1 _ ?_));clear hK1 K1)
   (refine E3 rfl rfl rfl ?_;intro K1 hK1;refine Cl rfl rfl rfl rfl (by first | rfl | simp only [Ct,List.getD_cons_zero,List.getD_cons_succ,hne,List.isEmpty_cons,Bool.not_false,Bool.true_and,Bool.and_true,Bool.and_self]) rfl ?_;simp only [go_sem,Cm,AD,Aq,htkA,B9];(first | refine hK1 _ ?_ | refine AE (hK1 _ ?_));clear hK1 K1)
   (refine VX ?_;repeat clear hK K)
   (refine VM rfl rfl rfl rfl ?_;intro K1 hK1;refine Bc rfl ?_;simp only [go_sem,ST.put,De,A0.cells];(first | refine hK1 _ ?_ | refine AE (hK1 _ ?_));clear hK1 K1)
   (refine VX ?_;repeat clear hK K)
   (refine VV ?_;(repeat clear hK K);repeat refine kq fun K hK=>?_)
   refine W4 ?_
   refine hK _ (j+1) ⟨by omega,fun h=>absurd h (by decide)⟩ (by omega) ?_
   simp only [hnx,htkA,B9,List.length_append,List.length_cons,List.length_nil]
   refine Le.trans (A8 [0,6,2,3,8] rfl rfl) ?_
   simp only [go_sem,BD,G5,Dd]
   exact W5
end Go.Proofs.YtbnabodoabimnaaGreat
