/- Lemmas. -/
import Derived.Test.YtbnabodoabimnaaGreatZk
import Derived.Test.YtbnabodoabimnaaGreatG45
import Derived.Test.YtbnabodoabimnaaGreatG70
import Derived.Test.YtbnabodoabimnaaGreatNw3
import Derived.Test.YtbnabodoabimnaaGreatMF
namespace Go.Proofs.YtbnabodoabimnaaGreat
set_option linter.unusedVariables false
set_option linter.unusedSimpArgs false
open Go.RowKit
set_option maxRecDepth 100000

end Go.Proofs.YtbnabodoabimnaaGreat
namespace Go.Proofs.YtbnabodoabimnaaGreat
set_option linter.unusedVariables false
set_option linter.unusedSimpArgs false
open Go.RowKit
set_option maxRecDepth 100000

theorem Hp (xs ys:List Int) (hn:xs.length<=140737488355328) (hm:ys.length<=140737488355328):FC Tryz.prog 39 [Ap xs,Ap ys] [] (fun r o=>o=[]/\r=.b (decide (xs=ys))):=by
 refine A7 Tryz.func39 rfl (by rw [Tryz.ntmps39];simp) ?_
 rw [Tryz.ntmps39]
 simp only [B4,Ap]
 (refine VW @A2 ?_;(repeat clear hK K);repeat refine kq fun K hK=>?_)
 (refine Ah ?_;intro X Y hX hY;simp only [go_sem])
 refine ⟨fun h=>hX ?_,fun h=>hY ?_⟩
 ·clear hX hY X Y
  (refine VV ?_;(repeat clear hK K);repeat refine kq fun K hK=>?_)
  refine W8 Tryz.results39 ?_
  have:xs ≠ ys:=by rintro rfl;simp at h
  simp [this]
 clear hX hY X Y
 have hlen:xs.length=ys.length:=by simp at h;omega
 clear h
 (refine VV ?_;(repeat clear hK K);repeat refine kq fun K hK=>?_)
 refine Ab (fun k:Nat=>{ tm:=[(0,.a (.c (.t 1 (Ac xs)))),(1,.a (.c (.t 1 (Ac ys)))),(5,.i k)],hp:=[],n:=26,pin:=0 }) (fun k=>k<=xs.length/\xs.take k=ys.take k) (fun k=>xs.length - k) 0 ?_ ?_ ?_
 ·exact ⟨by omega,rfl⟩
 ·exact W5
 rintro k ⟨hk,he⟩ K hK
 (refine VW @A2 ?_;(repeat clear hK K);repeat refine kq fun K hK=>?_)
 (refine Ah ?_;intro X Y hX hY;simp only [go_sem])
 refine ⟨fun h=>hX ?_,fun h=>hY ?_⟩
 rotate_left
 ·have hge:k=xs.length:=by simp at h;omega
  clear hX hY X Y
  (refine VZ ?_;repeat clear hK K)
  (refine VV ?_;(repeat clear hK K);repeat refine kq fun K hK=>?_)
  refine W8 Tryz.results39 ?_
  have:xs=ys:=by
   rw [hge,List.take_length,hlen,List.take_length] at he
   exact he
  simp [this]
 have hlt:k<xs.length:=by simpa using h
 have hlt2:k<ys.length:=by omega
 clear hX hY X Y h
 (refine VV ?_;(repeat clear hK K);repeat refine kq fun K hK=>?_)
 (refine Af 8 [(0,0),(1,0),(2,0),(3,1),(4,0),(5,0),(6,0),(7,1),(8,2)] (by kernel_rfl) (by kernel_rfl) (by intro c st h;simp [Ad,Ay,Vl] at h) ?_)
 (refine VS (an @A2 (an (Al (gE1 hlt)) (Al (gE1 hlt2)))) ?_;repeat clear hK K)
 (refine Ah ?_;intro X Y hX hY;simp only [go_sem])
 refine ⟨fun h=>hX ?_,fun h=>hY ?_⟩
 ·clear hX hY X Y
  (refine VV ?_;(repeat clear hK K);repeat refine kq fun K hK=>?_)
  refine W8 Tryz.results39 ?_
  have:xs ≠ ys:=by rintro rfl;simp at h
  simp [this]
 clear hX hY X Y
 (refine VV ?_;(repeat clear hK K);repeat refine kq fun K hK=>?_)
 refine W4 ?_
 refine hK _ (k+1) ⟨by omega,?_⟩ (by omega) ?_
 rotate_left
 ·exact W5
 have h1:xs[k]=ys[k]:=by simpa using h
 rw [gE8 hlt,gE8 hlt2,he,h1]
theorem KQ (xs ys:List (List Int)) (hn:xs.length<=140737488355328) (hm:ys.length<=140737488355328) (hb:∀ x∈xs,x.length<=140737488355328) (hc:∀ x∈ys,x.length<=140737488355328):FC Tryz.prog 12 [AC xs,AC ys] [] (fun r o=>o=[]/\r=.b (decide (xs=ys))):=by
 refine A7 Tryz.func12 rfl (by rw [Tryz.ntmps12];simp) ?_
 rw [Tryz.ntmps12]
 simp only [B4,AC]
 (refine VW @Ae ?_;(repeat clear hK K);repeat refine kq fun K hK=>?_)
 (refine Ah ?_;intro X Y hX hY;simp only [go_sem])
 refine ⟨fun h=>hX ?_,fun h=>hY ?_⟩
 ·clear hX hY X Y
  (refine VV ?_;(repeat clear hK K);repeat refine kq fun K hK=>?_)
  refine W8 Tryz.results12 ?_
  have:xs ≠ ys:=by rintro rfl;simp at h
  simp [this]
 clear hX hY X Y
 have hlen:xs.length=ys.length:=by simp at h;omega
 clear h
 (refine VV ?_;(repeat clear hK K);repeat refine kq fun K hK=>?_)
 refine Ab (fun k:Nat=>{ tm:=[(0,.a (.c (.t 1 (Az xs)))),(1,.a (.c (.t 1 (Az ys)))),(5,.i k)],hp:=[],n:=27,pin:=0 }) (fun k=>k<=xs.length/\xs.take k=ys.take k) (fun k=>xs.length - k) 0 ?_ ?_ ?_
 ·exact ⟨by omega,rfl⟩
 ·exact W5
 rintro k ⟨hk,he⟩ K hK
 (refine VW @Ae ?_;(repeat clear hK K);repeat refine kq fun K hK=>?_)
 (refine Ah ?_;intro X Y hX hY;simp only [go_sem])
 refine ⟨fun h=>hX ?_,fun h=>hY ?_⟩
 rotate_left
 ·have hge:k=xs.length:=by simp at h;omega
  clear hX hY X Y
  (refine VZ ?_;repeat clear hK K)
  (refine VV ?_;(repeat clear hK K);repeat refine kq fun K hK=>?_)
  refine W8 Tryz.results12 ?_
  have:xs=ys:=by
   rw [hge,List.take_length,hlen,List.take_length] at he
   exact he
  simp [this]
 have hlt:k<xs.length:=by simpa using h
 have hlt2:k<ys.length:=by omega
 clear hX hY X Y h
 (refine VV ?_;(repeat clear hK K);repeat refine kq fun K hK=>?_)
 (refine Af 8 [(0,0),(1,0),(2,0),(3,1),(4,0),(5,0),(6,0),(7,1),(8,2),(9,0)] (by kernel_rfl) (by kernel_rfl) (by intro c st h;simp [Ad,Ay,Vl] at h) ?_)
 (refine VS (an @Ae (an (AR (gE1 hlt)) (AR (gE1 hlt2)))) ?_;repeat clear hK K)
 refine Vt rfl rfl rfl ?_;intro K1 hK1
 refine (Av (ids:=[]) (Hp xs[k] ys[k] (hb _ (gE6 hlt)) (hc _ (gE6 hlt2))) rfl rfl (by simp only [go_sem]) (by kernel_rfl) (by (simp only [List.getElem_toArray,List.getElem_cons_zero,List.getElem_cons_succ,F9,List.append_nil,AV.ren,A0.ren,C.ren,go_sem]) <;> rfl) ?_).stp
 rintro _ _ ⟨rfl,rfl⟩
 (refine W1 ?_;clear hK1 K1)
 (refine VR ?_;repeat clear hK K)
 (refine Ah ?_;intro X Y hX hY;simp only [go_sem])
 refine ⟨fun h=>hX ?_,fun h=>hY ?_⟩
 ·clear hX hY X Y
  (refine VV ?_;(repeat clear hK K);repeat refine kq fun K hK=>?_)
  refine W8 Tryz.results12 ?_
  have:xs ≠ ys:=by rintro rfl;simp at h
  simp [this]
 clear hX hY X Y
 (refine VV ?_;(repeat clear hK K);repeat refine kq fun K hK=>?_)
 refine W4 ?_
 refine hK _ (k+1) ⟨by omega,?_⟩ (by omega) ?_
 rotate_left
 ·exact W5
 have h1:xs[k]=ys[k]:=by simpa using h
 rw [gE8 hlt,gE8 hlt2,he,h1]
end Go.Proofs.YtbnabodoabimnaaGreat
namespace Go.Proofs.YtbnabodoabimnaaGreat
set_option linter.unusedVariables false
set_option linter.unusedSimpArgs false
open Go.RowKit
set_option maxRecDepth 100000

end Go.Proofs.YtbnabodoabimnaaGreat
namespace Go.Proofs.YtbnabodoabimnaaGreat
set_option linter.unusedVariables false
set_option linter.unusedSimpArgs false
open Go.RowKit
set_option maxRecDepth 100000
attribute [local go_sem] lga C.pl C.one

end Go.Proofs.YtbnabodoabimnaaGreat
