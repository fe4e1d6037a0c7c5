/- Lemmas. -/
import Derived.Test.YtjijjfkalheokaaGreatDoorG70
import Derived.Test.YtjijjfkalheokaaGreatDoorZk
import Derived.Test.YtjijjfkalheokaaGreatDoorG39
namespace Go.Proofs.YtjijjfkalheokaaGreatDoor
set_option linter.unusedVariables false
set_option linter.unusedSimpArgs false
open Go.RowKit
set_option maxRecDepth 100000
attribute [local go_sem] lga C.pl C.one

theorem On (x y:Operand) (a:Ar):FR Tryz.prog .neq 46 x y [.int .i64 a.1,.int .i64 a.2] [.int .i64 a.1,.int .i64 a.2] false=True:=by
 have h:=Nc x y a a
 rw [gEg (rfl:a=a)] at h
 exact h
theorem LX (r:List Ar) (hn:r.length<=1000000):FC Tryz.prog 54 [.a (.c (.t 2 (Ao r))),.a (.c (.t 2 (Ao r)))] [] (fun x o=>o=[]/\x=.b true):=by
 refine A6 Tryz.func54 rfl (by rw [Tryz.ntmps54];simp) ?_
 rw [Tryz.ntmps54]
 simp only [Bf]
 have d0:((r.length:Int) != (r.length:Int))=false:=by simp
 (refine Wu (an @A2 (an @Ak @d0)) ?_;(repeat clear hK K);repeat refine kq fun K hK=>?_)
 refine WC ?_
 (refine Wt ?_;(repeat clear hK K);repeat refine kq fun K hK=>?_)
 refine A8 (fun k:Nat=>{ tm:=[(0,.a (.c (.t 2 (Ao r)))),(1,.a (.c (.t 2 (Ao r)))),(5,.i k)],hp:=[],n:=26,pin:=0 }) (fun k=>k<=r.length) (fun k=>r.length - k) 0 ?_ ?_ ?_
 ·omega
 ·exact WE
 rintro k hk K hK
 by_cases hlt:k<r.length
 rotate_left
 ·have d1:decide ((k:Int)<(r.length:Int))=false:=by simpa using hlt
  (refine Wu (an @d1 (an @A2 @Ak)) ?_;(repeat clear hK K);repeat refine kq fun K hK=>?_)
  refine WC ?_
  (refine Wx ?_;repeat clear hK K)
  (refine Wt ?_;(repeat clear hK K);repeat refine kq fun K hK=>?_)
  exact Lq [] Tryz.results54
 have d1:decide ((k:Int)<(r.length:Int))=true:=by simpa using hlt
 have hat:=AL hlt
 have d2:(!decide (r[k]=r[k]))=false:=by simp
 (refine Wu (an @d1 (an @A2 @Ak)) ?_;(repeat clear hK K);repeat refine kq fun K hK=>?_)
 refine WB ?_
 (refine Wt ?_;(repeat clear hK K);repeat refine kq fun K hK=>?_)
 (refine Ac 8 [(0,0),(1,0),(2,0),(3,1),(4,0),(5,0),(6,0),(7,1),(8,2)] (by kernel_rfl) (by kernel_rfl) (by intro c st h;simp [Ae,AF,VT] at h) ?_)
 (repeat (first | ((first | refine Rz rfl rfl rfl ?_ | refine RA rfl rfl rfl ?_);intro K1 hK1;simp only [go_sem,hat,A2,Ak,On,Dm,decide_true,Bool.not_true,beq_self_eq_true,Bool.and_self,true_and];(first | refine hK1 _ ?_ | refine AD (hK1 _ ?_));clear hK1 K1) | (refine RB rfl rfl rfl rfl ?_;intro K1 hK1;simp only [go_sem,hat,A2,Ak,On,Dm,decide_true,Bool.not_true,beq_self_eq_true,Bool.and_self,true_and];(first | refine hK1 _ ?_ | refine AD (hK1 _ ?_));clear hK1 K1) | (refine H9 ?_;refine hK _ ?_;clear hK K)))
 refine WC ?_
 (refine Wt ?_;(repeat clear hK K);repeat refine kq fun K hK=>?_)
 refine WD ?_
 refine hK _ (k+1) (by omega) (by omega) ?_
 exact WE
theorem JC (R:List (List Ar)) (hn:R.length<=1000000) (hr:∀ r∈R,r.length<=1000000):FC Tryz.prog 29 [B7 R,B7 R] [] (fun x o=>o=[]/\x=.b true):=by
 refine A6 Tryz.func29 rfl (by rw [Tryz.ntmps29];simp) ?_
 rw [Tryz.ntmps29]
 simp only [Bf,B7]
 have d0:((R.length:Int) != (R.length:Int))=false:=by simp
 (refine Wu (an @A3 @d0) ?_;(repeat clear hK K);repeat refine kq fun K hK=>?_)
 refine WC ?_
 (refine Wt ?_;(repeat clear hK K);repeat refine kq fun K hK=>?_)
 refine A8 (fun k:Nat=>{ tm:=[(2,.a (.c (.p 0 0))),(3,.a (.c (.p 1 0))),(5,.i k)],hp:=[.r ⟨25,1,false,[.t 1 (Ah R)]⟩,.r ⟨25,1,false,[.t 1 (Ah R)]⟩],n:=32,pin:=0 }) (fun k=>k<=R.length) (fun k=>R.length - k) 0 ?_ ?_ ?_
 ·omega
 ·exact WE
 rintro k hk K hK
 by_cases hlt:k<R.length
 rotate_left
 ·have d1:decide ((k:Int)<(R.length:Int))=false:=by simpa using hlt
  (refine Wu (an @d1 @A3) ?_;(repeat clear hK K);repeat refine kq fun K hK=>?_)
  refine WC ?_
  (refine Wx ?_;repeat clear hK K)
  (refine Wt ?_;(repeat clear hK K);repeat refine kq fun K hK=>?_)
  exact Lq [] Tryz.results29
 have d1:decide ((k:Int)<(R.length:Int))=true:=by simpa using hlt
 have hg:=gE1 hlt
 (refine Wu (an @d1 @A3) ?_;(repeat clear hK K);repeat refine kq fun K hK=>?_)
 refine WB ?_
 (refine Wt ?_;(repeat clear hK K);repeat refine kq fun K hK=>?_)
 (refine Ac 10 [(0,0),(1,1),(2,0),(3,0),(4,1),(5,0),(6,1),(7,0),(8,0),(9,1),(10,2),(11,0)] (by kernel_rfl) (by kernel_rfl) (by intro c st h;simp [Ae,AF,VT] at h) ?_)
 (refine Wq (an @A3 (Ag hg)) ?_;repeat clear hK K)
 (refine MF (LX R[k] (hr _ (gE6 hlt))) ?_;intro K1 hK1)
 rintro _ _ ⟨rfl,rfl⟩
 (refine Wz ?_;clear hK1 K1)
 (refine Wq @Bool.not_true ?_;repeat clear hK K)
 refine WC ?_
 (refine Wt ?_;(repeat clear hK K);repeat refine kq fun K hK=>?_)
 refine WD ?_
 refine hK _ (k+1) (by omega) (by omega) ?_
 exact WE
end Go.Proofs.YtjijjfkalheokaaGreatDoor
