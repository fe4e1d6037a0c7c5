/- Lemmas. -/
import Derived.Test.YtbnabodoabimnaaGreatMK
import Derived.Maps.RangeRun
namespace Go.Proofs.YtbnabodoabimnaaGreat
set_option linter.unusedVariables false
set_option linter.unusedSimpArgs false
open Go.RowKit
section
variable {P : Program} {o : Oper} {st : ST} {K : ST -> Prop} {t kt e : TypeId} {id mid since last : Nat} {seen : List Nat} {kv : List (Value × C)}
theorem MpR.map0 {g:Gh} {hp:List Ob} {w:World} (h:MpR g hp w id kv) (hit:Ti kv=false):U8 g hp w id kv:=by
 rcases h with ⟨_,_,_,_,rfl,_⟩ | h
 ·simp [U9,Ti] at hit
 exact h
theorem RelG.drew {g:Gh} {M0:Nat->Prop} {w0 w:World} {a:Act} (hR:RelG g M0 w0 st a w):RelG g M0 w0 st a w.drew:=by
 have hm:Mo g st.hp w g st.hp w.drew (fun _=>True):=⟨fun i hi=>⟨hi,rfl,rfl⟩,fun _ _ h=>h,gBu _,fun _ _ _=>rfl,fun i _ _ r' j k cs e1 e2=>⟨r',e1,e2,fun _=>rfl⟩⟩
 exact hR.mo (hp':=st.hp) hm ⟨hR.hr.ml,hR.hr.md,hR.hr.inj,fun id r e=>RowR.mo hm e (hR.hr.row id r e) (fun _=>rfl) (fun _ _ _ _ _=>⟨rfl,rfl⟩),fun id kv e=>MpR.mo hm e (hR.hr.mp id kv e) rfl,hm.gl hR.hr.gl⟩ hR.new (hR.fp.trans (Fp.drew _ _))
end
end Go.Proofs.YtbnabodoabimnaaGreat
