/- Lemmas. -/
import Derived.Test.YtbnabodoabimnaaGreatNrc
import Derived.Test.YtbnabodoabimnaaGreatMF
import Derived.Test.YtbnabodoabimnaaGreatRows
import Derived.OpenShut
namespace Go.Proofs.YtbnabodoabimnaaGreat
set_option linter.unusedVariables false
set_option linter.unusedSimpArgs false
open Go.RowKit Go.Deep Go.ChangeShapes Go.WideShapes
def Yd:Nat->Prop:=fun _=>False
theorem PX {w:World} {A:Option Addr} {n c k:Nat} {cs:List Value} (h:Sl [] w A n c k cs) (h1:∀ u∈cs,u.oneCell'=true):Rd Yd w (.l k (cs.map .v)) (.slice A n c):=by
 rcases gBs n with h0 | h0
 ·subst h0
  have:cs=[]:=gAt (by rw [h.len];simp)
  subst this
  exact .e _ _ _
 obtain ⟨b,off,rfl,_,hb,hc⟩:=h.at_ h0
 refine .l k _ b off n c (fun j=>(cs[j]?).getD undef) (by rw [gAN];exact h.len) h0 h.cap (fun h=>h) hb (fun j t hj=>?_) (fun j t hj=>?_)
 ·rw [gAC,gBG] at hj
  obtain ⟨u,hu,rfl⟩:=hj
  rw [hu];exact hc j u hu
 rw [gAC,gBG] at hj
 obtain ⟨u,hu,rfl⟩:=hj
 rw [hu]
 exact .v u (h1 u (gE9 hu))
theorem Of:∀ vs:List Value,vs.flatMap cv=vs
 | []=>rfl
 | v :: r=>by
  show v :: r.flatMap cv=v :: r
  rw [Of r]
theorem LP {w:World} {A:Option Addr} {n c:Nat} {xs:List (Int × Int)} (h:SY [] w A n c xs):Rd Yd w (.l 2 (Aw xs)) (.slice A n c):=by
 have:=PX h.sl (by
  intro u hu
  obtain ⟨x,_,hx⟩:=gB5.1 hu
  simp [cp] at hx
  rcases hx with rfl | rfl <;> rfl)
 have e:(xs.flatMap cp).map Tr.v=Aw xs:=by simp [Aw,List.map_flatMap,cp]
 rwa [e] at this
theorem PY {α:Type} {f:α->List Value} {k:Nat} {tr:List α->List Tr} {w:World} {A:Option Addr} {n c:Nat} {rs:List (List α)} (h:Ll f k [] w A n c rs)
  (hf:∀ {A:Option Addr} {n c:Nat} {xs:List α},Ls f k [] w A n c xs->Rd Yd w (.l k (tr xs)) (.slice A n c)):Rd Yd w (.l 1 (rs.map fun r=>.l k (tr r))) (.slice A n c):=by
 obtain ⟨vs,h1,h2⟩:=h.ex
 have hl:rs.length=n:=by rw [<- h2.1];exact h1.n_eq
 rcases gBs n with h0 | h0
 ·subst h0
  have:rs=[]:=gAt hl
  subst this
  exact .e _ _ _
 obtain ⟨b,off,rfl,_,hb,hc⟩:=h1.sl.at_ h0
 have hcv:∀ j v,vs[j]?=some v->w.cell? ⟨b,off+j,none⟩=some v:=fun j v hv=>by
  refine hc j v ?_
  rw [Of];exact hv
 refine .l 1 _ b off n c (fun j=>(vs[j]?).getD undef) (by simp [hl]) h0 h1.sl.cap (fun h=>h) hb (fun j t hj=>?_) (fun j t hj=>?_)
 ·rw [gAC,gBG] at hj
  obtain ⟨r,hr,rfl⟩:=hj
  obtain ⟨v,hv,_⟩:=h2.get' hr
  rw [hv];exact hcv j v hv
 rw [gAC,gBG] at hj
 obtain ⟨r,hr,rfl⟩:=hj
 obtain ⟨v,hv,A,n',c',e,hx⟩:=h2.get' hr
 rw [hv,e]
 exact hf hx
theorem LQ {w:World} {A:Option Addr} {n c:Nat} {R:List (List (Int × Int))} (h:Ll cp 2 [] w A n c R):Rd Yd w (.l 1 (AK R)) (.slice A n c):=PY h LP

variable {H : Type} {enc : TypeId × Value -> H}
theorem SM {P:Program} {w:World} {t e:TypeId} {fuel:Nat} {v:Value} {x:DataW H × List MemPlace} (ht:P.underlying t=some (.slice e)) (he:P.underlying e=some (.int .i64)) (hc:P.cellsOf e=1) (h:DataW.trod enc P w 0 (fun _=>true) true fuel t [v]=some x):
  ∃ zs,Rd Yd w (.l 1 (Ac zs)) v/\zs.length<=9223372036854775807/\∀ y∈zs,L6 y:=by
 rcases open_ints ht he hc h with ⟨hcs,_⟩ | ⟨a,l,c,zs,hcs,_,hl,hm,hz,_,hcell,hwz⟩
 ·simp at hcs;subst hcs
  exact ⟨[],.e _ _ _,by simp,by simp⟩
 simp at hcs;subst hcs
 have hzl:zs.length=c:=by simpa using hz
 simp only [maxLen] at hm
 refine ⟨zs.take l,?_,by simp;omega,fun y hy=>?_⟩
 rotate_left
 ·have:=hwz y (gB8 hy)
  have h2 : -9223372036854775808<=y/\y<=9223372036854775807:=by simpa [Lit.wf,IntKind.min,IntKind.max,IntKind.signed,IntKind.bits] using this
  exact ⟨h2.1,by omega⟩
 rcases gBs l with h0 | h0
 ·subst h0;exact .e _ _ _
 have hX0:=hcell 0 (by omega)
 simp [Addr.add] at hX0
 obtain ⟨hsp,hlt⟩:=JE hX0
 obtain ⟨b,off,rfl⟩:∃ b off,a=⟨b,off,none⟩:=⟨a.block,a.off,by cases a;simp at hsp;subst hsp;rfl⟩
 have hadd:∀ q,(⟨b,off,none⟩:Addr).add q=⟨b,off+q,none⟩:=fun q=>by unfold Addr.add;split <;> simp_all
 refine .l 1 _ b off l c (fun j=>.int .i64 (zs.getD j 0)) (by simp [Ac];omega) h0 hl (fun h=>h) hlt (fun j t hj=>?_) (fun j t hj=>?_)
 ·have hj2:j<l:=by
   have:=(List.getElem?_eq_some_iff.1 hj).1
   simp [Ac] at this;omega
  rw [<- hadd];exact hcell j (by omega)
 have hj2:j<l:=by
  have:=(List.getElem?_eq_some_iff.1 hj).1
  simp [Ac] at this;omega
 simp only [Ac,gAC,gAF,if_pos hj2] at hj
 rw [gE1 (by omega)] at hj
 simp at hj
 subst hj
 rw [List.getD,gE1 (by omega)]
 exact .v _ rfl
theorem Og {P:Program} {f:FuncId} {args:List AV} (h:FC P f args [] (fun r _=>r=.b true)) (W:World) (vals:List Value) (hl:vals.length=args.length)
  (ha:∀ (i:Nat) (x:AV),args[i]?=some x->∃ v,vals[i]?=some v/\∀ g:Gh,g.M=Yd->AVR (CR g [] W) x v) (hgl:GlR Yd W:=by intro n vs h;cases h):Calls P f vals.toArray W fun e W'=>e=.returned (.bool true)/\Fr [] W W':=by
 let g:Gh:=⟨fun _=>0,fun _=>0,Yd⟩
 have lv:∀ ℓ,¬ Lv [] g ℓ:=by
  intro ℓ hl
  cases ℓ with
  | ob i=>rcases hl with ⟨r,e,_⟩ | ⟨kv,e⟩ <;> simp at e
  | cl i j=>obtain ⟨r,k,cs,e,_⟩:=hl;simp at e
 have hr:HR g [] W:=⟨fun b hb=>hb.elim,fun ℓ hl=>(lv ℓ hl).elim,fun ℓ _ hl _ _=>(lv ℓ hl).elim,fun id r e=>by simp at e,fun id kv e=>by simp at e,hgl.keep (gBu _) (fun _ _ _=>rfl) (fun k _ ho=>ho.elim (fun h=>h) (fun ⟨ℓ,hl,_⟩=>(lv ℓ hl).elim))⟩
 refine (h g W vals hr ⟨hl,fun i x hx=>by obtain ⟨v,h1,h2⟩:=ha i x hx;exact ⟨v,h1,h2 g rfl⟩⟩).mono ?_
 rintro e W' ⟨v,r,outs,g',rfl,rfl,_,_,_,hv,hf⟩
 exact ⟨by rw [show v=.bool true from hv],hf.fr fun k _ ⟨ℓ,hl,_⟩=>(lv ℓ hl).elim⟩
theorem SN {g:Gh} (h:g.M=Yd) {b:Nat}:¬ Ow [] g b:=by
 rintro (ho | ⟨ℓ,hl,_⟩)
 ·rw [h] at ho;exact ho
 cases ℓ with
 | ob i=>rcases hl with ⟨r,e,_⟩ | ⟨kv,e⟩ <;> simp at e
 | cl i j=>obtain ⟨r,k,cs,e,_⟩:=hl;simp at e
theorem QE {g:Gh} {W:World} {k:Nat} {cs:List Tr} {v:Value} (h:Rd Yd W (.l k cs) v) (hg:g.M=Yd):AVR (CR g [] W) (.a (.c (.t k cs))) v:=h.mono fun _ _ ho=>absurd ho (SN hg)
theorem UZ:ownKnob Tryz.prog.godebug=none:=by kernel_rfl
theorem Hx:laidOutB Tryz.prog=true:=by kernel_rfl
end Go.Proofs.YtbnabodoabimnaaGreat
namespace Go.Proofs.YtbnabodoabimnaaGreat
set_option linter.unusedVariables false
set_option linter.unusedSimpArgs false
open Go.RowKit Go.Deep Go.ChangeShapes Go.WideShapes
theorem SO {t i:TypeId} {n0 n1:String} (ht:Tryz.prog.underlying t=some (.struct (Tryz.prog.fieldsOf t))) (hf:(Tryz.prog.fieldsOf t).toList.map (fun f=>(f.name,f.type,f.offset))=[(n0,i,0),(n1,i,1)]):
  ∃ f0 f1,Tryz.prog.underlying t=some (.struct #[f0,f1])/\(f0.type=i/\f0.offset=0)/\(f1.type=i/\f1.offset=1):=by
 match h:(Tryz.prog.fieldsOf t).toList,hf with
 | [f,g],hf=>
  simp only [gAV,gAX,gAl,gBJ,and_true] at hf
  obtain ⟨⟨_,a1,a2⟩,_,b1,b2⟩:=hf
  refine ⟨f,g,?_,⟨a1,a2⟩,⟨b1,b2⟩⟩
  rw [ht]
  have:Tryz.prog.fieldsOf t=#[f,g]:=by apply gA0;simpa using h
  rw [this]
 | [],hf=>simp at hf
 | [_],hf=>simp at hf
 | _ :: _ :: _ :: _,hf=>simp at hf
theorem SP {t i:TypeId} {n0:String} (ht:Tryz.prog.underlying t=some (.struct (Tryz.prog.fieldsOf t))) (hf:(Tryz.prog.fieldsOf t).toList.map (fun f=>(f.name,f.type,f.offset))=[(n0,i,0)]):
  ∃ f0,Tryz.prog.underlying t=some (.struct #[f0])/\(f0.type=i/\f0.offset=0):=by
 match h:(Tryz.prog.fieldsOf t).toList,hf with
 | [f],hf=>
  simp only [gAV,gAX,gAl,gBJ,and_true] at hf
  obtain ⟨_,a1,a2⟩:=hf
  refine ⟨f,?_,⟨a1,a2⟩⟩
  rw [ht]
  have:Tryz.prog.fieldsOf t=#[f]:=by apply gA0;simpa using h
  rw [this]
 | [],hf=>simp at hf
 | _ :: _ :: _,hf=>simp at hf
theorem V0:∃ f0 f1,Tryz.prog.underlying 23=some (.struct #[f0,f1])/\(f0.type=3/\f0.offset=0)/\(f1.type=3/\f1.offset=1):=SO (n0:= "Event") (n1:= "To") (by kernel_rfl) (by kernel_rfl)
theorem V1:∃ f0,Tryz.prog.underlying 27=some (.struct #[f0])/\(f0.type=25/\f0.offset=0):=SP (n0:= "Out") (by kernel_rfl) (by kernel_rfl)

variable {H : Type} {enc : TypeId × Value -> H}
set_option maxRecDepth 100000 in
theorem PZ {W:World} {v:Value} {d:DataW H} {p:List MemPlace} {r:Reach} {b0:Nat} (hv:Value.okWide Tryz.prog W r b0 27 v) (h:DataW.Trod enc Tryz.prog W 0 (fun _=>true) true 27 v d p) (hwt:∀ k∈d.weights Tryz.prog 27,k<=reachBytes):
  ∃ A n c rows,v=.agg #[.slice A n c]/\Ll cp 2 [] W A n c rows/\n<=140737488355328/\∀ r∈rows,r.length<=140737488355328:=by
 obtain ⟨f0,hs,hf1,hf2⟩:=V1
 obtain ⟨a0,a1,he,ha0,ha1⟩:=V0
 obtain ⟨cs,rfl,hsz⟩:=okWide_struct hs hv
 have hC:Tryz.prog.cellsOf 27=1:=by kernel_rfl
 rw [hC] at hsz
 obtain ⟨c0,rfl⟩:∃ c0,cs=#[c0]:=by
  match cs,hsz with
  | ⟨[c0]⟩,_=>exact ⟨c0,rfl⟩
 obtain ⟨fuel,hf⟩:=h
 obtain ⟨y0,n,hx,_,h0⟩:=trod_struct1 hs hf
 have hC2:Tryz.prog.cellsOf 25=1:=by kernel_rfl
 rw [hf1,hf2,hC2] at h0
 simp [Value.cells] at h0
 have hd:d=.agg [y0.1]:=by simpa using congrArg Prod.fst hx
 subst hd
 obtain ⟨A,n,c,rows,hv2,h1,h2,h3⟩:=Oe Tryz.underlying25 (by kernel_rfl) Tryz.underlying24 he (by kernel_rfl) ha0 ha1 Tryz.underlying3 (by kernel_rfl) h0 (by kernel_rfl) (by kernel_rfl) (fun k hk=>hwt k (by
  simp only [DataW.weights,hs,List.toList_toArray,gAV,gAX,DataW.weightsEach,hf1,gAk];exact hk))
 exact ⟨A,n,c,rows,by rw [hv2],h1,h2,h3⟩

theorem SQ {g:Gh} {W:World} {A:Option Addr} {n c:Nat} {R:List (List (Int × Int))} (h:Ll cp 2 [] W A n c R) (hg:g.M=Yd):AVR (CR g [] W) (Ba R) (.agg #[.slice A n c]):=by
 refine ⟨[.slice A n c],rfl,rfl,fun i x hx=>?_⟩
 match i,hx with
 | 0,hx=>simp at hx;subst hx;exact ⟨_,rfl,QE (LQ h) hg⟩
 | i+1,hx=>simp at hx
end Go.Proofs.YtbnabodoabimnaaGreat
