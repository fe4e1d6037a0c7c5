/- Lemmas. -/
import Derived.Test.YtbnabodoabimnaaGreatNpa
import Derived.Test.YtbnabodoabimnaaGreatBase
import Derived.Deep.Slices
import Derived.ProofKit
import Derived.Test.YtbnabodoabimnaaGreatMF
import Derived.Test.YtbnabodoabimnaaGreatRows
import Derived.OpenShut
namespace Go.Proofs.YtbnabodoabimnaaGreat
set_option linter.unusedVariables false
set_option linter.unusedSimpArgs false
open Go.RowKit
set_option maxRecDepth 100000
attribute [local go_sem] lga C.pl C.one

def Yi:List (List Ar):=[[(0,0),(2,1)],[]]
def Yj:List (List Ar):=[[(1,1),(2,1)],[]]
def Yk:List Xh:=[([],[],true)]
def Yl:List Xh:=[([(2,1)],[],false),([],[[]],false)]
def Ym:List Xh:=[([(1,1),(2,1)],[[1]],false),([],[[]],false)]
theorem X0:WL Yi 0=[0]:=U1 (k:=2) (by decide) (by decide) (by decide) (by decide) (by decide)
theorem Ye:WL Yj 0=[0]:=U1 (k:=2) (by decide) (by decide) (by decide) (by decide) (by decide)
theorem Yf:EP Yi [0] 2=[1]:=QC (k:=2) (by decide) (by decide) (by decide) (by decide) (by decide)
theorem Yg:EP Yj [0] 1=[1]:=QC (k:=2) (by decide) (by decide) (by decide) (by decide) (by decide)
theorem Yh:EP Yj [0] 2=[1]:=QC (k:=2) (by decide) (by decide) (by decide) (by decide) (by decide)
theorem R1:Xm Yi [0]=true:=by
 unfold Xm
 exact @decide_eq_true _ (Classical.propDecidable _) ⟨0,by simp,0,.refl 0,0,by decide,.refl 0⟩
theorem R2:B8 Yi 3 1=([[0]],Yk):=by
 have h0:B8 Yi 3 0=([[0]],[]):=by show ([WL Yi 0],[])=_;rw [X0]
 have h1:(B8 Yi 3 0).1[0]?=some [0]:=by rw [h0];rfl
 rw [C0 h1,h0]
 unfold Xn
 rw [if_pos ⟨rfl,R1⟩];rfl
theorem B2:B8 Yi 2 1=([[0],[1]],[([(2,1)],[],false)]):=by
 have h0:B8 Yi 2 0=([[0]],[]):=by show ([WL Yi 0],[])=_;rw [X0]
 have h1:(B8 Yi 2 0).1[0]?=some [0]:=by rw [h0];rfl
 rw [C0 h1,h0]
 have e:Xf Yi [0]=[2]:=by decide
 have e2:D2 (Xg Yi [0])=[]:=by decide
 unfold Xn
 rw [if_neg (by decide),e,e2]
 unfold Xl LV
 simp only [List.foldl_cons,List.foldl_nil,Yf]
 rfl
theorem T0:B8 Yi 2 2=([[0],[1]],Yl):=by
 have h1:(B8 Yi 2 1).1[1]?=some [1]:=by rw [B2];rfl
 rw [C0 h1,B2]
 have e:Xf Yi [1]=[]:=by decide
 have e2:D2 (Xg Yi [1])=[[]]:=by decide
 unfold Xn
 rw [if_neg (by decide),e,e2]
 rfl
theorem Cy:B8 Yj 2 1=([[0],[1]],[([(1,1),(2,1)],[[1]],false)]):=by
 have h0:B8 Yj 2 0=([[0]],[]):=by show ([WL Yj 0],[])=_;rw [Ye]
 have h1:(B8 Yj 2 0).1[0]?=some [0]:=by rw [h0];rfl
 rw [C0 h1,h0]
 have e:Xf Yj [0]=[1,2]:=by decide
 have e2:D2 (Xg Yj [0])=[[1]]:=by decide
 unfold Xn
 rw [if_neg (by decide),e,e2]
 unfold Xl LV
 simp only [List.foldl_cons,List.foldl_nil,Yg,Yh]
 rfl
theorem To:B8 Yj 2 2=([[0],[1]],Ym):=by
 have h1:(B8 Yj 2 1).1[1]?=some [1]:=by rw [Cy];rfl
 rw [C0 h1,Cy]
 have e:Xf Yj [1]=[]:=by decide
 have e2:D2 (Xg Yj [1])=[[]]:=by decide
 unfold Xn
 rw [if_neg (by decide),e,e2]
 rfl
theorem Pl:FC Tryz.prog 11 [Ba Yi,.i 3] [] (fun r o=>o=[]/\r=.tup [.c (.t 3 (tN Yk)),.c (.v (.int .i64 0))]):=
 SH (q:=([0],1)) (by decide) (by decide) rfl (by kernel_rfl) R2 rfl ⟨0,by decide,by decide⟩ (by decide)
theorem Qk:FC Tryz.prog 11 [Ba Yi,.i 2] [] (fun r o=>o=[]/\r=.tup [.c (.t 3 (tN Yl)),.c (.v (.int .i64 0))]):=
 SH (q:=([0,1],2)) (by decide) (by decide) rfl (by kernel_rfl) T0 rfl ⟨0,by decide,by decide⟩ (by decide)
theorem R0:FC Tryz.prog 11 [Ba Yj,.i 2] [] (fun r o=>o=[]/\r=.tup [.c (.t 3 (tN Ym)),.c (.v (.int .i64 0))]):=
 SH (q:=([0,1],2)) (by decide) (by decide) rfl (by kernel_rfl) To rfl ⟨0,by decide,by decide⟩ (by decide)
set_option maxHeartbeats 4000000 in
theorem B0:FC Tryz.prog 3 [] [] (fun r _=>r=.b true):=by
 refine A7 Tryz.func3 rfl (by rw [Tryz.ntmps3];simp) ?_
 rw [Tryz.ntmps3]
 simp only [B4]
 have ha:=Pl
 have hb:=Qk
 have hc:=R0
 simp only [Ba] at ha hb hc
 (repeat (first | (refine AA ?_;intro K hK) | refine Ai ?_ | refine Ag ?_))
 (repeat (refine AX rfl rfl ?_;intro K1 hK1;simp only [go_sem,ST.put,De,A0.cells];refine hK1 _ ?_;clear hK1 K1))
 (first | refine Aa ?_ | refine Am ?_)
 refine hK _ ?_
 clear hK K
 (repeat (first | (refine AA ?_;intro K hK) | refine Ai ?_ | refine Ag ?_))
 (repeat (refine AX rfl rfl ?_;intro K1 hK1;simp only [go_sem,ST.put,De,A0.cells];refine hK1 _ ?_;clear hK1 K1))
 (first | refine Aa ?_ | refine Am ?_)
 refine hK _ ?_
 clear hK K
 refine As (AQ (r:=⟨23,2,true,AG [(0,0),(2,1)]⟩) (ts:=Aw [(0,0),(2,1)]) 1 0 0 2 (by decide) rfl rfl rfl rfl (show 0<2 by omega) rfl (DB _)) ?_
 simp only [go_sem]
 refine As (MJ 1 [2,2] rfl) ?_
 simp only [Wf,We,Vp,go_sem]
 refine As (AQ (r:=⟨24,1,true,Br Yi⟩) (ri:=⟨27,1,false,[.s 1 2]⟩) (ts:=AK Yi) 2 0 1 2 (by decide) rfl rfl rfl rfl (show 0<1 by omega) rfl (GZ _)) ?_
 simp only [go_sem]
 refine As (CI 2 rfl) ?_
 simp only [Vp,go_sem]
 (repeat (first | (refine AA ?_;intro K hK) | refine Ai ?_ | refine Ag ?_ | (refine AX rfl rfl ?_;intro K1 hK1;simp only [go_sem];(first | refine hK1 _ ?_ | refine AE (hK1 _ ?_));clear hK1 K1) | ((first | refine Aa ?_ | refine Am ?_);refine hK _ ?_;clear hK K)))
 (refine Aj rfl ?_;intro K1 hK1;refine (Av (ids:=[]) (ha) rfl rfl (by simp only [go_sem]) (by kernel_rfl) (by (simp only [List.append_nil,go_sem]) <;> rfl) ?_).stp)
 rintro _ _ ⟨rfl,rfl⟩
 (simp only [Ap,AC,List.append_nil,List.nil_append,List.length_map,go_sem];refine hK1 _ ?_;clear hK1 K1)
 (repeat (first | (refine AA ?_;intro K hK) | refine Ai ?_ | refine Ag ?_ | (refine AX rfl rfl ?_;intro K1 hK1;simp only [go_sem];(first | refine hK1 _ ?_ | refine AE (hK1 _ ?_));clear hK1 K1) | ((first | refine Aa ?_ | refine Am ?_);refine hK _ ?_;clear hK K)))
 (refine Aj rfl ?_;intro K1 hK1;refine (Av (ids:=[]) (hb) rfl rfl (by simp only [go_sem]) (by kernel_rfl) (by (simp only [List.append_nil,go_sem]) <;> rfl) ?_).stp)
 rintro _ _ ⟨rfl,rfl⟩
 (simp only [Ap,AC,List.append_nil,List.nil_append,List.length_map,go_sem];refine hK1 _ ?_;clear hK1 K1)
 (repeat (first | (refine AA ?_;intro K hK) | refine Ai ?_ | refine Ag ?_ | (refine AX rfl rfl ?_;intro K1 hK1;simp only [go_sem];(first | refine hK1 _ ?_ | refine AE (hK1 _ ?_));clear hK1 K1) | ((first | refine Aa ?_ | refine Am ?_);refine hK _ ?_;clear hK K)))
 refine Bw (AQ (r:=⟨23,2,true,AG [(1,1),(2,1)]⟩) (ts:=Aw [(1,1),(2,1)]) 4 0 3 2 (by decide) rfl rfl rfl rfl (show 0<2 by omega) rfl (DB _)) ?_
 simp only [go_sem]
 refine Bw (MJ 4 [2,2] rfl) ?_
 simp only [Wf,We,Vp,go_sem]
 (refine Bw (B6 (r:=⟨24,1,true,Br Yj⟩) 4 (AK Yj) rfl (GZ _) (show 0<(1:Nat) by omega)) ?_;simp only [ST.frz,A0.frz,AV.frz,C.frz,Nat.le_refl,List.set_cons_zero,List.set_cons_succ,go_sem,show (AK Yj).take 2=AK Yj from rfl])
 (refine Aj rfl ?_;intro K1 hK1;refine (Av (ids:=[]) (hc) rfl rfl (by simp only [go_sem]) (by kernel_rfl) (by (simp only [List.append_nil,go_sem]) <;> rfl) ?_).stp)
 rintro _ _ ⟨rfl,rfl⟩
 (simp only [Ap,AC,List.append_nil,List.nil_append,List.length_map,go_sem];refine hK1 _ ?_;clear hK1 K1)
 have d0:((0:Int) != 0)=false:=by decide
 have la:(tN Yk).length / 3=1:=rfl
 have lb:(tN Yl).length / 3=2:=rfl
 have lc:(tN Ym).length / 3=2:=rfl
 have d1:(((1:Nat):Int) != 1)=false:=by decide
 have d2:(((2:Nat):Int) != 2)=false:=by decide
 have d3:(((2:Nat):Int) == 0)=false:=by decide
 (repeat (first | (refine AA ?_;intro K hK) | refine Ai ?_ | refine Ag ?_ | (refine AX rfl rfl ?_;intro K1 hK1;simp only [go_sem,d0,la,lb,lc,d1,d2,d3];(first | refine hK1 _ ?_ | refine AE (hK1 _ ?_));clear hK1 K1) | ((first | refine Aa ?_ | refine Am ?_);refine hK _ ?_;clear hK K)))
 (refine Ah ?_;intro X Y hX hY;simp only [go_sem])
 refine hY ?_
 clear hX hY X Y
 have e1:(tN Yk)[2]?=some (Tr.v (.bool true)):=rfl
 have e2:(tN Yk)[0]?=some (Tr.l 2 (Aw [])):=rfl
 have e3:(tN Yl)[1]?=some (Tr.l 1 (Az [])):=rfl
 have e4:(tN Ym)[1]?=some (Tr.l 1 (Az [[1]])):=rfl
 have f1:(Aw []).length / 2=0:=rfl
 have f2:(Az []).length=0:=rfl
 have d4:(((0:Nat):Int) == 0)=true:=by decide
 (repeat (first | (refine AA ?_;intro K hK) | refine Ai ?_ | refine Ag ?_ | (refine AX rfl rfl ?_;intro K1 hK1;simp only [go_sem,d4,Int.toNat_zero,Nat.zero_mul,Nat.zero_add,la,lb,lc,e1,e2,e3,e4,f1,f2];(first | refine hK1 _ ?_ | refine AE (hK1 _ ?_));clear hK1 K1) | ((first | refine Aa ?_ | refine Am ?_);refine hK _ ?_;clear hK K)))
 refine Bw (AQ (r:=⟨3,1,true,A9 [1]⟩) (ts:=Ac [1]) 6 0 5 1 (by decide) rfl rfl rfl rfl (show 0<1 by omega) rfl (ES _)) ?_
 simp only [go_sem]
 refine Bw (CI 6 rfl) ?_
 simp only [Vp,go_sem]
 (refine Bw (B6 (r:=⟨37,1,true,Au [[1]]⟩) 6 (Az [[1]]) rfl (D0 _) (show 0<(1:Nat) by omega)) ?_;simp only [ST.frz,A0.frz,AV.frz,C.frz,Nat.le_refl,List.set_cons_zero,List.set_cons_succ,go_sem,show (Az [[1]]).take 1=Az [[1]] from rfl,show (if 1*1<=(Az [[1]]).length then C.t 1 (Az [[1]]) else C.u)=C.t 1 (Az [[1]]) from rfl])
 have hs:FC Tryz.prog 12 [.a (.c (.t 1 (Az [[1]]))),.a (.c (.t 1 (Az [[1]])))] [] (fun r o=>o=[]/\r=.b true):=KQ [[1]] [[1]] (by decide) (by decide) (by decide) (by decide)
 (refine AY rfl rfl (by simp only [go_sem] <;> rfl) ?_;intro K1 hK1;refine (Av (ids:=[]) (hs) rfl rfl (by simp only [go_sem]) (by kernel_rfl) (by (simp only [List.append_nil,go_sem]) <;> rfl) ?_).stp)
 rintro _ _ ⟨rfl,rfl⟩
 (simp only [Ap,AC,List.append_nil,List.nil_append,List.length_map,go_sem];refine hK1 _ ?_;clear hK1 K1)
 (repeat (first | (refine AA ?_;intro K hK) | refine Ai ?_ | refine Ag ?_ | (refine AX rfl rfl ?_;intro K1 hK1;simp only [go_sem];(first | refine hK1 _ ?_ | refine AE (hK1 _ ?_));clear hK1 K1) | ((first | refine Aa ?_ | refine Am ?_);refine hK _ ?_;clear hK K)))
 (refine AY rfl rfl (by simp only [go_sem] <;> rfl) ?_;intro K1 hK1;refine (Av (ids:=[]) (O7) rfl rfl (by simp only [go_sem]) (by kernel_rfl) (by (simp only [List.append_nil,go_sem]) <;> rfl) ?_).stp)
 rintro _ _ rfl
 (simp only [Ap,AC,List.append_nil,List.nil_append,List.length_map,go_sem];refine hK1 _ ?_;clear hK1 K1)
 (repeat (first | (refine AA ?_;intro K hK) | refine Ai ?_ | refine Ag ?_ | (refine AX rfl rfl ?_;intro K1 hK1;simp only [go_sem];(first | refine hK1 _ ?_ | refine AE (hK1 _ ?_));clear hK1 K1) | ((first | refine Aa ?_ | refine Am ?_);refine hK _ ?_;clear hK K)))
 ((try refine Ak ?_);(try refine Aa ?_);(try simp only [Ad,Ay]);refine AN (by first | exact .inl rfl | exact .inr rfl) rfl ?_;simp only [Vm,Cq,Ck,Cx,Tryz.results3,go_sem])
open Go.RowKit Go.Deep Go.ChangeShapes Go.WideShapes
def Yd:Nat->Prop:=fun _=>False
variable {H : Type} {enc : TypeId × Value -> H}
theorem Og {P:Program} {f:FuncId} {args:List AV} (h:FC P f args [] (fun r _=>r=.b true)) (W:World) (vals:List Value) (hl:vals.length=args.length)
  (ha:∀ (i:Nat) (x:AV),args[i]?=some x->∃ v,vals[i]?=some v/\∀ g:Gh,g.M=Yd->AVR (CR g [] W) x v) (hgl:GlR Yd W:=by intro n vs h;cases h):Calls P f vals.toArray W fun e W'=>e=.returned (.bool true)/\Fr [] W W':=by
 let g:Gh:=⟨fun _=>0,fun _=>0,Yd⟩
 have lv:∀ ℓ,¬ Lv [] g ℓ:=by
  intro ℓ hl
  cases ℓ with
  | ob i=>rcases hl with ⟨r,e,_⟩ | ⟨kv,e⟩ <;> simp at e
  | cl i j=>obtain ⟨r,k,cs,e,_⟩:=hl;simp at e
 have hr:HR g [] W:=⟨fun b hb=>hb.elim,fun ℓ hl=>(lv ℓ hl).elim,fun ℓ _ hl _ _=>(lv ℓ hl).elim,fun id r e=>by simp at e,fun id kv e=>by simp at e,hgl.keep (Nat.le_refl _) (fun _ _ _=>rfl) (fun k _ ho=>ho.elim (fun h=>h) (fun ⟨ℓ,hl,_⟩=>(lv ℓ hl).elim))⟩
 refine (h g W vals hr ⟨hl,fun i x hx=>by obtain ⟨v,h1,h2⟩:=ha i x hx;exact ⟨v,h1,h2 g rfl⟩⟩).mono ?_
 rintro e W' ⟨v,r,outs,g',rfl,rfl,_,_,_,hv,hf⟩
 exact ⟨by rw [show v=.bool true from hv],hf.fr fun k _ ⟨ℓ,hl,_⟩=>(lv ℓ hl).elim⟩
theorem UZ:ownKnob Tryz.prog.godebug=none:=by kernel_rfl
end Go.Proofs.YtbnabodoabimnaaGreat
