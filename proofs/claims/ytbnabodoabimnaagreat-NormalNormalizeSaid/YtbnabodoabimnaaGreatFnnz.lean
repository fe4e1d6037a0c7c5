/-
 NormalNormalize returns true for every tape,every transition system and every number,and leaves what came in as it was. No condition.
-/
import Derived.Test.YtbnabodoabimnaaGreatNrc
import Derived.Test.YtbnabodoabimnaaGreatOpn3
import Derived.Test.YtbnabodoabimnaaGreatJnnz
namespace Go.Proofs.YtbnabodoabimnaaGreat
set_option linter.unusedVariables false
set_option linter.unusedSimpArgs false
open Go.ChangeShapes Go.WideShapes Go.ChangeAt Go.RowKit
set_option maxRecDepth 100000 in
theorem nnz_lifted (os:Os) (started:os.Started) (H:Type) (enc:TypeId × Value->H):
  ReturnsInHanded {} Tryz.checked os 7 .any (Rows.normalNormalizeSpec.pre6 enc Tryz.prog Tryz.f7 Rows.normalNormalizeRow.domain false) (Rows.normalNormalizeSpec.post enc Tryz.prog Tryz.f7 false true false false):=by
 refine returnsInHanded_of_change_sized (C:=Tryz.checked) UZ started (by kernel_rfl) Tryz.func7
  (ChangeSpec.witness6 (enc:=enc) (C:=Tryz.checked) false ⟨#[],#[.slice none 0 0,.agg #[.slice none 0 0],.int .i64 0],[]⟩ 8 (by kernel_rfl) (by kernel_rfl) (by kernel_rfl) (by kernel_rfl)) ?_
 intro W base args ds gs before hval0 hW hcnd hsz _
 have hval:∀ (j:Nat) t v,Tryz.f7.params[j]?=some t->args[j]?=some v->Value.okWide Tryz.prog W .any base t v:=hval0
 have hW':=hW
 obtain ⟨p,q,hA0,hV,rfl,hfz,hnd⟩:=hW
 have hA:DataW.TrodAll enc Tryz.prog W 0 (fun _=>true) true Tryz.f7.params.toList args.toList ds p:=hA0
 have hsz2:(DataW.weightsEach Tryz.prog Tryz.f7.params.toList (ds++gs)).all (·<=reachBytes)=true:=by
  have:Tryz.f7.params.toList++Rows.normalNormalizeSpec.plain.varTypes Tryz.checked.prog=Tryz.f7.params.toList:=by simp [Rows.normalNormalizeSpec,ChangeSpec.plain,DataSpec.varTypes]
  rw [<- this];exact hsz
 rw [Tryz.params7] at hA hval hsz2
 obtain ⟨v0,vs0,d0,ds0,p0,q0,hargs,rfl,rfl,h0,r0⟩:=trodAll_cons hA
 obtain ⟨v1,vs1,d1,ds1,p1,q1,rfl,rfl,rfl,h1,r1⟩:=trodAll_cons r0
 obtain ⟨v2,vs2,d2,ds2,p2,q2,rfl,rfl,rfl,h2,r2⟩:=trodAll_cons r1
 obtain ⟨rfl,rfl,rfl⟩:=trodAll_nil r2
 obtain rfl:args=#[v0,v1,v2]:=by cases args;simp_all
 obtain ⟨rfl,rfl⟩:=trodVars_none hV
 have hs0:∀ k∈d0.weights Tryz.prog 37,k<=reachBytes:=fun k hk=>by
  have:=gAg.1 hsz2 k (DataW.weights_mem_each (j:=0) rfl rfl k hk);simpa using this
 obtain ⟨a0,len0,cap0,rfl⟩:=okWide_slice Tryz.underlying37 (hval 0 37 v0 rfl rfl)
 obtain ⟨T0,hT0,hTl0,hTx0⟩:∃ zs,Rd Yd W (.l 1 (Ac zs)) (.slice a0 len0 cap0)/\zs.length<=9223372036854775807/\∀ y∈zs,L6 y:=by
  obtain ⟨fuel,hf⟩:=h0
  exact SM Tryz.underlying37 Tryz.underlying3 (by kernel_rfl) (by simpa [Value.cells] using hf)
 have hs1:∀ k∈d1.weights Tryz.prog 27,k<=reachBytes:=fun k hk=>by
  have:=gAg.1 hsz2 k (DataW.weights_mem_each (j:=1) rfl rfl k hk);simpa using this
 obtain ⟨A1,n1,c1,R1,rfl,hR1,hRn1,hRr1⟩:=PZ (hval 1 27 v1 rfl rfl) h1 hs1
 have hRl1:R1.length<=140737488355328:=by have:=hR1.n_eq;omega
 have hs2:∀ k∈d2.weights Tryz.prog 3,k<=reachBytes:=fun k hk=>by
  have:=gAg.1 hsz2 k (DataW.weights_mem_each (j:=2) rfl rfl k hk);simpa using this
 obtain ⟨z2,rfl⟩:=okWide_int Tryz.underlying3 (hval 2 3 v2 rfl rfl)
 have lt0:∀ x∈p0,x.block<W.heap.size:=by obtain ⟨m,hm⟩:=h0;exact DataW.trod_lt m _ _ _ hm
 have lt1:∀ x∈p1,x.block<W.heap.size:=by obtain ⟨m,hm⟩:=h1;exact DataW.trod_lt m _ _ _ hm
 have lt2:∀ x∈p2,x.block<W.heap.size:=by obtain ⟨m,hm⟩:=h2;exact DataW.trod_lt m _ _ _ hm
 clear hA0 hval0
 refine (Og (Z9 T0 ⟨hTl0,hTx0⟩ R1 z2 hRl1 hRr1) W [.slice a0 len0 cap0,.agg #[.slice A1 n1 c1],.int .i64 z2] rfl (fun i x hx=>?_)).mono fun e W' ⟨he,hf⟩=>?_
 ·match i,hx with
  | 0,hx=>simp at hx;subst hx;exact ⟨_,rfl,fun g hg=>QE hT0 hg⟩
  | 1,hx=>simp at hx;subst hx;exact ⟨_,rfl,fun g hg=>SQ hR1 hg⟩
  | 2,hx=>simp at hx;subst hx;exact ⟨_,rfl,fun g hg=>rfl⟩
  | i+3,hx=>simp at hx
 subst he
 have bel:=hf.below
 exact ⟨_,rfl,_,_,_,[],_,[],hW',trodAll_mk1 (shut_bool Tryz.underlying4 _),(trodAll_cons_mk (Below.trod Hx (by kernel_rfl) (gE4 (by kernel_rfl)) h0 bel lt0) (trodAll_cons_mk (Below.trod Hx (by kernel_rfl) (gE4 (by kernel_rfl)) h1 bel lt1) (trodAll_cons_mk (Below.trod Hx (by kernel_rfl) (gE4 (by kernel_rfl)) h2 bel lt2) trodAll_mk0))),rfl,bel.frame _,fun h=>by cases h⟩

theorem nnz_over:Rows.normalNormalizeRow.holds Tryz.pinned (OpenSpec.ofChange Rows.normalNormalizeSpec):=
 OpenClaim.holds_of_wide 7 Tryz.f7 rfl rfl rfl rfl rfl rfl rfl ⟨rfl,rfl,rfl,rfl,rfl⟩ rfl rfl rfl rfl rfl (by kernel_rfl) Tryz.func7 nnz_joined
  (gE4 (by kernel_rfl)) (by unfold Func.isWrapper;first | (rw [if_pos (by decide +kernel)];kernel_rfl) | (rw [if_neg (by decide +kernel)];exact ⟨rfl,rfl⟩))
  (fun os started H enc _=>nnz_lifted os started H enc)
theorem normalNormalize_holds:Rows.NormalNormalizeSaid:=nnz_over
end Go.Proofs.YtbnabodoabimnaaGreat
