/-
 PriorityCongruence returns true for every tape,and leaves what came in as it was. The table of math/bits.TrailingZeros64 reads as the program's text lays it (tied).
-/
import Derived.Test.YtjijjfkalheokaaDoorG69
import Derived.Test.YtjijjfkalheokaaDoorTie
import Derived.Test.YtjijjfkalheokaaDoorCards
import Derived.Test.YtjijjfkalheokaaDoorJpcg
namespace Go.Proofs.YtjijjfkalheokaaDoor
set_option linter.unusedVariables false
set_option linter.unusedSimpArgs false
open Go.ChangeShapes Go.WideShapes Go.ChangeAt Go.RowKit

theorem pcg_laid:Rows.priorityCongruenceRow.laid=MO:=by kernel_rfl
theorem pcg_door (os:Os) (args:Array Value):laidMetH Tryd.prog Rows.priorityCongruenceRow.laid ((World.doorLaid Tryd.prog 400 os).forCall (fun _ _=>0) ⟨#[],args,[]⟩).memory:=
 laidMetH_of_parts3 (fuel:=8) (laidMet_of_run' 8 (by kernel_rfl) (by kernel_rfl)) (by kernel_rfl) (by kernel_rfl)
set_option maxRecDepth 100000 in
theorem pcg_lifted (os:Os) (started:os.Started) (H:Type) (enc:TypeId × Value->H):
  ReturnsInHanded {} Tryd.checked os 4 .any (fun w args=>(Rows.priorityCongruenceSpec.pre enc Tryd.prog Tryd.f4 [] false w args/\laidMetH Tryd.prog Rows.priorityCongruenceRow.laid w)/\sizedMet enc Tryd.prog Tryd.f4 (OpenSpec.ofChange Rows.priorityCongruenceSpec) false w args) (Rows.priorityCongruenceSpec.post enc Tryd.prog Tryd.f4 false true false false):=by
 refine returnsInHanded_of_change_and (C:=Tryd.checked) (X:=fun w _=>laidMetH Tryd.prog Rows.priorityCongruenceRow.laid w) (fun _ _ _ hh h=>h.of_heap hh) T6 started (by kernel_rfl) Tryd.func4
  (ChangeSpec.witness_shaped (enc:=enc) (C:=Tryd.checked) (os:=os) (X:=fun w _=>laidMetH Tryd.prog Rows.priorityCongruenceRow.laid w) false (World.doorLaid Tryd.prog 400 os) #[.slice none 0 0] 8 rfl (World.shaped_of_RefB (by kernel_rfl) (by kernel_rfl)) (by kernel_rfl) (by kernel_rfl) (by kernel_rfl) (pcg_door os _)) ?_
 intro W base args ds gs before hval0 hW hcnd hsz hL _
 have hval:∀ (j:Nat) t v,Tryd.f4.params[j]?=some t->args[j]?=some v->Value.okWide Tryd.prog W .any base t v:=hval0
 have hW':=hW
 obtain ⟨p,q,hA0,hV,rfl,hfz,hnd⟩:=hW
 have hA:DataW.TrodAll enc Tryd.prog W 0 (fun _=>true) true Tryd.f4.params.toList args.toList ds p:=hA0
 have hsz2:(DataW.weightsEach Tryd.prog Tryd.f4.params.toList (ds++gs)).all (·<=reachBytes)=true:=by
  have:Tryd.f4.params.toList++Rows.priorityCongruenceSpec.plain.varTypes Tryd.checked.prog=Tryd.f4.params.toList:=by simp [Rows.priorityCongruenceSpec,ChangeSpec.plain,DataSpec.varTypes]
  rw [<- this];exact hsz
 rw [Tryd.params4] at hA hval hsz2
 obtain ⟨v0,vs0,d0,ds0,p0,q0,hargs,rfl,rfl,h0,r0⟩:=trodAll_cons hA
 obtain ⟨rfl,rfl,rfl⟩:=trodAll_nil r0
 obtain rfl:args=#[v0]:=by cases args;simp_all
 obtain ⟨rfl,rfl⟩:=trodVars_none hV
 have hs0:∀ k∈d0.weights Tryd.prog 34,k<=reachBytes:=fun k hk=>by
  have:=List.all_eq_true.1 hsz2 k (DataW.weights_mem_each (j:=0) rfl rfl k hk);simpa using this
 obtain ⟨a0,len0,cap0,rfl⟩:=okWide_slice Tryd.underlying34 (hval 0 34 v0 rfl rfl)
 obtain ⟨T0,hT0,hTl0,hTx0⟩:∃ zs,Rd Z0 W (.l 1 (Af zs)) (.slice a0 len0 cap0)/\zs.length<=9223372036854775807/\∀ y∈zs,MP y:=by
  obtain ⟨fuel,hf⟩:=h0
  exact Yn Tryd.underlying34 Tryd.underlying3 (by kernel_rfl) (by simpa [Value.cells] using hf)
 have lt0:∀ x∈p0,x.block<W.heap.size:=by obtain ⟨m,hm⟩:=h0;exact DataW.trod_lt m _ _ _ hm
 clear hA0 hval0
 rw [pcg_laid] at hL
 refine (XE (XD T0 ⟨hTl0,hTx0⟩) W [.slice a0 len0 cap0] rfl (fun i x hx=>?_) (IA hL)).mono fun e W' ⟨he,hf⟩=>?_
 ·match i,hx with
  | 0,hx=>simp at hx;subst hx;exact ⟨_,rfl,fun g hg=>YI hT0 hg⟩
  | i+1,hx=>simp at hx
 subst he
 have bel:=hf.below
 exact ⟨_,rfl,_,_,_,[],_,[],hW',trodAll_mk1 (shut_bool Tryd.underlying4 _),(trodAll_cons_mk (Below.trod Y1 (by kernel_rfl) (gE4 (by kernel_rfl)) h0 bel lt0) trodAll_mk0),rfl,bel.frame _,fun h=>by cases h⟩

theorem pcg_over:Rows.priorityCongruenceRow.holds Tryd.pinned (OpenSpec.ofChange Rows.priorityCongruenceSpec):=
 OpenClaim.holds_of_wide 4 Tryd.f4 rfl rfl rfl rfl rfl rfl rfl ⟨rfl,rfl,rfl,rfl,rfl⟩ rfl rfl rfl rfl rfl (by kernel_rfl) Tryd.func4 pcg_joined
  (gE4 (by kernel_rfl)) (by unfold Func.isWrapper;first | (rw [if_pos (by decide +kernel)];kernel_rfl) | (rw [if_neg (by decide +kernel)];exact ⟨rfl,rfl⟩))
  (fun os started H enc _=>pcg_lifted os started H enc)
theorem pcg_w0:Tryd.prog.wantsStandIn 34=false:=by kernel_rfl
theorem priorityCongruence_card_holds : Rows.PriorityCongruenceCardSaid :=
 Claim7.holds_tied_plain_at .later [] [.data] true _ _ pcg_over (fun _ h => by cases h) (by kernel_rfl) (fun _ h => by cases h) priorityCongruence_row_tie rfl ⟨rfl, rfl⟩ (by kernel_rfl) rfl
  (fun f fn hf hfn => by
   obtain rfl : f = 4 := Option.some.inj ((show Tryd.prog.funcNamed Rows.priorityCongruenceRow.func = some 4 by kernel_rfl).symm.trans hf) |>.symm
   obtain rfl : fn = Tryd.f4 := (Option.some.inj (Tryd.func4.symm.trans hfn)).symm
   exact ⟨by kernel_rfl, fun j t ht => by
    rw [Tryd.params4] at ht
    match j, ht with
    | 0, ht => cases ht; exact pcg_w0
    | j + 1, ht => simp at ht⟩)
  (by kernel_rfl)
end Go.Proofs.YtjijjfkalheokaaDoor
