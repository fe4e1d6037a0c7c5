/-
 DelayBetween returns true for every tape,and leaves what came in as it was. The table of math/bits.TrailingZeros64 reads as the program's text lays it (tied).
-/
import Derived.Test.YtjijjfkalheokaaGreatDoorG69
import Derived.Test.YtjijjfkalheokaaGreatDoorTie
import Derived.Test.YtjijjfkalheokaaGreatDoorCards
import Derived.Test.YtjijjfkalheokaaGreatDoorJdbt
namespace Go.Proofs.YtjijjfkalheokaaGreatDoor
set_option linter.unusedVariables false
set_option linter.unusedSimpArgs false
open Go.ChangeShapes Go.WideShapes Go.ChangeAt Go.RowKit

theorem dbt_laid:Rows.delayBetweenRow.laid=OT:=by kernel_rfl
theorem dbt_door (os:Os) (args:Array Value):laidMetH Tryz.prog Rows.delayBetweenRow.laid ((World.doorLaid Tryz.prog 400 os).forCall (fun _ _=>0) ⟨#[],args,[]⟩).memory:=
 laidMetH_of_parts3 (fuel:=8) (laidMet_of_run' 8 (by kernel_rfl) (by kernel_rfl)) (by kernel_rfl) (by kernel_rfl)
set_option maxRecDepth 100000 in
theorem dbt_lifted (os:Os) (started:os.Started) (H:Type) (enc:TypeId × Value->H):
  ReturnsInHanded {} Tryz.checked os 6 .any (fun w args=>(Rows.delayBetweenSpec.pre enc Tryz.prog Tryz.f6 [] false w args/\laidMetH Tryz.prog Rows.delayBetweenRow.laid w)/\sizedMet enc Tryz.prog Tryz.f6 (OpenSpec.ofChange Rows.delayBetweenSpec) false w args) (Rows.delayBetweenSpec.post enc Tryz.prog Tryz.f6 false true false false):=by
 refine returnsInHanded_of_change_and (C:=Tryz.checked) (X:=fun w _=>laidMetH Tryz.prog Rows.delayBetweenRow.laid w) (fun _ _ _ hh h=>h.of_heap hh) ZA started (by kernel_rfl) Tryz.func6
  (ChangeSpec.witness_shaped (enc:=enc) (C:=Tryz.checked) (os:=os) (X:=fun w _=>laidMetH Tryz.prog Rows.delayBetweenRow.laid w) false (World.doorLaid Tryz.prog 400 os) #[.slice none 0 0] 8 rfl (World.shaped_of_RefB (by kernel_rfl) (by kernel_rfl)) (by kernel_rfl) (by kernel_rfl) (by kernel_rfl) (dbt_door os _)) ?_
 intro W base args ds gs before hval0 hW hcnd hsz hL _
 have hval:∀ (j:Nat) t v,Tryz.f6.params[j]?=some t->args[j]?=some v->Value.okWide Tryz.prog W .any base t v:=hval0
 have hW':=hW
 obtain ⟨p,q,hA0,hV,rfl,hfz,hnd⟩:=hW
 have hA:DataW.TrodAll enc Tryz.prog W 0 (fun _=>true) true Tryz.f6.params.toList args.toList ds p:=hA0
 have hsz2:(DataW.weightsEach Tryz.prog Tryz.f6.params.toList (ds++gs)).all (·<=reachBytes)=true:=by
  have:Tryz.f6.params.toList++Rows.delayBetweenSpec.plain.varTypes Tryz.checked.prog=Tryz.f6.params.toList:=by simp [Rows.delayBetweenSpec,ChangeSpec.plain,DataSpec.varTypes]
  rw [<- this];exact hsz
 rw [Tryz.params6] at hA hval hsz2
 obtain ⟨v0,vs0,d0,ds0,p0,q0,hargs,rfl,rfl,h0,r0⟩:=trodAll_cons hA
 obtain ⟨rfl,rfl,rfl⟩:=trodAll_nil r0
 obtain rfl:args=#[v0]:=by cases args;simp_all
 obtain ⟨rfl,rfl⟩:=trodVars_none hV
 have hs0:∀ k∈d0.weights Tryz.prog 22,k<=reachBytes:=fun k hk=>by
  have:=List.all_eq_true.1 hsz2 k (DataW.weights_mem_each (j:=0) rfl rfl k hk);simpa using this
 obtain ⟨a0,len0,cap0,rfl⟩:=okWide_slice Tryz.underlying22 (hval 0 22 v0 rfl rfl)
 obtain ⟨T0,hT0,hTl0,hTx0⟩:∃ zs,Rd Yy W (.l 1 (Ab zs)) (.slice a0 len0 cap0)/\zs.length<=9223372036854775807/\∀ y∈zs,Ld y:=by
  obtain ⟨fuel,hf⟩:=h0
  exact Tj Tryz.underlying22 Tryz.underlying3 (by kernel_rfl) (by simpa [Value.cells] using hf)
 have lt0:∀ x∈p0,x.block<W.heap.size:=by obtain ⟨m,hm⟩:=h0;exact DataW.trod_lt m _ _ _ hm
 clear hA0 hval0
 rw [dbt_laid] at hL
 refine (OS (cE T0 ⟨hTl0,hTx0⟩) W [.slice a0 len0 cap0] rfl (fun i x hx=>?_) (JF hL)).mono fun e W' ⟨he,hf⟩=>?_
 ·match i,hx with
  | 0,hx=>simp at hx;subst hx;exact ⟨_,rfl,fun g hg=>Rn hT0 hg⟩
  | i+1,hx=>simp at hx
 subst he
 have bel:=hf.below
 exact ⟨_,rfl,_,_,_,[],_,[],hW',trodAll_mk1 (shut_bool Tryz.underlying4 _),(trodAll_cons_mk (Below.trod La (by kernel_rfl) (gE4 (by kernel_rfl)) h0 bel lt0) trodAll_mk0),rfl,bel.frame _,fun h=>by cases h⟩

theorem dbt_over:Rows.delayBetweenRow.holds Tryz.pinned (OpenSpec.ofChange Rows.delayBetweenSpec):=
 OpenClaim.holds_of_wide 6 Tryz.f6 rfl rfl rfl rfl rfl rfl rfl ⟨rfl,rfl,rfl,rfl,rfl⟩ rfl rfl rfl rfl rfl (by kernel_rfl) Tryz.func6 dbt_joined
  (gE4 (by kernel_rfl)) (by unfold Func.isWrapper;first | (rw [if_pos (by decide +kernel)];kernel_rfl) | (rw [if_neg (by decide +kernel)];exact ⟨rfl,rfl⟩))
  (fun os started H enc _=>dbt_lifted os started H enc)
theorem dbt_w0:Tryz.prog.wantsStandIn 22=false:=by kernel_rfl
theorem delayBetween_card_holds : Rows.DelayBetweenCardSaid :=
 Claim7.holds_tied_plain_at .later [] [.data] true _ _ dbt_over (fun _ h => by cases h) (by kernel_rfl) (fun _ h => by cases h) delayBetween_row_tie rfl ⟨rfl, rfl⟩ (by kernel_rfl) rfl
  (fun f fn hf hfn => by
   obtain rfl : f = 6 := Option.some.inj ((show Tryz.prog.funcNamed Rows.delayBetweenRow.func = some 6 by kernel_rfl).symm.trans hf) |>.symm
   obtain rfl : fn = Tryz.f6 := (Option.some.inj (Tryz.func6.symm.trans hfn)).symm
   exact ⟨by kernel_rfl, fun j t ht => by
    rw [Tryz.params6] at ht
    match j, ht with
    | 0, ht => cases ht; exact dbt_w0
    | j + 1, ht => simp at ht⟩)
  (by kernel_rfl)
end Go.Proofs.YtjijjfkalheokaaGreatDoor
