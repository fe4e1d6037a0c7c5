/-
 PriorityInert returns true for every tape and every transition system,and leaves what came in as it was. The table of math/bits.TrailingZeros64 reads as the program's text lays it (tied).
-/
import Derived.Test.YtjijjfkalheokaaGreatDoorPc5
import Derived.Test.YtjijjfkalheokaaGreatDoorTie
import Derived.Test.YtjijjfkalheokaaGreatDoorCards
import Derived.Test.YtjijjfkalheokaaGreatDoorJpin
namespace Go.Proofs.YtjijjfkalheokaaGreatDoor
set_option linter.unusedVariables false
set_option linter.unusedSimpArgs false
open Go.ChangeShapes Go.WideShapes Go.ChangeAt Go.RowKit

theorem pin_laid:Rows.priorityInertRow.laid=OT:=by kernel_rfl
theorem pin_door (os:Os) (args:Array Value):laidMetH Tryz.prog Rows.priorityInertRow.laid ((World.doorLaid Tryz.prog 400 os).forCall (fun _ _=>0) ⟨#[],args,[]⟩).memory:=
 laidMetH_of_parts3 (fuel:=8) (laidMet_of_run' 8 (by kernel_rfl) (by kernel_rfl)) (by kernel_rfl) (by kernel_rfl)
set_option maxRecDepth 100000 in
theorem pin_lifted (os:Os) (started:os.Started) (H:Type) (enc:TypeId × Value->H):
  ReturnsInHanded {} Tryz.checked os 4 .any (fun w args=>(Rows.priorityInertSpec.pre enc Tryz.prog Tryz.f4 [] false w args/\laidMetH Tryz.prog Rows.priorityInertRow.laid w)/\sizedMet enc Tryz.prog Tryz.f4 (OpenSpec.ofChange Rows.priorityInertSpec) false w args) (Rows.priorityInertSpec.post enc Tryz.prog Tryz.f4 false true false false):=by
 refine returnsInHanded_of_change_and (C:=Tryz.checked) (X:=fun w _=>laidMetH Tryz.prog Rows.priorityInertRow.laid w) (fun _ _ _ hh h=>h.of_heap hh) ZA started (by kernel_rfl) Tryz.func4
  (ChangeSpec.witness_shaped (enc:=enc) (C:=Tryz.checked) (os:=os) (X:=fun w _=>laidMetH Tryz.prog Rows.priorityInertRow.laid w) false (World.doorLaid Tryz.prog 400 os) #[.slice none 0 0,.agg #[.slice none 0 0]] 8 rfl (World.shaped_of_RefB (by kernel_rfl) (by kernel_rfl)) (by kernel_rfl) (by kernel_rfl) (by kernel_rfl) (pin_door os _)) ?_
 intro W base args ds gs before hval0 hW hcnd hsz hL _
 have hval:∀ (j:Nat) t v,Tryz.f4.params[j]?=some t->args[j]?=some v->Value.okWide Tryz.prog W .any base t v:=hval0
 have hW':=hW
 obtain ⟨p,q,hA0,hV,rfl,hfz,hnd⟩:=hW
 have hA:DataW.TrodAll enc Tryz.prog W 0 (fun _=>true) true Tryz.f4.params.toList args.toList ds p:=hA0
 have hsz2:(DataW.weightsEach Tryz.prog Tryz.f4.params.toList (ds++gs)).all (·<=reachBytes)=true:=by
  have:Tryz.f4.params.toList++Rows.priorityInertSpec.plain.varTypes Tryz.checked.prog=Tryz.f4.params.toList:=by simp [Rows.priorityInertSpec,ChangeSpec.plain,DataSpec.varTypes]
  rw [<- this];exact hsz
 rw [Tryz.params4] at hA hval hsz2
 obtain ⟨v0,vs0,d0,ds0,p0,q0,hargs,rfl,rfl,h0,r0⟩:=trodAll_cons hA
 obtain ⟨v1,vs1,d1,ds1,p1,q1,rfl,rfl,rfl,h1,r1⟩:=trodAll_cons r0
 obtain ⟨rfl,rfl,rfl⟩:=trodAll_nil r1
 obtain rfl:args=#[v0,v1]:=by cases args;simp_all
 obtain ⟨rfl,rfl⟩:=trodVars_none hV
 have hs0:∀ k∈d0.weights Tryz.prog 22,k<=reachBytes:=fun k hk=>by
  have:=List.all_eq_true.1 hsz2 k (DataW.weights_mem_each (j:=0) rfl rfl k hk);simpa using this
 obtain ⟨a0,len0,cap0,rfl⟩:=okWide_slice Tryz.underlying22 (hval 0 22 v0 rfl rfl)
 obtain ⟨T0,hT0,hTl0,hTx0⟩:∃ zs,Rd Yy W (.l 1 (Ab zs)) (.slice a0 len0 cap0)/\zs.length<=9223372036854775807/\∀ y∈zs,Ld y:=by
  obtain ⟨fuel,hf⟩:=h0
  exact Tj Tryz.underlying22 Tryz.underlying3 (by kernel_rfl) (by simpa [Value.cells] using hf)
 have hs1:∀ k∈d1.weights Tryz.prog 25,k<=reachBytes:=fun k hk=>by
  have:=List.all_eq_true.1 hsz2 k (DataW.weights_mem_each (j:=1) rfl rfl k hk);simpa using this
 obtain ⟨A1,n1,c1,R1,rfl,hR1,hRn1,hRr1⟩:=QO (hval 1 25 v1 rfl rfl) h1 hs1
 have hRl1:R1.length<=140737488355328:=by have:=hR1.n_eq;omega
 have lt0:∀ x∈p0,x.block<W.heap.size:=by obtain ⟨m,hm⟩:=h0;exact DataW.trod_lt m _ _ _ hm
 have lt1:∀ x∈p1,x.block<W.heap.size:=by obtain ⟨m,hm⟩:=h1;exact DataW.trod_lt m _ _ _ hm
 clear hA0 hval0
 rw [pin_laid] at hL
 refine (OS (Z7 T0 ⟨hTl0,hTx0⟩ R1 hRl1 hRr1) W [.slice a0 len0 cap0,.agg #[.slice A1 n1 c1]] rfl (fun i x hx=>?_) (JF hL)).mono fun e W' ⟨he,hf⟩=>?_
 ·match i,hx with
  | 0,hx=>simp at hx;subst hx;exact ⟨_,rfl,fun g hg=>Rn hT0 hg⟩
  | 1,hx=>simp at hx;subst hx;exact ⟨_,rfl,fun g hg=>Tn hR1 hg⟩
  | i+2,hx=>simp at hx
 subst he
 have bel:=hf.below
 exact ⟨_,rfl,_,_,_,[],_,[],hW',trodAll_mk1 (shut_bool Tryz.underlying4 _),(trodAll_cons_mk (Below.trod La (by kernel_rfl) (gE4 (by kernel_rfl)) h0 bel lt0) (trodAll_cons_mk (Below.trod La (by kernel_rfl) (gE4 (by kernel_rfl)) h1 bel lt1) trodAll_mk0)),rfl,bel.frame _,fun h=>by cases h⟩

theorem pin_over:Rows.priorityInertRow.holds Tryz.pinned (OpenSpec.ofChange Rows.priorityInertSpec):=
 OpenClaim.holds_of_wide 4 Tryz.f4 rfl rfl rfl rfl rfl rfl rfl ⟨rfl,rfl,rfl,rfl,rfl⟩ rfl rfl rfl rfl rfl (by kernel_rfl) Tryz.func4 pin_joined
  (gE4 (by kernel_rfl)) (by unfold Func.isWrapper;first | (rw [if_pos (by decide +kernel)];kernel_rfl) | (rw [if_neg (by decide +kernel)];exact ⟨rfl,rfl⟩))
  (fun os started H enc _=>pin_lifted os started H enc)
theorem pin_w0:Tryz.prog.wantsStandIn 22=false:=by kernel_rfl
theorem pin_w1:Tryz.prog.wantsStandIn 25=false:=by kernel_rfl
theorem priorityInert_card_holds : Rows.PriorityInertCardSaid :=
 Claim7.holds_tied_plain_at .later [] [.data] true _ _ pin_over (fun _ h => by cases h) (by kernel_rfl) (fun _ h => by cases h) priorityInert_row_tie rfl ⟨rfl, rfl⟩ (by kernel_rfl) rfl
  (fun f fn hf hfn => by
   obtain rfl : f = 4 := Option.some.inj ((show Tryz.prog.funcNamed Rows.priorityInertRow.func = some 4 by kernel_rfl).symm.trans hf) |>.symm
   obtain rfl : fn = Tryz.f4 := (Option.some.inj (Tryz.func4.symm.trans hfn)).symm
   exact ⟨by kernel_rfl, fun j t ht => by
    rw [Tryz.params4] at ht
    match j, ht with
    | 0, ht => cases ht; exact pin_w0
    | 1, ht => cases ht; exact pin_w1
    | j + 2, ht => simp at ht⟩)
  (by kernel_rfl)
end Go.Proofs.YtjijjfkalheokaaGreatDoor
