/- Lemmas. -/
namespace Go.Proofs.YtbnabodoabimnaaGreat
universe u v
theorem lga:type_of% @List.set_cons_zero.{0}/\type_of% @List.set_cons_succ.{0}/\type_of% @List.map_cons.{0,0}/\type_of% @List.map_nil.{0,0}/\type_of% @List.take_succ_cons.{0}/\type_of% @List.take_zero.{0}/\type_of% @List.drop_zero.{0}/\type_of% @List.drop_succ_cons.{0}/\type_of% @List.all_cons.{0}/\type_of% @List.all_nil.{0}/\type_of% @Bool.and_true/\type_of% @Nat.mul_one/\type_of% @Int.toNat_natCast:=⟨@List.set_cons_zero,@List.set_cons_succ,@List.map_cons,@List.map_nil,@List.take_succ_cons,@List.take_zero,@List.drop_zero,@List.drop_succ_cons,@List.all_cons,@List.all_nil,@Bool.and_true,@Nat.mul_one,@Int.toNat_natCast⟩
theorem gA0.{a}:type_of% @Array.ext'.{a}:=@Array.ext'.{a}
theorem gA1:type_of% @Bool.and_eq_true:=@Bool.and_eq_true
theorem gA2:type_of% @Bool.and_self:=@Bool.and_self
theorem gA3:type_of% @Bool.and_true:=@Bool.and_true
theorem gA4:type_of% @Bool.eq_iff_iff:=@Bool.eq_iff_iff
theorem gA5:type_of% @Bool.false_eq_true:=@Bool.false_eq_true
theorem gA6:type_of% @Bool.false_or:=@Bool.false_or
theorem gA7:type_of% @Bool.not_eq_true':=@Bool.not_eq_true'
theorem gA8:type_of% @Bool.not_false:=@Bool.not_false
theorem gA9:type_of% @Bool.not_true:=@Bool.not_true
theorem gAa:type_of% @Bool.true_and:=@Bool.true_and
theorem gAb.{a,b,c}:type_of% @Function.comp_def.{a,b,c}:=@Function.comp_def.{a,b,c}
theorem gAc:type_of% @Int.le_refl:=@Int.le_refl
theorem gAd:type_of% @Int.toNat_natCast:=@Int.toNat_natCast
theorem gAe:type_of% @Int.toNat_zero:=@Int.toNat_zero
theorem gAf.{a}:type_of% @List.all_cons.{a}:=@List.all_cons.{a}
theorem gAg.{a}:type_of% @List.all_eq_true.{a}:=@List.all_eq_true.{a}
theorem gAh.{a}:type_of% @List.all_nil.{a}:=@List.all_nil.{a}
theorem gAi.{a}:type_of% @List.any_eq_true.{a}:=@List.any_eq_true.{a}
theorem gAj.{a}:type_of% @List.append_assoc.{a}:=@List.append_assoc.{a}
theorem gAk.{a}:type_of% @List.append_nil.{a}:=@List.append_nil.{a}
theorem gAl.{a}:type_of% @List.cons.injEq.{a}:=@List.cons.injEq.{a}
theorem gAm.{a}:type_of% @List.cons_append.{a}:=@List.cons_append.{a}
theorem gAn.{a}:type_of% @List.contains_eq_mem.{a}:=@List.contains_eq_mem.{a}
theorem gAo.{a}:type_of% @List.countP_cons.{a}:=@List.countP_cons.{a}
theorem gAp.{a}:type_of% @List.drop_eq_getElem_cons.{a}:=@List.drop_eq_getElem_cons.{a}
theorem gAq.{a}:type_of% @List.drop_eq_nil_of_le.{a}:=@List.drop_eq_nil_of_le.{a}
theorem gAr.{a}:type_of% @List.drop_succ_cons.{a}:=@List.drop_succ_cons.{a}
theorem gAs.{a}:type_of% @List.drop_zero.{a}:=@List.drop_zero.{a}
theorem gAt.{a}:type_of% @List.eq_nil_of_length_eq_zero.{a}:=@List.eq_nil_of_length_eq_zero.{a}
theorem gAu.{a,b}:type_of% @List.flatMap_cons.{a,b}:=@List.flatMap_cons.{a,b}
theorem gAv.{a,b}:type_of% @List.foldl_append.{a,b}:=@List.foldl_append.{a,b}
theorem gAw.{a,b}:type_of% @List.foldl_cons.{a,b}:=@List.foldl_cons.{a,b}
theorem gAx.{a,b}:type_of% @List.foldl_nil.{a,b}:=@List.foldl_nil.{a,b}
theorem gAy.{a}:type_of% @List.getD_cons_succ.{a}:=@List.getD_cons_succ.{a}
theorem gAz.{a}:type_of% @List.getD_cons_zero.{a}:=@List.getD_cons_zero.{a}
theorem gAA.{a}:type_of% @List.getElem?_drop.{a}:=@List.getElem?_drop.{a}
theorem gAB.{a}:type_of% @List.getElem?_eq_none.{a}:=@List.getElem?_eq_none.{a}
theorem gAC.{a,b}:type_of% @List.getElem?_map.{a,b}:=@List.getElem?_map.{a,b}
theorem gAD.{a}:type_of% @List.getElem?_replicate.{a}:=@List.getElem?_replicate.{a}
theorem gAE.{a}:type_of% @List.getElem?_set.{a}:=@List.getElem?_set.{a}
theorem gAF.{a}:type_of% @List.getElem?_take.{a}:=@List.getElem?_take.{a}
theorem gAG.{a}:type_of% @List.getElem_of_mem.{a}:=@List.getElem_of_mem.{a}
theorem gAH.{a}:type_of% @List.isEmpty_cons.{a}:=@List.isEmpty_cons.{a}
theorem gAI.{a}:type_of% @List.length_append.{a}:=@List.length_append.{a}
theorem gAJ.{a}:type_of% @List.length_cons.{a}:=@List.length_cons.{a}
theorem gAK.{a}:type_of% @List.length_drop.{a}:=@List.length_drop.{a}
theorem gAL.{a}:type_of% @List.length_eq_zero_iff.{a}:=@List.length_eq_zero_iff.{a}
theorem gAM.{a}:type_of% @List.length_filter_le.{a}:=@List.length_filter_le.{a}
theorem gAN.{a,b}:type_of% @List.length_map.{a,b}:=@List.length_map.{a,b}
theorem gAO.{a}:type_of% @List.length_nil.{a}:=@List.length_nil.{a}
theorem gAP.{a}:type_of% @List.length_replicate.{a}:=@List.length_replicate.{a}
theorem gAQ.{a}:type_of% @List.length_set.{a}:=@List.length_set.{a}
theorem gAR.{a}:type_of% @List.length_singleton.{a}:=@List.length_singleton.{a}
theorem gAS.{a}:type_of% @List.length_take.{a}:=@List.length_take.{a}
theorem gAT.{a,b}:type_of% @List.map_append.{a,b}:=@List.map_append.{a,b}
theorem gAU.{a,b}:type_of% @List.map_congr_left.{a,b}:=@List.map_congr_left.{a,b}
theorem gAV.{a,b}:type_of% @List.map_cons.{a,b}:=@List.map_cons.{a,b}
theorem gAW.{a,b,c}:type_of% @List.map_map.{a,b,c}:=@List.map_map.{a,b,c}
theorem gAX.{a,b}:type_of% @List.map_nil.{a,b}:=@List.map_nil.{a,b}
theorem gAY.{a,b}:type_of% @List.map_set.{a,b}:=@List.map_set.{a,b}
theorem gAZ.{a,b}:type_of% @List.map_toArray.{a,b}:=@List.map_toArray.{a,b}
theorem gB0.{a}:type_of% @List.mem_append.{a}:=@List.mem_append.{a}
theorem gB1.{a}:type_of% @List.mem_append_left.{a}:=@List.mem_append_left.{a}
theorem gB2.{a}:type_of% @List.mem_cons.{a}:=@List.mem_cons.{a}
theorem gB3.{a}:type_of% @List.mem_cons_self.{a}:=@List.mem_cons_self.{a}
theorem gB4.{a}:type_of% @List.mem_filter.{a}:=@List.mem_filter.{a}
theorem gB5.{a,b}:type_of% @List.mem_flatMap.{a,b}:=@List.mem_flatMap.{a,b}
theorem gB6.{a}:type_of% @List.mem_iff_getElem?.{a}:=@List.mem_iff_getElem?.{a}
theorem gB7.{a,b}:type_of% @List.mem_map.{a,b}:=@List.mem_map.{a,b}
theorem gB8.{a}:type_of% @List.mem_of_mem_take.{a}:=@List.mem_of_mem_take.{a}
theorem gB9.{a}:type_of% @List.mem_or_eq_of_mem_set.{a}:=@List.mem_or_eq_of_mem_set.{a}
theorem gBa:type_of% @List.mem_range:=@List.mem_range
theorem gBb.{a}:type_of% @List.mem_singleton.{a}:=@List.mem_singleton.{a}
theorem gBc.{a}:type_of% @List.nil_append.{a}:=@List.nil_append.{a}
theorem gBd.{a}:type_of% @List.pairwise_append.{a}:=@List.pairwise_append.{a}
theorem gBe.{a}:type_of% @List.pairwise_cons.{a}:=@List.pairwise_cons.{a}
theorem gBf.{a}:type_of% @List.pairwise_iff_getElem.{a}:=@List.pairwise_iff_getElem.{a}
theorem gBg.{a}:type_of% @List.replicate_succ.{a}:=@List.replicate_succ.{a}
theorem gBh.{a}:type_of% @List.set_append_right.{a}:=@List.set_append_right.{a}
theorem gBi.{a}:type_of% @List.set_cons_succ.{a}:=@List.set_cons_succ.{a}
theorem gBj.{a}:type_of% @List.set_cons_zero.{a}:=@List.set_cons_zero.{a}
theorem gBk.{a}:type_of% @List.set_nil.{a}:=@List.set_nil.{a}
theorem gBl.{a}:type_of% @List.takeWhile_cons.{a}:=@List.takeWhile_cons.{a}
theorem gBm.{a}:type_of% @List.take_append_of_le_length.{a}:=@List.take_append_of_le_length.{a}
theorem gBn.{a}:type_of% @List.take_length.{a}:=@List.take_length.{a}
theorem gBo.{a}:type_of% @List.take_nil.{a}:=@List.take_nil.{a}
theorem gBp.{a}:type_of% @List.take_succ_cons.{a}:=@List.take_succ_cons.{a}
theorem gBq.{a}:type_of% @List.take_zero.{a}:=@List.take_zero.{a}
theorem gBr:type_of% @Nat.add_zero:=@Nat.add_zero
theorem gBs:type_of% @Nat.eq_zero_or_pos:=@Nat.eq_zero_or_pos
theorem gBt:type_of% @Nat.le_of_eq:=@Nat.le_of_eq
theorem gBu:type_of% @Nat.le_refl:=@Nat.le_refl
theorem gBv:type_of% @Nat.le_trans:=@Nat.le_trans
theorem gBw:type_of% @Nat.lt_of_lt_of_le:=@Nat.lt_of_lt_of_le
theorem gBx:type_of% @Nat.lt_or_ge:=@Nat.lt_or_ge
theorem gBy:type_of% @Nat.min_eq_left:=@Nat.min_eq_left
theorem gBz:type_of% @Nat.mul_le_mul:=@Nat.mul_le_mul
theorem gBA:type_of% @Nat.mul_le_mul_right:=@Nat.mul_le_mul_right
theorem gBB:type_of% @Nat.mul_one:=@Nat.mul_one
theorem gBC:type_of% @Nat.sub_self:=@Nat.sub_self
theorem gBD:type_of% @Nat.zero_add:=@Nat.zero_add
theorem gBE:type_of% @Nat.zero_le:=@Nat.zero_le
theorem gBF.{a}:type_of% @Option.getD_some.{a}:=@Option.getD_some.{a}
theorem gBG.{a,b}:type_of% @Option.map_eq_some_iff.{a,b}:=@Option.map_eq_some_iff.{a,b}
theorem gBH.{a,b}:type_of% @Option.map_some.{a,b}:=@Option.map_some.{a,b}
theorem gBI.{a}:type_of% @Option.some.injEq.{a}:=@Option.some.injEq.{a}
theorem gBJ.{a,b}:type_of% @Prod.mk.injEq.{a,b}:=@Prod.mk.injEq.{a,b}
theorem gBK:type_of% @decide_eq_false:=@decide_eq_false
theorem gBL:type_of% @decide_eq_false_iff_not:=@decide_eq_false_iff_not
theorem gBM:type_of% @decide_eq_true_eq:=@decide_eq_true_eq
theorem gE1 {α:Type u} {l:List α} {i:Nat} (h:i<l.length):l[i]?=some l[i]:=List.getElem?_eq_getElem h
theorem gE2 {α:Type u} {l:List α} {i:Nat} {a:α}:l.getD i a=l[i]?.getD a:=List.getD_eq_getElem?_getD
theorem gE3 {α:Type u} {i:Nat} {a:α} {l:List α}:l[i]?=some a↔∃ h:i<l.length,l[i]=a:=List.getElem?_eq_some_iff
theorem gE4 {p:Prop} [i:Decidable p] (h:decide p=true):p:=of_decide_eq_true h
theorem gE5 {α:Type u} {l:List α} {i j:Nat} {a:α} (h:i ≠ j):(l.set i a)[j]?=l[j]?:=List.getElem?_set_ne h
theorem gE6 {α:Type u} {l:List α} {i:Nat} (h:i<l.length):l[i]∈l:=List.getElem_mem h
theorem gE7 {α:Type u} {i:Nat} {l:List α} (h:l.length<=i):l.take i=l:=List.take_of_length_le h
theorem gE8 {α:Type u} {i:Nat} {l:List α} (h:i<l.length):l.take (i+1)=l.take i++[l[i]]:=List.take_succ_eq_append_getElem h
theorem gE9 {α:Type u} {l:List α} {i:Nat} {a:α} (h:l[i]?=some a):a∈l:=List.mem_of_getElem? h
theorem gEa {α:Type u} {l₁ l₂:List α} {n:Nat} (h:n<l₁.length):(l₁++l₂)[n]?=l₁[n]?:=List.getElem?_append_left h
theorem gEb {α:Type u} {l₁ l₂:List α} {n:Nat} (h:l₁.length<=n):(l₁++l₂)[n]?=l₂[n - l₁.length]?:=List.getElem?_append_right h
theorem gEc {α:Type u} {l:List α} {i:Nat} {a:α} (h:i<l.length):(l.set i a)[i]?=some a:=List.getElem?_set_self h
theorem gEd {α:Type u} {l:Array α} {i:Nat} (h:i<l.size):l[i]?=some l[i]:=Array.getElem?_eq_getElem h
theorem gEe {α:Type u} {i:Nat} {a:α} {l:Array α}:l[i]?=some a↔∃ h:i<l.size,l[i]=a:=Array.getElem?_eq_some_iff
theorem gEf {α:Type u} (y:α) {a:α} {l:List α} (h:a∈l):a∈y :: l:=List.mem_cons_of_mem y h
theorem gEg {p:Prop} [i:Decidable p] (h:p):decide p=true:=decide_eq_true h
end Go.Proofs.YtbnabodoabimnaaGreat
