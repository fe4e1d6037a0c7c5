/- Lemmas. -/
namespace Go.Proofs.YtbnabodoabimnaaGreat
universe u v
theorem lga:type_of% @List.set_cons_zero.{0}/\type_of% @List.set_cons_succ.{0}/\type_of% @List.map_cons.{0,0}/\type_of% @List.map_nil.{0,0}/\type_of% @List.take_succ_cons.{0}/\type_of% @List.take_zero.{0}/\type_of% @List.drop_zero.{0}/\type_of% @List.drop_succ_cons.{0}/\type_of% @List.all_cons.{0}/\type_of% @List.all_nil.{0}/\type_of% @Bool.and_true/\type_of% @Nat.mul_one/\type_of% @Int.toNat_natCast:=⟨@List.set_cons_zero,@List.set_cons_succ,@List.map_cons,@List.map_nil,@List.take_succ_cons,@List.take_zero,@List.drop_zero,@List.drop_succ_cons,@List.all_cons,@List.all_nil,@Bool.and_true,@Nat.mul_one,@Int.toNat_natCast⟩
theorem gE1 {α:Type u} {l:List α} {i:Nat} (h:i<l.length):l[i]?=some l[i]:=List.getElem?_eq_getElem h
theorem gE2 {α:Type u} {l:List α} {i:Nat} {a:α}:l.getD i a=l[i]?.getD a:=List.getD_eq_getElem?_getD
theorem gE3 {α:Type u} {i:Nat} {a:α} {l:List α}:l[i]?=some a↔∃ h:i<l.length,l[i]=a:=List.getElem?_eq_some_iff
theorem gE4 {p:Prop} [i:Decidable p] (h:decide p=true):p:=of_decide_eq_true h
theorem gE5 {α:Type u} {l:List α} {i j:Nat} {a:α} (h:i ≠ j):(l.set i a)[j]?=l[j]?:=List.getElem?_set_ne h
theorem gE6 {α:Type u} {l:List α} {i:Nat} (h:i<l.length):l[i]∈l:=List.getElem_mem h
theorem gE7 {α:Type u} {i:Nat} {l:List α} (h:l.length<=i):l.take i=l:=List.take_of_length_le h
theorem gE8 {α:Type u} {i:Nat} {l:List α} (h:i<l.length):l.take (i+1)=l.take i++[l[i]]:=List.take_succ_eq_append_getElem h
theorem gE9 {α:Type u} {l:List α} {i:Nat} {a:α} (h:l[i]?=some a):a∈l:=List.mem_of_getElem? h
theorem gEa {α:Type u} {l₁ l₂:List α} {n:Nat} (h:n<l₁.length):(l₁++l₂)[n]?=l₁[n]?:=List.getElem?_append_left h
theorem gEb {α:Type u} {l₁ l₂:List α} {n:Nat} (h:l₁.length<=n):(l₁++l₂)[n]?=l₂[n - l₁.length]?:=List.getElem?_append_right h
theorem gEc {α:Type u} {l:List α} {i:Nat} {a:α} (h:i<l.length):(l.set i a)[i]?=some a:=List.getElem?_set_self h
theorem gEd {α:Type u} {l:Array α} {i:Nat} (h:i<l.size):l[i]?=some l[i]:=Array.getElem?_eq_getElem h
theorem gEe {α:Type u} {i:Nat} {a:α} {l:Array α}:l[i]?=some a↔∃ h:i<l.size,l[i]=a:=Array.getElem?_eq_some_iff
theorem gEf {α:Type u} (y:α) {a:α} {l:List α} (h:a∈l):a∈y :: l:=List.mem_cons_of_mem y h
theorem gEg {p:Prop} [i:Decidable p] (h:p):decide p=true:=decide_eq_true h
end Go.Proofs.YtbnabodoabimnaaGreat
