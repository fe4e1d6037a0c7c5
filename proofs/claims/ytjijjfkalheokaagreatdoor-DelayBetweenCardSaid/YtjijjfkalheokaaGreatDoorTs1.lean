/- Lemmas. -/
import Derived.Test.YtjijjfkalheokaaGreatDoorBase
namespace Go.Proofs.YtjijjfkalheokaaGreatDoor
set_option linter.unusedVariables false
set_option linter.unusedSimpArgs false

theorem Lt {α:Type} {lt:α->α->Prop} (irr:∀ a,¬ lt a a) (asym:∀ a b,lt a b->lt b a->False) {l m:List α} (hl:l.Pairwise lt) (hm:m.Pairwise lt) (h:∀ a,a∈l↔a∈m):l=m:=
 have nd:∀ {l:List α},l.Pairwise lt->l.Nodup:=fun h=>List.Pairwise.imp (S:=fun a b=>a ≠ b) (fun {a b} hab e=>irr b (by rw [e] at hab;exact hab)) h
 List.Perm.eq_of_pairwise (le:=lt) (fun a b _ _ h1 h2=>(asym a b h1 h2).elim) hl hm ((List.perm_ext_iff_of_nodup (nd hl) (nd hm)).2 h)

/-! ascending lists -/
def WI (l:List Int):Prop:=l.Pairwise (· < ·)
def RH:List Int->Bool
 | []=>true
 | [_]=>true
 | a :: b :: r=>decide (a<b) && RH (b :: r)
theorem JY:∀ l:List Int,RH l=true↔WI l
 | []=>by simp [RH,WI]
 | [a]=>by simp [RH,WI]
 | a :: b :: r=>by
  rw [RH,Bool.and_eq_true,JY (b :: r),decide_eq_true_eq]
  constructor
  ·rintro ⟨h1,h2⟩
   refine List.pairwise_cons.2 ⟨fun c hc=>?_,h2⟩
   rcases List.mem_cons.1 hc with rfl | hc
   ·exact h1
   ·have:=(List.pairwise_cons.1 h2).1 c hc;omega
  ·intro h
   have h':=List.pairwise_cons.1 h
   exact ⟨h'.1 b (by simp),h'.2⟩
theorem Jc {l m:List Int} (hl:WI l) (hm:WI m) (h:∀ a,a∈l↔a∈m):l=m:=Lt (fun a=>by omega) (fun a b h1 h2=>by omega) hl hm h
theorem Ie {l:List Int} (hl:WI l):l.Nodup:=List.Pairwise.imp (fun h e=>by omega) hl
theorem RI {l m:List Int} (hl:WI l) (h:∀ a∈l,a∈m):l.length<=m.length:=(Ie hl).length_le_of_subset h
theorem R3 {l m:List Int} (hl:WI l) (hm:WI m) (h:∀ a∈l,a∈m) (hlen:m.length<=l.length):l=m:=by
 refine Jc hl hm fun a=>⟨h a,fun ha=>?_⟩
 refine Classical.byContradiction fun hna=>?_
 have h1:(a :: l).length<=m.length:=(List.nodup_cons.2 ⟨hna,Ie hl⟩).length_le_of_subset (by
  intro b hb
  rcases List.mem_cons.1 hb with rfl | hb
  ·exact ha
  ·exact h b hb)
 simp at h1
 omega

def Fu (x:Int):List Int->List Int
 | []=>[x]
 | y :: ys=>if y<x then y :: Fu x ys else if y=x then y :: ys else x :: y :: ys
theorem DN (x a:Int) (l:List Int):a∈Fu x l↔a=x\/a∈l:=by
 induction l with
 | nil=>simp [Fu]
 | cons y ys ih=>
  simp only [Fu]
  split
  ·simp [ih];constructor <;> (intro h;rcases h with h | h | h <;> simp [h])
  split
  ·rename_i h;subst h;simp
  simp
theorem He {x:Int} {l:List Int} (h:WI l):WI (Fu x l):=by
 unfold WI at *
 induction l with
 | nil=>simp [Fu]
 | cons y ys ih=>
  rw [List.pairwise_cons] at h
  simp only [Fu]
  split
  ·rename_i hl
   rw [List.pairwise_cons]
   refine ⟨fun a ha=>?_,ih h.2⟩
   rcases (DN x a ys).1 ha with rfl | ha
   ·exact hl
   exact h.1 a ha
  split
  ·exact List.pairwise_cons.2 h
  rename_i hl hne
  rw [List.pairwise_cons]
  refine ⟨fun a ha=>?_,List.pairwise_cons.2 h⟩
  rcases List.mem_cons.1 ha with rfl | ha
  ·omega
  have:=h.1 a ha;omega

/-! lists in lexicographic order -/
def Ee:List Int->List Int->Bool
 | [],[]=>false
 | [],_ :: _=>true
 | _ :: _,[]=>false
 | a :: as,b :: bs=>if a=b then Ee as bs else decide (a<b)
theorem Gb:∀ {a b c:List Int},Ee a b=true->Ee b c=true->Ee a c=true
 | [],[],_,h,_=>by simp [Ee] at h
 | [],_ :: _,[],_,h=>by simp [Ee] at h
 | [],_ :: _,_ :: _,_,_=>rfl
 | _ :: _,[],_,h,_=>by simp [Ee] at h
 | _ :: _,_ :: _,[],_,h=>by simp [Ee] at h
 | a :: as,b :: bs,c :: cs,h1,h2=>by
  simp only [Ee] at h1 h2 ⊢
  split at h1
  ·rename_i e1;subst e1
   split at h2
   ·rename_i e2;subst e2;simp;exact Gb h1 h2
   ·rename_i e2;simp only [e2,if_false];exact h2
  ·rename_i e1
   split at h2
   ·rename_i e2;subst e2;simp only [e1,if_false];exact h1
   ·simp at h1 h2
    rw [if_neg (by omega)];simp;omega
theorem Ig:∀ a b:List Int,Ee a b=true\/a=b\/Ee b a=true
 | [],[]=>.inr (.inl rfl)
 | [],_ :: _=>.inl rfl
 | _ :: _,[]=>.inr (.inr rfl)
 | a :: as,b :: bs=>by
  simp only [Ee]
  by_cases e:a=b
  ·subst e
   simp
   exact Ig as bs
  ·rw [if_neg e,if_neg (fun h=>e h.symm)]
   simp;omega
def Ih (L:List (List Int)):Prop:=L.Pairwise fun a b=>Ee a b=true
def M7 (x:List Int):List (List Int)->List (List Int)
 | []=>[x]
 | y :: ys=>if Ee y x then y :: M7 x ys else if y=x then y :: ys else x :: y :: ys
theorem JZ (x a:List Int) (l:List (List Int)):a∈M7 x l↔a=x\/a∈l:=by
 induction l with
 | nil=>simp [M7]
 | cons y ys ih=>
  simp only [M7]
  split
  ·simp [ih];constructor <;> (intro h;rcases h with h | h | h <;> simp [h])
  split
  ·rename_i h;subst h;simp
  simp
theorem Pr (x:List Int) (l:List (List Int)):(M7 x l).length<=l.length+1:=by
 induction l with
 | nil=>simp [M7]
 | cons y ys ih=>
  simp only [M7]
  split
  ·simp;omega
  split <;> simp
theorem MG {x:List Int} {l:List (List Int)} (h:Ih l):Ih (M7 x l):=by
 unfold Ih at *
 induction l with
 | nil=>simp [M7]
 | cons y ys ih=>
  rw [List.pairwise_cons] at h
  simp only [M7]
  split
  ·rename_i hl
   rw [List.pairwise_cons]
   refine ⟨fun a ha=>?_,ih h.2⟩
   rcases (JZ x a ys).1 ha with rfl | ha
   ·exact hl
   exact h.1 a ha
  split
  ·exact List.pairwise_cons.2 h
  rename_i hl hne
  have hxy:Ee x y=true:=by
   rcases Ig x y with h | h | h
   ·exact h
   ·exact absurd h.symm hne
   exact absurd h hl
  rw [List.pairwise_cons]
  refine ⟨fun a ha=>?_,List.pairwise_cons.2 h⟩
  rcases List.mem_cons.1 ha with rfl | ha
  ·exact hxy
  exact Gb hxy (h.1 a ha)

/-! minimal sets -/
def UE (a b:List Int):Bool:=a.all fun x=>decide (x∈b)
theorem K0 {a b:List Int}:UE a b=true↔∀ x∈a,x∈b:=by simp [UE]
def GO (L:List (List Int)) (s:List Int):Bool:=L.all fun o=>!(decide (o.length<s.length) && UE o s)
def Jd (L:List (List Int)):List (List Int)->List (List Int)->List (List Int)
 | [],acc=>acc
 | s :: r,acc=>Jd L r (if GO L s then M7 s acc else acc)
def R4 (L:List (List Int)):List (List Int):=if L.all RH then Jd L L [] else []
theorem Ey (L:List (List Int)):∀ (r acc:List (List Int)),Ih acc->Ih (Jd L r acc)/\(∀ s,s∈Jd L r acc↔s∈acc\/(s∈r/\GO L s=true))/\(Jd L r acc).length<=acc.length+r.length
 | [],acc,h=>by simp [Jd,h]
 | s :: r,acc,h=>by
  unfold Jd
  split
  ·rename_i hl
   obtain ⟨h1,h2,h3⟩:=Ey L r (M7 s acc) (MG h)
   refine ⟨h1,fun q=>?_,?_⟩
   ·rw [h2,JZ]
    constructor
    ·rintro ((rfl | hq) | hq)
     ·exact .inr ⟨by simp,hl⟩
     ·exact .inl hq
     ·exact .inr ⟨by simp [hq.1],hq.2⟩
    ·rintro (hq | ⟨hq,hq2⟩)
     ·exact .inl (.inr hq)
     ·rcases List.mem_cons.1 hq with rfl | hq
      ·exact .inl (.inl rfl)
      ·exact .inr ⟨hq,hq2⟩
   ·have:=Pr s acc;simp;omega
  ·rename_i hl
   obtain ⟨h1,h2,h3⟩:=Ey L r acc h
   refine ⟨h1,fun q=>?_,by simp;omega⟩
   rw [h2]
   constructor
   ·rintro (hq | hq)
    ·exact .inl hq
    ·exact .inr ⟨by simp [hq.1],hq.2⟩
   ·rintro (hq | ⟨hq,hq2⟩)
    ·exact .inl hq
    ·rcases List.mem_cons.1 hq with rfl | hq
     ·rw [hq2] at hl;exact absurd rfl hl
     ·exact .inr ⟨hq,hq2⟩
theorem MH (L:List (List Int)):Ih (R4 L):=by
 unfold R4
 split
 ·exact (Ey L L [] List.Pairwise.nil).1
 exact List.Pairwise.nil
theorem Hf {L:List (List Int)} (hL:∀ s∈L,WI s) (s:List Int):s∈R4 L↔s∈L/\GO L s=true:=by
 have:L.all RH=true:=by simp [JY];exact hL
 simp [R4,this,(Ey L L [] List.Pairwise.nil).2.1]
theorem Hg {L:List (List Int)} {s:List Int} (h:s∈R4 L):s∈L:=by
 unfold R4 at h
 split at h
 rotate_left
 ·cases h
 rw [(Ey L L [] List.Pairwise.nil).2.1] at h
 simp at h;exact h.1
theorem EU {L:List (List Int)} (hL:∀ s∈L,WI s) {s:List Int} (hs:WI s):GO L s=true↔∀ o∈L,(∀ x∈o,x∈s)->o=s:=by
 simp only [GO,List.all_eq_true,Bool.not_eq_true',Bool.and_eq_false_iff,decide_eq_false_iff_not]
 constructor
 ·intro h o ho hsub
  rcases h o ho with h | h
  ·exact R3 (hL o ho) hs hsub (by omega)
  have:=K0.2 hsub;rw [this] at h;cases h
 intro h o ho
 cases hb:UE o s with
 | false=>exact .inr rfl
 | true=>
  have:=h o ho (K0.1 hb)
  subst this
  exact .inl (by omega)
theorem Fl {L : List (List Int)} (hL : ∀ s ∈ L, WI s) : ∀ (n : Nat) {s : List Int}, s.length <= n -> s ∈ L -> ∃ t ∈ R4 L, ∀ x ∈ t, x ∈ s
 | 0, s, hn, hs => ⟨s, (Hf hL s).2 ⟨hs, (EU hL (hL s hs)).2 fun o ho hsub => by
   have h1 := RI (hL o ho) hsub
   have h2 : o = [] := List.length_eq_zero_iff.1 (by omega)
   have h3 : s = [] := List.length_eq_zero_iff.1 (by omega)
   rw [h2, h3]⟩, fun x hx => hx⟩
 | n + 1, s, hn, hs => by
  by_cases hl : GO L s = true
  ·exact ⟨s, (Hf hL s).2 ⟨hs, hl⟩, fun x hx => hx⟩
  ·rw [EU hL (hL s hs)] at hl
   simp only [Classical.not_forall] at hl
   obtain ⟨o, ho, hsub, hne⟩ := hl
   have h1 : o.length < s.length := by
    refine Nat.lt_of_not_le fun hle => hne (R3 (hL o ho) (hL s hs) hsub hle)
   obtain ⟨t, ht, hts⟩ := Fl hL n (by omega : o.length <= n) ho
   exact ⟨t, ht, fun x hx => hsub x (hts x hx)⟩

/-! transversals -/
def K2 (a b:List Int):Bool:=a.any fun x=>decide (x∈b)
theorem Lu {a b:List Int}:K2 a b=true↔∃ x∈a,x∈b:=by simp [K2]
def GP (out:List (List Int)) (s:List Int):List (List Int):=out.flatMap fun t=>if K2 t s then [t] else s.map fun e=>Fu e t
theorem Lw {out:List (List Int)} {s:List Int} (ho:∀ t∈out,WI t):∀ t∈GP out s,WI t:=by
 intro t ht
 simp only [GP,List.mem_flatMap] at ht
 obtain ⟨q,hq,ht⟩:=ht
 split at ht
 ·simp at ht;subst ht;exact ho _ hq
 simp only [List.mem_map] at ht
 obtain ⟨e,_,rfl⟩:=ht
 exact He (ho q hq)

def WJ (t:List Int) (L:List (List Int)):Prop:=∀ s∈L,∃ x∈s,x∈t
structure Tv (out L:List (List Int)):Prop where
 asc:∀ t∈out,WI t
 sort:Ih out
 hit:∀ t∈out,WJ t L
 low:∀ u,WJ u L->∃ t∈out,∀ x∈t,x∈u
 anti:∀ t∈out,∀ q∈out,(∀ x∈t,x∈q)->t=q
theorem Tv.start:Tv [[]] [] where
 asc t ht:=by simp at ht;subst ht;exact List.Pairwise.nil
 sort:=by simp [Ih]
 hit t _:=fun s hs=>by cases hs
 low u _:=⟨[],by simp,fun x hx=>by cases hx⟩
 anti t ht q hq _:=by simp at ht hq;rw [ht,hq]
theorem Tv.step {out L:List (List Int)} (h:Tv out L) (s:List Int):Tv (R4 (GP out s)) (L++[s]):=by
 have hasc:=Lw (s:=s) h.asc
 have hhit:∀ t∈GP out s,WJ t (L++[s]):=by
  intro t ht
  simp only [GP,List.mem_flatMap] at ht
  obtain ⟨q,hq,ht⟩:=ht
  have hqh:=h.hit q hq
  split at ht
  ·rename_i hm
   simp at ht;subst ht
   intro r hr
   rcases List.mem_append.1 hr with hr | hr
   ·exact hqh r hr
   simp at hr;subst hr
   obtain ⟨x,h1,h2⟩:=Lu.1 hm
   exact ⟨x,h2,h1⟩
  simp only [List.mem_map] at ht
  obtain ⟨e,he,rfl⟩:=ht
  intro r hr
  rcases List.mem_append.1 hr with hr | hr
  rotate_left
  ·simp at hr;subst hr
   exact ⟨e,he,(DN _ _ _).2 (.inl rfl)⟩
  obtain ⟨x,h1,h2⟩:=hqh r hr
  exact ⟨x,h1,(DN _ _ _).2 (.inr h2)⟩
 refine ⟨fun t ht=>hasc t (Hg ht),MH _,fun t ht=>hhit t (Hg ht),fun u hu=>?_,fun t ht q hq hsub=>?_⟩
 rotate_left
 ·have h1:=(Hf hasc q).1 hq
  exact (EU hasc (hasc q h1.1)).1 h1.2 t (Hg ht) hsub
 obtain ⟨t,ht,htu⟩:=h.low u (fun r hr=>hu r (List.mem_append_left _ hr))
 obtain ⟨e,he,heu⟩:=hu s (by simp)
 have:∃ q∈GP out s,∀ x∈q,x∈u:=by
  by_cases hm:K2 t s=true
  ·exact ⟨t,List.mem_flatMap.2 ⟨t,ht,by rw [if_pos hm];simp⟩,htu⟩
  refine ⟨Fu e t,List.mem_flatMap.2 ⟨t,ht,by rw [if_neg hm];exact List.mem_map.2 ⟨e,he,rfl⟩⟩,fun x hx=>?_⟩
  rcases (DN _ _ _).1 hx with rfl | hx
  ·exact heu
  exact htu x hx
 obtain ⟨q,hq,hqu⟩:=this
 obtain ⟨t',ht',hs'⟩:=Fl hasc q.length (Nat.le_refl _) hq
 exact ⟨t',ht',fun x hx=>hqu x (hs' x hx)⟩
/-! few sets over few numbers -/
end Go.Proofs.YtjijjfkalheokaaGreatDoor
