/- Lemmas. -/
import Derived.Test.YtjijjfkalheokaaDoorBase
namespace Go.Proofs.YtjijjfkalheokaaDoor
set_option linter.unusedVariables false
set_option linter.unusedSimpArgs false

theorem K2 {α:Type} {lt:α->α->Prop} (irr:∀ a,¬ lt a a) (asym:∀ a b,lt a b->lt b a->False) {l m:List α} (hl:l.Pairwise lt) (hm:m.Pairwise lt) (h:∀ a,a∈l↔a∈m):l=m:=
 have nd:∀ {l:List α},l.Pairwise lt->l.Nodup:=fun h=>List.Pairwise.imp (S:=fun a b=>a ≠ b) (fun {a b} hab e=>irr b (by rw [e] at hab;exact hab)) h
 List.Perm.eq_of_pairwise (le:=lt) (fun a b _ _ h1 h2=>(asym a b h1 h2).elim) hl hm ((List.perm_ext_iff_of_nodup (nd hl) (nd hm)).2 h)

/-! ascending lists -/
def Ur (l:List Int):Prop:=l.Pairwise (· < ·)
def Pr:List Int->Bool
 | []=>true
 | [_]=>true
 | a :: b :: r=>decide (a<b) && Pr (b :: r)
theorem IX:∀ l:List Int,Pr l=true↔Ur l
 | []=>by simp [Pr,Ur]
 | [a]=>by simp [Pr,Ur]
 | a :: b :: r=>by
  rw [Pr,Bool.and_eq_true,IX (b :: r),decide_eq_true_eq]
  constructor
  ·rintro ⟨h1,h2⟩
   refine List.pairwise_cons.2 ⟨fun c hc=>?_,h2⟩
   rcases List.mem_cons.1 hc with rfl | hc
   ·exact h1
   ·have:=(List.pairwise_cons.1 h2).1 c hc;omega
  ·intro h
   have h':=List.pairwise_cons.1 h
   exact ⟨h'.1 b (by simp),h'.2⟩
theorem I7 {l m:List Int} (hl:Ur l) (hm:Ur m) (h:∀ a,a∈l↔a∈m):l=m:=K2 (fun a=>by omega) (fun a b h1 h2=>by omega) hl hm h
theorem Hl {l:List Int} (hl:Ur l):l.Nodup:=List.Pairwise.imp (fun h e=>by omega) hl
theorem Ps {l m:List Int} (hl:Ur l) (h:∀ a∈l,a∈m):l.length<=m.length:=(Hl hl).length_le_of_subset h
theorem OL {l m:List Int} (hl:Ur l) (hm:Ur m) (h:∀ a∈l,a∈m) (hlen:m.length<=l.length):l=m:=by
 refine I7 hl hm fun a=>⟨h a,fun ha=>?_⟩
 refine Classical.byContradiction fun hna=>?_
 have h1:(a :: l).length<=m.length:=(List.nodup_cons.2 ⟨hna,Hl hl⟩).length_le_of_subset (by
  intro b hb
  rcases List.mem_cons.1 hb with rfl | hb
  ·exact ha
  ·exact h b hb)
 simp at h1
 omega

def La (x:Int):List Int->List Int
 | []=>[x]
 | y :: ys=>if y<x then y :: La x ys else if y=x then y :: ys else x :: y :: ys
theorem DJ (x a:Int) (l:List Int):a∈La x l↔a=x\/a∈l:=by
 induction l with
 | nil=>simp [La]
 | cons y ys ih=>
  simp only [La]
  split
  ·simp [ih];constructor <;> (intro h;rcases h with h | h | h <;> simp [h])
  split
  ·rename_i h;subst h;simp
  simp
theorem IY {x:Int} {l:List Int} (h:Ur l):Ur (La x l):=by
 unfold Ur at *
 induction l with
 | nil=>simp [La]
 | cons y ys ih=>
  rw [List.pairwise_cons] at h
  simp only [La]
  split
  ·rename_i hl
   rw [List.pairwise_cons]
   refine ⟨fun a ha=>?_,ih h.2⟩
   rcases (DJ x a ys).1 ha with rfl | ha
   ·exact hl
   exact h.1 a ha
  split
  ·exact List.pairwise_cons.2 h
  rename_i hl hne
  rw [List.pairwise_cons]
  refine ⟨fun a ha=>?_,List.pairwise_cons.2 h⟩
  rcases List.mem_cons.1 ha with rfl | ha
  ·omega
  have:=h.1 a ha;omega

/-! lists in lexicographic order -/
def Do:List Int->List Int->Bool
 | [],[]=>false
 | [],_ :: _=>true
 | _ :: _,[]=>false
 | a :: as,b :: bs=>if a=b then Do as bs else decide (a<b)
theorem F0:∀ {a b c:List Int},Do a b=true->Do b c=true->Do a c=true
 | [],[],_,h,_=>by simp [Do] at h
 | [],_ :: _,[],_,h=>by simp [Do] at h
 | [],_ :: _,_ :: _,_,_=>rfl
 | _ :: _,[],_,h,_=>by simp [Do] at h
 | _ :: _,_ :: _,[],_,h=>by simp [Do] at h
 | a :: as,b :: bs,c :: cs,h1,h2=>by
  simp only [Do] at h1 h2 ⊢
  split at h1
  ·rename_i e1;subst e1
   split at h2
   ·rename_i e2;subst e2;simp;exact F0 h1 h2
   ·rename_i e2;simp only [e2,if_false];exact h2
  ·rename_i e1
   split at h2
   ·rename_i e2;subst e2;simp only [e1,if_false];exact h1
   ·simp at h1 h2
    rw [if_neg (by omega)];simp;omega
theorem Hm:∀ a b:List Int,Do a b=true\/a=b\/Do b a=true
 | [],[]=>.inr (.inl rfl)
 | [],_ :: _=>.inl rfl
 | _ :: _,[]=>.inr (.inr rfl)
 | a :: as,b :: bs=>by
  simp only [Do]
  by_cases e:a=b
  ·subst e
   simp
   exact Hm as bs
  ·rw [if_neg e,if_neg (fun h=>e h.symm)]
   simp;omega
def Hn (L:List (List Int)):Prop:=L.Pairwise fun a b=>Do a b=true
def KD (x:List Int):List (List Int)->List (List Int)
 | []=>[x]
 | y :: ys=>if Do y x then y :: KD x ys else if y=x then y :: ys else x :: y :: ys
theorem IZ (x a:List Int) (l:List (List Int)):a∈KD x l↔a=x\/a∈l:=by
 induction l with
 | nil=>simp [KD]
 | cons y ys ih=>
  simp only [KD]
  split
  ·simp [ih];constructor <;> (intro h;rcases h with h | h | h <;> simp [h])
  split
  ·rename_i h;subst h;simp
  simp
theorem Ni (x:List Int) (l:List (List Int)):(KD x l).length<=l.length+1:=by
 induction l with
 | nil=>simp [KD]
 | cons y ys ih=>
  simp only [KD]
  split
  ·simp;omega
  split <;> simp
theorem Lb {x:List Int} {l:List (List Int)} (h:Hn l):Hn (KD x l):=by
 unfold Hn at *
 induction l with
 | nil=>simp [KD]
 | cons y ys ih=>
  rw [List.pairwise_cons] at h
  simp only [KD]
  split
  ·rename_i hl
   rw [List.pairwise_cons]
   refine ⟨fun a ha=>?_,ih h.2⟩
   rcases (IZ x a ys).1 ha with rfl | ha
   ·exact hl
   exact h.1 a ha
  split
  ·exact List.pairwise_cons.2 h
  rename_i hl hne
  have hxy:Do x y=true:=by
   rcases Hm x y with h | h | h
   ·exact h
   ·exact absurd h.symm hne
   exact absurd h hl
  rw [List.pairwise_cons]
  refine ⟨fun a ha=>?_,List.pairwise_cons.2 h⟩
  rcases List.mem_cons.1 ha with rfl | ha
  ·exact hxy
  exact F0 hxy (h.1 a ha)

/-! minimal sets -/
def S6 (a b:List Int):Bool:=a.all fun x=>decide (x∈b)
theorem J0 {a b:List Int}:S6 a b=true↔∀ x∈a,x∈b:=by simp [S6]
def FK (L:List (List Int)) (s:List Int):Bool:=L.all fun o=>!(decide (o.length<s.length) && S6 o s)
def I8 (L:List (List Int)):List (List Int)->List (List Int)->List (List Int)
 | [],acc=>acc
 | s :: r,acc=>I8 L r (if FK L s then KD s acc else acc)
def OM (L:List (List Int)):List (List Int):=if L.all Pr then I8 L L [] else []
theorem DK (L:List (List Int)):∀ (r acc:List (List Int)),Hn acc->Hn (I8 L r acc)/\(∀ s,s∈I8 L r acc↔s∈acc\/(s∈r/\FK L s=true))/\(I8 L r acc).length<=acc.length+r.length
 | [],acc,h=>by simp [I8,h]
 | s :: r,acc,h=>by
  unfold I8
  split
  ·rename_i hl
   obtain ⟨h1,h2,h3⟩:=DK L r (KD s acc) (Lb h)
   refine ⟨h1,fun q=>?_,?_⟩
   ·rw [h2,IZ]
    constructor
    ·rintro ((rfl | hq) | hq)
     ·exact .inr ⟨by simp,hl⟩
     ·exact .inl hq
     ·exact .inr ⟨by simp [hq.1],hq.2⟩
    ·rintro (hq | ⟨hq,hq2⟩)
     ·exact .inl (.inr hq)
     ·rcases List.mem_cons.1 hq with rfl | hq
      ·exact .inl (.inl rfl)
      ·exact .inr ⟨hq,hq2⟩
   ·have:=Ni s acc;simp;omega
  ·rename_i hl
   obtain ⟨h1,h2,h3⟩:=DK L r acc h
   refine ⟨h1,fun q=>?_,by simp;omega⟩
   rw [h2]
   constructor
   ·rintro (hq | hq)
    ·exact .inl hq
    ·exact .inr ⟨by simp [hq.1],hq.2⟩
   ·rintro (hq | ⟨hq,hq2⟩)
    ·exact .inl hq
    ·rcases List.mem_cons.1 hq with rfl | hq
     ·rw [hq2] at hl;exact absurd rfl hl
     ·exact .inr ⟨hq,hq2⟩
theorem Lc (L:List (List Int)):Hn (OM L):=by
 unfold OM
 split
 ·exact (DK L L [] List.Pairwise.nil).1
 exact List.Pairwise.nil
theorem Gf {L:List (List Int)} (hL:∀ s∈L,Ur s) (s:List Int):s∈OM L↔s∈L/\FK L s=true:=by
 have:L.all Pr=true:=by simp [IX];exact hL
 simp [OM,this,(DK L L [] List.Pairwise.nil).2.1]
theorem Gg {L:List (List Int)} {s:List Int} (h:s∈OM L):s∈L:=by
 unfold OM at h
 split at h
 rotate_left
 ·cases h
 rw [(DK L L [] List.Pairwise.nil).2.1] at h
 simp at h;exact h.1
theorem DZ {L:List (List Int)} (hL:∀ s∈L,Ur s) {s:List Int} (hs:Ur s):FK L s=true↔∀ o∈L,(∀ x∈o,x∈s)->o=s:=by
 simp only [FK,List.all_eq_true,Bool.not_eq_true',Bool.and_eq_false_iff,decide_eq_false_iff_not]
 constructor
 ·intro h o ho hsub
  rcases h o ho with h | h
  ·exact OL (hL o ho) hs hsub (by omega)
  have:=J0.2 hsub;rw [this] at h;cases h
 intro h o ho
 cases hb:S6 o s with
 | false=>exact .inr rfl
 | true=>
  have:=h o ho (J0.1 hb)
  subst this
  exact .inl (by omega)
theorem El {L : List (List Int)} (hL : ∀ s ∈ L, Ur s) : ∀ (n : Nat) {s : List Int}, s.length <= n -> s ∈ L -> ∃ t ∈ OM L, ∀ x ∈ t, x ∈ s
 | 0, s, hn, hs => ⟨s, (Gf hL s).2 ⟨hs, (DZ hL (hL s hs)).2 fun o ho hsub => by
   have h1 := Ps (hL o ho) hsub
   have h2 : o = [] := List.length_eq_zero_iff.1 (by omega)
   have h3 : s = [] := List.length_eq_zero_iff.1 (by omega)
   rw [h2, h3]⟩, fun x hx => hx⟩
 | n + 1, s, hn, hs => by
  by_cases hl : FK L s = true
  ·exact ⟨s, (Gf hL s).2 ⟨hs, hl⟩, fun x hx => hx⟩
  ·rw [DZ hL (hL s hs)] at hl
   simp only [Classical.not_forall] at hl
   obtain ⟨o, ho, hsub, hne⟩ := hl
   have h1 : o.length < s.length := by
    refine Nat.lt_of_not_le fun hle => hne (OL (hL o ho) (hL s hs) hsub hle)
   obtain ⟨t, ht, hts⟩ := El hL n (by omega : o.length <= n) ho
   exact ⟨t, ht, fun x hx => hsub x (hts x hx)⟩

/-! transversals -/
def J1 (a b:List Int):Bool:=a.any fun x=>decide (x∈b)
theorem K3 {a b:List Int}:J1 a b=true↔∃ x∈a,x∈b:=by simp [J1]
def FL (out:List (List Int)) (s:List Int):List (List Int):=out.flatMap fun t=>if J1 t s then [t] else s.map fun e=>La e t
theorem K4 {out:List (List Int)} {s:List Int} (ho:∀ t∈out,Ur t):∀ t∈FL out s,Ur t:=by
 intro t ht
 simp only [FL,List.mem_flatMap] at ht
 obtain ⟨q,hq,ht⟩:=ht
 split at ht
 ·simp at ht;subst ht;exact ho _ hq
 simp only [List.mem_map] at ht
 obtain ⟨e,_,rfl⟩:=ht
 exact IY (ho q hq)

def Us (t:List Int) (L:List (List Int)):Prop:=∀ s∈L,∃ x∈s,x∈t
structure Tv (out L:List (List Int)):Prop where
 asc:∀ t∈out,Ur t
 sort:Hn out
 hit:∀ t∈out,Us t L
 low:∀ u,Us u L->∃ t∈out,∀ x∈t,x∈u
 anti:∀ t∈out,∀ q∈out,(∀ x∈t,x∈q)->t=q
theorem Tv.start:Tv [[]] [] where
 asc t ht:=by simp at ht;subst ht;exact List.Pairwise.nil
 sort:=by simp [Hn]
 hit t _:=fun s hs=>by cases hs
 low u _:=⟨[],by simp,fun x hx=>by cases hx⟩
 anti t ht q hq _:=by simp at ht hq;rw [ht,hq]
theorem Tv.step {out L:List (List Int)} (h:Tv out L) (s:List Int):Tv (OM (FL out s)) (L++[s]):=by
 have hasc:=K4 (s:=s) h.asc
 have hhit:∀ t∈FL out s,Us t (L++[s]):=by
  intro t ht
  simp only [FL,List.mem_flatMap] at ht
  obtain ⟨q,hq,ht⟩:=ht
  have hqh:=h.hit q hq
  split at ht
  ·rename_i hm
   simp at ht;subst ht
   intro r hr
   rcases List.mem_append.1 hr with hr | hr
   ·exact hqh r hr
   simp at hr;subst hr
   obtain ⟨x,h1,h2⟩:=K3.1 hm
   exact ⟨x,h2,h1⟩
  simp only [List.mem_map] at ht
  obtain ⟨e,he,rfl⟩:=ht
  intro r hr
  rcases List.mem_append.1 hr with hr | hr
  rotate_left
  ·simp at hr;subst hr
   exact ⟨e,he,(DJ _ _ _).2 (.inl rfl)⟩
  obtain ⟨x,h1,h2⟩:=hqh r hr
  exact ⟨x,h1,(DJ _ _ _).2 (.inr h2)⟩
 refine ⟨fun t ht=>hasc t (Gg ht),Lc _,fun t ht=>hhit t (Gg ht),fun u hu=>?_,fun t ht q hq hsub=>?_⟩
 rotate_left
 ·have h1:=(Gf hasc q).1 hq
  exact (DZ hasc (hasc q h1.1)).1 h1.2 t (Gg ht) hsub
 obtain ⟨t,ht,htu⟩:=h.low u (fun r hr=>hu r (List.mem_append_left _ hr))
 obtain ⟨e,he,heu⟩:=hu s (by simp)
 have:∃ q∈FL out s,∀ x∈q,x∈u:=by
  by_cases hm:J1 t s=true
  ·exact ⟨t,List.mem_flatMap.2 ⟨t,ht,by rw [if_pos hm];simp⟩,htu⟩
  refine ⟨La e t,List.mem_flatMap.2 ⟨t,ht,by rw [if_neg hm];exact List.mem_map.2 ⟨e,he,rfl⟩⟩,fun x hx=>?_⟩
  rcases (DJ _ _ _).1 hx with rfl | hx
  ·exact heu
  exact htu x hx
 obtain ⟨q,hq,hqu⟩:=this
 obtain ⟨t',ht',hs'⟩:=El hasc q.length (Nat.le_refl _) hq
 exact ⟨t',ht',fun x hx=>hqu x (hs' x hx)⟩
/-! few sets over few numbers -/
end Go.Proofs.YtjijjfkalheokaaDoor
