/- Lemmas. -/
import Derived.Test.YtbnabodoabimnaaGreatBase
namespace Go.Proofs.YtbnabodoabimnaaGreat
set_option linter.unusedVariables false
set_option linter.unusedSimpArgs false
theorem Gy {α:Type} {lt:α->α->Prop} (irr:∀ a,¬ lt a a) (asym:∀ a b,lt a b->lt b a->False) {l m:List α} (hl:l.Pairwise lt) (hm:m.Pairwise lt) (h:∀ a,a∈l↔a∈m):l=m:=
 have nd:∀ {l:List α},l.Pairwise lt->l.Nodup:=fun h=>List.Pairwise.imp (S:=fun a b=>a ≠ b) (fun {a b} hab e=>irr b (by rw [e] at hab;exact hab)) h
 List.Perm.eq_of_pairwise (le:=lt) (fun a b _ _ h1 h2=>(asym a b h1 h2).elim) hl hm ((List.perm_ext_iff_of_nodup (nd hl) (nd hm)).2 h)

/-! ascending lists -/
def W9 (l:List Int):Prop:=l.Pairwise (· < ·)
def Gb:List Int->Bool
 | []=>true
 | [_]=>true
 | a :: b :: r=>decide (a<b) && Gb (b :: r)
theorem Fl:∀ l:List Int,Gb l=true↔W9 l
 | []=>by simp [Gb,W9]
 | [a]=>by simp [Gb,W9]
 | a :: b :: r=>by
  rw [Gb,gA1,Fl (b :: r),gBM]
  constructor
  ·rintro ⟨h1,h2⟩
   refine gBe.2 ⟨fun c hc=>?_,h2⟩
   rcases gB2.1 hc with rfl | hc
   ·exact h1
   ·have:=(gBe.1 h2).1 c hc;omega
  ·intro h
   have h':=gBe.1 h
   exact ⟨h'.1 b (by simp),h'.2⟩
theorem GV {l m:List Int} (hl:W9 l) (hm:W9 m) (h:∀ a,a∈l↔a∈m):l=m:=Gy (fun a=>by omega) (fun a b h1 h2=>by omega) hl hm h
theorem I0 {l:List Int} (hl:W9 l):l.Nodup:=List.Pairwise.imp (fun h e=>by omega) hl
theorem QX {l m:List Int} (hl:W9 l) (h:∀ a∈l,a∈m):l.length<=m.length:=(I0 hl).length_le_of_subset h
theorem Qb {l m:List Int} (hl:W9 l) (hm:W9 m) (h:∀ a∈l,a∈m) (hlen:m.length<=l.length):l=m:=by
 refine GV hl hm fun a=>⟨h a,fun ha=>?_⟩
 refine Classical.byContradiction fun hna=>?_
 have h1:(a :: l).length<=m.length:=(List.nodup_cons.2 ⟨hna,I0 hl⟩).length_le_of_subset (by
  intro b hb
  rcases gB2.1 hb with rfl | hb
  ·exact ha
  ·exact h b hb)
 simp at h1
 omega

def Df (x:Int):List Int->List Int
 | []=>[x]
 | y :: ys=>if y<x then y :: Df x ys else if y=x then y :: ys else x :: y :: ys
theorem Cv (x a:Int) (l:List Int):a∈Df x l↔a=x\/a∈l:=by
 induction l with
 | nil=>simp [Df]
 | cons y ys ih=>
  simp only [Df]
  split
  ·simp [ih];constructor <;> (intro h;rcases h with h | h | h <;> simp [h])
  split
  ·rename_i h;subst h;simp
  simp
theorem OR (x:Int) (l:List Int):(Df x l).length<=l.length+1:=by
 induction l with
 | nil=>simp [Df]
 | cons y ys ih=>
  simp only [Df]
  split
  ·simp;omega
  split <;> simp
theorem DN {x:Int} {l:List Int} (h:W9 l):W9 (Df x l):=by
 unfold W9 at *
 induction l with
 | nil=>simp [Df]
 | cons y ys ih=>
  rw [gBe] at h
  simp only [Df]
  split
  ·rename_i hl
   rw [gBe]
   refine ⟨fun a ha=>?_,ih h.2⟩
   rcases (Cv x a ys).1 ha with rfl | ha
   ·exact hl
   exact h.1 a ha
  split
  ·exact gBe.2 h
  rename_i hl hne
  rw [gBe]
  refine ⟨fun a ha=>?_,gBe.2 h⟩
  rcases gB2.1 ha with rfl | ha
  ·omega
  have:=h.1 a ha;omega

/-! lists in lexicographic order -/
def Bi:List Int->List Int->Bool
 | [],[]=>false
 | [],_ :: _=>true
 | _ :: _,[]=>false
 | a :: as,b :: bs=>if a=b then Bi as bs else decide (a<b)
theorem CK:∀ a:List Int,Bi a a=false
 | []=>rfl
 | a :: as=>by simp [Bi,CK as]
theorem C6:∀ {a b c:List Int},Bi a b=true->Bi b c=true->Bi a c=true
 | [],[],_,h,_=>by simp [Bi] at h
 | [],_ :: _,[],_,h=>by simp [Bi] at h
 | [],_ :: _,_ :: _,_,_=>rfl
 | _ :: _,[],_,h,_=>by simp [Bi] at h
 | _ :: _,_ :: _,[],_,h=>by simp [Bi] at h
 | a :: as,b :: bs,c :: cs,h1,h2=>by
  simp only [Bi] at h1 h2 ⊢
  split at h1
  ·rename_i e1;subst e1
   split at h2
   ·rename_i e2;subst e2;simp;exact C6 h1 h2
   ·rename_i e2;simp only [e2,if_false];exact h2
  ·rename_i e1
   split at h2
   ·rename_i e2;subst e2;simp only [e1,if_false];exact h1
   ·simp at h1 h2
    rw [if_neg (by omega)];simp;omega
theorem Ep:∀ a b:List Int,Bi a b=true\/a=b\/Bi b a=true
 | [],[]=>.inr (.inl rfl)
 | [],_ :: _=>.inl rfl
 | _ :: _,[]=>.inr (.inr rfl)
 | a :: as,b :: bs=>by
  simp only [Bi]
  by_cases e:a=b
  ·subst e
   simp
   exact Ep as bs
  ·rw [if_neg e,if_neg (fun h=>e h.symm)]
   simp;omega
theorem Li {a b:List Int} (h1:Bi a b=true) (h2:Bi b a=true):False:=by
 have:=C6 h1 h2;rw [CK] at this;cases this
def Er (L:List (List Int)):Prop:=L.Pairwise fun a b=>Bi a b=true
theorem FO {l m:List (List Int)} (hl:Er l) (hm:Er m) (h:∀ a,a∈l↔a∈m):l=m:=Gy (fun a=>by simp [CK]) (fun a b=>Li) hl hm h

def Gi (x:List Int):List (List Int)->List (List Int)
 | []=>[x]
 | y :: ys=>if Bi y x then y :: Gi x ys else if y=x then y :: ys else x :: y :: ys
theorem GW (x a:List Int) (l:List (List Int)):a∈Gi x l↔a=x\/a∈l:=by
 induction l with
 | nil=>simp [Gi]
 | cons y ys ih=>
  simp only [Gi]
  split
  ·simp [ih];constructor <;> (intro h;rcases h with h | h | h <;> simp [h])
  split
  ·rename_i h;subst h;simp
  simp
theorem JU (x:List Int) (l:List (List Int)):(Gi x l).length<=l.length+1:=by
 induction l with
 | nil=>simp [Gi]
 | cons y ys ih=>
  simp only [Gi]
  split
  ·simp;omega
  split <;> simp
theorem Mt {x:List Int} {l:List (List Int)} (h:Er l):Er (Gi x l):=by
 unfold Er at *
 induction l with
 | nil=>simp [Gi]
 | cons y ys ih=>
  rw [gBe] at h
  simp only [Gi]
  split
  ·rename_i hl
   rw [gBe]
   refine ⟨fun a ha=>?_,ih h.2⟩
   rcases (GW x a ys).1 ha with rfl | ha
   ·exact hl
   exact h.1 a ha
  split
  ·exact gBe.2 h
  rename_i hl hne
  have hxy:Bi x y=true:=by
   rcases Ep x y with h | h | h
   ·exact h
   ·exact absurd h.symm hne
   exact absurd h hl
  rw [gBe]
  refine ⟨fun a ha=>?_,gBe.2 h⟩
  rcases gB2.1 ha with rfl | ha
  ·exact hxy
  exact C6 hxy (h.1 a ha)

/-! minimal sets -/
def Dp (a b:List Int):Bool:=a.all fun x=>decide (x∈b)
theorem DO {a b:List Int}:Dp a b=true↔∀ x∈a,x∈b:=by simp [Dp]
def E4 (L:List (List Int)) (s:List Int):Bool:=L.all fun o=>!(decide (o.length<s.length) && Dp o s)
def Gj (L:List (List Int)):List (List Int)->List (List Int)->List (List Int)
 | [],acc=>acc
 | s :: r,acc=>Gj L r (if E4 L s then Gi s acc else acc)
def D2 (L:List (List Int)):List (List Int):=if L.all Gb then Gj L L [] else []
theorem DP (L:List (List Int)):∀ (r acc:List (List Int)),Er acc->Er (Gj L r acc)/\(∀ s,s∈Gj L r acc↔s∈acc\/(s∈r/\E4 L s=true))/\(Gj L r acc).length<=acc.length+r.length
 | [],acc,h=>by simp [Gj,h]
 | s :: r,acc,h=>by
  unfold Gj
  split
  ·rename_i hl
   obtain ⟨h1,h2,h3⟩:=DP L r (Gi s acc) (Mt h)
   refine ⟨h1,fun q=>?_,?_⟩
   ·rw [h2,GW]
    constructor
    ·rintro ((rfl | hq) | hq)
     ·exact .inr ⟨by simp,hl⟩
     ·exact .inl hq
     ·exact .inr ⟨by simp [hq.1],hq.2⟩
    ·rintro (hq | ⟨hq,hq2⟩)
     ·exact .inl (.inr hq)
     ·rcases gB2.1 hq with rfl | hq
      ·exact .inl (.inl rfl)
      ·exact .inr ⟨hq,hq2⟩
   ·have:=JU s acc;simp;omega
  ·rename_i hl
   obtain ⟨h1,h2,h3⟩:=DP L r acc h
   refine ⟨h1,fun q=>?_,by simp;omega⟩
   rw [h2]
   constructor
   ·rintro (hq | hq)
    ·exact .inl hq
    ·exact .inr ⟨by simp [hq.1],hq.2⟩
   ·rintro (hq | ⟨hq,hq2⟩)
    ·exact .inl hq
    ·rcases gB2.1 hq with rfl | hq
     ·rw [hq2] at hl;exact absurd rfl hl
     ·exact .inr ⟨hq,hq2⟩
theorem D7 (L:List (List Int)):Er (D2 L):=by
 unfold D2
 split
 ·exact (DP L L [] List.Pairwise.nil).1
 exact List.Pairwise.nil
theorem Es (L:List (List Int)):(D2 L).length<=L.length:=by
 unfold D2
 split
 ·simpa using (DP L L [] List.Pairwise.nil).2.2
 simp
theorem CU {L:List (List Int)} (hL:∀ s∈L,W9 s) (s:List Int):s∈D2 L↔s∈L/\E4 L s=true:=by
 have:L.all Gb=true:=by simp [Fl];exact hL
 simp [D2,this,(DP L L [] List.Pairwise.nil).2.1]
theorem Ca {L:List (List Int)} {s:List Int} (h:s∈D2 L):s∈L:=by
 unfold D2 at h
 split at h
 rotate_left
 ·cases h
 rw [(DP L L [] List.Pairwise.nil).2.1] at h
 simp at h;exact h.1
theorem CA {L:List (List Int)} (hL:∀ s∈L,W9 s) {s:List Int} (hs:W9 s):E4 L s=true↔∀ o∈L,(∀ x∈o,x∈s)->o=s:=by
 simp only [E4,gAg,gA7,Bool.and_eq_false_iff,gBL]
 constructor
 ·intro h o ho hsub
  rcases h o ho with h | h
  ·exact Qb (hL o ho) hs hsub (by omega)
  have:=DO.2 hsub;rw [this] at h;cases h
 intro h o ho
 cases hb:Dp o s with
 | false=>exact .inr rfl
 | true=>
  have:=h o ho (DO.1 hb)
  subst this
  exact .inl (by omega)
def UH (S:List (List Int)):List (List Int):=S.filter fun s=>S.all fun o=>decide (o=s) || !Dp o s
theorem QY {L S:List (List Int)} (hL:∀ s∈L,W9 s) (hS:Er S) (hm:∀ s,s∈S↔s∈L):UH S=D2 L:=by
 refine FO (List.Pairwise.filter _ hS) (D7 L) fun s=>?_
 rw [CU hL,UH,gB4,hm]
 refine and_congr_right fun hs=>?_
 rw [CA hL (hL s hs)]
 simp only [gAg,Bool.or_eq_true,gBM,gA7]
 constructor
 ·intro h o ho hsub
  rcases h o ((hm o).2 ho) with h | h
  ·exact h
  rw [DO.2 hsub] at h;cases h
 intro h o ho
 cases hb:Dp o s with
 | false=>exact .inr rfl
 | true=>exact .inl (h o ((hm o).1 ho) (DO.1 hb))
theorem CV {L : List (List Int)} (hL : ∀ s ∈ L, W9 s) : ∀ (n : Nat) {s : List Int}, s.length <= n -> s ∈ L -> ∃ t ∈ D2 L, ∀ x ∈ t, x ∈ s
 | 0, s, hn, hs => ⟨s, (CU hL s).2 ⟨hs, (CA hL (hL s hs)).2 fun o ho hsub => by
   have h1 := QX (hL o ho) hsub
   have h2 : o = [] := gAL.1 (by omega)
   have h3 : s = [] := gAL.1 (by omega)
   rw [h2, h3]⟩, fun x hx => hx⟩
 | n + 1, s, hn, hs => by
  by_cases hl : E4 L s = true
  ·exact ⟨s, (CU hL s).2 ⟨hs, hl⟩, fun x hx => hx⟩
  ·rw [CA hL (hL s hs)] at hl
   simp only [Classical.not_forall] at hl
   obtain ⟨o, ho, hsub, hne⟩ := hl
   have h1 : o.length < s.length := by
    refine Nat.lt_of_not_le fun hle => hne (Qb (hL o ho) (hL s hs) hsub hle)
   obtain ⟨t, ht, hts⟩ := CV hL n (by omega : o.length <= n) ho
   exact ⟨t, ht, fun x hx => hsub x (hts x hx)⟩

/-! transversals -/
def JV (a b:List Int):Bool:=a.any fun x=>decide (x∈b)
theorem Lj {a b:List Int}:JV a b=true↔∃ x∈a,x∈b:=by simp [JV]
def Gz (out:List (List Int)) (s:List Int):List (List Int):=out.flatMap fun t=>if JV t s then [t] else s.map fun e=>Df e t
theorem Lk {out:List (List Int)} {s:List Int} (ho:∀ t∈out,W9 t):∀ t∈Gz out s,W9 t:=by
 intro t ht
 simp only [Gz,gB5] at ht
 obtain ⟨q,hq,ht⟩:=ht
 split at ht
 ·simp at ht;subst ht;exact ho _ hq
 simp only [gB7] at ht
 obtain ⟨e,_,rfl⟩:=ht
 exact DN (ho q hq)

def Wa (t:List Int) (L:List (List Int)):Prop:=∀ s∈L,∃ x∈s,x∈t
structure Tv (out L:List (List Int)):Prop where
 asc:∀ t∈out,W9 t
 sort:Er out
 hit:∀ t∈out,Wa t L
 low:∀ u,Wa u L->∃ t∈out,∀ x∈t,x∈u
 anti:∀ t∈out,∀ q∈out,(∀ x∈t,x∈q)->t=q
theorem Tv.start:Tv [[]] [] where
 asc t ht:=by simp at ht;subst ht;exact List.Pairwise.nil
 sort:=by simp [Er]
 hit t _:=fun s hs=>by cases hs
 low u _:=⟨[],by simp,fun x hx=>by cases hx⟩
 anti t ht q hq _:=by simp at ht hq;rw [ht,hq]
theorem Tv.step {out L:List (List Int)} (h:Tv out L) (s:List Int):Tv (D2 (Gz out s)) (L++[s]):=by
 have hasc:=Lk (s:=s) h.asc
 have hhit:∀ t∈Gz out s,Wa t (L++[s]):=by
  intro t ht
  simp only [Gz,gB5] at ht
  obtain ⟨q,hq,ht⟩:=ht
  have hqh:=h.hit q hq
  split at ht
  ·rename_i hm
   simp at ht;subst ht
   intro r hr
   rcases gB0.1 hr with hr | hr
   ·exact hqh r hr
   simp at hr;subst hr
   obtain ⟨x,h1,h2⟩:=Lj.1 hm
   exact ⟨x,h2,h1⟩
  simp only [gB7] at ht
  obtain ⟨e,he,rfl⟩:=ht
  intro r hr
  rcases gB0.1 hr with hr | hr
  rotate_left
  ·simp at hr;subst hr
   exact ⟨e,he,(Cv _ _ _).2 (.inl rfl)⟩
  obtain ⟨x,h1,h2⟩:=hqh r hr
  exact ⟨x,h1,(Cv _ _ _).2 (.inr h2)⟩
 refine ⟨fun t ht=>hasc t (Ca ht),D7 _,fun t ht=>hhit t (Ca ht),fun u hu=>?_,fun t ht q hq hsub=>?_⟩
 rotate_left
 ·have h1:=(CU hasc q).1 hq
  exact (CA hasc (hasc q h1.1)).1 h1.2 t (Ca ht) hsub
 obtain ⟨t,ht,htu⟩:=h.low u (fun r hr=>hu r (gB1 _ hr))
 obtain ⟨e,he,heu⟩:=hu s (by simp)
 have:∃ q∈Gz out s,∀ x∈q,x∈u:=by
  by_cases hm:JV t s=true
  ·exact ⟨t,gB5.2 ⟨t,ht,by rw [if_pos hm];simp⟩,htu⟩
  refine ⟨Df e t,gB5.2 ⟨t,ht,by rw [if_neg hm];exact gB7.2 ⟨e,he,rfl⟩⟩,fun x hx=>?_⟩
  rcases (Cv _ _ _).1 hx with rfl | hx
  ·exact heu
  exact htu x hx
 obtain ⟨q,hq,hqu⟩:=this
 obtain ⟨t',ht',hs'⟩:=CV hasc q.length (gBu _) hq
 exact ⟨t',ht',fun x hx=>hqu x (hs' x hx)⟩
/-! few sets over few numbers -/
end Go.Proofs.YtbnabodoabimnaaGreat
