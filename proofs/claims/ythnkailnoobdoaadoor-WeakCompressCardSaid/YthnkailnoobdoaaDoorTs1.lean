/- Lemmas. -/
import Derived.Test.YthnkailnoobdoaaDoorBase
namespace Go.Proofs.YthnkailnoobdoaaDoor
set_option linter.unusedVariables false
set_option linter.unusedSimpArgs false

theorem KE {α : Type} {lt : α -> α -> Prop} (irr : ∀ a, ¬ lt a a) (asym : ∀ a b, lt a b -> lt b a -> False) {l m : List α} (hl : l.Pairwise lt) (hm : m.Pairwise lt) (h : ∀ a, a ∈ l ↔ a ∈ m) : l = m :=
 have nd : ∀ {l : List α}, l.Pairwise lt -> l.Nodup := fun h => List.Pairwise.imp (S := fun a b => a ≠ b) (fun {a b} hab e => irr b (by rw [e] at hab; exact hab)) h
 List.Perm.eq_of_pairwise (le := lt) (fun a b _ _ h1 h2 => (asym a b h1 h2).elim) hl hm ((List.perm_ext_iff_of_nodup (nd hl) (nd hm)).2 h)

/-! ascending lists -/
def Vb (l : List Int) : Prop := l.Pairwise (· < ·)
def Qd : List Int -> Bool
 | [] => true
 | [_] => true
 | a :: b :: r => decide (a < b) && Qd (b :: r)
theorem Jy : ∀ l : List Int, Qd l = true ↔ Vb l
 | [] => by simp [Qd, Vb]
 | [a] => by simp [Qd, Vb]
 | a :: b :: r => by
  rw [Qd, Bool.and_eq_true, Jy (b :: r), decide_eq_true_eq]
  constructor
  ·rintro ⟨h1, h2⟩
   refine List.pairwise_cons.2 ⟨fun c hc => ?_, h2⟩
   rcases List.mem_cons.1 hc with rfl | hc
   ·exact h1
   ·have := (List.pairwise_cons.1 h2).1 c hc; omega
  ·intro h
   have h' := List.pairwise_cons.1 h
   exact ⟨h'.1 b (by simp), h'.2⟩
theorem IJ {l m : List Int} (hl : Vb l) (hm : Vb m) (h : ∀ a, a ∈ l ↔ a ∈ m) : l = m := KE (fun a => by omega) (fun a b h1 h2 => by omega) hl hm h
theorem HV {l : List Int} (hl : Vb l) : l.Nodup := List.Pairwise.imp (fun h e => by omega) hl
theorem Qe {l m : List Int} (hl : Vb l) (h : ∀ a ∈ l, a ∈ m) : l.length <= m.length := (HV hl).length_le_of_subset h
theorem Pw {l m : List Int} (hl : Vb l) (hm : Vb m) (h : ∀ a ∈ l, a ∈ m) (hlen : m.length <= l.length) : l = m := by
 refine IJ hl hm fun a => ⟨h a, fun ha => ?_⟩
 refine Classical.byContradiction fun hna => ?_
 have h1 : (a :: l).length <= m.length := (List.nodup_cons.2 ⟨hna, HV hl⟩).length_le_of_subset (by
  intro b hb
  rcases List.mem_cons.1 hb with rfl | hb
  ·exact ha
  ·exact h b hb)
 simp at h1
 omega

def LK (x : Int) : List Int -> List Int
 | [] => [x]
 | y :: ys => if y < x then y :: LK x ys else if y = x then y :: ys else x :: y :: ys
theorem Ea (x a : Int) (l : List Int) : a ∈ LK x l ↔ a = x \/ a ∈ l := by
 induction l with
 | nil => simp [LK]
 | cons y ys ih =>
  simp only [LK]
  split
  ·simp [ih]; constructor <;> (intro h; rcases h with h | h | h <;> simp [h])
  split
  ·rename_i h; subst h; simp
  simp
theorem Jz {x : Int} {l : List Int} (h : Vb l) : Vb (LK x l) := by
 unfold Vb at *
 induction l with
 | nil => simp [LK]
 | cons y ys ih =>
  rw [List.pairwise_cons] at h
  simp only [LK]
  split
  ·rename_i hl
   rw [List.pairwise_cons]
   refine ⟨fun a ha => ?_, ih h.2⟩
   rcases (Ea x a ys).1 ha with rfl | ha
   ·exact hl
   exact h.1 a ha
  split
  ·exact List.pairwise_cons.2 h
  rename_i hl hne
  rw [List.pairwise_cons]
  refine ⟨fun a ha => ?_, List.pairwise_cons.2 h⟩
  rcases List.mem_cons.1 ha with rfl | ha
  ·omega
  have := h.1 a ha; omega

/-! lists in lexicographic order -/
def DT : List Int -> List Int -> Bool
 | [], [] => false
 | [], _ :: _ => true
 | _ :: _, [] => false
 | a :: as, b :: bs => if a = b then DT as bs else decide (a < b)
theorem FI : ∀ {a b c : List Int}, DT a b = true -> DT b c = true -> DT a c = true
 | [], [], _, h, _ => by simp [DT] at h
 | [], _ :: _, [], _, h => by simp [DT] at h
 | [], _ :: _, _ :: _, _, _ => rfl
 | _ :: _, [], _, h, _ => by simp [DT] at h
 | _ :: _, _ :: _, [], _, h => by simp [DT] at h
 | a :: as, b :: bs, c :: cs, h1, h2 => by
  simp only [DT] at h1 h2 ⊢
  split at h1
  ·rename_i e1; subst e1
   split at h2
   ·rename_i e2; subst e2; simp; exact FI h1 h2
   ·rename_i e2; simp only [e2, if_false]; exact h2
  ·rename_i e1
   split at h2
   ·rename_i e2; subst e2; simp only [e1, if_false]; exact h1
   ·simp at h1 h2
    rw [if_neg (by omega)]; simp; omega
theorem HW : ∀ a b : List Int, DT a b = true \/ a = b \/ DT b a = true
 | [], [] => .inr (.inl rfl)
 | [], _ :: _ => .inl rfl
 | _ :: _, [] => .inr (.inr rfl)
 | a :: as, b :: bs => by
  simp only [DT]
  by_cases e : a = b
  ·subst e
   simp
   exact HW as bs
  ·rw [if_neg e, if_neg (fun h => e h.symm)]
   simp; omega
def HX (L : List (List Int)) : Prop := L.Pairwise fun a b => DT a b = true
def Lc (x : List Int) : List (List Int) -> List (List Int)
 | [] => [x]
 | y :: ys => if DT y x then y :: Lc x ys else if y = x then y :: ys else x :: y :: ys
theorem JA (x a : List Int) (l : List (List Int)) : a ∈ Lc x l ↔ a = x \/ a ∈ l := by
 induction l with
 | nil => simp [Lc]
 | cons y ys ih =>
  simp only [Lc]
  split
  ·simp [ih]; constructor <;> (intro h; rcases h with h | h | h <;> simp [h])
  split
  ·rename_i h; subst h; simp
  simp
theorem NN (x : List Int) (l : List (List Int)) : (Lc x l).length <= l.length + 1 := by
 induction l with
 | nil => simp [Lc]
 | cons y ys ih =>
  simp only [Lc]
  split
  ·simp; omega
  split <;> simp
theorem LL {x : List Int} {l : List (List Int)} (h : HX l) : HX (Lc x l) := by
 unfold HX at *
 induction l with
 | nil => simp [Lc]
 | cons y ys ih =>
  rw [List.pairwise_cons] at h
  simp only [Lc]
  split
  ·rename_i hl
   rw [List.pairwise_cons]
   refine ⟨fun a ha => ?_, ih h.2⟩
   rcases (JA x a ys).1 ha with rfl | ha
   ·exact hl
   exact h.1 a ha
  split
  ·exact List.pairwise_cons.2 h
  rename_i hl hne
  have hxy : DT x y = true := by
   rcases HW x y with h | h | h
   ·exact h
   ·exact absurd h.symm hne
   exact absurd h hl
  rw [List.pairwise_cons]
  refine ⟨fun a ha => ?_, List.pairwise_cons.2 h⟩
  rcases List.mem_cons.1 ha with rfl | ha
  ·exact hxy
  exact FI hxy (h.1 a ha)

/-! minimal sets -/
def T2 (a b : List Int) : Bool := a.all fun x => decide (x ∈ b)
theorem JB {a b : List Int} : T2 a b = true ↔ ∀ x ∈ a, x ∈ b := by simp [T2]
def Gw (L : List (List Int)) (s : List Int) : Bool := L.all fun o => !(decide (o.length < s.length) && T2 o s)
def IK (L : List (List Int)) : List (List Int) -> List (List Int) -> List (List Int)
 | [], acc => acc
 | s :: r, acc => IK L r (if Gw L s then Lc s acc else acc)
def Px (L : List (List Int)) : List (List Int) := if L.all Qd then IK L L [] else []
theorem Eb (L : List (List Int)) : ∀ (r acc : List (List Int)), HX acc -> HX (IK L r acc) /\ (∀ s, s ∈ IK L r acc ↔ s ∈ acc \/ (s ∈ r /\ Gw L s = true)) /\ (IK L r acc).length <= acc.length + r.length
 | [], acc, h => by simp [IK, h]
 | s :: r, acc, h => by
  unfold IK
  split
  ·rename_i hl
   obtain ⟨h1, h2, h3⟩ := Eb L r (Lc s acc) (LL h)
   refine ⟨h1, fun q => ?_, ?_⟩
   ·rw [h2, JA]
    constructor
    ·rintro ((rfl | hq) | hq)
     ·exact .inr ⟨by simp, hl⟩
     ·exact .inl hq
     ·exact .inr ⟨by simp [hq.1], hq.2⟩
    ·rintro (hq | ⟨hq, hq2⟩)
     ·exact .inl (.inr hq)
     ·rcases List.mem_cons.1 hq with rfl | hq
      ·exact .inl (.inl rfl)
      ·exact .inr ⟨hq, hq2⟩
   ·have := NN s acc; simp; omega
  ·rename_i hl
   obtain ⟨h1, h2, h3⟩ := Eb L r acc h
   refine ⟨h1, fun q => ?_, by simp; omega⟩
   rw [h2]
   constructor
   ·rintro (hq | hq)
    ·exact .inl hq
    ·exact .inr ⟨by simp [hq.1], hq.2⟩
   ·rintro (hq | ⟨hq, hq2⟩)
    ·exact .inl hq
    ·rcases List.mem_cons.1 hq with rfl | hq
     ·rw [hq2] at hl; exact absurd rfl hl
     ·exact .inr ⟨hq, hq2⟩
theorem LM (L : List (List Int)) : HX (Px L) := by
 unfold Px
 split
 ·exact (Eb L L [] List.Pairwise.nil).1
 exact List.Pairwise.nil
theorem GU {L : List (List Int)} (hL : ∀ s ∈ L, Vb s) (s : List Int) : s ∈ Px L ↔ s ∈ L /\ Gw L s = true := by
 have : L.all Qd = true := by simp [Jy]; exact hL
 simp [Px, this, (Eb L L [] List.Pairwise.nil).2.1]
theorem GV {L : List (List Int)} {s : List Int} (h : s ∈ Px L) : s ∈ L := by
 unfold Px at h
 split at h
 rotate_left
 ·cases h
 rw [(Eb L L [] List.Pairwise.nil).2.1] at h
 simp at h; exact h.1
theorem Ex {L : List (List Int)} (hL : ∀ s ∈ L, Vb s) {s : List Int} (hs : Vb s) : Gw L s = true ↔ ∀ o ∈ L, (∀ x ∈ o, x ∈ s) -> o = s := by
 simp only [Gw, List.all_eq_true, Bool.not_eq_true', Bool.and_eq_false_iff, decide_eq_false_iff_not]
 constructor
 ·intro h o ho hsub
  rcases h o ho with h | h
  ·exact Pw (hL o ho) hs hsub (by omega)
  have := JB.2 hsub; rw [this] at h; cases h
 intro h o ho
 cases hb : T2 o s with
 | false => exact .inr rfl
 | true =>
  have := h o ho (JB.1 hb)
  subst this
  exact .inl (by omega)
theorem EU {L : List (List Int)} (hL : ∀ s ∈ L, Vb s) : ∀ (n : Nat) {s : List Int}, s.length <= n -> s ∈ L -> ∃ t ∈ Px L, ∀ x ∈ t, x ∈ s
 | 0, s, hn, hs => ⟨s, (GU hL s).2 ⟨hs, (Ex hL (hL s hs)).2 fun o ho hsub => by
   have h1 := Qe (hL o ho) hsub
   have h2 : o = [] := List.length_eq_zero_iff.1 (by omega)
   have h3 : s = [] := List.length_eq_zero_iff.1 (by omega)
   rw [h2, h3]⟩, fun x hx => hx⟩
 | n + 1, s, hn, hs => by
  by_cases hl : Gw L s = true
  ·exact ⟨s, (GU hL s).2 ⟨hs, hl⟩, fun x hx => hx⟩
  ·rw [Ex hL (hL s hs)] at hl
   simp only [Classical.not_forall] at hl
   obtain ⟨o, ho, hsub, hne⟩ := hl
   have h1 : o.length < s.length := by
    refine Nat.lt_of_not_le fun hle => hne (Pw (hL o ho) (hL s hs) hsub hle)
   obtain ⟨t, ht, hts⟩ := EU hL n (by omega : o.length <= n) ho
   exact ⟨t, ht, fun x hx => hsub x (hts x hx)⟩

/-! transversals -/
def JC (a b : List Int) : Bool := a.any fun x => decide (x ∈ b)
theorem KF {a b : List Int} : JC a b = true ↔ ∃ x ∈ a, x ∈ b := by simp [JC]
def Gx (out : List (List Int)) (s : List Int) : List (List Int) := out.flatMap fun t => if JC t s then [t] else s.map fun e => LK e t
theorem KG {out : List (List Int)} {s : List Int} (ho : ∀ t ∈ out, Vb t) : ∀ t ∈ Gx out s, Vb t := by
 intro t ht
 simp only [Gx, List.mem_flatMap] at ht
 obtain ⟨q, hq, ht⟩ := ht
 split at ht
 ·simp at ht; subst ht; exact ho _ hq
 simp only [List.mem_map] at ht
 obtain ⟨e, _, rfl⟩ := ht
 exact Jz (ho q hq)

def Vc (t : List Int) (L : List (List Int)) : Prop := ∀ s ∈ L, ∃ x ∈ s, x ∈ t
structure Tv (out L : List (List Int)) : Prop where
 asc : ∀ t ∈ out, Vb t
 sort : HX out
 hit : ∀ t ∈ out, Vc t L
 low : ∀ u, Vc u L -> ∃ t ∈ out, ∀ x ∈ t, x ∈ u
 anti : ∀ t ∈ out, ∀ q ∈ out, (∀ x ∈ t, x ∈ q) -> t = q
theorem Tv.start : Tv [[]] [] where
 asc t ht := by simp at ht; subst ht; exact List.Pairwise.nil
 sort := by simp [HX]
 hit t _ := fun s hs => by cases hs
 low u _ := ⟨[], by simp, fun x hx => by cases hx⟩
 anti t ht q hq _ := by simp at ht hq; rw [ht, hq]
theorem Tv.step {out L : List (List Int)} (h : Tv out L) (s : List Int) : Tv (Px (Gx out s)) (L ++ [s]) := by
 have hasc := KG (s := s) h.asc
 have hhit : ∀ t ∈ Gx out s, Vc t (L ++ [s]) := by
  intro t ht
  simp only [Gx, List.mem_flatMap] at ht
  obtain ⟨q, hq, ht⟩ := ht
  have hqh := h.hit q hq
  split at ht
  ·rename_i hm
   simp at ht; subst ht
   intro r hr
   rcases List.mem_append.1 hr with hr | hr
   ·exact hqh r hr
   simp at hr; subst hr
   obtain ⟨x, h1, h2⟩ := KF.1 hm
   exact ⟨x, h2, h1⟩
  simp only [List.mem_map] at ht
  obtain ⟨e, he, rfl⟩ := ht
  intro r hr
  rcases List.mem_append.1 hr with hr | hr
  rotate_left
  ·simp at hr; subst hr
   exact ⟨e, he, (Ea _ _ _).2 (.inl rfl)⟩
  obtain ⟨x, h1, h2⟩ := hqh r hr
  exact ⟨x, h1, (Ea _ _ _).2 (.inr h2)⟩
 refine ⟨fun t ht => hasc t (GV ht), LM _, fun t ht => hhit t (GV ht), fun u hu => ?_, fun t ht q hq hsub => ?_⟩
 rotate_left
 ·have h1 := (GU hasc q).1 hq
  exact (Ex hasc (hasc q h1.1)).1 h1.2 t (GV ht) hsub
 obtain ⟨t, ht, htu⟩ := h.low u (fun r hr => hu r (List.mem_append_left _ hr))
 obtain ⟨e, he, heu⟩ := hu s (by simp)
 have : ∃ q ∈ Gx out s, ∀ x ∈ q, x ∈ u := by
  by_cases hm : JC t s = true
  ·exact ⟨t, List.mem_flatMap.2 ⟨t, ht, by rw [if_pos hm]; simp⟩, htu⟩
  refine ⟨LK e t, List.mem_flatMap.2 ⟨t, ht, by rw [if_neg hm]; exact List.mem_map.2 ⟨e, he, rfl⟩⟩, fun x hx => ?_⟩
  rcases (Ea _ _ _).1 hx with rfl | hx
  ·exact heu
  exact htu x hx
 obtain ⟨q, hq, hqu⟩ := this
 obtain ⟨t', ht', hs'⟩ := EU hasc q.length (Nat.le_refl _) hq
 exact ⟨t', ht', fun x hx => hqu x (hs' x hx)⟩
/-! few sets over few numbers -/
end Go.Proofs.YthnkailnoobdoaaDoor
