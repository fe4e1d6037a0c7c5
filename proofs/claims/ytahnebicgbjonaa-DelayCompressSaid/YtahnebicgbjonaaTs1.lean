/- Plain laws of sets of numbers as ascending lists: minimal sets, minimal transversals. -/
import Derived.Test.YtahnebicgbjonaaBase
namespace Go.Proofs.Ytahnebicgbjonaa
set_option linter.unusedVariables false
set_option linter.unusedSimpArgs false

theorem strict_ext {α : Type} {lt : α → α → Prop} (irr : ∀ a, ¬ lt a a) (asym : ∀ a b, lt a b → lt b a → False) {l m : List α} (hl : l.Pairwise lt) (hm : m.Pairwise lt) (h : ∀ a, a ∈ l ↔ a ∈ m) : l = m :=
 have nd : ∀ {l : List α}, l.Pairwise lt → l.Nodup := fun h => List.Pairwise.imp (S := fun a b => a ≠ b) (fun {a b} hab e => irr b (by rw [e] at hab; exact hab)) h
 List.Perm.eq_of_pairwise (le := lt) (fun a b _ _ h1 h2 => (asym a b h1 h2).elim) hl hm ((List.perm_ext_iff_of_nodup (nd hl) (nd hm)).2 h)

/-! ascending lists -/
def Asc (l : List Int) : Prop := l.Pairwise (· < ·)
def ascB : List Int → Bool
 | [] => true
 | [_] => true
 | a :: b :: r => decide (a < b) && ascB (b :: r)
theorem ascB_iff : ∀ l : List Int, ascB l = true ↔ Asc l
 | [] => by simp [ascB, Asc]
 | [a] => by simp [ascB, Asc]
 | a :: b :: r => by
  rw [ascB, Bool.and_eq_true, ascB_iff (b :: r), decide_eq_true_eq]
  constructor
  ·rintro ⟨h1, h2⟩
   refine List.pairwise_cons.2 ⟨fun c hc => ?_, h2⟩
   rcases List.mem_cons.1 hc with rfl | hc
   ·exact h1
   ·have := (List.pairwise_cons.1 h2).1 c hc; omega
  ·intro h
   have h' := List.pairwise_cons.1 h
   exact ⟨h'.1 b (by simp), h'.2⟩
theorem asc_ext {l m : List Int} (hl : Asc l) (hm : Asc m) (h : ∀ a, a ∈ l ↔ a ∈ m) : l = m := strict_ext (fun a => by omega) (fun a b h1 h2 => by omega) hl hm h
theorem asc_nodup {l : List Int} (hl : Asc l) : l.Nodup := List.Pairwise.imp (fun h e => by omega) hl
theorem asc_len {l m : List Int} (hl : Asc l) (h : ∀ a ∈ l, a ∈ m) : l.length ≤ m.length := (asc_nodup hl).length_le_of_subset h
theorem asc_eq {l m : List Int} (hl : Asc l) (hm : Asc m) (h : ∀ a ∈ l, a ∈ m) (hlen : m.length ≤ l.length) : l = m := by
 refine asc_ext hl hm fun a => ⟨h a, fun ha => ?_⟩
 refine Classical.byContradiction fun hna => ?_
 have h1 : (a :: l).length ≤ m.length := (List.nodup_cons.2 ⟨hna, asc_nodup hl⟩).length_le_of_subset (by
  intro b hb
  rcases List.mem_cons.1 hb with rfl | hb
  ·exact ha
  ·exact h b hb)
 simp at h1
 omega

def addI (x : Int) : List Int → List Int
 | [] => [x]
 | y :: ys => if y < x then y :: addI x ys else if y = x then y :: ys else x :: y :: ys
theorem mem_addI (x a : Int) (l : List Int) : a ∈ addI x l ↔ a = x ∨ a ∈ l := by
 induction l with
 | nil => simp [addI]
 | cons y ys ih =>
  simp only [addI]
  split
  ·simp [ih]; constructor <;> (intro h; rcases h with h | h | h <;> simp [h])
  ·split
   ·rename_i h; subst h; simp
   ·simp
theorem addI_asc {x : Int} {l : List Int} (h : Asc l) : Asc (addI x l) := by
 unfold Asc at *
 induction l with
 | nil => simp [addI]
 | cons y ys ih =>
  rw [List.pairwise_cons] at h
  simp only [addI]
  split
  ·rename_i hl
   rw [List.pairwise_cons]
   refine ⟨fun a ha => ?_, ih h.2⟩
   rcases (mem_addI x a ys).1 ha with rfl | ha
   ·exact hl
   ·exact h.1 a ha
  ·split
   ·exact List.pairwise_cons.2 h
   ·rename_i hl hne
    rw [List.pairwise_cons]
    refine ⟨fun a ha => ?_, List.pairwise_cons.2 h⟩
    rcases List.mem_cons.1 ha with rfl | ha
    ·omega
    ·have := h.1 a ha; omega

/-! lists in lexicographic order -/
def lessI : List Int → List Int → Bool
 | [], [] => false
 | [], _ :: _ => true
 | _ :: _, [] => false
 | a :: as, b :: bs => if a = b then lessI as bs else decide (a < b)
theorem lessI_trans : ∀ {a b c : List Int}, lessI a b = true → lessI b c = true → lessI a c = true
 | [], [], _, h, _ => by simp [lessI] at h
 | [], _ :: _, [], _, h => by simp [lessI] at h
 | [], _ :: _, _ :: _, _, _ => rfl
 | _ :: _, [], _, h, _ => by simp [lessI] at h
 | _ :: _, _ :: _, [], _, h => by simp [lessI] at h
 | a :: as, b :: bs, c :: cs, h1, h2 => by
  simp only [lessI] at h1 h2 ⊢
  split at h1
  ·rename_i e1; subst e1
   split at h2
   ·rename_i e2; subst e2; simp; exact lessI_trans h1 h2
   ·rename_i e2; simp only [e2, if_false]; exact h2
  ·rename_i e1
   split at h2
   ·rename_i e2; subst e2; simp only [e1, if_false]; exact h1
   ·simp at h1 h2
    rw [if_neg (by omega)]; simp; omega
theorem lessI_tri : ∀ a b : List Int, lessI a b = true ∨ a = b ∨ lessI b a = true
 | [], [] => .inr (.inl rfl)
 | [], _ :: _ => .inl rfl
 | _ :: _, [] => .inr (.inr rfl)
 | a :: as, b :: bs => by
  simp only [lessI]
  by_cases e : a = b
  ·subst e
   simp
   exact lessI_tri as bs
  ·rw [if_neg e, if_neg (fun h => e h.symm)]
   simp; omega
def SortS (L : List (List Int)) : Prop := L.Pairwise fun a b => lessI a b = true
def addS (x : List Int) : List (List Int) → List (List Int)
 | [] => [x]
 | y :: ys => if lessI y x then y :: addS x ys else if y = x then y :: ys else x :: y :: ys
theorem mem_addS (x a : List Int) (l : List (List Int)) : a ∈ addS x l ↔ a = x ∨ a ∈ l := by
 induction l with
 | nil => simp [addS]
 | cons y ys ih =>
  simp only [addS]
  split
  ·simp [ih]; constructor <;> (intro h; rcases h with h | h | h <;> simp [h])
  ·split
   ·rename_i h; subst h; simp
   ·simp
theorem addS_len (x : List Int) (l : List (List Int)) : (addS x l).length ≤ l.length + 1 := by
 induction l with
 | nil => simp [addS]
 | cons y ys ih =>
  simp only [addS]
  split
  ·simp; omega
  ·split <;> simp
theorem addS_sort {x : List Int} {l : List (List Int)} (h : SortS l) : SortS (addS x l) := by
 unfold SortS at *
 induction l with
 | nil => simp [addS]
 | cons y ys ih =>
  rw [List.pairwise_cons] at h
  simp only [addS]
  split
  ·rename_i hl
   rw [List.pairwise_cons]
   refine ⟨fun a ha => ?_, ih h.2⟩
   rcases (mem_addS x a ys).1 ha with rfl | ha
   ·exact hl
   ·exact h.1 a ha
  ·split
   ·exact List.pairwise_cons.2 h
   ·rename_i hl hne
    have hxy : lessI x y = true := by
     rcases lessI_tri x y with h | h | h
     ·exact h
     ·exact absurd h.symm hne
     ·exact absurd h hl
    rw [List.pairwise_cons]
    refine ⟨fun a ha => ?_, List.pairwise_cons.2 h⟩
    rcases List.mem_cons.1 ha with rfl | ha
    ·exact hxy
    ·exact lessI_trans hxy (h.1 a ha)

/-! minimal sets -/
def subB (a b : List Int) : Bool := a.all fun x => decide (x ∈ b)
theorem subB_iff {a b : List Int} : subB a b = true ↔ ∀ x ∈ a, x ∈ b := by simp [subB]
def leastB (L : List (List Int)) (s : List Int) : Bool := L.all fun o => !(decide (o.length < s.length) && subB o s)
def minGo (L : List (List Int)) : List (List Int) → List (List Int) → List (List Int)
 | [], acc => acc
 | s :: r, acc => minGo L r (if leastB L s then addS s acc else acc)
def minR (L : List (List Int)) : List (List Int) := if L.all ascB then minGo L L [] else []
theorem minGo_ok (L : List (List Int)) : ∀ (r acc : List (List Int)), SortS acc → SortS (minGo L r acc) ∧ (∀ s, s ∈ minGo L r acc ↔ s ∈ acc ∨ (s ∈ r ∧ leastB L s = true)) ∧ (minGo L r acc).length ≤ acc.length + r.length
 | [], acc, h => by simp [minGo, h]
 | s :: r, acc, h => by
  unfold minGo
  split
  ·rename_i hl
   obtain ⟨h1, h2, h3⟩ := minGo_ok L r (addS s acc) (addS_sort h)
   refine ⟨h1, fun q => ?_, ?_⟩
   ·rw [h2, mem_addS]
    constructor
    ·rintro ((rfl | hq) | hq)
     ·exact .inr ⟨by simp, hl⟩
     ·exact .inl hq
     ·exact .inr ⟨by simp [hq.1], hq.2⟩
    ·rintro (hq | ⟨hq, hq2⟩)
     ·exact .inl (.inr hq)
     ·rcases List.mem_cons.1 hq with rfl | hq
      ·exact .inl (.inl rfl)
      ·exact .inr ⟨hq, hq2⟩
   ·have := addS_len s acc; simp; omega
  ·rename_i hl
   obtain ⟨h1, h2, h3⟩ := minGo_ok L r acc h
   refine ⟨h1, fun q => ?_, by simp; omega⟩
   rw [h2]
   constructor
   ·rintro (hq | hq)
    ·exact .inl hq
    ·exact .inr ⟨by simp [hq.1], hq.2⟩
   ·rintro (hq | ⟨hq, hq2⟩)
    ·exact .inl hq
    ·rcases List.mem_cons.1 hq with rfl | hq
     ·rw [hq2] at hl; exact absurd rfl hl
     ·exact .inr ⟨hq, hq2⟩
theorem minR_sort (L : List (List Int)) : SortS (minR L) := by
 unfold minR
 split
 ·exact (minGo_ok L L [] List.Pairwise.nil).1
 ·exact List.Pairwise.nil
theorem mem_minR {L : List (List Int)} (hL : ∀ s ∈ L, Asc s) (s : List Int) : s ∈ minR L ↔ s ∈ L ∧ leastB L s = true := by
 have : L.all ascB = true := by simp [ascB_iff]; exact hL
 simp [minR, this, (minGo_ok L L [] List.Pairwise.nil).2.1]
theorem minR_sub {L : List (List Int)} {s : List Int} (h : s ∈ minR L) : s ∈ L := by
 unfold minR at h
 split at h
 ·rw [(minGo_ok L L [] List.Pairwise.nil).2.1] at h
  simp at h; exact h.1
 ·cases h
theorem leastB_iff {L : List (List Int)} (hL : ∀ s ∈ L, Asc s) {s : List Int} (hs : Asc s) : leastB L s = true ↔ ∀ o ∈ L, (∀ x ∈ o, x ∈ s) → o = s := by
 simp only [leastB, List.all_eq_true, Bool.not_eq_true', Bool.and_eq_false_iff, decide_eq_false_iff_not]
 constructor
 ·intro h o ho hsub
  rcases h o ho with h | h
  ·exact asc_eq (hL o ho) hs hsub (by omega)
  ·have := subB_iff.2 hsub; rw [this] at h; cases h
 ·intro h o ho
  cases hb : subB o s with
  | false => exact .inr rfl
  | true =>
   have := h o ho (subB_iff.1 hb)
   subst this
   exact .inl (by omega)
theorem exists_least {L : List (List Int)} (hL : ∀ s ∈ L, Asc s) : ∀ (n : Nat) {s : List Int}, s.length ≤ n → s ∈ L → ∃ t ∈ minR L, ∀ x ∈ t, x ∈ s
 | 0, s, hn, hs => ⟨s, (mem_minR hL s).2 ⟨hs, (leastB_iff hL (hL s hs)).2 fun o ho hsub => by
   have h1 := asc_len (hL o ho) hsub
   have h2 : o = [] := List.length_eq_zero_iff.1 (by omega)
   have h3 : s = [] := List.length_eq_zero_iff.1 (by omega)
   rw [h2, h3]⟩, fun x hx => hx⟩
 | n + 1, s, hn, hs => by
  by_cases hl : leastB L s = true
  ·exact ⟨s, (mem_minR hL s).2 ⟨hs, hl⟩, fun x hx => hx⟩
  ·rw [leastB_iff hL (hL s hs)] at hl
   simp only [Classical.not_forall] at hl
   obtain ⟨o, ho, hsub, hne⟩ := hl
   have h1 : o.length < s.length := by
    refine Nat.lt_of_not_le fun hle => hne (asc_eq (hL o ho) (hL s hs) hsub hle)
   obtain ⟨t, ht, hts⟩ := exists_least hL n (by omega : o.length ≤ n) ho
   exact ⟨t, ht, fun x hx => hsub x (hts x hx)⟩

/-! transversals -/
def meetsB (a b : List Int) : Bool := a.any fun x => decide (x ∈ b)
theorem meetsB_iff {a b : List Int} : meetsB a b = true ↔ ∃ x ∈ a, x ∈ b := by simp [meetsB]
def tvNext (out : List (List Int)) (s : List Int) : List (List Int) := out.flatMap fun t => if meetsB t s then [t] else s.map fun e => addI e t
theorem tvNext_asc {out : List (List Int)} {s : List Int} (ho : ∀ t ∈ out, Asc t) : ∀ t ∈ tvNext out s, Asc t := by
 intro t ht
 simp only [tvNext, List.mem_flatMap] at ht
 obtain ⟨q, hq, ht⟩ := ht
 split at ht
 ·simp at ht; subst ht; exact ho _ hq
 ·simp only [List.mem_map] at ht
  obtain ⟨e, _, rfl⟩ := ht
  exact addI_asc (ho q hq)

def Hit (t : List Int) (L : List (List Int)) : Prop := ∀ s ∈ L, ∃ x ∈ s, x ∈ t
structure Tv (out L : List (List Int)) : Prop where
 asc : ∀ t ∈ out, Asc t
 sort : SortS out
 hit : ∀ t ∈ out, Hit t L
 low : ∀ u, Hit u L → ∃ t ∈ out, ∀ x ∈ t, x ∈ u
 anti : ∀ t ∈ out, ∀ q ∈ out, (∀ x ∈ t, x ∈ q) → t = q
theorem Tv.start : Tv [[]] [] where
 asc t ht := by simp at ht; subst ht; exact List.Pairwise.nil
 sort := by simp [SortS]
 hit t _ := fun s hs => by cases hs
 low u _ := ⟨[], by simp, fun x hx => by cases hx⟩
 anti t ht q hq _ := by simp at ht hq; rw [ht, hq]
theorem Tv.step {out L : List (List Int)} (h : Tv out L) (s : List Int) : Tv (minR (tvNext out s)) (L ++ [s]) := by
 have hasc := tvNext_asc (s := s) h.asc
 have hhit : ∀ t ∈ tvNext out s, Hit t (L ++ [s]) := by
  intro t ht
  simp only [tvNext, List.mem_flatMap] at ht
  obtain ⟨q, hq, ht⟩ := ht
  have hqh := h.hit q hq
  split at ht
  ·rename_i hm
   simp at ht; subst ht
   intro r hr
   rcases List.mem_append.1 hr with hr | hr
   ·exact hqh r hr
   ·simp at hr; subst hr
    obtain ⟨x, h1, h2⟩ := meetsB_iff.1 hm
    exact ⟨x, h2, h1⟩
  ·simp only [List.mem_map] at ht
   obtain ⟨e, he, rfl⟩ := ht
   intro r hr
   rcases List.mem_append.1 hr with hr | hr
   ·obtain ⟨x, h1, h2⟩ := hqh r hr
    exact ⟨x, h1, (mem_addI _ _ _).2 (.inr h2)⟩
   ·simp at hr; subst hr
    exact ⟨e, he, (mem_addI _ _ _).2 (.inl rfl)⟩
 refine ⟨fun t ht => hasc t (minR_sub ht), minR_sort _, fun t ht => hhit t (minR_sub ht), fun u hu => ?_, fun t ht q hq hsub => ?_⟩
 ·obtain ⟨t, ht, htu⟩ := h.low u (fun r hr => hu r (List.mem_append_left _ hr))
  obtain ⟨e, he, heu⟩ := hu s (by simp)
  have : ∃ q ∈ tvNext out s, ∀ x ∈ q, x ∈ u := by
   by_cases hm : meetsB t s = true
   ·exact ⟨t, List.mem_flatMap.2 ⟨t, ht, by rw [if_pos hm]; simp⟩, htu⟩
   ·refine ⟨addI e t, List.mem_flatMap.2 ⟨t, ht, by rw [if_neg hm]; exact List.mem_map.2 ⟨e, he, rfl⟩⟩, fun x hx => ?_⟩
    rcases (mem_addI _ _ _).1 hx with rfl | hx
    ·exact heu
    ·exact htu x hx
  obtain ⟨q, hq, hqu⟩ := this
  obtain ⟨t', ht', hs'⟩ := exists_least hasc q.length (Nat.le_refl _) hq
  exact ⟨t', ht', fun x hx => hqu x (hs' x hx)⟩
 ·have h1 := (mem_minR hasc q).1 hq
  exact (leastB_iff hasc (hasc q h1.1)).1 h1.2 t (minR_sub ht) hsub
/-! few sets over few numbers -/
end Go.Proofs.Ytahnebicgbjonaa
