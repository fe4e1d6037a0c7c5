/- Lemmas. -/
import Derived.Test.YthnkailnoobdoaaGreatDoorBase
namespace Go.Proofs.YthnkailnoobdoaaGreatDoor
set_option linter.unusedVariables false
set_option linter.unusedSimpArgs false

theorem Lu {α : Type} {lt : α -> α -> Prop} (irr : ∀ a, ¬ lt a a) (asym : ∀ a b, lt a b -> lt b a -> False) {l m : List α} (hl : l.Pairwise lt) (hm : m.Pairwise lt) (h : ∀ a, a ∈ l ↔ a ∈ m) : l = m :=
 have nd : ∀ {l : List α}, l.Pairwise lt -> l.Nodup := fun h => List.Pairwise.imp (S := fun a b => a ≠ b) (fun {a b} hab e => irr b (by rw [e] at hab; exact hab)) h
 List.Perm.eq_of_pairwise (le := lt) (fun a b _ _ h1 h2 => (asym a b h1 h2).elim) hl hm ((List.perm_ext_iff_of_nodup (nd hl) (nd hm)).2 h)

/-! ascending lists -/
def Ws (l : List Int) : Prop := l.Pairwise (· < ·)
def Rg : List Int -> Bool
 | [] => true
 | [_] => true
 | a :: b :: r => decide (a < b) && Rg (b :: r)
theorem K4 : ∀ l : List Int, Rg l = true ↔ Ws l
 | [] => by simp [Rg, Ws]
 | [a] => by simp [Rg, Ws]
 | a :: b :: r => by
  rw [Rg, Bool.and_eq_true, K4 (b :: r), decide_eq_true_eq]
  constructor
  ·rintro ⟨h1, h2⟩
   refine List.pairwise_cons.2 ⟨fun c hc => ?_, h2⟩
   rcases List.mem_cons.1 hc with rfl | hc
   ·exact h1
   ·have := (List.pairwise_cons.1 h2).1 c hc; omega
  ·intro h
   have h' := List.pairwise_cons.1 h
   exact ⟨h'.1 b (by simp), h'.2⟩
theorem Jh {l m : List Int} (hl : Ws l) (hm : Ws m) (h : ∀ a, a ∈ l ↔ a ∈ m) : l = m := Lu (fun a => by omega) (fun a b h1 h2 => by omega) hl hm h
theorem Ik {l : List Int} (hl : Ws l) : l.Nodup := List.Pairwise.imp (fun h e => by omega) hl
theorem Rh {l m : List Int} (hl : Ws l) (h : ∀ a ∈ l, a ∈ m) : l.length <= m.length := (Ik hl).length_le_of_subset h
theorem Qv {l m : List Int} (hl : Ws l) (hm : Ws m) (h : ∀ a ∈ l, a ∈ m) (hlen : m.length <= l.length) : l = m := by
 refine Jh hl hm fun a => ⟨h a, fun ha => ?_⟩
 refine Classical.byContradiction fun hna => ?_
 have h1 : (a :: l).length <= m.length := (List.nodup_cons.2 ⟨hna, Ik hl⟩).length_le_of_subset (by
  intro b hb
  rcases List.mem_cons.1 hb with rfl | hb
  ·exact ha
  ·exact h b hb)
 simp at h1
 omega

def Fx (x : Int) : List Int -> List Int
 | [] => [x]
 | y :: ys => if y < x then y :: Fx x ys else if y = x then y :: ys else x :: y :: ys
theorem DQ (x a : Int) (l : List Int) : a ∈ Fx x l ↔ a = x \/ a ∈ l := by
 induction l with
 | nil => simp [Fx]
 | cons y ys ih =>
  simp only [Fx]
  split
  ·simp [ih]; constructor <;> (intro h; rcases h with h | h | h <;> simp [h])
  split
  ·rename_i h; subst h; simp
  simp
theorem Hn {x : Int} {l : List Int} (h : Ws l) : Ws (Fx x l) := by
 unfold Ws at *
 induction l with
 | nil => simp [Fx]
 | cons y ys ih =>
  rw [List.pairwise_cons] at h
  simp only [Fx]
  split
  ·rename_i hl
   rw [List.pairwise_cons]
   refine ⟨fun a ha => ?_, ih h.2⟩
   rcases (DQ x a ys).1 ha with rfl | ha
   ·exact hl
   exact h.1 a ha
  split
  ·exact List.pairwise_cons.2 h
  rename_i hl hne
  rw [List.pairwise_cons]
  refine ⟨fun a ha => ?_, List.pairwise_cons.2 h⟩
  rcases List.mem_cons.1 ha with rfl | ha
  ·omega
  have := h.1 a ha; omega

/-! lists in lexicographic order -/
def Ec : List Int -> List Int -> Bool
 | [], [] => false
 | [], _ :: _ => true
 | _ :: _, [] => false
 | a :: as, b :: bs => if a = b then Ec as bs else decide (a < b)
theorem G9 : ∀ {a b c : List Int}, Ec a b = true -> Ec b c = true -> Ec a c = true
 | [], [], _, h, _ => by simp [Ec] at h
 | [], _ :: _, [], _, h => by simp [Ec] at h
 | [], _ :: _, _ :: _, _, _ => rfl
 | _ :: _, [], _, h, _ => by simp [Ec] at h
 | _ :: _, _ :: _, [], _, h => by simp [Ec] at h
 | a :: as, b :: bs, c :: cs, h1, h2 => by
  simp only [Ec] at h1 h2 ⊢
  split at h1
  ·rename_i e1; subst e1
   split at h2
   ·rename_i e2; subst e2; simp; exact G9 h1 h2
   ·rename_i e2; simp only [e2, if_false]; exact h2
  ·rename_i e1
   split at h2
   ·rename_i e2; subst e2; simp only [e1, if_false]; exact h1
   ·simp at h1 h2
    rw [if_neg (by omega)]; simp; omega
theorem Il : ∀ a b : List Int, Ec a b = true \/ a = b \/ Ec b a = true
 | [], [] => .inr (.inl rfl)
 | [], _ :: _ => .inl rfl
 | _ :: _, [] => .inr (.inr rfl)
 | a :: as, b :: bs => by
  simp only [Ec]
  by_cases e : a = b
  ·subst e
   simp
   exact Il as bs
  ·rw [if_neg e, if_neg (fun h => e h.symm)]
   simp; omega
def Im (L : List (List Int)) : Prop := L.Pairwise fun a b => Ec a b = true
def M4 (x : List Int) : List (List Int) -> List (List Int)
 | [] => [x]
 | y :: ys => if Ec y x then y :: M4 x ys else if y = x then y :: ys else x :: y :: ys
theorem K5 (x a : List Int) (l : List (List Int)) : a ∈ M4 x l ↔ a = x \/ a ∈ l := by
 induction l with
 | nil => simp [M4]
 | cons y ys ih =>
  simp only [M4]
  split
  ·simp [ih]; constructor <;> (intro h; rcases h with h | h | h <;> simp [h])
  split
  ·rename_i h; subst h; simp
  simp
theorem P2 (x : List Int) (l : List (List Int)) : (M4 x l).length <= l.length + 1 := by
 induction l with
 | nil => simp [M4]
 | cons y ys ih =>
  simp only [M4]
  split
  ·simp; omega
  split <;> simp
theorem MC {x : List Int} {l : List (List Int)} (h : Im l) : Im (M4 x l) := by
 unfold Im at *
 induction l with
 | nil => simp [M4]
 | cons y ys ih =>
  rw [List.pairwise_cons] at h
  simp only [M4]
  split
  ·rename_i hl
   rw [List.pairwise_cons]
   refine ⟨fun a ha => ?_, ih h.2⟩
   rcases (K5 x a ys).1 ha with rfl | ha
   ·exact hl
   exact h.1 a ha
  split
  ·exact List.pairwise_cons.2 h
  rename_i hl hne
  have hxy : Ec x y = true := by
   rcases Il x y with h | h | h
   ·exact h
   ·exact absurd h.symm hne
   exact absurd h hl
  rw [List.pairwise_cons]
  refine ⟨fun a ha => ?_, List.pairwise_cons.2 h⟩
  rcases List.mem_cons.1 ha with rfl | ha
  ·exact hxy
  exact G9 hxy (h.1 a ha)

/-! minimal sets -/
def Ur (a b : List Int) : Bool := a.all fun x => decide (x ∈ b)
theorem K6 {a b : List Int} : Ur a b = true ↔ ∀ x ∈ a, x ∈ b := by simp [Ur]
def GV (L : List (List Int)) (s : List Int) : Bool := L.all fun o => !(decide (o.length < s.length) && Ur o s)
def Ji (L : List (List Int)) : List (List Int) -> List (List Int) -> List (List Int)
 | [], acc => acc
 | s :: r, acc => Ji L r (if GV L s then M4 s acc else acc)
def Qw (L : List (List Int)) : List (List Int) := if L.all Rg then Ji L L [] else []
theorem Ew (L : List (List Int)) : ∀ (r acc : List (List Int)), Im acc -> Im (Ji L r acc) /\ (∀ s, s ∈ Ji L r acc ↔ s ∈ acc \/ (s ∈ r /\ GV L s = true)) /\ (Ji L r acc).length <= acc.length + r.length
 | [], acc, h => by simp [Ji, h]
 | s :: r, acc, h => by
  unfold Ji
  split
  ·rename_i hl
   obtain ⟨h1, h2, h3⟩ := Ew L r (M4 s acc) (MC h)
   refine ⟨h1, fun q => ?_, ?_⟩
   ·rw [h2, K5]
    constructor
    ·rintro ((rfl | hq) | hq)
     ·exact .inr ⟨by simp, hl⟩
     ·exact .inl hq
     ·exact .inr ⟨by simp [hq.1], hq.2⟩
    ·rintro (hq | ⟨hq, hq2⟩)
     ·exact .inl (.inr hq)
     ·rcases List.mem_cons.1 hq with rfl | hq
      ·exact .inl (.inl rfl)
      ·exact .inr ⟨hq, hq2⟩
   ·have := P2 s acc; simp; omega
  ·rename_i hl
   obtain ⟨h1, h2, h3⟩ := Ew L r acc h
   refine ⟨h1, fun q => ?_, by simp; omega⟩
   rw [h2]
   constructor
   ·rintro (hq | hq)
    ·exact .inl hq
    ·exact .inr ⟨by simp [hq.1], hq.2⟩
   ·rintro (hq | ⟨hq, hq2⟩)
    ·exact .inl hq
    ·rcases List.mem_cons.1 hq with rfl | hq
     ·rw [hq2] at hl; exact absurd rfl hl
     ·exact .inr ⟨hq, hq2⟩
theorem MD (L : List (List Int)) : Im (Qw L) := by
 unfold Qw
 split
 ·exact (Ew L L [] List.Pairwise.nil).1
 exact List.Pairwise.nil
theorem Ho {L : List (List Int)} (hL : ∀ s ∈ L, Ws s) (s : List Int) : s ∈ Qw L ↔ s ∈ L /\ GV L s = true := by
 have : L.all Rg = true := by simp [K4]; exact hL
 simp [Qw, this, (Ew L L [] List.Pairwise.nil).2.1]
theorem Hp {L : List (List Int)} {s : List Int} (h : s ∈ Qw L) : s ∈ L := by
 unfold Qw at h
 split at h
 rotate_left
 ·cases h
 rw [(Ew L L [] List.Pairwise.nil).2.1] at h
 simp at h; exact h.1
theorem EZ {L : List (List Int)} (hL : ∀ s ∈ L, Ws s) {s : List Int} (hs : Ws s) : GV L s = true ↔ ∀ o ∈ L, (∀ x ∈ o, x ∈ s) -> o = s := by
 simp only [GV, List.all_eq_true, Bool.not_eq_true', Bool.and_eq_false_iff, decide_eq_false_iff_not]
 constructor
 ·intro h o ho hsub
  rcases h o ho with h | h
  ·exact Qv (hL o ho) hs hsub (by omega)
  have := K6.2 hsub; rw [this] at h; cases h
 intro h o ho
 cases hb : Ur o s with
 | false => exact .inr rfl
 | true =>
  have := h o ho (K6.1 hb)
  subst this
  exact .inl (by omega)
theorem Fs {L : List (List Int)} (hL : ∀ s ∈ L, Ws s) : ∀ (n : Nat) {s : List Int}, s.length <= n -> s ∈ L -> ∃ t ∈ Qw L, ∀ x ∈ t, x ∈ s
 | 0, s, hn, hs => ⟨s, (Ho hL s).2 ⟨hs, (EZ hL (hL s hs)).2 fun o ho hsub => by
   have h1 := Rh (hL o ho) hsub
   have h2 : o = [] := List.length_eq_zero_iff.1 (by omega)
   have h3 : s = [] := List.length_eq_zero_iff.1 (by omega)
   rw [h2, h3]⟩, fun x hx => hx⟩
 | n + 1, s, hn, hs => by
  by_cases hl : GV L s = true
  ·exact ⟨s, (Ho hL s).2 ⟨hs, hl⟩, fun x hx => hx⟩
  ·rw [EZ hL (hL s hs)] at hl
   simp only [Classical.not_forall] at hl
   obtain ⟨o, ho, hsub, hne⟩ := hl
   have h1 : o.length < s.length := by
    refine Nat.lt_of_not_le fun hle => hne (Qv (hL o ho) (hL s hs) hsub hle)
   obtain ⟨t, ht, hts⟩ := Fs hL n (by omega : o.length <= n) ho
   exact ⟨t, ht, fun x hx => hsub x (hts x hx)⟩

/-! transversals -/
def K7 (a b : List Int) : Bool := a.any fun x => decide (x ∈ b)
theorem Lw {a b : List Int} : K7 a b = true ↔ ∃ x ∈ a, x ∈ b := by simp [K7]
def GW (out : List (List Int)) (s : List Int) : List (List Int) := out.flatMap fun t => if K7 t s then [t] else s.map fun e => Fx e t
theorem Lx {out : List (List Int)} {s : List Int} (ho : ∀ t ∈ out, Ws t) : ∀ t ∈ GW out s, Ws t := by
 intro t ht
 simp only [GW, List.mem_flatMap] at ht
 obtain ⟨q, hq, ht⟩ := ht
 split at ht
 ·simp at ht; subst ht; exact ho _ hq
 simp only [List.mem_map] at ht
 obtain ⟨e, _, rfl⟩ := ht
 exact Hn (ho q hq)

def Wt (t : List Int) (L : List (List Int)) : Prop := ∀ s ∈ L, ∃ x ∈ s, x ∈ t
structure Tv (out L : List (List Int)) : Prop where
 asc : ∀ t ∈ out, Ws t
 sort : Im out
 hit : ∀ t ∈ out, Wt t L
 low : ∀ u, Wt u L -> ∃ t ∈ out, ∀ x ∈ t, x ∈ u
 anti : ∀ t ∈ out, ∀ q ∈ out, (∀ x ∈ t, x ∈ q) -> t = q
theorem Tv.start : Tv [[]] [] where
 asc t ht := by simp at ht; subst ht; exact List.Pairwise.nil
 sort := by simp [Im]
 hit t _ := fun s hs => by cases hs
 low u _ := ⟨[], by simp, fun x hx => by cases hx⟩
 anti t ht q hq _ := by simp at ht hq; rw [ht, hq]
theorem Tv.step {out L : List (List Int)} (h : Tv out L) (s : List Int) : Tv (Qw (GW out s)) (L ++ [s]) := by
 have hasc := Lx (s := s) h.asc
 have hhit : ∀ t ∈ GW out s, Wt t (L ++ [s]) := by
  intro t ht
  simp only [GW, List.mem_flatMap] at ht
  obtain ⟨q, hq, ht⟩ := ht
  have hqh := h.hit q hq
  split at ht
  ·rename_i hm
   simp at ht; subst ht
   intro r hr
   rcases List.mem_append.1 hr with hr | hr
   ·exact hqh r hr
   simp at hr; subst hr
   obtain ⟨x, h1, h2⟩ := Lw.1 hm
   exact ⟨x, h2, h1⟩
  simp only [List.mem_map] at ht
  obtain ⟨e, he, rfl⟩ := ht
  intro r hr
  rcases List.mem_append.1 hr with hr | hr
  rotate_left
  ·simp at hr; subst hr
   exact ⟨e, he, (DQ _ _ _).2 (.inl rfl)⟩
  obtain ⟨x, h1, h2⟩ := hqh r hr
  exact ⟨x, h1, (DQ _ _ _).2 (.inr h2)⟩
 refine ⟨fun t ht => hasc t (Hp ht), MD _, fun t ht => hhit t (Hp ht), fun u hu => ?_, fun t ht q hq hsub => ?_⟩
 rotate_left
 ·have h1 := (Ho hasc q).1 hq
  exact (EZ hasc (hasc q h1.1)).1 h1.2 t (Hp ht) hsub
 obtain ⟨t, ht, htu⟩ := h.low u (fun r hr => hu r (List.mem_append_left _ hr))
 obtain ⟨e, he, heu⟩ := hu s (by simp)
 have : ∃ q ∈ GW out s, ∀ x ∈ q, x ∈ u := by
  by_cases hm : K7 t s = true
  ·exact ⟨t, List.mem_flatMap.2 ⟨t, ht, by rw [if_pos hm]; simp⟩, htu⟩
  refine ⟨Fx e t, List.mem_flatMap.2 ⟨t, ht, by rw [if_neg hm]; exact List.mem_map.2 ⟨e, he, rfl⟩⟩, fun x hx => ?_⟩
  rcases (DQ _ _ _).1 hx with rfl | hx
  ·exact heu
  exact htu x hx
 obtain ⟨q, hq, hqu⟩ := this
 obtain ⟨t', ht', hs'⟩ := Fs hasc q.length (Nat.le_refl _) hq
 exact ⟨t', ht', fun x hx => hqu x (hs' x hx)⟩
/-! few sets over few numbers -/
end Go.Proofs.YthnkailnoobdoaaGreatDoor
