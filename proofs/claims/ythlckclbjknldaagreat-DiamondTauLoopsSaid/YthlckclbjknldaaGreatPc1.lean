/- Canonical forms, as plain functions. TauLoops as a plain function: numbers of the components, rows joined. -/
import Derived.Test.YthlckclbjknldaaGreatMGa
import Derived.Test.YthlckclbjknldaaGreatTj1
namespace Go.Proofs.YthlckclbjknldaaGreat
set_option linter.unusedVariables false
set_option linter.unusedSimpArgs false

def rowOf (r : List Ar) : List Ar := r.foldl (fun acc a => insA a acc) []
def numOne (num old : List Int) (t : Int) : List Int × List Int := if num.getD t.toNat 0 < 0 then (num.set t.toNat old.length, old ++ [t]) else (num, old)
def rowGo : List Ar → List Int → List Int → List Ar → List Int × List Int × List Ar
  | [], num, old, nxt => (num, old, nxt)
  | a :: tl, num, old, nxt => rowGo tl (numOne num old a.2).1 (numOne num old a.2).2 (insA (a.1, (numOne num old a.2).1.getD a.2.toNat 0) nxt)
def canGo (rows : List (List Ar)) : Nat → Nat → List Int → List Int → List (List Ar) → List (List Ar) × List Int
  | 0, _, _, old, out => (out, old)
  | f + 1, i, num, old, out => match old[i]? with
    | none => (out, old)
    | some s => canGo rows f (i + 1) (rowGo (rowOf (rows.getD s.toNat [])) num old []).1 (rowGo (rowOf (rows.getD s.toNat [])) num old []).2.1 (out ++ [(rowGo (rowOf (rows.getD s.toNat [])) num old []).2.2])
def canonR (rows : List (List Ar)) : List (List Ar) × List Int := canGo rows rows.length 0 ((List.replicate rows.length (-1)).set 0 0) [0] []

theorem mem_foldl_ins (r acc : List Ar) (a : Ar) : a ∈ r.foldl (fun acc a => insA a acc) acc ↔ a ∈ acc ∨ a ∈ r := by
  induction r generalizing acc with
  | nil => simp
  | cons x xs ih => rw [List.foldl_cons, ih, mem_insA, List.mem_cons, or_comm (a := a = x), or_assoc]
theorem mem_rowOf (r : List Ar) (a : Ar) : a ∈ rowOf r ↔ a ∈ r := by unfold rowOf; rw [mem_foldl_ins]; simp
theorem len_foldl_ins (r acc : List Ar) : (r.foldl (fun acc a => insA a acc) acc).length ≤ acc.length + r.length := by
  induction r generalizing acc with
  | nil => simp
  | cons x xs ih => rw [List.foldl_cons, List.length_cons]; have := ih (insA x acc); have := insA_len x acc; omega
theorem len_rowOf (r : List Ar) : (rowOf r).length ≤ r.length := by have := len_foldl_ins r []; simpa [rowOf] using this

/-- numbers and queue fit -/
structure NumOk (n : Nat) (num old : List Int) : Prop where
  len : num.length = n
  rng : ∀ x ∈ num, -1 ≤ x ∧ x < n
  st : ∀ s ∈ old, 0 ≤ s ∧ s < n
  cnt : old.length + num.countP (fun x => decide (x < 0)) = n
theorem countP_set {p : Int → Bool} {l : List Int} {i : Nat} {x y : Int} (h : l[i]? = some x) (hx : p x = true) (hy : p y = false) : (l.set i y).countP p + 1 = l.countP p := by
  induction l generalizing i with
  | nil => simp at h
  | cons z zs ih =>
    cases i with
    | zero => simp at h; subst h; simp [List.countP_cons, hx, hy]
    | succ i =>
      simp only [List.getElem?_cons_succ] at h
      have := ih h
      simp only [List.set_cons_succ, List.countP_cons]
      omega
theorem NumOk.le {n : Nat} {num old : List Int} (h : NumOk n num old) : old.length ≤ n := by have := h.cnt; omega
theorem NumOk.get {n : Nat} {num old : List Int} (h : NumOk n num old) {t : Int} (h0 : 0 ≤ t) (h1 : t < n) : ∃ x, num[t.toNat]? = some x ∧ num.getD t.toNat 0 = x ∧ -1 ≤ x ∧ x < n := by
  have hl : t.toNat < num.length := by rw [h.len]; omega
  exact ⟨num[t.toNat], List.getElem?_eq_getElem hl, by simp [hl], h.rng _ (List.getElem_mem hl)⟩
theorem NumOk.one {n : Nat} {num old : List Int} (h : NumOk n num old) {t : Int} (h0 : 0 ≤ t) (h1 : t < n) : NumOk n (numOne num old t).1 (numOne num old t).2 := by
  obtain ⟨x, hx, hd, hb⟩ := h.get h0 h1
  unfold numOne
  rw [hd]
  split
  · rename_i hneg
    have hc := countP_set (p := fun x => decide (x < 0)) (y := (old.length : Int)) hx (by simpa using hneg) (by simp)
    have hcnt := h.cnt
    refine ⟨by simp [h.len], fun y hy => ?_, fun s hs => ?_, by simp; omega⟩
    · rcases List.mem_or_eq_of_mem_set hy with hy | hy
      · exact h.rng y hy
      · subst hy; omega
    · rcases List.mem_append.1 hs with hs | hs
      · exact h.st s hs
      · simp at hs; subst hs; exact ⟨h0, h1⟩
  · exact h
theorem NumOk.go {n : Nat} : ∀ (r : List Ar) {num old : List Int} (nxt : List Ar), NumOk n num old → (∀ a ∈ r, 0 ≤ a.2 ∧ a.2 < n) → NumOk n (rowGo r num old nxt).1 (rowGo r num old nxt).2.1
  | [], _, _, _, h, _ => h
  | a :: tl, _, _, nxt, h, hr => NumOk.go tl _ (h.one (hr a (by simp)).1 (hr a (by simp)).2) (fun b hb => hr b (List.mem_cons_of_mem _ hb))
theorem NumOk.start {n : Nat} (hn : 0 < n) : NumOk n ((List.replicate n (-1)).set 0 0) [0] := by
  obtain ⟨k, rfl⟩ : ∃ k, n = k + 1 := ⟨n - 1, by omega⟩
  refine ⟨by simp, fun x hx => ?_, fun s hs => ?_, ?_⟩
  · rcases List.mem_or_eq_of_mem_set hx with h | h
    · rw [(List.mem_replicate.1 h).2]; omega
    · subst h; omega
  · simp at hs; subst hs; omega
  · simp [List.replicate_succ, List.countP_replicate]; omega


theorem canGo_stop {rows : List (List Ar)} {f i : Nat} {num old : List Int} {out : List (List Ar)} (h : old.length ≤ i) : canGo rows f i num old out = (out, old) := by
  cases f with
  | zero => rfl
  | succ f => simp [canGo, List.getElem?_eq_none h]
theorem canGo_step {rows : List (List Ar)} {n i : Nat} {num old : List Int} {out : List (List Ar)} {s : Int} {r : List Ar} (hi : i < n) (hs : old[i]? = some s) (hr : rows[s.toNat]? = some r) {row : List Ar} (hrow : row = rowOf r) :
    canGo rows (n - i) i num old out = canGo rows (n - (i + 1)) (i + 1) (rowGo row num old []).1 (rowGo row num old []).2.1 (out ++ [(rowGo row num old []).2.2]) := by
  obtain ⟨m, hm⟩ : ∃ m, n - i = m + 1 := ⟨n - i - 1, by omega⟩
  have hm' : n - (i + 1) = m := by omega
  rw [hm, hm', canGo, hs, hrow]
  have : rows.getD s.toNat [] = r := by simp [List.getD, hr]
  simp only [this]

theorem rowGo_neg {tl : List Ar} {num old : List Int} {nxt : List Ar} {e x : Int} {tn L : Nat} (hx : num[tn]? = some x) (hneg : x < 0) (hL : old.length = L) :
    rowGo ((e, (tn : Int)) :: tl) num old nxt = rowGo tl (num.set tn L) (old ++ [(tn : Int)]) (insA (e, (L : Int)) nxt) := by
  have hl : tn < num.length := (List.getElem?_eq_some_iff.1 hx).1
  have h1 : numOne num old (tn : Int) = (num.set tn L, old ++ [(tn : Int)]) := by
    simp only [numOne, Int.toNat_natCast, List.getD, hx, Option.getD_some, if_pos hneg, hL]
  simp only [rowGo, h1, Int.toNat_natCast]
  congr 3
  simp [List.getD, hl]
theorem rowGo_pos {tl : List Ar} {num old : List Int} {nxt : List Ar} {e x : Int} {tn : Nat} (hx : num[tn]? = some x) (hpos : ¬ x < 0) :
    rowGo ((e, (tn : Int)) :: tl) num old nxt = rowGo tl num old (insA (e, x) nxt) := by
  have h1 : numOne num old (tn : Int) = (num, old) := by
    simp only [numOne, Int.toNat_natCast, List.getD, hx, Option.getD_some, if_neg hpos]
  simp only [rowGo, h1, Int.toNat_natCast, List.getD, hx, Option.getD_some]


def compGo (p : Ar) : List Ar → List Ar
  | [] => []
  | y :: ys => if y = p then compGo p ys else y :: compGo y ys
def compL : List Ar → List Ar
  | [] => []
  | x :: xs => x :: compGo x xs


theorem sorted_ext : ∀ {l m : List Ar}, SortA l → SortA m → (∀ a, a ∈ l ↔ a ∈ m) → l = m
  | [], [], _, _, _ => rfl
  | [], b :: m, _, _, h => by have := (h b).2 (by simp); simp at this
  | a :: l, [], _, _, h => by have := (h a).1 (by simp); simp at this
  | a :: l, b :: m, hl, hm, h => by
    have hl' := List.pairwise_cons.1 hl
    have hm' := List.pairwise_cons.1 hm
    have hab : a = b := by
      rcases List.mem_cons.1 ((h a).1 (by simp)) with e | e
      · exact e
      · rcases List.mem_cons.1 ((h b).2 (by simp)) with e' | e'
        · exact e'.symm
        · have h1 := hm'.1 a e
          have h2 := hl'.1 b e'
          rw [ltA_iff] at h1 h2; omega
    subst hab
    congr 1
    refine sorted_ext hl'.2 hm'.2 fun c => ⟨fun hc => ?_, fun hc => ?_⟩
    · rcases List.mem_cons.1 ((h c).1 (List.mem_cons_of_mem _ hc)) with e | e
      · subst e; have := hl'.1 c hc; rw [ltA_irr] at this; cases this
      · exact e
    · rcases List.mem_cons.1 ((h c).2 (List.mem_cons_of_mem _ hc)) with e | e
      · subst e; have := hm'.1 c hc; rw [ltA_irr] at this; cases this
      · exact e
def LeA (a b : Ar) : Prop := ltA b a = false
theorem compGo_mem (p : Ar) (l : List Ar) (a : Ar) : a ∈ p :: compGo p l ↔ a ∈ p :: l := by
  induction l generalizing p with
  | nil => simp [compGo]
  | cons y ys ih =>
    unfold compGo
    split
    · rename_i h; subst h; rw [ih]; simp
    · have := ih y
      simp only [List.mem_cons] at this ⊢
      rw [this]
theorem compGo_sorted (p : Ar) (l : List Ar) (h : (p :: l).Pairwise LeA) : SortA (p :: compGo p l) := by
  induction l generalizing p with
  | nil => simp [compGo, SortA]
  | cons y ys ih =>
    have h1 := List.pairwise_cons.1 h
    have h2 := List.pairwise_cons.1 h1.2
    unfold compGo
    split
    · rename_i e; subst e
      exact ih _ (List.pairwise_cons.2 ⟨fun a ha => h2.1 a ha, h2.2⟩)
    · rename_i e
      have hy := ih y h1.2
      refine List.pairwise_cons.2 ⟨fun a ha => ?_, hy⟩
      have hpy : ltA p y = true := by
        have := h1.1 y (by simp)
        rcases ltA_tri p y with h | h | h
        · exact h
        · exact absurd h.symm e
        · unfold LeA at this; rw [h] at this; cases this
      rcases List.mem_cons.1 ha with rfl | ha
      · exact hpy
      · exact ltA_trans hpy ((List.pairwise_cons.1 hy).1 a ha)
theorem rowOf_sorted (r : List Ar) : SortA (rowOf r) := by
  unfold rowOf
  have : ∀ (l acc : List Ar), SortA acc → SortA (l.foldl (fun acc a => insA a acc) acc) := by
    intro l
    induction l with
    | nil => intro acc h; exact h
    | cons x xs ih => intro acc h; exact ih _ (insA_sort h)
  exact this r [] List.Pairwise.nil
theorem comp_sort {r q : List Ar} (hp : q.Perm r) (h : q.Pairwise LeA) : compL q = rowOf r := by
  refine sorted_ext ?_ (rowOf_sorted r) fun a => ?_
  · cases q with
    | nil => exact List.Pairwise.nil
    | cons x xs => exact compGo_sorted x xs h
  · rw [mem_rowOf, ← hp.mem_iff]
    cases q with
    | nil => simp [compL]
    | cons x xs => exact compGo_mem x xs a
theorem sort_nodup {r q : List Ar} (h : r.Nodup) (hp : q.Perm r) (h1 : q.Pairwise LeA) : q = rowOf r := by
  refine sorted_ext ?_ (rowOf_sorted r) fun a => by rw [mem_rowOf, hp.mem_iff]
  have h2 := hp.symm.nodup h
  refine (List.pairwise_iff_forall_sublist.2 ?_)
  intro a b hab
  have hle := List.pairwise_iff_forall_sublist.1 h1 hab
  have hne := List.pairwise_iff_forall_sublist.1 h2 hab
  rcases ltA_tri a b with h | h | h
  · exact h
  · exact absurd h hne
  · unfold LeA at hle; rw [h] at hle; cases hle
theorem rowOf_ext {r q : List Ar} (h : ∀ a, a ∈ r ↔ a ∈ q) : rowOf r = rowOf q := sorted_ext (rowOf_sorted r) (rowOf_sorted q) fun a => by rw [mem_rowOf, mem_rowOf, h]

/-- the numbering of a row, in the row's own order -/
def numL : List Ar → List Int → List Int → List Int × List Int × List Ar
  | [], num, old => (num, old, [])
  | a :: tl, num, old =>
    ((numL tl (numOne num old a.2).1 (numOne num old a.2).2).1, (numL tl (numOne num old a.2).1 (numOne num old a.2).2).2.1,
      (a.1, (numOne num old a.2).1.getD a.2.toNat 0) :: (numL tl (numOne num old a.2).1 (numOne num old a.2).2).2.2)
theorem rowGo_numL (r : List Ar) (num old : List Int) (nxt : List Ar) :
    rowGo r num old nxt = ((numL r num old).1, (numL r num old).2.1, (numL r num old).2.2.foldl (fun acc a => insA a acc) nxt) := by
  induction r generalizing num old nxt with
  | nil => rfl
  | cons a tl ih => simp only [rowGo, numL, ih, List.foldl_cons]
structure NumInj (num old : List Int) : Prop where
  inj : ∀ (t : Nat) (x : Int), num[t]? = some x → 0 ≤ x → old[x.toNat]? = some (t : Int)
theorem NumInj.one {num old : List Int} (h : NumInj num old) {t : Int} (h0 : 0 ≤ t) (h1 : t < num.length) : NumInj (numOne num old t).1 (numOne num old t).2 := by
  unfold numOne
  split
  · refine ⟨fun s x hx hp => ?_⟩
    rw [List.getElem?_set] at hx
    split at hx
    · rename_i hs
      rw [if_pos (by omega)] at hx
      injection hx with hx
      subst hx
      simp
      omega
    · have := h.inj s x hx hp
      rw [List.getElem?_append_left (List.getElem?_eq_some_iff.1 this).1]
      exact this
  · exact h
theorem numOne_len (num old : List Int) (t : Int) : (numOne num old t).1.length = num.length := by unfold numOne; split <;> simp
theorem numOne_keep {num old : List Int} {t : Int} {s : Nat} {x : Int} (h0 : 0 ≤ t) (hx : num[s]? = some x) (hp : 0 ≤ x) : (numOne num old t).1[s]? = some x := by
  unfold numOne
  split
  · rename_i hneg
    simp only [List.getElem?_set]
    split
    · rename_i hs
      subst hs
      simp [List.getD, hx] at hneg
      omega
    · exact hx
  · exact hx
theorem numOne_at {num old : List Int} {t : Int} (h0 : 0 ≤ t) (h1 : t < num.length) : ∃ x, (numOne num old t).1[t.toNat]? = some x ∧ 0 ≤ x := by
  unfold numOne
  split
  · exact ⟨_, by rw [List.getElem?_set, if_pos rfl, if_pos (by omega)], by omega⟩
  · rename_i hneg
    have hl : t.toNat < num.length := by omega
    refine ⟨num[t.toNat], List.getElem?_eq_getElem hl, ?_⟩
    simpa [List.getD, List.getElem?_eq_getElem hl] using hneg
theorem numL_keep (r : List Ar) {num old : List Int} (hr : ∀ a ∈ r, 0 ≤ a.2) {s : Nat} {x : Int} (hx : num[s]? = some x) (hp : 0 ≤ x) : (numL r num old).1[s]? = some x := by
  induction r generalizing num old with
  | nil => exact hx
  | cons a tl ih => exact ih (fun b hb => hr b (by simp [hb])) (numOne_keep (hr a (by simp)) hx hp)
theorem numL_inj (r : List Ar) {num old : List Int} (hr : ∀ a ∈ r, 0 ≤ a.2 ∧ a.2 < num.length) (h : NumInj num old) : NumInj (numL r num old).1 (numL r num old).2.1 := by
  induction r generalizing num old with
  | nil => exact h
  | cons a tl ih =>
    have ha := hr a (by simp)
    exact ih (fun b hb => by rw [numOne_len]; exact hr b (by simp [hb])) (h.one ha.1 ha.2)
theorem numL_map (r : List Ar) {num old : List Int} (hr : ∀ a ∈ r, 0 ≤ a.2 ∧ a.2 < num.length) :
    (numL r num old).2.2 = r.map (fun a => (a.1, (numL r num old).1.getD a.2.toNat 0)) ∧ ∀ a ∈ r, ∃ x, (numL r num old).1[a.2.toNat]? = some x ∧ 0 ≤ x := by
  induction r generalizing num old with
  | nil => exact ⟨rfl, by simp⟩
  | cons a tl ih =>
    have ha := hr a (by simp)
    obtain ⟨i1, i2⟩ := ih (num := (numOne num old a.2).1) (old := (numOne num old a.2).2) (fun b hb => by rw [numOne_len]; exact hr b (by simp [hb]))
    obtain ⟨x, hx, hp⟩ := numOne_at (old := old) ha.1 ha.2
    have hk := numL_keep (old := (numOne num old a.2).2) tl (fun b hb => (hr b (by simp [hb])).1) hx hp
    refine ⟨?_, fun b hb => ?_⟩
    · simp only [numL, List.map_cons]
      congr 1
      simp [List.getD, hx, hk]
    · rcases List.mem_cons.1 hb with rfl | hb
      · exact ⟨x, hk, hp⟩
      · exact i2 b hb
theorem numL_nodup (r : List Ar) {num old : List Int} (hs : SortA r) (hr : ∀ a ∈ r, 0 ≤ a.2 ∧ a.2 < num.length) (h : NumInj num old) : (numL r num old).2.2.Nodup := by
  obtain ⟨h1, h2⟩ := numL_map (old := old) r hr
  have hi := numL_inj r hr h
  rw [h1, List.Nodup, List.pairwise_map]
  have hnd : r.Pairwise (· ≠ ·) := hs.imp (fun {a b} hab e => by subst e; rw [ltA_irr] at hab; cases hab)
  refine hnd.imp_of_mem (fun {a b} ha hb hne e => hne ?_)
  obtain ⟨x, hx, hxp⟩ := h2 a ha
  obtain ⟨y, hy, hyp⟩ := h2 b hb
  have ha' := hr a ha
  have hb' := hr b hb
  simp only [Prod.mk.injEq, List.getD, hx, hy, Option.getD_some] at e
  obtain ⟨e1, e2⟩ := e
  subst e2
  have q1 := hi.inj _ _ hx hxp
  have q2 := hi.inj _ _ hy hxp
  rw [q1] at q2
  injection q2 with q2
  rcases a with ⟨a1, a2⟩
  rcases b with ⟨b1, b2⟩
  simp only at *
  have : a2 = b2 := by omega
  rw [e1, this]
theorem NumInj.start {n : Nat} (hn : 0 < n) : NumInj ((List.replicate n (-1)).set 0 0) [0] := ⟨fun t x hx hp => by
  rw [List.getElem?_set] at hx
  split at hx
  · rename_i h
    subst h
    simp [hn] at hx
    subst hx; rfl
  · rw [List.getElem?_replicate] at hx
    split at hx
    · cases hx; omega
    · cases hx⟩

theorem numL_neg {tl : List Ar} {num old : List Int} {e x : Int} {tn L : Nat} (hx : num[tn]? = some x) (hneg : x < 0) (hL : old.length = L) :
    numL ((e, (tn : Int)) :: tl) num old = ((numL tl (num.set tn L) (old ++ [(tn : Int)])).1, (numL tl (num.set tn L) (old ++ [(tn : Int)])).2.1, (e, (L : Int)) :: (numL tl (num.set tn L) (old ++ [(tn : Int)])).2.2) := by
  have hl : tn < num.length := (List.getElem?_eq_some_iff.1 hx).1
  have h1 : numOne num old (tn : Int) = (num.set tn L, old ++ [(tn : Int)]) := by
    simp only [numOne, Int.toNat_natCast, List.getD, hx, Option.getD_some, if_pos hneg, hL]
  simp only [numL, h1, Int.toNat_natCast]
  simp [List.getD, hl]
theorem numL_pos {tl : List Ar} {num old : List Int} {e x : Int} {tn : Nat} (hx : num[tn]? = some x) (hpos : ¬ x < 0) :
    numL ((e, (tn : Int)) :: tl) num old = ((numL tl num old).1, (numL tl num old).2.1, (e, x) :: (numL tl num old).2.2) := by
  have h1 : numOne num old (tn : Int) = (num, old) := by
    simp only [numOne, Int.toNat_natCast, List.getD, hx, Option.getD_some, if_neg hpos]
  simp only [numL, h1, Int.toNat_natCast, List.getD, hx, Option.getD_some]
/-- how far the numbering of a row has come -/
def NL (R : List Int × List Int × List Ar) (ya q : List Ar) (k : Nat) (num old : List Int) : Prop :=
  ya.take k ++ (numL (q.drop k) num old).2.2 = R.2.2 ∧ (numL (q.drop k) num old).1 = R.1 ∧ (numL (q.drop k) num old).2.1 = R.2.1 ∧ ya.drop k = q.drop k
theorem NL.neg {R : List Int × List Int × List Ar} {ya q : List Ar} {k : Nat} {num old : List Int} {e x : Int} {tn L : Nat} (h : NL R ya q k num old) (hk : ya[k]? = some (e, (tn : Int))) (hx : num[tn]? = some x) (hneg : x < 0) (hL : old.length = L) :
    NL R (ya.set k (e, (L : Int))) q (k + 1) (num.set tn L) (old ++ [(tn : Int)]) := by
  obtain ⟨h1, h2, h3, h4⟩ := h
  have hl := (List.getElem?_eq_some_iff.1 hk).1
  have hd : q.drop k = (e, (tn : Int)) :: q.drop (k + 1) := by
    have h5 : ya.drop k = (e, (tn : Int)) :: ya.drop (k + 1) := by
      rw [List.drop_eq_getElem_cons hl]; congr 1
      rw [List.getElem?_eq_getElem hl] at hk; exact Option.some.inj hk
    have h6 := congrArg (List.drop 1) h4
    rw [List.drop_drop, List.drop_drop] at h6
    rw [← h4, h5, h6]
  rw [hd, numL_neg hx hneg hL] at h1 h2 h3
  refine ⟨?_, h2, h3, ?_⟩
  · rw [← h1, List.take_add_one, List.take_set_of_le (Nat.le_refl k)]
    simp [List.getElem?_set, hl]
  · rw [List.drop_set, if_pos (by omega)]
    have h6 := congrArg (List.drop 1) h4
    rwa [List.drop_drop, List.drop_drop] at h6
theorem NL.pos {R : List Int × List Int × List Ar} {ya q : List Ar} {k : Nat} {num old : List Int} {e x : Int} {tn : Nat} (h : NL R ya q k num old) (hk : ya[k]? = some (e, (tn : Int))) (hx : num[tn]? = some x) (hpos : ¬ x < 0) :
    NL R (ya.set k (e, x)) q (k + 1) num old := by
  obtain ⟨h1, h2, h3, h4⟩ := h
  have hl := (List.getElem?_eq_some_iff.1 hk).1
  have hd : q.drop k = (e, (tn : Int)) :: q.drop (k + 1) := by
    have h5 : ya.drop k = (e, (tn : Int)) :: ya.drop (k + 1) := by
      rw [List.drop_eq_getElem_cons hl]; congr 1
      rw [List.getElem?_eq_getElem hl] at hk; exact Option.some.inj hk
    have h6 := congrArg (List.drop 1) h4
    rw [List.drop_drop, List.drop_drop] at h6
    rw [← h4, h5, h6]
  rw [hd, numL_pos hx hpos] at h1 h2 h3
  refine ⟨?_, h2, h3, ?_⟩
  · rw [← h1, List.take_add_one, List.take_set_of_le (Nat.le_refl k)]
    simp [List.getElem?_set, hl]
  · rw [List.drop_set, if_pos (by omega)]
    have h6 := congrArg (List.drop 1) h4
    rwa [List.drop_drop, List.drop_drop] at h6


end Go.Proofs.YthlckclbjknldaaGreat
namespace Go.Proofs.YthlckclbjknldaaGreat
set_option linter.unusedVariables false
set_option linter.unusedSimpArgs false

def ixS (C : List Int) : Nat → List Int × Nat
  | 0 => (List.replicate C.length 0, 0)
  | k + 1 => if C[k]? = some (k : Int) then ((ixS C k).1.set k ((ixS C k).2 : Int), (ixS C k).2 + 1) else ixS C k
theorem ixS_len (C : List Int) (k : Nat) : (ixS C k).1.length = C.length := by
  induction k with
  | zero => simp [ixS]
  | succ k ih =>
    unfold ixS
    split
    · simp [ih]
    · exact ih
theorem ixS_le (C : List Int) (k : Nat) : (ixS C k).2 ≤ k := by
  induction k with
  | zero => simp [ixS]
  | succ k ih =>
    unfold ixS
    split
    · simp only; omega
    · omega
theorem ixS_ok (C : List Int) (k : Nat) (hk : k ≤ C.length) : ∀ u, u < k → C[u]? = some (u : Int) → ∃ j : Nat, j < (ixS C k).2 ∧ (ixS C k).1[u]? = some (j : Int) := by
  induction k with
  | zero => intro u h; omega
  | succ k ih =>
    intro u hu hC
    unfold ixS
    split
    · rename_i h
      rcases Nat.lt_or_ge u k with h1 | h1
      · obtain ⟨j, q1, q2⟩ := ih (by omega) u h1 hC
        exact ⟨j, by simp only; omega, by simp only; rw [List.getElem?_set_ne (by omega)]; exact q2⟩
      · have : u = k := by omega
        subst this
        exact ⟨(ixS C u).2, by simp only; omega, by simp only; rw [List.getElem?_set_self (by rw [ixS_len]; omega)]⟩
    · rename_i h
      rcases Nat.lt_or_ge u k with h1 | h1
      · exact ih (by omega) u h1 hC
      · have : u = k := by omega
        subst this
        exact absurd hC h
/-- the number of v's component -/
def clsN (C : List Int) (v : Nat) : Nat := ((ixS C C.length).1.getD (C.getD v 0).toNat 0).toNat
def tlA (f : Nat → Nat) (c : Nat) (o : List (List Ar)) (a : Ar) : List (List Ar) := o.set c (o.getD c [] ++ [(a.1, (f a.2.toNat : Int))])
def tlRow (f : Nat → Nat) (c : Nat) (o : List (List Ar)) (row : List Ar) : List (List Ar) := row.foldl (tlA f c) o
def tlOut (f : Nat → Nat) (m : Nat) (R : List (List Ar)) : Nat → List (List Ar)
  | 0 => List.replicate m []
  | k + 1 => tlRow f (f k) (tlOut f m R k) (R.getD k [])
theorem tlA_len (f : Nat → Nat) (c : Nat) (o : List (List Ar)) (a : Ar) : (tlA f c o a).length = o.length := by simp [tlA]
theorem tlRow_len (f : Nat → Nat) (c : Nat) (row : List Ar) : ∀ o, (tlRow f c o row).length = o.length := by
  induction row with
  | nil => intro o; rfl
  | cons a r ih => intro o; show (tlRow f c (tlA f c o a) r).length = _; rw [ih, tlA_len]
theorem tlOut_len (f : Nat → Nat) (m : Nat) (R : List (List Ar)) (k : Nat) : (tlOut f m R k).length = m := by
  induction k with
  | zero => simp [tlOut]
  | succ k ih => rw [tlOut, tlRow_len, ih]
theorem tlRow_snoc (f : Nat → Nat) (c : Nat) (o : List (List Ar)) (row : List Ar) (a : Ar) : tlRow f c o (row ++ [a]) = tlA f c (tlRow f c o row) a := by unfold tlRow; rw [List.foldl_append]; rfl
theorem Rc.lt {E : Nat → List Nat} {n u v : Nat} (h : Rc E u v) (hu : u < n) (hE : ∀ x, x < n → ∀ y ∈ E x, y < n) : v < n := by
  induction h with
  | refl => exact hu
  | tail _ he ih => exact hE _ ih _ he
theorem least_rep {E : Nat → List Nat} {n : Nat} {C : List Int} (hE : ∀ x, x < n → ∀ y ∈ E x, y < n) (hC : C.length = n) (hL : ∀ v, v < n → Least E v (fnL C (-1) v)) : ∀ s, s < n → ∃ m : Nat, m < n ∧ C[s]? = some (m : Int) ∧ C[m]? = some (m : Int) := by
  intro s hs
  obtain ⟨m, h1, h2, h3, h4⟩ := hL s hs
  have hm : m < n := h2.lt hs hE
  obtain ⟨m2, q1, q2, q3, q4⟩ := hL m hm
  have a1 := h4 m2 (h2.trans q2) (q3.trans h3)
  have a2 := q4 m (Rc.refl m) (Rc.refl m)
  have : m2 = m := by omega
  subst this
  refine ⟨m2, hm, ?_, ?_⟩
  · rw [fnL_get (by omega)] at h1
    rw [List.getElem?_eq_getElem (by omega), h1]
  · rw [fnL_get (by omega)] at q1
    rw [List.getElem?_eq_getElem (by omega), q1]
theorem adj_lt {R : List (List Ar)} (t : Bool) (hv : looB R = true) : ∀ x, x < R.length → ∀ y ∈ Adj t R x, y < R.length := by
  intro x hx y hy
  unfold Adj at hy
  rw [List.getD_eq_getElem?_getD, List.getElem?_eq_getElem hx, Option.getD_some] at hy
  obtain ⟨a, ha, rfl⟩ := List.mem_map.1 hy
  have h1 : a ∈ R[x] := by
    unfold tauOf at ha
    split at ha
    · exact (List.takeWhile_sublist _).subset ha
    · exact ha
  have h2 := (of_decide_eq_true hv).2.2.2 _ (List.getElem_mem hx) a h1
  omega
/-- the class numbers are below the count -/
theorem cls_ok {C : List Int} {n : Nat} (hC : C.length = n) (hrep : ∀ s, s < n → ∃ m : Nat, m < n ∧ C[s]? = some (m : Int) ∧ C[m]? = some (m : Int)) {s : Nat} (hs : s < n) :
    ∃ m : Nat, m < n ∧ C[s]? = some (m : Int) ∧ clsN C s < (ixS C n).2 ∧ (ixS C n).1[m]? = some (clsN C s : Int) := by
  obtain ⟨m, h1, h2, h3⟩ := hrep s hs
  obtain ⟨j, q1, q2⟩ := ixS_ok C n (by omega) m h1 h3
  have e : clsN C s = j := by
    unfold clsN
    have e1 : C.getD s 0 = (m : Int) := by rw [List.getD_eq_getElem?_getD, h2]; rfl
    rw [e1, hC, Int.toNat_natCast, List.getD_eq_getElem?_getD, q2]; rfl
  exact ⟨m, h1, h2, by rw [e]; exact q1, by rw [e]; exact q2⟩
/-- what holds of the joined rows -/
theorem totA_set (o : List (List Ar)) {c : Nat} (h : c < o.length) (x : Ar) : totA (o.set c (o.getD c [] ++ [x])) = totA o + 1 := by
  induction o generalizing c with
  | nil => simp at h
  | cons a r ih =>
    cases c with
    | zero => simp [totA]; omega
    | succ c =>
      have := ih (c := c) (by simpa using h)
      simp only [List.set_cons_succ, List.getD_cons_succ]
      simp only [totA, List.map_cons, List.sum_cons] at this ⊢
      omega
theorem totA_row (o : List (List Ar)) (c : Nat) : (o.getD c []).length ≤ totA o := by
  induction o generalizing c with
  | nil => simp
  | cons a r ih =>
    cases c with
    | zero => simp [totA]
    | succ c =>
      have := ih c
      simp only [List.getD_cons_succ]
      simp only [totA, List.map_cons, List.sum_cons] at this ⊢
      omega
theorem tlRow_tot (f : Nat → Nat) {c : Nat} (row : List Ar) : ∀ o, c < o.length → totA (tlRow f c o row) = totA o + row.length := by
  induction row with
  | nil => intro o _; rfl
  | cons a r ih =>
    intro o h
    show totA (tlRow f c (tlA f c o a) r) = _
    rw [ih _ (by rw [tlA_len]; exact h)]
    unfold tlA
    rw [totA_set o h]
    simp; omega
theorem totA_rep (m : Nat) : totA (List.replicate m []) = 0 := by
  unfold totA
  rw [List.map_replicate, List.sum_replicate_nat]; simp
theorem tlOut_tot {f : Nat → Nat} {m : Nat} {R : List (List Ar)} (hf : ∀ v, v < R.length → f v < m) : ∀ k, k ≤ R.length → totA (tlOut f m R k) = totA (R.take k) := by
  intro k
  induction k with
  | zero => intro _; rw [tlOut, totA_rep, List.take_zero]; rfl
  | succ k ih =>
    intro h
    rw [tlOut, tlRow_tot f _ _ (by rw [tlOut_len]; exact hf k (by omega)), ih (by omega), totA_take (by omega)]
    rw [List.getD_eq_getElem?_getD, List.getElem?_eq_getElem (by omega), Option.getD_some]
def TlP (m : Nat) (o : List (List Ar)) : Prop := ∀ r ∈ o, ∀ a ∈ r, 0 ≤ a.1 ∧ a.1 ≤ 1025 ∧ 0 ≤ a.2 ∧ a.2 < (m : Int)
theorem TlP.one {f : Nat → Nat} {m c : Nat} {o : List (List Ar)} {a : Ar} (h : TlP m o) (ha : 0 ≤ a.1 ∧ a.1 ≤ 1025) (hf : f a.2.toNat < m) : TlP m (tlA f c o a) := by
  intro r hr b hb
  rcases List.mem_or_eq_of_mem_set hr with h1 | h1
  · exact h r h1 b hb
  · subst h1
    rcases List.mem_append.1 hb with h2 | h2
    · rw [List.getD_eq_getElem?_getD] at h2
      rcases Nat.lt_or_ge c o.length with h3 | h3
      · rw [List.getElem?_eq_getElem h3, Option.getD_some] at h2
        exact h _ (List.getElem_mem h3) b h2
      · rw [List.getElem?_eq_none h3] at h2; simp at h2
    · simp at h2; subst h2
      exact ⟨ha.1, ha.2, by simp only; omega, by simp only; omega⟩
theorem tlRow_P {f : Nat → Nat} {m c : Nat} (row : List Ar) : ∀ o, TlP m o → (∀ a ∈ row, 0 ≤ a.1 ∧ a.1 ≤ 1025 ∧ f a.2.toNat < m) → TlP m (tlRow f c o row) := by
  induction row with
  | nil => intro o h _; exact h
  | cons a r ih =>
    intro o h hr
    have ha := hr a (by simp)
    exact ih _ (h.one ⟨ha.1, ha.2.1⟩ ha.2.2) fun b hb => hr b (List.mem_cons_of_mem _ hb)
theorem tlOut_P {f : Nat → Nat} {m : Nat} {R : List (List Ar)} (hR : ∀ r ∈ R, ∀ a ∈ r, 0 ≤ a.1 ∧ a.1 ≤ 1025 ∧ f a.2.toNat < m) : ∀ k, k ≤ R.length → TlP m (tlOut f m R k) := by
  intro k
  induction k with
  | zero =>
    intro _ r hr a ha
    have := List.eq_of_mem_replicate hr
    subst this; simp at ha
  | succ k ih =>
    intro h
    rw [tlOut]
    refine tlRow_P _ _ (ih (by omega)) fun a ha => ?_
    rw [List.getD_eq_getElem?_getD, List.getElem?_eq_getElem (by omega), Option.getD_some] at ha
    exact hR _ (List.getElem_mem (by omega)) a ha
end Go.Proofs.YthlckclbjknldaaGreat
