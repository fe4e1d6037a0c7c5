/- TauLoops as a plain function: numbers of the components, rows joined. ref23: Has at a tree; Components. Add, by the machine. -/
import Derived.Test.YthlckclbjknldaaGreatTj1
import Derived.Test.YthlckclbjknldaaGreatMG
import Derived.Test.YthlckclbjknldaaGreatZk
import Derived.Test.YthlckclbjknldaaGreatG45
import Derived.Test.YthlckclbjknldaaGreatMF
namespace Go.Proofs.YthlckclbjknldaaGreat
set_option linter.unusedVariables false
set_option linter.unusedSimpArgs false

def ixS (C : List Int) : Nat → List Int × Nat
 | 0 => (List.replicate C.length 0, 0)
 | k + 1 => if C[k]? = some (k : Int) then ((ixS C k).1.set k ((ixS C k).2 : Int), (ixS C k).2 + 1) else ixS C k
theorem ixS_len (C : List Int) (k : Nat) : (ixS C k).1.length = C.length := by
 induction k with
 | zero => simp [ixS]
 | succ k ih =>
  unfold ixS
  split
  ·simp [ih]
  ·exact ih
theorem ixS_le (C : List Int) (k : Nat) : (ixS C k).2 ≤ k := by
 induction k with
 | zero => simp [ixS]
 | succ k ih =>
  unfold ixS
  split
  ·simp only; omega
  ·omega
theorem ixS_ok (C : List Int) (k : Nat) (hk : k ≤ C.length) : ∀ u, u < k → C[u]? = some (u : Int) → ∃ j : Nat, j < (ixS C k).2 ∧ (ixS C k).1[u]? = some (j : Int) := by
 induction k with
 | zero => intro u h; omega
 | succ k ih =>
  intro u hu hC
  unfold ixS
  split
  ·rename_i h
   rcases Nat.lt_or_ge u k with h1 | h1
   ·obtain ⟨j, q1, q2⟩ := ih (by omega) u h1 hC
    exact ⟨j, by simp only; omega, by simp only; rw [List.getElem?_set_ne (by omega)]; exact q2⟩
   ·have : u = k := by omega
    subst this
    exact ⟨(ixS C u).2, by simp only; omega, by simp only; rw [List.getElem?_set_self (by rw [ixS_len]; omega)]⟩
  ·rename_i h
   rcases Nat.lt_or_ge u k with h1 | h1
   ·exact ih (by omega) u h1 hC
   ·have : u = k := by omega
    subst this
    exact absurd hC h
/-- the number of v's component -/
def clsN (C : List Int) (v : Nat) : Nat := ((ixS C C.length).1.getD (C.getD v 0).toNat 0).toNat
def tlA (f : Nat → Nat) (c : Nat) (o : List (List Ar)) (a : Ar) : List (List Ar) := o.set c (o.getD c [] ++ [(a.1, (f a.2.toNat : Int))])
def tlRow (f : Nat → Nat) (c : Nat) (o : List (List Ar)) (row : List Ar) : List (List Ar) := row.foldl (tlA f c) o
def tlOut (f : Nat → Nat) (m : Nat) (R : List (List Ar)) : Nat → List (List Ar)
 | 0 => List.replicate m []
 | k + 1 => tlRow f (f k) (tlOut f m R k) (R.getD k [])
theorem tlA_len (f : Nat → Nat) (c : Nat) (o : List (List Ar)) (a : Ar) : (tlA f c o a).length = o.length := by simp [tlA]
theorem tlRow_len (f : Nat → Nat) (c : Nat) (row : List Ar) : ∀ o, (tlRow f c o row).length = o.length := by
 induction row with
 | nil => intro o; rfl
 | cons a r ih => intro o; show (tlRow f c (tlA f c o a) r).length = _; rw [ih, tlA_len]
theorem tlOut_len (f : Nat → Nat) (m : Nat) (R : List (List Ar)) (k : Nat) : (tlOut f m R k).length = m := by
 induction k with
 | zero => simp [tlOut]
 | succ k ih => rw [tlOut, tlRow_len, ih]
theorem tlRow_snoc (f : Nat → Nat) (c : Nat) (o : List (List Ar)) (row : List Ar) (a : Ar) : tlRow f c o (row ++ [a]) = tlA f c (tlRow f c o row) a := by unfold tlRow; rw [List.foldl_append]; rfl
theorem Rc.lt {E : Nat → List Nat} {n u v : Nat} (h : Rc E u v) (hu : u < n) (hE : ∀ x, x < n → ∀ y ∈ E x, y < n) : v < n := by
 induction h with
 | refl => exact hu
 | tail _ he ih => exact hE _ ih _ he
theorem least_rep {E : Nat → List Nat} {n : Nat} {C : List Int} (hE : ∀ x, x < n → ∀ y ∈ E x, y < n) (hC : C.length = n) (hL : ∀ v, v < n → Least E v (fnL C (-1) v)) : ∀ s, s < n → ∃ m : Nat, m < n ∧ C[s]? = some (m : Int) ∧ C[m]? = some (m : Int) := by
 intro s hs
 obtain ⟨m, h1, h2, h3, h4⟩ := hL s hs
 have hm : m < n := h2.lt hs hE
 obtain ⟨m2, q1, q2, q3, q4⟩ := hL m hm
 have a1 := h4 m2 (h2.trans q2) (q3.trans h3)
 have a2 := q4 m (Rc.refl m) (Rc.refl m)
 have : m2 = m := by omega
 subst this
 refine ⟨m2, hm, ?_, ?_⟩
 ·rw [fnL_get (by omega)] at h1
  rw [List.getElem?_eq_getElem (by omega), h1]
 ·rw [fnL_get (by omega)] at q1
  rw [List.getElem?_eq_getElem (by omega), q1]
theorem adj_lt {R : List (List Ar)} (t : Bool) (hv : looB R = true) : ∀ x, x < R.length → ∀ y ∈ Adj t R x, y < R.length := by
 intro x hx y hy
 unfold Adj at hy
 rw [List.getD_eq_getElem?_getD, List.getElem?_eq_getElem hx, Option.getD_some] at hy
 obtain ⟨a, ha, rfl⟩ := List.mem_map.1 hy
 have h1 : a ∈ R[x] := by
  unfold tauOf at ha
  split at ha
  ·exact (List.takeWhile_sublist _).subset ha
  ·exact ha
 have h2 := (of_decide_eq_true hv).2.2.2 _ (List.getElem_mem hx) a h1
 omega
/-- the class numbers are below the count -/
theorem cls_ok {C : List Int} {n : Nat} (hC : C.length = n) (hrep : ∀ s, s < n → ∃ m : Nat, m < n ∧ C[s]? = some (m : Int) ∧ C[m]? = some (m : Int)) {s : Nat} (hs : s < n) :
  ∃ m : Nat, m < n ∧ C[s]? = some (m : Int) ∧ clsN C s < (ixS C n).2 ∧ (ixS C n).1[m]? = some (clsN C s : Int) := by
 obtain ⟨m, h1, h2, h3⟩ := hrep s hs
 obtain ⟨j, q1, q2⟩ := ixS_ok C n (by omega) m h1 h3
 have e : clsN C s = j := by
  unfold clsN
  have e1 : C.getD s 0 = (m : Int) := by rw [List.getD_eq_getElem?_getD, h2]; rfl
  rw [e1, hC, Int.toNat_natCast, List.getD_eq_getElem?_getD, q2]; rfl
 exact ⟨m, h1, h2, by rw [e]; exact q1, by rw [e]; exact q2⟩
/-- what holds of the joined rows -/
theorem totA_set (o : List (List Ar)) {c : Nat} (h : c < o.length) (x : Ar) : totA (o.set c (o.getD c [] ++ [x])) = totA o + 1 := by
 induction o generalizing c with
 | nil => simp at h
 | cons a r ih =>
  cases c with
  | zero => simp [totA]; omega
  | succ c =>
   have := ih (c := c) (by simpa using h)
   simp only [List.set_cons_succ, List.getD_cons_succ]
   simp only [totA, List.map_cons, List.sum_cons] at this ⊢
   omega
theorem totA_row (o : List (List Ar)) (c : Nat) : (o.getD c []).length ≤ totA o := by
 induction o generalizing c with
 | nil => simp
 | cons a r ih =>
  cases c with
  | zero => simp [totA]
  | succ c =>
   have := ih c
   simp only [List.getD_cons_succ]
   simp only [totA, List.map_cons, List.sum_cons] at this ⊢
   omega
theorem tlRow_tot (f : Nat → Nat) {c : Nat} (row : List Ar) : ∀ o, c < o.length → totA (tlRow f c o row) = totA o + row.length := by
 induction row with
 | nil => intro o _; rfl
 | cons a r ih =>
  intro o h
  show totA (tlRow f c (tlA f c o a) r) = _
  rw [ih _ (by rw [tlA_len]; exact h)]
  unfold tlA
  rw [totA_set o h]
  simp; omega
theorem totA_rep (m : Nat) : totA (List.replicate m []) = 0 := by
 unfold totA
 rw [List.map_replicate, List.sum_replicate_nat]; simp
theorem tlOut_tot {f : Nat → Nat} {m : Nat} {R : List (List Ar)} (hf : ∀ v, v < R.length → f v < m) : ∀ k, k ≤ R.length → totA (tlOut f m R k) = totA (R.take k) := by
 intro k
 induction k with
 | zero => intro _; rw [tlOut, totA_rep, List.take_zero]; rfl
 | succ k ih =>
  intro h
  rw [tlOut, tlRow_tot f _ _ (by rw [tlOut_len]; exact hf k (by omega)), ih (by omega), totA_take (by omega)]
  rw [List.getD_eq_getElem?_getD, List.getElem?_eq_getElem (by omega), Option.getD_some]
def TlP (m : Nat) (o : List (List Ar)) : Prop := ∀ r ∈ o, ∀ a ∈ r, 0 ≤ a.1 ∧ a.1 ≤ 1025 ∧ 0 ≤ a.2 ∧ a.2 < (m : Int)
theorem TlP.one {f : Nat → Nat} {m c : Nat} {o : List (List Ar)} {a : Ar} (h : TlP m o) (ha : 0 ≤ a.1 ∧ a.1 ≤ 1025) (hf : f a.2.toNat < m) : TlP m (tlA f c o a) := by
 intro r hr b hb
 rcases List.mem_or_eq_of_mem_set hr with h1 | h1
 ·exact h r h1 b hb
 ·subst h1
  rcases List.mem_append.1 hb with h2 | h2
  ·rw [List.getD_eq_getElem?_getD] at h2
   rcases Nat.lt_or_ge c o.length with h3 | h3
   ·rw [List.getElem?_eq_getElem h3, Option.getD_some] at h2
    exact h _ (List.getElem_mem h3) b h2
   ·rw [List.getElem?_eq_none h3] at h2; simp at h2
  ·simp at h2; subst h2
   exact ⟨ha.1, ha.2, by simp only; omega, by simp only; omega⟩
theorem tlRow_P {f : Nat → Nat} {m c : Nat} (row : List Ar) : ∀ o, TlP m o → (∀ a ∈ row, 0 ≤ a.1 ∧ a.1 ≤ 1025 ∧ f a.2.toNat < m) → TlP m (tlRow f c o row) := by
 induction row with
 | nil => intro o h _; exact h
 | cons a r ih =>
  intro o h hr
  have ha := hr a (by simp)
  exact ih _ (h.one ⟨ha.1, ha.2.1⟩ ha.2.2) fun b hb => hr b (List.mem_cons_of_mem _ hb)
theorem tlOut_P {f : Nat → Nat} {m : Nat} {R : List (List Ar)} (hR : ∀ r ∈ R, ∀ a ∈ r, 0 ≤ a.1 ∧ a.1 ≤ 1025 ∧ f a.2.toNat < m) : ∀ k, k ≤ R.length → TlP m (tlOut f m R k) := by
 intro k
 induction k with
 | zero =>
  intro _ r hr a ha
  have := List.eq_of_mem_replicate hr
  subst this; simp at ha
 | succ k ih =>
  intro h
  rw [tlOut]
  refine tlRow_P _ _ (ih (by omega)) fun a ha => ?_
  rw [List.getD_eq_getElem?_getD, List.getElem?_eq_getElem (by omega), Option.getD_some] at ha
  exact hR _ (List.getElem_mem (by omega)) a ha
end Go.Proofs.YthlckclbjknldaaGreat
namespace Go.Proofs.YthlckclbjknldaaGreat
set_option linter.unusedVariables false
set_option linter.unusedSimpArgs false
open Go.RowKit
set_option maxRecDepth 100000
attribute [local go_sem] List.set_cons_zero List.set_cons_succ List.map_cons List.map_nil List.take_succ_cons List.take_zero List.drop_zero List.drop_succ_cons C.pl C.one List.all_cons List.all_nil Bool.and_true Nat.mul_one Int.toNat_natCast

theorem hasT_fc (xs : List Int) (x : Int) (hn : xs.length ≤ 140737488355328) : FC Tryz.prog 125 [aInts xs, .i x] [] (fun r o => o = [] ∧ r = .b (decide (x ∈ xs))) := by
 refine fc_intro Tryz.func125 rfl (by rw [Tryz.ntmps125]; simp) ?_
 rw [Tryz.ntmps125]
 simp only [enum, aInts]
 (refine wk0 ?_; (repeat clear hK K); repeat (refine Kq.mk ?_; intro K hK))
 refine aw_loop (fun k : Nat => { tm := [(0, .a (.c (.t 1 (tInts xs)))), (1, .i x), (5, .i k)], hp := [], n := 18, pin := 0 }) (fun k => k ≤ xs.length ∧ ∀ i, i < k → xs[i]? ≠ some x) (fun k => xs.length - k) 0 ?_ ?_ ?_
 ·exact ⟨by omega, by intro i hi; omega⟩
 ·exact lmz
 ·rintro k ⟨hk, hno⟩ K hK
  (refine wk1 @tInts_len ?_; (repeat clear hK K); repeat (refine Kq.mk ?_; intro K hK))
  (refine aw_cnd ?_; intro X Y hX hY; simp only [go_sem])
  refine ⟨fun h => hX ?_, fun h => hY ?_⟩
  ·have hlt : k < xs.length := by simpa using h
   clear hX hY X Y h
   (refine wk1 (an @tInts_len (tInts_get (List.getElem?_eq_getElem hlt))) ?_; (repeat clear hK K); repeat (refine Kq.mk ?_; intro K hK))
   (refine aw_cnd ?_; intro X Y hX hY; simp only [go_sem])
   refine ⟨fun h => hX ?_, fun h => hY ?_⟩
   ·clear hX hY X Y
    (refine wk0 ?_; (repeat clear hK K); repeat (refine Kq.mk ?_; intro K hK))
    ((try refine aw_ret ?_); (try refine lst_nil ?_); (try simp only [ThenA, InBl]); refine ret_mk (by first | exact .inl rfl | exact .inr rfl) rfl ?_; simp only [rtn, resA, resL, resV, Tryz.results125, go_sem])
    have : x ∈ xs := by rw [← beq_iff_eq.1 h]; exact List.getElem_mem hlt
    simp [this]
   ·clear hX hY X Y
    (refine wk0 ?_; (repeat clear hK K); repeat (refine Kq.mk ?_; intro K hK))
    refine rnz ?_
    refine hK _ (k + 1) ⟨by omega, fun i hi => ?_⟩ (by omega) ?_
    ·by_cases e : i = k
     ·subst e; rw [List.getElem?_eq_getElem hlt]; simpa using h
     ·exact hno i (by omega)
    ·exact lmz
  ·have hge : k = xs.length := by simp at h; omega
   clear hX hY X Y
   (refine ekz ?_; repeat clear hK K)
   (refine wk0 ?_; (repeat clear hK K); repeat (refine Kq.mk ?_; intro K hK))
   ((try refine aw_ret ?_); (try refine lst_nil ?_); (try simp only [ThenA, InBl]); refine ret_mk (by first | exact .inl rfl | exact .inr rfl) rfl ?_; simp only [rtn, resA, resL, resV, Tryz.results125, go_sem])
   have : x ∉ xs := by
    intro hm
    obtain ⟨i, hi⟩ := List.mem_iff_getElem?.1 hm
    exact hno i (by rw [hge]; exact (List.getElem?_eq_some_iff.1 hi).1) hi
   simp [this]

def cSetsO (L : List (List Int)) : List C := L.map fun r => C.o (1, 3) (tInts r)
theorem cSetsO_len (L : List (List Int)) : (cSetsO L).length = L.length := by simp [cSetsO]
theorem cSetsO_set (L : List (List Int)) (i : Nat) (x : List Int) : (cSetsO L).set i (.o (1, 3) (tInts x)) = cSetsO (L.set i x) := by simp [cSetsO, List.map_set]
theorem cSetsO_ren (f : List Nat) (L : List (List Int)) : (cSetsO L).map (C.ren f) = cSetsO L := by simp [cSetsO, C.ren, Function.comp_def]
theorem tInts_one (x : Int) : (tInts [x]).take 1 = tInts [x] := rfl
def RowOk (E : Nat → List Nat) (n j : Nat) (L : List Int) : Prop := ∃ B : List Bool, B.length = n ∧ (∀ u, seenB B u = true ↔ Rc E j u) ∧ L = ((List.range n).filter (seenB B)).map Int.ofNat
def cSetsT (L : List (List Int)) : List C := L.map fun r => C.t 1 (tInts r)
theorem cSetsO_ot (L : List (List Int)) : (cSetsO L).map otC = cSetsT L := by simp [cSetsO, cSetsT, otC, Function.comp_def]
theorem cSetsT_len (L : List (List Int)) : (cSetsT L).length = L.length := by simp [cSetsT]
theorem cSetsT_get {L : List (List Int)} {i : Nat} {x : List Int} (h : L[i]? = some x) : (cSetsT L)[i]? = some (.t 1 (tInts x)) := by simp [cSetsT, h]
theorem RowOk.mem {E : Nat → List Nat} {n j : Nat} {L : List Int} (h : RowOk E n j L) {u : Nat} (hu : u < n) : (u : Int) ∈ L ↔ Rc E j u := by
 obtain ⟨B, _, h2, rfl⟩ := h
 rw [mem_cast, List.mem_filter, List.mem_range, h2]
 exact ⟨fun h => h.2, fun h => ⟨hu, h⟩⟩
theorem RowOk.nat {E : Nat → List Nat} {n j : Nat} {L : List Int} (h : RowOk E n j L) {x : Int} (hx : x ∈ L) : ∃ u : Nat, x = u ∧ u < n := by
 obtain ⟨B, _, h2, rfl⟩ := h
 obtain ⟨u, hu, rfl⟩ := List.mem_map.1 hx
 exact ⟨u, rfl, List.mem_range.1 (List.mem_filter.1 hu).1⟩
theorem RowOk.len {E : Nat → List Nat} {n j : Nat} {L : List Int} (h : RowOk E n j L) : L.length ≤ n := by
 obtain ⟨B, _, h2, rfl⟩ := h
 rw [List.length_map]
 have := List.length_filter_le (seenB B) (List.range n)
 simpa using this
set_option maxHeartbeats 8000000 in
theorem compR_fc (R : List (List Ar)) (t : Bool) (hv : valB R = true) (hn : R.length ≤ 1000000) (hr : ∀ r ∈ R, r.length ≤ 1000000) : FC Tryz.prog 75 [aLts R, .b t] [] (fun r o => ∃ D : List Int, D.length = R.length ∧ (∀ v, v < R.length → Least (AdjF t R) v (fnL D (-1) v)) ∧ o = [rInts D] ∧ r = .a (.c (.s 0 R.length))) := by
 refine fc_intro Tryz.func75 rfl (by rw [Tryz.ntmps75]; simp) ?_
 rw [Tryz.ntmps75]
 simp only [enum, aLts]
 (refine wk0 ?_; (repeat clear hK K); repeat (refine Kq.mk ?_; intro K hK))
 (refine ckz (validR_fc R (by omega) (fun r h => by have := hr r h; omega)) ?_; intro K1 hK1)
 rintro _ _ ⟨rfl, rfl⟩
 (refine bkz ?_; clear hK1 K1)
 (refine wk1 (an @hv @Bool.not_true) ?_; (repeat clear hK K); repeat (refine Kq.mk ?_; intro K hK))
 refine cyz ?_
 (refine wk1 @tRows_len ?_; (repeat clear hK K); repeat (refine Kq.mk ?_; intro K hK))
 have e0 : List.replicate R.length (C.o (1, 3) []) = cSetsO (List.replicate R.length []) := by simp [cSetsO, tInts]
 rw [e0]
 refine aw_loop (fun x : Nat × List (List Int) => { tm := [(1, .b t), (2, .a (.c (.p 0 0))), (5, .a (.c (.s 1 R.length))), (6, .i x.1)], hp := [.r ⟨25, 1, false, [.t 1 (tRows R)]⟩, .r ⟨22, 1, true, cSetsO x.2⟩], n := 83, pin := 0 }) (fun x => x.1 ≤ R.length ∧ x.2.length = R.length ∧ ∀ j, j < x.1 → ∃ L, x.2[j]? = some L ∧ RowOk (AdjF t R) R.length j L) (fun x => R.length - x.1) (0, List.replicate R.length []) ?_ ?_ ?_
 ·exact ⟨by simp, by simp, fun j h => by simp at h⟩
 ·exact lmz
 ·rintro ⟨k, Ls⟩ ⟨hk, hLl, hrows⟩ K hK
  simp only at hk hLl hrows
  by_cases hlt : k < R.length
  ·have d1 : decide ((k : Int) < (R.length : Int)) = true := by simpa using hlt
   (refine wk1 (an @d1 @tRows_len) ?_; (repeat clear hK K); repeat (refine Kq.mk ?_; intro K hK))
   refine cxz ?_
   (refine wk0 ?_; (repeat clear hK K); repeat (refine Kq.mk ?_; intro K hK))
   have hpk : (tInts [(k : Int)]).length = 1 := rfl
   (refine lst_le (le_frz (r := ⟨3, 1, true, cInts [(k : Int)]⟩) 2 (tInts [(k : Int)]) rfl (fz_c _) (show 0 < (1 : Nat) by omega)) ?_; simp only [ST.frz, A0.frz, AV.frz, C.frz, Nat.le_refl, List.set_cons_zero, List.set_cons_succ, go_sem, hpk, tInts_one])
   (refine ckz (reach_fc R k t hv hlt hn hr) ?_; intro K1 hK1)
   rintro _ _ ⟨B, hB, hBr, L, hL, rfl, rfl⟩
   (simp only [aInts, aSets, rInts, cInts_up, List.append_nil, List.nil_append, List.length_map, go_sem]; refine hK1 _ ?_; clear hK1 K1)
   have hkL : k < Ls.length := by omega
   (refine wks1 (an @cSetsO_len @hLl) ?_; (repeat clear hK K); repeat (refine Kq.mk ?_; intro K hK))
   have hj6 : ((cSetsO Ls).set k (C.s 3 L.length))[k]? = some (.s 3 L.length) := by rw [List.getElem?_set_self (by rw [cSetsO_len]; omega)]
   have hset6 : ((cSetsO Ls).set k (C.s 3 L.length)).set k (.o (1, 3) (tInts L)) = cSetsO (Ls.set k L) := by rw [List.set_set, cSetsO_set]
   refine rnz ?_
   refine hK _ (k + 1, Ls.set k L) ⟨by simp only; omega, by simp [hLl], fun j hj => ?_⟩ (by simp only; omega) ?_
   ·rcases Nat.lt_or_ge j k with h | h
    ·obtain ⟨L0, q1, q2⟩ := hrows j h
     exact ⟨L0, by simp only; rw [List.getElem?_set_ne (by omega)]; exact q1, q2⟩
    ·have : j = k := by simp only at hj; omega
     subst this
     exact ⟨L, by simp only; rw [List.getElem?_set_self hkL], B, hB, hBr, hL⟩
   ·refine Le.trans (le_sink (r := ⟨3, 1, true, cInts L⟩) (ri := ⟨22, 1, true, (cSetsO Ls).set k (C.s 3 L.length)⟩) (ts := tInts L) 1 k 3 L.length (by decide) rfl hj6 rfl rfl (show 0 < 1 by omega) (by rw [cInts_len, Nat.mul_one]) (fz_c _)) ?_
    simp only [hset6, go_sem]
    refine Le.trans (le_pick [0, 1] rfl rfl) ?_
    (try simp only [List.set_nil, List.take_nil, List.take_zero, List.map_append, go_sem])
    (try simp only [cSetsO_ren])
    exact lmz
  ·have d1 : decide ((k : Int) < (R.length : Int)) = false := by simpa using hlt
   have hke : k = R.length := by omega
   rw [hke] at d1 hrows
   have hlo : looB R = true := decide_eq_true (of_decide_eq_true hv).1
   have hbd := (of_decide_eq_true hlo).2.2.2
   have hAd : ∀ u, u < R.length → ∀ w ∈ AdjF t R u, w < R.length := fun u hu w hw => by
    unfold AdjF at hw
    rw [List.getD_eq_getElem?_getD, List.getElem?_eq_getElem hu, Option.getD_some] at hw
    obtain ⟨a, ha, rfl⟩ := List.mem_map.1 hw
    have h2 := hbd _ (List.getElem_mem hu) a (List.mem_filter.1 ha).1
    omega
   rw [hke]
   (refine wk1 (an @d1 @tRows_len) ?_; (repeat clear hK K); repeat (refine Kq.mk ?_; intro K hK))
   refine cyz ?_
   (refine ekz ?_; repeat clear hK K)
   refine aw_le (le_ot 1 rfl) ?_
   simp only [cSetsO_ot, go_sem]
   (refine wk1 @tRows_len ?_; (repeat clear hK K); repeat (refine Kq.mk ?_; intro K hK))
   have e2 : List.replicate R.length (C.v (.int .i64 0)) = cInts (List.replicate R.length 0) := by simp [cInts]
   rw [e2]
   refine aw_loop (fun x : Nat × List Int => { tm := [(2, .a (.c (.p 0 0))), (5, .a (.c (.s 1 R.length))), (7, .a (.c (.s 2 R.length))), (8, .i x.1)], hp := [.r ⟨25, 1, false, [.t 1 (tRows R)]⟩, .r ⟨22, 1, true, cSetsT Ls⟩, .r ⟨3, 1, true, cInts x.2⟩], n := 83, pin := 0 }) (fun x => x.1 ≤ R.length ∧ x.2.length = R.length ∧ ∀ j, j < x.1 → Least (AdjF t R) j (fnL x.2 (-1) j)) (fun x => R.length - x.1) (0, List.replicate R.length 0) ?_ ?_ ?_
   ·exact ⟨by simp, by simp, fun j h => by simp at h⟩
   ·exact lmz
   ·rintro ⟨i, D⟩ ⟨hi, hDl, hDL⟩ K hK
    simp only at hi hDl hDL
    by_cases hlt2 : i < R.length
    ·have d2 : decide ((i : Int) < (R.length : Int)) = true := by simpa using hlt2
     obtain ⟨Li, g1, hLi⟩ := hrows i hlt2
     have gLi := cSetsT_get g1
     have hLil := hLi.len
     (refine wk1 (an @d2 @tRows_len) ?_; (repeat clear hK K); repeat (refine Kq.mk ?_; intro K hK))
     refine cxz ?_
     (refine wks1 (an @cInts_len (an @hDl @cInts_set)) ?_; (repeat clear hK K); repeat (refine Kq.mk ?_; intro K hK))
     refine aw_loop (fun x : Nat × Nat => { tm := [(2, .a (.c (.p 0 0))), (5, .a (.c (.s 1 R.length))), (7, .a (.c (.s 2 R.length))), (8, .i i), (9, .i x.1)], hp := [.r ⟨25, 1, false, [.t 1 (tRows R)]⟩, .r ⟨22, 1, true, cSetsT Ls⟩, .r ⟨3, 1, true, cInts (D.set i (x.2 : Int))⟩], n := 83, pin := 0 }) (fun x => x.1 ≤ Li.length ∧ Rc (AdjF t R) i x.2 ∧ Rc (AdjF t R) x.2 i ∧ ∀ j u : Nat, j < x.1 → Li[j]? = some (u : Int) → Rc (AdjF t R) u i → x.2 ≤ u) (fun x => Li.length - x.1) (0, i) ?_ ?_ ?_
     ·exact ⟨by simp, .refl _, .refl _, fun j u h => by simp at h⟩
     ·exact lmz
     ·rintro ⟨k, c⟩ ⟨hk, hc1, hc2, hc3⟩ K hK
      simp only at hk hc1 hc2 hc3
      have hcn : c < R.length := hc1.lt hlt2 hAd
      by_cases hlt3 : k < Li.length
      ·have d3 : decide ((k : Int) < (Li.length : Int)) = true := by simpa using hlt3
       obtain ⟨un, hun, hul⟩ := hLi.nat (List.getElem_mem hlt3)
       have hgk : Li[k]? = some (un : Int) := by rw [List.getElem?_eq_getElem hlt3, hun]
       have gk := tInts_get hgk
       have hRu := (hLi.mem hul).1 (by rw [← hun]; exact List.getElem_mem hlt3)
       obtain ⟨Lu, g2, hLu⟩ := hrows un hul
       have gLu := cSetsT_get g2
       have gD : (cInts (D.set i (c : Int)))[i]? = some (.v (.int .i64 c)) := cInts_get (List.getElem?_set_self (by omega))
       (refine wk1 (an @d3 (an @cSetsT_len (an @hLl (an @gLi @tInts_len)))) ?_; (repeat clear hK K); repeat (refine Kq.mk ?_; intro K hK))
       refine cxz ?_
       by_cases hq : un < c
       ·have d4 : decide ((un : Int) < (c : Int)) = true := by simp; omega
        (refine wk1 (an @cSetsT_len (an @hLl (an @gLi (an @gLu (an @tInts_len (an @gk (an @gD (an @cInts_len (an @List.length_set.{0} (an @hDl @d4)))))))))) ?_; (repeat clear hK K); repeat (refine Kq.mk ?_; intro K hK))
        (refine lst_goU rfl rfl (by simp only [go_sem] <;> rfl) ?_; intro K1 hK1; refine (stp_call0 (ids := []) (hasT_fc Lu (i : Int) (by have := hLu.len; omega)) rfl rfl (by simp only [go_sem]) (by kernel_rfl) (by (simp only [List.append_nil, go_sem]) <;> rfl) ?_).stp)
        rintro _ _ ⟨rfl, rfl⟩
        (refine bkz ?_; clear hK1 K1)
        have hmm := hLu.mem hlt2
        by_cases hm : (i : Int) ∈ Lu
        ·have d5 : decide ((i : Int) ∈ Lu) = true := by simpa using hm
         (refine wk1 @d5 ?_; (repeat clear hK K); repeat (refine Kq.mk ?_; intro K hK))
         (refine aw_cnd ?_; intro X Y hX hY; simp only [go_sem, d5])
         refine hX ?_
         clear hX hY X Y
         (refine wks1 (an @cInts_len (an @List.length_set.{0} (an @hDl (an @cInts_set @List.set_set.{0})))) ?_; (repeat clear hK K); repeat (refine Kq.mk ?_; intro K hK))
         refine rnz ?_
         refine hK _ (k + 1, un) ⟨by simp only; omega, hRu, hmm.1 hm, fun j u hj hu hm2 => ?_⟩ (by simp only; omega) ?_
         ·rcases Nat.lt_or_ge j k with h | h
          ·have := hc3 j u h hu hm2
           simp only; omega
          ·have : j = k := by simp only at hj; omega
           subst this
           rw [hgk] at hu
           have : un = u := Int.ofNat.inj (Option.some.inj hu)
           simp only; omega
         ·exact lmz
        ·have d5 : decide ((i : Int) ∈ Lu) = false := by simpa using hm
         (refine wk1 @d5 ?_; (repeat clear hK K); repeat (refine Kq.mk ?_; intro K hK))
         (refine aw_cnd ?_; intro X Y hX hY; simp only [go_sem, d5])
         refine hY ?_
         clear hX hY X Y
         (refine wk0 ?_; (repeat clear hK K); repeat (refine Kq.mk ?_; intro K hK))
         refine rnz ?_
         refine hK _ (k + 1, c) ⟨by simp only; omega, hc1, hc2, fun j u hj hu hm2 => ?_⟩ (by simp only; omega) ?_
         ·rcases Nat.lt_or_ge j k with h | h
          ·exact hc3 j u h hu hm2
          ·have : j = k := by simp only at hj; omega
           subst this
           rw [hgk] at hu
           have : un = u := Int.ofNat.inj (Option.some.inj hu)
           subst this
           exact absurd (hmm.2 hm2) hm
         ·exact lmz
       ·have d4 : decide ((un : Int) < (c : Int)) = false := by simp; omega
        (refine wk1 (an @cSetsT_len (an @hLl (an @gLi (an @gLu (an @tInts_len (an @gk (an @gD (an @cInts_len (an @List.length_set.{0} (an @hDl @d4)))))))))) ?_; (repeat clear hK K); repeat (refine Kq.mk ?_; intro K hK))
        refine cyz ?_
        (refine wk0 ?_; (repeat clear hK K); repeat (refine Kq.mk ?_; intro K hK))
        refine rnz ?_
        refine hK _ (k + 1, c) ⟨by simp only; omega, hc1, hc2, fun j u hj hu hm => ?_⟩ (by simp only; omega) ?_
        ·rcases Nat.lt_or_ge j k with h | h
         ·exact hc3 j u h hu hm
         ·have : j = k := by simp only at hj; omega
          subst this
          rw [hgk] at hu
          have : un = u := Int.ofNat.inj (Option.some.inj hu)
          simp only; omega
        ·exact lmz
      ·have d3 : decide ((k : Int) < (Li.length : Int)) = false := by simpa using hlt3
       (refine wk1 (an @d3 (an @cSetsT_len (an @hLl (an @gLi @tInts_len)))) ?_; (repeat clear hK K); repeat (refine Kq.mk ?_; intro K hK))
       refine cyz ?_
       (refine ekz ?_; repeat clear hK K)
       (refine wk0 ?_; (repeat clear hK K); repeat (refine Kq.mk ?_; intro K hK))
       refine rnz ?_
       refine hK _ (i + 1, D.set i (c : Int)) ⟨by simp only; omega, by simp [hDl], fun j hj => ?_⟩ (by simp only; omega) ?_
       ·simp only at hj ⊢
        rw [fnL_set (by omega)]
        by_cases e : j = i
        ·subst e
         rw [upd_eq]
         refine ⟨c, rfl, hc1, hc2, fun u w1 w2 => ?_⟩
         have hul := w1.lt hlt2 hAd
         obtain ⟨q, hq⟩ := List.getElem?_of_mem ((hLi.mem hul).2 w1)
         have hql : q < Li.length := (List.getElem?_eq_some_iff.1 hq).1
         exact hc3 q u (by omega) hq w2
        ·rw [upd_ne e]
         exact hDL j (by omega)
       ·exact lmz
    ·have d2 : decide ((i : Int) < (R.length : Int)) = false := by simpa using hlt2
     (refine wk1 (an @d2 @tRows_len) ?_; (repeat clear hK K); repeat (refine Kq.mk ?_; intro K hK))
     refine cyz ?_
     (refine ekz ?_; repeat clear hK K)
     (refine wk0 ?_; (repeat clear hK K); repeat (refine Kq.mk ?_; intro K hK))
     ((try refine aw_ret ?_); (try simp only [ThenA, InBl]); refine ret_le (le_pick [2] rfl rfl) ?_; (try simp only [List.set_nil, List.take_nil, List.take_zero, List.map_append, go_sem]); ((try refine aw_ret ?_); (try refine lst_nil ?_); (try simp only [ThenA, InBl]); refine ret_mk (by first | exact .inl rfl | exact .inr rfl) rfl ?_; simp only [rtn, resA, resL, resV, Tryz.results75, go_sem, true_and, and_true, cInts_ren]))
     exact ⟨D, hDl, fun v hv2 => hDL v (by omega), rfl⟩
end Go.Proofs.YthlckclbjknldaaGreat
namespace Go.Proofs.YthlckclbjknldaaGreat
set_option linter.unusedVariables false
set_option linter.unusedSimpArgs false
open Go.RowKit
set_option maxRecDepth 100000

theorem addI_at {x : Int} : ∀ {xs : List Int} {k : Nat}, k ≤ xs.length → (∀ i y, i < k → xs[i]? = some y → y < x) → (∀ y, xs[k]? = some y → x < y) → addI x xs = xs.take k ++ x :: xs.drop k
 | [], k, hk, _, _ => by simp at hk; subst hk; rfl
 | y :: ys, 0, _, _, h2 => by
  have := h2 y rfl
  simp only [addI, List.take_zero, List.drop_zero, List.nil_append]
  rw [if_neg (by omega), if_neg (by omega)]
 | y :: ys, k + 1, hk, h1, h2 => by
  have := h1 0 y (by omega) rfl
  simp only [addI, List.take_succ_cons, List.drop_succ_cons, List.cons_append]
  rw [if_pos this, addI_at (by simpa using hk) (fun i z hi hz => h1 (i + 1) z (by omega) hz) (fun z hz => h2 z hz)]
theorem addI_has {x : Int} : ∀ {xs : List Int} {k : Nat}, (∀ i y, i < k → xs[i]? = some y → y < x) → xs[k]? = some x → addI x xs = xs
 | [], k, _, h => by simp at h
 | y :: ys, 0, _, h => by simp at h; simp [addI, h]
 | y :: ys, k + 1, h1, h => by
  have := h1 0 y (by omega) rfl
  simp only [addI]
  rw [if_pos this, addI_has (fun i z hi hz => h1 (i + 1) z (by omega) hz) h]

/-- Add, at a frozen list -/
theorem addT_fc (xs : List Int) (x : Int) (hn : xs.length ≤ 100000000) : FC Tryz.prog 155 [aInts xs, .i x] [] (fun r o => o = [] ∧ r = aInts (addI x xs)) := by
 refine fc_intro Tryz.func155 rfl (by rw [Tryz.ntmps155]; simp) ?_
 rw [Tryz.ntmps155]
 simp only [enum, aInts]
 (refine wk0 ?_; (repeat clear hK K); repeat (refine Kq.mk ?_; intro K hK))
 refine aw_loop (fun k : Nat => { tm := [(0, .a (.c (.t 1 (tInts xs)))), (1, .i x), (5, .i k)], hp := [], n := 48, pin := 0 }) (fun k => k ≤ xs.length ∧ ∀ i y, i < k → xs[i]? = some y → y < x) (fun k => xs.length - k) 0 ?_ ?_ ?_
 ·exact ⟨by omega, by intro i y hi; omega⟩
 ·exact lmz
 ·rintro k ⟨hk, he⟩ K hK
  have fin : ∀ y, (∀ z, xs[k]? = some z → x < z) → y = tInts (xs.take k ++ [x] ++ xs.drop k) → y = tInts (addI x xs) := by
   intro y h1 h2
   rw [h2, addI_at hk he h1]; simp
  have hlen : (xs.take k ++ [x] ++ xs.drop k).length = k + 1 + (xs.length - k) := by simp; omega
  have hlen2 : (xs.take k).length = k := by simp; omega
  have hlen3 : (xs.take k ++ [x]).length = k + 1 := by simp; omega
  by_cases hlt : k < xs.length
  ·have hl1 : decide ((k : Int) < (xs.length : Int)) = true := by simpa using hlt
   (refine wk1 (an @hl1 (an @tInts_len (tInts_get (List.getElem?_eq_getElem hlt)))) ?_; (repeat clear hK K); repeat (refine Kq.mk ?_; intro K hK))
   (refine aw_cnd ?_; intro X Y hX hY; simp only [go_sem])
   refine ⟨fun h => hX ?_, fun h => hY ?_⟩
   ·clear hX hY X Y
    (refine wk0 ?_; (repeat clear hK K); repeat (refine Kq.mk ?_; intro K hK))
    refine rnz ?_
    refine hK _ (k + 1) ⟨by omega, fun i y hi hy => ?_⟩ (by omega) ?_
    ·by_cases e : i = k
     ·subst e; rw [List.getElem?_eq_getElem hlt] at hy; cases hy; simpa using h
     ·exact he i y (by omega) hy
    ·exact lmz
   ·have hle : x ≤ xs[k] := by simpa using h
    clear hX hY X Y
    (refine ekz ?_; repeat clear hK K)
    (refine wk1 (an @hl1 (an @tInts_len (tInts_get (List.getElem?_eq_getElem hlt)))) ?_; (repeat clear hK K); repeat (refine Kq.mk ?_; intro K hK))
    (refine aw_cnd ?_; intro X Y hX hY; simp only [go_sem])
    refine ⟨fun h => hX ?_, fun h => hY ?_⟩
    ·clear hX hY X Y
     (refine wk0 ?_; (repeat clear hK K); repeat (refine Kq.mk ?_; intro K hK))
     ((try refine aw_ret ?_); (try refine lst_nil ?_); (try simp only [ThenA, InBl]); refine ret_mk (by first | exact .inl rfl | exact .inr rfl) rfl ?_; simp only [rtn, resA, resL, resV, Tryz.results155, go_sem])
     rw [addI_has he (by rw [List.getElem?_eq_getElem hlt]; simpa using h)]
    ·have hne : x < xs[k] := by simp at h; omega
     clear hX hY X Y
     (refine wk1 (an @List.set_cons_zero.{0} (an @List.set_cons_succ.{0} (an @List.take_succ_cons.{0} (an @List.take_zero.{0} (an @List.drop_zero.{0} (an @List.length_take.{0} (an @List.length_drop.{0} (an @List.length_append.{0} (an @tInts_len (an @tInts_take (an @tInts_drop (an @tInts_c (an @cInts_len (an @cInts_one (an @cInts_snoc (an @cInts_app (an @cInts_take (an @cInts_drop (an (Nat.min_eq_left hk) (an (List.take_of_length_le (Nat.le_of_eq hlen2)) (List.take_of_length_le (Nat.le_of_eq hlen3)))))))))))))))))))))) ?_; (repeat clear hK K); repeat (refine Kq.mk ?_; intro K hK))
     ((try refine aw_ret ?_); (try simp only [ThenA, InBl]); refine ret_le (le_frz (r := ⟨3, 1, true, cInts (xs.take k ++ [x] ++ xs.drop k)⟩) 4 (tInts (xs.take k ++ [x] ++ xs.drop k)) rfl (fz_c _) (show 0 < (1 : Nat) by omega)) ?_; refine ret_le (le_pick [] rfl rfl) ?_; simp only [ST.frz, A0.frz, AV.frz, C.frz, Nat.le_refl, List.set_cons_zero, List.set_cons_succ, go_sem, tInts_len, hlen, Nat.le_refl, tInts_take, List.take_of_length_le (Nat.le_of_eq hlen)]; (try simp only [List.set_nil, List.take_nil, List.take_zero, List.map_append, go_sem]); ((try refine aw_ret ?_); (try refine lst_nil ?_); (try simp only [ThenA, InBl]); refine ret_mk (by first | exact .inl rfl | exact .inr rfl) rfl ?_; simp only [rtn, resA, resL, resV, Tryz.results155, go_sem, true_and, and_true, tInts_len, hlen, Nat.le_refl, tInts_take, List.take_of_length_le (Nat.le_of_eq hlen)]))
     rw [fin _ (fun z hz => by rw [List.getElem?_eq_getElem hlt] at hz; cases hz; exact hne) rfl]
  ·have hl1 : decide ((k : Int) < (xs.length : Int)) = false := by simpa using hlt
   (refine wk1 (an @hl1 @tInts_len) ?_; (repeat clear hK K); repeat (refine Kq.mk ?_; intro K hK))
   refine cyz ?_
   (refine ekz ?_; repeat clear hK K)
   (refine wk1 (an @hl1 @tInts_len) ?_; (repeat clear hK K); repeat (refine Kq.mk ?_; intro K hK))
   refine cyz ?_
   (refine wk1 (an @List.set_cons_zero.{0} (an @List.set_cons_succ.{0} (an @List.take_succ_cons.{0} (an @List.take_zero.{0} (an @List.drop_zero.{0} (an @List.length_take.{0} (an @List.length_drop.{0} (an @List.length_append.{0} (an @tInts_len (an @tInts_take (an @tInts_drop (an @tInts_c (an @cInts_len (an @cInts_one (an @cInts_snoc (an @cInts_app (an @cInts_take (an @cInts_drop (an (Nat.min_eq_left hk) (an (List.take_of_length_le (Nat.le_of_eq hlen2)) (List.take_of_length_le (Nat.le_of_eq hlen3)))))))))))))))))))))) ?_; (repeat clear hK K); repeat (refine Kq.mk ?_; intro K hK))
   ((try refine aw_ret ?_); (try simp only [ThenA, InBl]); refine ret_le (le_frz (r := ⟨3, 1, true, cInts (xs.take k ++ [x] ++ xs.drop k)⟩) 4 (tInts (xs.take k ++ [x] ++ xs.drop k)) rfl (fz_c _) (show 0 < (1 : Nat) by omega)) ?_; refine ret_le (le_pick [] rfl rfl) ?_; simp only [ST.frz, A0.frz, AV.frz, C.frz, Nat.le_refl, List.set_cons_zero, List.set_cons_succ, go_sem, tInts_len, hlen, Nat.le_refl, tInts_take, List.take_of_length_le (Nat.le_of_eq hlen)]; (try simp only [List.set_nil, List.take_nil, List.take_zero, List.map_append, go_sem]); ((try refine aw_ret ?_); (try refine lst_nil ?_); (try simp only [ThenA, InBl]); refine ret_mk (by first | exact .inl rfl | exact .inr rfl) rfl ?_; simp only [rtn, resA, resL, resV, Tryz.results155, go_sem, true_and, and_true, tInts_len, hlen, Nat.le_refl, tInts_take, List.take_of_length_le (Nat.le_of_eq hlen)]))
   rw [fin _ (fun z hz => by rw [List.getElem?_eq_none (by omega)] at hz; cases hz) rfl]

end Go.Proofs.YthlckclbjknldaaGreat
