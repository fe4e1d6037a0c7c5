/- AddSet and the reference's Minimal, by the machine. The reference's Minimal, by the machine. -/
import Derived.Test.YthlckclbjknldaaGreatZk
import Derived.Test.YthlckclbjknldaaGreatMF
import Derived.Test.YthlckclbjknldaaGreatTl1
import Derived.Test.YthlckclbjknldaaGreatMI
import Derived.Test.YthlckclbjknldaaGreatMG
namespace Go.Proofs.YthlckclbjknldaaGreat
set_option linter.unusedVariables false
set_option linter.unusedSimpArgs false
open Go.RowKit
set_option maxRecDepth 100000

theorem cSets_take (xs : List (List Int)) (n : Nat) : (cSets xs).take n = cSets (xs.take n) := by simp [cSets, List.map_take]
theorem cSets_drop (xs : List (List Int)) (n : Nat) : (cSets xs).drop n = cSets (xs.drop n) := by simp [cSets, List.map_drop]
theorem cSets_app (xs ys : List (List Int)) : cSets xs ++ cSets ys = cSets (xs ++ ys) := by simp [cSets]
theorem cSets_one (xs : List (List Int)) : (cSets xs).all C.one = true := by simp [cSets, C.one]
theorem cSets_snoc (xs : List (List Int)) (x : List Int) : cSets xs ++ [.t 1 (tInts x)] = cSets (xs ++ [x]) := by simp [cSets]
theorem tSets_take (xs : List (List Int)) (n : Nat) : (tSets xs).take n = tSets (xs.take n) := by simp [tSets, List.map_take]
theorem tSets_drop (xs : List (List Int)) (n : Nat) : (tSets xs).drop n = tSets (xs.drop n) := by simp [tSets, List.map_drop]
theorem tSets_c (xs : List (List Int)) : (tSets xs).map C.ofTr = cSets xs := tSets_of xs
theorem fz_cs (L : List (List Int)) : Fz (cSets L) (tSets L) := by unfold cSets tSets; exact Fz.map fun x _ => .inl rfl
theorem addS_at {x : List Int} : ∀ {xs : List (List Int)} {k : Nat}, k ≤ xs.length → (∀ i y, i < k → xs[i]? = some y → lessI y x = true) → (∀ y, xs[k]? = some y → lessI y x = false ∧ y ≠ x) → addS x xs = xs.take k ++ x :: xs.drop k
 | [], k, hk, _, _ => by simp at hk; subst hk; rfl
 | y :: ys, 0, _, _, h2 => by
  obtain ⟨h3, h4⟩ := h2 y rfl
  simp only [addS, List.take_zero, List.drop_zero, List.nil_append]
  rw [if_neg (by rw [h3]; simp), if_neg h4]
 | y :: ys, k + 1, hk, h1, h2 => by
  have := h1 0 y (by omega) rfl
  simp only [addS, List.take_succ_cons, List.drop_succ_cons, List.cons_append]
  rw [if_pos this, addS_at (by simpa using hk) (fun i z hi hz => h1 (i + 1) z (by omega) hz) (fun z hz => h2 z hz)]
theorem addS_has {x : List Int} : ∀ {xs : List (List Int)} {k : Nat}, (∀ i y, i < k → xs[i]? = some y → lessI y x = true) → xs[k]? = some x → addS x xs = xs
 | [], k, _, h => by simp at h
 | y :: ys, 0, _, h => by simp at h; subst h; simp [addS, lessI_irr]
 | y :: ys, k + 1, h1, h => by
  have := h1 0 y (by omega) rfl
  simp only [addS]
  rw [if_pos this, addS_has (fun i z hi hz => h1 (i + 1) z (by omega) hz) h]

theorem addSet_fc (xs : List (List Int)) (x : List Int) (hn : xs.length ≤ 100000000) (hx : x.length ≤ 140737488355328) (hb : ∀ y ∈ xs, y.length ≤ 140737488355328) : FC Tryz.prog 134 [aSets xs, aInts x] [] (fun r o => o = [] ∧ r = aSets (addS x xs)) := by
 refine fc_intro Tryz.func134 rfl (by rw [Tryz.ntmps134]; simp) ?_
 rw [Tryz.ntmps134]
 simp only [enum, aInts, aSets]
 (refine wk0 ?_; (repeat clear hK K); repeat (refine Kq.mk ?_; intro K hK))
 refine aw_loop (fun k : Nat => { tm := [(0, .a (.c (.t 1 (tSets xs)))), (1, .a (.c (.t 1 (tInts x)))), (5, .i k)], hp := [], n := 48, pin := 0 }) (fun k => k ≤ xs.length ∧ ∀ i y, i < k → xs[i]? = some y → lessI y x = true) (fun k => xs.length - k) 0 ?_ ?_ ?_
 ·exact ⟨by omega, by intro i y hi; omega⟩
 ·exact lmz
 ·rintro k ⟨hk, he⟩ K hK
  have fin : (∀ z, xs[k]? = some z → lessI z x = false ∧ z ≠ x) → addS x xs = xs.take k ++ [x] ++ xs.drop k := by
   intro h1
   rw [addS_at hk he h1]; simp
  have hlen : (xs.take k ++ [x] ++ xs.drop k).length = k + 1 + (xs.length - k) := by simp; omega
  have hlen2 : (xs.take k).length = k := by simp; omega
  have hlen3 : (xs.take k ++ [x]).length = k + 1 := by simp; omega
  by_cases hlt : k < xs.length
  ·have hl1 : decide ((k : Int) < (xs.length : Int)) = true := by simpa using hlt
   have hbk := hb _ (List.getElem_mem hlt)
   (refine wk1 (an @hl1 (an @tSets_len (tSets_get (List.getElem?_eq_getElem hlt)))) ?_; (repeat clear hK K); repeat (refine Kq.mk ?_; intro K hK))
   (refine lst_goU rfl rfl (by simp only [go_sem] <;> rfl) ?_; intro K1 hK1; refine (stp_call0 (ids := []) (less_fc xs[k] x hbk hx) rfl rfl (by simp only [go_sem]) (by kernel_rfl) (by (simp only [List.append_nil, go_sem]) <;> rfl) ?_).stp)
   rintro _ _ ⟨rfl, rfl⟩
   (refine bkz ?_; clear hK1 K1)
   (refine wk0 ?_; (repeat clear hK K); repeat (refine Kq.mk ?_; intro K hK))
   (refine aw_cnd ?_; intro X Y hX hY; simp only [go_sem])
   refine ⟨fun h => hX ?_, fun h => hY ?_⟩
   ·clear hX hY X Y
    (refine wk0 ?_; (repeat clear hK K); repeat (refine Kq.mk ?_; intro K hK))
    refine rnz ?_
    refine hK _ (k + 1) ⟨by omega, fun i y hi hy => ?_⟩ (by omega) ?_
    ·by_cases e : i = k
     ·subst e; rw [List.getElem?_eq_getElem hlt] at hy; cases hy; exact h
     ·exact he i y (by omega) hy
    ·exact lmz
   ·have hle : lessI xs[k] x = false := h
    clear hX hY X Y
    (refine ekz ?_; repeat clear hK K)
    (refine wk1 (an @hl1 (an @tSets_len (tSets_get (List.getElem?_eq_getElem hlt)))) ?_; (repeat clear hK K); repeat (refine Kq.mk ?_; intro K hK))
    (refine lst_goU rfl rfl (by simp only [go_sem] <;> rfl) ?_; intro K1 hK1; refine (stp_call0 (ids := []) (rints_fc xs[k] x hbk hx) rfl rfl (by simp only [go_sem]) (by kernel_rfl) (by (simp only [List.append_nil, go_sem]) <;> rfl) ?_).stp)
    rintro _ _ ⟨rfl, rfl⟩
    (refine bkz ?_; clear hK1 K1)
    (refine wk0 ?_; (repeat clear hK K); repeat (refine Kq.mk ?_; intro K hK))
    (refine aw_cnd ?_; intro X Y hX hY; simp only [go_sem])
    refine ⟨fun h => hX ?_, fun h => hY ?_⟩
    ·clear hX hY X Y
     (refine wk0 ?_; (repeat clear hK K); repeat (refine Kq.mk ?_; intro K hK))
     ((try refine aw_ret ?_); (try refine lst_nil ?_); (try simp only [ThenA, InBl]); refine ret_mk (by first | exact .inl rfl | exact .inr rfl) rfl ?_; simp only [rtn, resA, resL, resV, Tryz.results134, go_sem])
     rw [addS_has he (by rw [List.getElem?_eq_getElem hlt]; simpa using h)]
    ·have hne : xs[k] ≠ x := by simpa using h
     clear hX hY X Y
     (refine wk1 (an @List.set_cons_zero.{0} (an @List.set_cons_succ.{0} (an @List.take_succ_cons.{0} (an @List.take_zero.{0} (an @List.drop_zero.{0} (an @List.length_take.{0} (an @List.length_drop.{0} (an @List.length_append.{0} (an @tSets_len (an @tSets_take (an @tSets_drop (an @tSets_c (an @cSets_len (an @cSets_one (an @cSets_snoc (an @cSets_app (an @cSets_take (an @cSets_drop (an (Nat.min_eq_left hk) (an (List.take_of_length_le (Nat.le_of_eq hlen2)) (List.take_of_length_le (Nat.le_of_eq hlen3)))))))))))))))))))))) ?_; (repeat clear hK K); repeat (refine Kq.mk ?_; intro K hK))
     ((try refine aw_ret ?_); (try simp only [ThenA, InBl]); refine ret_le (le_frz (r := ⟨22, 1, true, cSets (xs.take k ++ [x] ++ xs.drop k)⟩) 4 (tSets (xs.take k ++ [x] ++ xs.drop k)) rfl (fz_cs _) (show 0 < (1 : Nat) by omega)) ?_; refine ret_le (le_pick [] rfl rfl) ?_; simp only [ST.frz, A0.frz, AV.frz, C.frz, Nat.le_refl, List.set_cons_zero, List.set_cons_succ, go_sem, tSets_len, hlen, Nat.le_refl, tSets_take, List.take_of_length_le (Nat.le_of_eq hlen)]; (try simp only [List.set_nil, List.take_nil, List.take_zero, List.map_append, go_sem]); ((try refine aw_ret ?_); (try refine lst_nil ?_); (try simp only [ThenA, InBl]); refine ret_mk (by first | exact .inl rfl | exact .inr rfl) rfl ?_; simp only [rtn, resA, resL, resV, Tryz.results134, go_sem, true_and, and_true, tSets_len, hlen, Nat.le_refl, tSets_take, List.take_of_length_le (Nat.le_of_eq hlen)]))
     rw [fin (fun z hz => by rw [List.getElem?_eq_getElem hlt] at hz; cases hz; exact ⟨hle, hne⟩)]
  ·have hl1 : decide ((k : Int) < (xs.length : Int)) = false := by simpa using hlt
   (refine wk1 (an @hl1 @tSets_len) ?_; (repeat clear hK K); repeat (refine Kq.mk ?_; intro K hK))
   refine cyz ?_
   (refine ekz ?_; repeat clear hK K)
   (refine wk1 (an @hl1 @tSets_len) ?_; (repeat clear hK K); repeat (refine Kq.mk ?_; intro K hK))
   refine cyz ?_
   (refine wk1 (an @List.set_cons_zero.{0} (an @List.set_cons_succ.{0} (an @List.take_succ_cons.{0} (an @List.take_zero.{0} (an @List.drop_zero.{0} (an @List.length_take.{0} (an @List.length_drop.{0} (an @List.length_append.{0} (an @tSets_len (an @tSets_take (an @tSets_drop (an @tSets_c (an @cSets_len (an @cSets_one (an @cSets_snoc (an @cSets_app (an @cSets_take (an @cSets_drop (an (Nat.min_eq_left hk) (an (List.take_of_length_le (Nat.le_of_eq hlen2)) (List.take_of_length_le (Nat.le_of_eq hlen3)))))))))))))))))))))) ?_; (repeat clear hK K); repeat (refine Kq.mk ?_; intro K hK))
   ((try refine aw_ret ?_); (try simp only [ThenA, InBl]); refine ret_le (le_frz (r := ⟨22, 1, true, cSets (xs.take k ++ [x] ++ xs.drop k)⟩) 4 (tSets (xs.take k ++ [x] ++ xs.drop k)) rfl (fz_cs _) (show 0 < (1 : Nat) by omega)) ?_; refine ret_le (le_pick [] rfl rfl) ?_; simp only [ST.frz, A0.frz, AV.frz, C.frz, Nat.le_refl, List.set_cons_zero, List.set_cons_succ, go_sem, tSets_len, hlen, Nat.le_refl, tSets_take, List.take_of_length_le (Nat.le_of_eq hlen)]; (try simp only [List.set_nil, List.take_nil, List.take_zero, List.map_append, go_sem]); ((try refine aw_ret ?_); (try refine lst_nil ?_); (try simp only [ThenA, InBl]); refine ret_mk (by first | exact .inl rfl | exact .inr rfl) rfl ?_; simp only [rtn, resA, resL, resV, Tryz.results134, go_sem, true_and, and_true, tSets_len, hlen, Nat.le_refl, tSets_take, List.take_of_length_le (Nat.le_of_eq hlen)]))
   rw [fin (fun z hz => by rw [List.getElem?_eq_none (by omega)] at hz; cases hz)]
end Go.Proofs.YthlckclbjknldaaGreat
namespace Go.Proofs.YthlckclbjknldaaGreat
set_option linter.unusedVariables false
set_option linter.unusedSimpArgs false
open Go.RowKit
set_option maxRecDepth 100000

theorem leastB_take (L : List (List Int)) (s : List Int) {j : Nat} (h : j < L.length) : ((L.take (j + 1)).all fun o => !(decide (o.length < s.length) && subB o s)) = (((L.take j).all fun o => !(decide (o.length < s.length) && subB o s)) && !(decide (L[j].length < s.length) && subB L[j] s)) := by
 rw [List.take_succ_eq_append_getElem h, List.all_append]; simp
set_option maxHeartbeats 1000000 in
theorem rmin_fc (L : List (List Int)) (hn : L.length ≤ 1000000) (hb : ∀ x ∈ L, x.length ≤ 100000000) : FC Tryz.prog 85 [aSets L] [] (fun r o => o = [] ∧ r = aSets (minR L)) := by
 refine fc_intro Tryz.func85 rfl (by rw [Tryz.ntmps85]; simp) ?_
 rw [Tryz.ntmps85]
 simp only [enum, aSets]
 (refine wk0 ?_; (repeat clear hK K); repeat (refine Kq.mk ?_; intro K hK))
 refine aw_loop (fun k : Nat => { tm := [(0, .a (.c (.t 1 (tSets L)))), (3, .a (.c (.v (.slice none 0 0)))), (4, .i k)], hp := [], n := 66, pin := 0 }) (fun k => k ≤ L.length ∧ ∀ i x, i < k → L[i]? = some x → ascB x = true) (fun k => L.length - k) 0 ?_ ?_ ?_
 ·exact ⟨by omega, by intro i x hi; omega⟩
 ·exact lmz
 ·rintro k ⟨hk, hno⟩ K hK
  (refine wk1 @tSets_len ?_; (repeat clear hK K); repeat (refine Kq.mk ?_; intro K hK))
  (refine aw_cnd ?_; intro X Y hX hY; simp only [go_sem])
  refine ⟨fun h => hX ?_, fun h => hY ?_⟩
  ·have hlt : k < L.length := by simpa using h
   clear hX hY X Y h
   (refine wk1 (an @tSets_len (tSets_get (List.getElem?_eq_getElem hlt))) ?_; (repeat clear hK K); repeat (refine Kq.mk ?_; intro K hK))
   (refine ckz (rising_fc L[k] (Nat.le_trans (hb _ (List.getElem_mem hlt)) (by omega))) ?_; intro K1 hK1)
   rintro _ _ ⟨rfl, rfl⟩
   (refine bkz ?_; clear hK1 K1)
   (refine wk0 ?_; (repeat clear hK K); repeat (refine Kq.mk ?_; intro K hK))
   (refine aw_cnd ?_; intro X Y hX hY; simp only [go_sem])
   refine ⟨fun h => hX ?_, fun h => hY ?_⟩
   ·clear hX hY X Y
    (refine wk0 ?_; (repeat clear hK K); repeat (refine Kq.mk ?_; intro K hK))
    refine aw_ret ?_
    simp only [ThenA, InBl]
    refine ret_le (le_nilt 2 1 ?_) ?_
    ·simp only [go_sem]
    ((try refine aw_ret ?_); (try refine lst_nil ?_); (try simp only [ThenA, InBl]); refine ret_mk (by first | exact .inl rfl | exact .inr rfl) rfl ?_; simp only [rtn, resA, resL, resV, Tryz.results85, go_sem])
    have h1 : ascB L[k] = false := by simpa using h
    have h2 : L.all ascB = false := by
     rw [List.all_eq_false]
     exact ⟨L[k], List.getElem_mem hlt, by simp [h1]⟩
    simp [minR, h2, tSets]
   ·clear hX hY X Y
    have h1 : ascB L[k] = true := by simpa using h
    (refine wk0 ?_; (repeat clear hK K); repeat (refine Kq.mk ?_; intro K hK))
    refine rnz ?_
    refine hK _ (k + 1) ⟨by omega, fun i x hi hx => ?_⟩ (by omega) ?_
    ·by_cases e : i = k
     ·subst e; rw [List.getElem?_eq_getElem hlt] at hx; cases hx; exact h1
     ·exact hno i x (by omega) hx
    ·exact lmz
  ·have hge : k = L.length := by simp at h; omega
   clear hX hY X Y
   have hall : L.all ascB = true := by
    rw [List.all_eq_true]
    intro s hs
    obtain ⟨i, hi⟩ := List.mem_iff_getElem?.1 hs
    exact hno i s (by rw [hge]; exact (List.getElem?_eq_some_iff.1 hi).1) hi
   clear hno
   (refine ekz ?_; repeat clear hK K)
   (refine wk0 ?_; (repeat clear hK K); repeat (refine Kq.mk ?_; intro K hK))
   refine aw_le (le_nilt 3 1 ?_) ?_
   ·simp only [go_sem]
   refine aw_loop (fun p : Nat × List (List Int) => { tm := [(0, .a (.c (.t 1 (tSets L)))), (3, .a (.c (.t 1 (tSets p.2)))), (5, .i p.1)], hp := [], n := 66, pin := 0 }) (fun p => p.1 ≤ L.length ∧ p.2.length ≤ p.1 ∧ (∀ s ∈ p.2, s ∈ L) ∧ minGo L (L.drop p.1) p.2 = minR L) (fun p => L.length - p.1) (0, []) ?_ ?_ ?_
   ·exact ⟨by omega, by simp, by simp, by simp [minR, hall]⟩
   ·(refine le_tm ?_; simp only [LeTm, go_sem, tSets, List.map_nil]; try simp)
   ·rintro ⟨k, acc⟩ ⟨hk, hal, hsub, he⟩ K hK
    simp only at hk hal hsub he ⊢
    (refine wk1 @tSets_len ?_; (repeat clear hK K); repeat (refine Kq.mk ?_; intro K hK))
    (refine aw_cnd ?_; intro X Y hX hY; simp only [go_sem])
    refine ⟨fun h => hX ?_, fun h => hY ?_⟩
    ·have hlt : k < L.length := by simpa using h
     clear hX hY X Y h
     have hbk := hb _ (List.getElem_mem hlt)
     (refine wk0 ?_; (repeat clear hK K); repeat (refine Kq.mk ?_; intro K hK))
     refine aw_loop (fun j : Nat => { tm := [(0, .a (.c (.t 1 (tSets L)))), (3, .a (.c (.t 1 (tSets acc)))), (5, .i k), (6, .b ((L.take j).all fun o => !(decide (o.length < L[k].length) && subB o L[k]))), (7, .i j)], hp := [], n := 66, pin := 0 }) (fun j => j ≤ L.length) (fun j => L.length - j) 0 ?_ ?_ ?_
     ·omega
     ·exact lmz
     ·rintro j hj K hK
      have ht := @leastB_take L L[k] j
      (refine wk1 @tSets_len ?_; (repeat clear hK K); repeat (refine Kq.mk ?_; intro K hK))
      (refine aw_cnd ?_; intro X Y hX hY; simp only [go_sem])
      refine ⟨fun h => hX ?_, fun h => hY ?_⟩
      ·have hlj : j < L.length := by simpa using h
       have ht := ht hlj
       clear hX hY X Y h
       generalize hB : ((L.take j).all fun o => !(decide (o.length < L[k].length) && subB o L[k])) = B at *
       have hbj := hb _ (List.getElem_mem hlj)
       (refine wk0 ?_; (repeat clear hK K); repeat (refine Kq.mk ?_; intro K hK))
       (refine aw_regionU 22 [(0, 0), (1, 0), (2, 0), (3, 0), (4, 0), (5, 1), (6, 0), (7, 0), (8, 0), (9, 0), (10, 1), (11, 0), (12, 0), (13, 0), (14, 0), (15, 0), (16, 0), (17, 1), (18, 0), (19, 0), (20, 0), (21, 1), (22, 2), (23, 0), (24, 0), (25, 0), (26, 0)] (by kernel_rfl) (by kernel_rfl) (by intro c st h; simp [ThenA, InBl, Ret] at h) ?_)
       cases B with
       | false =>
        (refine ug1 (an @tSets_len @tInts_len) ?_; repeat clear hK K)
        (refine wk0 ?_; (repeat clear hK K); repeat (refine Kq.mk ?_; intro K hK))
        refine rnz ?_
        refine hK _ (j + 1) (by omega) (by omega) ?_
        simp only [ht]
        exact lmz
       | true =>
        by_cases hl : L[j].length < L[k].length
        ·have hl1 : decide ((L[j].length : Int) < (L[k].length : Int)) = true := by simpa using hl
         (refine ug1 (an @tSets_len (an @tInts_len (an (tSets_get (List.getElem?_eq_getElem hlt)) (an (tSets_get (List.getElem?_eq_getElem hlj)) @hl1)))) ?_; repeat clear hK K)
         (refine u_wG rfl rfl rfl (by simp only [go_sem] <;> rfl) rfl ?_; intro K1 hK1; refine (stp_call0 (ids := []) (rsub_fc L[j] L[k] (Nat.le_trans hbj (by omega)) (Nat.le_trans hbk (by omega))) rfl rfl (by simp only [go_sem]) (by kernel_rfl) (by (simp only [List.append_nil, go_sem]) <;> rfl) ?_).stp)
         rintro _ _ ⟨rfl, rfl⟩
         (refine bkz ?_; clear hK1 K1)
         (refine ug0 ?_; repeat clear hK K)
         (refine wk0 ?_; (repeat clear hK K); repeat (refine Kq.mk ?_; intro K hK))
         refine rnz ?_
         refine hK _ (j + 1) (by omega) (by omega) ?_
         simp only [ht, hl, decide_true, Bool.true_and]
         exact lmz
        ·have hl1 : decide ((L[j].length : Int) < (L[k].length : Int)) = false := by simpa using hl
         (refine ug1 (an @tSets_len (an @tInts_len (an (tSets_get (List.getElem?_eq_getElem hlt)) (an (tSets_get (List.getElem?_eq_getElem hlj)) (an @hl1 @Bool.not_false))))) ?_; repeat clear hK K)
         (refine wk0 ?_; (repeat clear hK K); repeat (refine Kq.mk ?_; intro K hK))
         refine rnz ?_
         refine hK _ (j + 1) (by omega) (by omega) ?_
         simp only [ht, hl, decide_false, Bool.false_and, Bool.not_false, Bool.and_true]
         exact lmz
      ·have hge : j = L.length := by simp at h; omega
       clear hX hY X Y
       have hB : ((L.take j).all fun o => !(decide (o.length < L[k].length) && subB o L[k])) = leastB L L[k] := by rw [hge, List.take_length]; rfl
       rw [hB]
       rw [drop_get hlt] at he
       simp only [minGo] at he
       (refine ekz ?_; repeat clear hK K)
       (refine wk0 ?_; (repeat clear hK K); repeat (refine Kq.mk ?_; intro K hK))
       (refine aw_cnd ?_; intro X Y hX hY; simp only [go_sem])
       refine ⟨fun h => hX ?_, fun h => hY ?_⟩
       ·clear hX hY X Y
        rw [h, if_pos rfl] at he
        (refine wk1 (an @tSets_len (tSets_get (List.getElem?_eq_getElem hlt))) ?_; (repeat clear hK K); repeat (refine Kq.mk ?_; intro K hK))
        (refine ckz (addSet_fc acc L[k] (by omega) (Nat.le_trans hbk (by omega)) (fun y hy => Nat.le_trans (hb y (hsub y hy)) (by omega))) ?_; intro K1 hK1)
        rintro _ _ ⟨rfl, rfl⟩
        (refine bkz ?_; clear hK1 K1)
        (refine wk0 ?_; (repeat clear hK K); repeat (refine Kq.mk ?_; intro K hK))
        refine rnz ?_
        have := addS_len L[k] acc
        refine hK _ (k + 1, addS L[k] acc) ⟨by simp only; omega, by simp only; omega, fun s hs => ?_, he⟩ (by simp only; omega) ?_
        ·rcases (mem_addS _ _ _).1 hs with rfl | hs
         ·exact List.getElem_mem hlt
         ·exact hsub s hs
        ·exact lmz
       ·clear hX hY X Y
        rw [if_neg (by rw [h]; simp)] at he
        (refine wk0 ?_; (repeat clear hK K); repeat (refine Kq.mk ?_; intro K hK))
        refine rnz ?_
        refine hK _ (k + 1, acc) ⟨by simp only; omega, by simp only; omega, hsub, he⟩ (by simp only; omega) ?_
        exact lmz
    ·have hge : L.length ≤ k := by simpa using h
     clear hX hY X Y
     rw [List.drop_eq_nil_of_le hge] at he
     simp only [minGo] at he
     (refine ekz ?_; repeat clear hK K)
     (refine wk0 ?_; (repeat clear hK K); repeat (refine Kq.mk ?_; intro K hK))
     ((try refine aw_ret ?_); (try refine lst_nil ?_); (try simp only [ThenA, InBl]); refine ret_mk (by first | exact .inl rfl | exact .inr rfl) rfl ?_; simp only [rtn, resA, resL, resV, Tryz.results85, go_sem])
     rw [he]
end Go.Proofs.YthlckclbjknldaaGreat
