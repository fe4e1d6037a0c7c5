/- ref23: Has at a tree; Components. -/
import Derived.Test.YthlckclbjknldaaGreatG45
import Derived.Test.YthlckclbjknldaaGreatPc1
namespace Go.Proofs.YthlckclbjknldaaGreat
set_option linter.unusedVariables false
set_option linter.unusedSimpArgs false
open Go.RowKit
set_option maxRecDepth 100000
attribute [local go_sem] List.set_cons_zero List.set_cons_succ List.map_cons List.map_nil List.take_succ_cons List.take_zero List.drop_zero List.drop_succ_cons C.pl C.one List.all_cons List.all_nil Bool.and_true Nat.mul_one Int.toNat_natCast

theorem hasT_fc (xs : List Int) (x : Int) (hn : xs.length ≤ 140737488355328) : FC Tryz.prog 125 [aInts xs, .i x] [] (fun r o => o = [] ∧ r = .b (decide (x ∈ xs))) := by
 refine fc_intro Tryz.func125 rfl (by rw [Tryz.ntmps125]; simp) ?_
 rw [Tryz.ntmps125]
 simp only [enum, aInts]
 (repeat (first | (refine aw_seq ?_; intro K hK) | refine aw_block ?_ | refine aw_region ?_ | (refine lst_x rfl rfl ?_; intro K1 hK1; simp only [go_sem]; (first | refine hK1 _ ?_ | refine andk (hK1 _ ?_)); clear hK1 K1) | ((first | refine lst_nil ?_ | refine aw_skip ?_); refine hK _ ?_; clear hK K)))
 refine aw_loop (fun k : Nat => { tm := [(0, .a (.c (.t 1 (tInts xs)))), (1, .i x), (5, .i k)], hp := [], n := 18, pin := 0 }) (fun k => k ≤ xs.length ∧ ∀ i, i < k → xs[i]? ≠ some x) (fun k => xs.length - k) 0 ?_ ?_ ?_
 ·exact ⟨by omega, by intro i hi; omega⟩
 ·(refine le_tm ?_; simp only [LeTm, go_sem]; try simp)
 ·rintro k ⟨hk, hno⟩ K hK
  (repeat (first | (refine aw_seq ?_; intro K hK) | refine aw_block ?_ | refine aw_region ?_ | (refine lst_x rfl rfl ?_; intro K1 hK1; simp only [go_sem, tInts_len]; (first | refine hK1 _ ?_ | refine andk (hK1 _ ?_)); clear hK1 K1) | ((first | refine lst_nil ?_ | refine aw_skip ?_); refine hK _ ?_; clear hK K)))
  (refine aw_cnd ?_; intro X Y hX hY; simp only [go_sem])
  refine ⟨fun h => hX ?_, fun h => hY ?_⟩
  ·have hlt : k < xs.length := by simpa using h
   clear hX hY X Y h
   (repeat (first | (refine aw_seq ?_; intro K hK) | refine aw_block ?_ | refine aw_region ?_ | (refine lst_x rfl rfl ?_; intro K1 hK1; simp only [go_sem, tInts_len, tInts_get (List.getElem?_eq_getElem hlt)]; (first | refine hK1 _ ?_ | refine andk (hK1 _ ?_)); clear hK1 K1) | ((first | refine lst_nil ?_ | refine aw_skip ?_); refine hK _ ?_; clear hK K)))
   (refine aw_cnd ?_; intro X Y hX hY; simp only [go_sem])
   refine ⟨fun h => hX ?_, fun h => hY ?_⟩
   ·clear hX hY X Y
    (repeat (first | (refine aw_seq ?_; intro K hK) | refine aw_block ?_ | refine aw_region ?_ | (refine lst_x rfl rfl ?_; intro K1 hK1; simp only [go_sem]; (first | refine hK1 _ ?_ | refine andk (hK1 _ ?_)); clear hK1 K1) | ((first | refine lst_nil ?_ | refine aw_skip ?_); refine hK _ ?_; clear hK K)))
    ((try refine aw_ret ?_); (try refine lst_nil ?_); (try simp only [ThenA, InBl]); refine ret_mk (by first | exact .inl rfl | exact .inr rfl) rfl ?_; simp only [rtn, resA, resL, resV, Tryz.results125, go_sem])
    have : x ∈ xs := by rw [← beq_iff_eq.1 h]; exact List.getElem_mem hlt
    simp [this]
   ·clear hX hY X Y
    (repeat (first | (refine aw_seq ?_; intro K hK) | refine aw_block ?_ | refine aw_region ?_ | (refine lst_x rfl rfl ?_; intro K1 hK1; simp only [go_sem]; (first | refine hK1 _ ?_ | refine andk (hK1 _ ?_)); clear hK1 K1) | ((first | refine lst_nil ?_ | refine aw_skip ?_); refine hK _ ?_; clear hK K)))
    ((try refine lst_nil ?_); (try refine aw_skip ?_); try simp only [ThenA])
    refine hK _ (k + 1) ⟨by omega, fun i hi => ?_⟩ (by omega) ?_
    ·by_cases e : i = k
     ·subst e; rw [List.getElem?_eq_getElem hlt]; simpa using h
     ·exact hno i (by omega)
    ·(refine le_tm ?_; simp only [LeTm, go_sem]; try simp)
  ·have hge : k = xs.length := by simp at h; omega
   clear hX hY X Y
   (refine aw_exit ?_; simp only [ThenA, InBl, reduceIte, Nat.reduceEqDiff]; (first | refine hK _ ?_ | (clear hK K; refine hK _ ?_) | (clear hK K; clear hK K; refine hK _ ?_) | (clear hK K; clear hK K; clear hK K; refine hK _ ?_) | (clear hK K; clear hK K; clear hK K; clear hK K; refine hK _ ?_) | (clear hK K; clear hK K; clear hK K; clear hK K; clear hK K; refine hK _ ?_)); clear hK K)
   (repeat (first | (refine aw_seq ?_; intro K hK) | refine aw_block ?_ | refine aw_region ?_ | (refine lst_x rfl rfl ?_; intro K1 hK1; simp only [go_sem]; (first | refine hK1 _ ?_ | refine andk (hK1 _ ?_)); clear hK1 K1) | ((first | refine lst_nil ?_ | refine aw_skip ?_); refine hK _ ?_; clear hK K)))
   ((try refine aw_ret ?_); (try refine lst_nil ?_); (try simp only [ThenA, InBl]); refine ret_mk (by first | exact .inl rfl | exact .inr rfl) rfl ?_; simp only [rtn, resA, resL, resV, Tryz.results125, go_sem])
   have : x ∉ xs := by
    intro hm
    obtain ⟨i, hi⟩ := List.mem_iff_getElem?.1 hm
    exact hno i (by rw [hge]; exact (List.getElem?_eq_some_iff.1 hi).1) hi
   simp [this]

def cSetsO (L : List (List Int)) : List C := L.map fun r => C.o (1, 3) (tInts r)
theorem cSetsO_len (L : List (List Int)) : (cSetsO L).length = L.length := by simp [cSetsO]
theorem cSetsO_set (L : List (List Int)) (i : Nat) (x : List Int) : (cSetsO L).set i (.o (1, 3) (tInts x)) = cSetsO (L.set i x) := by simp [cSetsO, List.map_set]
theorem cSetsO_ren (f : List Nat) (L : List (List Int)) : (cSetsO L).map (C.ren f) = cSetsO L := by simp [cSetsO, C.ren, Function.comp_def]
theorem tInts_one (x : Int) : (tInts [x]).take 1 = tInts [x] := rfl
def RowOk (E : Nat → List Nat) (n j : Nat) (L : List Int) : Prop := ∃ B : List Bool, B.length = n ∧ (∀ u, seenB B u = true ↔ Rc E j u) ∧ L = ((List.range n).filter (seenB B)).map Int.ofNat
def cSetsT (L : List (List Int)) : List C := L.map fun r => C.t 1 (tInts r)
theorem cSetsO_ot (L : List (List Int)) : (cSetsO L).map otC = cSetsT L := by simp [cSetsO, cSetsT, otC, Function.comp_def]
theorem cSetsT_len (L : List (List Int)) : (cSetsT L).length = L.length := by simp [cSetsT]
theorem cSetsT_get {L : List (List Int)} {i : Nat} {x : List Int} (h : L[i]? = some x) : (cSetsT L)[i]? = some (.t 1 (tInts x)) := by simp [cSetsT, h]
theorem RowOk.mem {E : Nat → List Nat} {n j : Nat} {L : List Int} (h : RowOk E n j L) {u : Nat} (hu : u < n) : (u : Int) ∈ L ↔ Rc E j u := by
 obtain ⟨B, _, h2, rfl⟩ := h
 rw [mem_cast, List.mem_filter, List.mem_range, h2]
 exact ⟨fun h => h.2, fun h => ⟨hu, h⟩⟩
theorem RowOk.nat {E : Nat → List Nat} {n j : Nat} {L : List Int} (h : RowOk E n j L) {x : Int} (hx : x ∈ L) : ∃ u : Nat, x = u ∧ u < n := by
 obtain ⟨B, _, h2, rfl⟩ := h
 obtain ⟨u, hu, rfl⟩ := List.mem_map.1 hx
 exact ⟨u, rfl, List.mem_range.1 (List.mem_filter.1 hu).1⟩
theorem RowOk.len {E : Nat → List Nat} {n j : Nat} {L : List Int} (h : RowOk E n j L) : L.length ≤ n := by
 obtain ⟨B, _, h2, rfl⟩ := h
 rw [List.length_map]
 have := List.length_filter_le (seenB B) (List.range n)
 simpa using this
set_option maxHeartbeats 8000000 in
theorem compR_fc (R : List (List Ar)) (t : Bool) (hv : valB R = true) (hn : R.length ≤ 1000000) (hr : ∀ r ∈ R, r.length ≤ 1000000) : FC Tryz.prog 75 [aLts R, .b t] [] (fun r o => ∃ D : List Int, D.length = R.length ∧ (∀ v, v < R.length → Least (AdjF t R) v (fnL D (-1) v)) ∧ o = [rInts D] ∧ r = .a (.c (.s 0 R.length))) := by
 refine fc_intro Tryz.func75 rfl (by rw [Tryz.ntmps75]; simp) ?_
 rw [Tryz.ntmps75]
 simp only [enum, aLts]
 (repeat (first | (refine aw_seq ?_; intro K hK) | refine aw_block ?_ | refine aw_region ?_ | (refine lst_x rfl rfl ?_; intro K1 hK1; simp only [go_sem]; (first | refine hK1 _ ?_ | refine andk (hK1 _ ?_)); clear hK1 K1) | ((first | refine lst_nil ?_ | refine aw_skip ?_); refine hK _ ?_; clear hK K)))
 (refine lst_cons rfl ?_; intro K1 hK1; refine (stp_call0 (ids := []) (validR_fc R (by omega) (fun r h => by have := hr r h; omega)) rfl rfl (by simp only [go_sem]) (by kernel_rfl) (by (simp only [List.append_nil, go_sem]) <;> rfl) ?_).stp)
 rintro _ _ ⟨rfl, rfl⟩
 (simp only [aInts, aSets, List.append_nil, List.nil_append, List.length_map, go_sem]; refine hK1 _ ?_; clear hK1 K1)
 (repeat (first | (refine aw_seq ?_; intro K hK) | refine aw_block ?_ | refine aw_region ?_ | (refine lst_x rfl rfl ?_; intro K1 hK1; simp only [go_sem, hv, Bool.not_true]; (first | refine hK1 _ ?_ | refine andk (hK1 _ ?_)); clear hK1 K1) | ((first | refine lst_nil ?_ | refine aw_skip ?_); refine hK _ ?_; clear hK K)))
 (refine aw_cnd ?_; intro X Y hX hY; simp only [go_sem])
 refine hY ?_
 clear hX hY X Y
 (repeat (first | (refine aw_seq ?_; intro K hK) | refine aw_block ?_ | refine aw_region ?_ | (refine lst_x rfl rfl ?_; intro K1 hK1; simp only [go_sem, tRows_len]; (first | refine hK1 _ ?_ | refine andk (hK1 _ ?_)); clear hK1 K1) | ((first | refine lst_nil ?_ | refine aw_skip ?_); refine hK _ ?_; clear hK K)))
 have e0 : List.replicate R.length (C.o (1, 3) []) = cSetsO (List.replicate R.length []) := by simp [cSetsO, tInts]
 rw [e0]
 refine aw_loop (fun x : Nat × List (List Int) => { tm := [(1, .b t), (2, .a (.c (.p 0 0))), (5, .a (.c (.s 1 R.length))), (6, .i x.1)], hp := [.r ⟨25, 1, false, [.t 1 (tRows R)]⟩, .r ⟨22, 1, true, cSetsO x.2⟩], n := 83, pin := 0 }) (fun x => x.1 ≤ R.length ∧ x.2.length = R.length ∧ ∀ j, j < x.1 → ∃ L, x.2[j]? = some L ∧ RowOk (AdjF t R) R.length j L) (fun x => R.length - x.1) (0, List.replicate R.length []) ?_ ?_ ?_
 ·exact ⟨by simp, by simp, fun j h => by simp at h⟩
 ·(refine le_tm ?_; simp only [LeTm, go_sem]; try simp)
 ·rintro ⟨k, Ls⟩ ⟨hk, hLl, hrows⟩ K hK
  simp only at hk hLl hrows
  by_cases hlt : k < R.length
  ·have d1 : decide ((k : Int) < (R.length : Int)) = true := by simpa using hlt
   (repeat (first | (refine aw_seq ?_; intro K hK) | refine aw_block ?_ | refine aw_region ?_ | (refine lst_x rfl rfl ?_; intro K1 hK1; simp only [go_sem, d1, tRows_len]; (first | refine hK1 _ ?_ | refine andk (hK1 _ ?_)); clear hK1 K1) | ((first | refine lst_nil ?_ | refine aw_skip ?_); refine hK _ ?_; clear hK K)))
   (refine aw_cnd ?_; intro X Y hX hY; simp only [go_sem])
   refine hX ?_
   clear hX hY X Y
   (repeat (first | (refine aw_seq ?_; intro K hK) | refine aw_block ?_ | refine aw_region ?_ | (refine lst_x rfl rfl ?_; intro K1 hK1; simp only [go_sem]; (first | refine hK1 _ ?_ | refine andk (hK1 _ ?_)); clear hK1 K1) | ((first | refine lst_nil ?_ | refine aw_skip ?_); refine hK _ ?_; clear hK K)))
   have hpk : (tInts [(k : Int)]).length = 1 := rfl
   (refine lst_le (le_frz (r := ⟨3, 1, true, cInts [(k : Int)]⟩) 2 (tInts [(k : Int)]) rfl (fz_c _) (show 0 < (1 : Nat) by omega)) ?_; simp only [ST.frz, A0.frz, AV.frz, C.frz, Nat.le_refl, List.set_cons_zero, List.set_cons_succ, go_sem, hpk, tInts_one])
   (refine lst_cons rfl ?_; intro K1 hK1; refine (stp_call0 (ids := []) (reach_fc R k t hv hlt hn hr) rfl rfl (by simp only [go_sem]) (by kernel_rfl) (by (simp only [List.append_nil, go_sem]) <;> rfl) ?_).stp)
   rintro _ _ ⟨B, hB, hBr, L, hL, rfl, rfl⟩
   (simp only [aInts, aSets, rInts, cInts_up, List.append_nil, List.nil_append, List.length_map, go_sem]; refine hK1 _ ?_; clear hK1 K1)
   have hkL : k < Ls.length := by omega
   (repeat (first | (refine aw_seq ?_; intro K hK) | refine aw_block ?_ | refine aw_region ?_ | (refine lst_x rfl rfl ?_; intro K1 hK1; simp only [go_sem, cSetsO_len, hLl, ST.put, setC, A0.cells]; (first | refine hK1 _ ?_ | refine andk (hK1 _ ?_)); clear hK1 K1) | ((first | refine lst_nil ?_ | refine aw_skip ?_); refine hK _ ?_; clear hK K)))
   have hj6 : ((cSetsO Ls).set k (C.s 3 L.length))[k]? = some (.s 3 L.length) := by rw [List.getElem?_set_self (by rw [cSetsO_len]; omega)]
   have hset6 : ((cSetsO Ls).set k (C.s 3 L.length)).set k (.o (1, 3) (tInts L)) = cSetsO (Ls.set k L) := by rw [List.set_set, cSetsO_set]
   ((try refine lst_nil ?_); (try refine aw_skip ?_); try simp only [ThenA])
   refine hK _ (k + 1, Ls.set k L) ⟨by simp only; omega, by simp [hLl], fun j hj => ?_⟩ (by simp only; omega) ?_
   ·rcases Nat.lt_or_ge j k with h | h
    ·obtain ⟨L0, q1, q2⟩ := hrows j h
     exact ⟨L0, by simp only; rw [List.getElem?_set_ne (by omega)]; exact q1, q2⟩
    ·have : j = k := by simp only at hj; omega
     subst this
     exact ⟨L, by simp only; rw [List.getElem?_set_self hkL], B, hB, hBr, hL⟩
   ·refine Le.trans (le_sink (r := ⟨3, 1, true, cInts L⟩) (ri := ⟨22, 1, true, (cSetsO Ls).set k (C.s 3 L.length)⟩) (ts := tInts L) 1 k 3 L.length (by decide) rfl hj6 rfl rfl (show 0 < 1 by omega) (by rw [cInts_len, Nat.mul_one]) (fz_c _)) ?_
    simp only [hset6, go_sem]
    refine Le.trans (le_pick [0, 1] rfl rfl) ?_
    (try simp only [List.set_nil, List.take_nil, List.take_zero, List.map_append, go_sem])
    (try simp only [cSetsO_ren])
    (refine le_tm ?_; simp only [LeTm, go_sem]; try simp)
  ·have d1 : decide ((k : Int) < (R.length : Int)) = false := by simpa using hlt
   have hke : k = R.length := by omega
   rw [hke] at d1 hrows
   have hlo : looB R = true := decide_eq_true (of_decide_eq_true hv).1
   have hbd := (of_decide_eq_true hlo).2.2.2
   have hAd : ∀ u, u < R.length → ∀ w ∈ AdjF t R u, w < R.length := fun u hu w hw => by
    unfold AdjF at hw
    rw [List.getD_eq_getElem?_getD, List.getElem?_eq_getElem hu, Option.getD_some] at hw
    obtain ⟨a, ha, rfl⟩ := List.mem_map.1 hw
    have h2 := hbd _ (List.getElem_mem hu) a (List.mem_filter.1 ha).1
    omega
   rw [hke]
   (repeat (first | (refine aw_seq ?_; intro K hK) | refine aw_block ?_ | refine aw_region ?_ | (refine lst_x rfl rfl ?_; intro K1 hK1; simp only [go_sem, d1, tRows_len]; (first | refine hK1 _ ?_ | refine andk (hK1 _ ?_)); clear hK1 K1) | ((first | refine lst_nil ?_ | refine aw_skip ?_); refine hK _ ?_; clear hK K)))
   (refine aw_cnd ?_; intro X Y hX hY; simp only [go_sem])
   refine hY ?_
   clear hX hY X Y
   (refine aw_exit ?_; simp only [ThenA, InBl, reduceIte, Nat.reduceEqDiff]; (first | refine hK _ ?_ | (clear hK K; refine hK _ ?_) | (clear hK K; clear hK K; refine hK _ ?_) | (clear hK K; clear hK K; clear hK K; refine hK _ ?_) | (clear hK K; clear hK K; clear hK K; clear hK K; refine hK _ ?_) | (clear hK K; clear hK K; clear hK K; clear hK K; clear hK K; refine hK _ ?_)); clear hK K)
   refine aw_le (le_ot 1 rfl) ?_
   simp only [cSetsO_ot, go_sem]
   (repeat (first | (refine aw_seq ?_; intro K hK) | refine aw_block ?_ | refine aw_region ?_ | (refine lst_x rfl rfl ?_; intro K1 hK1; simp only [go_sem, tRows_len]; (first | refine hK1 _ ?_ | refine andk (hK1 _ ?_)); clear hK1 K1) | ((first | refine lst_nil ?_ | refine aw_skip ?_); refine hK _ ?_; clear hK K)))
   have e2 : List.replicate R.length (C.v (.int .i64 0)) = cInts (List.replicate R.length 0) := by simp [cInts]
   rw [e2]
   refine aw_loop (fun x : Nat × List Int => { tm := [(2, .a (.c (.p 0 0))), (5, .a (.c (.s 1 R.length))), (7, .a (.c (.s 2 R.length))), (8, .i x.1)], hp := [.r ⟨25, 1, false, [.t 1 (tRows R)]⟩, .r ⟨22, 1, true, cSetsT Ls⟩, .r ⟨3, 1, true, cInts x.2⟩], n := 83, pin := 0 }) (fun x => x.1 ≤ R.length ∧ x.2.length = R.length ∧ ∀ j, j < x.1 → Least (AdjF t R) j (fnL x.2 (-1) j)) (fun x => R.length - x.1) (0, List.replicate R.length 0) ?_ ?_ ?_
   ·exact ⟨by simp, by simp, fun j h => by simp at h⟩
   ·(refine le_tm ?_; simp only [LeTm, go_sem]; try simp)
   ·rintro ⟨i, D⟩ ⟨hi, hDl, hDL⟩ K hK
    simp only at hi hDl hDL
    by_cases hlt2 : i < R.length
    ·have d2 : decide ((i : Int) < (R.length : Int)) = true := by simpa using hlt2
     obtain ⟨Li, g1, hLi⟩ := hrows i hlt2
     have gLi := cSetsT_get g1
     have hLil := hLi.len
     (repeat (first | (refine aw_seq ?_; intro K hK) | refine aw_block ?_ | refine aw_region ?_ | (refine lst_x rfl rfl ?_; intro K1 hK1; simp only [go_sem, d2, tRows_len]; (first | refine hK1 _ ?_ | refine andk (hK1 _ ?_)); clear hK1 K1) | ((first | refine lst_nil ?_ | refine aw_skip ?_); refine hK _ ?_; clear hK K)))
     (refine aw_cnd ?_; intro X Y hX hY; simp only [go_sem])
     refine hX ?_
     clear hX hY X Y
     (repeat (first | (refine aw_seq ?_; intro K hK) | refine aw_block ?_ | refine aw_region ?_ | (refine lst_x rfl rfl ?_; intro K1 hK1; simp only [go_sem, cInts_len, hDl, cInts_set, ST.put, setC, A0.cells]; (first | refine hK1 _ ?_ | refine andk (hK1 _ ?_)); clear hK1 K1) | ((first | refine lst_nil ?_ | refine aw_skip ?_); refine hK _ ?_; clear hK K)))
     refine aw_loop (fun x : Nat × Nat => { tm := [(2, .a (.c (.p 0 0))), (5, .a (.c (.s 1 R.length))), (7, .a (.c (.s 2 R.length))), (8, .i i), (9, .i x.1)], hp := [.r ⟨25, 1, false, [.t 1 (tRows R)]⟩, .r ⟨22, 1, true, cSetsT Ls⟩, .r ⟨3, 1, true, cInts (D.set i (x.2 : Int))⟩], n := 83, pin := 0 }) (fun x => x.1 ≤ Li.length ∧ Rc (AdjF t R) i x.2 ∧ Rc (AdjF t R) x.2 i ∧ ∀ j u : Nat, j < x.1 → Li[j]? = some (u : Int) → Rc (AdjF t R) u i → x.2 ≤ u) (fun x => Li.length - x.1) (0, i) ?_ ?_ ?_
     ·exact ⟨by simp, .refl _, .refl _, fun j u h => by simp at h⟩
     ·(refine le_tm ?_; simp only [LeTm, go_sem]; try simp)
     ·rintro ⟨k, c⟩ ⟨hk, hc1, hc2, hc3⟩ K hK
      simp only at hk hc1 hc2 hc3
      have hcn : c < R.length := hc1.lt hlt2 hAd
      by_cases hlt3 : k < Li.length
      ·have d3 : decide ((k : Int) < (Li.length : Int)) = true := by simpa using hlt3
       obtain ⟨un, hun, hul⟩ := hLi.nat (List.getElem_mem hlt3)
       have hgk : Li[k]? = some (un : Int) := by rw [List.getElem?_eq_getElem hlt3, hun]
       have gk := tInts_get hgk
       have hRu := (hLi.mem hul).1 (by rw [← hun]; exact List.getElem_mem hlt3)
       obtain ⟨Lu, g2, hLu⟩ := hrows un hul
       have gLu := cSetsT_get g2
       have gD : (cInts (D.set i (c : Int)))[i]? = some (.v (.int .i64 c)) := cInts_get (List.getElem?_set_self (by omega))
       (repeat (first | (refine aw_seq ?_; intro K hK) | refine aw_block ?_ | refine aw_region ?_ | (refine lst_x rfl rfl ?_; intro K1 hK1; simp only [go_sem, d3, cSetsT_len, hLl, gLi, tInts_len]; (first | refine hK1 _ ?_ | refine andk (hK1 _ ?_)); clear hK1 K1) | ((first | refine lst_nil ?_ | refine aw_skip ?_); refine hK _ ?_; clear hK K)))
       (refine aw_cnd ?_; intro X Y hX hY; simp only [go_sem])
       refine hX ?_
       clear hX hY X Y
       by_cases hq : un < c
       ·have d4 : decide ((un : Int) < (c : Int)) = true := by simp; omega
        (repeat (first | (refine aw_seq ?_; intro K hK) | refine aw_block ?_ | refine aw_region ?_ | (refine lst_x rfl rfl ?_; intro K1 hK1; simp only [go_sem, cSetsT_len, hLl, gLi, gLu, tInts_len, gk, gD, cInts_len, List.length_set, hDl, d4]; (first | refine hK1 _ ?_ | refine andk (hK1 _ ?_)); clear hK1 K1) | ((first | refine lst_nil ?_ | refine aw_skip ?_); refine hK _ ?_; clear hK K)))
        (refine lst_goU rfl rfl (by simp only [go_sem] <;> rfl) ?_; intro K1 hK1; refine (stp_call0 (ids := []) (hasT_fc Lu (i : Int) (by have := hLu.len; omega)) rfl rfl (by simp only [go_sem]) (by kernel_rfl) (by (simp only [List.append_nil, go_sem]) <;> rfl) ?_).stp)
        rintro _ _ ⟨rfl, rfl⟩
        (simp only [aInts, aSets, List.append_nil, List.nil_append, List.length_map, go_sem]; refine hK1 _ ?_; clear hK1 K1)
        have hmm := hLu.mem hlt2
        by_cases hm : (i : Int) ∈ Lu
        ·have d5 : decide ((i : Int) ∈ Lu) = true := by simpa using hm
         (repeat (first | (refine aw_seq ?_; intro K hK) | refine aw_block ?_ | refine aw_region ?_ | (refine lst_x rfl rfl ?_; intro K1 hK1; simp only [go_sem, d5]; (first | refine hK1 _ ?_ | refine andk (hK1 _ ?_)); clear hK1 K1) | ((first | refine lst_nil ?_ | refine aw_skip ?_); refine hK _ ?_; clear hK K)))
         (refine aw_cnd ?_; intro X Y hX hY; simp only [go_sem, d5])
         refine hX ?_
         clear hX hY X Y
         (repeat (first | (refine aw_seq ?_; intro K hK) | refine aw_block ?_ | refine aw_region ?_ | (refine lst_x rfl rfl ?_; intro K1 hK1; simp only [go_sem, cInts_len, List.length_set, hDl, cInts_set, List.set_set, ST.put, setC, A0.cells]; (first | refine hK1 _ ?_ | refine andk (hK1 _ ?_)); clear hK1 K1) | ((first | refine lst_nil ?_ | refine aw_skip ?_); refine hK _ ?_; clear hK K)))
         ((try refine lst_nil ?_); (try refine aw_skip ?_); try simp only [ThenA])
         refine hK _ (k + 1, un) ⟨by simp only; omega, hRu, hmm.1 hm, fun j u hj hu hm2 => ?_⟩ (by simp only; omega) ?_
         ·rcases Nat.lt_or_ge j k with h | h
          ·have := hc3 j u h hu hm2
           simp only; omega
          ·have : j = k := by simp only at hj; omega
           subst this
           rw [hgk] at hu
           have : un = u := Int.ofNat.inj (Option.some.inj hu)
           simp only; omega
         ·(refine le_tm ?_; simp only [LeTm, go_sem]; try simp)
        ·have d5 : decide ((i : Int) ∈ Lu) = false := by simpa using hm
         (repeat (first | (refine aw_seq ?_; intro K hK) | refine aw_block ?_ | refine aw_region ?_ | (refine lst_x rfl rfl ?_; intro K1 hK1; simp only [go_sem, d5]; (first | refine hK1 _ ?_ | refine andk (hK1 _ ?_)); clear hK1 K1) | ((first | refine lst_nil ?_ | refine aw_skip ?_); refine hK _ ?_; clear hK K)))
         (refine aw_cnd ?_; intro X Y hX hY; simp only [go_sem, d5])
         refine hY ?_
         clear hX hY X Y
         (repeat (first | (refine aw_seq ?_; intro K hK) | refine aw_block ?_ | refine aw_region ?_ | (refine lst_x rfl rfl ?_; intro K1 hK1; simp only [go_sem]; (first | refine hK1 _ ?_ | refine andk (hK1 _ ?_)); clear hK1 K1) | ((first | refine lst_nil ?_ | refine aw_skip ?_); refine hK _ ?_; clear hK K)))
         ((try refine lst_nil ?_); (try refine aw_skip ?_); try simp only [ThenA])
         refine hK _ (k + 1, c) ⟨by simp only; omega, hc1, hc2, fun j u hj hu hm2 => ?_⟩ (by simp only; omega) ?_
         ·rcases Nat.lt_or_ge j k with h | h
          ·exact hc3 j u h hu hm2
          ·have : j = k := by simp only at hj; omega
           subst this
           rw [hgk] at hu
           have : un = u := Int.ofNat.inj (Option.some.inj hu)
           subst this
           exact absurd (hmm.2 hm2) hm
         ·(refine le_tm ?_; simp only [LeTm, go_sem]; try simp)
       ·have d4 : decide ((un : Int) < (c : Int)) = false := by simp; omega
        (repeat (first | (refine aw_seq ?_; intro K hK) | refine aw_block ?_ | refine aw_region ?_ | (refine lst_x rfl rfl ?_; intro K1 hK1; simp only [go_sem, cSetsT_len, hLl, gLi, gLu, tInts_len, gk, gD, cInts_len, List.length_set, hDl, d4]; (first | refine hK1 _ ?_ | refine andk (hK1 _ ?_)); clear hK1 K1) | ((first | refine lst_nil ?_ | refine aw_skip ?_); refine hK _ ?_; clear hK K)))
        (refine aw_cnd ?_; intro X Y hX hY; simp only [go_sem])
        refine hY ?_
        clear hX hY X Y
        (repeat (first | (refine aw_seq ?_; intro K hK) | refine aw_block ?_ | refine aw_region ?_ | (refine lst_x rfl rfl ?_; intro K1 hK1; simp only [go_sem]; (first | refine hK1 _ ?_ | refine andk (hK1 _ ?_)); clear hK1 K1) | ((first | refine lst_nil ?_ | refine aw_skip ?_); refine hK _ ?_; clear hK K)))
        ((try refine lst_nil ?_); (try refine aw_skip ?_); try simp only [ThenA])
        refine hK _ (k + 1, c) ⟨by simp only; omega, hc1, hc2, fun j u hj hu hm => ?_⟩ (by simp only; omega) ?_
        ·rcases Nat.lt_or_ge j k with h | h
         ·exact hc3 j u h hu hm
         ·have : j = k := by simp only at hj; omega
          subst this
          rw [hgk] at hu
          have : un = u := Int.ofNat.inj (Option.some.inj hu)
          simp only; omega
        ·(refine le_tm ?_; simp only [LeTm, go_sem]; try simp)
      ·have d3 : decide ((k : Int) < (Li.length : Int)) = false := by simpa using hlt3
       (repeat (first | (refine aw_seq ?_; intro K hK) | refine aw_block ?_ | refine aw_region ?_ | (refine lst_x rfl rfl ?_; intro K1 hK1; simp only [go_sem, d3, cSetsT_len, hLl, gLi, tInts_len]; (first | refine hK1 _ ?_ | refine andk (hK1 _ ?_)); clear hK1 K1) | ((first | refine lst_nil ?_ | refine aw_skip ?_); refine hK _ ?_; clear hK K)))
       (refine aw_cnd ?_; intro X Y hX hY; simp only [go_sem])
       refine hY ?_
       clear hX hY X Y
       (refine aw_exit ?_; simp only [ThenA, InBl, reduceIte, Nat.reduceEqDiff]; (first | refine hK _ ?_ | (clear hK K; refine hK _ ?_) | (clear hK K; clear hK K; refine hK _ ?_) | (clear hK K; clear hK K; clear hK K; refine hK _ ?_) | (clear hK K; clear hK K; clear hK K; clear hK K; refine hK _ ?_) | (clear hK K; clear hK K; clear hK K; clear hK K; clear hK K; refine hK _ ?_)); clear hK K)
       (repeat (first | (refine aw_seq ?_; intro K hK) | refine aw_block ?_ | refine aw_region ?_ | (refine lst_x rfl rfl ?_; intro K1 hK1; simp only [go_sem]; (first | refine hK1 _ ?_ | refine andk (hK1 _ ?_)); clear hK1 K1) | ((first | refine lst_nil ?_ | refine aw_skip ?_); refine hK _ ?_; clear hK K)))
       ((try refine lst_nil ?_); (try refine aw_skip ?_); try simp only [ThenA])
       refine hK _ (i + 1, D.set i (c : Int)) ⟨by simp only; omega, by simp [hDl], fun j hj => ?_⟩ (by simp only; omega) ?_
       ·simp only at hj ⊢
        rw [fnL_set (by omega)]
        by_cases e : j = i
        ·subst e
         rw [upd_eq]
         refine ⟨c, rfl, hc1, hc2, fun u w1 w2 => ?_⟩
         have hul := w1.lt hlt2 hAd
         obtain ⟨q, hq⟩ := List.getElem?_of_mem ((hLi.mem hul).2 w1)
         have hql : q < Li.length := (List.getElem?_eq_some_iff.1 hq).1
         exact hc3 q u (by omega) hq w2
        ·rw [upd_ne e]
         exact hDL j (by omega)
       ·(refine le_tm ?_; simp only [LeTm, go_sem]; try simp)
    ·have d2 : decide ((i : Int) < (R.length : Int)) = false := by simpa using hlt2
     (repeat (first | (refine aw_seq ?_; intro K hK) | refine aw_block ?_ | refine aw_region ?_ | (refine lst_x rfl rfl ?_; intro K1 hK1; simp only [go_sem, d2, tRows_len]; (first | refine hK1 _ ?_ | refine andk (hK1 _ ?_)); clear hK1 K1) | ((first | refine lst_nil ?_ | refine aw_skip ?_); refine hK _ ?_; clear hK K)))
     (refine aw_cnd ?_; intro X Y hX hY; simp only [go_sem])
     refine hY ?_
     clear hX hY X Y
     (refine aw_exit ?_; simp only [ThenA, InBl, reduceIte, Nat.reduceEqDiff]; (first | refine hK _ ?_ | (clear hK K; refine hK _ ?_) | (clear hK K; clear hK K; refine hK _ ?_) | (clear hK K; clear hK K; clear hK K; refine hK _ ?_) | (clear hK K; clear hK K; clear hK K; clear hK K; refine hK _ ?_) | (clear hK K; clear hK K; clear hK K; clear hK K; clear hK K; refine hK _ ?_)); clear hK K)
     (repeat (first | (refine aw_seq ?_; intro K hK) | refine aw_block ?_ | refine aw_region ?_ | (refine lst_x rfl rfl ?_; intro K1 hK1; simp only [go_sem]; (first | refine hK1 _ ?_ | refine andk (hK1 _ ?_)); clear hK1 K1) | ((first | refine lst_nil ?_ | refine aw_skip ?_); refine hK _ ?_; clear hK K)))
     ((try refine aw_ret ?_); (try simp only [ThenA, InBl]); refine ret_le (le_pick [2] rfl rfl) ?_; (try simp only [List.set_nil, List.take_nil, List.take_zero, List.map_append, go_sem]); ((try refine aw_ret ?_); (try refine lst_nil ?_); (try simp only [ThenA, InBl]); refine ret_mk (by first | exact .inl rfl | exact .inr rfl) rfl ?_; simp only [rtn, resA, resL, resV, Tryz.results75, go_sem, true_and, and_true, cInts_ren]))
     exact ⟨D, hDl, fun v hv2 => hDL v (by omega), rfl⟩
end Go.Proofs.YthlckclbjknldaaGreat
