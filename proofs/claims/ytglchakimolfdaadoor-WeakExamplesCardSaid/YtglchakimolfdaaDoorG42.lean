/- graph.Components. -/
import Derived.Test.YtglchakimolfdaaDoorG11
import Derived.Test.YtglchakimolfdaaDoorMlz
import Derived.Test.YtglchakimolfdaaDoorTj1
namespace Go.Proofs.YtglchakimolfdaaDoor
set_option linter.unusedVariables false
set_option linter.unusedSimpArgs false
open Go.RowKit
set_option maxRecDepth 100000
attribute [local go_sem] List.set_cons_zero List.set_cons_succ List.map_cons List.map_nil List.take_succ_cons List.take_zero List.drop_zero List.drop_succ_cons C.pl C.one List.all_cons List.all_nil Bool.and_true Nat.mul_one Int.toNat_natCast

def frI (f : Nat × Nat) : Ar := ((f.1 : Int), (f.2 : Int))
def compS (R : List (List Ar)) (t : Bool) (n i : Nat) (p : Tst) (J : List Int) (J2 : List Ar) : ST :=
  { tm := [(1, .b t), (2, .a (.c (.p 0 0))), (6, .a (.c (.s 1 n))), (7, .a (.c (.s 2 n))), (8, .a (.c (.s 3 n))), (9, .i p.c), (10, .a (.c (.s 5 p.pt.length))), (11, .a (.c (.s 4 p.op.length))), (31, .i n), (32, .i i)],
    hp := [.r ⟨27, 1, false, [.t 1 (tRows R)]⟩, .r ⟨3, 1, true, cInts p.O⟩, .r ⟨3, 1, true, cInts p.X⟩, .r ⟨3, 1, true, cInts p.W⟩, .r ⟨3, 1, true, cInts (p.op.map Int.ofNat ++ J)⟩, .r ⟨85, 2, true, cArcs (p.pt.map frI ++ J2)⟩], n := 171, pin := 0 }

def compT (R : List (List Ar)) (t : Bool) (n i off v : Nat) (p : Tst) (J : List Int) (J2 : List Ar) : ST :=
  { tm := [(1, .b t), (2, .a (.c (.p 0 0))), (6, .a (.c (.s 1 n))), (7, .a (.c (.s 2 n))), (8, .a (.c (.s 3 n))), (9, .i p.c), (10, .a (.c (.s 5 p.pt.length))), (11, .a (.c (.s 4 p.op.length))), (13, .a (.c (.p 5 off))), (14, .i v), (31, .i n), (32, .i i)],
    hp := [.r ⟨27, 1, false, [.t 1 (tRows R)]⟩, .r ⟨3, 1, true, cInts p.O⟩, .r ⟨3, 1, true, cInts p.X⟩, .r ⟨3, 1, true, cInts p.W⟩, .r ⟨3, 1, true, cInts (p.op.map Int.ofNat ++ J)⟩, .r ⟨85, 2, true, cArcs (p.pt.map frI ++ J2)⟩], n := 171, pin := 0 }
def compU (R : List (List Ar)) (t : Bool) (n i off v : Nat) (A : List Ar) (p : Tst) (J : List Int) (J2 : List Ar) : ST :=
  { tm := [(1, .b t), (2, .a (.c (.p 0 0))), (6, .a (.c (.s 1 n))), (7, .a (.c (.s 2 n))), (8, .a (.c (.s 3 n))), (9, .i p.c), (10, .a (.c (.s 5 p.pt.length))), (11, .a (.c (.s 4 p.op.length))), (13, .a (.c (.p 5 off))), (14, .i v), (15, .a (.c (.t 2 (tArcs A)))), (31, .i n), (32, .i i)],
    hp := [.r ⟨27, 1, false, [.t 1 (tRows R)]⟩, .r ⟨3, 1, true, cInts p.O⟩, .r ⟨3, 1, true, cInts p.X⟩, .r ⟨3, 1, true, cInts p.W⟩, .r ⟨3, 1, true, cInts (p.op.map Int.ofNat ++ J)⟩, .r ⟨85, 2, true, cArcs (p.pt.map frI ++ J2)⟩], n := 171, pin := 0 }
theorem op_push (l : List Nat) (v : Nat) (J : List Int) : (cInts (l.map Int.ofNat ++ J)).take l.length ++ [C.v (.int .i64 v)] = cInts ((l ++ [v]).map Int.ofNat ++ []) := by
 rw [cInts_take, List.take_append_of_le_length (by simp), List.take_of_length_le (by simp), cInts_snoc, List.append_nil, List.map_append]; rfl
theorem cArcs_ren2 (f : List Nat) (L : List Ar) : (cArcs L).map (C.ren f) = cArcs L := by
 unfold cArcs
 rw [List.map_flatMap]
 rfl
theorem aw_joinI {P : Program} {c : Code} {Q : Exit → ST → Prop} {K : ST → Prop} {G : Prop} {α : Type} (hK : ∀ st', AW P c st' Q → K st') (T : α → ST) (good : α → Prop) (hb : (∀ st' x, good x → Le st' (T x) → K st') → G) (h : ∀ x, good x → AW P c (T x) Q) : G :=
 hb fun st' x hg hl => hK st' (aw_le hl (h x hg))
theorem top_at (P : List (Nat × Nat)) (v k : Nat) (J : List Ar) : cArcs ((P ++ [(v, k)]).map frI ++ J) = cArcs (P.map frI) ++ (C.v (.int .i64 v) :: C.v (.int .i64 k) :: cArcs J) := by
 rw [List.map_append, ← cArcs_app, ← cArcs_app, List.append_assoc]; rfl
theorem top_len (P : List (Nat × Nat)) : (cArcs (P.map frI)).length = P.length * 2 := by rw [cArcs_len, List.length_map]
theorem top_c0 (P : List (Nat × Nat)) (v k : Nat) (J : List Ar) : (cArcs ((P ++ [(v, k)]).map frI ++ J))[P.length * 2]? = some (.v (.int .i64 v)) := by
 rw [top_at, List.getElem?_append_right (by rw [top_len]; exact Nat.le_refl _), top_len, Nat.sub_self]; rfl
theorem top_c1 (P : List (Nat × Nat)) (v k : Nat) (J : List Ar) : (cArcs ((P ++ [(v, k)]).map frI ++ J))[P.length * 2 + 1]? = some (.v (.int .i64 k)) := by
 rw [top_at, List.getElem?_append_right (by rw [top_len]; omega), top_len, Nat.add_sub_cancel_left]; rfl
theorem top_set (P : List (Nat × Nat)) (v k : Nat) (J : List Ar) (k' : Nat) : (cArcs ((P ++ [(v, k)]).map frI ++ J)).set (P.length * 2 + 1) (.v (.int .i64 k')) = cArcs ((P ++ [(v, k')]).map frI ++ J) := by
 rw [top_at, top_at, List.set_append_right _ _ (by rw [top_len]; omega), top_len, Nat.add_sub_cancel_left]; rfl
theorem top_push (P : List (Nat × Nat)) (t : Nat) (J : List Ar) : (cArcs (P.map frI ++ J)).take (P.length * 2) ++ [C.v (.int .i64 t), C.v (.int .i64 0)] = cArcs ((P ++ [(t, 0)]).map frI ++ []) := by
 rw [cArcs_take, List.take_append_of_le_length (by simp), List.take_of_length_le (by simp), List.append_nil, List.map_append, ← cArcs_app]; rfl
theorem fnL_pos {L : List Int} {t v : Nat} {c : Nat} (ht : t < L.length) (h : 0 < fnL L 0 v) : 0 < fnL (L.set t ((c : Int) + 1)) 0 v := by
 rw [fnL_set ht]; unfold upd; split <;> omega
theorem aw_join {P : Program} {c : Code} {Q : Exit → ST → Prop} {K : ST → Prop} {G : Prop} (hK : ∀ st', AW P c st' Q → K st') (T : ST) (hb : (∀ st', Le st' T → K st') → G) (h : AW P c T Q) : G :=
 hb fun st' hl => hK st' (aw_le hl h)
set_option maxHeartbeats 8000000 in
theorem comp_fc (R : List (List Ar)) (t : Bool) (hv : valB R = true) (h1 : 1 ≤ R.length) (hn : R.length ≤ 1000000) (hr : ∀ r ∈ R, r.length ≤ 1000000) : FC Tryd.prog 28 [aLts R, .b t] [] (fun r o => ∃ C : List Int, C.length = R.length ∧ (∀ v, v < R.length → Least (Adj t R) v (fnL C (-1) v)) ∧ o = [rInts C] ∧ r = .a (.c (.s 0 R.length))) := by
 refine fc_intro Tryd.func28 rfl (by rw [Tryd.ntmps28]; simp) ?_
 rw [Tryd.ntmps28]
 simp only [enum, aLts]
 (repeat (first | (refine aw_seq ?_; intro K hK) | refine aw_block ?_ | refine aw_region ?_ | (refine lst_x rfl rfl ?_; intro K1 hK1; simp only [go_sem]; (first | refine hK1 _ ?_ | refine andk (hK1 _ ?_)); clear hK1 K1) | ((first | refine lst_nil ?_ | refine aw_skip ?_); refine hK _ ?_; clear hK K)))
 (refine lst_cons rfl ?_; intro K1 hK1; refine (stp_call0 (ids := []) (valid_fc R (by omega) (fun r h => by have := hr r h; omega)) rfl rfl (by simp only [go_sem]) (by kernel_rfl) (by (simp only [List.append_nil, go_sem]) <;> rfl) ?_).stp)
 rintro _ _ ⟨rfl, rfl⟩
 (simp only [aInts, aSets, List.append_nil, List.nil_append, List.length_map, go_sem]; refine hK1 _ ?_; clear hK1 K1)
 (repeat (first | (refine aw_seq ?_; intro K hK) | refine aw_block ?_ | refine aw_region ?_ | (refine lst_x rfl rfl ?_; intro K1 hK1; simp only [go_sem, hv, Bool.not_true]; (first | refine hK1 _ ?_ | refine andk (hK1 _ ?_)); clear hK1 K1) | ((first | refine lst_nil ?_ | refine aw_skip ?_); refine hK _ ?_; clear hK K)))
 (refine aw_cnd ?_; intro X Y hX hY; simp only [go_sem])
 refine hY ?_
 clear hX hY X Y
 (repeat (first | (refine aw_seq ?_; intro K hK) | refine aw_block ?_ | refine aw_region ?_ | (refine lst_x rfl rfl ?_; intro K1 hK1; simp only [go_sem, tRows_len]; (first | refine hK1 _ ?_ | refine andk (hK1 _ ?_)); clear hK1 K1) | ((first | refine lst_nil ?_ | refine aw_skip ?_); refine hK _ ?_; clear hK K)))
 (refine lst_cons rfl ?_; intro K1 hK1; refine stp_callσ (ids := []) [1] (repeat_fc (-1) R.length h1 hn) rfl rfl (by simp only [go_sem]) (by first | assumption | kernel_rfl) rfl rfl (by (simp only [List.map_append, List.append_nil, go_sem]) <;> rfl) (by (simp only [pkh, rInts, cInts, go_sem]) <;> rfl) ?_ ?_)
 ·rintro _ _ ⟨rfl, rfl⟩; rfl
 rintro _ _ ⟨rfl, rfl⟩
 (simp only [aInts, aSets, rInts, cInts_up, List.append_nil, List.nil_append, List.length_map, go_sem]; refine hK1 _ ?_; clear hK1 K1)
 (repeat (first | (refine aw_seq ?_; intro K hK) | refine aw_block ?_ | refine aw_region ?_ | (refine lst_x rfl rfl ?_; intro K1 hK1; simp only [go_sem]; (first | refine hK1 _ ?_ | refine andk (hK1 _ ?_)); clear hK1 K1) | ((first | refine lst_nil ?_ | refine aw_skip ?_); refine hK _ ?_; clear hK K)))
 refine aw_join hK { tm := [(1, .b t), (2, .a (.c (.p 0 0))), (5, .i R.length), (6, .a (.c (.s 1 R.length))), (7, .a (.c (.s 2 R.length))), (8, .a (.c (.s 3 R.length)))], hp := [.r ⟨27, 1, false, [.t 1 (tRows R)]⟩, .r ⟨3, 1, true, cInts (List.replicate R.length (-1))⟩, .r ⟨3, 1, true, cInts (List.replicate R.length 0)⟩, .r ⟨3, 1, true, cInts (List.replicate R.length 0)⟩], n := 171, pin := 0 } ?_ ?_
 ·clear hK; intro hK
  have e0 : List.replicate R.length (C.v (.int .i64 0)) = cInts (List.replicate R.length 0) := by simp [cInts]
  (refine aw_regionZ [] (.m 0 0 0 (.m 2 0 0 (.f 1 (.m 4 0 0 (.a 3 (.m 5 0 0 .e))) 3 (.a 1 (.m 4 0 0 (.m 5 0 0 .e)))))) (by kernel_rfl) (by kernel_rfl) (by intro c st h; simp [ThenA, InBl, Ret] at h) ?_)
  (repeat (first | ((first | refine z_0 rfl rfl rfl ?_ | refine z_1 rfl rfl rfl rfl rfl rfl rfl ?_ | refine z_1b rfl rfl rfl ?_); intro K1 hK1; simp only [go_sem]; (first | refine hK1 _ ?_ | refine andk (hK1 _ ?_)); clear hK1 K1) | (refine z_nil ⟨by simp, by simp, ?_⟩; refine hK _ ?_; clear hK K)))
  refine z_f ?_ ?_
  ·(refine z_2 rfl rfl ?_; intro K1 hK1; refine stpF_a rfl ?_; simp only [go_sem]; (first | refine hK1 _ ?_ | refine andk (hK1 _ ?_)); clear hK1 K1)
   (repeat (first | ((first | refine z_0 rfl rfl rfl ?_ | refine z_1 rfl rfl rfl rfl rfl rfl rfl ?_ | refine z_1b rfl rfl rfl ?_); intro K1 hK1; simp only [go_sem]; (first | refine hK1 _ ?_ | refine andk (hK1 _ ?_)); clear hK1 K1) | (refine z_nil ⟨by simp, by simp, ?_⟩; refine hK _ ?_; clear hK K)))
   (refine z_2 rfl rfl ?_; intro K1 hK1; refine stpF_a rfl ?_; simp only [go_sem]; (first | refine hK1 _ ?_ | refine andk (hK1 _ ?_)); clear hK1 K1)
   (repeat (first | ((first | refine z_0 rfl rfl rfl ?_ | refine z_1 rfl rfl rfl rfl rfl rfl rfl ?_ | refine z_1b rfl rfl rfl ?_); intro K1 hK1; simp only [go_sem]; (first | refine hK1 _ ?_ | refine andk (hK1 _ ?_)); clear hK1 K1) | (refine z_nil ⟨by simp, by simp, ?_⟩; refine hK _ ?_; clear hK K)))
   rw [e0]
   refine Le.trans (le_pick [0, 2, 3, 4] rfl rfl) ?_
   (try simp only [List.set_nil, List.take_nil, List.take_zero, List.map_append, go_sem])
   (try simp only [cInts_ren])
   (refine le_tm ?_; simp only [LeTm, go_sem]; try simp)
  ·(refine z_2 rfl rfl ?_; intro K1 hK1; refine stpF_a rfl ?_; simp only [go_sem]; (first | refine hK1 _ ?_ | refine andk (hK1 _ ?_)); clear hK1 K1)
   (repeat (first | ((first | refine z_0 rfl rfl rfl ?_ | refine z_1 rfl rfl rfl rfl rfl rfl rfl ?_ | refine z_1b rfl rfl rfl ?_); intro K1 hK1; simp only [go_sem]; (first | refine hK1 _ ?_ | refine andk (hK1 _ ?_)); clear hK1 K1) | (refine z_nil ⟨by simp, by simp, ?_⟩; refine hK _ ?_; clear hK K)))
   (refine z_2 rfl rfl ?_; intro K1 hK1; refine stpF_a rfl ?_; simp only [go_sem]; (first | refine hK1 _ ?_ | refine andk (hK1 _ ?_)); clear hK1 K1)
   (repeat (first | ((first | refine z_0 rfl rfl rfl ?_ | refine z_1 rfl rfl rfl rfl rfl rfl rfl ?_ | refine z_1b rfl rfl rfl ?_); intro K1 hK1; simp only [go_sem]; (first | refine hK1 _ ?_ | refine andk (hK1 _ ?_)); clear hK1 K1) | (refine z_nil ⟨by simp, by simp, ?_⟩; refine hK _ ?_; clear hK K)))
   rw [e0]
   refine Le.trans (le_pick [0, 2, 4, 3] rfl rfl) ?_
   (try simp only [List.set_nil, List.take_nil, List.take_zero, List.map_append, go_sem])
   (try simp only [cInts_ren])
   (refine le_tm ?_; simp only [LeTm, go_sem]; try simp)
 (repeat (first | (refine aw_seq ?_; intro K hK) | refine aw_block ?_ | refine aw_region ?_ | (refine lst_x rfl rfl ?_; intro K1 hK1; simp only [go_sem]; (first | refine hK1 _ ?_ | refine andk (hK1 _ ?_)); clear hK1 K1) | ((first | refine lst_nil ?_ | refine aw_skip ?_); refine hK _ ?_; clear hK K)))
 refine aw_le (le_nil 10 85 2 ?_) ?_
 ·simp only [go_sem]
 refine aw_le (le_nil 11 3 1 ?_) ?_
 ·simp only [go_sem]
 refine aw_le (le_pick [0, 1, 2, 3, 5, 4] rfl rfl) ?_
 (try simp only [List.set_nil, List.take_nil, List.take_zero, List.map_append, go_sem])
 (try simp only [cInts_ren])
 refine aw_loop (fun x : Nat × Tst × List Int × List Ar => compS R t R.length x.1 x.2.1 x.2.2.1 x.2.2.2) (fun x => x.1 ≤ R.length ∧ x.2.1.pt = [] ∧ Tst.Ok (Adj t R) R.length x.2.1 ∧ (∀ v, v < x.1 → 0 < fnL x.2.1.X 0 v)) (fun x => R.length - x.1) (0, { X := List.replicate R.length 0, W := List.replicate R.length 0, O := List.replicate R.length (-1), op := [], pt := [], c := 0 }, [], []) ?_ ?_ ?_
 ·exact ⟨by simp, rfl, Tst.start, fun v h => by simp at h⟩
 ·unfold compS
  (refine le_tm ?_; simp only [LeTm, go_sem]; try simp)
 ·rintro ⟨i, p, J, J2⟩ ⟨hi, hp, hO, hvis⟩ K hK
  simp only at hi hp hO hvis
  have lX := hO.lX
  by_cases hlt : i < R.length
  ·have d1 : decide ((i : Int) < (R.length : Int)) = true := by simpa using hlt
   unfold compS
   (repeat (first | (refine aw_seq ?_; intro K hK) | refine aw_block ?_ | refine aw_region ?_ | (refine lst_x rfl rfl ?_; intro K1 hK1; simp only [go_sem, d1]; (first | refine hK1 _ ?_ | refine andk (hK1 _ ?_)); clear hK1 K1) | ((first | refine lst_nil ?_ | refine aw_skip ?_); refine hK _ ?_; clear hK K)))
   (refine aw_cnd ?_; intro X Y hX hY; simp only [go_sem])
   refine hX ?_
   clear hX hY X Y
   (repeat (first | (refine aw_seq ?_; intro K hK) | refine aw_block ?_ | refine aw_region ?_ | (refine lst_x rfl rfl ?_; intro K1 hK1; simp only [go_sem]; (first | refine hK1 _ ?_ | refine andk (hK1 _ ?_)); clear hK1 K1) | ((first | refine lst_nil ?_ | refine aw_skip ?_); refine hK _ ?_; clear hK K)))
   refine aw_scope ?_
   have hiX : i < p.X.length := by omega
   have gx : (cInts p.X)[i]? = some (.v (.int .i64 p.X[i])) := cInts_get (List.getElem?_eq_getElem hiX)
   have hxi : fnL p.X 0 i = p.X[i] := fnL_get hiX
   by_cases hx : p.X[i] > 0
   ·have d2 : decide (p.X[i] > 0) = true := by simpa using hx
    (repeat (first | (refine aw_seq ?_; intro K hK) | refine aw_block ?_ | refine aw_region ?_ | (refine lst_x rfl rfl ?_; intro K1 hK1; simp only [go_sem, gx, cInts_len, lX, d2]; (first | refine hK1 _ ?_ | refine andk (hK1 _ ?_)); clear hK1 K1) | ((first | refine lst_nil ?_ | refine aw_skip ?_); refine hK _ ?_; clear hK K)))
    (refine aw_cnd ?_; intro X Y hX hY; simp only [go_sem])
    refine hX ?_
    clear hX hY X Y
    (refine aw_exit ?_; simp only [ThenA, InBl, reduceIte, Nat.reduceEqDiff]; (first | refine hK _ ?_ | (clear hK K; refine hK _ ?_) | (clear hK K; clear hK K; refine hK _ ?_) | (clear hK K; clear hK K; clear hK K; refine hK _ ?_) | (clear hK K; clear hK K; clear hK K; clear hK K; refine hK _ ?_) | (clear hK K; clear hK K; clear hK K; clear hK K; clear hK K; refine hK _ ?_)); clear hK K)
    (repeat (first | (refine aw_seq ?_; intro K hK) | refine aw_block ?_ | refine aw_region ?_ | (refine lst_x rfl rfl ?_; intro K1 hK1; simp only [go_sem]; (first | refine hK1 _ ?_ | refine andk (hK1 _ ?_)); clear hK1 K1) | ((first | refine lst_nil ?_ | refine aw_skip ?_); refine hK _ ?_; clear hK K)))
    ((try refine lst_nil ?_); (try refine aw_skip ?_); try simp only [ThenA])
    refine hK _ (i + 1, p, J, J2) ⟨by simp only; omega, hp, hO, fun v hv => ?_⟩ (by simp only; omega) ?_
    ·rcases Nat.lt_or_ge v i with h | h
     ·exact hvis v h
     ·have : v = i := by simp only at hv; omega
      subst this; rw [hxi]; exact hx
    ·unfold compS
     (refine le_tm ?_; simp only [LeTm, go_sem]; try simp)
   ·have d2 : decide (p.X[i] > 0) = false := by simpa using hx
    have hx0 : fnL p.X 0 i = 0 := by have := hO.ti.nn i; have e : p.S.idx i = fnL p.X 0 i := rfl; omega
    (repeat (first | (refine aw_seq ?_; intro K hK) | refine aw_block ?_ | refine aw_region ?_ | (refine lst_x rfl rfl ?_; intro K1 hK1; simp only [go_sem, gx, cInts_len, lX, d2]; (first | refine hK1 _ ?_ | refine andk (hK1 _ ?_)); clear hK1 K1) | ((first | refine lst_nil ?_ | refine aw_skip ?_); refine hK _ ?_; clear hK K)))
    (refine aw_cnd ?_; intro X Y hX hY; simp only [go_sem])
    refine hY ?_
    clear hX hY X Y
    (repeat (first | (refine aw_seq ?_; intro K hK) | refine aw_block ?_ | refine aw_region ?_ | (refine lst_x rfl rfl ?_; intro K1 hK1; simp only [go_sem, hp, List.length_nil, Nat.zero_mul, List.take_zero, List.nil_append, List.map_nil]; (first | refine hK1 _ ?_ | refine andk (hK1 _ ?_)); clear hK1 K1) | ((first | refine lst_nil ?_ | refine aw_skip ?_); refine hK _ ?_; clear hK K)))
    refine aw_label ?_
    simp only [ThenA]
    refine hK _ ?_
    clear hK K
    (repeat (first | (refine aw_seq ?_; intro K hK) | refine aw_block ?_ | refine aw_region ?_ | (refine lst_x rfl rfl ?_; intro K1 hK1; simp only [go_sem]; (first | refine hK1 _ ?_ | refine andk (hK1 _ ?_)); clear hK1 K1) | ((first | refine lst_nil ?_ | refine aw_skip ?_); refine hK _ ?_; clear hK K)))
    refine aw_le (le_pick [0, 1, 2, 3, 4, 7] rfl rfl) ?_
    (try simp only [List.set_nil, List.take_nil, List.take_zero, List.map_append, go_sem])
    (try simp only [cInts_ren])
    refine aw_loop (fun x : Bool × Tst × List Int × List Ar => compS R t R.length i x.2.1 x.2.2.1 x.2.2.2) (fun x => Hd (Adj t R) R.length x.1 x.2.1 ∧ (∀ v, v < i → 0 < fnL x.2.1.X 0 v) ∧ (0 < fnL x.2.1.X 0 i ∨ x.1 = true ∧ x.2.1.pt = [(i, 0)])) (fun x => x.2.1.ms x.1) (true, { p with pt := [(i, 0)] }, J, []) ?_ ?_ ?_
    ·exact ⟨hO.root hp hlt hx0, hvis, .inr ⟨rfl, rfl⟩⟩
    ·unfold compS
     (refine le_tm ?_; simp only [LeTm, go_sem]; try simp)
    ·rintro ⟨b, p, J, J2⟩ ⟨hH, hvis, hri⟩ K hK
     simp only at hH hvis hri
     rcases List.eq_nil_or_concat p.pt with e | ⟨P, ⟨v, k⟩, e⟩
     ·cases b with
      | true => obtain ⟨P1, t', q, e2, _⟩ := hH; rw [e] at e2; simp at e2
      | false =>
       have hB : HdB (Adj t R) R.length p := hH
       have hxi2 : 0 < fnL p.X 0 i := by
        rcases hri with h | ⟨h, _⟩
        ·exact h
        ·cases h
       have d3 : decide ((p.pt.length : Int) > 0) = false := by simp [e]
       unfold compS
       (repeat (first | (refine aw_seq ?_; intro K hK) | refine aw_block ?_ | refine aw_region ?_ | (refine lst_x rfl rfl ?_; intro K1 hK1; simp only [go_sem, d3]; (first | refine hK1 _ ?_ | refine andk (hK1 _ ?_)); clear hK1 K1) | ((first | refine lst_nil ?_ | refine aw_skip ?_); refine hK _ ?_; clear hK K)))
       (refine aw_cnd ?_; intro X Y hX hY; simp only [go_sem])
       refine hY ?_
       clear hX hY X Y
       (refine aw_exit ?_; simp only [ThenA, InBl, reduceIte, Nat.reduceEqDiff]; (first | refine hK _ ?_ | (clear hK K; refine hK _ ?_) | (clear hK K; clear hK K; refine hK _ ?_) | (clear hK K; clear hK K; clear hK K; refine hK _ ?_) | (clear hK K; clear hK K; clear hK K; clear hK K; refine hK _ ?_) | (clear hK K; clear hK K; clear hK K; clear hK K; clear hK K; refine hK _ ?_)); clear hK K)
       (repeat (first | (refine aw_seq ?_; intro K hK) | refine aw_block ?_ | refine aw_region ?_ | (refine lst_x rfl rfl ?_; intro K1 hK1; simp only [go_sem]; (first | refine hK1 _ ?_ | refine andk (hK1 _ ?_)); clear hK1 K1) | ((first | refine lst_nil ?_ | refine aw_skip ?_); refine hK _ ?_; clear hK K)))
       ((try refine lst_nil ?_); (try refine aw_skip ?_); try simp only [ThenA])
       refine hK _ (i + 1, p, J, J2) ⟨by simp only; omega, e, hB.1, fun v hv => ?_⟩ (by simp only; omega) ?_
       ·rcases Nat.lt_or_ge v i with h | h
        ·exact hvis v h
        ·have : v = i := by simp only at hv; omega
         subst this; exact hxi2
       ·unfold compS
        (refine le_tm ?_; simp only [LeTm, go_sem]; try simp)
     ·rw [List.concat_eq_append] at e
      have hKo := hK
      generalize hm0 : p.ms b = m0 at hKo
      have eL : p.pt.length = P.length + 1 := by rw [e]; simp
      have hpl : P.length + 1 ≤ R.length := by
       rw [← eL]
       cases b with
       | true =>
        obtain ⟨P1, t1, _, _, hM, _⟩ := HdA.visit (show HdA (Adj t R) R.length p from hH)
        exact hM.1.len.1
       | false => exact (show HdB (Adj t R) R.length p from hH).1.len.1
      have d3 : decide (((P.length + 1 : Nat) : Int) > 0) = true := by simp
      have e5 : ((P.length + 1 : Nat) : Int) - 1 = (P.length : Int) := by omega
      have c0 := top_c0 P v k J2
      have c1 := top_c1 P v k J2
      rw [← e] at c0 c1
      have hl6 : P.length + 1 ≤ (p.pt.map frI ++ J2).length := by rw [List.length_append, List.length_map, eL]; omega
      unfold compS
      rw [eL]
      (repeat (first | (refine aw_seq ?_; intro K hK) | refine aw_block ?_ | refine aw_region ?_ | (refine lst_x rfl rfl ?_; intro K1 hK1; simp only [go_sem, d3]; (first | refine hK1 _ ?_ | refine andk (hK1 _ ?_)); clear hK1 K1) | ((first | refine lst_nil ?_ | refine aw_skip ?_); refine hK _ ?_; clear hK K)))
      (refine aw_cnd ?_; intro X Y hX hY; simp only [go_sem])
      refine hX ?_
      clear hX hY X Y
      (repeat (first | (refine aw_seq ?_; intro K hK) | refine aw_block ?_ | refine aw_region ?_ | (refine lst_x rfl rfl ?_; intro K1 hK1; simp only [go_sem, e5, cArcs_len, c0, c1, Nat.add_zero]; (first | refine hK1 _ ?_ | refine andk (hK1 _ ?_)); clear hK1 K1) | ((first | refine lst_nil ?_ | refine aw_skip ?_); refine hK _ ?_; clear hK K)))
      refine aw_joinI hK (fun x : Tst × List Int × List Ar => compT R t R.length i (P.length * 2) v x.1 x.2.1 x.2.2) (fun x => Mid (Adj t R) R.length x.1 P v k ∧ 2 * x.1.X.count 0 + (P.length + 1) ≤ p.ms b ∧ (∀ u, u < i → 0 < fnL x.1.X 0 u) ∧ 0 < fnL x.1.X 0 i) ?_ ?_
      ·clear hK; intro hK
       cases b with
       | true =>
        have hA : HdA (Adj t R) R.length p := hH
        have lX := (show Tst.Ok _ _ { p with pt := _ } from hA.choose_spec.choose_spec.choose_spec.2.2.2.1).lX
        have lW := (show Tst.Ok _ _ { p with pt := _ } from hA.choose_spec.choose_spec.choose_spec.2.2.2.1).lW
        have lop := (show Tst.Ok _ _ { p with pt := _ } from hA.choose_spec.choose_spec.choose_spec.2.2.2.1).len.2.1
        simp only at lX lW lop
        obtain ⟨P1, t1, q1, q2, hM, hms, hcn⟩ := hA.visit
        rw [e] at q1
        obtain ⟨rfl, q3⟩ := List.append_inj' q1 rfl
        cases q3
        have d4 : (((0 : Nat) : Int) == 0) = true := rfl
        have hvl : v < p.X.length := by omega
        have op1 := op_push p.op v J
        have hopl : p.op.length ≤ (p.op.map Int.ofNat ++ J).length := by simp
        (repeat (first | (refine aw_seq ?_; intro K hK) | refine aw_block ?_ | refine aw_region ?_ | (refine lst_x rfl rfl ?_; intro K1 hK1; simp only [go_sem, d4]; (first | refine hK1 _ ?_ | refine andk (hK1 _ ?_)); clear hK1 K1) | ((first | refine lst_nil ?_ | refine aw_skip ?_); refine hK _ ?_; clear hK K)))
        (refine aw_cnd ?_; intro X Y hX hY; simp only [go_sem, d4])
        refine hX ?_
        clear hX hY X Y
        (repeat (first | (refine aw_seq ?_; intro K hK) | refine aw_block ?_ | refine aw_region ?_ | (refine lst_x rfl rfl ?_; intro K1 hK1; simp only [go_sem, cInts_len, lX, lW, ST.put, setC, A0.cells, cInts_set, op1]; (first | refine hK1 _ ?_ | refine andk (hK1 _ ?_)); clear hK1 K1) | ((first | refine lst_nil ?_ | refine aw_skip ?_); refine hK _ ?_; clear hK K)))
        ((try refine lst_nil ?_); (try refine aw_skip ?_); try simp only [ThenA])
        refine hK _ ({ p with X := p.X.set v (p.c + 1), W := p.W.set v (p.c + 1), op := p.op ++ [v], c := p.c + 1 }, [], J2) ⟨hM, ?_, fun u hu => fnL_pos hvl (hvis u hu), ?_⟩ ?_
        ·simp only; omega
        ·rcases hri with h | ⟨_, h⟩
         ·exact fnL_pos hvl h
         ·rw [e] at h
          have hvi : v = i := by
           have := List.append_inj' (t₁ := [(v, 0)]) (s₂ := []) h rfl
           cases this.2; rfl
          subst hvi
          simp only
          rw [fnL_set hvl, upd_eq]; omega
        ·refine Le.trans (le_pick [0, 1, 2, 3, 7, 5] rfl rfl) ?_
         (try simp only [List.set_nil, List.take_nil, List.take_zero, List.map_append, go_sem])
         (try simp only [cInts_ren, cArcs_ren2])
         simp only [compT, eL, List.map_append, List.map_cons, List.map_nil, List.length_append, List.length_cons, List.length_nil]
         (refine le_tm ?_; simp only [LeTm, go_sem]; try simp)
       | false =>
        have hB : HdB (Adj t R) R.length p := hH
        have hk1 := hB.2 v k (by rw [e]; simp)
        have d4 : ((k : Int) == 0) = false := by simp; omega
        (repeat (first | (refine aw_seq ?_; intro K hK) | refine aw_block ?_ | refine aw_region ?_ | (refine lst_x rfl rfl ?_; intro K1 hK1; simp only [go_sem, d4]; (first | refine hK1 _ ?_ | refine andk (hK1 _ ?_)); clear hK1 K1) | ((first | refine lst_nil ?_ | refine aw_skip ?_); refine hK _ ?_; clear hK K)))
        (refine aw_cnd ?_; intro X Y hX hY; simp only [go_sem, d4])
        refine hY ?_
        clear hX hY X Y
        ((try refine lst_nil ?_); (try refine aw_skip ?_); try simp only [ThenA])
        refine hK _ (p, J, J2) ⟨⟨hB.1, e, fun g j hg => hB.2 g j (by rw [e]; exact List.mem_append_left _ hg)⟩, ?_, hvis, ?_⟩ ?_
        ·simp only [Tst.ms, eL]; simp
        ·rcases hri with h | ⟨h, _⟩
         ·exact h
         ·cases h
        ·simp only [compT, eL]
         (refine le_tm ?_; simp only [LeTm, go_sem]; try simp)
      ·clear hK
       clear c0 c1 hl6 eL e hH hri hvis
       rw [hm0]
       clear hm0
       rintro ⟨p, J, J2⟩ ⟨hM, hms, hvis, hxi⟩
       simp only at hM hms hvis hxi
       have hvn : v < R.length := hM.lt
       have hrv := hr _ (List.getElem_mem hvn)
       unfold compT
       (repeat (first | (refine aw_seq ?_; intro K hK) | refine aw_block ?_ | refine aw_region ?_ | (refine lst_x rfl rfl ?_; intro K1 hK1; simp only [go_sem]; (first | refine hK1 _ ?_ | refine andk (hK1 _ ?_)); clear hK1 K1) | ((first | refine lst_nil ?_ | refine aw_skip ?_); refine hK _ ?_; clear hK K)))
       (refine lst_cons rfl ?_; intro K1 hK1; refine (stp_call0 (ids := []) (arcsT_fc R v t hvn (by omega) (by omega)) rfl rfl (by simp only [go_sem]) (by kernel_rfl) (by (simp only [List.append_nil, go_sem]) <;> rfl) ?_).stp)
       rintro _ _ ⟨rfl, rfl⟩
       (simp only [aInts, aSets, List.append_nil, List.nil_append, List.length_map, go_sem]; refine hK1 _ ?_; clear hK1 K1)
       (repeat (first | (refine aw_seq ?_; intro K hK) | refine aw_block ?_ | refine aw_region ?_ | (refine lst_x rfl rfl ?_; intro K1 hK1; simp only [go_sem]; (first | refine hK1 _ ?_ | refine andk (hK1 _ ?_)); clear hK1 K1) | ((first | refine lst_nil ?_ | refine aw_skip ?_); refine hK _ ?_; clear hK K)))
       obtain ⟨A, hA⟩ : ∃ A, A = tauOf t R[v] := ⟨_, rfl⟩
       have hE : Adj t R v = A.map fun a => a.2.toNat := by
        unfold Adj
        rw [hA, List.getD_eq_getElem?_getD, List.getElem?_eq_getElem hvn]; rfl
       have hAb : ∀ a ∈ A, 0 ≤ a.2 ∧ a.2 < (R.length : Int) := fun a ha => by
        have h1 : a ∈ R[v] := by
         rw [hA] at ha; unfold tauOf at ha
         split at ha
         ·exact (List.takeWhile_sublist _).subset ha
         ·exact ha
        have h2 := (of_decide_eq_true hv).1.2.2.2 _ (List.getElem_mem hvn) a h1
        exact ⟨h2.2.2.1, h2.2.2.2⟩
       have hAl : A.length ≤ 1000000 := by
        have : A.length ≤ R[v].length := by
         rw [hA]; unfold tauOf
         split
         ·exact (List.takeWhile_sublist _).length_le
         ·exact Nat.le_refl _
        omega
       rw [← hA]
       refine aw_loop (fun x : Nat × Tst => compU R t R.length i (P.length * 2) v A x.2 J J2) (fun x => Mid (Adj t R) R.length x.2 P v x.1 ∧ x.2.X = p.X) (fun x => A.length - x.1) (k, p) ?_ ?_ ?_
       ·exact ⟨hM, rfl⟩
       ·simp only [compU]
        (refine le_tm ?_; simp only [LeTm, go_sem]; try simp)
       ·rintro ⟨k, q⟩ ⟨hM, hqX⟩ K hK
        simp only at hM hqX
        rw [← hqX] at hms hvis hxi
        have eP := hM.2.1
        have eL : q.pt.length = P.length + 1 := by rw [eP]; simp
        have lX := hM.1.lX
        have lW := hM.1.lW
        have lO := hM.1.lO
        have c0 := top_c0 P v k J2
        have c1 := top_c1 P v k J2
        rw [← eP] at c0 c1
        by_cases hlt : k < A.length
        ·have d1 : decide ((k : Int) < (A.length : Int)) = true := by simpa using hlt
         have ha1 := tArcs_c1 hlt
         obtain ⟨tn, htn⟩ : ∃ tn : Nat, A[k].2 = tn := ⟨A[k].2.toNat, by have := (hAb _ (List.getElem_mem hlt)).1; omega⟩
         have htl : tn < R.length := by have := (hAb _ (List.getElem_mem hlt)).2; omega
         have hEk : (Adj t R v)[k]? = some tn := by
          rw [hE, List.getElem?_map, List.getElem?_eq_getElem hlt, Option.map_some, htn]; rfl
         rw [htn] at ha1
         have ek : (k : Int) + 1 = ((k + 1 : Nat) : Int) := by omega
         have ts : (cArcs (q.pt.map frI ++ J2)).set (P.length * 2 + 1) (.v (.int .i64 ((k + 1 : Nat) : Int))) = cArcs ((P ++ [(v, k + 1)]).map frI ++ J2) := by rw [eP]; exact top_set P v k J2 (k + 1)
         have gx : (cInts q.X)[tn]? = some (.v (.int .i64 q.X[tn])) := cInts_get (List.getElem?_eq_getElem (by omega))
         have fx : fnL q.X 0 tn = q.X[tn] := fnL_get (by omega)
         have hl5 : P.length + 1 ≤ (q.pt.map frI ++ J2).length := by rw [List.length_append, List.length_map, eL]; omega
         simp only [compU, eL]
         (repeat (first | (refine aw_seq ?_; intro K hK) | refine aw_block ?_ | refine aw_region ?_ | (refine lst_x rfl rfl ?_; intro K1 hK1; simp only [go_sem, c1, d1, tArcs_len, half2, Nat.add_zero]; (first | refine hK1 _ ?_ | refine andk (hK1 _ ?_)); clear hK1 K1) | ((first | refine lst_nil ?_ | refine aw_skip ?_); refine hK _ ?_; clear hK K)))
         (refine aw_cnd ?_; intro X Y hX hY; simp only [go_sem])
         refine hX ?_
         clear hX hY X Y
         (repeat (first | (refine aw_seq ?_; intro K hK) | refine aw_block ?_ | refine aw_region ?_ | (refine lst_x rfl rfl ?_; intro K1 hK1; simp only [go_sem, c1, ha1, ek, ts, gx, lX, cInts_len, cArcs_len, tArcs_len, half2, Nat.add_zero, ST.put, setC, A0.cells]; (first | refine hK1 _ ?_ | refine andk (hK1 _ ?_)); clear hK1 K1) | ((first | refine lst_nil ?_ | refine aw_skip ?_); refine hK _ ?_; clear hK K)))
         by_cases h0 : fnL q.X 0 tn = 0
         ·have d2 : (q.X[tn] == 0) = true := by rw [← fx]; simpa using h0
          have tp := top_push (P ++ [(v, k + 1)]) tn J2
          rw [show (P ++ [(v, k + 1)]).length = P.length + 1 from by simp] at tp
          have hpu := hM.push hEk htl h0
          have hl6 : P.length + 1 ≤ ((P ++ [(v, k + 1)]).map frI ++ J2).length := by simp
          (refine aw_cnd ?_; intro X Y hX hY; simp only [go_sem, d2])
          refine hX ?_
          clear hX hY X Y
          (repeat (first | (refine aw_seq ?_; intro K hK) | refine aw_block ?_ | refine aw_region ?_ | (refine lst_x rfl rfl ?_; intro K1 hK1; simp only [go_sem, tp, cArcs_len]; (first | refine hK1 _ ?_ | refine andk (hK1 _ ?_)); clear hK1 K1) | ((first | refine lst_nil ?_ | refine aw_skip ?_); refine hK _ ?_; clear hK K)))
          (refine aw_exit ?_; simp only [ThenA, InBl, reduceIte, Nat.reduceEqDiff])
          refine hKo _ (true, { q with pt := P ++ [(v, k + 1)] ++ [(tn, 0)] }, J, []) ⟨hpu, hvis, .inl hxi⟩ ?_ ?_
          ·simp only [Tst.ms, if_true, List.length_append, List.length_cons, List.length_nil]
           omega
          ·refine Le.trans (le_pick [0, 1, 2, 3, 4, 7] rfl rfl) ?_
           (try simp only [List.set_nil, List.take_nil, List.take_zero, List.map_append, go_sem])
           (try simp only [cInts_ren, cArcs_ren2])
           simp only [compS, List.map_append, List.map_cons, List.map_nil, List.length_append, List.length_cons, List.length_nil]
           (refine le_tm ?_; simp only [LeTm, go_sem]; try simp)
         ·have d2 : (q.X[tn] == 0) = false := by rw [← fx]; simpa using h0
          have hpos : 0 < fnL q.X 0 tn := by have := hM.1.ti.nn tn; have e : q.S.idx tn = fnL q.X 0 tn := rfl; omega
          have go1 : (cInts q.O)[tn]? = some (.v (.int .i64 q.O[tn])) := cInts_get (List.getElem?_eq_getElem (by omega))
          have fo : fnL q.O (-1) tn = q.O[tn] := fnL_get (by omega)
          have gw : (cInts q.W)[v]? = some (.v (.int .i64 q.W[v])) := cInts_get (List.getElem?_eq_getElem (by omega))
          have fw : fnL q.W 0 v = q.W[v] := fnL_get (by omega)
          (refine aw_cnd ?_; intro X Y hX hY; simp only [go_sem, d2])
          refine hY ?_
          clear hX hY X Y
          by_cases ho : fnL q.O (-1) tn < 0
          ·have d3 : decide (q.O[tn] < 0) = true := by rw [← fo]; simpa using ho
           (repeat (first | (refine aw_seq ?_; intro K hK) | refine aw_block ?_ | refine aw_region ?_ | (refine lst_x rfl rfl ?_; intro K1 hK1; simp only [go_sem, go1, lO, cInts_len, d3]; (first | refine hK1 _ ?_ | refine andk (hK1 _ ?_)); clear hK1 K1) | ((first | refine lst_nil ?_ | refine aw_skip ?_); refine hK _ ?_; clear hK K)))
           (refine aw_cnd ?_; intro X Y hX hY; simp only [go_sem])
           refine hX ?_
           clear hX hY X Y
           (repeat (first | (refine aw_seq ?_; intro K hK) | refine aw_block ?_ | refine aw_region ?_ | (refine lst_x rfl rfl ?_; intro K1 hK1; simp only [go_sem]; (first | refine hK1 _ ?_ | refine andk (hK1 _ ?_)); clear hK1 K1) | ((first | refine lst_nil ?_ | refine aw_skip ?_); refine hK _ ?_; clear hK K)))
           (refine aw_regionZ [] (.m 0 0 0 (.m 1 0 0 (.m 2 0 0 (.m 3 0 0 (.m 4 0 0 (.m 5 1 12 (.m 6 0 0 (.m 7 0 0 (.m 8 0 0 (.m 9 1 12 (.m 10 0 0 (.m 11 0 0 (.a 12 .e))))))))))))) (by kernel_rfl) (by kernel_rfl) (by intro c st h; simp [ThenA, InBl, Ret] at h) ?_)
           (repeat (first | ((first | refine z_0 rfl rfl rfl ?_ | refine z_1 rfl rfl rfl rfl rfl rfl rfl ?_ | refine z_1b rfl rfl rfl ?_); intro K1 hK1; simp only [go_sem, gw, gx, lW, lX, cInts_len]; (first | refine hK1 _ ?_ | refine andk (hK1 _ ?_)); clear hK1 K1) | (refine z_nil ⟨by simp, by simp, ?_⟩; refine hK _ ?_; clear hK K)))
           (refine z_3 rfl rfl rfl rfl ?_; intro K1 hK1; refine stp_ev rfl ?_; simp only [go_sem, ST.put, setC, A0.cells, cInts_set, cInts_len, lW]; (first | refine hK1 _ ?_ | refine andk (hK1 _ ?_)); clear hK1 K1)
           refine z_nil ⟨by simp, by simp, ?_⟩
           simp only [ThenA, InBl]
           refine hK _ (k + 1, { q with W := q.W.set v (mn2 (fnL q.W 0 v) (fnL q.X 0 tn)), pt := P ++ [(v, k + 1)] }) ⟨hM.edge2 hEk hpos ho, hqX⟩ (by simp only; omega) ?_
           simp only [compU, mn2, fw, fx, List.map_append, List.map_cons, List.map_nil, List.length_append, List.length_cons, List.length_nil]
           (refine le_tm ?_; simp only [LeTm, go_sem]; try simp)
          ·have d3 : decide (q.O[tn] < 0) = false := by rw [← fo]; simpa using ho
           (repeat (first | (refine aw_seq ?_; intro K hK) | refine aw_block ?_ | refine aw_region ?_ | (refine lst_x rfl rfl ?_; intro K1 hK1; simp only [go_sem, go1, lO, cInts_len, d3]; (first | refine hK1 _ ?_ | refine andk (hK1 _ ?_)); clear hK1 K1) | ((first | refine lst_nil ?_ | refine aw_skip ?_); refine hK _ ?_; clear hK K)))
           (refine aw_cnd ?_; intro X Y hX hY; simp only [go_sem])
           refine hY ?_
           clear hX hY X Y
           (repeat (first | (refine aw_seq ?_; intro K hK) | refine aw_block ?_ | refine aw_region ?_ | (refine lst_x rfl rfl ?_; intro K1 hK1; simp only [go_sem]; (first | refine hK1 _ ?_ | refine andk (hK1 _ ?_)); clear hK1 K1) | ((first | refine lst_nil ?_ | refine aw_skip ?_); refine hK _ ?_; clear hK K)))
           ((try refine lst_nil ?_); (try refine aw_skip ?_); try simp only [ThenA])
           refine hK _ (k + 1, { q with pt := P ++ [(v, k + 1)] }) ⟨hM.edge1 hEk hpos (by omega), hqX⟩ (by simp only; omega) ?_
           simp only [compU]
           (refine le_tm ?_; simp only [LeTm, go_sem]; try simp)
        ·have d1 : decide ((k : Int) < (A.length : Int)) = false := by simpa using hlt
         have hkE : (Adj t R v).length ≤ k := by rw [hE, List.length_map]; omega
         have gw : (cInts q.W)[v]? = some (.v (.int .i64 q.W[v])) := cInts_get (List.getElem?_eq_getElem (by omega))
         have fw : fnL q.W 0 v = q.W[v] := fnL_get (by omega)
         have gx : (cInts q.X)[v]? = some (.v (.int .i64 q.X[v])) := cInts_get (List.getElem?_eq_getElem (by omega))
         have fx : fnL q.X 0 v = q.X[v] := fnL_get (by omega)
         simp only [compU, eL]
         (repeat (first | (refine aw_seq ?_; intro K hK) | refine aw_block ?_ | refine aw_region ?_ | (refine lst_x rfl rfl ?_; intro K1 hK1; simp only [go_sem, c1, d1, tArcs_len, half2, Nat.add_zero]; (first | refine hK1 _ ?_ | refine andk (hK1 _ ?_)); clear hK1 K1) | ((first | refine lst_nil ?_ | refine aw_skip ?_); refine hK _ ?_; clear hK K)))
         (refine aw_cnd ?_; intro X Y hX hY; simp only [go_sem])
         refine hY ?_
         clear hX hY X Y
         (refine aw_exit ?_; simp only [ThenA, InBl, reduceIte, Nat.reduceEqDiff]; (first | refine hK _ ?_ | (clear hK K; refine hK _ ?_) | (clear hK K; clear hK K; refine hK _ ?_) | (clear hK K; clear hK K; clear hK K; refine hK _ ?_) | (clear hK K; clear hK K; clear hK K; clear hK K; refine hK _ ?_) | (clear hK K; clear hK K; clear hK K; clear hK K; clear hK K; refine hK _ ?_)); clear hK K)
         (repeat (first | (refine aw_seq ?_; intro K hK) | refine aw_block ?_ | refine aw_region ?_ | (refine lst_x rfl rfl ?_; intro K1 hK1; simp only [go_sem]; (first | refine hK1 _ ?_ | refine andk (hK1 _ ?_)); clear hK1 K1) | ((first | refine lst_nil ?_ | refine aw_skip ?_); refine hK _ ?_; clear hK K)))
         (refine aw_regionU 8 [(0, 0), (1, 0), (2, 0), (3, 1), (4, 0), (5, 0), (6, 0), (7, 1), (8, 2)] (by kernel_rfl) (by kernel_rfl) (by intro c st h; simp [ThenA, InBl, Ret] at h) ?_)
         (repeat (first | ((first | refine u_0x rfl rfl rfl ?_ | refine u_1x rfl rfl rfl ?_); intro K1 hK1; simp only [go_sem, gw, gx, lW, lX, cInts_len]; (first | refine hK1 _ ?_ | refine andk (hK1 _ ?_)); clear hK1 K1) | (refine u_2x rfl rfl rfl rfl ?_; intro K1 hK1; simp only [go_sem, gw, gx, lW, lX, cInts_len]; (first | refine hK1 _ ?_ | refine andk (hK1 _ ?_)); clear hK1 K1) | (refine u_nil ?_; refine hK _ ?_; clear hK K)))
         refine aw_joinI hK (fun x : Tst × List Int => compT R t R.length i (P.length * 2) v x.1 x.2 J2) (fun x => x.1.pt = q.pt ∧ x.1.W = q.W ∧ x.1.X = q.X ∧ HdB (Adj t R) R.length { x.1 with W := lowUp q.W v P, pt := P }) ?_ ?_
         ·clear hK; intro hK
          by_cases hl : fnL q.W 0 v = fnL q.X 0 v
          ·have d2 : (q.W[v] == q.X[v]) = true := by rw [← fw, ← fx]; simpa using hl
           (refine aw_cnd ?_; intro X Y hX hY; simp only [go_sem, d2])
           refine hX ?_
           clear hX hY X Y
           obtain ⟨O1, O2, ho, ho1, ho2, hob⟩ := hM.split
           have hC := hM.close hkE hl ho
           have hopn := hM.1.len.2.1
           have hgj : ∀ j, j < q.op.length → (q.op.map Int.ofNat ++ J)[j]? = q.op[j]?.map Int.ofNat := fun j hj => by
            rw [List.getElem?_append_left (by simpa using hj), List.getElem?_map]
           have hO1 : O1.length < q.op.length := by rw [ho]; simp
           have hcl := close_fc (q.op.map Int.ofNat ++ J) q.O q.op.length O1.length v hO1 (by simp) (by rw [hgj _ hO1, ho]; simp)
            (fun j hj1 hj2 => by
             rw [hgj j hj2, ho, List.getElem?_append_right (by omega)]
             obtain ⟨d, hd⟩ : ∃ d, j - O1.length = d + 1 := ⟨j - O1.length - 1, by omega⟩
             rw [hd, List.getElem?_cons_succ]
             intro hx
             obtain ⟨y, hy1, hy2⟩ := Option.map_eq_some_iff.1 hx
             have hyv : y = v := Int.ofNat.inj hy2
             have := ho2 y (List.mem_of_getElem? hy1)
             rw [hyv] at this
             omega)
            (fun j x hj1 hj2 hx => by
             rw [hgj j hj2] at hx
             obtain ⟨y, hy1, hy2⟩ := Option.map_eq_some_iff.1 hx
             have := hob y (List.mem_of_getElem? hy1)
             rw [← hy2, lO]
             exact ⟨Int.natCast_nonneg y, Int.ofNat_lt.2 this⟩)
            (by omega) (by omega)
           have hseg : ((q.op.map Int.ofNat ++ J).drop O1.length).take (q.op.length - O1.length) = (v :: O2).map Int.ofNat := by
            rw [ho, List.map_append, List.append_assoc, List.drop_append_of_le_length (by simp), List.drop_of_length_le (by simp), List.nil_append, List.take_append_of_le_length (by simp), List.take_of_length_le (by simp)]
           rw [hseg, lO] at hcl
           have hJ : q.op.map Int.ofNat ++ J = O1.map Int.ofNat ++ ((v :: O2).map Int.ofNat ++ J) := by rw [ho, List.map_append, List.append_assoc]
           (repeat (first | (refine aw_seq ?_; intro K hK) | refine aw_block ?_ | refine aw_region ?_ | (refine lst_x rfl rfl ?_; intro K1 hK1; simp only [go_sem]; (first | refine hK1 _ ?_ | refine andk (hK1 _ ?_)); clear hK1 K1) | ((first | refine lst_nil ?_ | refine aw_skip ?_); refine hK _ ?_; clear hK K)))
           (refine lst_cons rfl ?_; intro K1 hK1; refine stp_callσ (ids := []) [4, 1] (hcl) rfl rfl (by simp only [go_sem]) (by first | assumption | kernel_rfl) rfl rfl (by (simp only [List.map_append, List.append_nil, go_sem]) <;> rfl) (by (simp only [pkh, rInts, cInts_ren, go_sem]) <;> rfl) ?_ ?_)
           ·rintro _ _ ⟨rfl, rfl⟩; rfl
           rintro _ _ ⟨rfl, rfl⟩
           (simp only [aInts, aSets, rInts, cInts_up, List.append_nil, List.nil_append, List.length_map, go_sem]; refine hK1 _ ?_; clear hK1 K1)
           (repeat (first | (refine aw_seq ?_; intro K hK) | refine aw_block ?_ | refine aw_region ?_ | (refine lst_x rfl rfl ?_; intro K1 hK1; simp only [go_sem]; (first | refine hK1 _ ?_ | refine andk (hK1 _ ?_)); clear hK1 K1) | ((first | refine lst_nil ?_ | refine aw_skip ?_); refine hK _ ?_; clear hK K)))
           ((try refine lst_nil ?_); (try refine aw_skip ?_); try simp only [ThenA])
           refine hK _ ({ q with O := setAt q.O ((v :: O2).map Int.ofNat) (minL v ((v :: O2).map Int.ofNat)), op := O1 }, (v :: O2).map Int.ofNat ++ J) ⟨rfl, rfl, rfl, hC⟩ ?_
           rw [hJ]
           simp only [compT, eL]
           (refine le_tm ?_; simp only [LeTm, go_sem]; try simp)
          ·have d2 : (q.W[v] == q.X[v]) = false := by rw [← fw, ← fx]; simpa using hl
           (refine aw_cnd ?_; intro X Y hX hY; simp only [go_sem, d2])
           refine hY ?_
           clear hX hY X Y
           ((try refine lst_nil ?_); (try refine aw_skip ?_); try simp only [ThenA])
           refine hK _ (q, J) ⟨rfl, rfl, rfl, hM.pop hkE hl⟩ ?_
           simp only [compT, eL]
           (refine le_tm ?_; simp only [LeTm, go_sem]; try simp)
         ·clear hK
          rintro ⟨r, J3⟩ ⟨hr1, hr2, hr3, hB⟩
          simp only at hr1 hr2 hr3 hB
          rw [← hr3] at hms hvis hxi
          have rL : r.pt.length = P.length + 1 := by rw [hr1, eL]
          have rP : r.pt = P ++ [(v, k)] := by rw [hr1, eP]
          have rW : r.W.length = R.length := by rw [hr2, lW]
          have hl7 : P.length + 1 ≤ (r.pt.map frI ++ J2).length := by rw [List.length_append, List.length_map, rL]; omega
          have rJ : r.pt.map frI ++ J2 = P.map frI ++ (frI (v, k) :: J2) := by rw [rP, List.map_append, List.append_assoc]; rfl
          simp only [compT, rL]
          rcases List.eq_nil_or_concat P with hP | ⟨P', ⟨u, j⟩, hP⟩
          ·have hPl : P.length = 0 := by rw [hP]; rfl
           have d5 : decide ((P.length : Int) > 0) = false := by rw [hPl]; rfl
           (repeat (first | (refine aw_seq ?_; intro K hK) | refine aw_block ?_ | refine aw_region ?_ | (refine lst_x rfl rfl ?_; intro K1 hK1; simp only [go_sem, e5, d5, cArcs_len]; (first | refine hK1 _ ?_ | refine andk (hK1 _ ?_)); clear hK1 K1) | ((first | refine lst_nil ?_ | refine aw_skip ?_); refine hK _ ?_; clear hK K)))
           (refine aw_cnd ?_; intro X Y hX hY; simp only [go_sem])
           refine hY ?_
           clear hX hY X Y
           ((try refine lst_nil ?_); (try refine aw_skip ?_); try simp only [ThenA])
           refine hKo _ (false, { r with W := lowUp q.W v P, pt := P }, J3, frI (v, k) :: J2) ⟨hB, hvis, .inl hxi⟩ ?_ ?_
           ·simp only [Tst.ms]; simp; omega
           ·have eW : lowUp q.W v P = r.W := by unfold lowUp; rw [hP]; exact hr2.symm
            rw [eW]
            rw [rJ]
            simp only [compS]
            (refine le_tm ?_; simp only [LeTm, go_sem]; try simp)
          ·rw [List.concat_eq_append] at hP
           have hPl : P.length = P'.length + 1 := by rw [hP]; simp
           have d5 : decide ((P.length : Int) > 0) = true := by rw [hPl]; simp
           have e6 : (P.length : Int) - 1 = (P'.length : Int) := by omega
           have c6 := top_c0 P' u j (frI (v, k) :: J2)
           rw [← hP, ← rJ] at c6
           have hun : u < R.length := hM.1.ti.lt u (hM.1.ti.pop u j (by show (u, j) ∈ q.pt; rw [eP, hP]; simp)).1
           have gw2 : (cInts r.W)[v]? = some (.v (.int .i64 r.W[v])) := cInts_get (List.getElem?_eq_getElem (by omega))
           have gu2 : (cInts r.W)[u]? = some (.v (.int .i64 r.W[u])) := cInts_get (List.getElem?_eq_getElem (by omega))
           have fw2 : fnL r.W 0 v = r.W[v] := fnL_get (by omega)
           have fu2 : fnL r.W 0 u = r.W[u] := fnL_get (by omega)
           have eW : lowUp q.W v P = r.W.set u (mn2 r.W[u] r.W[v]) := by
            rw [← fw2, ← fu2, hr2]; unfold lowUp; rw [hP]; simp
           (repeat (first | (refine aw_seq ?_; intro K hK) | refine aw_block ?_ | refine aw_region ?_ | (refine lst_x rfl rfl ?_; intro K1 hK1; simp only [go_sem, e5, d5, cArcs_len]; (first | refine hK1 _ ?_ | refine andk (hK1 _ ?_)); clear hK1 K1) | ((first | refine lst_nil ?_ | refine aw_skip ?_); refine hK _ ?_; clear hK K)))
           (refine aw_cnd ?_; intro X Y hX hY; simp only [go_sem])
           refine hX ?_
           clear hX hY X Y
           (repeat (first | (refine aw_seq ?_; intro K hK) | refine aw_block ?_ | refine aw_region ?_ | (refine lst_x rfl rfl ?_; intro K1 hK1; simp only [go_sem, e6, c6, cArcs_len, Nat.add_zero]; (first | refine hK1 _ ?_ | refine andk (hK1 _ ?_)); clear hK1 K1) | ((first | refine lst_nil ?_ | refine aw_skip ?_); refine hK _ ?_; clear hK K)))
           (refine aw_regionZ [] (.m 0 0 0 (.m 1 0 0 (.m 2 0 0 (.m 3 0 0 (.m 4 0 0 (.m 5 1 12 (.m 6 0 0 (.m 7 0 0 (.m 8 0 0 (.m 9 1 12 (.m 10 0 0 (.m 11 0 0 (.a 12 .e))))))))))))) (by kernel_rfl) (by kernel_rfl) (by intro c st h; simp [ThenA, InBl, Ret] at h) ?_)
           (repeat (first | ((first | refine z_0 rfl rfl rfl ?_ | refine z_1 rfl rfl rfl rfl rfl rfl rfl ?_ | refine z_1b rfl rfl rfl ?_); intro K1 hK1; simp only [go_sem, gw2, gu2, rW, cInts_len]; (first | refine hK1 _ ?_ | refine andk (hK1 _ ?_)); clear hK1 K1) | (refine z_nil ⟨by simp, by simp, ?_⟩; refine hK _ ?_; clear hK K)))
           (refine z_3 rfl rfl rfl rfl ?_; intro K1 hK1; refine stp_ev rfl ?_; simp only [go_sem, ST.put, setC, A0.cells, cInts_set, cInts_len, rW]; (first | refine hK1 _ ?_ | refine andk (hK1 _ ?_)); clear hK1 K1)
           refine z_nil ⟨by simp, by simp, ?_⟩
           simp only [ThenA, InBl]
           refine hKo _ (false, { r with W := lowUp q.W v P, pt := P }, J3, frI (v, k) :: J2) ⟨hB, hvis, .inl hxi⟩ ?_ ?_
           ·simp only [Tst.ms]; simp; omega
           ·rw [eW, rJ]
            simp only [compS, mn2]
            (refine le_tm ?_; simp only [LeTm, go_sem]; try simp)
  ·have d1 : decide ((i : Int) < (R.length : Int)) = false := by simpa using hlt
   unfold compS
   (repeat (first | (refine aw_seq ?_; intro K hK) | refine aw_block ?_ | refine aw_region ?_ | (refine lst_x rfl rfl ?_; intro K1 hK1; simp only [go_sem, d1]; (first | refine hK1 _ ?_ | refine andk (hK1 _ ?_)); clear hK1 K1) | ((first | refine lst_nil ?_ | refine aw_skip ?_); refine hK _ ?_; clear hK K)))
   (refine aw_cnd ?_; intro X Y hX hY; simp only [go_sem])
   refine hY ?_
   clear hX hY X Y
   (refine aw_exit ?_; simp only [ThenA, InBl, reduceIte, Nat.reduceEqDiff]; (first | refine hK _ ?_ | (clear hK K; refine hK _ ?_) | (clear hK K; clear hK K; refine hK _ ?_) | (clear hK K; clear hK K; clear hK K; refine hK _ ?_) | (clear hK K; clear hK K; clear hK K; clear hK K; refine hK _ ?_) | (clear hK K; clear hK K; clear hK K; clear hK K; clear hK K; refine hK _ ?_)); clear hK K)
   (repeat (first | (refine aw_seq ?_; intro K hK) | refine aw_block ?_ | refine aw_region ?_ | (refine lst_x rfl rfl ?_; intro K1 hK1; simp only [go_sem]; (first | refine hK1 _ ?_ | refine andk (hK1 _ ?_)); clear hK1 K1) | ((first | refine lst_nil ?_ | refine aw_skip ?_); refine hK _ ?_; clear hK K)))
   ((try refine aw_ret ?_); (try simp only [ThenA, InBl]); refine ret_le (le_pick [1] rfl rfl) ?_; (try simp only [List.set_nil, List.take_nil, List.take_zero, List.map_append, go_sem]); ((try refine aw_ret ?_); (try refine lst_nil ?_); (try simp only [ThenA, InBl]); refine ret_mk (by first | exact .inl rfl | exact .inr rfl) rfl ?_; simp only [rtn, resA, resL, resV, Tryd.results28, go_sem, true_and, and_true, cInts_ren]))
   have hie : i = R.length := by omega
   refine ⟨p.O, hO.lO, fun v hv2 => hO.ti.done hp (hvis v (by omega)), rfl⟩
end Go.Proofs.YtglchakimolfdaaDoor
