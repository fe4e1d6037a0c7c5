/- cmp.Compare, slices.Compare, slices.Equal, diamond.subset. slices.CompactFunc at [][]int with slices.Equal. slices.Compact at arcs. slices.SortFunc at arcs, from the shelf's contract. A row cut short. rows.Canonical. Nil slices in a row's cells, as empty frozen ones. A nil slice in a row's cell becomes an empty object. Systems copied. -/
import Derived.Test.YtglchakimolfdaaDoorG11
import Derived.Test.YtglchakimolfdaaDoorZk
import Derived.Test.YtglchakimolfdaaDoorG45
import Derived.Test.YtglchakimolfdaaDoorMD
import Derived.Test.YtglchakimolfdaaDoorShlf
import Derived.Shelf.SlSortCmp.NoneTotal
import Derived.Test.YtglchakimolfdaaDoorMF
import Derived.Test.YtglchakimolfdaaDoorMlz
namespace Go.Proofs.YtglchakimolfdaaDoor
set_option linter.unusedVariables false
set_option linter.unusedSimpArgs false
open Go.RowKit
set_option maxRecDepth 100000

end Go.Proofs.YtglchakimolfdaaDoor
namespace Go.Proofs.YtglchakimolfdaaDoor
set_option linter.unusedVariables false
set_option linter.unusedSimpArgs false
open Go.RowKit
set_option maxRecDepth 100000

def cmpGo {α : Type} [DecidableEq α] (p : α) : List α → List α
 | [] => []
 | y :: ys => if y = p then cmpGo p ys else y :: cmpGo y ys
def cmpA {α : Type} [DecidableEq α] : List α → List α
 | [] => []
 | x :: xs => x :: cmpGo x xs
section
variable {α : Type} [DecidableEq α]
theorem cmpGo_step {r ys : List α} {m p : Nat} {a b : α} (h : r = ys.take m ++ cmpGo a (ys.drop p)) (hm : m ≤ p) (hb : ys[p]? = some b) :
  (b = a → r = ys.take m ++ cmpGo b (ys.drop (p + 1))) ∧
  (b ≠ a → r = (ys.set m b).take (m + 1) ++ cmpGo b ((ys.set m b).drop (p + 1))) ∧ (b ≠ a → m = p → ys.set m b = ys) := by
 have hl := (List.getElem?_eq_some_iff.1 hb).1
 have hbe : ys[p] = b := (List.getElem?_eq_some_iff.1 hb).2
 have hd : ys.drop p = b :: ys.drop (p + 1) := by
  rw [List.drop_eq_getElem_cons hl, hbe]
 rw [hd] at h
 refine ⟨fun e => ?_, fun e => ?_, fun _ e => ?_⟩
 ·rw [h, e]; simp [cmpGo]
 ·have h2 : (ys.set m b).drop (p + 1) = ys.drop (p + 1) := by rw [List.drop_set, if_pos (by omega)]
  have h3 : (ys.set m b).take (m + 1) = ys.take m ++ [b] := by
   rw [List.take_add_one, List.take_set_of_le (Nat.le_refl m)]
   simp [List.getElem?_set, show m < ys.length by omega]
  rw [h, h2, h3]
  simp [cmpGo, e]
 ·subst e; rw [← hbe]; exact List.set_getElem_self hl
theorem cmpGo_end {r ys : List α} {m p : Nat} {a : α} (h : r = ys.take m ++ cmpGo a (ys.drop p)) (hp : ys.length ≤ p) : r = ys.take m := by
 rw [h, List.drop_eq_nil_of_le hp]; simp [cmpGo]
end
def cSets (L : List (List Int)) : List C := L.map fun x => C.t 1 (tInts x)
theorem setC_app : ∀ (zs cs : List C) (off : Nat), off + zs.length = cs.length → setC cs off zs = cs.take off ++ zs
 | [], cs, off, h => by simp [setC] at h ⊢; rw [List.take_of_length_le (by omega)]
 | x :: r, cs, off, h => by
  simp only [setC]
  rw [setC_app r _ (off + 1) (by simp at h ⊢; omega)]
  rw [List.take_add_one, List.take_set_of_le (Nat.le_refl _)]
  simp [List.getElem?_set, show off < cs.length by simp at h; omega]
end Go.Proofs.YtglchakimolfdaaDoor
namespace Go.Proofs.YtglchakimolfdaaDoor
set_option linter.unusedVariables false
set_option linter.unusedSimpArgs false
open Go.RowKit
set_option maxRecDepth 100000

theorem cArcs_at {xs : List Ar} {i : Nat} (h : i < xs.length) : (((cArcs xs).drop (i * 2)).take 2) = [.v (.int .i64 xs[i].1), .v (.int .i64 xs[i].2)] := by
 have := congrArg (List.map C.ofTr) (tArcs_at h)
 rw [List.map_take, List.map_drop, tArcs_c] at this
 exact this
theorem cArcs_set {ys : List Ar} {m : Nat} (h : m < ys.length) {a b : Int} : ((cArcs ys).set (m * 2) (.v (.int .i64 a))).set (m * 2 + 1) (.v (.int .i64 b)) = cArcs (ys.set m (a, b)) := by
 induction ys generalizing m with
 | nil => simp at h
 | cons y r ih =>
  have e : cArcs (y :: r) = C.v (.int .i64 y.1) :: C.v (.int .i64 y.2) :: cArcs r := rfl
  cases m with
  | zero => rw [e]; rfl
  | succ m =>
   have e2 : cArcs ((y :: r).set (m + 1) (a, b)) = C.v (.int .i64 y.1) :: C.v (.int .i64 y.2) :: cArcs (r.set m (a, b)) := rfl
   rw [e, e2, ← ih (by simpa using h), show (m + 1) * 2 = m * 2 + 1 + 1 by omega]
   rfl
theorem arcNe_d (x y : Operand) (a b : Ar) : aggEq Tryd.prog .neq 23 x y [.int .i64 a.1, .int .i64 a.2] [.int .i64 b.1, .int .i64 b.2] (!decide (a = b)) = True := by
 rw [← arcEq_b]
 refine eq_true ?_
 have := (arcAe x y [.v (.int .i64 a.1), .v (.int .i64 a.2)] [.v (.int .i64 b.1), .v (.int .i64 b.2)] _ _ rfl rfl rfl rfl).2
 simpa [eqI] using this
theorem cmpA_comp : ∀ l : List Ar, cmpA l = compL l := by
 have h : ∀ (l : List Ar) (p : Ar), cmpGo p l = compGo p l := by
  intro l
  induction l with
  | nil => intro p; rfl
  | cons y ys ih => intro p; simp only [cmpGo, compGo, ih]
 intro l
 cases l with
 | nil => rfl
 | cons x xs => simp only [cmpA, compL, h]
attribute [local go_sem] List.map_cons List.map_nil List.take_succ_cons List.take_zero List.drop_zero List.drop_succ_cons C.pl C.one List.all_cons List.all_nil Bool.and_true
set_option maxHeartbeats 1000000 in
theorem compact_arcs (L : List Ar) (hn : L.length ≤ 100000000) : FC Tryd.prog 36 [.a (.c (.s 0 L.length))] [.r ⟨23, 2, true, cArcs L⟩]
  (fun r o => r = .a (.c (.s 0 (cmpA L).length)) ∧ ∃ rest us, Fz rest us ∧ (L = [] → rest = []) ∧ o = [.r ⟨23, 2, true, cArcs (cmpA L) ++ rest⟩]) := by
 refine fc_intro Tryd.func36 rfl (by rw [Tryd.ntmps36]; simp) ?_
 rw [Tryd.ntmps36]
 simp only [enum]
 (refine wk0 ?_;(repeat clear hK K);repeat refine kq fun K hK=>?_)
 (refine aw_cnd ?_; intro X Y hX hY; simp only [go_sem])
 refine ⟨fun h => hX ?_, fun h => hY ?_⟩
 ·clear hX hY X Y
  (refine wk0 ?_;(repeat clear hK K);repeat refine kq fun K hK=>?_)
  refine rq0 Tryd.results36 ?_
  have hc : cmpA L = L := by
   match L, h with
   | [], _ => rfl
   | [x], _ => rfl
   | _ :: _ :: _, h => simp at h; omega
  rw [hc]
  exact ⟨rfl, [], [], trivial, fun _ => rfl, by simp⟩
 ·clear hX hY X Y
  have h2 : 2 ≤ L.length := by simp at h; omega
  clear h
  (refine wk0 ?_;(repeat clear hK K);repeat refine kq fun K hK=>?_)
  refine aw_loop (fun k : Nat => { tm := [(0, .a (.c (.s 0 L.length))), (3, .i (k + 1 : Nat))], hp := [.r ⟨23, 2, true, cArcs L⟩], n := 61, pin := 1 }) (fun k => k + 1 ≤ L.length ∧ cmpA L = L.take (k + 1) ++ cmpGo (L.getD k (0, 0)) (L.drop (k + 1))) (fun k => L.length - k) 0 ?_ ?_ ?_
  ·refine ⟨by omega, ?_⟩
   match L, h2 with
   | x :: r, _ => simp [cmpA]
  ·exact lmz
  ·rintro k ⟨hk, he⟩ K hK
   (refine wk0 ?_;(repeat clear hK K);repeat refine kq fun K hK=>?_)
   (refine aw_cnd ?_; intro X Y hX hY; simp only [go_sem])
   refine ⟨fun h => hX ?_, fun h => hY ?_⟩
   ·have hlt : k + 1 < L.length := by simp at h; omega
    have hlt0 : k < L.length := by omega
    clear hX hY X Y h
    have e1 : ((k + 1 : Nat) : Int) - 1 = (k : Int) := by omega
    have g0 : L.getD k (0, 0) = L[k] := by simp [List.getD, hlt0]
    rw [g0] at he
    have hst := cmpGo_step he (Nat.le_refl _) (List.getElem?_eq_getElem hlt)
    (refine wk0 ?_;(repeat clear hK K);repeat refine kq fun K hK=>?_)
    (refine aw_regionU 9 [(0, 0), (1, 0), (2, 0), (3, 1), (4, 0), (5, 0), (6, 0), (7, 0), (8, 1), (9, 2)] (by kernel_rfl) (by kernel_rfl) (by intro c st h; simp [ThenA, InBl, Ret] at h) ?_)
    (refine uk1 (an @e1 (an (cArcs_at hlt) (an (cArcs_at hlt0) (an @cArcs_len (an @arcEq_d (an @arcEq_b @true_and)))))) ?_; repeat clear hK K)
    (refine aw_cnd ?_; intro X Y hX hY; simp only [go_sem])
    refine ⟨fun h => hX ?_, fun h => hY ?_⟩
    ·clear hX hY X Y
     have heq : L[k + 1] = L[k] := by simpa using h
     clear h
     have hI := hst.1 heq
     clear hst he
     (refine wk0 ?_;(repeat clear hK K);repeat refine kq fun K hK=>?_)
     refine aw_loop (fun q : Nat × Nat × List Ar => { tm := [(0, .a (.c (.s 0 L.length))), (3, .i q.1), (4, .a (.c (.w 0 (k + 1) (L.length - (k + 1)) 2))), (5, .i (q.2.1 + 1 : Nat))], hp := [.r ⟨23, 2, true, cArcs q.2.2⟩], n := 61, pin := 1 })
      (fun q => q.2.2.length = L.length ∧ (∀ x ∈ q.2.2, x ∈ L) ∧ q.1 ≤ k + 1 + q.2.1 ∧ k + 2 + q.2.1 ≤ L.length ∧ cmpA L = q.2.2.take q.1 ++ cmpGo (q.2.2.getD (k + 1 + q.2.1) (0, 0)) (q.2.2.drop (k + 2 + q.2.1))) (fun q => L.length - q.2.1) (k + 1, 0, L) ?_ ?_ ?_
     ·refine ⟨rfl, fun x h => h, by simp, by simp only; omega, ?_⟩
      have : L.getD (k + 1) (0, 0) = L[k + 1] := by simp [List.getD, hlt]
      simp only [Nat.add_zero, this]
      exact hI
     ·exact lmz
     ·clear hI
      rintro ⟨m, j, ys⟩ ⟨hyl, hys, hm, hj, he⟩ K hK
      simp only at hyl hys hm hj he
      (refine wk0 ?_;(repeat clear hK K);repeat refine kq fun K hK=>?_)
      (refine aw_cnd ?_; intro X Y hX hY; simp only [go_sem])
      refine ⟨fun h => hX ?_, fun h => hY ?_⟩
      ·have hlt : k + 1 + (j + 1) < ys.length := by simp at h; omega
       have hlt0 : k + 1 + j < ys.length := by omega
       have hw : ((j + 1 : Nat) : Int) < ((L.length - (k + 1) : Nat) : Int) := by omega
       have hw0 : (j : Int) < ((L.length - (k + 1) : Nat) : Int) := by omega
       clear hX hY X Y h
       have e1 : ((j + 1 : Nat) : Int) - 1 = (j : Int) := by omega
       have g0 : ys.getD (k + 1 + j) (0, 0) = ys[k + 1 + j] := by simp [List.getD, hlt0]
       rw [g0, show k + 2 + j = k + 1 + (j + 1) from by omega] at he
       have hst := cmpGo_step he (by omega) (List.getElem?_eq_getElem hlt)
       (refine wk0 ?_;(repeat clear hK K);repeat refine kq fun K hK=>?_)
       have hk1 : k + 1 + (j + 1) = k + 1 + (j + 1) := rfl
       (refine aw_regionU 9 [(0, 0), (1, 0), (2, 0), (3, 1), (4, 0), (5, 0), (6, 0), (7, 0), (8, 1), (9, 2)] (by kernel_rfl) (by kernel_rfl) (by intro c st h; simp [ThenA, InBl, Ret] at h) ?_)
       (refine uk1 (an @e1 (an (cArcs_at hlt) (an (cArcs_at hlt0) (an @cArcs_len (an @arcNe_d (an @arcEq_b @true_and)))))) ?_; repeat clear hK K)
       (refine aw_cnd ?_; intro X Y hX hY; simp only [go_sem])
       refine ⟨fun h => hX ?_, fun h => hY ?_⟩
       ·clear hX hY X Y
        have hne : ys[k + 1 + (j + 1)] ≠ ys[k + 1 + j] := by simpa using h
        clear h
        have hm1 : m < ys.length := by omega
        (repeat (first | (refine aw_seq ?_; intro K hK) | refine aw_block ?_ | refine aw_region ?_ | (refine lst_x rfl rfl ?_; intro K1 hK1; simp only [go_sem, cArcs_at hlt, cArcs_len, setC, cArcs_set hm1]; (first | refine hK1 _ ?_ | refine andk (hK1 _ ?_)); clear hK1 K1) | ((first | refine lst_nil ?_ | refine aw_skip ?_); refine hK _ ?_; clear hK K)))
        refine rnz ?_
        have hst2 := hst.2.1 hne
        have hpp : (ys.set m ys[k + 1 + (j + 1)]).getD (k + 1 + (j + 1)) (0, 0) = ys[k + 1 + (j + 1)] := by
         rw [List.getD, List.getElem?_set_ne (by omega), List.getElem?_eq_getElem hlt]; rfl
        refine hK _ (m + 1, j + 1, ys.set m ys[k + 1 + (j + 1)]) ⟨by simp [hyl], ?_, by simp only; omega, by simp only; omega, ?_⟩ (by simp only; omega) ?_
        ·intro x hx
         rcases List.mem_or_eq_of_mem_set hx with hx | rfl
         ·exact hys x hx
         ·exact hys _ (List.getElem_mem hlt)
        ·simp only
         rw [hpp, show k + 2 + (j + 1) = k + 1 + (j + 1) + 1 from by omega]
         exact hst2
        ·exact lmz
       ·clear hX hY X Y
        have heq : ys[k + 1 + (j + 1)] = ys[k + 1 + j] := by simpa using h
        clear h
        (refine wk0 ?_;(repeat clear hK K);repeat refine kq fun K hK=>?_)
        refine rnz ?_
        refine hK _ (m, j + 1, ys) ⟨hyl, hys, by simp only; omega, by simp only; omega, ?_⟩ (by simp only; omega) ?_
        ·have h1 := hst.1 heq
         have : ys.getD (k + 1 + (j + 1)) (0, 0) = ys[k + 1 + (j + 1)] := by simp [List.getD, hlt]
         simp only
         rw [this, show k + 2 + (j + 1) = k + 1 + (j + 1) + 1 from by omega]
         exact h1
        ·exact lmz
      ·clear hX hY X Y
       (refine ekz ?_;repeat clear hK K)
       have hend : ys.length ≤ k + 2 + j := by simp at h; omega
       have hfin := cmpGo_end he hend
       have hm2 : m < L.length := by omega
       (refine wk0 ?_;(repeat clear hK K);repeat refine kq fun K hK=>?_)
       refine lst_cons rfl ?_; intro K1 hK1
       refine stp_clear (n := L.length - m) (off := m) (k := 2) (id := 0) rfl rfl Tryd.underlying24 ty23 (by simp only [go_sem]) rfl (by omega) rfl rfl (by simp only [cArcs_len]; omega) ?_
       intro zs hz1 hz2
       have hset : setC (cArcs ys) (m * 2) zs = cArcs (ys.take m) ++ zs := by
        rw [setC_app _ _ _ (by rw [cArcs_len]; omega), cArcs_take]
       simp only [hset, List.set_cons_zero, go_sem]
       refine hK1 _ ?_; clear hK1 K1
       (refine wk0 ?_;(repeat clear hK K);repeat refine kq fun K hK=>?_)
       refine rq0 Tryd.results36 ?_
       have hc : cmpA L = ys.take m := hfin
       rw [hc]
       refine ⟨by rw [List.length_take, Nat.min_eq_left (by omega)], zs, zs.map fun _ => Tr.v (.int .i64 0), ?_, fun h0 => by rw [h0] at h2; simp at h2, rfl⟩
       have : zs = zs.map id := by simp
       rw [this, List.map_map]
       exact Fz.map fun c hc => by
        have := hz2 c hc
        simp at this
        subst this
        exact .inl rfl
    ·clear hX hY X Y
     have hne : L[k + 1] ≠ L[k] := by simpa using h
     clear h
     (refine wk0 ?_;(repeat clear hK K);repeat refine kq fun K hK=>?_)
     refine rnz ?_
     refine hK _ (k + 1) ⟨hlt, ?_⟩ (by omega) ?_
     ·have h1 := hst.2.1 hne
      rw [hst.2.2 hne rfl] at h1
      have : L.getD (k + 1) (0, 0) = L[k + 1] := by simp [List.getD, hlt]
      rw [this]
      exact h1
     ·exact lmz
   ·have hge : k + 1 = L.length := by simp at h; omega
    clear hX hY X Y
    (refine ekz ?_;repeat clear hK K)
    (refine wk0 ?_;(repeat clear hK K);repeat refine kq fun K hK=>?_)
    refine rq0 Tryd.results36 ?_
    have hc : cmpA L = L := by rw [he, hge]; simp [cmpGo]
    rw [hc]
    exact ⟨rfl, [], [], trivial, fun _ => rfl, by simp⟩

open Go.RowKit Go.Shelf Go.Sort
def cpA (a : Ar) : List Value := [.int .i64 a.1, .int .i64 a.2]
theorem cpA_cells (xs : List Ar) : cArcs xs = (xs.flatMap cpA).map C.v := by simp [cArcs, cpA, List.map_flatMap]
theorem swoR : Sort.SWO (ltOf cmpR) where
 irrefl x := by rw [show ltOf cmpR x x = ltA x x from cmpR_lt x x]; exact ltA_irr x
 trans x y z h1 h2 := by
  rw [show ltOf cmpR x y = ltA x y from cmpR_lt x y] at h1
  rw [show ltOf cmpR y z = ltA y z from cmpR_lt y z] at h2
  rw [show ltOf cmpR x z = ltA x z from cmpR_lt x z]
  exact ltA_trans h1 h2
 ntrans x y z h1 h2 := by
  rw [show ltOf cmpR x y = ltA x y from cmpR_lt x y] at h1
  rw [show ltOf cmpR y z = ltA y z from cmpR_lt y z] at h2
  rw [show ltOf cmpR x z = ltA x z from cmpR_lt x z]
  cases h3 : ltA x z with
  | false => rfl
  | true =>
   have h1 : ¬ ltA x y = true := by rw [h1]; simp
   have h2 : ¬ ltA y z = true := by rw [h2]; simp
   rw [ltA_iff] at h1 h2 h3
   omega
theorem flatK_A (xs : List Ar) : flatK cpA 2 xs.toArray = (xs.flatMap cpA).toArray := by
 apply Array.ext
 ·simp [flat_len cpA 2 (fun _ => rfl)]
 ·intro t h1 h2
  simp only [size_flatK, List.size_toArray] at h1
  have hd : t / 2 < xs.length := Nat.div_lt_of_lt_mul (by rw [Nat.mul_comm]; exact h1)
  have hm : t % 2 < 2 := Nat.mod_lt _ (by omega)
  have hg := flat_get cpA 2 (fun _ => rfl) xs (t / 2) (t % 2) xs[t / 2] (List.getElem?_eq_getElem hd) hm
  have htd : t / 2 * 2 + t % 2 = t := by rw [Nat.mul_comm]; exact Nat.div_add_mod t 2
  rw [htd] at hg
  have h3 := get_flatK cpA 2 xs.toArray t (by simpa using h1)
  rw [getElem!_pos _ t (by simpa using h1)] at h3
  rw [h3]
  have h4 : (xs.toArray)[t / 2]! = xs[t / 2] := by simp [hd]
  rw [h4, getElem!_pos _ _ (by simp [cpA]; omega)]
  have hlt : t < (xs.flatMap cpA).length := by rw [flat_len cpA 2 (fun _ => rfl)]; exact h1
  rw [List.getElem?_eq_getElem hlt, List.getElem?_eq_getElem (by simp [cpA]; omega)] at hg
  exact (Option.some.inj hg).symm
def sortA (xs : List Ar) : List Ar := xs.mergeSort fun x y => !(ltOf cmpR) y x
theorem sortA_perm (l : List Ar) : (sortA l).Perm l := List.mergeSort_perm _ _
theorem sortA_le (l : List Ar) : (sortA l).Pairwise fun a b => ltA b a = false := by
 have e (x y : Ar) : ltOf cmpR x y = ltA x y := cmpR_lt x y
 have h := List.pairwise_mergeSort (le := fun x y => !(ltOf cmpR) y x) (fun a b c h1 h2 => by
  simp only [e, Bool.not_eq_true'] at *
  cases h3 : ltA c a with
  | false => rfl
  | true =>
   have h1 : ¬ ltA b a = true := by rw [h1]; simp
   have h2 : ¬ ltA c b = true := by rw [h2]; simp
   rw [ltA_iff] at h1 h2 h3
   omega) (fun a b => by
  simp only [e]
  cases h1 : ltA b a <;> cases h2 : ltA a b <;> simp
  rw [ltA_iff] at h1 h2; omega) l
 refine h.imp ?_
 intro a b hab
 simpa [e] using hab
theorem grown_of_fpA {w w' : World} (h : Fp (fun _ => False) w w') : ∃ q os, w' = grow (w.drewN q) os := by
 refine ⟨w'.drawn - w.drawn, w'.heap.extract w.heap.size w'.heap.size, ?_⟩
 obtain ⟨hp, tp, dr, o, ou⟩ := w'
 obtain ⟨h1, h2, h3, h4, h5, h6⟩ := h
 simp only at h1 h2 h3 h4 h5 h6
 subst h1; subst h2; subst h3
 simp only [grow, World.drewN]
 congr 1
 ·apply Array.ext'
  simp only [Array.toList_append, Array.toList_extract]
  apply List.ext_getElem?
  intro i
  by_cases hi : i < w.heap.size
  ·rw [List.getElem?_append_left (by simpa using hi)]
   have := h5 i hi (fun h => h)
   simpa using this
  ·rw [List.getElem?_append_right (by simpa using hi)]
   simp only [List.extract_eq_take_drop, Array.length_toList, List.getElem?_take, List.getElem?_drop]
   split
   ·congr 1; omega
   ·rename_i hn; simp; omega
 ·omega
theorem noLv (gg : Gh) (ℓ : Loc) : ¬ Lv [] gg ℓ := by
 intro hl
 cases ℓ with
 | ob id => rcases hl with ⟨r, h, _⟩ | ⟨kv, h⟩ <;> simp at h
 | cl id j => obtain ⟨r, k, cs, h, _⟩ := hl; simp at h
theorem lvA {g : Gh} {e : TypeId} {L : List Ar} {ℓ : Loc} : Lv [.r ⟨e, 2, true, cArcs L⟩] g ℓ ↔ ℓ = .ob 0 ∧ g.κ 0 ≠ 0 := by
 cases ℓ with
 | ob id =>
  constructor
  ·rintro (⟨r, h1, h2⟩ | ⟨kv, h1⟩)
   ·cases id with
    | zero => exact ⟨rfl, h2⟩
    | succ i => simp at h1
   ·cases id with
    | zero => simp at h1
    | succ i => simp at h1
  ·rintro ⟨h1, h2⟩
   cases h1
   exact .inl ⟨_, rfl, h2⟩
 | cl id j =>
  constructor
  ·rintro ⟨r, k, cs, h1, h2, h3⟩
   cases id with
   | zero =>
    simp at h1; subst h1
    rw [cpA_cells, List.getElem?_map, Option.map_eq_some_iff] at h2
    obtain ⟨x, _, h2⟩ := h2
    cases h2
   | succ i => simp at h1
  ·rintro ⟨h1, h2⟩; cases h1
set_option maxHeartbeats 1000000 in
theorem sortA_fc (f : FuncId) (hf : callable Tryd.prog f = true) (hcmp : ∀ a b : Ar, FC Tryd.prog f [.a (.g [.v (.int .i64 a.1), .v (.int .i64 a.2)]), .a (.g [.v (.int .i64 b.1), .v (.int .i64 b.2)])] [] (fun r o => o = [] ∧ r = .i (cmpR a b))) (L : List Ar) (hsz : L.length ≤ 100000000) :
  FC Tryd.prog 35 [.a (.c (.s 0 L.length)), .a (.c (.f f []))] [.r ⟨23, 2, true, cArcs L⟩]
   (fun r o => r = .u ∧ ∃ L' : List Ar, L'.Perm L ∧ L'.Pairwise (fun a b => ltA b a = false) ∧ o = [.r ⟨23, 2, true, cArcs L'⟩]) := by
 intro g w vals hr hargs
 obtain ⟨hlen, hargs⟩ := hargs
 obtain ⟨v1, e1, b1, b2, A, rfl, b4, b5⟩ := hargs 0 _ rfl
 obtain ⟨v2, e2, c1, c2⟩ := hargs 1 _ rfl
 have hv2 : v2 = .func (.func f) #[] #[] := by rw [c2]; simp [clo]
 subst hv2
 have hvals : vals = [.slice A L.length (g.κ 0), .func (.func f) #[] #[]] := by
  match vals, hlen with
  | [a, b], _ => simp at e1 e2; simp [e1, e2]
 subst hvals
 rcases hr.row 0 _ rfl with ⟨h0, hnil⟩ | ⟨h0, hne, arr, ha, hle, hs, hmx, hcells⟩
 ·have hL0 : L = [] := by
   have : (cArcs L).length = 0 := by have h : cArcs L = [] := hnil; rw [h]; rfl
   rw [cArcs_len] at this
   exact List.length_eq_zero_iff.1 (by omega)
  subst hL0
  refine (AnyF.slices_SortFunc_none Tryd.sortArcs A (g.κ 0) (.func (.func f) #[] #[]) w).mono ?_
  rintro e' w' ⟨rfl, rfl⟩
  exact ⟨.tuple #[], .u, _, g, rfl, ⟨rfl, [], List.Perm.refl _, List.Pairwise.nil, rfl⟩, hr, ⟨Nat.le_refl _, Ext.refl _ _⟩, fun ℓ hl => .inl ⟨ℓ, hl, rfl⟩, trivial, Fp.refl _ _⟩
 ·have hL0 : L ≠ [] := fun e => by subst e; exact hne rfl rfl
  have x0 : 0 < L.length := List.length_pos_iff.2 hL0
  rw [b4 h0] at *
  have hblk : g.γ (.ob 0) < w.heap.size := (Array.getElem?_eq_some_iff.1 ha).1
  have hle' : L.length * 2 ≤ arr.size := by simpa [cArcs_len] using hle
  have hfl := flat_len cpA 2 (fun _ => rfl) L
  have hget : ∀ j, j < L.length * 2 → arr[j]? = (L.flatMap cpA)[j]? := by
   intro j hj
   obtain ⟨v, hv⟩ : ∃ v, (L.flatMap cpA)[j]? = some v := ⟨_, List.getElem?_eq_getElem (by rw [hfl]; exact hj)⟩
   obtain ⟨u, u1, u2⟩ := hcells j (.v v) (by rw [cpA_cells, List.getElem?_map, hv]; rfl)
   have hu : u = v := u2
   rw [u1, hv, hu]
  have hlays : CmpLays Tryd.prog f #[] cpA 2 cmpR (g.γ (.ob 0)) 0 L.toArray.size w := by
   intro m os dk _ x y
   have hoth : ∀ k, k < w.heap.size → ¬ Ow [.r ⟨23, 2, true, cArcs L⟩] g k → (sortWorldK cpA 2 w (g.γ (.ob 0)) 0 m dk os).heap[k]? = w.heap[k]? := by
    intro k hk hn
    have hn2 : k ≠ g.γ (.ob 0) := fun e => hn (.inr ⟨.ob 0, lvA.2 ⟨rfl, h0⟩, e.symm⟩)
    unfold sortWorldK putRowK putRow mapBlock Sort.grow Sort.ahead
    simp only
    rw [Array.getElem?_append_left (by simpa using hk), Array.getElem?_modify, if_neg (Ne.symm hn2)]
   generalize hW : sortWorldK cpA 2 w (g.γ (.ob 0)) 0 m dk os = W at hoth
   have hsz' : w.heap.size ≤ W.heap.size := by rw [← hW]; simp [sortWorldK, putRowK, putRow, mapBlock, Sort.grow, Sort.ahead]
   have hHR : HR ⟨g.γ, g.κ, fun _ => False⟩ [] W := ⟨fun b hb => hb.elim, fun ℓ hl => absurd hl (noLv _ ℓ), fun ℓ _ hl => absurd hl (noLv _ ℓ), fun id r h => by simp at h, fun id r h => by simp at h, hr.gl.keep hsz' hoth (fun k _ hk => hk.elim (fun h => h.elim) (fun ⟨ℓ, hl, _⟩ => absurd hl (noLv _ ℓ)))⟩
   have hA : argsR ⟨g.γ, g.κ, fun _ => False⟩ [] W [.a (.g [.v (.int .i64 x.1), .v (.int .i64 x.2)]), .a (.g [.v (.int .i64 y.1), .v (.int .i64 y.2)])] [.agg #[.int .i64 x.1, .int .i64 x.2], .agg #[.int .i64 y.1, .int .i64 y.2]] := by
    refine ⟨rfl, fun i a hi => ?_⟩
    have ag : ∀ z : Ar, A0R (CR ⟨g.γ, g.κ, fun _ => False⟩ [] W) (.g [.v (.int .i64 z.1), .v (.int .i64 z.2)]) (.agg #[.int .i64 z.1, .int .i64 z.2]) := fun z => ⟨[.int .i64 z.1, .int .i64 z.2], rfl, rfl, fun q c hq => by
     match q, hq with
     | 0, hq => simp at hq; subst hq; exact ⟨_, rfl, rfl⟩
     | 1, hq => simp at hq; subst hq; exact ⟨_, rfl, rfl⟩
     | q + 2, hq => simp at hq⟩
    match i, hi with
    | 0, hi => cases hi; exact ⟨_, rfl, ag x⟩
    | 1, hi => cases hi; exact ⟨_, rfl, ag y⟩
    | i + 2, hi => simp at hi
   refine Calls.mono (hcmp x y _ _ _ hHR hA) ?_
   rintro e' w' ⟨v, r, outs, g', rfl, ⟨rfl, rfl⟩, _, _, _, hv, hfp⟩
   exact ⟨by rw [show v = _ from hv], grown_of_fpA (hfp.mono fun k _ ⟨ℓ, hl, _⟩ => absurd hl (noLv _ ℓ))⟩
  have hH : HoldsK cpA 2 w (g.γ (.ob 0)) 0 L.toArray := by
   unfold HoldsK Holds
   rw [flatK_A]
   intro j hj
   simp only [List.size_toArray, hfl] at hj
   constructor
   ·rw [Nat.zero_add, cell_of_row w _ j arr _ (0, 0) ha, hget j hj, getElem!_pos _ j (by simpa [hfl] using hj)]
    simp [hfl, hj]
   ·simp [World.frozen?, ha]
  have eg : ∀ args w, (callFunc f args).run Tryd.prog w = .ok (.enter f args) w := fun args w => run_callFunc_body hf args w
  have hcon := AnyQ.slices_SortFunc_total Tryd.sortArcs 2 Tryd.isAgg23 Tryd.sizeOf23 cpA (fun _ => rfl) (fun x v hv => by simp [cpA] at hv; rcases hv with rfl | rfl <;> rfl) cmpR swoR f #[] (g.γ (.ob 0)) 0 (g.κ 0) L.toArray w eg hlays hH hblk (by simp; omega)
   (fun x y h1 h2 => by
    rw [show ltOf cmpR x y = ltA x y from cmpR_lt x y] at h1
    rw [show ltOf cmpR y x = ltA y x from cmpR_lt y x] at h2
    rcases ltA_tri x y with h | h | h
    ·rw [h] at h1; cases h1
    ·exact h
    ·rw [h] at h2; cases h2)
  change Calls Tryd.prog 35 _ _ _ at hcon
  have hsz2 : L.toArray.size = L.length := by simp
  rw [hsz2] at hcon
  refine hcon.mono ?_
  rintro e' w' ⟨rfl, m, os, rfl⟩
  have hSl : (sortA L).length = L.length := List.length_mergeSort _
  have hfl' := flat_len cpA 2 (fun _ => rfl) (sortA L)
  have hself : (sortWorldK cpA 2 w (g.γ (.ob 0)) 0 m (sortA L).toArray os).heap[g.γ (.ob 0)]? = some (.cells (putCells id 0 ((sortA L).flatMap cpA).toArray arr) 23 (0, 0)) := by
   unfold sortWorldK putRowK putRow mapBlock Sort.grow Sort.ahead
   rw [flatK_A]
   simp only
   rw [Array.getElem?_append_left (by simpa using hblk), Array.getElem?_modify, if_pos rfl, ha]
   rfl
  have hsize : w.heap.size ≤ (sortWorldK cpA 2 w (g.γ (.ob 0)) 0 m (sortA L).toArray os).heap.size := by simp [sortWorldK, putRowK, putRow, mapBlock, Sort.grow, Sort.ahead]
  have hother : ∀ k, k < w.heap.size → k ≠ g.γ (.ob 0) → (sortWorldK cpA 2 w (g.γ (.ob 0)) 0 m (sortA L).toArray os).heap[k]? = w.heap[k]? := by
   intro k hk hn
   unfold sortWorldK putRowK putRow mapBlock Sort.grow Sort.ahead
   simp only
   rw [Array.getElem?_append_left (by simpa using hk), Array.getElem?_modify, if_neg (Ne.symm hn)]
  have hfp : Fp (LiveB [.r ⟨23, 2, true, cArcs L⟩] g) w (sortWorldK cpA 2 w (g.γ (.ob 0)) 0 m (sortA L).toArray os) :=
   ⟨rfl, rfl, rfl, hsize, fun k hk hm => hother k hk fun e => hm ⟨.ob 0, lvA.2 ⟨rfl, h0⟩, e.symm⟩, by simp [sortWorldK, putRowK, putRow, mapBlock, Sort.grow, Sort.ahead]⟩
  refine ⟨.tuple #[], .u, _, g, rfl, ⟨rfl, sortA L, sortA_perm L, sortA_le L, rfl⟩, ?_, ⟨by simp, Ext.refl _ _⟩, fun ℓ hl => .inl ⟨ℓ, lvA.2 (lvA.1 hl), rfl⟩, trivial, hfp⟩
  refine ⟨fun b hb => Nat.lt_of_lt_of_le (hr.ml b hb) hsize, fun ℓ hl => hr.md ℓ (lvA.2 (lvA.1 hl)), fun ℓ ℓ' hl hl' => hr.inj ℓ ℓ' (lvA.2 (lvA.1 hl)) (lvA.2 (lvA.1 hl')), fun id r hid => ?_, fun id r hid => ?_, hr.gl.keep hsize (fun k hk hn => hother k hk (fun e => hn (.inr ⟨.ob 0, lvA.2 ⟨rfl, h0⟩, e.symm⟩))) (fun k _ hk => hk.imp (fun h => h) (fun ⟨ℓ, hl, e⟩ => ⟨ℓ, lvA.2 (lvA.1 hl), e⟩))⟩
  ·cases id with
   | succ i => simp at hid
   | zero =>
    simp at hid
    subst hid
    refine .inr ⟨h0, fun _ hn => ?_, _, hself, ?_, ?_, hmx, fun j c hj => ?_⟩
    ·have : (cArcs (sortA L)).length = 0 := by simp only at hn; rw [hn]; rfl
     rw [cArcs_len, hSl] at this; omega
    ·simp only [cArcs_len, hSl, putCells, Array.size_mapIdx]; exact hle'
    ·simpa [putCells] using hs
    ·rw [cpA_cells, List.getElem?_map, Option.map_eq_some_iff] at hj
     obtain ⟨v, hv, rfl⟩ := hj
     have hjl : j < L.length * 2 := by have := (List.getElem?_eq_some_iff.1 hv).1; rw [hfl', hSl] at this; exact this
     refine ⟨v, ?_, rfl⟩
     have hj2 : j < ((sortA L).flatMap cpA).length := by rw [hfl', hSl]; exact hjl
     have hjc : j < arr.size := by omega
     simp only [putCells, Array.getElem?_mapIdx, Nat.zero_le, true_and, Nat.zero_add, List.size_toArray, hj2, if_true, Nat.sub_zero]
     rw [Array.getElem?_eq_getElem hjc]
     rw [List.getElem?_eq_getElem hj2] at hv
     have hv2 := Option.some.inj hv
     rw [← hv2]
     simp
     rw [List.getElem?_eq_getElem hj2]; rfl
  ·cases id with
   | zero => simp at hid
   | succ i => simp at hid
theorem le_take {s : ST} (i m : Nat) {r : Row} (hi : s.hp[i]? = some (.r r)) (hm : r.sl = true → r.cells.take m = [] → r.cells = []) : Le s { s with hp := s.hp.set i (.r { r with cells := r.cells.take m }) } := by
 rintro M0 w0 a w ⟨g, hpp, hR⟩
 have hlt : i < s.hp.length := (List.getElem?_eq_some_iff.1 hi).1
 have self : (s.hp.set i (.r { r with cells := r.cells.take m }))[i]? = some (.r { r with cells := r.cells.take m }) := by simp [hlt]
 have other : ∀ q, q ≠ i → (s.hp.set i (.r { r with cells := r.cells.take m }))[q]? = s.hp[q]? := fun q hq => by rw [List.getElem?_set_ne (Ne.symm hq)]
 have tk : ∀ (j : Nat) (c : C), (r.cells.take m)[j]? = some c → r.cells[j]? = some c := fun j c h => by
  rw [List.getElem?_take] at h
  split at h
  ·exact h
  ·cases h
 generalize hh : s.hp.set i (.r { r with cells := r.cells.take m }) = hp' at *
 have sub : ∀ ℓ, Lv hp' g ℓ → Lv s.hp g ℓ := by
  intro ℓ hl
  cases ℓ with
  | ob q =>
   by_cases hq : q = i
   ·subst hq
    rcases hl with ⟨r2, e1, e2⟩ | ⟨kv, e1⟩
    ·exact .inl ⟨r, hi, e2⟩
    ·rw [self] at e1; cases e1
   ·rcases hl with ⟨r2, e1, e2⟩ | ⟨kv, e1⟩
    ·exact .inl ⟨r2, by rw [← other q hq]; exact e1, e2⟩
    ·exact .inr ⟨kv, by rw [← other q hq]; exact e1⟩
  | cl q j =>
   by_cases hq : q = i
   ·subst hq
    obtain ⟨r2, k, cs, e1, e2, e3⟩ := hl
    rw [self] at e1; cases e1
    exact ⟨r, k, cs, hi, tk j _ e2, e3⟩
   ·obtain ⟨r2, k, cs, e1, e2, e3⟩ := hl
    exact ⟨r2, k, cs, by rw [← other q hq]; exact e1, e2, e3⟩
 have ow : ∀ b, Ow hp' g b → Ow s.hp g b := fun b ho => ho.imp (fun h => h) (fun ⟨ℓ, hl, e⟩ => ⟨ℓ, sub ℓ hl, e⟩)
 have hmo : Mo g s.hp w g hp' w (fun _ => True) := by
  refine ⟨fun q hq => ⟨?_, rfl, rfl⟩, fun b _ ho => ow b ho, Nat.le_refl _, fun _ _ _ => rfl, fun q _ hq r2 j k cs e1 e2 => ?_⟩
  ·by_cases e : q = i
   ·subst e; exact ⟨_, self, rfl⟩
   ·obtain ⟨o, h1, h2⟩ := hq
    exact ⟨o, by rw [other q e]; exact h1, h2⟩
  ·by_cases e : q = i
   ·subst e
    rw [self] at e1
    cases e1
    exact ⟨r, hi, tk j _ e2, fun _ => rfl⟩
   ·exact ⟨r2, by rw [← other q e]; exact e1, e2, fun _ => rfl⟩
 have hr := hR.hr
 refine ⟨g, ⟨by show s.pin ≤ hp'.length; rw [← hh]; simpa using hpp.1, hpp.2⟩, hR.mo hmo ?_ (fun ℓ hl => hR.new ℓ (sub ℓ hl)) hR.fp⟩
 refine ⟨hr.ml, fun ℓ hl => hr.md ℓ (sub ℓ hl), fun ℓ ℓ' h1 h2 => hr.inj ℓ ℓ' (sub ℓ h1) (sub ℓ' h2), fun q r2 e1 => ?_, fun q kv e1 => ?_, hmo.gl hr.gl⟩
 ·by_cases e : q = i
  ·subst e
   rw [self] at e1
   cases e1
   rcases hr.row q r hi with ⟨k1, k2⟩ | ⟨k1, k2, arr, k3, k4, k5, k6, k7⟩
   ·exact .inl ⟨k1, by simp [k2]⟩
   ·refine .inr ⟨k1, fun h1 h2 => k2 h1 (hm h1 h2), arr, k3, Nat.le_trans (by simp only [List.length_take]; omega) k4, k5, k6, fun j c hj => ?_⟩
    obtain ⟨u, u1, u2⟩ := k7 j c (tk j c hj)
    exact ⟨u, u1, CellR.mo hmo u2 (fun k cs hc _ => ⟨rfl, rfl⟩)⟩
  ·rw [other q e] at e1
   exact RowR.mo hmo e1 (hr.row q r2 e1) (fun _ => rfl) (fun _ _ _ _ _ => ⟨rfl, rfl⟩)
 ·by_cases e : q = i
  ·subst e; rw [self] at e1; cases e1
  ·rw [other q e] at e1
   exact MpR.mo hmo e1 (hr.mp q kv e1) rfl
attribute [local go_sem] List.set_cons_zero List.set_cons_succ List.map_cons List.map_nil List.take_succ_cons List.take_zero List.drop_zero List.drop_succ_cons C.pl C.one List.all_cons List.all_nil Bool.and_true Nat.mul_one Int.toNat_natCast
theorem cArcs_up3 (f : Nat → Nat) (L : List Ar) : (cArcs L).map (C.up f) = cArcs L := by
 unfold cArcs
 rw [List.map_flatMap]
 rfl
theorem cArcs_ren3 (f : List Nat) (L : List Ar) : (cArcs L).map (C.ren f) = cArcs L := by
 unfold cArcs
 rw [List.map_flatMap]
 rfl
theorem tArcs_of (r : List Ar) : (tArcs r).map C.ofTr = cArcs r := by
 unfold tArcs cArcs
 rw [List.map_flatMap]
 rfl
theorem cut_arcs (q : List Ar) (ys : List C) (f : C → C) (hf : (cArcs q).map f = cArcs q) : ((cArcs q ++ ys).map f).take (q.length * 2) = cArcs q := by
 rw [List.map_append, hf, List.take_append_of_le_length (by rw [cArcs_len]; exact Nat.le_refl _), List.take_of_length_le (by rw [cArcs_len]; exact Nat.le_refl _)]

theorem cArcs_set1 {xs : List Ar} {i : Nat} {e t : Int} (h : xs[i]? = some (e, t)) (x : Int) : (cArcs xs).set (i * 2 + 1) (.v (.int .i64 x)) = cArcs (xs.set i (e, x)) := by
 induction xs generalizing i with
 | nil => simp at h
 | cons a r ih =>
  cases i with
  | zero => simp at h; subst h; rfl
  | succ i =>
   rw [List.getElem?_cons_succ] at h
   rw [show (i + 1) * 2 + 1 = i * 2 + 1 + 2 from by omega, List.set_cons_succ]
   show C.v _ :: C.v _ :: (cArcs r).set (i * 2 + 1) _ = _
   rw [ih h]; rfl
theorem cRows_push (out : List (List Ar)) (x : List Ar) {i : Nat} (h : out.length = i) : (cRows out).take i ++ [C.t 2 (tArcs x)] = cRows (out ++ [x]) := by
 subst h
 rw [List.take_of_length_le (by rw [cRows_len]; exact Nat.le_refl _)]
 simp [cRows]
theorem old_push (l : List Int) (x : Int) : (cInts l).take l.length ++ [C.v (.int .i64 x)] = cInts (l ++ [x]) := by
 rw [List.take_of_length_le (by rw [cInts_len]; exact Nat.le_refl _), cInts_snoc]
theorem NL.start (q : List Ar) (num old : List Int) : NL (numL q num old) q q 0 num old := ⟨by simp, by simp, by simp, rfl⟩
theorem NL.fin {R : List Int × List Int × List Ar} {ya q : List Ar} {k : Nat} {num old : List Int} (h : NL R ya q k num old) (hk : q.length ≤ k) (hl : ya.length = q.length) : ya = R.2.2 ∧ num = R.1 ∧ old = R.2.1 := by
 obtain ⟨h1, h2, h3, h4⟩ := h
 rw [List.drop_of_length_le hk] at h1 h2 h3
 rw [List.take_of_length_le (by omega)] at h1
 simp only [numL, List.append_nil] at h1 h2 h3
 exact ⟨h1, h2, h3⟩
def ntC (k : Nat) : C → C
 | .o k cs => .t k.1 cs
 | .v (.slice none 0 0) => .t k []
 | c => c
def ntA : List Nat → List C → List C
 | k :: ks, c :: cs => ntC k c :: ntA ks cs
 | [], c :: cs => otC c :: ntA [] cs
 | _, [] => []
theorem ntC_cases (k : Nat) (c : C) : ntC k c = otC c ∨ (c = .v (.slice none 0 0) ∧ ntC k c = .t k []) := by
 unfold ntC
 split
 ·exact .inl rfl
 ·exact .inr ⟨rfl, rfl⟩
 ·rename_i h1 h2
  refine .inl ?_
  cases c <;> first | rfl | exact absurd rfl (h1 _ _)
theorem ntA_get {ks : List Nat} {cs : List C} {j : Nat} {c : C} (h : (ntA ks cs)[j]? = some c) : ∃ c0, cs[j]? = some c0 ∧ (c = otC c0 ∨ ∃ k, c0 = .v (.slice none 0 0) ∧ c = .t k []) := by
 induction cs generalizing ks j with
 | nil => cases ks <;> simp [ntA] at h
 | cons x r ih =>
  cases ks with
  | nil =>
   cases j with
   | zero => simp [ntA] at h; exact ⟨x, rfl, .inl h.symm⟩
   | succ j => simp [ntA] at h; obtain ⟨c0, h1, h2⟩ := ih h; exact ⟨c0, by simpa using h1, h2⟩
  | cons k ks =>
   cases j with
   | zero =>
    simp [ntA] at h
    refine ⟨x, rfl, ?_⟩
    rcases ntC_cases k x with e | ⟨e1, e2⟩
    ·exact .inl (by rw [← h, e])
    ·exact .inr ⟨k, e1, by rw [← h, e2]⟩
   | succ j => simp [ntA] at h; obtain ⟨c0, h1, h2⟩ := ih h; exact ⟨c0, by simpa using h1, h2⟩
theorem ntA_no {ks : List Nat} {cs : List C} {j : Nat} {k : Nat × Nat} {ts : List Tr} : (ntA ks cs)[j]? ≠ some (.o k ts) := by
 intro h
 obtain ⟨c0, _, h | ⟨_, _, h⟩⟩ := ntA_get h
 ·exact otC_no h.symm
 ·cases h
theorem ntA_len (ks : List Nat) (cs : List C) : (ntA ks cs).length = cs.length := by
 induction cs generalizing ks with
 | nil => cases ks <;> rfl
 | cons x r ih => cases ks <;> simp [ntA, ih]
theorem le_nt {s : ST} (i : Nat) (ks : List Nat) {r : Row} (hi : s.hp[i]? = some (.r r)) : Le s { s with hp := s.hp.set i (.r { r with cells := ntA ks r.cells }) } := by
 rintro M0 w0 a w ⟨g, hpp, hR⟩
 have hlt : i < s.hp.length := (List.getElem?_eq_some_iff.1 hi).1
 have self : (s.hp.set i (.r { r with cells := ntA ks r.cells }))[i]? = some (.r { r with cells := ntA ks r.cells }) := by simp [hlt]
 have other : ∀ q, q ≠ i → (s.hp.set i (.r { r with cells := ntA ks r.cells }))[q]? = s.hp[q]? := fun q hq => by rw [List.getElem?_set_ne (Ne.symm hq)]
 generalize hh : s.hp.set i (.r { r with cells := ntA ks r.cells }) = hp' at *
 have ncl : ∀ j, ¬ Lv hp' g (.cl i j) := by
  rintro j ⟨r2, k, cs, e1, e2, _⟩
  rw [self] at e1
  cases e1
  exact ntA_no e2
 have sub : ∀ ℓ, Lv hp' g ℓ → Lv s.hp g ℓ := by
  intro ℓ hl
  cases ℓ with
  | ob q =>
   by_cases hq : q = i
   ·subst hq
    rcases hl with ⟨r2, e1, e2⟩ | ⟨kv, e1⟩
    ·exact .inl ⟨r, hi, e2⟩
    ·rw [self] at e1; cases e1
   ·rcases hl with ⟨r2, e1, e2⟩ | ⟨kv, e1⟩
    ·exact .inl ⟨r2, by rw [← other q hq]; exact e1, e2⟩
    ·exact .inr ⟨kv, by rw [← other q hq]; exact e1⟩
  | cl q j =>
   by_cases hq : q = i
   ·subst hq; exact absurd hl (ncl j)
   ·obtain ⟨r2, k, cs, e1, e2, e3⟩ := hl
    exact ⟨r2, k, cs, by rw [← other q hq]; exact e1, e2, e3⟩
 have ow : ∀ b, Ow hp' g b → Ow s.hp g b := fun b ho => ho.imp (fun h => h) (fun ⟨ℓ, hl, e⟩ => ⟨ℓ, sub ℓ hl, e⟩)
 have hm : Mo g s.hp w g hp' w (fun _ => True) := by
  refine ⟨fun q hq => ⟨?_, rfl, rfl⟩, fun b _ ho => ow b ho, Nat.le_refl _, fun _ _ _ => rfl, fun q _ hq r2 j k cs e1 e2 => ?_⟩
  ·by_cases e : q = i
   ·subst e; exact ⟨_, self, rfl⟩
   ·obtain ⟨o, h1, h2⟩ := hq
    exact ⟨o, by rw [other q e]; exact h1, h2⟩
  ·by_cases e : q = i
   ·subst e
    rw [self] at e1
    cases e1
    exact absurd e2 ntA_no
   ·exact ⟨r2, by rw [← other q e]; exact e1, e2, fun _ => rfl⟩
 have hr := hR.hr
 refine ⟨g, ⟨by show s.pin ≤ hp'.length; rw [← hh]; simpa using hpp.1, hpp.2⟩, hR.mo hm ?_ (fun ℓ hl => hR.new ℓ (sub ℓ hl)) hR.fp⟩
 refine ⟨hr.ml, fun ℓ hl => hr.md ℓ (sub ℓ hl), fun ℓ ℓ' h1 h2 => hr.inj ℓ ℓ' (sub ℓ h1) (sub ℓ' h2), fun q r2 e1 => ?_, fun q kv e1 => ?_, hm.gl hr.gl⟩
 ·by_cases e : q = i
  ·subst e
   rw [self] at e1
   cases e1
   rcases hr.row q r hi with ⟨k1, k2⟩ | ⟨k1, k2, arr, k3, k4, k5, k6, k7⟩
   ·exact .inl ⟨k1, by simp [k2, ntA]⟩
   ·refine .inr ⟨k1, fun h1 h2 => k2 h1 (List.length_eq_zero_iff.1 (by rw [← ntA_len ks]; exact List.length_eq_zero_iff.2 h2)), arr, k3, by simpa [ntA_len] using k4, k5, k6, fun j c hj => ?_⟩
    obtain ⟨c0, hc0, hcc⟩ := ntA_get hj
    obtain ⟨u, u1, u2⟩ := k7 j c0 hc0
    refine ⟨u, u1, ?_⟩
    rcases hcc with rfl | ⟨k, rfl, rfl⟩
    ·cases c0 with
     | o k cs => exact rd_of_cell (t := .l k.1 cs) (fun b _ ho => ow b ho) hr hi ncl sub hc0 (.inl rfl) u2
     | _ => exact CellR.mo hm u2 (fun k cs hc => by cases hc)
    ·have hu : u = .slice none 0 0 := u2
     rw [hu]
     exact Rd.e _ _ _
  ·rw [other q e] at e1
   exact RowR.mo hm e1 (hr.row q r2 e1) (fun _ => rfl) (fun _ _ _ _ _ => ⟨rfl, rfl⟩)
 ·by_cases e : q = i
  ·subst e; rw [self] at e1; cases e1
  ·rw [other q e] at e1
   exact MpR.mo hm e1 (hr.mp q kv e1) rfl
theorem le_cell {s : ST} (i j id : Nat) {r : Row} {e0 k0 : Nat} (hne : i ≠ id) (hi : s.hp[i]? = some (.r r)) (hj : r.cells[j]? = some (.v (.slice none 0 0))) (hid : s.hp[id]? = some (.r ⟨e0, k0, true, []⟩)) : Le s { s with hp := s.hp.set i (.r { r with cells := r.cells.set j (.s id 0) }) } := by
 rintro M0 w0 a w ⟨g, hpp, hR⟩
 have hlt : i < s.hp.length := (List.getElem?_eq_some_iff.1 hi).1
 have hjl : j < r.cells.length := (List.getElem?_eq_some_iff.1 hj).1
 have self : (s.hp.set i (.r { r with cells := r.cells.set j (.s id 0) }))[i]? = some (.r { r with cells := r.cells.set j (.s id 0) }) := by simp [hlt]
 have other : ∀ q, q ≠ i → (s.hp.set i (.r { r with cells := r.cells.set j (.s id 0) }))[q]? = s.hp[q]? := fun q hq => by rw [List.getElem?_set_ne (Ne.symm hq)]
 have cel : ∀ q c, (r.cells.set j (.s id 0))[q]? = some c → (q = j ∧ c = .s id 0) ∨ (q ≠ j ∧ r.cells[q]? = some c) := by
  intro q c hq
  by_cases e : q = j
  ·subst e; rw [List.getElem?_set_self hjl] at hq; cases hq; exact .inl ⟨rfl, rfl⟩
  ·rw [List.getElem?_set_ne (Ne.symm e)] at hq; exact .inr ⟨e, hq⟩
 generalize hh : s.hp.set i (.r { r with cells := r.cells.set j (.s id 0) }) = hp' at *
 have sub : ∀ ℓ, Lv hp' g ℓ → Lv s.hp g ℓ := by
  intro ℓ hl
  cases ℓ with
  | ob q =>
   by_cases hq : q = i
   ·subst hq
    rcases hl with ⟨r2, e1, e2⟩ | ⟨kv, e1⟩
    ·exact .inl ⟨r, hi, e2⟩
    ·rw [self] at e1; cases e1
   ·rcases hl with ⟨r2, e1, e2⟩ | ⟨kv, e1⟩
    ·exact .inl ⟨r2, by rw [← other q hq]; exact e1, e2⟩
    ·exact .inr ⟨kv, by rw [← other q hq]; exact e1⟩
  | cl q j2 =>
   obtain ⟨r2, k, cs, e1, e2, e3⟩ := hl
   by_cases hq : q = i
   ·subst hq
    rw [self] at e1
    cases e1
    rcases cel j2 _ e2 with ⟨_, h⟩ | ⟨_, h⟩
    ·cases h
    ·exact ⟨r, k, cs, hi, h, e3⟩
   ·exact ⟨r2, k, cs, by rw [← other q hq]; exact e1, e2, e3⟩
 have ow : ∀ b, Ow hp' g b → Ow s.hp g b := fun b ho => ho.imp (fun h => h) (fun ⟨ℓ, hl, e⟩ => ⟨ℓ, sub ℓ hl, e⟩)
 have hm : Mo g s.hp w g hp' w (fun _ => True) := by
  refine ⟨fun q hq => ⟨?_, rfl, rfl⟩, fun b _ ho => ow b ho, Nat.le_refl _, fun _ _ _ => rfl, fun q _ hq r2 j2 k cs e1 e2 => ?_⟩
  ·by_cases e : q = i
   ·subst e; exact ⟨_, self, rfl⟩
   ·obtain ⟨o, h1, h2⟩ := hq
    exact ⟨o, by rw [other q e]; exact h1, h2⟩
  ·by_cases e : q = i
   ·subst e
    rw [self] at e1
    cases e1
    rcases cel j2 _ e2 with ⟨_, h⟩ | ⟨_, h⟩
    ·cases h
    ·exact ⟨r, hi, h, fun _ => rfl⟩
   ·exact ⟨r2, by rw [← other q e]; exact e1, e2, fun _ => rfl⟩
 have hr := hR.hr
 refine ⟨g, ⟨by show s.pin ≤ hp'.length; rw [← hh]; simpa using hpp.1, hpp.2⟩, hR.mo hm ?_ (fun ℓ hl => hR.new ℓ (sub ℓ hl)) hR.fp⟩
 refine ⟨hr.ml, fun ℓ hl => hr.md ℓ (sub ℓ hl), fun ℓ ℓ' h1 h2 => hr.inj ℓ ℓ' (sub ℓ h1) (sub ℓ' h2), fun q r2 e1 => ?_, fun q kv e1 => ?_, hm.gl hr.gl⟩
 ·by_cases e : q = i
  ·subst e
   rw [self] at e1
   cases e1
   rcases hr.row q r hi with ⟨k1, k2⟩ | ⟨k1, k2, arr, k3, k4, k5, k6, k7⟩
   ·rw [k2] at hj; simp at hj
   ·refine .inr ⟨k1, fun h1 h2 => k2 h1 (List.length_eq_zero_iff.1 (by rw [← List.length_set (i := j) (a := C.s id 0)]; exact List.length_eq_zero_iff.2 h2)), arr, k3, by simpa using k4, k5, k6, fun j2 c hj2 => ?_⟩
    rcases cel j2 c hj2 with ⟨rfl, rfl⟩ | ⟨_, h⟩
    ·obtain ⟨u, u1, u2⟩ := k7 j2 _ hj
     have hu : u = .slice none 0 0 := u2
     refine ⟨u, u1, ?_⟩
     have hκ : g.κ id = 0 := by
      rcases hr.row id _ hid with ⟨z, _⟩ | ⟨_, z, _⟩
      ·exact z
      ·exact absurd rfl (z rfl)
     have hid' : hp'[id]? = some (.r ⟨e0, k0, true, []⟩) := by rw [other id (Ne.symm hne)]; exact hid
     exact ⟨⟨_, hid', rfl⟩, Nat.zero_le _, none, by rw [hu, hκ], fun hn => absurd hκ hn, by simp⟩
    ·obtain ⟨u, u1, u2⟩ := k7 j2 c h
     exact ⟨u, u1, CellR.mo hm u2 (fun k cs hc _ => ⟨rfl, rfl⟩)⟩
  ·rw [other q e] at e1
   exact RowR.mo hm e1 (hr.row q r2 e1) (fun _ => rfl) (fun _ _ _ _ _ => ⟨rfl, rfl⟩)
 ·by_cases e : q = i
  ·subst e; rw [self] at e1; cases e1
  ·rw [other q e] at e1
   exact MpR.mo hm e1 (hr.mp q kv e1) rfl
theorem le_new {s : ST} (e k : Nat) : Le s { s with hp := s.hp ++ [.r ⟨e, k, true, []⟩] } := by
 rintro M0 w0 a w ⟨g, hpp, hR⟩
 have hb := hR.birth0 (w' := w) (hp' := s.hp ++ [.r ⟨e, k, true, []⟩]) (id := s.hp.length) (r := ⟨e, k, true, []⟩) bn_len (push_ne _) (push_self _) rfl (Fp.refl _ _)
 exact ⟨_, ⟨by have := hpp.1; simp; omega, hpp.2.trans (ext_at hpp.1)⟩, hb⟩
def cRowsO (R : List (List Ar)) : List C := R.map fun r => C.o (2, 23) (tArcs r)
theorem cRowsO_len (xs : List (List Ar)) : (cRowsO xs).length = xs.length := by simp [cRowsO]
theorem cRowsO_get {xs : List (List Ar)} {i : Nat} {x : List Ar} (h : xs[i]? = some x) : (cRowsO xs)[i]? = some (.o (2, 23) (tArcs x)) := by simp [cRowsO, h]
theorem cRowsO_set (xs : List (List Ar)) (i : Nat) (x : List Ar) : (cRowsO xs).set i (.o (2, 23) (tArcs x)) = cRowsO (xs.set i x) := by simp [cRowsO, List.map_set]
theorem cRowsO_ren (f : List Nat) (L : List (List Ar)) : (cRowsO L).map (C.ren f) = cRowsO L := by simp [cRowsO, C.ren, Function.comp_def]
theorem cRowsO_ot (L : List (List Ar)) : (cRowsO L).map otC = cRows L := by simp [cRowsO, cRows, otC, Function.comp_def]
end Go.Proofs.YtglchakimolfdaaDoor
