/- The reference's small functions of lists of numbers. The reference's Ints, Sets, LessInts. The reference's LessInts. ref28.first. The silent arcs of a sorted row come first: both closures see the same graph. Canonical forms depend on the rows as sets; rows joined by insertion. The reference's system without diamonds, plain; both are the same. -/
import Derived.Test.YthlckclbjknldaaGreatZk
import Derived.Test.YthlckclbjknldaaGreatMG
import Derived.Test.YthlckclbjknldaaGreatG54
import Derived.Test.YthlckclbjknldaaGreatG60
import Derived.Test.YthlckclbjknldaaGreatG45
import Derived.Test.YthlckclbjknldaaGreatTl1
import Derived.Test.YthlckclbjknldaaGreatG44
namespace Go.Proofs.YthlckclbjknldaaGreat
set_option linter.unusedVariables false
set_option linter.unusedSimpArgs false
open Go.RowKit
set_option maxRecDepth 100000

theorem has_fc (xs : List Int) (x : Int) (hn : xs.length ≤ 140737488355328) : FC Tryz.prog 125 [aInts xs, .i x] [] (fun r o => o = [] ∧ r = .b (decide (x ∈ xs))) := by
 refine fc_intro Tryz.func125 rfl (by rw [Tryz.ntmps125]; simp) ?_
 rw [Tryz.ntmps125]
 simp only [enum, aInts]
 (refine wk0 ?_; (repeat clear hK K); repeat (refine Kq.mk ?_; intro K hK))
 refine aw_loop (fun k : Nat => { tm := [(0, .a (.c (.t 1 (tInts xs)))), (1, .i x), (5, .i k)], hp := [], n := 18, pin := 0 }) (fun k => k ≤ xs.length ∧ ∀ i, i < k → xs[i]? ≠ some x) (fun k => xs.length - k) 0 ?_ ?_ ?_
 ·exact ⟨by omega, by intro i hi; omega⟩
 ·exact lmz
 ·rintro k ⟨hk, hno⟩ K hK
  (refine wk1 @tInts_len ?_; (repeat clear hK K); repeat (refine Kq.mk ?_; intro K hK))
  (refine aw_cnd ?_; intro X Y hX hY; simp only [go_sem])
  refine ⟨fun h => hX ?_, fun h => hY ?_⟩
  ·have hlt : k < xs.length := by simpa using h
   clear hX hY X Y h
   (refine wk1 (an @tInts_len (tInts_get (List.getElem?_eq_getElem hlt))) ?_; (repeat clear hK K); repeat (refine Kq.mk ?_; intro K hK))
   (refine aw_cnd ?_; intro X Y hX hY; simp only [go_sem])
   refine ⟨fun h => hX ?_, fun h => hY ?_⟩
   ·clear hX hY X Y
    (refine wk0 ?_; (repeat clear hK K); repeat (refine Kq.mk ?_; intro K hK))
    ((try refine aw_ret ?_); (try refine lst_nil ?_); (try simp only [ThenA, InBl]); refine ret_mk (by first | exact .inl rfl | exact .inr rfl) rfl ?_; simp only [rtn, resA, resL, resV, Tryz.results125, go_sem])
    have : x ∈ xs := by rw [← beq_iff_eq.1 h]; exact List.getElem_mem hlt
    simp [this]
   ·clear hX hY X Y
    (refine wk0 ?_; (repeat clear hK K); repeat (refine Kq.mk ?_; intro K hK))
    refine rnz ?_
    refine hK _ (k + 1) ⟨by omega, fun i hi => ?_⟩ (by omega) ?_
    ·by_cases e : i = k
     ·subst e; rw [List.getElem?_eq_getElem hlt]; simpa using h
     ·exact hno i (by omega)
    ·exact lmz
  ·have hge : k = xs.length := by simp at h; omega
   clear hX hY X Y
   (refine ekz ?_; repeat clear hK K)
   (refine wk0 ?_; (repeat clear hK K); repeat (refine Kq.mk ?_; intro K hK))
   ((try refine aw_ret ?_); (try refine lst_nil ?_); (try simp only [ThenA, InBl]); refine ret_mk (by first | exact .inl rfl | exact .inr rfl) rfl ?_; simp only [rtn, resA, resL, resV, Tryz.results125, go_sem])
   have : x ∉ xs := by
    intro hm
    obtain ⟨i, hi⟩ := List.mem_iff_getElem?.1 hm
    exact hno i (by rw [hge]; exact (List.getElem?_eq_some_iff.1 hi).1) hi
   simp [this]


theorem subB_c (x : Int) (a b : List Int) : subB (x :: a) b = (decide (x ∈ b) && subB a b) := rfl
theorem rsub_fc (xs ys : List Int) (hn : xs.length ≤ 140737488355328) (hm : ys.length ≤ 140737488355328) : FC Tryz.prog 133 [aInts xs, aInts ys] [] (fun r o => o = [] ∧ r = .b (subB xs ys)) := by
 refine fc_intro Tryz.func133 rfl (by rw [Tryz.ntmps133]; simp) ?_
 rw [Tryz.ntmps133]
 simp only [enum, aInts]
 (refine wk0 ?_; (repeat clear hK K); repeat (refine Kq.mk ?_; intro K hK))
 refine aw_loop (fun k : Nat => { tm := [(0, .a (.c (.t 1 (tInts xs)))), (1, .a (.c (.t 1 (tInts ys)))), (5, .i k)], hp := [], n := 19, pin := 0 }) (fun k => k ≤ xs.length ∧ subB xs ys = subB (xs.drop k) ys) (fun k => xs.length - k) 0 ?_ ?_ ?_
 ·exact ⟨by omega, rfl⟩
 ·exact lmz
 ·rintro k ⟨hk, he⟩ K hK
  (refine wk1 @tInts_len ?_; (repeat clear hK K); repeat (refine Kq.mk ?_; intro K hK))
  (refine aw_cnd ?_; intro X Y hX hY; simp only [go_sem])
  refine ⟨fun h => hX ?_, fun h => hY ?_⟩
  ·have hlt : k < xs.length := by simpa using h
   clear hX hY X Y h
   rw [drop_get hlt] at he
   (refine wk1 (an @tInts_len (tInts_get (List.getElem?_eq_getElem hlt))) ?_; (repeat clear hK K); repeat (refine Kq.mk ?_; intro K hK))
   (refine ckz (has_fc ys xs[k] hm) ?_; intro K1 hK1)
   rintro _ _ ⟨rfl, rfl⟩
   (refine bkz ?_; clear hK1 K1)
   (refine wk0 ?_; (repeat clear hK K); repeat (refine Kq.mk ?_; intro K hK))
   (refine aw_cnd ?_; intro X Y hX hY; simp only [go_sem])
   refine ⟨fun h => hX ?_, fun h => hY ?_⟩
   ·clear hX hY X Y
    (refine wk0 ?_; (repeat clear hK K); repeat (refine Kq.mk ?_; intro K hK))
    ((try refine aw_ret ?_); (try refine lst_nil ?_); (try simp only [ThenA, InBl]); refine ret_mk (by first | exact .inl rfl | exact .inr rfl) rfl ?_; simp only [rtn, resA, resL, resV, Tryz.results133, go_sem])
    rw [he, subB_c]
    simp at h
    simp [h]
   ·clear hX hY X Y
    (refine wk0 ?_; (repeat clear hK K); repeat (refine Kq.mk ?_; intro K hK))
    refine rnz ?_
    refine hK _ (k + 1) ⟨by omega, ?_⟩ (by omega) ?_
    ·rw [he, subB_c]
     simp at h
     simp [h]
    ·exact lmz
  ·have hge : xs.length ≤ k := by simp at h; omega
   clear hX hY X Y
   (refine ekz ?_; repeat clear hK K)
   (refine wk0 ?_; (repeat clear hK K); repeat (refine Kq.mk ?_; intro K hK))
   ((try refine aw_ret ?_); (try refine lst_nil ?_); (try simp only [ThenA, InBl]); refine ret_mk (by first | exact .inl rfl | exact .inr rfl) rfl ?_; simp only [rtn, resA, resL, resV, Tryz.results133, go_sem])
   rw [he, List.drop_eq_nil_of_le hge]
   simp [subB]

end Go.Proofs.YthlckclbjknldaaGreat
namespace Go.Proofs.YthlckclbjknldaaGreat
set_option linter.unusedVariables false
set_option linter.unusedSimpArgs false
open Go.RowKit
set_option maxRecDepth 100000

theorem rints_fc (xs ys : List Int) (hn : xs.length ≤ 140737488355328) (hm : ys.length ≤ 140737488355328) : FC Tryz.prog 86 [aInts xs, aInts ys] [] (fun r o => o = [] ∧ r = .b (decide (xs = ys))) := by
 refine fc_intro Tryz.func86 rfl (by rw [Tryz.ntmps86]; simp) ?_
 rw [Tryz.ntmps86]
 simp only [enum, aInts]
 (refine wk1 @tInts_len ?_; (repeat clear hK K); repeat (refine Kq.mk ?_; intro K hK))
 (refine aw_cnd ?_; intro X Y hX hY; simp only [go_sem])
 refine ⟨fun h => hX ?_, fun h => hY ?_⟩
 ·clear hX hY X Y
  (refine wk0 ?_; (repeat clear hK K); repeat (refine Kq.mk ?_; intro K hK))
  ((try refine aw_ret ?_); (try refine lst_nil ?_); (try simp only [ThenA, InBl]); refine ret_mk (by first | exact .inl rfl | exact .inr rfl) rfl ?_; simp only [rtn, resA, resL, resV, Tryz.results86, go_sem])
  have : xs ≠ ys := by rintro rfl; simp at h
  simp [this]
 ·clear hX hY X Y
  have hlen : xs.length = ys.length := by simp at h; omega
  clear h
  (refine wk0 ?_; (repeat clear hK K); repeat (refine Kq.mk ?_; intro K hK))
  refine aw_loop (fun k : Nat => { tm := [(0, .a (.c (.t 1 (tInts xs)))), (1, .a (.c (.t 1 (tInts ys)))), (5, .i k)], hp := [], n := 26, pin := 0 }) (fun k => k ≤ xs.length ∧ xs.take k = ys.take k) (fun k => xs.length - k) 0 ?_ ?_ ?_
  ·exact ⟨by omega, rfl⟩
  ·exact lmz
  ·rintro k ⟨hk, he⟩ K hK
   (refine wk1 @tInts_len ?_; (repeat clear hK K); repeat (refine Kq.mk ?_; intro K hK))
   (refine aw_cnd ?_; intro X Y hX hY; simp only [go_sem])
   refine ⟨fun h => hX ?_, fun h => hY ?_⟩
   ·have hlt : k < xs.length := by simpa using h
    have hlt2 : k < ys.length := by omega
    clear hX hY X Y h
    (refine wk0 ?_; (repeat clear hK K); repeat (refine Kq.mk ?_; intro K hK))
    (refine aw_regionU 8 [(0, 0), (1, 0), (2, 0), (3, 1), (4, 0), (5, 0), (6, 0), (7, 1), (8, 2)] (by kernel_rfl) (by kernel_rfl) (by intro c st h; simp [ThenA, InBl, Ret] at h) ?_)
    (refine uk1 (an @tInts_len (an (tInts_get (List.getElem?_eq_getElem hlt)) (tInts_get (List.getElem?_eq_getElem hlt2)))) ?_; repeat clear hK K)
    (refine aw_cnd ?_; intro X Y hX hY; simp only [go_sem])
    refine ⟨fun h => hX ?_, fun h => hY ?_⟩
    ·clear hX hY X Y
     (refine wk0 ?_; (repeat clear hK K); repeat (refine Kq.mk ?_; intro K hK))
     ((try refine aw_ret ?_); (try refine lst_nil ?_); (try simp only [ThenA, InBl]); refine ret_mk (by first | exact .inl rfl | exact .inr rfl) rfl ?_; simp only [rtn, resA, resL, resV, Tryz.results86, go_sem])
     have : xs ≠ ys := by rintro rfl; simp at h
     simp [this]
    ·clear hX hY X Y
     (refine wk0 ?_; (repeat clear hK K); repeat (refine Kq.mk ?_; intro K hK))
     refine rnz ?_
     refine hK _ (k + 1) ⟨by omega, ?_⟩ (by omega) ?_
     ·have h1 : xs[k] = ys[k] := by simpa using h
      rw [List.take_succ_eq_append_getElem hlt, List.take_succ_eq_append_getElem hlt2, he, h1]
     ·exact lmz
   ·have hge : k = xs.length := by simp at h; omega
    clear hX hY X Y
    (refine ekz ?_; repeat clear hK K)
    (refine wk0 ?_; (repeat clear hK K); repeat (refine Kq.mk ?_; intro K hK))
    ((try refine aw_ret ?_); (try refine lst_nil ?_); (try simp only [ThenA, InBl]); refine ret_mk (by first | exact .inl rfl | exact .inr rfl) rfl ?_; simp only [rtn, resA, resL, resV, Tryz.results86, go_sem])
    have : xs = ys := by
     rw [hge, List.take_length, hlen, List.take_length] at he
     exact he
    simp [this]
end Go.Proofs.YthlckclbjknldaaGreat
namespace Go.Proofs.YthlckclbjknldaaGreat
set_option linter.unusedVariables false
set_option linter.unusedSimpArgs false
open Go.RowKit
set_option maxRecDepth 100000

theorem less_fc (xs ys : List Int) (hn : xs.length ≤ 140737488355328) (hm : ys.length ≤ 140737488355328) : FC Tryz.prog 156 [aInts xs, aInts ys] [] (fun r o => o = [] ∧ r = .b (lessI xs ys)) := by
 refine fc_intro Tryz.func156 rfl (by rw [Tryz.ntmps156]; simp) ?_
 rw [Tryz.ntmps156]
 simp only [enum, aInts]
 (refine wk0 ?_; (repeat clear hK K); repeat (refine Kq.mk ?_; intro K hK))
 refine aw_loop (fun k : Nat => { tm := [(0, .a (.c (.t 1 (tInts xs)))), (1, .a (.c (.t 1 (tInts ys)))), (5, .i k)], hp := [], n := 41, pin := 0 }) (fun k => k ≤ xs.length ∧ k ≤ ys.length ∧ lessI xs ys = lessI (xs.drop k) (ys.drop k)) (fun k => xs.length - k) 0 ?_ ?_ ?_
 ·exact ⟨by omega, by omega, rfl⟩
 ·exact lmz
 ·rintro k ⟨hk, hk2, he⟩ K hK
  have fin : ∀ b : Bool, b = decide ((xs.length : Int) < (ys.length : Int)) → (xs.length ≤ k ∨ ys.length ≤ k) → b = lessI xs ys := by
   intro b hb hor
   rw [he, hb]
   rcases hor with h | h
   ·rw [List.drop_eq_nil_of_le h]
    by_cases e : k < ys.length
    ·rw [drop_get e]; simp [lessI]; omega
    ·rw [List.drop_eq_nil_of_le (by omega)]; simp [lessI]; omega
   ·rw [List.drop_eq_nil_of_le h]
    by_cases e : k < xs.length
    ·rw [drop_get e]; simp [lessI]; omega
    ·rw [List.drop_eq_nil_of_le (by omega)]; simp [lessI]; omega
  by_cases hlt : k < xs.length
  ·have hl1 : decide ((k : Int) < (xs.length : Int)) = true := by simpa using hlt
   (refine wk1 (an @tInts_len @hl1) ?_; (repeat clear hK K); repeat (refine Kq.mk ?_; intro K hK))
   (refine aw_cnd ?_; intro X Y hX hY; simp only [go_sem])
   refine ⟨fun h => hX ?_, fun h => hY ?_⟩
   ·have hlt2 : k < ys.length := by simpa using h
    clear hX hY X Y h
    rw [drop_get hlt, drop_get hlt2] at he
    (refine wk0 ?_; (repeat clear hK K); repeat (refine Kq.mk ?_; intro K hK))
    (refine aw_regionU 8 [(0, 0), (1, 0), (2, 0), (3, 1), (4, 0), (5, 0), (6, 0), (7, 1), (8, 2)] (by kernel_rfl) (by kernel_rfl) (by intro c st h; simp [ThenA, InBl, Ret] at h) ?_)
    (refine uk1 (an @tInts_len (an (tInts_get (List.getElem?_eq_getElem hlt)) (tInts_get (List.getElem?_eq_getElem hlt2)))) ?_; repeat clear hK K)
    (refine aw_cnd ?_; intro X Y hX hY; simp only [go_sem])
    refine ⟨fun h => hX ?_, fun h => hY ?_⟩
    ·clear hX hY X Y
     (refine wk0 ?_; (repeat clear hK K); repeat (refine Kq.mk ?_; intro K hK))
     (refine aw_regionU 9 [(0, 0), (1, 0), (2, 0), (3, 1), (4, 0), (5, 0), (6, 0), (7, 1), (8, 0), (9, 2)] (by kernel_rfl) (by kernel_rfl) (by intro c st h; simp [ThenA, InBl, Ret] at h) ?_)
     (refine uk1 (an @tInts_len (an (tInts_get (List.getElem?_eq_getElem hlt)) (tInts_get (List.getElem?_eq_getElem hlt2)))) ?_; repeat clear hK K)
     ((try refine aw_ret ?_); (try refine lst_nil ?_); (try simp only [ThenA, InBl]); refine ret_mk (by first | exact .inl rfl | exact .inr rfl) rfl ?_; simp only [rtn, resA, resL, resV, Tryz.results156, go_sem])
     have h1 : xs[k] ≠ ys[k] := by simpa using h
     rw [he]
     simp [lessI, h1]
    ·clear hX hY X Y
     (refine wk0 ?_; (repeat clear hK K); repeat (refine Kq.mk ?_; intro K hK))
     refine rnz ?_
     refine hK _ (k + 1) ⟨by omega, by omega, ?_⟩ (by omega) ?_
     ·have h1 : xs[k] = ys[k] := by simpa using h
      rw [he]
      simp [lessI, h1]
     ·exact lmz
   ·have hge : ys.length ≤ k := by simpa using h
    clear hX hY X Y
    (refine ekz ?_; repeat clear hK K)
    (refine wk1 @tInts_len ?_; (repeat clear hK K); repeat (refine Kq.mk ?_; intro K hK))
    ((try refine aw_ret ?_); (try refine lst_nil ?_); (try simp only [ThenA, InBl]); refine ret_mk (by first | exact .inl rfl | exact .inr rfl) rfl ?_; simp only [rtn, resA, resL, resV, Tryz.results156, go_sem])
    rw [fin _ rfl (.inr hge)]
  ·have hl1 : decide ((k : Int) < (xs.length : Int)) = false := by simpa using hlt
   (refine wk1 (an @tInts_len @hl1) ?_; (repeat clear hK K); repeat (refine Kq.mk ?_; intro K hK))
   (refine aw_cnd ?_; intro X Y hX hY; simp only [go_sem])
   refine hY ?_; clear hX hY X Y
   (refine ekz ?_; repeat clear hK K)
   (refine wk1 @tInts_len ?_; (repeat clear hK K); repeat (refine Kq.mk ?_; intro K hK))
   ((try refine aw_ret ?_); (try refine lst_nil ?_); (try simp only [ThenA, InBl]); refine ret_mk (by first | exact .inl rfl | exact .inr rfl) rfl ?_; simp only [rtn, resA, resL, resV, Tryz.results156, go_sem])
   rw [fin _ rfl (.inl (by omega))]
end Go.Proofs.YthlckclbjknldaaGreat
namespace Go.Proofs.YthlckclbjknldaaGreat
set_option linter.unusedVariables false
set_option linter.unusedSimpArgs false
open Go.RowKit
set_option maxRecDepth 100000
attribute [local go_sem] List.set_cons_zero List.set_cons_succ List.map_cons List.map_nil List.take_succ_cons List.take_zero List.drop_zero List.drop_succ_cons C.pl C.one List.all_cons List.all_nil Bool.and_true Nat.mul_one Int.toNat_natCast

def stS (F : List (List Ar)) (s : Nat) : Bool := stB (F.getD s [])
def acS (F : List (List Ar)) (s : Nat) : List Int := (accP (F.getD s [])).1
theorem getD_at {F : List (List Ar)} {s : Nat} (h : s < F.length) : F.getD s [] = F[s] := by rw [List.getD_eq_getElem?_getD, List.getElem?_eq_getElem h]; rfl
theorem val_row {F : List (List Ar)} (hv : valB F = true) {s : Nat} (h : s < F.length) : SortA F[s] ∧ ∀ a ∈ F[s], 0 ≤ a.1 ∧ a.1 ≤ 1025 := by
 have h1 := of_decide_eq_true hv
 exact ⟨h1.2 _ (List.getElem_mem h), fun a ha => by have := h1.1.2.2.2 _ (List.getElem_mem h) a ha; omega⟩
theorem acS_len {F : List (List Ar)} (hv : valB F = true) {s : Nat} (h : s < F.length) (hr : ∀ r ∈ F, r.length ≤ 1000000) : (acS F s).length ≤ 1000001 ∧ KeyR (acS F s) := by
 unfold acS
 rw [getD_at h]
 have h1 := accP_ok (val_row hv h).2
 have h2 := hr _ (List.getElem_mem h)
 exact ⟨by omega, h1.1⟩
theorem rst_fc (F : List (List Ar)) (s : Nat) (hv : valB F = true) (h : s < F.length) (hn : F.length ≤ 1000000) (hr : ∀ r ∈ F, r.length ≤ 1000000) : FC Tryz.prog 82 [aLts F, .i s] [] (fun r o => o = [] ∧ r = .b (stS F s)) := by
 have := rstable_fc F s hv h hn hr
 rw [← stB_eq (val_row hv h).1 (fun a ha => ((val_row hv h).2 a ha).1), ← getD_at h] at this
 exact this
theorem rac_fc (F : List (List Ar)) (s : Nat) (hv : valB F = true) (h : s < F.length) (hn : F.length ≤ 1000000) (hr : ∀ r ∈ F, r.length ≤ 1000000) : FC Tryz.prog 84 [aLts F, .i s] [] (fun r o => o = [] ∧ ∃ b : Bool, r = .tup [.c (.t 1 (tInts (acS F s))), .c (.v (.bool b))]) := by
 have := raccept_fc F s hv h hn hr
 rw [← acc_eq (val_row hv h).1 (fun a ha => ((val_row hv h).2 a ha).1), ← getD_at h] at this
 exact this.mono fun r o h => ⟨h.1, _, h.2⟩
def firB (F : List (List Ar)) (all : List Nat) (k : Nat) (acc : List Int) : Bool := (all.take k).all fun s => !(stS F s && decide (acS F s = acc))
theorem firB_succ {F : List (List Ar)} {all : List Nat} {k : Nat} {acc : List Int} (h : k < all.length) : firB F all (k + 1) acc = (firB F all k acc && !(stS F all[k] && decide (acS F all[k] = acc))) := by
 unfold firB
 rw [List.take_succ_eq_append_getElem h, List.all_append]
 simp
theorem firB_no {F : List (List Ar)} {all : List Nat} {i k : Nat} {acc : List Int} (hi : i < k) (hk : k ≤ all.length) (h : firB F all (i + 1) acc = false) : firB F all k acc = false := by
 unfold firB at h ⊢
 rw [List.all_eq_false] at h ⊢
 obtain ⟨x, hx, h2⟩ := h
 refine ⟨x, ?_, h2⟩
 have : all.take (i + 1) = (all.take k).take (i + 1) := by rw [List.take_take, Nat.min_eq_left (by omega)]
 rw [this] at hx
 exact List.mem_of_mem_take hx
set_option maxHeartbeats 2000000 in
theorem first_fc (F : List (List Ar)) (all : List Nat) (k : Nat) (acc : List Int) (hv : valB F = true) (hall : ∀ s ∈ all, s < F.length) (hal : all.length ≤ 1000000) (hk : k ≤ all.length) (hac : acc.length ≤ 1000001) (hn : F.length ≤ 1000000) (hr : ∀ r ∈ F, r.length ≤ 1000000) : FC Tryz.prog 87 [aLts F, .a (.c (.t 1 (tInts (all.map Int.ofNat)))), .i k, .a (.c (.t 1 (tInts acc)))] [] (fun r o => o = [] ∧ r = .b (firB F all k acc)) := by
 refine fc_intro Tryz.func87 rfl (by rw [Tryz.ntmps87]; simp) ?_
 rw [Tryz.ntmps87]
 simp only [enum, aLts]
 have hal2 : (all.map Int.ofNat).length = all.length := by simp
 (refine wk0 ?_; (repeat clear hK K); repeat (refine Kq.mk ?_; intro K hK))
 refine aw_loop (fun i : Nat => { tm := [(1, .a (.c (.t 1 (tInts (all.map Int.ofNat))))), (2, .i k), (3, .a (.c (.t 1 (tInts acc)))), (4, .a (.c (.p 0 0))), (9, .i i)], hp := [.r ⟨25, 1, false, [.t 1 (tRows F)]⟩], n := 37, pin := 0 }) (fun i => i ≤ k ∧ firB F all i acc = true) (fun i => k - i) 0 ?_ ?_ ?_
 ·exact ⟨by omega, by simp [firB]⟩
 ·exact lmz
 ·rintro i ⟨hi, hf⟩ K hK
  by_cases hlt : i < k
  ·have d1 : decide ((i : Int) < (k : Int)) = true := by simpa using hlt
   have hil : i < all.length := by omega
   have gF : (tInts (all.map Int.ofNat))[i]? = some (.v (.int .i64 (all[i] : Int))) := tInts_get (by rw [List.getElem?_map, List.getElem?_eq_getElem hil]; rfl)
   have hsl := hall _ (List.getElem_mem hil)
   have hfs := firB_succ (F := F) (acc := acc) hil
   rw [hf, Bool.true_and] at hfs
   have hno := firB_no (F := F) (acc := acc) hlt hk
   generalize all[i] = s at *
   have hal3 := acS_len hv hsl hr
   have hri := rints_fc (acS F s) acc (by omega) (by omega)
   (refine wk1 @d1 ?_; (repeat clear hK K); repeat (refine Kq.mk ?_; intro K hK))
   refine cxz ?_
   (refine wk0 ?_; (repeat clear hK K); repeat (refine Kq.mk ?_; intro K hK))
   (refine aw_regionU 5 [(0, 1), (1, 0), (2, 0), (3, 0), (4, 1), (5, 2), (6, 0), (7, 0), (8, 0), (9, 0), (10, 0)] (by kernel_rfl) (by kernel_rfl) (by intro c st h; simp [ThenA, InBl, Ret] at h) ?_)
   (refine uk1 (an @gF (an @tInts_len @hal2)) ?_; repeat clear hK K)
   (refine uckz (rac_fc F s hv hsl hn hr) ?_; intro K1 hK1)
   rintro _ _ ⟨rfl, b, rfl⟩
   (refine bkz ?_; clear hK1 K1)
   (refine uk0 ?_; repeat clear hK K)
   (refine wk0 ?_; (repeat clear hK K); repeat (refine Kq.mk ?_; intro K hK))
   (refine aw_regionU 5 [(0, 1), (1, 0), (2, 0), (3, 0), (4, 1), (5, 2), (6, 0), (7, 0), (8, 0), (9, 2), (10, 0)] (by kernel_rfl) (by kernel_rfl) (by intro c st h; simp [ThenA, InBl, Ret] at h) ?_)
   (refine uk1 (an @gF (an @tInts_len @hal2)) ?_; repeat clear hK K)
   (refine uckz (rst_fc F s hv hsl hn hr) ?_; intro K1 hK1)
   rintro _ _ ⟨rfl, rfl⟩
   (refine bkz ?_; clear hK1 K1)
   cases hs : stS F s with
   | true =>
    rw [hs, Bool.true_and] at hfs
    (refine ug0 ?_; repeat clear hK K)
    (refine u_wG rfl rfl rfl (by simp only [go_sem] <;> rfl) rfl ?_; intro K1 hK1; refine (stp_call0 (ids := []) (hri) rfl rfl (by simp only [go_sem]) (by kernel_rfl) (by (simp only [List.append_nil, go_sem]) <;> rfl) ?_).stp)
    rintro _ _ ⟨rfl, rfl⟩
    (refine bkz ?_; clear hK1 K1)
    by_cases he : acS F s = acc
    ·have d2 : decide (acS F s = acc) = true := decide_eq_true he
     rw [d2, Bool.not_true] at hfs
     (refine ug1 @d2 ?_; repeat clear hK K)
     refine cxz ?_
     (refine wk0 ?_; (repeat clear hK K); repeat (refine Kq.mk ?_; intro K hK))
     ((try refine aw_ret ?_); (try simp only [ThenA, InBl]); refine ret_le (le_pick [] rfl rfl) ?_; (try simp only [List.set_nil, List.take_nil, List.take_zero, List.map_append, go_sem]); ((try refine aw_ret ?_); (try refine lst_nil ?_); (try simp only [ThenA, InBl]); refine ret_mk (by first | exact .inl rfl | exact .inr rfl) rfl ?_; simp only [rtn, resA, resL, resV, Tryz.results87, go_sem, true_and, and_true]))
     rw [hno hfs]
    ·have d2 : decide (acS F s = acc) = false := decide_eq_false he
     rw [d2, Bool.not_false] at hfs
     (refine ug1 @d2 ?_; repeat clear hK K)
     refine cyz ?_
     (refine wk0 ?_; (repeat clear hK K); repeat (refine Kq.mk ?_; intro K hK))
     refine rnz ?_
     refine hK _ (i + 1) ⟨by omega, hfs⟩ (by omega) ?_
     exact lmz
   | false =>
    rw [hs, Bool.false_and, Bool.not_false] at hfs
    (refine ug0 ?_; repeat clear hK K)
    refine cyz ?_
    (refine wk0 ?_; (repeat clear hK K); repeat (refine Kq.mk ?_; intro K hK))
    refine rnz ?_
    refine hK _ (i + 1) ⟨by omega, hfs⟩ (by omega) ?_
    exact lmz
  ·have d1 : decide ((i : Int) < (k : Int)) = false := by simpa using hlt
   have hik : i = k := by omega
   rw [hik] at hf
   (refine wk1 @d1 ?_; (repeat clear hK K); repeat (refine Kq.mk ?_; intro K hK))
   refine cyz ?_
   (refine ekz ?_; repeat clear hK K)
   (refine wk0 ?_; (repeat clear hK K); repeat (refine Kq.mk ?_; intro K hK))
   ((try refine aw_ret ?_); (try simp only [ThenA, InBl]); refine ret_le (le_pick [] rfl rfl) ?_; (try simp only [List.set_nil, List.take_nil, List.take_zero, List.map_append, go_sem]); ((try refine aw_ret ?_); (try refine lst_nil ?_); (try simp only [ThenA, InBl]); refine ret_mk (by first | exact .inl rfl | exact .inr rfl) rfl ?_; simp only [rtn, resA, resL, resV, Tryz.results87, go_sem, true_and, and_true]))
   rw [hf]
end Go.Proofs.YthlckclbjknldaaGreat
namespace Go.Proofs.YthlckclbjknldaaGreat
set_option linter.unusedVariables false
set_option linter.unusedSimpArgs false

theorem tau_sorted {r : List Ar} (hs : SortA r) (h0 : ∀ a ∈ r, 0 ≤ a.1) (t : Bool) : tauF t r = tauOf t r := by
 cases t with
 | false => unfold tauF tauOf; simp
 | true =>
  unfold tauF tauOf
  rw [if_pos rfl]
  simp only [Bool.not_true, Bool.false_or]
  induction r with
  | nil => rfl
  | cons a r ih =>
   have hs2 := List.pairwise_cons.1 hs
   by_cases h : (a.1 == 0) = true
   ·rw [List.filter_cons, if_pos h, List.takeWhile_cons, if_pos h, ih hs2.2 fun b hb => h0 b (List.mem_cons_of_mem _ hb)]
   ·rw [List.filter_cons, if_neg h, List.takeWhile_cons, if_neg h]
    refine List.filter_eq_nil_iff.2 fun b hb => ?_
    have h1 := hs2.1 b hb
    rw [ltA_iff] at h1
    have h2 := h0 a List.mem_cons_self
    have h3 : a.1 ≠ 0 := fun e => h (by simp [e])
    have : b.1 ≠ 0 := by omega
    simpa using this
theorem adj_eq {R : List (List Ar)} (t : Bool) (hv : valB R = true) : AdjF t R = Adj t R := by
 funext v
 unfold AdjF Adj
 rcases Nat.lt_or_ge v R.length with h | h
 ·rw [List.getD_eq_getElem?_getD, List.getElem?_eq_getElem h, Option.getD_some]
  have h2 := of_decide_eq_true hv
  rw [tau_sorted (h2.2 _ (List.getElem_mem h)) fun a ha => (h2.1.2.2.2 _ (List.getElem_mem h) a ha).1]
 ·rw [List.getD_eq_getElem?_getD, List.getElem?_eq_none h, Option.getD_none]
  cases t <;> rfl
/-- the least node is one -/
theorem Least.uniq {E : Nat → List Nat} {v : Nat} {x y : Int} (h1 : Least E v x) (h2 : Least E v y) : x = y := by
 obtain ⟨m, a1, a2, a3, a4⟩ := h1
 obtain ⟨k, b1, b2, b3, b4⟩ := h2
 have := a4 k b2 b3
 have := b4 m a2 a3
 omega
theorem least_rows {E : Nat → List Nat} {n : Nat} {C D : List Int} (hC : C.length = n) (hD : D.length = n) (h1 : ∀ v, v < n → Least E v (fnL C (-1) v)) (h2 : ∀ v, v < n → Least E v (fnL D (-1) v)) : C = D := by
 apply List.ext_getElem (by omega)
 intro i hi hj
 have := (h1 i (by omega)).uniq (h2 i (by omega))
 rw [fnL_get hi, fnL_get hj] at this
 exact this
end Go.Proofs.YthlckclbjknldaaGreat
namespace Go.Proofs.YthlckclbjknldaaGreat
set_option linter.unusedVariables false
set_option linter.unusedSimpArgs false

theorem canGo_ext {A B : List (List Ar)} (h : ∀ i, rowOf (A.getD i []) = rowOf (B.getD i [])) : ∀ (f i : Nat) (num old : List Int) (out : List (List Ar)), canGo A f i num old out = canGo B f i num old out := by
 intro f
 induction f with
 | zero => intro i num old out; rfl
 | succ f ih =>
  intro i num old out
  unfold canGo
  split
  ·rfl
  ·rw [h, ih]
theorem canonR_ext {A B : List (List Ar)} (hl : A.length = B.length) (h : ∀ i, rowOf (A.getD i []) = rowOf (B.getD i [])) : canonR A = canonR B := by
 unfold canonR
 rw [hl]
 exact canGo_ext h _ _ _ _ _
def tiA (f : Nat → Nat) (c : Nat) (o : List (List Ar)) (a : Ar) : List (List Ar) := o.set c (insA (a.1, (f a.2.toNat : Int)) (o.getD c []))
def tiRow (f : Nat → Nat) (c : Nat) (o : List (List Ar)) (row : List Ar) : List (List Ar) := row.foldl (tiA f c) o
def tiOut (f : Nat → Nat) (m : Nat) (R : List (List Ar)) : Nat → List (List Ar)
 | 0 => List.replicate m []
 | k + 1 => tiRow f (f k) (tiOut f m R k) (R.getD k [])
theorem tiA_len (f : Nat → Nat) (c : Nat) (o : List (List Ar)) (a : Ar) : (tiA f c o a).length = o.length := by simp [tiA]
theorem tiRow_len (f : Nat → Nat) (c : Nat) (row : List Ar) : ∀ o, (tiRow f c o row).length = o.length := by
 induction row with
 | nil => intro o; rfl
 | cons a r ih => intro o; show (tiRow f c (tiA f c o a) r).length = _; rw [ih, tiA_len]
theorem tiOut_len (f : Nat → Nat) (m : Nat) (R : List (List Ar)) (k : Nat) : (tiOut f m R k).length = m := by
 induction k with
 | zero => simp [tiOut]
 | succ k ih => rw [tiOut, tiRow_len, ih]
theorem tiRow_snoc (f : Nat → Nat) (c : Nat) (o : List (List Ar)) (row : List Ar) (a : Ar) : tiRow f c o (row ++ [a]) = tiA f c (tiRow f c o row) a := by unfold tiRow; rw [List.foldl_append]; rfl
/-- two lists of rows with the same arcs -/
def SameS (o p : List (List Ar)) : Prop := o.length = p.length ∧ ∀ i a, a ∈ o.getD i [] ↔ a ∈ p.getD i []
theorem SameS.one {f : Nat → Nat} {c : Nat} {o p : List (List Ar)} (h : SameS o p) (a : Ar) : SameS (tiA f c o a) (tlA f c p a) := by
 refine ⟨by rw [tiA_len, tlA_len]; exact h.1, fun i b => ?_⟩
 have h1 := h.1
 unfold tiA tlA
 simp only [List.getD_eq_getElem?_getD, List.getElem?_set]
 by_cases hi : c = i
 ·subst hi
  by_cases hc : c < o.length
  ·have h2 := h.2 c b
   simp only [List.getD_eq_getElem?_getD] at h2
   rw [if_pos rfl, if_pos hc, if_pos rfl, if_pos (by omega)]
   simp only [Option.getD_some, mem_insA, List.mem_append, List.mem_singleton, h2, or_comm]
  ·rw [if_pos rfl, if_neg hc, if_pos rfl, if_neg (by omega)]
 ·rw [if_neg hi, if_neg hi]
  have h2 := h.2 i b
  simpa only [List.getD_eq_getElem?_getD] using h2
theorem SameS.row {f : Nat → Nat} {c : Nat} : ∀ (row : List Ar) {o p : List (List Ar)}, SameS o p → SameS (tiRow f c o row) (tlRow f c p row)
 | [], _, _, h => h
 | a :: r, _, _, h => SameS.row r (h.one a)
theorem tiOut_same (f : Nat → Nat) (m : Nat) (R : List (List Ar)) (k : Nat) : SameS (tiOut f m R k) (tlOut f m R k) := by
 induction k with
 | zero => exact ⟨rfl, fun _ _ => Iff.rfl⟩
 | succ k ih => exact ih.row _
theorem canon_ti (f : Nat → Nat) (m : Nat) (R : List (List Ar)) (k : Nat) : canonR (tiOut f m R k) = canonR (tlOut f m R k) := by
 have h := tiOut_same f m R k
 exact canonR_ext h.1 fun i => rowOf_ext (h.2 i)
/-- bounds -/
theorem tiA_tot (f : Nat → Nat) (o : List (List Ar)) (c : Nat) (a : Ar) : totA (tiA f c o a) ≤ totA o + 1 := by
 unfold tiA
 induction o generalizing c with
 | nil => simp [totA]
 | cons x r ih =>
  cases c with
  | zero =>
   simp only [List.set_cons_zero, List.getD_cons_zero, totA, List.map_cons, List.sum_cons]
   have := insA_len (a.1, (f a.2.toNat : Int)) x
   omega
  | succ c =>
   have := ih c
   simp only [List.set_cons_succ, List.getD_cons_succ]
   simp only [totA, List.map_cons, List.sum_cons] at this ⊢
   omega
theorem tiRow_tot (f : Nat → Nat) (c : Nat) (row : List Ar) : ∀ o, totA (tiRow f c o row) ≤ totA o + row.length := by
 induction row with
 | nil => intro o; exact Nat.le_refl _
 | cons a r ih =>
  intro o
  have h1 := ih (tiA f c o a)
  have h2 := tiA_tot f o c a
  show totA (tiRow f c (tiA f c o a) r) ≤ _
  simp only [List.length_cons]
  omega
theorem tiOut_tot (f : Nat → Nat) (m : Nat) (R : List (List Ar)) : ∀ k, k ≤ R.length → totA (tiOut f m R k) ≤ totA (R.take k) := by
 intro k
 induction k with
 | zero => intro _; rw [tiOut, totA_rep]; omega
 | succ k ih =>
  intro h
  have h1 := ih (by omega)
  have h2 := tiRow_tot f (f k) (R.getD k []) (tiOut f m R k)
  rw [tiOut, totA_take (by omega)]
  rw [List.getD_eq_getElem?_getD, List.getElem?_eq_getElem (by omega), Option.getD_some] at h2 ⊢
  omega
theorem tiP {f : Nat → Nat} {m : Nat} {R : List (List Ar)} (hR : ∀ r ∈ R, ∀ a ∈ r, 0 ≤ a.1 ∧ a.1 ≤ 1025 ∧ f a.2.toNat < m) (k : Nat) (hk : k ≤ R.length) : TlP m (tiOut f m R k) := by
 intro r hr a ha
 have hs := tiOut_same f m R k
 obtain ⟨i, hi, rfl⟩ := List.getElem_of_mem hr
 have h1 : a ∈ (tiOut f m R k).getD i [] := by rw [List.getD_eq_getElem?_getD, List.getElem?_eq_getElem hi]; exact ha
 have h2 := (hs.2 i a).1 h1
 have hi2 : i < (tlOut f m R k).length := by rw [← hs.1]; exact hi
 rw [List.getD_eq_getElem?_getD, List.getElem?_eq_getElem hi2] at h2
 exact tlOut_P hR k hk _ (List.getElem_mem hi2) a h2
end Go.Proofs.YthlckclbjknldaaGreat
namespace Go.Proofs.YthlckclbjknldaaGreat
set_option linter.unusedVariables false
set_option linter.unusedSimpArgs false
open Go.RowKit

def rdSt (F : List (List Ar)) (all : List Nat) (s : List Int) (j : Nat) (row : List Ar) : List Ar :=
 if (stS F (all.getD j 0) && (decide (acS F (all.getD j 0) = s) && firB F all j (acS F (all.getD j 0)))) = true then insA (0, (all.getD j 0 : Nat)) row else row
def rwD (F : List (List Ar)) (all : List Nat) (s : List Int) (row0 : List Ar) : Nat → List Ar
 | 0 => row0
 | m + 1 => rdSt F all s (all.length - 1 - m) (rwD F all s row0 m)
def rwC (F : List (List Ar)) (all : List Nat) (S : List (List Int)) (row0 : List Ar) : Nat → List Ar
 | 0 => row0
 | i + 1 => rwD F all (S.getD i []) (rwC F all S row0 i) all.length
def rdSets (F : List (List Ar)) (all : List Nat) : List (List Int) := (all.filter (stS F)).map (acS F)
noncomputable def rdRow (F : List (List Ar)) (n : Nat) : List Ar :=
 if stS F n then F.getD n [] else rwC F (sclo F n) (minR (rdSets F (sclo F n))) (rowOf (unR F n (sclo F n))) (minR (rdSets F (sclo F n))).length
noncomputable def rdL (F : List (List Ar)) (k : Nat) : List (List Ar) := (List.range k).map (rdRow F)
theorem rdL_snoc (F : List (List Ar)) (k : Nat) : rdL F (k + 1) = rdL F k ++ [rdRow F k] := by simp [rdL, List.range_succ]
theorem rdL_len (F : List (List Ar)) (k : Nat) : (rdL F k).length = k := by simp [rdL]
/-- what is taken at a place -/
def Pk (F : List (List Ar)) (all : List Nat) (s : List Int) (j : Nat) : Prop := stS F (all.getD j 0) = true ∧ acS F (all.getD j 0) = s ∧ firB F all j s = true
theorem mem_rdSt {F : List (List Ar)} {all : List Nat} {s : List Int} {j : Nat} {row : List Ar} {a : Ar} : a ∈ rdSt F all s j row ↔ a ∈ row ∨ (Pk F all s j ∧ a = (0, ((all.getD j 0 : Nat) : Int))) := by
 unfold rdSt
 split
 ·rename_i h
  simp only [Bool.and_eq_true, decide_eq_true_eq] at h
  obtain ⟨h1, h2, h3⟩ := h
  rw [h2] at h3
  rw [mem_insA]
  constructor
  ·rintro (h | h)
   ·exact .inr ⟨⟨h1, h2, h3⟩, h⟩
   ·exact .inl h
  ·rintro (h | ⟨_, h⟩)
   ·exact .inr h
   ·exact .inl h
 ·rename_i h
  constructor
  ·exact .inl
  ·rintro (h2 | ⟨⟨h1, h2, h3⟩, _⟩)
   ·exact h2
   ·exact absurd (by rw [h1, h2, h3]; simp) h
theorem mem_rwD {F : List (List Ar)} {all : List Nat} {s : List Int} {row0 : List Ar} {a : Ar} : ∀ m, m ≤ all.length → (a ∈ rwD F all s row0 m ↔ a ∈ row0 ∨ ∃ j, all.length - m ≤ j ∧ j < all.length ∧ Pk F all s j ∧ a = (0, ((all.getD j 0 : Nat) : Int))) := by
 intro m
 induction m with
 | zero => intro _; simp only [rwD]; exact ⟨.inl, fun h => h.elim id fun ⟨j, h1, h2, _⟩ => by omega⟩
 | succ m ih =>
  intro hm
  rw [rwD, mem_rdSt, ih (by omega)]
  constructor
  ·rintro ((h | ⟨j, h1, h2, h3, h4⟩) | ⟨h1, h2⟩)
   ·exact .inl h
   ·exact .inr ⟨j, by omega, h2, h3, h4⟩
   ·exact .inr ⟨_, by omega, by omega, h1, h2⟩
  ·rintro (h | ⟨j, h1, h2, h3, h4⟩)
   ·exact .inl (.inl h)
   ·by_cases e : j = all.length - 1 - m
    ·subst e; exact .inr ⟨h3, h4⟩
    ·exact .inl (.inr ⟨j, by omega, h2, h3, h4⟩)
theorem mem_rwC {F : List (List Ar)} {all : List Nat} {S : List (List Int)} {row0 : List Ar} {a : Ar} : ∀ i, a ∈ rwC F all S row0 i ↔ a ∈ row0 ∨ ∃ i', i' < i ∧ ∃ j, j < all.length ∧ Pk F all (S.getD i' []) j ∧ a = (0, ((all.getD j 0 : Nat) : Int)) := by
 intro i
 induction i with
 | zero => simp [rwC]
 | succ i ih =>
  rw [rwC, mem_rwD _ (Nat.le_refl _), ih]
  constructor
  ·rintro ((h | ⟨i', h1, h2⟩) | ⟨j, h1, h2, h3⟩)
   ·exact .inl h
   ·exact .inr ⟨i', by omega, h2⟩
   ·exact .inr ⟨i, by omega, j, h2, h3⟩
  ·rintro (h | ⟨i', h1, j, h2, h3⟩)
   ·exact .inl (.inl h)
   ·by_cases e : i' = i
    ·subst e; exact .inr ⟨j, by omega, h2, h3⟩
    ·exact .inl (.inr ⟨i', by omega, j, h2, h3⟩)
theorem sort_rdSt {F : List (List Ar)} {all : List Nat} {s : List Int} {j : Nat} {row : List Ar} (h : SortA row) : SortA (rdSt F all s j row) := by
 unfold rdSt
 split
 ·exact insA_sort h
 ·exact h
theorem sort_rwD {F : List (List Ar)} {all : List Nat} {s : List Int} {row0 : List Ar} (h : SortA row0) : ∀ m, SortA (rwD F all s row0 m)
 | 0 => h
 | m + 1 => sort_rdSt (sort_rwD h m)
theorem sort_rwC {F : List (List Ar)} {all : List Nat} {S : List (List Int)} {row0 : List Ar} (h : SortA row0) : ∀ i, SortA (rwC F all S row0 i)
 | 0 => h
 | i + 1 => sort_rwD (sort_rwC h i) _
/-- sorted rows are no longer than what they lie in -/
theorem sub_len : ∀ {l m : List Ar}, SortA l → (∀ a ∈ l, a ∈ m) → l.length ≤ m.length
 | [], _, _, _ => Nat.zero_le _
 | x :: r, m, hs, h => by
  have hx := h x (by simp)
  have hs2 := List.pairwise_cons.1 hs
  have := sub_len (m := m.erase x) hs2.2 (fun a ha => by
   refine (List.mem_erase_of_ne ?_).2 (h a (List.mem_cons_of_mem _ ha))
   intro e
   have := hs2.1 a ha
   rw [e, ltA_irr] at this
   cases this)
  rw [List.length_erase_of_mem hx] at this
  have := List.length_pos_of_mem hx
  simp only [List.length_cons]
  omega
theorem sub_bd {row row0 : List Ar} {all : List Nat} (hs : SortA row) (h : ∀ a ∈ row, a ∈ row0 ∨ ∃ j, j < all.length ∧ a = (0, ((all.getD j 0 : Nat) : Int))) : row.length ≤ row0.length + all.length := by
 have := sub_len (m := row0 ++ all.map fun x : Nat => ((0 : Int), (x : Int))) hs (fun a ha => by
  rcases h a ha with h | ⟨j, hj, rfl⟩
  ·exact List.mem_append_left _ h
  ·refine List.mem_append_right _ (List.mem_map.2 ⟨all.getD j 0, ?_, rfl⟩)
   rw [List.getD_eq_getElem?_getD, List.getElem?_eq_getElem hj]
   exact List.getElem_mem hj)
 simpa using this
theorem rwC_len {F : List (List Ar)} {all : List Nat} {S : List (List Int)} {row0 : List Ar} (h : SortA row0) (i : Nat) : (rwC F all S row0 i).length ≤ row0.length + all.length :=
 sub_bd (sort_rwC h i) fun a ha => by
  rcases (mem_rwC i).1 ha with h | ⟨_, _, j, h1, _, h2⟩
  ·exact .inl h
  ·exact .inr ⟨j, h1, h2⟩
theorem rwD_len {F : List (List Ar)} {all : List Nat} {S : List (List Int)} {s : List Int} {row0 : List Ar} (h : SortA row0) (i m : Nat) (hm : m ≤ all.length) : (rwD F all s (rwC F all S row0 i) m).length ≤ row0.length + all.length :=
 sub_bd (sort_rwD (sort_rwC h i) m) fun a ha => by
  rcases (mem_rwD m hm).1 ha with h | ⟨j, _, h1, _, h2⟩
  ·rcases (mem_rwC i).1 h with h | ⟨_, _, j, h1, _, h2⟩
   ·exact .inl h
   ·exact .inr ⟨j, h1, h2⟩
  ·exact .inr ⟨j, h1, h2⟩
/-! the same -/
theorem minR_ext {A B : List (List Int)} (hA : ∀ s ∈ A, Asc s) (h : ∀ s, s ∈ A ↔ s ∈ B) : minR A = minR B := by
 have hB : ∀ s ∈ B, Asc s := fun s hs => hA s ((h s).2 hs)
 refine sortS_ext (minR_sort A) (minR_sort B) fun s => ?_
 rw [mem_minR hA, mem_minR hB, h]
 have : leastB A s = leastB B s := by
  rw [Bool.eq_iff_iff]
  simp only [leastB, List.all_eq_true]
  exact ⟨fun q o ho => q o ((h o).2 ho), fun q o ho => q o ((h o).1 ho)⟩
 rw [this]
theorem acS_asc {F : List (List Ar)} (hv : valB F = true) {s : Nat} (hs : s < F.length) : Asc (acS F s) := by
 unfold acS
 rw [getD_at hs]
 unfold accP
 split
 ·simp [Asc]
 ·split
  ·simp only
   rw [iniL_eq (val_row hv hs).1]
   exact inR_lt _
  ·exact List.Pairwise.nil
theorem findL_snoc (x : List Int) (M : Lm) (y : List Int) (s : Nat) : findL x (M ++ [(y, s)]) = (match findL x M with | some t => some t | none => if y = x then some s else none) := by
 unfold findL
 rw [List.find?_append]
 cases M.find? (fun p => decide (p.1 = x)) with
 | some p => rfl
 | none =>
  by_cases e : y = x <;> simp [e]
theorem findL_un {F : List (List Ar)} {x : List Int} : ∀ (cl : List Nat) (M : Lm), findL x (cl.foldl (unM1 F) M) = (match findL x M with | some t => some t | none => cl.find? fun s => stS F s && decide (acS F s = x)) := by
 intro cl
 induction cl with
 | nil => intro M; simp only [List.foldl_nil, List.find?_nil]; cases findL x M <;> rfl
 | cons s r ih =>
  intro M
  rw [List.foldl_cons, ih, List.find?_cons]
  unfold unM1
  show (match findL x (if stS F s = true then (match findL (acS F s) M with | some _ => M | none => M ++ [(acS F s, s)]) else M) with | some t => some t | none => _) = _
  by_cases hs : stS F s = true
  ·rw [if_pos hs]
   cases hf : findL (acS F s) M with
   | some t =>
    simp only
    by_cases e : acS F s = x
    ·rw [← e, hf]
    ·simp [hs, e]
   | none =>
    simp only
    rw [findL_snoc]
    by_cases e : acS F s = x
    ·rw [← e, hf]
     simp [hs]
    ·simp only [if_neg e, hs, Bool.true_and, decide_eq_false e]
     cases findL x M <;> rfl
  ·rw [if_neg hs]
   have : stS F s = false := by simpa using hs
   rw [this]
   rfl
theorem findL_none {x : List Int} {M : Lm} : findL x M = none ↔ x ∉ M.map (·.1) := by
 constructor
 ·intro h hx
  obtain ⟨s, hs⟩ := findL_mem hx
  rw [h] at hs; cases hs
 ·intro h
  cases hf : findL x M with
  | none => rfl
  | some s =>
   unfold findL at hf
   cases hg : M.find? (fun p => decide (p.1 = x)) with
   | none => rw [hg] at hf; cases hf
   | some p =>
    have h1 := List.mem_of_find?_eq_some hg
    have h2 := List.find?_some hg
    simp only [decide_eq_true_eq] at h2
    exact absurd (List.mem_map.2 ⟨p, h1, h2⟩) h
theorem un_keys {F : List (List Ar)} {cl : List Nat} (x : List Int) : x ∈ (unM F cl).map (·.1) ↔ x ∈ rdSets F cl := by
 have h := findL_un (F := F) (x := x) cl []
 simp only [show findL x ([] : Lm) = none from rfl] at h
 rw [← Decidable.not_iff_not, ← findL_none]
 show findL x (cl.foldl (unM1 F) []) = none ↔ _
 rw [h, List.find?_eq_none]
 simp only [rdSets, List.mem_map, List.mem_filter, Bool.and_eq_true, decide_eq_true_eq]
 constructor
 ·rintro q ⟨s, ⟨h1, h2⟩, h3⟩
  exact q s h1 ⟨h2, h3⟩
 ·rintro q s h1 ⟨h2, h3⟩
  exact q ⟨s, ⟨h1, h2⟩, h3⟩
theorem find_Pk {F : List (List Ar)} {cl : List Nat} {x : List Int} {t : Nat} : (cl.find? fun s => stS F s && decide (acS F s = x)) = some t ↔ ∃ j, j < cl.length ∧ Pk F cl x j ∧ cl.getD j 0 = t := by
 have hg : ∀ j (h : j < cl.length), cl.getD j 0 = cl[j] := fun j h => by rw [List.getD_eq_getElem?_getD, List.getElem?_eq_getElem h]; rfl
 rw [List.find?_eq_some_iff_getElem]
 simp only [Bool.and_eq_true, decide_eq_true_eq]
 constructor
 ·rintro ⟨⟨h1, h2⟩, i, hi, rfl, h3⟩
  refine ⟨i, hi, ⟨by rw [hg i hi]; exact h1, by rw [hg i hi]; exact h2, ?_⟩, hg i hi⟩
  rw [firB, List.all_eq_true]
  intro s hs
  obtain ⟨j, hj, rfl⟩ := List.getElem_of_mem hs
  rw [List.length_take] at hj
  rw [List.getElem_take]
  exact h3 j (by omega)
 ·rintro ⟨j, hj, ⟨h1, h2, h3⟩, rfl⟩
  refine ⟨⟨h1, h2⟩, j, hj, (hg j hj).symm, fun i hi => ?_⟩
  rw [firB, List.all_eq_true] at h3
  exact h3 _ (List.mem_take_iff_getElem.2 ⟨i, by omega, rfl⟩)
theorem dm_row {F : List (List Ar)} (hv : valB F = true) (n : Nat) (a : Ar) : a ∈ dmRow F n ↔ a ∈ rdRow F n := by
 unfold dmRow rdRow
 by_cases hs : stS F n = true
 ·rw [if_pos hs, if_pos (show stB (F.getD n []) = true from hs)]
 ·rw [if_neg hs, if_neg (show ¬ stB (F.getD n []) = true from hs)]
  have hcl := sclo_lt (F := F) (n := n)
  generalize sclo F n = cl at *
  have hA : ∀ s ∈ rdSets F cl, Asc s := fun s h => by
   obtain ⟨t, ht, rfl⟩ := List.mem_map.1 h
   exact acS_asc hv (hcl t (List.mem_filter.1 ht).1)
  have hm : minR ((unM F cl).map (·.1)) = minR (rdSets F cl) := (minR_ext hA fun s => (un_keys s).symm).symm
  rw [unS, hm, List.mem_append, mem_rwC, mem_rowOf]
  have hf := fun x => findL_un (F := F) (x := x) cl []
  have hsub : ∀ x ∈ minR (rdSets F cl), x ∈ (unM F cl).map (·.1) := fun x hx => (un_keys x).2 (minR_sub hx)
  generalize minR (rdSets F cl) = S at *
  constructor
  ·rintro (h | h)
   ·exact .inl h
   ·obtain ⟨x, hx, rfl⟩ := List.mem_map.1 h
    obtain ⟨t, ht⟩ := findL_mem (hsub x hx)
    have h1 := hf x
    simp only [show findL x ([] : Lm) = none from rfl] at h1
    have h2 : (cl.find? fun s => stS F s && decide (acS F s = x)) = some t := by rw [← h1]; exact ht
    obtain ⟨j, hj, hp, rfl⟩ := find_Pk.1 h2
    obtain ⟨i, hi, rfl⟩ := List.getElem_of_mem hx
    have hg : S.getD i [] = S[i] := by rw [List.getD_eq_getElem?_getD, List.getElem?_eq_getElem hi]; rfl
    refine .inr ⟨i, hi, j, hj, by rw [hg]; exact hp, ?_⟩
    simp only [unE, ht, Option.getD_some]
  ·rintro (h | ⟨i, hi, j, hj, hp, rfl⟩)
   ·exact .inl h
   ·have hg : S.getD i [] = S[i] := by rw [List.getD_eq_getElem?_getD, List.getElem?_eq_getElem hi]; rfl
    rw [hg] at hp
    refine .inr (List.mem_map.2 ⟨S[i], List.getElem_mem hi, ?_⟩)
    have h1 := hf S[i]
    simp only [show findL S[i] ([] : Lm) = none from rfl] at h1
    have h2 := find_Pk.2 ⟨j, hj, hp, rfl⟩
    rw [← h1] at h2
    have h3 : findL S[i] (unM F cl) = some (cl.getD j 0) := h2
    simp only [unE, h3, Option.getD_some]
theorem dm_canon {F : List (List Ar)} (hv : valB F = true) : canonR (dmR F) = canonR (rdL F F.length) := by
 refine canonR_ext (by rw [rdL_len]; exact dmL_len F F.length) fun i => ?_
 rcases Nat.lt_or_ge i F.length with h | h
 ·have h1 : (dmR F).getD i [] = dmRow F i := by simp [dmR, dmL, List.getD_eq_getElem?_getD, h]
  have h2 : (rdL F F.length).getD i [] = rdRow F i := by simp [rdL, List.getD_eq_getElem?_getD, h]
  rw [h1, h2]
  exact rowOf_ext (dm_row hv i)
 ·have h1 : (dmR F).getD i [] = [] := by simp [dmR, dmL, List.getD_eq_getElem?_getD, h]
  have h2 : (rdL F F.length).getD i [] = [] := by simp [rdL, List.getD_eq_getElem?_getD, h]
  rw [h1, h2]
end Go.Proofs.YthlckclbjknldaaGreat
