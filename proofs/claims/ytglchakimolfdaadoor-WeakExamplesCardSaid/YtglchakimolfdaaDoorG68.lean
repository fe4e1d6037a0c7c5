/- Numbered classes: weak.numbered, ref25.Numbered, count, slices.Max. flow.Walker.Reach as a plain search: marks and queue. -/
import Derived.Test.YtglchakimolfdaaDoorZk
import Derived.Test.YtglchakimolfdaaDoorG45
import Derived.Test.YtglchakimolfdaaDoorG11
import Derived.Test.YtglchakimolfdaaDoorTj1
namespace Go.Proofs.YtglchakimolfdaaDoor
set_option linter.unusedVariables false
set_option linter.unusedSimpArgs false
open Go.RowKit
set_option maxRecDepth 100000
attribute [local go_sem] List.set_cons_zero List.set_cons_succ List.map_cons List.map_nil List.take_succ_cons List.take_zero List.drop_zero List.drop_succ_cons C.pl C.one List.all_cons List.all_nil Bool.and_true Nat.mul_one Int.toNat_natCast

theorem nm_step {C : List Int} {k : Nat} (h : k < C.length) {m : Int} : nmGo (C.drop k) m = ((!decide (C[k] < 0) && !decide (C[k] > m)) && nmGo (C.drop (k + 1)) (mx1 m C[k])) := by
 rw [List.drop_eq_getElem_cons h, nmGo]
theorem mx_step {C : List Int} {k : Nat} (h : k < C.length) : mxI 0 (C.take (k + 1)) = mx1 (mxI 0 (C.take k)) C[k] := by
 rw [List.take_succ_eq_append_getElem h, mxI_snoc]
theorem num_fc (C : List Int) (n : Nat) (hC : C.length ≤ 9223372036854775807) : FC Tryd.prog 57 [aInts C, .i n] [] (fun r o => o = [] ∧ r = .b (numB C n)) := by
 refine fc_intro Tryd.func57 rfl (by rw [Tryd.ntmps57]; simp) ?_
 rw [Tryd.ntmps57]
 simp only [enum, aInts]
 (refine wk1 @tInts_len ?_;(repeat clear hK K);repeat refine kq fun K hK=>?_)
 refine aw_loop (fun k : Nat => { tm := [(0, .a (.c (.t 1 (tInts C)))), (1, .i n), (5, .i (mxI 0 (C.take k))), (8, .a (.c (.t 1 (tInts C)))), (9, .i C.length), (10, .i k)], hp := [], n := 30, pin := 0 }) (fun k => k ≤ C.length ∧ nmGo C 0 = nmGo (C.drop k) (mxI 0 (C.take k)) ∧ 0 ≤ mxI 0 (C.take k) ∧ mxI 0 (C.take k) ≤ k) (fun k => C.length - k) 0 ?_ ?_ ?_
 ·exact ⟨by omega, by simp [mxI], by simp [mxI], by simp [mxI]⟩
 ·have e : mxI 0 (C.take 0) = 0 := by simp [mxI]
  rw [e]
  exact lmz
 ·rintro k ⟨hk, hg, hm0, hmk⟩ K hK
  by_cases hlt : k < C.length
  ·have d1 : decide ((k : Int) < (C.length : Int)) = true := by simpa using hlt
   have gc := tInts_get (List.getElem?_eq_getElem hlt)
   have hs := nm_step hlt (m := mxI 0 (C.take k))
   have hx := mx_step hlt
   generalize C[k] = c at *
   generalize mxI 0 (C.take k) = m at *
   rw [hs] at hg
   by_cases h1 : c < 0
   ·have d2 : decide (c < 0) = true := by simpa using h1
    (refine wk1 @d1 ?_;(repeat clear hK K);repeat refine kq fun K hK=>?_)
    refine cxz ?_
    (refine wk1 (an @tInts_len (an @gc @d2)) ?_;(repeat clear hK K);repeat refine kq fun K hK=>?_)
    refine cxz ?_
    (refine wk0 ?_;(repeat clear hK K);repeat refine kq fun K hK=>?_)
    refine rq0 Tryd.results57 ?_
    simp [numB, hg, h1]
   ·have d2 : decide (c < 0) = false := by simpa using h1
    by_cases h2 : c > m
    ·have d3 : decide (c > m) = true := by simpa using h2
     (refine wk1 @d1 ?_;(repeat clear hK K);repeat refine kq fun K hK=>?_)
     refine cxz ?_
     (refine wk1 (an @tInts_len (an @gc (an @d2 @d3))) ?_;(repeat clear hK K);repeat refine kq fun K hK=>?_)
     refine cxz ?_
     (refine wk0 ?_;(repeat clear hK K);repeat refine kq fun K hK=>?_)
     refine rq0 Tryd.results57 ?_
     simp [numB, hg, h2]
    ·have d3 : decide (c > m) = false := by simpa using h2
     (refine wk1 @d1 ?_;(repeat clear hK K);repeat refine kq fun K hK=>?_)
     refine cxz ?_
     (refine wk1 (an @tInts_len (an @gc (an @d2 @d3))) ?_;(repeat clear hK K);repeat refine kq fun K hK=>?_)
     refine cyz ?_
     (refine wk0 ?_;(repeat clear hK K);repeat refine kq fun K hK=>?_)
     refine rnz ?_
     have h3 : 0 ≤ mx1 m c ∧ mx1 m c ≤ m + 1 := by unfold mx1; split <;> omega
     refine hK _ (k + 1) ⟨by omega, by rw [hg, hx, d2, d3]; simp, by rw [hx]; omega, by rw [hx]; omega⟩ (by omega) ?_
     have e : (if c + 1 > m then c + 1 else m) = mxI 0 (C.take (k + 1)) := by rw [hx]; rfl
     rw [← e]
     exact lmz
  ·have d1 : decide ((k : Int) < (C.length : Int)) = false := by simpa using hlt
   have hd : nmGo C 0 = true := by rw [hg, List.drop_of_length_le (by omega)]; rfl
   (refine wk1 @d1 ?_;(repeat clear hK K);repeat refine kq fun K hK=>?_)
   refine cyz ?_
   (refine ekz ?_;repeat clear hK K)
   (refine wk1 @tInts_len ?_;(repeat clear hK K);repeat refine kq fun K hK=>?_)
   refine rq0 Tryd.results57 ?_
   have e : ((C.length : Int) == (n : Int)) = decide (C.length = n) := by rw [Bool.eq_iff_iff, beq_iff_eq, decide_eq_true_iff]; omega
   rw [numB, hd, Bool.true_and, e]
theorem max_fc (C : List Int) (h1 : 0 < C.length) (hC : C.length ≤ 140737488355328) : FC Tryd.prog 58 [aInts C] [] (fun r o => o = [] ∧ r = .i (maxL C[0] C)) := by
 refine fc_intro Tryd.func58 rfl (by rw [Tryd.ntmps58]; simp) ?_
 rw [Tryd.ntmps58]
 simp only [enum, aInts]
 have d0 : decide ((C.length : Int) < 1) = false := by simp; omega
 have g0 : (tInts C)[0]? = some (.v (.int .i64 C[0])) := tInts_get (List.getElem?_eq_getElem h1)
 (refine wk1 (an @tInts_len @d0) ?_;(repeat clear hK K);repeat refine kq fun K hK=>?_)
 refine cyz ?_
 (refine wk1 (an @tInts_len (an @g0 @Int.toNat_zero)) ?_;(repeat clear hK K);repeat refine kq fun K hK=>?_)
 refine aw_loop (fun k : Nat => { tm := [(0, .a (.c (.t 1 (tInts C)))), (3, .i (maxL C[0] (C.take k))), (4, .i k)], hp := [], n := 25, pin := 0 }) (fun k => 1 ≤ k ∧ k ≤ C.length) (fun k => C.length - k) 1 ?_ ?_ ?_
 ·omega
 ·have e : C.take 1 = [C[0]] := by rw [List.take_succ_eq_append_getElem h1]; rfl
  have e2 : maxL C[0] [C[0]] = C[0] := by simp [maxL]
  (refine le_tm ?_; simp only [LeTm, go_sem, e, e2]; try simp)
 ·rintro k ⟨hk1, hk⟩ K hK
  by_cases hlt : k < C.length
  ·have d1 : decide ((k : Int) < (C.length : Int)) = true := by simpa using hlt
   have g1 := tInts_get (List.getElem?_eq_getElem hlt)
   (refine wk1 (an @tInts_len @d1) ?_;(repeat clear hK K);repeat refine kq fun K hK=>?_)
   refine cxz ?_
   (refine wk1 (an @tInts_len @g1) ?_;(repeat clear hK K);repeat refine kq fun K hK=>?_)
   refine rnz ?_
   refine hK _ (k + 1) ⟨by omega, by omega⟩ (by omega) ?_
   have e := List.take_succ_eq_append_getElem hlt
   (refine le_tm ?_; simp only [LeTm, go_sem, e, maxL_snoc]; try simp)
  ·have d1 : decide ((k : Int) < (C.length : Int)) = false := by simpa using hlt
   have he : C.take k = C := List.take_of_length_le (by omega)
   rw [he]
   (refine wk1 (an @tInts_len @d1) ?_;(repeat clear hK K);repeat refine kq fun K hK=>?_)
   refine cyz ?_
   (refine ekz ?_;repeat clear hK K)
   (refine wk0 ?_;(repeat clear hK K);repeat refine kq fun K hK=>?_)
   exact rqc0 Tryd.results58
structure Fw (E : Nat → List Nat) (n : Nat) (F : List Nat) (rd : Int) (seen : List Int) (out : List Nat) : Prop where
 len : seen.length = n
 st : ∀ u, u < n → (seen.getD u 0 = rd ↔ u ∈ out)
 nd : out.Nodup
 lt : ∀ u ∈ out, u < n
 snd : ∀ u ∈ out, ∃ v ∈ F, Rc E v u
 bd : ∀ x ∈ seen, x ≤ rd
variable {E : Nat → List Nat} {n : Nat} {F : List Nat} {rd : Int} {seen : List Int} {out : List Nat}
theorem Fw.start (h : seen.length = n) (hb : ∀ x ∈ seen, x < rd) : Fw E n F rd seen [] :=
 ⟨h, fun u hu => ⟨fun e => by
  rw [List.getD_eq_getElem?_getD, List.getElem?_eq_getElem (by omega), Option.getD_some] at e
  have := hb _ (List.getElem_mem (show u < seen.length by omega)); omega, fun h => by simp at h⟩, List.nodup_nil, fun u h => by simp at h, fun u h => by simp at h, fun x h => by have := hb x h; omega⟩
theorem nodup_le : ∀ (n : Nat) (l : List Nat), l.Nodup → (∀ u ∈ l, u < n) → l.length ≤ n := by
 intro n
 induction n with
 | zero => intro l _ h; cases l with
  | nil => simp
  | cons a r => have := h a (by simp); omega
 | succ n ih =>
  intro l hn hl
  have h1 : (l.erase n).length ≤ n := ih _ (hn.erase n) fun u hu => by
   have h2 := (List.Nodup.mem_erase_iff hn).1 hu
   have := hl u h2.2
   omega
  have := List.length_erase (a := n) (l := l)
  split at this <;> omega
theorem Fw.le (h : Fw E n F rd seen out) : out.length ≤ n := nodup_le n out h.nd h.lt
theorem Fw.done (h : Fw E n F rd seen out) (hF : ∀ v ∈ F, v ∈ out) (hc : ∀ u ∈ out, ∀ w ∈ E u, w ∈ out) (u : Nat) : u ∈ out ↔ ∃ v ∈ F, Rc E v u := by
 refine ⟨h.snd u, fun ⟨v, hv, hr⟩ => ?_⟩
 induction hr with
 | refl => exact hF v hv
 | tail _ he ih => exact hc _ (ih ⟨v, hv, ‹_›⟩) _ he
end Go.Proofs.YtglchakimolfdaaDoor
