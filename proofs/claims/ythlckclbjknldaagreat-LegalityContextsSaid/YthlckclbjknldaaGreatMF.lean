/- Data as trees; slices.Clone, Index, Contains, IndexFunc, ContainsFunc. slices.Index, Contains, IndexFunc, ContainsFunc at []int. ascending, subset, cmp.Compare, slices.Compare, slices.Equal. -/
import Derived.Test.YthlckclbjknldaaGreatTy
import Derived.Test.YthlckclbjknldaaGreatME
import Derived.Test.YthlckclbjknldaaGreatTs1
namespace Go.Proofs.YthlckclbjknldaaGreat
set_option linter.unusedVariables false
set_option linter.unusedSimpArgs false
open Go.RowKit

def tInts (xs : List Int) : List Tr := xs.map fun x => .v (.int .i64 x)
def aInts (xs : List Int) : AV := .a (.c (.t 1 (tInts xs)))
def tSets (L : List (List Int)) : List Tr := L.map fun r => .l 1 (tInts r)
def aSets (L : List (List Int)) : AV := .a (.c (.t 1 (tSets L)))
def tArcs (xs : List (Int × Int)) : List Tr := xs.flatMap fun a => [.v (.int .i64 a.1), .v (.int .i64 a.2)]
def aArcs (xs : List (Int × Int)) : AV := .a (.c (.t 2 (tArcs xs)))
def tRows (R : List (List (Int × Int))) : List Tr := R.map fun r => .l 2 (tArcs r)
def aLts (R : List (List (Int × Int))) : AV := .a (.g [.t 1 (tRows R)])
theorem tInts_len (xs : List Int) : (tInts xs).length = xs.length := by simp [tInts]
theorem tRows_len (xs : List (List (Int × Int))) : (tRows xs).length = xs.length := by simp [tRows]
theorem tArcs_len (xs : List (Int × Int)) : (tArcs xs).length = xs.length * 2 := by
  induction xs with
  | nil => rfl
  | cons x r ih => simp only [tArcs, List.flatMap_cons, List.length_append, List.length_cons, List.length_nil] at ih ⊢; omega
theorem tInts_get {xs : List Int} {i : Nat} {x : Int} (h : xs[i]? = some x) : (tInts xs)[i]? = some (.v (.int .i64 x)) := by simp [tInts, h]
theorem tRows_get {xs : List (List (Int × Int))} {i : Nat} {x : List (Int × Int)} (h : xs[i]? = some x) : (tRows xs)[i]? = some (.l 2 (tArcs x)) := by simp [tRows, h]
theorem tInts_of (xs : List Int) : (tInts xs).map C.ofTr = xs.map fun x => .v (.int .i64 x) := by simp [tInts, C.ofTr, Function.comp_def]
theorem ofTr_ren (ρ : List Nat) (ts : List Tr) : (ts.map C.ofTr).map (C.ren ρ) = ts.map C.ofTr := by
  simp only [List.map_map]
  exact List.map_congr_left fun t _ => by cases t <;> rfl
theorem ofTr_up (f : Nat → Nat) (ts : List Tr) : (ts.map C.ofTr).map (C.up f) = ts.map C.ofTr := by
  simp only [List.map_map]
  exact List.map_congr_left fun t _ => by cases t <;> rfl
attribute [go_sem] ofTr_ren ofTr_up
end Go.Proofs.YthlckclbjknldaaGreat
namespace Go.Proofs.YthlckclbjknldaaGreat
set_option linter.unusedVariables false
set_option linter.unusedSimpArgs false
open Go.RowKit
set_option maxRecDepth 100000


end Go.Proofs.YthlckclbjknldaaGreat
namespace Go.Proofs.YthlckclbjknldaaGreat
set_option linter.unusedVariables false
set_option linter.unusedSimpArgs false
open Go.RowKit
set_option maxRecDepth 100000

theorem ascB_get {xs : List Int} (h : ∀ i a b, xs[i]? = some a → xs[i + 1]? = some b → a < b) : ascB xs = true := by
  induction xs with
  | nil => rfl
  | cons a r ih =>
    cases r with
    | nil => rfl
    | cons b r =>
      have h1 := h 0 a b rfl rfl
      have h2 := ih fun i x y hx hy => h (i + 1) x y (by simpa using hx) (by simpa using hy)
      simp [ascB, h1, h2]
theorem ascB_not {xs : List Int} {i : Nat} {a b : Int} (ha : xs[i]? = some a) (hb : xs[i + 1]? = some b) (h : b ≤ a) : ascB xs = false := by
  cases hx : ascB xs with
  | false => rfl
  | true =>
    have hp := (ascB_iff xs).1 hx
    have h1 := List.getElem?_eq_some_iff.1 ha
    have h2 := List.getElem?_eq_some_iff.1 hb
    have := List.pairwise_iff_getElem.1 hp i (i + 1) h1.1 h2.1 (by omega)
    rw [h1.2, h2.2] at this
    omega
theorem rising_fc (xs : List Int) (hn : xs.length ≤ 140737488355328) : FC Tryz.prog 119 [aInts xs] [] (fun r o => o = [] ∧ r = .b (ascB xs)) := by
  refine fc_intro Tryz.func119 rfl (by rw [Tryz.ntmps119]; simp) ?_
  rw [Tryz.ntmps119]
  simp only [enum, aInts]
  (repeat (first | (refine aw_seq ?_; intro K hK) | refine aw_block ?_ | refine aw_region ?_ | (refine lst_x rfl rfl ?_; intro K1 hK1; simp only [go_sem]; (first | refine hK1 _ ?_ | refine andk (hK1 _ ?_)); clear hK1 K1) | ((first | refine lst_nil ?_ | refine aw_skip ?_); refine hK _ ?_; clear hK K)))
  refine aw_loop (fun k : Nat => { tm := [(0, .a (.c (.t 1 (tInts xs)))), (3, .i (k + 1 : Nat))], hp := [], n := 20, pin := 0 }) (fun k => k ≤ xs.length ∧ ∀ i a b, i < k → xs[i]? = some a → xs[i + 1]? = some b → a < b) (fun k => xs.length - k) 0 ?_ ?_ ?_
  · exact ⟨by omega, by intro i a b hi; omega⟩
  · refine le_tm ?_
    simp only [LeTm, go_sem]
    simp
  · rintro k ⟨hk, hno⟩ K hK
    (repeat (first | (refine aw_seq ?_; intro K hK) | refine aw_block ?_ | refine aw_region ?_ | (refine lst_x rfl rfl ?_; intro K1 hK1; simp only [go_sem, tInts_len]; (first | refine hK1 _ ?_ | refine andk (hK1 _ ?_)); clear hK1 K1) | ((first | refine lst_nil ?_ | refine aw_skip ?_); refine hK _ ?_; clear hK K)))
    (refine aw_cnd ?_; intro X Y hX hY; simp only [go_sem])
    refine ⟨fun h => hX ?_, fun h => hY ?_⟩
    · have hlt : k + 1 < xs.length := by simp at h; omega
      clear hX hY X Y h
      have e1 : ((k + 1 : Nat) : Int) - 1 = (k : Int) := by omega
      (repeat (first | (refine aw_seq ?_; intro K hK) | refine aw_block ?_ | refine aw_region ?_ | (refine lst_x rfl rfl ?_; intro K1 hK1; simp only [go_sem]; (first | refine hK1 _ ?_ | refine andk (hK1 _ ?_)); clear hK1 K1) | ((first | refine lst_nil ?_ | refine aw_skip ?_); refine hK _ ?_; clear hK K)))
      (refine aw_regionU 9 [(0, 0), (1, 0), (2, 0), (3, 0), (4, 1), (5, 0), (6, 0), (7, 0), (8, 1), (9, 2)] (by kernel_rfl) (by kernel_rfl) (by intro c st h; simp [ThenA, InBl, Ret] at h) ?_)
      (repeat (first | ((first | refine u_0x rfl rfl rfl ?_ | refine u_1x rfl rfl rfl ?_); intro K1 hK1; simp only [go_sem, e1, tInts_len, tInts_get (List.getElem?_eq_getElem hlt), tInts_get (List.getElem?_eq_getElem (Nat.lt_of_succ_lt hlt))]; (first | refine hK1 _ ?_ | refine andk (hK1 _ ?_)); clear hK1 K1) | (refine u_2x rfl rfl rfl rfl ?_; intro K1 hK1; simp only [go_sem, e1, tInts_len, tInts_get (List.getElem?_eq_getElem hlt), tInts_get (List.getElem?_eq_getElem (Nat.lt_of_succ_lt hlt))]; (first | refine hK1 _ ?_ | refine andk (hK1 _ ?_)); clear hK1 K1) | (refine u_nil ?_; refine hK _ ?_; clear hK K)))
      (refine aw_cnd ?_; intro X Y hX hY; simp only [go_sem])
      refine ⟨fun h => hX ?_, fun h => hY ?_⟩
      · clear hX hY X Y
        (repeat (first | (refine aw_seq ?_; intro K hK) | refine aw_block ?_ | refine aw_region ?_ | (refine lst_x rfl rfl ?_; intro K1 hK1; simp only [go_sem]; (first | refine hK1 _ ?_ | refine andk (hK1 _ ?_)); clear hK1 K1) | ((first | refine lst_nil ?_ | refine aw_skip ?_); refine hK _ ?_; clear hK K)))
        ((try refine aw_ret ?_); (try refine lst_nil ?_); (try simp only [ThenA, InBl]); refine ret_mk (by first | exact .inl rfl | exact .inr rfl) rfl ?_; simp only [rtn, resA, resL, resV, Tryz.results119, go_sem])
        have := ascB_not (List.getElem?_eq_getElem (Nat.lt_of_succ_lt hlt)) (List.getElem?_eq_getElem hlt) (by simpa using h)
        simp [this]
      · clear hX hY X Y
        (repeat (first | (refine aw_seq ?_; intro K hK) | refine aw_block ?_ | refine aw_region ?_ | (refine lst_x rfl rfl ?_; intro K1 hK1; simp only [go_sem]; (first | refine hK1 _ ?_ | refine andk (hK1 _ ?_)); clear hK1 K1) | ((first | refine lst_nil ?_ | refine aw_skip ?_); refine hK _ ?_; clear hK K)))
        ((try refine lst_nil ?_); (try refine aw_skip ?_); try simp only [ThenA])
        refine hK _ (k + 1) ⟨by omega, fun i a b hi ha hb => ?_⟩ (by omega) ?_
        · by_cases e : i = k
          · subst e
            rw [List.getElem?_eq_getElem (Nat.lt_of_succ_lt hlt)] at ha
            rw [List.getElem?_eq_getElem hlt] at hb
            cases ha; cases hb
            simpa using h
          · exact hno i a b (by omega) ha hb
        · refine le_tm ?_
          simp only [LeTm, go_sem]
          simp
    · have hge : xs.length ≤ k + 1 := by simp at h; omega
      clear hX hY X Y
      (refine aw_exit ?_; simp only [ThenA, InBl, reduceIte, Nat.reduceEqDiff]; (first | refine hK _ ?_ | (clear hK K; refine hK _ ?_) | (clear hK K; clear hK K; refine hK _ ?_) | (clear hK K; clear hK K; clear hK K; refine hK _ ?_) | (clear hK K; clear hK K; clear hK K; clear hK K; refine hK _ ?_) | (clear hK K; clear hK K; clear hK K; clear hK K; clear hK K; refine hK _ ?_)); clear hK K)
      (repeat (first | (refine aw_seq ?_; intro K hK) | refine aw_block ?_ | refine aw_region ?_ | (refine lst_x rfl rfl ?_; intro K1 hK1; simp only [go_sem]; (first | refine hK1 _ ?_ | refine andk (hK1 _ ?_)); clear hK1 K1) | ((first | refine lst_nil ?_ | refine aw_skip ?_); refine hK _ ?_; clear hK K)))
      ((try refine aw_ret ?_); (try refine lst_nil ?_); (try simp only [ThenA, InBl]); refine ret_mk (by first | exact .inl rfl | exact .inr rfl) rfl ?_; simp only [rtn, resA, resL, resV, Tryz.results119, go_sem])
      have := ascB_get (xs := xs) fun i a b ha hb => hno i a b (by have := (List.getElem?_eq_some_iff.1 hb).1; omega) ha hb
      simp [this]
end Go.Proofs.YthlckclbjknldaaGreat
