/- Data as trees; slices.Clone, Index, Contains, IndexFunc, ContainsFunc. slices.Index, Contains, IndexFunc, ContainsFunc at []int. ascending, subset, cmp.Compare, slices.Compare, slices.Equal. The tape, by the machine: New, Next; Add. -/
import Derived.Test.YtglchakimolfdaaDoorZk
import Derived.Test.YtglchakimolfdaaDoorTy
import Derived.Test.YtglchakimolfdaaDoorME
import Derived.Test.YtglchakimolfdaaDoorTs1
import Derived.Test.YtglchakimolfdaaDoorMD
namespace Go.Proofs.YtglchakimolfdaaDoor
set_option linter.unusedVariables false
set_option linter.unusedSimpArgs false
open Go.RowKit

def tInts (xs : List Int) : List Tr := xs.map fun x => .v (.int .i64 x)
def aInts (xs : List Int) : AV := .a (.c (.t 1 (tInts xs)))
def tSets (L : List (List Int)) : List Tr := L.map fun r => .l 1 (tInts r)
def aSets (L : List (List Int)) : AV := .a (.c (.t 1 (tSets L)))
def tArcs (xs : List (Int × Int)) : List Tr := xs.flatMap fun a => [.v (.int .i64 a.1), .v (.int .i64 a.2)]
def tRows (R : List (List (Int × Int))) : List Tr := R.map fun r => .l 2 (tArcs r)
def aLts (R : List (List (Int × Int))) : AV := .a (.g [.t 1 (tRows R)])
theorem tInts_len (xs : List Int) : (tInts xs).length = xs.length := by simp [tInts]
theorem tSets_len (xs : List (List Int)) : (tSets xs).length = xs.length := by simp [tSets]
theorem tRows_len (xs : List (List (Int × Int))) : (tRows xs).length = xs.length := by simp [tRows]
theorem tArcs_len (xs : List (Int × Int)) : (tArcs xs).length = xs.length * 2 := by
 induction xs with
 | nil => rfl
 | cons x r ih => simp only [tArcs, List.flatMap_cons, List.length_append, List.length_cons, List.length_nil] at ih ⊢; omega
theorem tInts_get {xs : List Int} {i : Nat} {x : Int} (h : xs[i]? = some x) : (tInts xs)[i]? = some (.v (.int .i64 x)) := by simp [tInts, h]
theorem tSets_get {xs : List (List Int)} {i : Nat} {x : List Int} (h : xs[i]? = some x) : (tSets xs)[i]? = some (.l 1 (tInts x)) := by simp [tSets, h]
theorem tRows_get {xs : List (List (Int × Int))} {i : Nat} {x : List (Int × Int)} (h : xs[i]? = some x) : (tRows xs)[i]? = some (.l 2 (tArcs x)) := by simp [tRows, h]
theorem tInts_of (xs : List Int) : (tInts xs).map C.ofTr = xs.map fun x => .v (.int .i64 x) := by simp [tInts, C.ofTr, Function.comp_def]
theorem ofTr_ren (ρ : List Nat) (ts : List Tr) : (ts.map C.ofTr).map (C.ren ρ) = ts.map C.ofTr := by
 simp only [List.map_map]
 exact List.map_congr_left fun t _ => by cases t <;> rfl
theorem ofTr_up (f : Nat → Nat) (ts : List Tr) : (ts.map C.ofTr).map (C.up f) = ts.map C.ofTr := by
 simp only [List.map_map]
 exact List.map_congr_left fun t _ => by cases t <;> rfl
attribute [go_sem] ofTr_ren ofTr_up
set_option maxRecDepth 100000 in
theorem clone_arcs (ts : List Tr) (hn : ts.length ≤ 100000000) : FC Tryd.prog 27 [.a (.c (.t 2 ts))] [] (fun r o => r = .a (.c (.s 0 (ts.length / 2))) ∧ o = [.r ⟨23, 2, true, ts.map C.ofTr⟩]) := by
 refine fc_intro Tryd.func27 rfl (by rw [Tryd.ntmps27]; simp) ?_
 rw [Tryd.ntmps27]
 simp only [enum]
 (refine wk0 ?_;(repeat clear hK K);repeat refine kq fun K hK=>?_)
 refine lst_cons rfl ?_; intro K1 hK1
 refine stp_nil rfl rfl Tryd.underlying24 (.inl rfl) (.inl ⟨2, ts, by simp only [go_sem], ?_⟩)
 intro b hb
 simp only [go_sem]
 refine hK1 _ ?_; clear hK1 K1
 (refine wk0 ?_;(repeat clear hK K);repeat refine kq fun K hK=>?_)
 (refine aw_cnd ?_; intro X Y hX hY; simp only [go_sem])
 refine ⟨fun h => hX ?_, fun h => hY ?_⟩
 ·have hts := hb h
  subst hts
  (refine wk0 ?_;(repeat clear hK K);repeat refine kq fun K hK=>?_)
  refine aw_ret ?_
  simp only [ThenA]
  refine ret_le (le_nil 2 23 2 ?_) ?_
  ·simp only [go_sem]
  exact rqc0 Tryd.results27
 ·clear hX hY X Y
  (refine wk0 ?_;(repeat clear hK K);repeat refine kq fun K hK=>?_)
  refine aw_ret ?_
  refine ret_le (le_pick [1] rfl rfl) ?_
  (try simp only [List.set_nil, List.take_nil, List.take_zero, List.map_append, go_sem])
  exact rqc0 Tryd.results27
end Go.Proofs.YtglchakimolfdaaDoor
namespace Go.Proofs.YtglchakimolfdaaDoor
set_option linter.unusedVariables false
set_option linter.unusedSimpArgs false
open Go.RowKit
set_option maxRecDepth 100000


end Go.Proofs.YtglchakimolfdaaDoor
namespace Go.Proofs.YtglchakimolfdaaDoor
set_option linter.unusedVariables false
set_option linter.unusedSimpArgs false
open Go.RowKit
set_option maxRecDepth 100000

end Go.Proofs.YtglchakimolfdaaDoor
namespace Go.Proofs.YtglchakimolfdaaDoor
set_option linter.unusedVariables false
set_option linter.unusedSimpArgs false
open Go.RowKit
set_option maxRecDepth 100000

structure TpOk (T : List Int) : Prop where
 len : T.length ≤ 9223372036854775807
 in_ : ∀ x ∈ T, in64 x
/-! rows of numbers -/
def cInts (xs : List Int) : List C := xs.map fun x => C.v (.int .i64 x)
def rInts (xs : List Int) : Ob := .r ⟨3, 1, true, cInts xs⟩
theorem cInts_len (xs : List Int) : (cInts xs).length = xs.length := by simp [cInts]
theorem cInts_get {xs : List Int} {i : Nat} {x : Int} (h : xs[i]? = some x) : (cInts xs)[i]? = some (.v (.int .i64 x)) := by simp [cInts, h]
theorem cInts_take (xs : List Int) (n : Nat) : (cInts xs).take n = cInts (xs.take n) := by simp [cInts, List.map_take]
theorem cInts_drop (xs : List Int) (n : Nat) : (cInts xs).drop n = cInts (xs.drop n) := by simp [cInts, List.map_drop]
theorem cInts_app (xs ys : List Int) : cInts xs ++ cInts ys = cInts (xs ++ ys) := by simp [cInts]
theorem cInts_one (xs : List Int) : (cInts xs).all C.one = true := by simp [cInts, C.one]
theorem cInts_snoc (xs : List Int) (x : Int) : cInts xs ++ [.v (.int .i64 x)] = cInts (xs ++ [x]) := by simp [cInts]
theorem cInts_ren (f : List Nat) (L : List Int) : (cInts L).map (C.ren f) = cInts L := by simp [cInts, C.ren, Function.comp_def]
theorem cInts_up (f : Nat → Nat) (L : List Int) : (cInts L).map (C.up f) = cInts L := by simp [cInts, C.up, Function.comp_def]
theorem tInts_take (xs : List Int) (n : Nat) : (tInts xs).take n = tInts (xs.take n) := by simp [tInts, List.map_take]
theorem tInts_drop (xs : List Int) (n : Nat) : (tInts xs).drop n = tInts (xs.drop n) := by simp [tInts, List.map_drop]
theorem tInts_c (xs : List Int) : (tInts xs).map C.ofTr = cInts xs := tInts_of xs
theorem fz_c (L : List Int) : Fz (cInts L) (tInts L) := by unfold cInts tInts; exact Fz.map fun x _ => .inl rfl
end Go.Proofs.YtglchakimolfdaaDoor
