/- Data as trees; slices.Clone, Index, Contains, IndexFunc, ContainsFunc. slices.Index, Contains, IndexFunc, ContainsFunc at []int. ascending, subset, cmp.Compare, slices.Compare, slices.Equal. The tape, by the machine: New, Next; Add. Plain words of arcs: their order, rows, systems. -/
import Derived.Test.YtglchakimolfdaaGreatDoorZk
import Derived.Test.YtglchakimolfdaaGreatDoorTy
import Derived.Test.YtglchakimolfdaaGreatDoorME
import Derived.Test.YtglchakimolfdaaGreatDoorTs1
import Derived.Test.YtglchakimolfdaaGreatDoorMD
namespace Go.Proofs.YtglchakimolfdaaGreatDoor
set_option linter.unusedVariables false
set_option linter.unusedSimpArgs false
open Go.RowKit

def tInts (xs : List Int) : List Tr := xs.map fun x => .v (.int .i64 x)
def aInts (xs : List Int) : AV := .a (.c (.t 1 (tInts xs)))
def tSets (L : List (List Int)) : List Tr := L.map fun r => .l 1 (tInts r)
def aSets (L : List (List Int)) : AV := .a (.c (.t 1 (tSets L)))
def tArcs (xs : List (Int × Int)) : List Tr := xs.flatMap fun a => [.v (.int .i64 a.1), .v (.int .i64 a.2)]
def aArcs (xs : List (Int × Int)) : AV := .a (.c (.t 2 (tArcs xs)))
def tRows (R : List (List (Int × Int))) : List Tr := R.map fun r => .l 2 (tArcs r)
def aLts (R : List (List (Int × Int))) : AV := .a (.g [.t 1 (tRows R)])
theorem tInts_len (xs : List Int) : (tInts xs).length = xs.length := by simp [tInts]
theorem tSets_len (xs : List (List Int)) : (tSets xs).length = xs.length := by simp [tSets]
theorem tRows_len (xs : List (List (Int × Int))) : (tRows xs).length = xs.length := by simp [tRows]
theorem tArcs_len (xs : List (Int × Int)) : (tArcs xs).length = xs.length * 2 := by
 induction xs with
 | nil => rfl
 | cons x r ih => simp only [tArcs, List.flatMap_cons, List.length_append, List.length_cons, List.length_nil] at ih ⊢; omega
theorem tInts_get {xs : List Int} {i : Nat} {x : Int} (h : xs[i]? = some x) : (tInts xs)[i]? = some (.v (.int .i64 x)) := by simp [tInts, h]
theorem tSets_get {xs : List (List Int)} {i : Nat} {x : List Int} (h : xs[i]? = some x) : (tSets xs)[i]? = some (.l 1 (tInts x)) := by simp [tSets, h]
theorem tRows_get {xs : List (List (Int × Int))} {i : Nat} {x : List (Int × Int)} (h : xs[i]? = some x) : (tRows xs)[i]? = some (.l 2 (tArcs x)) := by simp [tRows, h]
theorem tInts_of (xs : List Int) : (tInts xs).map C.ofTr = xs.map fun x => .v (.int .i64 x) := by simp [tInts, C.ofTr, Function.comp_def]
theorem ofTr_ren (ρ : List Nat) (ts : List Tr) : (ts.map C.ofTr).map (C.ren ρ) = ts.map C.ofTr := by
 simp only [List.map_map]
 exact List.map_congr_left fun t _ => by cases t <;> rfl
theorem ofTr_up (f : Nat → Nat) (ts : List Tr) : (ts.map C.ofTr).map (C.up f) = ts.map C.ofTr := by
 simp only [List.map_map]
 exact List.map_congr_left fun t _ => by cases t <;> rfl
attribute [go_sem] ofTr_ren ofTr_up
set_option maxRecDepth 100000 in
theorem clone_arcs (ts : List Tr) (hn : ts.length ≤ 100000000) : FC Tryz.prog 49 [.a (.c (.t 2 ts))] [] (fun r o => r = .a (.c (.s 0 (ts.length / 2))) ∧ o = [.r ⟨44, 2, true, ts.map C.ofTr⟩]) := by
 refine fc_intro Tryz.func49 rfl (by rw [Tryz.ntmps49]; simp) ?_
 rw [Tryz.ntmps49]
 simp only [enum]
 (refine wk0 ?_;(repeat clear hK K);repeat refine kq fun K hK=>?_)
 refine lst_cons rfl ?_; intro K1 hK1
 refine stp_nil rfl rfl Tryz.underlying45 (.inl rfl) (.inl ⟨2, ts, by simp only [go_sem], ?_⟩)
 intro b hb
 simp only [go_sem]
 refine hK1 _ ?_; clear hK1 K1
 (refine wk0 ?_;(repeat clear hK K);repeat refine kq fun K hK=>?_)
 (refine aw_cnd ?_; intro X Y hX hY; simp only [go_sem])
 refine ⟨fun h => hX ?_, fun h => hY ?_⟩
 ·have hts := hb h
  subst hts
  (refine wk0 ?_;(repeat clear hK K);repeat refine kq fun K hK=>?_)
  refine aw_ret ?_
  simp only [ThenA]
  refine ret_le (le_nil 2 44 2 ?_) ?_
  ·simp only [go_sem]
  exact rqc0 Tryz.results49
 ·clear hX hY X Y
  (refine wk0 ?_;(repeat clear hK K);repeat refine kq fun K hK=>?_)
  refine aw_ret ?_
  refine ret_le (le_pick [1] rfl rfl) ?_
  (try simp only [List.set_nil, List.take_nil, List.take_zero, List.map_append, go_sem])
  exact rqc0 Tryz.results49
end Go.Proofs.YtglchakimolfdaaGreatDoor
namespace Go.Proofs.YtglchakimolfdaaGreatDoor
set_option linter.unusedVariables false
set_option linter.unusedSimpArgs false
open Go.RowKit
set_option maxRecDepth 100000


theorem indexFunc_ints (xs : List Int) (p : Int → Bool) (fn e k : Nat) (us : List Tr) (hn : xs.length ≤ 140737488355328) (hcal : callable Tryz.prog fn = true)
  (hf : ∀ x ∈ xs, FC Tryz.prog fn [.i x, .a (.c (.p 0 0))] [.r ⟨e, k, false, us.map C.ofTr⟩] (fun r o => o = [.r ⟨e, k, false, us.map C.ofTr⟩] ∧ r = .b (p x))) :
  FC Tryz.prog 138 [aInts xs, .a (.c (.f fn [0]))] [.r ⟨e, k, false, us.map C.ofTr⟩] (fun r o => o = [.r ⟨e, k, false, us.map C.ofTr⟩] ∧ ∃ n : Int, r = .i n ∧ -1 ≤ n ∧ (0 ≤ n ↔ xs.any p = true)) := by
 refine fc_intro Tryz.func138 rfl (by rw [Tryz.ntmps138]; simp) ?_
 rw [Tryz.ntmps138]
 simp only [enum, aInts]
 (refine wk0 ?_;(repeat clear hK K);repeat refine kq fun K hK=>?_)
 refine aw_loop (fun i : Nat => { tm := [(0, .a (.c (.t 1 (tInts xs)))), (1, .a (.c (.f fn [0]))), (7, .i xs.length), (8, .i i)], hp := [.r ⟨e, k, false, us.map C.ofTr⟩], n := 19, pin := 1 }) (fun i => i ≤ xs.length ∧ ∀ j x, j < i → xs[j]? = some x → p x = false) (fun i => xs.length - i) 0 ?_ ?_ ?_
 ·exact ⟨by omega, by intro i x hi; omega⟩
 ·refine le_tm ?_
  simp only [LeTm, tInts_len, go_sem]
  simp
 ·rintro i ⟨hk, hno⟩ K hK
  (refine wk0 ?_;(repeat clear hK K);repeat refine kq fun K hK=>?_)
  (refine aw_cnd ?_; intro X Y hX hY; simp only [go_sem])
  refine ⟨fun h => hX ?_, fun h => hY ?_⟩
  ·have hlt : i < xs.length := by simpa using h
   clear hX hY X Y h
   (refine wk1 (an @tInts_len (tInts_get (List.getElem?_eq_getElem hlt))) ?_;(repeat clear hK K);repeat refine kq fun K hK=>?_)
   (refine lst_cons rfl ?_; intro K1 hK1; refine stp_callσ (ids := [0]) [0] (hf xs[i] (List.getElem_mem hlt)) rfl rfl (by simp only [go_sem]) (by first | assumption | kernel_rfl) rfl rfl (by (simp only [List.map_append, List.append_nil, go_sem]) <;> rfl) (by (simp only [pkh, go_sem]) <;> rfl) ?_ ?_)
   ·rintro _ _ ⟨rfl, rfl⟩; rfl
   rintro _ _ ⟨rfl, rfl⟩
   (refine bkz ?_; clear hK1 K1)
   (refine wk0 ?_;(repeat clear hK K);repeat refine kq fun K hK=>?_)
   (refine aw_cnd ?_; intro X Y hX hY; simp only [go_sem])
   refine ⟨fun h => hX ?_, fun h => hY ?_⟩
   ·clear hX hY X Y
    (refine wk0 ?_;(repeat clear hK K);repeat refine kq fun K hK=>?_)
    refine rq0 Tryz.results138 ?_
    exact ⟨i, rfl, by omega, by simp; exact ⟨_, List.getElem_mem hlt, h⟩⟩
   ·clear hX hY X Y
    (refine wk0 ?_;(repeat clear hK K);repeat refine kq fun K hK=>?_)
    refine rnz ?_
    refine hK _ (i + 1) ⟨by omega, fun j x hj hx => ?_⟩ (by omega) ?_
    ·by_cases e : j = i
     ·subst e; rw [List.getElem?_eq_getElem hlt] at hx; cases hx; exact h
     ·exact hno j x (by omega) hx
    ·refine le_tm ?_
     simp only [LeTm, go_sem]
     simp
  ·have hge : i = xs.length := by simp at h; omega
   clear hX hY X Y
   (refine ekz ?_;repeat clear hK K)
   (refine wk0 ?_;(repeat clear hK K);repeat refine kq fun K hK=>?_)
   refine rq0 Tryz.results138 ?_
   refine ⟨-1, rfl, by omega, ?_⟩
   simp
   intro x hm
   obtain ⟨j, hj⟩ := List.mem_iff_getElem?.1 hm
   exact hno j x (by rw [hge]; exact (List.getElem?_eq_some_iff.1 hj).1) hj

theorem containsFunc_ints (xs : List Int) (p : Int → Bool) (fn e k : Nat) (us : List Tr) (hn : xs.length ≤ 140737488355328) (hcal : callable Tryz.prog fn = true)
  (hf : ∀ x ∈ xs, FC Tryz.prog fn [.i x, .a (.c (.p 0 0))] [.r ⟨e, k, false, us.map C.ofTr⟩] (fun r o => o = [.r ⟨e, k, false, us.map C.ofTr⟩] ∧ r = .b (p x))) :
  FC Tryz.prog 111 [aInts xs, .a (.c (.f fn [0]))] [.r ⟨e, k, false, us.map C.ofTr⟩] (fun r o => o = [.r ⟨e, k, false, us.map C.ofTr⟩] ∧ r = .b (xs.any p)) := by
 refine fc_intro Tryz.func111 rfl (by rw [Tryz.ntmps111]; simp) ?_
 rw [Tryz.ntmps111]
 simp only [enum, aInts]
 (refine wk0 ?_;(repeat clear hK K);repeat refine kq fun K hK=>?_)
 (refine lst_cons rfl ?_; intro K1 hK1; refine cs [0] (indexFunc_ints xs p fn e k us hn hcal hf) ?_ ?_)
 ·rintro _ _ ⟨rfl, n, rfl, hn1, hn2⟩; rfl
 rintro _ _ ⟨rfl, n, rfl, hn1, hn2⟩
 (refine bkz ?_; clear hK1 K1)
 (refine wk0 ?_;(repeat clear hK K);repeat refine kq fun K hK=>?_)
 have e : decide (n ≥ 0) = xs.any p := by rw [Bool.eq_iff_iff, decide_eq_true_iff]; exact hn2
 refine rq0 Tryz.results111 ?_
 simp only [e]
end Go.Proofs.YtglchakimolfdaaGreatDoor
namespace Go.Proofs.YtglchakimolfdaaGreatDoor
set_option linter.unusedVariables false
set_option linter.unusedSimpArgs false
open Go.RowKit
set_option maxRecDepth 100000

end Go.Proofs.YtglchakimolfdaaGreatDoor
namespace Go.Proofs.YtglchakimolfdaaGreatDoor
set_option linter.unusedVariables false
set_option linter.unusedSimpArgs false
open Go.RowKit
set_option maxRecDepth 100000

theorem tmod_b (v n : Int) (hn : 1 ≤ n) : -n < v.tmod n ∧ v.tmod n < n := by
 by_cases h : 0 ≤ v
 ·rw [Int.tmod_eq_emod_of_nonneg h]
  have h1 := Int.emod_nonneg v (show n ≠ 0 by omega)
  exact ⟨by omega, Int.emod_lt_of_pos _ (by omega)⟩
 ·have h1 : v.tmod n = -((-v).tmod n) := by rw [Int.neg_tmod]; omega
  have h2 := Int.emod_nonneg (-v) (show n ≠ 0 by omega)
  have h3 := Int.emod_lt_of_pos (-v) (show 0 < n by omega)
  rw [h1, Int.tmod_eq_emod_of_nonneg (show 0 ≤ -v by omega)]
  omega

def tape (T : List Int) (a : Nat) : Ob := .r ⟨48, 2, false, [.t 1 (tInts T), .v (.int .i64 a)]⟩
structure TpOk (T : List Int) : Prop where
 len : T.length ≤ 9223372036854775807
 in_ : ∀ x ∈ T, in64 x
theorem new_fc (T : List Int) : FC Tryz.prog 7 [aInts T] [] (fun r o => r = .a (.c (.p 0 0)) ∧ o = [tape T 0]) := by
 refine fc_intro Tryz.func7 rfl (by rw [Tryz.ntmps7]; simp) ?_
 rw [Tryz.ntmps7]
 simp only [enum, aInts]
 (refine wk1 (an @List.set_cons_zero.{0} @List.set_cons_succ.{0}) ?_;(repeat clear hK K);repeat refine kq fun K hK=>?_)
 refine rq0 Tryz.results7 ?_
 rfl

theorem next_fc (T : List Int) (a : Nat) (n : Int) (hT : TpOk T) (ha : a ≤ 1000000000) (hn : n ≤ 1000000000) :
  FC Tryz.prog 22 [.a (.c (.p 0 0)), .i n] [tape T a] (fun r o => o = [tape T (a + 1)] ∧ ∃ v : Nat, r = .i v ∧ ((v : Int) < n ∨ v = 0)) := by
 refine fc_intro Tryz.func22 rfl (by rw [Tryz.ntmps22]; simp) ?_
 rw [Tryz.ntmps22]
 simp only [enum, tape]
 have hl := hT.len
 (refine wk0 ?_;(repeat clear hK K);repeat refine kq fun K hK=>?_)
 (refine aw_regionU 9 [(0, 0), (1, 0), (2, 0), (3, 1), (4, 0), (5, 0), (6, 0), (7, 1), (8, 0), (9, 2)] (by kernel_rfl) (by kernel_rfl) (by intro c st h; simp [ThenA, InBl, Ret] at h) ?_)
 (refine uk1 @tInts_len ?_; repeat clear hK K)
 (refine aw_cnd ?_; intro X Y hX hY; simp only [go_sem])
 refine ⟨fun h => hX ?_, fun h => hY ?_⟩
 ·have hlt : a < T.length := by simpa using h
  have hv := hT.in_ _ (List.getElem_mem hlt)
  simp only [in64] at hv
  clear hX hY X Y h
  (refine aw_regionU 10 [(0, 0), (1, 0), (2, 0), (3, 1), (4, 0), (5, 0), (6, 0), (7, 1), (8, 0), (9, 1), (10, 2)] (by kernel_rfl) (by kernel_rfl) (by intro c st h; simp [ThenA, InBl, Ret] at h) ?_)
  (refine uk1 (an @tInts_len (tInts_get (List.getElem?_eq_getElem hlt))) ?_; repeat clear hK K)
  (refine wk1 (an @List.set_cons_zero.{0} @List.set_cons_succ.{0}) ?_;(repeat clear hK K);repeat refine kq fun K hK=>?_)
  (refine aw_cnd ?_; intro X Y hX hY; simp only [go_sem])
  refine ⟨fun h => hX ?_, fun h => hY ?_⟩
  ·clear hX hY X Y
   (refine wk0 ?_;(repeat clear hK K);repeat refine kq fun K hK=>?_)
   refine rq0 Tryz.results22 ?_
   exact ⟨rfl, 0, rfl, .inr rfl⟩
  ·have hn1 : 1 ≤ n := by simp at h; omega
   have hb := tmod_b (T[a]) n hn1
   clear hX hY X Y
   (refine wk0 ?_;(repeat clear hK K);repeat refine kq fun K hK=>?_)
   (refine aw_cnd ?_; intro X Y hX hY; simp only [go_sem])
   refine ⟨fun h => hX ?_, fun h => hY ?_⟩
   ·clear hX hY X Y
    have h1 : Int.tmod (T[a]) n < 0 := by simpa using h
    (refine wk0 ?_;(repeat clear hK K);repeat refine kq fun K hK=>?_)
    refine rq0 Tryz.results22 ?_
    exact ⟨rfl, (Int.tmod (T[a]) n + n).toNat, by rw [Int.toNat_of_nonneg (by omega)], .inl (by omega)⟩
   ·clear hX hY X Y
    have h1 : 0 ≤ Int.tmod (T[a]) n := by simpa using h
    (refine wk0 ?_;(repeat clear hK K);repeat refine kq fun K hK=>?_)
    refine rq0 Tryz.results22 ?_
    exact ⟨rfl, (Int.tmod (T[a]) n).toNat, by rw [Int.toNat_of_nonneg (by omega)], .inl (by omega)⟩
 ·clear hX hY X Y h
  (refine wk1 (an @List.set_cons_zero.{0} @List.set_cons_succ.{0}) ?_;(repeat clear hK K);repeat refine kq fun K hK=>?_)
  (refine aw_cnd ?_; intro X Y hX hY; simp only [go_sem])
  refine ⟨fun h => hX ?_, fun h => hY ?_⟩
  ·clear hX hY X Y
   (refine wk0 ?_;(repeat clear hK K);repeat refine kq fun K hK=>?_)
   refine rq0 Tryz.results22 ?_
   exact ⟨rfl, 0, rfl, .inr rfl⟩
  ·have hn1 : 1 ≤ n := by simp at h; omega
   have hb := tmod_b (5 * (a : Int) + 3) n hn1
   clear hX hY X Y
   (refine wk0 ?_;(repeat clear hK K);repeat refine kq fun K hK=>?_)
   (refine aw_cnd ?_; intro X Y hX hY; simp only [go_sem])
   refine ⟨fun h => hX ?_, fun h => hY ?_⟩
   ·clear hX hY X Y
    have h1 : Int.tmod (5 * (a : Int) + 3) n < 0 := by simpa using h
    (refine wk0 ?_;(repeat clear hK K);repeat refine kq fun K hK=>?_)
    refine rq0 Tryz.results22 ?_
    exact ⟨rfl, (Int.tmod (5 * (a : Int) + 3) n + n).toNat, by rw [Int.toNat_of_nonneg (by omega)], .inl (by omega)⟩
   ·clear hX hY X Y
    have h1 : 0 ≤ Int.tmod (5 * (a : Int) + 3) n := by simpa using h
    (refine wk0 ?_;(repeat clear hK K);repeat refine kq fun K hK=>?_)
    refine rq0 Tryz.results22 ?_
    exact ⟨rfl, (Int.tmod (5 * (a : Int) + 3) n).toNat, by rw [Int.toNat_of_nonneg (by omega)], .inl (by omega)⟩

/-! rows of numbers -/
def cInts (xs : List Int) : List C := xs.map fun x => C.v (.int .i64 x)
def rInts (xs : List Int) : Ob := .r ⟨3, 1, true, cInts xs⟩
theorem cInts_len (xs : List Int) : (cInts xs).length = xs.length := by simp [cInts]
theorem cInts_get {xs : List Int} {i : Nat} {x : Int} (h : xs[i]? = some x) : (cInts xs)[i]? = some (.v (.int .i64 x)) := by simp [cInts, h]
theorem cInts_take (xs : List Int) (n : Nat) : (cInts xs).take n = cInts (xs.take n) := by simp [cInts, List.map_take]
theorem cInts_drop (xs : List Int) (n : Nat) : (cInts xs).drop n = cInts (xs.drop n) := by simp [cInts, List.map_drop]
theorem cInts_app (xs ys : List Int) : cInts xs ++ cInts ys = cInts (xs ++ ys) := by simp [cInts]
theorem cInts_one (xs : List Int) : (cInts xs).all C.one = true := by simp [cInts, C.one]
theorem cInts_snoc (xs : List Int) (x : Int) : cInts xs ++ [.v (.int .i64 x)] = cInts (xs ++ [x]) := by simp [cInts]
theorem cInts_ren (f : List Nat) (L : List Int) : (cInts L).map (C.ren f) = cInts L := by simp [cInts, C.ren, Function.comp_def]
theorem cInts_up (f : Nat → Nat) (L : List Int) : (cInts L).map (C.up f) = cInts L := by simp [cInts, C.up, Function.comp_def]
theorem tInts_take (xs : List Int) (n : Nat) : (tInts xs).take n = tInts (xs.take n) := by simp [tInts, List.map_take]
theorem tInts_drop (xs : List Int) (n : Nat) : (tInts xs).drop n = tInts (xs.drop n) := by simp [tInts, List.map_drop]
theorem tInts_c (xs : List Int) : (tInts xs).map C.ofTr = cInts xs := tInts_of xs
theorem fz_c (L : List Int) : Fz (cInts L) (tInts L) := by unfold cInts tInts; exact Fz.map fun x _ => .inl rfl
abbrev Ar := Int × Int
def ltA (a b : Ar) : Bool := decide (a.1 < b.1) || (a.1 == b.1 && decide (a.2 < b.2))
theorem ltA_iff {a b : Ar} : ltA a b = true ↔ a.1 < b.1 ∨ (a.1 = b.1 ∧ a.2 < b.2) := by simp [ltA]
theorem ltA_irr (a : Ar) : ltA a a = false := by simp [ltA]
theorem ltA_trans {a b c : Ar} (h1 : ltA a b = true) (h2 : ltA b c = true) : ltA a c = true := by
 rw [ltA_iff] at *; omega
theorem ltA_tri (a b : Ar) : ltA a b = true ∨ a = b ∨ ltA b a = true := by
 rw [ltA_iff, ltA_iff]
 obtain ⟨a1, a2⟩ := a
 obtain ⟨b1, b2⟩ := b
 simp only [Prod.mk.injEq]
 omega
def insA (x : Ar) : List Ar → List Ar
 | [] => [x]
 | y :: ys => if ltA y x then y :: insA x ys else if y = x then y :: ys else x :: y :: ys
theorem mem_insA (x a : Ar) (l : List Ar) : a ∈ insA x l ↔ a = x ∨ a ∈ l := by
 induction l with
 | nil => simp [insA]
 | cons y ys ih =>
  simp only [insA]
  split
  ·simp [ih]; constructor <;> (intro h; rcases h with h | h | h <;> simp [h])
  ·split
   ·rename_i h; subst h; simp
   ·simp
theorem insA_len (x : Ar) (l : List Ar) : (insA x l).length ≤ l.length + 1 := by
 induction l with
 | nil => simp [insA]
 | cons y ys ih =>
  simp only [insA]
  split
  ·simp; omega
  ·split <;> simp
def SortA (l : List Ar) : Prop := l.Pairwise fun a b => ltA a b = true
theorem insA_sort {x : Ar} {l : List Ar} (h : SortA l) : SortA (insA x l) := by
 unfold SortA at *
 induction l with
 | nil => simp [insA]
 | cons y ys ih =>
  rw [List.pairwise_cons] at h
  simp only [insA]
  split
  ·rename_i hl
   rw [List.pairwise_cons]
   refine ⟨fun a ha => ?_, ih h.2⟩
   rcases (mem_insA x a ys).1 ha with rfl | ha
   ·exact hl
   ·exact h.1 a ha
  ·split
   ·exact List.pairwise_cons.2 h
   ·rename_i hl hne
    have hxy : ltA x y = true := by
     rcases ltA_tri x y with h | h | h
     ·exact h
     ·exact absurd h.symm hne
     ·exact absurd h hl
    rw [List.pairwise_cons]
    refine ⟨fun a ha => ?_, List.pairwise_cons.2 h⟩
    rcases List.mem_cons.1 ha with rfl | ha
    ·exact hxy
    ·exact ltA_trans hxy (h.1 a ha)
theorem insA_at {x : Ar} : ∀ {xs : List Ar} {k : Nat}, k ≤ xs.length → (∀ i y, i < k → xs[i]? = some y → ltA y x = true) → (∀ y, xs[k]? = some y → ltA y x = false ∧ y ≠ x) → insA x xs = xs.take k ++ x :: xs.drop k
 | [], k, hk, _, _ => by simp at hk; subst hk; rfl
 | y :: ys, 0, _, _, h2 => by
  obtain ⟨h3, h4⟩ := h2 y rfl
  simp only [insA, List.take_zero, List.drop_zero, List.nil_append]
  rw [if_neg (by rw [h3]; simp), if_neg h4]
 | y :: ys, k + 1, hk, h1, h2 => by
  have := h1 0 y (by omega) rfl
  simp only [insA, List.take_succ_cons, List.drop_succ_cons, List.cons_append]
  rw [if_pos this, insA_at (by simpa using hk) (fun i z hi hz => h1 (i + 1) z (by omega) hz) (fun z hz => h2 z hz)]
theorem insA_has {x : Ar} : ∀ {xs : List Ar} {k : Nat}, (∀ i y, i < k → xs[i]? = some y → ltA y x = true) → xs[k]? = some x → insA x xs = xs
 | [], k, _, h => by simp at h
 | y :: ys, 0, _, h => by simp at h; subst h; simp [insA, ltA_irr]
 | y :: ys, k + 1, h1, h => by
  have := h1 0 y (by omega) rfl
  simp only [insA]
  rw [if_pos this, insA_has (fun i z hi hz => h1 (i + 1) z (by omega) hz) h]
def OkRow (k m : Nat) (r : List Ar) : Prop := SortA r ∧ r.length ≤ k ∧ ∀ a ∈ r, 0 ≤ a.1 ∧ a.1 ≤ 1025 ∧ 0 ≤ a.2 ∧ a.2 < m
def OkSys (k m : Nat) (R : List (List Ar)) : Prop := R.length = m ∧ ∀ r ∈ R, OkRow k m r
theorem OkRow.ins {k m : Nat} {r : List Ar} (h : OkRow k m r) {x : Ar} (hx : 0 ≤ x.1 ∧ x.1 ≤ 1025 ∧ 0 ≤ x.2 ∧ x.2 < m) : OkRow (k + 1) m (insA x r) :=
 ⟨insA_sort h.1, Nat.le_trans (insA_len x r) (by have := h.2.1; omega), fun a ha => by
  rcases (mem_insA x a r).1 ha with rfl | ha
  ·exact hx
  ·exact h.2.2 a ha⟩
theorem OkRow.le {k k' m : Nat} {r : List Ar} (h : OkRow k m r) (hk : k ≤ k') : OkRow k' m r := ⟨h.1, Nat.le_trans h.2.1 hk, h.2.2⟩
theorem OkSys.le {k k' m : Nat} {R : List (List Ar)} (h : OkSys k m R) (hk : k ≤ k') : OkSys k' m R := ⟨h.1, fun r hr => (h.2 r hr).le hk⟩
theorem OkSys.set {k m : Nat} {R : List (List Ar)} (h : OkSys k m R) {r : List Ar} (hr : OkRow k m r) (s : Nat) : OkSys k m (R.set s r) :=
 ⟨by simp [h.1], fun q hq => by
  rcases List.mem_or_eq_of_mem_set hq with hq | rfl
  ·exact h.2 q hq
  ·exact hr⟩

/-! trees and cells -/
open Go.RowKit
def cArcs (xs : List Ar) : List C := xs.flatMap fun a => [C.v (.int .i64 a.1), C.v (.int .i64 a.2)]
def cRows (R : List (List Ar)) : List C := R.map fun r => C.t 2 (tArcs r)
theorem cArcs_len (xs : List Ar) : (cArcs xs).length = xs.length * 2 := by
 induction xs with
 | nil => rfl
 | cons x r ih =>
  have : cArcs (x :: r) = [C.v (.int .i64 x.1), C.v (.int .i64 x.2)] ++ cArcs r := rfl
  rw [this, List.length_append, ih, List.length_cons]; simp; omega
theorem cArcs_app (xs ys : List Ar) : cArcs xs ++ cArcs ys = cArcs (xs ++ ys) := by simp [cArcs]
theorem cArcs_snoc (xs : List Ar) (x y : Int) : cArcs xs ++ [.v (.int .i64 x), .v (.int .i64 y)] = cArcs (xs ++ [(x, y)]) := by simp [cArcs]
theorem cArcs_one (xs : List Ar) : (cArcs xs).all C.one = true := by simp [cArcs, C.one]
theorem tArcs_c (xs : List Ar) : (tArcs xs).map C.ofTr = cArcs xs := by simp [tArcs, cArcs, List.map_flatMap, C.ofTr]
theorem flatA_take {α β : Type} (f : α → List β) (hf : ∀ a, (f a).length = 2) : ∀ (xs : List α) (n : Nat), (xs.flatMap f).take (n * 2) = (xs.take n).flatMap f
 | [], n => by simp
 | x :: r, 0 => by simp
 | x :: r, n + 1 => by
  simp only [List.flatMap_cons, List.take_succ_cons]
  rw [show (n + 1) * 2 = (f x).length + n * 2 by rw [hf]; omega, List.take_length_add_append, flatA_take f hf r n]
theorem flatA_drop {α β : Type} (f : α → List β) (hf : ∀ a, (f a).length = 2) : ∀ (xs : List α) (n : Nat), (xs.flatMap f).drop (n * 2) = (xs.drop n).flatMap f
 | [], n => by simp
 | x :: r, 0 => by simp
 | x :: r, n + 1 => by
  simp only [List.flatMap_cons, List.drop_succ_cons]
  rw [show (n + 1) * 2 = (f x).length + n * 2 by rw [hf]; omega, List.drop_length_add_append, flatA_drop f hf r n]
theorem tArcs_take (xs : List Ar) (n : Nat) : (tArcs xs).take (n * 2) = tArcs (xs.take n) := flatA_take _ (fun _ => rfl) xs n
theorem tArcs_drop (xs : List Ar) (n : Nat) : (tArcs xs).drop (n * 2) = tArcs (xs.drop n) := flatA_drop _ (fun _ => rfl) xs n
theorem cArcs_take (xs : List Ar) (n : Nat) : (cArcs xs).take (n * 2) = cArcs (xs.take n) := flatA_take _ (fun _ => rfl) xs n
theorem tArcs_at {xs : List Ar} {i : Nat} (h : i < xs.length) : (((tArcs xs).drop (i * 2)).take 2) = [.v (.int .i64 xs[i].1), .v (.int .i64 xs[i].2)] := by
 rw [tArcs_drop]
 have e : xs.drop i = xs[i] :: xs.drop (i + 1) := List.drop_eq_getElem_cons h
 rw [e]
 rfl
theorem fz_ca (L : List Ar) : Fz (cArcs L) (tArcs L) := by
 unfold cArcs tArcs
 exact Fz.flatMap fun x _ => ⟨.inl rfl, .inl rfl, trivial⟩
theorem cRows_len (xs : List (List Ar)) : (cRows xs).length = xs.length := by simp [cRows]
theorem cRows_get {xs : List (List Ar)} {i : Nat} {x : List Ar} (h : xs[i]? = some x) : (cRows xs)[i]? = some (.t 2 (tArcs x)) := by simp [cRows, h]
theorem cRows_set (xs : List (List Ar)) (i : Nat) (x : List Ar) : (cRows xs).set i (.t 2 (tArcs x)) = cRows (xs.set i x) := by simp [cRows, List.map_set]
theorem cRows_ren (f : List Nat) (L : List (List Ar)) : (cRows L).map (C.ren f) = cRows L := by simp [cRows, C.ren, Function.comp_def]
theorem cRows_up (f : Nat → Nat) (L : List (List Ar)) : (cRows L).map (C.up f) = cRows L := by simp [cRows, C.up, Function.comp_def]
theorem fz_cr (L : List (List Ar)) : Fz (cRows L) (tRows L) := by unfold cRows tRows; exact Fz.map fun x _ => .inl rfl
end Go.Proofs.YtglchakimolfdaaGreatDoor
