/- Lemmas. -/
import Derived.Test.YthnkailnoobdoaaGreatDoorMF
import Derived.Test.YthnkailnoobdoaaGreatDoorZk
import Derived.Test.YthnkailnoobdoaaGreatDoorG11
import Derived.Test.YthnkailnoobdoaaGreatDoorMD
import Derived.Test.YthnkailnoobdoaaGreatDoorShlf
import Derived.Shelf.SlSortCmp.NoneTotal
import Derived.Test.YthnkailnoobdoaaGreatDoorTj1
import Derived.Shelf.SlSortCmp.Kit1
import Derived.Test.YthnkailnoobdoaaGreatDoorShlfS
import Derived.Shelf.Sort.Plain
import Derived.Shelf.Slices.In.SortNone
import Derived.Test.YthnkailnoobdoaaGreatDoorG42
namespace Go.Proofs.YthnkailnoobdoaaGreatDoor
set_option linter.unusedVariables false
set_option linter.unusedSimpArgs false
open Go.RowKit
set_option maxRecDepth 100000

end Go.Proofs.YthnkailnoobdoaaGreatDoor
namespace Go.Proofs.YthnkailnoobdoaaGreatDoor
set_option linter.unusedVariables false
set_option linter.unusedSimpArgs false
open Go.RowKit
set_option maxRecDepth 100000

def Eh {α : Type} [DecidableEq α] (p : α) : List α -> List α
 | [] => []
 | y :: ys => if y = p then Eh p ys else y :: Eh y ys
def LI {α : Type} [DecidableEq α] : List α -> List α
 | [] => []
 | x :: xs => x :: Eh x xs
section
variable {α : Type} [DecidableEq α]
theorem H2 {r ys : List α} {m p : Nat} {a b : α} (h : r = ys.take m ++ Eh a (ys.drop p)) (hm : m <= p) (hb : ys[p]? = some b) :
  (b = a -> r = ys.take m ++ Eh b (ys.drop (p + 1))) /\
  (b ≠ a -> r = (ys.set m b).take (m + 1) ++ Eh b ((ys.set m b).drop (p + 1))) /\ (b ≠ a -> m = p -> ys.set m b = ys) := by
 have hl := (List.getElem?_eq_some_iff.1 hb).1
 have hbe : ys[p] = b := (List.getElem?_eq_some_iff.1 hb).2
 have hd : ys.drop p = b :: ys.drop (p + 1) := by
  rw [List.drop_eq_getElem_cons hl, hbe]
 rw [hd] at h
 refine ⟨fun e => ?_, fun e => ?_, fun _ e => ?_⟩
 rotate_left 2
 ·subst e; rw [<- hbe]; exact List.set_getElem_self hl
 ·rw [h, e]; simp [Eh]
 have h2 : (ys.set m b).drop (p + 1) = ys.drop (p + 1) := by rw [List.drop_set, if_pos (by omega)]
 have h3 : (ys.set m b).take (m + 1) = ys.take m ++ [b] := by
  rw [List.take_add_one, List.take_set_of_le (Nat.le_refl m)]
  simp [List.getElem?_set, show m < ys.length by omega]
 rw [h, h2, h3]
 simp [Eh, e]
theorem MZ {r ys : List α} {m p : Nat} {a : α} (h : r = ys.take m ++ Eh a (ys.drop p)) (hp : ys.length <= p) : r = ys.take m := by
 rw [h, List.drop_eq_nil_of_le hp]; simp [Eh]
end
def Cz (L : List (List Int)) : List C := L.map fun x => C.t 1 (Aa x)
theorem Kv : ∀ (zs cs : List C) (off : Nat), off + zs.length = cs.length -> Dr cs off zs = cs.take off ++ zs
 | [], cs, off, h => by simp [Dr] at h ⊢; rw [gE7 (by omega)]
 | x :: r, cs, off, h => by
  simp only [Dr]
  rw [Kv r _ (off + 1) (by simp at h ⊢; omega)]
  rw [List.take_add_one, List.take_set_of_le (Nat.le_refl _)]
  simp [List.getElem?_set, show off < cs.length by simp at h; omega]
end Go.Proofs.YthnkailnoobdoaaGreatDoor
namespace Go.Proofs.YthnkailnoobdoaaGreatDoor
set_option linter.unusedVariables false
set_option linter.unusedSimpArgs false
open Go.RowKit
set_option maxRecDepth 100000

theorem DT {xs : List Ar} {i : Nat} (h : i < xs.length) : (((As xs).drop (i * 2)).take 2) = [.v (.int .i64 xs[i].1), .v (.int .i64 xs[i].2)] := by
 have := congrArg (List.map C.ofTr) (Be h)
 rw [List.map_take, List.map_drop, Co] at this
 exact this
theorem N1 {ys : List Ar} {m : Nat} (h : m < ys.length) {a b : Int} : ((As ys).set (m * 2) (.v (.int .i64 a))).set (m * 2 + 1) (.v (.int .i64 b)) = As (ys.set m (a, b)) := by
 induction ys generalizing m with
 | nil => simp at h
 | cons y r ih =>
  have e : As (y :: r) = C.v (.int .i64 y.1) :: C.v (.int .i64 y.2) :: As r := rfl
  cases m with
  | zero => rw [e]; rfl
  | succ m =>
   have e2 : As ((y :: r).set (m + 1) (a, b)) = C.v (.int .i64 y.1) :: C.v (.int .i64 y.2) :: As (r.set m (a, b)) := rfl
   rw [e, e2, <- ih (by simpa using h), show (m + 1) * 2 = m * 2 + 1 + 1 by omega]
   rfl
theorem N2 (x y : Operand) (a b : Ar) : GH Tryz.prog .neq 40 x y [.int .i64 a.1, .int .i64 a.2] [.int .i64 b.1, .int .i64 b.2] (!decide (a = b)) = True := by
 rw [<- Ef]
 refine eq_true ?_
 have := (Tw x y [.v (.int .i64 a.1), .v (.int .i64 a.2)] [.v (.int .i64 b.1), .v (.int .i64 b.2)] _ _ rfl rfl rfl rfl).2
 simpa [Vn] using this
theorem N3 : ∀ l : List Ar, LI l = P6 l := by
 have h : ∀ (l : List Ar) (p : Ar), Eh p l = DB p l := by
  intro l
  induction l with
  | nil => intro p; rfl
  | cons y ys ih => intro p; simp only [Eh, DB, ih]
 intro l
 cases l with
 | nil => rfl
 | cons x xs => simp only [LI, P6, h]
attribute [local go_sem] List.map_cons List.map_nil List.take_succ_cons List.take_zero List.drop_zero List.drop_succ_cons C.pl C.one List.all_cons List.all_nil Bool.and_true
set_option maxHeartbeats 1000000 in
theorem Ix (L : List Ar) (hn : L.length <= 100000000) : FC Tryz.prog 96 [.a (.c (.s 0 L.length))] [.r ⟨40, 2, true, As L⟩]
  (fun r o => r = .a (.c (.s 0 (LI L).length)) /\ ∃ rest us, Fz rest us /\ (L = [] -> rest = []) /\ o = [.r ⟨40, 2, true, As (LI L) ++ rest⟩]) := by
 refine A9 Tryz.func96 rfl (by rw [Tryz.ntmps96]; simp) ?_
 rw [Tryz.ntmps96]
 simp only [Bz]
 (refine We ?_;(repeat clear hK K);repeat refine kq fun K hK=>?_)
 (refine AA ?_; intro X Y hX hY; simp only [go_sem])
 refine ⟨fun h => hX ?_, fun h => hY ?_⟩
 ·clear hX hY X Y
  (refine We ?_;(repeat clear hK K);repeat refine kq fun K hK=>?_)
  refine Wr Tryz.results96 ?_
  have hc : LI L = L := by
   match L, h with
   | [], _ => rfl
   | [x], _ => rfl
   | _ :: _ :: _, h => simp at h; omega
  rw [hc]
  exact ⟨rfl, [], [], trivial, fun _ => rfl, by simp⟩
 clear hX hY X Y
 have h2 : 2 <= L.length := by simp at h; omega
 clear h
 (refine We ?_;(repeat clear hK K);repeat refine kq fun K hK=>?_)
 refine A6 (fun k : Nat => { tm := [(0, .a (.c (.s 0 L.length))), (3, .i (k + 1 : Nat))], hp := [.r ⟨40, 2, true, As L⟩], n := 61, pin := 1 }) (fun k => k + 1 <= L.length /\ LI L = L.take (k + 1) ++ Eh (L.getD k (0, 0)) (L.drop (k + 1))) (fun k => L.length - k) 0 ?_ ?_ ?_
 ·refine ⟨by omega, ?_⟩
  match L, h2 with
  | x :: r, _ => simp [LI]
 ·exact Wo
 rintro k ⟨hk, he⟩ K hK
 (refine We ?_;(repeat clear hK K);repeat refine kq fun K hK=>?_)
 (refine AA ?_; intro X Y hX hY; simp only [go_sem])
 refine ⟨fun h => hX ?_, fun h => hY ?_⟩
 rotate_left
 ·have hge : k + 1 = L.length := by simp at h; omega
  clear hX hY X Y
  (refine Wi ?_;repeat clear hK K)
  (refine We ?_;(repeat clear hK K);repeat refine kq fun K hK=>?_)
  refine Wr Tryz.results96 ?_
  have hc : LI L = L := by rw [he, hge]; simp [Eh]
  rw [hc]
  exact ⟨rfl, [], [], trivial, fun _ => rfl, by simp⟩
 have hlt : k + 1 < L.length := by simp at h; omega
 have hlt0 : k < L.length := by omega
 clear hX hY X Y h
 have e1 : ((k + 1 : Nat) : Int) - 1 = (k : Int) := by omega
 have g0 : L.getD k (0, 0) = L[k] := by simp [List.getD, hlt0]
 rw [g0] at he
 have hst := H2 he (Nat.le_refl _) (gE1 hlt)
 (refine We ?_;(repeat clear hK K);repeat refine kq fun K hK=>?_)
 (refine Ao 9 [(0, 0), (1, 0), (2, 0), (3, 1), (4, 0), (5, 0), (6, 0), (7, 0), (8, 1), (9, 2)] (by kernel_rfl) (by kernel_rfl) (by intro c st h; simp [Ae, AJ, VD] at h) ?_)
 (refine Wb (an @e1 (an (DT hlt) (an (DT hlt0) (an @Ah (an @MQ (an @Ef @true_and)))))) ?_; repeat clear hK K)
 (refine AA ?_; intro X Y hX hY; simp only [go_sem])
 refine ⟨fun h => hX ?_, fun h => hY ?_⟩
 rotate_left
 ·clear hX hY X Y
  have hne : L[k + 1] ≠ L[k] := by simpa using h
  clear h
  (refine We ?_;(repeat clear hK K);repeat refine kq fun K hK=>?_)
  refine Wn ?_
  refine hK _ (k + 1) ⟨hlt, ?_⟩ (by omega) ?_
  rotate_left
  ·exact Wo
  have h1 := hst.2.1 hne
  rw [hst.2.2 hne rfl] at h1
  have : L.getD (k + 1) (0, 0) = L[k + 1] := by simp [List.getD, hlt]
  rw [this]
  exact h1
 clear hX hY X Y
 have heq : L[k + 1] = L[k] := by simpa using h
 clear h
 have hI := hst.1 heq
 clear hst he
 (refine We ?_;(repeat clear hK K);repeat refine kq fun K hK=>?_)
 refine A6 (fun q : Nat × Nat × List Ar => { tm := [(0, .a (.c (.s 0 L.length))), (3, .i q.1), (4, .a (.c (.w 0 (k + 1) (L.length - (k + 1)) 2))), (5, .i (q.2.1 + 1 : Nat))], hp := [.r ⟨40, 2, true, As q.2.2⟩], n := 61, pin := 1 })
  (fun q => q.2.2.length = L.length /\ (∀ x ∈ q.2.2, x ∈ L) /\ q.1 <= k + 1 + q.2.1 /\ k + 2 + q.2.1 <= L.length /\ LI L = q.2.2.take q.1 ++ Eh (q.2.2.getD (k + 1 + q.2.1) (0, 0)) (q.2.2.drop (k + 2 + q.2.1))) (fun q => L.length - q.2.1) (k + 1, 0, L) ?_ ?_ ?_
 ·refine ⟨rfl, fun x h => h, by simp, by simp only; omega, ?_⟩
  have : L.getD (k + 1) (0, 0) = L[k + 1] := by simp [List.getD, hlt]
  simp only [Nat.add_zero, this]
  exact hI
 ·exact Wo
 clear hI
 rintro ⟨m, j, ys⟩ ⟨hyl, hys, hm, hj, he⟩ K hK
 simp only at hyl hys hm hj he
 (refine We ?_;(repeat clear hK K);repeat refine kq fun K hK=>?_)
 (refine AA ?_; intro X Y hX hY; simp only [go_sem])
 refine ⟨fun h => hX ?_, fun h => hY ?_⟩
 rotate_left
 ·clear hX hY X Y
  (refine Wi ?_;repeat clear hK K)
  have hend : ys.length <= k + 2 + j := by simp at h; omega
  have hfin := MZ he hend
  have hm2 : m < L.length := by omega
  (refine We ?_;(repeat clear hK K);repeat refine kq fun K hK=>?_)
  refine Ad rfl ?_; intro K1 hK1
  refine Mt (n := L.length - m) (off := m) (k := 2) (id := 0) rfl rfl Tryz.underlying41 ty40 (by simp only [go_sem]) rfl (by omega) rfl rfl (by simp only [Ah]; omega) ?_
  intro zs hz1 hz2
  have hset : Dr (As ys) (m * 2) zs = As (ys.take m) ++ zs := by
   rw [Kv _ _ _ (by rw [Ah]; omega), D3]
  simp only [hset, List.set_cons_zero, go_sem]
  refine hK1 _ ?_; clear hK1 K1
  (refine We ?_;(repeat clear hK K);repeat refine kq fun K hK=>?_)
  refine Wr Tryz.results96 ?_
  have hc : LI L = ys.take m := hfin
  rw [hc]
  refine ⟨by rw [List.length_take, Nat.min_eq_left (by omega)], zs, zs.map fun _ => Tr.v (.int .i64 0), ?_, fun h0 => by rw [h0] at h2; simp at h2, rfl⟩
  have : zs = zs.map id := by simp
  rw [this, List.map_map]
  exact Fz.map fun c hc => by
   have := hz2 c hc
   simp at this
   subst this
   exact .inl rfl
 have hlt : k + 1 + (j + 1) < ys.length := by simp at h; omega
 have hlt0 : k + 1 + j < ys.length := by omega
 have hw : ((j + 1 : Nat) : Int) < ((L.length - (k + 1) : Nat) : Int) := by omega
 have hw0 : (j : Int) < ((L.length - (k + 1) : Nat) : Int) := by omega
 clear hX hY X Y h
 have e1 : ((j + 1 : Nat) : Int) - 1 = (j : Int) := by omega
 have g0 : ys.getD (k + 1 + j) (0, 0) = ys[k + 1 + j] := by simp [List.getD, hlt0]
 rw [g0, show k + 2 + j = k + 1 + (j + 1) from by omega] at he
 have hst := H2 he (by omega) (gE1 hlt)
 (refine We ?_;(repeat clear hK K);repeat refine kq fun K hK=>?_)
 have hk1 : k + 1 + (j + 1) = k + 1 + (j + 1) := rfl
 (refine Ao 9 [(0, 0), (1, 0), (2, 0), (3, 1), (4, 0), (5, 0), (6, 0), (7, 0), (8, 1), (9, 2)] (by kernel_rfl) (by kernel_rfl) (by intro c st h; simp [Ae, AJ, VD] at h) ?_)
 (refine Wb (an @e1 (an (DT hlt) (an (DT hlt0) (an @Ah (an @N2 (an @Ef @true_and)))))) ?_; repeat clear hK K)
 (refine AA ?_; intro X Y hX hY; simp only [go_sem])
 refine ⟨fun h => hX ?_, fun h => hY ?_⟩
 rotate_left
 ·clear hX hY X Y
  have heq : ys[k + 1 + (j + 1)] = ys[k + 1 + j] := by simpa using h
  clear h
  (refine We ?_;(repeat clear hK K);repeat refine kq fun K hK=>?_)
  refine Wn ?_
  refine hK _ (m, j + 1, ys) ⟨hyl, hys, by simp only; omega, by simp only; omega, ?_⟩ (by simp only; omega) ?_
  rotate_left
  ·exact Wo
  have h1 := hst.1 heq
  have : ys.getD (k + 1 + (j + 1)) (0, 0) = ys[k + 1 + (j + 1)] := by simp [List.getD, hlt]
  simp only
  rw [this, show k + 2 + (j + 1) = k + 1 + (j + 1) + 1 from by omega]
  exact h1
 clear hX hY X Y
 have hne : ys[k + 1 + (j + 1)] ≠ ys[k + 1 + j] := by simpa using h
 clear h
 have hm1 : m < ys.length := by omega
 (repeat (first | (refine AG ?_; intro K hK) | refine Am ?_ | refine Ag ?_ | (refine Bg rfl rfl ?_; intro K1 hK1; simp only [go_sem, DT hlt, Ah, Dr, N1 hm1]; (first | refine hK1 _ ?_ | refine AE (hK1 _ ?_)); clear hK1 K1) | ((first | refine Ab ?_ | refine Ap ?_); refine hK _ ?_; clear hK K)))
 refine Wn ?_
 have hst2 := hst.2.1 hne
 have hpp : (ys.set m ys[k + 1 + (j + 1)]).getD (k + 1 + (j + 1)) (0, 0) = ys[k + 1 + (j + 1)] := by
  rw [List.getD, gE5 (by omega), gE1 hlt]; rfl
 refine hK _ (m + 1, j + 1, ys.set m ys[k + 1 + (j + 1)]) ⟨by simp [hyl], ?_, by simp only; omega, by simp only; omega, ?_⟩ (by simp only; omega) ?_
 rotate_left
 ·simp only
  rw [hpp, show k + 2 + (j + 1) = k + 1 + (j + 1) + 1 from by omega]
  exact hst2
 ·exact Wo
 intro x hx
 rcases List.mem_or_eq_of_mem_set hx with hx | rfl
 ·exact hys x hx
 exact hys _ (gE6 hlt)

open Go.RowKit Go.Shelf Go.Sort
def WK (a : Ar) : List Value := [.int .i64 a.1, .int .i64 a.2]
theorem Gi (xs : List Ar) : As xs = (xs.flatMap WK).map C.v := by simp [As, WK, List.map_flatMap]
theorem Vc : Sort.SWO (ltOf Gb) where
 irrefl x := by rw [show ltOf Gb x x = Wu x x from CG x x]; exact F0 x
 trans x y z h1 h2 := by
  rw [show ltOf Gb x y = Wu x y from CG x y] at h1
  rw [show ltOf Gb y z = Wu y z from CG y z] at h2
  rw [show ltOf Gb x z = Wu x z from CG x z]
  exact Ex h1 h2
 ntrans x y z h1 h2 := by
  rw [show ltOf Gb x y = Wu x y from CG x y] at h1
  rw [show ltOf Gb y z = Wu y z from CG y z] at h2
  rw [show ltOf Gb x z = Wu x z from CG x z]
  cases h3 : Wu x z with
  | false => rfl
  | true =>
   have h1 : ¬ Wu x y = true := by rw [h1]; simp
   have h2 : ¬ Wu y z = true := by rw [h2]; simp
   rw [CX] at h1 h2 h3
   omega
theorem N4 (xs : List Ar) : flatK WK 2 xs.toArray = (xs.flatMap WK).toArray := by
 apply Array.ext
 ·simp [Dc WK 2 (fun _ => rfl)]
 intro t h1 h2
 simp only [size_flatK, List.size_toArray] at h1
 have hd : t / 2 < xs.length := Nat.div_lt_of_lt_mul (by rw [Nat.mul_comm]; exact h1)
 have hm : t % 2 < 2 := Nat.mod_lt _ (by omega)
 have hg := FB WK 2 (fun _ => rfl) xs (t / 2) (t % 2) xs[t / 2] (gE1 hd) hm
 have htd : t / 2 * 2 + t % 2 = t := by rw [Nat.mul_comm]; exact Nat.div_add_mod t 2
 rw [htd] at hg
 have h3 := get_flatK WK 2 xs.toArray t (by simpa using h1)
 rw [getElem!_pos _ t (by simpa using h1)] at h3
 rw [h3]
 have h4 : (xs.toArray)[t / 2]! = xs[t / 2] := by simp [hd]
 rw [h4, getElem!_pos _ _ (by simp [WK]; omega)]
 have hlt : t < (xs.flatMap WK).length := by rw [Dc WK 2 (fun _ => rfl)]; exact h1
 rw [gE1 hlt, gE1 (by simp [WK]; omega)] at hg
 exact (Option.some.inj hg).symm
def FA (xs : List Ar) : List Ar := xs.mergeSort fun x y => !(ltOf Gb) y x
theorem LJ (l : List Ar) : (FA l).Perm l := List.mergeSort_perm _ _
theorem Pf (l : List Ar) : (FA l).Pairwise fun a b => Wu b a = false := by
 have e (x y : Ar) : ltOf Gb x y = Wu x y := CG x y
 have h := List.pairwise_mergeSort (le := fun x y => !(ltOf Gb) y x) (fun a b c h1 h2 => by
  simp only [e, Bool.not_eq_true'] at *
  cases h3 : Wu c a with
  | false => rfl
  | true =>
   have h1 : ¬ Wu b a = true := by rw [h1]; simp
   have h2 : ¬ Wu c b = true := by rw [h2]; simp
   rw [CX] at h1 h2 h3
   omega) (fun a b => by
  simp only [e]
  cases h1 : Wu b a <;> cases h2 : Wu a b <;> simp
  rw [CX] at h1 h2; omega) l
 refine h.imp ?_
 intro a b hab
 simpa [e] using hab
theorem Iy {w w' : World} (h : Fp (fun _ => False) w w') : ∃ q os, w' = grow (w.drewN q) os := by
 refine ⟨w'.drawn - w.drawn, w'.heap.extract w.heap.size w'.heap.size, ?_⟩
 obtain ⟨hp, tp, dr, o, ou⟩ := w'
 obtain ⟨h1, h2, h3, h4, h5, h6⟩ := h
 simp only at h1 h2 h3 h4 h5 h6
 subst h1; subst h2; subst h3
 simp only [grow, World.drewN]
 congr 1
 rotate_left
 ·omega
 apply Array.ext'
 simp only [Array.toList_append, Array.toList_extract]
 apply List.ext_getElem?
 intro i
 by_cases hi : i < w.heap.size
 ·rw [gEa (by simpa using hi)]
  have := h5 i hi (fun h => h)
  simpa using this
 rw [gEb (by simpa using hi)]
 simp only [List.extract_eq_take_drop, Array.length_toList, List.getElem?_take, List.getElem?_drop]
 split
 ·congr 1; omega
 rename_i hn; simp; omega
theorem Ut (gg : Gh) (ℓ : Loc) : ¬ Lv [] gg ℓ := by
 intro hl
 cases ℓ with
 | ob id => rcases hl with ⟨r, h, _⟩ | ⟨kv, h⟩ <;> simp at h
 | cl id j => obtain ⟨r, k, cs, h, _⟩ := hl; simp at h
theorem WL {g : Gh} {e : TypeId} {L : List Ar} {ℓ : Loc} : Lv [.r ⟨e, 2, true, As L⟩] g ℓ ↔ ℓ = .ob 0 /\ g.κ 0 ≠ 0 := by
 cases ℓ with
 | ob id =>
  constructor
  rotate_left
  ·rintro ⟨h1, h2⟩
   cases h1
   exact .inl ⟨_, rfl, h2⟩
  rintro (⟨r, h1, h2⟩ | ⟨kv, h1⟩)
  rotate_left
  ·cases id with
   | zero => simp at h1
   | succ i => simp at h1
  cases id with
  | zero => exact ⟨rfl, h2⟩
  | succ i => simp at h1
 | cl id j =>
  constructor
  rotate_left
  ·rintro ⟨h1, h2⟩; cases h1
  rintro ⟨r, k, cs, h1, h2, h3⟩
  cases id with
  | zero =>
   simp at h1; subst h1
   rw [Gi, List.getElem?_map, Option.map_eq_some_iff] at h2
   obtain ⟨x, _, h2⟩ := h2
   cases h2
  | succ i => simp at h1
set_option maxHeartbeats 1000000 in
theorem Kw (f : FuncId) (hf : BB Tryz.prog f = true) (hcmp : ∀ a b : Ar, FC Tryz.prog f [.a (.g [.v (.int .i64 a.1), .v (.int .i64 a.2)]), .a (.g [.v (.int .i64 b.1), .v (.int .i64 b.2)])] [] (fun r o => o = [] /\ r = .i (Gb a b))) (L : List Ar) (hsz : L.length <= 100000000) :
  FC Tryz.prog 94 [.a (.c (.s 0 L.length)), .a (.c (.f f []))] [.r ⟨40, 2, true, As L⟩]
   (fun r o => r = .u /\ ∃ L' : List Ar, L'.Perm L /\ L'.Pairwise (fun a b => Wu b a = false) /\ o = [.r ⟨40, 2, true, As L'⟩]) := by
 intro g w vals hr hargs
 obtain ⟨hlen, hargs⟩ := hargs
 obtain ⟨v1, e1, b1, b2, A, rfl, b4, b5⟩ := hargs 0 _ rfl
 obtain ⟨v2, e2, c1, c2⟩ := hargs 1 _ rfl
 have hv2 : v2 = .func (.func f) #[] #[] := by rw [c2]; simp [Vj]
 subst hv2
 have hvals : vals = [.slice A L.length (g.κ 0), .func (.func f) #[] #[]] := by
  match vals, hlen with
  | [a, b], _ => simp at e1 e2; simp [e1, e2]
 subst hvals
 rcases hr.row 0 _ rfl with ⟨h0, hnil⟩ | ⟨h0, hne, arr, ha, hle, hs, hmx, hcells⟩
 ·have hL0 : L = [] := by
   have : (As L).length = 0 := by have h : As L = [] := hnil; rw [h]; rfl
   rw [Ah] at this
   exact List.length_eq_zero_iff.1 (by omega)
  subst hL0
  refine (AnyF.slices_SortFunc_none Tryz.sortArcs A (g.κ 0) (.func (.func f) #[] #[]) w).mono ?_
  rintro e' w' ⟨rfl, rfl⟩
  exact ⟨.tuple #[], .u, _, g, rfl, ⟨rfl, [], List.Perm.refl _, List.Pairwise.nil, rfl⟩, hr, ⟨Nat.le_refl _, Ext.refl _ _⟩, fun ℓ hl => .inl ⟨ℓ, hl, rfl⟩, trivial, Fp.refl _ _⟩
 have hL0 : L ≠ [] := fun e => by subst e; exact hne rfl rfl
 have x0 : 0 < L.length := List.length_pos_iff.2 hL0
 rw [b4 h0] at *
 have hblk : g.γ (.ob 0) < w.heap.size := (Array.getElem?_eq_some_iff.1 ha).1
 have hle' : L.length * 2 <= arr.size := by simpa [Ah] using hle
 have hfl := Dc WK 2 (fun _ => rfl) L
 have hget : ∀ j, j < L.length * 2 -> arr[j]? = (L.flatMap WK)[j]? := by
  intro j hj
  obtain ⟨v, hv⟩ : ∃ v, (L.flatMap WK)[j]? = some v := ⟨_, gE1 (by rw [hfl]; exact hj)⟩
  obtain ⟨u, u1, u2⟩ := hcells j (.v v) (by rw [Gi, List.getElem?_map, hv]; rfl)
  have hu : u = v := u2
  rw [u1, hv, hu]
 have hlays : CmpLays Tryz.prog f #[] WK 2 Gb (g.γ (.ob 0)) 0 L.toArray.size w := by
  intro m os dk _ x y
  have hoth : ∀ k, k < w.heap.size -> ¬ Ow [.r ⟨40, 2, true, As L⟩] g k -> (sortWorldK WK 2 w (g.γ (.ob 0)) 0 m dk os).heap[k]? = w.heap[k]? := by
   intro k hk hn
   have hn2 : k ≠ g.γ (.ob 0) := fun e => hn (.inr ⟨.ob 0, WL.2 ⟨rfl, h0⟩, e.symm⟩)
   unfold sortWorldK putRowK putRow mapBlock Sort.grow Sort.ahead
   simp only
   rw [Array.getElem?_append_left (by simpa using hk), Array.getElem?_modify, if_neg (Ne.symm hn2)]
  generalize hW : sortWorldK WK 2 w (g.γ (.ob 0)) 0 m dk os = W at hoth
  have hsz' : w.heap.size <= W.heap.size := by rw [<- hW]; simp [sortWorldK, putRowK, putRow, mapBlock, Sort.grow, Sort.ahead]
  have hHR : HR ⟨g.γ, g.κ, fun _ => False⟩ [] W := ⟨fun b hb => hb.elim, fun ℓ hl => absurd hl (Ut _ ℓ), fun ℓ _ hl => absurd hl (Ut _ ℓ), fun id r h => by simp at h, fun id r h => by simp at h, hr.gl.keep hsz' hoth (fun k _ hk => hk.elim (fun h => h.elim) (fun ⟨ℓ, hl, _⟩ => absurd hl (Ut _ ℓ)))⟩
  have hA : GI ⟨g.γ, g.κ, fun _ => False⟩ [] W [.a (.g [.v (.int .i64 x.1), .v (.int .i64 x.2)]), .a (.g [.v (.int .i64 y.1), .v (.int .i64 y.2)])] [.agg #[.int .i64 x.1, .int .i64 x.2], .agg #[.int .i64 y.1, .int .i64 y.2]] := by
   refine ⟨rfl, fun i a hi => ?_⟩
   have ag : ∀ z : Ar, A0R (CR ⟨g.γ, g.κ, fun _ => False⟩ [] W) (.g [.v (.int .i64 z.1), .v (.int .i64 z.2)]) (.agg #[.int .i64 z.1, .int .i64 z.2]) := fun z => ⟨[.int .i64 z.1, .int .i64 z.2], rfl, rfl, fun q c hq => by
    match q, hq with
    | 0, hq => simp at hq; subst hq; exact ⟨_, rfl, rfl⟩
    | 1, hq => simp at hq; subst hq; exact ⟨_, rfl, rfl⟩
    | q + 2, hq => simp at hq⟩
   match i, hi with
   | 0, hi => cases hi; exact ⟨_, rfl, ag x⟩
   | 1, hi => cases hi; exact ⟨_, rfl, ag y⟩
   | i + 2, hi => simp at hi
  refine Calls.mono (hcmp x y _ _ _ hHR hA) ?_
  rintro e' w' ⟨v, r, outs, g', rfl, ⟨rfl, rfl⟩, _, _, _, hv, hfp⟩
  exact ⟨by rw [show v = _ from hv], Iy (hfp.mono fun k _ ⟨ℓ, hl, _⟩ => absurd hl (Ut _ ℓ))⟩
 have hH : HoldsK WK 2 w (g.γ (.ob 0)) 0 L.toArray := by
  unfold HoldsK Holds
  rw [N4]
  intro j hj
  simp only [List.size_toArray, hfl] at hj
  constructor
  rotate_left
  ·simp [World.frozen?, ha]
  rw [Nat.zero_add, cell_of_row w _ j arr _ (0, 0) ha, hget j hj, getElem!_pos _ j (by simpa [hfl] using hj)]
  simp [hfl, hj]
 have eg : ∀ args w, (callFunc f args).run Tryz.prog w = .ok (.enter f args) w := fun args w => BT hf args w
 have hcon := AnyQ.slices_SortFunc_total Tryz.sortArcs 2 Tryz.isAgg40 Tryz.sizeOf40 WK (fun _ => rfl) (fun x v hv => by simp [WK] at hv; rcases hv with rfl | rfl <;> rfl) Gb Vc f #[] (g.γ (.ob 0)) 0 (g.κ 0) L.toArray w eg hlays hH hblk (by simp; omega)
  (fun x y h1 h2 => by
   rw [show ltOf Gb x y = Wu x y from CG x y] at h1
   rw [show ltOf Gb y x = Wu y x from CG y x] at h2
   rcases Hq x y with h | h | h
   ·rw [h] at h1; cases h1
   ·exact h
   ·rw [h] at h2; cases h2)
 change Calls Tryz.prog 94 _ _ _ at hcon
 have hsz2 : L.toArray.size = L.length := by simp
 rw [hsz2] at hcon
 refine hcon.mono ?_
 rintro e' w' ⟨rfl, m, os, rfl⟩
 have hSl : (FA L).length = L.length := List.length_mergeSort _
 have hfl' := Dc WK 2 (fun _ => rfl) (FA L)
 have hself : (sortWorldK WK 2 w (g.γ (.ob 0)) 0 m (FA L).toArray os).heap[g.γ (.ob 0)]? = some (.cells (putCells id 0 ((FA L).flatMap WK).toArray arr) 40 (0, 0)) := by
  unfold sortWorldK putRowK putRow mapBlock Sort.grow Sort.ahead
  rw [N4]
  simp only
  rw [Array.getElem?_append_left (by simpa using hblk), Array.getElem?_modify, if_pos rfl, ha]
  rfl
 have hsize : w.heap.size <= (sortWorldK WK 2 w (g.γ (.ob 0)) 0 m (FA L).toArray os).heap.size := by simp [sortWorldK, putRowK, putRow, mapBlock, Sort.grow, Sort.ahead]
 have hother : ∀ k, k < w.heap.size -> k ≠ g.γ (.ob 0) -> (sortWorldK WK 2 w (g.γ (.ob 0)) 0 m (FA L).toArray os).heap[k]? = w.heap[k]? := by
  intro k hk hn
  unfold sortWorldK putRowK putRow mapBlock Sort.grow Sort.ahead
  simp only
  rw [Array.getElem?_append_left (by simpa using hk), Array.getElem?_modify, if_neg (Ne.symm hn)]
 have hfp : Fp (FV [.r ⟨40, 2, true, As L⟩] g) w (sortWorldK WK 2 w (g.γ (.ob 0)) 0 m (FA L).toArray os) :=
  ⟨rfl, rfl, rfl, hsize, fun k hk hm => hother k hk fun e => hm ⟨.ob 0, WL.2 ⟨rfl, h0⟩, e.symm⟩, by simp [sortWorldK, putRowK, putRow, mapBlock, Sort.grow, Sort.ahead]⟩
 refine ⟨.tuple #[], .u, _, g, rfl, ⟨rfl, FA L, LJ L, Pf L, rfl⟩, ?_, ⟨by simp, Ext.refl _ _⟩, fun ℓ hl => .inl ⟨ℓ, WL.2 (WL.1 hl), rfl⟩, trivial, hfp⟩
 refine ⟨fun b hb => Nat.lt_of_lt_of_le (hr.ml b hb) hsize, fun ℓ hl => hr.md ℓ (WL.2 (WL.1 hl)), fun ℓ ℓ' hl hl' => hr.inj ℓ ℓ' (WL.2 (WL.1 hl)) (WL.2 (WL.1 hl')), fun id r hid => ?_, fun id r hid => ?_, hr.gl.keep hsize (fun k hk hn => hother k hk (fun e => hn (.inr ⟨.ob 0, WL.2 ⟨rfl, h0⟩, e.symm⟩))) (fun k _ hk => hk.imp (fun h => h) (fun ⟨ℓ, hl, e⟩ => ⟨ℓ, WL.2 (WL.1 hl), e⟩))⟩
 rotate_left
 ·cases id with
  | zero => simp at hid
  | succ i => simp at hid
 cases id with
 | succ i => simp at hid
 | zero =>
  simp at hid
  subst hid
  refine .inr ⟨h0, fun _ hn => ?_, _, hself, ?_, ?_, hmx, fun j c hj => ?_⟩
  ·have : (As (FA L)).length = 0 := by simp only at hn; rw [hn]; rfl
   rw [Ah, hSl] at this; omega
  ·simp only [Ah, hSl, putCells, Array.size_mapIdx]; exact hle'
  ·simpa [putCells] using hs
  rw [Gi, List.getElem?_map, Option.map_eq_some_iff] at hj
  obtain ⟨v, hv, rfl⟩ := hj
  have hjl : j < L.length * 2 := by have := (List.getElem?_eq_some_iff.1 hv).1; rw [hfl', hSl] at this; exact this
  refine ⟨v, ?_, rfl⟩
  have hj2 : j < ((FA L).flatMap WK).length := by rw [hfl', hSl]; exact hjl
  have hjc : j < arr.size := by omega
  simp only [putCells, Array.getElem?_mapIdx, Nat.zero_le, true_and, Nat.zero_add, List.size_toArray, hj2, if_true, Nat.sub_zero]
  rw [gEd hjc]
  rw [gE1 hj2] at hv
  have hv2 := Option.some.inj hv
  rw [<- hv2]
  simp
  rw [gE1 hj2]; rfl
theorem Rr {s : ST} (i m : Nat) {r : Row} (hi : s.hp[i]? = some (.r r)) (hm : r.sl = true -> r.cells.take m = [] -> r.cells = []) : Le s { s with hp := s.hp.set i (.r { r with cells := r.cells.take m }) } := by
 rintro M0 w0 a w ⟨g, hpp, hR⟩
 have hlt : i < s.hp.length := (List.getElem?_eq_some_iff.1 hi).1
 have self : (s.hp.set i (.r { r with cells := r.cells.take m }))[i]? = some (.r { r with cells := r.cells.take m }) := by simp [hlt]
 have other : ∀ q, q ≠ i -> (s.hp.set i (.r { r with cells := r.cells.take m }))[q]? = s.hp[q]? := fun q hq => by rw [gE5 (Ne.symm hq)]
 have tk : ∀ (j : Nat) (c : C), (r.cells.take m)[j]? = some c -> r.cells[j]? = some c := fun j c h => by
  rw [List.getElem?_take] at h
  split at h
  ·exact h
  cases h
 generalize hh : s.hp.set i (.r { r with cells := r.cells.take m }) = hp' at *
 have sub : ∀ ℓ, Lv hp' g ℓ -> Lv s.hp g ℓ := by
  intro ℓ hl
  cases ℓ with
  | ob q =>
   by_cases hq : q = i
   ·subst hq
    rcases hl with ⟨r2, e1, e2⟩ | ⟨kv, e1⟩
    ·exact .inl ⟨r, hi, e2⟩
    rw [self] at e1; cases e1
   rcases hl with ⟨r2, e1, e2⟩ | ⟨kv, e1⟩
   ·exact .inl ⟨r2, by rw [<- other q hq]; exact e1, e2⟩
   exact .inr ⟨kv, by rw [<- other q hq]; exact e1⟩
  | cl q j =>
   by_cases hq : q = i
   rotate_left
   ·obtain ⟨r2, k, cs, e1, e2, e3⟩ := hl
    exact ⟨r2, k, cs, by rw [<- other q hq]; exact e1, e2, e3⟩
   subst hq
   obtain ⟨r2, k, cs, e1, e2, e3⟩ := hl
   rw [self] at e1; cases e1
   exact ⟨r, k, cs, hi, tk j _ e2, e3⟩
 have ow : ∀ b, Ow hp' g b -> Ow s.hp g b := fun b ho => ho.imp (fun h => h) (fun ⟨ℓ, hl, e⟩ => ⟨ℓ, sub ℓ hl, e⟩)
 have hmo : Mo g s.hp w g hp' w (fun _ => True) := by
  refine ⟨fun q hq => ⟨?_, rfl, rfl⟩, fun b _ ho => ow b ho, Nat.le_refl _, fun _ _ _ => rfl, fun q _ hq r2 j k cs e1 e2 => ?_⟩
  ·by_cases e : q = i
   ·subst e; exact ⟨_, self, rfl⟩
   obtain ⟨o, h1, h2⟩ := hq
   exact ⟨o, by rw [other q e]; exact h1, h2⟩
  by_cases e : q = i
  rotate_left
  ·exact ⟨r2, by rw [<- other q e]; exact e1, e2, fun _ => rfl⟩
  subst e
  rw [self] at e1
  cases e1
  exact ⟨r, hi, tk j _ e2, fun _ => rfl⟩
 have hr := hR.hr
 refine ⟨g, ⟨by show s.pin <= hp'.length; rw [<- hh]; simpa using hpp.1, hpp.2⟩, hR.mo hmo ?_ (fun ℓ hl => hR.new ℓ (sub ℓ hl)) hR.fp⟩
 refine ⟨hr.ml, fun ℓ hl => hr.md ℓ (sub ℓ hl), fun ℓ ℓ' h1 h2 => hr.inj ℓ ℓ' (sub ℓ h1) (sub ℓ' h2), fun q r2 e1 => ?_, fun q kv e1 => ?_, hmo.gl hr.gl⟩
 rotate_left
 ·by_cases e : q = i
  ·subst e; rw [self] at e1; cases e1
  rw [other q e] at e1
  exact MpR.mo hmo e1 (hr.mp q kv e1) rfl
 by_cases e : q = i
 rotate_left
 ·rw [other q e] at e1
  exact RowR.mo hmo e1 (hr.row q r2 e1) (fun _ => rfl) (fun _ _ _ _ _ => ⟨rfl, rfl⟩)
 subst e
 rw [self] at e1
 cases e1
 rcases hr.row q r hi with ⟨k1, k2⟩ | ⟨k1, k2, arr, k3, k4, k5, k6, k7⟩
 ·exact .inl ⟨k1, by simp [k2]⟩
 refine .inr ⟨k1, fun h1 h2 => k2 h1 (hm h1 h2), arr, k3, Nat.le_trans (by simp only [List.length_take]; omega) k4, k5, k6, fun j c hj => ?_⟩
 obtain ⟨u, u1, u2⟩ := k7 j c (tk j c hj)
 exact ⟨u, u1, CellR.mo hmo u2 (fun k cs hc _ => ⟨rfl, rfl⟩)⟩
attribute [local go_sem] lga C.pl C.one
theorem CI (f : Nat -> Nat) (L : List Ar) : (As L).map (C.up f) = As L := by
 unfold As
 rw [List.map_flatMap]
 rfl
theorem D6 (f : List Nat) (L : List Ar) : (As L).map (C.ren f) = As L := by
 unfold As
 rw [List.map_flatMap]
 rfl
theorem Kx (r : List Ar) : (At r).map C.ofTr = As r := by
 unfold At As
 rw [List.map_flatMap]
 rfl
theorem Ky (q : List Ar) (ys : List C) (f : C -> C) (hf : (As q).map f = As q) : ((As q ++ ys).map f).take (q.length * 2) = As q := by
 rw [List.map_append, hf, List.take_append_of_le_length (by rw [Ah]; exact Nat.le_refl _), gE7 (by rw [Ah]; exact Nat.le_refl _)]

theorem F8 {xs : List Ar} {i : Nat} {e t : Int} (h : xs[i]? = some (e, t)) (x : Int) : (As xs).set (i * 2 + 1) (.v (.int .i64 x)) = As (xs.set i (e, x)) := by
 induction xs generalizing i with
 | nil => simp at h
 | cons a r ih =>
  cases i with
  | zero => simp at h; subst h; rfl
  | succ i =>
   rw [List.getElem?_cons_succ] at h
   rw [show (i + 1) * 2 + 1 = i * 2 + 1 + 2 from by omega, List.set_cons_succ]
   show C.v _ :: C.v _ :: (As r).set (i * 2 + 1) _ = _
   rw [ih h]; rfl
theorem LK (out : List (List Ar)) (x : List Ar) {i : Nat} (h : out.length = i) : (AC out).take i ++ [C.t 2 (At x)] = AC (out ++ [x]) := by
 subst h
 rw [gE7 (by rw [Af]; exact Nat.le_refl _)]
 simp [AC]
theorem Pg (l : List Int) (x : Int) : (A7 l).take l.length ++ [C.v (.int .i64 x)] = A7 (l ++ [x]) := by
 rw [gE7 (by rw [A5]; exact Nat.le_refl _), AH]
theorem NL.start (q : List Ar) (num old : List Int) : NL (CY q num old) q q 0 num old := ⟨by simp, by simp, by simp, rfl⟩
theorem NL.fin {R : List Int × List Int × List Ar} {ya q : List Ar} {k : Nat} {num old : List Int} (h : NL R ya q k num old) (hk : q.length <= k) (hl : ya.length = q.length) : ya = R.2.2 /\ num = R.1 /\ old = R.2.1 := by
 obtain ⟨h1, h2, h3, h4⟩ := h
 rw [List.drop_of_length_le hk] at h1 h2 h3
 rw [gE7 (by omega)] at h1
 simp only [CY, List.append_nil] at h1 h2 h3
 exact ⟨h1, h2, h3⟩
structure Fw (E : Nat -> List Nat) (n : Nat) (F : List Nat) (rd : Int) (seen : List Int) (out : List Nat) : Prop where
 len : seen.length = n
 st : ∀ u, u < n -> (seen.getD u 0 = rd ↔ u ∈ out)
 nd : out.Nodup
 lt : ∀ u ∈ out, u < n
 snd : ∀ u ∈ out, ∃ v ∈ F, Rc E v u
 bd : ∀ x ∈ seen, x <= rd
variable {E : Nat -> List Nat} {n : Nat} {F : List Nat} {rd : Int} {seen : List Int} {out : List Nat}
theorem Fw.start (h : seen.length = n) (hb : ∀ x ∈ seen, x < rd) : Fw E n F rd seen [] :=
 ⟨h, fun u hu => ⟨fun e => by
  rw [gE2, gE1 (by omega), Option.getD_some] at e
  have := hb _ (gE6 (show u < seen.length by omega)); omega, fun h => by simp at h⟩, List.nodup_nil, fun u h => by simp at h, fun u h => by simp at h, fun x h => by have := hb x h; omega⟩
theorem Fw.push (h : Fw E n F rd seen out) {u : Nat} (hu : u < n) (hn : seen.getD u 0 ≠ rd) (hs : ∃ v ∈ F, Rc E v u) : Fw E n F rd (seen.set u rd) (out ++ [u]) := by
 have hno : u ∉ out := fun hm => hn ((h.st u hu).2 hm)
 refine ⟨by rw [List.length_set]; exact h.len, fun w hw => ?_, ?_, fun w hw => ?_, fun w hw => ?_, fun x hx => ?_⟩
 rotate_left
 ·exact List.nodup_append.2 ⟨h.nd, by simp, fun a ha b hb => by simp at hb; subst hb; exact fun e => hno (e ▸ ha)⟩
 ·rcases List.mem_append.1 hw with h1 | h1
  ·exact h.lt w h1
  simp at h1; omega
 ·rcases List.mem_append.1 hw with h1 | h1
  ·exact h.snd w h1
  simp at h1; subst h1; exact hs
 ·rcases List.mem_or_eq_of_mem_set hx with h1 | h1
  ·exact h.bd x h1
  omega
 rw [gE2, List.getElem?_set]
 by_cases e : u = w
 ·subst e
  rw [if_pos rfl, if_pos (by rw [h.len]; exact hw)]
  simp
 rw [if_neg e, <- gE2, h.st w hw]
 simp [Ne.symm e]
theorem Fw.mem (h : Fw E n F rd seen out) {u : Nat} (hu : u < n) (hs : seen.getD u 0 = rd) : u ∈ out := (h.st u hu).1 hs
theorem Kz : ∀ (n : Nat) (l : List Nat), l.Nodup -> (∀ u ∈ l, u < n) -> l.length <= n := by
 intro n
 induction n with
 | zero => intro l _ h; cases l with
  | nil => simp
  | cons a r => have := h a (by simp); omega
 | succ n ih =>
  intro l hn hl
  have h1 : (l.erase n).length <= n := ih _ (hn.erase n) fun u hu => by
   have h2 := (List.Nodup.mem_erase_iff hn).1 hu
   have := hl u h2.2
   omega
  have := List.length_erase (a := n) (l := l)
  split at this <;> omega
theorem Fw.le (h : Fw E n F rd seen out) : out.length <= n := Kz n out h.nd h.lt
theorem Fw.done (h : Fw E n F rd seen out) (hF : ∀ v ∈ F, v ∈ out) (hc : ∀ u ∈ out, ∀ w ∈ E u, w ∈ out) (u : Nat) : u ∈ out ↔ ∃ v ∈ F, Rc E v u := by
 refine ⟨h.snd u, fun ⟨v, hv, hr⟩ => ?_⟩
 induction hr with
 | refl => exact hF v hv
 | tail _ he ih => exact hc _ (ih ⟨v, hv, ‹_›⟩) _ he
def T5 (n : Nat) (p : Nat -> Bool) : List Nat := (List.range n).filter p
theorem EG {n : Nat} {p : Nat -> Bool} {u : Nat} : u ∈ T5 n p ↔ u < n /\ p u = true := by simp [T5]
end Go.Proofs.YthnkailnoobdoaaGreatDoor
namespace Go.Proofs.YthnkailnoobdoaaGreatDoor
set_option linter.unusedVariables false
set_option linter.unusedSimpArgs false
open Go.RowKit Go.Shelf Go.Sort
set_option maxRecDepth 100000

section
variable {α : Type} [Inhabited α] {enc : α -> Value} {w : World} {blk off m : Nat} {dk : Array α} {os : Array Obj}
theorem Jm : w.heap.size <= (sortWorld enc w blk off m dk os).heap.size := by
 simp [sortWorld, grow, putRow, mapBlock, Sort.ahead]
theorem KA {k : Nat} (hk : k < w.heap.size) (hne : k ≠ blk) : (sortWorld enc w blk off m dk os).heap[k]? = w.heap[k]? := by
 simp only [sortWorld, grow, putRow, mapBlock, Sort.ahead]
 rw [Array.getElem?_append_left (by simpa using hk), Array.getElem?_modify, if_neg (Ne.symm hne)]
theorem Rt {arr : Array Value} {e : TypeId} {fz : Nat × Nat} (h : w.heap[blk]? = some (.cells arr e fz)) : (sortWorld enc w blk off m dk os).heap[blk]? = some (.cells (putCells enc off dk arr) e fz) := by
 have hk := (Array.getElem?_eq_some_iff.1 h).1
 simp only [sortWorld, grow, putRow, mapBlock, Sort.ahead]
 rw [Array.getElem?_append_left (by simpa using hk), Array.getElem?_modify, if_pos rfl, h]
 rfl
theorem UE {M : Nat -> Prop} (hM : M blk) : Fp M w (sortWorld enc w blk off m dk os) :=
 ⟨rfl, rfl, rfl, Jm, fun k hk hm => KA hk (fun e => hm (e ▸ hM)), by simp [sortWorld, grow, putRow, mapBlock, Sort.ahead]⟩
end
theorem Ru {t : Tr} {k : Nat × Nat} {cs : List Tr} : C.ofTr t ≠ .o k cs := by cases t <;> simp [C.ofTr]
theorem WM {g : Gh} {α0 : Type} {tr : α0 -> Tr} {e : TypeId} {L : List α0} {ℓ : Loc} : Lv [.r ⟨e, 1, true, L.map fun x => C.ofTr (tr x)⟩] g ℓ ↔ ℓ = .ob 0 /\ g.κ 0 ≠ 0 := by
 cases ℓ with
 | ob id =>
  constructor
  rotate_left
  ·rintro ⟨h1, h2⟩
   cases h1
   exact .inl ⟨_, rfl, h2⟩
  rintro (⟨r, h1, h2⟩ | ⟨kv, h1⟩)
  rotate_left
  ·cases id with
   | zero => simp at h1
   | succ i => simp at h1
  cases id with
  | zero => exact ⟨rfl, h2⟩
  | succ i => simp at h1
 | cl id j =>
  constructor
  rotate_left
  ·rintro ⟨h1, h2⟩; cases h1
  rintro ⟨r, k, cs, h1, h2, h3⟩
  cases id with
  | zero =>
   simp at h1; subst h1
   rw [List.getElem?_map, Option.map_eq_some_iff] at h2
   obtain ⟨x, _, h2⟩ := h2
   exact absurd h2 Ru
  | succ i => simp at h1
def WN (x : Int) : Tr := .v (.int .i64 x)
theorem Pi (L : List Int) (hsz : L.length <= 100000000) : FC Tryz.prog 70 [.a (.c (.s 0 L.length))] [.r ⟨3, 1, true, A7 L⟩] (fun r o => r = .u /\ ∃ L' : List Int, L'.Perm L /\ L'.Pairwise (fun a b => a <= b) /\ o = [.r ⟨3, 1, true, A7 L'⟩]) := by
 intro g w vals hr hargs
 obtain ⟨hlen, hargs⟩ := hargs
 obtain ⟨v1, e1, b1, b2, A, rfl, b4, b5⟩ := hargs 0 _ rfl
 have hvals : vals = [.slice A L.length (g.κ 0)] := by
  match vals, hlen with
  | [a], _ => simp at e1; simp [e1]
 subst hvals
 have lvI : ∀ {L : List Int} {ℓ : Loc}, Lv [.r ⟨3, 1, true, A7 L⟩] g ℓ ↔ ℓ = .ob 0 /\ g.κ 0 ≠ 0 := fun {L ℓ} => WM (tr := WN) (L := L)
 rcases hr.row 0 _ rfl with ⟨h0, hnil⟩ | ⟨h0, hne, arr, ha, hle, hs, hmx, hcells⟩
 ·have hL0 : L = [] := by
   have h : A7 L = [] := hnil
   simpa [A7] using h
  subst hL0
  refine (Any.slices_Sort_int_none Tryz.sortInts A (g.κ 0) w).mono ?_
  rintro e' w' ⟨rfl, rfl⟩
  exact ⟨.tuple #[], .u, _, g, rfl, ⟨rfl, [], List.Perm.refl _, List.Pairwise.nil, rfl⟩, hr, ⟨Nat.le_refl _, Ext.refl _ _⟩, fun ℓ hl => .inl ⟨ℓ, hl, rfl⟩, trivial, Fp.refl _ _⟩
 rw [b4 h0] at *
 have hblk : g.γ (.ob 0) < w.heap.size := (Array.getElem?_eq_some_iff.1 ha).1
 have hOw : Ow [.r ⟨3, 1, true, A7 L⟩] g (g.γ (.ob 0)) := .inr ⟨.ob 0, lvI.2 ⟨rfl, h0⟩, rfl⟩
 have hle' : L.length <= arr.size := by simpa [A5] using hle
 have hget : ∀ j (hj : j < L.length), arr[j]? = some (.int .i64 L[j]) := by
  intro j hj
  obtain ⟨u, u1, u2⟩ := hcells j (.v (.int .i64 L[j])) (Ax (gE1 hj))
  rw [u1, show u = .int .i64 L[j] from u2]
 have hH : Holds (Value.int .i64) w (g.γ (.ob 0)) 0 L.toArray := by
  intro j hj
  simp only [List.size_toArray] at hj
  constructor
  rotate_left
  ·simp [World.frozen?, ha]
  rw [Nat.zero_add, cell_of_row w _ j arr _ (0, 0) ha, hget j hj, getElem!_pos _ j (by simpa using hj)]
  simp
 refine (Any.slices_Sort_int Tryz.sortInts (g.γ (.ob 0)) 0 (g.κ 0) L w hH hblk (by omega)).mono ?_
 rintro e' w' ⟨rfl, m, os, rfl⟩
 obtain ⟨L', hL'⟩ : ∃ L', L' = L.mergeSort fun x y => decide (x <= y) := ⟨_, rfl⟩
 have hperm : L'.Perm L := by rw [hL']; exact List.mergeSort_perm _ _
 have hsort : L'.Pairwise (fun a b => a <= b) := by
  rw [hL']
  have := List.pairwise_mergeSort (le := fun x y : Int => decide (x <= y)) (fun a b c h1 h2 => by simp at *; omega) (fun a b => by simp; omega) L
  exact this.imp fun h => by simpa using h
 rw [<- hL']
 have hll := hperm.length_eq
 show OO _ _ _ _ _ (sortWorld (Value.int .i64) w (g.γ (.ob 0)) 0 m L'.toArray os)
 refine ⟨.tuple #[], .u, _, g, rfl, ⟨rfl, L', hperm, hsort, rfl⟩, ?_, ⟨Nat.le_refl _, Ext.refl _ _⟩, fun ℓ hl => .inl ⟨ℓ, lvI.2 (lvI.1 hl), rfl⟩, trivial, UE ⟨.ob 0, lvI.2 ⟨rfl, h0⟩, rfl⟩⟩
 refine ⟨fun b hb => Nat.lt_of_lt_of_le (hr.ml b hb) Jm, fun ℓ hl => hr.md ℓ (lvI.2 (lvI.1 hl)), fun ℓ ℓ' hl hl' => hr.inj ℓ ℓ' (lvI.2 (lvI.1 hl)) (lvI.2 (lvI.1 hl')), fun id r hid => ?_, fun id r hid => ?_, hr.gl.keep Jm (fun k hk hn => KA hk (fun e => hn (e ▸ hOw))) (fun k _ hk => hk.imp (fun h => h) (fun ⟨ℓ, hl, e⟩ => ⟨ℓ, lvI.2 (lvI.1 hl), e⟩))⟩
 rotate_left
 ·cases id with
  | zero => simp at hid
  | succ i => simp at hid
 cases id with
 | succ i => simp at hid
 | zero =>
  simp at hid
  subst hid
  refine .inr ⟨h0, fun _ hn => ?_, _, Rt ha, ?_, ?_, hmx, fun j c hj => ?_⟩
  ·have h1 : L' = [] := by simpa [A7] using hn
   rw [h1] at hll
   have h2 : L = [] := List.length_eq_zero_iff.1 hll.symm
   exact hne rfl (by simp [h2, A7])
  ·simp only [A5, putCells, Array.size_mapIdx]; omega
  ·simpa [putCells] using hs
  have hjl : j < L'.length := by have := (List.getElem?_eq_some_iff.1 hj).1; rw [A5] at this; exact this
  have hc : c = .v (.int .i64 L'[j]) := by
   rw [Ax (gE1 hjl)] at hj
   exact (Option.some.inj hj).symm
  subst hc
  refine ⟨.int .i64 L'[j], ?_, rfl⟩
  unfold putCells
  rw [Array.getElem?_mapIdx, gEd (by omega)]
  simp [hjl]
open Go.RowKit
attribute [local go_sem] lga C.pl C.one
def WO (r : List Ar) (e : Int) : List Nat := (r.filter fun a => a.1 == e).map fun a => a.2.toNat
def tg (R : List (List Ar)) (F : List Nat) (e : Int) : List Nat := F.flatMap fun s => WO (R.getD s []) e
theorem N5 {r : List Ar} {e : Int} {u : Nat} : u ∈ WO r e ↔ ∃ a ∈ r, a.1 = e /\ a.2.toNat = u := by
 unfold WO
 rw [List.mem_map]
 constructor
 rotate_left
 ·rintro ⟨a, ha, he, rfl⟩
  exact ⟨a, List.mem_filter.2 ⟨ha, by simpa using he⟩, rfl⟩
 rintro ⟨a, ha, rfl⟩
 have := List.mem_filter.1 ha
 exact ⟨a, this.1, by simpa using this.2, rfl⟩
theorem QB {R : List (List Ar)} {F : List Nat} {e : Int} {u : Nat} : u ∈ tg R F e ↔ ∃ s ∈ F, u ∈ WO (R.getD s []) e := by unfold tg; rw [List.mem_flatMap]
end Go.Proofs.YthnkailnoobdoaaGreatDoor
