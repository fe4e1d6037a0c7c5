/- Lemmas. -/
import Derived.Test.YtjijjfkalheokaaDoorG11
import Derived.Test.YtjijjfkalheokaaDoorZk
import Derived.Test.YtjijjfkalheokaaDoorG45
import Derived.Test.YtjijjfkalheokaaDoorMD
import Derived.Test.YtjijjfkalheokaaDoorShlf
import Derived.Shelf.SlSortCmp.NoneTotal
import Derived.Test.YtjijjfkalheokaaDoorMF
import Derived.Test.YtjijjfkalheokaaDoorMlz
namespace Go.Proofs.YtjijjfkalheokaaDoor
set_option linter.unusedVariables false
set_option linter.unusedSimpArgs false
open Go.RowKit
set_option maxRecDepth 100000

end Go.Proofs.YtjijjfkalheokaaDoor
namespace Go.Proofs.YtjijjfkalheokaaDoor
set_option linter.unusedVariables false
set_option linter.unusedSimpArgs false
open Go.RowKit
set_option maxRecDepth 100000

def Dt {α : Type} [DecidableEq α] (p : α) : List α -> List α
 | [] => []
 | y :: ys => if y = p then Dt p ys else y :: Dt y ys
def Kj {α : Type} [DecidableEq α] : List α -> List α
 | [] => []
 | x :: xs => x :: Dt x xs
section
variable {α : Type} [DecidableEq α]
theorem FS {r ys : List α} {m p : Nat} {a b : α} (h : r = ys.take m ++ Dt a (ys.drop p)) (hm : m <= p) (hb : ys[p]? = some b) :
  (b = a -> r = ys.take m ++ Dt b (ys.drop (p + 1))) /\
  (b ≠ a -> r = (ys.set m b).take (m + 1) ++ Dt b ((ys.set m b).drop (p + 1))) /\ (b ≠ a -> m = p -> ys.set m b = ys) := by
 have hl := (List.getElem?_eq_some_iff.1 hb).1
 have hbe : ys[p] = b := (List.getElem?_eq_some_iff.1 hb).2
 have hd : ys.drop p = b :: ys.drop (p + 1) := by
  rw [List.drop_eq_getElem_cons hl, hbe]
 rw [hd] at h
 refine ⟨fun e => ?_, fun e => ?_, fun _ e => ?_⟩
 rotate_left 2
 ·subst e; rw [<- hbe]; exact List.set_getElem_self hl
 ·rw [h, e]; simp [Dt]
 have h2 : (ys.set m b).drop (p + 1) = ys.drop (p + 1) := by rw [List.drop_set, if_pos (by omega)]
 have h3 : (ys.set m b).take (m + 1) = ys.take m ++ [b] := by
  rw [List.take_add_one, List.take_set_of_le (Nat.le_refl m)]
  simp [List.getElem?_set, show m < ys.length by omega]
 rw [h, h2, h3]
 simp [Dt, e]
theorem LF {r ys : List α} {m p : Nat} {a : α} (h : r = ys.take m ++ Dt a (ys.drop p)) (hp : ys.length <= p) : r = ys.take m := by
 rw [h, List.drop_eq_nil_of_le hp]; simp [Dt]
end
def Ie (L : List (List Int)) : List C := L.map fun x => C.t 1 (Af x)
theorem Jh : ∀ (zs cs : List C) (off : Nat), off + zs.length = cs.length -> De cs off zs = cs.take off ++ zs
 | [], cs, off, h => by simp [De] at h ⊢; rw [gE7 (by omega)]
 | x :: r, cs, off, h => by
  simp only [De]
  rw [Jh r _ (off + 1) (by simp at h ⊢; omega)]
  rw [List.take_add_one, List.take_set_of_le (Nat.le_refl _)]
  simp [List.getElem?_set, show off < cs.length by simp at h; omega]
end Go.Proofs.YtjijjfkalheokaaDoor
namespace Go.Proofs.YtjijjfkalheokaaDoor
set_option linter.unusedVariables false
set_option linter.unusedSimpArgs false
open Go.RowKit
set_option maxRecDepth 100000

theorem D0 {xs : List Ar} {i : Nat} (h : i < xs.length) : (((Ao xs).drop (i * 2)).take 2) = [.v (.int .i64 xs[i].1), .v (.int .i64 xs[i].2)] := by
 have := congrArg (List.map C.ofTr) (AH h)
 rw [List.map_take, List.map_drop, Lf] at this
 exact this
theorem LG {ys : List Ar} {m : Nat} (h : m < ys.length) {a b : Int} : ((Ao ys).set (m * 2) (.v (.int .i64 a))).set (m * 2 + 1) (.v (.int .i64 b)) = Ao (ys.set m (a, b)) := by
 induction ys generalizing m with
 | nil => simp at h
 | cons y r ih =>
  have e : Ao (y :: r) = C.v (.int .i64 y.1) :: C.v (.int .i64 y.2) :: Ao r := rfl
  cases m with
  | zero => rw [e]; rfl
  | succ m =>
   have e2 : Ao ((y :: r).set (m + 1) (a, b)) = C.v (.int .i64 y.1) :: C.v (.int .i64 y.2) :: Ao (r.set m (a, b)) := rfl
   rw [e, e2, <- ih (by simpa using h), show (m + 1) * 2 = m * 2 + 1 + 1 by omega]
   rfl
theorem LH (x y : Operand) (a b : Ar) : EL Tryd.prog .neq 29 x y [.int .i64 a.1, .int .i64 a.2] [.int .i64 b.1, .int .i64 b.2] (!decide (a = b)) = True := by
 rw [<- CN]
 refine eq_true ?_
 have := (Rg x y [.v (.int .i64 a.1), .v (.int .i64 a.2)] [.v (.int .i64 b.1), .v (.int .i64 b.2)] _ _ rfl rfl rfl rfl).2
 simpa [Th] using this
theorem LI : ∀ l : List Ar, Kj l = NB l := by
 have h : ∀ (l : List Ar) (p : Ar), Dt p l = CP p l := by
  intro l
  induction l with
  | nil => intro p; rfl
  | cons y ys ih => intro p; simp only [Dt, CP, ih]
 intro l
 cases l with
 | nil => rfl
 | cons x xs => simp only [Kj, NB, h]
attribute [local go_sem] List.map_cons List.map_nil List.take_succ_cons List.take_zero List.drop_zero List.drop_succ_cons C.pl C.one List.all_cons List.all_nil Bool.and_true
set_option maxHeartbeats 1000000 in
theorem Hv (L : List Ar) (hn : L.length <= 100000000) : FC Tryd.prog 40 [.a (.c (.s 0 L.length))] [.r ⟨29, 2, true, Ao L⟩]
  (fun r o => r = .a (.c (.s 0 (Kj L).length)) /\ ∃ rest us, Fz rest us /\ (L = [] -> rest = []) /\ o = [.r ⟨29, 2, true, Ao (Kj L) ++ rest⟩]) := by
 refine A8 Tryd.func40 rfl (by rw [Tryd.ntmps40]; simp) ?_
 rw [Tryd.ntmps40]
 simp only [Bs]
 (refine Ud ?_;(repeat clear hK K);repeat refine kq fun K hK=>?_)
 (refine Aw ?_; intro X Y hX hY; simp only [go_sem])
 refine ⟨fun h => hX ?_, fun h => hY ?_⟩
 ·clear hX hY X Y
  (refine Ud ?_;(repeat clear hK K);repeat refine kq fun K hK=>?_)
  refine Uq Tryd.results40 ?_
  have hc : Kj L = L := by
   match L, h with
   | [], _ => rfl
   | [x], _ => rfl
   | _ :: _ :: _, h => simp at h; omega
  rw [hc]
  exact ⟨rfl, [], [], trivial, fun _ => rfl, by simp⟩
 clear hX hY X Y
 have h2 : 2 <= L.length := by simp at h; omega
 clear h
 (refine Ud ?_;(repeat clear hK K);repeat refine kq fun K hK=>?_)
 refine Ac (fun k : Nat => { tm := [(0, .a (.c (.s 0 L.length))), (3, .i (k + 1 : Nat))], hp := [.r ⟨29, 2, true, Ao L⟩], n := 61, pin := 1 }) (fun k => k + 1 <= L.length /\ Kj L = L.take (k + 1) ++ Dt (L.getD k (0, 0)) (L.drop (k + 1))) (fun k => L.length - k) 0 ?_ ?_ ?_
 ·refine ⟨by omega, ?_⟩
  match L, h2 with
  | x :: r, _ => simp [Kj]
 ·exact Un
 rintro k ⟨hk, he⟩ K hK
 (refine Ud ?_;(repeat clear hK K);repeat refine kq fun K hK=>?_)
 (refine Aw ?_; intro X Y hX hY; simp only [go_sem])
 refine ⟨fun h => hX ?_, fun h => hY ?_⟩
 rotate_left
 ·have hge : k + 1 = L.length := by simp at h; omega
  clear hX hY X Y
  (refine Uh ?_;repeat clear hK K)
  (refine Ud ?_;(repeat clear hK K);repeat refine kq fun K hK=>?_)
  refine Uq Tryd.results40 ?_
  have hc : Kj L = L := by rw [he, hge]; simp [Dt]
  rw [hc]
  exact ⟨rfl, [], [], trivial, fun _ => rfl, by simp⟩
 have hlt : k + 1 < L.length := by simp at h; omega
 have hlt0 : k < L.length := by omega
 clear hX hY X Y h
 have e1 : ((k + 1 : Nat) : Int) - 1 = (k : Int) := by omega
 have g0 : L.getD k (0, 0) = L[k] := by simp [List.getD, hlt0]
 rw [g0] at he
 have hst := FS he (Nat.le_refl _) (gE1 hlt)
 (refine Ud ?_;(repeat clear hK K);repeat refine kq fun K hK=>?_)
 (refine Ag 9 [(0, 0), (1, 0), (2, 0), (3, 1), (4, 0), (5, 0), (6, 0), (7, 0), (8, 1), (9, 2)] (by kernel_rfl) (by kernel_rfl) (by intro c st h; simp [Ai, AX, Tz] at h) ?_)
 (refine Ua (an @e1 (an (D0 hlt) (an (D0 hlt0) (an @Aq (an @Pv (an @CN @true_and)))))) ?_; repeat clear hK K)
 (refine Aw ?_; intro X Y hX hY; simp only [go_sem])
 refine ⟨fun h => hX ?_, fun h => hY ?_⟩
 rotate_left
 ·clear hX hY X Y
  have hne : L[k + 1] ≠ L[k] := by simpa using h
  clear h
  (refine Ud ?_;(repeat clear hK K);repeat refine kq fun K hK=>?_)
  refine Um ?_
  refine hK _ (k + 1) ⟨hlt, ?_⟩ (by omega) ?_
  rotate_left
  ·exact Un
  have h1 := hst.2.1 hne
  rw [hst.2.2 hne rfl] at h1
  have : L.getD (k + 1) (0, 0) = L[k + 1] := by simp [List.getD, hlt]
  rw [this]
  exact h1
 clear hX hY X Y
 have heq : L[k + 1] = L[k] := by simpa using h
 clear h
 have hI := hst.1 heq
 clear hst he
 (refine Ud ?_;(repeat clear hK K);repeat refine kq fun K hK=>?_)
 refine Ac (fun q : Nat × Nat × List Ar => { tm := [(0, .a (.c (.s 0 L.length))), (3, .i q.1), (4, .a (.c (.w 0 (k + 1) (L.length - (k + 1)) 2))), (5, .i (q.2.1 + 1 : Nat))], hp := [.r ⟨29, 2, true, Ao q.2.2⟩], n := 61, pin := 1 })
  (fun q => q.2.2.length = L.length /\ (∀ x ∈ q.2.2, x ∈ L) /\ q.1 <= k + 1 + q.2.1 /\ k + 2 + q.2.1 <= L.length /\ Kj L = q.2.2.take q.1 ++ Dt (q.2.2.getD (k + 1 + q.2.1) (0, 0)) (q.2.2.drop (k + 2 + q.2.1))) (fun q => L.length - q.2.1) (k + 1, 0, L) ?_ ?_ ?_
 ·refine ⟨rfl, fun x h => h, by simp, by simp only; omega, ?_⟩
  have : L.getD (k + 1) (0, 0) = L[k + 1] := by simp [List.getD, hlt]
  simp only [Nat.add_zero, this]
  exact hI
 ·exact Un
 clear hI
 rintro ⟨m, j, ys⟩ ⟨hyl, hys, hm, hj, he⟩ K hK
 simp only at hyl hys hm hj he
 (refine Ud ?_;(repeat clear hK K);repeat refine kq fun K hK=>?_)
 (refine Aw ?_; intro X Y hX hY; simp only [go_sem])
 refine ⟨fun h => hX ?_, fun h => hY ?_⟩
 rotate_left
 ·clear hX hY X Y
  (refine Uh ?_;repeat clear hK K)
  have hend : ys.length <= k + 2 + j := by simp at h; omega
  have hfin := LF he hend
  have hm2 : m < L.length := by omega
  (refine Ud ?_;(repeat clear hK K);repeat refine kq fun K hK=>?_)
  refine A9 rfl ?_; intro K1 hK1
  refine L1 (n := L.length - m) (off := m) (k := 2) (id := 0) rfl rfl Tryd.underlying30 ty29 (by simp only [go_sem]) rfl (by omega) rfl rfl (by simp only [Aq]; omega) ?_
  intro zs hz1 hz2
  have hset : De (Ao ys) (m * 2) zs = Ao (ys.take m) ++ zs := by
   rw [Jh _ _ _ (by rw [Aq]; omega), FP]
  simp only [hset, List.set_cons_zero, go_sem]
  refine hK1 _ ?_; clear hK1 K1
  (refine Ud ?_;(repeat clear hK K);repeat refine kq fun K hK=>?_)
  refine Uq Tryd.results40 ?_
  have hc : Kj L = ys.take m := hfin
  rw [hc]
  refine ⟨by rw [List.length_take, Nat.min_eq_left (by omega)], zs, zs.map fun _ => Tr.v (.int .i64 0), ?_, fun h0 => by rw [h0] at h2; simp at h2, rfl⟩
  have : zs = zs.map id := by simp
  rw [this, List.map_map]
  exact Fz.map fun c hc => by
   have := hz2 c hc
   simp at this
   subst this
   exact .inl rfl
 have hlt : k + 1 + (j + 1) < ys.length := by simp at h; omega
 have hlt0 : k + 1 + j < ys.length := by omega
 have hw : ((j + 1 : Nat) : Int) < ((L.length - (k + 1) : Nat) : Int) := by omega
 have hw0 : (j : Int) < ((L.length - (k + 1) : Nat) : Int) := by omega
 clear hX hY X Y h
 have e1 : ((j + 1 : Nat) : Int) - 1 = (j : Int) := by omega
 have g0 : ys.getD (k + 1 + j) (0, 0) = ys[k + 1 + j] := by simp [List.getD, hlt0]
 rw [g0, show k + 2 + j = k + 1 + (j + 1) from by omega] at he
 have hst := FS he (by omega) (gE1 hlt)
 (refine Ud ?_;(repeat clear hK K);repeat refine kq fun K hK=>?_)
 have hk1 : k + 1 + (j + 1) = k + 1 + (j + 1) := rfl
 (refine Ag 9 [(0, 0), (1, 0), (2, 0), (3, 1), (4, 0), (5, 0), (6, 0), (7, 0), (8, 1), (9, 2)] (by kernel_rfl) (by kernel_rfl) (by intro c st h; simp [Ai, AX, Tz] at h) ?_)
 (refine Ua (an @e1 (an (D0 hlt) (an (D0 hlt0) (an @Aq (an @LH (an @CN @true_and)))))) ?_; repeat clear hK K)
 (refine Aw ?_; intro X Y hX hY; simp only [go_sem])
 refine ⟨fun h => hX ?_, fun h => hY ?_⟩
 rotate_left
 ·clear hX hY X Y
  have heq : ys[k + 1 + (j + 1)] = ys[k + 1 + j] := by simpa using h
  clear h
  (refine Ud ?_;(repeat clear hK K);repeat refine kq fun K hK=>?_)
  refine Um ?_
  refine hK _ (m, j + 1, ys) ⟨hyl, hys, by simp only; omega, by simp only; omega, ?_⟩ (by simp only; omega) ?_
  rotate_left
  ·exact Un
  have h1 := hst.1 heq
  have : ys.getD (k + 1 + (j + 1)) (0, 0) = ys[k + 1 + (j + 1)] := by simp [List.getD, hlt]
  simp only
  rw [this, show k + 2 + (j + 1) = k + 1 + (j + 1) + 1 from by omega]
  exact h1
 clear hX hY X Y
 have hne : ys[k + 1 + (j + 1)] ≠ ys[k + 1 + j] := by simpa using h
 clear h
 have hm1 : m < ys.length := by omega
 (repeat (first | (refine Au ?_; intro K hK) | refine Ah ?_ | refine Aa ?_ | (refine B4 rfl rfl ?_; intro K1 hK1; simp only [go_sem, D0 hlt, Aq, De, LG hm1]; (first | refine hK1 _ ?_ | refine AE (hK1 _ ?_)); clear hK1 K1) | ((first | refine Ab ?_ | refine Aj ?_); refine hK _ ?_; clear hK K)))
 refine Um ?_
 have hst2 := hst.2.1 hne
 have hpp : (ys.set m ys[k + 1 + (j + 1)]).getD (k + 1 + (j + 1)) (0, 0) = ys[k + 1 + (j + 1)] := by
  rw [List.getD, gE5 (by omega), gE1 hlt]; rfl
 refine hK _ (m + 1, j + 1, ys.set m ys[k + 1 + (j + 1)]) ⟨by simp [hyl], ?_, by simp only; omega, by simp only; omega, ?_⟩ (by simp only; omega) ?_
 rotate_left
 ·simp only
  rw [hpp, show k + 2 + (j + 1) = k + 1 + (j + 1) + 1 from by omega]
  exact hst2
 ·exact Un
 intro x hx
 rcases List.mem_or_eq_of_mem_set hx with hx | rfl
 ·exact hys x hx
 exact hys _ (gE6 hlt)

open Go.RowKit Go.Shelf Go.Sort
def UJ (a : Ar) : List Value := [.int .i64 a.1, .int .i64 a.2]
theorem Fc (xs : List Ar) : Ao xs = (xs.flatMap UJ).map C.v := by simp [Ao, UJ, List.map_flatMap]
theorem T7 : Sort.SWO (ltOf F5) where
 irrefl x := by rw [show ltOf F5 x x = Ut x x from BM x x]; exact E3 x
 trans x y z h1 h2 := by
  rw [show ltOf F5 x y = Ut x y from BM x y] at h1
  rw [show ltOf F5 y z = Ut y z from BM y z] at h2
  rw [show ltOf F5 x z = Ut x z from BM x z]
  exact Cq h1 h2
 ntrans x y z h1 h2 := by
  rw [show ltOf F5 x y = Ut x y from BM x y] at h1
  rw [show ltOf F5 y z = Ut y z from BM y z] at h2
  rw [show ltOf F5 x z = Ut x z from BM x z]
  cases h3 : Ut x z with
  | false => rfl
  | true =>
   have h1 : ¬ Ut x y = true := by rw [h1]; simp
   have h2 : ¬ Ut y z = true := by rw [h2]; simp
   rw [BA] at h1 h2 h3
   omega
theorem LJ (xs : List Ar) : flatK UJ 2 xs.toArray = (xs.flatMap UJ).toArray := by
 apply Array.ext
 ·simp [Dz UJ 2 (fun _ => rfl)]
 intro t h1 h2
 simp only [size_flatK, List.size_toArray] at h1
 have hd : t / 2 < xs.length := Nat.div_lt_of_lt_mul (by rw [Nat.mul_comm]; exact h1)
 have hm : t % 2 < 2 := Nat.mod_lt _ (by omega)
 have hg := FZ UJ 2 (fun _ => rfl) xs (t / 2) (t % 2) xs[t / 2] (gE1 hd) hm
 have htd : t / 2 * 2 + t % 2 = t := by rw [Nat.mul_comm]; exact Nat.div_add_mod t 2
 rw [htd] at hg
 have h3 := get_flatK UJ 2 xs.toArray t (by simpa using h1)
 rw [getElem!_pos _ t (by simpa using h1)] at h3
 rw [h3]
 have h4 : (xs.toArray)[t / 2]! = xs[t / 2] := by simp [hd]
 rw [h4, getElem!_pos _ _ (by simp [UJ]; omega)]
 have hlt : t < (xs.flatMap UJ).length := by rw [Dz UJ 2 (fun _ => rfl)]; exact h1
 rw [gE1 hlt, gE1 (by simp [UJ]; omega)] at hg
 exact (Option.some.inj hg).symm
def Eu (xs : List Ar) : List Ar := xs.mergeSort fun x y => !(ltOf F5) y x
theorem Kk (l : List Ar) : (Eu l).Perm l := List.mergeSort_perm _ _
theorem NH (l : List Ar) : (Eu l).Pairwise fun a b => Ut b a = false := by
 have e (x y : Ar) : ltOf F5 x y = Ut x y := BM x y
 have h := List.pairwise_mergeSort (le := fun x y => !(ltOf F5) y x) (fun a b c h1 h2 => by
  simp only [e, Bool.not_eq_true'] at *
  cases h3 : Ut c a with
  | false => rfl
  | true =>
   have h1 : ¬ Ut b a = true := by rw [h1]; simp
   have h2 : ¬ Ut c b = true := by rw [h2]; simp
   rw [BA] at h1 h2 h3
   omega) (fun a b => by
  simp only [e]
  cases h1 : Ut b a <;> cases h2 : Ut a b <;> simp
  rw [BA] at h1 h2; omega) l
 refine h.imp ?_
 intro a b hab
 simpa [e] using hab
theorem Hw {w w' : World} (h : Fp (fun _ => False) w w') : ∃ q os, w' = grow (w.drewN q) os := by
 refine ⟨w'.drawn - w.drawn, w'.heap.extract w.heap.size w'.heap.size, ?_⟩
 obtain ⟨hp, tp, dr, o, ou⟩ := w'
 obtain ⟨h1, h2, h3, h4, h5, h6⟩ := h
 simp only at h1 h2 h3 h4 h5 h6
 subst h1; subst h2; subst h3
 simp only [grow, World.drewN]
 congr 1
 rotate_left
 ·omega
 apply Array.ext'
 simp only [Array.toList_append, Array.toList_extract]
 apply List.ext_getElem?
 intro i
 by_cases hi : i < w.heap.size
 ·rw [gEa (by simpa using hi)]
  have := h5 i hi (fun h => h)
  simpa using this
 rw [gEb (by simpa using hi)]
 simp only [List.extract_eq_take_drop, Array.length_toList, List.getElem?_take, List.getElem?_drop]
 split
 ·congr 1; omega
 rename_i hn; simp; omega
theorem S7 (gg : Gh) (ℓ : Loc) : ¬ Lv [] gg ℓ := by
 intro hl
 cases ℓ with
 | ob id => rcases hl with ⟨r, h, _⟩ | ⟨kv, h⟩ <;> simp at h
 | cl id j => obtain ⟨r, k, cs, h, _⟩ := hl; simp at h
theorem UK {g : Gh} {e : TypeId} {L : List Ar} {ℓ : Loc} : Lv [.r ⟨e, 2, true, Ao L⟩] g ℓ ↔ ℓ = .ob 0 /\ g.κ 0 ≠ 0 := by
 cases ℓ with
 | ob id =>
  constructor
  rotate_left
  ·rintro ⟨h1, h2⟩
   cases h1
   exact .inl ⟨_, rfl, h2⟩
  rintro (⟨r, h1, h2⟩ | ⟨kv, h1⟩)
  rotate_left
  ·cases id with
   | zero => simp at h1
   | succ i => simp at h1
  cases id with
  | zero => exact ⟨rfl, h2⟩
  | succ i => simp at h1
 | cl id j =>
  constructor
  rotate_left
  ·rintro ⟨h1, h2⟩; cases h1
  rintro ⟨r, k, cs, h1, h2, h3⟩
  cases id with
  | zero =>
   simp at h1; subst h1
   rw [Fc, List.getElem?_map, Option.map_eq_some_iff] at h2
   obtain ⟨x, _, h2⟩ := h2
   cases h2
  | succ i => simp at h1
set_option maxHeartbeats 1000000 in
theorem Ji (f : FuncId) (hf : B0 Tryd.prog f = true) (hcmp : ∀ a b : Ar, FC Tryd.prog f [.a (.g [.v (.int .i64 a.1), .v (.int .i64 a.2)]), .a (.g [.v (.int .i64 b.1), .v (.int .i64 b.2)])] [] (fun r o => o = [] /\ r = .i (F5 a b))) (L : List Ar) (hsz : L.length <= 100000000) :
  FC Tryd.prog 39 [.a (.c (.s 0 L.length)), .a (.c (.f f []))] [.r ⟨29, 2, true, Ao L⟩]
   (fun r o => r = .u /\ ∃ L' : List Ar, L'.Perm L /\ L'.Pairwise (fun a b => Ut b a = false) /\ o = [.r ⟨29, 2, true, Ao L'⟩]) := by
 intro g w vals hr hargs
 obtain ⟨hlen, hargs⟩ := hargs
 obtain ⟨v1, e1, b1, b2, A, rfl, b4, b5⟩ := hargs 0 _ rfl
 obtain ⟨v2, e2, c1, c2⟩ := hargs 1 _ rfl
 have hv2 : v2 = .func (.func f) #[] #[] := by rw [c2]; simp [Td]
 subst hv2
 have hvals : vals = [.slice A L.length (g.κ 0), .func (.func f) #[] #[]] := by
  match vals, hlen with
  | [a, b], _ => simp at e1 e2; simp [e1, e2]
 subst hvals
 rcases hr.row 0 _ rfl with ⟨h0, hnil⟩ | ⟨h0, hne, arr, ha, hle, hs, hmx, hcells⟩
 ·have hL0 : L = [] := by
   have : (Ao L).length = 0 := by have h : Ao L = [] := hnil; rw [h]; rfl
   rw [Aq] at this
   exact List.length_eq_zero_iff.1 (by omega)
  subst hL0
  refine (AnyF.slices_SortFunc_none Tryd.sortArcs A (g.κ 0) (.func (.func f) #[] #[]) w).mono ?_
  rintro e' w' ⟨rfl, rfl⟩
  exact ⟨.tuple #[], .u, _, g, rfl, ⟨rfl, [], List.Perm.refl _, List.Pairwise.nil, rfl⟩, hr, ⟨Nat.le_refl _, Ext.refl _ _⟩, fun ℓ hl => .inl ⟨ℓ, hl, rfl⟩, trivial, Fp.refl _ _⟩
 have hL0 : L ≠ [] := fun e => by subst e; exact hne rfl rfl
 have x0 : 0 < L.length := List.length_pos_iff.2 hL0
 rw [b4 h0] at *
 have hblk : g.γ (.ob 0) < w.heap.size := (Array.getElem?_eq_some_iff.1 ha).1
 have hle' : L.length * 2 <= arr.size := by simpa [Aq] using hle
 have hfl := Dz UJ 2 (fun _ => rfl) L
 have hget : ∀ j, j < L.length * 2 -> arr[j]? = (L.flatMap UJ)[j]? := by
  intro j hj
  obtain ⟨v, hv⟩ : ∃ v, (L.flatMap UJ)[j]? = some v := ⟨_, gE1 (by rw [hfl]; exact hj)⟩
  obtain ⟨u, u1, u2⟩ := hcells j (.v v) (by rw [Fc, List.getElem?_map, hv]; rfl)
  have hu : u = v := u2
  rw [u1, hv, hu]
 have hlays : CmpLays Tryd.prog f #[] UJ 2 F5 (g.γ (.ob 0)) 0 L.toArray.size w := by
  intro m os dk _ x y
  have hoth : ∀ k, k < w.heap.size -> ¬ Ow [.r ⟨29, 2, true, Ao L⟩] g k -> (sortWorldK UJ 2 w (g.γ (.ob 0)) 0 m dk os).heap[k]? = w.heap[k]? := by
   intro k hk hn
   have hn2 : k ≠ g.γ (.ob 0) := fun e => hn (.inr ⟨.ob 0, UK.2 ⟨rfl, h0⟩, e.symm⟩)
   unfold sortWorldK putRowK putRow mapBlock Sort.grow Sort.ahead
   simp only
   rw [Array.getElem?_append_left (by simpa using hk), Array.getElem?_modify, if_neg (Ne.symm hn2)]
  generalize hW : sortWorldK UJ 2 w (g.γ (.ob 0)) 0 m dk os = W at hoth
  have hsz' : w.heap.size <= W.heap.size := by rw [<- hW]; simp [sortWorldK, putRowK, putRow, mapBlock, Sort.grow, Sort.ahead]
  have hHR : HR ⟨g.γ, g.κ, fun _ => False⟩ [] W := ⟨fun b hb => hb.elim, fun ℓ hl => absurd hl (S7 _ ℓ), fun ℓ _ hl => absurd hl (S7 _ ℓ), fun id r h => by simp at h, fun id r h => by simp at h, hr.gl.keep hsz' hoth (fun k _ hk => hk.elim (fun h => h.elim) (fun ⟨ℓ, hl, _⟩ => absurd hl (S7 _ ℓ)))⟩
  have hA : Fq ⟨g.γ, g.κ, fun _ => False⟩ [] W [.a (.g [.v (.int .i64 x.1), .v (.int .i64 x.2)]), .a (.g [.v (.int .i64 y.1), .v (.int .i64 y.2)])] [.agg #[.int .i64 x.1, .int .i64 x.2], .agg #[.int .i64 y.1, .int .i64 y.2]] := by
   refine ⟨rfl, fun i a hi => ?_⟩
   have ag : ∀ z : Ar, A0R (CR ⟨g.γ, g.κ, fun _ => False⟩ [] W) (.g [.v (.int .i64 z.1), .v (.int .i64 z.2)]) (.agg #[.int .i64 z.1, .int .i64 z.2]) := fun z => ⟨[.int .i64 z.1, .int .i64 z.2], rfl, rfl, fun q c hq => by
    match q, hq with
    | 0, hq => simp at hq; subst hq; exact ⟨_, rfl, rfl⟩
    | 1, hq => simp at hq; subst hq; exact ⟨_, rfl, rfl⟩
    | q + 2, hq => simp at hq⟩
   match i, hi with
   | 0, hi => cases hi; exact ⟨_, rfl, ag x⟩
   | 1, hi => cases hi; exact ⟨_, rfl, ag y⟩
   | i + 2, hi => simp at hi
  refine Calls.mono (hcmp x y _ _ _ hHR hA) ?_
  rintro e' w' ⟨v, r, outs, g', rfl, ⟨rfl, rfl⟩, _, _, _, hv, hfp⟩
  exact ⟨by rw [show v = _ from hv], Hw (hfp.mono fun k _ ⟨ℓ, hl, _⟩ => absurd hl (S7 _ ℓ))⟩
 have hH : HoldsK UJ 2 w (g.γ (.ob 0)) 0 L.toArray := by
  unfold HoldsK Holds
  rw [LJ]
  intro j hj
  simp only [List.size_toArray, hfl] at hj
  constructor
  rotate_left
  ·simp [World.frozen?, ha]
  rw [Nat.zero_add, cell_of_row w _ j arr _ (0, 0) ha, hget j hj, getElem!_pos _ j (by simpa [hfl] using hj)]
  simp [hfl, hj]
 have eg : ∀ args w, (callFunc f args).run Tryd.prog w = .ok (.enter f args) w := fun args w => Bl hf args w
 have hcon := AnyQ.slices_SortFunc_total Tryd.sortArcs 2 Tryd.isAgg29 Tryd.sizeOf29 UJ (fun _ => rfl) (fun x v hv => by simp [UJ] at hv; rcases hv with rfl | rfl <;> rfl) F5 T7 f #[] (g.γ (.ob 0)) 0 (g.κ 0) L.toArray w eg hlays hH hblk (by simp; omega)
  (fun x y h1 h2 => by
   rw [show ltOf F5 x y = Ut x y from BM x y] at h1
   rw [show ltOf F5 y x = Ut y x from BM y x] at h2
   rcases Gi x y with h | h | h
   ·rw [h] at h1; cases h1
   ·exact h
   ·rw [h] at h2; cases h2)
 change Calls Tryd.prog 39 _ _ _ at hcon
 have hsz2 : L.toArray.size = L.length := by simp
 rw [hsz2] at hcon
 refine hcon.mono ?_
 rintro e' w' ⟨rfl, m, os, rfl⟩
 have hSl : (Eu L).length = L.length := List.length_mergeSort _
 have hfl' := Dz UJ 2 (fun _ => rfl) (Eu L)
 have hself : (sortWorldK UJ 2 w (g.γ (.ob 0)) 0 m (Eu L).toArray os).heap[g.γ (.ob 0)]? = some (.cells (putCells id 0 ((Eu L).flatMap UJ).toArray arr) 29 (0, 0)) := by
  unfold sortWorldK putRowK putRow mapBlock Sort.grow Sort.ahead
  rw [LJ]
  simp only
  rw [Array.getElem?_append_left (by simpa using hblk), Array.getElem?_modify, if_pos rfl, ha]
  rfl
 have hsize : w.heap.size <= (sortWorldK UJ 2 w (g.γ (.ob 0)) 0 m (Eu L).toArray os).heap.size := by simp [sortWorldK, putRowK, putRow, mapBlock, Sort.grow, Sort.ahead]
 have hother : ∀ k, k < w.heap.size -> k ≠ g.γ (.ob 0) -> (sortWorldK UJ 2 w (g.γ (.ob 0)) 0 m (Eu L).toArray os).heap[k]? = w.heap[k]? := by
  intro k hk hn
  unfold sortWorldK putRowK putRow mapBlock Sort.grow Sort.ahead
  simp only
  rw [Array.getElem?_append_left (by simpa using hk), Array.getElem?_modify, if_neg (Ne.symm hn)]
 have hfp : Fp (ER [.r ⟨29, 2, true, Ao L⟩] g) w (sortWorldK UJ 2 w (g.γ (.ob 0)) 0 m (Eu L).toArray os) :=
  ⟨rfl, rfl, rfl, hsize, fun k hk hm => hother k hk fun e => hm ⟨.ob 0, UK.2 ⟨rfl, h0⟩, e.symm⟩, by simp [sortWorldK, putRowK, putRow, mapBlock, Sort.grow, Sort.ahead]⟩
 refine ⟨.tuple #[], .u, _, g, rfl, ⟨rfl, Eu L, Kk L, NH L, rfl⟩, ?_, ⟨by simp, Ext.refl _ _⟩, fun ℓ hl => .inl ⟨ℓ, UK.2 (UK.1 hl), rfl⟩, trivial, hfp⟩
 refine ⟨fun b hb => Nat.lt_of_lt_of_le (hr.ml b hb) hsize, fun ℓ hl => hr.md ℓ (UK.2 (UK.1 hl)), fun ℓ ℓ' hl hl' => hr.inj ℓ ℓ' (UK.2 (UK.1 hl)) (UK.2 (UK.1 hl')), fun id r hid => ?_, fun id r hid => ?_, hr.gl.keep hsize (fun k hk hn => hother k hk (fun e => hn (.inr ⟨.ob 0, UK.2 ⟨rfl, h0⟩, e.symm⟩))) (fun k _ hk => hk.imp (fun h => h) (fun ⟨ℓ, hl, e⟩ => ⟨ℓ, UK.2 (UK.1 hl), e⟩))⟩
 rotate_left
 ·cases id with
  | zero => simp at hid
  | succ i => simp at hid
 cases id with
 | succ i => simp at hid
 | zero =>
  simp at hid
  subst hid
  refine .inr ⟨h0, fun _ hn => ?_, _, hself, ?_, ?_, hmx, fun j c hj => ?_⟩
  ·have : (Ao (Eu L)).length = 0 := by simp only at hn; rw [hn]; rfl
   rw [Aq, hSl] at this; omega
  ·simp only [Aq, hSl, putCells, Array.size_mapIdx]; exact hle'
  ·simpa [putCells] using hs
  rw [Fc, List.getElem?_map, Option.map_eq_some_iff] at hj
  obtain ⟨v, hv, rfl⟩ := hj
  have hjl : j < L.length * 2 := by have := (List.getElem?_eq_some_iff.1 hv).1; rw [hfl', hSl] at this; exact this
  refine ⟨v, ?_, rfl⟩
  have hj2 : j < ((Eu L).flatMap UJ).length := by rw [hfl', hSl]; exact hjl
  have hjc : j < arr.size := by omega
  simp only [putCells, Array.getElem?_mapIdx, Nat.zero_le, true_and, Nat.zero_add, List.size_toArray, hj2, if_true, Nat.sub_zero]
  rw [gEd hjc]
  rw [gE1 hj2] at hv
  have hv2 := Option.some.inj hv
  rw [<- hv2]
  simp
  rw [gE1 hj2]; rfl
theorem PG {s : ST} (i m : Nat) {r : Row} (hi : s.hp[i]? = some (.r r)) (hm : r.sl = true -> r.cells.take m = [] -> r.cells = []) : Le s { s with hp := s.hp.set i (.r { r with cells := r.cells.take m }) } := by
 rintro M0 w0 a w ⟨g, hpp, hR⟩
 have hlt : i < s.hp.length := (List.getElem?_eq_some_iff.1 hi).1
 have self : (s.hp.set i (.r { r with cells := r.cells.take m }))[i]? = some (.r { r with cells := r.cells.take m }) := by simp [hlt]
 have other : ∀ q, q ≠ i -> (s.hp.set i (.r { r with cells := r.cells.take m }))[q]? = s.hp[q]? := fun q hq => by rw [gE5 (Ne.symm hq)]
 have tk : ∀ (j : Nat) (c : C), (r.cells.take m)[j]? = some c -> r.cells[j]? = some c := fun j c h => by
  rw [List.getElem?_take] at h
  split at h
  ·exact h
  cases h
 generalize hh : s.hp.set i (.r { r with cells := r.cells.take m }) = hp' at *
 have sub : ∀ ℓ, Lv hp' g ℓ -> Lv s.hp g ℓ := by
  intro ℓ hl
  cases ℓ with
  | ob q =>
   by_cases hq : q = i
   ·subst hq
    rcases hl with ⟨r2, e1, e2⟩ | ⟨kv, e1⟩
    ·exact .inl ⟨r, hi, e2⟩
    rw [self] at e1; cases e1
   rcases hl with ⟨r2, e1, e2⟩ | ⟨kv, e1⟩
   ·exact .inl ⟨r2, by rw [<- other q hq]; exact e1, e2⟩
   exact .inr ⟨kv, by rw [<- other q hq]; exact e1⟩
  | cl q j =>
   by_cases hq : q = i
   rotate_left
   ·obtain ⟨r2, k, cs, e1, e2, e3⟩ := hl
    exact ⟨r2, k, cs, by rw [<- other q hq]; exact e1, e2, e3⟩
   subst hq
   obtain ⟨r2, k, cs, e1, e2, e3⟩ := hl
   rw [self] at e1; cases e1
   exact ⟨r, k, cs, hi, tk j _ e2, e3⟩
 have ow : ∀ b, Ow hp' g b -> Ow s.hp g b := fun b ho => ho.imp (fun h => h) (fun ⟨ℓ, hl, e⟩ => ⟨ℓ, sub ℓ hl, e⟩)
 have hmo : Mo g s.hp w g hp' w (fun _ => True) := by
  refine ⟨fun q hq => ⟨?_, rfl, rfl⟩, fun b _ ho => ow b ho, Nat.le_refl _, fun _ _ _ => rfl, fun q _ hq r2 j k cs e1 e2 => ?_⟩
  ·by_cases e : q = i
   ·subst e; exact ⟨_, self, rfl⟩
   obtain ⟨o, h1, h2⟩ := hq
   exact ⟨o, by rw [other q e]; exact h1, h2⟩
  by_cases e : q = i
  rotate_left
  ·exact ⟨r2, by rw [<- other q e]; exact e1, e2, fun _ => rfl⟩
  subst e
  rw [self] at e1
  cases e1
  exact ⟨r, hi, tk j _ e2, fun _ => rfl⟩
 have hr := hR.hr
 refine ⟨g, ⟨by show s.pin <= hp'.length; rw [<- hh]; simpa using hpp.1, hpp.2⟩, hR.mo hmo ?_ (fun ℓ hl => hR.new ℓ (sub ℓ hl)) hR.fp⟩
 refine ⟨hr.ml, fun ℓ hl => hr.md ℓ (sub ℓ hl), fun ℓ ℓ' h1 h2 => hr.inj ℓ ℓ' (sub ℓ h1) (sub ℓ' h2), fun q r2 e1 => ?_, fun q kv e1 => ?_, hmo.gl hr.gl⟩
 rotate_left
 ·by_cases e : q = i
  ·subst e; rw [self] at e1; cases e1
  rw [other q e] at e1
  exact MpR.mo hmo e1 (hr.mp q kv e1) rfl
 by_cases e : q = i
 rotate_left
 ·rw [other q e] at e1
  exact RowR.mo hmo e1 (hr.row q r2 e1) (fun _ => rfl) (fun _ _ _ _ _ => ⟨rfl, rfl⟩)
 subst e
 rw [self] at e1
 cases e1
 rcases hr.row q r hi with ⟨k1, k2⟩ | ⟨k1, k2, arr, k3, k4, k5, k6, k7⟩
 ·exact .inl ⟨k1, by simp [k2]⟩
 refine .inr ⟨k1, fun h1 h2 => k2 h1 (hm h1 h2), arr, k3, Nat.le_trans (by simp only [List.length_take]; omega) k4, k5, k6, fun j c hj => ?_⟩
 obtain ⟨u, u1, u2⟩ := k7 j c (tk j c hj)
 exact ⟨u, u1, CellR.mo hmo u2 (fun k cs hc _ => ⟨rfl, rfl⟩)⟩
attribute [local go_sem] lga C.pl C.one
theorem C9 (f : Nat -> Nat) (L : List Ar) : (Ao L).map (C.up f) = Ao L := by
 unfold Ao
 rw [List.map_flatMap]
 rfl
theorem C4 (f : List Nat) (L : List Ar) : (Ao L).map (C.ren f) = Ao L := by
 unfold Ao
 rw [List.map_flatMap]
 rfl
theorem Jj (r : List Ar) : (Al r).map C.ofTr = Ao r := by
 unfold Al Ao
 rw [List.map_flatMap]
 rfl
theorem Jk (q : List Ar) (ys : List C) (f : C -> C) (hf : (Ao q).map f = Ao q) : ((Ao q ++ ys).map f).take (q.length * 2) = Ao q := by
 rw [List.map_append, hf, List.take_append_of_le_length (by rw [Aq]; exact Nat.le_refl _), gE7 (by rw [Aq]; exact Nat.le_refl _)]

theorem E9 {xs : List Ar} {i : Nat} {e t : Int} (h : xs[i]? = some (e, t)) (x : Int) : (Ao xs).set (i * 2 + 1) (.v (.int .i64 x)) = Ao (xs.set i (e, x)) := by
 induction xs generalizing i with
 | nil => simp at h
 | cons a r ih =>
  cases i with
  | zero => simp at h; subst h; rfl
  | succ i =>
   rw [List.getElem?_cons_succ] at h
   rw [show (i + 1) * 2 + 1 = i * 2 + 1 + 2 from by omega, List.set_cons_succ]
   show C.v _ :: C.v _ :: (Ao r).set (i * 2 + 1) _ = _
   rw [ih h]; rfl
theorem Kl (out : List (List Ar)) (x : List Ar) {i : Nat} (h : out.length = i) : (Bd out).take i ++ [C.t 2 (Al x)] = Bd (out ++ [x]) := by
 subst h
 rw [gE7 (by rw [F2]; exact Nat.le_refl _)]
 simp [Bd]
theorem Jl (l : List Int) (x : Int) : (A5 l).take l.length ++ [C.v (.int .i64 x)] = A5 (l ++ [x]) := by
 rw [gE7 (by rw [A2]; exact Nat.le_refl _), Az]
theorem NL.start (q : List Ar) (num old : List Int) : NL (Ds q num old) q q 0 num old := ⟨by simp, by simp, by simp, rfl⟩
theorem NL.fin {R : List Int × List Int × List Ar} {ya q : List Ar} {k : Nat} {num old : List Int} (h : NL R ya q k num old) (hk : q.length <= k) (hl : ya.length = q.length) : ya = R.2.2 /\ num = R.1 /\ old = R.2.1 := by
 obtain ⟨h1, h2, h3, h4⟩ := h
 rw [List.drop_of_length_le hk] at h1 h2 h3
 rw [gE7 (by omega)] at h1
 simp only [Ds, List.append_nil] at h1 h2 h3
 exact ⟨h1, h2, h3⟩
set_option maxHeartbeats 8000000 in
theorem Hx (R : List (List Ar)) (hv : Br R = true) (hn : R.length <= 1000000) (hr : ∀ r ∈ R, r.length <= 1000000) : FC Tryd.prog 18 [BS R] [] (fun r o => o = [.r ⟨24, 1, false, [.t 1 (Ae (CG R).1)]⟩] /\ r = .tup [.g [.t 1 (Ae (CG R).1)], .c (.t 1 (Af (CG R).2)), .c (.v (.int .i64 0))]) := by
 refine A8 Tryd.func18 rfl (by rw [Tryd.ntmps18]; simp) ?_
 rw [Tryd.ntmps18]
 simp only [Bs, BS]
 have h1 : 1 <= R.length := (gE4 hv).1
 have hbd := (gE4 hv).2.2.2
 (refine Ud ?_;(repeat clear hK K);repeat refine kq fun K hK=>?_)
 (refine Ui (J9 R (by omega) (fun r h => by have := hr r h; omega)) ?_; intro K1 hK1)
 rintro _ _ ⟨rfl, rfl⟩
 (refine Uj ?_; clear hK1 K1)
 (refine Ue (an @hv @Bool.not_true) ?_;(repeat clear hK K);repeat refine kq fun K hK=>?_)
 refine Ul ?_
 (refine Ue @A6 ?_;(repeat clear hK K);repeat refine kq fun K hK=>?_)
 (refine A9 rfl ?_; intro K1 hK1; refine As (ids := []) [2] (F8 (-1) R.length h1 hn) rfl rfl (by simp only [go_sem]) (by first | assumption | kernel_rfl) rfl rfl (by (simp only [List.map_append, List.append_nil, go_sem]) <;> rfl) (by (simp only [Tx, Am, A5, go_sem]) <;> rfl) ?_ ?_)
 ·rintro _ _ ⟨rfl, rfl⟩; rfl
 rintro _ _ ⟨rfl, rfl⟩
 (simp only [AK, CB, Am, Bw, List.append_nil, List.nil_append, List.length_map, go_sem]; refine hK1 _ ?_; clear hK1 K1)
 have g0 : 0 < (List.replicate R.length (-1 : Int)).length := by simp; omega
 (refine CY (an @A2 (an @List.length_replicate.{0} @AL)) ?_;(repeat clear hK K);repeat refine kq fun K hK=>?_)
 refine B1 (CK 7 30 1 ?_) ?_
 ·simp only [go_sem]
 refine B1 (Ad [0, 1, 3, 4, 5] rfl rfl) ?_
 (try simp only [List.set_nil, List.take_nil, List.take_zero, List.map_append, go_sem])
 (try simp only [A7])
 refine Ac (fun x : Nat × List Int × List Int × List (List Ar) => { tm := [(1, .a (.c (.p 0 0))), (2, .a (.c (.p 1 0))), (5, .a (.c (.s 2 R.length))), (6, .a (.c (.s 3 x.2.2.1.length))), (7, .a (.c (.s 4 x.1))), (8, .i x.1)], hp := [.r ⟨24, 1, false, [.t 1 (Ae R)]⟩, .r ⟨24, 1, false, [.v (.slice none 0 0)]⟩, .r ⟨3, 1, true, A5 x.2.1⟩, .r ⟨3, 1, true, A5 x.2.2.1⟩, .r ⟨30, 1, true, Bd x.2.2.2⟩], n := 86, pin := 0 }) (fun x => NumOk R.length x.2.1 x.2.2.1 /\ NumInj x.2.1 x.2.2.1 /\ Hs R (R.length - x.1) x.1 x.2.1 x.2.2.1 x.2.2.2 = CG R /\ x.1 <= x.2.2.1.length /\ x.2.2.2.length = x.1) (fun x => R.length - x.1) (0, (List.replicate R.length (-1)).set 0 0, [0], []) ?_ ?_ ?_
 ·exact ⟨NumOk.start h1, NumInj.start h1, rfl, by simp, rfl⟩
 ·exact Un
 rintro ⟨i, num, old, out⟩ ⟨hN, hI, hC, hio, hoi⟩ K hK
 simp only at hN hI hC hio hoi
 have hlen := hN.len
 have hle := hN.le
 by_cases hlt : i < old.length
 rotate_left
 ·have d1 : decide ((i : Int) < (old.length : Int)) = false := by simpa using hlt
  have hfin : CG R = (out, old) := by rw [<- hC]; exact Ka (by omega)
  (refine Ue @d1 ?_;(repeat clear hK K);repeat refine kq fun K hK=>?_)
  refine Ul ?_
  (refine Uh ?_;repeat clear hK K)
  have htk : (Ae out).take i = Ae out := gE7 (by rw [A6]; omega)
  have htk2 : (Af old).take old.length = Af old := gE7 (by rw [A3]; exact Nat.le_refl _)
  (refine B1 (Bh (r := ⟨30, 1, true, Bd out⟩) 4 (Ae out) rfl (F4 _) (show 0 < (1 : Nat) by omega)) ?_; simp only [ST.frz, A0.frz, AV.frz, C.frz, Nat.le_refl, List.set_cons_zero, List.set_cons_succ, go_sem, htk, A6, hoi])
  (refine B1 (Bh (r := ⟨3, 1, true, A5 old⟩) 3 (Af old) rfl (I9 _) (show 0 < (1 : Nat) by omega)) ?_; simp only [ST.frz, A0.frz, AV.frz, C.frz, Nat.le_refl, List.set_cons_zero, List.set_cons_succ, go_sem, htk2, A3])
  (refine Ud ?_;(repeat clear hK K);repeat refine kq fun K hK=>?_)
  refine Uo [1] Tryd.results18 ?_
  rw [hfin]
  exact ⟨rfl, rfl⟩
 have d1 : decide ((i : Int) < (old.length : Int)) = true := by simpa using hlt
 have hs0 := hN.st _ (gE6 hlt)
 obtain ⟨sn, hsn⟩ : ∃ sn : Nat, old[i] = sn := ⟨old[i].toNat, by omega⟩
 have hsl : sn < R.length := by omega
 have go : (A5 old)[i]? = some (.v (.int .i64 sn)) := by rw [<- hsn]; exact Ak (gE1 hlt)
 have hgR := gE1 hsl
 have hrl := hr _ (gE6 hsl)
 have hst := Kb (rows := R) (n := R.length) (i := i) (num := num) (old := old) (out := out) (s := (sn : Int)) (r := R[sn]) (by omega) (by rw [gE1 hlt, hsn]) (by simp [hgR]) rfl
 generalize hrr : R[sn] = r at *
 have hcl := FM (Al r) (by rw [A4]; omega)
 rw [Jj, A4, AA] at hcl
 (refine Ue @d1 ?_;(repeat clear hK K);repeat refine kq fun K hK=>?_)
 refine Uk ?_
 (refine Ud ?_;(repeat clear hK K);repeat refine kq fun K hK=>?_)
 (refine Ag 8 [(0, 0), (1, 1), (2, 0), (3, 0), (4, 0), (5, 1), (6, 0), (7, 1), (8, 2), (9, 0)] (by kernel_rfl) (by kernel_rfl) (by intro c st h; simp [Ai, AX, Tz] at h) ?_)
 (refine Ua (an @A6 (an (AQ hgR) (an @A2 @go))) ?_; repeat clear hK K)
 (refine S5 hcl ?_; intro K1 hK1)
 rintro _ _ ⟨rfl, rfl⟩
 (simp only [AK, CB, C9, List.append_nil, List.nil_append, List.length_map, go_sem]; refine hK1 _ ?_; clear hK1 K1)
 (refine U9 ?_; repeat clear hK K)
 (refine Ud ?_;(repeat clear hK K);repeat refine kq fun K hK=>?_)
 (refine A9 rfl ?_; intro K1 hK1; refine As (ids := []) [5] (Ji 36 (by kernel_rfl) Ib r (by omega)) rfl rfl (by simp only [go_sem]) (by first | assumption | kernel_rfl) rfl rfl (by (simp only [List.map_append, List.append_nil, go_sem]) <;> rfl) (by (simp only [Tx, C4, go_sem]) <;> rfl) ?_ ?_)
 ·rintro _ _ ⟨rfl, L', _, _, rfl⟩; rfl
 rintro _ _ ⟨rfl, L', hperm, hsort, rfl⟩
 (simp only [AK, CB, C9, List.append_nil, List.nil_append, List.length_map, go_sem]; refine hK1 _ ?_; clear hK1 K1)
 have hLl := hperm.length_eq
 have hq : Kj L' = CI r := by rw [LI]; exact Ly hperm hsort
 rw [<- hLl]
 (refine Ud ?_;(repeat clear hK K);repeat refine kq fun K hK=>?_)
 (refine A9 rfl ?_; intro K1 hK1; refine As (ids := []) [5] (Hv L' (by omega)) rfl rfl (by simp only [go_sem]) (by first | assumption | kernel_rfl) rfl rfl (by (simp only [List.map_append, List.append_nil, go_sem]) <;> rfl) (by (simp only [Tx, C4, go_sem]) <;> rfl) ?_ ?_)
 ·rintro _ _ ⟨rfl, rest, us, _, _, rfl⟩; rfl
 rintro _ _ ⟨rfl, rest, us, hrest, hr0, rfl⟩
 (simp only [AK, CB, C9, List.append_nil, List.nil_append, List.length_map, go_sem]; refine hK1 _ ?_; clear hK1 K1)
 (refine Ud ?_;(repeat clear hK K);repeat refine kq fun K hK=>?_)
 obtain ⟨q, hqd⟩ : ∃ q, q = CI r := ⟨_, rfl⟩
 rw [<- hqd] at hq hst
 have hqs : SortA q := by rw [hqd]; exact AD r
 have hql : q.length <= 1000000 := by rw [hqd]; exact Nat.le_trans (Lx r) (by omega)
 have hqb : ∀ a ∈ q, 0 <= a.2 /\ a.2 < (R.length : Int) := fun a ha => by
  rw [hqd, C8] at ha
  have := hbd r (by rw [<- hrr]; exact gE6 hsl) a ha
  exact ⟨this.2.2.1, this.2.2.2⟩
 rw [hq]
 refine B1 (PG 5 (q.length * 2) rfl ?_) ?_
 ·intro _ h
  rw [Jk _ _ _ (C9 _ _)] at h
  have hq0 : q = [] := by
   have := congrArg List.length h
   rw [Aq] at this
   exact List.length_eq_zero_iff.1 (by simp at this; omega)
  have hL0 : L' = [] := by
   cases L' with
   | nil => rfl
   | cons x xs =>
    have : Kj (x :: xs) = [] := by rw [hq, hq0]
    simp [Kj] at this
  rw [hr0 hL0, hq0]; rfl
 simp only [Jk _ _ _ (C9 _ _), go_sem]
 refine Ac (fun x : Nat × List Int × List Int × List Ar => { tm := [(1, .a (.c (.p 0 0))), (2, .a (.c (.p 1 0))), (5, .a (.c (.s 2 R.length))), (6, .a (.c (.s 3 x.2.2.1.length))), (7, .a (.c (.s 4 i))), (8, .i i), (9, .a (.c (.s 5 q.length))), (43, .a (.c (.s 5 q.length))), (44, .i q.length), (45, .i x.1)], hp := [.r ⟨24, 1, false, [.t 1 (Ae R)]⟩, .r ⟨24, 1, false, [.v (.slice none 0 0)]⟩, .r ⟨3, 1, true, A5 x.2.1⟩, .r ⟨3, 1, true, A5 x.2.2.1⟩, .r ⟨30, 1, true, Bd out⟩, .r ⟨29, 2, true, Ao x.2.2.2⟩], n := 86, pin := 0 }) (fun x => x.1 <= q.length /\ x.2.2.2.length = q.length /\ NumOk R.length x.2.1 x.2.2.1 /\ old.length <= x.2.2.1.length /\ NL (Ds q num old) x.2.2.2 q x.1 x.2.1 x.2.2.1) (fun x => q.length - x.1) (0, num, old, q) ?_ ?_ ?_
 ·exact ⟨by simp, rfl, hN, Nat.le_refl _, NL.start q num old⟩
 ·exact Un
 rintro ⟨k, num1, old1, ya⟩ ⟨hk, hyl, hN1, hol, hNL⟩ K hK
 simp only at hk hyl hN1 hol hNL
 have hlen1 := hN1.len
 have hle1 := hN1.le
 by_cases hlt2 : k < q.length
 rotate_left
 ·have d2 : decide ((k : Int) < (q.length : Int)) = false := by simpa using hlt2
  obtain ⟨f1, f2, f3⟩ := hNL.fin (by omega) hyl
  have hnd : ya.Nodup := by rw [f1]; exact Kf q hqs (fun a ha => by rw [hlen]; exact hqb a ha) hI
  have hI2 : NumInj num1 old1 := by rw [f2, f3]; exact Je q (fun a ha => by rw [hlen]; exact hqb a ha) hI
  (refine Ue @d2 ?_;(repeat clear hK K);repeat refine kq fun K hK=>?_)
  refine Ul ?_
  (refine Uh ?_;repeat clear hK K)
  rw [<- hyl]
  (refine Ud ?_;(repeat clear hK K);repeat refine kq fun K hK=>?_)
  (refine A9 rfl ?_; intro K1 hK1; refine As (ids := []) [5] (Ji 36 (by kernel_rfl) Ib ya (by omega)) rfl rfl (by simp only [go_sem]) (by first | assumption | kernel_rfl) rfl rfl (by (simp only [List.map_append, List.append_nil, go_sem]) <;> rfl) (by (simp only [Tx, C4, go_sem]) <;> rfl) ?_ ?_)
  ·rintro _ _ ⟨rfl, L2, _, _, rfl⟩; rfl
  rintro _ _ ⟨rfl, L2, hp2, hs2, rfl⟩
  (simp only [AK, CB, C9, List.append_nil, List.nil_append, List.length_map, go_sem]; refine hK1 _ ?_; clear hK1 K1)
  have hL2 : L2 = CI ya := Kd hnd hp2 hs2
  have hL2l := hp2.length_eq
  rw [<- hL2l]
  (refine B3 (Bh (r := ⟨29, 2, true, Ao L2⟩) 5 (Al L2) rfl (Dp _) (show 0 < (2 : Nat) by omega)) ?_; simp only [ST.frz, A0.frz, AV.frz, C.frz, Nat.le_refl, List.set_cons_zero, List.set_cons_succ, go_sem, A4, AA, CZ, List.take_length])
  have crp := Kl out L2 hoi
  (refine Ue (an @crp (an @F2 @hoi)) ?_;(repeat clear hK K);repeat refine kq fun K hK=>?_)
  refine Um ?_
  refine hK _ (i + 1, num1, old1, out ++ [L2]) ⟨hN1, hI2, ?_, by simp only; omega, by simp [hoi]⟩ (by simp only; omega) ?_
  ·simp only
   rw [<- hC, hst, Ke, f2, f3, hL2, f1]
   rfl
  refine Le.trans (Ad [0, 1, 2, 3, 7] rfl rfl) ?_
  (try simp only [List.set_nil, List.take_nil, List.take_zero, List.map_append, go_sem])
  (try simp only [A7, C4, F3])
  exact Un
 have d2 : decide ((k : Int) < (q.length : Int)) = true := by simpa using hlt2
 have hky : k < ya.length := by omega
 have hyq : ya[k] = q[k] := by
  have := congrArg (fun l => l[0]?) hNL.2.2.2
  simp only [List.getElem?_drop, Nat.add_zero] at this
  rw [gE1 hky, gE1 hlt2] at this
  exact Option.some.inj this
 have hyb := hqb _ (gE6 hlt2)
 rw [<- hyq] at hyb
 obtain ⟨e, tn, hya⟩ : ∃ (e : Int) (tn : Nat), ya[k] = (e, (tn : Int)) := ⟨ya[k].1, ya[k].2.toNat, by
  have : (ya[k].2.toNat : Int) = ya[k].2 := by omega
  rw [this]⟩
 have hyk : ya[k]? = some (e, (tn : Int)) := by rw [gE1 hky, hya]
 have htl : tn < R.length := by rw [hya] at hyb; have := hyb.2; simp only at this; omega
 have hat := D0 hky
 rw [hya] at hat
 have gn : (A5 num1)[tn]? = some (.v (.int .i64 num1[tn])) := Ak (gE1 (by omega))
 have gn2 : num1[tn]? = some num1[tn] := gE1 (by omega)
 (refine Ue @d2 ?_;(repeat clear hK K);repeat refine kq fun K hK=>?_)
 refine Uk ?_
 by_cases hx : num1[tn] < 0
 rotate_left
 ·have d3 : decide (num1[tn] < 0) = false := by simpa using hx
  have cs := E9 hyk num1[tn]
  (refine CY (an @hat (an @Aq (an @hyl (an @gn (an @d3 (an @A2 @hlen1)))))) ?_;(repeat clear hK K);repeat refine kq fun K hK=>?_)
  refine Ul ?_
  (refine CY (an @gn (an @cs (an @Aq (an @hyl (an @A2 @hlen1))))) ?_;(repeat clear hK K);repeat refine kq fun K hK=>?_)
  refine Um ?_
  refine hK _ (k + 1, num1, old1, ya.set k (e, num1[tn])) ⟨hlt2, by simp [hyl], hN1, hol, hNL.pos hyk gn2 hx⟩ (by simp only; omega) ?_
  refine Le.trans (Ad [0, 1, 2, 3, 4, 5] rfl rfl) ?_
  (try simp only [List.set_nil, List.take_nil, List.take_zero, List.map_append, go_sem])
  (try simp only [A7, C4, F3])
  exact Un
 have d3 : decide (num1[tn] < 0) = true := by simpa using hx
 have gs : (A5 (num1.set tn (old1.length : Int)))[tn]? = some (.v (.int .i64 (old1.length : Int))) := Ak (gEc (by omega))
 have op := Jl old1 (tn : Int)
 have cs := E9 hyk (old1.length : Int)
 (refine CY (an @hat (an @Aq (an @hyl (an @gn (an @d3 (an @A2 @hlen1)))))) ?_;(repeat clear hK K);repeat refine kq fun K hK=>?_)
 refine Uk ?_
 (refine CY (an @A2 (an @hlen1 (an @AL (an @op (an @gs (an @cs (an @Aq (an @hyl @List.length_set.{0})))))))) ?_;(repeat clear hK K);repeat refine kq fun K hK=>?_)
 refine Um ?_
 have hone : AP num1 old1 (tn : Int) = (num1.set tn (old1.length : Int), old1 ++ [(tn : Int)]) := by
  simp only [AP, Int.toNat_natCast, List.getD, gn2, Option.getD_some, if_pos hx]
 have hN2 := hN1.one (t := (tn : Int)) (by omega) (by omega)
 rw [hone] at hN2
 refine hK _ (k + 1, num1.set tn (old1.length : Int), old1 ++ [(tn : Int)], ya.set k (e, (old1.length : Int))) ⟨hlt2, by simp [hyl], hN2, by simp; omega, hNL.neg hyk gn2 hx rfl⟩ (by simp only; omega) ?_
 refine Le.trans (Ad [0, 1, 2, 8, 4, 5] rfl rfl) ?_
 (try simp only [List.set_nil, List.take_nil, List.take_zero, List.map_append, go_sem])
 (try simp only [A7, C4, F3])
 simp only [List.length_append, List.length_cons, List.length_nil]
 exact Un
def UL (k : Nat) : C -> C
 | .o k cs => .t k.1 cs
 | .v (.slice none 0 0) => .t k []
 | c => c
def UM : List Nat -> List C -> List C
 | k :: ks, c :: cs => UL k c :: UM ks cs
 | [], c :: cs => TF c :: UM [] cs
 | _, [] => []
theorem LK (k : Nat) (c : C) : UL k c = TF c \/ (c = .v (.slice none 0 0) /\ UL k c = .t k []) := by
 unfold UL
 split
 ·exact .inl rfl
 ·exact .inr ⟨rfl, rfl⟩
 rename_i h1 h2
 refine .inl ?_
 cases c <;> first | rfl | exact absurd rfl (h1 _ _)
theorem LL {ks : List Nat} {cs : List C} {j : Nat} {c : C} (h : (UM ks cs)[j]? = some c) : ∃ c0, cs[j]? = some c0 /\ (c = TF c0 \/ ∃ k, c0 = .v (.slice none 0 0) /\ c = .t k []) := by
 induction cs generalizing ks j with
 | nil => cases ks <;> simp [UM] at h
 | cons x r ih =>
  cases ks with
  | nil =>
   cases j with
   | zero => simp [UM] at h; exact ⟨x, rfl, .inl h.symm⟩
   | succ j => simp [UM] at h; obtain ⟨c0, h1, h2⟩ := ih h; exact ⟨c0, by simpa using h1, h2⟩
  | cons k ks =>
   cases j with
   | zero =>
    simp [UM] at h
    refine ⟨x, rfl, ?_⟩
    rcases LK k x with e | ⟨e1, e2⟩
    ·exact .inl (by rw [<- h, e])
    exact .inr ⟨k, e1, by rw [<- h, e2]⟩
   | succ j => simp [UM] at h; obtain ⟨c0, h1, h2⟩ := ih h; exact ⟨c0, by simpa using h1, h2⟩
theorem OO {ks : List Nat} {cs : List C} {j : Nat} {k : Nat × Nat} {ts : List Tr} : (UM ks cs)[j]? ≠ some (.o k ts) := by
 intro h
 obtain ⟨c0, _, h | ⟨_, _, h⟩⟩ := LL h
 ·exact IK h.symm
 cases h
theorem LM (ks : List Nat) (cs : List C) : (UM ks cs).length = cs.length := by
 induction cs generalizing ks with
 | nil => cases ks <;> rfl
 | cons x r ih => cases ks <;> simp [UM, ih]
theorem Ig {s : ST} (i : Nat) (ks : List Nat) {r : Row} (hi : s.hp[i]? = some (.r r)) : Le s { s with hp := s.hp.set i (.r { r with cells := UM ks r.cells }) } := by
 rintro M0 w0 a w ⟨g, hpp, hR⟩
 have hlt : i < s.hp.length := (List.getElem?_eq_some_iff.1 hi).1
 have self : (s.hp.set i (.r { r with cells := UM ks r.cells }))[i]? = some (.r { r with cells := UM ks r.cells }) := by simp [hlt]
 have other : ∀ q, q ≠ i -> (s.hp.set i (.r { r with cells := UM ks r.cells }))[q]? = s.hp[q]? := fun q hq => by rw [gE5 (Ne.symm hq)]
 generalize hh : s.hp.set i (.r { r with cells := UM ks r.cells }) = hp' at *
 have ncl : ∀ j, ¬ Lv hp' g (.cl i j) := by
  rintro j ⟨r2, k, cs, e1, e2, _⟩
  rw [self] at e1
  cases e1
  exact OO e2
 have sub : ∀ ℓ, Lv hp' g ℓ -> Lv s.hp g ℓ := by
  intro ℓ hl
  cases ℓ with
  | ob q =>
   by_cases hq : q = i
   ·subst hq
    rcases hl with ⟨r2, e1, e2⟩ | ⟨kv, e1⟩
    ·exact .inl ⟨r, hi, e2⟩
    rw [self] at e1; cases e1
   rcases hl with ⟨r2, e1, e2⟩ | ⟨kv, e1⟩
   ·exact .inl ⟨r2, by rw [<- other q hq]; exact e1, e2⟩
   exact .inr ⟨kv, by rw [<- other q hq]; exact e1⟩
  | cl q j =>
   by_cases hq : q = i
   ·subst hq; exact absurd hl (ncl j)
   obtain ⟨r2, k, cs, e1, e2, e3⟩ := hl
   exact ⟨r2, k, cs, by rw [<- other q hq]; exact e1, e2, e3⟩
 have ow : ∀ b, Ow hp' g b -> Ow s.hp g b := fun b ho => ho.imp (fun h => h) (fun ⟨ℓ, hl, e⟩ => ⟨ℓ, sub ℓ hl, e⟩)
 have hm : Mo g s.hp w g hp' w (fun _ => True) := by
  refine ⟨fun q hq => ⟨?_, rfl, rfl⟩, fun b _ ho => ow b ho, Nat.le_refl _, fun _ _ _ => rfl, fun q _ hq r2 j k cs e1 e2 => ?_⟩
  ·by_cases e : q = i
   ·subst e; exact ⟨_, self, rfl⟩
   obtain ⟨o, h1, h2⟩ := hq
   exact ⟨o, by rw [other q e]; exact h1, h2⟩
  by_cases e : q = i
  rotate_left
  ·exact ⟨r2, by rw [<- other q e]; exact e1, e2, fun _ => rfl⟩
  subst e
  rw [self] at e1
  cases e1
  exact absurd e2 OO
 have hr := hR.hr
 refine ⟨g, ⟨by show s.pin <= hp'.length; rw [<- hh]; simpa using hpp.1, hpp.2⟩, hR.mo hm ?_ (fun ℓ hl => hR.new ℓ (sub ℓ hl)) hR.fp⟩
 refine ⟨hr.ml, fun ℓ hl => hr.md ℓ (sub ℓ hl), fun ℓ ℓ' h1 h2 => hr.inj ℓ ℓ' (sub ℓ h1) (sub ℓ' h2), fun q r2 e1 => ?_, fun q kv e1 => ?_, hm.gl hr.gl⟩
 rotate_left
 ·by_cases e : q = i
  ·subst e; rw [self] at e1; cases e1
  rw [other q e] at e1
  exact MpR.mo hm e1 (hr.mp q kv e1) rfl
 by_cases e : q = i
 rotate_left
 ·rw [other q e] at e1
  exact RowR.mo hm e1 (hr.row q r2 e1) (fun _ => rfl) (fun _ _ _ _ _ => ⟨rfl, rfl⟩)
 subst e
 rw [self] at e1
 cases e1
 rcases hr.row q r hi with ⟨k1, k2⟩ | ⟨k1, k2, arr, k3, k4, k5, k6, k7⟩
 ·exact .inl ⟨k1, by simp [k2, UM]⟩
 refine .inr ⟨k1, fun h1 h2 => k2 h1 (List.length_eq_zero_iff.1 (by rw [<- LM ks]; exact List.length_eq_zero_iff.2 h2)), arr, k3, by simpa [LM] using k4, k5, k6, fun j c hj => ?_⟩
 obtain ⟨c0, hc0, hcc⟩ := LL hj
 obtain ⟨u, u1, u2⟩ := k7 j c0 hc0
 refine ⟨u, u1, ?_⟩
 rcases hcc with rfl | ⟨k, rfl, rfl⟩
 rotate_left
 ·have hu : u = .slice none 0 0 := u2
  rw [hu]
  exact Rd.e _ _ _
 cases c0 with
 | o k cs => exact CV (t := .l k.1 cs) (fun b _ ho => ow b ho) hr hi ncl sub hc0 (.inl rfl) u2
 | _ => exact CellR.mo hm u2 (fun k cs hc => by cases hc)
theorem PH {s : ST} (i j id : Nat) {r : Row} {e0 k0 : Nat} (hne : i ≠ id) (hi : s.hp[i]? = some (.r r)) (hj : r.cells[j]? = some (.v (.slice none 0 0))) (hid : s.hp[id]? = some (.r ⟨e0, k0, true, []⟩)) : Le s { s with hp := s.hp.set i (.r { r with cells := r.cells.set j (.s id 0) }) } := by
 rintro M0 w0 a w ⟨g, hpp, hR⟩
 have hlt : i < s.hp.length := (List.getElem?_eq_some_iff.1 hi).1
 have hjl : j < r.cells.length := (List.getElem?_eq_some_iff.1 hj).1
 have self : (s.hp.set i (.r { r with cells := r.cells.set j (.s id 0) }))[i]? = some (.r { r with cells := r.cells.set j (.s id 0) }) := by simp [hlt]
 have other : ∀ q, q ≠ i -> (s.hp.set i (.r { r with cells := r.cells.set j (.s id 0) }))[q]? = s.hp[q]? := fun q hq => by rw [gE5 (Ne.symm hq)]
 have cel : ∀ q c, (r.cells.set j (.s id 0))[q]? = some c -> (q = j /\ c = .s id 0) \/ (q ≠ j /\ r.cells[q]? = some c) := by
  intro q c hq
  by_cases e : q = j
  ·subst e; rw [gEc hjl] at hq; cases hq; exact .inl ⟨rfl, rfl⟩
  rw [gE5 (Ne.symm e)] at hq; exact .inr ⟨e, hq⟩
 generalize hh : s.hp.set i (.r { r with cells := r.cells.set j (.s id 0) }) = hp' at *
 have sub : ∀ ℓ, Lv hp' g ℓ -> Lv s.hp g ℓ := by
  intro ℓ hl
  cases ℓ with
  | ob q =>
   by_cases hq : q = i
   ·subst hq
    rcases hl with ⟨r2, e1, e2⟩ | ⟨kv, e1⟩
    ·exact .inl ⟨r, hi, e2⟩
    rw [self] at e1; cases e1
   rcases hl with ⟨r2, e1, e2⟩ | ⟨kv, e1⟩
   ·exact .inl ⟨r2, by rw [<- other q hq]; exact e1, e2⟩
   exact .inr ⟨kv, by rw [<- other q hq]; exact e1⟩
  | cl q j2 =>
   obtain ⟨r2, k, cs, e1, e2, e3⟩ := hl
   by_cases hq : q = i
   rotate_left
   ·exact ⟨r2, k, cs, by rw [<- other q hq]; exact e1, e2, e3⟩
   subst hq
   rw [self] at e1
   cases e1
   rcases cel j2 _ e2 with ⟨_, h⟩ | ⟨_, h⟩
   ·cases h
   exact ⟨r, k, cs, hi, h, e3⟩
 have ow : ∀ b, Ow hp' g b -> Ow s.hp g b := fun b ho => ho.imp (fun h => h) (fun ⟨ℓ, hl, e⟩ => ⟨ℓ, sub ℓ hl, e⟩)
 have hm : Mo g s.hp w g hp' w (fun _ => True) := by
  refine ⟨fun q hq => ⟨?_, rfl, rfl⟩, fun b _ ho => ow b ho, Nat.le_refl _, fun _ _ _ => rfl, fun q _ hq r2 j2 k cs e1 e2 => ?_⟩
  ·by_cases e : q = i
   ·subst e; exact ⟨_, self, rfl⟩
   obtain ⟨o, h1, h2⟩ := hq
   exact ⟨o, by rw [other q e]; exact h1, h2⟩
  by_cases e : q = i
  rotate_left
  ·exact ⟨r2, by rw [<- other q e]; exact e1, e2, fun _ => rfl⟩
  subst e
  rw [self] at e1
  cases e1
  rcases cel j2 _ e2 with ⟨_, h⟩ | ⟨_, h⟩
  ·cases h
  exact ⟨r, hi, h, fun _ => rfl⟩
 have hr := hR.hr
 refine ⟨g, ⟨by show s.pin <= hp'.length; rw [<- hh]; simpa using hpp.1, hpp.2⟩, hR.mo hm ?_ (fun ℓ hl => hR.new ℓ (sub ℓ hl)) hR.fp⟩
 refine ⟨hr.ml, fun ℓ hl => hr.md ℓ (sub ℓ hl), fun ℓ ℓ' h1 h2 => hr.inj ℓ ℓ' (sub ℓ h1) (sub ℓ' h2), fun q r2 e1 => ?_, fun q kv e1 => ?_, hm.gl hr.gl⟩
 rotate_left
 ·by_cases e : q = i
  ·subst e; rw [self] at e1; cases e1
  rw [other q e] at e1
  exact MpR.mo hm e1 (hr.mp q kv e1) rfl
 by_cases e : q = i
 rotate_left
 ·rw [other q e] at e1
  exact RowR.mo hm e1 (hr.row q r2 e1) (fun _ => rfl) (fun _ _ _ _ _ => ⟨rfl, rfl⟩)
 subst e
 rw [self] at e1
 cases e1
 rcases hr.row q r hi with ⟨k1, k2⟩ | ⟨k1, k2, arr, k3, k4, k5, k6, k7⟩
 ·rw [k2] at hj; simp at hj
 refine .inr ⟨k1, fun h1 h2 => k2 h1 (List.length_eq_zero_iff.1 (by rw [<- List.length_set (i := j) (a := C.s id 0)]; exact List.length_eq_zero_iff.2 h2)), arr, k3, by simpa using k4, k5, k6, fun j2 c hj2 => ?_⟩
 rcases cel j2 c hj2 with ⟨rfl, rfl⟩ | ⟨_, h⟩
 rotate_left
 ·obtain ⟨u, u1, u2⟩ := k7 j2 c h
  exact ⟨u, u1, CellR.mo hm u2 (fun k cs hc _ => ⟨rfl, rfl⟩)⟩
 obtain ⟨u, u1, u2⟩ := k7 j2 _ hj
 have hu : u = .slice none 0 0 := u2
 refine ⟨u, u1, ?_⟩
 have hκ : g.κ id = 0 := by
  rcases hr.row id _ hid with ⟨z, _⟩ | ⟨_, z, _⟩
  ·exact z
  exact absurd rfl (z rfl)
 have hid' : hp'[id]? = some (.r ⟨e0, k0, true, []⟩) := by rw [other id (Ne.symm hne)]; exact hid
 exact ⟨⟨_, hid', rfl⟩, Nat.zero_le _, none, by rw [hu, hκ], fun hn => absurd hκ hn, by simp⟩
theorem Rk {s : ST} (e k : Nat) : Le s { s with hp := s.hp ++ [.r ⟨e, k, true, []⟩] } := by
 rintro M0 w0 a w ⟨g, hpp, hR⟩
 have hb := hR.birth0 (w' := w) (hp' := s.hp ++ [.r ⟨e, k, true, []⟩]) (id := s.hp.length) (r := ⟨e, k, true, []⟩) BV (Bp _) (AJ _) rfl (Fp.refl _ _)
 exact ⟨_, ⟨by have := hpp.1; simp; omega, hpp.2.trans (CF hpp.1)⟩, hb⟩
def BD (R : List (List Ar)) : List C := R.map fun r => C.o (2, 29) (Al r)
theorem D1 (xs : List (List Ar)) : (BD xs).length = xs.length := by simp [BD]
theorem FT {xs : List (List Ar)} {i : Nat} {x : List Ar} (h : xs[i]? = some x) : (BD xs)[i]? = some (.o (2, 29) (Al x)) := by simp [BD, h]
theorem Km (xs : List (List Ar)) (i : Nat) (x : List Ar) : (BD xs).set i (.o (2, 29) (Al x)) = BD (xs.set i x) := by simp [BD, List.map_set]
theorem Ea (f : List Nat) (L : List (List Ar)) : (BD L).map (C.ren f) = BD L := by simp [BD, C.ren, Function.comp_def]
theorem LN (L : List (List Ar)) : (BD L).map TF = Bd L := by simp [BD, Bd, TF, Function.comp_def]
end Go.Proofs.YtjijjfkalheokaaDoor
