/- Lemmas. -/
import Derived.Test.YtjijjfkalheokaaDoorME
import Derived.Test.YtjijjfkalheokaaDoorZk
import Derived.Test.YtjijjfkalheokaaDoorCv1
import Derived.Test.YtjijjfkalheokaaDoorG53
import Derived.Test.YtjijjfkalheokaaDoorMG
namespace Go.Proofs.YtjijjfkalheokaaDoor
set_option linter.unusedVariables false
set_option linter.unusedSimpArgs false
open Go.RowKit

theorem Oy {P : Program} {o : Oper} {st : ST} {K : ST -> Prop} {t : TypeId} {x l u : Operand} {k i j : Nat} {cs : List Tr} {kk kk' : IntKind} (hd : Tn o st.n = true) (ho : o.op = .slice t x (some l) (some u) none) (hz : DB P t = some k) (hx : st.ev x = .a (.c (.t k cs))) (hl : st.ev l = .a (.c (.v (.int kk (i : Int))))) (hu : st.ev u = .a (.c (.v (.int kk' (j : Int)))))
  (hk : 0 < k) (hij : i <= j) (hj : j * k <= cs.length) (h : K (st.put o.dst (.a (.c (.t k ((cs.drop (i * k)).take ((j - i) * k))))))) : Stp P o st K := by
 intro M0 w0 a w N Q hR hN
 obtain ⟨g, ⟨hp1, hp2⟩, hR⟩ := hR
 have e1 := hR.ev x
 have e2 := hR.ev l
 have e3 := hR.ev u
 rw [hx] at e1
 rw [hl] at e2
 rw [hu] at e3
 have e2 : a.eval l = .int kk (i : Int) := e2
 have e3 : a.eval u = .int kk' (j : Int) := e3
 obtain ⟨A, n, cp, f1, f2, f3⟩ := Rd.form (show Rd _ _ _ _ from e1)
 have hjn : j <= n := Nat.le_of_mul_le_mul_right (by rw [<- f2]; exact hj) hk
 rw [f1] at e1
 have hcut := Rd.cut (show Rd _ _ _ _ from e1) hk hij hj
 obtain ⟨e, h2, h4, h3⟩ := Cn hz
 have hrun : (execOp a.eval o).run P w = .ok (.value (.slice (KG A cp i k) (j - i) (cp - i))) w := by
  simp only [execOp, ho, Option.map_some, Option.map_none, f1, e2, e3, Sem.run_bind, Co h2]
  rw [run_slice_lh w t _ _ _ (by rw [h4]; exact h2) _ _ (i : Int) (j : Int) (by omega) (by omega) (by omega), h4, h3]
  simp [sliced, Result.andThen, KG]
 unfold Oper.wp
 rw [hrun]
 exact hN _ _ _ h ⟨g, ⟨by cases o.dst <;> exact hp1, by cases o.dst <;> exact hp2⟩, hR.put (Ay hd) hcut⟩
set_option maxRecDepth 100000
attribute [local go_sem] List.set_cons_zero List.set_cons_succ List.map_cons List.map_nil List.take_succ_cons List.take_zero List.drop_zero List.drop_succ_cons C.pl C.one List.all_cons List.all_nil Bool.and_true
theorem Wi (x : Int) : Da x = (decide (x >= 2) && decide (x <= 1025)) := rfl
theorem GN (x : Int) : FC Tryd.prog 51 [.i x] [] (fun r o => o = [] /\ r = .b (Da x)) := by
 refine A8 Tryd.func51 rfl (by rw [Tryd.ntmps51]; simp) ?_
 rw [Tryd.ntmps51]
 simp only [Bs]
 by_cases h1 : x >= 2
 ·have e1 : decide (x >= 2) = true := by simpa using h1
  (refine Ue @e1 ?_;(repeat clear hK K);repeat refine kq fun K hK=>?_)
  exact Rf [] Tryd.results51 (an @Wi (an @e1 @Bool.true_and))
 have e1 : decide (x >= 2) = false := by simpa using h1
 (refine Ue @e1 ?_;(repeat clear hK K);repeat refine kq fun K hK=>?_)
 exact Rf [] Tryd.results51 (an @Wi (an @e1 @Bool.false_and))
def FstP (o : List Ar) (x : Ar) (n : Nat) : Prop := n <= o.length /\ (∀ i a, i < n -> o[i]? = some a -> Ut a x = true) /\ ∀ i a, n <= i -> o[i]? = some a -> Ut a x = false
theorem FstP.mem {o : List Ar} {x : Ar} {n : Nat} (h : FstP o x n) (hs : SortA o) : x ∈ o ↔ o[n]? = some x := by
 constructor
 rotate_left
 ·exact fun hm => gE9 hm
 intro hm
 obtain ⟨i, hi⟩ := List.mem_iff_getElem?.1 hm
 rcases Nat.lt_trichotomy i n with h1 | h1 | h1
 ·have := h.2.1 i x h1 hi
  rw [E3] at this; cases this
 ·rw [<- h1]; exact hi
 have hl := (List.getElem?_eq_some_iff.1 hi).1
 have hg := gE1 (show n < o.length by omega)
 have h2 := hs.at h1 hg hi
 have h3 := h.2.2 n _ (Nat.le_refl _) hg
 rw [h2] at h3; cases h3
theorem GO (o : List Ar) (x : Ar) (hn : o.length <= 100000000) (hs : SortA o) : FC Tryd.prog 71 [CH o, .a (.g [.v (.int .i64 x.1), .v (.int .i64 x.2)])] [] (fun r q => q = [] /\ ∃ n : Nat, r = .i n /\ FstP o x n) := by
 refine A8 Tryd.func71 rfl (by rw [Tryd.ntmps71]; simp) ?_
 rw [Tryd.ntmps71]
 simp only [Bs, CH]
 (refine Ue (an @A4 @AA) ?_;(repeat clear hK K);repeat refine kq fun K hK=>?_)
 refine Ac (fun p : Nat × Nat => { tm := [(0, .a (.c (.t 2 (Al o)))), (3, .a (.c (.p 0 0))), (5, .i p.1), (6, .i p.2)], hp := [.r ⟨52, 2, false, [.v (.int .i64 x.1), .v (.int .i64 x.2)]⟩], n := 30, pin := 0 })
  (fun p => p.1 <= p.2 /\ p.2 <= o.length /\ (∀ i a, i < p.1 -> o[i]? = some a -> Ut a x = true) /\ ∀ i a, p.2 <= i -> o[i]? = some a -> Ut a x = false) (fun p => p.2 - p.1) (0, o.length) ?_ ?_ ?_
 ·exact ⟨by simp, Nat.le_refl _, fun i _ hi => by simp at hi, fun i a hi ha => by have := (List.getElem?_eq_some_iff.1 ha).1; simp only at hi; omega⟩
 ·(refine BG ?_; simp only [Dl, go_sem, Int.natCast_zero]; try simp)
 rintro ⟨lo, hi⟩ ⟨h1, h2, h3, h4⟩ K hK
 simp only at h1 h2 h3 h4 ⊢
 by_cases hlt : lo < hi
 rotate_left
 ·have hl1 : decide ((lo : Int) < (hi : Int)) = false := by simpa using hlt
  have e : lo = hi := by omega
  subst e
  (refine Ue @hl1 ?_;(repeat clear hK K);repeat refine kq fun K hK=>?_)
  refine Ul ?_
  (refine Uh ?_;repeat clear hK K)
  (refine Ud ?_;(repeat clear hK K);repeat refine kq fun K hK=>?_)
  refine Uo [] Tryd.results71 ?_
  exact ⟨lo, rfl, h2, h3, h4⟩
 have hl1 : decide ((lo : Int) < (hi : Int)) = true := by simpa using hlt
 have em : ((lo : Int) + ((hi : Int) - (lo : Int)) / 2) = ((lo + (hi - lo) / 2 : Nat) : Int) := by omega
 have hm1 : lo <= lo + (hi - lo) / 2 := by omega
 have hm2 : lo + (hi - lo) / 2 < hi := by omega
 generalize lo + (hi - lo) / 2 = m at em hm1 hm2
 have hml : m < o.length := by omega
 have hg := gE1 hml
 have hk2 := AH hml
 (refine Ue (an @hl1 @em) ?_;(repeat clear hK K);repeat refine kq fun K hK=>?_)
 refine Uk ?_
 (refine Ue @em ?_;(repeat clear hK K);repeat refine kq fun K hK=>?_)
 (refine Ag 5 [(0, 0), (1, 0), (2, 0), (3, 1), (4, 1), (5, 2), (6, 0)] (by kernel_rfl) (by kernel_rfl) (by intro c st h; simp [Ai, AX, Tz] at h) ?_)
 (refine Ua (an @A4 (an @AA @hk2)) ?_; repeat clear hK K)
 (refine S5 (Lm o[m] x) ?_; intro K1 hK1)
 rintro _ _ ⟨rfl, rfl⟩
 (refine Uj ?_; clear hK1 K1)
 cases hl : Ut o[m] x with
 | true =>
  (refine Ua (an @BM @hl) ?_; repeat clear hK K)
  refine Uk ?_
  (refine Ud ?_;(repeat clear hK K);repeat refine kq fun K hK=>?_)
  refine Um ?_
  refine hK _ (m + 1, hi) ⟨by simp only; omega, h2, fun i a hi' ha => ?_, h4⟩ (by simp only; omega) ?_
  rotate_left
  ·exact Un
  rcases Nat.lt_or_ge i m with h5 | h5
  ·exact Cq (hs.at h5 ha hg) hl
  have e : i = m := by simp only at hi'; omega
  subst e; rw [hg] at ha; cases ha; exact hl
 | false =>
  (refine Ua (an @BM @hl) ?_; repeat clear hK K)
  refine Ul ?_
  (refine Ud ?_;(repeat clear hK K);repeat refine kq fun K hK=>?_)
  refine Um ?_
  refine hK _ (lo, m) ⟨by simp only; omega, by simp only; omega, h3, fun i a hi' ha => ?_⟩ (by simp only; omega) ?_
  rotate_left
  ·exact Un
  rcases Nat.lt_or_ge m i with h5 | h5
  rotate_left
  ·have e : i = m := by simp only at hi'; omega
   subst e; rw [hg] at ha; cases ha; exact hl
  cases h6 : Ut a x with
  | false => rfl
  | true => rw [Cq (hs.at h5 hg ha) h6] at hl; cases hl

theorem QD : Sg Tryd.prog 52 2 := R9 Tryd.underlying52 (by kernel_rfl) (by kernel_rfl) (by decide) (by decide) rfl rfl (by kernel_rfl) (by kernel_rfl)
theorem MG (x y : Operand) (a b : Ar) : EL Tryd.prog .eql 52 x y [.int .i64 a.1, .int .i64 a.2] [.int .i64 b.1, .int .i64 b.2] (decide (a = b)) = True := by
 rw [<- CN]
 refine eq_true ?_
 have := (QD x y [.v (.int .i64 a.1), .v (.int .i64 a.2)] [.v (.int .i64 b.1), .v (.int .i64 b.2)] _ _ rfl rfl rfl rfl).1
 simpa [Th] using this
theorem En (o : List Ar) (x : Ar) (hn : o.length <= 100000000) (hs : SortA o) : FC Tryd.prog 54 [CH o, .a (.g [.v (.int .i64 x.1), .v (.int .i64 x.2)])] [] (fun r q => q = [] /\ r = .b (decide (x ∈ o))) := by
 refine A8 Tryd.func54 rfl (by rw [Tryd.ntmps54]; simp) ?_
 rw [Tryd.ntmps54]
 simp only [Bs, CH]
 (refine Ud ?_;(repeat clear hK K);repeat refine kq fun K hK=>?_)
 (refine Ui (GO o x hn hs) ?_; intro K1 hK1)
 rintro _ _ ⟨rfl, n, rfl, hf⟩
 (refine Uj ?_; clear hK1 K1)
 (refine Ud ?_;(repeat clear hK K);repeat refine kq fun K hK=>?_)
 (refine Ag 12 [(0, 0), (1, 0), (2, 0), (3, 0), (4, 0), (5, 0), (6, 0), (7, 0), (8, 1), (9, 1), (10, 0), (11, 0), (12, 2)] (by kernel_rfl) (by kernel_rfl) (by intro c st h; simp [Ai, AX, Tz] at h) ?_)
 by_cases hlt : n < o.length
 rotate_left
 ·have hl1 : decide ((n : Int) < (o.length : Int)) = false := by simpa using hlt
  (refine U8 (an @hl1 (an @A4 @AA)) ?_; repeat clear hK K)
  (refine Ud ?_;(repeat clear hK K);repeat refine kq fun K hK=>?_)
  refine Uo [] Tryd.results54 ?_
  have := hf.mem hs
  rw [List.getElem?_eq_none (by omega)] at this
  simp at this
  simp [this]
 have hl1 : decide ((n : Int) < (o.length : Int)) = true := by simpa using hlt
 have hg := gE1 hlt
 have hk2 := AH hlt
 (refine U8 (an @hl1 (an @hk2 (an @MG (an @CN (an @true_and (an @A4 @AA)))))) ?_; repeat clear hK K)
 (refine Ud ?_;(repeat clear hK K);repeat refine kq fun K hK=>?_)
 refine Uo [] Tryd.results54 ?_
 have := hf.mem hs
 rw [hg] at this
 simp only [Option.some.injEq] at this
 simp [this]

theorem FstP.le {o : List Ar} {x y : Ar} {n m : Nat} (h1 : FstP o x n) (h2 : FstP o y m) (h : ∀ a, Ut a x = true -> Ut a y = true) : n <= m := by
 rcases Nat.lt_or_ge m n with h3 | h3
 rotate_left
 ·exact h3
 have hl := h1.1
 have hg := gE1 (show m < o.length by omega)
 have h4 := h _ (h1.2.1 m _ h3 hg)
 rw [h2.2.2 m _ (Nat.le_refl _) hg] at h4
 cases h4
theorem HI (o : List Ar) (e : Int) (hn : o.length <= 100000000) (hs : SortA o) (hv : Da e = true) (hh : ∀ a ∈ o, 0 <= a.2) : FC Tryd.prog 53 [CH o, .i e] [] (fun r q => q = [] /\ ∃ W, r = CH W /\ W.length <= o.length /\ ∀ a, a ∈ W ↔ a ∈ o /\ a.1 = e) := by
 refine A8 Tryd.func53 rfl (by rw [Tryd.ntmps53]; simp) ?_
 rw [Tryd.ntmps53]
 simp only [Bs, CH]
 obtain ⟨he1, he2⟩ := CU.1 hv
 (refine Ud ?_;(repeat clear hK K);repeat refine kq fun K hK=>?_)
 (refine Ui (GN e) ?_; intro K1 hK1)
 rintro _ _ ⟨rfl, rfl⟩
 (refine Uj ?_; clear hK1 K1)
 (refine Ue (an @hv @Bool.not_true) ?_;(repeat clear hK K);repeat refine kq fun K hK=>?_)
 refine Ul ?_
 (refine Ud ?_;(repeat clear hK K);repeat refine kq fun K hK=>?_)
 (refine Ui (GO o (e, 0) hn hs) ?_; intro K1 hK1)
 rintro _ _ ⟨rfl, i, rfl, hf⟩
 (refine Uj ?_; clear hK1 K1)
 (refine Ud ?_;(repeat clear hK K);repeat refine kq fun K hK=>?_)
 (refine Ui (GO o (e + 1, 0) hn hs) ?_; intro K1 hK1)
 rintro _ _ ⟨rfl, j, rfl, hf2⟩
 (refine Uj ?_; clear hK1 K1)
 have hij : i <= j := hf.le hf2 fun a ha => by rw [BA] at ha ⊢; simp only at ha ⊢; omega
 have hjl := hf2.1
 refine A9 rfl ?_; intro K1 hK1
 refine Oy (k := 2) (cs := Al o) (i := i) (j := j) (kk := .i64) (kk' := .i64) rfl rfl (by simp only [go_sem]) (by simp only [go_sem]) (by simp only [go_sem]) (by simp only [go_sem]) (by omega) hij (by rw [A4]; omega) ?_
 simp only [go_sem]
 refine hK1 _ ?_; clear hK1 K1
 (refine Ud ?_;(repeat clear hK K);repeat refine kq fun K hK=>?_)
 refine Uo [] Tryd.results53 ?_
 refine ⟨(o.drop i).take (j - i), ?_, ?_, fun a => ?_⟩
 ·rw [FO, CZ]
 ·simp; omega
 constructor
 ·intro ha
  obtain ⟨q, hq⟩ := List.mem_iff_getElem?.1 ha
  rw [List.getElem?_take] at hq
  split at hq
  rotate_left
  ·cases hq
  rw [List.getElem?_drop] at hq
  have hm := gE9 hq
  have h1 := hf.2.2 (i + q) a (by omega) hq
  have h2 := hf2.2.1 (i + q) a (by omega) hq
  rw [BA] at h2
  have h1 : ¬ (a.1 < e \/ (a.1 = e /\ a.2 < 0)) := by rw [<- BA (a := a) (b := (e, 0)), h1]; simp
  have h3 := hh a hm
  simp only at h2
  exact ⟨hm, by omega⟩
 rintro ⟨hm, ha⟩
 obtain ⟨q, hq⟩ := List.mem_iff_getElem?.1 hm
 have hqi : i <= q := by
  rcases Nat.lt_or_ge q i with h1 | h1
  rotate_left
  ·exact h1
  have h2 := hf.2.1 q a h1 hq
  rw [BA] at h2
  have := hh a hm
  simp only at h2
  omega
 have hqj : q < j := by
  rcases Nat.lt_or_ge q j with h1 | h1
  ·exact h1
  have h2 := hf2.2.2 q a h1 hq
  have h3 : Ut a (e + 1, 0) = true := by rw [BA]; simp only; omega
  rw [h2] at h3; cases h3
 refine List.mem_iff_getElem?.2 ⟨q - i, ?_⟩
 rw [List.getElem?_take, if_pos (by omega), List.getElem?_drop, show i + (q - i) = q by omega]
 exact hq
set_option maxHeartbeats 2000000 in
theorem QE (o : List Ar) (hn : o.length <= 100000000) : FC Tryd.prog 28 [CH o] [] (fun r q => q = [] /\ r = .b (KE o)) := by
 refine A8 Tryd.func28 rfl (by rw [Tryd.ntmps28]; simp) ?_
 rw [Tryd.ntmps28]
 simp only [Bs, CH]
 (refine Ue (an @A4 @AA) ?_;(repeat clear hK K);repeat refine kq fun K hK=>?_)
 refine Ac (fun k : Nat => { tm := [(0, .a (.c (.t 2 (Al o)))), (9, .a (.c (.t 2 (Al o)))), (10, .i o.length), (11, .i k)], hp := [], n := 73, pin := 0 }) (fun k => k <= o.length /\ (∀ i a, i < k -> o[i]? = some a -> D8 a.1 /\ D8 a.2 /\ a.1 ≠ a.2) /\ ∀ i a b, i + 1 < k -> o[i]? = some a -> o[i + 1]? = some b -> Ut a b = true) (fun k => o.length - k) 0 ?_ ?_ ?_
 ·exact ⟨by omega, fun i _ hi => by omega, fun i _ _ hi => by omega⟩
 ·exact Un
 rintro k ⟨hk, hc, hs⟩ K hK
 by_cases hlt : k < o.length
 rotate_left
 ·have hl1 : decide ((k : Int) < (o.length : Int)) = false := by simpa using hlt
  (refine Ue @hl1 ?_;(repeat clear hK K);repeat refine kq fun K hK=>?_)
  refine Ul ?_
  have lt : ∀ {i : Nat} {a : Ar}, o[i]? = some a -> i < k := fun h => by have := (List.getElem?_eq_some_iff.1 h).1; omega
  have hS : SortA o := Ho fun i a b h1 h2 => hs i a b (lt h2) h1 h2
  have hC : ∀ a ∈ o, D8 a.1 /\ D8 a.2 /\ a.1 ≠ a.2 := fun a ha => by obtain ⟨i, hi⟩ := List.mem_iff_getElem?.1 ha; exact hc i a (lt hi) hi
  have hH : ∀ a ∈ o, 0 <= a.2 := fun a ha => by obtain ⟨_, ⟨h1, h2⟩, _⟩ := hC a ha; omega
  clear hs hc lt
  (refine Uh ?_;repeat clear hK K)
  (refine Ue (an @A4 @AA) ?_;(repeat clear hK K);repeat refine kq fun K hK=>?_)
  refine Ac (fun k : Nat => { tm := [(0, .a (.c (.t 2 (Al o)))), (48, .a (.c (.t 2 (Al o)))), (49, .i o.length), (50, .i k)], hp := [], n := 73, pin := 0 }) (fun k => k <= o.length /\ ∀ i x, i < k -> o[i]? = some x -> ∀ y ∈ o, y.1 = x.2 -> (x.1, y.2) ∈ o) (fun k => o.length - k) 0 ?_ ?_ ?_
  ·exact ⟨by omega, fun i _ hi => by omega⟩
  ·exact Un
  rintro k ⟨hk, ht⟩ K hK
  by_cases hlt : k < o.length
  rotate_left
  ·have hl1 : decide ((k : Int) < (o.length : Int)) = false := by simpa using hlt
   (refine Ue @hl1 ?_;(repeat clear hK K);repeat refine kq fun K hK=>?_)
   refine Ul ?_
   (refine Uh ?_;repeat clear hK K)
   (refine Ud ?_;(repeat clear hK K);repeat refine kq fun K hK=>?_)
   refine Uo [] Tryd.results28 ?_
   have : KE o = true := by
    rw [KE, decide_eq_true_iff]
    refine ⟨hS, hC, fun x hx => ?_⟩
    obtain ⟨i, hi⟩ := List.mem_iff_getElem?.1 hx
    exact ht i x (by have := (List.getElem?_eq_some_iff.1 hi).1; omega) hi
   rw [this]
  have hl1 : decide ((k : Int) < (o.length : Int)) = true := by simpa using hlt
  have hg := gE1 hlt
  have hk2 := AH hlt
  have mk := gE6 hlt
  have hv := CU.2 (hC _ mk).2.1
  (refine Ue @hl1 ?_;(repeat clear hK K);repeat refine kq fun K hK=>?_)
  refine Uk ?_
  (refine Ue (an @A4 (an @AA @hk2)) ?_;(repeat clear hK K);repeat refine kq fun K hK=>?_)
  (refine Ui (HI o o[k].2 hn hS hv hH) ?_; intro K1 hK1)
  rintro _ _ ⟨rfl, W, rfl, hWl, hW⟩
  (simp only [AK, CB, CH, List.append_nil, List.nil_append, List.length_map, go_sem]; refine hK1 _ ?_; clear hK1 K1)
  (refine Ue (an @A4 @AA) ?_;(repeat clear hK K);repeat refine kq fun K hK=>?_)
  refine Ac (fun j : Nat => { tm := [(0, .a (.c (.t 2 (Al o)))), (6, .a (.c (.p 0 0))), (48, .a (.c (.t 2 (Al o)))), (49, .i o.length), (50, .i k), (57, .a (.c (.t 2 (Al W)))), (58, .i W.length), (59, .i j)], hp := [.r ⟨52, 2, false, [.v (.int .i64 o[k].1), .v (.int .i64 o[k].2)]⟩], n := 73, pin := 0 }) (fun j => j <= W.length /\ ∀ i y, i < j -> W[i]? = some y -> (o[k].1, y.2) ∈ o) (fun j => W.length - j) 0 ?_ ?_ ?_
  ·exact ⟨by omega, fun i _ hi => by omega⟩
  ·exact Un
  rintro j ⟨hj, hj2⟩ K hK
  by_cases hltj : j < W.length
  rotate_left
  ·have hl2 : decide ((j : Int) < (W.length : Int)) = false := by simpa using hltj
   (refine Ue @hl2 ?_;(repeat clear hK K);repeat refine kq fun K hK=>?_)
   refine Ul ?_
   (refine Uh ?_;repeat clear hK K)
   (refine Ud ?_;(repeat clear hK K);repeat refine kq fun K hK=>?_)
   refine Um ?_
   refine hK _ (k + 1) ⟨by omega, fun i x hi hx y hy he => ?_⟩ (by omega) ?_
   rotate_left
   ·refine Le.trans (Ad [] rfl rfl) ?_
    (try simp only [List.set_nil, List.take_nil, List.take_zero, List.map_append, go_sem])
    exact Un
   by_cases e : i = k
   rotate_left
   ·exact ht i x (by omega) hx y hy he
   subst e; rw [hg] at hx; cases hx
   obtain ⟨q, hq⟩ := List.mem_iff_getElem?.1 ((hW y).2 ⟨hy, he⟩)
   exact hj2 q y (by have := (List.getElem?_eq_some_iff.1 hq).1; omega) hq
  have hl2 : decide ((j : Int) < (W.length : Int)) = true := by simpa using hltj
  have hgj := gE1 hltj
  have hj3 := AH hltj
  have mj := (hW _).1 (gE6 hltj)
  (refine Ue @hl2 ?_;(repeat clear hK K);repeat refine kq fun K hK=>?_)
  refine Uk ?_
  (refine Ue (an @A4 (an @AA @hj3)) ?_;(repeat clear hK K);repeat refine kq fun K hK=>?_)
  (refine Ui (En o (o[k].1, W[j].2) hn hS) ?_; intro K1 hK1)
  rintro _ _ ⟨rfl, rfl⟩
  (refine Uj ?_; clear hK1 K1)
  by_cases q3 : (o[k].1, W[j].2) ∈ o
  rotate_left
  ·have q4 : decide ((o[k].1, W[j].2) ∈ o) = false := by simpa using q3
   (refine Ue (an @q4 @Bool.not_false) ?_;(repeat clear hK K);repeat refine kq fun K hK=>?_)
   refine Uk ?_
   (refine Ud ?_;(repeat clear hK K);repeat refine kq fun K hK=>?_)
   refine Uo [] Tryd.results28 ?_
   rw [Pw mk mj.1 mj.2 q3]
  have q4 : decide ((o[k].1, W[j].2) ∈ o) = true := by simpa using q3
  (refine Ue (an @q4 @Bool.not_true) ?_;(repeat clear hK K);repeat refine kq fun K hK=>?_)
  refine Ul ?_
  (refine Ud ?_;(repeat clear hK K);repeat refine kq fun K hK=>?_)
  refine Um ?_
  refine hK _ (j + 1) ⟨by omega, fun i y hi hy => ?_⟩ (by omega) ?_
  ·by_cases e : i = j
   ·subst e; rw [hgj] at hy; cases hy; exact q3
   exact hj2 i y (by omega) hy
  refine Le.trans (Ad [0] rfl rfl) ?_
  (try simp only [List.set_nil, List.take_nil, List.take_zero, List.map_append, go_sem])
  exact Un
 have hl1 : decide ((k : Int) < (o.length : Int)) = true := by simpa using hlt
 have hg := gE1 hlt
 have hk2 := AH hlt
 have bad : ¬ (D8 o[k].1 /\ D8 o[k].2 /\ o[k].1 ≠ o[k].2) -> KE o = false := fun h => Np hg h
 (refine Ue @hl1 ?_;(repeat clear hK K);repeat refine kq fun K hK=>?_)
 refine Uk ?_
 (refine Ue (an @A4 (an @AA @hk2)) ?_;(repeat clear hK K);repeat refine kq fun K hK=>?_)
 (refine C2 [] [(0, 0, 0), (1, 1, 2), (2, 2, 0), (3, 0, 0), (4, 0, 0), (5, 0, 0), (6, 1, 7), (7, 2, 0), (8, 0, 0), (9, 0, 0), (10, 0, 0), (11, 0, 0), (13, 0, 0), (12, 1, 27), (14, 1, 27), (15, 0, 0), (16, 0, 0), (17, 0, 0), (18, 0, 0), (19, 0, 0), (20, 0, 0), (21, 0, 0), (22, 0, 0), (23, 0, 0), (24, 0, 0), (25, 1, 27), (26, 1, 27), (27, 2, 0), (28, 0, 0), (29, 0, 0), (30, 2, 0)] (by kernel_rfl) (by kernel_rfl) (by intro c st h; simp [Ai, AX, Tz] at h) ?_)
 (refine Ub ?_; repeat clear hK K)
 (refine U0 rfl rfl ?_; intro K1 hK1; refine Bb ?_; refine xv [] (GN o[k].1) ?_ ?_)
 ·rintro _ _ ⟨rfl, rfl⟩ i o hi hl; simp at hl
 rintro _ _ ⟨rfl, rfl⟩
 (refine Uj ?_; clear hK1 K1)
 by_cases c1 : Da o[k].1 = true
 rotate_left
 ·have c1' : Da o[k].1 = false := by simpa using c1
  (refine Uc (an @c1' (an @Bool.not_true @Bool.not_false)) ?_; repeat clear hK K)
  (refine U1 rfl rfl rfl ?_; intro K1 hK1; refine Ba rfl ?_; simp only [go_sem]; (first | refine hK1 _ ?_ | refine AE (hK1 _ ?_)); clear hK1 K1)
  (refine Ub ?_; repeat clear hK K)
  (refine Ud ?_;(repeat clear hK K);repeat refine kq fun K hK=>?_)
  refine Uk ?_
  (refine Ud ?_;(repeat clear hK K);repeat refine kq fun K hK=>?_)
  refine Uo [] Tryd.results28 ?_
  rw [bad (fun h => JN.1 c1' h.1)]
 (refine Uc (an @c1 @Bool.not_true) ?_; repeat clear hK K)
 (refine Sj rfl rfl rfl (by simp only [go_sem] <;> rfl) ?_; intro K1 hK1; refine Bb ?_; refine xv [] (GN o[k].2) ?_ ?_)
 ·rintro _ _ ⟨rfl, rfl⟩ i o hi hl; simp at hl
 rintro _ _ ⟨rfl, rfl⟩
 (refine Uj ?_; clear hK1 K1)
 by_cases c2 : Da o[k].2 = true
 rotate_left
 ·have c2' : Da o[k].2 = false := by simpa using c2
  (refine Uc (an @c1 (an @c2' (an @Bool.not_true @Bool.not_false))) ?_; repeat clear hK K)
  (refine U1 rfl rfl rfl ?_; intro K1 hK1; refine Ba rfl ?_; simp only [go_sem]; (first | refine hK1 _ ?_ | refine AE (hK1 _ ?_)); clear hK1 K1)
  (refine Ub ?_; repeat clear hK K)
  (refine Ud ?_;(repeat clear hK K);repeat refine kq fun K hK=>?_)
  refine Uk ?_
  (refine Ud ?_;(repeat clear hK K);repeat refine kq fun K hK=>?_)
  refine Uo [] Tryd.results28 ?_
  rw [bad (fun h => JN.1 c2' h.2.1)]
 by_cases c5 : o[k].1 = o[k].2
 ·have d5 : (o[k].1 == o[k].2) = true := by simpa using c5
  (refine Uc (an @c1 (an @c2 (an @d5 @Bool.not_true))) ?_; repeat clear hK K)
  (refine U1 rfl rfl rfl ?_; intro K1 hK1; refine Ba rfl ?_; simp only [go_sem]; (first | refine hK1 _ ?_ | refine AE (hK1 _ ?_)); clear hK1 K1)
  (refine Ub ?_; repeat clear hK K)
  (refine Ud ?_;(repeat clear hK K);repeat refine kq fun K hK=>?_)
  refine Uk ?_
  (refine Ud ?_;(repeat clear hK K);repeat refine kq fun K hK=>?_)
  refine Uo [] Tryd.results28 ?_
  rw [bad (fun h => h.2.2 c5)]
 have d5 : (o[k].1 == o[k].2) = false := by simpa using c5
 have hck : D8 o[k].1 /\ D8 o[k].2 /\ o[k].1 ≠ o[k].2 := ⟨CU.1 c1, CU.1 c2, c5⟩
 by_cases h0 : k = 0
 ·have e0 : decide ((k : Int) > 0) = false := by simp; omega
  (refine Uc (an @c1 (an @c2 (an @d5 (an @e0 @Bool.not_true)))) ?_; repeat clear hK K)
  (refine U1 rfl rfl rfl ?_; intro K1 hK1; refine Ba rfl ?_; simp only [go_sem, c1, c2, e0, Bool.not_true]; (first | refine hK1 _ ?_ | refine AE (hK1 _ ?_)); clear hK1 K1)
  (refine Ub ?_; repeat clear hK K)
  (refine Ud ?_;(repeat clear hK K);repeat refine kq fun K hK=>?_)
  refine Ul ?_
  (refine Ud ?_;(repeat clear hK K);repeat refine kq fun K hK=>?_)
  refine Um ?_
  refine hK _ (k + 1) ⟨by omega, fun i a hi ha => ?_, fun i x y hi => by omega⟩ (by omega) ?_
  ·have e2 : i = k := by omega
   subst e2; rw [hg] at ha; cases ha; exact hck
  refine Le.trans (Ad [] rfl rfl) ?_
  (try simp only [List.set_nil, List.take_nil, List.take_zero, List.map_append, go_sem])
  exact Un
 have e0 : decide ((k : Int) > 0) = true := by simp; omega
 have e3 : ((k : Int) - 1) = ((k - 1 : Nat) : Int) := by omega
 have hlt1 : k - 1 < o.length := by omega
 have hg1 := gE1 hlt1
 have hk3 := AH hlt1
 (refine Uc (an @c1 (an @c2 (an @d5 (an @e0 (an @e3 (an @Bool.not_true (an @A4 (an @AA @hk3)))))))) ?_; repeat clear hK K)
 (refine Sj rfl rfl rfl (by simp only [go_sem] <;> rfl) ?_; intro K1 hK1; refine Bb ?_; refine xv [] (Lm o[k - 1] o[k]) ?_ ?_)
 ·rintro _ _ ⟨rfl, rfl⟩ i o hi hl; simp at hl
 rintro _ _ ⟨rfl, rfl⟩
 (refine Uj ?_; clear hK1 K1)
 cases hl : Ut o[k - 1] o[k] with
 | false =>
  (refine Uc (an @Gk (an @hl @Bool.not_false)) ?_; repeat clear hK K)
  (refine U1 rfl rfl rfl ?_; intro K1 hK1; refine Ba rfl ?_; simp only [go_sem]; (first | refine hK1 _ ?_ | refine AE (hK1 _ ?_)); clear hK1 K1)
  (refine Ub ?_; repeat clear hK K)
  (refine Ud ?_;(repeat clear hK K);repeat refine kq fun K hK=>?_)
  refine Uk ?_
  (refine Ud ?_;(repeat clear hK K);repeat refine kq fun K hK=>?_)
  refine Uo [] Tryd.results28 ?_
  rw [Nq hg1 (by rw [Nat.sub_add_cancel (by omega)]; exact hg) hl]
 | true =>
  (refine Uc (an @Gk (an @hl @Bool.not_true)) ?_; repeat clear hK K)
  (refine U1 rfl rfl rfl ?_; intro K1 hK1; refine Ba rfl ?_; simp only [go_sem]; (first | refine hK1 _ ?_ | refine AE (hK1 _ ?_)); clear hK1 K1)
  (refine Ub ?_; repeat clear hK K)
  (refine Ud ?_;(repeat clear hK K);repeat refine kq fun K hK=>?_)
  refine Ul ?_
  (refine Ud ?_;(repeat clear hK K);repeat refine kq fun K hK=>?_)
  refine Um ?_
  refine hK _ (k + 1) ⟨by omega, fun i a hi ha => ?_, fun i x y hi hx hy => ?_⟩ (by omega) ?_
  rotate_left 2
  ·refine Le.trans (Ad [] rfl rfl) ?_
   (try simp only [List.set_nil, List.take_nil, List.take_zero, List.map_append, go_sem])
   exact Un
  ·by_cases e2 : i = k
   ·subst e2; rw [hg] at ha; cases ha; exact hck
   exact hc i a (by omega) ha
  by_cases e2 : i + 1 = k
  rotate_left
  ·exact hs i x y (by omega) hx hy
  have e4 : i = k - 1 := by omega
  subst e4
  rw [hg1] at hx; rw [e2, hg] at hy
  cases hx; cases hy; exact hl
attribute [local go_sem] lga C.pl C.one
theorem MH (o : List Ar) (e : Int) (hv : Da e = false) : FC Tryd.prog 53 [CH o, .i e] [] (fun r q => q = [] /\ r = .a (.c (.v (.slice none 0 0)))) := by
 refine A8 Tryd.func53 rfl (by rw [Tryd.ntmps53]; simp) ?_
 rw [Tryd.ntmps53]
 have h := GN e
 rw [hv] at h
 simp only [Bs, CH]
 (refine Ud ?_;(repeat clear hK K);repeat refine kq fun K hK=>?_)
 (refine Ui h ?_; intro K1 hK1)
 rintro _ _ ⟨rfl, rfl⟩
 (refine Uj ?_; clear hK1 K1)
 (refine Ue @Bool.not_false ?_;(repeat clear hK K);repeat refine kq fun K hK=>?_)
 refine Uk ?_
 (refine Ud ?_;(repeat clear hK K);repeat refine kq fun K hK=>?_)
 exact L9 Tryd.results53
def HJ (o : List Ar) (lo hi : Int) : Bool := if hi = 0 \/ hi = 1 then o.any (fun a => a.1 == lo) else decide ((lo, hi) ∈ o)
set_option maxHeartbeats 1000000 in
theorem QF (o : List Ar) (lo hi : Int) (hn : o.length <= 1000000) (hs : SortA o) (hh : ∀ a ∈ o, 0 <= a.2) (hc : ∀ a ∈ o, Da a.1 = true) : FC Tryd.prog 32 [CH o, .i lo, .i hi] [] (fun r q => q = [] /\ r = .b (HJ o lo hi)) := by
 refine A8 Tryd.func32 rfl (by rw [Tryd.ntmps32]; simp) ?_
 rw [Tryd.ntmps32]
 have hcn := En o (lo, hi) (by omega) hs
 have hab := HI o lo (by omega) hs
 have hno := MH o lo
 simp only [Bs, CH] at hcn hab hno ⊢
 by_cases h01 : hi = 0 \/ hi = 1
 rotate_left
 ·have hval : HJ o lo hi = decide ((lo, hi) ∈ o) := by unfold HJ; rw [if_neg h01]
  have h0 : (hi == 0) = false := by simp; omega
  have h1 : (hi == 1) = false := by simp; omega
  rw [hval]
  (refine Ue (an @h0 @h1) ?_;(repeat clear hK K);repeat refine kq fun K hK=>?_)
  refine Ul ?_
  (refine Ud ?_;(repeat clear hK K);repeat refine kq fun K hK=>?_)
  (refine Ui hcn ?_; intro K1 hK1)
  rintro _ _ ⟨rfl, rfl⟩
  (refine Uj ?_; clear hK1 K1)
  (refine Ud ?_;(repeat clear hK K);repeat refine kq fun K hK=>?_)
  exact L9 Tryd.results32
 have hval : HJ o lo hi = o.any (fun a => a.1 == lo) := by unfold HJ; rw [if_pos h01]
 rw [hval]
 cases h0 : (hi == 0) <;> cases h1 : (hi == 1)
 ·simp at h0 h1; omega
 all_goals
  (refine Ue (an @h0 @h1) ?_;(repeat clear hK K);repeat refine kq fun K hK=>?_)
  refine Uk ?_
  (refine Ud ?_;(repeat clear hK K);repeat refine kq fun K hK=>?_)
  cases hv : Da lo with
  | true =>
   (refine Ui (hab hv hh) ?_; intro K1 hK1)
   rintro _ _ ⟨rfl, W, rfl, hW, hWm⟩
   (refine Uj ?_; clear hK1 K1)
   have e : o.any (fun a => a.1 == lo) = decide ((W.length : Int) > 0) := by
    cases W with
    | nil =>
     rw [show decide ((([] : List Ar).length : Int) > 0) = false by simp, List.any_eq_false]
     intro a ha h
     have := (hWm a).2 ⟨ha, by simpa using h⟩
     simp at this
    | cons b W =>
     rw [show decide (((b :: W).length : Int) > 0) = true by simp, List.any_eq_true]
     have := (hWm b).1 List.mem_cons_self
     exact ⟨b, this.1, by simpa using this.2⟩
   (refine Ue @A4 ?_;(repeat clear hK K);repeat refine kq fun K hK=>?_)
   refine Uq Tryd.results32 ?_
   rw [e, show W.length * 2 / 2 = W.length by omega]
  | false =>
   (refine Ui (hno hv) ?_; intro K1 hK1)
   rintro _ _ ⟨rfl, rfl⟩
   (refine Uj ?_; clear hK1 K1)
   have e : o.any (fun a => a.1 == lo) = false := by
    rw [List.any_eq_false]
    intro a ha h
    have h2 := hc a ha
    rw [show a.1 = lo by simpa using h, hv] at h2
    cases h2
   (refine Ud ?_;(repeat clear hK K);repeat refine kq fun K hK=>?_)
   refine Uq Tryd.results32 ?_
   rw [e]
   rfl
theorem RZ (o : List Ar) (x : Ar) (e : Int) (hn : o.length <= 1000000) (hs : SortA o) (hh : ∀ a ∈ o, 0 <= a.2) (hc : ∀ a ∈ o, Da a.1 = true) : FC Tryd.prog 31 [.i e, .a (.c (.p 0 0)), .a (.c (.p 1 0))] [.r ⟨38, 1, false, [.t 2 (Al o)]⟩, .r ⟨29, 2, false, [.v (.int .i64 x.1), .v (.int .i64 x.2)]⟩] (fun r q => q = [.r ⟨38, 1, false, [.t 2 (Al o)]⟩, .r ⟨29, 2, false, [.v (.int .i64 x.1), .v (.int .i64 x.2)]⟩] /\ r = .b (HJ o x.1 e)) := by
 refine A8 Tryd.func31 rfl (by rw [Tryd.ntmps31]; simp) ?_
 rw [Tryd.ntmps31]
 have hb := QF o x.1 e hn hs hh hc
 simp only [Bs, CH] at hb ⊢
 (refine Ud ?_;(repeat clear hK K);repeat refine kq fun K hK=>?_)
 (refine Ui hb ?_; intro K1 hK1)
 rintro _ _ ⟨rfl, rfl⟩
 (refine Uj ?_; clear hK1 K1)
 (refine Ud ?_;(repeat clear hK K);repeat refine kq fun K hK=>?_)
 exact Re [0, 1] Tryd.results31
theorem KA (xs : List Int) (p : Int -> Bool) (fn e k e2 k2 : Nat) (us vs : List Tr) (hn : xs.length <= 140737488355328) (hcal : B0 Tryd.prog fn = true)
  (hf : ∀ x ∈ xs, FC Tryd.prog fn [.i x, .a (.c (.p 0 0)), .a (.c (.p 1 0))] [.r ⟨e, k, false, us.map C.ofTr⟩, .r ⟨e2, k2, false, vs.map C.ofTr⟩] (fun r o => o = [.r ⟨e, k, false, us.map C.ofTr⟩, .r ⟨e2, k2, false, vs.map C.ofTr⟩] /\ r = .b (p x))) :
  FC Tryd.prog 55 [AK xs, .a (.c (.f fn [0, 1]))] [.r ⟨e, k, false, us.map C.ofTr⟩, .r ⟨e2, k2, false, vs.map C.ofTr⟩] (fun r o => o = [.r ⟨e, k, false, us.map C.ofTr⟩, .r ⟨e2, k2, false, vs.map C.ofTr⟩] /\ ∃ n : Int, r = .i n /\ -1 <= n /\ (0 <= n ↔ xs.any p = true)) := by
 refine A8 Tryd.func55 rfl (by rw [Tryd.ntmps55]; simp) ?_
 rw [Tryd.ntmps55]
 simp only [Bs, AK]
 (refine Ud ?_;(repeat clear hK K);repeat refine kq fun K hK=>?_)
 refine Ac (fun i : Nat => { tm := [(0, .a (.c (.t 1 (Af xs)))), (1, .a (.c (.f fn [0, 1]))), (7, .i xs.length), (8, .i i)], hp := [.r ⟨e, k, false, us.map C.ofTr⟩, .r ⟨e2, k2, false, vs.map C.ofTr⟩], n := 19, pin := 2 }) (fun i => i <= xs.length /\ ∀ j x, j < i -> xs[j]? = some x -> p x = false) (fun i => xs.length - i) 0 ?_ ?_ ?_
 ·exact ⟨by omega, by intro i x hi; omega⟩
 ·refine BG ?_
  simp only [Dl, A3, go_sem]
  simp
 rintro i ⟨hk, hno⟩ K hK
 (refine Ud ?_;(repeat clear hK K);repeat refine kq fun K hK=>?_)
 (refine Aw ?_; intro X Y hX hY; simp only [go_sem])
 refine ⟨fun h => hX ?_, fun h => hY ?_⟩
 rotate_left
 ·have hge : i = xs.length := by simp at h; omega
  clear hX hY X Y
  (refine Uh ?_;repeat clear hK K)
  (refine Ud ?_;(repeat clear hK K);repeat refine kq fun K hK=>?_)
  refine Uq Tryd.results55 ?_
  refine ⟨-1, rfl, by omega, ?_⟩
  simp
  intro x hm
  obtain ⟨j, hj⟩ := List.mem_iff_getElem?.1 hm
  exact hno j x (by rw [hge]; exact (List.getElem?_eq_some_iff.1 hj).1) hj
 have hlt : i < xs.length := by simpa using h
 clear hX hY X Y h
 (refine Ue (an @A3 (Ap (gE1 hlt))) ?_;(repeat clear hK K);repeat refine kq fun K hK=>?_)
 (refine A9 rfl ?_; intro K1 hK1; refine As (ids := [0, 1]) [0, 1] (hf xs[i] (gE6 hlt)) rfl rfl (by simp only [go_sem]) (by first | assumption | kernel_rfl) rfl rfl (by (simp only [List.map_append, List.append_nil, go_sem]) <;> rfl) (by (simp only [Tx, go_sem]) <;> rfl) ?_ ?_)
 ·rintro _ _ ⟨rfl, rfl⟩; rfl
 rintro _ _ ⟨rfl, rfl⟩
 (refine Uj ?_; clear hK1 K1)
 (refine Ud ?_;(repeat clear hK K);repeat refine kq fun K hK=>?_)
 (refine Aw ?_; intro X Y hX hY; simp only [go_sem])
 refine ⟨fun h => hX ?_, fun h => hY ?_⟩
 ·clear hX hY X Y
  (refine Ud ?_;(repeat clear hK K);repeat refine kq fun K hK=>?_)
  refine Uq Tryd.results55 ?_
  exact ⟨i, rfl, by omega, by simp; exact ⟨_, gE6 hlt, h⟩⟩
 clear hX hY X Y
 (refine Ud ?_;(repeat clear hK K);repeat refine kq fun K hK=>?_)
 refine Um ?_
 refine hK _ (i + 1) ⟨by omega, fun j x hj hx => ?_⟩ (by omega) ?_
 rotate_left
 ·refine BG ?_
  simp only [Dl, go_sem]
  simp
 by_cases e : j = i
 ·subst e; rw [gE1 hlt] at hx; cases hx; exact h
 exact hno j x (by omega) hx

theorem GP (xs : List Int) (p : Int -> Bool) (fn e k e2 k2 : Nat) (us vs : List Tr) (hn : xs.length <= 140737488355328) (hcal : B0 Tryd.prog fn = true)
  (hf : ∀ x ∈ xs, FC Tryd.prog fn [.i x, .a (.c (.p 0 0)), .a (.c (.p 1 0))] [.r ⟨e, k, false, us.map C.ofTr⟩, .r ⟨e2, k2, false, vs.map C.ofTr⟩] (fun r o => o = [.r ⟨e, k, false, us.map C.ofTr⟩, .r ⟨e2, k2, false, vs.map C.ofTr⟩] /\ r = .b (p x))) :
  FC Tryd.prog 30 [AK xs, .a (.c (.f fn [0, 1]))] [.r ⟨e, k, false, us.map C.ofTr⟩, .r ⟨e2, k2, false, vs.map C.ofTr⟩] (fun r o => o = [.r ⟨e, k, false, us.map C.ofTr⟩, .r ⟨e2, k2, false, vs.map C.ofTr⟩] /\ r = .b (xs.any p)) := by
 refine A8 Tryd.func30 rfl (by rw [Tryd.ntmps30]; simp) ?_
 rw [Tryd.ntmps30]
 simp only [Bs, AK]
 (refine Ud ?_;(repeat clear hK K);repeat refine kq fun K hK=>?_)
 (refine A9 rfl ?_; intro K1 hK1; refine cs [0, 1] (KA xs p fn e k e2 k2 us vs hn hcal hf) ?_ ?_)
 ·rintro _ _ ⟨rfl, n, rfl, hn1, hn2⟩; rfl
 rintro _ _ ⟨rfl, n, rfl, hn1, hn2⟩
 (refine Uj ?_; clear hK1 K1)
 (refine Ud ?_;(repeat clear hK K);repeat refine kq fun K hK=>?_)
 have e : decide (n >= 0) = xs.any p := by rw [Bool.eq_iff_iff, decide_eq_true_iff]; exact hn2
 refine Uq Tryd.results30 ?_
 simp only [e]
theorem JO {α : Type} (l : List α) (i : Nat) (a b : α) : (l.set i a).set i b = l.set i b := List.set_set ..
def Wc (o : List Ar) (r : List Ar) : List Ar := r.filter fun a => !(Dd r).any (fun e => HJ o a.1 e)
def Wd (o : List Ar) (R : List (List Ar)) (k : Nat) : List (List Ar) := (R.take k).map (Wc o) ++ List.replicate (R.length - k) []
theorem QG (o : List Ar) (R : List (List Ar)) (k : Nat) (h : k <= R.length) : (Wd o R k).length = R.length := by simp [Wd]; omega
theorem QH {o : List Ar} {R : List (List Ar)} {k : Nat} (h : k < R.length) : (Wd o R k)[k]? = some [] := by
 unfold Wd
 rw [gEb (by simp; omega), List.length_map, List.length_take, Nat.min_eq_left (by omega), Nat.sub_self, List.getElem?_replicate, if_pos (by omega)]
theorem Oz {o : List Ar} {R : List (List Ar)} {k : Nat} (h : k < R.length) : Wd o R (k + 1) = (Wd o R k).set k (Wc o R[k]) := by
 unfold Wd
 rw [List.set_append_right _ _ (by simp; omega), gE8 h, List.map_append, List.append_assoc]
 congr 1
 rw [List.length_map, List.length_take, Nat.min_eq_left (by omega), Nat.sub_self, show R.length - k = (R.length - (k + 1)) + 1 by omega, List.replicate_succ]
 rfl
theorem QI (o : List Ar) (R : List (List Ar)) : Wd o R R.length = R.map (Wc o) := by simp [Wd]
theorem MI (o : List Ar) (r : List Ar) : (Wc o r).length <= r.length := List.length_filter_le _ _
theorem MJ (o : List Ar) : ∀ R : List (List Ar), BP (R.map (Wc o)) <= BP R
 | [] => Nat.le_refl _
 | r :: R => by
  have h1 := MJ o R
  have h2 := MI o r
  simp only [BP, List.map_cons, List.sum_cons] at h1 ⊢
  omega
theorem S0 {R : List (List Ar)} (o : List Ar) (hv : Bg R = true) : Br (R.map (Wc o)) = true := by
 have h := (gE4 hv).1
 have ht := MJ o R
 refine gEg ⟨by rw [List.length_map]; exact h.1, by rw [List.length_map]; exact h.2.1, by have := h.2.2.1; omega, ?_⟩
 intro r hr a ha
 obtain ⟨q, hq, rfl⟩ := List.mem_map.1 hr
 rw [List.length_map]
 exact h.2.2.2 q hq a (List.mem_filter.1 ha).1
set_option maxHeartbeats 4000000 in
theorem MK (R : List (List Ar)) (o : List Ar) (hv : Bg R = true) (hn : R.length <= 1000000) (hr : ∀ r ∈ R, r.length <= 1000000) (hol : o.length <= 1000000) (ho : KE o = true) (hs : SortA o) (hh : ∀ a ∈ o, 0 <= a.2) (hc : ∀ a ∈ o, Da a.1 = true) : FC Tryd.prog 13 [BS R, CH o] [] (fun r q => q = [.r ⟨24, 1, false, [.t 1 (Ae (CG (R.map (Wc o))).1)]⟩] /\ r = .tup [.g [.t 1 (Ae (CG (R.map (Wc o))).1)], .c (.v (.int .i64 0))]) := by
 refine A8 Tryd.func13 rfl (by rw [Tryd.ntmps13]; simp) ?_
 rw [Tryd.ntmps13]
 have hlo : Br R = true := gEg (gE4 hv).1
 have h1 : 1 <= R.length := (gE4 hlo).1
 have hva := CC R (by omega) (fun r h => by have := hr r h; omega)
 rw [hv] at hva
 have hpo := QE o (by omega)
 rw [ho] at hpo
 have hin := fun s (h : s < R.length) => Iq R s h hn hr
 simp only [Bs, BS, CH] at hva hpo hin ⊢
 (refine Ud ?_;(repeat clear hK K);repeat refine kq fun K hK=>?_)
 (refine Ui hva ?_; intro K1 hK1)
 rintro _ _ ⟨rfl, rfl⟩
 (refine Uj ?_; clear hK1 K1)
 (refine Ue @Bool.not_true ?_;(repeat clear hK K);repeat refine kq fun K hK=>?_)
 (refine Dm rfl rfl (by simp only [go_sem] <;> rfl) ?_; intro K1 hK1; refine (Bu (ids := []) (hpo) rfl rfl (by simp only [go_sem]) (by kernel_rfl) (by (simp only [List.append_nil, go_sem]) <;> rfl) ?_).stp)
 rintro _ _ ⟨rfl, rfl⟩
 (refine Uj ?_; clear hK1 K1)
 (refine Ue @Bool.not_true ?_;(repeat clear hK K);repeat refine kq fun K hK=>?_)
 refine Ul ?_
 (refine Ue @A6 ?_;(repeat clear hK K);repeat refine kq fun K hK=>?_)
 have e0 : List.replicate R.length (C.o (2, 29) []) = BD (Wd o R 0) := by simp [BD, Wd, Al]
 rw [e0]
 refine Ac (fun k : Nat => { tm := [(2, .a (.c (.p 0 0))), (3, .a (.c (.p 1 0))), (4, .a (.c (.p 2 0))), (5, .a (.c (.v (.int .i64 0)))), (6, .a (.c (.s 3 R.length))), (29, .a (.c (.t 1 (Ae R)))), (30, .i R.length), (31, .i k)], hp := [.r ⟨24, 1, false, [.t 1 (Ae R)]⟩, .r ⟨38, 1, false, [.t 2 (Al o)]⟩, .r ⟨24, 1, false, [.v (.slice none 0 0)]⟩, .r ⟨30, 1, true, BD (Wd o R k)⟩], n := 70, pin := 0 }) (fun k => k <= R.length) (fun k => R.length - k) 0 ?_ ?_ ?_
 ·omega
 ·exact Un
 rintro k hk K hK
 by_cases hlt : k < R.length
 rotate_left
 ·have d1 : decide ((k : Int) < (R.length : Int)) = false := by simpa using hlt
  have hke : k = R.length := by omega
  subst hke
  rw [QI]
  (refine Ue @d1 ?_;(repeat clear hK K);repeat refine kq fun K hK=>?_)
  refine Ul ?_
  (refine Uh ?_;repeat clear hK K)
  refine B1 (I1 3 rfl) ?_
  simp only [LN, go_sem]
  have hlC := S0 o hv
  have hrC : ∀ r ∈ R.map (Wc o), r.length <= 1000000 := fun r h => by
   obtain ⟨q, hq, rfl⟩ := List.mem_map.1 h
   have := MI o q
   have := hr q hq
   omega
  have hlm : (R.map (Wc o)).length = R.length := List.length_map _
  generalize R.map (Wc o) = T at *
  have htk : (Ae T).take R.length = Ae T := gE7 (by rw [A6]; omega)
  (refine B1 (Bh (r := ⟨30, 1, true, Bd T⟩) 3 (Ae T) rfl (F4 _) (show 0 < (1 : Nat) by omega)) ?_; simp only [ST.frz, A0.frz, AV.frz, C.frz, Nat.le_refl, List.set_cons_zero, List.set_cons_succ, go_sem, htk, A6, hlm])
  (refine Ud ?_;(repeat clear hK K);repeat refine kq fun K hK=>?_)
  (refine Ui (Hx T hlC (by omega) hrC) ?_; intro K1 hK1)
  rintro _ _ ⟨rfl, rfl⟩
  (refine Uj ?_; clear hK1 K1)
  (refine Nh ?_;(repeat clear hK K);repeat refine kq fun K hK=>?_)
  exact Re [2] Tryd.results13
 have d1 : decide ((k : Int) < (R.length : Int)) = true := by simpa using hlt
 have hg := AQ (gE1 hlt)
 have hsu := Oz (o := o) hlt
 have hXl := QG o R k hk
 have hXg := QH (o := o) hlt
 have hrl := hr _ (gE6 hlt)
 generalize Wd o R k = Z at *
 (refine Ue @d1 ?_;(repeat clear hK K);repeat refine kq fun K hK=>?_)
 refine Uk ?_
 (refine Ue (an @hg @A6) ?_;(repeat clear hK K);repeat refine kq fun K hK=>?_)
 (refine Ui (hin k hlt) ?_; intro K1 hK1)
 rintro _ _ ⟨rfl, rfl⟩
 (simp only [AK, CB, Bw, List.append_nil, List.nil_append, List.length_map, go_sem]; refine hK1 _ ?_; clear hK1 K1)
 generalize R[k] = row at *
 have hrw : (Wc o row) = ((row.take row.length).filter fun a => !(Dd row).any (fun e => HJ o a.1 e)) := by rw [List.take_length]; rfl
 rw [hrw] at hsu
 have htk : (Af (Dd row)).take (Dd row).length = Af (Dd row) := gE7 (by rw [A3]; exact Nat.le_refl _)
 (refine B3 (Bh (r := ⟨3, 1, true, A5 (Dd row)⟩) 4 (Af (Dd row)) rfl (I9 _) (show 0 < (1 : Nat) by omega)) ?_; simp only [ST.frz, A0.frz, AV.frz, C.frz, Nat.le_refl, List.set_cons_zero, List.set_cons_succ, go_sem, A3, htk])
 (refine Ue (an @A4 @AA) ?_;(repeat clear hK K);repeat refine kq fun K hK=>?_)
 have hZ0 : Z = Z.set k ((row.take 0).filter fun a => !(Dd row).any (fun e => HJ o a.1 e)) := by
  refine List.ext_getElem? fun j => ?_
  by_cases hj : k = j
  rotate_left
  ·rw [gE5 hj]
  subst hj
  rw [gEc (by omega), hXg]; rfl
 refine Ac (fun j : Nat => { tm := [(2, .a (.c (.p 0 0))), (3, .a (.c (.p 1 0))), (4, .a (.c (.p 2 0))), (5, .a (.c (.v (.int .i64 0)))), (6, .a (.c (.s 3 R.length))), (7, .i k), (9, .a (.c (.t 1 (Af (Dd row))))), (29, .a (.c (.t 1 (Ae R)))), (30, .i R.length), (31, .i k), (39, .a (.c (.t 2 (Al row)))), (40, .i row.length), (41, .i j)], hp := [.r ⟨24, 1, false, [.t 1 (Ae R)]⟩, .r ⟨38, 1, false, [.t 2 (Al o)]⟩, .r ⟨24, 1, false, [.v (.slice none 0 0)]⟩, .r ⟨30, 1, true, BD (Z.set k ((row.take j).filter fun a => !(Dd row).any (fun e => HJ o a.1 e)))⟩], n := 70, pin := 0 }) (fun j => j <= row.length) (fun j => row.length - j) 0 ?_ ?_ ?_
 ·omega
 ·rw [<- hZ0]
  refine Le.trans (Ad [0, 1, 2, 3] rfl rfl) ?_
  (try simp only [List.set_nil, List.take_nil, List.take_zero, List.map_append, go_sem])
  (try simp only [Ea])
  exact Un
 rintro j hj K hK
 by_cases hlj : j < row.length
 rotate_left
 ·have d2 : decide ((j : Int) < (row.length : Int)) = false := by simpa using hlj
  have hje : j = row.length := by omega
  subst hje
  rw [<- hsu]
  (refine Ue @d2 ?_;(repeat clear hK K);repeat refine kq fun K hK=>?_)
  refine Ul ?_
  (refine Uh ?_;repeat clear hK K)
  (refine Ud ?_;(repeat clear hK K);repeat refine kq fun K hK=>?_)
  refine Um ?_
  refine hK _ (k + 1) (by omega) (by omega) ?_
  exact Un
 have d2 : decide ((j : Int) < (row.length : Int)) = true := by simpa using hlj
 have hat := AH hlj
 have htj := gE8 hlj
 obtain ⟨e, t, hya⟩ : ∃ e t, row[j] = (e, t) := ⟨_, _, rfl⟩
 rw [hya] at hat htj
 have hil := JA row
 have hcf := GP (Dd row) (fun x => HJ o e x) 31 38 1 29 2 [Tr.l 2 (Al o)] [Tr.v (.int .i64 e), Tr.v (.int .i64 t)] (by omega) (by kernel_rfl) (fun x _ => RZ o (e, t) x hol hs hh hc)
 simp only [AK, List.map_cons, List.map_nil, go_sem] at hcf
 (refine Ue @d2 ?_;(repeat clear hK K);repeat refine kq fun K hK=>?_)
 refine Uk ?_
 (refine CY (an @hat (an @A4 @AA)) ?_;(repeat clear hK K);repeat refine kq fun K hK=>?_)
 (refine A9 rfl ?_; intro K1 hK1; refine cs [1, 4] (hcf) ?_ ?_)
 ·rintro _ _ ⟨rfl, rfl⟩; rfl
 rintro _ _ ⟨rfl, rfl⟩
 (refine Uj ?_; clear hK1 K1)
 (refine Ud ?_;(repeat clear hK K);repeat refine kq fun K hK=>?_)
 (refine Aw ?_; intro X Y hX hY; simp only [go_sem])
 refine ⟨fun h => hX ?_, fun h => hY ?_⟩
 rotate_left
 ·have hkp : ((row.take (j + 1)).filter fun a => !(Dd row).any (fun e => HJ o a.1 e)) = ((row.take j).filter fun a => !(Dd row).any (fun e => HJ o a.1 e)) := by
   rw [htj, List.filter_append, List.filter_cons_of_neg (by simpa using h), List.filter_nil, List.append_nil]
  clear hX hY X Y
  (refine Ud ?_;(repeat clear hK K);repeat refine kq fun K hK=>?_)
  refine Um ?_
  refine hK _ (j + 1) (by omega) (by omega) ?_
  refine Le.trans (Ad [0, 1, 2, 3] rfl rfl) ?_
  (try simp only [List.set_nil, List.take_nil, List.take_zero, List.map_append, go_sem])
  (try simp only [A7, Ea])
  rw [hkp]
  exact Un
 have hkp : ((row.take (j + 1)).filter fun a => !(Dd row).any (fun e => HJ o a.1 e)) = ((row.take j).filter fun a => !(Dd row).any (fun e => HJ o a.1 e)) ++ [(e, t)] := by
  rw [htj, List.filter_append, List.filter_cons_of_pos (by simpa using h), List.filter_nil]
 have hcl : ((row.take j).filter fun a => !(Dd row).any (fun e => HJ o a.1 e)).length <= 1000000 := Nat.le_trans (List.length_filter_le _ _) (by rw [List.length_take]; omega)
 generalize ((row.take j).filter fun a => !(Dd row).any (fun e => HJ o a.1 e)) = oc at *
 have hYl : (Z.set k oc).length = R.length := by rw [List.length_set]; exact hXl
 have hgo : (Z.set k oc)[k]? = some oc := gEc (by omega)
 have hYs : (Z.set k oc).set k (oc ++ [(e, t)]) = Z.set k (oc ++ [(e, t)]) := List.set_set ..
 generalize Z.set k oc = Y2 at *
 clear hX hY X Y
 (refine B7 [] (.m 0 0 0 (.m 1 0 0 (.m 2 0 0 (.m 3 0 0 (.m 4 0 0 (.m 5 1 8 (.m 6 1 7 (.a 7 (.a 8 (.m 9 0 0 (.a 10 .e))))))))))) (by kernel_rfl) (by kernel_rfl) (by intro c st h; simp [Ai, AX, Tz] at h) ?_)
 (refine Ug (an @D1 (an (FT hgo) @hYl)) ?_; repeat clear hK K)
 (refine U4 rfl rfl ?_; intro K1 hK1; refine BW rfl ?_; simp only [go_sem]; (first | refine hK1 _ ?_ | refine AE (hK1 _ ?_)); clear hK1 K1)
 (refine Pq rfl rfl rfl ?_; intro K1 hK1; refine Gd rfl rfl rfl rfl (by first | rfl | simp only [Dn, List.getD_cons_zero, List.getD_cons_succ, hne, List.isEmpty_cons, Bool.not_false, Bool.true_and, Bool.and_true, Bool.and_self]) rfl ?_; simp only [go_sem, Lf, A4, AA, K5, FT hgo]; (first | refine hK1 _ ?_ | refine AE (hK1 _ ?_)); clear hK1 K1)
 (refine Ug (an @D1 @hYl) ?_; repeat clear hK K)
 (refine U5 rfl rfl rfl rfl ?_; intro K1 hK1; refine Ba rfl ?_; simp only [go_sem, D1, List.length_set, JO, hYl]; (first | refine hK1 _ ?_ | refine AE (hK1 _ ?_)); clear hK1 K1)
 refine CA ⟨by simp, by simp, ?_⟩
 (try simp only [Ai, AX])
 refine hK _ ?_
 clear hK K
 have hj6 : ((BD Y2).set k (C.s 6 (oc.length + 1)))[k]? = some (.s 6 (oc.length + 1)) := by rw [gEc (by rw [D1]; omega)]
 have hset6 : ((BD Y2).set k (C.s 6 (oc.length + 1))).set k (.o (2, 29) (Al (oc ++ [(e, t)]))) = BD (Y2.set k (oc ++ [(e, t)])) := by rw [JO, Km]
 refine B1 (B6 (r := ⟨29, 2, true, Ao (oc ++ [(e, t)])⟩) (ri := ⟨30, 1, true, (BD Y2).set k (C.s 6 (oc.length + 1))⟩) (ts := Al (oc ++ [(e, t)])) 3 k 6 (oc.length + 1) (by decide) rfl hj6 rfl rfl (show 0 < 2 by omega) (by rw [Aq]; simp) (Dp _)) ?_
 simp only [hset6, go_sem]
 (refine Ud ?_;(repeat clear hK K);repeat refine kq fun K hK=>?_)
 refine Um ?_
 refine hK _ (j + 1) (by omega) (by omega) ?_
 refine Le.trans (Ad [0, 1, 2, 3] rfl rfl) ?_
 (try simp only [List.set_nil, List.take_nil, List.take_zero, List.map_append, go_sem])
 (try simp only [A7, Ea])
 rw [hkp, <- hYs]
 exact Un
end Go.Proofs.YtjijjfkalheokaaDoor
