/- cmp.Compare; small words. Plain words: compared pairs, ascending rows, valid systems, orders. graph: Min of a window, closeComponent, arcs. slices.Repeat of one number. Compared arcs: cmp.Or, the three compares. -/
import Derived.Test.YtknidjnbfnpkdaaGreatMF
import Derived.Test.YtknidjnbfnpkdaaGreatG11
import Derived.Test.YtknidjnbfnpkdaaGreatShlf
namespace Go.Proofs.YtknidjnbfnpkdaaGreat
set_option linter.unusedVariables false
set_option linter.unusedSimpArgs false
open Go.RowKit
set_option maxRecDepth 100000

theorem isNaN_fc (x : Int) : FC Tryz.prog 61 [.i x] [] (fun r o => o = [] ∧ r = .b false) := by
  refine fc_intro Tryz.func61 rfl (by rw [Tryz.ntmps61]; simp) ?_
  rw [Tryz.ntmps61]
  simp only [enum]
  (repeat (first | (refine aw_seq ?_; intro K hK) | refine aw_block ?_ | refine aw_region ?_ | (refine lst_x rfl rfl ?_; intro K1 hK1; simp only [go_sem, bne_self_eq_false]; (first | refine hK1 _ ?_ | refine andk (hK1 _ ?_)); clear hK1 K1) | ((first | refine lst_nil ?_ | refine aw_skip ?_); refine hK _ ?_; clear hK K)))
  ((try refine aw_ret ?_); (try refine lst_nil ?_); (try simp only [ThenA, InBl]); refine ret_mk (by first | exact .inl rfl | exact .inr rfl) rfl ?_; simp only [rtn, resA, resL, resV, Tryz.results61, go_sem])
def cmpI (a b : Int) : Int := if a < b then -1 else if a > b then 1 else 0
theorem cmp_fc (x y : Int) : FC Tryz.prog 47 [.i x, .i y] [] (fun r o => o = [] ∧ r = .i (cmpI x y)) := by
  refine fc_intro Tryz.func47 rfl (by rw [Tryz.ntmps47]; simp) ?_
  rw [Tryz.ntmps47]
  simp only [enum]
  (repeat (first | (refine aw_seq ?_; intro K hK) | refine aw_block ?_ | refine aw_region ?_ | (refine lst_x rfl rfl ?_; intro K1 hK1; simp only [go_sem]; (first | refine hK1 _ ?_ | refine andk (hK1 _ ?_)); clear hK1 K1) | ((first | refine lst_nil ?_ | refine aw_skip ?_); refine hK _ ?_; clear hK K)))
  (refine lst_cons rfl ?_; intro K1 hK1; refine (stp_call0 (ids := []) (isNaN_fc x) rfl rfl (by simp only [go_sem]) (by kernel_rfl) (by (simp only [List.append_nil, go_sem]) <;> rfl) ?_).stp)
  rintro _ _ ⟨rfl, rfl⟩
  (simp only [aInts, aSets, List.append_nil, List.nil_append, List.length_map, go_sem]; refine hK1 _ ?_; clear hK1 K1)
  (repeat (first | (refine aw_seq ?_; intro K hK) | refine aw_block ?_ | refine aw_region ?_ | (refine lst_x rfl rfl ?_; intro K1 hK1; simp only [go_sem]; (first | refine hK1 _ ?_ | refine andk (hK1 _ ?_)); clear hK1 K1) | ((first | refine lst_nil ?_ | refine aw_skip ?_); refine hK _ ?_; clear hK K)))
  (refine lst_cons rfl ?_; intro K1 hK1; refine (stp_call0 (ids := []) (isNaN_fc y) rfl rfl (by simp only [go_sem]) (by kernel_rfl) (by (simp only [List.append_nil, go_sem]) <;> rfl) ?_).stp)
  rintro _ _ ⟨rfl, rfl⟩
  (simp only [aInts, aSets, List.append_nil, List.nil_append, List.length_map, go_sem]; refine hK1 _ ?_; clear hK1 K1)
  (repeat (first | (refine aw_seq ?_; intro K hK) | refine aw_block ?_ | refine aw_region ?_ | (refine lst_x rfl rfl ?_; intro K1 hK1; simp only [go_sem]; (first | refine hK1 _ ?_ | refine andk (hK1 _ ?_)); clear hK1 K1) | ((first | refine lst_nil ?_ | refine aw_skip ?_); refine hK _ ?_; clear hK K)))
  (refine aw_cnd ?_; intro X Y hX hY; simp only [go_sem])
  refine hY ?_; clear hX hY X Y
  (repeat (first | (refine aw_seq ?_; intro K hK) | refine aw_block ?_ | refine aw_region ?_ | (refine lst_x rfl rfl ?_; intro K1 hK1; simp only [go_sem]; (first | refine hK1 _ ?_ | refine andk (hK1 _ ?_)); clear hK1 K1) | ((first | refine lst_nil ?_ | refine aw_skip ?_); refine hK _ ?_; clear hK K)))
  (refine aw_cnd ?_; intro X Y hX hY; simp only [go_sem])
  refine hY ?_; clear hX hY X Y
  (repeat (first | (refine aw_seq ?_; intro K hK) | refine aw_block ?_ | refine aw_region ?_ | (refine lst_x rfl rfl ?_; intro K1 hK1; simp only [go_sem]; (first | refine hK1 _ ?_ | refine andk (hK1 _ ?_)); clear hK1 K1) | ((first | refine lst_nil ?_ | refine aw_skip ?_); refine hK _ ?_; clear hK K)))
  (refine aw_cnd ?_; intro X Y hX hY; simp only [go_sem])
  refine ⟨fun h => hX ?_, fun h => hY ?_⟩
  · clear hX hY X Y
    (repeat (first | (refine aw_seq ?_; intro K hK) | refine aw_block ?_ | refine aw_region ?_ | (refine lst_x rfl rfl ?_; intro K1 hK1; simp only [go_sem]; (first | refine hK1 _ ?_ | refine andk (hK1 _ ?_)); clear hK1 K1) | ((first | refine lst_nil ?_ | refine aw_skip ?_); refine hK _ ?_; clear hK K)))
    ((try refine aw_ret ?_); (try refine lst_nil ?_); (try simp only [ThenA, InBl]); refine ret_mk (by first | exact .inl rfl | exact .inr rfl) rfl ?_; simp only [rtn, resA, resL, resV, Tryz.results47, go_sem])
    have : x < y := by simpa using h
    simp [cmpI, this]
  · clear hX hY X Y
    have h1 : ¬ x < y := by simpa using h
    clear h
    (repeat (first | (refine aw_seq ?_; intro K hK) | refine aw_block ?_ | refine aw_region ?_ | (refine lst_x rfl rfl ?_; intro K1 hK1; simp only [go_sem]; (first | refine hK1 _ ?_ | refine andk (hK1 _ ?_)); clear hK1 K1) | ((first | refine lst_nil ?_ | refine aw_skip ?_); refine hK _ ?_; clear hK K)))
    (refine aw_cnd ?_; intro X Y hX hY; simp only [go_sem])
    refine ⟨fun h => hX ?_, fun h => hY ?_⟩
    · clear hX hY X Y
      (repeat (first | (refine aw_seq ?_; intro K hK) | refine aw_block ?_ | refine aw_region ?_ | (refine lst_x rfl rfl ?_; intro K1 hK1; simp only [go_sem]; (first | refine hK1 _ ?_ | refine andk (hK1 _ ?_)); clear hK1 K1) | ((first | refine lst_nil ?_ | refine aw_skip ?_); refine hK _ ?_; clear hK K)))
      ((try refine aw_ret ?_); (try refine lst_nil ?_); (try simp only [ThenA, InBl]); refine ret_mk (by first | exact .inl rfl | exact .inr rfl) rfl ?_; simp only [rtn, resA, resL, resV, Tryz.results47, go_sem])
      have : y < x := by simpa using h
      simp [cmpI, this, h1]
    · clear hX hY X Y
      (repeat (first | (refine aw_seq ?_; intro K hK) | refine aw_block ?_ | refine aw_region ?_ | (refine lst_x rfl rfl ?_; intro K1 hK1; simp only [go_sem]; (first | refine hK1 _ ?_ | refine andk (hK1 _ ?_)); clear hK1 K1) | ((first | refine lst_nil ?_ | refine aw_skip ?_); refine hK _ ?_; clear hK K)))
      ((try refine aw_ret ?_); (try refine lst_nil ?_); (try simp only [ThenA, InBl]); refine ret_mk (by first | exact .inl rfl | exact .inr rfl) rfl ?_; simp only [rtn, resA, resL, resV, Tryz.results47, go_sem])
      have : ¬ y < x := by simpa using h
      simp [cmpI, this, h1]
theorem drop_get {α : Type} {xs : List α} {k : Nat} (h : k < xs.length) : xs.drop k = xs[k] :: xs.drop (k + 1) := List.drop_eq_getElem_cons h
theorem lst_le {P : Program} {ops : Array Oper} {l : List Oper} {st t : ST} {K : ST → Prop} (h : Le st t) (k : Lst P ops l t K) : Lst P ops l st K := fun M0 w0 a w Q hR hN => k M0 w0 a w Q (h M0 w0 a w hR) hN
end Go.Proofs.YtknidjnbfnpkdaaGreat
namespace Go.Proofs.YtknidjnbfnpkdaaGreat
set_option linter.unusedVariables false
set_option linter.unusedSimpArgs false

def cmpR (a b : Ar) : Int := if cmpI a.1 b.1 ≠ 0 then cmpI a.1 b.1 else cmpI a.2 b.2
theorem cmpI_eq (a b : Int) : (a < b ∧ cmpI a b = -1) ∨ (a = b ∧ cmpI a b = 0) ∨ (b < a ∧ cmpI a b = 1) := by
  unfold cmpI
  rcases Int.lt_trichotomy a b with h | h | h
  · exact .inl ⟨h, by simp [h]⟩
  · exact .inr (.inl ⟨h, by simp [h]⟩)
  · exact .inr (.inr ⟨h, by rw [if_neg (by omega), if_pos h]⟩)
theorem cmpR_lt (a b : Ar) : decide (cmpR a b < 0) = ltA a b := by
  rw [Bool.eq_iff_iff, decide_eq_true_iff, ltA_iff]
  unfold cmpR
  rcases cmpI_eq a.1 b.1 with ⟨h, e⟩ | ⟨h, e⟩ | ⟨h, e⟩ <;> rw [e]
  · simp; omega
  · rcases cmpI_eq a.2 b.2 with ⟨h2, e2⟩ | ⟨h2, e2⟩ | ⟨h2, e2⟩ <;> rw [e2] <;> simp <;> omega
  · simp; omega
theorem cmpR_ge (a b : Ar) : decide (cmpR a b ≥ 0) = !ltA a b := by
  rw [← cmpR_lt, Bool.eq_iff_iff, decide_eq_true_iff, Bool.not_eq_true', decide_eq_false_iff_not]
  omega
instance decSortA (l : List Ar) : Decidable (SortA l) := inferInstanceAs (Decidable (List.Pairwise (fun a b => ltA a b = true) l))
theorem sortA_get {xs : List Ar} (h : ∀ i a b, xs[i]? = some a → xs[i + 1]? = some b → ltA a b = true) : SortA xs := by
  unfold SortA
  induction xs with
  | nil => exact .nil
  | cons a r ih =>
    have h2 := ih fun i x y hx hy => h (i + 1) x y (by simpa using hx) (by simpa using hy)
    rw [List.pairwise_cons]
    refine ⟨fun b hb => ?_, h2⟩
    cases r with
    | nil => simp at hb
    | cons c q =>
      have h1 := h 0 a c rfl rfl
      rcases List.mem_cons.1 hb with rfl | hb
      · exact h1
      · exact ltA_trans h1 ((List.pairwise_cons.1 h2).1 b hb)
theorem SortA.at {xs : List Ar} (h : SortA xs) {i j : Nat} {a b : Ar} (hij : i < j) (ha : xs[i]? = some a) (hb : xs[j]? = some b) : ltA a b = true := by
  have h1 := List.getElem?_eq_some_iff.1 ha
  have h2 := List.getElem?_eq_some_iff.1 hb
  have := List.pairwise_iff_getElem.1 h i j h1.1 h2.1 hij
  rwa [h1.2, h2.2] at this
theorem sortA_not {xs : List Ar} {i : Nat} {a b : Ar} (ha : xs[i]? = some a) (hb : xs[i + 1]? = some b) (h : ltA a b = false) : ¬ SortA xs := fun hs => by
  have := hs.at (by omega) ha hb
  rw [h] at this; cases this
def chanP (x : Int) : Prop := 2 ≤ x ∧ x ≤ 1025
instance decChanP (x : Int) : Decidable (chanP x) := inferInstanceAs (Decidable (_ ∧ _))
theorem tArcs_c0 {xs : List Ar} {i : Nat} (h : i < xs.length) : (tArcs xs)[i * 2]? = some (.v (.int .i64 xs[i].1)) := by
  have := tArcs_at h
  have e : ((tArcs xs).drop (i * 2))[0]? = some (.v (.int .i64 xs[i].1)) := by
    rw [← List.getElem?_take_of_lt (show 0 < 2 by omega), this]; rfl
  simpa using e
theorem tArcs_c1 {xs : List Ar} {i : Nat} (h : i < xs.length) : (tArcs xs)[i * 2 + 1]? = some (.v (.int .i64 xs[i].2)) := by
  have := tArcs_at h
  have e : ((tArcs xs).drop (i * 2))[1]? = some (.v (.int .i64 xs[i].2)) := by
    rw [← List.getElem?_take_of_lt (show 1 < 2 by omega), this]; rfl
  simpa using e
/-- a priority order -/
def OrdP (o : List Ar) : Prop := SortA o ∧ (∀ a ∈ o, chanP a.1 ∧ chanP a.2 ∧ a.1 ≠ a.2) ∧ ∀ x ∈ o, ∀ y ∈ o, y.1 = x.2 → (x.1, y.2) ∈ o
instance decOrdP (o : List Ar) : Decidable (OrdP o) := inferInstanceAs (Decidable (_ ∧ _ ∧ _))
/-- sums of lengths -/
def totA (R : List (List Ar)) : Nat := (R.map List.length).sum
theorem totA_snoc (R : List (List Ar)) (r : List Ar) : totA (R ++ [r]) = totA R + r.length := by simp [totA]
theorem totA_take {R : List (List Ar)} {k : Nat} (h : k < R.length) : totA (R.take (k + 1)) = totA (R.take k) + R[k].length := by
  rw [List.take_succ_eq_append_getElem h, totA_snoc]
theorem totA_le (R : List (List Ar)) (k : Nat) : totA (R.take k) ≤ totA R := by
  have : totA R = totA (R.take k) + totA (R.drop k) := by
    unfold totA
    rw [← List.sum_append, ← List.map_append, List.take_append_drop]
  omega
def maxS : Nat := 16384
def maxA : Nat := 262144
/-- a loose system -/
def LooP (R : List (List Ar)) : Prop := 1 ≤ R.length ∧ R.length ≤ maxS ∧ totA R ≤ maxA ∧ ∀ r ∈ R, ∀ a ∈ r, 0 ≤ a.1 ∧ a.1 ≤ 1025 ∧ 0 ≤ a.2 ∧ a.2 < (R.length : Int)
instance decLooP (R : List (List Ar)) : Decidable (LooP R) := inferInstanceAs (Decidable (_ ∧ _ ∧ _ ∧ _))
def looB (R : List (List Ar)) : Bool := decide (LooP R)
def valB (R : List (List Ar)) : Bool := decide (LooP R ∧ ∀ r ∈ R, SortA r)
theorem valB_no {R : List (List Ar)} (h : looB R = false) : valB R = false := by
  rw [looB, decide_eq_false_iff_not] at h
  rw [valB, decide_eq_false_iff_not]
  exact fun h2 => h h2.1
end Go.Proofs.YtknidjnbfnpkdaaGreat
namespace Go.Proofs.YtknidjnbfnpkdaaGreat
set_option linter.unusedVariables false
set_option linter.unusedSimpArgs false
open Go.RowKit
set_option maxRecDepth 100000
attribute [local go_sem] List.set_cons_zero List.set_cons_succ List.map_cons List.map_nil List.take_succ_cons List.take_zero List.drop_zero List.drop_succ_cons C.pl C.one List.all_cons List.all_nil Bool.and_true Nat.mul_one Int.toNat_natCast

theorem cInts_set (L : List Int) (i : Nat) (x : Int) : (cInts L).set i (.v (.int .i64 x)) = cInts (L.set i x) := by simp [cInts, List.map_set]

/-- the arcs that the closure looks at -/
def tauOf (t : Bool) (r : List Ar) : List Ar := if t then r.takeWhile fun a => a.1 == 0 else r
end Go.Proofs.YtknidjnbfnpkdaaGreat
namespace Go.Proofs.YtknidjnbfnpkdaaGreat
set_option linter.unusedVariables false
set_option linter.unusedSimpArgs false
open Go.RowKit Go.Shelf
set_option maxRecDepth 100000
attribute [local go_sem] List.set_cons_zero List.set_cons_succ List.map_cons List.map_nil List.take_succ_cons List.take_zero List.drop_zero List.drop_succ_cons C.pl C.one List.all_cons List.all_nil Bool.and_true Nat.mul_one Int.toNat_natCast

end Go.Proofs.YtknidjnbfnpkdaaGreat
namespace Go.Proofs.YtknidjnbfnpkdaaGreat
set_option linter.unusedVariables false
set_option linter.unusedSimpArgs false
open Go.RowKit
set_option maxRecDepth 100000
attribute [local go_sem] List.set_cons_zero List.set_cons_succ List.map_cons List.map_nil List.take_succ_cons List.take_zero List.drop_zero List.drop_succ_cons C.pl C.one List.all_cons List.all_nil Bool.and_true

/-- the first number that is not 0 -/
def orL : List Int → Int
  | [] => 0
  | x :: r => if x ≠ 0 then x else orL r
theorem cmpOr_fc (xs : List Int) (hn : xs.length ≤ 100000000) : FC Tryz.prog 46 [aInts xs] [] (fun r o => o = [] ∧ r = .i (orL xs)) := by
  refine fc_intro Tryz.func46 rfl (by rw [Tryz.ntmps46]; simp) ?_
  rw [Tryz.ntmps46]
  simp only [enum, aInts]
  (repeat (first | (refine aw_seq ?_; intro K hK) | refine aw_block ?_ | refine aw_region ?_ | (refine lst_x rfl rfl ?_; intro K1 hK1; simp only [go_sem, tInts_len]; (first | refine hK1 _ ?_ | refine andk (hK1 _ ?_)); clear hK1 K1) | ((first | refine lst_nil ?_ | refine aw_skip ?_); refine hK _ ?_; clear hK K)))
  refine aw_loop (fun k : Nat => { tm := [(3, .i 0), (6, .a (.c (.t 1 (tInts xs)))), (7, .i xs.length), (8, .i k)], hp := [], n := 18, pin := 0 }) (fun k => k ≤ xs.length ∧ orL xs = orL (xs.drop k)) (fun k => xs.length - k) 0 ?_ ?_ ?_
  · exact ⟨by omega, rfl⟩
  · (refine le_tm ?_; simp only [LeTm, go_sem]; try simp)
  · rintro k ⟨hk, he⟩ K hK
    (repeat (first | (refine aw_seq ?_; intro K hK) | refine aw_block ?_ | refine aw_region ?_ | (refine lst_x rfl rfl ?_; intro K1 hK1; simp only [go_sem]; (first | refine hK1 _ ?_ | refine andk (hK1 _ ?_)); clear hK1 K1) | ((first | refine lst_nil ?_ | refine aw_skip ?_); refine hK _ ?_; clear hK K)))
    (refine aw_cnd ?_; intro X Y hX hY; simp only [go_sem])
    refine ⟨fun h => hX ?_, fun h => hY ?_⟩
    · have hlt : k < xs.length := by simpa using h
      rw [drop_get hlt] at he
      clear hX hY X Y h
      (repeat (first | (refine aw_seq ?_; intro K hK) | refine aw_block ?_ | refine aw_region ?_ | (refine lst_x rfl rfl ?_; intro K1 hK1; simp only [go_sem, tInts_len, tInts_get (List.getElem?_eq_getElem hlt)]; (first | refine hK1 _ ?_ | refine andk (hK1 _ ?_)); clear hK1 K1) | ((first | refine lst_nil ?_ | refine aw_skip ?_); refine hK _ ?_; clear hK K)))
      (refine aw_cnd ?_; intro X Y hX hY; simp only [go_sem])
      refine ⟨fun h => hX ?_, fun h => hY ?_⟩
      · clear hX hY X Y
        (repeat (first | (refine aw_seq ?_; intro K hK) | refine aw_block ?_ | refine aw_region ?_ | (refine lst_x rfl rfl ?_; intro K1 hK1; simp only [go_sem]; (first | refine hK1 _ ?_ | refine andk (hK1 _ ?_)); clear hK1 K1) | ((first | refine lst_nil ?_ | refine aw_skip ?_); refine hK _ ?_; clear hK K)))
        ((try refine aw_ret ?_); (try refine lst_nil ?_); (try simp only [ThenA, InBl]); refine ret_mk (by first | exact .inl rfl | exact .inr rfl) rfl ?_; simp only [rtn, resA, resL, resV, Tryz.results46, go_sem])
        have : xs[k] ≠ 0 := by simpa using h
        rw [he, orL, if_pos this]
      · clear hX hY X Y
        (repeat (first | (refine aw_seq ?_; intro K hK) | refine aw_block ?_ | refine aw_region ?_ | (refine lst_x rfl rfl ?_; intro K1 hK1; simp only [go_sem]; (first | refine hK1 _ ?_ | refine andk (hK1 _ ?_)); clear hK1 K1) | ((first | refine lst_nil ?_ | refine aw_skip ?_); refine hK _ ?_; clear hK K)))
        ((try refine lst_nil ?_); (try refine aw_skip ?_); try simp only [ThenA])
        refine hK _ (k + 1) ⟨by omega, ?_⟩ (by omega) ?_
        · have : xs[k] = 0 := by simpa using h
          rw [he, orL, if_neg (by simp [this])]
        (refine le_tm ?_; simp only [LeTm, go_sem]; try simp)
    · clear hX hY X Y
      have hge : k = xs.length := by simp at h; omega
      (refine aw_exit ?_; simp only [ThenA, InBl, reduceIte, Nat.reduceEqDiff]; (first | refine hK _ ?_ | (clear hK K; refine hK _ ?_) | (clear hK K; clear hK K; refine hK _ ?_) | (clear hK K; clear hK K; clear hK K; refine hK _ ?_) | (clear hK K; clear hK K; clear hK K; clear hK K; refine hK _ ?_) | (clear hK K; clear hK K; clear hK K; clear hK K; clear hK K; refine hK _ ?_)); clear hK K)
      (repeat (first | (refine aw_seq ?_; intro K hK) | refine aw_block ?_ | refine aw_region ?_ | (refine lst_x rfl rfl ?_; intro K1 hK1; simp only [go_sem]; (first | refine hK1 _ ?_ | refine andk (hK1 _ ?_)); clear hK1 K1) | ((first | refine lst_nil ?_ | refine aw_skip ?_); refine hK _ ?_; clear hK K)))
      ((try refine aw_ret ?_); (try refine lst_nil ?_); (try simp only [ThenA, InBl]); refine ret_mk (by first | exact .inl rfl | exact .inr rfl) rfl ?_; simp only [rtn, resA, resL, resV, Tryz.results46, go_sem])
      have hd : xs.drop k = [] := List.drop_eq_nil_of_le (by omega)
      rw [he, hd]; try rfl
theorem orL_cmp (a b : Ar) : orL [cmpI a.1 b.1, cmpI a.2 b.2] = cmpR a b := by
  simp only [orL, cmpR]
  split
  · rfl
  · split
    · rfl
    · rename_i h; simpa using Eq.symm (by simpa using h)
theorem rcmp_fc (a b : Ar) : FC Tryz.prog 35 [.a (.g [.v (.int .i64 a.1), .v (.int .i64 a.2)]), .a (.g [.v (.int .i64 b.1), .v (.int .i64 b.2)])] [] (fun r o => o = [] ∧ r = .i (cmpR a b)) := by
  refine fc_intro Tryz.func35 rfl (by rw [Tryz.ntmps35]; simp) ?_
  rw [Tryz.ntmps35]
  simp only [enum]
  (repeat (first | (refine aw_seq ?_; intro K hK) | refine aw_block ?_ | refine aw_region ?_ | (refine lst_x rfl rfl ?_; intro K1 hK1; simp only [go_sem, List.set_cons_zero, List.set_cons_succ]; (first | refine hK1 _ ?_ | refine andk (hK1 _ ?_)); clear hK1 K1) | ((first | refine lst_nil ?_ | refine aw_skip ?_); refine hK _ ?_; clear hK K)))
  (refine aw_regionV [] [(0, 0, 0), (2, 0, 0), (5, 0, 0), (7, 0, 0), (1, 1, 4), (3, 1, 4), (6, 1, 9), (8, 1, 9), (4, 2, 0), (9, 2, 0), (10, 2, 0), (11, 2, 0), (12, 2, 0)] (by kernel_rfl) (by kernel_rfl) (by intro c st h; simp [ThenA, InBl, Ret] at h) ?_)
  (repeat (first | ((first | refine v_0 rfl rfl rfl ?_ | refine v_1 rfl rfl rfl rfl rfl rfl rfl rfl rfl ?_ | refine v_1q rfl rfl rfl rfl rfl rfl rfl ?_ | refine v_1f rfl rfl rfl ?_ | refine v_2f rfl rfl rfl rfl ?_); intro K1 hK1; simp only [go_sem]; (first | refine hK1 _ ?_ | refine andk (hK1 _ ?_)); clear hK1 K1) | (refine v_nil ⟨by simp, by simp, ?_⟩; refine hK _ ?_; clear hK K)))
  (refine v_2 rfl rfl ?_; intro K1 hK1; refine stpX_mono ?_; refine stpX_call (ids := []) [] (cmp_fc a.1 b.1) rfl rfl (by simp only [go_sem]) (by kernel_rfl) rfl rfl rfl (by (simp only [List.map_append, List.append_nil, go_sem]) <;> rfl) (by (simp only [pkh, go_sem]) <;> rfl) ?_ ?_)
  · rintro _ _ ⟨rfl, rfl⟩ i o hi hl; simp at hl
  rintro _ _ ⟨rfl, rfl⟩
  (simp only [aInts, aSets, List.append_nil, List.nil_append, List.length_map, go_sem]; refine hK1 _ ?_; clear hK1 K1)
  (repeat (first | ((first | refine v_0 rfl rfl rfl ?_ | refine v_1 rfl rfl rfl rfl rfl rfl rfl rfl rfl ?_ | refine v_1q rfl rfl rfl rfl rfl rfl rfl ?_ | refine v_1f rfl rfl rfl ?_ | refine v_2f rfl rfl rfl rfl ?_); intro K1 hK1; simp only [go_sem]; (first | refine hK1 _ ?_ | refine andk (hK1 _ ?_)); clear hK1 K1) | (refine v_nil ⟨by simp, by simp, ?_⟩; refine hK _ ?_; clear hK K)))
  (refine v_2 rfl rfl ?_; intro K1 hK1; refine stpX_mono ?_; refine stpX_call (ids := []) [] (cmp_fc a.2 b.2) rfl rfl (by simp only [go_sem]) (by kernel_rfl) rfl rfl rfl (by (simp only [List.map_append, List.append_nil, go_sem]) <;> rfl) (by (simp only [pkh, go_sem]) <;> rfl) ?_ ?_)
  · rintro _ _ ⟨rfl, rfl⟩ i o hi hl; simp at hl
  rintro _ _ ⟨rfl, rfl⟩
  (simp only [aInts, aSets, List.append_nil, List.nil_append, List.length_map, go_sem]; refine hK1 _ ?_; clear hK1 K1)
  (repeat (first | ((first | refine v_0 rfl rfl rfl ?_ | refine v_1 rfl rfl rfl rfl rfl rfl rfl rfl rfl ?_ | refine v_1q rfl rfl rfl rfl rfl rfl rfl ?_ | refine v_1f rfl rfl rfl ?_ | refine v_2f rfl rfl rfl rfl ?_); intro K1 hK1; simp only [go_sem]; (first | refine hK1 _ ?_ | refine andk (hK1 _ ?_)); clear hK1 K1) | (refine v_nil ⟨by simp, by simp, ?_⟩; refine hK _ ?_; clear hK K)))
  (refine v_3 rfl rfl rfl ?_; intro K1 hK1; refine stp_ev rfl ?_; simp only [go_sem, List.set_cons_zero, List.set_cons_succ]; (first | refine hK1 _ ?_ | refine andk (hK1 _ ?_)); clear hK1 K1)
  (refine v_le (le_frz (r := ⟨3, 1, true, cInts [cmpI a.1 b.1, cmpI a.2 b.2]⟩) 2 (tInts [cmpI a.1 b.1, cmpI a.2 b.2]) rfl (fz_c _) (show 0 < (1 : Nat) by omega)) ?_; simp only [ST.frz, A0.frz, AV.frz, C.frz, Nat.le_refl, List.set_cons_zero, List.set_cons_succ, go_sem, tInts_len, tInts_take, List.length_cons, List.length_nil, List.take_succ_cons, List.take_zero])
  (repeat (first | ((first | refine v_0 rfl rfl rfl ?_ | refine v_1 rfl rfl rfl rfl rfl rfl rfl rfl rfl ?_ | refine v_1q rfl rfl rfl rfl rfl rfl rfl ?_ | refine v_1f rfl rfl rfl ?_ | refine v_2f rfl rfl rfl rfl ?_); intro K1 hK1; simp only [go_sem]; (first | refine hK1 _ ?_ | refine andk (hK1 _ ?_)); clear hK1 K1) | (refine v_nil ⟨by simp, by simp, ?_⟩; refine hK _ ?_; clear hK K)))
  (refine v_2 rfl rfl ?_; intro K1 hK1; refine stpX_mono ?_; refine stpX_call (ids := []) [] (cmpOr_fc [cmpI a.1 b.1, cmpI a.2 b.2] (by simp)) rfl rfl (by simp only [go_sem]) (by kernel_rfl) rfl rfl rfl (by (simp only [List.map_append, List.append_nil, go_sem]) <;> rfl) (by (simp only [pkh, aInts, go_sem]) <;> rfl) ?_ ?_)
  · rintro _ _ ⟨rfl, rfl⟩ i o hi hl; simp at hl
  rintro _ _ ⟨rfl, rfl⟩
  (simp only [aInts, aSets, List.append_nil, List.nil_append, List.length_map, go_sem]; refine hK1 _ ?_; clear hK1 K1)
  (refine v_3 rfl rfl rfl ?_; intro K1 hK1; refine stp_ev rfl ?_; simp only [go_sem]; (first | refine hK1 _ ?_ | refine andk (hK1 _ ?_)); clear hK1 K1)
  (repeat (first | ((first | refine v_0 rfl rfl rfl ?_ | refine v_1 rfl rfl rfl rfl rfl rfl rfl rfl rfl ?_ | refine v_1q rfl rfl rfl rfl rfl rfl rfl ?_ | refine v_1f rfl rfl rfl ?_ | refine v_2f rfl rfl rfl rfl ?_); intro K1 hK1; simp only [go_sem]; (first | refine hK1 _ ?_ | refine andk (hK1 _ ?_)); clear hK1 K1) | (refine v_nil ⟨by simp, by simp, ?_⟩; refine hK _ ?_; clear hK K)))
  ((try refine aw_ret ?_); (try simp only [ThenA, InBl]); refine ret_le (le_pick [] rfl rfl) ?_; (try simp only [List.set_nil, List.take_nil, List.take_zero, List.map_append, go_sem]); ((try refine aw_ret ?_); (try refine lst_nil ?_); (try simp only [ThenA, InBl]); refine ret_mk (by first | exact .inl rfl | exact .inr rfl) rfl ?_; simp only [rtn, resA, resL, resV, Tryz.results35, go_sem, true_and, and_true]))
  rw [orL_cmp]
end Go.Proofs.YtknidjnbfnpkdaaGreat
