/- flow.Walker.Reach as a plain search: marks and queue. flow: New, Stable, Walker.Reach. flow: Ticks, Initials, Acceptance. The compares of flow and delay. flow.Canonical. diamond.TauLoops. weak.Quotient. ref23.OnCycle, ref23.Divergent. ref23.Canonical. ref23: SameRow, Same at equal systems. ref28.TauLoops. diamond.TauLoops at a system that is not valid. -/
import Derived.Test.YtahnebicgbjonaaGreatTj1
import Derived.Test.YtahnebicgbjonaaGreatG42
import Derived.Test.YtahnebicgbjonaaGreatMG
import Derived.Test.YtahnebicgbjonaaGreatMD
import Derived.Shelf.SlSortCmp.Kit1
import Derived.Test.YtahnebicgbjonaaGreatMF
import Derived.Shelf.Sort.Plain
import Derived.Shelf.Slices.In.SortNone
import Derived.Test.YtahnebicgbjonaaGreatZk
import Derived.Test.YtahnebicgbjonaaGreatG11
import Derived.Test.YtahnebicgbjonaaGreatG45
namespace Go.Proofs.YtahnebicgbjonaaGreat
set_option linter.unusedVariables false
set_option linter.unusedSimpArgs false

structure Fw (E : Nat → List Nat) (n : Nat) (F : List Nat) (rd : Int) (seen : List Int) (out : List Nat) : Prop where
 len : seen.length = n
 st : ∀ u, u < n → (seen.getD u 0 = rd ↔ u ∈ out)
 nd : out.Nodup
 lt : ∀ u ∈ out, u < n
 snd : ∀ u ∈ out, ∃ v ∈ F, Rc E v u
 bd : ∀ x ∈ seen, x ≤ rd
variable {E : Nat → List Nat} {n : Nat} {F : List Nat} {rd : Int} {seen : List Int} {out : List Nat}
theorem Fw.start (h : seen.length = n) (hb : ∀ x ∈ seen, x < rd) : Fw E n F rd seen [] :=
 ⟨h, fun u hu => ⟨fun e => by
  rw [List.getD_eq_getElem?_getD, List.getElem?_eq_getElem (by omega), Option.getD_some] at e
  have := hb _ (List.getElem_mem (show u < seen.length by omega)); omega, fun h => by simp at h⟩, List.nodup_nil, fun u h => by simp at h, fun u h => by simp at h, fun x h => by have := hb x h; omega⟩
theorem Fw.push (h : Fw E n F rd seen out) {u : Nat} (hu : u < n) (hn : seen.getD u 0 ≠ rd) (hs : ∃ v ∈ F, Rc E v u) : Fw E n F rd (seen.set u rd) (out ++ [u]) := by
 have hno : u ∉ out := fun hm => hn ((h.st u hu).2 hm)
 refine ⟨by rw [List.length_set]; exact h.len, fun w hw => ?_, ?_, fun w hw => ?_, fun w hw => ?_, fun x hx => ?_⟩
 ·rw [List.getD_eq_getElem?_getD, List.getElem?_set]
  by_cases e : u = w
  ·subst e
   rw [if_pos rfl, if_pos (by rw [h.len]; exact hw)]
   simp
  ·rw [if_neg e, ← List.getD_eq_getElem?_getD, h.st w hw]
   simp [Ne.symm e]
 ·exact List.nodup_append.2 ⟨h.nd, by simp, fun a ha b hb => by simp at hb; subst hb; exact fun e => hno (e ▸ ha)⟩
 ·rcases List.mem_append.1 hw with h1 | h1
  ·exact h.lt w h1
  ·simp at h1; omega
 ·rcases List.mem_append.1 hw with h1 | h1
  ·exact h.snd w h1
  ·simp at h1; subst h1; exact hs
 ·rcases List.mem_or_eq_of_mem_set hx with h1 | h1
  ·exact h.bd x h1
  ·omega
theorem nodup_le : ∀ (n : Nat) (l : List Nat), l.Nodup → (∀ u ∈ l, u < n) → l.length ≤ n := by
 intro n
 induction n with
 | zero => intro l _ h; cases l with
  | nil => simp
  | cons a r => have := h a (by simp); omega
 | succ n ih =>
  intro l hn hl
  have h1 : (l.erase n).length ≤ n := ih _ (hn.erase n) fun u hu => by
   have h2 := (List.Nodup.mem_erase_iff hn).1 hu
   have := hl u h2.2
   omega
  have := List.length_erase (a := n) (l := l)
  split at this <;> omega
theorem Fw.le (h : Fw E n F rd seen out) : out.length ≤ n := nodup_le n out h.nd h.lt
theorem Fw.done (h : Fw E n F rd seen out) (hF : ∀ v ∈ F, v ∈ out) (hc : ∀ u ∈ out, ∀ w ∈ E u, w ∈ out) (u : Nat) : u ∈ out ↔ ∃ v ∈ F, Rc E v u := by
 refine ⟨h.snd u, fun ⟨v, hv, hr⟩ => ?_⟩
 induction hr with
 | refl => exact hF v hv
 | tail _ he ih => exact hc _ (ih ⟨v, hv, ‹_›⟩) _ he
def ordN (n : Nat) (p : Nat → Bool) : List Nat := (List.range n).filter p
theorem ordN_sorted (n : Nat) (p : Nat → Bool) : (ordN n p).Pairwise (· < ·) := List.Pairwise.filter _ List.pairwise_lt_range
theorem mem_ordN {n : Nat} {p : Nat → Bool} {u : Nat} : u ∈ ordN n p ↔ u < n ∧ p u = true := by simp [ordN]
end Go.Proofs.YtahnebicgbjonaaGreat
namespace Go.Proofs.YtahnebicgbjonaaGreat
set_option linter.unusedVariables false
set_option linter.unusedSimpArgs false
open Go.RowKit
set_option maxRecDepth 100000
attribute [local go_sem] List.set_cons_zero List.set_cons_succ List.map_cons List.map_nil List.take_succ_cons List.take_zero List.drop_zero List.drop_succ_cons C.pl C.one List.all_cons List.all_nil Bool.and_true Nat.mul_one Int.toNat_natCast

end Go.Proofs.YtahnebicgbjonaaGreat
namespace Go.Proofs.YtahnebicgbjonaaGreat
set_option linter.unusedVariables false
set_option linter.unusedSimpArgs false
open Go.RowKit
set_option maxRecDepth 100000
theorem fcmp_fc (a b : Ar) : FC Tryz.prog 85 [.a (.g [.v (.int .i64 a.1), .v (.int .i64 a.2)]), .a (.g [.v (.int .i64 b.1), .v (.int .i64 b.2)])] [] (fun r o => o = [] ∧ r = .i (cmpR a b)) := by
 refine fc_intro Tryz.func85 rfl (by rw [Tryz.ntmps85]; simp) ?_
 rw [Tryz.ntmps85]
 simp only [enum]
 (refine wk1 (an @List.set_cons_zero.{0} @List.set_cons_succ.{0}) ?_; (repeat clear hK K); repeat (refine Kq.mk ?_; intro K hK))
 (refine aw_regionV [] [(0, 0, 0), (2, 0, 0), (5, 0, 0), (7, 0, 0), (1, 1, 4), (3, 1, 4), (6, 1, 9), (8, 1, 9), (4, 2, 0), (9, 2, 0), (10, 2, 0), (11, 2, 0), (12, 2, 0)] (by kernel_rfl) (by kernel_rfl) (by intro c st h; simp [ThenA, InBl, Ret] at h) ?_)
 (refine vk0 ?_; repeat clear hK K)
 (refine v_2 rfl rfl ?_; intro K1 hK1; refine stpX_mono ?_; refine stpX_call (ids := []) [] (cmp_fc a.1 b.1) rfl rfl (by simp only [go_sem]) (by kernel_rfl) rfl rfl rfl (by (simp only [List.map_append, List.append_nil, go_sem]) <;> rfl) (by (simp only [pkh, go_sem]) <;> rfl) ?_ ?_)
 ·rintro _ _ ⟨rfl, rfl⟩ i o hi hl; simp at hl
 rintro _ _ ⟨rfl, rfl⟩
 (refine bkz ?_; clear hK1 K1)
 (refine vk0 ?_; repeat clear hK K)
 (refine v_2 rfl rfl ?_; intro K1 hK1; refine stpX_mono ?_; refine stpX_call (ids := []) [] (cmp_fc a.2 b.2) rfl rfl (by simp only [go_sem]) (by kernel_rfl) rfl rfl rfl (by (simp only [List.map_append, List.append_nil, go_sem]) <;> rfl) (by (simp only [pkh, go_sem]) <;> rfl) ?_ ?_)
 ·rintro _ _ ⟨rfl, rfl⟩ i o hi hl; simp at hl
 rintro _ _ ⟨rfl, rfl⟩
 (refine bkz ?_; clear hK1 K1)
 (refine vk0 ?_; repeat clear hK K)
 (refine v_3 rfl rfl rfl ?_; intro K1 hK1; refine stp_ev rfl ?_; simp only [go_sem, List.set_cons_zero, List.set_cons_succ]; (first | refine hK1 _ ?_ | refine andk (hK1 _ ?_)); clear hK1 K1)
 (refine v_le (le_frz (r := ⟨3, 1, true, cInts [cmpI a.1 b.1, cmpI a.2 b.2]⟩) 2 (tInts [cmpI a.1 b.1, cmpI a.2 b.2]) rfl (fz_c _) (show 0 < (1 : Nat) by omega)) ?_; simp only [ST.frz, A0.frz, AV.frz, C.frz, Nat.le_refl, List.set_cons_zero, List.set_cons_succ, go_sem, tInts_len, tInts_take, List.length_cons, List.length_nil, List.take_succ_cons, List.take_zero])
 (refine vk0 ?_; repeat clear hK K)
 (refine v_2 rfl rfl ?_; intro K1 hK1; refine stpX_mono ?_; refine stpX_call (ids := []) [] (cmpOr_fc [cmpI a.1 b.1, cmpI a.2 b.2] (by simp)) rfl rfl (by simp only [go_sem]) (by kernel_rfl) rfl rfl rfl (by (simp only [List.map_append, List.append_nil, go_sem]) <;> rfl) (by (simp only [pkh, aInts, go_sem]) <;> rfl) ?_ ?_)
 ·rintro _ _ ⟨rfl, rfl⟩ i o hi hl; simp at hl
 rintro _ _ ⟨rfl, rfl⟩
 (refine bkz ?_; clear hK1 K1)
 (refine v_3 rfl rfl rfl ?_; intro K1 hK1; refine stp_ev rfl ?_; simp only [go_sem]; (first | refine hK1 _ ?_ | refine andk (hK1 _ ?_)); clear hK1 K1)
 (refine vk0 ?_; repeat clear hK K)
 ((try refine aw_ret ?_); (try simp only [ThenA, InBl]); refine ret_le (le_pick [] rfl rfl) ?_; (try simp only [List.set_nil, List.take_nil, List.take_zero, List.map_append, go_sem]); ((try refine aw_ret ?_); (try refine lst_nil ?_); (try simp only [ThenA, InBl]); refine ret_mk (by first | exact .inl rfl | exact .inr rfl) rfl ?_; simp only [rtn, resA, resL, resV, Tryz.results85, go_sem, true_and, and_true]))
 rw [orL_cmp]
attribute [local go_sem] List.set_cons_zero List.set_cons_succ List.map_cons List.map_nil List.take_succ_cons List.take_zero List.drop_zero List.drop_succ_cons C.pl C.one List.all_cons List.all_nil Bool.and_true Nat.mul_one Int.toNat_natCast
theorem canGo_pre (R : List (List Ar)) : ∀ (f i : Nat) (num old : List Int) (out : List (List Ar)), ∃ l, (canGo R f i num old out).1 = out ++ l := by
 intro f
 induction f with
 | zero => intro i num old out; exact ⟨[], by simp [canGo]⟩
 | succ f ih =>
  intro i num old out
  unfold canGo
  split
  ·exact ⟨[], by simp⟩
  ·obtain ⟨l, hl⟩ := ih (i + 1) (rowGo (rowOf (R.getD (Int.toNat ‹_›) [])) num old []).1 (rowGo (rowOf (R.getD (Int.toNat ‹_›) [])) num old []).2.1 (out ++ [(rowGo (rowOf (R.getD (Int.toNat ‹_›) [])) num old []).2.2])
   exact ⟨_ :: l, by rw [hl, List.append_assoc]; rfl⟩
theorem totA_app (x y : List (List Ar)) : totA (x ++ y) = totA x + totA y := by simp [totA]
theorem totA_one (r : List Ar) : totA [r] = r.length := by simp [totA]
def fcR (q : List (List Ar)) (r : AV) (o : List Ob) : Prop :=
 if totA q ≤ 262144 then o = [.r ⟨25, 1, false, [.t 1 (tRows q)]⟩] ∧ r = .tup [.g [.t 1 (tRows q)], .c (.v (.bool true))]
 else o = [.r ⟨25, 1, false, [.v (.slice none 0 0)]⟩] ∧ r = .tup [.g [.v (.slice none 0 0)], .c (.v (.bool false))]
set_option maxHeartbeats 8000000 in
theorem fcanon_fc (R : List (List Ar)) (h1 : 1 ≤ R.length) (hbd : ∀ r ∈ R, ∀ a ∈ r, 0 ≤ a.2 ∧ a.2 < (R.length : Int)) (hn : R.length ≤ 1000000) (hr : ∀ r ∈ R, r.length ≤ 1000000) : FC Tryz.prog 73 [.a (.c (.t 1 (tRows R)))] [] (fcR (canonR R).1) := by
 refine fc_intro Tryz.func73 rfl (by rw [Tryz.ntmps73]; simp) ?_
 rw [Tryz.ntmps73]
 simp only [enum]
 (refine wk1 @tRows_len ?_; (repeat clear hK K); repeat (refine Kq.mk ?_; intro K hK))
 (refine lst_cons rfl ?_; intro K1 hK1; refine stp_callσ (ids := []) [1] (repeat_fc (-1) R.length h1 hn) rfl rfl (by simp only [go_sem]) (by first | assumption | kernel_rfl) rfl rfl (by (simp only [List.map_append, List.append_nil, go_sem]) <;> rfl) (by (simp only [pkh, rInts, cInts, go_sem]) <;> rfl) ?_ ?_)
 ·rintro _ _ ⟨rfl, rfl⟩; rfl
 rintro _ _ ⟨rfl, rfl⟩
 (simp only [aInts, aSets, rInts, cInts_up, List.append_nil, List.nil_append, List.length_map, go_sem]; refine hK1 _ ?_; clear hK1 K1)
 have g0 : 0 < (List.replicate R.length (-1 : Int)).length := by simp; omega
 (refine wks1 (an @cInts_len (an @List.length_replicate.{0} @cInts_set)) ?_; (repeat clear hK K); repeat (refine Kq.mk ?_; intro K hK))
 refine aw_le (le_new 45 1) ?_
 simp only [List.cons_append, List.nil_append]
 refine aw_le (le_cell 4 0 5 (by decide) rfl rfl rfl) ?_
 simp only [List.set_cons_zero, List.set_cons_succ]
 refine aw_le (le_pick [0, 2, 3, 4, 5] rfl rfl) ?_
 (try simp only [List.set_nil, List.take_nil, List.take_zero, List.map_append, go_sem])
 (try simp only [cInts_ren])
 refine aw_loop (fun x : Nat × List Int × List Int × List (List Ar) => { tm := [(0, .a (.c (.t 1 (tRows R)))), (2, .a (.c (.p 0 0))), (4, .a (.c (.s 1 R.length))), (5, .a (.c (.s 2 x.2.2.1.length))), (6, .i (totA x.2.2.2)), (7, .a (.c (.p 3 0))), (8, .i x.1)], hp := [.r ⟨25, 1, false, [.v (.slice none 0 0)]⟩, .r ⟨3, 1, true, cInts x.2.1⟩, .r ⟨3, 1, true, cInts x.2.2.1⟩, .r ⟨25, 1, false, [.s 4 x.1]⟩, .r ⟨45, 1, true, cRows x.2.2.2⟩], n := 87, pin := 0 }) (fun x => NumOk R.length x.2.1 x.2.2.1 ∧ NumInj x.2.1 x.2.2.1 ∧ canGo R (R.length - x.1) x.1 x.2.1 x.2.2.1 x.2.2.2 = canonR R ∧ x.1 ≤ x.2.2.1.length ∧ x.2.2.2.length = x.1 ∧ totA x.2.2.2 ≤ 262144) (fun x => R.length - x.1) (0, (List.replicate R.length (-1)).set 0 0, [0], []) ?_ ?_ ?_
 ·exact ⟨NumOk.start h1, NumInj.start h1, rfl, by simp, rfl, by simp [totA]⟩
 ·simp only [totA, List.map_nil, List.sum_nil]
  exact lmz
 ·rintro ⟨i, num, old, out⟩ ⟨hN, hI, hC, hio, hoi, hto⟩ K hK
  simp only at hN hI hC hio hoi hto
  have hlen := hN.len
  have hle := hN.le
  by_cases hlt : i < old.length
  ·have d1 : decide ((i : Int) < (old.length : Int)) = true := by simpa using hlt
   have hs0 := hN.st _ (List.getElem_mem hlt)
   obtain ⟨sn, hsn⟩ : ∃ sn : Nat, old[i] = sn := ⟨old[i].toNat, by omega⟩
   have hsl : sn < R.length := by omega
   have go : (cInts old)[i]? = some (.v (.int .i64 sn)) := by rw [← hsn]; exact cInts_get (List.getElem?_eq_getElem hlt)
   have hgR := List.getElem?_eq_getElem hsl
   have hrl := hr _ (List.getElem_mem hsl)
   have hst := canGo_step (rows := R) (n := R.length) (i := i) (num := num) (old := old) (out := out) (s := (sn : Int)) (r := R[sn]) (by omega) (by rw [List.getElem?_eq_getElem hlt, hsn]) (by simp [hgR]) rfl
   generalize hrr : R[sn] = r at *
   have hcl := clone_arcs (tArcs r) (by rw [tArcs_len]; omega)
   rw [tArcs_of, tArcs_len, half2] at hcl
   (refine wk1 (an @d1 @cInts_len) ?_; (repeat clear hK K); repeat (refine Kq.mk ?_; intro K hK))
   refine cxz ?_
   (refine wk1 (an @tRows_len (an (tRows_get hgR) (an @cInts_len @go))) ?_; (repeat clear hK K); repeat (refine Kq.mk ?_; intro K hK))
   (refine ckz hcl ?_; intro K1 hK1)
   rintro _ _ ⟨rfl, rfl⟩
   (simp only [aInts, aSets, cArcs_up3, List.append_nil, List.nil_append, List.length_map, go_sem]; refine hK1 _ ?_; clear hK1 K1)
   (refine wk0 ?_; (repeat clear hK K); repeat (refine Kq.mk ?_; intro K hK))
   (refine lst_cons rfl ?_; intro K1 hK1; refine stp_callσ (ids := []) [5] (sortA_fc 85 (by kernel_rfl) fcmp_fc r (by omega)) rfl rfl (by simp only [go_sem]) (by first | assumption | kernel_rfl) rfl rfl (by (simp only [List.map_append, List.append_nil, go_sem]) <;> rfl) (by (simp only [pkh, cArcs_ren3, go_sem]) <;> rfl) ?_ ?_)
   ·rintro _ _ ⟨rfl, L', _, _, rfl⟩; rfl
   rintro _ _ ⟨rfl, L', hperm, hsort, rfl⟩
   (simp only [aInts, aSets, cArcs_up3, List.append_nil, List.nil_append, List.length_map, go_sem]; refine hK1 _ ?_; clear hK1 K1)
   have hLl := hperm.length_eq
   have hq : cmpA L' = rowOf r := by rw [cmpA_comp]; exact comp_sort hperm hsort
   rw [← hLl]
   (refine wk0 ?_; (repeat clear hK K); repeat (refine Kq.mk ?_; intro K hK))
   (refine lst_cons rfl ?_; intro K1 hK1; refine stp_callσ (ids := []) [5] (compact_arcs L' (by omega)) rfl rfl (by simp only [go_sem]) (by first | assumption | kernel_rfl) rfl rfl (by (simp only [List.map_append, List.append_nil, go_sem]) <;> rfl) (by (simp only [pkh, cArcs_ren3, go_sem]) <;> rfl) ?_ ?_)
   ·rintro _ _ ⟨rfl, rest, us, _, _, rfl⟩; rfl
   rintro _ _ ⟨rfl, rest, us, hrest, hr0, rfl⟩
   (simp only [aInts, aSets, cArcs_up3, List.append_nil, List.nil_append, List.length_map, go_sem]; refine hK1 _ ?_; clear hK1 K1)
   (refine wk0 ?_; (repeat clear hK K); repeat (refine Kq.mk ?_; intro K hK))
   obtain ⟨q, hqd⟩ : ∃ q, q = rowOf r := ⟨_, rfl⟩
   rw [← hqd] at hq hst
   have hqs : SortA q := by rw [hqd]; exact rowOf_sorted r
   have hql : q.length ≤ 1000000 := by rw [hqd]; exact Nat.le_trans (len_rowOf r) (by omega)
   have hqb : ∀ a ∈ q, 0 ≤ a.2 ∧ a.2 < (R.length : Int) := fun a ha => by
    rw [hqd, mem_rowOf] at ha
    exact hbd r (by rw [← hrr]; exact List.getElem_mem hsl) a ha
   rw [hq]
   refine aw_le (le_take 5 (q.length * 2) rfl ?_) ?_
   ·intro _ h
    rw [cut_arcs _ _ _ (cArcs_up3 _ _)] at h
    have hq0 : q = [] := by
     have := congrArg List.length h
     rw [cArcs_len] at this
     exact List.length_eq_zero_iff.1 (by simp at this; omega)
    have hL0 : L' = [] := by
     cases L' with
     | nil => rfl
     | cons x xs =>
      have : cmpA (x :: xs) = [] := by rw [hq, hq0]
      simp [cmpA] at this
    rw [hr0 hL0, hq0]; rfl
   simp only [cut_arcs _ _ _ (cArcs_up3 _ _), go_sem]
   refine aw_loop (fun x : Nat × List Int × List Int × List Ar => { tm := [(0, .a (.c (.t 1 (tRows R)))), (2, .a (.c (.p 0 0))), (4, .a (.c (.s 1 R.length))), (5, .a (.c (.s 2 x.2.2.1.length))), (6, .i (totA out)), (7, .a (.c (.p 3 0))), (8, .i i), (9, .a (.c (.s 5 q.length))), (37, .a (.c (.s 5 q.length))), (38, .i q.length), (39, .i x.1)], hp := [.r ⟨25, 1, false, [.v (.slice none 0 0)]⟩, .r ⟨3, 1, true, cInts x.2.1⟩, .r ⟨3, 1, true, cInts x.2.2.1⟩, .r ⟨25, 1, false, [.s 4 i]⟩, .r ⟨45, 1, true, cRows out⟩, .r ⟨49, 2, true, cArcs x.2.2.2⟩], n := 87, pin := 0 }) (fun x => x.1 ≤ q.length ∧ x.2.2.2.length = q.length ∧ NumOk R.length x.2.1 x.2.2.1 ∧ old.length ≤ x.2.2.1.length ∧ NL (numL q num old) x.2.2.2 q x.1 x.2.1 x.2.2.1) (fun x => q.length - x.1) (0, num, old, q) ?_ ?_ ?_
   ·exact ⟨by simp, rfl, hN, Nat.le_refl _, NL.start q num old⟩
   ·exact lmz
   ·rintro ⟨k, num1, old1, ya⟩ ⟨hk, hyl, hN1, hol, hNL⟩ K hK
    simp only at hk hyl hN1 hol hNL
    have hlen1 := hN1.len
    have hle1 := hN1.le
    by_cases hlt2 : k < q.length
    ·have d2 : decide ((k : Int) < (q.length : Int)) = true := by simpa using hlt2
     have hky : k < ya.length := by omega
     have hyq : ya[k] = q[k] := by
      have := congrArg (fun l => l[0]?) hNL.2.2.2
      simp only [List.getElem?_drop, Nat.add_zero] at this
      rw [List.getElem?_eq_getElem hky, List.getElem?_eq_getElem hlt2] at this
      exact Option.some.inj this
     have hyb := hqb _ (List.getElem_mem hlt2)
     rw [← hyq] at hyb
     obtain ⟨e, tn, hya⟩ : ∃ (e : Int) (tn : Nat), ya[k] = (e, (tn : Int)) := ⟨ya[k].1, ya[k].2.toNat, by
      have : (ya[k].2.toNat : Int) = ya[k].2 := by omega
      rw [this]⟩
     have hyk : ya[k]? = some (e, (tn : Int)) := by rw [List.getElem?_eq_getElem hky, hya]
     have htl : tn < R.length := by rw [hya] at hyb; have := hyb.2; simp only at this; omega
     have hat := cArcs_at hky
     rw [hya] at hat
     have gn : (cInts num1)[tn]? = some (.v (.int .i64 num1[tn])) := cInts_get (List.getElem?_eq_getElem (by omega))
     have gn2 : num1[tn]? = some num1[tn] := List.getElem?_eq_getElem (by omega)
     (refine wk1 @d2 ?_; (repeat clear hK K); repeat (refine Kq.mk ?_; intro K hK))
     refine cxz ?_
     by_cases hx : num1[tn] < 0
     ·have d3 : decide (num1[tn] < 0) = true := by simpa using hx
      have gs : (cInts (num1.set tn (old1.length : Int)))[tn]? = some (.v (.int .i64 (old1.length : Int))) := cInts_get (List.getElem?_set_self (by omega))
      have op := old_push old1 (tn : Int)
      have cs := cArcs_set1 hyk (old1.length : Int)
      (refine wks1 (an @hat (an @cArcs_len (an @hyl (an @gn (an @d3 (an @cInts_len @hlen1)))))) ?_; (repeat clear hK K); repeat (refine Kq.mk ?_; intro K hK))
      refine cxz ?_
      (refine wks1 (an @cInts_len (an @hlen1 (an @cInts_set (an @op (an @gs (an @cs (an @cArcs_len (an @hyl @List.length_set.{0})))))))) ?_; (repeat clear hK K); repeat (refine Kq.mk ?_; intro K hK))
      refine rnz ?_
      have hone : numOne num1 old1 (tn : Int) = (num1.set tn (old1.length : Int), old1 ++ [(tn : Int)]) := by
       simp only [numOne, Int.toNat_natCast, List.getD, gn2, Option.getD_some, if_pos hx]
      have hN2 := hN1.one (t := (tn : Int)) (by omega) (by omega)
      rw [hone] at hN2
      refine hK _ (k + 1, num1.set tn (old1.length : Int), old1 ++ [(tn : Int)], ya.set k (e, (old1.length : Int))) ⟨hlt2, by simp [hyl], hN2, by simp; omega, hNL.neg hyk gn2 hx rfl⟩ (by simp only; omega) ?_
      refine Le.trans (le_pick [0, 1, 8, 3, 4, 5] rfl rfl) ?_
      (try simp only [List.set_nil, List.take_nil, List.take_zero, List.map_append, go_sem])
      (try simp only [cInts_ren, cArcs_ren3, cRows_ren])
      simp only [List.length_append, List.length_cons, List.length_nil]
      exact lmz
     ·have d3 : decide (num1[tn] < 0) = false := by simpa using hx
      have cs := cArcs_set1 hyk num1[tn]
      (refine wks1 (an @hat (an @cArcs_len (an @hyl (an @gn (an @d3 (an @cInts_len @hlen1)))))) ?_; (repeat clear hK K); repeat (refine Kq.mk ?_; intro K hK))
      refine cyz ?_
      (refine wks1 (an @gn (an @cs (an @cArcs_len (an @hyl (an @cInts_len @hlen1))))) ?_; (repeat clear hK K); repeat (refine Kq.mk ?_; intro K hK))
      refine rnz ?_
      refine hK _ (k + 1, num1, old1, ya.set k (e, num1[tn])) ⟨hlt2, by simp [hyl], hN1, hol, hNL.pos hyk gn2 hx⟩ (by simp only; omega) ?_
      refine Le.trans (le_pick [0, 1, 2, 3, 4, 5] rfl rfl) ?_
      (try simp only [List.set_nil, List.take_nil, List.take_zero, List.map_append, go_sem])
      (try simp only [cInts_ren, cArcs_ren3, cRows_ren])
      exact lmz
    ·have d2 : decide ((k : Int) < (q.length : Int)) = false := by simpa using hlt2
     obtain ⟨f1, f2, f3⟩ := hNL.fin (by omega) hyl
     have hnd : ya.Nodup := by rw [f1]; exact numL_nodup q hqs (fun a ha => by rw [hlen]; exact hqb a ha) hI
     have hI2 : NumInj num1 old1 := by rw [f2, f3]; exact numL_inj q (fun a ha => by rw [hlen]; exact hqb a ha) hI
     (refine wk1 @d2 ?_; (repeat clear hK K); repeat (refine Kq.mk ?_; intro K hK))
     refine cyz ?_
     (refine ekz ?_; repeat clear hK K)
     rw [← hyl]
     (refine wk0 ?_; (repeat clear hK K); repeat (refine Kq.mk ?_; intro K hK))
     (refine lst_cons rfl ?_; intro K1 hK1; refine stp_callσ (ids := []) [5] (sortA_fc 85 (by kernel_rfl) fcmp_fc ya (by omega)) rfl rfl (by simp only [go_sem]) (by first | assumption | kernel_rfl) rfl rfl (by (simp only [List.map_append, List.append_nil, go_sem]) <;> rfl) (by (simp only [pkh, cArcs_ren3, go_sem]) <;> rfl) ?_ ?_)
     ·rintro _ _ ⟨rfl, L2, _, _, rfl⟩; rfl
     rintro _ _ ⟨rfl, L2, hp2, hs2, rfl⟩
     (simp only [aInts, aSets, cArcs_up3, List.append_nil, List.nil_append, List.length_map, go_sem]; refine hK1 _ ?_; clear hK1 K1)
     have hL2 : L2 = rowOf ya := sort_nodup hnd hp2 hs2
     have hL2l := hp2.length_eq
     rw [← hL2l]
     (refine lst_le (le_frz (r := ⟨49, 2, true, cArcs L2⟩) 5 (tArcs L2) rfl (fz_ca _) (show 0 < (2 : Nat) by omega)) ?_; simp only [ST.frz, A0.frz, AV.frz, C.frz, Nat.le_refl, List.set_cons_zero, List.set_cons_succ, go_sem, tArcs_len, half2, tArcs_take, List.take_length])
     have htt : totA (out ++ [L2]) = totA out + L2.length := by rw [totA_app, totA_one]
     have hCn : canGo R (R.length - (i + 1)) (i + 1) num1 old1 (out ++ [L2]) = canonR R := by
      rw [← hC, hst, rowGo_numL, f2, f3, hL2, f1]
      rfl
     by_cases htb : totA (out ++ [L2]) > 262144
     ·have d5 : decide ((totA out : Int) + (L2.length : Int) > 262144) = true := decide_eq_true (by omega)
      (refine wk1 (an @tArcs_len (an @half2 @d5)) ?_; (repeat clear hK K); repeat (refine Kq.mk ?_; intro K hK))
      refine cxz ?_
      (refine wks0 ?_; (repeat clear hK K); repeat (refine Kq.mk ?_; intro K hK))
      ((try refine aw_ret ?_); (try simp only [ThenA, InBl]); refine ret_le (le_pick [0] rfl rfl) ?_; (try simp only [List.set_nil, List.take_nil, List.take_zero, List.map_append, go_sem]); ((try refine aw_ret ?_); (try refine lst_nil ?_); (try simp only [ThenA, InBl]); refine ret_mk (by first | exact .inl rfl | exact .inr rfl) rfl ?_; simp only [rtn, resA, resL, resV, Tryz.results73, go_sem, true_and, and_true]))
      obtain ⟨l, hl⟩ := canGo_pre R (R.length - (i + 1)) (i + 1) num1 old1 (out ++ [L2])
      rw [hCn] at hl
      unfold fcR
      rw [if_neg (by rw [hl, totA_app]; omega)]
      exact ⟨rfl, rfl⟩
     ·have d5 : decide ((totA out : Int) + (L2.length : Int) > 262144) = false := decide_eq_false (by omega)
      have crp := cRows_push out L2 hoi
      have ett : (totA out : Int) + (L2.length : Int) = (totA (out ++ [L2]) : Int) := by omega
      (refine wk1 (an @tArcs_len (an @half2 @d5)) ?_; (repeat clear hK K); repeat (refine Kq.mk ?_; intro K hK))
      refine cyz ?_
      (refine wks1 (an @crp (an @cRows_len @hoi)) ?_; (repeat clear hK K); repeat (refine Kq.mk ?_; intro K hK))
      refine rnz ?_
      refine hK _ (i + 1, num1, old1, out ++ [L2]) ⟨hN1, hI2, hCn, by simp only; omega, by simp [hoi], by simp only; omega⟩ (by simp only; omega) ?_
      refine Le.trans (le_pick [0, 1, 2, 3, 7] rfl rfl) ?_
      (try simp only [List.set_nil, List.take_nil, List.take_zero, List.map_append, go_sem])
      (try simp only [cInts_ren, cRows_ren, ett])
      exact lmz
  ·have d1 : decide ((i : Int) < (old.length : Int)) = false := by simpa using hlt
   have hfin : canonR R = (out, old) := by rw [← hC]; exact canGo_stop (by omega)
   (refine wk1 (an @d1 @cInts_len) ?_; (repeat clear hK K); repeat (refine Kq.mk ?_; intro K hK))
   refine cyz ?_
   (refine ekz ?_; repeat clear hK K)
   refine aw_le (le_sink (r := ⟨45, 1, true, cRows out⟩) (ri := ⟨25, 1, false, [.s 4 i]⟩) (ts := tRows out) 3 0 4 i (by decide) rfl rfl rfl rfl (show 0 < 1 by omega) (by simp only [cRows_len, hoi]; omega) (fz_cr _)) ?_
   simp only [go_sem]
   refine aw_le (le_ot 3 rfl) ?_
   simp only [otC, go_sem]
   (refine wks0 ?_; (repeat clear hK K); repeat (refine Kq.mk ?_; intro K hK))
   ((try refine aw_ret ?_); (try simp only [ThenA, InBl]); refine ret_le (le_pick [0] rfl rfl) ?_; (try simp only [List.set_nil, List.take_nil, List.take_zero, List.map_append, go_sem]); ((try refine aw_ret ?_); (try refine lst_nil ?_); (try simp only [ThenA, InBl]); refine ret_mk (by first | exact .inl rfl | exact .inr rfl) rfl ?_; simp only [rtn, resA, resL, resV, Tryz.results73, go_sem, true_and, and_true]))
   rw [hfin]
   unfold fcR
   rw [if_pos hto]
   exact ⟨rfl, rfl⟩
theorem set_two2 (L : List C) (s : Nat) (x y : C) : (L.set s x).set s y = L.set s y := by simp
def quO (x : List (List Ar)) (r : AV) (o : List Ob) : Prop :=
 if totA x ≤ 262144 then o = [.r ⟨25, 1, false, [.t 1 (tRows x)]⟩] ∧ r = .tup [.g [.t 1 (tRows x)], .c (.v (.int .i64 0))]
 else o = [.r ⟨25, 1, false, [.v (.slice none 0 0)]⟩] ∧ r = .tup [.g [.v (.slice none 0 0)], .c (.v (.int .i64 10))]
theorem quo_no (R : List (List Ar)) (cl : List Int) (h : valB R = false ∨ numB cl R.length = false) (hn : R.length ≤ 140737488355328) (hr : ∀ r ∈ R, r.length ≤ 140737488355328) (hC : cl.length ≤ 9223372036854775807) : FC Tryz.prog 50 [aLts R, aInts cl] [] (fun r o => o = [.r ⟨25, 1, false, [.v (.slice none 0 0)]⟩] ∧ r = .tup [.g [.v (.slice none 0 0)], .c (.v (.int .i64 1))]) := by
 refine fc_intro Tryz.func50 rfl (by rw [Tryz.ntmps50]; simp) ?_
 rw [Tryz.ntmps50]
 simp only [enum, aLts, aInts]
 (refine wk0 ?_; (repeat clear hK K); repeat (refine Kq.mk ?_; intro K hK))
 (refine ckz (valid_fc R hn hr) ?_; intro K1 hK1)
 rintro _ _ ⟨rfl, rfl⟩
 (refine bkz ?_; clear hK1 K1)
 cases hv : valB R with
 | false =>
  (refine wk1 @Bool.not_false ?_; (repeat clear hK K); repeat (refine Kq.mk ?_; intro K hK))
  refine cxz ?_
  (refine wks0 ?_; (repeat clear hK K); repeat (refine Kq.mk ?_; intro K hK))
  ((try refine aw_ret ?_); (try simp only [ThenA, InBl]); refine ret_le (le_pick [1] rfl rfl) ?_; (try simp only [List.set_nil, List.take_nil, List.take_zero, List.map_append, go_sem]); ((try refine aw_ret ?_); (try refine lst_nil ?_); (try simp only [ThenA, InBl]); refine ret_mk (by first | exact .inl rfl | exact .inr rfl) rfl ?_; simp only [rtn, resA, resL, resV, Tryz.results50, go_sem, true_and, and_true]))
 | true =>
  have h2 : numB cl R.length = false := h.resolve_left (by rw [hv]; simp)
  (refine wk1 (an @Bool.not_true @tRows_len) ?_; (repeat clear hK K); repeat (refine Kq.mk ?_; intro K hK))
  (refine lst_goU rfl rfl (by simp only [go_sem] <;> rfl) ?_; intro K1 hK1; refine (stp_call0 (ids := []) (num_fc cl R.length hC) rfl rfl (by simp only [go_sem]) (by kernel_rfl) (by (simp only [List.append_nil, go_sem]) <;> rfl) ?_).stp)
  rintro _ _ ⟨rfl, rfl⟩
  (refine bkz ?_; clear hK1 K1)
  (refine wk1 (an @h2 @Bool.not_false) ?_; (repeat clear hK K); repeat (refine Kq.mk ?_; intro K hK))
  refine cxz ?_
  (refine wks0 ?_; (repeat clear hK K); repeat (refine Kq.mk ?_; intro K hK))
  ((try refine aw_ret ?_); (try simp only [ThenA, InBl]); refine ret_le (le_pick [1] rfl rfl) ?_; (try simp only [List.set_nil, List.take_nil, List.take_zero, List.map_append, go_sem]); ((try refine aw_ret ?_); (try refine lst_nil ?_); (try simp only [ThenA, InBl]); refine ret_mk (by first | exact .inl rfl | exact .inr rfl) rfl ?_; simp only [rtn, resA, resL, resV, Tryz.results50, go_sem, true_and, and_true]))
set_option maxHeartbeats 8000000 in
theorem quo_fc (R : List (List Ar)) (cl : List Int) (hv : valB R = true) (hC : numB cl R.length = true) (hn : R.length ≤ 1000000) (hr : ∀ r ∈ R, r.length ≤ 1000000) : FC Tryz.prog 50 [aLts R, aInts cl] [] (fun r o => ∃ B, DvL R B ∧ quO (canonR (qR R cl B)).1 r o) := by
 refine fc_intro Tryz.func50 rfl (by rw [Tryz.ntmps50]; simp) ?_
 rw [Tryz.ntmps50]
 simp only [enum, aLts, aInts]
 have hlo : looB R = true := decide_eq_true (of_decide_eq_true hv).1
 have h1 : 1 ≤ R.length := (of_decide_eq_true hlo).1
 have hR16 : R.length ≤ 16384 := (of_decide_eq_true hlo).2.1
 have htA : totA R ≤ 262144 := (of_decide_eq_true hlo).2.2.1
 have hbd := (of_decide_eq_true hlo).2.2.2
 obtain ⟨hCl, hmn, hcl, hmx⟩ := num_ok hC
 have hcl1 : 0 < cl.length := by omega
 have hmax : maxL cl[0] cl + 1 = (mxN cl : Int) := by
  have h0 : 0 ≤ cl[0] := by
   have := (hcl 0 (by omega)).2
   rw [List.getElem?_eq_getElem hcl1] at this
   injection this with this
   omega
  rw [← hmx]
  cases cl with
  | nil => simp at hcl1
  | cons x l => exact (mxI_cons l h0).symm
 have hm1 : 1 ≤ mxN cl := by have := (hcl 0 (by omega)).1; omega
 (refine wk0 ?_; (repeat clear hK K); repeat (refine Kq.mk ?_; intro K hK))
 (refine ckz (valid_fc R (by omega) (fun r h => by have := hr r h; omega)) ?_; intro K1 hK1)
 rintro _ _ ⟨rfl, rfl⟩
 (refine bkz ?_; clear hK1 K1)
 (refine wk1 (an @hv (an @Bool.not_true @tRows_len)) ?_; (repeat clear hK K); repeat (refine Kq.mk ?_; intro K hK))
 (refine lst_goU rfl rfl (by simp only [go_sem] <;> rfl) ?_; intro K1 hK1; refine (stp_call0 (ids := []) (num_fc cl R.length (by omega)) rfl rfl (by simp only [go_sem]) (by kernel_rfl) (by (simp only [List.append_nil, go_sem]) <;> rfl) ?_).stp)
 rintro _ _ ⟨rfl, rfl⟩
 (refine bkz ?_; clear hK1 K1)
 (refine wk1 (an @hC @Bool.not_true) ?_; (repeat clear hK K); repeat (refine Kq.mk ?_; intro K hK))
 refine cyz ?_
 (refine wk0 ?_; (repeat clear hK K); repeat (refine Kq.mk ?_; intro K hK))
 (refine ckz (dvgT_fc R hv hn hr) ?_; intro K1 hK1)
 rintro _ _ ⟨B, hB, rfl, rfl⟩
 (refine bkz ?_; clear hK1 K1)
 have hBl := hB.1
 have hB2 : ∀ s, s < R.length → B[s]? = some (B.getD s false) := fun s hs => by rw [List.getD_eq_getElem?_getD, List.getElem?_eq_getElem (by omega)]; rfl
 have hend : ∀ r o, quO (canonR (qR R cl B)).1 r o → ∃ B, DvL R B ∧ quO (canonR (qR R cl B)).1 r o := fun r o h => ⟨B, hB, h⟩
 (refine wk0 ?_; (repeat clear hK K); repeat (refine Kq.mk ?_; intro K hK))
 (refine ckz (max_fc cl hcl1 (by omega)) ?_; intro K1 hK1)
 rintro _ _ ⟨rfl, rfl⟩
 (refine bkz ?_; clear hK1 K1)
 have hqR := qR_bd (B := B) hlo hC
 have hqe : qR R cl B = qlOut (lcL (clf cl) (mxN cl) B R.length) (qpOut (clf cl) (mxN cl) R R.length) (mxN cl) := rfl
 rw [hqe] at hqR
 generalize maxL cl[0] cl = mx at *
 generalize hm : mxN cl = m at *
 generalize hf : clf cl = f at *
 (refine wk1 (an @hmax @tRows_len) ?_; (repeat clear hK K); repeat (refine Kq.mk ?_; intro K hK))
 have e1 : List.replicate m (C.o (2, 49) []) = cRowsO (qpOut f m R 0) := by simp [cRowsO, qpOut, tArcs]
 have e2 : List.replicate m (C.v (.bool false)) = cBs (lcL f m B 0) := by
  have : lcL f m B 0 = List.replicate m false := List.ext_getElem (by simp [lcL]) fun i h1 h2 => by simp [lcL]
  rw [this]; simp [cBs]
 rw [e1, e2]
 have hfm : ∀ v, v < R.length → f v < m := fun v hv => (hcl v hv).1
 refine aw_loop (fun s : Nat => { tm := [(1, .a (.c (.t 1 (tInts cl)))), (2, .a (.c (.p 0 0))), (4, .a (.c (.p 1 0))), (6, .a (.c (.t 1 (tBs B)))), (7, .a (.c (.s 2 m))), (8, .a (.c (.s 3 m))), (40, .a (.c (.t 1 (tRows R)))), (41, .i R.length), (42, .i s)], hp := [.r ⟨25, 1, false, [.t 1 (tRows R)]⟩, .r ⟨25, 1, false, [.v (.slice none 0 0)]⟩, .r ⟨45, 1, true, cRowsO (qpOut f m R s)⟩, .r ⟨4, 1, true, cBs (lcL f m B s)⟩], n := 130, pin := 0 }) (fun s => s ≤ R.length) (fun s => R.length - s) 0 ?_ ?_ ?_
 ·omega
 ·exact lmz
 ·rintro s hs K hK
  by_cases hlt : s < R.length
  ·have d1 : decide ((s : Int) < (R.length : Int)) = true := by simpa using hlt
   have hgR := List.getElem?_eq_getElem hlt
   have hrl := hr _ (List.getElem_mem hlt)
   obtain ⟨hfs, hgs⟩ := hcl s hlt
   have gC := tInts_get hgs
   have gB := tBs_get (hB2 s hlt)
   have hlset := lcL_set (B := B) hfs
   have hll := lcL_len f m B s
   have gL : (cBs (lcL f m B s))[f s]? = some (.v (.bool ((lcL f m B s).getD (f s) false))) := cBs_get (by rw [List.getD_eq_getElem?_getD, List.getElem?_eq_getElem (by omega)]; rfl)
   have htot := qpOut_tot f m R s hs
   have hto := totA_take hlt
   have htl3 := totA_le R (s + 1)
   have hbs := hbd _ (List.getElem_mem hlt)
   have htl : qpOut f m R (s + 1) = qpRow f (f s) (qpOut f m R s) R[s] := by
    rw [qpOut, List.getD_eq_getElem?_getD, hgR, Option.getD_some]
   generalize hrow : R[s] = row at *
   cases hlb : (lcL f m B s).getD (f s) false with
   | true =>
    rw [hlb] at gL hlset
    rw [Bool.true_or] at hlset
    (refine wk1 @d1 ?_; (repeat clear hK K); repeat (refine Kq.mk ?_; intro K hK))
    refine cxz ?_
    (refine wks1 (an @tRows_len (an (tRows_get hgR) (an @tInts_len (an @hCl (an @gC (an @cBs_len (an @hll (an @gL (an @tBs_len (an @hBl (an @gB (an @cBs_set (an @hlset (an @tArcs_len @half2)))))))))))))) ?_; (repeat clear hK K); repeat (refine Kq.mk ?_; intro K hK))
    refine aw_loop (fun k : Nat => { tm := [(1, .a (.c (.t 1 (tInts cl)))), (2, .a (.c (.p 0 0))), (4, .a (.c (.p 1 0))), (6, .a (.c (.t 1 (tBs B)))), (7, .a (.c (.s 2 m))), (8, .a (.c (.s 3 m))), (9, .i s), (11, .i (f s)), (40, .a (.c (.t 1 (tRows R)))), (41, .i R.length), (42, .i s), (64, .a (.c (.t 2 (tArcs row)))), (65, .i row.length), (66, .i k)], hp := [.r ⟨25, 1, false, [.t 1 (tRows R)]⟩, .r ⟨25, 1, false, [.v (.slice none 0 0)]⟩, .r ⟨45, 1, true, cRowsO (qpRow f (f s) (qpOut f m R s) (row.take k))⟩, .r ⟨4, 1, true, cBs (lcL f m B (s + 1))⟩], n := 130, pin := 0 }) (fun k => k ≤ row.length) (fun k => row.length - k) 0 ?_ ?_ ?_
    ·omega
    ·simp only [List.take_zero, qpRow, List.foldl_nil]
     exact lmz
    ·rintro k hk K hK
     by_cases hlt3 : k < row.length
     ·have d3 : decide ((k : Int) < (row.length : Int)) = true := by simpa using hlt3
      have hat := tArcs_at hlt3
      have hb := hbs _ (List.getElem_mem hlt3)
      have hsn := qpRow_snoc f (f s) (qpOut f m R s) (row.take k) row[k]
      rw [← List.take_succ_eq_append_getElem hlt3] at hsn
      generalize row[k] = a at *
      obtain ⟨e, t⟩ := a
      simp only at hat hb
      obtain ⟨_, _, ht0, ht1⟩ := hb
      obtain ⟨tn, rfl⟩ : ∃ tn : Nat, t = (tn : Int) := ⟨t.toNat, by omega⟩
      have htn : tn < R.length := by omega
      obtain ⟨hft, hgt⟩ := hcl tn htn
      have gT := tInts_get hgt
      have hol : (qpRow f (f s) (qpOut f m R s) (row.take k)).length = m := by rw [qpRow_len, qpOut_len]
      have hot := qpRow_tot f (f s) (row.take k) (qpOut f m R s)
      rw [List.length_take] at hot
      generalize qpRow f (f s) (qpOut f m R s) (row.take k) = o at *
      have hrw := totA_row o (f s)
      have hgo : o[f s]? = some (o.getD (f s) []) := by
       rw [List.getD_eq_getElem?_getD, List.getElem?_eq_getElem (by omega)]; rfl
      by_cases hq : e ≠ 0 ∨ f tn ≠ f s
      ·have hx : qp1 f (f s) (e, (tn : Int)) = some (e, (f tn : Int)) := by
        show (if e ≠ 0 ∨ f tn ≠ f s then some (e, (f tn : Int)) else none) = _
        rw [if_pos hq]
       have hA : pushO (qp1 f (f s) (e, (tn : Int))) (f s) o = o.set (f s) (o.getD (f s) [] ++ [(e, (f tn : Int))]) := by rw [hx]; rfl
       generalize o.getD (f s) [] = oc at *
       by_cases he : e = 0
       ·have d4 : (e != 0) = false := by simp [he]
        have d5 : ((f tn : Int) != (f s : Int)) = true := by
         have := hq.resolve_left (by simp [he])
         simp; omega
        (refine wk1 @d3 ?_; (repeat clear hK K); repeat (refine Kq.mk ?_; intro K hK))
        refine cxz ?_
        (refine wks1 (an @hat (an @tArcs_len (an @half2 (an @d4 (an @d5 (an @tInts_len (an @hCl @gT))))))) ?_; (repeat clear hK K); repeat (refine Kq.mk ?_; intro K hK))
        refine cxz ?_
        (refine wk0 ?_; (repeat clear hK K); repeat (refine Kq.mk ?_; intro K hK))
        (refine aw_regionZ [] (.m 0 0 0 (.m 1 0 0 (.m 2 0 0 (.m 3 0 0 (.m 4 0 0 (.m 5 1 15 (.m 6 0 0 (.m 7 1 14 (.m 8 0 0 (.m 9 0 0 (.m 10 1 14 (.m 11 0 0 (.m 12 1 14 (.m 13 0 0 (.a 14 (.a 15 (.m 16 0 0 (.a 17 .e)))))))))))))))))) (by kernel_rfl) (by kernel_rfl) (by intro c st h; simp [ThenA, InBl, Ret] at h) ?_)
        (refine zk1 (an @cRowsO_len (an (cRowsO_get hgo) (an @hol (an @tInts_len (an @hCl @gT))))) ?_; repeat clear hK K)
        (refine z_2 rfl rfl ?_; intro K1 hK1; refine stpF_a rfl ?_; simp only [go_sem]; (first | refine hK1 _ ?_ | refine andk (hK1 _ ?_)); clear hK1 K1)
        (refine z_2y rfl rfl rfl ?_; intro K1 hK1; refine stpY_ap rfl rfl rfl rfl (by first | rfl | simp only [rowsB, List.getD_cons_zero, List.getD_cons_succ, hne, List.isEmpty_cons, Bool.not_false, Bool.true_and, Bool.and_true, Bool.and_self]) rfl ?_; simp only [go_sem, tArcs_c, tArcs_len, half2, cArcs_snoc, cRowsO_get hgo]; (first | refine hK1 _ ?_ | refine andk (hK1 _ ?_)); clear hK1 K1)
        (refine zk1 (an @cRowsO_len @hol) ?_; repeat clear hK K)
        (refine z_3 rfl rfl rfl rfl ?_; intro K1 hK1; refine stp_ev rfl ?_; simp only [go_sem, cRowsO_len, List.length_set, set_two2, hol]; (first | refine hK1 _ ?_ | refine andk (hK1 _ ?_)); clear hK1 K1)
        refine z_nil ⟨by simp, by simp, ?_⟩
        (try simp only [ThenA, InBl])
        refine hK _ ?_
        clear hK K
        have hj6 : ((cRowsO o).set (f s) (C.s 6 (oc.length + 1)))[f s]? = some (.s 6 (oc.length + 1)) := by rw [List.getElem?_set_self (by rw [cRowsO_len]; omega)]
        have hset6 : ((cRowsO o).set (f s) (C.s 6 (oc.length + 1))).set (f s) (.o (2, 49) (tArcs (oc ++ [(e, (f tn : Int))]))) = cRowsO (o.set (f s) (oc ++ [(e, (f tn : Int))])) := by rw [set_two2, cRowsO_set]
        refine aw_le (le_sink (r := ⟨49, 2, true, cArcs (oc ++ [(e, (f tn : Int))])⟩) (ri := ⟨45, 1, true, (cRowsO o).set (f s) (C.s 6 (oc.length + 1))⟩) (ts := tArcs (oc ++ [(e, (f tn : Int))])) 2 (f s) 6 (oc.length + 1) (by decide) rfl hj6 rfl rfl (show 0 < 2 by omega) (by rw [cArcs_len]; simp) (fz_ca _)) ?_
        simp only [hset6, go_sem]
        (refine wk0 ?_; (repeat clear hK K); repeat (refine Kq.mk ?_; intro K hK))
        refine rnz ?_
        refine hK _ (k + 1) (by omega) (by omega) ?_
        refine Le.trans (le_pick [0, 1, 2, 3] rfl rfl) ?_
        (try simp only [List.set_nil, List.take_nil, List.take_zero, List.map_append, go_sem])
        (try simp only [cBs_ren, cRowsO_ren])
        rw [hsn, hA]
        exact lmz
       ·have d4 : (e != 0) = true := by simpa using he
        (refine wk1 @d3 ?_; (repeat clear hK K); repeat (refine Kq.mk ?_; intro K hK))
        refine cxz ?_
        (refine wks1 (an @hat (an @tArcs_len (an @half2 (an @d4 (an @tInts_len (an @hCl @gT)))))) ?_; (repeat clear hK K); repeat (refine Kq.mk ?_; intro K hK))
        refine cxz ?_
        (refine wk0 ?_; (repeat clear hK K); repeat (refine Kq.mk ?_; intro K hK))
        (refine aw_regionZ [] (.m 0 0 0 (.m 1 0 0 (.m 2 0 0 (.m 3 0 0 (.m 4 0 0 (.m 5 1 15 (.m 6 0 0 (.m 7 1 14 (.m 8 0 0 (.m 9 0 0 (.m 10 1 14 (.m 11 0 0 (.m 12 1 14 (.m 13 0 0 (.a 14 (.a 15 (.m 16 0 0 (.a 17 .e)))))))))))))))))) (by kernel_rfl) (by kernel_rfl) (by intro c st h; simp [ThenA, InBl, Ret] at h) ?_)
        (refine zk1 (an @cRowsO_len (an (cRowsO_get hgo) (an @hol (an @tInts_len (an @hCl @gT))))) ?_; repeat clear hK K)
        (refine z_2 rfl rfl ?_; intro K1 hK1; refine stpF_a rfl ?_; simp only [go_sem]; (first | refine hK1 _ ?_ | refine andk (hK1 _ ?_)); clear hK1 K1)
        (refine z_2y rfl rfl rfl ?_; intro K1 hK1; refine stpY_ap rfl rfl rfl rfl (by first | rfl | simp only [rowsB, List.getD_cons_zero, List.getD_cons_succ, hne, List.isEmpty_cons, Bool.not_false, Bool.true_and, Bool.and_true, Bool.and_self]) rfl ?_; simp only [go_sem, tArcs_c, tArcs_len, half2, cArcs_snoc, cRowsO_get hgo]; (first | refine hK1 _ ?_ | refine andk (hK1 _ ?_)); clear hK1 K1)
        (refine zk1 (an @cRowsO_len @hol) ?_; repeat clear hK K)
        (refine z_3 rfl rfl rfl rfl ?_; intro K1 hK1; refine stp_ev rfl ?_; simp only [go_sem, cRowsO_len, List.length_set, set_two2, hol]; (first | refine hK1 _ ?_ | refine andk (hK1 _ ?_)); clear hK1 K1)
        refine z_nil ⟨by simp, by simp, ?_⟩
        (try simp only [ThenA, InBl])
        refine hK _ ?_
        clear hK K
        have hj6 : ((cRowsO o).set (f s) (C.s 6 (oc.length + 1)))[f s]? = some (.s 6 (oc.length + 1)) := by rw [List.getElem?_set_self (by rw [cRowsO_len]; omega)]
        have hset6 : ((cRowsO o).set (f s) (C.s 6 (oc.length + 1))).set (f s) (.o (2, 49) (tArcs (oc ++ [(e, (f tn : Int))]))) = cRowsO (o.set (f s) (oc ++ [(e, (f tn : Int))])) := by rw [set_two2, cRowsO_set]
        refine aw_le (le_sink (r := ⟨49, 2, true, cArcs (oc ++ [(e, (f tn : Int))])⟩) (ri := ⟨45, 1, true, (cRowsO o).set (f s) (C.s 6 (oc.length + 1))⟩) (ts := tArcs (oc ++ [(e, (f tn : Int))])) 2 (f s) 6 (oc.length + 1) (by decide) rfl hj6 rfl rfl (show 0 < 2 by omega) (by rw [cArcs_len]; simp) (fz_ca _)) ?_
        simp only [hset6, go_sem]
        (refine wk0 ?_; (repeat clear hK K); repeat (refine Kq.mk ?_; intro K hK))
        refine rnz ?_
        refine hK _ (k + 1) (by omega) (by omega) ?_
        refine Le.trans (le_pick [0, 1, 2, 3] rfl rfl) ?_
        (try simp only [List.set_nil, List.take_nil, List.take_zero, List.map_append, go_sem])
        (try simp only [cBs_ren, cRowsO_ren])
        rw [hsn, hA]
        exact lmz
      ·have hx : qp1 f (f s) (e, (tn : Int)) = none := by
        show (if e ≠ 0 ∨ f tn ≠ f s then some (e, (f tn : Int)) else none) = _
        rw [if_neg hq]
       have hA : pushO (qp1 f (f s) (e, (tn : Int))) (f s) o = o := by rw [hx]; rfl
       have he : e = 0 := Decidable.not_not.1 fun h => hq (.inl h)
       have hff : f tn = f s := Decidable.not_not.1 fun h => hq (.inr h)
       have d4 : (e != 0) = false := by simp [he]
       have d5 : ((f tn : Int) != (f s : Int)) = false := by simp [hff]
       (refine wk1 @d3 ?_; (repeat clear hK K); repeat (refine Kq.mk ?_; intro K hK))
       refine cxz ?_
       (refine wks1 (an @hat (an @tArcs_len (an @half2 (an @d4 (an @d5 (an @tInts_len (an @hCl @gT))))))) ?_; (repeat clear hK K); repeat (refine Kq.mk ?_; intro K hK))
       refine cyz ?_
       (refine wk0 ?_; (repeat clear hK K); repeat (refine Kq.mk ?_; intro K hK))
       refine rnz ?_
       refine hK _ (k + 1) (by omega) (by omega) ?_
       refine Le.trans (le_pick [0, 1, 2, 3] rfl rfl) ?_
       (try simp only [List.set_nil, List.take_nil, List.take_zero, List.map_append, go_sem])
       (try simp only [cBs_ren, cRowsO_ren])
       rw [hsn, hA]
       exact lmz
     ·have d3 : decide ((k : Int) < (row.length : Int)) = false := by simpa using hlt3
      have hke3 : row.take k = row := List.take_of_length_le (by omega)
      rw [hke3, ← htl]
      (refine wk1 @d3 ?_; (repeat clear hK K); repeat (refine Kq.mk ?_; intro K hK))
      refine cyz ?_
      (refine ekz ?_; repeat clear hK K)
      (refine wk0 ?_; (repeat clear hK K); repeat (refine Kq.mk ?_; intro K hK))
      refine rnz ?_
      refine hK _ (s + 1) (by omega) (by omega) ?_
      exact lmz
   | false =>
    rw [hlb] at gL hlset
    rw [Bool.false_or] at hlset
    (refine wk1 @d1 ?_; (repeat clear hK K); repeat (refine Kq.mk ?_; intro K hK))
    refine cxz ?_
    (refine wks1 (an @tRows_len (an (tRows_get hgR) (an @tInts_len (an @hCl (an @gC (an @cBs_len (an @hll (an @gL (an @tBs_len (an @hBl (an @gB (an @cBs_set (an @hlset (an @tArcs_len @half2)))))))))))))) ?_; (repeat clear hK K); repeat (refine Kq.mk ?_; intro K hK))
    refine aw_loop (fun k : Nat => { tm := [(1, .a (.c (.t 1 (tInts cl)))), (2, .a (.c (.p 0 0))), (4, .a (.c (.p 1 0))), (6, .a (.c (.t 1 (tBs B)))), (7, .a (.c (.s 2 m))), (8, .a (.c (.s 3 m))), (9, .i s), (11, .i (f s)), (40, .a (.c (.t 1 (tRows R)))), (41, .i R.length), (42, .i s), (64, .a (.c (.t 2 (tArcs row)))), (65, .i row.length), (66, .i k)], hp := [.r ⟨25, 1, false, [.t 1 (tRows R)]⟩, .r ⟨25, 1, false, [.v (.slice none 0 0)]⟩, .r ⟨45, 1, true, cRowsO (qpRow f (f s) (qpOut f m R s) (row.take k))⟩, .r ⟨4, 1, true, cBs (lcL f m B (s + 1))⟩], n := 130, pin := 0 }) (fun k => k ≤ row.length) (fun k => row.length - k) 0 ?_ ?_ ?_
    ·omega
    ·simp only [List.take_zero, qpRow, List.foldl_nil]
     exact lmz
    ·rintro k hk K hK
     by_cases hlt3 : k < row.length
     ·have d3 : decide ((k : Int) < (row.length : Int)) = true := by simpa using hlt3
      have hat := tArcs_at hlt3
      have hb := hbs _ (List.getElem_mem hlt3)
      have hsn := qpRow_snoc f (f s) (qpOut f m R s) (row.take k) row[k]
      rw [← List.take_succ_eq_append_getElem hlt3] at hsn
      generalize row[k] = a at *
      obtain ⟨e, t⟩ := a
      simp only at hat hb
      obtain ⟨_, _, ht0, ht1⟩ := hb
      obtain ⟨tn, rfl⟩ : ∃ tn : Nat, t = (tn : Int) := ⟨t.toNat, by omega⟩
      have htn : tn < R.length := by omega
      obtain ⟨hft, hgt⟩ := hcl tn htn
      have gT := tInts_get hgt
      have hol : (qpRow f (f s) (qpOut f m R s) (row.take k)).length = m := by rw [qpRow_len, qpOut_len]
      have hot := qpRow_tot f (f s) (row.take k) (qpOut f m R s)
      rw [List.length_take] at hot
      generalize qpRow f (f s) (qpOut f m R s) (row.take k) = o at *
      have hrw := totA_row o (f s)
      have hgo : o[f s]? = some (o.getD (f s) []) := by
       rw [List.getD_eq_getElem?_getD, List.getElem?_eq_getElem (by omega)]; rfl
      by_cases hq : e ≠ 0 ∨ f tn ≠ f s
      ·have hx : qp1 f (f s) (e, (tn : Int)) = some (e, (f tn : Int)) := by
        show (if e ≠ 0 ∨ f tn ≠ f s then some (e, (f tn : Int)) else none) = _
        rw [if_pos hq]
       have hA : pushO (qp1 f (f s) (e, (tn : Int))) (f s) o = o.set (f s) (o.getD (f s) [] ++ [(e, (f tn : Int))]) := by rw [hx]; rfl
       generalize o.getD (f s) [] = oc at *
       by_cases he : e = 0
       ·have d4 : (e != 0) = false := by simp [he]
        have d5 : ((f tn : Int) != (f s : Int)) = true := by
         have := hq.resolve_left (by simp [he])
         simp; omega
        (refine wk1 @d3 ?_; (repeat clear hK K); repeat (refine Kq.mk ?_; intro K hK))
        refine cxz ?_
        (refine wks1 (an @hat (an @tArcs_len (an @half2 (an @d4 (an @d5 (an @tInts_len (an @hCl @gT))))))) ?_; (repeat clear hK K); repeat (refine Kq.mk ?_; intro K hK))
        refine cxz ?_
        (refine wk0 ?_; (repeat clear hK K); repeat (refine Kq.mk ?_; intro K hK))
        (refine aw_regionZ [] (.m 0 0 0 (.m 1 0 0 (.m 2 0 0 (.m 3 0 0 (.m 4 0 0 (.m 5 1 15 (.m 6 0 0 (.m 7 1 14 (.m 8 0 0 (.m 9 0 0 (.m 10 1 14 (.m 11 0 0 (.m 12 1 14 (.m 13 0 0 (.a 14 (.a 15 (.m 16 0 0 (.a 17 .e)))))))))))))))))) (by kernel_rfl) (by kernel_rfl) (by intro c st h; simp [ThenA, InBl, Ret] at h) ?_)
        (refine zk1 (an @cRowsO_len (an (cRowsO_get hgo) (an @hol (an @tInts_len (an @hCl @gT))))) ?_; repeat clear hK K)
        (refine z_2 rfl rfl ?_; intro K1 hK1; refine stpF_a rfl ?_; simp only [go_sem]; (first | refine hK1 _ ?_ | refine andk (hK1 _ ?_)); clear hK1 K1)
        (refine z_2y rfl rfl rfl ?_; intro K1 hK1; refine stpY_ap rfl rfl rfl rfl (by first | rfl | simp only [rowsB, List.getD_cons_zero, List.getD_cons_succ, hne, List.isEmpty_cons, Bool.not_false, Bool.true_and, Bool.and_true, Bool.and_self]) rfl ?_; simp only [go_sem, tArcs_c, tArcs_len, half2, cArcs_snoc, cRowsO_get hgo]; (first | refine hK1 _ ?_ | refine andk (hK1 _ ?_)); clear hK1 K1)
        (refine zk1 (an @cRowsO_len @hol) ?_; repeat clear hK K)
        (refine z_3 rfl rfl rfl rfl ?_; intro K1 hK1; refine stp_ev rfl ?_; simp only [go_sem, cRowsO_len, List.length_set, set_two2, hol]; (first | refine hK1 _ ?_ | refine andk (hK1 _ ?_)); clear hK1 K1)
        refine z_nil ⟨by simp, by simp, ?_⟩
        (try simp only [ThenA, InBl])
        refine hK _ ?_
        clear hK K
        have hj6 : ((cRowsO o).set (f s) (C.s 6 (oc.length + 1)))[f s]? = some (.s 6 (oc.length + 1)) := by rw [List.getElem?_set_self (by rw [cRowsO_len]; omega)]
        have hset6 : ((cRowsO o).set (f s) (C.s 6 (oc.length + 1))).set (f s) (.o (2, 49) (tArcs (oc ++ [(e, (f tn : Int))]))) = cRowsO (o.set (f s) (oc ++ [(e, (f tn : Int))])) := by rw [set_two2, cRowsO_set]
        refine aw_le (le_sink (r := ⟨49, 2, true, cArcs (oc ++ [(e, (f tn : Int))])⟩) (ri := ⟨45, 1, true, (cRowsO o).set (f s) (C.s 6 (oc.length + 1))⟩) (ts := tArcs (oc ++ [(e, (f tn : Int))])) 2 (f s) 6 (oc.length + 1) (by decide) rfl hj6 rfl rfl (show 0 < 2 by omega) (by rw [cArcs_len]; simp) (fz_ca _)) ?_
        simp only [hset6, go_sem]
        (refine wk0 ?_; (repeat clear hK K); repeat (refine Kq.mk ?_; intro K hK))
        refine rnz ?_
        refine hK _ (k + 1) (by omega) (by omega) ?_
        refine Le.trans (le_pick [0, 1, 2, 3] rfl rfl) ?_
        (try simp only [List.set_nil, List.take_nil, List.take_zero, List.map_append, go_sem])
        (try simp only [cBs_ren, cRowsO_ren])
        rw [hsn, hA]
        exact lmz
       ·have d4 : (e != 0) = true := by simpa using he
        (refine wk1 @d3 ?_; (repeat clear hK K); repeat (refine Kq.mk ?_; intro K hK))
        refine cxz ?_
        (refine wks1 (an @hat (an @tArcs_len (an @half2 (an @d4 (an @tInts_len (an @hCl @gT)))))) ?_; (repeat clear hK K); repeat (refine Kq.mk ?_; intro K hK))
        refine cxz ?_
        (refine wk0 ?_; (repeat clear hK K); repeat (refine Kq.mk ?_; intro K hK))
        (refine aw_regionZ [] (.m 0 0 0 (.m 1 0 0 (.m 2 0 0 (.m 3 0 0 (.m 4 0 0 (.m 5 1 15 (.m 6 0 0 (.m 7 1 14 (.m 8 0 0 (.m 9 0 0 (.m 10 1 14 (.m 11 0 0 (.m 12 1 14 (.m 13 0 0 (.a 14 (.a 15 (.m 16 0 0 (.a 17 .e)))))))))))))))))) (by kernel_rfl) (by kernel_rfl) (by intro c st h; simp [ThenA, InBl, Ret] at h) ?_)
        (refine zk1 (an @cRowsO_len (an (cRowsO_get hgo) (an @hol (an @tInts_len (an @hCl @gT))))) ?_; repeat clear hK K)
        (refine z_2 rfl rfl ?_; intro K1 hK1; refine stpF_a rfl ?_; simp only [go_sem]; (first | refine hK1 _ ?_ | refine andk (hK1 _ ?_)); clear hK1 K1)
        (refine z_2y rfl rfl rfl ?_; intro K1 hK1; refine stpY_ap rfl rfl rfl rfl (by first | rfl | simp only [rowsB, List.getD_cons_zero, List.getD_cons_succ, hne, List.isEmpty_cons, Bool.not_false, Bool.true_and, Bool.and_true, Bool.and_self]) rfl ?_; simp only [go_sem, tArcs_c, tArcs_len, half2, cArcs_snoc, cRowsO_get hgo]; (first | refine hK1 _ ?_ | refine andk (hK1 _ ?_)); clear hK1 K1)
        (refine zk1 (an @cRowsO_len @hol) ?_; repeat clear hK K)
        (refine z_3 rfl rfl rfl rfl ?_; intro K1 hK1; refine stp_ev rfl ?_; simp only [go_sem, cRowsO_len, List.length_set, set_two2, hol]; (first | refine hK1 _ ?_ | refine andk (hK1 _ ?_)); clear hK1 K1)
        refine z_nil ⟨by simp, by simp, ?_⟩
        (try simp only [ThenA, InBl])
        refine hK _ ?_
        clear hK K
        have hj6 : ((cRowsO o).set (f s) (C.s 6 (oc.length + 1)))[f s]? = some (.s 6 (oc.length + 1)) := by rw [List.getElem?_set_self (by rw [cRowsO_len]; omega)]
        have hset6 : ((cRowsO o).set (f s) (C.s 6 (oc.length + 1))).set (f s) (.o (2, 49) (tArcs (oc ++ [(e, (f tn : Int))]))) = cRowsO (o.set (f s) (oc ++ [(e, (f tn : Int))])) := by rw [set_two2, cRowsO_set]
        refine aw_le (le_sink (r := ⟨49, 2, true, cArcs (oc ++ [(e, (f tn : Int))])⟩) (ri := ⟨45, 1, true, (cRowsO o).set (f s) (C.s 6 (oc.length + 1))⟩) (ts := tArcs (oc ++ [(e, (f tn : Int))])) 2 (f s) 6 (oc.length + 1) (by decide) rfl hj6 rfl rfl (show 0 < 2 by omega) (by rw [cArcs_len]; simp) (fz_ca _)) ?_
        simp only [hset6, go_sem]
        (refine wk0 ?_; (repeat clear hK K); repeat (refine Kq.mk ?_; intro K hK))
        refine rnz ?_
        refine hK _ (k + 1) (by omega) (by omega) ?_
        refine Le.trans (le_pick [0, 1, 2, 3] rfl rfl) ?_
        (try simp only [List.set_nil, List.take_nil, List.take_zero, List.map_append, go_sem])
        (try simp only [cBs_ren, cRowsO_ren])
        rw [hsn, hA]
        exact lmz
      ·have hx : qp1 f (f s) (e, (tn : Int)) = none := by
        show (if e ≠ 0 ∨ f tn ≠ f s then some (e, (f tn : Int)) else none) = _
        rw [if_neg hq]
       have hA : pushO (qp1 f (f s) (e, (tn : Int))) (f s) o = o := by rw [hx]; rfl
       have he : e = 0 := Decidable.not_not.1 fun h => hq (.inl h)
       have hff : f tn = f s := Decidable.not_not.1 fun h => hq (.inr h)
       have d4 : (e != 0) = false := by simp [he]
       have d5 : ((f tn : Int) != (f s : Int)) = false := by simp [hff]
       (refine wk1 @d3 ?_; (repeat clear hK K); repeat (refine Kq.mk ?_; intro K hK))
       refine cxz ?_
       (refine wks1 (an @hat (an @tArcs_len (an @half2 (an @d4 (an @d5 (an @tInts_len (an @hCl @gT))))))) ?_; (repeat clear hK K); repeat (refine Kq.mk ?_; intro K hK))
       refine cyz ?_
       (refine wk0 ?_; (repeat clear hK K); repeat (refine Kq.mk ?_; intro K hK))
       refine rnz ?_
       refine hK _ (k + 1) (by omega) (by omega) ?_
       refine Le.trans (le_pick [0, 1, 2, 3] rfl rfl) ?_
       (try simp only [List.set_nil, List.take_nil, List.take_zero, List.map_append, go_sem])
       (try simp only [cBs_ren, cRowsO_ren])
       rw [hsn, hA]
       exact lmz
     ·have d3 : decide ((k : Int) < (row.length : Int)) = false := by simpa using hlt3
      have hke3 : row.take k = row := List.take_of_length_le (by omega)
      rw [hke3, ← htl]
      (refine wk1 @d3 ?_; (repeat clear hK K); repeat (refine Kq.mk ?_; intro K hK))
      refine cyz ?_
      (refine ekz ?_; repeat clear hK K)
      (refine wk0 ?_; (repeat clear hK K); repeat (refine Kq.mk ?_; intro K hK))
      refine rnz ?_
      refine hK _ (s + 1) (by omega) (by omega) ?_
      exact lmz
  ·have d1 : decide ((s : Int) < (R.length : Int)) = false := by simpa using hlt
   have hse : s = R.length := by omega
   rw [hse] at d1
   rw [hse]
   (refine wk1 @d1 ?_; (repeat clear hK K); repeat (refine Kq.mk ?_; intro K hK))
   refine cyz ?_
   (refine ekz ?_; repeat clear hK K)
   have hLl := lcL_len f m B R.length
   have hOl := qpOut_len f m R R.length
   have hOt := qpOut_tot f m R R.length (Nat.le_refl _)
   rw [List.take_length] at hOt
   generalize lcL f m B R.length = L at *
   generalize qpOut f m R R.length = O at *
   (refine aw_le (le_frz (r := ⟨4, 1, true, cBs L⟩) 3 (tBs L) rfl (fz_bs _) (show 0 < (1 : Nat) by omega)) ?_; simp only [ST.frz, A0.frz, AV.frz, C.frz, Nat.le_refl, List.set_cons_zero, List.set_cons_succ, go_sem, show (tBs L).take m = tBs L from List.take_of_length_le (by rw [tBs_len]; omega), tBs_len, hLl])
   (refine wk1 (an @tBs_len @hLl) ?_; (repeat clear hK K); repeat (refine Kq.mk ?_; intro K hK))
   refine aw_le (le_pick [1, 2] rfl rfl) ?_
   (try simp only [List.set_nil, List.take_nil, List.take_zero, List.map_append, go_sem])
   (try simp only [cRowsO_ren])
   refine aw_loop (fun k : Nat => { tm := [(4, .a (.c (.p 0 0))), (7, .a (.c (.s 1 m))), (101, .a (.c (.t 1 (tBs L)))), (102, .i m), (103, .i k)], hp := [.r ⟨25, 1, false, [.v (.slice none 0 0)]⟩, .r ⟨45, 1, true, cRowsO (qlOut L O k)⟩], n := 130, pin := 0 }) (fun k => k ≤ m) (fun k => m - k) 0 ?_ ?_ ?_
   ·omega
   ·simp only [qlOut]
    exact lmz
   ·rintro k hk K hK
    by_cases hlk : k < m
    ·have d2 : decide ((k : Int) < (m : Int)) = true := by simpa using hlk
     have gL : (tBs L)[k]? = some (.v (.bool (L.getD k false))) := tBs_get (by rw [List.getD_eq_getElem?_getD, List.getElem?_eq_getElem (by omega)]; rfl)
     have hol := qlOut_len L O k
     have hot := qlOut_tot L O k
     have hsn : qlOut L O (k + 1) = pushO (lpO (L.getD k false) k) k (qlOut L O k) := rfl
     rw [hOl] at hol
     generalize qlOut L O k = o at *
     have hrw := totA_row o k
     have hgo : o[k]? = some (o.getD k []) := by
      rw [List.getD_eq_getElem?_getD, List.getElem?_eq_getElem (by omega)]; rfl
     cases hb : L.getD k false with
     | true =>
      rw [hb] at gL hsn
      have hA : pushO (lpO true k) k o = o.set k (o.getD k [] ++ [(0, (k : Int))]) := rfl
      generalize o.getD k [] = oc at *
      (refine wk1 @d2 ?_; (repeat clear hK K); repeat (refine Kq.mk ?_; intro K hK))
      refine cxz ?_
      (refine wk1 (an @tBs_len (an @hLl @gL)) ?_; (repeat clear hK K); repeat (refine Kq.mk ?_; intro K hK))
      refine cxz ?_
      (refine wks1 (an @cRowsO_len (an (cRowsO_get hgo) (an @hol (an @set_two2 (an @List.length_set.{0} (an @List.set_cons_zero.{0} (an @List.set_cons_succ.{0} (an @List.take_succ_cons.{0} (an @List.take_zero.{0} (an @List.drop_zero.{0} (an @List.length_take.{0} (an @List.length_drop.{0} (an @List.length_append.{0} (an @tArcs_len (an @half2 (an @tArcs_take (an @tArcs_drop (an @tArcs_c (an @cArcs_len (an @cArcs_one (an @cArcs_snoc (an @cArcs_app @cArcs_take)))))))))))))))))))))) ?_; (repeat clear hK K); repeat (refine Kq.mk ?_; intro K hK))
      have hj6 : ((cRowsO o).set k (C.s 3 (oc.length + 1)))[k]? = some (.s 3 (oc.length + 1)) := by rw [List.getElem?_set_self (by rw [cRowsO_len]; omega)]
      have hset6 : ((cRowsO o).set k (C.s 3 (oc.length + 1))).set k (.o (2, 49) (tArcs (oc ++ [(0, (k : Int))]))) = cRowsO (o.set k (oc ++ [(0, (k : Int))])) := by rw [set_two2, cRowsO_set]
      refine rnz ?_
      refine hK _ (k + 1) (by omega) (by omega) ?_
      refine Le.trans (le_sink (r := ⟨49, 2, true, cArcs (oc ++ [(0, (k : Int))])⟩) (ri := ⟨45, 1, true, (cRowsO o).set k (C.s 3 (oc.length + 1))⟩) (ts := tArcs (oc ++ [(0, (k : Int))])) 1 k 3 (oc.length + 1) (by decide) rfl hj6 rfl rfl (show 0 < 2 by omega) (by rw [cArcs_len]; simp) (fz_ca _)) ?_
      simp only [hset6, go_sem]
      refine Le.trans (le_pick [0, 1] rfl rfl) ?_
      (try simp only [List.set_nil, List.take_nil, List.take_zero, List.map_append, go_sem])
      (try simp only [cRowsO_ren])
      rw [hsn, hA]
      exact lmz
     | false =>
      rw [hb] at gL hsn
      have hA : pushO (lpO false k) k o = o := rfl
      (refine wk1 @d2 ?_; (repeat clear hK K); repeat (refine Kq.mk ?_; intro K hK))
      refine cxz ?_
      (refine wk1 (an @tBs_len (an @hLl @gL)) ?_; (repeat clear hK K); repeat (refine Kq.mk ?_; intro K hK))
      refine cyz ?_
      (refine wk0 ?_; (repeat clear hK K); repeat (refine Kq.mk ?_; intro K hK))
      refine rnz ?_
      refine hK _ (k + 1) (by omega) (by omega) ?_
      rw [hsn, hA]
      exact lmz
    ·have d2 : decide ((k : Int) < (m : Int)) = false := by simpa using hlk
     have hke : k = m := by omega
     rw [hke] at d2
     rw [hke]
     (refine wk1 @d2 ?_; (repeat clear hK K); repeat (refine Kq.mk ?_; intro K hK))
     refine cyz ?_
     (refine ekz ?_; repeat clear hK K)
     obtain ⟨hql, hqb, hqt⟩ := hqR
     generalize qlOut L O m = T at *
     have hrT : ∀ r ∈ T, r.length ≤ 1000000 := fun r hr0 => by
      obtain ⟨j, hj, rfl⟩ := List.getElem_of_mem hr0
      have h := totA_row T j
      rw [List.getD_eq_getElem?_getD, List.getElem?_eq_getElem hj, Option.getD_some] at h
      omega
     have hco := fcanon_fc T (by omega) (fun r hr0 a ha => by have := hqb r hr0 a ha; exact ⟨this.2.2.1, this.2.2.2⟩) (by omega) hrT
     generalize hxe : (canonR T).1 = x at *
     refine aw_le (le_ot 1 rfl) ?_
     simp only [cRowsO_ot, go_sem]
     have htk : (tRows T).take m = tRows T := List.take_of_length_le (by rw [tRows_len]; omega)
     (refine aw_le (le_frz (r := ⟨45, 1, true, cRows T⟩) 1 (tRows T) rfl (fz_cr _) (show 0 < (1 : Nat) by omega)) ?_; simp only [ST.frz, A0.frz, AV.frz, C.frz, Nat.le_refl, List.set_cons_zero, List.set_cons_succ, go_sem, htk, tRows_len, hql])
     (refine wk0 ?_; (repeat clear hK K); repeat (refine Kq.mk ?_; intro K hK))
     (refine ckz hco ?_; intro K1 hK1)
     intro r0 o0 h0
     by_cases ht : totA x ≤ 262144
     ·rw [fcR, if_pos ht] at h0
      obtain ⟨rfl, rfl⟩ := h0
      (refine bkz ?_; clear hK1 K1)
      (refine wks1 @Bool.not_true ?_; (repeat clear hK K); repeat (refine Kq.mk ?_; intro K hK))
      refine cyz ?_
      (refine wks0 ?_; (repeat clear hK K); repeat (refine Kq.mk ?_; intro K hK))
      ((try refine aw_ret ?_); (try simp only [ThenA, InBl]); refine ret_le (le_pick [0] rfl rfl) ?_; (try simp only [List.set_nil, List.take_nil, List.take_zero, List.map_append, go_sem]); ((try refine aw_ret ?_); (try refine lst_nil ?_); (try simp only [ThenA, InBl]); refine ret_mk (by first | exact .inl rfl | exact .inr rfl) rfl ?_; simp only [rtn, resA, resL, resV, Tryz.results50, go_sem, true_and, and_true]))
      refine hend _ _ ?_
      rw [hqe, hxe, quO, if_pos ht]
      exact ⟨rfl, rfl⟩
     ·rw [fcR, if_neg ht] at h0
      obtain ⟨rfl, rfl⟩ := h0
      (refine bkz ?_; clear hK1 K1)
      (refine wks1 @Bool.not_false ?_; (repeat clear hK K); repeat (refine Kq.mk ?_; intro K hK))
      refine cxz ?_
      (refine wks0 ?_; (repeat clear hK K); repeat (refine Kq.mk ?_; intro K hK))
      ((try refine aw_ret ?_); (try simp only [ThenA, InBl]); refine ret_le (le_pick [0] rfl rfl) ?_; (try simp only [List.set_nil, List.take_nil, List.take_zero, List.map_append, go_sem]); ((try refine aw_ret ?_); (try refine lst_nil ?_); (try simp only [ThenA, InBl]); refine ret_mk (by first | exact .inl rfl | exact .inr rfl) rfl ?_; simp only [rtn, resA, resL, resV, Tryz.results50, go_sem, true_and, and_true]))
      refine hend _ _ ?_
      rw [hqe, hxe, quO, if_neg ht]
      exact ⟨rfl, rfl⟩
def rL (n : Nat) (B : List Bool) : List Int := ((List.range n).filter (seenB B)).map Int.ofNat
theorem mem_rL {n : Nat} {B : List Bool} {u : Nat} : (u : Int) ∈ rL n B ↔ u < n ∧ seenB B u = true := by
 unfold rL
 rw [List.mem_map]
 constructor
 ·rintro ⟨v, hv, e⟩
  have : v = u := by have e2 : (v : Int) = (u : Int) := e; omega
  subst this
  simpa using hv
 ·rintro ⟨h1, h2⟩
  exact ⟨u, by simp [h1, h2], rfl⟩
theorem rL_len (n : Nat) (B : List Bool) : (rL n B).length ≤ n := by
 unfold rL
 rw [List.length_map]
 have := List.length_filter_le (seenB B) (List.range n)
 rwa [List.length_range] at this
def ReB (R : List (List Ar)) (F : List Nat) (B : List Bool) : Prop := B.length = R.length ∧ ∀ u, seenB B u = true ↔ ∃ v ∈ F, Rc (Adj true R) v u
theorem reT_fc (R : List (List Ar)) (F : List Nat) (hv : valB R = true) (hF : ∀ v ∈ F, v < R.length) (hFl : F.length ≤ 1000000) (hn : R.length ≤ 1000000) (hr : ∀ r ∈ R, r.length ≤ 1000000) : FC Tryz.prog 65 [aLts R, .a (.c (.t 1 (tInts (F.map Int.ofNat)))), .b true] [] (fun r o => ∃ B, ReB R F B ∧ o = [] ∧ r = .a (.c (.t 1 (tInts (rL R.length B))))) := by
 have h := (reachF_fc R F true hv hF hFl hn hr).mono (R' := fun r o => ∃ B, ReB R F B ∧ r = .a (.c (.s 0 (rL R.length B).length)) ∧ o = [.r ⟨3, 1, true, cInts (rL R.length B)⟩]) fun r o ⟨B, h1, h2, L, hL, h3, h4⟩ => ⟨B, ⟨h1, fun u => by rw [h2 u, adj_eq true hv]⟩, by rw [h4, hL]; rfl, by rw [h3, hL]; rfl⟩
 exact h.frzP (fun B => fz_c _) (by omega) (fun B _ => by rw [tInts_len, Nat.mul_one])
def Cy (R : List (List Ar)) (s : Nat) : Prop := ∃ w, w ∈ Adj true R s ∧ Rc (Adj true R) w s
set_option maxHeartbeats 2000000 in
theorem onc_fc (R : List (List Ar)) (s : Nat) (hv : valB R = true) (hs : s < R.length) (hn : R.length ≤ 1000000) (hr : ∀ r ∈ R, r.length ≤ 1000000) : FC Tryz.prog 64 [aLts R, .i s] [] (fun r o => ∃ b : Bool, (b = true ↔ Cy R s) ∧ o = [] ∧ r = .b b) := by
 refine fc_intro Tryz.func64 rfl (by rw [Tryz.ntmps64]; simp) ?_
 rw [Tryz.ntmps64]
 simp only [enum, aLts]
 have hlo : looB R = true := decide_eq_true (of_decide_eq_true hv).1
 have hg := List.getElem?_eq_getElem hs
 have hrl := hr _ (List.getElem_mem hs)
 have hbs := (of_decide_eq_true hlo).2.2.2 _ (List.getElem_mem hs)
 have hcy : Cy R s ↔ ∃ a ∈ R[s], a.1 = 0 ∧ Rc (Adj true R) a.2.toNat s := by
  unfold Cy
  rw [← adj_eq true hv]
  unfold AdjF tauF
  rw [List.getD_eq_getElem?_getD, hg, Option.getD_some]
  simp only [List.mem_map, List.mem_filter, Bool.not_true, Bool.false_or, beq_iff_eq]
  constructor
  ·rintro ⟨w, ⟨a, ⟨h1, h2⟩, rfl⟩, h3⟩
   exact ⟨a, h1, h2, h3⟩
  ·rintro ⟨a, h1, h2, h3⟩
   exact ⟨_, ⟨a, ⟨h1, h2⟩, rfl⟩, h3⟩
 generalize R[s] = row at *
 (refine wk0 ?_; (repeat clear hK K); repeat (refine Kq.mk ?_; intro K hK))
 refine aw_loop (fun i : Nat => { tm := [(1, .i s), (2, .a (.c (.p 0 0))), (5, .i i)], hp := [.r ⟨25, 1, false, [.t 1 (tRows R)]⟩], n := 37, pin := 0 }) (fun i => i ≤ row.length ∧ ∀ a ∈ row.take i, ¬ (a.1 = 0 ∧ Rc (Adj true R) a.2.toNat s)) (fun i => row.length - i) 0 ?_ ?_ ?_
 ·exact ⟨by omega, by simp⟩
 ·exact lmz
 ·rintro i ⟨hi, hno⟩ K hK
  by_cases hlt : i < row.length
  ·have d1 : decide ((i : Int) < (row.length : Int)) = true := by simpa using hlt
   have hat := tArcs_at hlt
   have hmem := List.getElem_mem hlt
   have hb := hbs _ hmem
   have hno2 : ¬ (row[i].1 = 0 ∧ Rc (Adj true R) row[i].2.toNat s) → ∀ a ∈ row.take (i + 1), ¬ (a.1 = 0 ∧ Rc (Adj true R) a.2.toNat s) := fun h a ha => by
    rw [List.take_succ_eq_append_getElem hlt] at ha
    rcases List.mem_append.1 ha with h1 | h1
    ·exact hno a h1
    ·simp at h1; subst h1; exact h
   generalize row[i] = a at *
   obtain ⟨e, t⟩ := a
   simp only at hat hb hno2
   obtain ⟨_, _, ht0, ht1⟩ := hb
   obtain ⟨tn, rfl⟩ : ∃ tn : Nat, t = (tn : Int) := ⟨t.toNat, by omega⟩
   have htn : tn < R.length := by omega
   rw [Int.toNat_natCast] at hno2
   by_cases he : e = 0
   ·have d2 : (e == 0) = true := by simpa using he
    (refine wk1 (an @d1 (an @tRows_len (an (tRows_get hg) (an @tArcs_len @half2)))) ?_; (repeat clear hK K); repeat (refine Kq.mk ?_; intro K hK))
    refine cxz ?_
    (refine wks1 (an @tRows_len (an (tRows_get hg) (an @hat (an @tArcs_len (an @half2 @d2))))) ?_; (repeat clear hK K); repeat (refine Kq.mk ?_; intro K hK))
    (refine lst_le (le_frz (r := ⟨3, 1, true, cInts [(tn : Int)]⟩) 2 (tInts [(tn : Int)]) rfl (fz_c _) (show 0 < (1 : Nat) by omega)) ?_; simp only [ST.frz, A0.frz, AV.frz, C.frz, Nat.le_refl, List.set_cons_zero, List.set_cons_succ, go_sem, tInts_one])
    (refine lst_goU rfl rfl (by simp only [go_sem] <;> rfl) ?_; intro K1 hK1; refine (stp_call0 (ids := []) (reT_fc R [tn] hv (by simpa using htn) (by simp) hn hr) rfl rfl (by simp only [go_sem]) (by kernel_rfl) (by (simp only [List.append_nil, go_sem]) <;> rfl) ?_).stp)
    rintro _ _ ⟨B, hB, rfl, rfl⟩
    (refine bkz ?_; clear hK1 K1)
    (refine wk0 ?_; (repeat clear hK K); repeat (refine Kq.mk ?_; intro K hK))
    (refine lst_goU rfl rfl (by simp only [go_sem] <;> rfl) ?_; intro K1 hK1; refine (stp_call0 (ids := []) (hasT_fc (rL R.length B) s (by have := rL_len R.length B; omega)) rfl rfl (by simp only [go_sem]) (by kernel_rfl) (by (simp only [List.append_nil, go_sem]) <;> rfl) ?_).stp)
    rintro _ _ ⟨rfl, rfl⟩
    (refine bkz ?_; clear hK1 K1)
    have hin : (s : Int) ∈ rL R.length B ↔ Rc (Adj true R) tn s := by rw [mem_rL, hB.2]; simp [hs]
    by_cases hh : Rc (Adj true R) tn s
    ·have d3 : decide ((s : Int) ∈ rL R.length B) = true := by simpa using hin.2 hh
     (refine wk1 @d3 ?_; (repeat clear hK K); repeat (refine Kq.mk ?_; intro K hK))
     refine cxz ?_
     (refine wk0 ?_; (repeat clear hK K); repeat (refine Kq.mk ?_; intro K hK))
     ((try refine aw_ret ?_); (try simp only [ThenA, InBl]); refine ret_le (le_pick [] rfl rfl) ?_; (try simp only [List.set_nil, List.take_nil, List.take_zero, List.map_append, go_sem]); ((try refine aw_ret ?_); (try refine lst_nil ?_); (try simp only [ThenA, InBl]); refine ret_mk (by first | exact .inl rfl | exact .inr rfl) rfl ?_; simp only [rtn, resA, resL, resV, Tryz.results64, go_sem, true_and, and_true]))
     exact ⟨true, by simp only [true_iff]; exact hcy.2 ⟨_, hmem, he, by rw [Int.toNat_natCast]; exact hh⟩, rfl⟩
    ·have d3 : decide ((s : Int) ∈ rL R.length B) = false := by simpa using fun h => hh (hin.1 h)
     (refine wk1 @d3 ?_; (repeat clear hK K); repeat (refine Kq.mk ?_; intro K hK))
     refine cyz ?_
     (refine wk0 ?_; (repeat clear hK K); repeat (refine Kq.mk ?_; intro K hK))
     refine rnz ?_
     refine hK _ (i + 1) ⟨by omega, hno2 fun h => hh h.2⟩ (by omega) ?_
     refine Le.trans (le_pick [0] rfl rfl) ?_
     (try simp only [List.set_nil, List.take_nil, List.take_zero, List.map_append, go_sem])
     exact lmz
   ·have d2 : (e == 0) = false := by simpa using he
    (refine wk1 (an @d1 (an @tRows_len (an (tRows_get hg) (an @tArcs_len @half2)))) ?_; (repeat clear hK K); repeat (refine Kq.mk ?_; intro K hK))
    refine cxz ?_
    (refine wks1 (an @tRows_len (an (tRows_get hg) (an @hat (an @tArcs_len (an @half2 @d2))))) ?_; (repeat clear hK K); repeat (refine Kq.mk ?_; intro K hK))
    refine cyz ?_
    (refine wk0 ?_; (repeat clear hK K); repeat (refine Kq.mk ?_; intro K hK))
    refine rnz ?_
    refine hK _ (i + 1) ⟨by omega, hno2 fun h => he h.1⟩ (by omega) ?_
    refine Le.trans (le_pick [0] rfl rfl) ?_
    (try simp only [List.set_nil, List.take_nil, List.take_zero, List.map_append, go_sem])
    exact lmz
  ·have d1 : decide ((i : Int) < (row.length : Int)) = false := by simpa using hlt
   (refine wk1 (an @d1 (an @tRows_len (an (tRows_get hg) (an @tArcs_len @half2)))) ?_; (repeat clear hK K); repeat (refine Kq.mk ?_; intro K hK))
   refine cyz ?_
   (refine ekz ?_; repeat clear hK K)
   (refine wk0 ?_; (repeat clear hK K); repeat (refine Kq.mk ?_; intro K hK))
   ((try refine aw_ret ?_); (try simp only [ThenA, InBl]); refine ret_le (le_pick [] rfl rfl) ?_; (try simp only [List.set_nil, List.take_nil, List.take_zero, List.map_append, go_sem]); ((try refine aw_ret ?_); (try refine lst_nil ?_); (try simp only [ThenA, InBl]); refine ret_mk (by first | exact .inl rfl | exact .inr rfl) rfl ?_; simp only [rtn, resA, resL, resV, Tryz.results64, go_sem, true_and, and_true]))
   refine ⟨false, by simp only [Bool.false_eq_true, false_iff]; intro h; obtain ⟨a, h1, h2⟩ := hcy.1 h; exact hno a (by rw [List.take_of_length_le (by omega)]; exact h1) h2, rfl⟩
def CyL (R : List (List Ar)) (k : Nat) (Ls : List Nat) : Prop := Ls.length ≤ k ∧ ∀ g, g ∈ Ls ↔ g < k ∧ Cy R g
theorem CyL.yes {R : List (List Ar)} {k : Nat} {Ls : List Nat} (h : CyL R k Ls) (hc : Cy R k) : CyL R (k + 1) (Ls ++ [k]) := by
 refine ⟨by simp only [List.length_append, List.length_singleton]; have := h.1; omega, fun g => ?_⟩
 rw [List.mem_append, h.2, List.mem_singleton]
 constructor
 ·rintro (⟨h1, h2⟩ | rfl)
  ·exact ⟨by omega, h2⟩
  ·exact ⟨by omega, hc⟩
 ·rintro ⟨h1, h2⟩
  by_cases e : g = k
  ·exact .inr e
  ·exact .inl ⟨by omega, h2⟩
theorem CyL.no {R : List (List Ar)} {k : Nat} {Ls : List Nat} (h : CyL R k Ls) (hc : ¬ Cy R k) : CyL R (k + 1) Ls := by
 refine ⟨by have := h.1; omega, fun g => ?_⟩
 rw [h.2]
 constructor
 ·rintro ⟨h1, h2⟩; exact ⟨by omega, h2⟩
 ·rintro ⟨h1, h2⟩
  by_cases e : g = k
  ·subst e; exact absurd h2 hc
  ·exact ⟨by omega, h2⟩
theorem Dv_iff {R : List (List Ar)} (hlo : looB R = true) {Ls : List Nat} (h : CyL R R.length Ls) {s : Nat} (hs : s < R.length) : Dv R s ↔ ∃ g ∈ Ls, Rc (Adj true R) s g := by
 constructor
 ·rintro ⟨g, h1, h2⟩
  exact ⟨g, (h.2 g).2 ⟨h1.lt hs (adj_lt true hlo), h2⟩, h1⟩
 ·rintro ⟨g, h1, h2⟩
  exact ⟨g, h2, ((h.2 g).1 h1).2⟩
set_option maxHeartbeats 4000000 in
theorem rdvg_fc (R : List (List Ar)) (hv : valB R = true) (hn : R.length ≤ 1000000) (hr : ∀ r ∈ R, r.length ≤ 1000000) : FC Tryz.prog 46 [aLts R] [] (fun r o => ∃ B, DvL R B ∧ r = .a (.c (.s 0 R.length)) ∧ o = [.r ⟨4, 1, true, cBs B⟩]) := by
 refine fc_intro Tryz.func46 rfl (by rw [Tryz.ntmps46]; simp) ?_
 rw [Tryz.ntmps46]
 simp only [enum, aLts]
 have hlo : looB R = true := decide_eq_true (of_decide_eq_true hv).1
 (refine wk0 ?_; (repeat clear hK K); repeat (refine Kq.mk ?_; intro K hK))
 (refine ckz (validR_fc R (by omega) (fun r h => by have := hr r h; omega)) ?_; intro K1 hK1)
 rintro _ _ ⟨rfl, rfl⟩
 (refine bkz ?_; clear hK1 K1)
 (refine wk1 (an @hv @Bool.not_true) ?_; (repeat clear hK K); repeat (refine Kq.mk ?_; intro K hK))
 refine cyz ?_
 (refine wk0 ?_; (repeat clear hK K); repeat (refine Kq.mk ?_; intro K hK))
 refine aw_le (le_nil 3 3 1 ?_) ?_
 ·simp only [go_sem]
 simp only [List.cons_append, List.nil_append, List.length_cons, List.length_nil]
 refine aw_loop (fun x : Nat × List Nat => { tm := [(1, .a (.c (.p 0 0))), (3, .a (.c (.s 1 x.2.length))), (4, .i x.1)], hp := [.r ⟨25, 1, false, [.t 1 (tRows R)]⟩, .r ⟨3, 1, true, cInts (x.2.map Int.ofNat)⟩], n := 68, pin := 0 }) (fun x => x.1 ≤ R.length ∧ CyL R x.1 x.2) (fun x => R.length - x.1) (0, []) ?_ ?_ ?_
 ·exact ⟨by simp, by simp, fun g => by simp⟩
 ·simp only [List.map_nil, List.length_nil, cInts]
  exact lmz
 ·rintro ⟨s, Ls⟩ ⟨hs, hLs⟩ K hK
  simp only at hs hLs
  have hll := hLs.1
  by_cases hlt : s < R.length
  ·have d1 : decide ((s : Int) < (R.length : Int)) = true := by simpa using hlt
   (refine wk1 (an @tRows_len @d1) ?_; (repeat clear hK K); repeat (refine Kq.mk ?_; intro K hK))
   refine cxz ?_
   (refine wk0 ?_; (repeat clear hK K); repeat (refine Kq.mk ?_; intro K hK))
   (refine ckz (onc_fc R s hv hlt hn hr) ?_; intro K1 hK1)
   rintro _ _ ⟨b, hb, rfl, rfl⟩
   (refine bkz ?_; clear hK1 K1)
   (refine wk0 ?_; (repeat clear hK K); repeat (refine Kq.mk ?_; intro K hK))
   cases b with
   | true =>
    refine cxz ?_
    (refine wk1 (an @List.length_map.{0, 0} (an @List.set_cons_zero.{0} (an @List.set_cons_succ.{0} (an @List.take_succ_cons.{0} (an @List.take_zero.{0} (an @List.drop_zero.{0} (an @List.length_take.{0} (an @List.length_drop.{0} (an @List.length_append.{0} (an @tInts_len (an @tInts_take (an @tInts_drop (an @tInts_c (an @cInts_len (an @cInts_one (an @cInts_snoc (an @cInts_app (an @cInts_take @cInts_drop)))))))))))))))))) ?_; (repeat clear hK K); repeat (refine Kq.mk ?_; intro K hK))
    refine rnz ?_
    refine hK _ (s + 1, Ls ++ [s]) ⟨by simp only; omega, hLs.yes (hb.1 rfl)⟩ (by simp only; omega) ?_
    refine Le.trans (le_pick [0, 3] rfl rfl) ?_
    (try simp only [List.set_nil, List.take_nil, List.take_zero, List.map_append, go_sem])
    (try simp only [cInts_ren])
    have htk : (Ls.map Int.ofNat).take Ls.length = Ls.map Int.ofNat := List.take_of_length_le (by simp)
    simp only [htk, List.map_append, List.map_cons, List.map_nil, List.length_append, List.length_singleton]
    exact lmz
   | false =>
    refine cyz ?_
    (refine wk0 ?_; (repeat clear hK K); repeat (refine Kq.mk ?_; intro K hK))
    refine rnz ?_
    refine hK _ (s + 1, Ls) ⟨by simp only; omega, hLs.no fun h => by have := hb.2 h; cases this⟩ (by simp only; omega) ?_
    exact lmz
  ·have d1 : decide ((s : Int) < (R.length : Int)) = false := by simpa using hlt
   have hse : s = R.length := by omega
   rw [hse] at hLs
   (refine wk1 (an @tRows_len @d1) ?_; (repeat clear hK K); repeat (refine Kq.mk ?_; intro K hK))
   refine cyz ?_
   (refine ekz ?_; repeat clear hK K)
   have htk : (tInts (Ls.map Int.ofNat)).take Ls.length = tInts (Ls.map Int.ofNat) := List.take_of_length_le (by rw [tInts_len]; simp)
   (refine aw_le (le_frz (r := ⟨3, 1, true, cInts (Ls.map Int.ofNat)⟩) 1 (tInts (Ls.map Int.ofNat)) rfl (fz_c _) (show 0 < (1 : Nat) by omega)) ?_; simp only [ST.frz, A0.frz, AV.frz, C.frz, Nat.le_refl, List.set_cons_zero, List.set_cons_succ, go_sem, htk, tInts_len, List.length_map])
   (refine wk1 @tRows_len ?_; (repeat clear hK K); repeat (refine Kq.mk ?_; intro K hK))
   refine aw_le (le_pick [0, 2] rfl rfl) ?_
   (try simp only [List.set_nil, List.take_nil, List.take_zero, List.map_append, go_sem])
   have e0 : List.replicate R.length (C.v (.bool false)) = cBs (List.replicate R.length false) := by simp [cBs]
   rw [e0]
   (try simp only [cBs_ren])
   refine aw_loop (fun x : Nat × List Bool => { tm := [(1, .a (.c (.p 0 0))), (3, .a (.c (.t 1 (tInts (Ls.map Int.ofNat))))), (5, .a (.c (.s 1 R.length))), (6, .i x.1)], hp := [.r ⟨25, 1, false, [.t 1 (tRows R)]⟩, .r ⟨4, 1, true, cBs x.2⟩], n := 68, pin := 0 }) (fun x => x.1 ≤ R.length ∧ x.2.length = R.length ∧ (∀ u, u < x.1 → (x.2.getD u false = true ↔ ∃ g ∈ Ls, Rc (Adj true R) u g)) ∧ ∀ u, x.1 ≤ u → x.2.getD u false = false) (fun x => R.length - x.1) (0, List.replicate R.length false) ?_ ?_ ?_
   ·refine ⟨by simp, by simp, fun u h => by simp at h, fun u _ => ?_⟩
    rw [List.getD_eq_getElem?_getD, List.getElem?_replicate]; split <;> rfl
   ·exact lmz
   ·clear hs hlt d1 hse hll
    rintro ⟨s, B⟩ ⟨hs, hBl, hB1, hB2⟩ K hK
    simp only at hs hBl hB1 hB2
    have hll := hLs.1
    by_cases hgo : s < R.length ∧ 0 < Ls.length
    ·obtain ⟨hlt, hL0⟩ := hgo
     have d1 : decide ((s : Int) < (R.length : Int)) = true := by simpa using hlt
     have d2 : decide ((Ls.length : Int) > 0) = true := decide_eq_true (by omega)
     (refine wk1 (an @tRows_len (an @d1 (an @tInts_len (an @List.length_map.{0, 0} @d2)))) ?_; (repeat clear hK K); repeat (refine Kq.mk ?_; intro K hK))
     refine cxz ?_
     (refine wk0 ?_; (repeat clear hK K); repeat (refine Kq.mk ?_; intro K hK))
     (refine lst_le (le_frz (r := ⟨3, 1, true, cInts [(s : Int)]⟩) 2 (tInts [(s : Int)]) rfl (fz_c _) (show 0 < (1 : Nat) by omega)) ?_; simp only [ST.frz, A0.frz, AV.frz, C.frz, Nat.le_refl, List.set_cons_zero, List.set_cons_succ, go_sem, tInts_one])
     (refine ckz (reT_fc R [s] hv (by simpa using hlt) (by simp) hn hr) ?_; intro K1 hK1)
     rintro _ _ ⟨B0, hB0, rfl, rfl⟩
     (refine bkz ?_; clear hK1 K1)
     have hBk : ∀ u : Nat, (u : Int) ∈ rL R.length B0 ↔ u < R.length ∧ Rc (Adj true R) s u := fun u => by rw [mem_rL, hB0.2]; simp
     have hrl := rL_len R.length B0
     generalize rL R.length B0 = L0 at *
     (refine wk0 ?_; (repeat clear hK K); repeat (refine Kq.mk ?_; intro K hK))
     refine aw_le (le_pick [0, 1] rfl rfl) ?_
     (try simp only [List.set_nil, List.take_nil, List.take_zero, List.map_append, go_sem])
     (try simp only [cBs_ren])
     refine aw_loop (fun x : Nat × Bool => { tm := [(1, .a (.c (.p 0 0))), (3, .a (.c (.t 1 (tInts (Ls.map Int.ofNat))))), (5, .a (.c (.s 1 R.length))), (6, .i s), (7, .a (.c (.t 1 (tInts L0)))), (8, .i x.1)], hp := [.r ⟨25, 1, false, [.t 1 (tRows R)]⟩, .r ⟨4, 1, true, cBs (B.set s x.2)⟩], n := 68, pin := 0 }) (fun x => x.1 ≤ Ls.length ∧ (x.2 = true ↔ ∃ g ∈ Ls.take x.1, Rc (Adj true R) s g)) (fun x => Ls.length - x.1) (0, false) ?_ ?_ ?_
     ·exact ⟨by simp, by simp⟩
     ·have e1 : B.set s false = B := by
       have h := hB2 s (Nat.le_refl _)
       rw [List.getD_eq_getElem?_getD, List.getElem?_eq_getElem (by omega), Option.getD_some] at h
       have e : B.set s B[s] = B := List.set_getElem_self _
       rwa [h] at e
      simp only [e1]
      exact lmz
     ·rintro ⟨i, b⟩ ⟨hi, hb⟩ K hK
      simp only at hi hb
      by_cases hli : i < Ls.length
      ·have d3 : decide ((i : Int) < (Ls.length : Int)) = true := by simpa using hli
       have gl : (tInts (Ls.map Int.ofNat))[i]? = some (.v (.int .i64 ((Ls[i] : Nat) : Int))) := tInts_get (by rw [List.getElem?_map, List.getElem?_eq_getElem hli]; rfl)
       have gb : (cBs (B.set s b))[s]? = some (.v (.bool b)) := cBs_get (List.getElem?_set_self (by omega))
       have hgm := ((hLs.2 Ls[i]).1 (List.getElem_mem hli)).1
       have hstep : (b || decide ((Ls[i] : Int) ∈ L0)) = true ↔ ∃ g ∈ Ls.take (i + 1), Rc (Adj true R) s g := by
        rw [List.take_succ_eq_append_getElem hli, Bool.or_eq_true, hb, decide_eq_true_iff, hBk]
        simp only [List.mem_append, List.mem_singleton]
        constructor
        ·rintro (⟨g, h1, h2⟩ | ⟨h1, h2⟩)
         ·exact ⟨g, .inl h1, h2⟩
         ·exact ⟨_, .inr rfl, h2⟩
        ·rintro ⟨g, h1 | h1, h2⟩
         ·exact .inl ⟨g, h1, h2⟩
         ·subst h1; exact .inr ⟨hgm, h2⟩
       generalize Ls[i] = g at *
       cases b with
       | true =>
        (refine wk1 (an @tInts_len (an @List.length_map.{0, 0} @d3)) ?_; (repeat clear hK K); repeat (refine Kq.mk ?_; intro K hK))
        refine cxz ?_
        (refine wks1 (an @cBs_len (an @List.length_set.{0} (an @hBl (an @gb (an @cBs_set @List.set_set.{0}))))) ?_; (repeat clear hK K); repeat (refine Kq.mk ?_; intro K hK))
        refine rnz ?_
        refine hK _ (i + 1, true) ⟨by simp only; omega, by simp only; rw [← hstep]; simp⟩ (by simp only; omega) ?_
        exact lmz
       | false =>
        rw [Bool.false_or] at hstep
        (refine wk1 (an @tInts_len (an @List.length_map.{0, 0} @d3)) ?_; (repeat clear hK K); repeat (refine Kq.mk ?_; intro K hK))
        refine cxz ?_
        (refine wk1 (an @cBs_len (an @List.length_set.{0} (an @hBl (an @gb (an @gl (an @tInts_len @List.length_map.{0, 0})))))) ?_; (repeat clear hK K); repeat (refine Kq.mk ?_; intro K hK))
        (refine lst_goU rfl rfl (by simp only [go_sem] <;> rfl) ?_; intro K1 hK1; refine (stp_call0 (ids := []) (hasT_fc L0 g (by omega)) rfl rfl (by simp only [go_sem]) (by kernel_rfl) (by (simp only [List.append_nil, go_sem]) <;> rfl) ?_).stp)
        rintro _ _ ⟨rfl, rfl⟩
        (refine bkz ?_; clear hK1 K1)
        (refine wks1 (an @cBs_len (an @List.length_set.{0} (an @hBl (an @gb (an @cBs_set @List.set_set.{0}))))) ?_; (repeat clear hK K); repeat (refine Kq.mk ?_; intro K hK))
        refine rnz ?_
        refine hK _ (i + 1, decide ((g : Int) ∈ L0)) ⟨by simp only; omega, hstep⟩ (by simp only; omega) ?_
        exact lmz
      ·have d3 : decide ((i : Int) < (Ls.length : Int)) = false := by simpa using hli
       rw [List.take_of_length_le (by omega)] at hb
       (refine wk1 (an @tInts_len (an @List.length_map.{0, 0} @d3)) ?_; (repeat clear hK K); repeat (refine Kq.mk ?_; intro K hK))
       refine cyz ?_
       (refine ekz ?_; repeat clear hK K)
       (refine wk0 ?_; (repeat clear hK K); repeat (refine Kq.mk ?_; intro K hK))
       refine rnz ?_
       refine hK _ (s + 1, B.set s b) ⟨by simp only; omega, by simp [hBl], fun u hu => ?_, fun u hu => ?_⟩ (by simp only; omega) ?_
       ·simp only at hu ⊢
        rw [List.getD_eq_getElem?_getD]
        by_cases e : s = u
        ·subst e
         rw [List.getElem?_set_self (by omega), Option.getD_some]
         exact hb
        ·rw [List.getElem?_set_ne e, ← List.getD_eq_getElem?_getD]
         exact hB1 u (by omega)
       ·simp only at hu ⊢
        rw [List.getD_eq_getElem?_getD, List.getElem?_set_ne (by omega), ← List.getD_eq_getElem?_getD]
        exact hB2 u (by omega)
       ·exact lmz
    ·have hfin : DvL R B := by
      refine ⟨hBl, fun u hu => ?_⟩
      rw [Dv_iff hlo hLs hu]
      rcases Nat.lt_or_ge u s with h | h
      ·exact hB1 u h
      ·rw [hB2 u h]
       have h0 : Ls = [] := List.length_eq_zero_iff.1 (by omega)
       simp [h0]
     by_cases hlt : s < R.length
     ·have d1 : decide ((s : Int) < (R.length : Int)) = true := by simpa using hlt
      have d2 : decide ((Ls.length : Int) > 0) = false := decide_eq_false (by omega)
      (refine wk1 (an @tRows_len (an @d1 (an @tInts_len (an @List.length_map.{0, 0} @d2)))) ?_; (repeat clear hK K); repeat (refine Kq.mk ?_; intro K hK))
      refine cyz ?_
      (refine ekz ?_; repeat clear hK K)
      (refine wk0 ?_; (repeat clear hK K); repeat (refine Kq.mk ?_; intro K hK))
      ((try refine aw_ret ?_); (try simp only [ThenA, InBl]); refine ret_le (le_pick [1] rfl rfl) ?_; (try simp only [List.set_nil, List.take_nil, List.take_zero, List.map_append, go_sem]); ((try refine aw_ret ?_); (try refine lst_nil ?_); (try simp only [ThenA, InBl]); refine ret_mk (by first | exact .inl rfl | exact .inr rfl) rfl ?_; simp only [rtn, resA, resL, resV, Tryz.results46, go_sem, true_and, and_true, cBs_ren]))
      exact ⟨B, hfin, rfl⟩
     ·have d1 : decide ((s : Int) < (R.length : Int)) = false := by simpa using hlt
      (refine wk1 (an @tRows_len @d1) ?_; (repeat clear hK K); repeat (refine Kq.mk ?_; intro K hK))
      refine cyz ?_
      (refine ekz ?_; repeat clear hK K)
      (refine wk0 ?_; (repeat clear hK K); repeat (refine Kq.mk ?_; intro K hK))
      ((try refine aw_ret ?_); (try simp only [ThenA, InBl]); refine ret_le (le_pick [1] rfl rfl) ?_; (try simp only [List.set_nil, List.take_nil, List.take_zero, List.map_append, go_sem]); ((try refine aw_ret ?_); (try refine lst_nil ?_); (try simp only [ThenA, InBl]); refine ret_mk (by first | exact .inl rfl | exact .inr rfl) rfl ?_; simp only [rtn, resA, resL, resV, Tryz.results46, go_sem, true_and, and_true, cBs_ren]))
      exact ⟨B, hfin, rfl⟩
theorem rdvgT_fc (R : List (List Ar)) (hv : valB R = true) (hn : R.length ≤ 1000000) (hr : ∀ r ∈ R, r.length ≤ 1000000) : FC Tryz.prog 46 [aLts R] [] (fun r o => ∃ B, DvL R B ∧ o = [] ∧ r = .a (.c (.t 1 (tBs B)))) :=
 (rdvg_fc R hv hn hr).frzP (fun B => fz_bs B) (by omega) (fun B h => by rw [tBs_len]; have := h.1; omega)
theorem rep_set {α : Type} (a b : α) (k m : Nat) : (List.replicate k a ++ List.replicate (m + 1) b).set k a = List.replicate (k + 1) a ++ List.replicate m b := by
 rw [List.set_append_right _ _ (by simp), List.length_replicate, Nat.sub_self, List.replicate_succ, List.set_cons_zero, List.replicate_succ' (n := k), List.append_assoc]; rfl
theorem foldI_snoc {r : List Ar} {k : Nat} (h : k < r.length) : (r.take (k + 1)).foldl (fun acc a => insA a acc) [] = insA r[k] ((r.take k).foldl (fun acc a => insA a acc) []) := by
 rw [List.take_succ_eq_append_getElem h, List.foldl_append]; rfl
theorem foldI_len (r : List Ar) (k : Nat) : ((r.take k).foldl (fun acc a => insA a acc) []).length ≤ k := by
 have := len_foldl_ins (r.take k) []
 simp only [List.length_nil, Nat.zero_add, List.length_take] at this
 omega
set_option maxHeartbeats 8000000 in
theorem canonX_fc (R : List (List Ar)) (h1 : 1 ≤ R.length) (hbd : ∀ r ∈ R, ∀ a ∈ r, 0 ≤ a.2 ∧ a.2 < (R.length : Int)) (hn : R.length ≤ 1000000) (hr : ∀ r ∈ R, r.length ≤ 1000000) : FC Tryz.prog 53 [aLts R] [] (fun r o => o = [.r ⟨25, 1, false, [.t 1 (tRows (canonR R).1)]⟩] ∧ r = .tup [.g [.t 1 (tRows (canonR R).1)], .c (.t 1 (tInts (canonR R).2))]) := by
 refine fc_intro Tryz.func53 rfl (by rw [Tryz.ntmps53]; simp) ?_
 rw [Tryz.ntmps53]
 simp only [enum, aLts]
 (refine wk1 @tRows_len ?_; (repeat clear hK K); repeat (refine Kq.mk ?_; intro K hK))
 have e0 : List.replicate R.length (C.v (.int .i64 0)) = cInts (List.replicate R.length 0) := by simp [cInts]
 rw [e0]
 refine aw_loop (fun k : Nat => { tm := [(1, .a (.c (.p 0 0))), (2, .a (.c (.p 1 0))), (4, .a (.c (.s 2 R.length))), (5, .i k)], hp := [.r ⟨25, 1, false, [.t 1 (tRows R)]⟩, .r ⟨25, 1, false, [.v (.slice none 0 0)]⟩, .r ⟨3, 1, true, cInts (List.replicate k (-1) ++ List.replicate (R.length - k) 0)⟩], n := 117, pin := 0 }) (fun k => k ≤ R.length) (fun k => R.length - k) 0 ?_ ?_ ?_
 ·omega
 ·simp only [List.replicate_zero, List.nil_append, Nat.sub_zero]
  exact lmz
 ·rintro k hk K hK
  by_cases hlt : k < R.length
  ·have d1 : decide ((k : Int) < (R.length : Int)) = true := by simpa using hlt
   obtain ⟨m, hm⟩ : ∃ m, R.length - k = m + 1 := ⟨R.length - k - 1, by omega⟩
   have hm2 : R.length - (k + 1) = m := by omega
   have hl : (List.replicate k (-1 : Int) ++ List.replicate (m + 1) 0).length = R.length := by simp; omega
   rw [hm]
   (refine wk1 (an @d1 (an @cInts_len @hl)) ?_; (repeat clear hK K); repeat (refine Kq.mk ?_; intro K hK))
   refine cxz ?_
   (refine wks1 (an @cInts_len (an @hl (an @cInts_set @rep_set))) ?_; (repeat clear hK K); repeat (refine Kq.mk ?_; intro K hK))
   refine rnz ?_
   refine hK _ (k + 1) (by omega) (by omega) ?_
   rw [hm2]
   exact lmz
  ·have d1 : decide ((k : Int) < (R.length : Int)) = false := by simpa using hlt
   have hke : k = R.length := by omega
   rw [hke] at d1
   have e1 : List.replicate R.length (-1 : Int) ++ List.replicate (R.length - R.length) 0 = List.replicate R.length (-1) := by simp
   have hlr : (List.replicate R.length (-1 : Int)).length = R.length := by simp
   rw [hke, e1]
   (refine wk1 (an @d1 (an @cInts_len @hlr)) ?_; (repeat clear hK K); repeat (refine Kq.mk ?_; intro K hK))
   refine cyz ?_
   (refine ekz ?_; repeat clear hK K)
   have g0 : 0 < (List.replicate R.length (-1 : Int)).length := by simp; omega
   (refine wks1 (an @cInts_len (an @hlr @cInts_set)) ?_; (repeat clear hK K); repeat (refine Kq.mk ?_; intro K hK))
   refine aw_le (le_new 45 1) ?_
   simp only [List.cons_append, List.nil_append]
   refine aw_le (le_cell 4 0 5 (by decide) rfl rfl rfl) ?_
   simp only [List.set_cons_zero, List.set_cons_succ]
   refine aw_loop (fun x : Nat × List Int × List Int × List (List Ar) => { tm := [(1, .a (.c (.p 0 0))), (2, .a (.c (.p 1 0))), (4, .a (.c (.s 2 R.length))), (6, .a (.c (.s 3 x.2.2.1.length))), (7, .a (.c (.p 4 0))), (8, .i x.1)], hp := [.r ⟨25, 1, false, [.t 1 (tRows R)]⟩, .r ⟨25, 1, false, [.v (.slice none 0 0)]⟩, .r ⟨3, 1, true, cInts x.2.1⟩, .r ⟨3, 1, true, cInts x.2.2.1⟩, .r ⟨25, 1, false, [.s 5 x.1]⟩, .r ⟨45, 1, true, cRows x.2.2.2⟩], n := 117, pin := 0 }) (fun x => NumOk R.length x.2.1 x.2.2.1 ∧ canGo R (R.length - x.1) x.1 x.2.1 x.2.2.1 x.2.2.2 = canonR R ∧ x.1 ≤ x.2.2.1.length ∧ x.2.2.2.length = x.1) (fun x => R.length - x.1) (0, (List.replicate R.length (-1)).set 0 0, [0], []) ?_ ?_ ?_
   ·exact ⟨NumOk.start h1, rfl, by simp, rfl⟩
   ·exact lmz
   ·rintro ⟨i, num, old, out⟩ ⟨hN, hC, hio, hoi⟩ K hK
    simp only at hN hC hio hoi
    have hlen := hN.len
    have hle := hN.le
    by_cases hlt2 : i < old.length
    ·have d2 : decide ((i : Int) < (old.length : Int)) = true := by simpa using hlt2
     have hs0 := hN.st _ (List.getElem_mem hlt2)
     obtain ⟨sn, hsn⟩ : ∃ sn : Nat, old[i] = sn := ⟨old[i].toNat, by omega⟩
     have hsl : sn < R.length := by omega
     have go : (cInts old)[i]? = some (.v (.int .i64 sn)) := by rw [← hsn]; exact cInts_get (List.getElem?_eq_getElem hlt2)
     have hgR := List.getElem?_eq_getElem hsl
     have hrl := hr _ (List.getElem_mem hsl)
     have hbr := hbd _ (List.getElem_mem hsl)
     have hst := canGo_step (rows := R) (n := R.length) (i := i) (num := num) (old := old) (out := out) (s := (sn : Int)) (r := R[sn]) (by omega) (by rw [List.getElem?_eq_getElem hlt2, hsn]) (by simp [hgR]) rfl
     generalize hrr : R[sn] = r at *
     (refine wk1 (an @d2 @cInts_len) ?_; (repeat clear hK K); repeat (refine Kq.mk ?_; intro K hK))
     refine cxz ?_
     (refine wk0 ?_; (repeat clear hK K); repeat (refine Kq.mk ?_; intro K hK))
     refine aw_le (le_nilt 9 2 ?_) ?_
     ·simp only [go_sem]
     refine aw_loop (fun k : Nat => { tm := [(1, .a (.c (.p 0 0))), (2, .a (.c (.p 1 0))), (4, .a (.c (.s 2 R.length))), (6, .a (.c (.s 3 old.length))), (7, .a (.c (.p 4 0))), (8, .i i), (9, .a (.c (.t 2 (tArcs ((r.take k).foldl (fun acc a => insA a acc) []))))), (10, .i k)], hp := [.r ⟨25, 1, false, [.t 1 (tRows R)]⟩, .r ⟨25, 1, false, [.v (.slice none 0 0)]⟩, .r ⟨3, 1, true, cInts num⟩, .r ⟨3, 1, true, cInts old⟩, .r ⟨25, 1, false, [.s 5 i]⟩, .r ⟨45, 1, true, cRows out⟩], n := 117, pin := 0 }) (fun k => k ≤ r.length) (fun k => r.length - k) 0 ?_ ?_ ?_
     ·omega
     ·simp only [List.take_zero, List.foldl_nil, show tArcs ([] : List (Int × Int)) = [] from rfl]
      exact lmz
     ·rintro k hk K hK
      by_cases hlt3 : k < r.length
      ·have d3 : decide ((k : Int) < (r.length : Int)) = true := by simpa using hlt3
       have hat := tArcs_at hlt3
       have hsn3 := foldI_snoc hlt3
       have hfl := foldI_len r k
       generalize (r.take k).foldl (fun acc a => insA a acc) [] = rk at *
       (refine wk0 ?_; (repeat clear hK K); repeat (refine Kq.mk ?_; intro K hK))
       (refine aw_regionU 10 [(0, 0), (1, 0), (2, 1), (3, 0), (4, 0), (5, 0), (6, 1), (7, 0), (8, 1), (9, 0), (10, 2)] (by kernel_rfl) (by kernel_rfl) (by intro c st h; simp [ThenA, InBl, Ret] at h) ?_)
       (refine uk1 (an @tRows_len (an (tRows_get hgR) (an @cInts_len (an @go (an @tArcs_len (an @half2 @d3)))))) ?_; repeat clear hK K)
       refine cxz ?_
       (refine wk0 ?_; (repeat clear hK K); repeat (refine Kq.mk ?_; intro K hK))
       (refine aw_regionU 12 [(0, 0), (1, 0), (2, 1), (3, 0), (4, 0), (5, 0), (6, 1), (7, 0), (8, 1), (9, 0), (10, 0), (11, 1), (12, 2), (13, 0)] (by kernel_rfl) (by kernel_rfl) (by intro c st h; simp [ThenA, InBl, Ret] at h) ?_)
       (refine uk1 (an @tRows_len (an (tRows_get hgR) (an @cInts_len (an @go (an @tArcs_len (an @half2 @hat)))))) ?_; repeat clear hK K)
       (refine uckz (insT_fc rk r[k] (by omega)) ?_; intro K1 hK1)
       rintro _ _ ⟨rfl, rfl⟩
       (simp only [aInts, aSets, aArcs, List.append_nil, List.nil_append, List.length_map, go_sem]; refine hK1 _ ?_; clear hK1 K1)
       (refine uk0 ?_; repeat clear hK K)
       (refine wk0 ?_; (repeat clear hK K); repeat (refine Kq.mk ?_; intro K hK))
       refine rnz ?_
       refine hK _ (k + 1) (by omega) (by omega) ?_
       rw [hsn3]
       exact lmz
      ·have d3 : decide ((k : Int) < (r.length : Int)) = false := by simpa using hlt3
       have hq0 : (r.take k).foldl (fun acc a => insA a acc) [] = rowOf r := by rw [List.take_of_length_le (by omega)]; rfl
       rw [hq0]
       (refine wk0 ?_; (repeat clear hK K); repeat (refine Kq.mk ?_; intro K hK))
       (refine aw_regionU 10 [(0, 0), (1, 0), (2, 1), (3, 0), (4, 0), (5, 0), (6, 1), (7, 0), (8, 1), (9, 0), (10, 2)] (by kernel_rfl) (by kernel_rfl) (by intro c st h; simp [ThenA, InBl, Ret] at h) ?_)
       (refine uk1 (an @tRows_len (an (tRows_get hgR) (an @cInts_len (an @go (an @tArcs_len (an @half2 @d3)))))) ?_; repeat clear hK K)
       refine cyz ?_
       (refine ekz ?_; repeat clear hK K)
       have hqb : ∀ a ∈ rowOf r, 0 ≤ a.2 ∧ a.2 < (R.length : Int) := fun a ha => by
        rw [mem_rowOf] at ha
        exact hbr a ha
       have hql := len_rowOf r
       generalize hqd : rowOf r = q at *
       (refine wk0 ?_; (repeat clear hK K); repeat (refine Kq.mk ?_; intro K hK))
       refine aw_le (le_nilt 11 2 ?_) ?_
       ·simp only [go_sem]
       refine aw_loop (fun x : Nat × List Int × List Int × List Ar => { tm := [(1, .a (.c (.p 0 0))), (2, .a (.c (.p 1 0))), (4, .a (.c (.s 2 R.length))), (6, .a (.c (.s 3 x.2.2.1.length))), (7, .a (.c (.p 4 0))), (8, .i i), (9, .a (.c (.t 2 (tArcs q)))), (11, .a (.c (.t 2 (tArcs x.2.2.2)))), (12, .i x.1)], hp := [.r ⟨25, 1, false, [.t 1 (tRows R)]⟩, .r ⟨25, 1, false, [.v (.slice none 0 0)]⟩, .r ⟨3, 1, true, cInts x.2.1⟩, .r ⟨3, 1, true, cInts x.2.2.1⟩, .r ⟨25, 1, false, [.s 5 i]⟩, .r ⟨45, 1, true, cRows out⟩], n := 117, pin := 0 }) (fun x => x.1 ≤ q.length ∧ NumOk R.length x.2.1 x.2.2.1 ∧ old.length ≤ x.2.2.1.length ∧ x.2.2.2.length ≤ x.1 ∧ rowGo (q.drop x.1) x.2.1 x.2.2.1 x.2.2.2 = rowGo q num old []) (fun x => q.length - x.1) (0, num, old, []) ?_ ?_ ?_
       ·exact ⟨by simp, hN, Nat.le_refl _, by simp, rfl⟩
       ·simp only [show tArcs ([] : List (Int × Int)) = [] from rfl]
        exact lmz
       ·rintro ⟨k, num1, old1, nxt⟩ ⟨hk, hN1, hol, hnl, hgo⟩ K hK
        simp only at hk hN1 hol hnl hgo
        have hlen1 := hN1.len
        have hle1 := hN1.le
        by_cases hlt4 : k < q.length
        ·have d4 : decide ((k : Int) < (q.length : Int)) = true := by simpa using hlt4
         have hyb := hqb _ (List.getElem_mem hlt4)
         obtain ⟨e, tn, hya⟩ : ∃ (e : Int) (tn : Nat), q[k] = (e, (tn : Int)) := ⟨q[k].1, q[k].2.toNat, by
          have : (q[k].2.toNat : Int) = q[k].2 := by omega
          rw [this]⟩
         have htl : tn < R.length := by rw [hya] at hyb; have := hyb.2; simp only at this; omega
         have ha0 := tArcs_c0 hlt4
         have ha1 := tArcs_c1 hlt4
         rw [hya] at ha0 ha1
         have gn : (cInts num1)[tn]? = some (.v (.int .i64 num1[tn])) := cInts_get (List.getElem?_eq_getElem (by omega))
         have gn2 : num1[tn]? = some num1[tn] := List.getElem?_eq_getElem (by omega)
         have hdr : q.drop k = (e, (tn : Int)) :: q.drop (k + 1) := by rw [List.drop_eq_getElem_cons hlt4, hya]
         (refine wk1 (an @d4 (an @tArcs_len @half2)) ?_; (repeat clear hK K); repeat (refine Kq.mk ?_; intro K hK))
         refine cxz ?_
         by_cases hx : num1[tn] < 0
         ·have d5 : decide (num1[tn] < 0) = true := by simpa using hx
          have gs : (cInts (num1.set tn (old1.length : Int)))[tn]? = some (.v (.int .i64 (old1.length : Int))) := cInts_get (List.getElem?_set_self (by omega))
          have op := old_push old1 (tn : Int)
          (refine wks1 (an @ha1 (an @tArcs_len (an @half2 (an @gn (an @d5 (an @cInts_len @hlen1)))))) ?_; (repeat clear hK K); repeat (refine Kq.mk ?_; intro K hK))
          refine cxz ?_
          (refine wks1 (an @ha1 (an @tArcs_len (an @half2 (an @cInts_len (an @hlen1 (an @cInts_set (an @op @List.length_set.{0}))))))) ?_; (repeat clear hK K); repeat (refine Kq.mk ?_; intro K hK))
          (refine aw_regionU 15 [(0, 0), (1, 0), (2, 0), (3, 0), (4, 0), (5, 1), (6, 0), (7, 0), (8, 0), (9, 0), (10, 0), (11, 1), (12, 0), (13, 1), (14, 0), (15, 2), (16, 0)] (by kernel_rfl) (by kernel_rfl) (by intro c st h; simp [ThenA, InBl, Ret] at h) ?_)
          (refine uk1 (an @ha0 (an @ha1 (an @tArcs_len (an @half2 (an @cInts_len (an @hlen1 (an @gs @List.length_set.{0}))))))) ?_; repeat clear hK K)
          (refine uckz (insT_fc nxt (e, (old1.length : Int)) (by omega)) ?_; intro K1 hK1)
          rintro _ _ ⟨rfl, rfl⟩
          (simp only [aInts, aSets, aArcs, List.append_nil, List.nil_append, List.length_map, go_sem]; refine hK1 _ ?_; clear hK1 K1)
          (refine uk0 ?_; repeat clear hK K)
          (refine wk0 ?_; (repeat clear hK K); repeat (refine Kq.mk ?_; intro K hK))
          refine rnz ?_
          have hone : numOne num1 old1 (tn : Int) = (num1.set tn (old1.length : Int), old1 ++ [(tn : Int)]) := by
           simp only [numOne, Int.toNat_natCast, List.getD, gn2, Option.getD_some, if_pos hx]
          have hN2 := hN1.one (t := (tn : Int)) (by omega) (by omega)
          rw [hone] at hN2
          have hin := insA_len (e, (old1.length : Int)) nxt
          refine hK _ (k + 1, num1.set tn (old1.length : Int), old1 ++ [(tn : Int)], insA (e, (old1.length : Int)) nxt) ⟨hlt4, hN2, by simp; omega, by simp only; omega, by simp only; rw [← hgo, hdr, rowGo_neg gn2 hx rfl]⟩ (by simp only; omega) ?_
          refine Le.trans (le_pick [0, 1, 2, 7, 4, 5] rfl rfl) ?_
          (try simp only [List.set_nil, List.take_nil, List.take_zero, List.map_append, go_sem])
          (try simp only [cInts_ren, cRows_ren])
          simp only [List.length_append, List.length_cons, List.length_nil]
          exact lmz
         ·have d5 : decide (num1[tn] < 0) = false := by simpa using hx
          (refine wks1 (an @ha1 (an @tArcs_len (an @half2 (an @gn (an @d5 (an @cInts_len @hlen1)))))) ?_; (repeat clear hK K); repeat (refine Kq.mk ?_; intro K hK))
          refine cyz ?_
          (refine wk0 ?_; (repeat clear hK K); repeat (refine Kq.mk ?_; intro K hK))
          (refine aw_regionU 15 [(0, 0), (1, 0), (2, 0), (3, 0), (4, 0), (5, 1), (6, 0), (7, 0), (8, 0), (9, 0), (10, 0), (11, 1), (12, 0), (13, 1), (14, 0), (15, 2), (16, 0)] (by kernel_rfl) (by kernel_rfl) (by intro c st h; simp [ThenA, InBl, Ret] at h) ?_)
          (refine uk1 (an @ha0 (an @ha1 (an @tArcs_len (an @half2 (an @cInts_len (an @hlen1 @gn)))))) ?_; repeat clear hK K)
          (refine uckz (insT_fc nxt (e, num1[tn]) (by omega)) ?_; intro K1 hK1)
          rintro _ _ ⟨rfl, rfl⟩
          (simp only [aInts, aSets, aArcs, List.append_nil, List.nil_append, List.length_map, go_sem]; refine hK1 _ ?_; clear hK1 K1)
          (refine uk0 ?_; repeat clear hK K)
          (refine wk0 ?_; (repeat clear hK K); repeat (refine Kq.mk ?_; intro K hK))
          refine rnz ?_
          have hin := insA_len (e, num1[tn]) nxt
          refine hK _ (k + 1, num1, old1, insA (e, num1[tn]) nxt) ⟨hlt4, hN1, hol, by simp only; omega, by simp only; rw [← hgo, hdr, rowGo_pos gn2 hx]⟩ (by simp only; omega) ?_
          exact lmz
        ·have d4 : decide ((k : Int) < (q.length : Int)) = false := by simpa using hlt4
         rw [List.drop_of_length_le (by omega)] at hgo
         rw [← hgo] at hst
         simp only [rowGo] at hst
         (refine wk1 (an @d4 (an @tArcs_len @half2)) ?_; (repeat clear hK K); repeat (refine Kq.mk ?_; intro K hK))
         refine cyz ?_
         (refine ekz ?_; repeat clear hK K)
         have crp := cRows_push out nxt hoi
         (refine wks1 (an @cRows_len (an @hoi @crp)) ?_; (repeat clear hK K); repeat (refine Kq.mk ?_; intro K hK))
         refine rnz ?_
         refine hK _ (i + 1, num1, old1, out ++ [nxt]) ⟨hN1, by simp only; rw [← hC, hst], by simp only; omega, by simp [hoi]⟩ (by simp only; omega) ?_
         refine Le.trans (le_pick [0, 1, 2, 3, 4, 7] rfl rfl) ?_
         (try simp only [List.set_nil, List.take_nil, List.take_zero, List.map_append, go_sem])
         (try simp only [cInts_ren, cRows_ren])
         exact lmz
    ·have d2 : decide ((i : Int) < (old.length : Int)) = false := by simpa using hlt2
     have hfin : canonR R = (out, old) := by rw [← hC]; exact canGo_stop (by omega)
     (refine wk1 (an @d2 @cInts_len) ?_; (repeat clear hK K); repeat (refine Kq.mk ?_; intro K hK))
     refine cyz ?_
     (refine ekz ?_; repeat clear hK K)
     have htk : (tRows out).take i = tRows out := List.take_of_length_le (by rw [tRows_len]; omega)
     have htk2 : (tInts old).take old.length = tInts old := List.take_of_length_le (by rw [tInts_len]; exact Nat.le_refl _)
     refine aw_le (le_sink (r := ⟨45, 1, true, cRows out⟩) (ri := ⟨25, 1, false, [.s 5 i]⟩) (ts := tRows out) 4 0 5 i (by decide) rfl rfl rfl rfl (show 0 < 1 by omega) (by simp only [cRows_len, hoi]; omega) (fz_cr _)) ?_
     simp only [go_sem]
     refine aw_le (le_ot 4 rfl) ?_
     simp only [otC, go_sem]
     (refine aw_le (le_frz (r := ⟨3, 1, true, cInts old⟩) 3 (tInts old) rfl (fz_c _) (show 0 < (1 : Nat) by omega)) ?_; simp only [ST.frz, A0.frz, AV.frz, C.frz, Nat.le_refl, List.set_cons_zero, List.set_cons_succ, go_sem, htk2, tInts_len])
     (refine wks0 ?_; (repeat clear hK K); repeat (refine Kq.mk ?_; intro K hK))
     ((try refine aw_ret ?_); (try simp only [ThenA, InBl]); refine ret_le (le_pick [1] rfl rfl) ?_; (try simp only [List.set_nil, List.take_nil, List.take_zero, List.map_append, go_sem]); ((try refine aw_ret ?_); (try refine lst_nil ?_); (try simp only [ThenA, InBl]); refine ret_mk (by first | exact .inl rfl | exact .inr rfl) rfl ?_; simp only [rtn, resA, resL, resV, Tryz.results53, go_sem, true_and, and_true]))
     rw [hfin]
     exact ⟨rfl, rfl⟩
theorem arcNe_s (x y : Operand) (a : Ar) : aggEq Tryz.prog .neq 49 x y [.int .i64 a.1, .int .i64 a.2] [.int .i64 a.1, .int .i64 a.2] false = True := by
 have h := arcNe_d x y a a
 rw [decide_eq_true (rfl : a = a)] at h
 exact h
theorem sameRow_fc (r : List Ar) (hn : r.length ≤ 1000000) : FC Tryz.prog 49 [.a (.c (.t 2 (tArcs r))), .a (.c (.t 2 (tArcs r)))] [] (fun x o => o = [] ∧ x = .b true) := by
 refine fc_intro Tryz.func49 rfl (by rw [Tryz.ntmps49]; simp) ?_
 rw [Tryz.ntmps49]
 simp only [enum]
 have d0 : ((r.length : Int) != (r.length : Int)) = false := by simp
 (refine wk1 (an @tArcs_len (an @half2 @d0)) ?_; (repeat clear hK K); repeat (refine Kq.mk ?_; intro K hK))
 refine cyz ?_
 (refine wk0 ?_; (repeat clear hK K); repeat (refine Kq.mk ?_; intro K hK))
 refine aw_loop (fun k : Nat => { tm := [(0, .a (.c (.t 2 (tArcs r)))), (1, .a (.c (.t 2 (tArcs r)))), (5, .i k)], hp := [], n := 26, pin := 0 }) (fun k => k ≤ r.length) (fun k => r.length - k) 0 ?_ ?_ ?_
 ·omega
 ·exact lmz
 ·rintro k hk K hK
  by_cases hlt : k < r.length
  ·have d1 : decide ((k : Int) < (r.length : Int)) = true := by simpa using hlt
   have hat := tArcs_at hlt
   have d2 : (!decide (r[k] = r[k])) = false := by simp
   (refine wk1 (an @d1 (an @tArcs_len @half2)) ?_; (repeat clear hK K); repeat (refine Kq.mk ?_; intro K hK))
   refine cxz ?_
   (refine wk0 ?_; (repeat clear hK K); repeat (refine Kq.mk ?_; intro K hK))
   (refine aw_regionU 8 [(0, 0), (1, 0), (2, 0), (3, 1), (4, 0), (5, 0), (6, 0), (7, 1), (8, 2)] (by kernel_rfl) (by kernel_rfl) (by intro c st h; simp [ThenA, InBl, Ret] at h) ?_)
   (repeat (first | ((first | refine u_0x rfl rfl rfl ?_ | refine u_1x rfl rfl rfl ?_); intro K1 hK1; simp only [go_sem, hat, tArcs_len, half2, arcNe_s, arcEq_b, decide_true, Bool.not_true, beq_self_eq_true, Bool.and_self, true_and]; (first | refine hK1 _ ?_ | refine andk (hK1 _ ?_)); clear hK1 K1) | (refine u_2x rfl rfl rfl rfl ?_; intro K1 hK1; simp only [go_sem, hat, tArcs_len, half2, arcNe_s, arcEq_b, decide_true, Bool.not_true, beq_self_eq_true, Bool.and_self, true_and]; (first | refine hK1 _ ?_ | refine andk (hK1 _ ?_)); clear hK1 K1) | (refine u_nil ?_; refine hK _ ?_; clear hK K)))
   refine cyz ?_
   (refine wk0 ?_; (repeat clear hK K); repeat (refine Kq.mk ?_; intro K hK))
   refine rnz ?_
   refine hK _ (k + 1) (by omega) (by omega) ?_
   exact lmz
  ·have d1 : decide ((k : Int) < (r.length : Int)) = false := by simpa using hlt
   (refine wk1 (an @d1 (an @tArcs_len @half2)) ?_; (repeat clear hK K); repeat (refine Kq.mk ?_; intro K hK))
   refine cyz ?_
   (refine ekz ?_; repeat clear hK K)
   (refine wk0 ?_; (repeat clear hK K); repeat (refine Kq.mk ?_; intro K hK))
   ((try refine aw_ret ?_); (try simp only [ThenA, InBl]); refine ret_le (le_pick [] rfl rfl) ?_; (try simp only [List.set_nil, List.take_nil, List.take_zero, List.map_append, go_sem]); ((try refine aw_ret ?_); (try refine lst_nil ?_); (try simp only [ThenA, InBl]); refine ret_mk (by first | exact .inl rfl | exact .inr rfl) rfl ?_; simp only [rtn, resA, resL, resV, Tryz.results49, go_sem, true_and, and_true]))
theorem same_fc (R : List (List Ar)) (hn : R.length ≤ 1000000) (hr : ∀ r ∈ R, r.length ≤ 1000000) : FC Tryz.prog 33 [aLts R, aLts R] [] (fun x o => o = [] ∧ x = .b true) := by
 refine fc_intro Tryz.func33 rfl (by rw [Tryz.ntmps33]; simp) ?_
 rw [Tryz.ntmps33]
 simp only [enum, aLts]
 have d0 : ((R.length : Int) != (R.length : Int)) = false := by simp
 (refine wk1 (an @tRows_len @d0) ?_; (repeat clear hK K); repeat (refine Kq.mk ?_; intro K hK))
 refine cyz ?_
 (refine wk0 ?_; (repeat clear hK K); repeat (refine Kq.mk ?_; intro K hK))
 refine aw_loop (fun k : Nat => { tm := [(2, .a (.c (.p 0 0))), (3, .a (.c (.p 1 0))), (5, .i k)], hp := [.r ⟨25, 1, false, [.t 1 (tRows R)]⟩, .r ⟨25, 1, false, [.t 1 (tRows R)]⟩], n := 32, pin := 0 }) (fun k => k ≤ R.length) (fun k => R.length - k) 0 ?_ ?_ ?_
 ·omega
 ·exact lmz
 ·rintro k hk K hK
  by_cases hlt : k < R.length
  ·have d1 : decide ((k : Int) < (R.length : Int)) = true := by simpa using hlt
   have hg := List.getElem?_eq_getElem hlt
   (refine wk1 (an @d1 @tRows_len) ?_; (repeat clear hK K); repeat (refine Kq.mk ?_; intro K hK))
   refine cxz ?_
   (refine wk0 ?_; (repeat clear hK K); repeat (refine Kq.mk ?_; intro K hK))
   (refine aw_regionU 10 [(0, 0), (1, 1), (2, 0), (3, 0), (4, 1), (5, 0), (6, 1), (7, 0), (8, 0), (9, 1), (10, 2), (11, 0)] (by kernel_rfl) (by kernel_rfl) (by intro c st h; simp [ThenA, InBl, Ret] at h) ?_)
   (refine uk1 (an @tRows_len (tRows_get hg)) ?_; repeat clear hK K)
   (refine uckz (sameRow_fc R[k] (hr _ (List.getElem_mem hlt))) ?_; intro K1 hK1)
   rintro _ _ ⟨rfl, rfl⟩
   (refine bkz ?_; clear hK1 K1)
   (refine uk1 @Bool.not_true ?_; repeat clear hK K)
   refine cyz ?_
   (refine wk0 ?_; (repeat clear hK K); repeat (refine Kq.mk ?_; intro K hK))
   refine rnz ?_
   refine hK _ (k + 1) (by omega) (by omega) ?_
   exact lmz
  ·have d1 : decide ((k : Int) < (R.length : Int)) = false := by simpa using hlt
   (refine wk1 (an @d1 @tRows_len) ?_; (repeat clear hK K); repeat (refine Kq.mk ?_; intro K hK))
   refine cyz ?_
   (refine ekz ?_; repeat clear hK K)
   (refine wk0 ?_; (repeat clear hK K); repeat (refine Kq.mk ?_; intro K hK))
   ((try refine aw_ret ?_); (try simp only [ThenA, InBl]); refine ret_le (le_pick [] rfl rfl) ?_; (try simp only [List.set_nil, List.take_nil, List.take_zero, List.map_append, go_sem]); ((try refine aw_ret ?_); (try refine lst_nil ?_); (try simp only [ThenA, InBl]); refine ret_mk (by first | exact .inl rfl | exact .inr rfl) rfl ?_; simp only [rtn, resA, resL, resV, Tryz.results33, go_sem, true_and, and_true]))
end Go.Proofs.YtahnebicgbjonaaGreat
