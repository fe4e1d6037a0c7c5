/- ref23: Initials, Stable, Acceptance, at valid systems. Acceptances of both sides are the same at sorted rows. The shelf's SortFunc at this seat, in the form that Am22 asks for. -/
import Derived.Test.YthlckclbjknldaaGreatZk
import Derived.Test.YthlckclbjknldaaGreatG53
import Derived.Test.YthlckclbjknldaaGreatTl1
import Derived.Test.YthlckclbjknldaaGreatMH
import Derived.Test.YthlckclbjknldaaGreatShlf
import Derived.Shelf.SlSortCmp.NoneTotal
namespace Go.Proofs.YthlckclbjknldaaGreat
set_option linter.unusedVariables false
set_option linter.unusedSimpArgs false
open Go.RowKit
set_option maxRecDepth 100000
attribute [local go_sem] List.set_cons_zero List.set_cons_succ List.map_cons List.map_nil List.take_succ_cons List.take_zero List.drop_zero List.drop_succ_cons C.pl C.one List.all_cons List.all_nil Bool.and_true Nat.mul_one Int.toNat_natCast

/-- the events of a row as a set -/
def inR (r : List Ar) : List Int := r.foldl (fun acc a => addI a.1 acc) []
theorem inR_take {r : List Ar} {k : Nat} (h : k < r.length) : inR (r.take (k + 1)) = addI r[k].1 (inR (r.take k)) := by
 unfold inR
 rw [List.take_succ_eq_append_getElem h, List.foldl_append]; rfl
theorem inR_fold_len : ∀ (r : List Ar) (acc : List Int), (r.foldl (fun acc a => addI a.1 acc) acc).length ≤ acc.length + r.length := by
 intro r
 induction r with
 | nil => intro acc; simp
 | cons a r ih =>
  intro acc
  have h1 := ih (addI a.1 acc)
  have h2 := addI_len a.1 acc
  simp only [List.foldl_cons, List.length_cons]
  omega
theorem inR_len (r : List Ar) : (inR r).length ≤ r.length := by simpa [inR] using inR_fold_len r []
theorem mem_inR_fold (x : Int) : ∀ (r : List Ar) (acc : List Int), x ∈ r.foldl (fun acc a => addI a.1 acc) acc ↔ x ∈ acc ∨ ∃ a ∈ r, a.1 = x := by
 intro r
 induction r with
 | nil => intro acc; simp
 | cons a r ih =>
  intro acc
  rw [List.foldl_cons, ih, mem_addI]
  simp only [List.mem_cons, exists_eq_or_imp]
  rw [or_assoc]
  constructor
  ·rintro (rfl | h | h)
   ·exact .inr (.inl rfl)
   ·exact .inl h
   ·exact .inr (.inr h)
  ·rintro (h | rfl | h)
   ·exact .inr (.inl h)
   ·exact .inl rfl
   ·exact .inr (.inr h)
theorem mem_inR {x : Int} {r : List Ar} : x ∈ inR r ↔ ∃ a ∈ r, a.1 = x := by rw [inR, mem_inR_fold]; simp
theorem rinit_fc (R : List (List Ar)) (s : Nat) (hv : valB R = true) (h : s < R.length) (hn : R.length ≤ 1000000) (hr : ∀ r ∈ R, r.length ≤ 1000000) : FC Tryz.prog 131 [aLts R, .i s] [] (fun r o => o = [] ∧ r = aInts (inR R[s])) := by
 refine fc_intro Tryz.func131 rfl (by rw [Tryz.ntmps131]; simp) ?_
 rw [Tryz.ntmps131]
 simp only [enum, aLts]
 have hg := List.getElem?_eq_getElem h
 have hrl := hr _ (List.getElem_mem h)
 have e1 : decide ((s : Int) < 0) = false := decide_eq_false (by omega)
 have e2 : decide ((s : Int) ≥ (R.length : Int)) = false := decide_eq_false (by omega)
 generalize R[s] = row at *
 (refine wk0 ?_; (repeat clear hK K); repeat (refine Kq.mk ?_; intro K hK))
 (refine ckz (validR_fc R (by omega) (fun r h => by have := hr r h; omega)) ?_; intro K1 hK1)
 rintro _ _ ⟨rfl, rfl⟩
 (refine bkz ?_; clear hK1 K1)
 (refine wk1 (an @hv (an @Bool.not_true (an @e1 (an @e2 @tRows_len)))) ?_; (repeat clear hK K); repeat (refine Kq.mk ?_; intro K hK))
 refine cyz ?_
 (refine wk0 ?_; (repeat clear hK K); repeat (refine Kq.mk ?_; intro K hK))
 refine aw_le (le_nilt 5 1 ?_) ?_
 ·simp only [go_sem]
 refine aw_loop (fun k : Nat => { tm := [(1, .i s), (2, .a (.c (.p 0 0))), (5, .a (.c (.t 1 (tInts (inR (row.take k)))))), (6, .i k)], hp := [.r ⟨25, 1, false, [.t 1 (tRows R)]⟩], n := 43, pin := 0 }) (fun k => k ≤ row.length) (fun k => row.length - k) 0 ?_ ?_ ?_
 ·omega
 ·simp only [List.take_zero, inR, List.foldl_nil, show tInts ([] : List Int) = [] from rfl]
  exact lmz
 ·rintro k hk K hK
  by_cases hlt : k < row.length
  ·have d1 : decide ((k : Int) < (row.length : Int)) = true := by simpa using hlt
   have ha0 := tArcs_c0 hlt
   have hl := inR_len (row.take k)
   have htk : (row.take k).length ≤ k := by simp; omega
   (refine wk1 (an @d1 (an @tRows_len (an (tRows_get hg) (an @tArcs_len @half2)))) ?_; (repeat clear hK K); repeat (refine Kq.mk ?_; intro K hK))
   refine cxz ?_
   (refine wk1 (an @ha0 (an @tRows_len (an (tRows_get hg) (an @tArcs_len @half2)))) ?_; (repeat clear hK K); repeat (refine Kq.mk ?_; intro K hK))
   (refine ckz (addT_fc (inR (row.take k)) row[k].1 (by omega)) ?_; intro K1 hK1)
   rintro _ _ ⟨rfl, rfl⟩
   (refine bkz ?_; clear hK1 K1)
   (refine wk0 ?_; (repeat clear hK K); repeat (refine Kq.mk ?_; intro K hK))
   refine rnz ?_
   refine hK _ (k + 1) (by omega) (by omega) ?_
   rw [inR_take hlt]
   exact lmz
  ·have d1 : decide ((k : Int) < (row.length : Int)) = false := by simpa using hlt
   have hke : row.take k = row := List.take_of_length_le (by omega)
   rw [hke]
   (refine wk1 (an @d1 (an @tRows_len (an (tRows_get hg) (an @tArcs_len @half2)))) ?_; (repeat clear hK K); repeat (refine Kq.mk ?_; intro K hK))
   refine cyz ?_
   (refine ekz ?_; repeat clear hK K)
   (refine wk0 ?_; (repeat clear hK K); repeat (refine Kq.mk ?_; intro K hK))
   ((try refine aw_ret ?_); (try simp only [ThenA, InBl]); refine ret_le (le_pick [] rfl rfl) ?_; (try simp only [List.set_nil, List.take_nil, List.take_zero, List.map_append, go_sem]); ((try refine aw_ret ?_); (try refine lst_nil ?_); (try simp only [ThenA, InBl]); refine ret_mk (by first | exact .inl rfl | exact .inr rfl) rfl ?_; simp only [rtn, resA, resL, resV, Tryz.results131, go_sem, true_and, and_true, aInts]))
theorem rstable_fc (R : List (List Ar)) (s : Nat) (hv : valB R = true) (h : s < R.length) (hn : R.length ≤ 1000000) (hr : ∀ r ∈ R, r.length ≤ 1000000) : FC Tryz.prog 82 [aLts R, .i s] [] (fun r o => o = [] ∧ r = .b (!decide ((0 : Int) ∈ inR R[s]))) := by
 refine fc_intro Tryz.func82 rfl (by rw [Tryz.ntmps82]; simp) ?_
 rw [Tryz.ntmps82]
 simp only [enum, aLts]
 have hrl := hr _ (List.getElem_mem h)
 have hil := inR_len R[s]
 have e1 : decide ((s : Int) ≥ 0) = true := decide_eq_true (by omega)
 have e2 : decide ((s : Int) < (R.length : Int)) = true := decide_eq_true (by omega)
 (refine wk0 ?_; (repeat clear hK K); repeat (refine Kq.mk ?_; intro K hK))
 (refine ckz (validR_fc R (by omega) (fun r h => by have := hr r h; omega)) ?_; intro K1 hK1)
 rintro _ _ ⟨rfl, rfl⟩
 (refine bkz ?_; clear hK1 K1)
 (refine wk1 (an @hv (an @e1 (an @e2 @tRows_len))) ?_; (repeat clear hK K); repeat (refine Kq.mk ?_; intro K hK))
 (refine lst_goU rfl rfl (by simp only [go_sem] <;> rfl) ?_; intro K1 hK1; refine (stp_call0 (ids := []) (rinit_fc R s hv h hn hr) rfl rfl (by simp only [go_sem]) (by kernel_rfl) (by (simp only [List.append_nil, go_sem]) <;> rfl) ?_).stp)
 rintro _ _ ⟨rfl, rfl⟩
 (refine bkz ?_; clear hK1 K1)
 (refine lst_goU rfl rfl (by simp only [go_sem] <;> rfl) ?_; intro K1 hK1; refine (stp_call0 (ids := []) (hasT_fc (inR R[s]) 0 (by omega)) rfl rfl (by simp only [go_sem]) (by kernel_rfl) (by (simp only [List.append_nil, go_sem]) <;> rfl) ?_).stp)
 rintro _ _ ⟨rfl, rfl⟩
 (refine bkz ?_; clear hK1 K1)
 (refine wk0 ?_; (repeat clear hK K); repeat (refine Kq.mk ?_; intro K hK))
 ((try refine aw_ret ?_); (try simp only [ThenA, InBl]); refine ret_le (le_pick [] rfl rfl) ?_; (try simp only [List.set_nil, List.take_nil, List.take_zero, List.map_append, go_sem]); ((try refine aw_ret ?_); (try refine lst_nil ?_); (try simp only [ThenA, InBl]); refine ret_mk (by first | exact .inl rfl | exact .inr rfl) rfl ?_; simp only [rtn, resA, resL, resV, Tryz.results82, go_sem, true_and, and_true]))
def accR (r : List Ar) : List Int × Bool := if (1 : Int) ∈ inR r then ([1], true) else if (0 : Int) ∈ inR r then ([], false) else (inR r, true)
theorem raccept_fc (R : List (List Ar)) (s : Nat) (hv : valB R = true) (h : s < R.length) (hn : R.length ≤ 1000000) (hr : ∀ r ∈ R, r.length ≤ 1000000) : FC Tryz.prog 84 [aLts R, .i s] [] (fun r o => o = [] ∧ r = .tup [.c (.t 1 (tInts (accR R[s]).1)), .c (.v (.bool (accR R[s]).2))]) := by
 refine fc_intro Tryz.func84 rfl (by rw [Tryz.ntmps84]; simp) ?_
 rw [Tryz.ntmps84]
 simp only [enum, aLts]
 have hrl := hr _ (List.getElem_mem h)
 have hil := inR_len R[s]
 (refine wk0 ?_; (repeat clear hK K); repeat (refine Kq.mk ?_; intro K hK))
 (refine ckz (rinit_fc R s hv h hn hr) ?_; intro K1 hK1)
 rintro _ _ ⟨rfl, rfl⟩
 (refine bkz ?_; clear hK1 K1)
 (refine wk0 ?_; (repeat clear hK K); repeat (refine Kq.mk ?_; intro K hK))
 (refine ckz (hasT_fc (inR R[s]) 1 (by omega)) ?_; intro K1 hK1)
 rintro _ _ ⟨rfl, rfl⟩
 (refine bkz ?_; clear hK1 K1)
 by_cases h1 : (1 : Int) ∈ inR R[s]
 ·have d1 : decide ((1 : Int) ∈ inR R[s]) = true := by simpa using h1
  (refine wk1 @d1 ?_; (repeat clear hK K); repeat (refine Kq.mk ?_; intro K hK))
  (refine aw_cnd ?_; intro X Y hX hY; simp only [go_sem, d1])
  refine hX ?_
  clear hX hY X Y
  (refine wk0 ?_; (repeat clear hK K); repeat (refine Kq.mk ?_; intro K hK))
  ((try refine aw_ret ?_); (try simp only [ThenA, InBl]); refine ret_le (le_frz (r := ⟨3, 1, true, cInts [1]⟩) 1 (tInts [1]) rfl (fz_c _) (show 0 < (1 : Nat) by omega)) ?_; refine ret_le (le_pick [] rfl rfl) ?_; simp only [ST.frz, A0.frz, AV.frz, C.frz, Nat.le_refl, List.set_cons_zero, List.set_cons_succ, go_sem, tInts_w]; (try simp only [List.set_nil, List.take_nil, List.take_zero, List.map_append, go_sem]); ((try refine aw_ret ?_); (try refine lst_nil ?_); (try simp only [ThenA, InBl]); refine ret_mk (by first | exact .inl rfl | exact .inr rfl) rfl ?_; simp only [rtn, resA, resL, resV, Tryz.results84, go_sem, true_and, and_true, tInts_w]))
  simp only [accR, if_pos h1]
  rfl
 ·have d1 : decide ((1 : Int) ∈ inR R[s]) = false := by simpa using h1
  (refine wk1 @d1 ?_; (repeat clear hK K); repeat (refine Kq.mk ?_; intro K hK))
  (refine aw_cnd ?_; intro X Y hX hY; simp only [go_sem, d1])
  refine hY ?_
  clear hX hY X Y
  (refine wk0 ?_; (repeat clear hK K); repeat (refine Kq.mk ?_; intro K hK))
  (refine ckz (rstable_fc R s hv h hn hr) ?_; intro K1 hK1)
  rintro _ _ ⟨rfl, rfl⟩
  (refine bkz ?_; clear hK1 K1)
  by_cases h0 : (0 : Int) ∈ inR R[s]
  ·have d0 : decide ((0 : Int) ∈ inR R[s]) = true := by simpa using h0
   (refine wk1 (an @d0 (an @Bool.not_true @Bool.not_false)) ?_; (repeat clear hK K); repeat (refine Kq.mk ?_; intro K hK))
   refine cxz ?_
   (refine wk0 ?_; (repeat clear hK K); repeat (refine Kq.mk ?_; intro K hK))
   refine aw_le (le_nilt 4 1 ?_) ?_
   ·simp only [go_sem]
   ((try refine aw_ret ?_); (try simp only [ThenA, InBl]); refine ret_le (le_pick [] rfl rfl) ?_; (try simp only [List.set_nil, List.take_nil, List.take_zero, List.map_append, go_sem]); ((try refine aw_ret ?_); (try refine lst_nil ?_); (try simp only [ThenA, InBl]); refine ret_mk (by first | exact .inl rfl | exact .inr rfl) rfl ?_; simp only [rtn, resA, resL, resV, Tryz.results84, go_sem, true_and, and_true]))
   simp only [accR, if_neg h1, if_pos h0]; rfl
  ·have d0 : decide ((0 : Int) ∈ inR R[s]) = false := by simpa using h0
   (refine wk1 (an @d0 (an @Bool.not_true @Bool.not_false)) ?_; (repeat clear hK K); repeat (refine Kq.mk ?_; intro K hK))
   refine cyz ?_
   (refine wk0 ?_; (repeat clear hK K); repeat (refine Kq.mk ?_; intro K hK))
   ((try refine aw_ret ?_); (try simp only [ThenA, InBl]); refine ret_le (le_pick [] rfl rfl) ?_; (try simp only [List.set_nil, List.take_nil, List.take_zero, List.map_append, go_sem]); ((try refine aw_ret ?_); (try refine lst_nil ?_); (try simp only [ThenA, InBl]); refine ret_mk (by first | exact .inl rfl | exact .inr rfl) rfl ?_; simp only [rtn, resA, resL, resV, Tryz.results84, go_sem, true_and, and_true]))
   simp only [accR, if_neg h1, if_neg h0]
end Go.Proofs.YthlckclbjknldaaGreat
namespace Go.Proofs.YthlckclbjknldaaGreat
set_option linter.unusedVariables false
set_option linter.unusedSimpArgs false

theorem inR_lt (r : List Ar) : (inR r).Pairwise (· < ·) := by
 have : ∀ (r : List Ar) (acc : List Int), acc.Pairwise (· < ·) → (r.foldl (fun acc a => addI a.1 acc) acc).Pairwise (· < ·) := by
  intro r
  induction r with
  | nil => intro acc h; exact h
  | cons a r ih => intro acc h; exact ih _ (addI_asc h)
 exact this r [] List.Pairwise.nil
theorem iniL_ok : ∀ (r : List Ar) (acc : List Int), r.Pairwise (fun a b => a.1 ≤ b.1) → acc.Pairwise (· < ·) → (∀ x ∈ acc, ∀ a ∈ r, x ≤ a.1) →
  (r.foldl iniStep acc).Pairwise (· < ·) ∧ ∀ x, x ∈ r.foldl iniStep acc ↔ x ∈ acc ∨ ∃ a ∈ r, a.1 = x := by
 intro r
 induction r with
 | nil => intro acc _ h _; exact ⟨h, fun x => by simp⟩
 | cons a r ih =>
  intro acc hr ha hx
  have hr2 := List.pairwise_cons.1 hr
  have hst : (iniStep acc a).Pairwise (· < ·) ∧ (∀ x, x ∈ iniStep acc a ↔ x ∈ acc ∨ x = a.1) := by
   unfold iniStep
   split
   ·rename_i h
    refine ⟨ha, fun x => ⟨.inl, fun h2 => h2.elim id fun e => ?_⟩⟩
    rw [e]; exact List.mem_of_getLast? h
   ·rename_i h
    refine ⟨List.pairwise_append.2 ⟨ha, by simp, fun x h1 y h2 => ?_⟩, fun x => by simp⟩
    simp at h2; subst h2
    have h3 := hx x h1 a (by simp)
    rcases Int.lt_or_eq_of_le h3 with h4 | h4
    ·exact h4
    ·exfalso
     apply h
     obtain ⟨i, hi, rfl⟩ := List.getElem_of_mem h1
     rw [List.getLast?_eq_getElem?, List.getElem?_eq_getElem (by omega)]
     congr 1
     have hlt : acc.length - 1 < acc.length := by omega
     rcases Nat.lt_or_ge i (acc.length - 1) with h5 | h5
     ·have h6 := List.pairwise_iff_getElem.1 ha i (acc.length - 1) hi hlt h5
      have h7 := hx _ (List.getElem_mem hlt) a (by simp)
      omega
     ·have : i = acc.length - 1 := by omega
      subst this; exact h4
  rw [List.foldl_cons]
  obtain ⟨q1, q2⟩ := ih (iniStep acc a) hr2.2 hst.1 (fun x h b hb => by
   rcases (hst.2 x).1 h with h | h
   ·exact hx x h b (List.mem_cons_of_mem _ hb)
   ·subst h; exact hr2.1 b hb)
  refine ⟨q1, fun x => ?_⟩
  rw [q2, hst.2]
  simp only [List.mem_cons, exists_eq_or_imp]
  rw [or_assoc]
  constructor
  ·rintro (h | h | h)
   ·exact .inl h
   ·exact .inr (.inl h.symm)
   ·exact .inr (.inr h)
  ·rintro (h | h | h)
   ·exact .inl h
   ·exact .inr (.inl h.symm)
   ·exact .inr (.inr h)
theorem sortA_ev {r : List Ar} (h : SortA r) : r.Pairwise (fun a b => a.1 ≤ b.1) := h.imp fun {a b} hab => by rw [ltA_iff] at hab; omega
theorem iniL_eq {r : List Ar} (h : SortA r) : iniL r = inR r := by
 obtain ⟨h1, h2⟩ := iniL_ok r [] (sortA_ev h) List.Pairwise.nil (by simp)
 refine asc_ext h1 (inR_lt r) fun a => ?_
 unfold iniL
 rw [h2, mem_inR]; simp
theorem stB_eq {r : List Ar} (h : SortA r) (h0 : ∀ a ∈ r, 0 ≤ a.1) : stB r = !decide ((0 : Int) ∈ inR r) := by
 cases r with
 | nil => rfl
 | cons a r =>
  have hp := List.pairwise_cons.1 (sortA_ev h)
  by_cases e : a.1 = 0
  ·have : (0 : Int) ∈ inR (a :: r) := mem_inR.2 ⟨a, by simp, e⟩
   simp [stB, e, this]
  ·have : ¬ (0 : Int) ∈ inR (a :: r) := fun hm => by
    obtain ⟨b, hb, e2⟩ := mem_inR.1 hm
    have ha := h0 a (by simp)
    rcases List.mem_cons.1 hb with rfl | hb
    ·exact e e2
    ·have := hp.1 b hb; omega
   simp [stB, e, this]
theorem acc_eq {r : List Ar} (h : SortA r) (h0 : ∀ a ∈ r, 0 ≤ a.1) : accP r = accR r := by
 have ht : r.any isTick = decide ((1 : Int) ∈ inR r) := by
  rw [Bool.eq_iff_iff, List.any_eq_true, decide_eq_true_iff, mem_inR]
  simp [isTick]
 unfold accP accR
 rw [ht, stB_eq h h0, iniL_eq h]
 by_cases h1 : (1 : Int) ∈ inR r
 ·simp [h1]
 ·by_cases h2 : (0 : Int) ∈ inR r <;> simp [h1, h2]
end Go.Proofs.YthlckclbjknldaaGreat
namespace Go.Proofs.YthlckclbjknldaaGreat
set_option linter.unusedVariables false
set_option linter.unusedSimpArgs false
open Go.RowKit Go.Shelf Go.Sort

theorem sortC_sets : SortC Tryz.prog 148 := fun α _ enc h1 cf hO g cb blk off cap d w eg hcmp hH hblk hsz => Any.slices_SortFunc Tryz.sortSets enc h1 cf hO g cb blk off cap d w eg hcmp hH hblk hsz
theorem sortC0_sets : SortC0 Tryz.prog 148 := fun p cap fv w => AnyF.slices_SortFunc_none (P := Tryz.prog) (ρ := Tryz.sortSets_ren) { Tryz.sortSets with } p cap fv w
/-- the program's Minimal, its result frozen -/
theorem dminT_fc (L : List (List Int)) (hn : L.length ≤ 1000000) (hb : ∀ x ∈ L, x.length ≤ 100000000) : FC Tryz.prog 128 [aSets L] [] (fun r o => o = [] ∧ r = aSets (minR L)) := (dmin_fc sortC_sets sortC0_sets L hn hb).frz (fz_sets _) Nat.zero_lt_one (by rw [tSets_len, Nat.mul_one])
end Go.Proofs.YthlckclbjknldaaGreat
