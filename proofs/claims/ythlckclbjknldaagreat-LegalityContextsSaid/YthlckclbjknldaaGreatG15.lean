/- A step of a context drawn from the tape. -/
import Derived.Test.YthlckclbjknldaaGreatG14
import Derived.Test.YthlckclbjknldaaGreatMnt
namespace Go.Proofs.YthlckclbjknldaaGreat
set_option linter.unusedVariables false
set_option linter.unusedSimpArgs false
open Go.RowKit
set_option maxRecDepth 100000

/-- a step of a context: kind, set, arcs, order, system -/
structure Cstep where
  k : Int
  s : List Int
  m : List Ar
  o : List Ar
  R : List (List Ar)
def Cstep.cells (x : Cstep) : List C := [.v (.int .i64 x.k), .t 1 (tInts x.s), .t 2 (tArcs x.m), .t 2 (tArcs x.o), .t 1 (tRows x.R)]
def Cstep.av (x : Cstep) : AV := .a (.g x.cells)
/-- what Step draws -/
def Cstep.Ok (x : Cstep) : Prop := 1 ≤ x.k ∧ x.k ≤ 8 ∧ Vs x.s ∧ (x.m.length ≤ 3 ∧ ∀ a ∈ x.m, 2 ≤ a.1 ∧ a.1 ≤ 5 ∧ 2 ≤ a.2 ∧ a.2 ≤ 5) ∧ SortA x.m ∧ x.o ∈ orderL ∧ OkSys 3 x.R.length x.R ∧ x.R.length ≤ 3
theorem vs_nil : Vs [] := ⟨by simp [Asc], by simp, by simp⟩
theorem order_nil : ([] : List Ar) ∈ orderL := by decide
theorem okSys_0 : OkSys 3 ([] : List (List Ar)).length [] := ⟨rfl, by simp⟩

theorem step_fc (T : List Int) (hT : TpOk T) (a : Nat) (b : Bool) (ha : a ≤ 900000) :
    FC Tryz.prog 10 [.a (.c (.p 0 0)), .b b] [tape T a] (fun r o => ∃ (a' : Nat) (x : Cstep), o = [tape T a', .r ⟨32, 5, false, x.cells⟩] ∧ r = x.av ∧ a' ≤ a + 40 ∧ x.Ok) := by
  refine fc_intro Tryz.func10 rfl (by rw [Tryz.ntmps10]; simp) ?_
  rw [Tryz.ntmps10]
  simp only [enum, tape]
  (repeat (first | (refine aw_seq ?_; intro K hK) | refine aw_block ?_ | refine aw_region ?_ | (refine lst_x rfl rfl ?_; intro K1 hK1; simp only [go_sem]; (first | refine hK1 _ ?_ | refine andk (hK1 _ ?_)); clear hK1 K1) | ((first | refine lst_nil ?_ | refine aw_skip ?_); refine hK _ ?_; clear hK K)))
  cases b with
  | true =>
    (refine aw_cnd ?_; intro X Y hX hY; simp only [go_sem])
    refine hX ?_
    clear hX hY X Y
    (repeat (first | (refine aw_seq ?_; intro K hK) | refine aw_block ?_ | refine aw_region ?_ | (refine lst_x rfl rfl ?_; intro K1 hK1; simp only [go_sem, List.set_cons_zero, List.set_cons_succ, C.pl, C.one, List.all_cons, List.all_nil, Bool.and_true, List.take_succ_cons, List.take_zero, List.drop_zero]; (first | refine hK1 _ ?_ | refine andk (hK1 _ ?_)); clear hK1 K1) | ((first | refine lst_nil ?_ | refine aw_skip ?_); refine hK _ ?_; clear hK K)))
    (refine lst_cons rfl ?_; intro K1 hK1; refine stp_callσ (ids := []) [0] (next_fc T a 6 hT (by omega) (by omega)) rfl rfl (by simp only [go_sem]) (by first | assumption | kernel_rfl) rfl rfl (by (simp only [List.map_append, List.append_nil, go_sem]) <;> rfl) (by (simp only [pkh, tape, go_sem]) <;> rfl) ?_ ?_)
    · rintro _ _ ⟨rfl, v, rfl, _⟩; rfl
    rintro _ _ ⟨rfl, v, rfl, hv⟩
    (simp only [aInts, aSets, tape, List.append_nil, List.nil_append, List.length_map, go_sem]; refine hK1 _ ?_; clear hK1 K1)
    (repeat (first | (refine aw_seq ?_; intro K hK) | refine aw_block ?_ | refine aw_region ?_ | (refine lst_x rfl rfl ?_; intro K1 hK1; simp only [go_sem, List.set_cons_zero, List.set_cons_succ, C.pl, C.one, List.all_cons, List.all_nil, Bool.and_true, List.take_succ_cons, List.take_zero, List.drop_zero]; (first | refine hK1 _ ?_ | refine andk (hK1 _ ?_)); clear hK1 K1) | ((first | refine lst_nil ?_ | refine aw_skip ?_); refine hK _ ?_; clear hK K)))
    (refine aw_cnd ?_; intro X Y hX hY; simp only [go_sem])
    refine ⟨fun h => hX ?_, fun h => hY ?_⟩
    · clear hX hY X Y
      (repeat (first | (refine aw_seq ?_; intro K hK) | refine aw_block ?_ | refine aw_region ?_ | (refine lst_x rfl rfl ?_; intro K1 hK1; simp only [go_sem, List.set_cons_zero, List.set_cons_succ, C.pl, C.one, List.all_cons, List.all_nil, Bool.and_true, List.take_succ_cons, List.take_zero, List.drop_zero]; (first | refine hK1 _ ?_ | refine andk (hK1 _ ?_)); clear hK1 K1) | ((first | refine lst_nil ?_ | refine aw_skip ?_); refine hK _ ?_; clear hK K)))
      (refine lst_cons rfl ?_; intro K1 hK1; refine stp_callσ (ids := []) [0] (set_fc T hT (a + 1) (by omega)) rfl rfl (by simp only [go_sem]) (by first | assumption | kernel_rfl) rfl rfl (by (simp only [List.map_append, List.append_nil, go_sem]) <;> rfl) (by (simp only [pkh, tape, go_sem]) <;> rfl) ?_ ?_)
      · rintro _ _ ⟨rfl, s, rfl, _⟩ <;> rfl
      rintro _ _ ⟨rfl, s, rfl, hs⟩
      (simp only [aInts, aSets, tape, oLts, aLts, aArcs, List.append_nil, List.nil_append, List.length_map, go_sem]; refine hK1 _ ?_; clear hK1 K1)
      (repeat (first | (refine aw_seq ?_; intro K hK) | refine aw_block ?_ | refine aw_region ?_ | (refine lst_x rfl rfl ?_; intro K1 hK1; simp only [go_sem, List.set_cons_zero, List.set_cons_succ, C.pl, C.one, List.all_cons, List.all_nil, Bool.and_true, List.take_succ_cons, List.take_zero, List.drop_zero]; (first | refine hK1 _ ?_ | refine andk (hK1 _ ?_)); clear hK1 K1) | ((first | refine lst_nil ?_ | refine aw_skip ?_); refine hK _ ?_; clear hK K)))
      (try refine aw_ret ?_)
      (try simp only [ThenA, InBl])
      refine ret_le (le_nt 1 [1, 1, 2, 2, 1] rfl) ?_
      simp only [ntA, ntC, List.set_cons_zero, List.set_cons_succ]
      refine ret_le (le_pick [0, 1] rfl rfl) ?_
      (try simp only [List.set_nil, List.take_nil, List.take_zero, List.map_append, go_sem])
      ((try refine aw_ret ?_); (try refine lst_nil ?_); (try simp only [ThenA, InBl]); refine ret_mk (by first | exact .inl rfl | exact .inr rfl) rfl ?_; simp only [rtn, resA, resL, resV, Tryz.results10, go_sem, true_and, and_true, C.pl, List.all_cons, List.all_nil, Bool.and_true, List.take_succ_cons, List.take_zero, List.drop_zero])
      exact ⟨_, ⟨1, s, [], [], []⟩, rfl, rfl, by omega, by simp, by simp, hs, by simp, by simp [SortA], order_nil, okSys_0, by simp⟩
    · clear hX hY X Y
      (repeat (first | (refine aw_seq ?_; intro K hK) | refine aw_block ?_ | refine aw_region ?_ | (refine lst_x rfl rfl ?_; intro K1 hK1; simp only [go_sem, List.set_cons_zero, List.set_cons_succ, C.pl, C.one, List.all_cons, List.all_nil, Bool.and_true, List.take_succ_cons, List.take_zero, List.drop_zero]; (first | refine hK1 _ ?_ | refine andk (hK1 _ ?_)); clear hK1 K1) | ((first | refine lst_nil ?_ | refine aw_skip ?_); refine hK _ ?_; clear hK K)))
      (refine aw_cnd ?_; intro X Y hX hY; simp only [go_sem])
      refine ⟨fun h => hX ?_, fun h => hY ?_⟩
      · clear hX hY X Y
        (repeat (first | (refine aw_seq ?_; intro K hK) | refine aw_block ?_ | refine aw_region ?_ | (refine lst_x rfl rfl ?_; intro K1 hK1; simp only [go_sem, List.set_cons_zero, List.set_cons_succ, C.pl, C.one, List.all_cons, List.all_nil, Bool.and_true, List.take_succ_cons, List.take_zero, List.drop_zero]; (first | refine hK1 _ ?_ | refine andk (hK1 _ ?_)); clear hK1 K1) | ((first | refine lst_nil ?_ | refine aw_skip ?_); refine hK _ ?_; clear hK K)))
        (refine lst_cons rfl ?_; intro K1 hK1; refine stp_callσ (ids := []) [0] (next_fc T (a + 1) 4 hT (by omega) (by omega)) rfl rfl (by simp only [go_sem]) (by first | assumption | kernel_rfl) rfl rfl (by (simp only [List.map_append, List.append_nil, go_sem]) <;> rfl) (by (simp only [pkh, tape, go_sem]) <;> rfl) ?_ ?_)
        · rintro _ _ ⟨rfl, s, rfl, _⟩ <;> rfl
        rintro _ _ ⟨rfl, w0, rfl, hw0⟩
        (simp only [aInts, aSets, tape, oLts, aLts, aArcs, List.append_nil, List.nil_append, List.length_map, go_sem]; refine hK1 _ ?_; clear hK1 K1)
        (repeat (first | (refine aw_seq ?_; intro K hK) | refine aw_block ?_ | refine aw_region ?_ | (refine lst_x rfl rfl ?_; intro K1 hK1; simp only [go_sem, List.set_cons_zero, List.set_cons_succ, C.pl, C.one, List.all_cons, List.all_nil, Bool.and_true, List.take_succ_cons, List.take_zero, List.drop_zero]; (first | refine hK1 _ ?_ | refine andk (hK1 _ ?_)); clear hK1 K1) | ((first | refine lst_nil ?_ | refine aw_skip ?_); refine hK _ ?_; clear hK K)))
        refine aw_le (le_nilt 6 2 ?_) ?_
        · simp only [go_sem]
        refine aw_loop (fun p : Nat × List Ar × Nat => { tm := [(0, .a (.c (.p 0 0))), (4, .a (.c (.p 1 0))), (6, .a (.c (.t 2 (tArcs p.2.1)))), (7, .i p.1)], hp := [.r ⟨51, 2, false, [.t 1 (tInts T), .v (.int .i64 p.2.2)]⟩, .r ⟨32, 5, false, [.v (.int .i64 0), .v (.slice none 0 0), .v (.slice none 0 0), .v (.slice none 0 0), .v (.slice none 0 0)]⟩], n := 62, pin := 1 })
          (fun p => p.2.1.length + p.1 ≤ 3 ∧ p.2.2 + 2 * p.1 ≤ a + 8 ∧ SortA p.2.1 ∧ ∀ x ∈ p.2.1, 2 ≤ x.1 ∧ x.1 ≤ 5 ∧ 2 ≤ x.2 ∧ x.2 ≤ 5) (fun p => p.1) (w0, [], a + 2) ?_ ?_ ?_
        · exact ⟨by simp; omega, by simp only; omega, by simp [SortA], by simp⟩
        · (refine le_tm ?_; simp only [LeTm, go_sem, tArcs, List.flatMap_nil]; try simp)
        · rintro ⟨w, m, a2⟩ ⟨hl, hA, hs, hm⟩ K hK
          simp only at hl hA hs hm ⊢
          (repeat (first | (refine aw_seq ?_; intro K hK) | refine aw_block ?_ | refine aw_region ?_ | (refine lst_x rfl rfl ?_; intro K1 hK1; simp only [go_sem, List.set_cons_zero, List.set_cons_succ, C.pl, C.one, List.all_cons, List.all_nil, Bool.and_true, List.take_succ_cons, List.take_zero, List.drop_zero]; (first | refine hK1 _ ?_ | refine andk (hK1 _ ?_)); clear hK1 K1) | ((first | refine lst_nil ?_ | refine aw_skip ?_); refine hK _ ?_; clear hK K)))
          (refine aw_cnd ?_; intro X Y hX hY; simp only [go_sem])
          refine ⟨fun h => hX ?_, fun h => hY ?_⟩
          · have hw : 0 < w := by simpa using h
            clear hX hY X Y
            (repeat (first | (refine aw_seq ?_; intro K hK) | refine aw_block ?_ | refine aw_region ?_ | (refine lst_x rfl rfl ?_; intro K1 hK1; simp only [go_sem, List.set_cons_zero, List.set_cons_succ, C.pl, C.one, List.all_cons, List.all_nil, Bool.and_true, List.take_succ_cons, List.take_zero, List.drop_zero]; (first | refine hK1 _ ?_ | refine andk (hK1 _ ?_)); clear hK1 K1) | ((first | refine lst_nil ?_ | refine aw_skip ?_); refine hK _ ?_; clear hK K)))
            (refine lst_cons rfl ?_; intro K1 hK1; refine stp_callσ (ids := []) [0] (vis_fc T hT a2 (by omega)) rfl rfl (by simp only [go_sem]) (by first | assumption | kernel_rfl) rfl rfl (by (simp only [List.map_append, List.append_nil, go_sem]) <;> rfl) (by (simp only [pkh, tape, go_sem]) <;> rfl) ?_ ?_)
            · rintro _ _ ⟨rfl, s, rfl, _⟩ <;> rfl
            rintro _ _ ⟨rfl, x, rfl, hx⟩
            (simp only [aInts, aSets, tape, oLts, aLts, aArcs, List.append_nil, List.nil_append, List.length_map, go_sem]; refine hK1 _ ?_; clear hK1 K1)
            (repeat (first | (refine aw_seq ?_; intro K hK) | refine aw_block ?_ | refine aw_region ?_ | (refine lst_x rfl rfl ?_; intro K1 hK1; simp only [go_sem, List.set_cons_zero, List.set_cons_succ, C.pl, C.one, List.all_cons, List.all_nil, Bool.and_true, List.take_succ_cons, List.take_zero, List.drop_zero]; (first | refine hK1 _ ?_ | refine andk (hK1 _ ?_)); clear hK1 K1) | ((first | refine lst_nil ?_ | refine aw_skip ?_); refine hK _ ?_; clear hK K)))
            (refine lst_cons rfl ?_; intro K1 hK1; refine stp_callσ (ids := []) [0] (vis_fc T hT (a2 + 1) (by omega)) rfl rfl (by simp only [go_sem]) (by first | assumption | kernel_rfl) rfl rfl (by (simp only [List.map_append, List.append_nil, go_sem]) <;> rfl) (by (simp only [pkh, tape, go_sem]) <;> rfl) ?_ ?_)
            · rintro _ _ ⟨rfl, s, rfl, _⟩ <;> rfl
            rintro _ _ ⟨rfl, y, rfl, hy⟩
            (simp only [aInts, aSets, tape, oLts, aLts, aArcs, List.append_nil, List.nil_append, List.length_map, go_sem]; refine hK1 _ ?_; clear hK1 K1)
            (repeat (first | (refine aw_seq ?_; intro K hK) | refine aw_block ?_ | refine aw_region ?_ | (refine lst_x rfl rfl ?_; intro K1 hK1; simp only [go_sem, List.set_cons_zero, List.set_cons_succ, C.pl, C.one, List.all_cons, List.all_nil, Bool.and_true, List.take_succ_cons, List.take_zero, List.drop_zero]; (first | refine hK1 _ ?_ | refine andk (hK1 _ ?_)); clear hK1 K1) | ((first | refine lst_nil ?_ | refine aw_skip ?_); refine hK _ ?_; clear hK K)))
            (refine lst_cons rfl ?_; intro K1 hK1; refine stp_callσ (ids := []) [] (insT_fc m (x, y) (by omega)) rfl rfl (by simp only [go_sem]) (by first | assumption | kernel_rfl) rfl rfl (by (simp only [List.map_append, List.append_nil, go_sem]) <;> rfl) (by (simp only [pkh, aArcs, go_sem]) <;> rfl) ?_ ?_)
            · rintro _ _ ⟨rfl, rfl⟩; rfl
            rintro _ _ ⟨rfl, rfl⟩
            (simp only [aInts, aSets, aArcs, List.append_nil, List.nil_append, List.length_map, go_sem]; refine hK1 _ ?_; clear hK1 K1)
            (repeat (first | (refine aw_seq ?_; intro K hK) | refine aw_block ?_ | refine aw_region ?_ | (refine lst_x rfl rfl ?_; intro K1 hK1; simp only [go_sem, List.set_cons_zero, List.set_cons_succ, C.pl, C.one, List.all_cons, List.all_nil, Bool.and_true, List.take_succ_cons, List.take_zero, List.drop_zero]; (first | refine hK1 _ ?_ | refine andk (hK1 _ ?_)); clear hK1 K1) | ((first | refine lst_nil ?_ | refine aw_skip ?_); refine hK _ ?_; clear hK K)))
            ((try refine lst_nil ?_); (try refine aw_skip ?_); try simp only [ThenA])
            have hil := insA_len (x, y) m
            have e1 : ((w : Int) - 1) = ((w - 1 : Nat) : Int) := by omega
            refine hK _ (w - 1, insA (x, y) m, a2 + 2) ⟨by simp only; omega, by simp only; omega, insA_sort hs, fun z hz => ?_⟩ (by simp only; omega) ?_
            · rcases (mem_insA _ _ _).1 hz with rfl | hz
              · exact ⟨hx.1, hx.2, hy.1, hy.2⟩
              · exact hm z hz
            · (refine le_tm ?_; simp only [LeTm, go_sem, e1]; try simp)
          · clear hX hY X Y
            (refine aw_exit ?_; simp only [ThenA, InBl, reduceIte, Nat.reduceEqDiff]; (first | refine hK _ ?_ | (clear hK K; refine hK _ ?_) | (clear hK K; clear hK K; refine hK _ ?_) | (clear hK K; clear hK K; clear hK K; refine hK _ ?_) | (clear hK K; clear hK K; clear hK K; clear hK K; refine hK _ ?_) | (clear hK K; clear hK K; clear hK K; clear hK K; clear hK K; refine hK _ ?_)); clear hK K)
            (repeat (first | (refine aw_seq ?_; intro K hK) | refine aw_block ?_ | refine aw_region ?_ | (refine lst_x rfl rfl ?_; intro K1 hK1; simp only [go_sem, List.set_cons_zero, List.set_cons_succ, C.pl, C.one, List.all_cons, List.all_nil, Bool.and_true, List.take_succ_cons, List.take_zero, List.drop_zero]; (first | refine hK1 _ ?_ | refine andk (hK1 _ ?_)); clear hK1 K1) | ((first | refine lst_nil ?_ | refine aw_skip ?_); refine hK _ ?_; clear hK K)))
            (try refine aw_ret ?_)
            (try simp only [ThenA, InBl])
            refine ret_le (le_nt 1 [1, 1, 2, 2, 1] rfl) ?_
            simp only [ntA, ntC, List.set_cons_zero, List.set_cons_succ]
            refine ret_le (le_pick [0, 1] rfl rfl) ?_
            (try simp only [List.set_nil, List.take_nil, List.take_zero, List.map_append, go_sem])
            ((try refine aw_ret ?_); (try refine lst_nil ?_); (try simp only [ThenA, InBl]); refine ret_mk (by first | exact .inl rfl | exact .inr rfl) rfl ?_; simp only [rtn, resA, resL, resV, Tryz.results10, go_sem, true_and, and_true, C.pl, List.all_cons, List.all_nil, Bool.and_true, List.take_succ_cons, List.take_zero, List.drop_zero])
            exact ⟨_, ⟨2, [], m, [], []⟩, rfl, rfl, by omega, by simp, by simp, vs_nil, ⟨by simp only; omega, hm⟩, hs, order_nil, okSys_0, by simp⟩
      · clear hX hY X Y
        (repeat (first | (refine aw_seq ?_; intro K hK) | refine aw_block ?_ | refine aw_region ?_ | (refine lst_x rfl rfl ?_; intro K1 hK1; simp only [go_sem, List.set_cons_zero, List.set_cons_succ, C.pl, C.one, List.all_cons, List.all_nil, Bool.and_true, List.take_succ_cons, List.take_zero, List.drop_zero]; (first | refine hK1 _ ?_ | refine andk (hK1 _ ?_)); clear hK1 K1) | ((first | refine lst_nil ?_ | refine aw_skip ?_); refine hK _ ?_; clear hK K)))
        (refine aw_cnd ?_; intro X Y hX hY; simp only [go_sem])
        refine ⟨fun h => hX ?_, fun h => hY ?_⟩
        · clear hX hY X Y
          (repeat (first | (refine aw_seq ?_; intro K hK) | refine aw_block ?_ | refine aw_region ?_ | (refine lst_x rfl rfl ?_; intro K1 hK1; simp only [go_sem, List.set_cons_zero, List.set_cons_succ, C.pl, C.one, List.all_cons, List.all_nil, Bool.and_true, List.take_succ_cons, List.take_zero, List.drop_zero]; (first | refine hK1 _ ?_ | refine andk (hK1 _ ?_)); clear hK1 K1) | ((first | refine lst_nil ?_ | refine aw_skip ?_); refine hK _ ?_; clear hK K)))
          (refine lst_cons rfl ?_; intro K1 hK1; refine stp_callσ (ids := []) [0] (set_fc T hT (a + 1) (by omega)) rfl rfl (by simp only [go_sem]) (by first | assumption | kernel_rfl) rfl rfl (by (simp only [List.map_append, List.append_nil, go_sem]) <;> rfl) (by (simp only [pkh, tape, go_sem]) <;> rfl) ?_ ?_)
          · rintro _ _ ⟨rfl, s, rfl, _⟩ <;> rfl
          rintro _ _ ⟨rfl, s, rfl, hs⟩
          (simp only [aInts, aSets, tape, oLts, aLts, aArcs, List.append_nil, List.nil_append, List.length_map, go_sem]; refine hK1 _ ?_; clear hK1 K1)
          (repeat (first | (refine aw_seq ?_; intro K hK) | refine aw_block ?_ | refine aw_region ?_ | (refine lst_x rfl rfl ?_; intro K1 hK1; simp only [go_sem, List.set_cons_zero, List.set_cons_succ, C.pl, C.one, List.all_cons, List.all_nil, Bool.and_true, List.take_succ_cons, List.take_zero, List.drop_zero]; (first | refine hK1 _ ?_ | refine andk (hK1 _ ?_)); clear hK1 K1) | ((first | refine lst_nil ?_ | refine aw_skip ?_); refine hK _ ?_; clear hK K)))
          (refine lst_cons rfl ?_; intro K1 hK1; refine stp_callσ (ids := []) [0] (lts_fc T hT (a + 1 + 4) 3 (by omega) (by omega) (by omega)) rfl rfl (by simp only [go_sem]) (by first | assumption | kernel_rfl) rfl rfl (by (simp only [List.map_append, List.append_nil, go_sem]) <;> rfl) (by (simp only [pkh, tape, go_sem]) <;> rfl) ?_ ?_)
          · rintro _ _ ⟨_, _, rfl, rfl, _⟩ <;> rfl
          rintro _ _ ⟨a3, R, rfl, rfl, hA3, hR1, hR2, hR3⟩
          (simp only [aInts, aSets, tape, oLts, aLts, aArcs, List.append_nil, List.nil_append, List.length_map, go_sem]; refine hK1 _ ?_; clear hK1 K1)
          (repeat (first | (refine aw_seq ?_; intro K hK) | refine aw_block ?_ | refine aw_region ?_ | (refine lst_x rfl rfl ?_; intro K1 hK1; simp only [go_sem, List.set_cons_zero, List.set_cons_succ, C.pl, C.one, List.all_cons, List.all_nil, Bool.and_true, List.take_succ_cons, List.take_zero, List.drop_zero]; (first | refine hK1 _ ?_ | refine andk (hK1 _ ?_)); clear hK1 K1) | ((first | refine lst_nil ?_ | refine aw_skip ?_); refine hK _ ?_; clear hK K)))
          (try refine aw_ret ?_)
          (try simp only [ThenA, InBl])
          refine ret_le (le_nt 1 [1, 1, 2, 2, 1] rfl) ?_
          simp only [ntA, ntC, List.set_cons_zero, List.set_cons_succ]
          refine ret_le (le_pick [0, 1] rfl rfl) ?_
          (try simp only [List.set_nil, List.take_nil, List.take_zero, List.map_append, go_sem])
          ((try refine aw_ret ?_); (try refine lst_nil ?_); (try simp only [ThenA, InBl]); refine ret_mk (by first | exact .inl rfl | exact .inr rfl) rfl ?_; simp only [rtn, resA, resL, resV, Tryz.results10, go_sem, true_and, and_true, C.pl, List.all_cons, List.all_nil, Bool.and_true, List.take_succ_cons, List.take_zero, List.drop_zero])
          exact ⟨_, ⟨3, s, [], [], R⟩, rfl, rfl, by omega, by simp, by simp, hs, by simp, by simp [SortA], order_nil, hR3, by simp only; omega⟩
        · clear hX hY X Y
          (repeat (first | (refine aw_seq ?_; intro K hK) | refine aw_block ?_ | refine aw_region ?_ | (refine lst_x rfl rfl ?_; intro K1 hK1; simp only [go_sem, List.set_cons_zero, List.set_cons_succ, C.pl, C.one, List.all_cons, List.all_nil, Bool.and_true, List.take_succ_cons, List.take_zero, List.drop_zero]; (first | refine hK1 _ ?_ | refine andk (hK1 _ ?_)); clear hK1 K1) | ((first | refine lst_nil ?_ | refine aw_skip ?_); refine hK _ ?_; clear hK K)))
          (refine aw_cnd ?_; intro X Y hX hY; simp only [go_sem])
          refine ⟨fun h => hX ?_, fun h => hY ?_⟩
          · clear hX hY X Y
            (repeat (first | (refine aw_seq ?_; intro K hK) | refine aw_block ?_ | refine aw_region ?_ | (refine lst_x rfl rfl ?_; intro K1 hK1; simp only [go_sem, List.set_cons_zero, List.set_cons_succ, C.pl, C.one, List.all_cons, List.all_nil, Bool.and_true, List.take_succ_cons, List.take_zero, List.drop_zero]; (first | refine hK1 _ ?_ | refine andk (hK1 _ ?_)); clear hK1 K1) | ((first | refine lst_nil ?_ | refine aw_skip ?_); refine hK _ ?_; clear hK K)))
            (refine lst_cons rfl ?_; intro K1 hK1; refine stp_callσ (ids := []) [0] (lts_fc T hT (a + 1) 3 (by omega) (by omega) (by omega)) rfl rfl (by simp only [go_sem]) (by first | assumption | kernel_rfl) rfl rfl (by (simp only [List.map_append, List.append_nil, go_sem]) <;> rfl) (by (simp only [pkh, tape, go_sem]) <;> rfl) ?_ ?_)
            · rintro _ _ ⟨_, _, rfl, rfl, _⟩ <;> rfl
            rintro _ _ ⟨a3, R, rfl, rfl, hA3, hR1, hR2, hR3⟩
            (simp only [aInts, aSets, tape, oLts, aLts, aArcs, List.append_nil, List.nil_append, List.length_map, go_sem]; refine hK1 _ ?_; clear hK1 K1)
            (repeat (first | (refine aw_seq ?_; intro K hK) | refine aw_block ?_ | refine aw_region ?_ | (refine lst_x rfl rfl ?_; intro K1 hK1; simp only [go_sem, List.set_cons_zero, List.set_cons_succ, C.pl, C.one, List.all_cons, List.all_nil, Bool.and_true, List.take_succ_cons, List.take_zero, List.drop_zero]; (first | refine hK1 _ ?_ | refine andk (hK1 _ ?_)); clear hK1 K1) | ((first | refine lst_nil ?_ | refine aw_skip ?_); refine hK _ ?_; clear hK K)))
            (try refine aw_ret ?_)
            (try simp only [ThenA, InBl])
            refine ret_le (le_nt 1 [1, 1, 2, 2, 1] rfl) ?_
            simp only [ntA, ntC, List.set_cons_zero, List.set_cons_succ]
            refine ret_le (le_pick [0, 1] rfl rfl) ?_
            (try simp only [List.set_nil, List.take_nil, List.take_zero, List.map_append, go_sem])
            ((try refine aw_ret ?_); (try refine lst_nil ?_); (try simp only [ThenA, InBl]); refine ret_mk (by first | exact .inl rfl | exact .inr rfl) rfl ?_; simp only [rtn, resA, resL, resV, Tryz.results10, go_sem, true_and, and_true, C.pl, List.all_cons, List.all_nil, Bool.and_true, List.take_succ_cons, List.take_zero, List.drop_zero])
            exact ⟨_, ⟨4, [], [], [], R⟩, rfl, rfl, by omega, by simp, by simp, vs_nil, by simp, by simp [SortA], order_nil, hR3, by simp only; omega⟩
          · clear hX hY X Y
            (repeat (first | (refine aw_seq ?_; intro K hK) | refine aw_block ?_ | refine aw_region ?_ | (refine lst_x rfl rfl ?_; intro K1 hK1; simp only [go_sem, List.set_cons_zero, List.set_cons_succ, C.pl, C.one, List.all_cons, List.all_nil, Bool.and_true, List.take_succ_cons, List.take_zero, List.drop_zero]; (first | refine hK1 _ ?_ | refine andk (hK1 _ ?_)); clear hK1 K1) | ((first | refine lst_nil ?_ | refine aw_skip ?_); refine hK _ ?_; clear hK K)))
            (refine aw_cnd ?_; intro X Y hX hY; simp only [go_sem])
            refine ⟨fun h => hX ?_, fun h => hY ?_⟩
            · clear hX hY X Y
              (repeat (first | (refine aw_seq ?_; intro K hK) | refine aw_block ?_ | refine aw_region ?_ | (refine lst_x rfl rfl ?_; intro K1 hK1; simp only [go_sem, List.set_cons_zero, List.set_cons_succ, C.pl, C.one, List.all_cons, List.all_nil, Bool.and_true, List.take_succ_cons, List.take_zero, List.drop_zero]; (first | refine hK1 _ ?_ | refine andk (hK1 _ ?_)); clear hK1 K1) | ((first | refine lst_nil ?_ | refine aw_skip ?_); refine hK _ ?_; clear hK K)))
              (refine lst_cons rfl ?_; intro K1 hK1; refine stp_callσ (ids := []) [0] (lts_fc T hT (a + 1) 2 (by omega) (by omega) (by omega)) rfl rfl (by simp only [go_sem]) (by first | assumption | kernel_rfl) rfl rfl (by (simp only [List.map_append, List.append_nil, go_sem]) <;> rfl) (by (simp only [pkh, tape, go_sem]) <;> rfl) ?_ ?_)
              · rintro _ _ ⟨_, _, rfl, rfl, _⟩ <;> rfl
              rintro _ _ ⟨a3, R, rfl, rfl, hA3, hR1, hR2, hR3⟩
              (simp only [aInts, aSets, tape, oLts, aLts, aArcs, List.append_nil, List.nil_append, List.length_map, go_sem]; refine hK1 _ ?_; clear hK1 K1)
              (repeat (first | (refine aw_seq ?_; intro K hK) | refine aw_block ?_ | refine aw_region ?_ | (refine lst_x rfl rfl ?_; intro K1 hK1; simp only [go_sem, List.set_cons_zero, List.set_cons_succ, C.pl, C.one, List.all_cons, List.all_nil, Bool.and_true, List.take_succ_cons, List.take_zero, List.drop_zero]; (first | refine hK1 _ ?_ | refine andk (hK1 _ ?_)); clear hK1 K1) | ((first | refine lst_nil ?_ | refine aw_skip ?_); refine hK _ ?_; clear hK K)))
              (try refine aw_ret ?_)
              (try simp only [ThenA, InBl])
              refine ret_le (le_nt 1 [1, 1, 2, 2, 1] rfl) ?_
              simp only [ntA, ntC, List.set_cons_zero, List.set_cons_succ]
              refine ret_le (le_pick [0, 1] rfl rfl) ?_
              (try simp only [List.set_nil, List.take_nil, List.take_zero, List.map_append, go_sem])
              ((try refine aw_ret ?_); (try refine lst_nil ?_); (try simp only [ThenA, InBl]); refine ret_mk (by first | exact .inl rfl | exact .inr rfl) rfl ?_; simp only [rtn, resA, resL, resV, Tryz.results10, go_sem, true_and, and_true, C.pl, List.all_cons, List.all_nil, Bool.and_true, List.take_succ_cons, List.take_zero, List.drop_zero])
              exact ⟨_, ⟨5, [], [], [], R⟩, rfl, rfl, by omega, by simp, by simp, vs_nil, by simp, by simp [SortA], order_nil, hR3, by simp only; omega⟩
            · clear hX hY X Y
              (repeat (first | (refine aw_seq ?_; intro K hK) | refine aw_block ?_ | refine aw_region ?_ | (refine lst_x rfl rfl ?_; intro K1 hK1; simp only [go_sem, List.set_cons_zero, List.set_cons_succ, C.pl, C.one, List.all_cons, List.all_nil, Bool.and_true, List.take_succ_cons, List.take_zero, List.drop_zero]; (first | refine hK1 _ ?_ | refine andk (hK1 _ ?_)); clear hK1 K1) | ((first | refine lst_nil ?_ | refine aw_skip ?_); refine hK _ ?_; clear hK K)))
              (refine aw_cnd ?_; intro X Y hX hY; simp only [go_sem])
              refine ⟨fun h => hX ?_, fun h => hY ?_⟩
              · clear hX hY X Y
                (repeat (first | (refine aw_seq ?_; intro K hK) | refine aw_block ?_ | refine aw_region ?_ | (refine lst_x rfl rfl ?_; intro K1 hK1; simp only [go_sem, List.set_cons_zero, List.set_cons_succ, C.pl, C.one, List.all_cons, List.all_nil, Bool.and_true, List.take_succ_cons, List.take_zero, List.drop_zero]; (first | refine hK1 _ ?_ | refine andk (hK1 _ ?_)); clear hK1 K1) | ((first | refine lst_nil ?_ | refine aw_skip ?_); refine hK _ ?_; clear hK K)))
                (refine lst_cons rfl ?_; intro K1 hK1; refine stp_callσ (ids := []) [0] (lts_fc T hT (a + 1) 3 (by omega) (by omega) (by omega)) rfl rfl (by simp only [go_sem]) (by first | assumption | kernel_rfl) rfl rfl (by (simp only [List.map_append, List.append_nil, go_sem]) <;> rfl) (by (simp only [pkh, tape, go_sem]) <;> rfl) ?_ ?_)
                · rintro _ _ ⟨_, _, rfl, rfl, _⟩ <;> rfl
                rintro _ _ ⟨a3, R, rfl, rfl, hA3, hR1, hR2, hR3⟩
                (simp only [aInts, aSets, tape, oLts, aLts, aArcs, List.append_nil, List.nil_append, List.length_map, go_sem]; refine hK1 _ ?_; clear hK1 K1)
                (repeat (first | (refine aw_seq ?_; intro K hK) | refine aw_block ?_ | refine aw_region ?_ | (refine lst_x rfl rfl ?_; intro K1 hK1; simp only [go_sem, List.set_cons_zero, List.set_cons_succ, C.pl, C.one, List.all_cons, List.all_nil, Bool.and_true, List.take_succ_cons, List.take_zero, List.drop_zero]; (first | refine hK1 _ ?_ | refine andk (hK1 _ ?_)); clear hK1 K1) | ((first | refine lst_nil ?_ | refine aw_skip ?_); refine hK _ ?_; clear hK K)))
                (try refine aw_ret ?_)
                (try simp only [ThenA, InBl])
                refine ret_le (le_nt 1 [1, 1, 2, 2, 1] rfl) ?_
                simp only [ntA, ntC, List.set_cons_zero, List.set_cons_succ]
                refine ret_le (le_pick [0, 1] rfl rfl) ?_
                (try simp only [List.set_nil, List.take_nil, List.take_zero, List.map_append, go_sem])
                ((try refine aw_ret ?_); (try refine lst_nil ?_); (try simp only [ThenA, InBl]); refine ret_mk (by first | exact .inl rfl | exact .inr rfl) rfl ?_; simp only [rtn, resA, resL, resV, Tryz.results10, go_sem, true_and, and_true, C.pl, List.all_cons, List.all_nil, Bool.and_true, List.take_succ_cons, List.take_zero, List.drop_zero])
                exact ⟨_, ⟨6, [], [], [], R⟩, rfl, rfl, by omega, by simp, by simp, vs_nil, by simp, by simp [SortA], order_nil, hR3, by simp only; omega⟩
              · clear hX hY X Y
                (repeat (first | (refine aw_seq ?_; intro K hK) | refine aw_block ?_ | refine aw_region ?_ | (refine lst_x rfl rfl ?_; intro K1 hK1; simp only [go_sem, List.set_cons_zero, List.set_cons_succ, C.pl, C.one, List.all_cons, List.all_nil, Bool.and_true, List.take_succ_cons, List.take_zero, List.drop_zero]; (first | refine hK1 _ ?_ | refine andk (hK1 _ ?_)); clear hK1 K1) | ((first | refine lst_nil ?_ | refine aw_skip ?_); refine hK _ ?_; clear hK K)))
                (refine aw_cnd ?_; intro X Y hX hY; simp only [go_sem])
                refine ⟨fun h => hX ?_, fun h => hY ?_⟩
                · clear hX hY X Y
                  (repeat (first | (refine aw_seq ?_; intro K hK) | refine aw_block ?_ | refine aw_region ?_ | (refine lst_x rfl rfl ?_; intro K1 hK1; simp only [go_sem, List.set_cons_zero, List.set_cons_succ, C.pl, C.one, List.all_cons, List.all_nil, Bool.and_true, List.take_succ_cons, List.take_zero, List.drop_zero]; (first | refine hK1 _ ?_ | refine andk (hK1 _ ?_)); clear hK1 K1) | ((first | refine lst_nil ?_ | refine aw_skip ?_); refine hK _ ?_; clear hK K)))
                  (refine lst_cons rfl ?_; intro K1 hK1; refine stp_callσ (ids := []) [0] (order_fc T hT (a + 1) (by omega)) rfl rfl (by simp only [go_sem]) (by first | assumption | kernel_rfl) rfl rfl (by (simp only [List.map_append, List.append_nil, go_sem]) <;> rfl) (by (simp only [pkh, tape, go_sem]) <;> rfl) ?_ ?_)
                  · rintro _ _ ⟨rfl, _, _, rfl⟩ <;> rfl
                  rintro _ _ ⟨rfl, L, hL, rfl⟩
                  (simp only [aInts, aSets, tape, oLts, aLts, aArcs, List.append_nil, List.nil_append, List.length_map, go_sem]; refine hK1 _ ?_; clear hK1 K1)
                  (repeat (first | (refine aw_seq ?_; intro K hK) | refine aw_block ?_ | refine aw_region ?_ | (refine lst_x rfl rfl ?_; intro K1 hK1; simp only [go_sem, List.set_cons_zero, List.set_cons_succ, C.pl, C.one, List.all_cons, List.all_nil, Bool.and_true, List.take_succ_cons, List.take_zero, List.drop_zero]; (first | refine hK1 _ ?_ | refine andk (hK1 _ ?_)); clear hK1 K1) | ((first | refine lst_nil ?_ | refine aw_skip ?_); refine hK _ ?_; clear hK K)))
                  (try refine aw_ret ?_)
                  (try simp only [ThenA, InBl])
                  refine ret_le (le_nt 1 [1, 1, 2, 2, 1] rfl) ?_
                  simp only [ntA, ntC, List.set_cons_zero, List.set_cons_succ]
                  refine ret_le (le_pick [0, 1] rfl rfl) ?_
                  (try simp only [List.set_nil, List.take_nil, List.take_zero, List.map_append, go_sem])
                  ((try refine aw_ret ?_); (try refine lst_nil ?_); (try simp only [ThenA, InBl]); refine ret_mk (by first | exact .inl rfl | exact .inr rfl) rfl ?_; simp only [rtn, resA, resL, resV, Tryz.results10, go_sem, true_and, and_true, C.pl, List.all_cons, List.all_nil, Bool.and_true, List.take_succ_cons, List.take_zero, List.drop_zero])
                  exact ⟨_, ⟨7, [], [], L, []⟩, rfl, rfl, by omega, by simp, by simp, vs_nil, by simp, by simp [SortA], hL, okSys_0, by simp⟩
                · clear hX hY X Y
                  (repeat (first | (refine aw_seq ?_; intro K hK) | refine aw_block ?_ | refine aw_region ?_ | (refine lst_x rfl rfl ?_; intro K1 hK1; simp only [go_sem, List.set_cons_zero, List.set_cons_succ, C.pl, C.one, List.all_cons, List.all_nil, Bool.and_true, List.take_succ_cons, List.take_zero, List.drop_zero]; (first | refine hK1 _ ?_ | refine andk (hK1 _ ?_)); clear hK1 K1) | ((first | refine lst_nil ?_ | refine aw_skip ?_); refine hK _ ?_; clear hK K)))
                  (try refine aw_ret ?_)
                  (try simp only [ThenA, InBl])
                  refine ret_le (le_nt 1 [1, 1, 2, 2, 1] rfl) ?_
                  simp only [ntA, ntC, List.set_cons_zero, List.set_cons_succ]
                  refine ret_le (le_pick [0, 1] rfl rfl) ?_
                  (try simp only [List.set_nil, List.take_nil, List.take_zero, List.map_append, go_sem])
                  ((try refine aw_ret ?_); (try refine lst_nil ?_); (try simp only [ThenA, InBl]); refine ret_mk (by first | exact .inl rfl | exact .inr rfl) rfl ?_; simp only [rtn, resA, resL, resV, Tryz.results10, go_sem, true_and, and_true, C.pl, List.all_cons, List.all_nil, Bool.and_true, List.take_succ_cons, List.take_zero, List.drop_zero])
                  exact ⟨_, ⟨8, [], [], [], []⟩, rfl, rfl, by omega, by simp, by simp, vs_nil, by simp, by simp [SortA], order_nil, okSys_0, by simp⟩
  | false =>
    (refine aw_cnd ?_; intro X Y hX hY; simp only [go_sem])
    refine hY ?_
    clear hX hY X Y
    (repeat (first | (refine aw_seq ?_; intro K hK) | refine aw_block ?_ | refine aw_region ?_ | (refine lst_x rfl rfl ?_; intro K1 hK1; simp only [go_sem, List.set_cons_zero, List.set_cons_succ, C.pl, C.one, List.all_cons, List.all_nil, Bool.and_true, List.take_succ_cons, List.take_zero, List.drop_zero]; (first | refine hK1 _ ?_ | refine andk (hK1 _ ?_)); clear hK1 K1) | ((first | refine lst_nil ?_ | refine aw_skip ?_); refine hK _ ?_; clear hK K)))
    (refine lst_cons rfl ?_; intro K1 hK1; refine stp_callσ (ids := []) [0] (next_fc T a 8 hT (by omega) (by omega)) rfl rfl (by simp only [go_sem]) (by first | assumption | kernel_rfl) rfl rfl (by (simp only [List.map_append, List.append_nil, go_sem]) <;> rfl) (by (simp only [pkh, tape, go_sem]) <;> rfl) ?_ ?_)
    · rintro _ _ ⟨rfl, v, rfl, _⟩; rfl
    rintro _ _ ⟨rfl, v, rfl, hv⟩
    (simp only [aInts, aSets, tape, List.append_nil, List.nil_append, List.length_map, go_sem]; refine hK1 _ ?_; clear hK1 K1)
    (repeat (first | (refine aw_seq ?_; intro K hK) | refine aw_block ?_ | refine aw_region ?_ | (refine lst_x rfl rfl ?_; intro K1 hK1; simp only [go_sem, List.set_cons_zero, List.set_cons_succ, C.pl, C.one, List.all_cons, List.all_nil, Bool.and_true, List.take_succ_cons, List.take_zero, List.drop_zero]; (first | refine hK1 _ ?_ | refine andk (hK1 _ ?_)); clear hK1 K1) | ((first | refine lst_nil ?_ | refine aw_skip ?_); refine hK _ ?_; clear hK K)))
    (refine aw_cnd ?_; intro X Y hX hY; simp only [go_sem])
    refine ⟨fun h => hX ?_, fun h => hY ?_⟩
    · clear hX hY X Y
      (repeat (first | (refine aw_seq ?_; intro K hK) | refine aw_block ?_ | refine aw_region ?_ | (refine lst_x rfl rfl ?_; intro K1 hK1; simp only [go_sem, List.set_cons_zero, List.set_cons_succ, C.pl, C.one, List.all_cons, List.all_nil, Bool.and_true, List.take_succ_cons, List.take_zero, List.drop_zero]; (first | refine hK1 _ ?_ | refine andk (hK1 _ ?_)); clear hK1 K1) | ((first | refine lst_nil ?_ | refine aw_skip ?_); refine hK _ ?_; clear hK K)))
      (refine lst_cons rfl ?_; intro K1 hK1; refine stp_callσ (ids := []) [0] (set_fc T hT (a + 1) (by omega)) rfl rfl (by simp only [go_sem]) (by first | assumption | kernel_rfl) rfl rfl (by (simp only [List.map_append, List.append_nil, go_sem]) <;> rfl) (by (simp only [pkh, tape, go_sem]) <;> rfl) ?_ ?_)
      · rintro _ _ ⟨rfl, s, rfl, _⟩ <;> rfl
      rintro _ _ ⟨rfl, s, rfl, hs⟩
      (simp only [aInts, aSets, tape, oLts, aLts, aArcs, List.append_nil, List.nil_append, List.length_map, go_sem]; refine hK1 _ ?_; clear hK1 K1)
      (repeat (first | (refine aw_seq ?_; intro K hK) | refine aw_block ?_ | refine aw_region ?_ | (refine lst_x rfl rfl ?_; intro K1 hK1; simp only [go_sem, List.set_cons_zero, List.set_cons_succ, C.pl, C.one, List.all_cons, List.all_nil, Bool.and_true, List.take_succ_cons, List.take_zero, List.drop_zero]; (first | refine hK1 _ ?_ | refine andk (hK1 _ ?_)); clear hK1 K1) | ((first | refine lst_nil ?_ | refine aw_skip ?_); refine hK _ ?_; clear hK K)))
      (try refine aw_ret ?_)
      (try simp only [ThenA, InBl])
      refine ret_le (le_nt 1 [1, 1, 2, 2, 1] rfl) ?_
      simp only [ntA, ntC, List.set_cons_zero, List.set_cons_succ]
      refine ret_le (le_pick [0, 1] rfl rfl) ?_
      (try simp only [List.set_nil, List.take_nil, List.take_zero, List.map_append, go_sem])
      ((try refine aw_ret ?_); (try refine lst_nil ?_); (try simp only [ThenA, InBl]); refine ret_mk (by first | exact .inl rfl | exact .inr rfl) rfl ?_; simp only [rtn, resA, resL, resV, Tryz.results10, go_sem, true_and, and_true, C.pl, List.all_cons, List.all_nil, Bool.and_true, List.take_succ_cons, List.take_zero, List.drop_zero])
      exact ⟨_, ⟨1, s, [], [], []⟩, rfl, rfl, by omega, by simp, by simp, hs, by simp, by simp [SortA], order_nil, okSys_0, by simp⟩
    · clear hX hY X Y
      (repeat (first | (refine aw_seq ?_; intro K hK) | refine aw_block ?_ | refine aw_region ?_ | (refine lst_x rfl rfl ?_; intro K1 hK1; simp only [go_sem, List.set_cons_zero, List.set_cons_succ, C.pl, C.one, List.all_cons, List.all_nil, Bool.and_true, List.take_succ_cons, List.take_zero, List.drop_zero]; (first | refine hK1 _ ?_ | refine andk (hK1 _ ?_)); clear hK1 K1) | ((first | refine lst_nil ?_ | refine aw_skip ?_); refine hK _ ?_; clear hK K)))
      (refine aw_cnd ?_; intro X Y hX hY; simp only [go_sem])
      refine ⟨fun h => hX ?_, fun h => hY ?_⟩
      · clear hX hY X Y
        (repeat (first | (refine aw_seq ?_; intro K hK) | refine aw_block ?_ | refine aw_region ?_ | (refine lst_x rfl rfl ?_; intro K1 hK1; simp only [go_sem, List.set_cons_zero, List.set_cons_succ, C.pl, C.one, List.all_cons, List.all_nil, Bool.and_true, List.take_succ_cons, List.take_zero, List.drop_zero]; (first | refine hK1 _ ?_ | refine andk (hK1 _ ?_)); clear hK1 K1) | ((first | refine lst_nil ?_ | refine aw_skip ?_); refine hK _ ?_; clear hK K)))
        (refine lst_cons rfl ?_; intro K1 hK1; refine stp_callσ (ids := []) [0] (next_fc T (a + 1) 4 hT (by omega) (by omega)) rfl rfl (by simp only [go_sem]) (by first | assumption | kernel_rfl) rfl rfl (by (simp only [List.map_append, List.append_nil, go_sem]) <;> rfl) (by (simp only [pkh, tape, go_sem]) <;> rfl) ?_ ?_)
        · rintro _ _ ⟨rfl, s, rfl, _⟩ <;> rfl
        rintro _ _ ⟨rfl, w0, rfl, hw0⟩
        (simp only [aInts, aSets, tape, oLts, aLts, aArcs, List.append_nil, List.nil_append, List.length_map, go_sem]; refine hK1 _ ?_; clear hK1 K1)
        (repeat (first | (refine aw_seq ?_; intro K hK) | refine aw_block ?_ | refine aw_region ?_ | (refine lst_x rfl rfl ?_; intro K1 hK1; simp only [go_sem, List.set_cons_zero, List.set_cons_succ, C.pl, C.one, List.all_cons, List.all_nil, Bool.and_true, List.take_succ_cons, List.take_zero, List.drop_zero]; (first | refine hK1 _ ?_ | refine andk (hK1 _ ?_)); clear hK1 K1) | ((first | refine lst_nil ?_ | refine aw_skip ?_); refine hK _ ?_; clear hK K)))
        refine aw_le (le_nilt 6 2 ?_) ?_
        · simp only [go_sem]
        refine aw_loop (fun p : Nat × List Ar × Nat => { tm := [(0, .a (.c (.p 0 0))), (4, .a (.c (.p 1 0))), (6, .a (.c (.t 2 (tArcs p.2.1)))), (7, .i p.1)], hp := [.r ⟨51, 2, false, [.t 1 (tInts T), .v (.int .i64 p.2.2)]⟩, .r ⟨32, 5, false, [.v (.int .i64 0), .v (.slice none 0 0), .v (.slice none 0 0), .v (.slice none 0 0), .v (.slice none 0 0)]⟩], n := 62, pin := 1 })
          (fun p => p.2.1.length + p.1 ≤ 3 ∧ p.2.2 + 2 * p.1 ≤ a + 8 ∧ SortA p.2.1 ∧ ∀ x ∈ p.2.1, 2 ≤ x.1 ∧ x.1 ≤ 5 ∧ 2 ≤ x.2 ∧ x.2 ≤ 5) (fun p => p.1) (w0, [], a + 2) ?_ ?_ ?_
        · exact ⟨by simp; omega, by simp only; omega, by simp [SortA], by simp⟩
        · (refine le_tm ?_; simp only [LeTm, go_sem, tArcs, List.flatMap_nil]; try simp)
        · rintro ⟨w, m, a2⟩ ⟨hl, hA, hs, hm⟩ K hK
          simp only at hl hA hs hm ⊢
          (repeat (first | (refine aw_seq ?_; intro K hK) | refine aw_block ?_ | refine aw_region ?_ | (refine lst_x rfl rfl ?_; intro K1 hK1; simp only [go_sem, List.set_cons_zero, List.set_cons_succ, C.pl, C.one, List.all_cons, List.all_nil, Bool.and_true, List.take_succ_cons, List.take_zero, List.drop_zero]; (first | refine hK1 _ ?_ | refine andk (hK1 _ ?_)); clear hK1 K1) | ((first | refine lst_nil ?_ | refine aw_skip ?_); refine hK _ ?_; clear hK K)))
          (refine aw_cnd ?_; intro X Y hX hY; simp only [go_sem])
          refine ⟨fun h => hX ?_, fun h => hY ?_⟩
          · have hw : 0 < w := by simpa using h
            clear hX hY X Y
            (repeat (first | (refine aw_seq ?_; intro K hK) | refine aw_block ?_ | refine aw_region ?_ | (refine lst_x rfl rfl ?_; intro K1 hK1; simp only [go_sem, List.set_cons_zero, List.set_cons_succ, C.pl, C.one, List.all_cons, List.all_nil, Bool.and_true, List.take_succ_cons, List.take_zero, List.drop_zero]; (first | refine hK1 _ ?_ | refine andk (hK1 _ ?_)); clear hK1 K1) | ((first | refine lst_nil ?_ | refine aw_skip ?_); refine hK _ ?_; clear hK K)))
            (refine lst_cons rfl ?_; intro K1 hK1; refine stp_callσ (ids := []) [0] (vis_fc T hT a2 (by omega)) rfl rfl (by simp only [go_sem]) (by first | assumption | kernel_rfl) rfl rfl (by (simp only [List.map_append, List.append_nil, go_sem]) <;> rfl) (by (simp only [pkh, tape, go_sem]) <;> rfl) ?_ ?_)
            · rintro _ _ ⟨rfl, s, rfl, _⟩ <;> rfl
            rintro _ _ ⟨rfl, x, rfl, hx⟩
            (simp only [aInts, aSets, tape, oLts, aLts, aArcs, List.append_nil, List.nil_append, List.length_map, go_sem]; refine hK1 _ ?_; clear hK1 K1)
            (repeat (first | (refine aw_seq ?_; intro K hK) | refine aw_block ?_ | refine aw_region ?_ | (refine lst_x rfl rfl ?_; intro K1 hK1; simp only [go_sem, List.set_cons_zero, List.set_cons_succ, C.pl, C.one, List.all_cons, List.all_nil, Bool.and_true, List.take_succ_cons, List.take_zero, List.drop_zero]; (first | refine hK1 _ ?_ | refine andk (hK1 _ ?_)); clear hK1 K1) | ((first | refine lst_nil ?_ | refine aw_skip ?_); refine hK _ ?_; clear hK K)))
            (refine lst_cons rfl ?_; intro K1 hK1; refine stp_callσ (ids := []) [0] (vis_fc T hT (a2 + 1) (by omega)) rfl rfl (by simp only [go_sem]) (by first | assumption | kernel_rfl) rfl rfl (by (simp only [List.map_append, List.append_nil, go_sem]) <;> rfl) (by (simp only [pkh, tape, go_sem]) <;> rfl) ?_ ?_)
            · rintro _ _ ⟨rfl, s, rfl, _⟩ <;> rfl
            rintro _ _ ⟨rfl, y, rfl, hy⟩
            (simp only [aInts, aSets, tape, oLts, aLts, aArcs, List.append_nil, List.nil_append, List.length_map, go_sem]; refine hK1 _ ?_; clear hK1 K1)
            (repeat (first | (refine aw_seq ?_; intro K hK) | refine aw_block ?_ | refine aw_region ?_ | (refine lst_x rfl rfl ?_; intro K1 hK1; simp only [go_sem, List.set_cons_zero, List.set_cons_succ, C.pl, C.one, List.all_cons, List.all_nil, Bool.and_true, List.take_succ_cons, List.take_zero, List.drop_zero]; (first | refine hK1 _ ?_ | refine andk (hK1 _ ?_)); clear hK1 K1) | ((first | refine lst_nil ?_ | refine aw_skip ?_); refine hK _ ?_; clear hK K)))
            (refine lst_cons rfl ?_; intro K1 hK1; refine stp_callσ (ids := []) [] (insT_fc m (x, y) (by omega)) rfl rfl (by simp only [go_sem]) (by first | assumption | kernel_rfl) rfl rfl (by (simp only [List.map_append, List.append_nil, go_sem]) <;> rfl) (by (simp only [pkh, aArcs, go_sem]) <;> rfl) ?_ ?_)
            · rintro _ _ ⟨rfl, rfl⟩; rfl
            rintro _ _ ⟨rfl, rfl⟩
            (simp only [aInts, aSets, aArcs, List.append_nil, List.nil_append, List.length_map, go_sem]; refine hK1 _ ?_; clear hK1 K1)
            (repeat (first | (refine aw_seq ?_; intro K hK) | refine aw_block ?_ | refine aw_region ?_ | (refine lst_x rfl rfl ?_; intro K1 hK1; simp only [go_sem, List.set_cons_zero, List.set_cons_succ, C.pl, C.one, List.all_cons, List.all_nil, Bool.and_true, List.take_succ_cons, List.take_zero, List.drop_zero]; (first | refine hK1 _ ?_ | refine andk (hK1 _ ?_)); clear hK1 K1) | ((first | refine lst_nil ?_ | refine aw_skip ?_); refine hK _ ?_; clear hK K)))
            ((try refine lst_nil ?_); (try refine aw_skip ?_); try simp only [ThenA])
            have hil := insA_len (x, y) m
            have e1 : ((w : Int) - 1) = ((w - 1 : Nat) : Int) := by omega
            refine hK _ (w - 1, insA (x, y) m, a2 + 2) ⟨by simp only; omega, by simp only; omega, insA_sort hs, fun z hz => ?_⟩ (by simp only; omega) ?_
            · rcases (mem_insA _ _ _).1 hz with rfl | hz
              · exact ⟨hx.1, hx.2, hy.1, hy.2⟩
              · exact hm z hz
            · (refine le_tm ?_; simp only [LeTm, go_sem, e1]; try simp)
          · clear hX hY X Y
            (refine aw_exit ?_; simp only [ThenA, InBl, reduceIte, Nat.reduceEqDiff]; (first | refine hK _ ?_ | (clear hK K; refine hK _ ?_) | (clear hK K; clear hK K; refine hK _ ?_) | (clear hK K; clear hK K; clear hK K; refine hK _ ?_) | (clear hK K; clear hK K; clear hK K; clear hK K; refine hK _ ?_) | (clear hK K; clear hK K; clear hK K; clear hK K; clear hK K; refine hK _ ?_)); clear hK K)
            (repeat (first | (refine aw_seq ?_; intro K hK) | refine aw_block ?_ | refine aw_region ?_ | (refine lst_x rfl rfl ?_; intro K1 hK1; simp only [go_sem, List.set_cons_zero, List.set_cons_succ, C.pl, C.one, List.all_cons, List.all_nil, Bool.and_true, List.take_succ_cons, List.take_zero, List.drop_zero]; (first | refine hK1 _ ?_ | refine andk (hK1 _ ?_)); clear hK1 K1) | ((first | refine lst_nil ?_ | refine aw_skip ?_); refine hK _ ?_; clear hK K)))
            (try refine aw_ret ?_)
            (try simp only [ThenA, InBl])
            refine ret_le (le_nt 1 [1, 1, 2, 2, 1] rfl) ?_
            simp only [ntA, ntC, List.set_cons_zero, List.set_cons_succ]
            refine ret_le (le_pick [0, 1] rfl rfl) ?_
            (try simp only [List.set_nil, List.take_nil, List.take_zero, List.map_append, go_sem])
            ((try refine aw_ret ?_); (try refine lst_nil ?_); (try simp only [ThenA, InBl]); refine ret_mk (by first | exact .inl rfl | exact .inr rfl) rfl ?_; simp only [rtn, resA, resL, resV, Tryz.results10, go_sem, true_and, and_true, C.pl, List.all_cons, List.all_nil, Bool.and_true, List.take_succ_cons, List.take_zero, List.drop_zero])
            exact ⟨_, ⟨2, [], m, [], []⟩, rfl, rfl, by omega, by simp, by simp, vs_nil, ⟨by simp only; omega, hm⟩, hs, order_nil, okSys_0, by simp⟩
      · clear hX hY X Y
        (repeat (first | (refine aw_seq ?_; intro K hK) | refine aw_block ?_ | refine aw_region ?_ | (refine lst_x rfl rfl ?_; intro K1 hK1; simp only [go_sem, List.set_cons_zero, List.set_cons_succ, C.pl, C.one, List.all_cons, List.all_nil, Bool.and_true, List.take_succ_cons, List.take_zero, List.drop_zero]; (first | refine hK1 _ ?_ | refine andk (hK1 _ ?_)); clear hK1 K1) | ((first | refine lst_nil ?_ | refine aw_skip ?_); refine hK _ ?_; clear hK K)))
        (refine aw_cnd ?_; intro X Y hX hY; simp only [go_sem])
        refine ⟨fun h => hX ?_, fun h => hY ?_⟩
        · clear hX hY X Y
          (repeat (first | (refine aw_seq ?_; intro K hK) | refine aw_block ?_ | refine aw_region ?_ | (refine lst_x rfl rfl ?_; intro K1 hK1; simp only [go_sem, List.set_cons_zero, List.set_cons_succ, C.pl, C.one, List.all_cons, List.all_nil, Bool.and_true, List.take_succ_cons, List.take_zero, List.drop_zero]; (first | refine hK1 _ ?_ | refine andk (hK1 _ ?_)); clear hK1 K1) | ((first | refine lst_nil ?_ | refine aw_skip ?_); refine hK _ ?_; clear hK K)))
          (refine lst_cons rfl ?_; intro K1 hK1; refine stp_callσ (ids := []) [0] (set_fc T hT (a + 1) (by omega)) rfl rfl (by simp only [go_sem]) (by first | assumption | kernel_rfl) rfl rfl (by (simp only [List.map_append, List.append_nil, go_sem]) <;> rfl) (by (simp only [pkh, tape, go_sem]) <;> rfl) ?_ ?_)
          · rintro _ _ ⟨rfl, s, rfl, _⟩ <;> rfl
          rintro _ _ ⟨rfl, s, rfl, hs⟩
          (simp only [aInts, aSets, tape, oLts, aLts, aArcs, List.append_nil, List.nil_append, List.length_map, go_sem]; refine hK1 _ ?_; clear hK1 K1)
          (repeat (first | (refine aw_seq ?_; intro K hK) | refine aw_block ?_ | refine aw_region ?_ | (refine lst_x rfl rfl ?_; intro K1 hK1; simp only [go_sem, List.set_cons_zero, List.set_cons_succ, C.pl, C.one, List.all_cons, List.all_nil, Bool.and_true, List.take_succ_cons, List.take_zero, List.drop_zero]; (first | refine hK1 _ ?_ | refine andk (hK1 _ ?_)); clear hK1 K1) | ((first | refine lst_nil ?_ | refine aw_skip ?_); refine hK _ ?_; clear hK K)))
          (refine lst_cons rfl ?_; intro K1 hK1; refine stp_callσ (ids := []) [0] (lts_fc T hT (a + 1 + 4) 3 (by omega) (by omega) (by omega)) rfl rfl (by simp only [go_sem]) (by first | assumption | kernel_rfl) rfl rfl (by (simp only [List.map_append, List.append_nil, go_sem]) <;> rfl) (by (simp only [pkh, tape, go_sem]) <;> rfl) ?_ ?_)
          · rintro _ _ ⟨_, _, rfl, rfl, _⟩ <;> rfl
          rintro _ _ ⟨a3, R, rfl, rfl, hA3, hR1, hR2, hR3⟩
          (simp only [aInts, aSets, tape, oLts, aLts, aArcs, List.append_nil, List.nil_append, List.length_map, go_sem]; refine hK1 _ ?_; clear hK1 K1)
          (repeat (first | (refine aw_seq ?_; intro K hK) | refine aw_block ?_ | refine aw_region ?_ | (refine lst_x rfl rfl ?_; intro K1 hK1; simp only [go_sem, List.set_cons_zero, List.set_cons_succ, C.pl, C.one, List.all_cons, List.all_nil, Bool.and_true, List.take_succ_cons, List.take_zero, List.drop_zero]; (first | refine hK1 _ ?_ | refine andk (hK1 _ ?_)); clear hK1 K1) | ((first | refine lst_nil ?_ | refine aw_skip ?_); refine hK _ ?_; clear hK K)))
          (try refine aw_ret ?_)
          (try simp only [ThenA, InBl])
          refine ret_le (le_nt 1 [1, 1, 2, 2, 1] rfl) ?_
          simp only [ntA, ntC, List.set_cons_zero, List.set_cons_succ]
          refine ret_le (le_pick [0, 1] rfl rfl) ?_
          (try simp only [List.set_nil, List.take_nil, List.take_zero, List.map_append, go_sem])
          ((try refine aw_ret ?_); (try refine lst_nil ?_); (try simp only [ThenA, InBl]); refine ret_mk (by first | exact .inl rfl | exact .inr rfl) rfl ?_; simp only [rtn, resA, resL, resV, Tryz.results10, go_sem, true_and, and_true, C.pl, List.all_cons, List.all_nil, Bool.and_true, List.take_succ_cons, List.take_zero, List.drop_zero])
          exact ⟨_, ⟨3, s, [], [], R⟩, rfl, rfl, by omega, by simp, by simp, hs, by simp, by simp [SortA], order_nil, hR3, by simp only; omega⟩
        · clear hX hY X Y
          (repeat (first | (refine aw_seq ?_; intro K hK) | refine aw_block ?_ | refine aw_region ?_ | (refine lst_x rfl rfl ?_; intro K1 hK1; simp only [go_sem, List.set_cons_zero, List.set_cons_succ, C.pl, C.one, List.all_cons, List.all_nil, Bool.and_true, List.take_succ_cons, List.take_zero, List.drop_zero]; (first | refine hK1 _ ?_ | refine andk (hK1 _ ?_)); clear hK1 K1) | ((first | refine lst_nil ?_ | refine aw_skip ?_); refine hK _ ?_; clear hK K)))
          (refine aw_cnd ?_; intro X Y hX hY; simp only [go_sem])
          refine ⟨fun h => hX ?_, fun h => hY ?_⟩
          · clear hX hY X Y
            (repeat (first | (refine aw_seq ?_; intro K hK) | refine aw_block ?_ | refine aw_region ?_ | (refine lst_x rfl rfl ?_; intro K1 hK1; simp only [go_sem, List.set_cons_zero, List.set_cons_succ, C.pl, C.one, List.all_cons, List.all_nil, Bool.and_true, List.take_succ_cons, List.take_zero, List.drop_zero]; (first | refine hK1 _ ?_ | refine andk (hK1 _ ?_)); clear hK1 K1) | ((first | refine lst_nil ?_ | refine aw_skip ?_); refine hK _ ?_; clear hK K)))
            (refine lst_cons rfl ?_; intro K1 hK1; refine stp_callσ (ids := []) [0] (lts_fc T hT (a + 1) 3 (by omega) (by omega) (by omega)) rfl rfl (by simp only [go_sem]) (by first | assumption | kernel_rfl) rfl rfl (by (simp only [List.map_append, List.append_nil, go_sem]) <;> rfl) (by (simp only [pkh, tape, go_sem]) <;> rfl) ?_ ?_)
            · rintro _ _ ⟨_, _, rfl, rfl, _⟩ <;> rfl
            rintro _ _ ⟨a3, R, rfl, rfl, hA3, hR1, hR2, hR3⟩
            (simp only [aInts, aSets, tape, oLts, aLts, aArcs, List.append_nil, List.nil_append, List.length_map, go_sem]; refine hK1 _ ?_; clear hK1 K1)
            (repeat (first | (refine aw_seq ?_; intro K hK) | refine aw_block ?_ | refine aw_region ?_ | (refine lst_x rfl rfl ?_; intro K1 hK1; simp only [go_sem, List.set_cons_zero, List.set_cons_succ, C.pl, C.one, List.all_cons, List.all_nil, Bool.and_true, List.take_succ_cons, List.take_zero, List.drop_zero]; (first | refine hK1 _ ?_ | refine andk (hK1 _ ?_)); clear hK1 K1) | ((first | refine lst_nil ?_ | refine aw_skip ?_); refine hK _ ?_; clear hK K)))
            (try refine aw_ret ?_)
            (try simp only [ThenA, InBl])
            refine ret_le (le_nt 1 [1, 1, 2, 2, 1] rfl) ?_
            simp only [ntA, ntC, List.set_cons_zero, List.set_cons_succ]
            refine ret_le (le_pick [0, 1] rfl rfl) ?_
            (try simp only [List.set_nil, List.take_nil, List.take_zero, List.map_append, go_sem])
            ((try refine aw_ret ?_); (try refine lst_nil ?_); (try simp only [ThenA, InBl]); refine ret_mk (by first | exact .inl rfl | exact .inr rfl) rfl ?_; simp only [rtn, resA, resL, resV, Tryz.results10, go_sem, true_and, and_true, C.pl, List.all_cons, List.all_nil, Bool.and_true, List.take_succ_cons, List.take_zero, List.drop_zero])
            exact ⟨_, ⟨4, [], [], [], R⟩, rfl, rfl, by omega, by simp, by simp, vs_nil, by simp, by simp [SortA], order_nil, hR3, by simp only; omega⟩
          · clear hX hY X Y
            (repeat (first | (refine aw_seq ?_; intro K hK) | refine aw_block ?_ | refine aw_region ?_ | (refine lst_x rfl rfl ?_; intro K1 hK1; simp only [go_sem, List.set_cons_zero, List.set_cons_succ, C.pl, C.one, List.all_cons, List.all_nil, Bool.and_true, List.take_succ_cons, List.take_zero, List.drop_zero]; (first | refine hK1 _ ?_ | refine andk (hK1 _ ?_)); clear hK1 K1) | ((first | refine lst_nil ?_ | refine aw_skip ?_); refine hK _ ?_; clear hK K)))
            (refine aw_cnd ?_; intro X Y hX hY; simp only [go_sem])
            refine ⟨fun h => hX ?_, fun h => hY ?_⟩
            · clear hX hY X Y
              (repeat (first | (refine aw_seq ?_; intro K hK) | refine aw_block ?_ | refine aw_region ?_ | (refine lst_x rfl rfl ?_; intro K1 hK1; simp only [go_sem, List.set_cons_zero, List.set_cons_succ, C.pl, C.one, List.all_cons, List.all_nil, Bool.and_true, List.take_succ_cons, List.take_zero, List.drop_zero]; (first | refine hK1 _ ?_ | refine andk (hK1 _ ?_)); clear hK1 K1) | ((first | refine lst_nil ?_ | refine aw_skip ?_); refine hK _ ?_; clear hK K)))
              (refine lst_cons rfl ?_; intro K1 hK1; refine stp_callσ (ids := []) [0] (lts_fc T hT (a + 1) 2 (by omega) (by omega) (by omega)) rfl rfl (by simp only [go_sem]) (by first | assumption | kernel_rfl) rfl rfl (by (simp only [List.map_append, List.append_nil, go_sem]) <;> rfl) (by (simp only [pkh, tape, go_sem]) <;> rfl) ?_ ?_)
              · rintro _ _ ⟨_, _, rfl, rfl, _⟩ <;> rfl
              rintro _ _ ⟨a3, R, rfl, rfl, hA3, hR1, hR2, hR3⟩
              (simp only [aInts, aSets, tape, oLts, aLts, aArcs, List.append_nil, List.nil_append, List.length_map, go_sem]; refine hK1 _ ?_; clear hK1 K1)
              (repeat (first | (refine aw_seq ?_; intro K hK) | refine aw_block ?_ | refine aw_region ?_ | (refine lst_x rfl rfl ?_; intro K1 hK1; simp only [go_sem, List.set_cons_zero, List.set_cons_succ, C.pl, C.one, List.all_cons, List.all_nil, Bool.and_true, List.take_succ_cons, List.take_zero, List.drop_zero]; (first | refine hK1 _ ?_ | refine andk (hK1 _ ?_)); clear hK1 K1) | ((first | refine lst_nil ?_ | refine aw_skip ?_); refine hK _ ?_; clear hK K)))
              (try refine aw_ret ?_)
              (try simp only [ThenA, InBl])
              refine ret_le (le_nt 1 [1, 1, 2, 2, 1] rfl) ?_
              simp only [ntA, ntC, List.set_cons_zero, List.set_cons_succ]
              refine ret_le (le_pick [0, 1] rfl rfl) ?_
              (try simp only [List.set_nil, List.take_nil, List.take_zero, List.map_append, go_sem])
              ((try refine aw_ret ?_); (try refine lst_nil ?_); (try simp only [ThenA, InBl]); refine ret_mk (by first | exact .inl rfl | exact .inr rfl) rfl ?_; simp only [rtn, resA, resL, resV, Tryz.results10, go_sem, true_and, and_true, C.pl, List.all_cons, List.all_nil, Bool.and_true, List.take_succ_cons, List.take_zero, List.drop_zero])
              exact ⟨_, ⟨5, [], [], [], R⟩, rfl, rfl, by omega, by simp, by simp, vs_nil, by simp, by simp [SortA], order_nil, hR3, by simp only; omega⟩
            · clear hX hY X Y
              (repeat (first | (refine aw_seq ?_; intro K hK) | refine aw_block ?_ | refine aw_region ?_ | (refine lst_x rfl rfl ?_; intro K1 hK1; simp only [go_sem, List.set_cons_zero, List.set_cons_succ, C.pl, C.one, List.all_cons, List.all_nil, Bool.and_true, List.take_succ_cons, List.take_zero, List.drop_zero]; (first | refine hK1 _ ?_ | refine andk (hK1 _ ?_)); clear hK1 K1) | ((first | refine lst_nil ?_ | refine aw_skip ?_); refine hK _ ?_; clear hK K)))
              (refine aw_cnd ?_; intro X Y hX hY; simp only [go_sem])
              refine ⟨fun h => hX ?_, fun h => hY ?_⟩
              · clear hX hY X Y
                (repeat (first | (refine aw_seq ?_; intro K hK) | refine aw_block ?_ | refine aw_region ?_ | (refine lst_x rfl rfl ?_; intro K1 hK1; simp only [go_sem, List.set_cons_zero, List.set_cons_succ, C.pl, C.one, List.all_cons, List.all_nil, Bool.and_true, List.take_succ_cons, List.take_zero, List.drop_zero]; (first | refine hK1 _ ?_ | refine andk (hK1 _ ?_)); clear hK1 K1) | ((first | refine lst_nil ?_ | refine aw_skip ?_); refine hK _ ?_; clear hK K)))
                (refine lst_cons rfl ?_; intro K1 hK1; refine stp_callσ (ids := []) [0] (lts_fc T hT (a + 1) 3 (by omega) (by omega) (by omega)) rfl rfl (by simp only [go_sem]) (by first | assumption | kernel_rfl) rfl rfl (by (simp only [List.map_append, List.append_nil, go_sem]) <;> rfl) (by (simp only [pkh, tape, go_sem]) <;> rfl) ?_ ?_)
                · rintro _ _ ⟨_, _, rfl, rfl, _⟩ <;> rfl
                rintro _ _ ⟨a3, R, rfl, rfl, hA3, hR1, hR2, hR3⟩
                (simp only [aInts, aSets, tape, oLts, aLts, aArcs, List.append_nil, List.nil_append, List.length_map, go_sem]; refine hK1 _ ?_; clear hK1 K1)
                (repeat (first | (refine aw_seq ?_; intro K hK) | refine aw_block ?_ | refine aw_region ?_ | (refine lst_x rfl rfl ?_; intro K1 hK1; simp only [go_sem, List.set_cons_zero, List.set_cons_succ, C.pl, C.one, List.all_cons, List.all_nil, Bool.and_true, List.take_succ_cons, List.take_zero, List.drop_zero]; (first | refine hK1 _ ?_ | refine andk (hK1 _ ?_)); clear hK1 K1) | ((first | refine lst_nil ?_ | refine aw_skip ?_); refine hK _ ?_; clear hK K)))
                (try refine aw_ret ?_)
                (try simp only [ThenA, InBl])
                refine ret_le (le_nt 1 [1, 1, 2, 2, 1] rfl) ?_
                simp only [ntA, ntC, List.set_cons_zero, List.set_cons_succ]
                refine ret_le (le_pick [0, 1] rfl rfl) ?_
                (try simp only [List.set_nil, List.take_nil, List.take_zero, List.map_append, go_sem])
                ((try refine aw_ret ?_); (try refine lst_nil ?_); (try simp only [ThenA, InBl]); refine ret_mk (by first | exact .inl rfl | exact .inr rfl) rfl ?_; simp only [rtn, resA, resL, resV, Tryz.results10, go_sem, true_and, and_true, C.pl, List.all_cons, List.all_nil, Bool.and_true, List.take_succ_cons, List.take_zero, List.drop_zero])
                exact ⟨_, ⟨6, [], [], [], R⟩, rfl, rfl, by omega, by simp, by simp, vs_nil, by simp, by simp [SortA], order_nil, hR3, by simp only; omega⟩
              · clear hX hY X Y
                (repeat (first | (refine aw_seq ?_; intro K hK) | refine aw_block ?_ | refine aw_region ?_ | (refine lst_x rfl rfl ?_; intro K1 hK1; simp only [go_sem, List.set_cons_zero, List.set_cons_succ, C.pl, C.one, List.all_cons, List.all_nil, Bool.and_true, List.take_succ_cons, List.take_zero, List.drop_zero]; (first | refine hK1 _ ?_ | refine andk (hK1 _ ?_)); clear hK1 K1) | ((first | refine lst_nil ?_ | refine aw_skip ?_); refine hK _ ?_; clear hK K)))
                (refine aw_cnd ?_; intro X Y hX hY; simp only [go_sem])
                refine ⟨fun h => hX ?_, fun h => hY ?_⟩
                · clear hX hY X Y
                  (repeat (first | (refine aw_seq ?_; intro K hK) | refine aw_block ?_ | refine aw_region ?_ | (refine lst_x rfl rfl ?_; intro K1 hK1; simp only [go_sem, List.set_cons_zero, List.set_cons_succ, C.pl, C.one, List.all_cons, List.all_nil, Bool.and_true, List.take_succ_cons, List.take_zero, List.drop_zero]; (first | refine hK1 _ ?_ | refine andk (hK1 _ ?_)); clear hK1 K1) | ((first | refine lst_nil ?_ | refine aw_skip ?_); refine hK _ ?_; clear hK K)))
                  (refine lst_cons rfl ?_; intro K1 hK1; refine stp_callσ (ids := []) [0] (order_fc T hT (a + 1) (by omega)) rfl rfl (by simp only [go_sem]) (by first | assumption | kernel_rfl) rfl rfl (by (simp only [List.map_append, List.append_nil, go_sem]) <;> rfl) (by (simp only [pkh, tape, go_sem]) <;> rfl) ?_ ?_)
                  · rintro _ _ ⟨rfl, _, _, rfl⟩ <;> rfl
                  rintro _ _ ⟨rfl, L, hL, rfl⟩
                  (simp only [aInts, aSets, tape, oLts, aLts, aArcs, List.append_nil, List.nil_append, List.length_map, go_sem]; refine hK1 _ ?_; clear hK1 K1)
                  (repeat (first | (refine aw_seq ?_; intro K hK) | refine aw_block ?_ | refine aw_region ?_ | (refine lst_x rfl rfl ?_; intro K1 hK1; simp only [go_sem, List.set_cons_zero, List.set_cons_succ, C.pl, C.one, List.all_cons, List.all_nil, Bool.and_true, List.take_succ_cons, List.take_zero, List.drop_zero]; (first | refine hK1 _ ?_ | refine andk (hK1 _ ?_)); clear hK1 K1) | ((first | refine lst_nil ?_ | refine aw_skip ?_); refine hK _ ?_; clear hK K)))
                  (try refine aw_ret ?_)
                  (try simp only [ThenA, InBl])
                  refine ret_le (le_nt 1 [1, 1, 2, 2, 1] rfl) ?_
                  simp only [ntA, ntC, List.set_cons_zero, List.set_cons_succ]
                  refine ret_le (le_pick [0, 1] rfl rfl) ?_
                  (try simp only [List.set_nil, List.take_nil, List.take_zero, List.map_append, go_sem])
                  ((try refine aw_ret ?_); (try refine lst_nil ?_); (try simp only [ThenA, InBl]); refine ret_mk (by first | exact .inl rfl | exact .inr rfl) rfl ?_; simp only [rtn, resA, resL, resV, Tryz.results10, go_sem, true_and, and_true, C.pl, List.all_cons, List.all_nil, Bool.and_true, List.take_succ_cons, List.take_zero, List.drop_zero])
                  exact ⟨_, ⟨7, [], [], L, []⟩, rfl, rfl, by omega, by simp, by simp, vs_nil, by simp, by simp [SortA], hL, okSys_0, by simp⟩
                · clear hX hY X Y
                  (repeat (first | (refine aw_seq ?_; intro K hK) | refine aw_block ?_ | refine aw_region ?_ | (refine lst_x rfl rfl ?_; intro K1 hK1; simp only [go_sem, List.set_cons_zero, List.set_cons_succ, C.pl, C.one, List.all_cons, List.all_nil, Bool.and_true, List.take_succ_cons, List.take_zero, List.drop_zero]; (first | refine hK1 _ ?_ | refine andk (hK1 _ ?_)); clear hK1 K1) | ((first | refine lst_nil ?_ | refine aw_skip ?_); refine hK _ ?_; clear hK K)))
                  (try refine aw_ret ?_)
                  (try simp only [ThenA, InBl])
                  refine ret_le (le_nt 1 [1, 1, 2, 2, 1] rfl) ?_
                  simp only [ntA, ntC, List.set_cons_zero, List.set_cons_succ]
                  refine ret_le (le_pick [0, 1] rfl rfl) ?_
                  (try simp only [List.set_nil, List.take_nil, List.take_zero, List.map_append, go_sem])
                  ((try refine aw_ret ?_); (try refine lst_nil ?_); (try simp only [ThenA, InBl]); refine ret_mk (by first | exact .inl rfl | exact .inr rfl) rfl ?_; simp only [rtn, resA, resL, resV, Tryz.results10, go_sem, true_and, and_true, C.pl, List.all_cons, List.all_nil, Bool.and_true, List.take_succ_cons, List.take_zero, List.drop_zero])
                  exact ⟨_, ⟨8, [], [], [], []⟩, rfl, rfl, by omega, by simp, by simp, vs_nil, by simp, by simp [SortA], order_nil, okSys_0, by simp⟩
end Go.Proofs.YthlckclbjknldaaGreat
