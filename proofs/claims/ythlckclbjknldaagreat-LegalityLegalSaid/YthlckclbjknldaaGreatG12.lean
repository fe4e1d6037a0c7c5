/- Visible, Event, Set: numbers and sets drawn from the tape. -/
import Derived.Test.YthlckclbjknldaaGreatG01
import Derived.Test.YthlckclbjknldaaGreatMGa
namespace Go.Proofs.YthlckclbjknldaaGreat
set_option linter.unusedVariables false
set_option linter.unusedSimpArgs false
open Go.RowKit
set_option maxRecDepth 100000

theorem asc_snoc {s : List Int} {x : Int} (h : Asc s) (hx : ∀ y ∈ s, y < x) : Asc (s ++ [x]) := by
  unfold Asc at *
  rw [List.pairwise_append]
  exact ⟨h, by simp, fun a ha b hb => by simp at hb; subst hb; exact hx a ha⟩
theorem vis_fc (T : List Int) (hT : TpOk T) (a : Nat) (ha : a ≤ 100000000) : FC Tryz.prog 30 [.a (.c (.p 0 0))] [tape T a] (fun r o => o = [tape T (a + 1)] ∧ ∃ v : Int, r = .i v ∧ 2 ≤ v ∧ v ≤ 5) := by
  refine fc_intro Tryz.func30 rfl (by rw [Tryz.ntmps30]; simp) ?_
  rw [Tryz.ntmps30]
  simp only [enum, tape]
  (repeat (first | (refine aw_seq ?_; intro K hK) | refine aw_block ?_ | refine aw_region ?_ | (refine lst_x rfl rfl ?_; intro K1 hK1; simp only [go_sem]; (first | refine hK1 _ ?_ | refine andk (hK1 _ ?_)); clear hK1 K1) | ((first | refine lst_nil ?_ | refine aw_skip ?_); refine hK _ ?_; clear hK K)))
  (refine lst_cons rfl ?_; intro K1 hK1; refine stp_callσ (ids := []) [0] (next_fc T a 4 hT (by omega) (by omega)) rfl rfl (by simp only [go_sem]) (by first | assumption | kernel_rfl) rfl rfl (by (simp only [List.map_append, List.append_nil, go_sem]) <;> rfl) (by (simp only [pkh, tape, go_sem]) <;> rfl) ?_ ?_)
  · rintro _ _ ⟨rfl, v, rfl, _⟩; rfl
  rintro _ _ ⟨rfl, v, rfl, hv⟩
  (simp only [aInts, aSets, tape, List.append_nil, List.nil_append, List.length_map, go_sem]; refine hK1 _ ?_; clear hK1 K1)
  (repeat (first | (refine aw_seq ?_; intro K hK) | refine aw_block ?_ | refine aw_region ?_ | (refine lst_x rfl rfl ?_; intro K1 hK1; simp only [go_sem]; (first | refine hK1 _ ?_ | refine andk (hK1 _ ?_)); clear hK1 K1) | ((first | refine lst_nil ?_ | refine aw_skip ?_); refine hK _ ?_; clear hK K)))
  ((try refine aw_ret ?_); (try refine lst_nil ?_); (try simp only [ThenA, InBl]); refine ret_mk (by first | exact .inl rfl | exact .inr rfl) rfl ?_; simp only [rtn, resA, resL, resV, Tryz.results30, go_sem])
  exact ⟨_, rfl, by omega, by omega⟩

def evLits : List Int := [0, 0, 2, 3, 4, 2, 3, 1, 2, 5, 1025]
theorem evLits_b : ∀ x ∈ evLits, 0 ≤ x ∧ x ≤ 1025 := by decide
theorem evLits_len : evLits.length = 11 := rfl
theorem evLits_take : evLits.take 11 = evLits := rfl
theorem event_fc (T : List Int) (hT : TpOk T) (a : Nat) (ha : a ≤ 100000000) : FC Tryz.prog 28 [.a (.c (.p 0 0))] [tape T a] (fun r o => o = [tape T (a + 1)] ∧ ∃ v : Int, r = .i v ∧ 0 ≤ v ∧ v ≤ 1025) := by
  refine fc_intro Tryz.func28 rfl (by rw [Tryz.ntmps28]; simp) ?_
  rw [Tryz.ntmps28]
  simp only [enum, tape]
  (repeat (first | (refine aw_seq ?_; intro K hK) | refine aw_block ?_ | refine aw_region ?_ | (refine lst_x rfl rfl ?_; intro K1 hK1; simp only [go_sem, List.set_cons_zero, List.set_cons_succ]; (first | refine hK1 _ ?_ | refine andk (hK1 _ ?_)); clear hK1 K1) | ((first | refine lst_nil ?_ | refine aw_skip ?_); refine hK _ ?_; clear hK K)))
  (refine lst_le (le_frz (r := ⟨3, 1, true, cInts evLits⟩) 1 (tInts evLits) rfl (fz_c _) (show 0 < (1 : Nat) by omega)) ?_; simp only [ST.frz, A0.frz, AV.frz, C.frz, Nat.le_refl, List.set_cons_zero, List.set_cons_succ, go_sem, tInts_len, evLits_len, tInts_take, evLits_take])
  (repeat (first | (refine aw_seq ?_; intro K hK) | refine aw_block ?_ | refine aw_region ?_ | (refine lst_x rfl rfl ?_; intro K1 hK1; simp only [go_sem, tInts_len, evLits_len]; (first | refine hK1 _ ?_ | refine andk (hK1 _ ?_)); clear hK1 K1) | ((first | refine lst_nil ?_ | refine aw_skip ?_); refine hK _ ?_; clear hK K)))
  (refine lst_cons rfl ?_; intro K1 hK1; refine stp_callσ (ids := []) [0] (next_fc T a 11 hT (by omega) (by omega)) rfl rfl (by simp only [go_sem]) (by first | assumption | kernel_rfl) rfl rfl (by (simp only [List.map_append, List.append_nil, go_sem]) <;> rfl) (by (simp only [pkh, tape, go_sem]) <;> rfl) ?_ ?_)
  · rintro _ _ ⟨rfl, v, rfl, _⟩; rfl
  rintro _ _ ⟨rfl, v, rfl, hv⟩
  (simp only [aInts, aSets, tape, List.append_nil, List.nil_append, List.length_map, go_sem]; refine hK1 _ ?_; clear hK1 K1)
  have hv2 : v < evLits.length := by rw [evLits_len]; omega
  (repeat (first | (refine aw_seq ?_; intro K hK) | refine aw_block ?_ | refine aw_region ?_ | (refine lst_x rfl rfl ?_; intro K1 hK1; simp only [go_sem, tInts_len, tInts_get (List.getElem?_eq_getElem hv2)]; (first | refine hK1 _ ?_ | refine andk (hK1 _ ?_)); clear hK1 K1) | ((first | refine lst_nil ?_ | refine aw_skip ?_); refine hK _ ?_; clear hK K)))
  ((try refine aw_ret ?_); (try simp only [ThenA, InBl]); refine ret_le (le_pick [0] rfl rfl) ?_; (try simp only [List.set_nil, List.take_nil, List.take_zero, List.map_append, go_sem]); ((try refine aw_ret ?_); (try refine lst_nil ?_); (try simp only [ThenA, InBl]); refine ret_mk (by first | exact .inl rfl | exact .inr rfl) rfl ?_; simp only [rtn, resA, resL, resV, Tryz.results28, go_sem, true_and, and_true]))
  exact ⟨_, rfl, evLits_b _ (List.getElem_mem hv2)⟩

/-- a set as Set draws it -/
def Vs (s : List Int) : Prop := Asc s ∧ s.length ≤ 4 ∧ ∀ x ∈ s, 2 ≤ x ∧ x ≤ 5
theorem set_fc (T : List Int) (hT : TpOk T) (a : Nat) (ha : a ≤ 10000000) : FC Tryz.prog 29 [.a (.c (.p 0 0))] [tape T a] (fun r o => o = [tape T (a + 4)] ∧ ∃ s, r = aInts s ∧ Vs s) := by
  refine fc_intro Tryz.func29 rfl (by rw [Tryz.ntmps29]; simp) ?_
  rw [Tryz.ntmps29]
  simp only [enum, tape]
  (repeat (first | (refine aw_seq ?_; intro K hK) | refine aw_block ?_ | refine aw_region ?_ | (refine lst_x rfl rfl ?_; intro K1 hK1; simp only [go_sem]; (first | refine hK1 _ ?_ | refine andk (hK1 _ ?_)); clear hK1 K1) | ((first | refine lst_nil ?_ | refine aw_skip ?_); refine hK _ ?_; clear hK K)))
  refine aw_le (le_nil 3 3 1 ?_) ?_
  · simp only [go_sem]
  refine aw_loop (fun p : Nat × List Int => { tm := [(0, .a (.c (.p 0 0))), (3, .a (.c (.s 1 p.2.length))), (4, .i p.1)], hp := [.r ⟨51, 2, false, [.t 1 (tInts T), .v (.int .i64 (a + (p.1 - 2) : Nat))]⟩, .r ⟨3, 1, true, cInts p.2⟩], n := 17, pin := 1 })
    (fun p => 2 ≤ p.1 ∧ p.1 ≤ 6 ∧ p.2.length + 2 ≤ p.1 ∧ Asc p.2 ∧ ∀ x ∈ p.2, 2 ≤ x ∧ x < p.1) (fun p => 6 - p.1) (2, []) ?_ ?_ ?_
  · exact ⟨by simp, by simp, by simp, by simp [Asc], by simp⟩
  · (refine le_tm ?_; simp only [LeTm, go_sem, cInts, List.map_nil]; try simp)
  · rintro ⟨k, s⟩ ⟨hk2, hk6, hl, hs, hb⟩ K hK
    simp only at hk2 hk6 hl hs hb ⊢
    (repeat (first | (refine aw_seq ?_; intro K hK) | refine aw_block ?_ | refine aw_region ?_ | (refine lst_x rfl rfl ?_; intro K1 hK1; simp only [go_sem]; (first | refine hK1 _ ?_ | refine andk (hK1 _ ?_)); clear hK1 K1) | ((first | refine lst_nil ?_ | refine aw_skip ?_); refine hK _ ?_; clear hK K)))
    (refine aw_cnd ?_; intro X Y hX hY; simp only [go_sem])
    refine ⟨fun h => hX ?_, fun h => hY ?_⟩
    · have hk : k < 6 := by simp at h; omega
      clear hX hY X Y
      (repeat (first | (refine aw_seq ?_; intro K hK) | refine aw_block ?_ | refine aw_region ?_ | (refine lst_x rfl rfl ?_; intro K1 hK1; simp only [go_sem]; (first | refine hK1 _ ?_ | refine andk (hK1 _ ?_)); clear hK1 K1) | ((first | refine lst_nil ?_ | refine aw_skip ?_); refine hK _ ?_; clear hK K)))
      (refine lst_cons rfl ?_; intro K1 hK1; refine stp_callσ (ids := []) [0] (next_fc T (a + (k - 2)) 3 hT (by omega) (by omega)) rfl rfl (by simp only [go_sem]) (by first | assumption | kernel_rfl) rfl rfl (by (simp only [List.map_append, List.append_nil, go_sem]) <;> rfl) (by (simp only [pkh, tape, go_sem]) <;> rfl) ?_ ?_)
      · rintro _ _ ⟨rfl, v, rfl, _⟩; rfl
      rintro _ _ ⟨rfl, v, rfl, hv⟩
      (simp only [aInts, aSets, tape, cInts_up, List.append_nil, List.nil_append, List.length_map, go_sem]; refine hK1 _ ?_; clear hK1 K1)
      have e3 : a + (k - 2) + 1 = a + (k + 1 - 2) := by omega
      have e2 : (s ++ [(k : Int)]).length = s.length + 1 := by simp
      have hlc := List.take_of_length_le (Nat.le_of_eq (cInts_len s))
      (repeat (first | (refine aw_seq ?_; intro K hK) | refine aw_block ?_ | refine aw_region ?_ | (refine lst_x rfl rfl ?_; intro K1 hK1; simp only [go_sem]; (first | refine hK1 _ ?_ | refine andk (hK1 _ ?_)); clear hK1 K1) | ((first | refine lst_nil ?_ | refine aw_skip ?_); refine hK _ ?_; clear hK K)))
      (refine aw_cnd ?_; intro X Y hX hY; simp only [go_sem])
      refine ⟨fun h => hX ?_, fun h => hY ?_⟩
      · clear hX hY X Y
        (repeat (first | (refine aw_seq ?_; intro K hK) | refine aw_block ?_ | refine aw_region ?_ | (refine lst_x rfl rfl ?_; intro K1 hK1; simp only [go_sem, List.set_cons_zero, List.set_cons_succ, List.take_succ_cons, List.take_zero, List.drop_zero, List.length_take, List.length_drop, List.length_append, tInts_len, tInts_take, tInts_drop, tInts_c, cInts_len, cInts_one, cInts_snoc, cInts_app, cInts_take, cInts_drop, hlc, List.take_length]; (first | refine hK1 _ ?_ | refine andk (hK1 _ ?_)); clear hK1 K1) | ((first | refine lst_nil ?_ | refine aw_skip ?_); refine hK _ ?_; clear hK K)))
        ((try refine lst_nil ?_); (try refine aw_skip ?_); try simp only [ThenA])
        refine hK _ (k + 1, s ++ [(k : Int)]) ⟨by simp only; omega, by simp only; omega, by simp; omega, ?_, fun x hx => ?_⟩ (by simp only; omega) ?_
        · exact asc_snoc hs fun y hy => (hb y hy).2
        · rcases List.mem_append.1 hx with hx | hx
          · have := hb x hx; simp only; omega
          · simp at hx; simp only; omega
        refine Le.trans (le_pick [0, 3] rfl rfl) ?_
        (try simp only [List.set_nil, List.take_nil, List.take_zero, List.map_append, go_sem])
        try simp only [cInts_ren]
        simp only [e3]
        (refine le_tm ?_; simp only [LeTm, go_sem, e2]; try simp)
      · clear hX hY X Y
        (repeat (first | (refine aw_seq ?_; intro K hK) | refine aw_block ?_ | refine aw_region ?_ | (refine lst_x rfl rfl ?_; intro K1 hK1; simp only [go_sem]; (first | refine hK1 _ ?_ | refine andk (hK1 _ ?_)); clear hK1 K1) | ((first | refine lst_nil ?_ | refine aw_skip ?_); refine hK _ ?_; clear hK K)))
        ((try refine lst_nil ?_); (try refine aw_skip ?_); try simp only [ThenA])
        refine hK _ (k + 1, s) ⟨by simp only; omega, by simp only; omega, by simp only; omega, hs, fun x hx => ?_⟩ (by simp only; omega) ?_
        · have := hb x hx; simp only; omega
        simp only [e3]
        (refine le_tm ?_; simp only [LeTm, go_sem]; try simp)
    · have hk : k = 6 := by simp at h; omega
      clear hX hY X Y
      (refine aw_exit ?_; simp only [ThenA, InBl, reduceIte, Nat.reduceEqDiff]; (first | refine hK _ ?_ | (clear hK K; refine hK _ ?_) | (clear hK K; clear hK K; refine hK _ ?_) | (clear hK K; clear hK K; clear hK K; refine hK _ ?_) | (clear hK K; clear hK K; clear hK K; clear hK K; refine hK _ ?_) | (clear hK K; clear hK K; clear hK K; clear hK K; clear hK K; refine hK _ ?_)); clear hK K)
      (repeat (first | (refine aw_seq ?_; intro K hK) | refine aw_block ?_ | refine aw_region ?_ | (refine lst_x rfl rfl ?_; intro K1 hK1; simp only [go_sem]; (first | refine hK1 _ ?_ | refine andk (hK1 _ ?_)); clear hK1 K1) | ((first | refine lst_nil ?_ | refine aw_skip ?_); refine hK _ ?_; clear hK K)))
      ((try refine aw_ret ?_); (try simp only [ThenA, InBl]); refine ret_le (le_frz (r := ⟨3, 1, true, cInts s⟩) 1 (tInts s) rfl (fz_c _) (show 0 < (1 : Nat) by omega)) ?_; refine ret_le (le_pick [0] rfl rfl) ?_; simp only [ST.frz, A0.frz, AV.frz, C.frz, Nat.le_refl, List.set_cons_zero, List.set_cons_succ, go_sem, tInts_len, tInts_take, List.take_length]; (try simp only [List.set_nil, List.take_nil, List.take_zero, List.map_append, go_sem]); ((try refine aw_ret ?_); (try refine lst_nil ?_); (try simp only [ThenA, InBl]); refine ret_mk (by first | exact .inl rfl | exact .inr rfl) rfl ?_; simp only [rtn, resA, resL, resV, Tryz.results29, go_sem, true_and, and_true, tInts_len, tInts_take, List.take_length]))
      exact ⟨by rw [hk], s, rfl, hs, by omega, fun x hx => by have := hb x hx; omega⟩
end Go.Proofs.YthlckclbjknldaaGreat
