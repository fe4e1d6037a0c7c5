/- The law DiamondTauLoops. -/
import Derived.Test.YthlckclbjknldaaGreatG50
import Derived.Test.YthlckclbjknldaaGreatG48
import Derived.Test.YthlckclbjknldaaGreatG38
import Derived.Test.YthlckclbjknldaaGreatSan
namespace Go.Proofs.YthlckclbjknldaaGreat
set_option linter.unusedVariables false
set_option linter.unusedSimpArgs false
open Go.RowKit
set_option maxRecDepth 100000
attribute [local go_sem] List.set_cons_zero List.set_cons_succ List.map_cons List.map_nil List.take_succ_cons List.take_zero List.drop_zero List.drop_succ_cons C.pl C.one List.all_cons List.all_nil Bool.and_true Nat.mul_one Int.toNat_natCast

theorem rowGo_len (r : List Ar) : ∀ (num old : List Int) (nxt : List Ar), (rowGo r num old nxt).2.2.length ≤ nxt.length + r.length := by
 induction r with
 | nil => intro num old nxt; simp [rowGo]
 | cons a tl ih =>
  intro num old nxt
  have h1 := ih (numOne num old a.2).1 (numOne num old a.2).2 (insA (a.1, (numOne num old a.2).1.getD a.2.toNat 0) nxt)
  have h2 := insA_len (a.1, (numOne num old a.2).1.getD a.2.toNat 0) nxt
  simp only [rowGo, List.length_cons]
  omega
theorem canGo_bd {R : List (List Ar)} {B : Nat} (hb : ∀ r ∈ R, ∀ a ∈ r, 0 ≤ a.2 ∧ a.2 < (R.length : Int)) (hB : ∀ r ∈ R, r.length ≤ B) : ∀ (f i : Nat) (num old : List Int) (out : List (List Ar)), NumOk R.length num old → i = out.length → i ≤ old.length → (∀ x ∈ out, x.length ≤ B) → (canGo R f i num old out).1.length ≤ R.length ∧ ∀ x ∈ (canGo R f i num old out).1, x.length ≤ B := by
 intro f
 induction f with
 | zero =>
  intro i num old out hN hi ho hx
  have := hN.le
  exact ⟨by simp only [canGo]; omega, hx⟩
 | succ f ih =>
  intro i num old out hN hi ho hx
  have hle := hN.le
  unfold canGo
  split
  ·exact ⟨by simp only; omega, hx⟩
  ·rename_i s hs
   have hs0 := hN.st s (List.mem_of_getElem? hs)
   have hsl : s.toNat < R.length := by omega
   have hg : R.getD s.toNat [] = R[s.toNat] := by rw [List.getD_eq_getElem?_getD, List.getElem?_eq_getElem hsl]; rfl
   rw [hg]
   have hil := (List.getElem?_eq_some_iff.1 hs).1
   have hrm := List.getElem_mem hsl
   generalize R[s.toNat] = r at *
   have hq : ∀ a ∈ rowOf r, 0 ≤ a.2 ∧ a.2 < (R.length : Int) := fun a ha => hb r hrm a ((mem_rowOf r a).1 ha)
   have hN2 := NumOk.go (rowOf r) [] hN hq
   have hl2 := rowGo_len (rowOf r) num old []
   have hl3 := len_rowOf r
   have hl4 := hB r hrm
   refine ih _ _ _ _ hN2 (by simp; omega) ?_ fun x hx2 => ?_
   ·have : ∀ (q : List Ar) (num old : List Int) (nxt : List Ar), old.length ≤ (rowGo q num old nxt).2.1.length := by
     intro q
     induction q with
     | nil => intro num old nxt; exact Nat.le_refl _
     | cons a tl ih2 =>
      intro num old nxt
      simp only [rowGo]
      refine Nat.le_trans ?_ (ih2 _ _ _)
      unfold numOne
      split <;> simp
    have := this (rowOf r) num old []
    omega
   ·rcases List.mem_append.1 hx2 with h | h
    ·exact hx x h
    ·simp at h; subst h
     simp only [List.length_nil, Nat.zero_add] at hl2
     omega
theorem canonR_bd {R : List (List Ar)} {B : Nat} (h1 : 1 ≤ R.length) (hb : ∀ r ∈ R, ∀ a ∈ r, 0 ≤ a.2 ∧ a.2 < (R.length : Int)) (hB : ∀ r ∈ R, r.length ≤ B) : (canonR R).1.length ≤ R.length ∧ ∀ x ∈ (canonR R).1, x.length ≤ B :=
 canGo_bd hb hB _ _ _ _ _ (NumOk.start h1) rfl (by simp) (by simp)
theorem sameN_fc : FC Tryz.prog 34 [.a (.g [.v (.slice none 0 0)]), .a (.g [.v (.slice none 0 0)])] [] (fun x o => o = [] ∧ x = .b true) := by
 refine fc_intro Tryz.func34 rfl (by rw [Tryz.ntmps34]; simp) ?_
 rw [Tryz.ntmps34]
 simp only [enum]
 have d0 : (((0 : Nat) : Int) != ((0 : Nat) : Int)) = false := by simp
 (repeat (first | (refine aw_seq ?_; intro K hK) | refine aw_block ?_ | refine aw_region ?_ | (refine lst_x rfl rfl ?_; intro K1 hK1; simp only [go_sem, d0]; (first | refine hK1 _ ?_ | refine andk (hK1 _ ?_)); clear hK1 K1) | ((first | refine lst_nil ?_ | refine aw_skip ?_); refine hK _ ?_; clear hK K)))
 (refine aw_cnd ?_; intro X Y hX hY; simp only [go_sem])
 refine hY ?_
 clear hX hY X Y
 (repeat (first | (refine aw_seq ?_; intro K hK) | refine aw_block ?_ | refine aw_region ?_ | (refine lst_x rfl rfl ?_; intro K1 hK1; simp only [go_sem]; (first | refine hK1 _ ?_ | refine andk (hK1 _ ?_)); clear hK1 K1) | ((first | refine lst_nil ?_ | refine aw_skip ?_); refine hK _ ?_; clear hK K)))
 refine aw_loop (fun k : Nat => { tm := [(2, .a (.c (.p 0 0))), (3, .a (.c (.p 1 0))), (5, .i k)], hp := [.r ⟨25, 1, false, [.v (.slice none 0 0)]⟩, .r ⟨25, 1, false, [.v (.slice none 0 0)]⟩], n := 32, pin := 0 }) (fun k => k ≤ 0) (fun k => 0 - k) 0 ?_ ?_ ?_
 ·omega
 ·(refine le_tm ?_; simp only [LeTm, go_sem]; try simp)
 ·rintro k hk K hK
  have hk0 : k = 0 := by omega
  subst hk0
  (repeat (first | (refine aw_seq ?_; intro K hK) | refine aw_block ?_ | refine aw_region ?_ | (refine lst_x rfl rfl ?_; intro K1 hK1; simp only [go_sem]; (first | refine hK1 _ ?_ | refine andk (hK1 _ ?_)); clear hK1 K1) | ((first | refine lst_nil ?_ | refine aw_skip ?_); refine hK _ ?_; clear hK K)))
  (refine aw_cnd ?_; intro X Y hX hY; simp only [go_sem])
  refine ⟨fun h => absurd h (by simp), fun _ => hY ?_⟩
  clear hX hY X Y
  (refine aw_exit ?_; simp only [ThenA, InBl, reduceIte, Nat.reduceEqDiff]; (first | refine hK _ ?_ | (clear hK K; refine hK _ ?_) | (clear hK K; clear hK K; refine hK _ ?_) | (clear hK K; clear hK K; clear hK K; refine hK _ ?_) | (clear hK K; clear hK K; clear hK K; clear hK K; refine hK _ ?_) | (clear hK K; clear hK K; clear hK K; clear hK K; clear hK K; refine hK _ ?_)); clear hK K)
  (repeat (first | (refine aw_seq ?_; intro K hK) | refine aw_block ?_ | refine aw_region ?_ | (refine lst_x rfl rfl ?_; intro K1 hK1; simp only [go_sem]; (first | refine hK1 _ ?_ | refine andk (hK1 _ ?_)); clear hK1 K1) | ((first | refine lst_nil ?_ | refine aw_skip ?_); refine hK _ ?_; clear hK K)))
  ((try refine aw_ret ?_); (try simp only [ThenA, InBl]); refine ret_le (le_pick [] rfl rfl) ?_; (try simp only [List.set_nil, List.take_nil, List.take_zero, List.map_append, go_sem]); ((try refine aw_ret ?_); (try refine lst_nil ?_); (try simp only [ThenA, InBl]); refine ret_mk (by first | exact .inl rfl | exact .inr rfl) rfl ?_; simp only [rtn, resA, resL, resV, Tryz.results34, go_sem, true_and, and_true]))
set_option maxHeartbeats 2000000 in
theorem factors_fc (R : List (List Ar)) (hn : R.length ≤ 1000000) (hr : ∀ r ∈ R, r.length ≤ 1000000) : FC Tryz.prog 22 [aLts R] [] (fun r o => o = [] ∧ r = .b true) := by
 refine fc_intro Tryz.func22 rfl (by rw [Tryz.ntmps22]; simp) ?_
 rw [Tryz.ntmps22]
 simp only [enum, aLts]
 cases hv : valB R with
 | true =>
  have hlo : looB R = true := decide_eq_true (of_decide_eq_true hv).1
  have h1 : 1 ≤ R.length := (of_decide_eq_true hlo).1
  have hbd := (of_decide_eq_true hlo).2.2.2
  (repeat (first | (refine aw_seq ?_; intro K hK) | refine aw_block ?_ | refine aw_region ?_ | (refine lst_x rfl rfl ?_; intro K1 hK1; simp only [go_sem]; (first | refine hK1 _ ?_ | refine andk (hK1 _ ?_)); clear hK1 K1) | ((first | refine lst_nil ?_ | refine aw_skip ?_); refine hK _ ?_; clear hK K)))
  (refine lst_cons rfl ?_; intro K1 hK1; refine (stp_call0 (ids := []) (tauL_fc R hv h1 hn hr) rfl rfl (by simp only [go_sem]) (by kernel_rfl) (by (simp only [List.append_nil, go_sem]) <;> rfl) ?_).stp)
  rintro _ _ ⟨D, hD, hLD, q, hq, rfl, rfl⟩
  (simp only [aInts, aSets, List.append_nil, List.nil_append, List.length_map, go_sem]; refine hK1 _ ?_; clear hK1 K1)
  (repeat (first | (refine aw_seq ?_; intro K hK) | refine aw_block ?_ | refine aw_region ?_ | (refine lst_x rfl rfl ?_; intro K1 hK1; simp only [go_sem, ST.put, setC, A0.cells]; (first | refine hK1 _ ?_ | refine andk (hK1 _ ?_)); clear hK1 K1) | ((first | refine lst_nil ?_ | refine aw_skip ?_); refine hK _ ?_; clear hK K)))
  (refine lst_cons rfl ?_; intro K1 hK1; refine (stp_call0 (ids := []) (rtauL_fc R hv h1 hn hr) rfl rfl (by simp only [go_sem]) (by kernel_rfl) (by (simp only [List.append_nil, go_sem]) <;> rfl) ?_).stp)
  rintro _ _ ⟨D2, hD2, hLD2, q2, hq2, rfl, rfl⟩
  rw [adj_eq true hv] at hLD2
  have hDD := least_rows hD2 hD hLD2 hLD
  rw [hDD, canon_ti, ← hq] at hq2
  rw [hq2]
  have hrep := least_rep (adj_lt true hlo) hD hLD
  have hfm : ∀ v, v < R.length → clsN D v < (ixS D R.length).2 := fun v hv => by obtain ⟨_, _, _, h, _⟩ := cls_ok hD hrep hv; exact h
  have hTl := tlOut_len (clsN D) (ixS D R.length).2 R R.length
  have hTt := tlOut_tot hfm R.length (Nat.le_refl _)
  rw [List.take_length] at hTt
  have hTP := tlOut_P (f := clsN D) (m := (ixS D R.length).2) (R := R) (fun r hr0 a ha => by
   have h := hbd r hr0 a ha
   exact ⟨h.1, h.2.1, hfm _ (by omega)⟩) R.length (Nat.le_refl _)
  have hmle := ixS_le D R.length
  have htA : totA R ≤ 262144 := (of_decide_eq_true hlo).2.2.1
  have hb := canonR_bd (R := tlOut (clsN D) (ixS D R.length).2 R R.length) (B := 1000000) (by rw [hTl]; have := hfm 0 (by omega); omega) (fun r hr0 a ha => by rw [hTl]; have := hTP r hr0 a ha; exact ⟨this.2.2.1, this.2.2.2⟩) (fun r hr0 => by
   obtain ⟨j, hj, rfl⟩ := List.getElem_of_mem hr0
   have h := totA_row (tlOut (clsN D) (ixS D R.length).2 R R.length) j
   rw [List.getD_eq_getElem?_getD, List.getElem?_eq_getElem hj, Option.getD_some] at h
   omega)
  rw [← hq, hTl] at hb
  (simp only [aInts, aSets, List.append_nil, List.nil_append, List.length_map, go_sem]; refine hK1 _ ?_; clear hK1 K1)
  (repeat (first | (refine aw_seq ?_; intro K hK) | refine aw_block ?_ | refine aw_region ?_ | (refine lst_x rfl rfl ?_; intro K1 hK1; simp only [go_sem, ST.put, setC, A0.cells]; (first | refine hK1 _ ?_ | refine andk (hK1 _ ?_)); clear hK1 K1) | ((first | refine lst_nil ?_ | refine aw_skip ?_); refine hK _ ?_; clear hK K)))
  (refine lst_goU rfl rfl (by simp only [go_sem] <;> rfl) ?_; intro K1 hK1; refine (stp_call0 (ids := []) (same_fc q.1 (by omega) hb.2) rfl rfl (by simp only [go_sem]) (by kernel_rfl) (by (simp only [List.append_nil, go_sem]) <;> rfl) ?_).stp)
  rintro _ _ ⟨rfl, rfl⟩
  (simp only [aInts, aSets, List.append_nil, List.nil_append, List.length_map, go_sem]; refine hK1 _ ?_; clear hK1 K1)
  (repeat (first | (refine aw_seq ?_; intro K hK) | refine aw_block ?_ | refine aw_region ?_ | (refine lst_x rfl rfl ?_; intro K1 hK1; simp only [go_sem]; (first | refine hK1 _ ?_ | refine andk (hK1 _ ?_)); clear hK1 K1) | ((first | refine lst_nil ?_ | refine aw_skip ?_); refine hK _ ?_; clear hK K)))
  ((try refine aw_ret ?_); (try simp only [ThenA, InBl]); refine ret_le (le_pick [] rfl rfl) ?_; (try simp only [List.set_nil, List.take_nil, List.take_zero, List.map_append, go_sem]); ((try refine aw_ret ?_); (try refine lst_nil ?_); (try simp only [ThenA, InBl]); refine ret_mk (by first | exact .inl rfl | exact .inr rfl) rfl ?_; simp only [rtn, resA, resL, resV, Tryz.results22, go_sem, true_and, and_true]))
 | false =>
  (repeat (first | (refine aw_seq ?_; intro K hK) | refine aw_block ?_ | refine aw_region ?_ | (refine lst_x rfl rfl ?_; intro K1 hK1; simp only [go_sem]; (first | refine hK1 _ ?_ | refine andk (hK1 _ ?_)); clear hK1 K1) | ((first | refine lst_nil ?_ | refine aw_skip ?_); refine hK _ ?_; clear hK K)))
  (refine lst_cons rfl ?_; intro K1 hK1; refine (stp_call0 (ids := []) (tauL_no R hv (by omega) (fun r h => by have := hr r h; omega)) rfl rfl (by simp only [go_sem]) (by kernel_rfl) (by (simp only [List.append_nil, go_sem]) <;> rfl) ?_).stp)
  rintro _ _ ⟨rfl, rfl⟩
  (simp only [aInts, aSets, List.append_nil, List.nil_append, List.length_map, go_sem]; refine hK1 _ ?_; clear hK1 K1)
  (repeat (first | (refine aw_seq ?_; intro K hK) | refine aw_block ?_ | refine aw_region ?_ | (refine lst_x rfl rfl ?_; intro K1 hK1; simp only [go_sem, ST.put, setC, A0.cells]; (first | refine hK1 _ ?_ | refine andk (hK1 _ ?_)); clear hK1 K1) | ((first | refine lst_nil ?_ | refine aw_skip ?_); refine hK _ ?_; clear hK K)))
  (refine lst_cons rfl ?_; intro K1 hK1; refine (stp_call0 (ids := []) (rtauL_no R hv (by omega) (fun r h => by have := hr r h; omega)) rfl rfl (by simp only [go_sem]) (by kernel_rfl) (by (simp only [List.append_nil, go_sem]) <;> rfl) ?_).stp)
  rintro _ _ ⟨rfl, rfl⟩
  (simp only [aInts, aSets, List.append_nil, List.nil_append, List.length_map, go_sem]; refine hK1 _ ?_; clear hK1 K1)
  (repeat (first | (refine aw_seq ?_; intro K hK) | refine aw_block ?_ | refine aw_region ?_ | (refine lst_x rfl rfl ?_; intro K1 hK1; simp only [go_sem, ST.put, setC, A0.cells]; (first | refine hK1 _ ?_ | refine andk (hK1 _ ?_)); clear hK1 K1) | ((first | refine lst_nil ?_ | refine aw_skip ?_); refine hK _ ?_; clear hK K)))
  (refine lst_goU rfl rfl (by simp only [go_sem] <;> rfl) ?_; intro K1 hK1; refine (stp_call0 (ids := []) (sameN_fc) rfl rfl (by simp only [go_sem]) (by kernel_rfl) (by (simp only [List.append_nil, go_sem]) <;> rfl) ?_).stp)
  rintro _ _ ⟨rfl, rfl⟩
  (simp only [aInts, aSets, List.append_nil, List.nil_append, List.length_map, go_sem]; refine hK1 _ ?_; clear hK1 K1)
  (repeat (first | (refine aw_seq ?_; intro K hK) | refine aw_block ?_ | refine aw_region ?_ | (refine lst_x rfl rfl ?_; intro K1 hK1; simp only [go_sem]; (first | refine hK1 _ ?_ | refine andk (hK1 _ ?_)); clear hK1 K1) | ((first | refine lst_nil ?_ | refine aw_skip ?_); refine hK _ ?_; clear hK K)))
  ((try refine aw_ret ?_); (try simp only [ThenA, InBl]); refine ret_le (le_pick [] rfl rfl) ?_; (try simp only [List.set_nil, List.take_nil, List.take_zero, List.map_append, go_sem]); ((try refine aw_ret ?_); (try refine lst_nil ?_); (try simp only [ThenA, InBl]); refine ret_mk (by first | exact .inl rfl | exact .inr rfl) rfl ?_; simp only [rtn, resA, resL, resV, Tryz.results22, go_sem, true_and, and_true]))
theorem chain8_fc (T : List Int) (hT : TpOk T) (a0 : Nat) (ha : a0 ≤ 500000) :
  FC Tryz.prog 9 [.a (.c (.p 0 0)), .i 8] [tape T a0] (fun r o => ∃ (a' : Nat) (R : List (List Ar)), (o = [tape T a', oLts R] ∧ r = aLts R) ∧ a' ≤ a0 + 65 ∧ 1 ≤ R.length ∧ R.length ≤ 20 ∧ ∀ q ∈ R, q.length ≤ 1000) :=
 (chain_fc T hT a0 8 ha (by omega) (by omega)).mono fun r o ⟨a', R, h0, h1, h2, h3, h4, h5⟩ => ⟨a', R, ⟨h0, h1⟩, by omega, h3, by omega, fun q hq => by have := (h5.2 q hq).2.1; omega⟩
theorem calm6_fc (T : List Int) (hT : TpOk T) (a0 : Nat) (ha : a0 ≤ 500000) :
  FC Tryz.prog 23 [.a (.c (.p 0 0)), .i 6] [tape T a0] (fun r o => ∃ (a' : Nat) (R : List (List Ar)), (o = [tape T a', oLts R] ∧ r = aLts R) ∧ a' ≤ a0 + 49 ∧ 1 ≤ R.length ∧ R.length ≤ 20 ∧ ∀ q ∈ R, q.length ≤ 1000) :=
 (calm_fc T hT a0 6 ha (by omega) (by omega)).mono fun r o ⟨a', R, h1, h2, h3, h4, h5⟩ => ⟨a', R, h1, by omega, h3, by omega, fun q hq => by have := (h5.2 q hq).2.1; omega⟩
set_option maxHeartbeats 2000000 in
theorem lawTau_fc (T : List Int) (hT : TpOk T) (R0 : List (List Ar)) (hn0 : R0.length ≤ 140737488355328) (hr0 : ∀ r ∈ R0, r.length ≤ 140737488355328) : FC Tryz.prog 6 [aInts T, aLts R0] [] (fun r _ => r = .b true) := by
 refine fc_intro Tryz.func6 rfl (by rw [Tryz.ntmps6]; simp) ?_
 rw [Tryz.ntmps6]
 simp only [enum, aInts, aLts]
 (repeat (first | (refine aw_seq ?_; intro K hK) | refine aw_block ?_ | refine aw_region ?_ | (refine lst_x rfl rfl ?_; intro K1 hK1; simp only [go_sem]; (first | refine hK1 _ ?_ | refine andk (hK1 _ ?_)); clear hK1 K1) | ((first | refine lst_nil ?_ | refine aw_skip ?_); refine hK _ ?_; clear hK K)))
 (refine lst_cons rfl ?_; intro K1 hK1; refine (stp_call0 (ids := []) (new_fc T) rfl rfl (by simp only [go_sem]) (by kernel_rfl) (by (simp only [List.append_nil, go_sem]) <;> rfl) ?_).stp)
 rintro _ _ ⟨rfl, rfl⟩
 (simp only [aInts, aSets, tape, List.append_nil, List.nil_append, List.length_map, go_sem]; refine hK1 _ ?_; clear hK1 K1)
 (repeat (first | (refine aw_seq ?_; intro K hK) | refine aw_block ?_ | refine aw_region ?_ | (refine lst_x rfl rfl ?_; intro K1 hK1; simp only [go_sem]; (first | refine hK1 _ ?_ | refine andk (hK1 _ ?_)); clear hK1 K1) | ((first | refine lst_nil ?_ | refine aw_skip ?_); refine hK _ ?_; clear hK K)))
 refine aw_loop (fun p : Nat × Nat => { tm := [(3, .a (.c (.p 0 0))), (5, .a (.c (.p 1 0))), (6, .i p.1)], hp := [.r ⟨25, 1, false, [.t 1 (tRows R0)]⟩, .r ⟨51, 2, false, [.t 1 (tInts T), .v (.int .i64 p.2)]⟩], n := 41, pin := 0 }) (fun p => p.1 ≤ 5 ∧ p.2 ≤ 200 * p.1) (fun p => 5 - p.1) (0, 0) ?_ ?_ ?_
 ·exact ⟨by simp, by simp⟩
 ·(refine le_tm ?_; simp only [LeTm, go_sem]; try simp)
 ·rintro ⟨k, a⟩ ⟨hk, ha⟩ K hK
  simp only at hk ha ⊢
  (repeat (first | (refine aw_seq ?_; intro K hK) | refine aw_block ?_ | refine aw_region ?_ | (refine lst_x rfl rfl ?_; intro K1 hK1; simp only [go_sem]; (first | refine hK1 _ ?_ | refine andk (hK1 _ ?_)); clear hK1 K1) | ((first | refine lst_nil ?_ | refine aw_skip ?_); refine hK _ ?_; clear hK K)))
  (refine aw_cnd ?_; intro X Y hX hY; simp only [go_sem])
  refine ⟨fun h => hX ?_, fun h => hY ?_⟩
  ·have hlt : k < 5 := by simp at h; omega
   clear hX hY X Y h
   (repeat (first | (refine aw_seq ?_; intro K hK) | refine aw_block ?_ | refine aw_region ?_ | (refine lst_x rfl rfl ?_; intro K1 hK1; simp only [go_sem]; (first | refine hK1 _ ?_ | refine andk (hK1 _ ?_)); clear hK1 K1) | ((first | refine lst_nil ?_ | refine aw_skip ?_); refine hK _ ?_; clear hK K)))
   (refine lst_cons rfl ?_; intro K1 hK1; refine stp_callσ (ids := []) [1] (chain8_fc T hT a (by omega)) rfl rfl (by simp only [go_sem]) (by first | assumption | kernel_rfl) rfl rfl (by (simp only [List.map_append, List.append_nil, go_sem]) <;> rfl) (by (simp only [pkh, tape, go_sem]) <;> rfl) ?_ ?_)
   ·rintro _ _ ⟨_, _, ⟨rfl, rfl⟩, _⟩; rfl
   rintro _ _ ⟨a1, X, ⟨rfl, rfl⟩, ha1, hX1, hXn, hXr⟩
   (simp only [aInts, aSets, tape, oLts, aLts, List.append_nil, List.nil_append, List.length_map, go_sem]; refine hK1 _ ?_; clear hK1 K1)
   (repeat (first | (refine aw_seq ?_; intro K hK) | refine aw_block ?_ | refine aw_region ?_ | (refine lst_x rfl rfl ?_; intro K1 hK1; simp only [go_sem, ST.put, setC, A0.cells]; (first | refine hK1 _ ?_ | refine andk (hK1 _ ?_)); clear hK1 K1) | ((first | refine lst_nil ?_ | refine aw_skip ?_); refine hK _ ?_; clear hK K)))
   (refine lst_cons rfl ?_; intro K1 hK1; refine (stp_call0 (ids := []) (factors_fc X (by omega) (fun r h => by have := hXr r h; omega)) rfl rfl (by simp only [go_sem]) (by kernel_rfl) (by (simp only [List.append_nil, go_sem]) <;> rfl) ?_).stp)
   rintro _ _ ⟨rfl, rfl⟩
   (simp only [aInts, aSets, List.append_nil, List.nil_append, List.length_map, go_sem]; refine hK1 _ ?_; clear hK1 K1)
   (repeat (first | (refine aw_seq ?_; intro K hK) | refine aw_block ?_ | refine aw_region ?_ | (refine lst_x rfl rfl ?_; intro K1 hK1; simp only [go_sem, Bool.not_true]; (first | refine hK1 _ ?_ | refine andk (hK1 _ ?_)); clear hK1 K1) | ((first | refine lst_nil ?_ | refine aw_skip ?_); refine hK _ ?_; clear hK K)))
   (refine lst_goU rfl rfl (by simp only [go_sem] <;> rfl) ?_; intro K1 hK1; refine stp_callσ (ids := []) [1] (calm6_fc T hT a1 (by omega)) rfl rfl (by simp only [go_sem]) (by first | assumption | kernel_rfl) rfl rfl (by (simp only [List.map_append, List.append_nil, go_sem]) <;> rfl) (by (simp only [pkh, tape, go_sem]) <;> rfl) ?_ ?_)
   ·rintro _ _ ⟨_, _, ⟨rfl, rfl⟩, _⟩; rfl
   rintro _ _ ⟨a2, Y1, ⟨rfl, rfl⟩, ha2, _, hYn, hYr⟩
   (simp only [aInts, aSets, tape, oLts, aLts, List.append_nil, List.nil_append, List.length_map, go_sem]; refine hK1 _ ?_; clear hK1 K1)
   (refine lst_goU rfl rfl (by simp only [go_sem] <;> rfl) ?_; intro K1 hK1; refine (stp_call0 (ids := []) (factors_fc Y1 (by omega) (fun r h => by have := hYr r h; omega)) rfl rfl (by simp only [go_sem]) (by kernel_rfl) (by (simp only [List.append_nil, go_sem]) <;> rfl) ?_).stp)
   rintro _ _ ⟨rfl, rfl⟩
   (simp only [aInts, aSets, List.append_nil, List.nil_append, List.length_map, go_sem]; refine hK1 _ ?_; clear hK1 K1)
   (repeat (first | (refine aw_seq ?_; intro K hK) | refine aw_block ?_ | refine aw_region ?_ | (refine lst_x rfl rfl ?_; intro K1 hK1; simp only [go_sem, Bool.not_true]; (first | refine hK1 _ ?_ | refine andk (hK1 _ ?_)); clear hK1 K1) | ((first | refine lst_nil ?_ | refine aw_skip ?_); refine hK _ ?_; clear hK K)))
   (refine lst_goU rfl rfl (by simp only [go_sem] <;> rfl) ?_; intro K1 hK1; refine stp_callσ (ids := []) [1] (spoil_fc T hT a2 X (by omega) hX1 hXn hXr) rfl rfl (by simp only [go_sem]) (by first | assumption | kernel_rfl) rfl rfl (by (simp only [List.map_append, List.append_nil, go_sem]) <;> rfl) (by (simp only [pkh, tape, go_sem]) <;> rfl) ?_ ?_)
   ·rintro _ _ ⟨_, _, rfl, rfl, _⟩; rfl
   rintro _ _ ⟨a3, Z, rfl, rfl, ha3, hZn, hZr⟩
   (simp only [aInts, aSets, tape, oLts, aLts, List.append_nil, List.nil_append, List.length_map, go_sem]; refine hK1 _ ?_; clear hK1 K1)
   (refine lst_goU rfl rfl (by simp only [go_sem] <;> rfl) ?_; intro K1 hK1; refine (stp_call0 (ids := []) (factors_fc Z (by omega) (fun r h => by have := hZr r h; omega)) rfl rfl (by simp only [go_sem]) (by kernel_rfl) (by (simp only [List.append_nil, go_sem]) <;> rfl) ?_).stp)
   rintro _ _ ⟨rfl, rfl⟩
   (simp only [aInts, aSets, List.append_nil, List.nil_append, List.length_map, go_sem]; refine hK1 _ ?_; clear hK1 K1)
   (repeat (first | (refine aw_seq ?_; intro K hK) | refine aw_block ?_ | refine aw_region ?_ | (refine lst_x rfl rfl ?_; intro K1 hK1; simp only [go_sem, Bool.not_true]; (first | refine hK1 _ ?_ | refine andk (hK1 _ ?_)); clear hK1 K1) | ((first | refine lst_nil ?_ | refine aw_skip ?_); refine hK _ ?_; clear hK K)))
   (refine aw_cnd ?_; intro X Y hX hY; simp only [go_sem])
   refine hY ?_
   clear hX hY X Y
   (repeat (first | (refine aw_seq ?_; intro K hK) | refine aw_block ?_ | refine aw_region ?_ | (refine lst_x rfl rfl ?_; intro K1 hK1; simp only [go_sem]; (first | refine hK1 _ ?_ | refine andk (hK1 _ ?_)); clear hK1 K1) | ((first | refine lst_nil ?_ | refine aw_skip ?_); refine hK _ ?_; clear hK K)))
   ((try refine lst_nil ?_); (try refine aw_skip ?_); try simp only [ThenA])
   refine hK _ (k + 1, a3) ⟨by simp only; omega, by simp only; omega⟩ (by simp only; omega) ?_
   refine Le.trans (le_pick [0, 1] rfl rfl) ?_
   (try simp only [List.set_nil, List.take_nil, List.take_zero, List.map_append, go_sem])
   (refine le_tm ?_; simp only [LeTm, go_sem]; try simp)
  ·clear hX hY X Y
   (refine aw_exit ?_; simp only [ThenA, InBl, reduceIte, Nat.reduceEqDiff]; (first | refine hK _ ?_ | (clear hK K; refine hK _ ?_) | (clear hK K; clear hK K; refine hK _ ?_) | (clear hK K; clear hK K; clear hK K; refine hK _ ?_) | (clear hK K; clear hK K; clear hK K; clear hK K; refine hK _ ?_) | (clear hK K; clear hK K; clear hK K; clear hK K; clear hK K; refine hK _ ?_)); clear hK K)
   (repeat (first | (refine aw_seq ?_; intro K hK) | refine aw_block ?_ | refine aw_region ?_ | (refine lst_x rfl rfl ?_; intro K1 hK1; simp only [go_sem]; (first | refine hK1 _ ?_ | refine andk (hK1 _ ?_)); clear hK1 K1) | ((first | refine lst_nil ?_ | refine aw_skip ?_); refine hK _ ?_; clear hK K)))
   (refine lst_cons rfl ?_; intro K1 hK1; refine (stp_call0 (ids := []) (huge_fc R0 hn0 hr0) rfl rfl (by simp only [go_sem]) (by kernel_rfl) (by (simp only [List.append_nil, go_sem]) <;> rfl) ?_).stp)
   rintro _ _ ⟨rfl, rfl⟩
   (simp only [aInts, aSets, List.append_nil, List.nil_append, List.length_map, go_sem]; refine hK1 _ ?_; clear hK1 K1)
   cases hb : hugeB R0 with
   | true =>
    (repeat (first | (refine aw_seq ?_; intro K hK) | refine aw_block ?_ | refine aw_region ?_ | (refine lst_x rfl rfl ?_; intro K1 hK1; simp only [go_sem]; (first | refine hK1 _ ?_ | refine andk (hK1 _ ?_)); clear hK1 K1) | ((first | refine lst_nil ?_ | refine aw_skip ?_); refine hK _ ?_; clear hK K)))
    ((try refine aw_ret ?_); (try refine lst_nil ?_); (try simp only [ThenA, InBl]); refine ret_mk (by first | exact .inl rfl | exact .inr rfl) rfl ?_; simp only [rtn, resA, resL, resV, Tryz.results6, go_sem])
   | false =>
    have hb2 : R0.length ≤ 12 ∧ totA R0 ≤ 60 := by
     unfold hugeB at hb
     simp only [Bool.or_eq_false_iff, decide_eq_false_iff_not] at hb
     omega
    have hb3 : ∀ r ∈ R0, r.length ≤ 1000000 := fun r h => by
     obtain ⟨j, hj, rfl⟩ := List.getElem_of_mem h
     have h2 := totA_row R0 j
     rw [List.getD_eq_getElem?_getD, List.getElem?_eq_getElem hj, Option.getD_some] at h2
     omega
    (repeat (first | (refine aw_seq ?_; intro K hK) | refine aw_block ?_ | refine aw_region ?_ | (refine lst_x rfl rfl ?_; intro K1 hK1; simp only [go_sem]; (first | refine hK1 _ ?_ | refine andk (hK1 _ ?_)); clear hK1 K1) | ((first | refine lst_nil ?_ | refine aw_skip ?_); refine hK _ ?_; clear hK K)))
    (refine lst_goU rfl rfl (by simp only [go_sem] <;> rfl) ?_; intro K1 hK1; refine (stp_call0 (ids := []) (factors_fc R0 (by omega) hb3) rfl rfl (by simp only [go_sem]) (by kernel_rfl) (by (simp only [List.append_nil, go_sem]) <;> rfl) ?_).stp)
    rintro _ _ ⟨rfl, rfl⟩
    (simp only [aInts, aSets, List.append_nil, List.nil_append, List.length_map, go_sem]; refine hK1 _ ?_; clear hK1 K1)
    (repeat (first | (refine aw_seq ?_; intro K hK) | refine aw_block ?_ | refine aw_region ?_ | (refine lst_x rfl rfl ?_; intro K1 hK1; simp only [go_sem]; (first | refine hK1 _ ?_ | refine andk (hK1 _ ?_)); clear hK1 K1) | ((first | refine lst_nil ?_ | refine aw_skip ?_); refine hK _ ?_; clear hK K)))
    (refine lst_goU rfl rfl (by simp only [go_sem] <;> rfl) ?_; intro K1 hK1; refine (stp_call0 (ids := []) (sane28_fc) rfl rfl (by simp only [go_sem]) (by kernel_rfl) (by (simp only [List.append_nil, go_sem]) <;> rfl) ?_).stp)
    rintro _ _ rfl
    (simp only [aInts, aSets, List.append_nil, List.nil_append, List.length_map, go_sem]; refine hK1 _ ?_; clear hK1 K1)
    (repeat (first | (refine aw_seq ?_; intro K hK) | refine aw_block ?_ | refine aw_region ?_ | (refine lst_x rfl rfl ?_; intro K1 hK1; simp only [go_sem]; (first | refine hK1 _ ?_ | refine andk (hK1 _ ?_)); clear hK1 K1) | ((first | refine lst_nil ?_ | refine aw_skip ?_); refine hK _ ?_; clear hK K)))
    ((try refine aw_ret ?_); (try refine lst_nil ?_); (try simp only [ThenA, InBl]); refine ret_mk (by first | exact .inl rfl | exact .inr rfl) rfl ?_; simp only [rtn, resA, resL, resV, Tryz.results6, go_sem])
end Go.Proofs.YthlckclbjknldaaGreat
