/- A nil slice in a row's cell becomes an empty object. The compares of flow and delay. flow.Canonical. The canonical form of a loose system is valid. -/
import Derived.Test.YthlckclbjknldaaMD
import Derived.Test.YthlckclbjknldaaG11
import Derived.Test.YthlckclbjknldaaG53
import Derived.Test.YthlckclbjknldaaMG
namespace Go.Proofs.Ythlckclbjknldaa
set_option linter.unusedVariables false
set_option linter.unusedSimpArgs false
open Go.RowKit

theorem le_cell {s : ST} (i j id : Nat) {r : Row} {e0 k0 : Nat} (hne : i ≠ id) (hi : s.hp[i]? = some (.r r)) (hj : r.cells[j]? = some (.v (.slice none 0 0))) (hid : s.hp[id]? = some (.r ⟨e0, k0, true, []⟩)) : Le s { s with hp := s.hp.set i (.r { r with cells := r.cells.set j (.s id 0) }) } := by
 rintro M0 w0 a w ⟨g, hpp, hR⟩
 have hlt : i < s.hp.length := (List.getElem?_eq_some_iff.1 hi).1
 have hjl : j < r.cells.length := (List.getElem?_eq_some_iff.1 hj).1
 have self : (s.hp.set i (.r { r with cells := r.cells.set j (.s id 0) }))[i]? = some (.r { r with cells := r.cells.set j (.s id 0) }) := by simp [hlt]
 have other : ∀ q, q ≠ i → (s.hp.set i (.r { r with cells := r.cells.set j (.s id 0) }))[q]? = s.hp[q]? := fun q hq => by rw [List.getElem?_set_ne (Ne.symm hq)]
 have cel : ∀ q c, (r.cells.set j (.s id 0))[q]? = some c → (q = j ∧ c = .s id 0) ∨ (q ≠ j ∧ r.cells[q]? = some c) := by
  intro q c hq
  by_cases e : q = j
  ·subst e; rw [List.getElem?_set_self hjl] at hq; cases hq; exact .inl ⟨rfl, rfl⟩
  ·rw [List.getElem?_set_ne (Ne.symm e)] at hq; exact .inr ⟨e, hq⟩
 generalize hh : s.hp.set i (.r { r with cells := r.cells.set j (.s id 0) }) = hp' at *
 have sub : ∀ ℓ, Lv hp' g ℓ → Lv s.hp g ℓ := by
  intro ℓ hl
  cases ℓ with
  | ob q =>
   by_cases hq : q = i
   ·subst hq
    rcases hl with ⟨r2, e1, e2⟩ | ⟨kv, e1⟩
    ·exact .inl ⟨r, hi, e2⟩
    ·rw [self] at e1; cases e1
   ·rcases hl with ⟨r2, e1, e2⟩ | ⟨kv, e1⟩
    ·exact .inl ⟨r2, by rw [← other q hq]; exact e1, e2⟩
    ·exact .inr ⟨kv, by rw [← other q hq]; exact e1⟩
  | cl q j2 =>
   obtain ⟨r2, k, cs, e1, e2, e3⟩ := hl
   by_cases hq : q = i
   ·subst hq
    rw [self] at e1
    cases e1
    rcases cel j2 _ e2 with ⟨_, h⟩ | ⟨_, h⟩
    ·cases h
    ·exact ⟨r, k, cs, hi, h, e3⟩
   ·exact ⟨r2, k, cs, by rw [← other q hq]; exact e1, e2, e3⟩
 have ow : ∀ b, Ow hp' g b → Ow s.hp g b := fun b ho => ho.imp (fun h => h) (fun ⟨ℓ, hl, e⟩ => ⟨ℓ, sub ℓ hl, e⟩)
 have hm : Mo g s.hp w g hp' w (fun _ => True) := by
  refine ⟨fun q hq => ⟨?_, rfl, rfl⟩, fun b _ ho => ow b ho, Nat.le_refl _, fun _ _ _ => rfl, fun q _ hq r2 j2 k cs e1 e2 => ?_⟩
  ·by_cases e : q = i
   ·subst e; exact ⟨_, self, rfl⟩
   ·obtain ⟨o, h1, h2⟩ := hq
    exact ⟨o, by rw [other q e]; exact h1, h2⟩
  ·by_cases e : q = i
   ·subst e
    rw [self] at e1
    cases e1
    rcases cel j2 _ e2 with ⟨_, h⟩ | ⟨_, h⟩
    ·cases h
    ·exact ⟨r, hi, h, fun _ => rfl⟩
   ·exact ⟨r2, by rw [← other q e]; exact e1, e2, fun _ => rfl⟩
 have hr := hR.hr
 refine ⟨g, ⟨by show s.pin ≤ hp'.length; rw [← hh]; simpa using hpp.1, hpp.2⟩, hR.mo hm ?_ (fun ℓ hl => hR.new ℓ (sub ℓ hl)) hR.fp⟩
 refine ⟨hr.ml, fun ℓ hl => hr.md ℓ (sub ℓ hl), fun ℓ ℓ' h1 h2 => hr.inj ℓ ℓ' (sub ℓ h1) (sub ℓ' h2), fun q r2 e1 => ?_, fun q kv e1 => ?_, hm.gl hr.gl⟩
 ·by_cases e : q = i
  ·subst e
   rw [self] at e1
   cases e1
   rcases hr.row q r hi with ⟨k1, k2⟩ | ⟨k1, k2, arr, k3, k4, k5, k6, k7⟩
   ·rw [k2] at hj; simp at hj
   ·refine .inr ⟨k1, fun h1 h2 => k2 h1 (List.length_eq_zero_iff.1 (by rw [← List.length_set (i := j) (a := C.s id 0)]; exact List.length_eq_zero_iff.2 h2)), arr, k3, by simpa using k4, k5, k6, fun j2 c hj2 => ?_⟩
    rcases cel j2 c hj2 with ⟨rfl, rfl⟩ | ⟨_, h⟩
    ·obtain ⟨u, u1, u2⟩ := k7 j2 _ hj
     have hu : u = .slice none 0 0 := u2
     refine ⟨u, u1, ?_⟩
     have hκ : g.κ id = 0 := by
      rcases hr.row id _ hid with ⟨z, _⟩ | ⟨_, z, _⟩
      ·exact z
      ·exact absurd rfl (z rfl)
     have hid' : hp'[id]? = some (.r ⟨e0, k0, true, []⟩) := by rw [other id (Ne.symm hne)]; exact hid
     exact ⟨⟨_, hid', rfl⟩, Nat.zero_le _, none, by rw [hu, hκ], fun hn => absurd hκ hn, by simp⟩
    ·obtain ⟨u, u1, u2⟩ := k7 j2 c h
     exact ⟨u, u1, CellR.mo hm u2 (fun k cs hc _ => ⟨rfl, rfl⟩)⟩
  ·rw [other q e] at e1
   exact RowR.mo hm e1 (hr.row q r2 e1) (fun _ => rfl) (fun _ _ _ _ _ => ⟨rfl, rfl⟩)
 ·by_cases e : q = i
  ·subst e; rw [self] at e1; cases e1
  ·rw [other q e] at e1
   exact MpR.mo hm e1 (hr.mp q kv e1) rfl
/-- a new empty object -/
theorem le_new {s : ST} (e k : Nat) : Le s { s with hp := s.hp ++ [.r ⟨e, k, true, []⟩] } := by
 rintro M0 w0 a w ⟨g, hpp, hR⟩
 have hb := hR.birth0 (w' := w) (hp' := s.hp ++ [.r ⟨e, k, true, []⟩]) (id := s.hp.length) (r := ⟨e, k, true, []⟩) bn_len (push_ne _) (push_self _) rfl (Fp.refl _ _)
 exact ⟨_, ⟨by have := hpp.1; simp; omega, hpp.2.trans (ext_at hpp.1)⟩, hb⟩
end Go.Proofs.Ythlckclbjknldaa
namespace Go.Proofs.Ythlckclbjknldaa
set_option linter.unusedVariables false
set_option linter.unusedSimpArgs false
open Go.RowKit
set_option maxRecDepth 100000
theorem fcmp_fc (a b : Ar) : FC Try.prog 32 [.a (.g [.v (.int .i64 a.1), .v (.int .i64 a.2)]), .a (.g [.v (.int .i64 b.1), .v (.int .i64 b.2)])] [] (fun r o => o = [] ∧ r = .i (cmpR a b)) := by
 refine fc_intro Try.func32 rfl (by rw [Try.ntmps32]; simp) ?_
 rw [Try.ntmps32]
 simp only [enum]
 (repeat (first | (refine aw_seq ?_; intro K hK) | refine aw_block ?_ | refine aw_region ?_ | (refine lst_x rfl rfl ?_; intro K1 hK1; simp only [go_sem, List.set_cons_zero, List.set_cons_succ]; (first | refine hK1 _ ?_ | refine andk (hK1 _ ?_)); clear hK1 K1) | ((first | refine lst_nil ?_ | refine aw_skip ?_); refine hK _ ?_; clear hK K)))
 (refine aw_regionV [] [(0, 0, 0), (2, 0, 0), (5, 0, 0), (7, 0, 0), (1, 1, 4), (3, 1, 4), (6, 1, 9), (8, 1, 9), (4, 2, 0), (9, 2, 0), (10, 2, 0), (11, 2, 0), (12, 2, 0)] (by kernel_rfl) (by kernel_rfl) (by intro c st h; simp [ThenA, InBl, Ret] at h) ?_)
 (repeat (first | ((first | refine v_0 rfl rfl rfl ?_ | refine v_1 rfl rfl rfl rfl rfl rfl rfl rfl rfl ?_ | refine v_1q rfl rfl rfl rfl rfl rfl rfl ?_ | refine v_1f rfl rfl rfl ?_ | refine v_2f rfl rfl rfl rfl ?_); intro K1 hK1; simp only [go_sem]; (first | refine hK1 _ ?_ | refine andk (hK1 _ ?_)); clear hK1 K1) | (refine v_nil ⟨by simp, by simp, ?_⟩; refine hK _ ?_; clear hK K)))
 (refine v_2 rfl rfl ?_; intro K1 hK1; refine stpX_mono ?_; refine stpX_call (ids := []) [] (cmp_fc a.1 b.1) rfl rfl (by simp only [go_sem]) (by kernel_rfl) rfl rfl rfl (by (simp only [List.map_append, List.append_nil, go_sem]) <;> rfl) (by (simp only [pkh, go_sem]) <;> rfl) ?_ ?_)
 ·rintro _ _ ⟨rfl, rfl⟩ i o hi hl; simp at hl
 rintro _ _ ⟨rfl, rfl⟩
 (simp only [aInts, aSets, List.append_nil, List.nil_append, List.length_map, go_sem]; refine hK1 _ ?_; clear hK1 K1)
 (repeat (first | ((first | refine v_0 rfl rfl rfl ?_ | refine v_1 rfl rfl rfl rfl rfl rfl rfl rfl rfl ?_ | refine v_1q rfl rfl rfl rfl rfl rfl rfl ?_ | refine v_1f rfl rfl rfl ?_ | refine v_2f rfl rfl rfl rfl ?_); intro K1 hK1; simp only [go_sem]; (first | refine hK1 _ ?_ | refine andk (hK1 _ ?_)); clear hK1 K1) | (refine v_nil ⟨by simp, by simp, ?_⟩; refine hK _ ?_; clear hK K)))
 (refine v_2 rfl rfl ?_; intro K1 hK1; refine stpX_mono ?_; refine stpX_call (ids := []) [] (cmp_fc a.2 b.2) rfl rfl (by simp only [go_sem]) (by kernel_rfl) rfl rfl rfl (by (simp only [List.map_append, List.append_nil, go_sem]) <;> rfl) (by (simp only [pkh, go_sem]) <;> rfl) ?_ ?_)
 ·rintro _ _ ⟨rfl, rfl⟩ i o hi hl; simp at hl
 rintro _ _ ⟨rfl, rfl⟩
 (simp only [aInts, aSets, List.append_nil, List.nil_append, List.length_map, go_sem]; refine hK1 _ ?_; clear hK1 K1)
 (repeat (first | ((first | refine v_0 rfl rfl rfl ?_ | refine v_1 rfl rfl rfl rfl rfl rfl rfl rfl rfl ?_ | refine v_1q rfl rfl rfl rfl rfl rfl rfl ?_ | refine v_1f rfl rfl rfl ?_ | refine v_2f rfl rfl rfl rfl ?_); intro K1 hK1; simp only [go_sem]; (first | refine hK1 _ ?_ | refine andk (hK1 _ ?_)); clear hK1 K1) | (refine v_nil ⟨by simp, by simp, ?_⟩; refine hK _ ?_; clear hK K)))
 (refine v_3 rfl rfl rfl ?_; intro K1 hK1; refine stp_ev rfl ?_; simp only [go_sem, List.set_cons_zero, List.set_cons_succ]; (first | refine hK1 _ ?_ | refine andk (hK1 _ ?_)); clear hK1 K1)
 (refine v_le (le_frz (r := ⟨3, 1, true, cInts [cmpI a.1 b.1, cmpI a.2 b.2]⟩) 2 (tInts [cmpI a.1 b.1, cmpI a.2 b.2]) rfl (fz_c _) (show 0 < (1 : Nat) by omega)) ?_; simp only [ST.frz, A0.frz, AV.frz, C.frz, Nat.le_refl, List.set_cons_zero, List.set_cons_succ, go_sem, tInts_len, tInts_take, List.length_cons, List.length_nil, List.take_succ_cons, List.take_zero])
 (repeat (first | ((first | refine v_0 rfl rfl rfl ?_ | refine v_1 rfl rfl rfl rfl rfl rfl rfl rfl rfl ?_ | refine v_1q rfl rfl rfl rfl rfl rfl rfl ?_ | refine v_1f rfl rfl rfl ?_ | refine v_2f rfl rfl rfl rfl ?_); intro K1 hK1; simp only [go_sem]; (first | refine hK1 _ ?_ | refine andk (hK1 _ ?_)); clear hK1 K1) | (refine v_nil ⟨by simp, by simp, ?_⟩; refine hK _ ?_; clear hK K)))
 (refine v_2 rfl rfl ?_; intro K1 hK1; refine stpX_mono ?_; refine stpX_call (ids := []) [] (cmpOr_fc [cmpI a.1 b.1, cmpI a.2 b.2] (by simp)) rfl rfl (by simp only [go_sem]) (by kernel_rfl) rfl rfl rfl (by (simp only [List.map_append, List.append_nil, go_sem]) <;> rfl) (by (simp only [pkh, aInts, go_sem]) <;> rfl) ?_ ?_)
 ·rintro _ _ ⟨rfl, rfl⟩ i o hi hl; simp at hl
 rintro _ _ ⟨rfl, rfl⟩
 (simp only [aInts, aSets, List.append_nil, List.nil_append, List.length_map, go_sem]; refine hK1 _ ?_; clear hK1 K1)
 (refine v_3 rfl rfl rfl ?_; intro K1 hK1; refine stp_ev rfl ?_; simp only [go_sem]; (first | refine hK1 _ ?_ | refine andk (hK1 _ ?_)); clear hK1 K1)
 (repeat (first | ((first | refine v_0 rfl rfl rfl ?_ | refine v_1 rfl rfl rfl rfl rfl rfl rfl rfl rfl ?_ | refine v_1q rfl rfl rfl rfl rfl rfl rfl ?_ | refine v_1f rfl rfl rfl ?_ | refine v_2f rfl rfl rfl rfl ?_); intro K1 hK1; simp only [go_sem]; (first | refine hK1 _ ?_ | refine andk (hK1 _ ?_)); clear hK1 K1) | (refine v_nil ⟨by simp, by simp, ?_⟩; refine hK _ ?_; clear hK K)))
 ((try refine aw_ret ?_); (try simp only [ThenA, InBl]); refine ret_le (le_pick [] rfl rfl) ?_; (try simp only [List.set_nil, List.take_nil, List.take_zero, List.map_append, go_sem]); ((try refine aw_ret ?_); (try refine lst_nil ?_); (try simp only [ThenA, InBl]); refine ret_mk (by first | exact .inl rfl | exact .inr rfl) rfl ?_; simp only [rtn, resA, resL, resV, Try.results32, go_sem, true_and, and_true]))
 rw [orL_cmp]
end Go.Proofs.Ythlckclbjknldaa
namespace Go.Proofs.Ythlckclbjknldaa
set_option linter.unusedVariables false
set_option linter.unusedSimpArgs false
open Go.RowKit
set_option maxRecDepth 100000
attribute [local go_sem] List.set_cons_zero List.set_cons_succ List.map_cons List.map_nil List.take_succ_cons List.take_zero List.drop_zero List.drop_succ_cons C.pl C.one List.all_cons List.all_nil Bool.and_true Nat.mul_one Int.toNat_natCast

theorem canGo_pre (R : List (List Ar)) : ∀ (f i : Nat) (num old : List Int) (out : List (List Ar)), ∃ l, (canGo R f i num old out).1 = out ++ l := by
 intro f
 induction f with
 | zero => intro i num old out; exact ⟨[], by simp [canGo]⟩
 | succ f ih =>
  intro i num old out
  unfold canGo
  split
  ·exact ⟨[], by simp⟩
  ·obtain ⟨l, hl⟩ := ih (i + 1) (rowGo (rowOf (R.getD (Int.toNat ‹_›) [])) num old []).1 (rowGo (rowOf (R.getD (Int.toNat ‹_›) [])) num old []).2.1 (out ++ [(rowGo (rowOf (R.getD (Int.toNat ‹_›) [])) num old []).2.2])
   exact ⟨_ :: l, by rw [hl, List.append_assoc]; rfl⟩
theorem totA_app (x y : List (List Ar)) : totA (x ++ y) = totA x + totA y := by simp [totA]
theorem totA_one (r : List Ar) : totA [r] = r.length := by simp [totA]
/-- what flow.Canonical gives -/
def fcR (q : List (List Ar)) (r : AV) (o : List Ob) : Prop :=
 if totA q ≤ 262144 then o = [.r ⟨27, 1, false, [.t 1 (tRows q)]⟩] ∧ r = .tup [.g [.t 1 (tRows q)], .c (.v (.bool true))]
 else o = [.r ⟨27, 1, false, [.v (.slice none 0 0)]⟩] ∧ r = .tup [.g [.v (.slice none 0 0)], .c (.v (.bool false))]
set_option maxHeartbeats 8000000 in
theorem fcanon_fc (R : List (List Ar)) (h1 : 1 ≤ R.length) (hbd : ∀ r ∈ R, ∀ a ∈ r, 0 ≤ a.2 ∧ a.2 < (R.length : Int)) (hn : R.length ≤ 1000000) (hr : ∀ r ∈ R, r.length ≤ 1000000) : FC Try.prog 18 [.a (.c (.t 1 (tRows R)))] [] (fcR (canonR R).1) := by
 refine fc_intro Try.func18 rfl (by rw [Try.ntmps18]; simp) ?_
 rw [Try.ntmps18]
 simp only [enum]
 (repeat (first | (refine aw_seq ?_; intro K hK) | refine aw_block ?_ | refine aw_region ?_ | (refine lst_x rfl rfl ?_; intro K1 hK1; simp only [go_sem, tRows_len]; (first | refine hK1 _ ?_ | refine andk (hK1 _ ?_)); clear hK1 K1) | ((first | refine lst_nil ?_ | refine aw_skip ?_); refine hK _ ?_; clear hK K)))
 (refine lst_cons rfl ?_; intro K1 hK1; refine stp_callσ (ids := []) [1] (repeat_fc (-1) R.length h1 hn) rfl rfl (by simp only [go_sem]) (by first | assumption | kernel_rfl) rfl rfl (by (simp only [List.map_append, List.append_nil, go_sem]) <;> rfl) (by (simp only [pkh, rInts, cInts, go_sem]) <;> rfl) ?_ ?_)
 ·rintro _ _ ⟨rfl, rfl⟩; rfl
 rintro _ _ ⟨rfl, rfl⟩
 (simp only [aInts, aSets, rInts, cInts_up, List.append_nil, List.nil_append, List.length_map, go_sem]; refine hK1 _ ?_; clear hK1 K1)
 have g0 : 0 < (List.replicate R.length (-1 : Int)).length := by simp; omega
 (repeat (first | (refine aw_seq ?_; intro K hK) | refine aw_block ?_ | refine aw_region ?_ | (refine lst_x rfl rfl ?_; intro K1 hK1; simp only [go_sem, cInts_len, List.length_replicate, ST.put, setC, A0.cells, cInts_set]; (first | refine hK1 _ ?_ | refine andk (hK1 _ ?_)); clear hK1 K1) | ((first | refine lst_nil ?_ | refine aw_skip ?_); refine hK _ ?_; clear hK K)))
 refine aw_le (le_new 32 1) ?_
 simp only [List.cons_append, List.nil_append]
 refine aw_le (le_cell 4 0 5 (by decide) rfl rfl rfl) ?_
 simp only [List.set_cons_zero, List.set_cons_succ]
 refine aw_le (le_pick [0, 2, 3, 4, 5] rfl rfl) ?_
 (try simp only [List.set_nil, List.take_nil, List.take_zero, List.map_append, go_sem])
 (try simp only [cInts_ren])
 refine aw_loop (fun x : Nat × List Int × List Int × List (List Ar) => { tm := [(0, .a (.c (.t 1 (tRows R)))), (2, .a (.c (.p 0 0))), (4, .a (.c (.s 1 R.length))), (5, .a (.c (.s 2 x.2.2.1.length))), (6, .i (totA x.2.2.2)), (7, .a (.c (.p 3 0))), (8, .i x.1)], hp := [.r ⟨27, 1, false, [.v (.slice none 0 0)]⟩, .r ⟨3, 1, true, cInts x.2.1⟩, .r ⟨3, 1, true, cInts x.2.2.1⟩, .r ⟨27, 1, false, [.s 4 x.1]⟩, .r ⟨32, 1, true, cRows x.2.2.2⟩], n := 87, pin := 0 }) (fun x => NumOk R.length x.2.1 x.2.2.1 ∧ NumInj x.2.1 x.2.2.1 ∧ canGo R (R.length - x.1) x.1 x.2.1 x.2.2.1 x.2.2.2 = canonR R ∧ x.1 ≤ x.2.2.1.length ∧ x.2.2.2.length = x.1 ∧ totA x.2.2.2 ≤ 262144) (fun x => R.length - x.1) (0, (List.replicate R.length (-1)).set 0 0, [0], []) ?_ ?_ ?_
 ·exact ⟨NumOk.start h1, NumInj.start h1, rfl, by simp, rfl, by simp [totA]⟩
 ·simp only [totA, List.map_nil, List.sum_nil]
  (refine le_tm ?_; simp only [LeTm, go_sem]; try simp)
 ·rintro ⟨i, num, old, out⟩ ⟨hN, hI, hC, hio, hoi, hto⟩ K hK
  simp only at hN hI hC hio hoi hto
  have hlen := hN.len
  have hle := hN.le
  by_cases hlt : i < old.length
  ·have d1 : decide ((i : Int) < (old.length : Int)) = true := by simpa using hlt
   have hs0 := hN.st _ (List.getElem_mem hlt)
   obtain ⟨sn, hsn⟩ : ∃ sn : Nat, old[i] = sn := ⟨old[i].toNat, by omega⟩
   have hsl : sn < R.length := by omega
   have go : (cInts old)[i]? = some (.v (.int .i64 sn)) := by rw [← hsn]; exact cInts_get (List.getElem?_eq_getElem hlt)
   have hgR := List.getElem?_eq_getElem hsl
   have hrl := hr _ (List.getElem_mem hsl)
   have hst := canGo_step (rows := R) (n := R.length) (i := i) (num := num) (old := old) (out := out) (s := (sn : Int)) (r := R[sn]) (by omega) (by rw [List.getElem?_eq_getElem hlt, hsn]) (by simp [hgR]) rfl
   generalize hrr : R[sn] = r at *
   have hcl := clone_arcs (tArcs r) (by rw [tArcs_len]; omega)
   rw [tArcs_of, tArcs_len, half2] at hcl
   (repeat (first | (refine aw_seq ?_; intro K hK) | refine aw_block ?_ | refine aw_region ?_ | (refine lst_x rfl rfl ?_; intro K1 hK1; simp only [go_sem, d1, cInts_len]; (first | refine hK1 _ ?_ | refine andk (hK1 _ ?_)); clear hK1 K1) | ((first | refine lst_nil ?_ | refine aw_skip ?_); refine hK _ ?_; clear hK K)))
   (refine aw_cnd ?_; intro X Y hX hY; simp only [go_sem])
   refine hX ?_
   clear hX hY X Y
   (repeat (first | (refine aw_seq ?_; intro K hK) | refine aw_block ?_ | refine aw_region ?_ | (refine lst_x rfl rfl ?_; intro K1 hK1; simp only [go_sem, tRows_len, tRows_get hgR, cInts_len, go]; (first | refine hK1 _ ?_ | refine andk (hK1 _ ?_)); clear hK1 K1) | ((first | refine lst_nil ?_ | refine aw_skip ?_); refine hK _ ?_; clear hK K)))
   (refine lst_cons rfl ?_; intro K1 hK1; refine (stp_call0 (ids := []) (hcl) rfl rfl (by simp only [go_sem]) (by kernel_rfl) (by (simp only [List.append_nil, go_sem]) <;> rfl) ?_).stp)
   rintro _ _ ⟨rfl, rfl⟩
   (simp only [aInts, aSets, cArcs_up3, List.append_nil, List.nil_append, List.length_map, go_sem]; refine hK1 _ ?_; clear hK1 K1)
   (repeat (first | (refine aw_seq ?_; intro K hK) | refine aw_block ?_ | refine aw_region ?_ | (refine lst_x rfl rfl ?_; intro K1 hK1; simp only [go_sem]; (first | refine hK1 _ ?_ | refine andk (hK1 _ ?_)); clear hK1 K1) | ((first | refine lst_nil ?_ | refine aw_skip ?_); refine hK _ ?_; clear hK K)))
   (refine lst_cons rfl ?_; intro K1 hK1; refine stp_callσ (ids := []) [5] (sortA_fc 32 (by kernel_rfl) fcmp_fc r (by omega)) rfl rfl (by simp only [go_sem]) (by first | assumption | kernel_rfl) rfl rfl (by (simp only [List.map_append, List.append_nil, go_sem]) <;> rfl) (by (simp only [pkh, cArcs_ren3, go_sem]) <;> rfl) ?_ ?_)
   ·rintro _ _ ⟨rfl, L', _, _, rfl⟩; rfl
   rintro _ _ ⟨rfl, L', hperm, hsort, rfl⟩
   (simp only [aInts, aSets, cArcs_up3, List.append_nil, List.nil_append, List.length_map, go_sem]; refine hK1 _ ?_; clear hK1 K1)
   have hLl := hperm.length_eq
   have hq : cmpA L' = rowOf r := by rw [cmpA_comp]; exact comp_sort hperm hsort
   rw [← hLl]
   (repeat (first | (refine aw_seq ?_; intro K hK) | refine aw_block ?_ | refine aw_region ?_ | (refine lst_x rfl rfl ?_; intro K1 hK1; simp only [go_sem]; (first | refine hK1 _ ?_ | refine andk (hK1 _ ?_)); clear hK1 K1) | ((first | refine lst_nil ?_ | refine aw_skip ?_); refine hK _ ?_; clear hK K)))
   (refine lst_cons rfl ?_; intro K1 hK1; refine stp_callσ (ids := []) [5] (compact_arcs L' (by omega)) rfl rfl (by simp only [go_sem]) (by first | assumption | kernel_rfl) rfl rfl (by (simp only [List.map_append, List.append_nil, go_sem]) <;> rfl) (by (simp only [pkh, cArcs_ren3, go_sem]) <;> rfl) ?_ ?_)
   ·rintro _ _ ⟨rfl, rest, us, _, _, rfl⟩; rfl
   rintro _ _ ⟨rfl, rest, us, hrest, hr0, rfl⟩
   (simp only [aInts, aSets, cArcs_up3, List.append_nil, List.nil_append, List.length_map, go_sem]; refine hK1 _ ?_; clear hK1 K1)
   (repeat (first | (refine aw_seq ?_; intro K hK) | refine aw_block ?_ | refine aw_region ?_ | (refine lst_x rfl rfl ?_; intro K1 hK1; simp only [go_sem]; (first | refine hK1 _ ?_ | refine andk (hK1 _ ?_)); clear hK1 K1) | ((first | refine lst_nil ?_ | refine aw_skip ?_); refine hK _ ?_; clear hK K)))
   obtain ⟨q, hqd⟩ : ∃ q, q = rowOf r := ⟨_, rfl⟩
   rw [← hqd] at hq hst
   have hqs : SortA q := by rw [hqd]; exact rowOf_sorted r
   have hql : q.length ≤ 1000000 := by rw [hqd]; exact Nat.le_trans (len_rowOf r) (by omega)
   have hqb : ∀ a ∈ q, 0 ≤ a.2 ∧ a.2 < (R.length : Int) := fun a ha => by
    rw [hqd, mem_rowOf] at ha
    exact hbd r (by rw [← hrr]; exact List.getElem_mem hsl) a ha
   rw [hq]
   refine aw_le (le_take 5 (q.length * 2) rfl ?_) ?_
   ·intro _ h
    rw [cut_arcs _ _ _ (cArcs_up3 _ _)] at h
    have hq0 : q = [] := by
     have := congrArg List.length h
     rw [cArcs_len] at this
     exact List.length_eq_zero_iff.1 (by simp at this; omega)
    have hL0 : L' = [] := by
     cases L' with
     | nil => rfl
     | cons x xs =>
      have : cmpA (x :: xs) = [] := by rw [hq, hq0]
      simp [cmpA] at this
    rw [hr0 hL0, hq0]; rfl
   simp only [cut_arcs _ _ _ (cArcs_up3 _ _), go_sem]
   refine aw_loop (fun x : Nat × List Int × List Int × List Ar => { tm := [(0, .a (.c (.t 1 (tRows R)))), (2, .a (.c (.p 0 0))), (4, .a (.c (.s 1 R.length))), (5, .a (.c (.s 2 x.2.2.1.length))), (6, .i (totA out)), (7, .a (.c (.p 3 0))), (8, .i i), (9, .a (.c (.s 5 q.length))), (37, .a (.c (.s 5 q.length))), (38, .i q.length), (39, .i x.1)], hp := [.r ⟨27, 1, false, [.v (.slice none 0 0)]⟩, .r ⟨3, 1, true, cInts x.2.1⟩, .r ⟨3, 1, true, cInts x.2.2.1⟩, .r ⟨27, 1, false, [.s 4 i]⟩, .r ⟨32, 1, true, cRows out⟩, .r ⟨34, 2, true, cArcs x.2.2.2⟩], n := 87, pin := 0 }) (fun x => x.1 ≤ q.length ∧ x.2.2.2.length = q.length ∧ NumOk R.length x.2.1 x.2.2.1 ∧ old.length ≤ x.2.2.1.length ∧ NL (numL q num old) x.2.2.2 q x.1 x.2.1 x.2.2.1) (fun x => q.length - x.1) (0, num, old, q) ?_ ?_ ?_
   ·exact ⟨by simp, rfl, hN, Nat.le_refl _, NL.start q num old⟩
   ·(refine le_tm ?_; simp only [LeTm, go_sem]; try simp)
   ·rintro ⟨k, num1, old1, ya⟩ ⟨hk, hyl, hN1, hol, hNL⟩ K hK
    simp only at hk hyl hN1 hol hNL
    have hlen1 := hN1.len
    have hle1 := hN1.le
    by_cases hlt2 : k < q.length
    ·have d2 : decide ((k : Int) < (q.length : Int)) = true := by simpa using hlt2
     have hky : k < ya.length := by omega
     have hyq : ya[k] = q[k] := by
      have := congrArg (fun l => l[0]?) hNL.2.2.2
      simp only [List.getElem?_drop, Nat.add_zero] at this
      rw [List.getElem?_eq_getElem hky, List.getElem?_eq_getElem hlt2] at this
      exact Option.some.inj this
     have hyb := hqb _ (List.getElem_mem hlt2)
     rw [← hyq] at hyb
     obtain ⟨e, tn, hya⟩ : ∃ (e : Int) (tn : Nat), ya[k] = (e, (tn : Int)) := ⟨ya[k].1, ya[k].2.toNat, by
      have : (ya[k].2.toNat : Int) = ya[k].2 := by omega
      rw [this]⟩
     have hyk : ya[k]? = some (e, (tn : Int)) := by rw [List.getElem?_eq_getElem hky, hya]
     have htl : tn < R.length := by rw [hya] at hyb; have := hyb.2; simp only at this; omega
     have hat := cArcs_at hky
     rw [hya] at hat
     have gn : (cInts num1)[tn]? = some (.v (.int .i64 num1[tn])) := cInts_get (List.getElem?_eq_getElem (by omega))
     have gn2 : num1[tn]? = some num1[tn] := List.getElem?_eq_getElem (by omega)
     (repeat (first | (refine aw_seq ?_; intro K hK) | refine aw_block ?_ | refine aw_region ?_ | (refine lst_x rfl rfl ?_; intro K1 hK1; simp only [go_sem, d2]; (first | refine hK1 _ ?_ | refine andk (hK1 _ ?_)); clear hK1 K1) | ((first | refine lst_nil ?_ | refine aw_skip ?_); refine hK _ ?_; clear hK K)))
     (refine aw_cnd ?_; intro X Y hX hY; simp only [go_sem])
     refine hX ?_
     clear hX hY X Y
     by_cases hx : num1[tn] < 0
     ·have d3 : decide (num1[tn] < 0) = true := by simpa using hx
      have gs : (cInts (num1.set tn (old1.length : Int)))[tn]? = some (.v (.int .i64 (old1.length : Int))) := cInts_get (List.getElem?_set_self (by omega))
      have op := old_push old1 (tn : Int)
      have cs := cArcs_set1 hyk (old1.length : Int)
      (repeat (first | (refine aw_seq ?_; intro K hK) | refine aw_block ?_ | refine aw_region ?_ | (refine lst_x rfl rfl ?_; intro K1 hK1; simp only [go_sem, hat, cArcs_len, hyl, gn, d3, cInts_len, hlen1, ST.put, setC, A0.cells]; (first | refine hK1 _ ?_ | refine andk (hK1 _ ?_)); clear hK1 K1) | ((first | refine lst_nil ?_ | refine aw_skip ?_); refine hK _ ?_; clear hK K)))
      (refine aw_cnd ?_; intro X Y hX hY; simp only [go_sem])
      refine hX ?_
      clear hX hY X Y
      (repeat (first | (refine aw_seq ?_; intro K hK) | refine aw_block ?_ | refine aw_region ?_ | (refine lst_x rfl rfl ?_; intro K1 hK1; simp only [go_sem, cInts_len, hlen1, ST.put, setC, A0.cells, cInts_set, op, gs, cs, cArcs_len, hyl, List.length_set]; (first | refine hK1 _ ?_ | refine andk (hK1 _ ?_)); clear hK1 K1) | ((first | refine lst_nil ?_ | refine aw_skip ?_); refine hK _ ?_; clear hK K)))
      ((try refine lst_nil ?_); (try refine aw_skip ?_); try simp only [ThenA])
      have hone : numOne num1 old1 (tn : Int) = (num1.set tn (old1.length : Int), old1 ++ [(tn : Int)]) := by
       simp only [numOne, Int.toNat_natCast, List.getD, gn2, Option.getD_some, if_pos hx]
      have hN2 := hN1.one (t := (tn : Int)) (by omega) (by omega)
      rw [hone] at hN2
      refine hK _ (k + 1, num1.set tn (old1.length : Int), old1 ++ [(tn : Int)], ya.set k (e, (old1.length : Int))) ⟨hlt2, by simp [hyl], hN2, by simp; omega, hNL.neg hyk gn2 hx rfl⟩ (by simp only; omega) ?_
      refine Le.trans (le_pick [0, 1, 8, 3, 4, 5] rfl rfl) ?_
      (try simp only [List.set_nil, List.take_nil, List.take_zero, List.map_append, go_sem])
      (try simp only [cInts_ren, cArcs_ren3, cRows_ren])
      simp only [List.length_append, List.length_cons, List.length_nil]
      (refine le_tm ?_; simp only [LeTm, go_sem]; try simp)
     ·have d3 : decide (num1[tn] < 0) = false := by simpa using hx
      have cs := cArcs_set1 hyk num1[tn]
      (repeat (first | (refine aw_seq ?_; intro K hK) | refine aw_block ?_ | refine aw_region ?_ | (refine lst_x rfl rfl ?_; intro K1 hK1; simp only [go_sem, hat, cArcs_len, hyl, gn, d3, cInts_len, hlen1, ST.put, setC, A0.cells]; (first | refine hK1 _ ?_ | refine andk (hK1 _ ?_)); clear hK1 K1) | ((first | refine lst_nil ?_ | refine aw_skip ?_); refine hK _ ?_; clear hK K)))
      (refine aw_cnd ?_; intro X Y hX hY; simp only [go_sem])
      refine hY ?_
      clear hX hY X Y
      (repeat (first | (refine aw_seq ?_; intro K hK) | refine aw_block ?_ | refine aw_region ?_ | (refine lst_x rfl rfl ?_; intro K1 hK1; simp only [go_sem, gn, cs, cArcs_len, hyl, cInts_len, hlen1, ST.put, setC, A0.cells]; (first | refine hK1 _ ?_ | refine andk (hK1 _ ?_)); clear hK1 K1) | ((first | refine lst_nil ?_ | refine aw_skip ?_); refine hK _ ?_; clear hK K)))
      ((try refine lst_nil ?_); (try refine aw_skip ?_); try simp only [ThenA])
      refine hK _ (k + 1, num1, old1, ya.set k (e, num1[tn])) ⟨hlt2, by simp [hyl], hN1, hol, hNL.pos hyk gn2 hx⟩ (by simp only; omega) ?_
      refine Le.trans (le_pick [0, 1, 2, 3, 4, 5] rfl rfl) ?_
      (try simp only [List.set_nil, List.take_nil, List.take_zero, List.map_append, go_sem])
      (try simp only [cInts_ren, cArcs_ren3, cRows_ren])
      (refine le_tm ?_; simp only [LeTm, go_sem]; try simp)
    ·have d2 : decide ((k : Int) < (q.length : Int)) = false := by simpa using hlt2
     obtain ⟨f1, f2, f3⟩ := hNL.fin (by omega) hyl
     have hnd : ya.Nodup := by rw [f1]; exact numL_nodup q hqs (fun a ha => by rw [hlen]; exact hqb a ha) hI
     have hI2 : NumInj num1 old1 := by rw [f2, f3]; exact numL_inj q (fun a ha => by rw [hlen]; exact hqb a ha) hI
     (repeat (first | (refine aw_seq ?_; intro K hK) | refine aw_block ?_ | refine aw_region ?_ | (refine lst_x rfl rfl ?_; intro K1 hK1; simp only [go_sem, d2]; (first | refine hK1 _ ?_ | refine andk (hK1 _ ?_)); clear hK1 K1) | ((first | refine lst_nil ?_ | refine aw_skip ?_); refine hK _ ?_; clear hK K)))
     (refine aw_cnd ?_; intro X Y hX hY; simp only [go_sem])
     refine hY ?_
     clear hX hY X Y
     (refine aw_exit ?_; simp only [ThenA, InBl, reduceIte, Nat.reduceEqDiff]; (first | refine hK _ ?_ | (clear hK K; refine hK _ ?_) | (clear hK K; clear hK K; refine hK _ ?_) | (clear hK K; clear hK K; clear hK K; refine hK _ ?_) | (clear hK K; clear hK K; clear hK K; clear hK K; refine hK _ ?_) | (clear hK K; clear hK K; clear hK K; clear hK K; clear hK K; refine hK _ ?_)); clear hK K)
     rw [← hyl]
     (repeat (first | (refine aw_seq ?_; intro K hK) | refine aw_block ?_ | refine aw_region ?_ | (refine lst_x rfl rfl ?_; intro K1 hK1; simp only [go_sem]; (first | refine hK1 _ ?_ | refine andk (hK1 _ ?_)); clear hK1 K1) | ((first | refine lst_nil ?_ | refine aw_skip ?_); refine hK _ ?_; clear hK K)))
     (refine lst_cons rfl ?_; intro K1 hK1; refine stp_callσ (ids := []) [5] (sortA_fc 32 (by kernel_rfl) fcmp_fc ya (by omega)) rfl rfl (by simp only [go_sem]) (by first | assumption | kernel_rfl) rfl rfl (by (simp only [List.map_append, List.append_nil, go_sem]) <;> rfl) (by (simp only [pkh, cArcs_ren3, go_sem]) <;> rfl) ?_ ?_)
     ·rintro _ _ ⟨rfl, L2, _, _, rfl⟩; rfl
     rintro _ _ ⟨rfl, L2, hp2, hs2, rfl⟩
     (simp only [aInts, aSets, cArcs_up3, List.append_nil, List.nil_append, List.length_map, go_sem]; refine hK1 _ ?_; clear hK1 K1)
     have hL2 : L2 = rowOf ya := sort_nodup hnd hp2 hs2
     have hL2l := hp2.length_eq
     rw [← hL2l]
     (refine lst_le (le_frz (r := ⟨34, 2, true, cArcs L2⟩) 5 (tArcs L2) rfl (fz_ca _) (show 0 < (2 : Nat) by omega)) ?_; simp only [ST.frz, A0.frz, AV.frz, C.frz, Nat.le_refl, List.set_cons_zero, List.set_cons_succ, go_sem, tArcs_len, half2, tArcs_take, List.take_length])
     have htt : totA (out ++ [L2]) = totA out + L2.length := by rw [totA_app, totA_one]
     have hCn : canGo R (R.length - (i + 1)) (i + 1) num1 old1 (out ++ [L2]) = canonR R := by
      rw [← hC, hst, rowGo_numL, f2, f3, hL2, f1]
      rfl
     by_cases htb : totA (out ++ [L2]) > 262144
     ·have d5 : decide ((totA out : Int) + (L2.length : Int) > 262144) = true := decide_eq_true (by omega)
      (repeat (first | (refine aw_seq ?_; intro K hK) | refine aw_block ?_ | refine aw_region ?_ | (refine lst_x rfl rfl ?_; intro K1 hK1; simp only [go_sem, tArcs_len, half2, d5]; (first | refine hK1 _ ?_ | refine andk (hK1 _ ?_)); clear hK1 K1) | ((first | refine lst_nil ?_ | refine aw_skip ?_); refine hK _ ?_; clear hK K)))
      (refine aw_cnd ?_; intro X Y hX hY; simp only [go_sem])
      refine hX ?_
      clear hX hY X Y
      (repeat (first | (refine aw_seq ?_; intro K hK) | refine aw_block ?_ | refine aw_region ?_ | (refine lst_x rfl rfl ?_; intro K1 hK1; simp only [go_sem, ST.put, setC, A0.cells]; (first | refine hK1 _ ?_ | refine andk (hK1 _ ?_)); clear hK1 K1) | ((first | refine lst_nil ?_ | refine aw_skip ?_); refine hK _ ?_; clear hK K)))
      ((try refine aw_ret ?_); (try simp only [ThenA, InBl]); refine ret_le (le_pick [0] rfl rfl) ?_; (try simp only [List.set_nil, List.take_nil, List.take_zero, List.map_append, go_sem]); ((try refine aw_ret ?_); (try refine lst_nil ?_); (try simp only [ThenA, InBl]); refine ret_mk (by first | exact .inl rfl | exact .inr rfl) rfl ?_; simp only [rtn, resA, resL, resV, Try.results18, go_sem, true_and, and_true]))
      obtain ⟨l, hl⟩ := canGo_pre R (R.length - (i + 1)) (i + 1) num1 old1 (out ++ [L2])
      rw [hCn] at hl
      unfold fcR
      rw [if_neg (by rw [hl, totA_app]; omega)]
      exact ⟨rfl, rfl⟩
     ·have d5 : decide ((totA out : Int) + (L2.length : Int) > 262144) = false := decide_eq_false (by omega)
      have crp := cRows_push out L2 hoi
      have ett : (totA out : Int) + (L2.length : Int) = (totA (out ++ [L2]) : Int) := by omega
      (repeat (first | (refine aw_seq ?_; intro K hK) | refine aw_block ?_ | refine aw_region ?_ | (refine lst_x rfl rfl ?_; intro K1 hK1; simp only [go_sem, tArcs_len, half2, d5]; (first | refine hK1 _ ?_ | refine andk (hK1 _ ?_)); clear hK1 K1) | ((first | refine lst_nil ?_ | refine aw_skip ?_); refine hK _ ?_; clear hK K)))
      (refine aw_cnd ?_; intro X Y hX hY; simp only [go_sem])
      refine hY ?_
      clear hX hY X Y
      (repeat (first | (refine aw_seq ?_; intro K hK) | refine aw_block ?_ | refine aw_region ?_ | (refine lst_x rfl rfl ?_; intro K1 hK1; simp only [go_sem, crp, cRows_len, hoi, ST.put, setC, A0.cells]; (first | refine hK1 _ ?_ | refine andk (hK1 _ ?_)); clear hK1 K1) | ((first | refine lst_nil ?_ | refine aw_skip ?_); refine hK _ ?_; clear hK K)))
      ((try refine lst_nil ?_); (try refine aw_skip ?_); try simp only [ThenA])
      refine hK _ (i + 1, num1, old1, out ++ [L2]) ⟨hN1, hI2, hCn, by simp only; omega, by simp [hoi], by simp only; omega⟩ (by simp only; omega) ?_
      refine Le.trans (le_pick [0, 1, 2, 3, 7] rfl rfl) ?_
      (try simp only [List.set_nil, List.take_nil, List.take_zero, List.map_append, go_sem])
      (try simp only [cInts_ren, cRows_ren, ett])
      (refine le_tm ?_; simp only [LeTm, go_sem]; try simp)
  ·have d1 : decide ((i : Int) < (old.length : Int)) = false := by simpa using hlt
   have hfin : canonR R = (out, old) := by rw [← hC]; exact canGo_stop (by omega)
   (repeat (first | (refine aw_seq ?_; intro K hK) | refine aw_block ?_ | refine aw_region ?_ | (refine lst_x rfl rfl ?_; intro K1 hK1; simp only [go_sem, d1, cInts_len]; (first | refine hK1 _ ?_ | refine andk (hK1 _ ?_)); clear hK1 K1) | ((first | refine lst_nil ?_ | refine aw_skip ?_); refine hK _ ?_; clear hK K)))
   (refine aw_cnd ?_; intro X Y hX hY; simp only [go_sem])
   refine hY ?_
   clear hX hY X Y
   (refine aw_exit ?_; simp only [ThenA, InBl, reduceIte, Nat.reduceEqDiff]; (first | refine hK _ ?_ | (clear hK K; refine hK _ ?_) | (clear hK K; clear hK K; refine hK _ ?_) | (clear hK K; clear hK K; clear hK K; refine hK _ ?_) | (clear hK K; clear hK K; clear hK K; clear hK K; refine hK _ ?_) | (clear hK K; clear hK K; clear hK K; clear hK K; clear hK K; refine hK _ ?_)); clear hK K)
   refine aw_le (le_sink (r := ⟨32, 1, true, cRows out⟩) (ri := ⟨27, 1, false, [.s 4 i]⟩) (ts := tRows out) 3 0 4 i (by decide) rfl rfl rfl rfl (show 0 < 1 by omega) (by simp only [cRows_len, hoi]; omega) (fz_cr _)) ?_
   simp only [go_sem]
   refine aw_le (le_ot 3 rfl) ?_
   simp only [otC, go_sem]
   (repeat (first | (refine aw_seq ?_; intro K hK) | refine aw_block ?_ | refine aw_region ?_ | (refine lst_x rfl rfl ?_; intro K1 hK1; simp only [go_sem, ST.put, setC, A0.cells]; (first | refine hK1 _ ?_ | refine andk (hK1 _ ?_)); clear hK1 K1) | ((first | refine lst_nil ?_ | refine aw_skip ?_); refine hK _ ?_; clear hK K)))
   ((try refine aw_ret ?_); (try simp only [ThenA, InBl]); refine ret_le (le_pick [0] rfl rfl) ?_; (try simp only [List.set_nil, List.take_nil, List.take_zero, List.map_append, go_sem]); ((try refine aw_ret ?_); (try refine lst_nil ?_); (try simp only [ThenA, InBl]); refine ret_mk (by first | exact .inl rfl | exact .inr rfl) rfl ?_; simp only [rtn, resA, resL, resV, Try.results18, go_sem, true_and, and_true]))
   rw [hfin]
   unfold fcR
   rw [if_pos hto]
   exact ⟨rfl, rfl⟩
end Go.Proofs.Ythlckclbjknldaa
namespace Go.Proofs.Ythlckclbjknldaa
set_option linter.unusedVariables false
set_option linter.unusedSimpArgs false
open Go.RowKit

def NumSur (num old : List Int) : Prop := ∀ (j : Nat) (s : Int), old[j]? = some s → 0 ≤ s ∧ num[s.toNat]? = some (j : Int)
theorem NumSur.one {num old : List Int} (h : NumSur num old) {t : Int} (h0 : 0 ≤ t) (h1 : t < num.length) : NumSur (numOne num old t).1 (numOne num old t).2 := by
 have htl : t.toNat < num.length := by omega
 unfold numOne
 split
 ·rename_i hneg
  intro j s hs
  simp only at hs ⊢
  rcases Nat.lt_or_ge j old.length with hj | hj
  ·rw [List.getElem?_append_left hj] at hs
   obtain ⟨q1, q2⟩ := h j s hs
   refine ⟨q1, ?_⟩
   rw [List.getElem?_set, if_neg, q2]
   intro e
   rw [e, List.getD_eq_getElem?_getD, q2, Option.getD_some] at hneg
   omega
  ·rw [List.getElem?_append_right hj] at hs
   have hj' : j = old.length := by
    have := (List.getElem?_eq_some_iff.1 hs).1
    simp at this
    omega
   subst hj'
   simp at hs
   subst hs
   exact ⟨h0, by rw [List.getElem?_set, if_pos rfl, if_pos htl]⟩
 ·exact h
theorem numL_sur (r : List Ar) {num old : List Int} (hr : ∀ a ∈ r, 0 ≤ a.2 ∧ a.2 < num.length) (h : NumSur num old) : NumSur (numL r num old).1 (numL r num old).2.1 := by
 induction r generalizing num old with
 | nil => exact h
 | cons a tl ih =>
  have ha := hr a (by simp)
  exact ih (fun b hb => by rw [numOne_len]; exact hr b (by simp [hb])) (h.one ha.1 ha.2)
theorem numOne_old (num old : List Int) (t : Int) {j : Nat} {s : Int} (h : old[j]? = some s) : (numOne num old t).2[j]? = some s := by
 unfold numOne
 split
 ·simp only
  rw [List.getElem?_append_left (List.getElem?_eq_some_iff.1 h).1, h]
 ·exact h
theorem numL_old (r : List Ar) {num old : List Int} {j : Nat} {s : Int} (h : old[j]? = some s) : (numL r num old).2.1[j]? = some s := by
 induction r generalizing num old with
 | nil => exact h
 | cons a tl ih => exact ih (numOne_old num old a.2 h)
theorem numL_grow (r : List Ar) (num old : List Int) : old.length ≤ (numL r num old).2.1.length := by
 rcases Nat.eq_zero_or_pos old.length with h | h
 ·omega
 ·have := numL_old r (num := num) (old := old) (j := old.length - 1) (s := old[old.length - 1]) (List.getElem?_eq_getElem (by omega))
  have := (List.getElem?_eq_some_iff.1 this).1
  omega
theorem NumSur.start {n : Nat} (hn : 0 < n) : NumSur ((List.replicate n (-1)).set 0 0) [0] := by
 intro j s hs
 cases j with
 | succ j => simp at hs
 | zero =>
  simp at hs; subst hs
  exact ⟨by omega, by simp [hn]⟩
theorem totA_setE (V : List (List Ar)) (s : Nat) : totA (V.set s []) + (V.getD s []).length = totA V := by
 induction V generalizing s with
 | nil => simp [totA]
 | cons x r ih =>
  cases s with
  | zero => simp [totA]; omega
  | succ s =>
   have := ih s
   simp only [List.set_cons_succ, List.getD_cons_succ]
   simp only [totA, List.map_cons, List.sum_cons] at this ⊢
   omega
theorem foldIns_sort (l acc : List Ar) (h : SortA acc) : SortA (l.foldl (fun acc a => insA a acc) acc) := by
 induction l generalizing acc with
 | nil => exact h
 | cons a r ih => exact ih _ (insA_sort h)
/-- what holds of the rows that are there -/
structure RowsG (n : Nat) (out : List (List Ar)) : Prop where
 so : ∀ r ∈ out, SortA r
 bd : ∀ r ∈ out, ∀ a ∈ r, 0 ≤ a.1 ∧ a.1 ≤ 1025 ∧ 0 ≤ a.2 ∧ a.2 < (n : Int)
theorem RowsG.le {n m : Nat} {out : List (List Ar)} (h : RowsG n out) (hm : n ≤ m) : RowsG m out := ⟨h.so, fun r hr a ha => by have := h.bd r hr a ha; omega⟩
theorem canGo_val {R : List (List Ar)} {B : Nat} (hb : ∀ r ∈ R, ∀ a ∈ r, 0 ≤ a.1 ∧ a.1 ≤ 1025 ∧ 0 ≤ a.2 ∧ a.2 < (R.length : Int)) : ∀ (f i : Nat) (num old : List Int) (out V : List (List Ar)), NumOk R.length num old → NumInj num old → NumSur num old → i = out.length → i ≤ old.length → R.length ≤ f + i →
  RowsG old.length out → V.length = R.length → (∀ s, s < R.length → (∀ j, j < i → old[j]? ≠ some (s : Int)) → V.getD s [] = R.getD s []) → totA out + totA V ≤ B →
  old.length ≤ (canGo R f i num old out).1.length ∧ (canGo R f i num old out).1.length ≤ R.length ∧ RowsG (canGo R f i num old out).1.length (canGo R f i num old out).1 ∧ totA (canGo R f i num old out).1 ≤ B := by
 intro f
 induction f with
 | zero =>
  intro i num old out V hN hI hS hi ho hf hG hVl hV ht
  have hle := hN.le
  simp only [canGo]
  exact ⟨by omega, by omega, hG.le (by omega), by omega⟩
 | succ f ih =>
  intro i num old out V hN hI hS hi ho hf hG hVl hV ht
  have hle := hN.le
  unfold canGo
  split
  ·rename_i hs
   have := List.getElem?_eq_none_iff.1 hs
   exact ⟨by simp only; omega, by simp only; omega, hG.le (by simp only; omega), by simp only; omega⟩
  ·rename_i s hs
   have hs0 := hN.st s (List.mem_of_getElem? hs)
   have hsl : s.toNat < R.length := by omega
   have hil := (List.getElem?_eq_some_iff.1 hs).1
   have hg : R.getD s.toNat [] = R[s.toNat] := by rw [List.getD_eq_getElem?_getD, List.getElem?_eq_getElem hsl]; rfl
   have hrm := List.getElem_mem hsl
   have hVs : V.getD s.toNat [] = R.getD s.toNat [] := hV s.toNat hsl fun j hj he => by
    have e : ((s.toNat : Nat) : Int) = s := by omega
    rw [e] at he
    have q1 := (hS j s he).2
    have q2 := (hS i s hs).2
    rw [q1] at q2
    injection q2 with q2
    omega
   have hts := totA_setE V s.toNat
   rw [hVs, hg] at hts
   rw [hg]
   have hq : ∀ a ∈ rowOf R[s.toNat], 0 ≤ a.2 ∧ a.2 < (num.length : Int) := fun a ha => by
    have := hb _ hrm a ((mem_rowOf _ a).1 ha); rw [hN.len]; omega
   have hqe : ∀ a ∈ rowOf R[s.toNat], 0 ≤ a.1 ∧ a.1 ≤ 1025 := fun a ha => by
    have := hb _ hrm a ((mem_rowOf _ a).1 ha); omega
   have hl3 := len_rowOf R[s.toNat]
   generalize rowOf R[s.toNat] = q at *
   have hN2 := NumOk.go q [] hN (by rw [← hN.len]; exact hq)
   have hn2 := rowGo_numL q num old []
   rw [hn2] at hN2 ⊢
   simp only at hN2 ⊢
   have hI2 := numL_inj q hq hI
   have hS2 := numL_sur q hq hS
   obtain ⟨hm1, hm2⟩ := numL_map (old := old) q hq
   have hgr := numL_grow q num old
   have hold : ∀ (j : Nat) (x : Int), old[j]? = some x → (numL q num old).2.1[j]? = some x := fun j x h => numL_old q h
   have hrow : SortA ((numL q num old).2.2.foldl (fun acc a => insA a acc) []) := foldIns_sort _ _ List.Pairwise.nil
   have hrl := len_foldl_ins (numL q num old).2.2 []
   have hrb : ∀ a ∈ (numL q num old).2.2.foldl (fun acc a => insA a acc) [], 0 ≤ a.1 ∧ a.1 ≤ 1025 ∧ 0 ≤ a.2 ∧ a.2 < ((numL q num old).2.1.length : Int) := fun a ha => by
    rw [mem_foldl_ins] at ha
    rcases ha with ha | ha
    ·simp at ha
    ·rw [hm1] at ha
     obtain ⟨b, hb1, rfl⟩ := List.mem_map.1 ha
     obtain ⟨x, hx, hp⟩ := hm2 b hb1
     have h1 := hqe b hb1
     have h2 := (List.getElem?_eq_some_iff.1 (hI2.inj _ _ hx hp)).1
     simp only [List.getD_eq_getElem?_getD, hx, Option.getD_some]
     omega
   rw [hm1, List.length_map] at hrl
   simp only [List.length_nil, Nat.zero_add] at hrl
   rw [← hm1] at hrl
   generalize (numL q num old).2.2.foldl (fun acc a => insA a acc) [] = nr at *
   generalize (numL q num old).1 = num2 at *
   generalize (numL q num old).2.1 = old2 at *
   obtain ⟨k1, k2, k3, k4⟩ := ih (i + 1) num2 old2 (out ++ [nr]) (V.set s.toNat []) hN2 hI2 hS2 (by simp; omega) (by omega) (by omega) ⟨fun r hr => by
    rcases List.mem_append.1 hr with h | h
    ·exact hG.so r h
    ·simp at h; subst h; exact hrow, fun r hr a ha => by
    rcases List.mem_append.1 hr with h | h
    ·have := hG.bd r h a ha; omega
    ·simp at h; subst h; exact hrb a ha⟩ (by simp [hVl]) (fun t htl hto => by
    have hne : s.toNat ≠ t := fun e => hto i (by omega) (by rw [hold i s hs]; congr 1; omega)
    rw [List.getD_eq_getElem?_getD, List.getElem?_set_ne hne, ← List.getD_eq_getElem?_getD]
    exact hV t htl fun j hj he => hto j (by omega) (hold j _ he)) (by rw [totA_snoc]; omega)
   exact ⟨by omega, k2, k3, k4⟩
theorem canonR_val {R : List (List Ar)} (h : looB R = true) : valB (canonR R).1 = true := by
 have hp : LooP R := of_decide_eq_true h
 have h1 := hp.1
 obtain ⟨k1, k2, k3, k4⟩ := canGo_val (B := totA R) hp.2.2.2 R.length 0 _ _ [] R (NumOk.start h1) (NumInj.start h1) (NumSur.start h1) rfl (by simp) (by omega) ⟨by simp, by simp⟩ rfl (fun _ _ _ => rfl) (by simp [totA])
 have h2 := hp.2.1
 have h3 := hp.2.2.1
 simp only [List.length_singleton] at k1
 exact decide_eq_true ⟨⟨k1, Nat.le_trans k2 h2, Nat.le_trans k4 h3, k3.bd⟩, k3.so⟩
end Go.Proofs.Ythlckclbjknldaa
