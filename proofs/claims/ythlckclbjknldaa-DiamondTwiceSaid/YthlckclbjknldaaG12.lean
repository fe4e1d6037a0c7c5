/- Visible, Event, Set: numbers and sets drawn from the tape. A system drawn from the tape. Nil slices in a row's cells, as empty frozen ones. Systems copied. -/
import Derived.Test.YthlckclbjknldaaMF
import Derived.Test.YthlckclbjknldaaG11
import Derived.Test.YthlckclbjknldaaMD
import Derived.Test.YthlckclbjknldaaMlz
import Derived.Test.YthlckclbjknldaaMnil
namespace Go.Proofs.Ythlckclbjknldaa
set_option linter.unusedVariables false
set_option linter.unusedSimpArgs false
open Go.RowKit
set_option maxRecDepth 100000

def evLits : List Int := [0, 0, 2, 3, 4, 2, 3, 1, 2, 5, 1025]
theorem evLits_b : ∀ x ∈ evLits, 0 ≤ x ∧ x ≤ 1025 := by decide
theorem evLits_len : evLits.length = 11 := rfl
theorem evLits_take : evLits.take 11 = evLits := rfl
theorem event_fc (T : List Int) (hT : TpOk T) (a : Nat) (ha : a ≤ 100000000) : FC Try.prog 13 [.a (.c (.p 0 0))] [tape T a] (fun r o => o = [tape T (a + 1)] ∧ ∃ v : Int, r = .i v ∧ 0 ≤ v ∧ v ≤ 1025) := by
 refine fc_intro Try.func13 rfl (by rw [Try.ntmps13]; simp) ?_
 rw [Try.ntmps13]
 simp only [enum, tape]
 (repeat (first | (refine aw_seq ?_; intro K hK) | refine aw_block ?_ | refine aw_region ?_ | (refine lst_x rfl rfl ?_; intro K1 hK1; simp only [go_sem, List.set_cons_zero, List.set_cons_succ]; (first | refine hK1 _ ?_ | refine andk (hK1 _ ?_)); clear hK1 K1) | ((first | refine lst_nil ?_ | refine aw_skip ?_); refine hK _ ?_; clear hK K)))
 (refine lst_le (le_frz (r := ⟨3, 1, true, cInts evLits⟩) 1 (tInts evLits) rfl (fz_c _) (show 0 < (1 : Nat) by omega)) ?_; simp only [ST.frz, A0.frz, AV.frz, C.frz, Nat.le_refl, List.set_cons_zero, List.set_cons_succ, go_sem, tInts_len, evLits_len, tInts_take, evLits_take])
 (repeat (first | (refine aw_seq ?_; intro K hK) | refine aw_block ?_ | refine aw_region ?_ | (refine lst_x rfl rfl ?_; intro K1 hK1; simp only [go_sem, tInts_len, evLits_len]; (first | refine hK1 _ ?_ | refine andk (hK1 _ ?_)); clear hK1 K1) | ((first | refine lst_nil ?_ | refine aw_skip ?_); refine hK _ ?_; clear hK K)))
 (refine lst_cons rfl ?_; intro K1 hK1; refine stp_callσ (ids := []) [0] (next_fc T a 11 hT (by omega) (by omega)) rfl rfl (by simp only [go_sem]) (by first | assumption | kernel_rfl) rfl rfl (by (simp only [List.map_append, List.append_nil, go_sem]) <;> rfl) (by (simp only [pkh, tape, go_sem]) <;> rfl) ?_ ?_)
 ·rintro _ _ ⟨rfl, v, rfl, _⟩; rfl
 rintro _ _ ⟨rfl, v, rfl, hv⟩
 (simp only [aInts, aSets, tape, List.append_nil, List.nil_append, List.length_map, go_sem]; refine hK1 _ ?_; clear hK1 K1)
 have hv2 : v < evLits.length := by rw [evLits_len]; omega
 (repeat (first | (refine aw_seq ?_; intro K hK) | refine aw_block ?_ | refine aw_region ?_ | (refine lst_x rfl rfl ?_; intro K1 hK1; simp only [go_sem, tInts_len, tInts_get (List.getElem?_eq_getElem hv2)]; (first | refine hK1 _ ?_ | refine andk (hK1 _ ?_)); clear hK1 K1) | ((first | refine lst_nil ?_ | refine aw_skip ?_); refine hK _ ?_; clear hK K)))
 ((try refine aw_ret ?_); (try simp only [ThenA, InBl]); refine ret_le (le_pick [0] rfl rfl) ?_; (try simp only [List.set_nil, List.take_nil, List.take_zero, List.map_append, go_sem]); ((try refine aw_ret ?_); (try refine lst_nil ?_); (try simp only [ThenA, InBl]); refine ret_mk (by first | exact .inl rfl | exact .inr rfl) rfl ?_; simp only [rtn, resA, resL, resV, Try.results13, go_sem, true_and, and_true]))
 exact ⟨_, rfl, evLits_b _ (List.getElem_mem hv2)⟩

end Go.Proofs.Ythlckclbjknldaa
namespace Go.Proofs.Ythlckclbjknldaa
set_option linter.unusedVariables false
set_option linter.unusedSimpArgs false
open Go.RowKit
set_option maxRecDepth 100000

theorem rows_nil (m : Nat) : (List.replicate m (C.o (2, 34) [])).map otC = cRows (List.replicate m []) := by
 simp [cRows, otC, tArcs]
theorem okSys_nil (m : Nat) : OkSys 3 m (List.replicate m []) := ⟨by simp, fun r hr => by
 rw [List.mem_replicate] at hr
 rw [hr.2]
 exact ⟨by simp [SortA], by simp, by simp⟩⟩

/-- the object that a drawn system leaves behind -/
def oLts (R : List (List Ar)) : Ob := .r ⟨27, 1, false, [.t 1 (tRows R)]⟩
end Go.Proofs.Ythlckclbjknldaa
namespace Go.Proofs.Ythlckclbjknldaa
set_option linter.unusedVariables false
set_option linter.unusedSimpArgs false
open Go.RowKit

def ntC (k : Nat) : C → C
 | .o k cs => .t k.1 cs
 | .v (.slice none 0 0) => .t k []
 | c => c
def ntA : List Nat → List C → List C
 | k :: ks, c :: cs => ntC k c :: ntA ks cs
 | [], c :: cs => otC c :: ntA [] cs
 | _, [] => []
theorem ntC_cases (k : Nat) (c : C) : ntC k c = otC c ∨ (c = .v (.slice none 0 0) ∧ ntC k c = .t k []) := by
 unfold ntC
 split
 ·exact .inl rfl
 ·exact .inr ⟨rfl, rfl⟩
 ·rename_i h1 h2
  refine .inl ?_
  cases c <;> first | rfl | exact absurd rfl (h1 _ _)
theorem ntA_get {ks : List Nat} {cs : List C} {j : Nat} {c : C} (h : (ntA ks cs)[j]? = some c) : ∃ c0, cs[j]? = some c0 ∧ (c = otC c0 ∨ ∃ k, c0 = .v (.slice none 0 0) ∧ c = .t k []) := by
 induction cs generalizing ks j with
 | nil => cases ks <;> simp [ntA] at h
 | cons x r ih =>
  cases ks with
  | nil =>
   cases j with
   | zero => simp [ntA] at h; exact ⟨x, rfl, .inl h.symm⟩
   | succ j => simp [ntA] at h; obtain ⟨c0, h1, h2⟩ := ih h; exact ⟨c0, by simpa using h1, h2⟩
  | cons k ks =>
   cases j with
   | zero =>
    simp [ntA] at h
    refine ⟨x, rfl, ?_⟩
    rcases ntC_cases k x with e | ⟨e1, e2⟩
    ·exact .inl (by rw [← h, e])
    ·exact .inr ⟨k, e1, by rw [← h, e2]⟩
   | succ j => simp [ntA] at h; obtain ⟨c0, h1, h2⟩ := ih h; exact ⟨c0, by simpa using h1, h2⟩
theorem ntA_no {ks : List Nat} {cs : List C} {j : Nat} {k : Nat × Nat} {ts : List Tr} : (ntA ks cs)[j]? ≠ some (.o k ts) := by
 intro h
 obtain ⟨c0, _, h | ⟨_, _, h⟩⟩ := ntA_get h
 ·exact otC_no h.symm
 ·cases h
theorem ntA_len (ks : List Nat) (cs : List C) : (ntA ks cs).length = cs.length := by
 induction cs generalizing ks with
 | nil => cases ks <;> rfl
 | cons x r ih => cases ks <;> simp [ntA, ih]
theorem le_nt {s : ST} (i : Nat) (ks : List Nat) {r : Row} (hi : s.hp[i]? = some (.r r)) : Le s { s with hp := s.hp.set i (.r { r with cells := ntA ks r.cells }) } := by
 rintro M0 w0 a w ⟨g, hpp, hR⟩
 have hlt : i < s.hp.length := (List.getElem?_eq_some_iff.1 hi).1
 have self : (s.hp.set i (.r { r with cells := ntA ks r.cells }))[i]? = some (.r { r with cells := ntA ks r.cells }) := by simp [hlt]
 have other : ∀ q, q ≠ i → (s.hp.set i (.r { r with cells := ntA ks r.cells }))[q]? = s.hp[q]? := fun q hq => by rw [List.getElem?_set_ne (Ne.symm hq)]
 generalize hh : s.hp.set i (.r { r with cells := ntA ks r.cells }) = hp' at *
 have ncl : ∀ j, ¬ Lv hp' g (.cl i j) := by
  rintro j ⟨r2, k, cs, e1, e2, _⟩
  rw [self] at e1
  cases e1
  exact ntA_no e2
 have sub : ∀ ℓ, Lv hp' g ℓ → Lv s.hp g ℓ := by
  intro ℓ hl
  cases ℓ with
  | ob q =>
   by_cases hq : q = i
   ·subst hq
    rcases hl with ⟨r2, e1, e2⟩ | ⟨kv, e1⟩
    ·exact .inl ⟨r, hi, e2⟩
    ·rw [self] at e1; cases e1
   ·rcases hl with ⟨r2, e1, e2⟩ | ⟨kv, e1⟩
    ·exact .inl ⟨r2, by rw [← other q hq]; exact e1, e2⟩
    ·exact .inr ⟨kv, by rw [← other q hq]; exact e1⟩
  | cl q j =>
   by_cases hq : q = i
   ·subst hq; exact absurd hl (ncl j)
   ·obtain ⟨r2, k, cs, e1, e2, e3⟩ := hl
    exact ⟨r2, k, cs, by rw [← other q hq]; exact e1, e2, e3⟩
 have ow : ∀ b, Ow hp' g b → Ow s.hp g b := fun b ho => ho.imp (fun h => h) (fun ⟨ℓ, hl, e⟩ => ⟨ℓ, sub ℓ hl, e⟩)
 have hm : Mo g s.hp w g hp' w (fun _ => True) := by
  refine ⟨fun q hq => ⟨?_, rfl, rfl⟩, fun b _ ho => ow b ho, Nat.le_refl _, fun _ _ _ => rfl, fun q _ hq r2 j k cs e1 e2 => ?_⟩
  ·by_cases e : q = i
   ·subst e; exact ⟨_, self, rfl⟩
   ·obtain ⟨o, h1, h2⟩ := hq
    exact ⟨o, by rw [other q e]; exact h1, h2⟩
  ·by_cases e : q = i
   ·subst e
    rw [self] at e1
    cases e1
    exact absurd e2 ntA_no
   ·exact ⟨r2, by rw [← other q e]; exact e1, e2, fun _ => rfl⟩
 have hr := hR.hr
 refine ⟨g, ⟨by show s.pin ≤ hp'.length; rw [← hh]; simpa using hpp.1, hpp.2⟩, hR.mo hm ?_ (fun ℓ hl => hR.new ℓ (sub ℓ hl)) hR.fp⟩
 refine ⟨hr.ml, fun ℓ hl => hr.md ℓ (sub ℓ hl), fun ℓ ℓ' h1 h2 => hr.inj ℓ ℓ' (sub ℓ h1) (sub ℓ' h2), fun q r2 e1 => ?_, fun q kv e1 => ?_, hm.gl hr.gl⟩
 ·by_cases e : q = i
  ·subst e
   rw [self] at e1
   cases e1
   rcases hr.row q r hi with ⟨k1, k2⟩ | ⟨k1, k2, arr, k3, k4, k5, k6, k7⟩
   ·exact .inl ⟨k1, by simp [k2, ntA]⟩
   ·refine .inr ⟨k1, fun h1 h2 => k2 h1 (List.length_eq_zero_iff.1 (by rw [← ntA_len ks]; exact List.length_eq_zero_iff.2 h2)), arr, k3, by simpa [ntA_len] using k4, k5, k6, fun j c hj => ?_⟩
    obtain ⟨c0, hc0, hcc⟩ := ntA_get hj
    obtain ⟨u, u1, u2⟩ := k7 j c0 hc0
    refine ⟨u, u1, ?_⟩
    rcases hcc with rfl | ⟨k, rfl, rfl⟩
    ·cases c0 with
     | o k cs => exact rd_of_cell (t := .l k.1 cs) (fun b _ ho => ow b ho) hr hi ncl sub hc0 (.inl rfl) u2
     | _ => exact CellR.mo hm u2 (fun k cs hc => by cases hc)
    ·have hu : u = .slice none 0 0 := u2
     rw [hu]
     exact Rd.e _ _ _
  ·rw [other q e] at e1
   exact RowR.mo hm e1 (hr.row q r2 e1) (fun _ => rfl) (fun _ _ _ _ _ => ⟨rfl, rfl⟩)
 ·by_cases e : q = i
  ·subst e; rw [self] at e1; cases e1
  ·rw [other q e] at e1
   exact MpR.mo hm e1 (hr.mp q kv e1) rfl
end Go.Proofs.Ythlckclbjknldaa
namespace Go.Proofs.Ythlckclbjknldaa
set_option linter.unusedVariables false
set_option linter.unusedSimpArgs false
open Go.RowKit
set_option maxRecDepth 100000

/-- rows that a row of rows owns -/
def cRowsO (R : List (List Ar)) : List C := R.map fun r => C.o (2, 34) (tArcs r)
theorem cRowsO_len (xs : List (List Ar)) : (cRowsO xs).length = xs.length := by simp [cRowsO]
theorem cRowsO_get {xs : List (List Ar)} {i : Nat} {x : List Ar} (h : xs[i]? = some x) : (cRowsO xs)[i]? = some (.o (2, 34) (tArcs x)) := by simp [cRowsO, h]
theorem cRowsO_set (xs : List (List Ar)) (i : Nat) (x : List Ar) : (cRowsO xs).set i (.o (2, 34) (tArcs x)) = cRowsO (xs.set i x) := by simp [cRowsO, List.map_set]
theorem cRowsO_ren (f : List Nat) (L : List (List Ar)) : (cRowsO L).map (C.ren f) = cRowsO L := by simp [cRowsO, C.ren, Function.comp_def]
theorem cRowsO_ot (L : List (List Ar)) : (cRowsO L).map otC = cRows L := by simp [cRowsO, cRows, otC, Function.comp_def]
end Go.Proofs.Ythlckclbjknldaa
