/- A nil slice in a row's cell becomes an empty object. ref23.Canonical. Visible, Event, Set: numbers and sets drawn from the tape. A system drawn from the tape. Nil slices in a row's cells, as empty frozen ones. Systems copied. diamond.TauLoops. ref28.TauLoops. diamond.TauLoops at a system that is not valid. ref23: SameRow, Same at equal systems. Systems spoiled. Systems drawn as rows of the caller's: LTS; Chain. Calm; Huge. Bounds of the canonical form, Same at nil systems, Chain at 8. The delay quotient's canonical form against the system: the plain law of DelayCompress. -/
import Derived.Test.YtahnebicgbjonaaMD
import Derived.Test.YtahnebicgbjonaaG45
import Derived.Test.YtahnebicgbjonaaMG
import Derived.Test.YtahnebicgbjonaaZk
import Derived.Test.YtahnebicgbjonaaMF
import Derived.Test.YtahnebicgbjonaaG11
import Derived.Test.YtahnebicgbjonaaMlz
import Derived.Test.YtahnebicgbjonaaG42
import Derived.Test.YtahnebicgbjonaaOd1
namespace Go.Proofs.Ytahnebicgbjonaa
set_option linter.unusedVariables false
set_option linter.unusedSimpArgs false
open Go.RowKit

theorem le_cell {s : ST} (i j id : Nat) {r : Row} {e0 k0 : Nat} (hne : i ≠ id) (hi : s.hp[i]? = some (.r r)) (hj : r.cells[j]? = some (.v (.slice none 0 0))) (hid : s.hp[id]? = some (.r ⟨e0, k0, true, []⟩)) : Le s { s with hp := s.hp.set i (.r { r with cells := r.cells.set j (.s id 0) }) } := by
 rintro M0 w0 a w ⟨g, hpp, hR⟩
 have hlt : i < s.hp.length := (List.getElem?_eq_some_iff.1 hi).1
 have hjl : j < r.cells.length := (List.getElem?_eq_some_iff.1 hj).1
 have self : (s.hp.set i (.r { r with cells := r.cells.set j (.s id 0) }))[i]? = some (.r { r with cells := r.cells.set j (.s id 0) }) := by simp [hlt]
 have other : ∀ q, q ≠ i → (s.hp.set i (.r { r with cells := r.cells.set j (.s id 0) }))[q]? = s.hp[q]? := fun q hq => by rw [List.getElem?_set_ne (Ne.symm hq)]
 have cel : ∀ q c, (r.cells.set j (.s id 0))[q]? = some c → (q = j ∧ c = .s id 0) ∨ (q ≠ j ∧ r.cells[q]? = some c) := by
  intro q c hq
  by_cases e : q = j
  ·subst e; rw [List.getElem?_set_self hjl] at hq; cases hq; exact .inl ⟨rfl, rfl⟩
  ·rw [List.getElem?_set_ne (Ne.symm e)] at hq; exact .inr ⟨e, hq⟩
 generalize hh : s.hp.set i (.r { r with cells := r.cells.set j (.s id 0) }) = hp' at *
 have sub : ∀ ℓ, Lv hp' g ℓ → Lv s.hp g ℓ := by
  intro ℓ hl
  cases ℓ with
  | ob q =>
   by_cases hq : q = i
   ·subst hq
    rcases hl with ⟨r2, e1, e2⟩ | ⟨kv, e1⟩
    ·exact .inl ⟨r, hi, e2⟩
    ·rw [self] at e1; cases e1
   ·rcases hl with ⟨r2, e1, e2⟩ | ⟨kv, e1⟩
    ·exact .inl ⟨r2, by rw [← other q hq]; exact e1, e2⟩
    ·exact .inr ⟨kv, by rw [← other q hq]; exact e1⟩
  | cl q j2 =>
   obtain ⟨r2, k, cs, e1, e2, e3⟩ := hl
   by_cases hq : q = i
   ·subst hq
    rw [self] at e1
    cases e1
    rcases cel j2 _ e2 with ⟨_, h⟩ | ⟨_, h⟩
    ·cases h
    ·exact ⟨r, k, cs, hi, h, e3⟩
   ·exact ⟨r2, k, cs, by rw [← other q hq]; exact e1, e2, e3⟩
 have ow : ∀ b, Ow hp' g b → Ow s.hp g b := fun b ho => ho.imp (fun h => h) (fun ⟨ℓ, hl, e⟩ => ⟨ℓ, sub ℓ hl, e⟩)
 have hm : Mo g s.hp w g hp' w (fun _ => True) := by
  refine ⟨fun q hq => ⟨?_, rfl, rfl⟩, fun b _ ho => ow b ho, Nat.le_refl _, fun _ _ _ => rfl, fun q _ hq r2 j2 k cs e1 e2 => ?_⟩
  ·by_cases e : q = i
   ·subst e; exact ⟨_, self, rfl⟩
   ·obtain ⟨o, h1, h2⟩ := hq
    exact ⟨o, by rw [other q e]; exact h1, h2⟩
  ·by_cases e : q = i
   ·subst e
    rw [self] at e1
    cases e1
    rcases cel j2 _ e2 with ⟨_, h⟩ | ⟨_, h⟩
    ·cases h
    ·exact ⟨r, hi, h, fun _ => rfl⟩
   ·exact ⟨r2, by rw [← other q e]; exact e1, e2, fun _ => rfl⟩
 have hr := hR.hr
 refine ⟨g, ⟨by show s.pin ≤ hp'.length; rw [← hh]; simpa using hpp.1, hpp.2⟩, hR.mo hm ?_ (fun ℓ hl => hR.new ℓ (sub ℓ hl)) hR.fp⟩
 refine ⟨hr.ml, fun ℓ hl => hr.md ℓ (sub ℓ hl), fun ℓ ℓ' h1 h2 => hr.inj ℓ ℓ' (sub ℓ h1) (sub ℓ' h2), fun q r2 e1 => ?_, fun q kv e1 => ?_, hm.gl hr.gl⟩
 ·by_cases e : q = i
  ·subst e
   rw [self] at e1
   cases e1
   rcases hr.row q r hi with ⟨k1, k2⟩ | ⟨k1, k2, arr, k3, k4, k5, k6, k7⟩
   ·rw [k2] at hj; simp at hj
   ·refine .inr ⟨k1, fun h1 h2 => k2 h1 (List.length_eq_zero_iff.1 (by rw [← List.length_set (i := j) (a := C.s id 0)]; exact List.length_eq_zero_iff.2 h2)), arr, k3, by simpa using k4, k5, k6, fun j2 c hj2 => ?_⟩
    rcases cel j2 c hj2 with ⟨rfl, rfl⟩ | ⟨_, h⟩
    ·obtain ⟨u, u1, u2⟩ := k7 j2 _ hj
     have hu : u = .slice none 0 0 := u2
     refine ⟨u, u1, ?_⟩
     have hκ : g.κ id = 0 := by
      rcases hr.row id _ hid with ⟨z, _⟩ | ⟨_, z, _⟩
      ·exact z
      ·exact absurd rfl (z rfl)
     have hid' : hp'[id]? = some (.r ⟨e0, k0, true, []⟩) := by rw [other id (Ne.symm hne)]; exact hid
     exact ⟨⟨_, hid', rfl⟩, Nat.zero_le _, none, by rw [hu, hκ], fun hn => absurd hκ hn, by simp⟩
    ·obtain ⟨u, u1, u2⟩ := k7 j2 c h
     exact ⟨u, u1, CellR.mo hm u2 (fun k cs hc _ => ⟨rfl, rfl⟩)⟩
  ·rw [other q e] at e1
   exact RowR.mo hm e1 (hr.row q r2 e1) (fun _ => rfl) (fun _ _ _ _ _ => ⟨rfl, rfl⟩)
 ·by_cases e : q = i
  ·subst e; rw [self] at e1; cases e1
  ·rw [other q e] at e1
   exact MpR.mo hm e1 (hr.mp q kv e1) rfl
theorem le_new {s : ST} (e k : Nat) : Le s { s with hp := s.hp ++ [.r ⟨e, k, true, []⟩] } := by
 rintro M0 w0 a w ⟨g, hpp, hR⟩
 have hb := hR.birth0 (w' := w) (hp' := s.hp ++ [.r ⟨e, k, true, []⟩]) (id := s.hp.length) (r := ⟨e, k, true, []⟩) bn_len (push_ne _) (push_self _) rfl (Fp.refl _ _)
 exact ⟨_, ⟨by have := hpp.1; simp; omega, hpp.2.trans (ext_at hpp.1)⟩, hb⟩
set_option maxRecDepth 100000
attribute [local go_sem] List.set_cons_zero List.set_cons_succ List.map_cons List.map_nil List.take_succ_cons List.take_zero List.drop_zero List.drop_succ_cons C.pl C.one List.all_cons List.all_nil Bool.and_true Nat.mul_one Int.toNat_natCast
end Go.Proofs.Ytahnebicgbjonaa
namespace Go.Proofs.Ytahnebicgbjonaa
set_option linter.unusedVariables false
set_option linter.unusedSimpArgs false
open Go.RowKit
set_option maxRecDepth 100000

def evLits : List Int := [0, 0, 2, 3, 4, 2, 3, 1, 2, 5, 1025]
theorem evLits_b : ∀ x ∈ evLits, 0 ≤ x ∧ x ≤ 1025 := by decide
theorem evLits_len : evLits.length = 11 := rfl
theorem evLits_take : evLits.take 11 = evLits := rfl
theorem event_fc (T : List Int) (hT : TpOk T) (a : Nat) (ha : a ≤ 100000000) : FC Try.prog 12 [.a (.c (.p 0 0))] [tape T a] (fun r o => o = [tape T (a + 1)] ∧ ∃ v : Int, r = .i v ∧ 0 ≤ v ∧ v ≤ 1025) := by
 refine fc_intro Try.func12 rfl (by rw [Try.ntmps12]; simp) ?_
 rw [Try.ntmps12]
 simp only [enum, tape]
 (refine wk1 (an @List.set_cons_zero.{0} @List.set_cons_succ.{0}) ?_;(repeat clear hK K);repeat refine kq fun K hK=>?_)
 (refine lst_le (le_frz (r := ⟨3, 1, true, cInts evLits⟩) 1 (tInts evLits) rfl (fz_c _) (show 0 < (1 : Nat) by omega)) ?_; simp only [ST.frz, A0.frz, AV.frz, C.frz, Nat.le_refl, List.set_cons_zero, List.set_cons_succ, go_sem, tInts_len, evLits_len, tInts_take, evLits_take])
 (refine wk1 (an @tInts_len @evLits_len) ?_;(repeat clear hK K);repeat refine kq fun K hK=>?_)
 (refine lst_cons rfl ?_; intro K1 hK1; refine ct [0] (next_fc T a 11 hT (by omega) (by omega)) ?_ ?_)
 ·rintro _ _ ⟨rfl, v, rfl, _⟩; rfl
 rintro _ _ ⟨rfl, v, rfl, hv⟩
 (simp only [aInts, aSets, tape, List.append_nil, List.nil_append, List.length_map, go_sem]; refine hK1 _ ?_; clear hK1 K1)
 have hv2 : v < evLits.length := by rw [evLits_len]; omega
 (refine wk1 (an @tInts_len (tInts_get (List.getElem?_eq_getElem hv2))) ?_;(repeat clear hK K);repeat refine kq fun K hK=>?_)
 refine rp0 [0] Try.results12 ?_
 exact ⟨_, rfl, evLits_b _ (List.getElem_mem hv2)⟩

theorem rows_nil (m : Nat) : (List.replicate m (C.o (2, 42) [])).map otC = cRows (List.replicate m []) := by
 simp [cRows, otC, tArcs]
theorem okSys_nil (m : Nat) : OkSys 3 m (List.replicate m []) := ⟨by simp, fun r hr => by
 rw [List.mem_replicate] at hr
 rw [hr.2]
 exact ⟨by simp [SortA], by simp, by simp⟩⟩

def oLts (R : List (List Ar)) : Ob := .r ⟨27, 1, false, [.t 1 (tRows R)]⟩
def ntC (k : Nat) : C → C
 | .o k cs => .t k.1 cs
 | .v (.slice none 0 0) => .t k []
 | c => c
def ntA : List Nat → List C → List C
 | k :: ks, c :: cs => ntC k c :: ntA ks cs
 | [], c :: cs => otC c :: ntA [] cs
 | _, [] => []
theorem ntC_cases (k : Nat) (c : C) : ntC k c = otC c ∨ (c = .v (.slice none 0 0) ∧ ntC k c = .t k []) := by
 unfold ntC
 split
 ·exact .inl rfl
 ·exact .inr ⟨rfl, rfl⟩
 ·rename_i h1 h2
  refine .inl ?_
  cases c <;> first | rfl | exact absurd rfl (h1 _ _)
theorem ntA_get {ks : List Nat} {cs : List C} {j : Nat} {c : C} (h : (ntA ks cs)[j]? = some c) : ∃ c0, cs[j]? = some c0 ∧ (c = otC c0 ∨ ∃ k, c0 = .v (.slice none 0 0) ∧ c = .t k []) := by
 induction cs generalizing ks j with
 | nil => cases ks <;> simp [ntA] at h
 | cons x r ih =>
  cases ks with
  | nil =>
   cases j with
   | zero => simp [ntA] at h; exact ⟨x, rfl, .inl h.symm⟩
   | succ j => simp [ntA] at h; obtain ⟨c0, h1, h2⟩ := ih h; exact ⟨c0, by simpa using h1, h2⟩
  | cons k ks =>
   cases j with
   | zero =>
    simp [ntA] at h
    refine ⟨x, rfl, ?_⟩
    rcases ntC_cases k x with e | ⟨e1, e2⟩
    ·exact .inl (by rw [← h, e])
    ·exact .inr ⟨k, e1, by rw [← h, e2]⟩
   | succ j => simp [ntA] at h; obtain ⟨c0, h1, h2⟩ := ih h; exact ⟨c0, by simpa using h1, h2⟩
theorem ntA_no {ks : List Nat} {cs : List C} {j : Nat} {k : Nat × Nat} {ts : List Tr} : (ntA ks cs)[j]? ≠ some (.o k ts) := by
 intro h
 obtain ⟨c0, _, h | ⟨_, _, h⟩⟩ := ntA_get h
 ·exact otC_no h.symm
 ·cases h
theorem ntA_len (ks : List Nat) (cs : List C) : (ntA ks cs).length = cs.length := by
 induction cs generalizing ks with
 | nil => cases ks <;> rfl
 | cons x r ih => cases ks <;> simp [ntA, ih]
theorem le_nt {s : ST} (i : Nat) (ks : List Nat) {r : Row} (hi : s.hp[i]? = some (.r r)) : Le s { s with hp := s.hp.set i (.r { r with cells := ntA ks r.cells }) } := by
 rintro M0 w0 a w ⟨g, hpp, hR⟩
 have hlt : i < s.hp.length := (List.getElem?_eq_some_iff.1 hi).1
 have self : (s.hp.set i (.r { r with cells := ntA ks r.cells }))[i]? = some (.r { r with cells := ntA ks r.cells }) := by simp [hlt]
 have other : ∀ q, q ≠ i → (s.hp.set i (.r { r with cells := ntA ks r.cells }))[q]? = s.hp[q]? := fun q hq => by rw [List.getElem?_set_ne (Ne.symm hq)]
 generalize hh : s.hp.set i (.r { r with cells := ntA ks r.cells }) = hp' at *
 have ncl : ∀ j, ¬ Lv hp' g (.cl i j) := by
  rintro j ⟨r2, k, cs, e1, e2, _⟩
  rw [self] at e1
  cases e1
  exact ntA_no e2
 have sub : ∀ ℓ, Lv hp' g ℓ → Lv s.hp g ℓ := by
  intro ℓ hl
  cases ℓ with
  | ob q =>
   by_cases hq : q = i
   ·subst hq
    rcases hl with ⟨r2, e1, e2⟩ | ⟨kv, e1⟩
    ·exact .inl ⟨r, hi, e2⟩
    ·rw [self] at e1; cases e1
   ·rcases hl with ⟨r2, e1, e2⟩ | ⟨kv, e1⟩
    ·exact .inl ⟨r2, by rw [← other q hq]; exact e1, e2⟩
    ·exact .inr ⟨kv, by rw [← other q hq]; exact e1⟩
  | cl q j =>
   by_cases hq : q = i
   ·subst hq; exact absurd hl (ncl j)
   ·obtain ⟨r2, k, cs, e1, e2, e3⟩ := hl
    exact ⟨r2, k, cs, by rw [← other q hq]; exact e1, e2, e3⟩
 have ow : ∀ b, Ow hp' g b → Ow s.hp g b := fun b ho => ho.imp (fun h => h) (fun ⟨ℓ, hl, e⟩ => ⟨ℓ, sub ℓ hl, e⟩)
 have hm : Mo g s.hp w g hp' w (fun _ => True) := by
  refine ⟨fun q hq => ⟨?_, rfl, rfl⟩, fun b _ ho => ow b ho, Nat.le_refl _, fun _ _ _ => rfl, fun q _ hq r2 j k cs e1 e2 => ?_⟩
  ·by_cases e : q = i
   ·subst e; exact ⟨_, self, rfl⟩
   ·obtain ⟨o, h1, h2⟩ := hq
    exact ⟨o, by rw [other q e]; exact h1, h2⟩
  ·by_cases e : q = i
   ·subst e
    rw [self] at e1
    cases e1
    exact absurd e2 ntA_no
   ·exact ⟨r2, by rw [← other q e]; exact e1, e2, fun _ => rfl⟩
 have hr := hR.hr
 refine ⟨g, ⟨by show s.pin ≤ hp'.length; rw [← hh]; simpa using hpp.1, hpp.2⟩, hR.mo hm ?_ (fun ℓ hl => hR.new ℓ (sub ℓ hl)) hR.fp⟩
 refine ⟨hr.ml, fun ℓ hl => hr.md ℓ (sub ℓ hl), fun ℓ ℓ' h1 h2 => hr.inj ℓ ℓ' (sub ℓ h1) (sub ℓ' h2), fun q r2 e1 => ?_, fun q kv e1 => ?_, hm.gl hr.gl⟩
 ·by_cases e : q = i
  ·subst e
   rw [self] at e1
   cases e1
   rcases hr.row q r hi with ⟨k1, k2⟩ | ⟨k1, k2, arr, k3, k4, k5, k6, k7⟩
   ·exact .inl ⟨k1, by simp [k2, ntA]⟩
   ·refine .inr ⟨k1, fun h1 h2 => k2 h1 (List.length_eq_zero_iff.1 (by rw [← ntA_len ks]; exact List.length_eq_zero_iff.2 h2)), arr, k3, by simpa [ntA_len] using k4, k5, k6, fun j c hj => ?_⟩
    obtain ⟨c0, hc0, hcc⟩ := ntA_get hj
    obtain ⟨u, u1, u2⟩ := k7 j c0 hc0
    refine ⟨u, u1, ?_⟩
    rcases hcc with rfl | ⟨k, rfl, rfl⟩
    ·cases c0 with
     | o k cs => exact rd_of_cell (t := .l k.1 cs) (fun b _ ho => ow b ho) hr hi ncl sub hc0 (.inl rfl) u2
     | _ => exact CellR.mo hm u2 (fun k cs hc => by cases hc)
    ·have hu : u = .slice none 0 0 := u2
     rw [hu]
     exact Rd.e _ _ _
  ·rw [other q e] at e1
   exact RowR.mo hm e1 (hr.row q r2 e1) (fun _ => rfl) (fun _ _ _ _ _ => ⟨rfl, rfl⟩)
 ·by_cases e : q = i
  ·subst e; rw [self] at e1; cases e1
  ·rw [other q e] at e1
   exact MpR.mo hm e1 (hr.mp q kv e1) rfl
def cRowsO (R : List (List Ar)) : List C := R.map fun r => C.o (2, 42) (tArcs r)
theorem cRowsO_len (xs : List (List Ar)) : (cRowsO xs).length = xs.length := by simp [cRowsO]
theorem cRowsO_get {xs : List (List Ar)} {i : Nat} {x : List Ar} (h : xs[i]? = some x) : (cRowsO xs)[i]? = some (.o (2, 42) (tArcs x)) := by simp [cRowsO, h]
theorem cRowsO_set (xs : List (List Ar)) (i : Nat) (x : List Ar) : (cRowsO xs).set i (.o (2, 42) (tArcs x)) = cRowsO (xs.set i x) := by simp [cRowsO, List.map_set]
theorem cRowsO_ren (f : List Nat) (L : List (List Ar)) : (cRowsO L).map (C.ren f) = cRowsO L := by simp [cRowsO, C.ren, Function.comp_def]
theorem cRowsO_ot (L : List (List Ar)) : (cRowsO L).map otC = cRows L := by simp [cRowsO, cRows, otC, Function.comp_def]
attribute [local go_sem] List.set_cons_zero List.set_cons_succ List.map_cons List.map_nil List.take_succ_cons List.take_zero List.drop_zero List.drop_succ_cons C.pl C.one List.all_cons List.all_nil Bool.and_true Nat.mul_one Int.toNat_natCast
theorem set_two2 (L : List C) (s : Nat) (x y : C) : (L.set s x).set s y = L.set s y := by simp
theorem arcNe_s (x y : Operand) (a : Ar) : aggEq Try.prog .neq 42 x y [.int .i64 a.1, .int .i64 a.2] [.int .i64 a.1, .int .i64 a.2] false = True := by
 have h := arcNe_d x y a a
 rw [decide_eq_true (rfl : a = a)] at h
 exact h
theorem sameRow_fc (r : List Ar) (hn : r.length ≤ 1000000) : FC Try.prog 31 [.a (.c (.t 2 (tArcs r))), .a (.c (.t 2 (tArcs r)))] [] (fun x o => o = [] ∧ x = .b true) := by
 refine fc_intro Try.func31 rfl (by rw [Try.ntmps31]; simp) ?_
 rw [Try.ntmps31]
 simp only [enum]
 have d0 : ((r.length : Int) != (r.length : Int)) = false := by simp
 (refine wk1 (an @tArcs_len (an @half2 @d0)) ?_;(repeat clear hK K);repeat refine kq fun K hK=>?_)
 refine cyz ?_
 (refine wk0 ?_;(repeat clear hK K);repeat refine kq fun K hK=>?_)
 refine aw_loop (fun k : Nat => { tm := [(0, .a (.c (.t 2 (tArcs r)))), (1, .a (.c (.t 2 (tArcs r)))), (5, .i k)], hp := [], n := 26, pin := 0 }) (fun k => k ≤ r.length) (fun k => r.length - k) 0 ?_ ?_ ?_
 ·omega
 ·exact lmz
 ·rintro k hk K hK
  by_cases hlt : k < r.length
  ·have d1 : decide ((k : Int) < (r.length : Int)) = true := by simpa using hlt
   have hat := tArcs_at hlt
   have d2 : (!decide (r[k] = r[k])) = false := by simp
   (refine wk1 (an @d1 (an @tArcs_len @half2)) ?_;(repeat clear hK K);repeat refine kq fun K hK=>?_)
   refine cxz ?_
   (refine wk0 ?_;(repeat clear hK K);repeat refine kq fun K hK=>?_)
   (refine aw_regionU 8 [(0, 0), (1, 0), (2, 0), (3, 1), (4, 0), (5, 0), (6, 0), (7, 1), (8, 2)] (by kernel_rfl) (by kernel_rfl) (by intro c st h; simp [ThenA, InBl, Ret] at h) ?_)
   (repeat (first | ((first | refine u_0x rfl rfl rfl ?_ | refine u_1x rfl rfl rfl ?_); intro K1 hK1; simp only [go_sem, hat, tArcs_len, half2, arcNe_s, arcEq_b, decide_true, Bool.not_true, beq_self_eq_true, Bool.and_self, true_and]; (first | refine hK1 _ ?_ | refine andk (hK1 _ ?_)); clear hK1 K1) | (refine u_2x rfl rfl rfl rfl ?_; intro K1 hK1; simp only [go_sem, hat, tArcs_len, half2, arcNe_s, arcEq_b, decide_true, Bool.not_true, beq_self_eq_true, Bool.and_self, true_and]; (first | refine hK1 _ ?_ | refine andk (hK1 _ ?_)); clear hK1 K1) | (refine u_nil ?_; refine hK _ ?_; clear hK K)))
   refine cyz ?_
   (refine wk0 ?_;(repeat clear hK K);repeat refine kq fun K hK=>?_)
   refine rnz ?_
   refine hK _ (k + 1) (by omega) (by omega) ?_
   exact lmz
  ·have d1 : decide ((k : Int) < (r.length : Int)) = false := by simpa using hlt
   (refine wk1 (an @d1 (an @tArcs_len @half2)) ?_;(repeat clear hK K);repeat refine kq fun K hK=>?_)
   refine cyz ?_
   (refine ekz ?_;repeat clear hK K)
   (refine wk0 ?_;(repeat clear hK K);repeat refine kq fun K hK=>?_)
   exact rpc0 [] Try.results31
theorem same_fc (R : List (List Ar)) (hn : R.length ≤ 1000000) (hr : ∀ r ∈ R, r.length ≤ 1000000) : FC Try.prog 19 [aLts R, aLts R] [] (fun x o => o = [] ∧ x = .b true) := by
 refine fc_intro Try.func19 rfl (by rw [Try.ntmps19]; simp) ?_
 rw [Try.ntmps19]
 simp only [enum, aLts]
 have d0 : ((R.length : Int) != (R.length : Int)) = false := by simp
 (refine wk1 (an @tRows_len @d0) ?_;(repeat clear hK K);repeat refine kq fun K hK=>?_)
 refine cyz ?_
 (refine wk0 ?_;(repeat clear hK K);repeat refine kq fun K hK=>?_)
 refine aw_loop (fun k : Nat => { tm := [(2, .a (.c (.p 0 0))), (3, .a (.c (.p 1 0))), (5, .i k)], hp := [.r ⟨27, 1, false, [.t 1 (tRows R)]⟩, .r ⟨27, 1, false, [.t 1 (tRows R)]⟩], n := 32, pin := 0 }) (fun k => k ≤ R.length) (fun k => R.length - k) 0 ?_ ?_ ?_
 ·omega
 ·exact lmz
 ·rintro k hk K hK
  by_cases hlt : k < R.length
  ·have d1 : decide ((k : Int) < (R.length : Int)) = true := by simpa using hlt
   have hg := List.getElem?_eq_getElem hlt
   (refine wk1 (an @d1 @tRows_len) ?_;(repeat clear hK K);repeat refine kq fun K hK=>?_)
   refine cxz ?_
   (refine wk0 ?_;(repeat clear hK K);repeat refine kq fun K hK=>?_)
   (refine aw_regionU 10 [(0, 0), (1, 1), (2, 0), (3, 0), (4, 1), (5, 0), (6, 1), (7, 0), (8, 0), (9, 1), (10, 2), (11, 0)] (by kernel_rfl) (by kernel_rfl) (by intro c st h; simp [ThenA, InBl, Ret] at h) ?_)
   (refine uk1 (an @tRows_len (tRows_get hg)) ?_; repeat clear hK K)
   (refine uckz (sameRow_fc R[k] (hr _ (List.getElem_mem hlt))) ?_; intro K1 hK1)
   rintro _ _ ⟨rfl, rfl⟩
   (refine bkz ?_; clear hK1 K1)
   (refine uk1 @Bool.not_true ?_; repeat clear hK K)
   refine cyz ?_
   (refine wk0 ?_;(repeat clear hK K);repeat refine kq fun K hK=>?_)
   refine rnz ?_
   refine hK _ (k + 1) (by omega) (by omega) ?_
   exact lmz
  ·have d1 : decide ((k : Int) < (R.length : Int)) = false := by simpa using hlt
   (refine wk1 (an @d1 @tRows_len) ?_;(repeat clear hK K);repeat refine kq fun K hK=>?_)
   refine cyz ?_
   (refine ekz ?_;repeat clear hK K)
   (refine wk0 ?_;(repeat clear hK K);repeat refine kq fun K hK=>?_)
   exact rpc0 [] Try.results19
attribute [local go_sem] List.set_cons_zero List.set_cons_succ List.map_cons List.map_nil List.take_succ_cons List.take_zero List.drop_zero List.drop_succ_cons C.pl C.one List.all_cons List.all_nil Bool.and_true
theorem ltsO_fc (T : List Int) (hT : TpOk T) (a0 n : Nat) (ha : a0 ≤ 1000000) (hn1 : 1 ≤ n) (hn : n ≤ 20) :
  FC Try.prog 10 [.a (.c (.p 0 0)), .i n] [tape T a0] (fun r o => ∃ (a' : Nat) (R : List (List Ar)), o = [tape T a', .r ⟨38, 1, true, cRows R⟩, .r ⟨27, 1, false, [.s 1 R.length]⟩] ∧ r = .a (.g [.s 1 R.length]) ∧ a' ≤ a0 + 1 + 7 * n ∧ 1 ≤ R.length ∧ R.length ≤ n ∧ OkSys 3 R.length R) := by
 refine fc_intro Try.func10 rfl (by rw [Try.ntmps10]; simp) ?_
 rw [Try.ntmps10]
 simp only [enum, tape, oLts]
 (refine wk0 ?_;(repeat clear hK K);repeat refine kq fun K hK=>?_)
 (refine lst_cons rfl ?_; intro K1 hK1; refine ct [0] (next_fc T a0 n hT (by omega) (by omega)) ?_ ?_)
 ·rintro _ _ ⟨rfl, v, rfl, _⟩; rfl
 rintro _ _ ⟨rfl, m, rfl, hm⟩
 (simp only [aInts, aSets, tape, List.append_nil, List.nil_append, List.length_map, go_sem]; refine hK1 _ ?_; clear hK1 K1)
 have em : (1 + (m : Int)).toNat = m + 1 := by omega
 (refine wk1 (an @em (an @List.set_cons_zero.{0} @List.set_cons_succ.{0})) ?_;(repeat clear hK K);repeat refine kq fun K hK=>?_)
 refine aw_le (le_ot 2 rfl) ?_
 simp only [rows_nil, List.set_cons_zero, List.set_cons_succ]
 refine aw_loop (fun p : Nat × List (List Ar) × Nat => { tm := [(0, .a (.c (.p 0 0))), (4, .a (.c (.p 1 0))), (5, .a (.c (.p 3 0))), (6, .i p.1)], hp := [.r ⟨37, 2, false, [.t 1 (tInts T), .v (.int .i64 p.2.2)]⟩, .r ⟨27, 1, false, [.v (.slice none 0 0)]⟩, .r ⟨38, 1, true, cRows p.2.1⟩, .r ⟨27, 1, false, [.s 2 (m + 1)]⟩], n := 46, pin := 1 })
  (fun p => p.1 ≤ m + 1 ∧ p.2.2 ≤ a0 + 1 + 7 * p.1 ∧ OkSys 3 (m + 1) p.2.1 ∧ ∀ q r, p.1 ≤ q → p.2.1[q]? = some r → r = []) (fun p => m + 1 - p.1) (0, List.replicate (m + 1) [], a0 + 1) ?_ ?_ ?_
 ·refine ⟨by simp, by simp, okSys_nil _, fun q r _ hr => ?_⟩
  exact List.eq_of_mem_replicate (List.mem_of_getElem? hr)
 ·exact lmz
 ·rintro ⟨i, R, a⟩ ⟨hi, hA, hR, hE⟩ K hK
  simp only at hi hA hR hE ⊢
  (refine wk0 ?_;(repeat clear hK K);repeat refine kq fun K hK=>?_)
  (refine aw_cnd ?_; intro X Y hX hY; simp only [go_sem])
  refine ⟨fun h => hX ?_, fun h => hY ?_⟩
  ·have hi1 : i < m + 1 := by simp at h; omega
   clear hX hY X Y
   (refine wk0 ?_;(repeat clear hK K);repeat refine kq fun K hK=>?_)
   (refine lst_cons rfl ?_; intro K1 hK1; refine ct [0] (next_fc T a 4 hT (by omega) (by omega)) ?_ ?_)
   ·rintro _ _ ⟨rfl, v, rfl, _⟩; rfl
   rintro _ _ ⟨rfl, w0, rfl, hw0⟩
   (simp only [aInts, aSets, tape, cRows_up, List.append_nil, List.nil_append, List.length_map, go_sem]; refine hK1 _ ?_; clear hK1 K1)
   (refine wk0 ?_;(repeat clear hK K);repeat refine kq fun K hK=>?_)
   refine aw_loop (fun p : Nat × List (List Ar) × Nat => { tm := [(0, .a (.c (.p 0 0))), (4, .a (.c (.p 1 0))), (5, .a (.c (.p 3 0))), (6, .i i), (7, .i p.1)], hp := [.r ⟨37, 2, false, [.t 1 (tInts T), .v (.int .i64 p.2.2)]⟩, .r ⟨27, 1, false, [.v (.slice none 0 0)]⟩, .r ⟨38, 1, true, cRows p.2.1⟩, .r ⟨27, 1, false, [.s 2 (m + 1)]⟩], n := 46, pin := 1 })
    (fun p => p.1 ≤ 3 ∧ p.2.2 + 2 * p.1 ≤ a + 7 ∧ OkSys 3 (m + 1) p.2.1 ∧ (∀ r, p.2.1[i]? = some r → r.length + p.1 ≤ 3) ∧ ∀ q r, i + 1 ≤ q → p.2.1[q]? = some r → r = []) (fun p => p.1) (w0, R, a + 1) ?_ ?_ ?_
   ·refine ⟨by simp only; omega, by simp only; omega, hR, fun r hr => ?_, fun q r hq hr => hE q r (by omega) hr⟩
    rw [hE i r (Nat.le_refl _) hr]; simp; omega
   ·exact lmz
   ·rintro ⟨w, R2, a2⟩ ⟨hw, hA2, hR2, hi2, hE2⟩ K hK
    simp only at hw hA2 hR2 hi2 hE2 ⊢
    have hl2 : i < R2.length := by rw [hR2.1]; exact hi1
    have hg2 := List.getElem?_eq_getElem hl2
    have hrow := hR2.2 _ (List.getElem_mem hl2)
    (refine wk0 ?_;(repeat clear hK K);repeat refine kq fun K hK=>?_)
    (refine aw_cnd ?_; intro X Y hX hY; simp only [go_sem])
    refine ⟨fun h => hX ?_, fun h => hY ?_⟩
    ·have hw1 : 0 < w := by simpa using h
     clear hX hY X Y
     (refine wk0 ?_;(repeat clear hK K);repeat refine kq fun K hK=>?_)
     refine aw_regionV [0] [(0,0,0),(2,0,0),(3,0,0),(5,0,0),(8,0,0),(10,0,0),(11,0,0),(1,1,18),(4,1,16),(6,0,0),(7,1,16),(12,1,14),(13,0,0),(9,2,0),(14,2,0),(15,0,0),(16,2,0),(17,0,0),(18,2,0)] (by kernel_rfl) (by kernel_rfl) (by intro c st h; simp [ThenA, InBl, Ret] at h) ?_
     (repeat (first | (refine v_0 rfl rfl rfl ?_; intro K1 hK1; simp only [undef, evR, go_sem, cRows_len, cRows_get hg2]; first | (refine hK1 _ ?_; clear hK1 K1) | (refine andk (hK1 _ ?_); clear hK1 K1)) | (refine v_1 rfl rfl rfl rfl rfl rfl rfl rfl rfl ?_; intro K1 hK1; simp only [undef, evR, go_sem, cRows_len, cRows_get hg2]; first | (refine hK1 _ ?_; clear hK1 K1) | (refine andk (hK1 _ ?_); clear hK1 K1))))
     (refine v_2 rfl rfl ?_; intro K1 hK1; refine stpX_call (ids := []) [0] (event_fc T hT a2 (by omega)) rfl rfl (by simp only [evR, go_sem]) (by kernel_rfl) rfl rfl rfl (by (simp only [evR, clos, List.map_append, List.append_nil, AV.ren, A0.ren, C.ren, idx, renIds, ofTr_ren, go_sem]) <;> rfl) (by (simp only [pkh, Ob.ren, C.ren, idx, renIds, ofTr_ren, List.getD_cons_zero, List.getD_cons_succ, tape, go_sem]) <;> rfl) ?_ ?_)
     ·rintro _ _ ⟨rfl, v, rfl, _⟩; exact born_one rfl
     rintro _ _ ⟨rfl, e, rfl, he⟩
     (simp only [aInts, aSets, tape, cRows_up, List.append_nil, List.nil_append, List.length_map, go_sem]; refine hK1 _ ?_; clear hK1 K1)
     (repeat (first | (refine v_0 rfl rfl rfl ?_; intro K1 hK1; simp only [undef, evR, go_sem]; first | (refine hK1 _ ?_; clear hK1 K1) | (refine andk (hK1 _ ?_); clear hK1 K1)) | (refine v_1 rfl rfl rfl rfl rfl rfl rfl rfl rfl ?_; intro K1 hK1; simp only [undef, evR, go_sem]; first | (refine hK1 _ ?_; clear hK1 K1) | (refine andk (hK1 _ ?_); clear hK1 K1))))
     (refine v_2 rfl rfl ?_; intro K1 hK1; refine stpX_call (ids := []) [0] (next_fc T (a2 + 1) (m + 1) hT (by omega) (by omega)) rfl rfl (by simp only [evR, go_sem]) (by kernel_rfl) rfl rfl rfl (by (simp only [evR, clos, List.map_append, List.append_nil, AV.ren, A0.ren, C.ren, idx, renIds, ofTr_ren, go_sem]) <;> rfl) (by (simp only [pkh, Ob.ren, C.ren, idx, renIds, ofTr_ren, List.getD_cons_zero, List.getD_cons_succ, tape, go_sem]) <;> rfl) ?_ ?_)
     ·rintro _ _ ⟨rfl, v, rfl, _⟩; exact born_one rfl
     rintro _ _ ⟨rfl, t, rfl, ht⟩
     (simp only [aInts, aSets, tape, cRows_up, List.append_nil, List.nil_append, List.length_map, go_sem]; refine hK1 _ ?_; clear hK1 K1)
     (repeat (first | (refine v_0 rfl rfl rfl ?_; intro K1 hK1; simp only [undef, evR, go_sem]; first | (refine hK1 _ ?_; clear hK1 K1) | (refine andk (hK1 _ ?_); clear hK1 K1)) | (refine v_1 rfl rfl rfl rfl rfl rfl rfl rfl rfl ?_; intro K1 hK1; simp only [undef, evR, go_sem]; first | (refine hK1 _ ?_; clear hK1 K1) | (refine andk (hK1 _ ?_); clear hK1 K1))))
     (refine v_2 rfl rfl ?_; intro K1 hK1; refine stpX_mono ?_; refine stpX_call (ids := []) [] (insT_fc R2[i] (e, (t : Int)) (by have := hrow.2.1; omega)) rfl rfl (by simp only [evR, go_sem]) (by kernel_rfl) rfl rfl rfl (by (simp only [evR, clos, List.map_append, List.append_nil, AV.ren, A0.ren, C.ren, idx, renIds, ofTr_ren, go_sem]) <;> rfl) (by (simp only [pkh, Ob.ren, C.ren, idx, renIds, ofTr_ren, List.getD_cons_zero, List.getD_cons_succ, aArcs, go_sem]) <;> rfl) ?_ ?_)
     ·rintro _ _ ⟨rfl, rfl⟩ i o hi hl; simp at hl
     rintro _ _ ⟨rfl, rfl⟩
     (simp only [aInts, aSets, aArcs, cRows_up, List.append_nil, List.nil_append, List.length_map, go_sem]; refine hK1 _ ?_; clear hK1 K1)
     (repeat (first | (refine v_0 rfl rfl rfl ?_; intro K1 hK1; simp only [undef, evR, go_sem]; first | (refine hK1 _ ?_; clear hK1 K1) | (refine andk (hK1 _ ?_); clear hK1 K1)) | (refine v_1 rfl rfl rfl rfl rfl rfl rfl rfl rfl ?_; intro K1 hK1; simp only [undef, evR, go_sem]; first | (refine hK1 _ ?_; clear hK1 K1) | (refine andk (hK1 _ ?_); clear hK1 K1))))
     refine v_3 rfl rfl rfl ?_; intro K1 hK1
     refine stp_ev rfl ?_; simp only [undef, evR, ST.put, setC, A0.cells, cRows_len, List.set_cons_zero, List.set_cons_succ, cRows_set, go_sem]
     (first | (refine hK1 _ ?_; clear hK1 K1) | (refine andk (hK1 _ ?_); clear hK1 K1))
     refine v_nil ⟨by simp, by simp, ?_⟩
     refine hK _ ?_; clear hK K
     (refine wk0 ?_;(repeat clear hK K);repeat refine kq fun K hK=>?_)
     refine rnz ?_
     have hx : 0 ≤ e ∧ e ≤ 1025 ∧ 0 ≤ (t : Int) ∧ (t : Int) < ((m + 1 : Nat) : Int) := ⟨he.1, he.2, by omega, by omega⟩
     have e1 : ((w : Int) - 1) = ((w - 1 : Nat) : Int) := by omega
     have hw3 := hi2 _ hg2
     refine hK _ (w - 1, R2.set i (insA (e, (t : Int)) R2[i]), a2 + 2) ⟨by simp only; omega, by simp only; omega, hR2.set ?_ i, fun r hr => ?_, fun q r hq hr => ?_⟩ (by simp only; omega) ?_
     ·exact (OkRow.ins ⟨hrow.1, Nat.le_refl _, hrow.2.2⟩ hx).le (by omega)
     ·simp only at hr ⊢
      rw [List.getElem?_set_self hl2] at hr
      cases hr
      have := insA_len (e, (t : Int)) R2[i]
      omega
     ·simp only at hr
      rw [List.getElem?_set_ne (by omega)] at hr
      exact hE2 q r hq hr
     ·(refine le_tm ?_; simp only [LeTm, go_sem, e1]; try simp)
    ·have hw0 : w = 0 := by simp at h; omega
     clear hX hY X Y
     (refine ekz ?_;repeat clear hK K)
     (refine wk0 ?_;(repeat clear hK K);repeat refine kq fun K hK=>?_)
     refine rnz ?_
     refine hK _ (i + 1, R2, a2) ⟨by simp only; omega, by simp only; omega, hR2, fun q r hq hr => hE2 q r hq hr⟩ (by simp only; omega) ?_
     exact lmz
  ·have hi1 : i = m + 1 := by simp at h; omega
   clear hX hY X Y
   (refine ekz ?_;repeat clear hK K)
   (refine wk1 (an @List.set_cons_zero.{0} @List.set_cons_succ.{0}) ?_;(repeat clear hK K);repeat refine kq fun K hK=>?_)
   (repeat (first | (refine aw_seq ?_; intro K hK) | refine aw_block ?_ | refine aw_region ?_ | (refine lst_x rfl rfl ?_; intro K1 hK1; simp only [go_sem, List.set_cons_zero, List.set_cons_succ, C.pl, C.one, List.all_cons, List.all_nil, Bool.and_true, List.take_succ_cons, List.take_zero, List.drop_zero]; (first | refine hK1 _ ?_ | refine andk (hK1 _ ?_)); clear hK1 K1) | ((first | refine lst_nil ?_ | refine aw_skip ?_); refine hK _ ?_; clear hK K)))
   refine rp1 [0, 2, 1] Try.results10 @cRows_ren ?_
   exact ⟨a, R, by simp only [tape, hR.1], by rw [hR.1], by omega, by rw [hR.1]; omega, by rw [hR.1]; omega, by rw [hR.1]; exact hR⟩

set_option maxHeartbeats 1000000 in
theorem chain_fc (T : List Int) (hT : TpOk T) (a0 n : Nat) (ha : a0 ≤ 500000) (hn1 : 1 ≤ n) (hn : n ≤ 20) :
  FC Try.prog 5 [.a (.c (.p 0 0)), .i n] [tape T a0] (fun r o => ∃ (a' : Nat) (R : List (List Ar)), o = [tape T a', oLts R] ∧ r = aLts R ∧ a' ≤ a0 + 1 + 8 * n ∧ 1 ≤ R.length ∧ R.length ≤ n ∧ OkSys 4 R.length R) := by
 refine fc_intro Try.func5 rfl (by rw [Try.ntmps5]; simp) ?_
 rw [Try.ntmps5]
 simp only [enum, tape, oLts, aLts]
 (refine wk0 ?_;(repeat clear hK K);repeat refine kq fun K hK=>?_)
 (refine lst_cons rfl ?_; intro K1 hK1; refine ct [0] (ltsO_fc T hT a0 n (by omega) hn1 hn) ?_ ?_)
 ·rintro _ _ ⟨_, _, rfl, rfl, _⟩; rfl
 rintro _ _ ⟨a1, R0, rfl, rfl, ha1, hl1, hl2, hok⟩
 (simp only [aInts, aSets, tape, cRows_up, List.append_nil, List.nil_append, List.length_map, go_sem]; refine hK1 _ ?_; clear hK1 K1)
 (refine wk0 ?_;(repeat clear hK K);repeat refine kq fun K hK=>?_)
 refine aw_le (le_pick [0, 1, 2, 4] rfl rfl) ?_
 (try simp only [List.set_nil, List.take_nil, List.take_zero, List.map_append, go_sem])
 (try simp only [cRows_ren])
 obtain ⟨m, hm⟩ : ∃ m, m = R0.length := ⟨_, rfl⟩
 rw [← hm] at hl1 hl2 hok
 (try rw [← hm])
 refine aw_loop (fun p : Nat × List (List Ar) × Nat => { tm := [(0, .a (.c (.p 0 0))), (4, .a (.c (.p 1 0))), (5, .a (.c (.p 3 0))), (6, .i p.1)], hp := [.r ⟨37, 2, false, [.t 1 (tInts T), .v (.int .i64 p.2.2)]⟩, .r ⟨27, 1, false, [.v (.slice none 0 0)]⟩, .r ⟨38, 1, true, cRows p.2.1⟩, .r ⟨27, 1, false, [.s 2 m]⟩], n := 34, pin := 1 })
  (fun p => p.1 + 1 ≤ m ∧ p.2.2 ≤ a1 + p.1 ∧ OkSys 4 m p.2.1 ∧ ∀ q r, p.1 ≤ q → p.2.1[q]? = some r → r.length ≤ 3) (fun p => m - p.1) (0, R0, a1) ?_ ?_ ?_
 ·exact ⟨by simp only; omega, by simp, hok.le (by omega), fun q r _ hr => (hok.2 r (List.mem_of_getElem? hr)).2.1⟩
 ·exact lmz
 ·rintro ⟨s, R, a⟩ ⟨hs, hA, hR, hE⟩ K hK
  simp only at hs hA hR hE ⊢
  have hRl := hR.1
  by_cases hlt : s + 1 < m
  ·have hl0 : decide ((s : Int) + 1 < (m : Int)) = true := by simp; omega
   have hl2' : s < R.length := by omega
   have hg2 := List.getElem?_eq_getElem hl2'
   have hrow := hR.2 _ (List.getElem_mem hl2')
   have hne : (cRows R).isEmpty = false := by
    have := cRows_len R
    cases hc : cRows R with
    | nil => rw [hc] at this; simp at this; omega
    | cons _ _ => rfl
   (refine wk1 @hl0 ?_;(repeat clear hK K);repeat refine kq fun K hK=>?_)
   refine cxz ?_
   (refine wk0 ?_;(repeat clear hK K);repeat refine kq fun K hK=>?_)
   (refine aw_regionZ [2, 3] (.m 0 0 0 (.m 2 0 0 (.m 3 0 0 (.m 5 0 0 (.m 8 0 0 (.m 10 0 0 (.m 11 0 0 (.m 1 1 15 (.m 4 1 13 (.m 6 0 0 (.m 7 1 13 (.a 9 (.m 12 0 0 (.a 13 (.m 14 0 0 (.a 15 .e)))))))))))))))) (by kernel_rfl) (by kernel_rfl) (by intro c st h; simp [ThenA, InBl, Ret] at h) ?_)
   (refine zk1 (an @cRows_len (cRows_get hg2)) ?_; repeat clear hK K)
   (refine z_2y rfl rfl rfl ?_; intro K1 hK1; refine yX [0] ?_; refine xy [0] (event_fc T hT a (by omega)) ?_ ?_)
   ·rintro _ _ ⟨rfl, v, rfl, _⟩; exact born_one rfl
   rintro _ _ ⟨rfl, e, rfl, he⟩
   (simp only [aInts, aSets, tape, cRows_up, List.append_nil, List.nil_append, List.length_map, go_sem]; refine hK1 _ ?_; clear hK1 K1)
   (refine zk0 ?_; repeat clear hK K)
   (refine z_2y rfl rfl rfl ?_; intro K1 hK1; refine yX [] ?_; refine stpX_call (ids := []) [] (insT_fc R[s] (e, (s : Int) + 1) (by have := hrow.2.1; omega)) rfl rfl (by simp only [go_sem]) (by kernel_rfl) rfl rfl rfl (by (simp only [go_sem]) <;> rfl) (by (simp only [pkh, aArcs, go_sem]) <;> rfl) ?_ ?_)
   ·rintro _ _ ⟨rfl, rfl⟩ i o hi hl; simp at hl
   rintro _ _ ⟨rfl, rfl⟩
   (simp only [aInts, aSets, aArcs, cRows_up, List.append_nil, List.nil_append, List.length_map, go_sem]; refine hK1 _ ?_; clear hK1 K1)
   (refine zk0 ?_; repeat clear hK K)
   (refine z_3 rfl rfl rfl rfl ?_; intro K1 hK1; refine stp_ev rfl ?_; simp only [go_sem, ST.put, setC, A0.cells, cRows_len, cRows_set]; (first | refine hK1 _ ?_ | refine andk (hK1 _ ?_)); clear hK1 K1)
   (refine zk0 ?_; repeat clear hK K)
   (refine wk0 ?_;(repeat clear hK K);repeat refine kq fun K hK=>?_)
   refine rnz ?_
   have hx : 0 ≤ e ∧ e ≤ 1025 ∧ 0 ≤ (s : Int) + 1 ∧ (s : Int) + 1 < (m : Int) := ⟨he.1, he.2, by omega, by omega⟩
   have h3 := hE s _ (Nat.le_refl _) hg2
   refine hK _ (s + 1, R.set s (insA (e, (s : Int) + 1) R[s]), a + 1) ⟨by simp only; omega, by simp only; omega, hR.set ?_ s, fun q r hq hr => ?_⟩ (by simp only; omega) ?_
   ·exact (OkRow.ins (m := m) ⟨hrow.1, h3, hrow.2.2⟩ hx)
   ·simp only at hr hq
    rw [List.getElem?_set_ne (by omega)] at hr
    exact hE q r (by omega) hr
   ·exact lmz
  ·have hl0 : decide ((s : Int) + 1 < (m : Int)) = false := by simp; omega
   (refine wk1 @hl0 ?_;(repeat clear hK K);repeat refine kq fun K hK=>?_)
   refine cyz ?_
   (refine ekz ?_;repeat clear hK K)
   refine aw_le (le_sink (r := ⟨38, 1, true, cRows R⟩) (ri := ⟨27, 1, false, [.s 2 m]⟩) (ts := tRows R) 3 0 2 m (by decide) rfl rfl rfl rfl (show 0 < 1 by omega) (by simp only [cRows_len, hRl]; omega) (fz_cr R)) ?_
   refine aw_le (le_ot 3 rfl) ?_
   simp only [otC, List.map_cons, List.map_nil, go_sem]
   (refine wk0 ?_;(repeat clear hK K);repeat refine kq fun K hK=>?_)
   refine rp0 [0, 1] Try.results5 ?_
   exact ⟨a, R, rfl, rfl, by omega, by omega, by omega, by rw [hRl]; exact hR⟩
theorem rowGo_len (r : List Ar) : ∀ (num old : List Int) (nxt : List Ar), (rowGo r num old nxt).2.2.length ≤ nxt.length + r.length := by
 induction r with
 | nil => intro num old nxt; simp [rowGo]
 | cons a tl ih =>
  intro num old nxt
  have h1 := ih (numOne num old a.2).1 (numOne num old a.2).2 (insA (a.1, (numOne num old a.2).1.getD a.2.toNat 0) nxt)
  have h2 := insA_len (a.1, (numOne num old a.2).1.getD a.2.toNat 0) nxt
  simp only [rowGo, List.length_cons]
  omega
theorem canGo_bd {R : List (List Ar)} {B : Nat} (hb : ∀ r ∈ R, ∀ a ∈ r, 0 ≤ a.2 ∧ a.2 < (R.length : Int)) (hB : ∀ r ∈ R, r.length ≤ B) : ∀ (f i : Nat) (num old : List Int) (out : List (List Ar)), NumOk R.length num old → i = out.length → i ≤ old.length → (∀ x ∈ out, x.length ≤ B) → (canGo R f i num old out).1.length ≤ R.length ∧ ∀ x ∈ (canGo R f i num old out).1, x.length ≤ B := by
 intro f
 induction f with
 | zero =>
  intro i num old out hN hi ho hx
  have := hN.le
  exact ⟨by simp only [canGo]; omega, hx⟩
 | succ f ih =>
  intro i num old out hN hi ho hx
  have hle := hN.le
  unfold canGo
  split
  ·exact ⟨by simp only; omega, hx⟩
  ·rename_i s hs
   have hs0 := hN.st s (List.mem_of_getElem? hs)
   have hsl : s.toNat < R.length := by omega
   have hg : R.getD s.toNat [] = R[s.toNat] := by rw [List.getD_eq_getElem?_getD, List.getElem?_eq_getElem hsl]; rfl
   rw [hg]
   have hil := (List.getElem?_eq_some_iff.1 hs).1
   have hrm := List.getElem_mem hsl
   generalize R[s.toNat] = r at *
   have hq : ∀ a ∈ rowOf r, 0 ≤ a.2 ∧ a.2 < (R.length : Int) := fun a ha => hb r hrm a ((mem_rowOf r a).1 ha)
   have hN2 := NumOk.go (rowOf r) [] hN hq
   have hl2 := rowGo_len (rowOf r) num old []
   have hl3 := len_rowOf r
   have hl4 := hB r hrm
   refine ih _ _ _ _ hN2 (by simp; omega) ?_ fun x hx2 => ?_
   ·have : ∀ (q : List Ar) (num old : List Int) (nxt : List Ar), old.length ≤ (rowGo q num old nxt).2.1.length := by
     intro q
     induction q with
     | nil => intro num old nxt; exact Nat.le_refl _
     | cons a tl ih2 =>
      intro num old nxt
      simp only [rowGo]
      refine Nat.le_trans ?_ (ih2 _ _ _)
      unfold numOne
      split <;> simp
    have := this (rowOf r) num old []
    omega
   ·rcases List.mem_append.1 hx2 with h | h
    ·exact hx x h
    ·simp at h; subst h
     simp only [List.length_nil, Nat.zero_add] at hl2
     omega
theorem canonR_bd {R : List (List Ar)} {B : Nat} (h1 : 1 ≤ R.length) (hb : ∀ r ∈ R, ∀ a ∈ r, 0 ≤ a.2 ∧ a.2 < (R.length : Int)) (hB : ∀ r ∈ R, r.length ≤ B) : (canonR R).1.length ≤ R.length ∧ ∀ x ∈ (canonR R).1, x.length ≤ B :=
 canGo_bd hb hB _ _ _ _ _ (NumOk.start h1) rfl (by simp) (by simp)
theorem nmGo_snoc (l : List Int) (c : Int) : ∀ m : Int, nmGo (l ++ [c]) m = (nmGo l m && (!decide (c < 0) && !decide (c > mxI m l))) := by
 induction l with
 | nil => intro m; simp [nmGo, mxI]
 | cons a r ih =>
  intro m
  have e : mxI m (a :: r) = mxI (mx1 m a) r := rfl
  simp only [List.cons_append, nmGo, ih, e, Bool.and_assoc]
theorem nm_num {α : Type} [DecidableEq α] (f : Nat → α) (k : Nat) : nmGo (nmG f k).1 0 = true ∧ mxI 0 (nmG f k).1 = ((nmG f k).2 : Int) := by
 induction k with
 | zero => exact ⟨rfl, rfl⟩
 | succ k ih =>
  have hr := (nmG_ok f k).rng
  rcases nm_cases f k with ⟨t, h1, h2, h3, h4⟩ | ⟨h3, h4⟩
  ·rw [h4]
   have := hr t h1
   generalize nmG f k = p at *
   simp only [nmGo_snoc, mxI_snoc, ih.1, ih.2, Bool.true_and, Bool.and_eq_true, Bool.not_eq_true', decide_eq_false_iff_not]
   refine ⟨by omega, ?_⟩
   unfold mx1
   rw [if_neg (by omega)]
  ·rw [h4]
   generalize nmG f k = p at *
   simp only [nmGo_snoc, mxI_snoc, ih.1, ih.2, Bool.true_and, Bool.and_eq_true, Bool.not_eq_true', decide_eq_false_iff_not]
   refine ⟨by omega, ?_⟩
   unfold mx1
   rw [if_pos (by omega)]
   omega
theorem Nrm.num {n : Nat} {c : List Int} (h : Nrm n c) : numB c n = true := by
 have h1 := (nm_num (fun s => c.getD s 0) n).1
 have hl := h.len
 unfold Nrm at h
 rw [h] at h1
 simp [numB, h1, hl]
theorem nmGo_sur (l : List Int) : ∀ m : Int, nmGo l m = true → ∀ d : Int, m ≤ d → d < mxI m l → d ∈ l := by
 induction l with
 | nil => intro m _ d h1 h2; simp [mxI] at h2; omega
 | cons a r ih =>
  intro m h d h1 h2
  simp only [nmGo, Bool.and_eq_true, Bool.not_eq_true', decide_eq_false_iff_not] at h
  obtain ⟨⟨q1, q2⟩, q3⟩ := h
  have e : mxI m (a :: r) = mxI (mx1 m a) r := rfl
  rw [e] at h2
  by_cases hd : d = a
  ·rw [hd]; simp
  ·refine List.mem_cons_of_mem _ (ih _ q3 d ?_ h2)
   unfold mx1
   split <;> omega
theorem num_sur {C : List Int} {n : Nat} (h : numB C n = true) {d : Nat} (hd : d < mxN C) : ∃ s, s < n ∧ clf C s = d := by
 obtain ⟨h1, _, h3, h4⟩ := num_ok h
 simp only [numB, Bool.and_eq_true, decide_eq_true_eq] at h
 have hm := nmGo_sur C 0 h.1 (d : Int) (by omega) (by omega)
 obtain ⟨s, hs, e⟩ := List.getElem_of_mem hm
 refine ⟨s, by omega, ?_⟩
 unfold clf
 rw [List.getD_eq_getElem?_getD, List.getElem?_eq_getElem hs, Option.getD_some, e, Int.toNat_natCast]
theorem num_zero {C : List Int} {n : Nat} (h : numB C n = true) (hn : 1 ≤ n) : clf C 0 = 0 := by
 simp only [numB, Bool.and_eq_true, decide_eq_true_eq] at h
 cases C with
 | nil => simp at h; omega
 | cons a r =>
  have h1 := h.1
  simp only [nmGo, Bool.and_eq_true, Bool.not_eq_true', decide_eq_false_iff_not] at h1
  show a.toNat = 0
  omega
def oldN (Q : List (List Ar)) (j : Nat) : Nat := ((canonR Q).2.getD j 0).toNat
theorem can_arc {Q : List (List Ar)} (h1 : 1 ≤ Q.length) (hb : ∀ r ∈ Q, ∀ a ∈ r, 0 ≤ a.2 ∧ a.2 < (Q.length : Int)) :
  0 < (canonR Q).1.length ∧ oldN Q 0 = 0 ∧ (∀ j, j < (canonR Q).1.length → oldN Q j < Q.length) ∧ (∀ i j, i < (canonR Q).1.length → j < (canonR Q).1.length → oldN Q i = oldN Q j → i = j) ∧
  (∀ j (a : Ar), j < (canonR Q).1.length → a ∈ Q.getD (oldN Q j) [] → ∃ i : Nat, i < (canonR Q).1.length ∧ (a.1, (i : Int)) ∈ (canonR Q).1.getD j [] ∧ oldN Q i = a.2.toNat) ∧
  (∀ j (a : Ar), j < (canonR Q).1.length → a ∈ (canonR Q).1.getD j [] → ∃ i : Nat, i < (canonR Q).1.length ∧ a.2 = (i : Int) ∧ (a.1, (oldN Q i : Int)) ∈ Q.getD (oldN Q j) []) := by
 obtain ⟨num, k1, k2, k3, k4, k5, k6⟩ := canonR_str h1 hb
 unfold oldN
 generalize canonR Q = p at *
 obtain ⟨X, old⟩ := p
 simp only at *
 have hX0 : 0 < X.length := by rw [k4]; exact (List.getElem?_eq_some_iff.1 k5).1
 have ho : ∀ j, j < X.length → ∃ s : Nat, old[j]? = some (s : Int) ∧ s < Q.length ∧ (old.getD j 0).toNat = s ∧ num[s]? = some (j : Int) := fun j hj => by
  have hjl : j < old.length := by omega
  have e := List.getElem?_eq_getElem hjl
  have h2 := k1.st _ (List.getElem_mem hjl)
  have h3 := k3 j _ e
  refine ⟨(old[j]).toNat, by rw [e]; congr 1; omega, by omega, by rw [List.getD_eq_getElem?_getD, e]; rfl, h3.2⟩
 have hx : ∀ (x : Int) (t : Nat), num[t]? = some x → 0 ≤ x → x.toNat < X.length ∧ (old.getD x.toNat 0).toNat = t := fun x t h h0 => by
  have h2 := k2.inj t x h h0
  have h3 := (List.getElem?_eq_some_iff.1 h2).1
  refine ⟨by omega, ?_⟩
  rw [List.getD_eq_getElem?_getD, h2]
  rfl
 refine ⟨hX0, by rw [List.getD_eq_getElem?_getD, k5]; rfl, fun j hj => ?_, fun i j hi hj e => ?_, fun j a hj ha => ?_, fun j a hj ha => ?_⟩
 ·obtain ⟨s, h1, h2, h3, h4⟩ := ho j hj
  rw [h3]; exact h2
 ·obtain ⟨s, q1, q2, q3, q4⟩ := ho i hi
  obtain ⟨t, p1, p2, p3, p4⟩ := ho j hj
  rw [q3, p3] at e
  subst e
  rw [q4] at p4
  have := Option.some.inj p4
  omega
 ·obtain ⟨s, q1, q2, q3, q4⟩ := ho j hj
  have hg := List.getElem?_eq_getElem hj
  obtain ⟨r1, r2⟩ := k6 j _ _ q1 hg
  rw [q3] at ha
  simp only [Int.toNat_natCast] at r1 r2
  obtain ⟨x, hnx, hx0⟩ := r2 a ha
  obtain ⟨p1, p2⟩ := hx x _ hnx hx0
  refine ⟨x.toNat, p1, ?_, p2⟩
  rw [List.getD_eq_getElem?_getD, hg, Option.getD_some, r1, mem_rowOf]
  refine List.mem_map.2 ⟨a, (mem_rowOf _ _).2 ha, ?_⟩
  rw [List.getD_eq_getElem?_getD, hnx, Option.getD_some]
  congr 1; omega
 ·obtain ⟨s, q1, q2, q3, q4⟩ := ho j hj
  have hg := List.getElem?_eq_getElem hj
  obtain ⟨r1, r2⟩ := k6 j _ _ q1 hg
  simp only [Int.toNat_natCast] at r1 r2
  rw [List.getD_eq_getElem?_getD, hg, Option.getD_some, r1, mem_rowOf] at ha
  obtain ⟨b, hb2, rfl⟩ := List.mem_map.1 ha
  have hb3 := (mem_rowOf _ _).1 hb2
  obtain ⟨x, hnx, hx0⟩ := r2 b hb3
  obtain ⟨p1, p2⟩ := hx x _ hnx hx0
  have hbq : 0 ≤ b.2 := by
   have hm : Q.getD s [] ∈ Q := by
    rw [List.getD_eq_getElem?_getD, List.getElem?_eq_getElem q2, Option.getD_some]
    exact List.getElem_mem _
   exact (hb _ hm b hb3).1
  refine ⟨x.toNat, p1, ?_, ?_⟩
  ·rw [List.getD_eq_getElem?_getD, hnx, Option.getD_some]; omega
  ·rw [q3, p2, Int.toNat_of_nonneg hbq]; exact hb3
theorem qu_X {R : List (List Ar)} {C : List Int} {B : List Bool} (hv : valB R = true) (hC : numB C R.length = true) (hB : DvL R B) : QuX R (canonR (qR R C B)).1 (clf C) (oldN (qR R C B)) := by
 have hlo : looB R = true := decide_eq_true (of_decide_eq_true hv).1
 obtain ⟨b1, b2, b3⟩ := qR_bd (B := B) hlo hC
 have hn1 : 1 ≤ R.length := (of_decide_eq_true hlo).1
 have hm1 : 1 ≤ mxN C := by have := ((num_ok hC).2.2.1 0 hn1).1; omega
 obtain ⟨_, _, c3, c4, c5, c6⟩ := can_arc (Q := qR R C B) (by omega) (fun r hr a ha => by have := b2 r hr a ha; exact ⟨this.2.2.1, this.2.2.2⟩)
 refine ⟨c4, fun j hj => ?_, fun s j hs hj e b hb hne => ?_, fun j a hj ha => ?_, fun s j hs hj e hd => ?_⟩
 ·exact num_sur hC (by have := c3 j hj; omega)
 ·have hq : (b.1, (clf C b.2.toNat : Int)) ∈ (qR R C B).getD (oldN (qR R C B) j) [] := (mem_qR hC).2 (.inl ⟨s, hs, e, b, hb, by unfold qp1; rw [if_pos (by rw [← e]; exact hne)]⟩)
  obtain ⟨i, hi, q1, q2⟩ := c5 j _ hj hq
  exact ⟨i, hi, q1, by rw [q2]; simp⟩
 ·obtain ⟨i, hi, e, hq⟩ := c6 j a hj ha
  refine ⟨i, hi, e, ?_⟩
  rcases (mem_qR hC).1 hq with ⟨s, hs, es, b, hb, eb⟩ | ⟨eq, s, hs, es, hBs⟩
  ·left
   unfold qp1 at eb
   split at eb
   ·rename_i hor
    simp only [Option.some.injEq, Prod.mk.injEq] at eb
    have e2 : clf C b.2.toNat = oldN (qR R C B) i := by omega
    exact ⟨s, hs, es, b, hb, eb.1, e2, by rw [← eb.1, ← e2]; exact hor⟩
   ·simp at eb
  ·right
   simp only [Prod.mk.injEq] at eq
   exact ⟨eq.1, c4 i j hi hj (by omega), s, hs, es, (hB.2 s hs).1 hBs⟩
 ·have hq : (0, (oldN (qR R C B) j : Int)) ∈ (qR R C B).getD (oldN (qR R C B) j) [] := (mem_qR hC).2 (.inr ⟨rfl, s, hs, e, (hB.2 s hs).2 hd⟩)
  obtain ⟨i, hi, q1, q2⟩ := c5 j _ hj hq
  have : i = j := c4 i j hi hj (by rw [q2]; simp)
  rw [this] at q1
  exact q1
theorem nm_id {α : Type} [DecidableEq α] {f : Nat → α} {n : Nat} (h : ∀ s t, s < n → t < n → f s = f t → s = t) : ∀ k, k ≤ n → (nmG f k).1 = (List.range k).map Int.ofNat ∧ (nmG f k).2 = k := by
 intro k
 induction k with
 | zero => intro _; exact ⟨rfl, rfl⟩
 | succ k ih =>
  intro hk
  obtain ⟨e1, e2⟩ := ih (by omega)
  rcases nm_cases f k with ⟨t, h1, h2, _⟩ | ⟨_, h4⟩
  ·have := h t k (by omega) (by omega) h2; omega
  ·rw [h4, e1, e2, List.range_succ, List.map_append]
   exact ⟨rfl, rfl⟩
theorem canonR_tot {R : List (List Ar)} (h : looB R = true) : totA (canonR R).1 ≤ totA R := by
 have hp : LooP R := of_decide_eq_true h
 have h1 := hp.1
 have hq := canGo_val (B := totA R) hp.2.2.2 R.length 0 _ _ [] R (NumOk.start h1) (NumInj.start h1) (NumSur.start h1) rfl (by simp) (by omega) ⟨by simp, by simp⟩ rfl (fun _ _ _ => rfl) (by simp [totA])
 exact hq.2.2.2
theorem cmp_law {R : List (List Ar)} {c : List Int} {B : List Bool} (hv : valB R = true) (hn : R.length ≤ 50) (ht : totA R ≤ 500) (hc : DlC R c) (hN : Nrm R.length c) (hB : DvL R B) : ∃ X, X = (canonR (qR R c B)).1 ∧ valB X = true ∧ X.length ≤ R.length ∧ totA X ≤ totA R + R.length ∧ (∀ x, DlC X x → Nrm X.length x → x = (List.range X.length).map Int.ofNat) ∧ (∀ d, DlC (bthR R X) d → d.getD 0 0 = d.getD R.length 0) ∧ (∀ d, DlC (bthR X R) d → d.getD 0 0 = d.getD X.length 0) := by
 have hlo : looB R = true := decide_eq_true (of_decide_eq_true hv).1
 have hC := hN.num
 obtain ⟨b1, b2, b3⟩ := qR_bd (B := B) hlo hC
 have hn1 : 1 ≤ R.length := (of_decide_eq_true hlo).1
 have hno := num_ok hC
 have hm1 : 1 ≤ mxN c := by have := (hno.2.2.1 0 hn1).1; omega
 have hlq : looB (qR R c B) = true := decide_eq_true ⟨by omega, by show (qR R c B).length ≤ 16384; omega, by show totA (qR R c B) ≤ 262144; omega, b2⟩
 have hq := qu_X hv hC hB
 have hX := canonR_val hlq
 have htX := canonR_tot hlq
 have hlX := (canonR_bd (R := qR R c B) (B := totA (qR R c B)) (by omega) (fun r hr a ha => by have := b2 r hr a ha; exact ⟨this.2.2.1, this.2.2.2⟩) (fun r hr => by
  obtain ⟨j, hj, rfl⟩ := List.getElem_of_mem hr
  have h := totA_row (qR R c B) j
  rw [List.getD_eq_getElem?_getD, List.getElem?_eq_getElem hj, Option.getD_some] at h
  exact h)).1
 obtain ⟨a1, a2, _⟩ := can_arc (Q := qR R c B) (by omega) (fun r hr a ha => by have := b2 r hr a ha; exact ⟨this.2.2.1, this.2.2.2⟩)
 have hf0 := num_zero hC hn1
 generalize oldN (qR R c B) = kX at *
 generalize (canonR (qR R c B)).1 = X at *
 have hcl : ∀ s, s < R.length → c.getD s 0 = (clf c s : Int) := fun s hs => by rw [List.getD_eq_getElem?_getD, (hno.2.2.1 s hs).2]; rfl
 have hk0 := DlC.key hv (by omega) hc
 have hk : MtK R (clf c) R (clf c) := fun s t hs ht e => by
  obtain ⟨q1, q2⟩ := hk0 s t hs ht (by simp only; rw [hcl s hs, hcl t ht, e])
  refine ⟨q1, fun a ha => ?_⟩
  obtain ⟨b, hb, e1, e2⟩ := q2 a ha
  refine ⟨b, hb, e1, ?_⟩
  have e3 : c.getD b.2.toNat 0 = c.getD a.2.toNat 0 := e2
  unfold clf
  rw [e3]
 have hm1 := hq.mt1 hv hX
 have hm2 := hq.mt2 hv hX hk
 have hlE : X.length ≤ R.length := by omega
 refine ⟨X, rfl, hX, hlE, by omega, fun x hx hxN => ?_, fun d hd => ?_, fun d hd => ?_⟩
 ·have hinj : ∀ s t, s < X.length → t < X.length → x.getD s 0 = x.getD t 0 → s = t := fun s t hs ht e =>
   hq.min hv hX (by omega) hk hc (fun s t hs ht e => by unfold clf; rw [e]) (by omega) hx hs ht e
  have h := (nm_id hinj X.length (Nat.le_refl _)).1
  unfold Nrm at hxN
  rw [← hxN]
  exact h
 ·have hz := valB_both (.inr hv) hX (by show R.length + X.length ≤ 16384; omega) (by show totA R + totA X ≤ 262144; omega)
  have hb := MtK.both hv hX (by omega) hz hk hm1 hm2 hq.mt3
  refine hb.le hz (by rw [bthR_len]; omega) hd (by rw [bthR_len]; omega) (by rw [bthR_len]; omega) ?_
  unfold kB2
  rw [if_pos (show 0 < R.length by omega), if_neg (by omega), Nat.sub_self, a2, hf0]
 ·have hz := valB_both (.inr hX) hv (by show X.length + R.length ≤ 16384; omega) (by show totA X + totA R ≤ 262144; omega)
  have hb := MtK.both hX hv (by omega) hz hq.mt3 hm2 hm1 hk
  refine hb.le hz (by rw [bthR_len]; omega) hd (by rw [bthR_len]; omega) (by rw [bthR_len]; omega) ?_
  unfold kB2
  rw [if_pos a1, if_neg (by omega), Nat.sub_self, a2, hf0]
end Go.Proofs.Ytahnebicgbjonaa
