/- Lemmas. -/
import Derived.Test.YthnkailnoobdoaaDoorZk
import Derived.Test.YthnkailnoobdoaaDoorMF
import Derived.Test.YthnkailnoobdoaaDoorG11
import Derived.Test.YthnkailnoobdoaaDoorMD
import Derived.Test.YthnkailnoobdoaaDoorMlz
namespace Go.Proofs.YthnkailnoobdoaaDoor
set_option linter.unusedVariables false
set_option linter.unusedSimpArgs false
open Go.RowKit
set_option maxRecDepth 100000

def FX : List Int := [0, 0, 2, 3, 4, 2, 3, 1, 2, 5, 1025]
theorem Ox : ∀ x ∈ FX, 0 <= x /\ x <= 1025 := by decide
theorem EJ : FX.length = 11 := rfl
theorem IY : FX.take 11 = FX := rfl
theorem K5 (T : List Int) (hT : TpOk T) (a : Nat) (ha : a <= 100000000) : FC Tryd.prog 17 [.a (.c (.p 0 0))] [tape T a] (fun r o => o = [tape T (a + 1)] /\ ∃ v : Int, r = .i v /\ 0 <= v /\ v <= 1025) := by
 refine Af Tryd.func17 rfl (by rw [Tryd.ntmps17]; simp) ?_
 rw [Tryd.ntmps17]
 simp only [C2, tape]
 (refine UX (an @List.set_cons_zero.{0} @List.set_cons_succ.{0}) ?_;(repeat clear hK K);repeat refine kq fun K hK=>?_)
 (refine EV (C8 (r := ⟨3, 1, true, A7 FX⟩) 1 (Ad FX) rfl (KO _) (show 0 < (1 : Nat) by omega)) ?_; simp only [ST.frz, A0.frz, AV.frz, C.frz, Nat.le_refl, List.set_cons_zero, List.set_cons_succ, go_sem, A2, EJ, AJ, IY])
 (refine UX (an @A2 @EJ) ?_;(repeat clear hK K);repeat refine kq fun K hK=>?_)
 (refine Aa rfl ?_; intro K1 hK1; refine ct [0] (H3 T a 11 hT (by omega) (by omega)) ?_ ?_)
 ·rintro _ _ ⟨rfl, v, rfl, _⟩; rfl
 rintro _ _ ⟨rfl, v, rfl, hv⟩
 (simp only [AC, BS, tape, List.append_nil, List.nil_append, List.length_map, go_sem]; refine hK1 _ ?_; clear hK1 K1)
 have hv2 : v < FX.length := by rw [EJ]; omega
 (refine UX (an @A2 (Ai (gE1 hv2))) ?_;(repeat clear hK K);repeat refine kq fun K hK=>?_)
 refine V8 [0] Tryd.results17 ?_
 exact ⟨_, rfl, Ox _ (gE6 hv2)⟩

theorem Oy (m : Nat) : (List.replicate m (C.o (2, 37) [])).map Ur = Bm (List.replicate m []) := by
 simp [Bm, Ur, Au]
theorem Mq (m : Nat) : OkSys 3 m (List.replicate m []) := ⟨by simp, fun r hr => by
 rw [List.mem_replicate] at hr
 rw [hr.2]
 exact ⟨by simp [SortA], by simp, by simp⟩⟩

def Sj (R : List (List Ar)) : Ob := .r ⟨27, 1, false, [.t 1 (Ao R)]⟩
def W1 (k : Nat) : C -> C
 | .o k cs => .t k.1 cs
 | .v (.slice none 0 0) => .t k []
 | c => c
def W2 : List Nat -> List C -> List C
 | k :: ks, c :: cs => W1 k c :: W2 ks cs
 | [], c :: cs => Ur c :: W2 [] cs
 | _, [] => []
theorem Mr (k : Nat) (c : C) : W1 k c = Ur c \/ (c = .v (.slice none 0 0) /\ W1 k c = .t k []) := by
 unfold W1
 split
 ·exact .inl rfl
 ·exact .inr ⟨rfl, rfl⟩
 rename_i h1 h2
 refine .inl ?_
 cases c <;> first | rfl | exact absurd rfl (h1 _ _)
theorem Ms {ks : List Nat} {cs : List C} {j : Nat} {c : C} (h : (W2 ks cs)[j]? = some c) : ∃ c0, cs[j]? = some c0 /\ (c = Ur c0 \/ ∃ k, c0 = .v (.slice none 0 0) /\ c = .t k []) := by
 induction cs generalizing ks j with
 | nil => cases ks <;> simp [W2] at h
 | cons x r ih =>
  cases ks with
  | nil =>
   cases j with
   | zero => simp [W2] at h; exact ⟨x, rfl, .inl h.symm⟩
   | succ j => simp [W2] at h; obtain ⟨c0, h1, h2⟩ := ih h; exact ⟨c0, by simpa using h1, h2⟩
  | cons k ks =>
   cases j with
   | zero =>
    simp [W2] at h
    refine ⟨x, rfl, ?_⟩
    rcases Mr k x with e | ⟨e1, e2⟩
    ·exact .inl (by rw [<- h, e])
    exact .inr ⟨k, e1, by rw [<- h, e2]⟩
   | succ j => simp [W2] at h; obtain ⟨c0, h1, h2⟩ := ih h; exact ⟨c0, by simpa using h1, h2⟩
theorem PI {ks : List Nat} {cs : List C} {j : Nat} {k : Nat × Nat} {ts : List Tr} : (W2 ks cs)[j]? ≠ some (.o k ts) := by
 intro h
 obtain ⟨c0, _, h | ⟨_, _, h⟩⟩ := Ms h
 ·exact Jp h.symm
 cases h
theorem Mt (ks : List Nat) (cs : List C) : (W2 ks cs).length = cs.length := by
 induction cs generalizing ks with
 | nil => cases ks <;> rfl
 | cons x r ih => cases ks <;> simp [W2, ih]
theorem Sk {s : ST} (i : Nat) (ks : List Nat) {r : Row} (hi : s.hp[i]? = some (.r r)) : Le s { s with hp := s.hp.set i (.r { r with cells := W2 ks r.cells }) } := by
 rintro M0 w0 a w ⟨g, hpp, hR⟩
 have hlt : i < s.hp.length := (List.getElem?_eq_some_iff.1 hi).1
 have self : (s.hp.set i (.r { r with cells := W2 ks r.cells }))[i]? = some (.r { r with cells := W2 ks r.cells }) := by simp [hlt]
 have other : ∀ q, q ≠ i -> (s.hp.set i (.r { r with cells := W2 ks r.cells }))[q]? = s.hp[q]? := fun q hq => by rw [gE5 (Ne.symm hq)]
 generalize hh : s.hp.set i (.r { r with cells := W2 ks r.cells }) = hp' at *
 have ncl : ∀ j, ¬ Lv hp' g (.cl i j) := by
  rintro j ⟨r2, k, cs, e1, e2, _⟩
  rw [self] at e1
  cases e1
  exact PI e2
 have sub : ∀ ℓ, Lv hp' g ℓ -> Lv s.hp g ℓ := by
  intro ℓ hl
  cases ℓ with
  | ob q =>
   by_cases hq : q = i
   ·subst hq
    rcases hl with ⟨r2, e1, e2⟩ | ⟨kv, e1⟩
    ·exact .inl ⟨r, hi, e2⟩
    rw [self] at e1; cases e1
   rcases hl with ⟨r2, e1, e2⟩ | ⟨kv, e1⟩
   ·exact .inl ⟨r2, by rw [<- other q hq]; exact e1, e2⟩
   exact .inr ⟨kv, by rw [<- other q hq]; exact e1⟩
  | cl q j =>
   by_cases hq : q = i
   ·subst hq; exact absurd hl (ncl j)
   obtain ⟨r2, k, cs, e1, e2, e3⟩ := hl
   exact ⟨r2, k, cs, by rw [<- other q hq]; exact e1, e2, e3⟩
 have ow : ∀ b, Ow hp' g b -> Ow s.hp g b := fun b ho => ho.imp (fun h => h) (fun ⟨ℓ, hl, e⟩ => ⟨ℓ, sub ℓ hl, e⟩)
 have hm : Mo g s.hp w g hp' w (fun _ => True) := by
  refine ⟨fun q hq => ⟨?_, rfl, rfl⟩, fun b _ ho => ow b ho, Nat.le_refl _, fun _ _ _ => rfl, fun q _ hq r2 j k cs e1 e2 => ?_⟩
  ·by_cases e : q = i
   ·subst e; exact ⟨_, self, rfl⟩
   obtain ⟨o, h1, h2⟩ := hq
   exact ⟨o, by rw [other q e]; exact h1, h2⟩
  by_cases e : q = i
  rotate_left
  ·exact ⟨r2, by rw [<- other q e]; exact e1, e2, fun _ => rfl⟩
  subst e
  rw [self] at e1
  cases e1
  exact absurd e2 PI
 have hr := hR.hr
 refine ⟨g, ⟨by show s.pin <= hp'.length; rw [<- hh]; simpa using hpp.1, hpp.2⟩, hR.mo hm ?_ (fun ℓ hl => hR.new ℓ (sub ℓ hl)) hR.fp⟩
 refine ⟨hr.ml, fun ℓ hl => hr.md ℓ (sub ℓ hl), fun ℓ ℓ' h1 h2 => hr.inj ℓ ℓ' (sub ℓ h1) (sub ℓ' h2), fun q r2 e1 => ?_, fun q kv e1 => ?_, hm.gl hr.gl⟩
 rotate_left
 ·by_cases e : q = i
  ·subst e; rw [self] at e1; cases e1
  rw [other q e] at e1
  exact MpR.mo hm e1 (hr.mp q kv e1) rfl
 by_cases e : q = i
 rotate_left
 ·rw [other q e] at e1
  exact RowR.mo hm e1 (hr.row q r2 e1) (fun _ => rfl) (fun _ _ _ _ _ => ⟨rfl, rfl⟩)
 subst e
 rw [self] at e1
 cases e1
 rcases hr.row q r hi with ⟨k1, k2⟩ | ⟨k1, k2, arr, k3, k4, k5, k6, k7⟩
 ·exact .inl ⟨k1, by simp [k2, W2]⟩
 refine .inr ⟨k1, fun h1 h2 => k2 h1 (List.length_eq_zero_iff.1 (by rw [<- Mt ks]; exact List.length_eq_zero_iff.2 h2)), arr, k3, by simpa [Mt] using k4, k5, k6, fun j c hj => ?_⟩
 obtain ⟨c0, hc0, hcc⟩ := Ms hj
 obtain ⟨u, u1, u2⟩ := k7 j c0 hc0
 refine ⟨u, u1, ?_⟩
 rcases hcc with rfl | ⟨k, rfl, rfl⟩
 rotate_left
 ·have hu : u = .slice none 0 0 := u2
  rw [hu]
  exact Rd.e _ _ _
 cases c0 with
 | o k cs => exact Ds (t := .l k.1 cs) (fun b _ ho => ow b ho) hr hi ncl sub hc0 (.inl rfl) u2
 | _ => exact CellR.mo hm u2 (fun k cs hc => by cases hc)
theorem Mu {s : ST} (i j id : Nat) {r : Row} {e0 k0 : Nat} (hne : i ≠ id) (hi : s.hp[i]? = some (.r r)) (hj : r.cells[j]? = some (.v (.slice none 0 0))) (hid : s.hp[id]? = some (.r ⟨e0, k0, true, []⟩)) : Le s { s with hp := s.hp.set i (.r { r with cells := r.cells.set j (.s id 0) }) } := by
 rintro M0 w0 a w ⟨g, hpp, hR⟩
 have hlt : i < s.hp.length := (List.getElem?_eq_some_iff.1 hi).1
 have hjl : j < r.cells.length := (List.getElem?_eq_some_iff.1 hj).1
 have self : (s.hp.set i (.r { r with cells := r.cells.set j (.s id 0) }))[i]? = some (.r { r with cells := r.cells.set j (.s id 0) }) := by simp [hlt]
 have other : ∀ q, q ≠ i -> (s.hp.set i (.r { r with cells := r.cells.set j (.s id 0) }))[q]? = s.hp[q]? := fun q hq => by rw [gE5 (Ne.symm hq)]
 have cel : ∀ q c, (r.cells.set j (.s id 0))[q]? = some c -> (q = j /\ c = .s id 0) \/ (q ≠ j /\ r.cells[q]? = some c) := by
  intro q c hq
  by_cases e : q = j
  ·subst e; rw [gEc hjl] at hq; cases hq; exact .inl ⟨rfl, rfl⟩
  rw [gE5 (Ne.symm e)] at hq; exact .inr ⟨e, hq⟩
 generalize hh : s.hp.set i (.r { r with cells := r.cells.set j (.s id 0) }) = hp' at *
 have sub : ∀ ℓ, Lv hp' g ℓ -> Lv s.hp g ℓ := by
  intro ℓ hl
  cases ℓ with
  | ob q =>
   by_cases hq : q = i
   ·subst hq
    rcases hl with ⟨r2, e1, e2⟩ | ⟨kv, e1⟩
    ·exact .inl ⟨r, hi, e2⟩
    rw [self] at e1; cases e1
   rcases hl with ⟨r2, e1, e2⟩ | ⟨kv, e1⟩
   ·exact .inl ⟨r2, by rw [<- other q hq]; exact e1, e2⟩
   exact .inr ⟨kv, by rw [<- other q hq]; exact e1⟩
  | cl q j2 =>
   obtain ⟨r2, k, cs, e1, e2, e3⟩ := hl
   by_cases hq : q = i
   rotate_left
   ·exact ⟨r2, k, cs, by rw [<- other q hq]; exact e1, e2, e3⟩
   subst hq
   rw [self] at e1
   cases e1
   rcases cel j2 _ e2 with ⟨_, h⟩ | ⟨_, h⟩
   ·cases h
   exact ⟨r, k, cs, hi, h, e3⟩
 have ow : ∀ b, Ow hp' g b -> Ow s.hp g b := fun b ho => ho.imp (fun h => h) (fun ⟨ℓ, hl, e⟩ => ⟨ℓ, sub ℓ hl, e⟩)
 have hm : Mo g s.hp w g hp' w (fun _ => True) := by
  refine ⟨fun q hq => ⟨?_, rfl, rfl⟩, fun b _ ho => ow b ho, Nat.le_refl _, fun _ _ _ => rfl, fun q _ hq r2 j2 k cs e1 e2 => ?_⟩
  ·by_cases e : q = i
   ·subst e; exact ⟨_, self, rfl⟩
   obtain ⟨o, h1, h2⟩ := hq
   exact ⟨o, by rw [other q e]; exact h1, h2⟩
  by_cases e : q = i
  rotate_left
  ·exact ⟨r2, by rw [<- other q e]; exact e1, e2, fun _ => rfl⟩
  subst e
  rw [self] at e1
  cases e1
  rcases cel j2 _ e2 with ⟨_, h⟩ | ⟨_, h⟩
  ·cases h
  exact ⟨r, hi, h, fun _ => rfl⟩
 have hr := hR.hr
 refine ⟨g, ⟨by show s.pin <= hp'.length; rw [<- hh]; simpa using hpp.1, hpp.2⟩, hR.mo hm ?_ (fun ℓ hl => hR.new ℓ (sub ℓ hl)) hR.fp⟩
 refine ⟨hr.ml, fun ℓ hl => hr.md ℓ (sub ℓ hl), fun ℓ ℓ' h1 h2 => hr.inj ℓ ℓ' (sub ℓ h1) (sub ℓ' h2), fun q r2 e1 => ?_, fun q kv e1 => ?_, hm.gl hr.gl⟩
 rotate_left
 ·by_cases e : q = i
  ·subst e; rw [self] at e1; cases e1
  rw [other q e] at e1
  exact MpR.mo hm e1 (hr.mp q kv e1) rfl
 by_cases e : q = i
 rotate_left
 ·rw [other q e] at e1
  exact RowR.mo hm e1 (hr.row q r2 e1) (fun _ => rfl) (fun _ _ _ _ _ => ⟨rfl, rfl⟩)
 subst e
 rw [self] at e1
 cases e1
 rcases hr.row q r hi with ⟨k1, k2⟩ | ⟨k1, k2, arr, k3, k4, k5, k6, k7⟩
 ·rw [k2] at hj; simp at hj
 refine .inr ⟨k1, fun h1 h2 => k2 h1 (List.length_eq_zero_iff.1 (by rw [<- List.length_set (i := j) (a := C.s id 0)]; exact List.length_eq_zero_iff.2 h2)), arr, k3, by simpa using k4, k5, k6, fun j2 c hj2 => ?_⟩
 rcases cel j2 c hj2 with ⟨rfl, rfl⟩ | ⟨_, h⟩
 rotate_left
 ·obtain ⟨u, u1, u2⟩ := k7 j2 c h
  exact ⟨u, u1, CellR.mo hm u2 (fun k cs hc _ => ⟨rfl, rfl⟩)⟩
 obtain ⟨u, u1, u2⟩ := k7 j2 _ hj
 have hu : u = .slice none 0 0 := u2
 refine ⟨u, u1, ?_⟩
 have hκ : g.κ id = 0 := by
  rcases hr.row id _ hid with ⟨z, _⟩ | ⟨_, z, _⟩
  ·exact z
  exact absurd rfl (z rfl)
 have hid' : hp'[id]? = some (.r ⟨e0, k0, true, []⟩) := by rw [other id (Ne.symm hne)]; exact hid
 exact ⟨⟨_, hid', rfl⟩, Nat.zero_le _, none, by rw [hu, hκ], fun hn => absurd hκ hn, by simp⟩
theorem PJ {s : ST} (e k : Nat) : Le s { s with hp := s.hp ++ [.r ⟨e, k, true, []⟩] } := by
 rintro M0 w0 a w ⟨g, hpp, hR⟩
 have hb := hR.birth0 (w' := w) (hp' := s.hp ++ [.r ⟨e, k, true, []⟩]) (id := s.hp.length) (r := ⟨e, k, true, []⟩) Ce (BD _) (AZ _) rfl (Fp.refl _ _)
 exact ⟨_, ⟨by have := hpp.1; simp; omega, hpp.2.trans (D6 hpp.1)⟩, hb⟩
def AP (R : List (List Ar)) : List C := R.map fun r => C.o (2, 37) (Au r)
theorem AB (xs : List (List Ar)) : (AP xs).length = xs.length := by simp [AP]
theorem BC {xs : List (List Ar)} {i : Nat} {x : List Ar} (h : xs[i]? = some x) : (AP xs)[i]? = some (.o (2, 37) (Au x)) := by simp [AP, h]
theorem CO (xs : List (List Ar)) (i : Nat) (x : List Ar) : (AP xs).set i (.o (2, 37) (Au x)) = AP (xs.set i x) := by simp [AP, List.map_set]
theorem BR (f : List Nat) (L : List (List Ar)) : (AP L).map (C.ren f) = AP L := by simp [AP, C.ren, Function.comp_def]
theorem Mw (L : List (List Ar)) : (AP L).map Ur = Bm L := by simp [AP, Bm, Ur, Function.comp_def]
end Go.Proofs.YthnkailnoobdoaaDoor
