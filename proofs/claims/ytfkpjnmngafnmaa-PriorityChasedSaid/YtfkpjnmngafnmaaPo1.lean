/- The program's orders: visible, compare, first. -/
import Derived.Test.YtfkpjnmngafnmaaCmp1
import Derived.Test.YtfkpjnmngafnmaaOrd1
namespace Go.Proofs.Ytfkpjnmngafnmaa
set_option linter.unusedVariables false
set_option linter.unusedSimpArgs false
open Go.RowKit

def visB (e : Int) : Bool := decide (2 ≤ e ∧ e ≤ 1025)
theorem visible_any (e : Int) (w : World) : Calls Try.prog 40 #[.int .i64 e] w fun x w' => x = .returned (.bool (visB e)) ∧ w' = w := by
  by_cases h1 : 2 ≤ e
  · by_cases h2 : e ≤ 1025
    · have hv : visB e = true := by simp [visB, h1, h2]
      rw [hv]; clear hv
      have g1 : e ≥ 2 := h1
      go_enter Try.func40, Try.ntmps40
      go_wp2_with fail
      go_ret
      exact ⟨rfl, rfl⟩
    · have hv : visB e = false := by simp [visB, h2]
      rw [hv]; clear hv
      have g1 : e ≥ 2 := h1
      go_enter Try.func40, Try.ntmps40
      go_wp2_with fail
      go_ret
      exact ⟨rfl, rfl⟩
  · have hv : visB e = false := by simp [visB, h1]
    rw [hv]; clear hv
    go_enter Try.func40, Try.ntmps40
    go_wp2_with fail
    go_ret
    exact ⟨rfl, rfl⟩
set_option maxHeartbeats 2000000 in
theorem pcompare_any (a b c d : Int) (w : World) : Calls Try.prog 41 #[.agg #[.int .i64 a, .int .i64 b], .agg #[.int .i64 c, .int .i64 d]] w fun e w' => e = .returned (.int .i64 (cmpA (a, b) (c, d))) ∧ Fr [] w w' := by
  go_enter Try.func41, Try.ntmps41
  go_wp2_with fail
  go_region_held3 (fun w' => w'.cell? ⟨w.heap.size, 0, none⟩ = some (.int .i64 a) ∧ w'.cell? ⟨w.heap.size, 1, none⟩ = some (.int .i64 b) ∧ w'.cell? ⟨w.heap.size + 1, 0, none⟩ = some (.int .i64 c) ∧ w'.cell? ⟨w.heap.size + 1, 1, none⟩ = some (.int .i64 d))
    (go_keep)
    (first
      | (go_at_call 52; refine (compare_any _ _ _).mono ?_; rintro e w' ⟨rfl, rfl⟩)
      | (go_at_call 51; refine (or_two _ (cmpI a c) (cmpI b d) _ (by go_simp) (by go_simp)).mono ?_; rintro e w' ⟨rfl, rfl⟩))
  go_wp2_with fail
  go_ret
  exact ⟨rfl, (by repeat (first | exact Fr.refl _ _ | with_reducible assumption | with_reducible apply Fr.drewN | with_reducible apply Fr.drew | with_reducible apply Fr.alloc))⟩

/-- how many stand ahead of x -/
def firstN (o : List Arc) (x : Arc) : Nat := (o.takeWhile fun a => lessB a x).length
theorem firstN_le (o : List Arc) (x : Arc) : firstN o x ≤ o.length := (List.takeWhile_sublist _).length_le
theorem firstN_eq {o : List Arc} {x : Arc} {k : Nat} (hk : k ≤ o.length) (h1 : ∀ j a, o[j]? = some a → j < k → lessB a x = true) (h2 : ∀ a, o[k]? = some a → lessB a x = false) : firstN o x = k := by
  unfold firstN
  induction o generalizing k with
  | nil => simp at hk; simp [hk]
  | cons y ys ih =>
    cases k with
    | zero =>
      have := h2 y (by simp)
      simp [List.takeWhile_cons, this]
    | succ k =>
      have := h1 0 y (by simp) (by omega)
      simp only [List.takeWhile_cons, this, if_true, List.length_cons]
      rw [ih (k := k) (by simpa using hk) (fun j a hj hlt => h1 (j + 1) a (by simpa using hj) (by omega)) (fun a ha => h2 a (by simpa using ha))]
/-- in a sorted list: what is not less stays so -/
theorem sorted_mono {o : List Arc} (hs : o.Pairwise fun a b => lessB a b = true) {x : Arc} {i j : Nat} {a b : Arc} (ha : o[i]? = some a) (hb : o[j]? = some b) (hij : i ≤ j) :
    (lessB b x = true → lessB a x = true) := by
  intro h
  rcases Nat.eq_or_lt_of_le hij with rfl | hlt
  · rw [ha] at hb; injection hb with hb; rw [hb]; exact h
  · obtain ⟨hi, hi'⟩ := List.getElem?_eq_some_iff.1 ha
    obtain ⟨hj, hj'⟩ := List.getElem?_eq_some_iff.1 hb
    have := List.pairwise_iff_getElem.1 hs i j hi hj hlt
    rw [hi', hj'] at this
    simp [lessB] at *
    omega

set_option maxRecDepth 100000 in
set_option maxHeartbeats 4000000 in
theorem first_any (A : Option Addr) (n c : Nat) (o : List Arc) (x y : Int) (w : World) (hr : Pairs [] w A n c o) (hn : n ≤ 1000) (hs : o.Pairwise fun a b => lessB a b = true) :
    Calls Try.prog 53 #[.slice A n c, .agg #[.int .i64 x, .int .i64 y]] w fun e w' => e = .returned (.int .i64 (firstN o (x, y) : Nat)) ∧ Fr [] w w' := by
  have HS := Lib.hid hs
  clear hs
  go_enter Try.func53, Try.ntmps53
  go_wp2_with fail
  have hG0 : Fr [] (w.alloc (.cells #[.int .i64 x, .int .i64 y] 52)) (w.alloc (.cells #[.int .i64 x, .int .i64 y] 52)) := Fr.refl _ _
  go_loopw [5, 6] (fun lo hi wr => ∃ l h : Nat, l ≤ h ∧ h ≤ n ∧ lo = .int .i64 l ∧ hi = .int .i64 h ∧ Fr [] (w.alloc (.cells #[.int .i64 x, .int .i64 y] 52)) wr ∧
    Hid ((∀ j a, o[j]? = some a → j < l → lessB a (x, y) = true) ∧ (∀ j a, o[j]? = some a → h ≤ j → lessB a (x, y) = false))) (fun lo hi _ => (intOf hi).toNat - (intOf lo).toNat)
  case atStart => exact ⟨0, n, by omega, by omega, rfl, rfl, hG0, by intro j a _ h; omega, by intro j a h1 h2; have := (List.getElem?_eq_some_iff.1 h1).1; have := hr.n_eq; omega⟩
  case round =>
    clear hG0
    obtain ⟨l, h, hlh, hhn, rfl, rfl, hG, hI⟩ := hrel
    have hl0 := hG.lt
    have x0 := hG.at1 (by simp) 0
    have x1 := hG.at1 (by simp) 1
    simp at x0 x1
    by_cases hlt : l < h
    · have hlt' : (l : Int) < (h : Int) := by omega
      obtain ⟨md, hmd⟩ : ∃ md, md = l + (h - l) / 2 := ⟨_, rfl⟩
      have hmd1 : md < h := by omega
      have hmd2 : l ≤ md := by omega
      have hmd3 : ((l : Int) + ((h : Int) - (l : Int)).tdiv 2) = (md : Int) := by rw [Int.tdiv_eq_ediv_of_nonneg (by omega)]; omega
      have hmd4 : (md : Int) < (n : Int) := by omega
      have hmd5 : 0 ≤ ((h : Int) - (l : Int)).tdiv 2 ∧ ((h : Int) - (l : Int)).tdiv 2 ≤ 1000 := by rw [Int.tdiv_eq_ediv_of_nonneg (by omega)]; omega
      obtain ⟨m1, m2⟩ := hmd5
      obtain ⟨b, off, u, v, rfl, _, hb, hx, _, c1, c2⟩ := (hr.keep hG.box).getp (i := md) (by omega)
      have HX := Lib.hid hx
      clear hx hmd
      go_wp2_with fail
      cases hls : lessB (u, v) (x, y) with
      | true =>
        have hc : cmpA (u, v) (x, y) < 0 := (cmpA_lt _ _).2 hls
        have HI : Hid ((∀ j a, o[j]? = some a → j < md + 1 → lessB a (x, y) = true) ∧ (∀ j a, o[j]? = some a → h ≤ j → lessB a (x, y) = false)) :=
          ⟨fun j a ha hj => sorted_mono HS.out ha HX.out (by omega) hls, hI.out.2⟩
        clear hls
        generalize hcc : cmpA (u, v) (x, y) = cc at hc
        go_region_held3 (fun w' => w'.cell? ⟨b, off + md * 2, none⟩ = some (.int .i64 u) ∧ w'.cell? ⟨b, off + md * 2 + 1, none⟩ = some (.int .i64 v) ∧ w'.cell? ⟨w.heap.size, 0, none⟩ = some (.int .i64 x) ∧ w'.cell? ⟨w.heap.size, 1, none⟩ = some (.int .i64 y))
          ((first | exact ⟨c1, c2, x0, x1⟩ | exact ⟨h0, h1, h2, h3⟩))
          ((go_at_call 41; refine (pcompare_any _ _ _ _ _).mono ?_; rw [hcc]; rintro e w4 ⟨rfl, hf4⟩
            have hf5 : Fr [] wr w4 := Fr.trans (by repeat (first | exact Fr.refl _ _ | with_reducible assumption | with_reducible apply Fr.drewN | with_reducible apply Fr.drew | with_reducible apply Fr.alloc)) hf4
            have h0 := (hf5.cell (p := ⟨b, off + md * 2, none⟩) hb (by simp)).trans c1
            have h1 := (hf5.cell (p := ⟨b, off + md * 2 + 1, none⟩) hb (by simp)).trans c2
            have h2 := (hf5.cell (p := ⟨w.heap.size, 0, none⟩) hl0 (by simp)).trans x0
            have h3 := (hf5.cell (p := ⟨w.heap.size, 1, none⟩) hl0 (by simp)).trans x1))
        go_wp2_with fail
        go_roundw
        case rel => exact ⟨md + 1, h, by omega, hhn, by go_num, rfl, hG.trans hf5, HI⟩
        case measure => simp [intOf]; omega
      | false =>
        have hc : ¬ cmpA (u, v) (x, y) < 0 := by rw [cmpA_lt, hls]; simp
        have HI : Hid ((∀ j a, o[j]? = some a → j < l → lessB a (x, y) = true) ∧ (∀ j a, o[j]? = some a → md ≤ j → lessB a (x, y) = false)) :=
          ⟨hI.out.1, fun j a ha hj => by
            cases hla : lessB a (x, y) with
            | false => rfl
            | true => rw [sorted_mono HS.out HX.out ha hj hla] at hls; cases hls⟩
        clear hls
        generalize hcc : cmpA (u, v) (x, y) = cc at hc
        go_region_held3 (fun w' => w'.cell? ⟨b, off + md * 2, none⟩ = some (.int .i64 u) ∧ w'.cell? ⟨b, off + md * 2 + 1, none⟩ = some (.int .i64 v) ∧ w'.cell? ⟨w.heap.size, 0, none⟩ = some (.int .i64 x) ∧ w'.cell? ⟨w.heap.size, 1, none⟩ = some (.int .i64 y))
          ((first | exact ⟨c1, c2, x0, x1⟩ | exact ⟨h0, h1, h2, h3⟩))
          ((go_at_call 41; refine (pcompare_any _ _ _ _ _).mono ?_; rw [hcc]; rintro e w4 ⟨rfl, hf4⟩
            have hf5 : Fr [] wr w4 := Fr.trans (by repeat (first | exact Fr.refl _ _ | with_reducible assumption | with_reducible apply Fr.drewN | with_reducible apply Fr.drew | with_reducible apply Fr.alloc)) hf4
            have h0 := (hf5.cell (p := ⟨b, off + md * 2, none⟩) hb (by simp)).trans c1
            have h1 := (hf5.cell (p := ⟨b, off + md * 2 + 1, none⟩) hb (by simp)).trans c2
            have h2 := (hf5.cell (p := ⟨w.heap.size, 0, none⟩) hl0 (by simp)).trans x0
            have h3 := (hf5.cell (p := ⟨w.heap.size, 1, none⟩) hl0 (by simp)).trans x1))
        go_wp2_with fail
        go_roundw
        case rel => exact ⟨l, md, by omega, by omega, rfl, rfl, hG.trans hf5, HI⟩
        case measure => simp [intOf]; omega
    · have hge : decide ((l : Int) < (h : Int)) = false := by simp; omega
      have hfin : firstN o (x, y) = l := firstN_eq (by rw [hr.n_eq]; omega) hI.out.1 (fun a ha => hI.out.2 _ a ha (by omega))
      have HF := Lib.hid hfin
      clear hfin
      go_wp2_with fail
      go_ret
      exact ⟨by rw [HF.out]; rfl, hG.box⟩
end Go.Proofs.Ytfkpjnmngafnmaa
