/- cmp.Compare, cmp.Or, and the program's compare of arcs. -/
import Derived.Test.YtfkpjnmngafnmaaRf2
namespace Go.Proofs.Ytfkpjnmngafnmaa
set_option linter.unusedVariables false
set_option linter.unusedSimpArgs false
open Go.RowKit

def cmpI (a b : Int) : Int := if a < b then -1 else if b < a then 1 else 0
def orI (x y : Int) : Int := if x ≠ 0 then x else y
def cmpA (a b : Arc) : Int := orI (cmpI a.1 b.1) (cmpI a.2 b.2)
theorem cmpA_lt (a b : Arc) : cmpA a b < 0 ↔ lessB a b = true := by
  simp only [cmpA, orI, cmpI, lessB, decide_eq_true_eq]
  split <;> (repeat' split) <;> omega
theorem cmpA_ge (a b : Arc) : 0 ≤ cmpA a b ↔ lessB a b = false := by
  rw [← Bool.not_eq_true, ← cmpA_lt]; omega
theorem cmpA_rng (a b : Arc) : -1 ≤ cmpA a b ∧ cmpA a b ≤ 1 := by
  simp only [cmpA, orI, cmpI]
  (repeat' split) <;> omega

theorem isNaN_any (a : Int) (w : World) : Calls Try.prog 57 #[.int .i64 a] w fun e w' => e = .returned (.bool false) ∧ w' = w := by
  have h1 : (a != a) = false := by simp
  go_enter Try.func57, Try.ntmps57
  go_wp2_with fail
  go_ret
  exact ⟨rfl, rfl⟩
set_option maxHeartbeats 1000000 in
theorem compare_any (a b : Int) (w : World) : Calls Try.prog 52 #[.int .i64 a, .int .i64 b] w fun e w' => e = .returned (.int .i64 (cmpI a b)) ∧ w' = w := by
  by_cases h1 : a < b
  · have he : cmpI a b = -1 := by simp [cmpI, h1]
    rw [he]
    clear he
    go_enter Try.func52, Try.ntmps52
    go_wp2_with ((go_at_call 57; refine (isNaN_any _ _).mono ?_; rintro e w' ⟨rfl, rfl⟩))
    go_ret
    exact ⟨rfl, rfl⟩
  · by_cases h2 : b < a
    · have he : cmpI a b = 1 := by simp [cmpI, h1, h2]
      rw [he]
      clear he
      go_enter Try.func52, Try.ntmps52
      go_wp2_with ((go_at_call 57; refine (isNaN_any _ _).mono ?_; rintro e w' ⟨rfl, rfl⟩))
      go_ret
      exact ⟨rfl, rfl⟩
    · have he : cmpI a b = 0 := by simp [cmpI, h1, h2]
      rw [he]
      clear he
      go_enter Try.func52, Try.ntmps52
      go_wp2_with ((go_at_call 57; refine (isNaN_any _ _).mono ?_; rintro e w' ⟨rfl, rfl⟩))
      go_ret
      exact ⟨rfl, rfl⟩
set_option maxHeartbeats 1000000 in
theorem or_two (g : Nat) (x y : Int) (w : World) (h0 : w.cell? ⟨g, 0, none⟩ = some (.int .i64 x)) (h1 : w.cell? ⟨g, 1, none⟩ = some (.int .i64 y)) :
    Calls Try.prog 51 #[.slice (some ⟨g, 0, none⟩) 2 2] w fun e w' => e = .returned (.int .i64 (orI x y)) ∧ w' = w := by
  by_cases hx : x = 0
  · subst hx
    have ho : orI 0 y = y := by simp [orI]
    rw [ho]
    clear ho
    by_cases hy : y = 0
    · subst hy
      have e0 : ((0 : Int) != 0) = false := by simp
      go_enter Try.func51, Try.ntmps51
      go_wp2_with fail
      refine wp_loop_rounds 3 ?_
      rw [rounds_succ]
      go_wp2_with fail
      rw [rounds_succ]
      go_wp2_with fail
      rw [rounds_succ]
      go_wp2_with fail
      go_ret
      exact ⟨rfl, rfl⟩
    · have e0 : ((0 : Int) != 0) = false := by simp
      have e1 : (y != 0) = true := by simpa using hy
      clear hy
      go_enter Try.func51, Try.ntmps51
      go_wp2_with fail
      refine wp_loop_rounds 2 ?_
      rw [rounds_succ]
      go_wp2_with fail
      rw [rounds_succ]
      go_wp2_with fail
      go_ret
      exact ⟨rfl, rfl⟩
  · have ho : orI x y = x := by simp [orI, hx]
    rw [ho]
    clear ho
    have e1 : (x != 0) = true := by simpa using hx
    clear hx
    go_enter Try.func51, Try.ntmps51
    go_wp2_with fail
    refine wp_loop_rounds 1 ?_
    rw [rounds_succ]
    go_wp2_with fail
    go_ret
    exact ⟨rfl, rfl⟩
set_option maxHeartbeats 2000000 in
theorem rcompare_any (a b c d : Int) (w : World) : Calls Try.prog 39 #[.agg #[.int .i64 a, .int .i64 b], .agg #[.int .i64 c, .int .i64 d]] w fun e w' => e = .returned (.int .i64 (cmpA (a, b) (c, d))) ∧ Fr [] w w' := by
  go_enter Try.func39, Try.ntmps39
  go_wp2_with fail
  go_region_held3 (fun w' => w'.cell? ⟨w.heap.size, 0, none⟩ = some (.int .i64 a) ∧ w'.cell? ⟨w.heap.size, 1, none⟩ = some (.int .i64 b) ∧ w'.cell? ⟨w.heap.size + 1, 0, none⟩ = some (.int .i64 c) ∧ w'.cell? ⟨w.heap.size + 1, 1, none⟩ = some (.int .i64 d))
    (go_keep)
    (first
      | (go_at_call 52; refine (compare_any _ _ _).mono ?_; rintro e w' ⟨rfl, rfl⟩)
      | (go_at_call 51; refine (or_two _ (cmpI a c) (cmpI b d) _ (by go_simp) (by go_simp)).mono ?_; rintro e w' ⟨rfl, rfl⟩))
  go_wp2_with fail
  go_ret
  exact ⟨rfl, (by repeat (first | exact Fr.refl _ _ | with_reducible assumption | with_reducible apply Fr.drewN | with_reducible apply Fr.drew | with_reducible apply Fr.alloc))⟩
end Go.Proofs.Ytfkpjnmngafnmaa
