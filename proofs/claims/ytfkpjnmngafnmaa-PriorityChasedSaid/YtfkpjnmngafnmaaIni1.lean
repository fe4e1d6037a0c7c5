/- The program's Initials (package flow): the events of a row, without repetitions. -/
import Derived.Test.YtfkpjnmngafnmaaCan2
namespace Go.Proofs.Ytfkpjnmngafnmaa
set_option linter.unusedVariables false
set_option linter.unusedSimpArgs false
open Go.RowKit

def iniStep (acc : List Int) (e : Int) : List Int := if acc.getLast? = some e then acc else acc ++ [e]
def iniL (r : List Arc) : List Int := r.foldl (fun acc a => iniStep acc a.1) []

set_option maxRecDepth 100000 in
set_option maxHeartbeats 4000000 in
theorem initials_any (X : List Nat) (A : Option Addr) (n c s : Nat) (rows : List (List Arc)) (r : List Arc) (w : World) (hX : ∀ x ∈ X, x < w.heap.size) (hr : Ll cp 2 [] w A n c rows) (hs : rows[s]? = some r) (hl : r.length ≤ 200000) (hn1 : n ≤ 200000) :
    Calls Try.prog 26 #[.agg #[.slice A n c], .int .i64 s] w fun e w' => ∃ A' n' c', e = .returned (.slice A' n' c') ∧ Ints X w' A' n' c' (iniL r) ∧ Fr [] w w' := by
  have hsn : s < n := by rw [← hr.n_eq]; exact (List.getElem?_eq_some_iff.1 hs).1
  have hsn' : (s : Int) < (n : Int) := by omega
  obtain ⟨b, off, C, m, e, r', rfl, _, hb, hm1, hrd, c1, hrow⟩ := hr.get hsn
  rw [hs] at hm1
  injection hm1 with hm1
  subst hm1
  have hm : m ≤ 200000 := by rw [← hrow.n_eq]; exact hl
  have HX := Lib.hid hX
  clear hs hrd hX
  go_enter Try.func26, Try.ntmps26
  go_wp2_with fail
  go_loopw [5, 14] (fun v iv wr => ∃ (k : Nat) (acc : List Int) (N : Nat), k ≤ m ∧ iv = .int .i64 k ∧ Own wr w.heap.size 3 1 v N (acc.flatMap ci) ∧ Hid (acc.length = N) ∧ N ≤ k ∧ Fr [] w wr ∧ Hid ((r.drop k).foldl (fun acc a => iniStep acc a.1) acc = iniL r)) (fun _ iv _ => m - (intOf iv).toNat)
  case atStart => exact ⟨0, [], 0, by omega, rfl, Own.nil _ _ _ _, rfl, Nat.le_refl _, (by repeat (first | exact Fr.refl _ _ | with_reducible assumption | with_reducible apply Fr.drewN | with_reducible apply Fr.drew | with_reducible apply Fr.alloc)), rfl⟩
  case round =>
    obtain ⟨k, acc, N, hk, rfl, hown, hNe, hNk, hF, hI⟩ := hrel
    by_cases hlt : k < m
    · have hlt' : (k : Int) < (m : Int) := by omega
      obtain ⟨b', off', x, y, rfl, _, hb', _, hd, a1, a2⟩ := (hrow.keep hF).getp hlt
      have hI2 := hI.out
      rw [hd, List.foldl_cons] at hI2
      have hN1 : N ≤ 200000 := by omega
      obtain ⟨A1, N1, rfl, hown1⟩ := hown.ls hNe.out (M := []) (by simp)
      by_cases hin : acc.getLast? = some x
      · have hst : iniStep acc x = acc := by simp [iniStep, hin]
        have H2 : Hid ((r.drop (k + 1)).foldl (fun acc a => iniStep acc a.1) acc = iniL r) := by rw [hst] at hI2; exact hI2
        have h0 : 0 < N := by
          rw [← hNe.out]; cases acc with
          | nil => simp at hin
          | cons => simp
        obtain ⟨b1, off1, x1, rfl, _, hb1, hx1, _, e1⟩ := hown1.geti (i := N - 1) (by omega)
        have hxx : x1 = x := by
          rw [List.getLast?_eq_getElem?, hNe.out, hx1] at hin
          simpa using hin
        subst hxx
        have hne : ((N : Int) == 0) = false := by simp; omega
        have hsub : (N : Int) - 1 = ((N - 1 : Nat) : Int) := by omega
        have hnn : (x1 != x1) = false := by simp
        have hlt2 : ((N - 1 : Nat) : Int) < (N : Int) := by omega
        clear hI2 hin hst hd hx1 hI
        go_wp2_with fail
        go_quiet (fail)
        go_wp2_with fail
        go_roundw
        case rel => exact ⟨k + 1, acc, N, by omega, by go_num, hown.fr (M := []) (by repeat (first | exact Fr.refl _ _ | with_reducible assumption | with_reducible apply Fr.drewN | with_reducible apply Fr.drew | with_reducible apply Fr.alloc)) (by simp), hNe, by omega, hF.trans (by repeat (first | exact Fr.refl _ _ | with_reducible assumption | with_reducible apply Fr.drewN | with_reducible apply Fr.drew | with_reducible apply Fr.alloc)), H2⟩
        case measure => simp [intOf]; omega
      · have hst : iniStep acc x = acc ++ [x] := by simp [iniStep, hin]
        have H2 : Hid ((r.drop (k + 1)).foldl (fun acc a => iniStep acc a.1) (acc ++ [x]) = iniL r) := by rw [hst] at hI2; exact hI2
        by_cases h0 : N = 0
        · subst h0
          clear hI2 hin hst hd hI
          go_wp2_with fail
          go_quiet (fail)
          go_wp2_with ((at_builtin; refine app_own rfl rfl T_ints (hown.fr (M := []) (by repeat (first | exact Fr.refl _ _ | with_reducible assumption | with_reducible apply Fr.drewN | with_reducible apply Fr.drew | with_reducible apply Fr.alloc)) (by simp)) (Sl.litg [] _ 3 #[.int .i64 x] 1 1 1 _ rfl (by omega) (by simp) (by simp)) rfl rfl (by simp [Value.oneCell']) (by omega) (by omega) (by have := hF.size; simp; omega) ?_))
          intro v4 w4 own4 fr4
          have hF4 : Fr [] w w4 := fr4 [] w (hF.trans (by repeat (first | exact Fr.refl _ _ | with_reducible assumption | with_reducible apply Fr.drewN | with_reducible apply Fr.drew | with_reducible apply Fr.alloc))) (Nat.le_refl _)
          clear fr4
          go_wp2_with fail
          go_roundw
          case rel => exact ⟨k + 1, acc ++ [x], 1, by omega, by go_num, by simpa [List.flatMap_append, ci] using own4, by unfold Hid; simp [hNe.out], by omega, hF4, H2⟩
          case measure => simp [intOf]; omega
        · obtain ⟨b1, off1, x1, rfl, _, hb1, hx1, _, e1⟩ := hown1.geti (i := N - 1) (by omega)
          have hxx : x1 ≠ x := by
            rintro rfl
            apply hin
            rw [List.getLast?_eq_getElem?, hNe.out, hx1]
          have hne : ((N : Int) == 0) = false := by simp; omega
          have hsub : (N : Int) - 1 = ((N - 1 : Nat) : Int) := by omega
          have hnn : (x1 != x) = true := by simpa using hxx
          have hlt2 : ((N - 1 : Nat) : Int) < (N : Int) := by omega
          clear hI2 hin hst hd hx1 hI hxx
          go_wp2_with fail
          go_quiet (fail)
          go_wp2_with ((at_builtin; refine app_own rfl rfl T_ints (hown.fr (M := []) (by repeat (first | exact Fr.refl _ _ | with_reducible assumption | with_reducible apply Fr.drewN | with_reducible apply Fr.drew | with_reducible apply Fr.alloc)) (by simp)) (Sl.litg [] _ 3 #[.int .i64 x] 1 1 1 _ rfl (by omega) (by simp) (by simp)) rfl rfl (by simp [Value.oneCell']) (by omega) (by omega) (by have := hF.size; simp; omega) ?_))
          intro v4 w4 own4 fr4
          have hF4 : Fr [] w w4 := fr4 [] w (hF.trans (by repeat (first | exact Fr.refl _ _ | with_reducible assumption | with_reducible apply Fr.drewN | with_reducible apply Fr.drew | with_reducible apply Fr.alloc))) (Nat.le_refl _)
          clear fr4
          go_wp2_with fail
          go_roundw
          case rel => exact ⟨k + 1, acc ++ [x], N + 1, by omega, by go_num, by simpa [List.flatMap_append, ci] using own4, by unfold Hid; simp [hNe.out], by omega, hF4, H2⟩
          case measure => simp [intOf]; omega
    · have hge : decide ((k : Int) < (m : Int)) = false := by simp; omega
      have hend : acc = iniL r := by
        have := hI.out
        rw [List.drop_eq_nil_of_le (by rw [hrow.n_eq]; omega)] at this
        simpa using this
      obtain ⟨A1, c2, rfl, hown1⟩ := hown.ls hNe.out (M := X) HX.out
      have HE := Lib.hid hend
      clear hend
      go_wp2_with fail
      go_ret
      exact ⟨A1, N, c2, rfl, by rw [← HE.out]; exact hown1, hF⟩
end Go.Proofs.Ytfkpjnmngafnmaa
