/- Huge. -/
import Derived.Test.YtfkpjnmngafnmaaRf3
namespace Go.Proofs.Ytfkpjnmngafnmaa
set_option linter.unusedVariables false
set_option linter.unusedSimpArgs false
open Go.RowKit

/-- what Huge's answer tells -/
def HugeP (rows : List (List Arc)) (w : World) (e : Ending) (w' : World) : Prop := ∃ b : Bool, e = .returned (.bool b) ∧ (b = false → rows.length ≤ 12 ∧ tot rows ≤ 60) ∧ Fr [] w w'

set_option maxRecDepth 100000 in
set_option maxHeartbeats 2000000 in
/-- a system that is not huge is small -/
theorem huge_any (A : Option Addr) (n c : Nat) (rows : List (List Arc)) (w : World) (hr : Ll cp 2 [] w A n c rows) (hn : n ≤ 140737488355328) (hl : ∀ r ∈ rows, r.length ≤ 140737488355328) :
    Calls Try.prog 12 #[.agg #[.slice A n c]] w (HugeP rows w) := by
  have HN := Lib.hid hr.n_eq
  have HL := Lib.hid hl
  clear hl
  go_enter Try.func12, Try.ntmps12
  go_wp2_with fail
  go_loopw [3, 4] (fun acc i wr => ∃ k q : Nat, k ≤ n ∧ i = .int .i64 k ∧ acc = .int .i64 q ∧ Hid (q = tot (rows.take k)) ∧ q ≤ 140737488355388 ∧ Fr [] (w.alloc (.cells #[.slice A n c] 25)) wr) (fun _ i _ => n - (intOf i).toNat)
  case atStart => exact ⟨0, 0, by omega, rfl, rfl, by simp [Hid, tot], by omega, Fr.refl _ _⟩
  case round =>
    obtain ⟨k, q, hk, rfl, rfl, hq, hqb, hF⟩ := hrel
    have hF0 := hF.box
    have l1 := hF.lt
    have b1 := hF.at1 (by simp) 0
    simp at b1
    by_cases hlt : k < n
    · have hlt' : (k : Int) < (n : Int) := by omega
      by_cases hq6 : q ≤ 60
      · have hq6' : (q : Int) ≤ 60 := by omega
        obtain ⟨b, off, B, m, d, r, rfl, _, hb, hm1, hrd, c1, hrow⟩ := (hr.keep hF0).get hlt
        have hm2 : m ≤ 140737488355328 := by rw [← hrow.n_eq]; exact HL.out _ (List.mem_of_getElem? hm1)
        have Hq : Hid (q + m = tot (rows.take (k + 1))) := by unfold Hid; rw [tot_take_succ hm1, ← hq.out, hrow.n_eq]
        clear hm1 hrd
        go_wp2_with fail
        go_roundw
        case rel => exact ⟨k + 1, q + m, by omega, by go_num, by go_num, Hq, by omega, hF⟩
        case measure => simp [intOf]; omega
      · have hq6' : ¬ (q : Int) ≤ 60 := by omega
        have hge : decide ((q : Int) ≤ 60) = false := by simp; omega
        have hgt : (60 : Int) < (q : Int) := by omega
        by_cases hn12 : 12 < n
        · have hn12' : (12 : Int) < (n : Int) := by omega
          go_wp2_with fail
          go_ret
          exact ⟨true, rfl, by simp, hF0⟩
        · have hn12' : decide ((12 : Int) < (n : Int)) = false := by simp; omega
          go_wp2_with fail
          go_ret
          exact ⟨true, rfl, by simp, hF0⟩
    · have hge : decide ((k : Int) < (n : Int)) = false := by simp; omega
      have hkn : k = n := by omega
      have Hfin : Hid (q = tot rows) := by unfold Hid; rw [hq.out, List.take_of_length_le (by rw [HN.out]; omega)]
      clear hkn
      by_cases hn12 : 12 < n
      · have hn12' : (12 : Int) < (n : Int) := by omega
        go_wp2_with fail
        go_ret
        exact ⟨true, rfl, by simp, hF0⟩
      · have hn12' : decide ((12 : Int) < (n : Int)) = false := by simp; omega
        by_cases hq6 : 60 < q
        · have hq6' : (60 : Int) < (q : Int) := by omega
          go_wp2_with fail
          go_ret
          exact ⟨true, rfl, by simp, hF0⟩
        · have hq6' : decide ((60 : Int) < (q : Int)) = false := by simp; omega
          go_wp2_with fail
          go_ret
          exact ⟨false, rfl, fun _ => ⟨by rw [HN.out]; omega, by rw [← Hfin.out]; omega⟩, hF0⟩
end Go.Proofs.Ytfkpjnmngafnmaa
