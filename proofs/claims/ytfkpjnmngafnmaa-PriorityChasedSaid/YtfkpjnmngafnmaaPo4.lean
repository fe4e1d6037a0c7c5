/- The program's blocks, and the closure that Prioritise hands to ContainsFunc. -/
import Derived.Test.YtfkpjnmngafnmaaPo3
namespace Go.Proofs.Ytfkpjnmngafnmaa
set_option linter.unusedVariables false
set_option linter.unusedSimpArgs false
open Go.RowKit

theorem blk_law {o : List Arc} {lo hi : Int} (hv : validOrdB o = true) : blkB o lo hi = if hi = 0 ∨ hi = 1 then decide (0 < (abvL o lo).length) else abvB o lo hi := by
  have hvl : voL none o = true := by
    rw [vo_law] at hv; simp at hv; exact hv.1
  obtain ⟨_, h2, _⟩ := voL_sorted hvl
  unfold blkB
  by_cases h : hi = 0 ∨ hi = 1
  · have h0 : abvB o lo hi = false := by
      cases ha : abvB o lo hi with
      | false => rfl
      | true => have := h2 _ (abvB_mem.1 ha); simp [vo1] at this; omega
    have h1 : (hi == 0 || hi == 1) = true := by simpa using h
    simp only [h, if_true, h0, Bool.false_or, h1, Bool.and_true]
    rw [Bool.eq_iff_iff]
    simp only [List.any_eq_true, decide_eq_true_eq, List.length_pos_iff_exists_mem, abvL, List.mem_filter]
  · have h1 : (hi == 0 || hi == 1) = false := by simpa using h
    simp only [h, if_false, h1, Bool.and_false]
    simp

set_option maxRecDepth 100000 in
set_option maxHeartbeats 4000000 in
theorem pblocks_any (A : Option Addr) (n c : Nat) (o : List Arc) (lo hi : Int) (w : World) (hr : Pairs [] w A n c o) (hn : n ≤ 1000) (hv : validOrdB o = true) :
    Calls Try.prog 29 #[.slice A n c, .int .i64 lo, .int .i64 hi] w fun e w' => e = .returned (.bool (blkB o lo hi)) ∧ Fr [] w w' := by
  have hlaw := blk_law hv (lo := lo) (hi := hi)
  have hvl : voL none o = true := by
    rw [vo_law] at hv; simp at hv; exact hv.1
  obtain ⟨hs, h2, _⟩ := voL_sorted hvl
  have HS := Lib.hid hs
  have H2 := Lib.hid h2
  clear hv hvl hs h2
  by_cases h : hi = 0 ∨ hi = 1
  · rw [if_pos h] at hlaw
    have HL := Lib.hid hlaw
    clear hlaw
    rcases h with rfl | rfl
    · go_enter Try.func29, Try.ntmps29
      go_wp2_with ((go_at_call 42; refine (pabove_any [] A n c o lo _ hr hn HS.out H2.out).mono ?_; rintro e w3 ⟨A3, n3, c3, rfl, hL3, hf3⟩))
      go_ret
      refine ⟨?_, hf3⟩
      rw [HL.out, hL3.n_eq]; simp
    · go_enter Try.func29, Try.ntmps29
      go_wp2_with ((go_at_call 42; refine (pabove_any [] A n c o lo _ hr hn HS.out H2.out).mono ?_; rintro e w3 ⟨A3, n3, c3, rfl, hL3, hf3⟩))
      go_ret
      refine ⟨?_, hf3⟩
      rw [HL.out, hL3.n_eq]; simp
  · rw [if_neg h] at hlaw
    have HL := Lib.hid hlaw
    have h1 : (hi == 0) = false := by simp; omega
    have h2 : (hi == 1) = false := by simp; omega
    clear hlaw h
    go_enter Try.func29, Try.ntmps29
    go_wp2_with ((go_at_call 43; refine (contains_any A n c o lo hi _ hr hn HS.out).mono ?_; rintro e w3 ⟨rfl, hf3⟩))
    go_ret
    exact ⟨by rw [HL.out]; rfl, hf3⟩
end Go.Proofs.Ytfkpjnmngafnmaa
