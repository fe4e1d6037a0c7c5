/- PriorityChased walked. -/
import Derived.Test.YtfkpjnmngafnmaaCha1
import Derived.Test.YtfkpjnmngafnmaaLpri2
namespace Go.Proofs.Ytfkpjnmngafnmaa
set_option linter.unusedVariables false
set_option linter.unusedSimpArgs false
open Go.RowKit

theorem same_yesC (A B : Option Addr) (n c m d : Nat) (xs : List (List Arc)) (w : World) (hx : Ll cp 2 [] w A n c xs) (hy : Ll cp 2 [] w B m d xs) (hb : xs.length ≤ 10000 ∧ ∀ r ∈ xs, r.length ≤ 200000) :
    Calls Try.prog 16 #[.agg #[.slice A n c], .agg #[.slice B m d]] w fun e w' => e = .returned (.bool true) ∧ Fr [] w w' := by
  have hl : ∀ r ∈ xs, r.length ≤ 140737488355328 := fun r hr => by have := hb.2 r hr; omega
  refine (same_any A B n c m d xs xs w hx hy (by rw [← hx.n_eq]; omega) (by rw [← hy.n_eq]; omega) hl hl).mono ?_
  rintro e w' ⟨rfl, h⟩
  exact ⟨by simp, h⟩

theorem chaseA_small {rows : List (List Arc)} (h1 : rows.length ≤ 20) (h2 : ∀ r ∈ rows, r.length ≤ 2001) : Small (chaseA rows) := by
  unfold chaseA
  split
  · have := canGo_bound (chaseR rows) 2001 (fun r hr => by
      simp only [chaseR, List.mem_map] at hr
      obtain ⟨q, hq, rfl⟩ := hr
      exact Nat.le_trans (chaseRow_sub _).length_le (h2 q hq)) (chaseR rows).length 0 ((List.replicate (chaseR rows).length (-1)).set 0 0) [0] [] (by simp)
    refine small_of ?_ this.2
    have h3 := this.1
    have h4 : (chaseR rows).length = rows.length := by simp [chaseR]
    rw [List.length_nil] at h3
    unfold canonR
    omega
  · exact small_of (by simp) (by simp)

set_option maxRecDepth 100000 in
set_option maxHeartbeats 8000000 in
theorem lawChased_any (T : Option Addr) (tn tc : Nat) (ts : List Int) (w : World) (ht : Ints [] w T tn tc ts) (htn : tn ≤ 9223372036854775807) (htx : ∀ x ∈ ts, -9223372036854775808 ≤ x ∧ x ≤ 9223372036854775807) :
    Calls Try.prog 5 #[.slice T tn tc] w fun e w' => e = .returned (.bool true) ∧ Fr [] w w' := by
  have HTX := Lib.hid htx
  clear htx
  go_enter Try.func5, Try.ntmps5
  go_wp2_with fail
  refine (new_any T tn tc ts _ ht htn HTX.out).mono ?_
  rintro e w1 ⟨rfl, ht1, hf1⟩
  go_wp2_with fail
  refine (chain_any [] w.heap.size 0 9 _ (by simp) ht1 (by omega) (by omega) (by omega)).mono ?_
  rintro e w2 ⟨g, m, rfl, hm1, hm2, hgs, ht2, hf2, hg2⟩
  obtain ⟨rs, hrs, hok⟩ := hgs.ll
  have hsm := small_ok hok (by omega)
  have hv := valid_ok hok (by omega)
  have hF2 : Fr [] w w2 := (hf1.any.trans hf2).drop (Nat.le_refl _)
  have hal := (Fr.refl [] w2).alloc (.cells #[.slice (some ⟨g, 0, none⟩) m m] 25)
  have C1 := chase_any [] (some ⟨g, 0, none⟩) m m rs _ (by simp) (hrs.plain.keep hal) hsm hv
  have hA : (canonR (chaseR rs)).1 = chaseA rs := by simp [chaseA, hv]
  rw [hA] at C1
  obtain ⟨p1, p2, p3, p4, p5⟩ := chase_twice hv
  have hvP : validB (chaseA rs) = true := by
    unfold chaseE at p2
    split at p2
    · assumption
    · cases p2
  have hsP := chaseA_small (rows := rs) (by rw [hok.1]; omega) (fun r hr => by have := (hok.2 r hr).2.1; omega)
  have hbP := chaseA_bound (rows := rs) hsm
  have C2 := fun V A n c h => chase_any [] A n c (chaseA rs) V (by simp) h hsP hvP
  have hA2 : (canonR (chaseR (chaseA rs))).1 = chaseA rs := (show chaseA (chaseA rs) = (canonR (chaseR (chaseA rs))).1 from if_pos hvP).symm.trans p3
  rw [hA2] at C2
  generalize chaseA rs = P at C1 C2 p4 p5 hbP hvP hsP
  have S1 := fun V A B n c m d h1 h2 => same_yesC A B n c m d P V h1 h2 hbP
  have hF4 := hF2.trans hal
  have hgl : w2.heap.size < (w2.alloc (.cells #[.slice (some ⟨g, 0, none⟩) m m] 25)).heap.size := by simp
  clear hA hA2 hvP hsP hsm hv hok hrs p1 p2 p3 hgs hf1 hf2 hF2 hal ht1 ht2 ht hm1 hm2 HTX hg2
  go_wp2_with fail
  refine C1.mono ?_
  rintro e w3 ⟨A1, n1, c1, rfl, hL1, hf3⟩
  clear C1
  have hn : P.length = n1 := hL1.n_eq
  have h0 : ((n1 : Int) == 0) = false := by simp; omega
  have a3 : Fr [] (w2.alloc (.cells #[.slice (some ⟨g, 0, none⟩) m m] 25)) (w3.alloc (.cells #[.slice A1 n1 c1] 25)) := hf3.alloc _
  have k4 := Blk.new w3 25 [.slice A1 n1 c1]
  have hL1 := hL1.keep ((Fr.refl [] w3).alloc (.cells #[.slice A1 n1 c1] 25))
  have e4 := k4.cellS (i := 0) rfl
  have e4l := k4.lt
  have HP5 := Lib.hid p5
  have HN := Lib.hid hn
  have hn1 : n1 ≤ 10000 := by have := hbP.1; omega
  clear p5 hn hbP
  have hFA := hF4.trans a3
  clear a3 hf3 hF4
  go_wp2_with fail
  go_loopw [6] (fun iv wr => ∃ i : Nat, iv = .int .i64 i ∧ i ≤ n1 ∧ Fr [] (w3.alloc (.cells #[.slice A1 n1 c1] 25)) wr) (fun iv _ => n1 - (intOf iv).toNat)
  case atStart => exact ⟨0, rfl, by omega, Fr.refl _ _⟩
  case round =>
    obtain ⟨i, rfl, hi, hG⟩ := hrel
    have k4 := k4.fr hG (by simp)
    have e4 := k4.cellS (i := 0) rfl
    have e4l := k4.lt
    have hL1 := hL1.keep hG
    by_cases hlt : i < n1
    · have hlt' : (i : Int) < (n1 : Int) := by omega
      obtain ⟨b, off, C, q, e, r', rfl, _, hb, hm1, hrd, c1', hrow⟩ := hL1.get hlt
      have hpr := HP5.out r' (List.mem_of_getElem? hm1)
      by_cases hq : q ≤ 1
      · have hq' : decide ((q : Int) > 1) = false := by simp; omega
        clear hrow hpr
        go_wp2_with fail
        go_roundw
        case rel => exact ⟨i + 1, by go_num, by omega, hG⟩
        case measure => simp [intOf]; omega
      · have hq' : (q : Int) > 1 := by omega
        have hq0 : (0 : Int) < (q : Int) := by omega
        obtain ⟨b', off', x, y, rfl, _, hb', hx, _, a1, a2⟩ := hrow.getp (i := 0) (by omega)
        simp only [Nat.zero_mul, Nat.add_zero] at a1 a2
        have hx0 : x ≠ 0 := by
          rcases hpr with h | h
          · have := hrow.n_eq; omega
          · exact h (x, y) (List.mem_of_getElem? hx)
        have hx1 : (x == 0) = false := by simp [hx0]
        clear hrow hpr
        go_wp2_with fail
        go_roundw
        case rel => exact ⟨i + 1, by go_num, by omega, hG⟩
        case measure => simp [intOf]; omega
    · have hge : decide ((i : Int) < (n1 : Int)) = false := by simp; omega
      have HC2 := C2 _ _ _ _ hL1
      clear C2
      go_wp2_with fail
      refine HC2.mono ?_
      rintro e w5 ⟨A2, n2, c2, rfl, hL2, hf5⟩
      clear HC2
      have a5 : Fr [] wr (w5.alloc (.cells #[.slice A2 n2 c2] 25)) := hf5.alloc _
      have k7 := Blk.new w5 25 [.slice A2 n2 c2]
      have e7 := k7.cellS (i := 0) rfl
      have e7l := k7.lt
      have k4 := k4.fr a5 (by simp)
      have e4 := k4.cellS (i := 0) rfl
      have e4l := k4.lt
      have HS1 := S1 _ _ _ _ _ _ _ (hL1.keep a5) (hL2.keep ((Fr.refl [] w5).alloc (.cells #[.slice A2 n2 c2] 25)))
      clear S1
      go_wp2_with fail
      refine HS1.mono ?_
      rintro e w6 ⟨rfl, hf6⟩
      clear HS1
      have SN := sane_any w6
      go_wp2_with fail
      refine SN.mono ?_
      rintro e w7 ⟨rfl, hf7⟩
      go_wp2_with fail
      go_ret
      exact ⟨rfl, (((hFA.trans hG).trans a5).trans hf6).trans hf7⟩
end Go.Proofs.Ytfkpjnmngafnmaa
