/- PriorityOnce walked. -/
import Derived.Test.YtfkpjnmngafnmaaCanl2
import Derived.Test.YtfkpjnmngafnmaaLpri2
namespace Go.Proofs.Ytfkpjnmngafnmaa
set_option linter.unusedVariables false
set_option linter.unusedSimpArgs false
open Go.RowKit

theorem same_yes (A B : Option Addr) (n c m d : Nat) (xs : List (List Arc)) (w : World) (hx : Ll cp 2 [] w A n c xs) (hy : Ll cp 2 [] w B m d xs) (hb : xs.length ≤ 10000 ∧ ∀ r ∈ xs, r.length ≤ 200000) :
    Calls Try.prog 16 #[.agg #[.slice A n c], .agg #[.slice B m d]] w fun e w' => e = .returned (.bool true) ∧ Fr [] w w' := by
  have hl : ∀ r ∈ xs, r.length ≤ 140737488355328 := fun r hr => by have := hb.2 r hr; omega
  refine (same_any A B n c m d xs xs w hx hy (by rw [← hx.n_eq]; omega) (by rw [← hy.n_eq]; omega) hl hl).mono ?_
  rintro e w' ⟨rfl, h⟩
  exact ⟨by simp, h⟩

theorem prioA_small {rows : List (List Arc)} {o : List Arc} (h1 : rows.length ≤ 20) (h2 : ∀ r ∈ rows, r.length ≤ 2001) : Small (prioA rows o) := by
  unfold prioA
  split
  · have := canGo_bound (prioR o rows) 2001 (fun r hr => by
      simp only [prioR, List.mem_map] at hr
      obtain ⟨q, hq, rfl⟩ := hr
      exact Nat.le_trans (List.length_filter_le _ _) (h2 q hq)) (prioR o rows).length 0 ((List.replicate (prioR o rows).length (-1)).set 0 0) [0] [] (by simp)
    refine small_of ?_ this.2
    have h3 := this.1
    have h4 : (prioR o rows).length = rows.length := by simp [prioR]
    rw [List.length_nil] at h3
    unfold canonR
    omega
  · exact small_of (by simp) (by simp)

set_option maxRecDepth 100000 in
set_option maxHeartbeats 8000000 in
theorem lawOnce_any (T : Option Addr) (tn tc : Nat) (ts : List Int) (w : World) (ht : Ints [] w T tn tc ts) (htn : tn ≤ 9223372036854775807) (htx : ∀ x ∈ ts, -9223372036854775808 ≤ x ∧ x ≤ 9223372036854775807) :
    Calls Try.prog 4 #[.slice T tn tc] w fun e w' => e = .returned (.bool true) ∧ Fr [] w w' := by
  have HTX := Lib.hid htx
  clear htx
  go_enter Try.func4, Try.ntmps4
  go_wp2_with fail
  refine (new_any T tn tc ts _ ht htn HTX.out).mono ?_
  rintro e w1 ⟨rfl, ht1, hf1⟩
  go_wp2_with fail
  refine (chain_any [] w.heap.size 0 8 _ (by simp) ht1 (by omega) (by omega) (by omega)).mono ?_
  rintro e w2 ⟨g, m, rfl, hm1, hm2, hgs, ht2, hf2, hg2⟩
  obtain ⟨rs, hrs, hok⟩ := hgs.ll
  have hsm := small_ok hok (by omega)
  have hv := valid_ok hok (by omega)
  have HV := Lib.hid hv
  have hF2 : Fr [] w w2 := (hf1.any.trans hf2).drop (Nat.le_refl _)
  have hbt2 := ht2.lt
  have k4 := Blk.new w2 25 [.slice (some ⟨g, 0, none⟩) m m]
  have hal := (Fr.refl [] w2).alloc (.cells #[.slice (some ⟨g, 0, none⟩) m m] 25)
  have hr4 := hrs.keep hal.any
  have ht4 := ht2.alloc (.cells #[.slice (some ⟨g, 0, none⟩) m m] 25)
  have C1 := canonical_any [w.heap.size] (some ⟨g, 0, none⟩) m m rs _ (by intro x hx; simp at hx; subst hx; exact ht4.lt) hr4 hsm (validB_loose hv)
  have hF4 := hF2.trans hal
  clear hgs hv hf1 hf2
  go_wp2_with fail
  refine C1.mono ?_
  rintro e w3 ⟨A1, n1, c1, B1, m1, d1, rfl, hL1, hI1, hf3⟩
  clear C1 hI1
  obtain ⟨W3, hW3⟩ : ∃ W3, W3 = w3.alloc (.cells #[.slice A1 n1 c1] 25) := ⟨_, rfl⟩
  have ha3 : Fr [] w3 W3 := by rw [hW3]; exact (Fr.refl _ _).alloc _
  have k4' := (k4.fr hf3 (by simp)).fr ha3 (by simp)
  have k5 : Blk W3 w3.heap.size 25 [.slice A1 n1 c1] := by rw [hW3]; exact Blk.new w3 25 [.slice A1 n1 c1]
  have ht5 : Tp W3 w.heap.size 300 := (ht4.keep hf3 (by simp)).keep ha3 (by simp)
  have hL1' := hL1.keep ha3.any
  have hr5 := (hr4.keep hf3.any).keep ha3.any
  have hF5 := (hF4.trans hf3).trans ha3
  have HO := Lib.hid (order_any [] w.heap.size 300 W3 (by simp) ht5 (by omega))
  rw [hW3] at HO
  have l4 := k4'.lt
  have hne4 : w2.heap.size ≠ w.heap.size := by omega
  have hne5 : w3.heap.size ≠ w.heap.size := by have := hf3.size; simp at this; omega
  clear ht4 hal hr4 hL1 k4
  go_wp2_with fail
  refine HO.out.mono ?_
  rw [← hW3]
  rintro e w5 ⟨A2, n2, c2, o, rfl, ho, hom, ht6, hf5⟩
  clear HO hW3
  have hov := orders_ok o hom
  have hf5n : ∀ k, k ≠ w.heap.size → k ∉ [w.heap.size] := fun k hk => by simpa using hk
  have q4 := k4'.fr hf5 (hf5n _ hne4)
  have q5 := k5.fr hf5 (hf5n _ hne5)
  have hF6 : Fr [] w w5 := (hF5.any.trans hf5).drop (Nat.le_refl _)
  have hr6 := (hr5.keep hf5).plain
  have hL6 := (hL1'.keep hf5).plain
  have ho6 := ho.plain
  obtain ⟨p1, p2, p3⟩ := prio_twice HV.out hov.1
  obtain ⟨n1', n2'⟩ := prio_nil HV.out
  have hbc := prioA_bound (o := []) hsm
  have hbp := prioA_bound (o := o) hsm
  have hsP := prioA_small (o := o) (rows := rs) (by rw [hok.1]; omega) (fun r hr => by have := (hok.2 r hr).2.1; omega)
  have hol : n2 ≤ 1000 := by rw [← ho6.n_eq]; have := hov.2; omega
  have C2 := pprio_all [] (some ⟨g, 0, none⟩) none m m 0 0 rs [] w5 (by simp) hr6 hsm (Ls.nil _ _ _ _) (by omega)
  have C3 := fun V h1 h2 => pprio_all [] (some ⟨g, 0, none⟩) A2 m m n2 c2 rs o V (by simp) h1 hsm h2 hol
  have C4 := fun V A n c h1 h2 => pprio_all [] A A2 n c n2 c2 (prioA rs o) o V (by simp) h1 hsP h2 hol
  rw [n1', n2'] at C2
  rw [n1'] at hbc
  rw [p1] at C3
  rw [p2, p3] at C4
  generalize prioA rs o = P at C3 C4 hbp
  generalize (canonR rs).1 = Q at C2 hbc hL6
  have S1 := fun V A B n c m d h1 h2 => same_yes A B n c m d Q V h1 h2 hbc
  have S2 := fun V A B n c m d h1 h2 => same_yes A B n c m d P V h1 h2 hbp
  clear hL1' hr5 k5 k4' hf3 ha3 ht5 hom ho hov n1' n2' p1 p2 p3 hbc hbp hsP hok hsm hrs HV hF5 hF4 hF2 hf5 hf5n ht6 l4 hbt2 ht2 hm1 hm2 HTX ht hg2
  have e4 := q4.cellS (i := 0) rfl
  have e4l := q4.lt
  go_wp2_with fail
  refine C2.mono ?_
  rintro e w6 ⟨A6, n6, c6, rfl, hLA, hf6⟩
  clear C2
  have a6 : Fr [] w5 (w6.alloc (.cells #[.slice A6 n6 c6] 25)) := hf6.alloc _
  have k8 := Blk.new w6 25 [.slice A6 n6 c6]
  have HC3 := C3 _ (hr6.keep a6) (ho6.keep a6)
  have e4 := (q4.fr a6 (by simp)).cellS (i := 0) rfl
  have e4l := (q4.fr a6 (by simp)).lt
  have hLA := hLA.keep ((Fr.refl [] w6).alloc (.cells #[.slice A6 n6 c6] 25))
  clear C3
  go_wp2_with fail
  refine HC3.mono ?_
  rintro e w7 ⟨A7, n7, c7, rfl, hLB, hf7⟩
  clear HC3
  have a7 : Fr [] (w6.alloc (.cells #[.slice A6 n6 c6] 25)) (w7.alloc (.cells #[.slice A7 n7 c7] 25)) := hf7.alloc _
  have k10 := Blk.new w7 25 [.slice A7 n7 c7]
  have hLB := hLB.keep ((Fr.refl [] w7).alloc (.cells #[.slice A7 n7 c7] 25))
  have HC4 := C4 _ _ _ _ hLB ((ho6.keep a6).keep a7)
  have e10 := k10.cellS (i := 0) rfl
  have e10l := k10.lt
  have k8 := k8.fr a7 (by simp)
  have hLA := hLA.keep a7
  clear C4
  go_wp2_with fail
  refine HC4.mono ?_
  rintro e w8 ⟨A8, n8, c8, rfl, hLC, hf8⟩
  clear HC4
  have a8 : Fr [] (w7.alloc (.cells #[.slice A7 n7 c7] 25)) (w8.alloc (.cells #[.slice A8 n8 c8] 25)) := hf8.alloc _
  have k12 := Blk.new w8 25 [.slice A8 n8 c8]
  have hLC := hLC.keep ((Fr.refl [] w8).alloc (.cells #[.slice A8 n8 c8] 25))
  have k8 := k8.fr a8 (by simp)
  have k10 := k10.fr a8 (by simp)
  have hLA := hLA.keep a8
  have hLB := hLB.keep a8
  have a68 := (a6.trans a7).trans a8
  have q5 := q5.fr a68 (by simp)
  have e5 := q5.cellS (i := 0) rfl
  have e5l := q5.lt
  have e8 := k8.cellS (i := 0) rfl
  have e8l := k8.lt
  have HS1 := S1 _ _ _ _ _ _ _ hLA (hL6.keep a68)
  clear S1
  go_wp2_with fail
  refine HS1.mono ?_
  rintro e w9 ⟨rfl, hf9⟩
  clear HS1
  have HS2 := S2 _ _ _ _ _ _ _ (hLB.keep hf9) (hLC.keep hf9)
  have k10 := k10.fr hf9 (by simp)
  have e10 := k10.cellS (i := 0) rfl
  have e10l := k10.lt
  have k12 := k12.fr hf9 (by simp)
  have e12 := k12.cellS (i := 0) rfl
  have e12l := k12.lt
  go_wp2_with fail
  refine HS2.mono ?_
  rintro e w10 ⟨rfl, hf10⟩
  clear HS2 S2
  have SN := sane_any w10
  go_wp2_with fail
  refine SN.mono ?_
  rintro e w11 ⟨rfl, hf11⟩
  go_wp2_with fail
  go_ret
  exact ⟨rfl, ((((hF6.trans a68).trans hf9).trans hf10).trans hf11)⟩
end Go.Proofs.Ytfkpjnmngafnmaa
