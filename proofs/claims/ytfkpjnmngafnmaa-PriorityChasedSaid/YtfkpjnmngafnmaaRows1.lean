/- The program's loose and Valid. -/
import Derived.Test.YtfkpjnmngafnmaaCmp1
import Derived.Test.YtfkpjnmngafnmaaRf4
namespace Go.Proofs.Ytfkpjnmngafnmaa
set_option linter.unusedVariables false
set_option linter.unusedSimpArgs false
open Go.RowKit

set_option maxRecDepth 100000 in
set_option maxHeartbeats 2000000 in
theorem rloose_any (A : Option Addr) (n c : Nat) (rows : List (List Arc)) (w : World) (hr : Ll cp 2 [] w A n c rows) (hs : Small rows) :
    Calls Try.prog 38 #[.agg #[.slice A n c]] w fun e w' => e = .returned (.bool (looseB rows)) ∧ Fr [] w w' := by
  have hn : rows.length = n := hr.n_eq
  have hn1 : n ≤ 10000 := by rw [← hn]; exact hs.n
  have HN := Lib.hid hn
  clear hn
  by_cases h0 : n = 0
  · subst h0
    have hfin : looseB rows = false := by unfold looseB; rw [HN.out]; rfl
    have Hfin := Lib.hid hfin
    clear hfin
    go_enter Try.func38, Try.ntmps38
    go_wp2_with fail
    go_ret
    exact ⟨by rw [Hfin.out]; rfl, (Fr.refl _ _).alloc _⟩
  · have hlo : looseB rows = rows.all fun r => r.all (arcOkB n) := by unfold looseB; rw [HN.out, decide_eq_true (by omega)]; rfl
    have HL := Lib.hid hlo
    have d0 : (1 : Int) ≤ (n : Int) := by omega
    have d1 : (n : Int) ≤ 16384 := by omega
    clear hlo
    go_enter Try.func38, Try.ntmps38
    go_wp2_with fail
    go_loopw [4, 21] (fun acc i wr => ∃ k : Nat, k ≤ n ∧ i = .int .i64 k ∧ (∃ q : Nat, acc = .int .i64 (262144 - (q : Int)) ∧ Hid (q = tot (rows.take k))) ∧ Fr [] w wr ∧ Hid ((rows.all fun r => r.all (arcOkB n)) = (rows.drop k).all fun r => r.all (arcOkB n))) (fun _ i _ => n - (intOf i).toNat)
    case atStart => exact ⟨0, by omega, rfl, ⟨0, rfl, by simp [Hid, tot]⟩, (by repeat (first | exact Fr.refl _ _ | with_reducible assumption | with_reducible apply Fr.drewN | with_reducible apply Fr.drew | with_reducible apply Fr.alloc)), by simp [Hid]⟩
    case round =>
      obtain ⟨k, hk, rfl, ⟨q, rfl, hq⟩, hF, hI⟩ := hrel
      have hq1 : q ≤ 200000 := by rw [hq.out]; exact Nat.le_trans (tot_take rows k) hs.t
      by_cases hlt : k < n
      · have hlt' : (k : Int) < (n : Int) := by omega
        obtain ⟨b, off, B, m, d, r, rfl, _, hb, hm1, hrd, c1, hrow⟩ := (hr.keep hF).get hlt
        have hq2 : q + m ≤ 200000 := by rw [hq.out, ← hrow.n_eq, ← tot_take_succ hm1]; exact Nat.le_trans (tot_take rows (k+1)) hs.t
        have Hq2 : Hid (q + m = tot (rows.take (k + 1))) := by rw [hq.out, ← hrow.n_eq, ← tot_take_succ hm1]; rfl
        have hal := all_drop _ hI.out hrd
        have HAL := Lib.hid hal
        clear hal hm1 hrd
        go_wp2_with fail
        obtain ⟨wo, rfl⟩ : ∃ wo : World, wo = wr := ⟨_, rfl⟩
        go_loopw [8, 35] (fun _ j wr => ∃ i : Nat, i ≤ m ∧ j = .int .i64 i ∧ Fr [] wo wr ∧ Hid (r.all (arcOkB n) = (r.drop i).all (arcOkB n))) (fun _ j _ => m - (intOf j).toNat)
        case atStart => exact ⟨0, by omega, rfl, Fr.refl _ _, by simp [Hid]⟩
        case round =>
          obtain ⟨i, hi, rfl, hH, hJ⟩ := hrel
          by_cases hli : i < m
          · have hli' : (i : Int) < (m : Int) := by omega
            obtain ⟨b', off', x, y, rfl, _, hb', _, hrd, a1, a2⟩ := (hrow.keep hH).getp hli
            have hal := all_drop _ hJ.out hrd
            have HAR := Lib.hid hal
            clear hal hrd
            by_cases hok : arcOkB n (x, y) = true
            · have ho : 0 ≤ x ∧ x ≤ 1025 ∧ 0 ≤ y ∧ y < n := by simpa [arcOkB] using hok
              obtain ⟨o1, o2, o3, o4⟩ := ho
              have Hok := Lib.hid hok
              clear hok
              go_wp2_with fail
              go_roundw
              case rel => exact ⟨i + 1, by omega, by go_num, hH.alloc _, HAR.out.1 Hok.out⟩
              case measure => simp [intOf]; omega
            · have hno : arcOkB n (x, y) = false := by simpa using hok
              have hbad : x < 0 ∨ (0 ≤ x ∧ 1025 < x) ∨ (0 ≤ x ∧ x ≤ 1025 ∧ y < 0) ∨ (0 ≤ x ∧ x ≤ 1025 ∧ 0 ≤ y ∧ n ≤ y) := by
                have : ¬ (0 ≤ x ∧ x ≤ 1025 ∧ 0 ≤ y ∧ y < n) := by simpa [arcOkB] using hok
                omega
              have Hfin : Hid (looseB rows = false) := by
                have := HAL.out.2 (HAR.out.2 hno)
                unfold Hid; rw [HL.out, this]
              clear hno hok
              rcases hbad with o1 | ⟨o1, o2⟩ | ⟨o1, o2, o3⟩ | ⟨o1, o2, o3, o4⟩
              all_goals
                go_wp2_with fail
                go_ret
                exact ⟨by rw [Hfin.out]; rfl, (hF.trans hH).alloc _⟩
          · have hge : decide ((i : Int) < (m : Int)) = false := by simp; omega
            have Hend : Hid (r.all (arcOkB n) = true) := all_end _ hJ.out (by rw [hrow.n_eq]; omega)
            go_wp2_with fail
            go_roundw
            case rel => exact ⟨k + 1, by omega, by go_num, ⟨q + m, by congr 1; omega, Hq2⟩, hF.trans hH, HAL.out.1 Hend.out⟩
            case measure => simp [intOf]; omega
      · have hge : decide ((k : Int) < (n : Int)) = false := by simp; omega
        have Hfin : Hid (looseB rows = true) := by unfold Hid; rw [HL.out]; exact all_end _ hI.out (by rw [HN.out]; omega)
        go_wp2_with fail
        go_ret
        exact ⟨by rw [Hfin.out]; rfl, hF⟩

set_option maxRecDepth 100000 in
set_option maxHeartbeats 2000000 in
theorem rvalid_any (A : Option Addr) (n c : Nat) (rows : List (List Arc)) (w : World) (hr : Ll cp 2 [] w A n c rows) (hs : Small rows) :
    Calls Try.prog 24 #[.agg #[.slice A n c]] w fun e w' => e = .returned (.bool (validB rows)) ∧ Fr [] w w' := by
  have hn : rows.length = n := hr.n_eq
  have hn1 : n ≤ 10000 := by rw [← hn]; exact hs.n
  have HN := Lib.hid hn
  clear hn
  cases hlo : looseB rows with
  | false =>
    have Hlo := Lib.hid hlo
    have Hfin : Hid (validB rows = false) := by unfold Hid validB; rw [hlo]; rfl
    clear hlo
    go_enter Try.func24, Try.ntmps24
    go_wp2_with ((go_at_call 38; refine (rloose_any A n c rows _ (hr.keep (by repeat (first | exact Fr.refl _ _ | with_reducible assumption | with_reducible apply Fr.drewN | with_reducible apply Fr.drew | with_reducible apply Fr.alloc))) hs).mono ?_; rw [Hlo.out]; rintro e w' ⟨rfl, hf⟩))
    go_ret
    exact ⟨by rw [Hfin.out]; rfl, ((Fr.refl _ w).alloc _).trans hf⟩
  | true =>
    have Hlo := Lib.hid hlo
    have HL : Hid (validB rows = rows.all sortedB) := by unfold Hid validB; rw [hlo]; rfl
    clear hlo
    go_enter Try.func24, Try.ntmps24
    go_wp2_with ((go_at_call 38; refine (rloose_any A n c rows _ (hr.keep (by repeat (first | exact Fr.refl _ _ | with_reducible assumption | with_reducible apply Fr.drewN | with_reducible apply Fr.drew | with_reducible apply Fr.alloc))) hs).mono ?_; rw [Hlo.out]; rintro e w1 ⟨rfl, hf⟩
                  have hlb := hf.at1 (by simp) 0
                  simp at hlb))
    have hf0 : Fr [] w w1 := hf.box
    clear hlb
    go_loopw [4, 5, 12] (fun _ _ s wr => ∃ k : Nat, k ≤ n ∧ s = .int .i64 k ∧ Fr [] w wr ∧ Hid (rows.all sortedB = (rows.drop k).all sortedB)) (fun _ _ s _ => n - (intOf s).toNat)
    case atStart => exact ⟨0, by omega, rfl, hf0, by simp [Hid]⟩
    case round =>
      obtain ⟨k, hk, rfl, hF, hI⟩ := hrel
      by_cases hlt : k < n
      · have hlt' : (k : Int) < (n : Int) := by omega
        obtain ⟨b, off, B, m, d, r, rfl, _, hb, hm1, hrd, c1, hrow⟩ := (hr.keep hF).get hlt
        have hm2 : m ≤ 200000 := by rw [← hrow.n_eq]; exact hs.row (List.mem_of_getElem? hm1)
        have hal := all_drop _ hI.out hrd
        have HAL := Lib.hid hal
        clear hal hm1 hrd hf hf0
        go_wp2_with fail
        obtain ⟨wo, rfl⟩ : ∃ wo : World, wo = wr := ⟨_, rfl⟩
        go_loopw [5] (fun j wr => ∃ i : Nat, i ≤ m ∧ j = .int .i64 ((i : Int) + 1) ∧ Fr [] wo wr ∧ Hid (sortedB r = sortedB (r.drop i))) (fun j _ => m + 1 - (intOf j).toNat)
        case atStart => exact ⟨0, by omega, rfl, Fr.refl _ _, by simp [Hid]⟩
        case round =>
          obtain ⟨i, hi, rfl, hH, hJ⟩ := hrel
          by_cases hli : i + 1 < m
          · have hli' : (i : Int) + 1 < (m : Int) := by omega
            have hli0 : (i : Int) < (m : Int) := by omega
            obtain ⟨b', off', x, y, rfl, _, hb', _, hrd, a1, a2⟩ := (hrow.keep hH).getp (i := i) (by omega)
            obtain ⟨b'', off'', x', y', he, _, _, _, hrd', a3, a4⟩ := (hrow.keep hH).getp hli
            injection he with he; injection he with he1 he2; subst he1; subst he2
            have hst := sorted_step hJ.out hrd hrd'
            have HAR := Lib.hid hst
            clear hst hrd hrd'
            have hw0 : IntKind.i64.wrap (i : Int) = (i : Int) := IntWalk.i64_in _ (by omega)
            have hp0 : (0 : Int) ≤ (i : Int) + 1 := by omega
            have ht0 : ((i : Int) + 1).toNat = i + 1 := by omega
            cases hls : lessB (x, y) (x', y') with
            | true =>
              have hcm : cmpA (x, y) (x', y') < 0 := (cmpA_lt _ _).2 hls
              have Hls := Lib.hid hls; clear hls
              obtain ⟨z, hz⟩ : ∃ z, z = cmpA (x, y) (x', y') := ⟨_, rfl⟩
              rw [← hz] at hcm
              have HZ := Lib.hid hz; clear hz
              go_wp2_with fail
              go_region_held3 (fun w' => w'.cell? ⟨b', off' + i * 2, none⟩ = some (.int .i64 x) ∧ w'.cell? ⟨b', off' + i * 2 + 1, none⟩ = some (.int .i64 y) ∧ w'.cell? ⟨b', off' + (i + 1) * 2, none⟩ = some (.int .i64 x') ∧ w'.cell? ⟨b', off' + (i + 1) * 2 + 1, none⟩ = some (.int .i64 y'))
                ((first | exact ⟨a1, a2, a3, a4⟩ | exact ⟨g1, g2, g3, g4⟩))
                ((go_at_call 39; refine (rcompare_any _ _ _ _ _).mono ?_; rw [← HZ.out]; rintro e w2 ⟨rfl, hf2⟩
                  have hf3 : Fr [] wr w2 := Fr.trans (by repeat (first | exact Fr.refl _ _ | with_reducible assumption | with_reducible apply Fr.drewN | with_reducible apply Fr.drew | with_reducible apply Fr.alloc)) hf2
                  have g1 := (hf3.cell (p := ⟨b', off' + i * 2, none⟩) hb' (by simp)).trans a1
                  have g2 := (hf3.cell (p := ⟨b', off' + i * 2 + 1, none⟩) hb' (by simp)).trans a2
                  have g3 := (hf3.cell (p := ⟨b', off' + (i + 1) * 2, none⟩) hb' (by simp)).trans a3
                  have g4 := (hf3.cell (p := ⟨b', off' + (i + 1) * 2 + 1, none⟩) hb' (by simp)).trans a4))
              clear hw0 ht0
              go_wp2_with fail
              go_roundw
              case rel => exact ⟨i + 1, by omega, by go_num, hH.trans hf3, HAR.out.1 Hls.out⟩
              case measure => simp [intOf]; omega
            | false =>
              have hcm : 0 ≤ cmpA (x, y) (x', y') := (cmpA_ge _ _).2 hls
              have Hfin : Hid (validB rows = false) := by
                have := HAL.out.2 (HAR.out.2 hls)
                unfold Hid; rw [HL.out, this]
              clear hls
              obtain ⟨z, hz⟩ : ∃ z, z = cmpA (x, y) (x', y') := ⟨_, rfl⟩
              rw [← hz] at hcm
              have HZ := Lib.hid hz; clear hz
              go_wp2_with fail
              go_region_held3 (fun w' => w'.cell? ⟨b', off' + i * 2, none⟩ = some (.int .i64 x) ∧ w'.cell? ⟨b', off' + i * 2 + 1, none⟩ = some (.int .i64 y) ∧ w'.cell? ⟨b', off' + (i + 1) * 2, none⟩ = some (.int .i64 x') ∧ w'.cell? ⟨b', off' + (i + 1) * 2 + 1, none⟩ = some (.int .i64 y'))
                ((first | exact ⟨a1, a2, a3, a4⟩ | exact ⟨g1, g2, g3, g4⟩))
                ((go_at_call 39; refine (rcompare_any _ _ _ _ _).mono ?_; rw [← HZ.out]; rintro e w2 ⟨rfl, hf2⟩
                  have hf3 : Fr [] wr w2 := Fr.trans (by repeat (first | exact Fr.refl _ _ | with_reducible assumption | with_reducible apply Fr.drewN | with_reducible apply Fr.drew | with_reducible apply Fr.alloc)) hf2
                  have g1 := (hf3.cell (p := ⟨b', off' + i * 2, none⟩) hb' (by simp)).trans a1
                  have g2 := (hf3.cell (p := ⟨b', off' + i * 2 + 1, none⟩) hb' (by simp)).trans a2
                  have g3 := (hf3.cell (p := ⟨b', off' + (i + 1) * 2, none⟩) hb' (by simp)).trans a3
                  have g4 := (hf3.cell (p := ⟨b', off' + (i + 1) * 2 + 1, none⟩) hb' (by simp)).trans a4))
              clear hw0 ht0
              go_wp2_with fail
              go_ret
              exact ⟨by rw [Hfin.out]; rfl, (hF.trans hH).trans hf3⟩
          · have hge : decide ((i : Int) + 1 < (m : Int)) = false := by simp; omega
            have Hend : Hid (sortedB r = true) := sorted_end hJ.out (by rw [hrow.n_eq]; omega)
            go_wp2_with fail
            go_roundw
            case rel => exact ⟨k + 1, by omega, by go_num, hF.trans hH, HAL.out.1 Hend.out⟩
            case measure => simp [intOf]; omega
      · have hge : decide ((k : Int) < (n : Int)) = false := by simp; omega
        have Hfin : Hid (validB rows = true) := by unfold Hid; rw [HL.out]; exact all_end _ hI.out (by rw [HN.out]; omega)
        go_wp2_with fail
        go_ret
        exact ⟨by rw [Hfin.out]; rfl, hF⟩
end Go.Proofs.Ytfkpjnmngafnmaa
