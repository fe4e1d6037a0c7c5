/- Valid of the reference, and Huge. -/
import Derived.Test.YtfkpjnmngafnmaaRf3
namespace Go.Proofs.Ytfkpjnmngafnmaa
set_option linter.unusedVariables false
set_option linter.unusedSimpArgs false
open Go.RowKit

theorem sorted_step {r : List Arc} {i : Nat} {a b : Arc} (h : sortedB r = sortedB (r.drop i)) (ha : r.drop i = a :: r.drop (i + 1)) (hb : r.drop (i + 1) = b :: r.drop (i + 1 + 1)) :
    (lessB a b = true → sortedB r = sortedB (r.drop (i + 1))) ∧ (lessB a b = false → sortedB r = false) := by
  rw [ha, hb] at h
  rw [hb]
  simp only [sortedB] at h
  exact ⟨fun e => by rw [h, e]; simp, fun e => by rw [h, e]; simp⟩
theorem sorted_end {r : List Arc} {i : Nat} (h : sortedB r = sortedB (r.drop i)) (hi : r.length ≤ i + 1) : sortedB r = true := by
  rw [h]
  have hl : (r.drop i).length ≤ 1 := by rw [List.length_drop]; omega
  match hd : r.drop i, hl with
  | [], _ => rfl
  | [a], _ => rfl

set_option maxHeartbeats 2000000 in
theorem valid_any (A : Option Addr) (n c : Nat) (rows : List (List Arc)) (w : World) (hr : Ll cp 2 [] w A n c rows) (hs : Small rows) :
    Calls Try.prog 35 #[.agg #[.slice A n c]] w fun e w' => e = .returned (.bool (validB rows)) ∧ Fr [] w w' := by
  have hn : rows.length = n := hr.n_eq
  have hn1 : n ≤ 10000 := by rw [← hn]; exact hs.n
  have HN := Lib.hid hn
  clear hn
  cases hlo : looseB rows with
  | false =>
    have Hlo := Lib.hid hlo
    have Hfin : Hid (validB rows = false) := by unfold Hid validB; rw [hlo]; rfl
    clear hlo
    go_enter Try.func35, Try.ntmps35
    go_wp2_with ((go_at_call 49; refine (loose_any A n c rows _ (hr.keep (by repeat (first | exact Fr.refl _ _ | with_reducible assumption | with_reducible apply Fr.drewN | with_reducible apply Fr.drew | with_reducible apply Fr.alloc))) hs).mono ?_; rw [Hlo.out]; rintro e w' ⟨rfl, hf⟩))
    go_ret
    exact ⟨by rw [Hfin.out]; rfl, ((Fr.refl _ w).alloc _).trans hf⟩
  | true =>
    have Hlo := Lib.hid hlo
    have HL : Hid (validB rows = rows.all sortedB) := by unfold Hid validB; rw [hlo]; rfl
    clear hlo
    go_enter Try.func35, Try.ntmps35
    go_wp2_with ((go_at_call 49; refine (loose_any A n c rows _ (hr.keep (by repeat (first | exact Fr.refl _ _ | with_reducible assumption | with_reducible apply Fr.drewN | with_reducible apply Fr.drew | with_reducible apply Fr.alloc))) hs).mono ?_; rw [Hlo.out]; rintro e w1 ⟨rfl, hf⟩))
    go_loopw [3, 4] (fun s _ wr => ∃ k : Nat, k ≤ n ∧ s = .int .i64 k ∧ Fr [] (w.alloc (.cells #[.slice A n c] 25)) wr ∧ Hid (rows.all sortedB = (rows.drop k).all sortedB)) (fun s _ _ => n - (intOf s).toNat)
    case atStart => exact ⟨0, by omega, rfl, hf, by simp [Hid]⟩
    case round =>
      obtain ⟨k, hk, rfl, hF, hI⟩ := hrel
      have hF0 := hF.box
      have l1 := hF.lt
      have b1 := hF.at1 (by simp) 0
      simp at b1
      by_cases hlt : k < n
      · have hlt' : (k : Int) < (n : Int) := by omega
        obtain ⟨b, off, B, m, d, r, rfl, _, hb, hm1, hrd, c1, hrow⟩ := (hr.keep hF0).get hlt
        have hm2 : m ≤ 200000 := by rw [← hrow.n_eq]; exact hs.row (List.mem_of_getElem? hm1)
        have hal := all_drop _ hI.out hrd
        have HAL := Lib.hid hal
        clear hal hm1 hrd hf
        go_wp2_with fail
        obtain ⟨wo, rfl⟩ : ∃ wo : World, wo = wr := ⟨_, rfl⟩
        go_loopw [4] (fun j wr => ∃ i : Nat, i ≤ m ∧ j = .int .i64 ((i : Int) + 1) ∧ Fr [] (w.alloc (.cells #[.slice (some ⟨b, off, none⟩) n c] 25)) wr ∧ Fr [] wo wr ∧ Hid (sortedB r = sortedB (r.drop i))) (fun j _ => m + 1 - (intOf j).toNat)
        case atStart => exact ⟨0, by omega, rfl, hF, Fr.refl _ _, by simp [Hid]⟩
        case round =>
          obtain ⟨i, hi, rfl, hG, hH, hJ⟩ := hrel
          have l1 := hG.lt
          have b1 := hG.at1 (by simp) 0
          simp at b1
          have c2 := (hH.cell (p := ⟨b, off + k, none⟩) hb (by simp)).trans c1
          by_cases hli : i + 1 < m
          · have hli' : (i : Int) + 1 < (m : Int) := by omega
            have hli0 : (i : Int) < (m : Int) := by omega
            obtain ⟨b', off', x, y, rfl, _, hb', _, hrd, a1, a2⟩ := (hrow.keep hH).getp (i := i) (by omega)
            obtain ⟨b'', off'', x', y', he, _, _, _, hrd', a3, a4⟩ := (hrow.keep hH).getp hli
            injection he with he; injection he with he1 he2; subst he1; subst he2
            have hst := sorted_step hJ.out hrd hrd'
            have HAR := Lib.hid hst
            clear hst hrd hrd'
            have hbo := Nat.lt_of_lt_of_le hb hH.size
            have hw0 : IntKind.i64.wrap (i : Int) = (i : Int) := IntWalk.i64_in _ (by omega)
            have hp0 : (0 : Int) ≤ (i : Int) + 1 := by omega
            have ht0 : ((i : Int) + 1).toNat = i + 1 := by omega
            cases hls : lessB (x, y) (x', y') with
            | true =>
              have Hls := Lib.hid hls; clear hls
              go_wp2_with fail
              go_region_held3 (fun w' => w'.cell? ⟨w.heap.size, 0, none⟩ = some (.slice (some ⟨b, off, none⟩) n c) ∧ w'.cell? ⟨b, off + k, none⟩ = some (.slice (some ⟨b', off', none⟩) m d) ∧
                w'.cell? ⟨b', off' + i * 2, none⟩ = some (.int .i64 x) ∧ w'.cell? ⟨b', off' + i * 2 + 1, none⟩ = some (.int .i64 y) ∧ w'.cell? ⟨b', off' + (i + 1) * 2, none⟩ = some (.int .i64 x') ∧ w'.cell? ⟨b', off' + (i + 1) * 2 + 1, none⟩ = some (.int .i64 y'))
                (go_keep)
                ((go_at_call 34; refine (less_any _ _ _ _ _).mono ?_; rw [Hls.out]; rintro e w' ⟨rfl, rfl⟩))
              clear hw0 ht0
              go_wp2_with fail
              go_roundw
              case rel => exact ⟨i + 1, by omega, by go_num, ((hG.alloc _).alloc _).drew, ((hH.alloc _).alloc _).drew, HAR.out.1 Hls.out⟩
              case measure => simp [intOf]; omega
            | false =>
              have Hfin : Hid (validB rows = false) := by
                have := HAL.out.2 (HAR.out.2 hls)
                unfold Hid; rw [HL.out, this]
              have Hls := Lib.hid hls; clear hls
              go_wp2_with fail
              go_region_held3 (fun w' => w'.cell? ⟨w.heap.size, 0, none⟩ = some (.slice (some ⟨b, off, none⟩) n c) ∧ w'.cell? ⟨b, off + k, none⟩ = some (.slice (some ⟨b', off', none⟩) m d) ∧
                w'.cell? ⟨b', off' + i * 2, none⟩ = some (.int .i64 x) ∧ w'.cell? ⟨b', off' + i * 2 + 1, none⟩ = some (.int .i64 y) ∧ w'.cell? ⟨b', off' + (i + 1) * 2, none⟩ = some (.int .i64 x') ∧ w'.cell? ⟨b', off' + (i + 1) * 2 + 1, none⟩ = some (.int .i64 y'))
                (go_keep)
                ((go_at_call 34; refine (less_any _ _ _ _ _).mono ?_; rw [Hls.out]; rintro e w' ⟨rfl, rfl⟩))
              clear hw0 ht0
              go_wp2_with fail
              go_ret
              exact ⟨by rw [Hfin.out]; rfl, ((hG.alloc _).alloc _).drew.box⟩
          · have hge : decide ((i : Int) + 1 < (m : Int)) = false := by simp; omega
            have Hend : Hid (sortedB r = true) := sorted_end hJ.out (by rw [hrow.n_eq]; omega)
            go_wp2_with fail
            go_roundw
            case rel => exact ⟨k + 1, by omega, by go_num, hG, HAL.out.1 Hend.out⟩
            case measure => simp [intOf]; omega
      · have hge : decide ((k : Int) < (n : Int)) = false := by simp; omega
        have Hfin : Hid (validB rows = true) := by unfold Hid; rw [HL.out]; exact all_end _ hI.out (by rw [HN.out]; omega)
        go_wp2_with fail
        go_ret
        exact ⟨by rw [Hfin.out]; rfl, hF0⟩
end Go.Proofs.Ytfkpjnmngafnmaa
