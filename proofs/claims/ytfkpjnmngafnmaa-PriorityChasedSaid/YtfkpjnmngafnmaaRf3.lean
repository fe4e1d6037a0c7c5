/- Loose and Valid of the reference, and Huge. -/
import Derived.Test.YtfkpjnmngafnmaaRf2
namespace Go.Proofs.Ytfkpjnmngafnmaa
set_option linter.unusedVariables false
set_option linter.unusedSimpArgs false
open Go.RowKit

def tot (rows : List (List Arc)) : Nat := (rows.map List.length).sum
structure Small (rows : List (List Arc)) : Prop where
  n : rows.length ≤ 10000
  t : tot rows ≤ 200000
theorem tot_cons (r : List Arc) (rs : List (List Arc)) : tot (r :: rs) = r.length + tot rs := by simp [tot]
theorem tot_mem {r : List Arc} {rows : List (List Arc)} (h : r ∈ rows) : r.length ≤ tot rows := by
  induction rows with
  | nil => cases h
  | cons x xs ih =>
    rw [tot_cons]
    rcases List.mem_cons.1 h with rfl | h
    · omega
    · have := ih h; omega
theorem tot_take (rows : List (List Arc)) (k : Nat) : tot (rows.take k) ≤ tot rows := by
  induction rows generalizing k with
  | nil => simp [tot]
  | cons x xs ih =>
    cases k with
    | zero => simp [tot]
    | succ k => rw [List.take_succ_cons, tot_cons, tot_cons]; have := ih k; omega
theorem tot_take_succ {rows : List (List Arc)} {k : Nat} {r : List Arc} (h : rows[k]? = some r) : tot (rows.take (k + 1)) = tot (rows.take k) + r.length := by
  rw [List.take_add_one, h]; simp [tot]
theorem Small.row {rows : List (List Arc)} (h : Small rows) {r : List Arc} (hr : r ∈ rows) : r.length ≤ 200000 := Nat.le_trans (tot_mem hr) h.t

def arcOkB (n : Nat) (a : Arc) : Bool := decide (0 ≤ a.1 ∧ a.1 ≤ 1025 ∧ 0 ≤ a.2 ∧ a.2 < n)
def looseB (rows : List (List Arc)) : Bool := decide (1 ≤ rows.length) && rows.all fun r => r.all (arcOkB rows.length)
def sortedB : List Arc → Bool
  | a :: b :: rest => lessB a b && sortedB (b :: rest)
  | _ => true
def validB (rows : List (List Arc)) : Bool := looseB rows && rows.all sortedB

theorem all_drop {α : Type} (p : α → Bool) {xs : List α} {k : Nat} {x : α} (h : xs.all p = (xs.drop k).all p) (hd : xs.drop k = x :: xs.drop (k + 1)) :
    (p x = true → xs.all p = (xs.drop (k + 1)).all p) ∧ (p x = false → xs.all p = false) := by
  rw [hd] at h
  simp only [List.all_cons] at h
  exact ⟨fun e => by rw [h, e]; simp, fun e => by rw [h, e]; simp⟩
theorem all_end {α : Type} (p : α → Bool) {xs : List α} {k : Nat} (h : xs.all p = (xs.drop k).all p) (hk : xs.length ≤ k) : xs.all p = true := by
  rw [h, List.drop_eq_nil_of_le hk]; rfl

set_option maxHeartbeats 2000000 in
theorem loose_any (A : Option Addr) (n c : Nat) (rows : List (List Arc)) (w : World) (hr : Ll cp 2 [] w A n c rows) (hs : Small rows) :
    Calls Try.prog 49 #[.agg #[.slice A n c]] w fun e w' => e = .returned (.bool (looseB rows)) ∧ Fr [] w w' := by
  have hn : rows.length = n := hr.n_eq
  have hn1 : n ≤ 10000 := by rw [← hn]; exact hs.n
  have HN := Lib.hid hn
  clear hn
  by_cases h0 : n = 0
  · subst h0
    have hfin : looseB rows = false := by unfold looseB; rw [HN.out]; rfl
    have Hfin := Lib.hid hfin
    clear hfin
    go_enter Try.func49, Try.ntmps49
    go_wp2_with fail
    go_ret
    exact ⟨by rw [Hfin.out]; rfl, (Fr.refl _ _).alloc _⟩
  · have hlo : looseB rows = rows.all fun r => r.all (arcOkB n) := by unfold looseB; rw [HN.out, decide_eq_true (by omega)]; rfl
    have HL := Lib.hid hlo
    have d0 : (1 : Int) ≤ (n : Int) := by omega
    have d1 : (n : Int) ≤ 16384 := by omega
    clear hlo
    go_enter Try.func49, Try.ntmps49
    go_wp2_with fail
    go_loopw [4, 5] (fun acc i wr => ∃ k : Nat, k ≤ n ∧ i = .int .i64 k ∧ (∃ q : Nat, acc = .int .i64 q ∧ Hid (q = tot (rows.take k))) ∧ Fr [] (w.alloc (.cells #[.slice A n c] 25)) wr ∧ Hid ((rows.all fun r => r.all (arcOkB n)) = (rows.drop k).all fun r => r.all (arcOkB n))) (fun _ i _ => n - (intOf i).toNat)
    case atStart => exact ⟨0, by omega, rfl, ⟨0, rfl, by simp [Hid, tot]⟩, Fr.refl _ _, by simp [Hid]⟩
    case round =>
      obtain ⟨k, hk, rfl, ⟨q, rfl, hq⟩, hF, hI⟩ := hrel
      have hF0 := hF.box
      have l1 := hF.lt
      have b1 := hF.at1 (by simp) 0
      simp at b1
      have hq1 : q ≤ 200000 := by rw [hq.out]; exact Nat.le_trans (tot_take rows k) hs.t
      by_cases hlt : k < n
      · have hlt' : (k : Int) < (n : Int) := by omega
        obtain ⟨b, off, B, m, d, r, rfl, _, hb, hm1, hrd, c1, hrow⟩ := (hr.keep hF0).get hlt
        have hq2 : q + m ≤ 200000 := by rw [hq.out, ← hrow.n_eq, ← tot_take_succ hm1]; exact Nat.le_trans (tot_take rows (k+1)) hs.t
        have Hq2 : Hid (q + m = tot (rows.take (k + 1))) := by rw [hq.out, ← hrow.n_eq, ← tot_take_succ hm1]; rfl
        have hal := all_drop _ hI.out hrd
        have HAL := Lib.hid hal
        clear hal hm1 hrd
        go_wp2_with fail
        obtain ⟨wo, rfl⟩ : ∃ wo : World, wo = wr := ⟨_, rfl⟩
        go_loopw [6, 7] (fun j _ wr => ∃ i : Nat, i ≤ m ∧ j = .int .i64 i ∧ Fr [] (w.alloc (.cells #[.slice (some ⟨b, off, none⟩) n c] 25)) wr ∧ Fr [] wo wr ∧ Hid (r.all (arcOkB n) = (r.drop i).all (arcOkB n))) (fun j _ _ => m - (intOf j).toNat)
        case atStart => exact ⟨0, by omega, rfl, hF, Fr.refl _ _, by simp [Hid]⟩
        case round =>
          obtain ⟨i, hi, rfl, hG, hH, hJ⟩ := hrel
          have l1 := hG.lt
          have b1 := hG.at1 (by simp) 0
          simp at b1
          have c2 := (hH.cell (p := ⟨b, off + k, none⟩) hb (by simp)).trans c1
          by_cases hli : i < m
          · have hli' : (i : Int) < (m : Int) := by omega
            obtain ⟨b', off', x, y, rfl, _, hb', _, hrd, a1, a2⟩ := (hrow.keep hH).getp hli
            have hal := all_drop _ hJ.out hrd
            have HAR := Lib.hid hal
            clear hal hrd
            have hbo := Nat.lt_of_lt_of_le hb hH.size
            by_cases hok : arcOkB n (x, y) = true
            · have ho : 0 ≤ x ∧ x ≤ 1025 ∧ 0 ≤ y ∧ y < n := by simpa [arcOkB] using hok
              obtain ⟨o1, o2, o3, o4⟩ := ho
              have Hok := Lib.hid hok
              clear hok
              go_wp2_with fail
              go_roundw
              case rel => exact ⟨i + 1, by omega, by go_num, hG.alloc _, hH.alloc _, HAR.out.1 Hok.out⟩
              case measure => simp [intOf]; omega
            · have hno : arcOkB n (x, y) = false := by simpa using hok
              have hbad : x < 0 ∨ (0 ≤ x ∧ 1025 < x) ∨ (0 ≤ x ∧ x ≤ 1025 ∧ y < 0) ∨ (0 ≤ x ∧ x ≤ 1025 ∧ 0 ≤ y ∧ n ≤ y) := by
                have : ¬ (0 ≤ x ∧ x ≤ 1025 ∧ 0 ≤ y ∧ y < n) := by simpa [arcOkB] using hok
                omega
              have Hfin : Hid (looseB rows = false) := by
                have := HAL.out.2 (HAR.out.2 hno)
                unfold Hid; rw [HL.out, this]
              clear hno hok
              rcases hbad with o1 | ⟨o1, o2⟩ | ⟨o1, o2, o3⟩ | ⟨o1, o2, o3, o4⟩
              all_goals
                go_wp2_with fail
                go_ret
                exact ⟨by rw [Hfin.out]; rfl, (hG.alloc _).box⟩
          · have hge : decide ((i : Int) < (m : Int)) = false := by simp; omega
            have Hend : Hid (r.all (arcOkB n) = true) := all_end _ hJ.out (by rw [hrow.n_eq]; omega)
            go_wp2_with fail
            go_roundw
            case rel => exact ⟨k + 1, by omega, by go_num, ⟨q + m, by go_num, Hq2⟩, hG, HAL.out.1 Hend.out⟩
            case measure => simp [intOf]; omega
      · have hge : decide ((k : Int) < (n : Int)) = false := by simp; omega
        have Hfin : Hid (looseB rows = true) := by unfold Hid; rw [HL.out]; exact all_end _ hI.out (by rw [HN.out]; omega)
        go_wp2_with fail
        go_ret
        exact ⟨by rw [Hfin.out]; rfl, hF0⟩
end Go.Proofs.Ytfkpjnmngafnmaa
