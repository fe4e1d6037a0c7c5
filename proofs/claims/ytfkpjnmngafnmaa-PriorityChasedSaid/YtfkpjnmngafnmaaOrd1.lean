/- The reference's orders: above, ValidOrder, Blocks. -/
import Derived.Test.YtfkpjnmngafnmaaRf3
namespace Go.Proofs.Ytfkpjnmngafnmaa
set_option linter.unusedVariables false
set_option linter.unusedSimpArgs false
open Go.RowKit

def abvB (o : List Arc) (lo hi : Int) : Bool := o.any fun p => p.1 == lo && p.2 == hi
def vo1 (x : Arc) : Bool := decide (2 ≤ x.1 ∧ x.1 ≤ 1025 ∧ 2 ≤ x.2 ∧ x.2 ≤ 1025 ∧ x.1 ≠ x.2)
def voI (o : List Arc) (x y : Arc) : Bool := !(y.1 == x.2 && (y.2 == x.1 || !abvB o x.1 y.2))
def prevOk : Option Arc → Arc → Bool
  | none, _ => true
  | some y, x => lessB y x
def voGo (o : List Arc) : Option Arc → List Arc → Bool
  | _, [] => true
  | p, x :: xs => vo1 x && prevOk p x && o.all (voI o x) && voGo o (some x) xs
def validOrdB (o : List Arc) : Bool := voGo o none o
def blocksB (o : List Arc) (lo hi : Int) : Bool := validOrdB o && (abvB o lo hi || o.any fun p => p.1 == lo && (hi == 0 || hi == 1))

theorem any_drop {α : Type} (p : α → Bool) {xs : List α} {k : Nat} {x : α} (h : xs.any p = (xs.drop k).any p) (hd : xs.drop k = x :: xs.drop (k + 1)) :
    (p x = false → xs.any p = (xs.drop (k + 1)).any p) ∧ (p x = true → xs.any p = true) := by
  rw [hd] at h
  simp only [List.any_cons] at h
  exact ⟨fun e => by rw [h, e]; simp, fun e => by rw [h, e]; simp⟩
theorem any_end {α : Type} (p : α → Bool) {xs : List α} {k : Nat} (h : xs.any p = (xs.drop k).any p) (hk : xs.length ≤ k) : xs.any p = false := by
  rw [h, List.drop_eq_nil_of_le hk]; rfl

set_option maxHeartbeats 1000000 in
theorem above_any (A : Option Addr) (n c : Nat) (o : List Arc) (lo hi : Int) (w : World) (hr : Pairs [] w A n c o) (hn : n ≤ 1000) :
    Calls Try.prog 50 #[.slice A n c, .int .i64 lo, .int .i64 hi] w fun e w' => e = .returned (.bool (abvB o lo hi)) ∧ w' = w := by
  go_enter Try.func50, Try.ntmps50
  go_wp2_with fail
  go_loop [7] (fun i => ∃ k : Nat, k ≤ n ∧ i = .int .i64 k ∧ Hid ((o.any fun p => p.1 == lo && p.2 == hi) = ((o.drop k).any fun p => p.1 == lo && p.2 == hi))) (fun i => n - (intOf i).toNat)
  case atStart => exact ⟨0, by omega, rfl, by simp [Hid]⟩
  case round =>
    obtain ⟨k, hk, rfl, hI⟩ := hrel
    by_cases hlt : k < n
    · have hlt' : (k : Int) < (n : Int) := by omega
      obtain ⟨b, off, x, y, rfl, _, hb, _, hd, c1, c2⟩ := hr.getp hlt
      have HD := Lib.hid (any_drop _ hI.out hd)
      clear hd
      by_cases h1 : (x == lo) = true
      · by_cases h2 : (y == hi) = true
        · have Hf : Hid (abvB o lo hi = true) := HD.out.2 (by simp [h1, h2])
          go_wp2_with fail
          go_ret
          exact ⟨by rw [Hf.out]; rfl, rfl⟩
        · have h2 : (y == hi) = false := by simpa using h2
          have Hf : Hid ((o.any fun p => p.1 == lo && p.2 == hi) = ((o.drop (k+1)).any fun p => p.1 == lo && p.2 == hi)) := HD.out.1 (by simp [h1, h2])
          go_wp2_with fail
          go_round
          case rel => exact ⟨k + 1, by omega, by go_num, Hf⟩
          case measure => simp [intOf]; omega
      · have h1 : (x == lo) = false := by simpa using h1
        have Hf : Hid ((o.any fun p => p.1 == lo && p.2 == hi) = ((o.drop (k+1)).any fun p => p.1 == lo && p.2 == hi)) := HD.out.1 (by simp [h1])
        go_wp2_with fail
        go_round
        case rel => exact ⟨k + 1, by omega, by go_num, Hf⟩
        case measure => simp [intOf]; omega
    · have hge : decide ((k : Int) < (n : Int)) = false := by simp; omega
      have Hf : Hid (abvB o lo hi = false) := any_end _ hI.out (by rw [hr.n_eq]; omega)
      go_wp2_with fail
      go_ret
      exact ⟨by rw [Hf.out]; rfl, rfl⟩

theorem vo_step {o : List Arc} {p : Option Arc} {x : Arc} {xs : List Arc} (h : validOrdB o = voGo o p (x :: xs)) :
    (vo1 x = false → validOrdB o = false) ∧ (∀ y, p = some y → lessB y x = false → validOrdB o = false) ∧ (o.all (voI o x) = false → validOrdB o = false) ∧
      (vo1 x = true → (∀ y, p = some y → lessB y x = true) → o.all (voI o x) = true → validOrdB o = voGo o (some x) xs) := by
  refine ⟨fun e => ?_, fun y hp e => ?_, fun e => ?_, fun e1 e2 e3 => ?_⟩
  · rw [h, voGo, e]; simp
  · subst hp; rw [h, voGo]; simp [prevOk, e]
  · rw [h, voGo, e]; simp
  · rw [h, voGo, e1, e3]
    cases p with
    | none => simp [prevOk]
    | some y => simp [prevOk, e2 y rfl]

set_option maxRecDepth 100000 in
set_option maxHeartbeats 4000000 in
theorem validOrder_any (A : Option Addr) (n c : Nat) (o : List Arc) (w : World) (hr : Pairs [] w A n c o) (hn : n ≤ 1000) :
    Calls Try.prog 36 #[.slice A n c] w fun e w' => e = .returned (.bool (validOrdB o)) ∧ Fr [] w w' := by
  go_enter Try.func36, Try.ntmps36
  go_wp2_with fail
  go_loopw [3, 4, 5] (fun i _ _ wr => ∃ k : Nat, k ≤ n ∧ i = .int .i64 k ∧ Fr [] w wr ∧ Hid (validOrdB o = voGo o (if k = 0 then none else o[k - 1]?) (o.drop k))) (fun i _ _ _ => n - (intOf i).toNat)
  case atStart => exact ⟨0, by omega, rfl, Fr.refl _ _, by simp [Hid, validOrdB]⟩
  case round =>
    obtain ⟨k, hk, rfl, hF, hI⟩ := hrel
    by_cases hlt : k < n
    · have hlt' : (k : Int) < (n : Int) := by omega
      obtain ⟨b, off, x, y, rfl, _, hb, hx, hd, c1, c2⟩ := (hr.keep hF).getp hlt
      have hI' := hI.out
      rw [hd] at hI'
      have HV := Lib.hid (vo_step hI')
      have hr1 := (hr.keep hF)
      have hnext : (if k + 1 = 0 then none else o[k + 1 - 1]?) = some (x, y) := by simp [hx]
      have HNX := Lib.hid hnext
      clear hd hI' hnext hx
      by_cases hv1 : vo1 (x, y) = true
      · have ho : 2 ≤ x ∧ x ≤ 1025 ∧ 2 ≤ y ∧ y ≤ 1025 ∧ x ≠ y := by simpa [vo1] using hv1
        obtain ⟨o1, o2, o3, o4, o5⟩ := ho
        have o5' : (x == y) = false := by simpa using o5
        have Hv1 := Lib.hid hv1
        clear hv1 o5
        by_cases hk0 : k = 0
        · subst hk0
          have HGOOD : Hid (o.all (voI o (x, y)) = true → validOrdB o = voGo o (some (x, y)) (o.drop (0 + 1))) := fun h => HV.out.2.2.2 Hv1.out (by simp) h
          simp only [Nat.zero_mul, Nat.add_zero] at c1 c2
          go_wp2_with fail
          go_quiet (fail)
          go_wp2_with fail
          go_loopw [5] (fun i wr2 => ∃ j : Nat, j ≤ n ∧ i = .int .i64 j ∧ Fr [] (wr.alloc (.cells #[.int .i64 x, .int .i64 y] 52)) wr2 ∧ Hid (o.all (voI o (x, y)) = (o.drop j).all (voI o (x, y)))) (fun i _ => n - (intOf i).toNat)
          case atStart => exact ⟨0, by omega, rfl, (by repeat (first | exact Fr.refl _ _ | with_reducible assumption | with_reducible apply Fr.drewN | with_reducible apply Fr.drew | with_reducible apply Fr.alloc)), by simp [Hid]⟩
          case round =>
            obtain ⟨j, hj, rfl, hG, hJ⟩ := hrel
            have hG0 := hG.box
            have l1 := hG.lt
            have b1 := hG.at1 (by simp) 0
            have b2 := hG.at1 (by simp) 1
            simp at b1 b2
            by_cases hlj : j < n
            · have hlj' : (j : Int) < (n : Int) := by omega
              have hr2 := hr1.keep hG0
              obtain ⟨b', off', u, v, hA', _, hb', _, hd', e1, e2⟩ := hr2.getp hlj
              injection hA' with hA'; injection hA' with q1 q2; subst q1; subst q2
              have HD := Lib.hid (all_drop _ hJ.out hd')
              clear hd'
              by_cases hu : (u == y) = true
              · by_cases hv : (v == x) = true
                · have Hf : Hid (validOrdB o = false) := HV.out.2.2.1 (HD.out.2 (by simp [voI, hu, hv]))
                  go_wp2_with fail
                  go_quiet (fail)
                  go_wp2_with fail
                  go_ret
                  exact ⟨by rw [Hf.out]; rfl, (hF.trans hG0).drewN _⟩
                · have hv : (v == x) = false := by simpa using hv
                  cases hab : abvB o x v with
                  | true =>
                    have HC : Hid (∀ W, Pairs [] W (some ⟨b, off, none⟩) n c o → Calls Try.prog 50 #[.slice (some ⟨b, off, none⟩) n c, .int .i64 x, .int .i64 v] W fun e w' => e = .returned (.bool true) ∧ w' = W) := fun W hp => by
                      have := above_any (some ⟨b, off, none⟩) n c o x v W hp hn; rwa [hab] at this
                    have Hf : Hid (o.all (voI o (x, y)) = (o.drop (j + 1)).all (voI o (x, y))) := HD.out.1 (by simp only [voI, hv, hab]; simp)
                    clear hab
                    go_wp2_with fail
                    go_quiet ((go_at_call 50; exact Calls.quiet_of_same (HC.out _ (hr2.keep (by repeat (first | exact Fr.refl _ _ | with_reducible assumption | with_reducible apply Fr.drewN | with_reducible apply Fr.drew | with_reducible apply Fr.alloc))))))
                    go_wp2_with fail
                    go_roundw
                    case rel => exact ⟨j + 1, by omega, by go_num, hG.drewN _, Hf⟩
                    case measure => simp [intOf]; omega
                  | false =>
                    have HC : Hid (∀ W, Pairs [] W (some ⟨b, off, none⟩) n c o → Calls Try.prog 50 #[.slice (some ⟨b, off, none⟩) n c, .int .i64 x, .int .i64 v] W fun e w' => e = .returned (.bool false) ∧ w' = W) := fun W hp => by
                      have := above_any (some ⟨b, off, none⟩) n c o x v W hp hn; rwa [hab] at this
                    have Hf : Hid (validOrdB o = false) := HV.out.2.2.1 (HD.out.2 (by simp [voI, hu, hab]))
                    clear hab
                    go_wp2_with fail
                    go_quiet ((go_at_call 50; exact Calls.quiet_of_same (HC.out _ (hr2.keep (by repeat (first | exact Fr.refl _ _ | with_reducible assumption | with_reducible apply Fr.drewN | with_reducible apply Fr.drew | with_reducible apply Fr.alloc))))))
                    go_wp2_with fail
                    go_ret
                    exact ⟨by rw [Hf.out]; rfl, (hF.trans hG0).drewN _⟩
              · have hu : (u == y) = false := by simpa using hu
                have Hf : Hid (o.all (voI o (x, y)) = (o.drop (j + 1)).all (voI o (x, y))) := HD.out.1 (by simp [voI, hu])
                go_wp2_with fail
                go_quiet (fail)
                go_wp2_with fail
                go_roundw
                case rel => exact ⟨j + 1, by omega, by go_num, hG.drewN _, Hf⟩
                case measure => simp [intOf]; omega
            · have hge : decide ((j : Int) < (n : Int)) = false := by simp; omega
              have Hf := HGOOD.out (all_end _ hJ.out (by rw [hr.n_eq]; omega))
              have HFF := Lib.hid Hf
              clear Hf
              go_wp2_with fail
              go_roundw
              case rel => exact ⟨0 + 1, by omega, by go_num, hF.trans hG0, by unfold Hid; rw [HNX.out]; exact HFF.out⟩
              case measure => simp [intOf]; omega
        · obtain ⟨k', rfl⟩ : ∃ k', k = k' + 1 := ⟨k - 1, by omega⟩
          obtain ⟨b', off', x0, y0, hA', _, hb', hx0, _, c3, c4⟩ := hr1.getp (i := k') (by omega)
          injection hA' with hA'; injection hA' with q1 q2; subst q1; subst q2
          have hp : (if k' + 1 = 0 then none else o[k' + 1 - 1]?) = some (x0, y0) := by simp [hx0]
          have hw0 : IntKind.i64.wrap (k' : Int) = (k' : Int) := IntWalk.i64_in _ (by omega)
          have hkk : (k' : Int) < (n : Int) := by omega
          cases hls : lessB (x0, y0) (x, y) with
          | false =>
            have Hf : Hid (validOrdB o = false) := HV.out.2.1 _ hp hls
            have hl2 : ¬ (x0 < x ∨ (x0 = x ∧ y0 < y)) := by simpa [lessB] using hls
            have hl3 : ¬ x0 < x := fun h => hl2 (.inl h)
            have hg3 : decide (x0 < x) = false := by simpa using hl3
            by_cases he : x0 = x
            · subst he
              have hl4 : ¬ y0 < y := fun h => hl2 (.inr ⟨rfl, h⟩)
              have hg4 : decide (y0 < y) = false := by simpa using hl4
              clear hls hl2 hp hx0 hl3
              go_wp2_with fail
              go_quiet (fail)
              clear hw0
              go_wp2_with fail
              go_ret
              exact ⟨by rw [Hf.out]; rfl, (hF.alloc _).drewN _⟩
            · have he' : (x0 == x) = false := by simpa using he
              clear hls hl2 hp hx0 he
              go_wp2_with fail
              go_quiet (fail)
              clear hw0
              go_wp2_with fail
              go_ret
              exact ⟨by rw [Hf.out]; rfl, (hF.alloc _).drewN _⟩
          | true =>
            have HGOOD : Hid (o.all (voI o (x, y)) = true → validOrdB o = voGo o (some (x, y)) (o.drop (k' + 1 + 1))) := fun h => HV.out.2.2.2 Hv1.out (by rw [hp]; intro y' hy'; cases hy'; exact hls) h
            have hl2 : x0 < x ∨ (x0 = x ∧ y0 < y) := by simpa [lessB] using hls
            by_cases hlx : x0 < x
            · have hg3 : decide (x0 < x) = true := by simpa using hlx
              clear hls hl2 hp hx0
              go_wp2_with fail
              go_quiet (fail)
              clear hw0
              go_wp2_with fail
              go_loopw [5] (fun i wr2 => ∃ j : Nat, j ≤ n ∧ i = .int .i64 j ∧ Fr [] (wr.alloc (.cells #[.int .i64 x, .int .i64 y] 52)) wr2 ∧ Hid (o.all (voI o (x, y)) = (o.drop j).all (voI o (x, y)))) (fun i _ => n - (intOf i).toNat)
              case atStart => exact ⟨0, by omega, rfl, (by repeat (first | exact Fr.refl _ _ | with_reducible assumption | with_reducible apply Fr.drewN | with_reducible apply Fr.drew | with_reducible apply Fr.alloc)), by simp [Hid]⟩
              case round =>
                obtain ⟨j, hj, rfl, hG, hJ⟩ := hrel
                have hG0 := hG.box
                have l1 := hG.lt
                have b1 := hG.at1 (by simp) 0
                have b2 := hG.at1 (by simp) 1
                simp at b1 b2
                by_cases hlj : j < n
                · have hlj' : (j : Int) < (n : Int) := by omega
                  have hr2 := hr1.keep hG0
                  obtain ⟨b', off', u, v, hA', _, hb', _, hd', e1, e2⟩ := hr2.getp hlj
                  injection hA' with hA'; injection hA' with q1 q2; subst q1; subst q2
                  have HD := Lib.hid (all_drop _ hJ.out hd')
                  clear hd'
                  by_cases hu : (u == y) = true
                  · by_cases hv : (v == x) = true
                    · have Hf : Hid (validOrdB o = false) := HV.out.2.2.1 (HD.out.2 (by simp [voI, hu, hv]))
                      go_wp2_with fail
                      go_quiet (fail)
                      go_wp2_with fail
                      go_ret
                      exact ⟨by rw [Hf.out]; rfl, (hF.trans hG0).drewN _⟩
                    · have hv : (v == x) = false := by simpa using hv
                      cases hab : abvB o x v with
                      | true =>
                        have HC : Hid (∀ W, Pairs [] W (some ⟨b, off, none⟩) n c o → Calls Try.prog 50 #[.slice (some ⟨b, off, none⟩) n c, .int .i64 x, .int .i64 v] W fun e w' => e = .returned (.bool true) ∧ w' = W) := fun W hp => by
                          have := above_any (some ⟨b, off, none⟩) n c o x v W hp hn; rwa [hab] at this
                        have Hf : Hid (o.all (voI o (x, y)) = (o.drop (j + 1)).all (voI o (x, y))) := HD.out.1 (by simp only [voI, hv, hab]; simp)
                        clear hab
                        go_wp2_with fail
                        go_quiet ((go_at_call 50; exact Calls.quiet_of_same (HC.out _ (hr2.keep (by repeat (first | exact Fr.refl _ _ | with_reducible assumption | with_reducible apply Fr.drewN | with_reducible apply Fr.drew | with_reducible apply Fr.alloc))))))
                        go_wp2_with fail
                        go_roundw
                        case rel => exact ⟨j + 1, by omega, by go_num, hG.drewN _, Hf⟩
                        case measure => simp [intOf]; omega
                      | false =>
                        have HC : Hid (∀ W, Pairs [] W (some ⟨b, off, none⟩) n c o → Calls Try.prog 50 #[.slice (some ⟨b, off, none⟩) n c, .int .i64 x, .int .i64 v] W fun e w' => e = .returned (.bool false) ∧ w' = W) := fun W hp => by
                          have := above_any (some ⟨b, off, none⟩) n c o x v W hp hn; rwa [hab] at this
                        have Hf : Hid (validOrdB o = false) := HV.out.2.2.1 (HD.out.2 (by simp [voI, hu, hab]))
                        clear hab
                        go_wp2_with fail
                        go_quiet ((go_at_call 50; exact Calls.quiet_of_same (HC.out _ (hr2.keep (by repeat (first | exact Fr.refl _ _ | with_reducible assumption | with_reducible apply Fr.drewN | with_reducible apply Fr.drew | with_reducible apply Fr.alloc))))))
                        go_wp2_with fail
                        go_ret
                        exact ⟨by rw [Hf.out]; rfl, (hF.trans hG0).drewN _⟩
                  · have hu : (u == y) = false := by simpa using hu
                    have Hf : Hid (o.all (voI o (x, y)) = (o.drop (j + 1)).all (voI o (x, y))) := HD.out.1 (by simp [voI, hu])
                    go_wp2_with fail
                    go_quiet (fail)
                    go_wp2_with fail
                    go_roundw
                    case rel => exact ⟨j + 1, by omega, by go_num, hG.drewN _, Hf⟩
                    case measure => simp [intOf]; omega
                · have hge : decide ((j : Int) < (n : Int)) = false := by simp; omega
                  have Hf := HGOOD.out (all_end _ hJ.out (by rw [hr.n_eq]; omega))
                  have HFF := Lib.hid Hf
                  clear Hf
                  go_wp2_with fail
                  go_roundw
                  case rel => exact ⟨(k' + 1) + 1, by omega, by go_num, hF.trans hG0, by unfold Hid; rw [HNX.out]; exact HFF.out⟩
                  case measure => simp [intOf]; omega
            · have he : x0 = x ∧ y0 < y := hl2.resolve_left hlx
              obtain ⟨he, hly⟩ := he
              subst he
              have hg3 : decide (x0 < x0) = false := by simp
              have hg4 : decide (y0 < y) = true := by simpa using hly
              have he2 : (x0 == x0) = true := by simp
              clear hls hl2 hp hx0 hlx
              go_wp2_with fail
              go_quiet (fail)
              clear hw0
              go_wp2_with fail
              go_loopw [5] (fun i wr2 => ∃ j : Nat, j ≤ n ∧ i = .int .i64 j ∧ Fr [] (wr.alloc (.cells #[.int .i64 x0, .int .i64 y] 52)) wr2 ∧ Hid (o.all (voI o (x0, y)) = (o.drop j).all (voI o (x0, y)))) (fun i _ => n - (intOf i).toNat)
              case atStart => exact ⟨0, by omega, rfl, (by repeat (first | exact Fr.refl _ _ | with_reducible assumption | with_reducible apply Fr.drewN | with_reducible apply Fr.drew | with_reducible apply Fr.alloc)), by simp [Hid]⟩
              case round =>
                obtain ⟨j, hj, rfl, hG, hJ⟩ := hrel
                have hG0 := hG.box
                have l1 := hG.lt
                have b1 := hG.at1 (by simp) 0
                have b2 := hG.at1 (by simp) 1
                simp at b1 b2
                by_cases hlj : j < n
                · have hlj' : (j : Int) < (n : Int) := by omega
                  have hr2 := hr1.keep hG0
                  obtain ⟨b', off', u, v, hA', _, hb', _, hd', e1, e2⟩ := hr2.getp hlj
                  injection hA' with hA'; injection hA' with q1 q2; subst q1; subst q2
                  have HD := Lib.hid (all_drop _ hJ.out hd')
                  clear hd'
                  by_cases hu : (u == y) = true
                  · by_cases hv : (v == x0) = true
                    · have Hf : Hid (validOrdB o = false) := HV.out.2.2.1 (HD.out.2 (by simp [voI, hu, hv]))
                      go_wp2_with fail
                      go_quiet (fail)
                      go_wp2_with fail
                      go_ret
                      exact ⟨by rw [Hf.out]; rfl, (hF.trans hG0).drewN _⟩
                    · have hv : (v == x0) = false := by simpa using hv
                      cases hab : abvB o x0 v with
                      | true =>
                        have HC : Hid (∀ W, Pairs [] W (some ⟨b, off, none⟩) n c o → Calls Try.prog 50 #[.slice (some ⟨b, off, none⟩) n c, .int .i64 x0, .int .i64 v] W fun e w' => e = .returned (.bool true) ∧ w' = W) := fun W hp => by
                          have := above_any (some ⟨b, off, none⟩) n c o x0 v W hp hn; rwa [hab] at this
                        have Hf : Hid (o.all (voI o (x0, y)) = (o.drop (j + 1)).all (voI o (x0, y))) := HD.out.1 (by simp only [voI, hv, hab]; simp)
                        clear hab
                        go_wp2_with fail
                        go_quiet ((go_at_call 50; exact Calls.quiet_of_same (HC.out _ (hr2.keep (by repeat (first | exact Fr.refl _ _ | with_reducible assumption | with_reducible apply Fr.drewN | with_reducible apply Fr.drew | with_reducible apply Fr.alloc))))))
                        go_wp2_with fail
                        go_roundw
                        case rel => exact ⟨j + 1, by omega, by go_num, hG.drewN _, Hf⟩
                        case measure => simp [intOf]; omega
                      | false =>
                        have HC : Hid (∀ W, Pairs [] W (some ⟨b, off, none⟩) n c o → Calls Try.prog 50 #[.slice (some ⟨b, off, none⟩) n c, .int .i64 x0, .int .i64 v] W fun e w' => e = .returned (.bool false) ∧ w' = W) := fun W hp => by
                          have := above_any (some ⟨b, off, none⟩) n c o x0 v W hp hn; rwa [hab] at this
                        have Hf : Hid (validOrdB o = false) := HV.out.2.2.1 (HD.out.2 (by simp [voI, hu, hab]))
                        clear hab
                        go_wp2_with fail
                        go_quiet ((go_at_call 50; exact Calls.quiet_of_same (HC.out _ (hr2.keep (by repeat (first | exact Fr.refl _ _ | with_reducible assumption | with_reducible apply Fr.drewN | with_reducible apply Fr.drew | with_reducible apply Fr.alloc))))))
                        go_wp2_with fail
                        go_ret
                        exact ⟨by rw [Hf.out]; rfl, (hF.trans hG0).drewN _⟩
                  · have hu : (u == y) = false := by simpa using hu
                    have Hf : Hid (o.all (voI o (x0, y)) = (o.drop (j + 1)).all (voI o (x0, y))) := HD.out.1 (by simp [voI, hu])
                    go_wp2_with fail
                    go_quiet (fail)
                    go_wp2_with fail
                    go_roundw
                    case rel => exact ⟨j + 1, by omega, by go_num, hG.drewN _, Hf⟩
                    case measure => simp [intOf]; omega
                · have hge : decide ((j : Int) < (n : Int)) = false := by simp; omega
                  have Hf := HGOOD.out (all_end _ hJ.out (by rw [hr.n_eq]; omega))
                  have HFF := Lib.hid Hf
                  clear Hf
                  go_wp2_with fail
                  go_roundw
                  case rel => exact ⟨(k' + 1) + 1, by omega, by go_num, hF.trans hG0, by unfold Hid; rw [HNX.out]; exact HFF.out⟩
                  case measure => simp [intOf]; omega
      · have hv1' : vo1 (x, y) = false := by simpa using hv1
        have Hf : Hid (validOrdB o = false) := HV.out.1 hv1'
        have hbad : x < 2 ∨ (2 ≤ x ∧ 1025 < x) ∨ (2 ≤ x ∧ x ≤ 1025 ∧ y < 2) ∨ (2 ≤ x ∧ x ≤ 1025 ∧ 2 ≤ y ∧ 1025 < y) ∨ (2 ≤ x ∧ x ≤ 1025 ∧ 2 ≤ y ∧ y ≤ 1025 ∧ (x == y) = true) := by
          have : ¬ (2 ≤ x ∧ x ≤ 1025 ∧ 2 ≤ y ∧ y ≤ 1025 ∧ x ≠ y) := by simpa [vo1] using hv1
          rw [beq_iff_eq]; omega
        clear hv1 hv1'
        rcases hbad with o1 | ⟨o1, o2⟩ | ⟨o1, o2, o3⟩ | ⟨o1, o2, o3, o4⟩ | ⟨o1, o2, o3, o4, o5⟩
        all_goals
          go_wp2_with fail
          go_ret
          exact ⟨by rw [Hf.out]; rfl, hF.alloc _⟩
    · have hge : decide ((k : Int) < (n : Int)) = false := by simp; omega
      have Hf : Hid (validOrdB o = true) := by
        have := hI.out
        rw [List.drop_eq_nil_of_le (by rw [hr.n_eq]; omega)] at this
        exact this
      go_wp2_with fail
      go_ret
      exact ⟨by rw [Hf.out]; rfl, hF⟩
end Go.Proofs.Ytfkpjnmngafnmaa
