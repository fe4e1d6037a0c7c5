/- SameRow and Same. -/
import Derived.Test.YtfkpjnmngafnmaaRf1
namespace Go.Proofs.Ytfkpjnmngafnmaa
set_option linter.unusedVariables false
set_option linter.unusedSimpArgs false
open Go.RowKit

theorem drop_iff_step {α : Type} {xs ys : List α} {k : Nat} {x y : α} (h : (xs = ys) ↔ (xs.drop k = ys.drop k)) (hx : xs.drop k = x :: xs.drop (k + 1)) (hy : ys.drop k = y :: ys.drop (k + 1)) :
    (x = y → ((xs = ys) ↔ (xs.drop (k + 1) = ys.drop (k + 1)))) ∧ (x ≠ y → xs ≠ ys) := by
  rw [hx, hy] at h
  simp only [List.cons.injEq] at h
  exact ⟨fun e => by rw [h]; simp [e], fun e => by rw [ne_eq, h]; simp [e]⟩

set_option maxHeartbeats 1000000 in
theorem sameRow_any (A B : Option Addr) (n c m d : Nat) (xs ys : List Arc) (w : World) (hx : Pairs [] w A n c xs) (hy : Pairs [] w B m d ys) (hn : n ≤ 140737488355328) (hm : m ≤ 140737488355328) :
    Calls Try.prog 31 #[.slice A n c, .slice B m d] w fun e w' => e = .returned (.bool (decide (xs = ys))) ∧ Fr [] w w' := by
  by_cases hl : n = m
  · subst hl
    go_enter Try.func31, Try.ntmps31
    go_wp2_with fail
    go_loopw [5] (fun i wr => ∃ k : Nat, k ≤ n ∧ i = .int .i64 k ∧ Fr [] w wr ∧ Hid ((xs = ys) ↔ (xs.drop k = ys.drop k))) (fun i _ => n - (intOf i).toNat)
    case atStart => exact ⟨0, by omega, rfl, Fr.refl _ _, by simp [Hid]⟩
    case round =>
      obtain ⟨k, hk, rfl, hF, hI⟩ := hrel
      by_cases hlt : k < n
      · have hlt' : (k : Int) < (n : Int) := by omega
        obtain ⟨b, off, x1, x2, rfl, _, hb, _, hxd, c1, c2⟩ := (hx.keep hF).getp hlt
        obtain ⟨b', off', y1, y2, rfl, _, hb', _, hyd, c3, c4⟩ := (hy.keep hF).getp hlt
        have hst := drop_iff_step hI.out hxd hyd
        have HS := Lib.hid hst
        clear hst hxd hyd
        by_cases he : (x1, x2) = (y1, y2)
        · have hE : ∀ W, (binOp .neq 46 (.agg #[.int .i64 x1, .int .i64 x2]) (.agg #[.int .i64 y1, .int .i64 y2])).run Try.prog W = .ok (.bool false) W := fun W => by rw [neqArc, decide_eq_true he]; rfl
          have He := Lib.hid he
          clear he
          go_wp2_with fail
          go_quiet (fail)
          go_wp2_with fail
          go_roundw
          case rel => exact ⟨k + 1, by omega, by go_num, hF.drewN _, HS.out.1 He.out⟩
          case measure => simp [intOf]; omega
        · have hE : ∀ W, (binOp .neq 46 (.agg #[.int .i64 x1, .int .i64 x2]) (.agg #[.int .i64 y1, .int .i64 y2])).run Try.prog W = .ok (.bool true) W := fun W => by rw [neqArc, decide_eq_false he]; rfl
          have He := Lib.hid he
          clear he
          go_wp2_with fail
          go_quiet (fail)
          go_wp2_with fail
          go_ret
          exact ⟨by rw [decide_eq_false (HS.out.2 He.out)]; rfl, hF.drewN _⟩
      · have hge : decide ((k : Int) < (n : Int)) = false := by simp; omega
        have hfin : xs = ys := hI.out.2 (by rw [List.drop_eq_nil_of_le (by rw [hx.n_eq]; omega), List.drop_eq_nil_of_le (by rw [hy.n_eq]; omega)])
        have Hfin := Lib.hid hfin
        clear hfin
        go_wp2_with fail
        go_ret
        exact ⟨by rw [decide_eq_true Hfin.out]; rfl, hF⟩
  · have hne : ((n : Int) == (m : Int)) = false := by simp; omega
    have hne' : ((n : Int) != (m : Int)) = true := by simp; omega
    have hfin : xs ≠ ys := fun e => hl (by rw [← hx.n_eq, ← hy.n_eq, e])
    have Hfin := Lib.hid hfin
    clear hfin
    go_enter Try.func31, Try.ntmps31
    go_wp2_with fail
    go_ret
    exact ⟨by rw [decide_eq_false Hfin.out]; rfl, Fr.refl _ _⟩

set_option maxHeartbeats 1000000 in
theorem same_any (A B : Option Addr) (n c m d : Nat) (xs ys : List (List Arc)) (w : World) (hx : Ll cp 2 [] w A n c xs) (hy : Ll cp 2 [] w B m d ys) (hn : n ≤ 140737488355328) (hm : m ≤ 140737488355328)
    (hxl : ∀ r ∈ xs, r.length ≤ 140737488355328) (hyl : ∀ r ∈ ys, r.length ≤ 140737488355328) :
    Calls Try.prog 16 #[.agg #[.slice A n c], .agg #[.slice B m d]] w fun e w' => e = .returned (.bool (decide (xs = ys))) ∧ Fr [] w w' := by
  have HXL := Lib.hid hxl
  have HYL := Lib.hid hyl
  clear hxl hyl
  by_cases hl : n = m
  · subst hl
    go_enter Try.func16, Try.ntmps16
    go_wp2_with fail
    go_loopw [5] (fun i wr => ∃ k : Nat, k ≤ n ∧ i = .int .i64 k ∧ Fr [] ((w.alloc (.cells #[.slice A n c] 25)).alloc (.cells #[.slice B n d] 25)) wr ∧ Hid ((xs = ys) ↔ (xs.drop k = ys.drop k))) (fun i _ => n - (intOf i).toNat)
    case atStart => exact ⟨0, by omega, rfl, Fr.refl _ _, by simp [Hid]⟩
    case round =>
      obtain ⟨k, hk, rfl, hF, hI⟩ := hrel
      have hF0 := hF.box2
      have l1 := hF.lt2
      have b1 := hF.at2a (by simp) 0
      have b2 := hF.at2b (by simp) 0
      simp at b1 b2
      by_cases hlt : k < n
      · have hlt' : (k : Int) < (n : Int) := by omega
        obtain ⟨b, off, A1, n1, d1, r1, rfl, _, hb, hm1, hxd, c1, hr1⟩ := (hx.keep hF0).get hlt
        obtain ⟨b', off', A2, n2, d2, r2, rfl, _, hb', hm2, hyd, c2, hr2⟩ := (hy.keep hF0).get hlt
        have hz1 : n1 ≤ 140737488355328 := by rw [← hr1.n_eq]; exact HXL.out _ (List.mem_of_getElem? hm1)
        have hz2 : n2 ≤ 140737488355328 := by rw [← hr2.n_eq]; exact HYL.out _ (List.mem_of_getElem? hm2)
        have hst := drop_iff_step hI.out hxd hyd
        have HS := Lib.hid hst
        clear hst hxd hyd hm1 hm2
        by_cases he : r1 = r2
        · have He := Lib.hid he
          clear he
          go_wp2_with fail
          go_region_held3 (fun w' => w'.cell? ⟨w.heap.size, 0, none⟩ = some (.slice (some ⟨b, off, none⟩) n c) ∧ w'.cell? ⟨w.heap.size + 1, 0, none⟩ = some (.slice (some ⟨b', off', none⟩) n d) ∧ w'.cell? ⟨b, off + k, none⟩ = some (.slice A1 n1 d1) ∧ w'.cell? ⟨b', off' + k, none⟩ = some (.slice A2 n2 d2))
            ((first | exact ⟨b1, b2, c1, c2⟩ | exact ⟨e1, e2, e3, e4⟩))
            ((go_at_call 31; refine (sameRow_any A1 A2 n1 d1 n2 d2 r1 r2 _ (hr1.keep (by repeat (first | exact Fr.refl _ _ | with_reducible assumption | with_reducible apply Fr.drewN | with_reducible apply Fr.drew | with_reducible apply Fr.alloc))) (hr2.keep (by repeat (first | exact Fr.refl _ _ | with_reducible assumption | with_reducible apply Fr.drewN | with_reducible apply Fr.drew | with_reducible apply Fr.alloc))) hz1 hz2).mono ?_; rw [decide_eq_true He.out]; rintro e w' ⟨rfl, hf⟩
              have hF1 : Fr [] _ w' := (hF.drew).trans hf
              have e1 := hF1.at2a (by simp) 0
              have e2 := hF1.at2b (by simp) 0
              simp at e1 e2
              have e3 := (hf.cell (p := ⟨b, off + k, none⟩) hb (by simp)).trans c1
              have e4 := (hf.cell (p := ⟨b', off' + k, none⟩) hb' (by simp)).trans c2))
          go_wp2_with fail
          go_roundw
          case rel => exact ⟨k + 1, by omega, by go_num, hF1, HS.out.1 He.out⟩
          case measure => simp [intOf]; omega
        · have He := Lib.hid he
          clear he
          go_wp2_with fail
          go_region_held3 (fun w' => w'.cell? ⟨w.heap.size, 0, none⟩ = some (.slice (some ⟨b, off, none⟩) n c) ∧ w'.cell? ⟨w.heap.size + 1, 0, none⟩ = some (.slice (some ⟨b', off', none⟩) n d) ∧ w'.cell? ⟨b, off + k, none⟩ = some (.slice A1 n1 d1) ∧ w'.cell? ⟨b', off' + k, none⟩ = some (.slice A2 n2 d2))
            ((first | exact ⟨b1, b2, c1, c2⟩ | exact ⟨e1, e2, e3, e4⟩))
            ((go_at_call 31; refine (sameRow_any A1 A2 n1 d1 n2 d2 r1 r2 _ (hr1.keep (by repeat (first | exact Fr.refl _ _ | with_reducible assumption | with_reducible apply Fr.drewN | with_reducible apply Fr.drew | with_reducible apply Fr.alloc))) (hr2.keep (by repeat (first | exact Fr.refl _ _ | with_reducible assumption | with_reducible apply Fr.drewN | with_reducible apply Fr.drew | with_reducible apply Fr.alloc))) hz1 hz2).mono ?_; rw [decide_eq_false He.out]; rintro e w' ⟨rfl, hf⟩
              have hF1 : Fr [] _ w' := (hF.drew).trans hf
              have e1 := hF1.at2a (by simp) 0
              have e2 := hF1.at2b (by simp) 0
              simp at e1 e2
              have e3 := (hf.cell (p := ⟨b, off + k, none⟩) hb (by simp)).trans c1
              have e4 := (hf.cell (p := ⟨b', off' + k, none⟩) hb' (by simp)).trans c2))
          go_wp2_with fail
          go_ret
          exact ⟨by rw [decide_eq_false (HS.out.2 He.out)]; rfl, hF1.box2⟩
      · have hge : decide ((k : Int) < (n : Int)) = false := by simp; omega
        have hfin : xs = ys := hI.out.2 (by rw [List.drop_eq_nil_of_le (by rw [hx.n_eq]; omega), List.drop_eq_nil_of_le (by rw [hy.n_eq]; omega)])
        have Hfin := Lib.hid hfin
        clear hfin
        go_wp2_with fail
        go_ret
        exact ⟨by rw [decide_eq_true Hfin.out]; rfl, hF0⟩
  · have hne : ((n : Int) == (m : Int)) = false := by simp; omega
    have hne' : ((n : Int) != (m : Int)) = true := by simp; omega
    have hfin : xs ≠ ys := fun e => hl (by rw [← hx.n_eq, ← hy.n_eq, e])
    have Hfin := Lib.hid hfin
    clear hfin
    go_enter Try.func16, Try.ntmps16
    go_wp2_with fail
    go_ret
    exact ⟨by rw [decide_eq_false Hfin.out]; rfl, ((Fr.refl _ _).alloc _).alloc _⟩
end Go.Proofs.Ytfkpjnmngafnmaa
