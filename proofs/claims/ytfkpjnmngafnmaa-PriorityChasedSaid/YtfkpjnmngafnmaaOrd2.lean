/- The reference's Blocks under a valid order, and Prioritise. -/
import Derived.Test.YtfkpjnmngafnmaaOrd1
import Derived.Test.YtfkpjnmngafnmaaCan2
namespace Go.Proofs.Ytfkpjnmngafnmaa
set_option linter.unusedVariables false
set_option linter.unusedSimpArgs false
open Go.RowKit

def blkB (o : List Arc) (lo hi : Int) : Bool := abvB o lo hi || o.any fun p => p.1 == lo && (hi == 0 || hi == 1)

set_option maxHeartbeats 2000000 in
theorem blocks_any (A : Option Addr) (n c : Nat) (o : List Arc) (lo hi : Int) (w : World) (hr : Pairs [] w A n c o) (hn : n ≤ 1000) (hv : validOrdB o = true) :
    Calls Try.prog 37 #[.slice A n c, .int .i64 lo, .int .i64 hi] w fun e w' => e = .returned (.bool (blkB o lo hi)) ∧ Fr [] w w' := by
  have HV := Lib.hid hv
  clear hv
  cases hab : abvB o lo hi with
  | true =>
    have Hab := Lib.hid hab
    have Hf : Hid (blkB o lo hi = true) := by unfold Hid blkB; rw [hab]; rfl
    clear hab
    go_enter Try.func37, Try.ntmps37
    go_wp2_with (first
      | (go_at_call 36; refine (validOrder_any A n c o _ hr hn).mono ?_; rw [HV.out]; rintro e w1 ⟨rfl, hf1⟩)
      | (go_at_call 50; refine (above_any A n c o lo hi _ (hr.keep hf1) hn).mono ?_; rw [Hab.out]; rintro e w' ⟨rfl, rfl⟩))
    go_ret
    exact ⟨by rw [Hf.out]; rfl, hf1⟩
  | false =>
    have Hab := Lib.hid hab
    have Hb : Hid (blkB o lo hi = o.any fun p => p.1 == lo && (hi == 0 || hi == 1)) := by unfold Hid blkB; rw [hab]; rfl
    clear hab
    go_enter Try.func37, Try.ntmps37
    go_wp2_with (first
      | (go_at_call 36; refine (validOrder_any A n c o _ hr hn).mono ?_; rw [HV.out]; rintro e w1 ⟨rfl, hf1⟩)
      | (go_at_call 50; refine (above_any A n c o lo hi _ (hr.keep hf1) hn).mono ?_; rw [Hab.out]; rintro e w' ⟨rfl, rfl⟩))
    go_loop [7] (fun i => ∃ k : Nat, k ≤ n ∧ i = .int .i64 k ∧ Hid ((o.any fun p => p.1 == lo && (hi == 0 || hi == 1)) = ((o.drop k).any fun p => p.1 == lo && (hi == 0 || hi == 1)))) (fun i => n - (intOf i).toNat)
    case atStart => exact ⟨0, by omega, rfl, by simp [Hid]⟩
    case round =>
      obtain ⟨k, hk, rfl, hI⟩ := hrel
      by_cases hlt : k < n
      · have hlt' : (k : Int) < (n : Int) := by omega
        obtain ⟨b, off, x, y, rfl, _, hb, _, hd, c1, c2⟩ := (hr.keep hf1).getp hlt
        have HD := Lib.hid (any_drop _ hI.out hd)
        clear hd
        by_cases h1 : (x == lo) = true
        · by_cases h2 : (hi == 0) = true
          · have Hf : Hid (blkB o lo hi = true) := by unfold Hid; rw [Hb.out]; exact HD.out.2 (by simp [h1, h2])
            go_wp2_with fail
            go_ret
            exact ⟨by rw [Hf.out]; rfl, hf1⟩
          · have h2 : (hi == 0) = false := by simpa using h2
            by_cases h3 : (hi == 1) = true
            · have Hf : Hid (blkB o lo hi = true) := by unfold Hid; rw [Hb.out]; exact HD.out.2 (by simp [h1, h3])
              go_wp2_with fail
              go_ret
              exact ⟨by rw [Hf.out]; rfl, hf1⟩
            · have h3 : (hi == 1) = false := by simpa using h3
              have Hn := Lib.hid (HD.out.1 (by simp [h2, h3]))
              go_wp2_with fail
              go_round
              case rel => exact ⟨k + 1, by omega, by go_num, Hn⟩
              case measure => simp [intOf]; omega
        · have h1 : (x == lo) = false := by simpa using h1
          have Hn := Lib.hid (HD.out.1 (by simp [h1]))
          go_wp2_with fail
          go_round
          case rel => exact ⟨k + 1, by omega, by go_num, Hn⟩
          case measure => simp [intOf]; omega
      · have hge : decide ((k : Int) < (n : Int)) = false := by simp; omega
        have Hf : Hid (blkB o lo hi = false) := by unfold Hid; rw [Hb.out]; exact any_end _ hI.out (by rw [hr.n_eq]; omega)
        go_wp2_with fail
        go_ret
        exact ⟨by rw [Hf.out]; rfl, hf1⟩

/-- what prioritise keeps of a row -/
def keepB (o : List Arc) (r : List Arc) (a : Arc) : Bool := r.all fun b => !blkB o a.1 b.1
def prioR (o : List Arc) (rows : List (List Arc)) : List (List Arc) := rows.map fun r => r.filter (keepB o r)
theorem filter_step {α : Type} (p : α → Bool) {r acc full : List α} {k : Nat} {x : α} (h : acc ++ (r.drop k).filter p = full) (hd : r.drop k = x :: r.drop (k + 1)) :
    (p x = true → (acc ++ [x]) ++ (r.drop (k + 1)).filter p = full) ∧ (p x = false → acc ++ (r.drop (k + 1)).filter p = full) := by
  rw [hd] at h
  exact ⟨fun e => by rw [← h]; simp [List.filter_cons, e], fun e => by rw [← h]; simp [List.filter_cons, e]⟩
theorem map_step {α β : Type} (f : α → β) {rows : List α} {acc full : List β} {k : Nat} {r : α} (h : acc ++ (rows.drop k).map f = full) (hd : rows.drop k = r :: rows.drop (k + 1)) : (acc ++ [f r]) ++ (rows.drop (k + 1)).map f = full := by
  rw [hd] at h; rw [← h]; simp
theorem prio_small {o : List Arc} {rows : List (List Arc)} (h : Small rows) : Small (prioR o rows) := by
  refine ⟨by simpa [prioR] using h.n, Nat.le_trans ?_ h.t⟩
  have : ∀ l : List (List Arc), tot (l.map fun r => r.filter (keepB o r)) ≤ tot l := by
    intro l
    induction l with
    | nil => simp [tot]
    | cons x xs ih => rw [List.map_cons, tot_cons, tot_cons]; have := List.length_filter_le (keepB o x) x; omega
  exact this rows
theorem prio_loose {o : List Arc} {rows : List (List Arc)} (h : looseB rows = true) : looseB (prioR o rows) = true := by
  simp only [looseB, Bool.and_eq_true, List.all_eq_true, decide_eq_true_eq, prioR, List.length_map, List.mem_map] at h ⊢
  refine ⟨h.1, ?_⟩
  rintro r' ⟨r, hr, rfl⟩ a ha
  exact h.2 r hr a ((List.mem_filter.1 ha).1)
end Go.Proofs.Ytfkpjnmngafnmaa
