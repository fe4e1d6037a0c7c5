/- The drawn systems: Chain. -/
import Derived.Test.YtfkpjnmngafnmaaGen2
namespace Go.Proofs.Ytfkpjnmngafnmaa
set_option linter.unusedVariables false
set_option linter.unusedSimpArgs false
open Go.RowKit

set_option maxRecDepth 100000 in
set_option maxHeartbeats 4000000 in
theorem chain_any (X : List Nat) (bt q : Nat) (n : Int) (w : World) (hX : ∀ x ∈ X, x < w.heap.size) (ht : Tp w bt q) (hq : q + 300 ≤ 1000000000) (hn : 1 ≤ n) (hn2 : n ≤ 20) :
    Calls Try.prog 7 #[.pointer (some ⟨bt, 0, none⟩), .int .i64 n] w fun e w' => ∃ g m : Nat, e = .returned (.agg #[.slice (some ⟨g, 0, none⟩) m m]) ∧ 1 ≤ m ∧ (m : Int) ≤ n ∧ Gs (bt :: X) w' g m 200 ∧ Tp w' bt (q + 300) ∧ Fr [bt] w w' ∧ w.heap.size ≤ g := by
  have hbt := ht.lt
  have HX := Lib.hid hX
  clear hX
  go_enter Try.func7, Try.ntmps7
  go_wp2_with ((go_at_call 18; refine (lts_any (w.heap.size :: X) bt q n _ (by intro x hx; simp only [List.mem_cons] at hx; simp; rcases hx with h | h; omega; have := HX.out x h; omega) (ht.alloc _) (by omega) hn hn2).mono ?_; rintro e w1 ⟨g, m, rfl, hm1, hm2, hg1, ht1, hf1, hgw⟩))
  have hz1 := hf1.size
  have hglt := hg1.lt
  simp at hz1 hgw
  have hI0 : LI X bt g w1.heap.size w.heap.size m 100 (q + 200) w (w1.alloc (.cells #[.slice (some ⟨g, 0, none⟩) m m] 25)) := by
    have hf0 : Fr [bt] w w1 := ((Fr.refl _ w).alloc _).trans hf1
    refine ⟨?_, ?_, ((hg1.new (Nat.le_refl _)).keep ((Fr.refl [] _).alloc _) (by simp)).sub (by simp; intro x hx; simp [hx]), ht1.alloc _, hf0.alloc _, by omega, by omega, by omega, by omega, by omega, by omega⟩
    · exact Blk.new w1 25 [.slice (some ⟨g, 0, none⟩) m m]
    · exact ((Blk.new w 25 [.slice none 0 0]).fr hf1 (by simp; omega)).alloc _
  go_loopw [6] (fun i wr => ∃ k : Nat, k + 1 ≤ m ∧ i = .int .i64 k ∧ LI X bt g w1.heap.size w.heap.size m (100 + k) (q + 200 + k) w wr) (fun i _ => m - (intOf i).toNat)
  case atStart => exact ⟨0, by omega, rfl, by simpa using hI0⟩
  case round =>
    obtain ⟨k, hk, rfl, hI⟩ := hrel
    have c1 := hI.l.cellS (i := 0) rfl
    by_cases hlt : k + 1 < m
    · have hlt' : (k : Int) + 1 < (m : Int) := by omega
      have hkm : (k : Int) < (m : Int) := by omega
      obtain ⟨A, rn, rc, row, c2, hrow, hok, hrn⟩ := hI.s.row (s := k) (by omega)
      go_wp2_with fail
      have hwr : IntKind.i64.wrap ((k : Int) + 1) = (k : Int) + 1 := IntWalk.i64_in _ (by omega)
      refine wp_region_T (fun w' => w'.cell? ⟨w1.heap.size, 0, none⟩ = some (.slice (some ⟨g, 0, none⟩) m m) ∧ w'.cell? ⟨g, k, none⟩ = some (.slice A rn rc)) 15
        [(0, true), (1, true), (2, true), (3, true), (4, true), (5, true), (6, true), (7, true), (8, true), (10, true), (11, true), (9, false), (12, true), (13, false), (14, true), (15, false)]
        (by kernel_rfl) (by kernel_rfl) (fun _ _ d _ _ h => by cases d <;> exact h) ⟨c1, c2⟩ ?_
      iterate 11 (apply wpT_pure'; simp only [List.getElem?_toArray, List.getElem?_cons_zero, List.getElem?_cons_succ]; rfl; rfl; apply Exists.intro; refine ⟨?_, ?_⟩; rintro w' ⟨s1, s2⟩; go_simp; with_reducible rfl; simp only [Act.put, List.setIfInBounds_toArray, List.set_cons_zero, List.set_cons_succ])
      (apply wpT_eff; simp only [List.getElem?_toArray, List.getElem?_cons_zero, List.getElem?_cons_succ]; rfl; rfl; intro K hK; go_simp)
      refine (event_any bt _ _ hI.t.drew (by omega)).mono ?_
      rintro e w2 ⟨x, rfl, hx0, hx1, ht2, hf2⟩
      have hJ2 := hI.drew.tape ht2 hf2
      have d1 := hJ2.l.cellS (i := 0) rfl
      have d2 : w2.cell? ⟨g, k, none⟩ = some (.slice A rn rc) := (hf2.cell (by have := hI.s.lt; simpa using this) (by simpa using hI.n1)).trans c2
      (refine hK.out _ _ ⟨d1, d2⟩ ?_; clear hK K; try simp only [Act.put, List.setIfInBounds_toArray, List.set_cons_zero, List.set_cons_succ])
      (apply wpT_pure'; simp only [List.getElem?_toArray, List.getElem?_cons_zero, List.getElem?_cons_succ]; rfl; rfl; apply Exists.intro; refine ⟨?_, ?_⟩; rintro w' ⟨s1, s2⟩; go_simp; with_reducible rfl; simp only [Act.put, List.setIfInBounds_toArray, List.set_cons_zero, List.set_cons_succ])
      have hg2 := hJ2.s.lt
      have hb2 := hJ2.t.lt
      have hl2 := hJ2.l.lt
      have hr2 := hJ2.r.lt
      have hrow2 : Pairs (g :: bt :: w.heap.size :: w1.heap.size :: X) w2 A rn rc row := (hrow.keep ((Fr.refl _ wr).drew)).keep (hf2.mono (by simp))
      (apply wpT_eff; simp only [List.getElem?_toArray, List.getElem?_cons_zero, List.getElem?_cons_succ]; rfl; rfl; intro K hK; go_simp)
      refine (insert_any (g :: bt :: w.heap.size :: w1.heap.size :: X) A rn rc row x ((k : Int) + 1) _ (by
            intro z hz
            simp only [List.mem_cons] at hz
            rcases hz with h | h | h | h | h <;> first | omega | (have := HX.out z h; omega)) hrow2 (by omega)).mono ?_
      rintro e w4 ⟨A', n', c', rfl, hr4, hf4⟩
      have hJ4 := hJ2.pure hf4
      have f1 := hJ4.l.cellS (i := 0) rfl
      have f2 : w4.cell? ⟨g, k, none⟩ = some (.slice A rn rc) := (hf4.cell hg2 (by simp)).trans d2
      have fz := hJ4.s.frozen k
      (refine hK.out _ _ ⟨f1, f2⟩ ?_; clear hK K; try simp only [Act.put, List.setIfInBounds_toArray, List.set_cons_zero, List.set_cons_succ])
      (apply wpT_pure'; simp only [List.getElem?_toArray, List.getElem?_cons_zero, List.getElem?_cons_succ]; rfl; rfl; apply Exists.intro; refine ⟨?_, ?_⟩; rintro w' ⟨s1, s2⟩; go_simp; with_reducible rfl; simp only [Act.put, List.setIfInBounds_toArray, List.set_cons_zero, List.set_cons_succ])
      (apply wpT_last; simp only [List.getElem?_toArray, List.getElem?_cons_zero, List.getElem?_cons_succ]; rfl; rfl; go_simp)
      go_wp2_with fail
      go_roundw
      case rel =>
        have hset := (hJ4.le (Nat.le_succ _) (Nat.le_refl _)).set (by omega) hr4 (ins_ok hok (by simpa using hx0) (by simpa using hx1) (by simp; omega) (by simpa using hlt')) k
        exact ⟨k + 1, by omega, by go_num, hset.le (by omega) (by omega)⟩
      case measure => simp [intOf]; omega
    · have hge : decide ((k : Int) + 1 < (m : Int)) = false := by simp; omega
      have hrz := hI.r.frozen 0
      have hr0 := hI.r.cellS (i := 0) rfl
      go_wp2_with fail
      refine bodyPost_ret (v := .agg #[.slice (some ⟨g, 0, none⟩) m m]) (by simp [results, Try.results7, go_sem, hr0]) rfl ?_
      have hF : Fr [w.heap.size] wr (wr.setCell ⟨w.heap.size, 0, none⟩ (.slice (some ⟨g, 0, none⟩) m m)) := (Fr.refl _ _).setCell (.inl (by simp)) _
      refine ⟨_, _, rfl, hm1, hm2, ?_, ?_, ?_, by omega⟩
      · exact ((hI.s.keep hF (by simp)).le (by omega)).sub (by simp; intro x hx; simp [hx])
      · exact (hI.t.keep hF (by simp; omega)).le (by omega)
      · exact hI.f.setCell (.inr (Nat.le_refl _)) _
end Go.Proofs.Ytfkpjnmngafnmaa
