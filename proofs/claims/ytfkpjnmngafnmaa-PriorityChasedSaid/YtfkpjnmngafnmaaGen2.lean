/- The drawn systems: LTS. -/
import Derived.Test.YtfkpjnmngafnmaaGen1
import Derived.Test.YtfkpjnmngafnmaaRegn
namespace Go.Proofs.Ytfkpjnmngafnmaa
set_option linter.unusedVariables false
set_option linter.unusedSimpArgs false
open Go.RowKit

/-- in the midst of LTS: l's box, the result's box, the rows, the tape -/
structure LI (X : List Nat) (bt g lb rb m L q : Nat) (w wr : World) : Prop where
  l : Blk wr lb 25 [.slice (some ⟨g, 0, none⟩) m m]
  r : Blk wr rb 25 [.slice none 0 0]
  s : Gs (bt :: rb :: lb :: X) wr g m L
  t : Tp wr bt q
  f : Fr [bt] w wr
  n0 : bt < g
  n1 : g ≠ bt
  n2 : lb ≠ bt
  n3 : rb ≠ bt
  n4 : lb ≠ g
  n5 : rb ≠ g
section
variable {X : List Nat} {bt g lb rb m L q : Nat} {w wr w' : World}
theorem LI.tape (h : LI X bt g lb rb m L q w wr) {q' : Nat} (ht : Tp w' bt q') (hf : Fr [bt] wr w') : LI X bt g lb rb m L q' w w' :=
  ⟨h.l.fr hf (by simp; exact h.n2), h.r.fr hf (by simp; exact h.n3), h.s.keep hf (by simp), ht, h.f.trans hf, h.n0, h.n1, h.n2, h.n3, h.n4, h.n5⟩
theorem LI.pure (h : LI X bt g lb rb m L q w wr) (hf : Fr [] wr w') : LI X bt g lb rb m L q w w' :=
  h.tape (h.t.keep hf (by simp)) hf.any
theorem LI.drew (h : LI X bt g lb rb m L q w wr) : LI X bt g lb rb m L q w wr.drew := h.pure (Fr.refl _ _).drew
theorem LI.le (h : LI X bt g lb rb m L q w wr) {L' q' : Nat} (hl : L ≤ L') (hq : q ≤ q') : LI X bt g lb rb m L' q' w wr :=
  ⟨h.l, h.r, h.s.le hl, h.t.le hq, h.f, h.n0, h.n1, h.n2, h.n3, h.n4, h.n5⟩
theorem LI.set (h : LI X bt g lb rb m L q w wr) (hw : w.heap.size ≤ g) {A : Option Addr} {n c : Nat} {row : List Arc} (hr : Pairs (g :: bt :: rb :: lb :: X) wr A n c row) (ho : okRow L m row) (s : Nat) :
    LI X bt g lb rb m L q w (wr.setCell ⟨g, s, none⟩ (.slice A n c)) :=
  ⟨h.l.far h.n4 _, h.r.far h.n5 _, h.s.set hr ho s, h.t.keep (M := [g]) ((Fr.refl _ _).setCell (.inl (by simp)) _) (by simp; exact h.n0), h.f.setCell (.inr hw) _, h.n0, h.n1, h.n2, h.n3, h.n4, h.n5⟩
end
theorem T_rows_ht : Try.prog.underlying 23 = some (.slice 44) := Try.underlying23
theorem T_rows_info : (Try.prog.info? 44).map (fun i => (i.zero, i.size, i.bytes)) = some (some (.slice none 0 0), 1, 24) := by kernel_rfl
theorem gs_start {w : World} {X : List Nat} {m : Nat} (hb : w.heap.size ∉ X) : Gs X (w.alloc (.cells (List.replicate m (.slice none 0 0)).toArray 44)) w.heap.size m 0 :=
  ⟨⟨_, List.replicate m [], Blk.new w _ _, LRel.rep ⟨none, 0, 0, rfl, Ls.nil _ _ _ _⟩ m, by simp, fun r hr => by
    rw [(List.mem_replicate.1 hr).2]
    exact ⟨List.Pairwise.nil, Nat.le_refl _, by simp⟩⟩, hb⟩

set_option maxRecDepth 100000 in
set_option maxHeartbeats 4000000 in
theorem lts_any (X : List Nat) (bt q : Nat) (n : Int) (w : World) (hX : ∀ x ∈ X, x < w.heap.size) (ht : Tp w bt q) (hq : q + 200 ≤ 1000000000) (hn : 1 ≤ n) (hn2 : n ≤ 20) :
    Calls Try.prog 18 #[.pointer (some ⟨bt, 0, none⟩), .int .i64 n] w fun e w' => ∃ g m : Nat, e = .returned (.agg #[.slice (some ⟨g, 0, none⟩) m m]) ∧ 1 ≤ m ∧ (m : Int) ≤ n ∧ Gs (bt :: X) w' g m 100 ∧ Tp w' bt (q + 200) ∧ Fr [bt] w w' ∧ w.heap.size ≤ g := by
  have hbt := ht.lt
  have HX := Lib.hid hX
  clear hX
  go_enter Try.func18, Try.ntmps18
  go_wp2_with ((go_at_call 22; refine (next_any bt q n _ (ht.alloc _) (by omega) hn (by omega)).mono ?_; rintro e w1 ⟨v, rfl, hv, ht1, hf1⟩
                obtain ⟨m, hm⟩ : ∃ m : Nat, (1 : Int) + (v : Int) = (m : Int) := ⟨v + 1, by omega⟩
                have hm1 : 1 ≤ m := by omega
                have hm2 : (m : Int) ≤ n := by omega
                have hmk := fun W => run_mk1 T_rows_ht T_rows_info rfl m (by omega) (by omega) W))
  have hz1 := hf1.size
  simp at hz1
  have hI0 : LI X bt w1.heap.size (w1.heap.size + 1) w.heap.size m 0 (q + 1) w ((w1.alloc (.cells (List.replicate m (.slice none 0 0)).toArray 44)).alloc (.cells #[.slice (some ⟨w1.heap.size, 0, none⟩) m m] 25)) := by
    have hf0 : Fr [bt] w w1 := ((Fr.refl _ w).alloc _).trans hf1
    refine ⟨?_, ?_, (gs_start (by
      simp only [List.mem_cons, not_or]
      exact ⟨by omega, by omega, by omega, fun hin => by have := HX.out _ hin; omega⟩)).keep ((Fr.refl [] _).alloc _) (by simp), (ht1.alloc _).alloc _, (hf0.alloc _).alloc _, by omega, by omega, by omega, by omega, by omega, by omega⟩
    · have := Blk.new (w1.alloc (.cells (List.replicate m (.slice none 0 0)).toArray 44)) 25 [.slice (some ⟨w1.heap.size, 0, none⟩) m m]
      simpa using this
    · exact (((Blk.new w 25 [.slice none 0 0]).fr hf1 (by simp; omega)).alloc _).alloc _
  have Hm := Lib.hid hm
  clear hm hmk
  go_loopw [6, 7] (fun i _ wr => ∃ k : Nat, k ≤ m ∧ i = .int .i64 k ∧ LI X bt w1.heap.size (w1.heap.size + 1) w.heap.size m (3 * k) (q + 1 + 7 * k) w wr) (fun i _ _ => m - (intOf i).toNat)
  case atStart => exact ⟨0, by omega, rfl, by simpa using hI0⟩
  case round =>
    obtain ⟨k, hk, rfl, hI⟩ := hrel
    have c1 := hI.l.cellS (i := 0) rfl
    by_cases hlt : k < m
    · have hlt' : (k : Int) < (m : Int) := by omega
      go_wp2_with ((go_at_call 22; refine (next_any bt (q + 1 + 7 * k) 4 _ hI.t (by omega) (by omega) (by omega)).mono ?_; rintro e w2 ⟨j0, rfl, hj0, ht2, hf2⟩
                    have hI2 := hI.tape ht2 hf2))
      clear c1
      obtain ⟨wo, rfl⟩ : ∃ wo : World, wo = wr := ⟨_, rfl⟩
      go_loopw [7] (fun i wr => ∃ j : Nat, j ≤ 3 ∧ i = .int .i64 j ∧ LI X bt w1.heap.size (w1.heap.size + 1) w.heap.size m (3 * k + (3 - j)) (q + 1 + 7 * k + 1 + 2 * (3 - j)) w wr) (fun i _ => (intOf i).toNat)
      case atStart => exact ⟨j0, by omega, rfl, hI2.le (by omega) (by omega)⟩
      case round =>
        obtain ⟨j, hj, rfl, hJ⟩ := hrel
        have c1 := hJ.l.cellS (i := 0) rfl
        by_cases hjp : 0 < j
        · have hjp' : (0 : Int) < (j : Int) := by omega
          obtain ⟨A, rn, rc, row, c2, hrow, hok, hrn⟩ := hJ.s.row hlt
          go_wp2_with fail
          refine wp_region_T (fun w' => w'.cell? ⟨w1.heap.size + 1, 0, none⟩ = some (.slice (some ⟨w1.heap.size, 0, none⟩) m m) ∧ w'.cell? ⟨w1.heap.size, k, none⟩ = some (.slice A rn rc)) 18
            [(0, true), (1, true), (2, true), (3, true), (4, true), (5, true), (6, true), (7, true), (8, true), (10, true), (11, true), (12, true), (13, true), (9, false), (14, false), (15, true), (16, false), (17, true), (18, false)]
            (by kernel_rfl) (by kernel_rfl) (fun _ _ d _ _ h => by cases d <;> exact h) ⟨c1, c2⟩ ?_
          iterate 13 (apply wpT_pure'; simp only [List.getElem?_toArray, List.getElem?_cons_zero, List.getElem?_cons_succ]; rfl; rfl; apply Exists.intro; refine ⟨?_, ?_⟩; rintro w' ⟨s1, s2⟩; go_simp; with_reducible rfl; simp only [Act.put, List.setIfInBounds_toArray, List.set_cons_zero, List.set_cons_succ])
          (apply wpT_eff; simp only [List.getElem?_toArray, List.getElem?_cons_zero, List.getElem?_cons_succ]; rfl; rfl; intro K hK; go_simp)
          refine (event_any bt _ _ hJ.t.drew (by omega)).mono ?_
          rintro e w2 ⟨x, rfl, hx0, hx1, ht2, hf2⟩
          have hJ2 := hJ.drew.tape ht2 hf2
          have d1 := hJ2.l.cellS (i := 0) rfl
          have d2 : w2.cell? ⟨w1.heap.size, k, none⟩ = some (.slice A rn rc) := (hf2.cell (by have := hJ.s.lt; simpa using this) (by simpa using hJ.n1)).trans c2
          (refine hK.out _ _ ⟨d1, d2⟩ ?_; clear hK K; try simp only [Act.put, List.setIfInBounds_toArray, List.set_cons_zero, List.set_cons_succ])
          (apply wpT_eff; simp only [List.getElem?_toArray, List.getElem?_cons_zero, List.getElem?_cons_succ]; rfl; rfl; intro K hK; go_simp)
          refine (next_any bt _ (m : Int) _ hJ2.t (by omega) (by omega) (by omega)).mono ?_
          rintro e w3 ⟨v3, rfl, hv3, ht3, hf3⟩
          have hJ3 := hJ2.tape ht3 hf3
          have e1 := hJ3.l.cellS (i := 0) rfl
          have e2 : w3.cell? ⟨w1.heap.size, k, none⟩ = some (.slice A rn rc) := (hf3.cell hJ2.s.lt (by simpa using hJ.n1)).trans d2
          (refine hK.out _ _ ⟨e1, e2⟩ ?_; clear hK K; try simp only [Act.put, List.setIfInBounds_toArray, List.set_cons_zero, List.set_cons_succ])
          (apply wpT_pure'; simp only [List.getElem?_toArray, List.getElem?_cons_zero, List.getElem?_cons_succ]; rfl; rfl; apply Exists.intro; refine ⟨?_, ?_⟩; rintro w' ⟨s1, s2⟩; go_simp; with_reducible rfl; simp only [Act.put, List.setIfInBounds_toArray, List.set_cons_zero, List.set_cons_succ])
          have hg3 := hJ3.s.lt
          have hb3 := hJ3.t.lt
          have hl3 := hJ3.l.lt
          have hr3 := hJ3.r.lt
          have hrow3 : Pairs (w1.heap.size :: bt :: w.heap.size :: (w1.heap.size + 1) :: X) w3 A rn rc row := ((hrow.keep ((Fr.refl _ wr).drew)).keep (hf2.mono (by simp))).keep (hf3.mono (by simp))
          (apply wpT_eff; simp only [List.getElem?_toArray, List.getElem?_cons_zero, List.getElem?_cons_succ]; rfl; rfl; intro K hK; go_simp)
          refine (insert_any (w1.heap.size :: bt :: w.heap.size :: (w1.heap.size + 1) :: X) A rn rc row x (v3 : Int) _ (by
            intro z hz
            simp only [List.mem_cons] at hz
            rcases hz with h | h | h | h | h <;> first | omega | (have := HX.out z h; omega)) hrow3 (by omega)).mono ?_
          rintro e w4 ⟨A', n', c', rfl, hr4, hf4⟩
          have hJ4 := hJ3.pure hf4
          have f1 := hJ4.l.cellS (i := 0) rfl
          have f2 : w4.cell? ⟨w1.heap.size, k, none⟩ = some (.slice A rn rc) := (hf4.cell hg3 (by simp)).trans e2
          have fz := hJ4.s.frozen k
          (refine hK.out _ _ ⟨f1, f2⟩ ?_; clear hK K; try simp only [Act.put, List.setIfInBounds_toArray, List.set_cons_zero, List.set_cons_succ])
          (apply wpT_pure'; simp only [List.getElem?_toArray, List.getElem?_cons_zero, List.getElem?_cons_succ]; rfl; rfl; apply Exists.intro; refine ⟨?_, ?_⟩; rintro w' ⟨s1, s2⟩; go_simp; with_reducible rfl; simp only [Act.put, List.setIfInBounds_toArray, List.set_cons_zero, List.set_cons_succ])
          (apply wpT_last; simp only [List.getElem?_toArray, List.getElem?_cons_zero, List.getElem?_cons_succ]; rfl; rfl; go_simp)
          go_wp2_with fail
          go_roundw
          case rel => 
            have hset := (hJ4.le (Nat.le_succ _) (Nat.le_refl _)).set (by omega) hr4 (ins_ok hok (by simpa using hx0) (by simpa using hx1) (by simp) (by simpa using hv3)) k
            exact ⟨j - 1, by omega, by go_num, hset.le (by omega) (by omega)⟩
          case measure => simp [intOf]; omega
        · have hj0 : j = 0 := by omega
          subst hj0
          go_wp2_with fail
          go_roundw
          case rel => exact ⟨k + 1, by omega, by go_num, hJ.le (by omega) (by omega)⟩
          case measure => simp [intOf]; omega
    · have hkm : k = m := by omega
      have hge : decide ((k : Int) < (m : Int)) = false := by simp; omega
      have hrz := hI.r.frozen 0
      have hr0 := hI.r.cellS (i := 0) rfl
      subst hkm
      go_wp2_with fail
      refine bodyPost_ret (v := .agg #[.slice (some ⟨w1.heap.size, 0, none⟩) k k]) (by simp [results, Try.results18, go_sem, hr0]) rfl ?_
      have hF : Fr [w.heap.size] wr (wr.setCell ⟨w.heap.size, 0, none⟩ (.slice (some ⟨w1.heap.size, 0, none⟩) k k)) := (Fr.refl _ _).setCell (.inl (by simp)) _
      refine ⟨_, _, rfl, hm1, hm2, ?_, ?_, ?_, by omega⟩
      · exact ((hI.s.keep hF (by simp)).le (by omega)).sub (by simp; intro x hx; simp [hx])
      · exact (hI.t.keep hF (by simp; omega)).le (by omega)
      · exact hI.f.setCell (.inr (Nat.le_refl _)) _
end Go.Proofs.Ytfkpjnmngafnmaa
