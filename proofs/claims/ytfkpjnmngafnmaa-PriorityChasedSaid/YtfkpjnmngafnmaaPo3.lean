/- The program's ValidOrder. -/
import Derived.Test.YtfkpjnmngafnmaaPo2
import Derived.Test.YtfkpjnmngafnmaaRegn
namespace Go.Proofs.Ytfkpjnmngafnmaa
set_option linter.unusedVariables false
set_option linter.unusedSimpArgs false
open Go.RowKit

def voL : Option Arc → List Arc → Bool
  | _, [] => true
  | p, x :: xs => vo1 x && prevOk p x && voL (some x) xs
def voR (o : List Arc) (xs : List Arc) : Bool := xs.all fun x => (abvL o x.2).all fun y => abvB o x.1 y.2
theorem less_trans' {a b c : Arc} (h1 : lessB a b = true) (h2 : lessB b c = true) : lessB a c = true := by
  simp [lessB] at *; omega
theorem voL_sorted {p : Option Arc} {o : List Arc} (h : voL p o = true) : SortedL o ∧ (∀ a ∈ o, vo1 a = true) ∧ ∀ y, p = some y → ∀ a ∈ o, lessB y a = true := by
  induction o generalizing p with
  | nil => simp
  | cons x xs ih =>
    simp only [voL, Bool.and_eq_true] at h
    obtain ⟨⟨h1, h2⟩, h3⟩ := h
    obtain ⟨i1, i2, i3⟩ := ih h3
    refine ⟨List.pairwise_cons.2 ⟨fun a ha => i3 x rfl a ha, i1⟩, ?_, ?_⟩
    · intro a ha
      rcases List.mem_cons.1 ha with rfl | ha
      · exact h1
      · exact i2 a ha
    · intro y hy a ha
      subst hy
      rcases List.mem_cons.1 ha with rfl | ha
      · exact h2
      · exact less_trans' h2 (i3 x rfl a ha)
theorem voGo_split (o : List Arc) (p : Option Arc) (xs : List Arc) : voGo o p xs = (voL p xs && xs.all fun x => o.all (voI o x)) := by
  induction xs generalizing p with
  | nil => simp [voGo, voL]
  | cons x xs ih =>
    simp only [voGo, voL, ih, List.all_cons]
    cases vo1 x <;> cases prevOk p x <;> cases o.all (voI o x) <;> cases voL (some x) xs <;> simp
theorem vo_law (o : List Arc) : validOrdB o = (voL none o && voR o o) := by
  unfold validOrdB
  rw [voGo_split]
  cases h : voL none o with
  | false => simp
  | true =>
    obtain ⟨h1, h2, _⟩ := voL_sorted h
    simp only [Bool.true_and, voR]
    rw [Bool.eq_iff_iff]
    simp only [List.all_eq_true, abvL, List.mem_filter, voI]
    constructor
    · intro hx x hxo y ⟨hy, he⟩
      have := hx x hxo y hy
      simp at he
      simp [he] at this
      exact this.2
    · intro hx x hxo y hy
      by_cases he : y.1 = x.2
      · have := hx x hxo y ⟨hy, by simp [he]⟩
        have h3 := h2 _ (abvB_mem.1 this)
        simp [vo1] at h3
        simp [he, this]
        omega
      · simp [he]
theorem voL_step {o : List Arc} {p : Option Arc} {x : Arc} {xs : List Arc} (h : voL none o = voL p (x :: xs)) :
    (vo1 x = false → voL none o = false) ∧ (∀ y, p = some y → lessB y x = false → voL none o = false) ∧
      (vo1 x = true → (∀ y, p = some y → lessB y x = true) → voL none o = voL (some x) xs) := by
  refine ⟨fun e => ?_, fun y hp e => ?_, fun e1 e2 => ?_⟩
  · rw [h, voL, e]; simp
  · subst hp; rw [h, voL]; simp [prevOk, e]
  · rw [h, voL, e1]
    cases p with
    | none => simp [prevOk]
    | some y => simp [prevOk, e2 y rfl]
theorem vo_false {o : List Arc} (h : voL none o = false) : validOrdB o = false := by rw [vo_law, h]; rfl

theorem newcells (x y : Int) (w : World) : (w.alloc (.cells #[.int .i64 x, .int .i64 y] 52)).cell? ⟨w.heap.size, 0, none⟩ = some (.int .i64 x) ∧ (w.alloc (.cells #[.int .i64 x, .int .i64 y] 52)).cell? ⟨w.heap.size, 1, none⟩ = some (.int .i64 y) := by
  constructor <;> (rw [World.cell?_alloc_at _ _ _ _ rfl]; rfl)
set_option maxRecDepth 100000 in
set_option maxHeartbeats 8000000 in
theorem pvalid_any (A : Option Addr) (n c : Nat) (o : List Arc) (w : World) (hr : Pairs [] w A n c o) (hn : n ≤ 1000) :
    Calls Try.prog 25 #[.slice A n c] w fun e w' => e = .returned (.bool (validOrdB o)) ∧ Fr [] w w' := by
  go_enter Try.func25, Try.ntmps25
  go_wp2_with fail
  go_loopw [11] (fun i wr => ∃ k : Nat, k ≤ n ∧ i = .int .i64 k ∧ Fr [] w wr ∧ Hid (voL none o = voL (if k = 0 then none else o[k - 1]?) (o.drop k))) (fun i _ => n - (intOf i).toNat)
  case atStart => exact ⟨0, by omega, rfl, Fr.refl _ _, by simp [Hid]⟩
  case round =>
    obtain ⟨k, hk, rfl, hF, hI⟩ := hrel
    by_cases hlt : k < n
    · have hlt' : (k : Int) < (n : Int) := by omega
      obtain ⟨b, off, x, y, rfl, _, hb, hx, hd, c1, c2⟩ := (hr.keep hF).getp hlt
      have hI' := hI.out
      rw [hd] at hI'
      have HV := Lib.hid (voL_step hI')
      have hr1 := (hr.keep hF)
      have hnext : (if k + 1 = 0 then none else o[k + 1 - 1]?) = some (x, y) := by simp [hx]
      have HNX := Lib.hid hnext
      clear hd hI' hnext hx hI
      cases hx : visB x with
      | false =>
        have Hf : Hid (voL none o = false) := HV.out.1 (by simp [visB] at hx; simp [vo1]; omega)
        have Hx := Lib.hid hx
        clear hx HV
        have m01 := newcells x y wr
        go_wp2_with fail
        refine wp_region_T (fun w' => w'.cell? ⟨wr.heap.size, 0, none⟩ = some (.int .i64 x) ∧ w'.cell? ⟨wr.heap.size, 1, none⟩ = some (.int .i64 y)) 30
          [(0, true), (1, true), (2, false), (3, true), (4, true), (5, true), (6, true), (7, false), (8, true), (9, true), (10, true), (11, true), (12, true), (13, true), (14, true), (15, true), (16, true), (17, true), (18, true), (19, true), (20, true), (21, true), (22, true), (23, true), (24, true), (25, true), (26, true), (27, false), (28, true), (29, true), (30, false)]
          (by kernel_rfl) (by kernel_rfl) (fun _ _ d _ _ h => by cases d <;> exact h) m01 ?_
        iterate 2 (apply wpT_pure'; simp only [List.getElem?_toArray, List.getElem?_cons_zero, List.getElem?_cons_succ]; rfl; rfl; apply Exists.intro; refine ⟨?_, ?_⟩; rintro w' ⟨s1, s2⟩; go_simp; with_reducible rfl; simp only [Act.put, List.setIfInBounds_toArray, List.set_cons_zero, List.set_cons_succ])
        (apply wpT_eff; simp only [List.getElem?_toArray, List.getElem?_cons_zero, List.getElem?_cons_succ]; rfl; rfl; intro K hK; go_simp)
        refine (visible_any _ _).mono ?_
        rw [Hx.out]; rintro e w' ⟨rfl, rfl⟩
        (refine hK.out _ _ ⟨m01.1, m01.2⟩ ?_; clear hK K; try simp only [Act.put, List.setIfInBounds_toArray, List.set_cons_zero, List.set_cons_succ])
        iterate 4 first | (apply wpT_pure'; simp only [List.getElem?_toArray, List.getElem?_cons_zero, List.getElem?_cons_succ]; rfl; rfl; apply Exists.intro; refine ⟨?_, ?_⟩; rintro w' ⟨s1, s2⟩; go_simp; with_reducible rfl; simp only [Act.put, List.setIfInBounds_toArray, List.set_cons_zero, List.set_cons_succ]) | (apply wpT_skip; simp only [List.getElem?_toArray, List.getElem?_cons_zero, List.getElem?_cons_succ]; rfl; rfl; simp only [Act.put, List.setIfInBounds_toArray, List.set_cons_zero, List.set_cons_succ])
        (apply wpT_skipE; simp only [List.getElem?_toArray, List.getElem?_cons_zero, List.getElem?_cons_succ]; rfl; rfl; rotate_left; simp only [Act.put, List.setIfInBounds_toArray, List.set_cons_zero, List.set_cons_succ]; rotate_left)
        · exact m01
        iterate 19 first | (apply wpT_pure'; simp only [List.getElem?_toArray, List.getElem?_cons_zero, List.getElem?_cons_succ]; rfl; rfl; apply Exists.intro; refine ⟨?_, ?_⟩; rintro w' ⟨s1, s2⟩; go_simp; with_reducible rfl; simp only [Act.put, List.setIfInBounds_toArray, List.set_cons_zero, List.set_cons_succ]) | (apply wpT_skip; simp only [List.getElem?_toArray, List.getElem?_cons_zero, List.getElem?_cons_succ]; rfl; rfl; simp only [Act.put, List.setIfInBounds_toArray, List.set_cons_zero, List.set_cons_succ])
        (apply wpT_skipE; simp only [List.getElem?_toArray, List.getElem?_cons_zero, List.getElem?_cons_succ]; rfl; rfl; rotate_left; simp only [Act.put, List.setIfInBounds_toArray, List.set_cons_zero, List.set_cons_succ]; rotate_left)
        · exact m01
        iterate 2 first | (apply wpT_pure'; simp only [List.getElem?_toArray, List.getElem?_cons_zero, List.getElem?_cons_succ]; rfl; rfl; apply Exists.intro; refine ⟨?_, ?_⟩; rintro w' ⟨s1, s2⟩; go_simp; with_reducible rfl; simp only [Act.put, List.setIfInBounds_toArray, List.set_cons_zero, List.set_cons_succ]) | (apply wpT_skip; simp only [List.getElem?_toArray, List.getElem?_cons_zero, List.getElem?_cons_succ]; rfl; rfl; simp only [Act.put, List.setIfInBounds_toArray, List.set_cons_zero, List.set_cons_succ])
        (apply wpT_last; simp only [List.getElem?_toArray, List.getElem?_cons_zero, List.getElem?_cons_succ]; rfl; rfl; go_simp)
        go_wp2_with fail
        go_ret
        exact ⟨by rw [vo_false Hf.out]; rfl, hF.trans (by repeat (first | exact Fr.refl _ _ | with_reducible assumption | with_reducible apply Fr.drewN | with_reducible apply Fr.drew | with_reducible apply Fr.alloc))⟩
      | true =>
        have Hx := Lib.hid hx
        cases hy : visB y with
        | false =>
          have Hf : Hid (voL none o = false) := HV.out.1 (by simp [visB] at hy; simp [vo1]; omega)
          have Hy := Lib.hid hy
          clear hx hy HV
          have m01 := newcells x y wr
          go_wp2_with fail
          refine wp_region_T (fun w' => w'.cell? ⟨wr.heap.size, 0, none⟩ = some (.int .i64 x) ∧ w'.cell? ⟨wr.heap.size, 1, none⟩ = some (.int .i64 y)) 30
            [(0, true), (1, true), (2, false), (3, true), (4, true), (5, true), (6, true), (7, false), (8, true), (9, true), (10, true), (11, true), (12, true), (13, true), (14, true), (15, true), (16, true), (17, true), (18, true), (19, true), (20, true), (21, true), (22, true), (23, true), (24, true), (25, true), (26, true), (27, false), (28, true), (29, true), (30, false)]
            (by kernel_rfl) (by kernel_rfl) (fun _ _ d _ _ h => by cases d <;> exact h) m01 ?_
          iterate 2 (apply wpT_pure'; simp only [List.getElem?_toArray, List.getElem?_cons_zero, List.getElem?_cons_succ]; rfl; rfl; apply Exists.intro; refine ⟨?_, ?_⟩; rintro w' ⟨s1, s2⟩; go_simp; with_reducible rfl; simp only [Act.put, List.setIfInBounds_toArray, List.set_cons_zero, List.set_cons_succ])
          (apply wpT_eff; simp only [List.getElem?_toArray, List.getElem?_cons_zero, List.getElem?_cons_succ]; rfl; rfl; intro K hK; go_simp)
          refine (visible_any _ _).mono ?_
          rw [Hx.out]; rintro e w' ⟨rfl, rfl⟩
          (refine hK.out _ _ ⟨m01.1, m01.2⟩ ?_; clear hK K; try simp only [Act.put, List.setIfInBounds_toArray, List.set_cons_zero, List.set_cons_succ])
          iterate 4 (apply wpT_pure'; simp only [List.getElem?_toArray, List.getElem?_cons_zero, List.getElem?_cons_succ]; rfl; rfl; apply Exists.intro; refine ⟨?_, ?_⟩; rintro w' ⟨s1, s2⟩; go_simp; with_reducible rfl; simp only [Act.put, List.setIfInBounds_toArray, List.set_cons_zero, List.set_cons_succ])
          (apply wpT_eff; simp only [List.getElem?_toArray, List.getElem?_cons_zero, List.getElem?_cons_succ]; rfl; rfl; intro K hK; go_simp)
          refine (visible_any _ _).mono ?_
          rw [Hy.out]; rintro e w' ⟨rfl, rfl⟩
          (refine hK.out _ _ ⟨m01.1, m01.2⟩ ?_; clear hK K; try simp only [Act.put, List.setIfInBounds_toArray, List.set_cons_zero, List.set_cons_succ])
          iterate 19 first | (apply wpT_pure'; simp only [List.getElem?_toArray, List.getElem?_cons_zero, List.getElem?_cons_succ]; rfl; rfl; apply Exists.intro; refine ⟨?_, ?_⟩; rintro w' ⟨s1, s2⟩; go_simp; with_reducible rfl; simp only [Act.put, List.setIfInBounds_toArray, List.set_cons_zero, List.set_cons_succ]) | (apply wpT_skip; simp only [List.getElem?_toArray, List.getElem?_cons_zero, List.getElem?_cons_succ]; rfl; rfl; simp only [Act.put, List.setIfInBounds_toArray, List.set_cons_zero, List.set_cons_succ])
          (apply wpT_skipE; simp only [List.getElem?_toArray, List.getElem?_cons_zero, List.getElem?_cons_succ]; rfl; rfl; rotate_left; simp only [Act.put, List.setIfInBounds_toArray, List.set_cons_zero, List.set_cons_succ]; rotate_left)
          · exact m01
          iterate 2 first | (apply wpT_pure'; simp only [List.getElem?_toArray, List.getElem?_cons_zero, List.getElem?_cons_succ]; rfl; rfl; apply Exists.intro; refine ⟨?_, ?_⟩; rintro w' ⟨s1, s2⟩; go_simp; with_reducible rfl; simp only [Act.put, List.setIfInBounds_toArray, List.set_cons_zero, List.set_cons_succ]) | (apply wpT_skip; simp only [List.getElem?_toArray, List.getElem?_cons_zero, List.getElem?_cons_succ]; rfl; rfl; simp only [Act.put, List.setIfInBounds_toArray, List.set_cons_zero, List.set_cons_succ])
          (apply wpT_last; simp only [List.getElem?_toArray, List.getElem?_cons_zero, List.getElem?_cons_succ]; rfl; rfl; go_simp)
          go_wp2_with fail
          go_ret
          exact ⟨by rw [vo_false Hf.out]; rfl, hF.trans (by repeat (first | exact Fr.refl _ _ | with_reducible assumption | with_reducible apply Fr.drewN | with_reducible apply Fr.drew | with_reducible apply Fr.alloc))⟩
        | true =>
          have Hy := Lib.hid hy
          by_cases hxy : x = y
          · have Hf : Hid (voL none o = false) := HV.out.1 (by simp [vo1, hxy])
            have hxy' : (x == y) = true := by simpa using hxy
            clear hx hy HV hxy
            have m01 := newcells x y wr
            go_wp2_with fail
            refine wp_region_T (fun w' => w'.cell? ⟨wr.heap.size, 0, none⟩ = some (.int .i64 x) ∧ w'.cell? ⟨wr.heap.size, 1, none⟩ = some (.int .i64 y)) 30
              [(0, true), (1, true), (2, false), (3, true), (4, true), (5, true), (6, true), (7, false), (8, true), (9, true), (10, true), (11, true), (12, true), (13, true), (14, true), (15, true), (16, true), (17, true), (18, true), (19, true), (20, true), (21, true), (22, true), (23, true), (24, true), (25, true), (26, true), (27, false), (28, true), (29, true), (30, false)]
              (by kernel_rfl) (by kernel_rfl) (fun _ _ d _ _ h => by cases d <;> exact h) m01 ?_
            iterate 2 (apply wpT_pure'; simp only [List.getElem?_toArray, List.getElem?_cons_zero, List.getElem?_cons_succ]; rfl; rfl; apply Exists.intro; refine ⟨?_, ?_⟩; rintro w' ⟨s1, s2⟩; go_simp; with_reducible rfl; simp only [Act.put, List.setIfInBounds_toArray, List.set_cons_zero, List.set_cons_succ])
            (apply wpT_eff; simp only [List.getElem?_toArray, List.getElem?_cons_zero, List.getElem?_cons_succ]; rfl; rfl; intro K hK; go_simp)
            refine (visible_any _ _).mono ?_
            rw [Hx.out]; rintro e w' ⟨rfl, rfl⟩
            (refine hK.out _ _ ⟨m01.1, m01.2⟩ ?_; clear hK K; try simp only [Act.put, List.setIfInBounds_toArray, List.set_cons_zero, List.set_cons_succ])
            iterate 4 (apply wpT_pure'; simp only [List.getElem?_toArray, List.getElem?_cons_zero, List.getElem?_cons_succ]; rfl; rfl; apply Exists.intro; refine ⟨?_, ?_⟩; rintro w' ⟨s1, s2⟩; go_simp; with_reducible rfl; simp only [Act.put, List.setIfInBounds_toArray, List.set_cons_zero, List.set_cons_succ])
            (apply wpT_eff; simp only [List.getElem?_toArray, List.getElem?_cons_zero, List.getElem?_cons_succ]; rfl; rfl; intro K hK; go_simp)
            refine (visible_any _ _).mono ?_
            rw [Hy.out]; rintro e w' ⟨rfl, rfl⟩
            (refine hK.out _ _ ⟨m01.1, m01.2⟩ ?_; clear hK K; try simp only [Act.put, List.setIfInBounds_toArray, List.set_cons_zero, List.set_cons_succ])
            iterate 19 first | (apply wpT_pure'; simp only [List.getElem?_toArray, List.getElem?_cons_zero, List.getElem?_cons_succ]; rfl; rfl; apply Exists.intro; refine ⟨?_, ?_⟩; rintro w' ⟨s1, s2⟩; go_simp; with_reducible rfl; simp only [Act.put, List.setIfInBounds_toArray, List.set_cons_zero, List.set_cons_succ]) | (apply wpT_skip; simp only [List.getElem?_toArray, List.getElem?_cons_zero, List.getElem?_cons_succ]; rfl; rfl; simp only [Act.put, List.setIfInBounds_toArray, List.set_cons_zero, List.set_cons_succ])
            (apply wpT_skipE; simp only [List.getElem?_toArray, List.getElem?_cons_zero, List.getElem?_cons_succ]; rfl; rfl; rotate_left; simp only [Act.put, List.setIfInBounds_toArray, List.set_cons_zero, List.set_cons_succ]; rotate_left)
            · exact m01
            iterate 2 first | (apply wpT_pure'; simp only [List.getElem?_toArray, List.getElem?_cons_zero, List.getElem?_cons_succ]; rfl; rfl; apply Exists.intro; refine ⟨?_, ?_⟩; rintro w' ⟨s1, s2⟩; go_simp; with_reducible rfl; simp only [Act.put, List.setIfInBounds_toArray, List.set_cons_zero, List.set_cons_succ]) | (apply wpT_skip; simp only [List.getElem?_toArray, List.getElem?_cons_zero, List.getElem?_cons_succ]; rfl; rfl; simp only [Act.put, List.setIfInBounds_toArray, List.set_cons_zero, List.set_cons_succ])
            (apply wpT_last; simp only [List.getElem?_toArray, List.getElem?_cons_zero, List.getElem?_cons_succ]; rfl; rfl; go_simp)
            go_wp2_with fail
            go_ret
            exact ⟨by rw [vo_false Hf.out]; rfl, hF.trans (by repeat (first | exact Fr.refl _ _ | with_reducible assumption | with_reducible apply Fr.drewN | with_reducible apply Fr.drew | with_reducible apply Fr.alloc))⟩
          · have hxy' : (x == y) = false := by simpa using hxy
            have Hv1 : Hid (vo1 (x, y) = true) := by unfold Hid; simp [visB] at hx hy; simp [vo1]; omega
            clear hx hy hxy
            have m01 := newcells x y wr
            by_cases hk0 : k = 0
            · subst hk0
              have HGOOD : Hid (voL none o = voL (some (x, y)) (o.drop (0 + 1))) := HV.out.2.2 Hv1.out (by simp)
              clear HV
              simp only [Nat.zero_mul, Nat.add_zero] at c1 c2
              go_wp2_with fail
              refine wp_region_T (fun w' => w'.cell? ⟨wr.heap.size, 0, none⟩ = some (.int .i64 x) ∧ w'.cell? ⟨wr.heap.size, 1, none⟩ = some (.int .i64 y)) 30
                [(0, true), (1, true), (2, false), (3, true), (4, true), (5, true), (6, true), (7, false), (8, true), (9, true), (10, true), (11, true), (12, true), (13, true), (14, true), (15, true), (16, true), (17, true), (18, true), (19, true), (20, true), (21, true), (22, true), (23, true), (24, true), (25, true), (26, true), (27, false), (28, true), (29, true), (30, false)]
                (by kernel_rfl) (by kernel_rfl) (fun _ _ d _ _ h => by cases d <;> exact h) m01 ?_
              iterate 2 (apply wpT_pure'; simp only [List.getElem?_toArray, List.getElem?_cons_zero, List.getElem?_cons_succ]; rfl; rfl; apply Exists.intro; refine ⟨?_, ?_⟩; rintro w' ⟨s1, s2⟩; go_simp; with_reducible rfl; simp only [Act.put, List.setIfInBounds_toArray, List.set_cons_zero, List.set_cons_succ])
              (apply wpT_eff; simp only [List.getElem?_toArray, List.getElem?_cons_zero, List.getElem?_cons_succ]; rfl; rfl; intro K hK; go_simp)
              refine (visible_any _ _).mono ?_
              rw [Hx.out]; rintro e w' ⟨rfl, rfl⟩
              (refine hK.out _ _ ⟨m01.1, m01.2⟩ ?_; clear hK K; try simp only [Act.put, List.setIfInBounds_toArray, List.set_cons_zero, List.set_cons_succ])
              iterate 4 (apply wpT_pure'; simp only [List.getElem?_toArray, List.getElem?_cons_zero, List.getElem?_cons_succ]; rfl; rfl; apply Exists.intro; refine ⟨?_, ?_⟩; rintro w' ⟨s1, s2⟩; go_simp; with_reducible rfl; simp only [Act.put, List.setIfInBounds_toArray, List.set_cons_zero, List.set_cons_succ])
              (apply wpT_eff; simp only [List.getElem?_toArray, List.getElem?_cons_zero, List.getElem?_cons_succ]; rfl; rfl; intro K hK; go_simp)
              refine (visible_any _ _).mono ?_
              rw [Hy.out]; rintro e w' ⟨rfl, rfl⟩
              (refine hK.out _ _ ⟨m01.1, m01.2⟩ ?_; clear hK K; try simp only [Act.put, List.setIfInBounds_toArray, List.set_cons_zero, List.set_cons_succ])
              iterate 19 first | (apply wpT_pure'; simp only [List.getElem?_toArray, List.getElem?_cons_zero, List.getElem?_cons_succ]; rfl; rfl; apply Exists.intro; refine ⟨?_, ?_⟩; rintro w' ⟨s1, s2⟩; go_simp; with_reducible rfl; simp only [Act.put, List.setIfInBounds_toArray, List.set_cons_zero, List.set_cons_succ]) | (apply wpT_skip; simp only [List.getElem?_toArray, List.getElem?_cons_zero, List.getElem?_cons_succ]; rfl; rfl; simp only [Act.put, List.setIfInBounds_toArray, List.set_cons_zero, List.set_cons_succ])
              (apply wpT_skipE; simp only [List.getElem?_toArray, List.getElem?_cons_zero, List.getElem?_cons_succ]; rfl; rfl; rotate_left; simp only [Act.put, List.setIfInBounds_toArray, List.set_cons_zero, List.set_cons_succ]; rotate_left)
              · exact m01
              iterate 2 first | (apply wpT_pure'; simp only [List.getElem?_toArray, List.getElem?_cons_zero, List.getElem?_cons_succ]; rfl; rfl; apply Exists.intro; refine ⟨?_, ?_⟩; rintro w' ⟨s1, s2⟩; go_simp; with_reducible rfl; simp only [Act.put, List.setIfInBounds_toArray, List.set_cons_zero, List.set_cons_succ]) | (apply wpT_skip; simp only [List.getElem?_toArray, List.getElem?_cons_zero, List.getElem?_cons_succ]; rfl; rfl; simp only [Act.put, List.setIfInBounds_toArray, List.set_cons_zero, List.set_cons_succ])
              (apply wpT_last; simp only [List.getElem?_toArray, List.getElem?_cons_zero, List.getElem?_cons_succ]; rfl; rfl; go_simp)
              go_wp2_with fail
              go_roundw
              case rel => exact ⟨0 + 1, by omega, by go_num, hF.trans (by repeat (first | exact Fr.refl _ _ | with_reducible assumption | with_reducible apply Fr.drewN | with_reducible apply Fr.drew | with_reducible apply Fr.alloc)), by unfold Hid; rw [HGOOD.out, HNX.out]⟩
              case measure => simp [intOf]; omega
            · obtain ⟨k', rfl⟩ : ∃ k', k = k' + 1 := ⟨k - 1, by omega⟩
              obtain ⟨b', off', u, v, hA', _, hb', hx', _, e1, e2⟩ := hr1.getp (i := k') (by omega)
              injection hA' with hA'; injection hA' with q1 q2; subst q1; subst q2
              have hgt : (((k' + 1 : Nat) : Int) > 0) := by omega
              have hsub : ((k' + 1 : Nat) : Int) - 1 = (k' : Int) := by omega
              have hlt2 : (k' : Int) < (n : Int) := by omega
              have hwk : IntKind.i64.wrap (k' : Int) = (k' : Int) := IntWalk.i64_in _ (by omega)
              cases hls : lessB (u, v) (x, y) with
              | false =>
                have Hf : Hid (voL none o = false) := HV.out.2.1 (u, v) (by simp [hx']) hls
                have hc : cmpA (u, v) (x, y) ≥ 0 := (cmpA_ge _ _).2 hls
                clear hls HV hx'
                generalize hcc : cmpA (u, v) (x, y) = cc at hc
                have l0 : wr.heap.size < (wr.alloc (.cells #[.int .i64 x, .int .i64 y] 52)).heap.size := by simp
                have f1 := ((Fr.refl [] wr).alloc (.cells #[.int .i64 x, .int .i64 y] 52))
                have p1 := (f1.cell (p := ⟨b, off + k' * 2, none⟩) hb' (by simp)).trans e1
                have p2 := (f1.cell (p := ⟨b, off + k' * 2 + 1, none⟩) hb' (by simp)).trans e2
                have m02 : _ ∧ _ ∧ _ ∧ _ := ⟨m01.1, m01.2, p1, p2⟩
                go_wp2_with fail
                refine wp_region_T (fun w' => w'.cell? ⟨wr.heap.size, 0, none⟩ = some (.int .i64 x) ∧ w'.cell? ⟨wr.heap.size, 1, none⟩ = some (.int .i64 y) ∧ w'.cell? ⟨b, off + k' * 2, none⟩ = some (.int .i64 u) ∧ w'.cell? ⟨b, off + k' * 2 + 1, none⟩ = some (.int .i64 v)) 30
                  [(0, true), (1, true), (2, false), (3, true), (4, true), (5, true), (6, true), (7, false), (8, true), (9, true), (10, true), (11, true), (12, true), (13, true), (14, true), (15, true), (16, true), (17, true), (18, true), (19, true), (20, true), (21, true), (22, true), (23, true), (24, true), (25, true), (26, true), (27, false), (28, true), (29, true), (30, false)]
                  (by kernel_rfl) (by kernel_rfl) (fun _ _ d _ _ h => by cases d <;> exact h) m02 ?_
                iterate 2 (apply wpT_pure'; simp only [List.getElem?_toArray, List.getElem?_cons_zero, List.getElem?_cons_succ]; rfl; rfl; apply Exists.intro; refine ⟨?_, ?_⟩; rintro w' ⟨s1, s2, s3, s4⟩; go_simp; with_reducible rfl; simp only [Act.put, List.setIfInBounds_toArray, List.set_cons_zero, List.set_cons_succ])
                (apply wpT_eff; simp only [List.getElem?_toArray, List.getElem?_cons_zero, List.getElem?_cons_succ]; rfl; rfl; intro K hK; go_simp)
                refine (visible_any _ _).mono ?_
                rw [Hx.out]; rintro e w' ⟨rfl, rfl⟩
                (refine hK.out _ _ ⟨m01.1, m01.2, p1, p2⟩ ?_; clear hK K; try simp only [Act.put, List.setIfInBounds_toArray, List.set_cons_zero, List.set_cons_succ])
                iterate 4 (apply wpT_pure'; simp only [List.getElem?_toArray, List.getElem?_cons_zero, List.getElem?_cons_succ]; rfl; rfl; apply Exists.intro; refine ⟨?_, ?_⟩; rintro w' ⟨s1, s2, s3, s4⟩; go_simp; with_reducible rfl; simp only [Act.put, List.setIfInBounds_toArray, List.set_cons_zero, List.set_cons_succ])
                (apply wpT_eff; simp only [List.getElem?_toArray, List.getElem?_cons_zero, List.getElem?_cons_succ]; rfl; rfl; intro K hK; go_simp)
                refine (visible_any _ _).mono ?_
                rw [Hy.out]; rintro e w' ⟨rfl, rfl⟩
                (refine hK.out _ _ ⟨m01.1, m01.2, p1, p2⟩ ?_; clear hK K; try simp only [Act.put, List.setIfInBounds_toArray, List.set_cons_zero, List.set_cons_succ])
                iterate 13 first | (apply wpT_pure'; simp only [List.getElem?_toArray, List.getElem?_cons_zero, List.getElem?_cons_succ]; rfl; rfl; apply Exists.intro; refine ⟨?_, ?_⟩; rintro w' ⟨s1, s2, s3, s4⟩; go_simp; with_reducible rfl; simp only [Act.put, List.setIfInBounds_toArray, List.set_cons_zero, List.set_cons_succ]) | (apply wpT_skip; simp only [List.getElem?_toArray, List.getElem?_cons_zero, List.getElem?_cons_succ]; rfl; rfl; simp only [Act.put, List.setIfInBounds_toArray, List.set_cons_zero, List.set_cons_succ])
                iterate 6 (apply wpT_pure'; simp only [List.getElem?_toArray, List.getElem?_cons_zero, List.getElem?_cons_succ]; rfl; rfl; apply Exists.intro; refine ⟨?_, ?_⟩; rintro w' ⟨s1, s2, s3, s4⟩; go_simp; with_reducible rfl; simp only [Act.put, List.setIfInBounds_toArray, List.set_cons_zero, List.set_cons_succ])
                (apply wpT_eff; simp only [List.getElem?_toArray, List.getElem?_cons_zero, List.getElem?_cons_succ]; rfl; rfl; intro K hK; go_simp)
                refine (pcompare_any _ _ _ _ _).mono ?_
                rw [hcc]; rintro e w4 ⟨rfl, hf4⟩
                have hf5 : Fr [] (wr.alloc (.cells #[.int .i64 x, .int .i64 y] 52)) w4 := Fr.trans (by repeat (first | exact Fr.refl _ _ | with_reducible assumption | with_reducible apply Fr.drewN | with_reducible apply Fr.drew | with_reducible apply Fr.alloc)) hf4
                (refine hK.out _ _ ⟨(hf5.cell (p := ⟨wr.heap.size, 0, none⟩) l0 (by simp)).trans m01.1, (hf5.cell (p := ⟨wr.heap.size, 1, none⟩) l0 (by simp)).trans m01.2, (hf5.cell (p := ⟨b, off + k' * 2, none⟩) (Nat.lt_trans hb' l0) (by simp)).trans p1, (hf5.cell (p := ⟨b, off + k' * 2 + 1, none⟩) (Nat.lt_trans hb' l0) (by simp)).trans p2⟩ ?_; clear hK K; try simp only [Act.put, List.setIfInBounds_toArray, List.set_cons_zero, List.set_cons_succ])
                iterate 2 first | (apply wpT_pure'; simp only [List.getElem?_toArray, List.getElem?_cons_zero, List.getElem?_cons_succ]; rfl; rfl; apply Exists.intro; refine ⟨?_, ?_⟩; rintro w' ⟨s1, s2, s3, s4⟩; go_simp; with_reducible rfl; simp only [Act.put, List.setIfInBounds_toArray, List.set_cons_zero, List.set_cons_succ]) | (apply wpT_skip; simp only [List.getElem?_toArray, List.getElem?_cons_zero, List.getElem?_cons_succ]; rfl; rfl; simp only [Act.put, List.setIfInBounds_toArray, List.set_cons_zero, List.set_cons_succ])
                (apply wpT_last; simp only [List.getElem?_toArray, List.getElem?_cons_zero, List.getElem?_cons_succ]; rfl; rfl; go_simp)
                go_wp2_with fail
                go_ret
                exact ⟨by rw [vo_false Hf.out]; rfl, hF.trans (f1.trans (by repeat (first | exact Fr.refl _ _ | with_reducible assumption | with_reducible apply Fr.drewN | with_reducible apply Fr.drew | with_reducible apply Fr.alloc)))⟩
              | true =>
                have HGOOD : Hid (voL none o = voL (some (x, y)) (o.drop (k' + 1 + 1))) := HV.out.2.2 Hv1.out (by intro z hz; simp [hx'] at hz; subst hz; exact hls)
                have hc : ¬ cmpA (u, v) (x, y) ≥ 0 := by intro h; have := (cmpA_ge _ _).1 h; rw [hls] at this; cases this
                clear hls HV hx'
                generalize hcc : cmpA (u, v) (x, y) = cc at hc
                have l0 : wr.heap.size < (wr.alloc (.cells #[.int .i64 x, .int .i64 y] 52)).heap.size := by simp
                have f1 := ((Fr.refl [] wr).alloc (.cells #[.int .i64 x, .int .i64 y] 52))
                have p1 := (f1.cell (p := ⟨b, off + k' * 2, none⟩) hb' (by simp)).trans e1
                have p2 := (f1.cell (p := ⟨b, off + k' * 2 + 1, none⟩) hb' (by simp)).trans e2
                have m02 : _ ∧ _ ∧ _ ∧ _ := ⟨m01.1, m01.2, p1, p2⟩
                go_wp2_with fail
                refine wp_region_T (fun w' => w'.cell? ⟨wr.heap.size, 0, none⟩ = some (.int .i64 x) ∧ w'.cell? ⟨wr.heap.size, 1, none⟩ = some (.int .i64 y) ∧ w'.cell? ⟨b, off + k' * 2, none⟩ = some (.int .i64 u) ∧ w'.cell? ⟨b, off + k' * 2 + 1, none⟩ = some (.int .i64 v)) 30
                  [(0, true), (1, true), (2, false), (3, true), (4, true), (5, true), (6, true), (7, false), (8, true), (9, true), (10, true), (11, true), (12, true), (13, true), (14, true), (15, true), (16, true), (17, true), (18, true), (19, true), (20, true), (21, true), (22, true), (23, true), (24, true), (25, true), (26, true), (27, false), (28, true), (29, true), (30, false)]
                  (by kernel_rfl) (by kernel_rfl) (fun _ _ d _ _ h => by cases d <;> exact h) m02 ?_
                iterate 2 (apply wpT_pure'; simp only [List.getElem?_toArray, List.getElem?_cons_zero, List.getElem?_cons_succ]; rfl; rfl; apply Exists.intro; refine ⟨?_, ?_⟩; rintro w' ⟨s1, s2, s3, s4⟩; go_simp; with_reducible rfl; simp only [Act.put, List.setIfInBounds_toArray, List.set_cons_zero, List.set_cons_succ])
                (apply wpT_eff; simp only [List.getElem?_toArray, List.getElem?_cons_zero, List.getElem?_cons_succ]; rfl; rfl; intro K hK; go_simp)
                refine (visible_any _ _).mono ?_
                rw [Hx.out]; rintro e w' ⟨rfl, rfl⟩
                (refine hK.out _ _ ⟨m01.1, m01.2, p1, p2⟩ ?_; clear hK K; try simp only [Act.put, List.setIfInBounds_toArray, List.set_cons_zero, List.set_cons_succ])
                iterate 4 (apply wpT_pure'; simp only [List.getElem?_toArray, List.getElem?_cons_zero, List.getElem?_cons_succ]; rfl; rfl; apply Exists.intro; refine ⟨?_, ?_⟩; rintro w' ⟨s1, s2, s3, s4⟩; go_simp; with_reducible rfl; simp only [Act.put, List.setIfInBounds_toArray, List.set_cons_zero, List.set_cons_succ])
                (apply wpT_eff; simp only [List.getElem?_toArray, List.getElem?_cons_zero, List.getElem?_cons_succ]; rfl; rfl; intro K hK; go_simp)
                refine (visible_any _ _).mono ?_
                rw [Hy.out]; rintro e w' ⟨rfl, rfl⟩
                (refine hK.out _ _ ⟨m01.1, m01.2, p1, p2⟩ ?_; clear hK K; try simp only [Act.put, List.setIfInBounds_toArray, List.set_cons_zero, List.set_cons_succ])
                iterate 13 first | (apply wpT_pure'; simp only [List.getElem?_toArray, List.getElem?_cons_zero, List.getElem?_cons_succ]; rfl; rfl; apply Exists.intro; refine ⟨?_, ?_⟩; rintro w' ⟨s1, s2, s3, s4⟩; go_simp; with_reducible rfl; simp only [Act.put, List.setIfInBounds_toArray, List.set_cons_zero, List.set_cons_succ]) | (apply wpT_skip; simp only [List.getElem?_toArray, List.getElem?_cons_zero, List.getElem?_cons_succ]; rfl; rfl; simp only [Act.put, List.setIfInBounds_toArray, List.set_cons_zero, List.set_cons_succ])
                iterate 6 (apply wpT_pure'; simp only [List.getElem?_toArray, List.getElem?_cons_zero, List.getElem?_cons_succ]; rfl; rfl; apply Exists.intro; refine ⟨?_, ?_⟩; rintro w' ⟨s1, s2, s3, s4⟩; go_simp; with_reducible rfl; simp only [Act.put, List.setIfInBounds_toArray, List.set_cons_zero, List.set_cons_succ])
                (apply wpT_eff; simp only [List.getElem?_toArray, List.getElem?_cons_zero, List.getElem?_cons_succ]; rfl; rfl; intro K hK; go_simp)
                refine (pcompare_any _ _ _ _ _).mono ?_
                rw [hcc]; rintro e w4 ⟨rfl, hf4⟩
                have hf5 : Fr [] (wr.alloc (.cells #[.int .i64 x, .int .i64 y] 52)) w4 := Fr.trans (by repeat (first | exact Fr.refl _ _ | with_reducible assumption | with_reducible apply Fr.drewN | with_reducible apply Fr.drew | with_reducible apply Fr.alloc)) hf4
                (refine hK.out _ _ ⟨(hf5.cell (p := ⟨wr.heap.size, 0, none⟩) l0 (by simp)).trans m01.1, (hf5.cell (p := ⟨wr.heap.size, 1, none⟩) l0 (by simp)).trans m01.2, (hf5.cell (p := ⟨b, off + k' * 2, none⟩) (Nat.lt_trans hb' l0) (by simp)).trans p1, (hf5.cell (p := ⟨b, off + k' * 2 + 1, none⟩) (Nat.lt_trans hb' l0) (by simp)).trans p2⟩ ?_; clear hK K; try simp only [Act.put, List.setIfInBounds_toArray, List.set_cons_zero, List.set_cons_succ])
                iterate 2 first | (apply wpT_pure'; simp only [List.getElem?_toArray, List.getElem?_cons_zero, List.getElem?_cons_succ]; rfl; rfl; apply Exists.intro; refine ⟨?_, ?_⟩; rintro w' ⟨s1, s2, s3, s4⟩; go_simp; with_reducible rfl; simp only [Act.put, List.setIfInBounds_toArray, List.set_cons_zero, List.set_cons_succ]) | (apply wpT_skip; simp only [List.getElem?_toArray, List.getElem?_cons_zero, List.getElem?_cons_succ]; rfl; rfl; simp only [Act.put, List.setIfInBounds_toArray, List.set_cons_zero, List.set_cons_succ])
                (apply wpT_last; simp only [List.getElem?_toArray, List.getElem?_cons_zero, List.getElem?_cons_succ]; rfl; rfl; go_simp)
                go_wp2_with fail
                go_roundw
                case rel => exact ⟨k' + 1 + 1, by omega, by go_num, hF.trans (f1.trans (by repeat (first | exact Fr.refl _ _ | with_reducible assumption | with_reducible apply Fr.drewN | with_reducible apply Fr.drew | with_reducible apply Fr.alloc))), by unfold Hid; rw [HGOOD.out, HNX.out]⟩
                case measure => simp [intOf]; omega
    · have hge : decide ((k : Int) < (n : Int)) = false := by simp; omega
      have hvl : voL none o = true := by rw [hI.out, List.drop_eq_nil_of_le (by rw [hr.n_eq]; omega)]; simp [voL]
      have hvo : validOrdB o = voR o o := by rw [vo_law, hvl]; rfl
      obtain ⟨hs, h2, _⟩ := voL_sorted hvl
      have HVO := Lib.hid hvo
      have HS := Lib.hid hs
      have H2 := Lib.hid h2
      clear hvl hvo hs h2 hI
      go_wp2_with fail
      go_loopw [50] (fun i wr => ∃ k : Nat, k ≤ n ∧ i = .int .i64 k ∧ Fr [] w wr ∧ Hid (voR o o = voR o (o.drop k))) (fun i _ => n - (intOf i).toNat)
      case atStart => exact ⟨0, by omega, rfl, hF.trans (by repeat (first | exact Fr.refl _ _ | with_reducible assumption | with_reducible apply Fr.drewN | with_reducible apply Fr.drew | with_reducible apply Fr.alloc)), by simp [Hid]⟩
      case round =>
        clear hF hge hlt hk
        obtain ⟨k, hk, rfl, hF, hI⟩ := hrel
        by_cases hlt : k < n
        · have hlt' : (k : Int) < (n : Int) := by omega
          obtain ⟨b, off, x, y, rfl, _, hb, hx, hd, c1, c2⟩ := (hr.keep hF).getp hlt
          have HST := Lib.hid (all_drop _ hI.out hd)
          have hr1 := (hr.keep hF)
          clear hd hI
          have m01 := newcells x y wr
          have f1 := ((Fr.refl [] wr).alloc (.cells #[.int .i64 x, .int .i64 y] 52))
          have l0 : wr.heap.size < (wr.alloc (.cells #[.int .i64 x, .int .i64 y] 52)).heap.size := by simp
          go_wp2_with ((go_at_call 42; refine (pabove_any [] _ n c o y _ (hr1.keep f1) hn HS.out H2.out).mono ?_; rintro e w3 ⟨A3, n3, c3, rfl, hL3, hf3⟩))
          have hn3 : n3 ≤ 1000 := by rw [← hL3.n_eq]; exact Nat.le_trans (List.length_filter_le _ _) (by rw [hr.n_eq]; exact hn)
          have g1 := (hf3.cell (p := ⟨wr.heap.size, 0, none⟩) l0 (by simp)).trans m01.1
          have l3 := hf3.size
          go_wp2_with fail
          obtain ⟨wo, rfl⟩ : ∃ wo : World, wo = wr := ⟨_, rfl⟩
          go_loopw [59] (fun i wr => ∃ j : Nat, j ≤ n3 ∧ i = .int .i64 j ∧ Fr [] w3 wr ∧ Hid (((abvL o y).all fun z => abvB o x z.2) = ((abvL o y).drop j).all fun z => abvB o x z.2)) (fun i _ => n3 - (intOf i).toNat)
          case atStart => exact ⟨0, by omega, rfl, Fr.refl _ _, by simp [Hid]⟩
          case round =>
            obtain ⟨j, hj, rfl, hG, hJ⟩ := hrel
            by_cases hlj : j < n3
            · have hlj' : (j : Int) < (n3 : Int) := by omega
              obtain ⟨b3, off3, u, v, rfl, _, hb3, _, hd3, e1, e2⟩ := (hL3.keep hG).getp hlj
              have HST2 := Lib.hid (all_drop _ hJ.out hd3)
              have k1 := (hG.cell (p := ⟨wo.heap.size, 0, none⟩) (by show wo.heap.size < _; omega) (by simp)).trans g1
              have l4 : wo.heap.size < wr.heap.size := by have := hG.size; omega
              have m11 := newcells u v wr
              have f2 := ((Fr.refl [] wr).alloc (.cells #[.int .i64 u, .int .i64 v] 52))
              have hr2 := ((hr1.keep f1).keep hf3).keep (hG.trans f2)
              clear hd3 hJ
              cases hab : abvB o x v with
              | true =>
                have Hn := Lib.hid (HST2.out.1 hab)
                have Hab := Lib.hid hab
                clear hab HST2
                go_wp2_with ((go_at_call 43; refine (contains_any _ n c o x v _ hr2 hn HS.out).mono ?_; rw [Hab.out]; rintro e w5 ⟨rfl, hf5⟩))
                go_roundw
                case rel => exact ⟨j + 1, by omega, by go_num, hG.trans (f2.trans hf5), Hn⟩
                case measure => simp [intOf]; omega
              | false =>
                have Hn := Lib.hid (HST2.out.2 hab)
                have Hf : Hid (validOrdB o = false) := by unfold Hid; rw [HVO.out]; exact HST.out.2 Hn.out
                have Hab := Lib.hid hab
                clear hab HST2 HST Hn
                go_wp2_with ((go_at_call 43; refine (contains_any _ n c o x v _ hr2 hn HS.out).mono ?_; rw [Hab.out]; rintro e w5 ⟨rfl, hf5⟩))
                go_ret
                exact ⟨by rw [Hf.out]; rfl, hF.trans (f1.trans (hf3.trans (hG.trans (f2.trans hf5))))⟩
            · have hge : decide ((j : Int) < (n3 : Int)) = false := by simp; omega
              have Hn := Lib.hid (HST.out.1 (all_end _ hJ.out (by rw [hL3.n_eq]; omega)))
              clear HST
              go_wp2_with fail
              go_roundw
              case rel => exact ⟨k + 1, by omega, by go_num, hF.trans (f1.trans (hf3.trans hG)), Hn⟩
              case measure => simp [intOf]; omega
        · have hge : decide ((k : Int) < (n : Int)) = false := by simp; omega
          have Hf : Hid (validOrdB o = true) := by unfold Hid; rw [HVO.out, hI.out, List.drop_eq_nil_of_le (by rw [hr.n_eq]; omega)]; rfl
          go_wp2_with fail
          go_ret
          exact ⟨by rw [Hf.out]; rfl, hF⟩
end Go.Proofs.Ytfkpjnmngafnmaa
