/- The reference's Prioritise on whatever input. -/
import Derived.Test.YtfkpjnmngafnmaaPrio1
import Derived.Test.YtfkpjnmngafnmaaPri2
namespace Go.Proofs.Ytfkpjnmngafnmaa
set_option linter.unusedVariables false
set_option linter.unusedSimpArgs false
open Go.RowKit

set_option maxRecDepth 100000 in
set_option maxHeartbeats 4000000 in
theorem refPrio_bad (A B : Option Addr) (n c p d : Nat) (rows : List (List Arc)) (o : List Arc) (w : World) (hr : Ll cp 2 [] w A n c rows) (hs : Small rows) (ho : Pairs [] w B p d o) (hp : p ≤ 1000)
    (hv : (validB rows && validOrdB o) = false) :
    Calls Try.prog 21 #[.agg #[.slice A n c], .slice B p d] w fun e w' => e = .returned (.tuple #[.agg #[.slice none 0 0], .int .i64 1]) ∧ Fr [] w w' := by
  obtain ⟨W0, hW0⟩ : ∃ W0, W0 = (w.alloc (.cells #[.slice A n c] 25)).alloc (.cells #[.slice none 0 0] 25) := ⟨_, rfl⟩
  have b2 : Blk W0 (w.heap.size + 1) 25 [.slice none 0 0] := by
    have := Blk.new (w.alloc (.cells #[.slice A n c] 25)) 25 [.slice none 0 0]
    rw [hW0]; simpa using this
  have hF0 : Fr [] w W0 := by rw [hW0]; exact ((Fr.refl _ _).alloc _).alloc _
  have hoW := ho.keep hF0
  cases hvr : validB rows with
  | false =>
    have HV := Lib.hid hvr
    clear hv hvr
    go_enter Try.func21, Try.ntmps21
    go_wp2_with ((go_at_call 35; refine (valid_any A n c rows _ (hr.keep (by repeat (first | exact Fr.refl _ _ | with_reducible assumption | with_reducible apply Fr.drewN | with_reducible apply Fr.drew | with_reducible apply Fr.alloc))) hs).mono ?_; rw [HV.out]; rintro e w1 ⟨rfl, hf1⟩; rw [← hW0] at hf1; have z0 := b2.fr hf1 (by simp); have z1 := z0.cellS (i := 0) rfl; have z2 := z0.frozen 0; have z3 := z0.lt))
    refine bodyPost_ret (v := .tuple #[.agg #[.slice none 0 0], .int .i64 1]) (by simp [results, Try.results21, go_sem, z1, z2, z3]) rfl ?_
    exact ⟨rfl, (hF0.trans hf1).setCell (.inr (by show w.heap.size ≤ w.heap.size + 1; omega)) _⟩
  | true =>
    rw [hvr, Bool.true_and] at hv
    have HV := Lib.hid hvr
    have HVO := Lib.hid hv
    clear hv hvr
    go_enter Try.func21, Try.ntmps21
    go_wp2_with (first
      | (go_at_call 35; refine (valid_any A n c rows _ (hr.keep (by repeat (first | exact Fr.refl _ _ | with_reducible assumption | with_reducible apply Fr.drewN | with_reducible apply Fr.drew | with_reducible apply Fr.alloc))) hs).mono ?_; rw [HV.out]; rintro e w1 ⟨rfl, hf1⟩; rw [← hW0] at hf1)
      | (go_at_call 36; refine (validOrder_any B p d o _ (hoW.keep hf1) hp).mono ?_; rw [HVO.out]; rintro e w2 ⟨rfl, hf2⟩; have z0 := b2.fr (hf1.trans hf2) (by simp); have z1 := z0.cellS (i := 0) rfl; have z2 := z0.frozen 0; have z3 := z0.lt))
    refine bodyPost_ret (v := .tuple #[.agg #[.slice none 0 0], .int .i64 1]) (by simp [results, Try.results21, go_sem, z1, z2, z3]) rfl ?_
    exact ⟨rfl, ((hF0.trans hf1).trans hf2).setCell (.inr (by show w.heap.size ≤ w.heap.size + 1; omega)) _⟩
theorem refPrio_all (A B : Option Addr) (n c p d : Nat) (rows : List (List Arc)) (o : List Arc) (w : World) (hr : Ll cp 2 [] w A n c rows) (hs : Small rows) (ho : Pairs [] w B p d o) (hp : p ≤ 1000) :
    Calls Try.prog 21 #[.agg #[.slice A n c], .slice B p d] w fun e w' => ∃ A' n' c', e = .returned (.tuple #[.agg #[.slice A' n' c'], .int .i64 (prioE rows o)]) ∧ Ll cp 2 [] w' A' n' c' (prioA rows o) ∧ Fr [] w w' := by
  unfold prioA prioE
  cases hv : validB rows && validOrdB o with
  | false =>
    refine (refPrio_bad A B n c p d rows o w hr hs ho hp hv).mono ?_
    rintro e w' ⟨rfl, hf⟩
    exact ⟨none, 0, 0, rfl, Ll.nil _ _ _ _, hf⟩
  | true =>
    simp only [Bool.and_eq_true] at hv
    exact refPrio_any A B n c p d rows o w hr hs ho hp hv.1 hv.2

/-- the rows of the canonical form are no longer than those that came in -/
theorem canGo_bound (rows : List (List Arc)) (L : Nat) (hL : ∀ r ∈ rows, r.length ≤ L) : ∀ (f i : Nat) (num old : List Int) (out : List (List Arc)), (∀ r ∈ out, r.length ≤ L) → ((canGo rows f i num old out).1.length ≤ out.length + f) ∧ ∀ r ∈ (canGo rows f i num old out).1, r.length ≤ L
  | 0, i, num, old, out, ho => ⟨by simp [canGo], ho⟩
  | f + 1, i, num, old, out, ho => by
    unfold canGo
    split
    · exact ⟨by simp, ho⟩
    · rename_i s hs
      have hrow : (rowGo (rowOf (rows.getD s.toNat [])) num old []).2.2.length ≤ L := by
        have hg : ∀ (r : List Arc) (num old : List Int) (nxt : List Arc), (rowGo r num old nxt).2.2.length ≤ nxt.length + r.length := by
          intro r
          induction r with
          | nil => intro num old nxt; simp [rowGo]
          | cons a tl ih =>
            intro num old nxt
            simp only [rowGo, List.length_cons]
            have := ih (numOne num old a.2).1 (numOne num old a.2).2 (ins (a.1, (numOne num old a.2).1.getD a.2.toNat 0) nxt)
            have := ins_len (a.1, (numOne num old a.2).1.getD a.2.toNat 0) nxt
            omega
        have h1 := hg (rowOf (rows.getD s.toNat [])) num old []
        have h2 := len_rowOf (rows.getD s.toNat [])
        have h3 : (rows.getD s.toNat []).length ≤ L := by
          by_cases h : s.toNat < rows.length
          · simp only [List.getD, List.getElem?_eq_getElem h, Option.getD_some]
            exact hL _ (List.getElem_mem h)
          · simp [List.getD, List.getElem?_eq_none (Nat.le_of_not_lt h)]
        rw [List.length_nil] at h1
        omega
      have ih := canGo_bound rows L hL f (i + 1) (rowGo (rowOf (rows.getD s.toNat [])) num old []).1 (rowGo (rowOf (rows.getD s.toNat [])) num old []).2.1 (out ++ [(rowGo (rowOf (rows.getD s.toNat [])) num old []).2.2]) (by
        intro r hr
        rcases List.mem_append.1 hr with hr | hr
        · exact ho r hr
        · simp at hr; subst hr; exact hrow)
      refine ⟨?_, ih.2⟩
      have := ih.1
      rw [List.length_append, List.length_singleton] at this
      omega
theorem prioA_bound {rows : List (List Arc)} {o : List Arc} (hs : Small rows) : (prioA rows o).length ≤ 10000 ∧ ∀ r ∈ prioA rows o, r.length ≤ 200000 := by
  unfold prioA
  split
  · have h2 := prio_small (o := o) hs
    have := canGo_bound (prioR o rows) 200000 (fun r hr => h2.row hr) (prioR o rows).length 0 ((List.replicate (prioR o rows).length (-1)).set 0 0) [0] [] (by simp)
    refine ⟨?_, this.2⟩
    have h3 := this.1
    have h4 := h2.n
    rw [List.length_nil] at h3
    unfold canonR
    omega
  · simp
end Go.Proofs.Ytfkpjnmngafnmaa
