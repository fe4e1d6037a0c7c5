/- Slices of a tree with both bounds. -/
import Derived.Test.YthlckclbjknldaaGreatME
namespace Go.Proofs.YthlckclbjknldaaGreat
set_option linter.unusedVariables false
set_option linter.unusedSimpArgs false
open Go.RowKit

theorem stp_cut2 {P : Program} {o : Oper} {st : ST} {K : ST → Prop} {t : TypeId} {x l u : Operand} {k i j : Nat} {cs : List Tr} {kk kk' : IntKind} (hd : dok o st.n = true) (ho : o.op = .slice t x (some l) (some u) none) (hz : elSize P t = some k) (hx : st.ev x = .a (.c (.t k cs))) (hl : st.ev l = .a (.c (.v (.int kk (i : Int))))) (hu : st.ev u = .a (.c (.v (.int kk' (j : Int)))))
    (hk : 0 < k) (hij : i ≤ j) (hj : j * k ≤ cs.length) (h : K (st.put o.dst (.a (.c (.t k ((cs.drop (i * k)).take ((j - i) * k))))))) : Stp P o st K := by
  intro M0 w0 a w N Q hR hN
  obtain ⟨g, ⟨hp1, hp2⟩, hR⟩ := hR
  have e1 := hR.ev x
  have e2 := hR.ev l
  have e3 := hR.ev u
  rw [hx] at e1
  rw [hl] at e2
  rw [hu] at e3
  have e2 : a.eval l = .int kk (i : Int) := e2
  have e3 : a.eval u = .int kk' (j : Int) := e3
  obtain ⟨A, n, cp, f1, f2, f3⟩ := Rd.form (show Rd _ _ _ _ from e1)
  have hjn : j ≤ n := Nat.le_of_mul_le_mul_right (by rw [← f2]; exact hj) hk
  rw [f1] at e1
  have hcut := Rd.cut (show Rd _ _ _ _ from e1) hk hij hj
  obtain ⟨e, h2, h4, h3⟩ := elSize_run hz
  have hrun : (execOp a.eval o).run P w = .ok (.value (.slice (cutA A cp i k) (j - i) (cp - i))) w := by
    simp only [execOp, ho, Option.map_some, Option.map_none, f1, e2, e3, Sem.run_bind, sliceAt_eq h2]
    rw [run_slice_lh w t _ _ _ (by rw [h4]; exact h2) _ _ (i : Int) (j : Int) (by omega) (by omega) (by omega), h4, h3]
    simp [sliced, Result.andThen, cutA]
  unfold Oper.wp
  rw [hrun]
  exact hN _ _ _ h ⟨g, ⟨by cases o.dst <;> exact hp1, by cases o.dst <;> exact hp2⟩, hR.put (dok_lt hd) hcut⟩
end Go.Proofs.YthlckclbjknldaaGreat
