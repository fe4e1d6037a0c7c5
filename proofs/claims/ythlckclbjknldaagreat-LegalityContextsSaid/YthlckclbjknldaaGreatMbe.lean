/- Truth values compared. -/
import Derived.Test.YthlckclbjknldaaGreatMK
namespace Go.Proofs.YthlckclbjknldaaGreat
set_option linter.unusedVariables false
set_option linter.unusedSimpArgs false
open Go.RowKit

theorem stp_beq {P : Program} {o : Oper} {st : ST} {K : ST → Prop} {t yt : TypeId} {x y : Operand} {a b : Bool} (hu : P.underlying t = some .bool) (hd : dok o st.n = true) (ho : o.op = .binOp .eql t x y yt) (hx : st.ev x = .b a) (hy : st.ev y = .b b)
    (h : K (st.put o.dst (.b (a == b)))) : Stp P o st K := by
  refine stp_val (v := .b (a == b)) hd (fun g w ρ hr hR => ?_) h
  have e1 := hR x
  have e2 := hR y
  rw [hx] at e1
  rw [hy] at e2
  have e1 : ρ x = .bool a := e1
  have e2 : ρ y = .bool b := e2
  refine ⟨.bool (a == b), ?_, rfl⟩
  obtain ⟨dst, op, ty, pos, af, gd⟩ := o
  simp only at ho
  subst ho
  simp only [execOp, e1, e2]
  simp [eqGuard, binOp, run_eqB hu]
theorem stp_bne {P : Program} {o : Oper} {st : ST} {K : ST → Prop} {t yt : TypeId} {x y : Operand} {a b : Bool} (hu : P.underlying t = some .bool) (hd : dok o st.n = true) (ho : o.op = .binOp .neq t x y yt) (hx : st.ev x = .b a) (hy : st.ev y = .b b)
    (h : K (st.put o.dst (.b (!(a == b))))) : Stp P o st K := by
  refine stp_val (v := .b (!(a == b))) hd (fun g w ρ hr hR => ?_) h
  have e1 := hR x
  have e2 := hR y
  rw [hx] at e1
  rw [hy] at e2
  have e1 : ρ x = .bool a := e1
  have e2 : ρ y = .bool b := e2
  refine ⟨.bool (!(a == b)), ?_, rfl⟩
  obtain ⟨dst, op, ty, pos, af, gd⟩ := o
  simp only at ho
  subst ho
  simp only [execOp, e1, e2]
  simp [eqGuard, binOp, run_eqB hu]
end Go.Proofs.YthlckclbjknldaaGreat
