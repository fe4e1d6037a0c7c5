/- The runner: regions that draw their order. -/
import Derived.Test.YtglchakimolfdaaDoorAm34
namespace Go.Proofs.YtglchakimolfdaaDoor
set_option linter.unusedVariables false
set_option linter.unusedSimpArgs false
open Go.RowKit

section
variable {P : Program} {g : Gh} {M0 : Nat → Prop} {w0 w : World} {st : ST} {a : Act} {c : Prop} {ob : Ob} {f : Nat → AV}
theorem aMakeV_at (h : RelG g M0 w0 st a w) {ev : Operand → AV} {hp' : List Ob} {id : Nat} (hid : ¬ Bn st.hp id) (hne : ∀ i, i ≠ id → hp'[i]? = st.hp[i]?) (h1 : hp'[id]? = some ob) {t : TypeId} {l cp : Operand} (ha : aMakeV P ev t l cp = some (c, ob, f)) {vl vc : Value}
  (hvl : AVR (CR g st.hp w) (ev l) vl) (hvc : AVR (CR g st.hp w) (ev cp) vc) (hc : c) :
  ∃ v w' g', (Instr.makeSlice t vl vc).run P w = .ok v w' ∧ Ext id g g' ∧ Fp (fun _ => False) w w' ∧ RelG g' M0 w0 { st with hp := hp' } a w' ∧ AVR (CR g' hp' w') (f id) v := by
 have hbn : Bn hp' id := ⟨ob, h1, by
  unfold aMakeV at ha
  split at ha
  ·split at ha
   ·split at ha
    ·split at ha
     ·cases ha; rfl
     ·cases ha
    ·cases ha
   ·cases ha
  ·cases ha⟩
 unfold aMakeV at ha
 split at ha
 ·rename_i y hty
  split at ha
  ·rename_i z hk hz
   split at ha
   ·rename_i k1 n k2 m hl hcp
    split at ha
    ·rename_i hcond
     simp only [Bool.and_eq_true, decide_eq_true_eq, beq_iff_eq] at hcond
     obtain ⟨c1, c2⟩ := hcond
     simp only [Option.some.injEq, Prod.mk.injEq] at ha
     obtain ⟨rfl, rfl, rfl⟩ := ha
     obtain ⟨d1, d2, d3, d4⟩ := hc
     rw [int_of hl hvl, int_of hcp hvc]
     obtain ⟨i, zv, hi, hzv, hs, hb, hzc⟩ := tyOf.info hz
     have hr := run_make (P := P) w t y.elem i zv (tyOf.slice hty hk) hi hzv k1 k2 n m d1 d2 (by rw [hb, Int.mul_comm]; omega) (by omega)
     have hzero := zero_flat zv z.zero hzc m.toNat
     rw [c2] at hzero
     obtain ⟨n, rfl⟩ := Int.eq_ofNat_of_zero_le d1
     obtain ⟨m, rfl⟩ := Int.eq_ofNat_of_zero_le (by omega : 0 ≤ m)
     simp only [Int.toNat_natCast] at hr hzero ⊢
     have hmade : madeCells zv.cells (m * i.size) = ((List.replicate m z.zero).flatten).toArray := by rw [hs]; exact hzero
     rw [hmade] at hr
     obtain ⟨q1, q2⟩ := repv_zero (g := g) (st := st) (w := w) c2 n
     by_cases h0 : m = 0
     ·subst h0
      have hn0 : n = 0 := by omega
      subst hn0
      have hb := h.birth0 (w' := w.alloc (.cells ((List.replicate 0 z.zero).flatten).toArray y.elem)) (hp' := hp') (id := id) (r := ⟨y.elem, z.size, sameT l cp, rep 0 (z.zero.map C.v)⟩) hid hne h1 (List.eq_nil_of_length_eq_zero (by simpa using q1)) (Fp.alloc _ _ _)
      refine ⟨_, _, _, hr, ext_at (Nat.le_refl _), Fp.alloc _ _ _, hb, hbn, Nat.zero_le _, _, by rw [g.at_self.2], fun hn => absurd g.at_self.2 hn, fun b hb => by cases hb; simp⟩
     ·have hle : n * z.size ≤ m * z.size := Nat.mul_le_mul_right _ (by omega)
      have hb := h.birth (hp' := hp') (id := id) (c := m) (r := ⟨y.elem, z.size, sameT l cp, rep n (z.zero.map C.v)⟩) (us := (List.replicate m z.zero).flatten) hid hne h1 h0 (fun hs hcs => by
        have he : ev l = ev cp := sameT_eq hs
        rw [hl, hcp] at he
        injection he with he
        injection he with he
        injection he with he
        injection he with _ he
        have hnm : n = m := by omega
        simp only at hcs
        rw [hcs] at q1
        have := Nat.mul_pos (Nat.pos_of_ne_zero h0) c1
        simp at q1; rw [hnm] at q1; omega) (by omega)
       (by rw [q1]; simp [c2]; exact hle) (by simp [c2]) (fun j x hj => by
        obtain ⟨u, e1, e2⟩ := q2 j x hj
        refine ⟨u, ?_, e2⟩
        have hj1 : j < n * z.size := by rw [← q1]; exact (List.getElem?_eq_some_iff.1 hj).1
        rw [rep_flat _ _ _ (by rw [c2]; exact hj1)] at e1
        rw [rep_flat _ _ _ (by rw [c2]; omega)]
        exact e1)
      refine ⟨_, _, _, hr, ext_at (Nat.le_refl _), Fp.alloc _ _ _, hb, hbn, by rw [g.at_self.2]; omega, _, by rw [g.at_self.2], fun _ => by rw [g.at_self.1], fun b hb => by cases hb; simp⟩
    ·cases ha
   ·cases ha
  ·cases ha
 ·cases ha
end
section
variable {P : Program} {T : Tb} {rs : RS} {st : ST} {o : Oper} {k : RS → Ans} {ops : Array Oper}
theorem want_ok {t : Bool} (hR : RR rs st) (h : rWant ops rs o = some t) {M0 : Fm} {w0 : World} {a : Act} {w : World} (hrel : Rel M0 w0 st a w) : Region.wanted o (yielded ops a.tmps) = t := by
 obtain ⟨g, _, hG⟩ := hrel
 unfold rWant at h
 unfold Region.wanted
 split at h
 ·rename_i hg; rw [hg]; cases h; rfl
 ·rename_i j want hg
  rw [hg]
  simp only
  split at h
  ·rename_i d hj
   have hv : ∀ {v : Value}, (rs.tm.get d).getD .u = .a (.c (.v v)) → a.tmps.getD d undef = v := by
    intro v e
    have := hG.tm d
    rw [hR.1 d, e] at this
    exact this
   have hy : yielded ops a.tmps j = match a.tmps[d]? with | some (.bool b) => some b | _ => none := by
    unfold yielded
    rw [hj]
    rfl
   split at h
   ·rename_i b hb
    cases h
    have := hv hb
    rw [Array.getD_eq_getD_getElem?] at this
    cases hq : a.tmps[d]? with
    | none => rw [hq] at this; cases this
    | some v =>
     rw [hq] at this
     simp at this
     subst this
     rw [hy, hq]
     cases b <;> cases want <;> rfl
   ·rename_i ts hb
    cases h
    have := hv hb
    rw [Array.getD_eq_getD_getElem?] at this
    rw [hy]
    cases hq : a.tmps[d]? with
    | none => rfl
    | some v =>
     rw [hq] at this
     simp at this
     subst this
     rfl
   ·cases h
  ·cases h
theorem rel_undef {M0 : Fm} {w0 : World} {a : Act} {w : World} (hd : dok o st.n = true) (h : Rel M0 w0 st a w) : Rel M0 w0 (st.put o.dst (.a (.c (.v undef)))) (a.put o.dst undef) w := by
 obtain ⟨g, hpp, hG⟩ := h
 exact ⟨g, by cases o.dst <;> exact hpp, hG.put (dok_lt hd) rfl⟩
end
end Go.Proofs.YtglchakimolfdaaDoor
