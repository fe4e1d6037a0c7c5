/- The runner: regions that draw their order. -/
import Derived.Test.YtfjfllpcflddmaaGreatAm34
namespace Go.Proofs.YtfjfllpcflddmaaGreat
set_option linter.unusedVariables false
set_option linter.unusedSimpArgs false
open Go.RowKit

section
variable {P : Program} {g : Gh} {M0 : Nat → Prop} {w0 w : World} {st : ST} {a : Act} {c : Prop} {ob : Ob} {f : Nat → AV}
theorem aMakeV_at (h : RelG g M0 w0 st a w) {ev : Operand → AV} {hp' : List Ob} {id : Nat} (hid : ¬ Bn st.hp id) (hne : ∀ i, i ≠ id → hp'[i]? = st.hp[i]?) (h1 : hp'[id]? = some ob) {t : TypeId} {l cp : Operand} (ha : aMakeV P ev t l cp = some (c, ob, f)) {vl vc : Value}
    (hvl : AVR (CR g st.hp w) (ev l) vl) (hvc : AVR (CR g st.hp w) (ev cp) vc) (hc : c) :
    ∃ v w' g', (Instr.makeSlice t vl vc).run P w = .ok v w' ∧ Ext id g g' ∧ Fp (fun _ => False) w w' ∧ RelG g' M0 w0 { st with hp := hp' } a w' ∧ AVR (CR g' hp' w') (f id) v := by
  have hbn : Bn hp' id := ⟨ob, h1, by
    unfold aMakeV at ha
    split at ha
    · split at ha
      · split at ha
        · split at ha
          · cases ha; rfl
          · cases ha
        · cases ha
      · cases ha
    · cases ha⟩
  unfold aMakeV at ha
  split at ha
  · rename_i y hty
    split at ha
    · rename_i z hk hz
      split at ha
      · rename_i k1 n k2 m hl hcp
        split at ha
        · rename_i hcond
          simp only [Bool.and_eq_true, decide_eq_true_eq, beq_iff_eq] at hcond
          obtain ⟨c1, c2⟩ := hcond
          simp only [Option.some.injEq, Prod.mk.injEq] at ha
          obtain ⟨rfl, rfl, rfl⟩ := ha
          obtain ⟨d1, d2, d3, d4⟩ := hc
          rw [int_of hl hvl, int_of hcp hvc]
          obtain ⟨i, zv, hi, hzv, hs, hb, hzc⟩ := tyOf.info hz
          have hr := run_make (P := P) w t y.elem i zv (tyOf.slice hty hk) hi hzv k1 k2 n m d1 d2 (by rw [hb, Int.mul_comm]; omega) (by omega)
          have hzero := zero_flat zv z.zero hzc m.toNat
          rw [c2] at hzero
          obtain ⟨n, rfl⟩ := Int.eq_ofNat_of_zero_le d1
          obtain ⟨m, rfl⟩ := Int.eq_ofNat_of_zero_le (by omega : 0 ≤ m)
          simp only [Int.toNat_natCast] at hr hzero ⊢
          have hmade : madeCells zv.cells (m * i.size) = ((List.replicate m z.zero).flatten).toArray := by rw [hs]; exact hzero
          rw [hmade] at hr
          obtain ⟨q1, q2⟩ := repv_zero (g := g) (st := st) (w := w) c2 n
          by_cases h0 : m = 0
          · subst h0
            have hn0 : n = 0 := by omega
            subst hn0
            have hb := h.birth0 (w' := w.alloc (.cells ((List.replicate 0 z.zero).flatten).toArray y.elem)) (hp' := hp') (id := id) (r := ⟨y.elem, z.size, sameT l cp, rep 0 (z.zero.map C.v)⟩) hid hne h1 (List.eq_nil_of_length_eq_zero (by simpa using q1)) (Fp.alloc _ _ _)
            refine ⟨_, _, _, hr, ext_at (Nat.le_refl _), Fp.alloc _ _ _, hb, hbn, Nat.zero_le _, _, by rw [g.at_self.2], fun hn => absurd g.at_self.2 hn, fun b hb => by cases hb; simp⟩
          · have hle : n * z.size ≤ m * z.size := Nat.mul_le_mul_right _ (by omega)
            have hb := h.birth (hp' := hp') (id := id) (c := m) (r := ⟨y.elem, z.size, sameT l cp, rep n (z.zero.map C.v)⟩) (us := (List.replicate m z.zero).flatten) hid hne h1 h0 (fun hs hcs => by
                have he : ev l = ev cp := sameT_eq hs
                rw [hl, hcp] at he
                injection he with he
                injection he with he
                injection he with he
                injection he with _ he
                have hnm : n = m := by omega
                simp only at hcs
                rw [hcs] at q1
                have := Nat.mul_pos (Nat.pos_of_ne_zero h0) c1
                simp at q1; rw [hnm] at q1; omega) (by omega)
              (by rw [q1]; simp [c2]; exact hle) (by simp [c2]) (fun j x hj => by
                obtain ⟨u, e1, e2⟩ := q2 j x hj
                refine ⟨u, ?_, e2⟩
                have hj1 : j < n * z.size := by rw [← q1]; exact (List.getElem?_eq_some_iff.1 hj).1
                rw [rep_flat _ _ _ (by rw [c2]; exact hj1)] at e1
                rw [rep_flat _ _ _ (by rw [c2]; omega)]
                exact e1)
            refine ⟨_, _, _, hr, ext_at (Nat.le_refl _), Fp.alloc _ _ _, hb, hbn, by rw [g.at_self.2]; omega, _, by rw [g.at_self.2], fun _ => by rw [g.at_self.1], fun b hb => by cases hb; simp⟩
        · cases ha
      · cases ha
    · cases ha
  · cases ha
end
section
variable {P : Program} {T : Tb} {rs : RS} {st : ST} {o : Oper} {k : RS → Ans} {ops : Array Oper}
theorem want_ok {t : Bool} (hR : RR rs st) (h : rWant ops rs o = some t) {M0 : Fm} {w0 : World} {a : Act} {w : World} (hrel : Rel M0 w0 st a w) : Region.wanted o (yielded ops a.tmps) = t := by
  obtain ⟨g, _, hG⟩ := hrel
  unfold rWant at h
  unfold Region.wanted
  split at h
  · rename_i hg; rw [hg]; cases h; rfl
  · rename_i j want hg
    rw [hg]
    simp only
    split at h
    · rename_i d hj
      have hv : ∀ {v : Value}, (rs.tm.get d).getD .u = .a (.c (.v v)) → a.tmps.getD d undef = v := by
        intro v e
        have := hG.tm d
        rw [hR.1 d, e] at this
        exact this
      have hy : yielded ops a.tmps j = match a.tmps[d]? with | some (.bool b) => some b | _ => none := by
        unfold yielded
        rw [hj]
        rfl
      split at h
      · rename_i b hb
        cases h
        have := hv hb
        rw [Array.getD_eq_getD_getElem?] at this
        cases hq : a.tmps[d]? with
        | none => rw [hq] at this; cases this
        | some v =>
          rw [hq] at this
          simp at this
          subst this
          rw [hy, hq]
          cases b <;> cases want <;> rfl
      · rename_i ts hb
        cases h
        have := hv hb
        rw [Array.getD_eq_getD_getElem?] at this
        rw [hy]
        cases hq : a.tmps[d]? with
        | none => rfl
        | some v =>
          rw [hq] at this
          simp at this
          subst this
          rfl
      · cases h
    · cases h
theorem stpF_mk (hT : TbOk P T) (hR : RR rs st) {t : TypeId} {l c : Operand} {ob : Ob} {f : Nat → AV} (ho : o.op = .makeSlice t l c) (hb : rMake T rs.ev t l c = some (ob, f)) (h : (fN rs.hn fun hn => rs.push ob fun rs => rs.put o.dst (f hn) k) = .ok) : StpF P o st (KK k) := by
  obtain ⟨h1, h2⟩ := push_put hR h
  obtain ⟨p, h3, h4⟩ := rMake_ok hT hb
  rw [← hR.ev] at h3
  intro M0 w0 a w N Q hRl hN
  obtain ⟨g, ⟨hp1, hp2⟩, hG⟩ := hRl
  obtain ⟨v, w', q1, g', hx, hf, q2, q3⟩ := aMakeV_sound (P := P) hG h3 h4
  have hrun : (execOp a.eval o).run P w = .ok (.value v) w' := by
    unfold execOp
    simp [ho, q1]
  unfold Oper.wp
  rw [hrun]
  exact hN _ _ _ h2 ⟨g', ⟨by cases o.dst <;> (simp [ST.put]; omega), by cases o.dst <;> exact hp2.trans (hx.le hp1)⟩, q2.put (dok_lt h1) q3⟩ hf
theorem stpF_new (hT : TbOk P T) (hR : RR rs st) {ob : Ob} {f : Nat → AV} (hb : rNew T rs.ev o.op = some (ob, f)) (h : (fN rs.hn fun hn => rs.push ob fun rs => rs.put o.dst (f hn) k) = .ok) : StpF P o st (KK k) := by
  unfold rNew at hb
  split at hb
  · rename_i t l c ho; exact stpF_mk hT hR ho hb h
  · obtain ⟨h1, h2⟩ := push_put hR h
    refine stpF_a h1 ?_
    obtain ⟨c, h3, h4⟩ := rBox_ok hT hb
    unfold evA
    rw [hR.ev, h3]
    exact ⟨h4, h2⟩
theorem rel_undef {M0 : Fm} {w0 : World} {a : Act} {w : World} (hd : dok o st.n = true) (h : Rel M0 w0 st a w) : Rel M0 w0 (st.put o.dst (.a (.c (.v undef)))) (a.put o.dst undef) w := by
  obtain ⟨g, hpp, hG⟩ := h
  exact ⟨g, by cases o.dst <;> exact hpp, hG.put (dok_lt hd) rfl⟩
theorem rLstU_ok (hT : TbOk P T) {rc : RC} (hrc : RcOk P rc) {loc : List Nat} {stop : Nat} : ∀ (l : List (Nat × Nat)) (eff past : Bool) (rs : RS) (st : ST), RR rs st → rLstU T rc loc ops stop eff past l rs k = .ok → LstU P ops stop eff past l st (KK k)
  | [], eff, past, rs, st, hR, h => u_nil ⟨rs, hR, by simpa [rLstU] using h⟩
  | (i, kd) :: r, eff, past, rs, st, hR, h => by
    unfold rLstU at h
    split at h
    rotate_left
    · cases h
    rename_i o hi
    split at h
    · cases h
    · rename_i hw
      intro M0 w0 a w w1 Q he hp hRel hN
      have hwn := want_ok hR hw hRel
      have yi : ∀ S : World → Prop, YieldsIf P ops S o undef a := fun S => .inr ⟨hwn, rfl⟩
      split at h
      · obtain ⟨h1, rs', q1, q2⟩ := put_kk (o := o) (k := fun rs => rLstU T rc loc ops stop eff past r rs k) hR h
        exact ⟨o, undef, hi, yi _, rLstU_ok hT hrc r eff past rs' _ q1 q2 M0 w0 _ w w1 Q he hp (rel_undef h1 hRel) hN⟩
      · obtain ⟨h1, rs', q1, q2⟩ := put_kk (o := o) (k := fun rs => rLstU T rc loc ops stop eff past r rs k) hR h
        exact ⟨o, undef, hi, yi _, rLstU_ok hT hrc r eff past rs' _ q1 q2 M0 w0 _ w w1 Q he hp (rel_undef h1 hRel) hN⟩
      · rename_i hk0 hk1
        obtain ⟨h1, rs', q1, q2⟩ := put_kk (o := o) (k := fun rs => rLstU T rc loc ops stop eff (past || i.beq stop) r rs k) hR h
        obtain ⟨kk, rfl⟩ : ∃ kk, kd = kk + 2 := by
          rcases kd with _ | _ | kk
          · exact (hk0 rfl).elim
          · exact (hk1 rfl).elim
          · exact ⟨kk, rfl⟩
        show wpOp P ops Q i _ a w
        unfold wpOp
        rw [hi]
        simp only [hwn, Bool.false_eq_true, if_false]
        have hb : (i == stop) = i.beq stop := by rw [beqT, Bool.eq_iff_iff]; simp
        rw [hb]
        refine ⟨?_, rLstU_ok hT hrc r eff (past || i.beq stop) rs' _ q1 q2 M0 w0 _ w w1 Q he (fun hpp => hp (by cases past <;> simp_all)) (rel_undef h1 hRel) hN⟩
        cases hpast : past with
        | true => exact .inl rfl
        | false =>
          by_cases hs : i.beq stop = true
          · exact .inl (by simp [hs])
          · exact .inr (hp hpast)
    · rename_i hw
      split at h
      · split at h
        · rename_i v hv
          obtain ⟨h1, rs', q1, q2⟩ := put_kk (o := o) (k := fun rs => rLstU T rc loc ops stop eff past r rs k) hR h
          obtain ⟨c, h3, h4⟩ := rD_ok hT hv
          intro M0 w0 a w w1 Q he hp hRel hN
          have hwn := want_ok hR hw hRel
          obtain ⟨g, hpp, hG⟩ := hRel
          rw [← hR.ev] at h3
          obtain ⟨u, h5, h6⟩ := d_sound (P := P) (ρ := a.eval) (ev := st.ev) hG.ev h3 h4
          exact ⟨o, u, hi, .inl ⟨hwn, fun W _ => h5 W⟩, rLstU_ok hT hrc r eff past rs' _ q1 q2 M0 w0 _ w w1 Q he hp ⟨g, by cases o.dst <;> exact hpp, hG.put (dok_lt h1) h6⟩ hN⟩
        · cases h
      · split at h
        · cases h
        · split at h
          · rename_i t x ho
            split at h
            · rename_i v hv
              obtain ⟨h1, rs', q1, q2⟩ := put_kk (o := o) (k := fun rs => rLstU T rc loc ops stop false past r rs k) hR h
              obtain ⟨c, h3, h4⟩ := rLoad_ok hT hR hv
              intro M0 w0 a w w1 Q he hp hRel hN
              have hwn := want_ok hR hw hRel
              obtain ⟨g, hpp, hG⟩ := hRel
              have hlo : lOp P o.op st.ev st.hp = some (c, v) := by simp only [ho, lOp, h3]
              obtain ⟨u, h5, h6⟩ := l_sound (P := P) hG.hr hG.ev hlo h4
              have hw1 := he rfl
              subst hw1
              exact ⟨o, u, hi, .inl ⟨hwn, fun W hW => h5 W hW⟩, rLstU_ok hT hrc r false past rs' _ q1 q2 M0 w0 _ w w Q he hp ⟨g, by cases o.dst <;> exact hpp, hG.put (dok_lt h1) h6⟩ hN⟩
            · cases h
          · cases h
      · rename_i kk
        intro M0 w0 a w w1 Q he hp hRel hN
        have hwn := want_ok hR hw hRel
        show wpOp P ops Q i _ a w
        unfold wpOp
        rw [hi]
        simp only [hwn, if_true]
        have hb : (i == stop) = i.beq stop := by rw [beqT, Bool.eq_iff_iff]; simp
        rw [hb]
        cases hc : past || i.beq stop with
        | true =>
          rw [hc] at h
          refine .inl (rStep_ok (k := fun rs => rLstU T rc loc ops stop true true r rs k) hT hrc hR h M0 w0 a w _ Q hRel ?_)
          rintro st' a' w' ⟨rs', q1, q2⟩ hRel'
          exact ⟨.inl rfl, rLstU_ok hT hrc r true true rs' st' q1 q2 M0 w0 a' w' w1 Q (by simp) (by simp) hRel' hN⟩
        | false =>
          rw [hc] at h
          simp only [cond_false] at h
          split at h
          · cases h
          · split at h
            · rename_i ob f hnew
              refine .inl (stpF_new (k := fun rs => rLstU T rc loc ops stop true false r rs k) hT hR hnew h M0 w0 a w _ Q hRel ?_)
              rintro st' a' w' ⟨rs', q1, q2⟩ hRel' hf
              have hx := (hp rfl).trans hf
              exact ⟨.inr hx, rLstU_ok hT hrc r true false rs' st' q1 q2 M0 w0 a' w' w1 Q (by simp) (fun _ => hx) hRel' hN⟩
            · cases h
end
end Go.Proofs.YtfjfllpcflddmaaGreat
