/- The abstract machine: new objects are sound. -/
import Derived.Test.YtgclmlbaodcccaaAm6
namespace Go.Proofs.Ytgclmlbaodcccaa
set_option linter.unusedVariables false
set_option linter.unusedSimpArgs false
open Go.RowKit

theorem bn_len {hp : List Ob} : ¬ Bn hp hp.length := by
  rintro ⟨o, h, _⟩
  simp at h
theorem push_ne {hp : List Ob} (ob : Ob) (i : Nat) (h : i ≠ hp.length) : (hp ++ [ob])[i]? = hp[i]? := by
  rcases Nat.lt_or_ge i hp.length with hl | hl
  · rw [List.getElem?_append_left hl]
  · rw [List.getElem?_eq_none hl, List.getElem?_eq_none (by simp; omega)]
theorem push_self {hp : List Ob} (ob : Ob) : (hp ++ [ob])[hp.length]? = some ob := by simp
theorem push_bn {hp : List Ob} {ob : Ob} (h : ob.born = true) : Bn (hp ++ [ob]) hp.length := ⟨ob, push_self ob, h⟩
theorem fresh_of_pl {c : C} (h : c.pl = true) : c.fresh = true := by cases c <;> first | rfl | cases h
theorem fresh_cr {g : Gh} {hp : List Ob} {w : World} {xs : List C} {us : List Value} (h : LR (CR g hp w) xs us) (hpl : xs.all C.pl = true) : ∀ (j : Nat) (x : C), xs[j]? = some x → ∃ u, us[j]? = some u ∧ FreshR g hp w x u := by
  intro j x hj
  obtain ⟨u, h1, h2⟩ := h.2 j x hj
  exact ⟨u, h1, fresh_of_pl (List.all_eq_true.1 hpl x (List.mem_of_getElem? hj)), .inl h2⟩
theorem rep_flat (z : List Value) (n i : Nat) (hi : i < n * z.length) : ((List.replicate n z).flatten)[i]? = z[i % z.length]? := by
  have hk : 0 < z.length := by
    rcases Nat.eq_zero_or_pos z.length with h | h
    · rw [h] at hi; simp at hi
    · exact h
  have e : (List.replicate n z).flatten = (List.replicate n ()).flatMap fun _ => z := by
    rw [List.flatMap_def, List.map_replicate]
  rw [e, ← flat_get (fun _ : Unit => z) z.length (fun _ => rfl) (List.replicate n ()) (i / z.length) (i % z.length) () (by
    rw [List.getElem?_replicate, if_pos]
    exact Nat.div_lt_of_lt_mul (by rw [Nat.mul_comm]; exact hi)) (Nat.mod_lt _ hk)]
  congr 1
  exact (Nat.div_add_mod' i z.length).symm
theorem zero_flat (zv : Value) (zs : List Value) (hz : zv.cells.toList = zs) (n : Nat) : ((Array.range (n * zs.length)).map (zv.cells[· % zv.cells.size]!)) = ((List.replicate n zs).flatten).toArray := by
  subst hz
  apply Array.ext'
  apply List.ext_getElem?
  intro i
  by_cases hi : i < n * zv.cells.toList.length
  · rw [List.toList_toArray, rep_flat _ n i hi]
    have hk : 0 < zv.cells.size := by
      rcases Nat.eq_zero_or_pos zv.cells.size with h | h
      · simp [h] at hi
      · exact h
    have hm : i % zv.cells.size < zv.cells.size := Nat.mod_lt _ hk
    simp at hi
    simp [hi, hm]
  · rw [List.getElem?_eq_none (by simp; simp at hi; omega), List.getElem?_eq_none (by simp; simp at hi; omega)]
section
variable {P : Program} {g : Gh} {M0 : Nat → Prop} {w0 w : World} {st : ST} {a : Act} {c : Prop} {ob : Ob} {f : Nat → AV}
/-- what a new object gives -/
def ABorn (g : Gh) (w : World) (M0 : Nat → Prop) (w0 : World) (st : ST) (a : Act) (ob : Ob) (f : Nat → AV) (v : Value) (w' : World) : Prop :=
  ∃ g', Ext st.hp.length g g' ∧ Fp (fun _ => False) w w' ∧ RelG g' M0 w0 { st with hp := st.hp ++ [ob] } a w' ∧ AVR (CR g' (st.hp ++ [ob]) w') (f st.hp.length) v
theorem aBox_sound (h : RelG g M0 w0 st a w) {e : TypeId} {x : Operand} (ha : aBox P st.ev e x = some (c, ob, f)) (hc : c) :
    ∃ v w', (Instr.box e (a.eval x)).run P w = .ok v w' ∧ ABorn g w M0 w0 st a ob f v w' := by
  have hx := h.ev x
  unfold aBox at ha
  split at ha
  · rename_i y hev
    rw [hev] at hx
    split at ha
    · rename_i hcond
      simp only [Bool.and_eq_true, decide_eq_true_eq] at hcond
      obtain ⟨⟨c1, c2⟩, c3⟩ := hcond
      simp only [Option.some.injEq, Prod.mk.injEq] at ha
      obtain ⟨_, rfl, rfl⟩ := ha
      have hl := A0R.cells c1 hx
      have hb := h.birth (hp' := st.hp ++ [.r ⟨e, y.cells.length, false, y.cells⟩]) (id := st.hp.length) (c := 1) (r := ⟨e, y.cells.length, false, y.cells⟩) (us := (a.eval x).cells.toList) bn_len (push_ne _) (push_self _) (by omega) (by simp) (by omega) (by rw [hl.1]; exact Nat.le_refl _) (by rw [hl.1]; simp) (fresh_cr hl c3)
      refine ⟨_, _, ?_, _, ext_at (Nat.le_refl _), Fp.alloc _ _ _, hb, push_bn rfl, rfl⟩
      rw [g.at_self.1]
      simp [Instr.box, newVar, newRow]
    · cases ha
  · cases ha
theorem aAlloc_sound (h : RelG g M0 w0 st a w) {e : TypeId} (ha : aAlloc P e = some (c, ob, f)) (hc : c) :
    ∃ v w', (Instr.alloc e true (.tuple #[])).run P w = .ok v w' ∧ ABorn g w M0 w0 st a ob f v w' := by
  unfold aAlloc at ha
  split at ha
  · rename_i y hty
    split at ha
    · rename_i hcond
      simp only [Option.some.injEq, Prod.mk.injEq] at ha
      obtain ⟨_, rfl, rfl⟩ := ha
      obtain ⟨z, hz, hzc⟩ := tyOf.zero hty w
      have hb := h.birth (hp' := st.hp ++ [.r ⟨e, y.zero.length, false, y.zero.map .v⟩]) (id := st.hp.length) (c := 1) (r := ⟨e, y.zero.length, false, y.zero.map .v⟩) (us := y.zero) bn_len (push_ne _) (push_self _) (by omega) (by simp) (by omega) (by simp) (by simp)
        (fresh_cr (LR.zero y.zero) (by simp [List.all_map]; intro x _; rfl))
      refine ⟨_, _, ?_, _, ext_at (Nat.le_refl _), Fp.alloc _ _ _, hb, push_bn rfl, rfl⟩
      rw [g.at_self.1]
      have : z.cells = y.zero.toArray := by rw [← hzc]
      simp [Instr.alloc, hz, newVar, newRow, this]
    · cases ha
  · cases ha
theorem aLit_sound (h : RelG g M0 w0 st a w) {t : TypeId} {len : Nat} {parts : Array (Nat × Operand)} (ha : aLit P st.ev t len parts = some (c, ob, f)) (hc : c) :
    ∃ v w', (Instr.buildSlice t len (parts.map fun (i, x) => (i, a.eval x))).run P w = .ok v w' ∧ ABorn g w M0 w0 st a ob f v w' := by
  unfold aLit at ha
  split at ha
  · rename_i y hty
    split at ha
    · rename_i z hk hz
      split at ha
      · rename_i cs hfill
        split at ha
        · rename_i hcond
          simp only [Bool.and_eq_true, decide_eq_true_eq, beq_iff_eq] at hcond
          obtain ⟨⟨⟨⟨⟨c1, c2⟩, c2'⟩, c3⟩, c4⟩, c5⟩ := hcond
          simp only [Option.some.injEq, Prod.mk.injEq] at ha
          obtain ⟨_, rfl, rfl⟩ := ha
          obtain ⟨zv, hzv, hzc⟩ := tyOf.zero hz w
          have hflat : (List.replicate len (z.zero.map C.v)).flatten = ((List.replicate len z.zero).flatten).map C.v := by simp [List.map_flatten]
          obtain ⟨r, r1, r2⟩ := fillA_sound (g := g) (hp := st.hp) (w := w) (vs := (parts.map fun p => (p.1, a.eval p.2)).toList) hfill (by rw [hflat]; exact LR.zero _) (by simp) (fun i p q hp1 hq1 => by
            simp only [List.getElem?_map, Array.toList_map, Option.map_eq_some_iff] at hp1 hq1
            obtain ⟨b, hb, rfl⟩ := hp1
            obtain ⟨d, hd, rfl⟩ := hq1
            rw [hb] at hd; cases hd
            exact ⟨rfl, h.ev _⟩)
          have hsz : len * z.size ≤ 1000000 := Nat.mul_le_mul c2 c2'
          have hrun : (Instr.buildSlice t len (parts.map fun (i, x) => (i, a.eval x))).run P w = .ok (.slice (some ⟨w.heap.size, 0, none⟩) len len) (w.alloc (.cells r.toArray y.elem)) := by
            have hzero := zero_flat zv z.zero hzc len
            rw [c3] at hzero
            simp only [Instr.buildSlice, Sem.run_bind, run_underlying (tyOf.slice hty hk), Result.andThen_ok, tyOf.size hz]
            rw [if_neg (by omega)]
            have hfl : Instr.fill (fun i => some (i * z.size, z.size)) (((List.replicate len z.zero).flatten).toArray) (parts.map fun p => (p.1, a.eval p.2)).toList = some r.toArray := r1
            rw [Array.toList_map] at hfl
            by_cases hl0 : len * z.size = 0
            · have hr0 : ((List.replicate len z.zero).flatten).toArray = #[] := by
                rw [← hzero, hl0]; simp
              rw [hr0] at hfl
              have he : Array.map (fun _ => (default : Value)) (Array.range 0) = #[] := by simp
              simp [hl0, newRow, he, hfl]
            · simp [hl0, hzv, newRow, hzero, hfl]
          by_cases h0 : len = 0
          · subst h0
            have hcs : cs = [] := List.eq_nil_of_length_eq_zero (by simpa using c5)
            have hb := h.birth0 (w' := w.alloc (.cells r.toArray y.elem)) (hp' := st.hp ++ [.r ⟨y.elem, z.size, true, cs⟩]) (id := st.hp.length) (r := ⟨y.elem, z.size, true, cs⟩) bn_len (push_ne _) (push_self _) hcs (Fp.alloc _ _ _)
            refine ⟨_, _, hrun, _, ext_at (Nat.le_refl _), Fp.alloc _ _ _, hb, push_bn rfl, Nat.zero_le _, _, by rw [g.at_self.2], fun hn => absurd g.at_self.2 hn, fun b hb => by cases hb; simp⟩
          · have hb := h.birth (hp' := st.hp ++ [.r ⟨y.elem, z.size, true, cs⟩]) (id := st.hp.length) (c := len) (r := ⟨y.elem, z.size, true, cs⟩) (us := r) bn_len (push_ne _) (push_self _) h0 (fun _ hcs => by
                simp only at hcs
                rw [hcs] at c5
                have := Nat.mul_pos (Nat.pos_of_ne_zero h0) c1
                simp at c5; omega) (by omega) (by rw [r2.1]; exact Nat.le_refl _) (by rw [r2.1]; exact c5) (fresh_cr r2 c4)
            refine ⟨_, _, hrun, _, ext_at (Nat.le_refl _), Fp.alloc _ _ _, hb, push_bn rfl, by rw [g.at_self.2]; exact Nat.le_refl _, _, by rw [g.at_self.2], fun _ => by rw [g.at_self.1], fun b hb => by cases hb; simp⟩
        · cases ha
      · cases ha
    · cases ha
  · cases ha
theorem rep_zero {e : TypeId} {y : Ty} (hty : tyOf P e = some y) (hl : y.zero.length = y.size) (n : Nat) :
    (rep n (zerosOf P e y)).length = n * y.size ∧ ∀ (j : Nat) (x : C), (rep n (zerosOf P e y))[j]? = some x → ∃ u, ((List.replicate n y.zero).flatten)[j]? = some u ∧ FreshR g st.hp w x u := by
  unfold zerosOf
  cases hn : nilC P e with
  | some k =>
    have hz : y.zero = [.slice none 0 0] := by
      unfold nilC at hn
      rw [hty] at hn
      simp only at hn
      split at hn
      · rename_i h0; exact h0
      · cases hn
    simp only [rep]
    refine ⟨by rw [← hl, hz]; simp, fun j x hj => ?_⟩
    rw [List.getElem?_replicate] at hj
    split at hj
    · cases hj
      refine ⟨.slice none 0 0, ?_, rfl, .inr ⟨k, rfl, rfl⟩⟩
      rw [hz, rep_flat _ n j (by simpa using ‹_›)]
      simp [Nat.mod_one]
    · cases hj
  | none =>
    have e1 : rep n (y.zero.map C.v) = ((List.replicate n y.zero).flatten).map C.v := by
      unfold rep
      split
      · rename_i c hc
        obtain ⟨v, hv, rfl⟩ : ∃ v, y.zero = [v] ∧ C.v v = c := by
          cases hz : y.zero with
          | nil => rw [hz] at hc; cases hc
          | cons v r =>
            rw [hz] at hc
            simp at hc
            exact ⟨v, by rw [hc.2], hc.1⟩
        rw [hv]; simp
      · simp [List.map_flatten]
    simp only
    rw [e1]
    refine ⟨by simp [hl], fun j x hj => ?_⟩
    rw [List.getElem?_map, Option.map_eq_some_iff] at hj
    obtain ⟨u, hu, rfl⟩ := hj
    exact ⟨u, hu, rfl, .inl rfl⟩
theorem aMake_sound (h : RelG g M0 w0 st a w) {t : TypeId} {l cp : Operand} (ha : aMake P st.ev t l cp = some (c, ob, f)) (hc : c) :
    ∃ v w', (Instr.makeSlice t (a.eval l) (a.eval cp)).run P w = .ok v w' ∧ ABorn g w M0 w0 st a ob f v w' := by
  unfold aMake at ha
  split at ha
  · rename_i y hty
    split at ha
    · rename_i z hk hz
      split at ha
      · rename_i k1 n k2 m hl hcp
        split at ha
        · rename_i hcond
          simp only [Bool.and_eq_true, decide_eq_true_eq, beq_iff_eq] at hcond
          obtain ⟨c1, c2⟩ := hcond
          simp only [Option.some.injEq, Prod.mk.injEq] at ha
          obtain ⟨rfl, rfl, rfl⟩ := ha
          obtain ⟨d1, d2, d3, d4⟩ := hc
          rw [int_of hl (h.ev l), int_of hcp (h.ev cp)]
          obtain ⟨i, zv, hi, hzv, hs, hb, hzc⟩ := tyOf.info hz
          have hr := run_make (P := P) w t y.elem i zv (tyOf.slice hty hk) hi hzv k1 k2 n m d1 d2 (by rw [hb, Int.mul_comm]; omega) (by omega)
          have hzero := zero_flat zv z.zero hzc m.toNat
          rw [c2] at hzero
          obtain ⟨n, rfl⟩ := Int.eq_ofNat_of_zero_le d1
          obtain ⟨m, rfl⟩ := Int.eq_ofNat_of_zero_le (by omega : 0 ≤ m)
          simp only [Int.toNat_natCast] at hr hzero ⊢
          have hmade : madeCells zv.cells (m * i.size) = ((List.replicate m z.zero).flatten).toArray := by rw [hs]; exact hzero
          rw [hmade] at hr
          obtain ⟨q1, q2⟩ := rep_zero (g := g) (st := st) (w := w) hz c2 n
          by_cases h0 : m = 0
          · subst h0
            have hn0 : n = 0 := by omega
            subst hn0
            have hb := h.birth0 (w' := w.alloc (.cells ((List.replicate 0 z.zero).flatten).toArray y.elem)) (hp' := st.hp ++ [.r ⟨y.elem, z.size, sameT l cp, rep 0 (zerosOf P y.elem z)⟩]) (id := st.hp.length) (r := ⟨y.elem, z.size, sameT l cp, rep 0 (zerosOf P y.elem z)⟩) bn_len (push_ne _) (push_self _) (List.eq_nil_of_length_eq_zero (by simpa using q1)) (Fp.alloc _ _ _)
            refine ⟨_, _, hr, _, ext_at (Nat.le_refl _), Fp.alloc _ _ _, hb, push_bn rfl, Nat.zero_le _, _, by rw [g.at_self.2], fun hn => absurd g.at_self.2 hn, fun b hb => by cases hb; simp⟩
          · have hle : n * z.size ≤ m * z.size := Nat.mul_le_mul_right _ (by omega)
            have hb := h.birth (hp' := st.hp ++ [.r ⟨y.elem, z.size, sameT l cp, rep n (zerosOf P y.elem z)⟩]) (id := st.hp.length) (c := m) (r := ⟨y.elem, z.size, sameT l cp, rep n (zerosOf P y.elem z)⟩) (us := (List.replicate m z.zero).flatten) bn_len (push_ne _) (push_self _) h0 (fun hs hcs => by
                have he : st.ev l = st.ev cp := sameT_eq hs
                rw [hl, hcp] at he
                injection he with he
                injection he with he
                injection he with he
                injection he with _ he
                have hnm : n = m := by omega
                simp only at hcs
                rw [hcs] at q1
                have := Nat.mul_pos (Nat.pos_of_ne_zero h0) c1
                simp at q1; rw [hnm] at q1; omega) (by omega)
              (by rw [q1]; simp [c2]; exact hle) (by simp [c2]) (fun j x hj => by
                obtain ⟨u, e1, e2⟩ := q2 j x hj
                refine ⟨u, ?_, e2⟩
                have hj1 : j < n * z.size := by rw [← q1]; exact (List.getElem?_eq_some_iff.1 hj).1
                rw [rep_flat _ _ _ (by rw [c2]; exact hj1)] at e1
                rw [rep_flat _ _ _ (by rw [c2]; omega)]
                exact e1)
            refine ⟨_, _, hr, _, ext_at (Nat.le_refl _), Fp.alloc _ _ _, hb, push_bn rfl, by rw [g.at_self.2]; omega, _, by rw [g.at_self.2], fun _ => by rw [g.at_self.1], fun b hb => by cases hb; simp⟩
        · cases ha
      · cases ha
    · cases ha
  · cases ha
theorem a_sound (h : RelG g M0 w0 st a w) {o : Oper} (ha : aOp P o.op st.ev = some (c, ob, f)) (hc : c) : ∃ v w', (execOp a.eval o).run P w = .ok (.value v) w' ∧ ABorn g w M0 w0 st a ob f v w' := by
  have lift : ∀ {s : Sem Value}, (∃ v w', s.run P w = .ok v w' ∧ ABorn g w M0 w0 st a ob f v w') → ∃ v w', (do pure (Next.value (← s)) : Sem Next).run P w = .ok (.value v) w' ∧ ABorn g w M0 w0 st a ob f v w' := by
    rintro s ⟨v, w', h1, h2⟩
    exact ⟨v, w', by simp [h1], h2⟩
  obtain ⟨dst, op, ty, pos, af, gd⟩ := o
  simp only at ha
  cases op <;> simp only [aOp] at ha <;> (try (cases ha; done))
  case box => exact lift (aBox_sound h ha hc)
  case alloc => exact lift (aAlloc_sound h ha hc)
  case buildSlice => exact lift (aLit_sound h ha hc)
  case makeSlice => exact lift (aMake_sound h ha hc)
  case makeMap t r =>
    cases r with
    | some r => cases ha
    | none =>
      simp only [Option.some.injEq, Prod.mk.injEq] at ha
      obtain ⟨_, rfl, rfl⟩ := ha
      refine ⟨.map (some w.heap.size), w.alloc (.map #[] 0), by simp [execOp, Instr.makeMap], _, ext_at (Nat.le_refl _), Fp.alloc _ _ _, h.birthM (hp' := st.hp ++ [.m []]) (id := st.hp.length) bn_len (push_ne _) (push_self _), push_bn rfl, by rw [g.at_self.1]⟩
end
end Go.Proofs.Ytgclmlbaodcccaa
