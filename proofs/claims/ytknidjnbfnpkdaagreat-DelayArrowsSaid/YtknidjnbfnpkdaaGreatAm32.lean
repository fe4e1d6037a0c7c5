/- The runner, third part: new rows of nil slices, appends of nothing, calls that may touch all objects. -/
import Derived.Test.YtknidjnbfnpkdaaGreatAm31
namespace Go.Proofs.YtknidjnbfnpkdaaGreat
set_option linter.unusedVariables false
set_option linter.unusedSimpArgs false
open Go.RowKit

/-- makeSlice, where new cells of slices are nil slices -/
def aMakeV (P : Program) (ev : Operand → AV) (t : TypeId) (l c : Operand) : Option (Prop × Ob × (Nat → AV)) :=
  match tyOf P t with
  | some y => match y.kind, tyOf P y.elem with
    | 1, some z => match ev l, ev c with
      | .a (.c (.v (.int _ n))), .a (.c (.v (.int _ m))) => if 0 < z.size && z.zero.length == z.size then
          some (0 ≤ n ∧ n ≤ m ∧ m * z.bytes ≤ 140737488355328 ∧ m ≤ 140737488355328, .r ⟨y.elem, z.size, sameT l c, rep n.toNat (z.zero.map C.v)⟩, fun id => .a (.c (.s id n.toNat))) else none
      | _, _ => none
    | _, _ => none
  | none => none
section
variable {P : Program} {g : Gh} {M0 : Nat → Prop} {w0 w : World} {st : ST} {a : Act} {c : Prop} {ob : Ob} {f : Nat → AV}
theorem repv_zero {y : Ty} (hl : y.zero.length = y.size) (n : Nat) :
    (rep n (y.zero.map C.v)).length = n * y.size ∧ ∀ (j : Nat) (x : C), (rep n (y.zero.map C.v))[j]? = some x → ∃ u, ((List.replicate n y.zero).flatten)[j]? = some u ∧ FreshR g st.hp w x u := by
  have e1 : rep n (y.zero.map C.v) = ((List.replicate n y.zero).flatten).map C.v := by
    unfold rep
    split
    · rename_i c hc
      obtain ⟨v, hv, rfl⟩ : ∃ v, y.zero = [v] ∧ C.v v = c := by
        cases hz : y.zero with
        | nil => rw [hz] at hc; cases hc
        | cons v r =>
          rw [hz] at hc
          simp at hc
          exact ⟨v, by rw [hc.2], hc.1⟩
      rw [hv]; simp
    · simp [List.map_flatten]
  rw [e1]
  refine ⟨by simp [hl], fun j x hj => ?_⟩
  rw [List.getElem?_map, Option.map_eq_some_iff] at hj
  obtain ⟨u, hu, rfl⟩ := hj
  exact ⟨u, hu, rfl, .inl rfl⟩
theorem aMakeV_sound (h : RelG g M0 w0 st a w) {t : TypeId} {l cp : Operand} (ha : aMakeV P st.ev t l cp = some (c, ob, f)) (hc : c) :
    ∃ v w', (Instr.makeSlice t (a.eval l) (a.eval cp)).run P w = .ok v w' ∧ ABorn g w M0 w0 st a ob f v w' := by
  unfold aMakeV at ha
  split at ha
  · rename_i y hty
    split at ha
    · rename_i z hk hz
      split at ha
      · rename_i k1 n k2 m hl hcp
        split at ha
        · rename_i hcond
          simp only [Bool.and_eq_true, decide_eq_true_eq, beq_iff_eq] at hcond
          obtain ⟨c1, c2⟩ := hcond
          simp only [Option.some.injEq, Prod.mk.injEq] at ha
          obtain ⟨rfl, rfl, rfl⟩ := ha
          obtain ⟨d1, d2, d3, d4⟩ := hc
          rw [int_of hl (h.ev l), int_of hcp (h.ev cp)]
          obtain ⟨i, zv, hi, hzv, hs, hb, hzc⟩ := tyOf.info hz
          have hr := run_make (P := P) w t y.elem i zv (tyOf.slice hty hk) hi hzv k1 k2 n m d1 d2 (by rw [hb, Int.mul_comm]; omega) (by omega)
          have hzero := zero_flat zv z.zero hzc m.toNat
          rw [c2] at hzero
          obtain ⟨n, rfl⟩ := Int.eq_ofNat_of_zero_le d1
          obtain ⟨m, rfl⟩ := Int.eq_ofNat_of_zero_le (by omega : 0 ≤ m)
          simp only [Int.toNat_natCast] at hr hzero ⊢
          have hmade : madeCells zv.cells (m * i.size) = ((List.replicate m z.zero).flatten).toArray := by rw [hs]; exact hzero
          rw [hmade] at hr
          obtain ⟨q1, q2⟩ := repv_zero (g := g) (st := st) (w := w) c2 n
          by_cases h0 : m = 0
          · subst h0
            have hn0 : n = 0 := by omega
            subst hn0
            have hb := h.birth0 (w' := w.alloc (.cells ((List.replicate 0 z.zero).flatten).toArray y.elem)) (hp' := st.hp ++ [.r ⟨y.elem, z.size, sameT l cp, rep 0 (z.zero.map C.v)⟩]) (id := st.hp.length) (r := ⟨y.elem, z.size, sameT l cp, rep 0 (z.zero.map C.v)⟩) bn_len (push_ne _) (push_self _) (List.eq_nil_of_length_eq_zero (by simpa using q1)) (Fp.alloc _ _ _)
            refine ⟨_, _, hr, _, ext_at (Nat.le_refl _), Fp.alloc _ _ _, hb, push_bn rfl, Nat.zero_le _, _, by rw [g.at_self.2], fun hn => absurd g.at_self.2 hn, fun b hb => by cases hb; simp⟩
          · have hle : n * z.size ≤ m * z.size := Nat.mul_le_mul_right _ (by omega)
            have hb := h.birth (hp' := st.hp ++ [.r ⟨y.elem, z.size, sameT l cp, rep n (z.zero.map C.v)⟩]) (id := st.hp.length) (c := m) (r := ⟨y.elem, z.size, sameT l cp, rep n (z.zero.map C.v)⟩) (us := (List.replicate m z.zero).flatten) bn_len (push_ne _) (push_self _) h0 (fun hs hcs => by
                have he : st.ev l = st.ev cp := sameT_eq hs
                rw [hl, hcp] at he
                injection he with he
                injection he with he
                injection he with he
                injection he with _ he
                have hnm : n = m := by omega
                simp only at hcs
                rw [hcs] at q1
                have := Nat.mul_pos (Nat.pos_of_ne_zero h0) c1
                simp at q1; rw [hnm] at q1; omega) (by omega)
              (by rw [q1]; simp [c2]; exact hle) (by simp [c2]) (fun j x hj => by
                obtain ⟨u, e1, e2⟩ := q2 j x hj
                refine ⟨u, ?_, e2⟩
                have hj1 : j < n * z.size := by rw [← q1]; exact (List.getElem?_eq_some_iff.1 hj).1
                rw [rep_flat _ _ _ (by rw [c2]; exact hj1)] at e1
                rw [rep_flat _ _ _ (by rw [c2]; omega)]
                exact e1)
            refine ⟨_, _, hr, _, ext_at (Nat.le_refl _), Fp.alloc _ _ _, hb, push_bn rfl, by rw [g.at_self.2]; omega, _, by rw [g.at_self.2], fun _ => by rw [g.at_self.1], fun b hb => by cases hb; simp⟩
        · cases ha
      · cases ha
    · cases ha
  · cases ha
end
def evMk (P : Program) (o : Oper) (st : ST) (K : ST → Prop) (t : TypeId) (l c : Operand) : Prop :=
  match aMakeV P st.ev t l c with
  | some (c, ob, f) => c ∧ K ({ st with hp := st.hp ++ [ob] }.put o.dst (f st.hp.length))
  | none => False
section
variable {P : Program} {o : Oper} {st : ST} {K : ST → Prop}
theorem Stp.mono {K' : ST → Prop} (h : Stp P o st K) (hk : ∀ s, K s → K' s) : Stp P o st K' := fun M0 w0 a w N Q hR hN => h M0 w0 a w N Q hR fun st' a' w' h1 h2 => hN st' a' w' (hk _ h1) h2
theorem stp_mk (hd : dok o st.n = true) {t : TypeId} {l c : Operand} (ho : o.op = .makeSlice t l c) (h : evMk P o st K t l c) : Stp P o st K := by
  intro M0 w0 a w N Q hR hN
  obtain ⟨g, ⟨hp1, hp2⟩, hR⟩ := hR
  unfold evMk at h
  split at h
  · rename_i c ob f hop
    obtain ⟨v, w', h1, g', hx, _, h2, h3⟩ := aMakeV_sound (P := P) hR hop h.1
    have hrun : (execOp a.eval o).run P w = .ok (.value v) w' := by
      unfold execOp
      simp [ho, h1]
    unfold Oper.wp
    rw [hrun]
    exact hN _ _ _ h.2 ⟨g', ⟨by cases o.dst <;> (simp [ST.put]; omega), by cases o.dst <;> exact hp2.trans (hx.le hp1)⟩, h2.put (dok_lt hd) h3⟩
  · exact h.elim
/-- a value compared with nil, where it is known whether it is nil -/
theorem stp_nilV (hd : dok o st.n = true) {op : BinOp} {t e yt : TypeId} {x : Operand} (ho : o.op = .binOp op t x (.const (.slice none 0 0)) yt) (ht : P.underlying t = some (.slice e)) (hop : op = .eql ∨ op = .neq)
    {b : Bool} (hx : (b = true ∧ st.ev x = .a (.c (.v (.slice none 0 0)))) ∨ (b = false ∧ ∃ id off n k, st.ev x = .a (.c (.w id off n k)))) (h : K (st.put o.dst (.b (if op = .eql then b else !b)))) : Stp P o st K := by
  intro M0 w0 a w N Q hR hN
  obtain ⟨g, hpp, hR⟩ := hR
  have hv := hR.ev x
  obtain ⟨A, n, c, hv, hA⟩ : ∃ A n c, a.eval x = .slice A n c ∧ A.isNone = b := by
    rcases hx with ⟨rfl, hx⟩ | ⟨rfl, id, off, n, k, hx⟩
    · rw [hx] at hv; exact ⟨_, _, _, hv, rfl⟩
    · rw [hx] at hv; obtain ⟨_, _, _, hv⟩ := hv; exact ⟨_, _, _, hv, rfl⟩
  have q1 := Lib.run_eql_slice_nil (P := P) w t e A n c 0 0 ht
  have q2 := Go.run_neq_slice_nil (P := P) w t e A n c ht
  have hrun : (execOp a.eval o).run P w = .ok (.value (.bool (if op = .eql then b else !b))) w := by
    unfold execOp
    have hv2 : a.eval (.const (.slice none 0 0)) = .slice none 0 0 := rfl
    subst hA
    rcases hop with rfl | rfl
    · simp only [ho, hv, hv2, Sem.run_bind, eqGuard, q1]
      simp [q1]
    · simp only [ho, hv, hv2, Sem.run_bind, eqGuard, q2]
      simp [q2]
  unfold Oper.wp
  rw [hrun]
  exact hN _ _ _ h ⟨g, by cases o.dst <;> exact hpp, hR.put (dok_lt hd) rfl⟩
/-- an append of nothing gives the slice itself -/
theorem stp_ap0 (hd : dok o st.n = true) {t : TypeId} {s x : Operand} {y z : Ty} (ho : o.op = .call ⟨.builtin .append, #[s, x], #[t, t]⟩) (hty : tyOf P t = some y) (hk : y.kind = 1) (hz : tyOf P y.elem = some z)
    {b : C} (hs : st.ev s = .a (.c b)) (hb : b = .v (.slice none 0 0) ∨ ∃ id n, b = .s id n) (hx : st.ev x = .a (.c (.v (.slice none 0 0))) ∨ (∃ id, st.ev x = .a (.c (.s id 0))) ∨ ∃ k, 0 < k ∧ st.ev x = .a (.c (.t k [])))
    (h : K (st.put o.dst (.a (.c b)))) : Stp P o st K := by
  intro M0 w0 a w N Q hR hN
  obtain ⟨g, hpp, hR⟩ := hR
  have hvs := hR.ev s
  have hvx := hR.ev x
  rw [hs] at hvs
  obtain ⟨A, n, c, e1, hnc⟩ : ∃ A n c, a.eval s = .slice A n c ∧ n ≤ c := by
    rcases hb with rfl | ⟨id, n, rfl⟩
    · exact ⟨_, _, _, hvs, Nat.le_refl _⟩
    · obtain ⟨_, h2, A, h3, _⟩ := hvs; exact ⟨_, _, _, h3, h2⟩
  obtain ⟨B, d, e2⟩ : ∃ B d, a.eval x = .slice B 0 d := by
    rcases hx with hx | ⟨id, hx⟩ | ⟨k, hk0, hx⟩
    · rw [hx] at hvx; exact ⟨_, _, hvx⟩
    · rw [hx] at hvx; obtain ⟨_, _, A, h3, _⟩ := hvx; exact ⟨_, _, h3⟩
    · rw [hx] at hvx
      obtain ⟨A, m, c, h1, h2, _⟩ := Rd.form hvx
      have hvx : Rd _ _ _ _ := hvx
      rw [h1] at hvx
      generalize hm : m = m' at hvx
      cases hvx with
      | e => subst hm; exact ⟨_, _, h1⟩
      | l _ _ _ _ _ _ us hn h0 => exact absurd hn (by have := Nat.mul_pos h0 hk0; simp; omega)
  have hts := tyOf.slice hty hk
  obtain ⟨i, zv, hi, hzv, _, _, _⟩ := tyOf.info hz
  have hrun : (execOp a.eval o).run P w = .ok (.value (.slice A n c)) w := by
    unfold execOp
    simp only [ho, resolve, invoke, builtin, Sem.run_bind, Sem.run_pure, Result.andThen_ok, List.map_toArray, List.map_cons, List.map_nil, e1, e2]
    cases A <;> cases B <;> simp [Builtin.append_, run_underlying hts, sizeOf, typeInfo, hi, Builtin.lenOf, Builtin.firstCells, hnc, loadCells, loadCellsFrom, storeCells]
  unfold Oper.wp
  rw [hrun]
  refine hN _ _ _ h ⟨g, by cases o.dst <;> exact hpp, hR.put (dok_lt hd) ?_⟩
  rw [← e1]; exact hvs
/-- a call that may touch all objects -/
theorem stp_callAll {fop : Operand} {args : Array Operand} {ts : Array TypeId} {f : FuncId} {ids : List Nat} {R : AV → List Ob → Prop}
    (hd : dok o st.n = true) (ho : o.op = .call { callee := .value fop, args := args, argTypes := ts }) (hf : st.ev fop = .a (.c (.f f ids))) (hcal : callable P f = true)
    (hFC : FC P f (args.toList.map st.ev ++ clos ids) st.hp R)
    (hb : ∀ r outs, R r outs → ∀ (i : Nat) (o : Ob), outs[i]? = some o → okOb o = true)
    (hK : ∀ r outs, R r outs → K ({ st with hp := outs }.put o.dst r)) : Stp P o st K := by
  intro M0 w0 a w N Q hR hN
  obtain ⟨g, ⟨hp1, hp2⟩, hR⟩ := hR
  have hfv := hR.ev fop
  rw [hf] at hfv
  obtain ⟨hids, hfv⟩ := hfv
  have hargs : argsR g st.hp w (args.toList.map st.ev ++ clos ids) ((args.map a.eval).toList ++ ids.map fun id => Value.pointer (some ⟨g.γ (.ob id), 0, none⟩)) := by
    refine ⟨by simp [clos], fun i y hy => ?_⟩
    rcases Nat.lt_or_ge i (args.toList.map st.ev).length with hl | hl
    · rw [List.getElem?_append_left hl, List.getElem?_map, Option.map_eq_some_iff] at hy
      obtain ⟨q, hq, rfl⟩ := hy
      refine ⟨a.eval q, ?_, hR.ev q⟩
      rw [List.getElem?_append_left (by simpa using hl)]
      simp only [Array.toList_map, List.getElem?_map, hq, Option.map_some]
    · rw [List.getElem?_append_right hl] at hy
      unfold clos at hy
      rw [List.getElem?_map, Option.map_eq_some_iff] at hy
      obtain ⟨id, hid, rfl⟩ := hy
      refine ⟨.pointer (some ⟨g.γ (.ob id), 0, none⟩), ?_, ⟨hids id (List.mem_of_getElem? hid), rfl⟩⟩
      rw [List.getElem?_append_right (by simpa using hl)]
      simp only [List.length_map, Array.toList_map] at hid ⊢
      rw [List.getElem?_map, hid]; rfl
  have hcall := hFC g w _ hR.hr hargs
  unfold Oper.wp execOp
  simp only [ho, resolve, hfv, clo, Deferred.ofValue, Sem.run_bind, Sem.run_pure, Result.andThen_ok, invoke]
  have e1 : (#[] ++ args.map a.eval ++ (ids.map fun id => Value.pointer (some ⟨g.γ (.ob id), 0, none⟩)).toArray) = ((args.map a.eval).toList ++ ids.map fun id => Value.pointer (some ⟨g.γ (.ob id), 0, none⟩)).toArray := by simp
  rw [e1, run_callFunc_body hcal]
  refine Calls.mono hcall ?_
  rintro e w' ⟨v, r, outs, g', rfl, hr, hHR', ⟨hlen, hext⟩, hnew, hv, hfp⟩
  have hmo : Mo g st.hp w g' outs w' (fun _ => True) := by
    refine ⟨fun id hid => ?_, fun b hb ho => ?_, hfp.size, fun b hb ho => hfp.block b hb (fun ⟨ℓ, hl, e⟩ => ho (.inr ⟨ℓ, hl, e⟩)), fun id _ _ r' j k cs e1 e2 => ?_⟩
    · obtain ⟨o1, h1, _⟩ := hid
      have hlt : id < st.hp.length := (List.getElem?_eq_some_iff.1 h1).1
      have hlt' : id < outs.length := by omega
      exact ⟨⟨outs[id], List.getElem?_eq_getElem hlt', okOb_born (hb r outs hr id _ (List.getElem?_eq_getElem hlt'))⟩, hext.2 id hlt⟩
    · rcases ho with ho | ⟨ℓ, hl, e⟩
      · rw [hext.1] at ho; exact .inl ho
      · rcases hnew ℓ hl with ⟨ℓ0, h1, h2⟩ | h1
        · exact .inr ⟨ℓ0, h1, h2.trans e⟩
        · omega
    · have := hb r outs hr id _ e1
      have := List.all_eq_true.1 (show r'.cells.all C.pl = true from this) _ (List.mem_of_getElem? e2)
      cases this
  have hback : RelG g' M0.P w0 { st with hp := outs } a w' := by
    refine ⟨hHR', fun ℓ hl => ?_, fun d => AVR.mo hmo (hR.tm d), hR.n, hR.df, ?_⟩
    · rcases hnew ℓ hl with ⟨ℓ0, h1, h2⟩ | h1
      · rw [← h2]; exact hR.new ℓ0 h1
      · exact .inr (Nat.le_trans hR.fp.size h1)
    · refine ⟨hfp.os.trans hR.fp.os, hfp.tape.trans hR.fp.tape, hfp.output.trans hR.fp.output, Nat.le_trans hR.fp.size hfp.size, fun k hk hMk => ?_, Nat.le_trans hR.fp.drawn hfp.drawn⟩
      rw [← hR.fp.block k hk hMk]
      refine hfp.block k (Nat.lt_of_lt_of_le hk hR.fp.size) (fun ⟨ℓ, hl, e⟩ => ?_)
      rcases hR.new ℓ hl with q | q
      · exact hMk (e ▸ q)
      · omega
  have hp3 : st.pin ≤ outs.length := by omega
  exact hN _ _ _ (hK r outs hr) ⟨g', ⟨by cases o.dst <;> exact hp3, by cases o.dst <;> exact hp2.trans (hext.le hp1)⟩, hback.put (dok_lt hd) hv⟩
end
end Go.Proofs.YtknidjnbfnpkdaaGreat
