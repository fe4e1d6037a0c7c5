/- The runner: more steps that hold. -/
import Derived.Test.YtgclmlbaodcccaaAm36
namespace Go.Proofs.Ytgclmlbaodcccaa
set_option linter.unusedVariables false
set_option linter.unusedSimpArgs false
open Go.RowKit

section
variable {P : Program} {T : Tb} {o : Oper} {st : ST} {K : ST → Prop}
theorem tyOf.str {t : TypeId} {y : Ty} (h : tyOf P t = some y) (hk : y.kind = 4) : P.underlying t = some .string := by
  obtain ⟨i, u, z, hi, hu, hz, hd, rfl⟩ := tyOf_ex h
  cases u <;> simp [kindD] at hk
  exact hu
theorem tyOf.map {t : TypeId} {y : Ty} (h : tyOf P t = some y) (hk : y.kind = 3) {kt e : TypeId} (hu : P.underlying t = some (.map kt e)) : y.elem = e := by
  obtain ⟨i, u, z, hi, hu', hz, hd, rfl⟩ := tyOf_ex h
  rw [hu] at hu'
  cases hu'
  rfl
/-- an operation that gives a value and changes nothing -/
theorem stp_val {v : AV} (hd : dok o st.n = true) (h : ∀ (g : Gh) (w : World) (ρ : Operand → Value), HR g st.hp w → (∀ x, AVR (CR g st.hp w) (st.ev x) (ρ x)) → ∃ u, (execOp ρ o).run P w = .ok (.value u) w ∧ AVR (CR g st.hp w) v u)
    (hk : K (st.put o.dst v)) : Stp P o st K := by
  intro M0 w0 a w N Q hR hN
  obtain ⟨g, ⟨hp1, hp2⟩, hR⟩ := hR
  obtain ⟨u, h1, h2⟩ := h g w a.eval hR.hr hR.ev
  unfold Oper.wp
  rw [h1]
  exact hN _ _ _ hk ⟨g, ⟨by cases o.dst <;> exact hp1, by cases o.dst <;> exact hp2⟩, hR.put (dok_lt hd) h2⟩
theorem intX_ok {op : BinOp} {k k' : IntKind} {a b : Int} {v : Value} (h : intX op k k' a b = some v) (t : TypeId) (x y : Operand) (w : World) : (do eqGuard op t x y (.int k a) (.int k' b); binOp op t (.int k a) (.int k' b) : Sem Value).run P w = .ok v w := by
  have same : ∀ {z : Value}, (bif decide (k = k') then some z else none) = some v → k = k' ∧ z = v := by
    intro z h
    obtain ⟨h1, h2⟩ := condS h
    exact ⟨by simpa using h1, h2⟩
  cases op <;> simp only [intX, reduceCtorEq] at h
  case shl =>
    obtain ⟨h1, rfl⟩ := condS h
    simp only [decide_eq_true_eq] at h1
    simp [eqGuard, binOp, Op.shift, show ¬ b < 0 by omega]
  case shr =>
    obtain ⟨h1, rfl⟩ := condS h
    simp only [decide_eq_true_eq] at h1
    simp [eqGuard, binOp, Op.shift, show ¬ b < 0 by omega]
  case add => obtain ⟨rfl, rfl⟩ := same h; simp [eqGuard, binOp, Op.intArith]
  case sub => obtain ⟨rfl, rfl⟩ := same h; simp [eqGuard, binOp, Op.intArith]
  case mul => obtain ⟨rfl, rfl⟩ := same h; simp [eqGuard, binOp, Op.intArith]
  case and => obtain ⟨rfl, rfl⟩ := same h; simp [eqGuard, binOp, Op.intBits]
  case or => obtain ⟨rfl, rfl⟩ := same h; simp [eqGuard, binOp, Op.intBits]
  case xor => obtain ⟨rfl, rfl⟩ := same h; simp [eqGuard, binOp, Op.intBits]
theorem rE_ok (hT : TbOk P T) {ev : Operand → AV} {v : AV} (h : rE T o.op ev = some v) (g : Gh) (hp : List Ob) (w : World) (ρ : Operand → Value) (hR : ∀ x, AVR (CR g hp w) (ev x) (ρ x)) :
    ∃ u, (execOp ρ o).run P w = .ok (.value u) w ∧ AVR (CR g hp w) v u := by
  obtain ⟨dst, op, ty, pos, af, gd⟩ := o
  simp only at h
  unfold rE at h
  split at h
  · rename_i op t x y yt
    split at h
    · rename_i k a k' b hx hy
      cases hi : intX op k k' a b with
      | none => rw [hi] at h; cases h
      | some u =>
        rw [hi] at h
        cases h
        have e1 := hR x
        have e2 := hR y
        rw [hx] at e1
        rw [hy] at e2
        have e1 : ρ x = .int k a := e1
        have e2 : ρ y = .int k' b := e2
        refine ⟨u, ?_, rfl⟩
        have := intX_ok (P := P) hi t x y w
        simp only [execOp, e1, e2]
        rw [Sem.run_bind, this]
        rfl
    · cases h
  · rename_i t x l
    split at h
    · rename_i z id n kk i hz hx hl
      obtain ⟨hc, rfl⟩ := condS h
      have hc : i = n := by simpa using hc
      have e1 := hR x
      have e2 := hR l
      rw [hx] at e1
      rw [hl] at e2
      obtain ⟨_, hn, A, e1, _⟩ := e1
      have e2 : ρ l = .int kk i := e2
      obtain ⟨e, h2, h4, h3⟩ := elSize_run (rEl_ok hT hz)
      subst hc
      refine ⟨.slice (cutA A (g.κ id) n (z + 1)) (n - n) (g.κ id - n), ?_, ?_⟩
      · simp only [execOp, Option.map_some, Option.map_none, e1, e2, Sem.run_bind, sliceAt_eq h2]
        rw [run_slice_l w t _ _ _ (by rw [h4]; exact h2) _ (n : Int) (by omega) (by omega), h4, h3]
        simp [sliced, Result.andThen, cutA]
      · rw [Nat.sub_self]
        exact Rd.e _ _ _
    · cases h
  · rename_i t x l
    split at h
    · rename_i z kk i hz hx hl
      obtain ⟨hc, rfl⟩ := condS h
      have hc : i = 0 := by simpa using hc
      have e1 := hR x
      have e2 := hR l
      rw [hx] at e1
      rw [hl] at e2
      have e1 : ρ x = .slice none 0 0 := e1
      have e2 : ρ l = .int kk i := e2
      obtain ⟨e, h2, h4, h3⟩ := elSize_run (rEl_ok hT hz)
      subst hc
      refine ⟨.slice none 0 0, ?_, rfl⟩
      simp only [execOp, Option.map_some, Option.map_none, e1, e2, Sem.run_bind, sliceAt_eq h2]
      rw [run_slice_h w t _ _ _ (by rw [h4]; exact h2) _ 0 (by omega) (by omega), h4, h3]
      simp [sliced, Result.andThen]
    · cases h
  · rename_i t x l
    split at h
    · rename_i y s kk i hy hx hl
      rw [Bool.cond_eq_ite] at h
      split at h
      · rename_i hc
        simp only [beqT, Bool.and_eq_true, decide_eq_true_eq] at hc
        cases hs : s[i.toNat]? with
        | none => rw [hs] at h; cases h
        | some b =>
          rw [hs] at h
          cases h
          have e1 := hR x
          have e2 := hR l
          rw [hx] at e1
          rw [hl] at e2
          have e1 : ρ x = .string s := e1
          have e2 : ρ l = .int kk i := e2
          have hu := tyOf.str (hT.t hy) hc.1
          refine ⟨.int .u8 b.toNat, ?_, rfl⟩
          simp [execOp, e1, e2, Instr.index, asIntOf, run_underlying hu, hc.2, hs]
      · cases h
    · cases h
  · cases h
/-- a value loaded from a map -/
theorem lookup_ok (hT : TbOk P T) {rs : RS} (hRR : RR rs st) {t : TypeId} {x ix : Operand} {ok : Bool} {v : AV} (ho : o.op = .lookup t x ix ok) (h : rLookup T rs t x ix ok = some v) (g : Gh) (w : World) (ρ : Operand → Value) (hr : HR g st.hp w) (hR : ∀ x, AVR (CR g st.hp w) (st.ev x) (ρ x)) :
    ∃ u, (execOp ρ o).run P w = .ok (.value u) w ∧ AVR (CR g st.hp w) v u := by
  obtain ⟨dst, op, ty, pos, af, gd⟩ := o
  simp only at ho
  subst ho
  unfold rLookup at h
  split at h
  rotate_left
  · cases h
  rename_i s zv hs
  split at h
  rotate_left
  · cases h
  rename_i id key hx hkey
  split at h
  rotate_left
  · cases h
  rename_i kv hkv hfit
  obtain ⟨kt, e, hu, hK, hze⟩ := asc_all hT.mp hs
  have hz1 : ∀ w, (zeroValue e).run P w = .ok zv w := by
    intro w
    cases hi : P.info? e with
    | none => rw [hi] at hze; cases hze
    | some i =>
      rw [hi] at hze
      simp only [Option.bind_some] at hze
      simp [zeroValue, run_typeInfo hi, hze]
  have hm : st.hp[id]? = some (.m kv) := (hRR.2.1 id).trans hkv
  obtain ⟨es, clock, m1, m2, m3⟩ := hr.mp id kv hm
  have e1 := hR x
  rw [hRR.ev, hx] at e1
  obtain ⟨_, e1⟩ := e1
  have e2 := hR ix
  rw [hRR.ev] at e2
  have e2 := keyOf_ok hkey e2
  have hpl : kv.all (fun p => p.2.pl) = true := hRR.2.2.2.2.2 id _ hkv
  have hKv : KvOk kv es.toList := ⟨by simpa using m2, fun i p hp => by
    obtain ⟨⟨e, f1, f2, _⟩, _⟩ := m3 i p hp
    exact ⟨e, by simpa using f1, f2⟩⟩
  obtain ⟨q, hq⟩ : ∃ q, keyEq s key key = some q := by
    unfold keyFit at hfit
    split at hfit
    · exact ⟨_, ‹_›⟩
    · cases hfit
  have hck := hK.ck key q hq es.isEmpty w
  split at h
  · rename_i j c hf
    obtain ⟨h1, h2⟩ := find_ok hK key w hKv hf
    obtain ⟨k', h3, h4⟩ := h2 j c rfl
    obtain ⟨⟨e, f1, f2, f3⟩, f4⟩ := m3 j _ h3
    have hc : CR g st.hp w c e.val := by
      have := List.all_eq_true.1 hpl _ (List.mem_of_getElem? h3)
      exact CellR.cr this f3
    have hfnd : fnd es.toList 0 (some (j, c)) = some (j, e.val) := by simp [fnd, f1]
    rw [hfnd] at h1
    cases h
    cases ok with
    | true =>
      refine ⟨.tuple #[e.val, .bool true], ?_, [e.val, .bool true], rfl, rfl, fun i a ha => ?_⟩
      · simp [execOp, Instr.lookup, run_underlying hu, e1, MapKept.run_getObj_map m1, e2, hck, h1]
      · match i, ha with
        | 0, ha => cases ha; exact ⟨_, rfl, hc⟩
        | 1, ha => cases ha; exact ⟨_, rfl, rfl⟩
    | false =>
      refine ⟨e.val, ?_, hc⟩
      simp [execOp, Instr.lookup, run_underlying hu, e1, MapKept.run_getObj_map m1, e2, hck, h1]
  · rename_i hf
    obtain ⟨h1, _⟩ := find_ok hK key w hKv hf
    have hfnd : fnd es.toList 0 none = none := rfl
    rw [hfnd] at h1
    cases h
    cases ok with
    | true =>
      refine ⟨.tuple #[zv, .bool false], ?_, [zv, .bool false], rfl, rfl, fun i a ha => ?_⟩
      · simp [execOp, Instr.lookup, run_underlying hu, e1, MapKept.run_getObj_map m1, e2, hck, h1, hz1 w]
      · match i, ha with
        | 0, ha => cases ha; exact ⟨_, rfl, rfl⟩
        | 1, ha => cases ha; exact ⟨_, rfl, rfl⟩
    | false =>
      refine ⟨zv, ?_, rfl⟩
      simp [execOp, Instr.lookup, run_underlying hu, e1, MapKept.run_getObj_map m1, e2, hck, h1, hz1 w]
  · cases h
/-- a map written -/
theorem stp_map (hT : TbOk P T) {rs : RS} {k : RS → Ans} (hRR : RR rs st) {t : TypeId} {m kx v : Operand} (ho : o.op = .mapUpdate t m kx v ∨ o.op = .insert t m kx v) (h : rMapUpd T rs t m kx v (fun rs => rs.put o.dst .u k) = .ok) :
    dok o st.n = true ∧ ∃ hp', Stp P o st (fun s => s = { st with hp := hp' }.put o.dst .u) ∧ ∃ rs', RR rs' ({ st with hp := hp' }.put o.dst .u) ∧ k rs' = .ok := by
  unfold rMapUpd at h
  split at h
  rotate_left
  · cases h
  rename_i s zv id key c hs hm hkey hv
  split at h
  rotate_left
  · cases h
  rename_i kv hkv hfit hone
  obtain ⟨kt, e, hu, hK, _⟩ := asc_all hT.mp hs
  have hmm : st.hp[id]? = some (.m kv) := (hRR.2.1 id).trans hkv
  have hpl : kv.all (fun p => p.2.pl) = true := hRR.2.2.2.2.2 id _ hkv
  obtain ⟨q, hq⟩ : ∃ q, keyEq s key key = some q := by
    unfold keyFit at hfit
    split at hfit
    · exact ⟨_, ‹_›⟩
    · cases hfit
  have main : ∀ (kv' : List (Value × C)), (∀ (g : Gh) (w : World) (es : Array MapEntry) (clock : Nat) (u : Value), w.heap[g.γ (.ob id)]? = some (.map es clock) → KvOk kv es.toList → CR g st.hp w c u → (∀ (i : Nat) (p : Value × C), kv[i]? = some p → ∃ e : MapEntry, es[i]? = some e ∧ e.key = p.1 ∧ CellR g st.hp w id 0 p.2 e.val) →
      ∃ es' clock', (Instr.mapUpdate t (.map (some (g.γ (.ob id)))) key u).run P w = .ok () { w with heap := w.heap.setIfInBounds (g.γ (.ob id)) (.map es' clock') } ∧ es'.size = kv'.length ∧
        ∀ (i : Nat) (p : Value × C), kv'[i]? = some p → ∃ e : MapEntry, es'[i]? = some e ∧ e.key = p.1 ∧ CellR g st.hp w id 0 p.2 e.val) →
      (∀ p ∈ kv', p.2.pl = true) → rs.upd id (.m kv') (fun rs => rs.put o.dst .u k) = .ok → dok o st.n = true ∧ ∃ hp', Stp P o st (fun s => s = { st with hp := hp' }.put o.dst .u) ∧ ∃ rs', RR rs' ({ st with hp := hp' }.put o.dst .u) ∧ k rs' = .ok := by
    intro kv' hmain hpl' hupd
    obtain ⟨rs1, h1, h2⟩ := RS.upd_ok hRR hupd
    obtain ⟨h3, rs2, h4, h5⟩ := RS.put_ok h2 h1
    have hd : dok o st.n = true := by
      unfold dok
      split
      · rename_i d hd; simpa using h3 d hd
      · rfl
    refine ⟨hd, _, ?_, rs2, h5, h4⟩
    intro M0 w0 a w N Q hR hN
    obtain ⟨g, ⟨hp1, hp2⟩, hR⟩ := hR
    have e1 := hR.ev m
    rw [hRR.ev, hm] at e1
    obtain ⟨_, e1⟩ := e1
    have e2 := hR.ev kx
    rw [hRR.ev] at e2
    have e2 := keyOf_ok hkey e2
    have e3 := hR.ev v
    rw [hRR.ev, hv] at e3
    obtain ⟨es, clock, m1, m2, m3⟩ := hR.hr.mp id kv hmm
    have hKv : KvOk kv es.toList := ⟨by simpa using m2, fun i p hp => by
      obtain ⟨⟨e, f1, f2, _⟩, _⟩ := m3 i p hp
      exact ⟨e, by simpa using f1, f2⟩⟩
    obtain ⟨es', clock', r1, r2, r3⟩ := hmain g w es clock _ m1 hKv e3 (fun i p hp => (m3 i p hp).1)
    have hset := hR.mapset (es' := es') (clock := clock') hmm r2 (fun i p hp => ⟨r3 i p hp, fun k' cs e => by
      have := hpl' p (List.mem_of_getElem? hp)
      rw [e] at this
      cases this⟩)
    have hrun : (execOp a.eval o).run P w = .ok .skip { w with heap := w.heap.setIfInBounds (g.γ (.ob id)) (.map es' clock') } := by
      unfold execOp
      rcases ho with ho | ho <;> simp [ho, e1, e2, r1]
    unfold Oper.wp
    rw [hrun]
    exact hN _ _ _ rfl ⟨g, ⟨by cases o.dst <;> (simp [ST.put]; omega), by cases o.dst <;> exact hp2⟩, hset.put (dok_lt hd) trivial⟩
  have hcell : ∀ {g : Gh} {w : World} {u : Value}, CR g st.hp w c u → CellR g st.hp w id 0 c u := fun h => cellR_of_one hone h
  have hcpl : c.pl = true := by cases c <;> first | rfl | cases hone
  split at h
  · rename_i j c0 hf
    refine main _ (fun g w es clock u m1 hKv hc hes => ?_) (fun p hp => ?_) h
    · obtain ⟨h1, h2⟩ := find_ok hK key w hKv hf
      obtain ⟨k', h3, h4⟩ := h2 j c0 rfl
      obtain ⟨e, f1, f2, f3⟩ := hes j _ h3
      simp only at f2
      have hfnd : fnd es.toList 0 (some (j, c0)) = some (j, e.val) := by simp [fnd, f1]
      rw [hfnd] at h1
      have hsb := same_bits h4
      refine ⟨es.modify j fun e => { e with key := key, val := u }, clock, ?_, ?_, fun i p hp => ?_⟩
      · simp [Instr.mapUpdate, run_underlying hu, MapKept.run_getObj_map m1, hK.ck key q hq, h1, f1, f2, Instr.keyThatStays, hsb, MapKept.run_setObj_map _ m1]
      · have := hKv.1
        simpa using this
      · rw [List.getElem?_set] at hp
        split at hp
        · rename_i hji
          subst hji
          have hlt : j < kv.length := (List.getElem?_eq_some_iff.1 h3).1
          rw [if_pos hlt] at hp
          cases hp
          exact ⟨{ key := key, val := u, born := e.born }, by simp [Array.getElem?_modify, f1], rfl, hcell hc⟩
        · rename_i hji
          obtain ⟨e', g1, g2, g3⟩ := hes i p hp
          exact ⟨e', by simp [Array.getElem?_modify, hji, g1], g2, g3⟩
    · rcases List.mem_or_eq_of_mem_set hp with hp | rfl
      · exact List.all_eq_true.1 hpl p hp
      · exact hcpl
  · rename_i hf
    refine main _ (fun g w es clock u m1 hKv hc hes => ?_) (fun p hp => ?_) h
    · obtain ⟨h1, _⟩ := find_ok hK key w hKv hf
      have hfnd : fnd es.toList 0 none = none := rfl
      rw [hfnd] at h1
      have hl : es.size = kv.length := by simpa using hKv.1
      refine ⟨es.push { key := key, val := u, born := clock }, clock + 1, ?_, by simp [hl], fun i p hp => ?_⟩
      · simp [Instr.mapUpdate, run_underlying hu, MapKept.run_getObj_map m1, hK.ck key q hq, h1, MapKept.run_setObj_map _ m1]
      · rcases Nat.lt_or_ge i kv.length with hi | hi
        · rw [List.getElem?_append_left hi] at hp
          obtain ⟨e', g1, g2, g3⟩ := hes i p hp
          exact ⟨e', by rw [Array.getElem?_push_lt (by omega)]; rw [← g1]; simp [show i < es.size by omega], g2, g3⟩
        · rw [List.getElem?_append_right hi] at hp
          have hi' : i = kv.length := by
            have := (List.getElem?_eq_some_iff.1 hp).1
            simp at this
            omega
          subst hi'
          simp at hp
          subst hp
          exact ⟨{ key := key, val := u, born := clock }, by rw [← hl]; simp, rfl, hcell hc⟩
    · rcases List.mem_append.1 hp with hp | hp
      · exact List.all_eq_true.1 hpl p hp
      · simp at hp; subst hp; exact hcpl
  · cases h
theorem win_ok {g : Gh} {hp : List Ob} {w : World} {z i off n : Nat} {x : AV} {y : Value} (h : rWin z x = some (i, off, n)) (h0 : 0 < n) (hR : AVR (CR g hp w) x y) : ∃ c, y = .slice (some ⟨g.γ (.ob i), off * z, none⟩) n c := by
  unfold rWin at h
  split at h
  · cases h
    obtain ⟨_, h1, A, h2, h3, _⟩ := hR
    exact ⟨g.κ i, by rw [h2, h3 (by omega)]; simp⟩
  · rename_i id2 off2 n2 zz
    obtain ⟨hc, he⟩ := condS h
    cases he
    have hc : zz = z := by simpa [beqT] using hc
    subst hc
    obtain ⟨_, _, _, h2⟩ := hR
    exact ⟨_, h2⟩
  · cases h
theorem stp_copy (hd : dok o st.n = true) {d s : Operand} {t t' : TypeId} {y z : Ty} (ho : o.op = .call ⟨.builtin .copy, #[d, s], #[t, t']⟩) (hty : tyOf P t = some y) (hk : y.kind = 1) (hz : tyOf P y.elem = some z) {i off n j p m : Nat}
    (hdst : rWin z.size (st.ev d) = some (i, off, n)) (hsrc : rWin z.size (st.ev s) = some (j, p, m)) {r r' : Row} (hi : st.hp[i]? = some (.r r)) (hj : st.hp[j]? = some (.r r')) {l : Nat} (hl : l = min m n) (h0 : 0 < l) (hz0 : 0 < z.size)
    {cs : List C} (hcs : cs = (r'.cells.drop (p * z.size)).take (l * z.size)) (hone : cs.all C.one = true) (hlen : cs.length = l * z.size) (hfit : off * z.size + l * z.size ≤ r.cells.length)
    (h : K ({ st with hp := st.hp.set i (.r { r with cells := setC r.cells (off * z.size) cs }) }.put o.dst (.i (l : Nat)))) : Stp P o st K := by
  intro M0 w0 a w N Q hR hN
  obtain ⟨g, ⟨hp1, hp2⟩, hR⟩ := hR
  have hpos : 0 < l * z.size := Nat.mul_pos h0 hz0
  obtain ⟨c1, e1⟩ := win_ok hdst (by omega) (hR.ev d)
  obtain ⟨c2, e2⟩ := win_ok hsrc (by omega) (hR.ev s)
  have hki : g.κ i ≠ 0 := by
    rcases hR.hr.row i r hi with ⟨_, h2⟩ | ⟨h2, _⟩
    · rw [h2] at hfit; simp at hfit; omega
    · exact h2
  rcases hR.hr.row j r' hj with ⟨_, h2⟩ | ⟨hkj, _, arr, ha, hla, hs, _, hcells⟩
  · rw [hcs, h2] at hlen; simp at hlen; omega
  have hlr : LR (CR g st.hp w) cs ((arr.toList.drop (p * z.size)).take (l * z.size)) := by
    have hle : p * z.size + l * z.size ≤ r'.cells.length := by
      rw [hcs] at hlen
      simp at hlen
      omega
    refine ⟨by rw [hlen]; simp; omega, fun q c hq => ?_⟩
    have h1 := List.all_eq_true.1 hone c (List.mem_of_getElem? hq)
    rw [hcs, List.getElem?_take] at hq
    rw [List.getElem?_take]
    split at hq
    · rename_i hlt
      rw [List.getElem?_drop] at hq ⊢
      obtain ⟨u, f1, f2⟩ := hcells _ c hq
      exact ⟨u, by rw [if_pos hlt]; simpa using f1, f2.cr (by cases c <;> first | rfl | cases h1)⟩
    · cases hq
  have hload : (loadCells ⟨g.γ (.ob j), p * z.size, none⟩ (l * z.size)).run P w = .ok ((arr.toList.drop (p * z.size)).take (l * z.size)).toArray w := by
    unfold loadCells
    rw [run_loadCellsFrom _ _ _ 0 ((arr.toList.drop (p * z.size)).take (l * z.size)) #[] (by rw [hlr.1, hlen]) (fun q u hq => ?_)]
    · simp
    · rw [Nat.zero_add, cell_of_row _ _ _ _ _ _ ha]
      rw [List.getElem?_take] at hq
      split at hq
      · rw [List.getElem?_drop] at hq
        simpa using hq
      · cases hq
  obtain ⟨w', r1, r2⟩ := run_storeCells_rel (P := P) (off := off * z.size) hki cs _ 0 st w r hR hi hlr hone (by omega)
  have hrun : (execOp a.eval o).run P w = .ok (.value (.int .i64 l)) w' := by
    have hn : Nat.min m n = l := hl.symm
    unfold execOp
    simp only [ho, resolve, invoke, builtin, Sem.run_bind, Sem.run_pure, Result.andThen_ok, List.map_toArray, List.map_cons, List.map_nil, e1, e2]
    simp [Builtin.copy_, run_underlying (tyOf.slice hty hk), Builtin.lenOf, Builtin.firstCells, tyOf.size hz, hn, hload, r1, goInt]
  unfold Oper.wp
  rw [hrun]
  exact hN _ _ _ h ⟨g, ⟨by cases o.dst <;> (simp [ST.put]; omega), by cases o.dst <;> exact hp2⟩, RelG.put (st := { st with hp := st.hp.set i (.r { r with cells := setC r.cells (off * z.size) cs }) }) (by simpa using r2) (dok_lt hd) rfl⟩
theorem stp_clear0 (hd : dok o st.n = true) {x : Operand} {t : TypeId} {y : Ty} (ho : o.op = .call ⟨.builtin .clear, #[x], #[t]⟩) (hty : tyOf P t = some y) (hk : y.kind = 1) {k : Nat} (hk0 : 0 < k) (hx : st.ev x = .a (.c (.t k []))) (h : K (st.put o.dst .u)) : Stp P o st K := by
  intro M0 w0 a w N Q hR hN
  obtain ⟨g, ⟨hp1, hp2⟩, hR⟩ := hR
  have hvx := hR.ev x
  rw [hx] at hvx
  obtain ⟨B, d, e2⟩ : ∃ B d, a.eval x = .slice B 0 d := by
    obtain ⟨A, m, c, h1, h2, _⟩ := Rd.form hvx
    have hvx : Rd _ _ _ _ := hvx
    rw [h1] at hvx
    generalize hm : m = m' at hvx
    cases hvx with
    | e => subst hm; exact ⟨_, _, h1⟩
    | l _ _ _ _ _ _ us hn h0 => exact absurd hn (by have := Nat.mul_pos h0 hk0; simp; omega)
  have hrun : (execOp a.eval o).run P w = .ok (.value (.tuple #[])) w := by
    unfold execOp
    simp only [ho, resolve, invoke, builtin, Sem.run_bind, Sem.run_pure, Result.andThen_ok, List.map_toArray, List.map_cons, List.map_nil, e2]
    cases B <;> simp [Builtin.clear_, run_underlying (tyOf.slice hty hk)]
  unfold Oper.wp
  rw [hrun]
  exact hN _ _ _ h ⟨g, ⟨by cases o.dst <;> exact hp1, by cases o.dst <;> exact hp2⟩, hR.put (dok_lt hd) trivial⟩
theorem bytes_run {P : Program} {f : Value → ByteArray → Sem (ForInStep ByteArray)} (hf : ∀ (n : Int) (s : ByteArray) (w : World), (f (.int .u8 n) s).run P w = .ok (ForInStep.yield (s.push (UInt8.ofNat n.toNat))) w) (l : List Int) (w : World) :
    ∀ (s : ByteArray), (forIn (l.map (Value.int .u8)).toArray s f : Sem ByteArray).run P w = .ok ⟨⟨s.data.toList ++ l.map (fun n => UInt8.ofNat n.toNat)⟩⟩ w := by
  induction l with
  | nil => intro s; simp
  | cons x l ih =>
    intro s
    have := ih (s.push (UInt8.ofNat x.toNat))
    simp only [List.forIn_toArray] at this ⊢
    simp only [List.map_cons, List.forIn_cons, Sem.run_bind, hf, Result.andThen_ok, this]
    simp [ByteArray.push]
theorem bytesOf_ok : ∀ {cs : List C} {l : List UInt8}, bytesOf cs = some l → ∃ ns : List Int, cs = ns.map (fun n => C.v (.int .u8 n)) ∧ l = ns.map fun n => UInt8.ofNat n.toNat := by
  intro cs
  induction cs with
  | nil => intro l h; cases h; exact ⟨[], rfl, rfl⟩
  | cons c r ih =>
    intro l h
    unfold bytesOf at h
    split at h
    · rename_i h1; cases h1
    · rename_i n r' h1
      cases h1
      split at h
      · rename_i q hq
        cases h
        obtain ⟨ns, rfl, rfl⟩ := ih hq
        exact ⟨n :: ns, rfl, rfl⟩
      · cases h
    · cases h
theorem str_ok (hT : TbOk P T) {rs : RS} (hRR : RR rs st) {s d : TypeId} {x : Operand} {v : AV} (ho : o.op = .convert s d x) (h : rStr T rs s d x = some v) (g : Gh) (w : World) (ρ : Operand → Value) (hr : HR g st.hp w) (hR : ∀ x, AVR (CR g st.hp w) (st.ev x) (ρ x)) :
    ∃ u, (execOp ρ o).run P w = .ok (.value u) w ∧ AVR (CR g st.hp w) v u := by
  obtain ⟨dst, op, ty, pos, af, gd⟩ := o
  simp only at ho
  subst ho
  unfold rStr at h
  split at h
  rotate_left
  · cases h
  rename_i y z id n hy hz hx
  split at h
  rotate_left
  · cases h
  rename_i e q sl cells hk1 hk4 hik hrow
  rw [Bool.cond_eq_ite] at h
  split at h
  rotate_left
  · cases h
  rename_i hc
  simp only [beqT, Bool.and_eq_true, decide_eq_true_eq, Nat.ble_eq] at hc
  obtain ⟨rfl, hle⟩ := hc
  cases hb : bytesOf (cells.take n) with
  | none => rw [hb] at h; cases h
  | some l =>
    rw [hb] at h
    cases h
    obtain ⟨ns, e1, rfl⟩ := bytesOf_ok hb
    have hns : ns.length = n := by
      have := congrArg List.length e1
      simp at this
      omega
    have hrow' : st.hp[id]? = some (.r ⟨e, 1, sl, cells⟩) := (hRR.2.1 id).trans hrow
    have e2 := hR x
    rw [hRR.ev, hx] at e2
    obtain ⟨_, hn, A, e2, e3, _⟩ := e2
    refine ⟨.string ⟨⟨ns.map fun (m : Int) => UInt8.ofNat m.toNat⟩⟩, ?_, rfl⟩
    have hu1 := tyOf.slice (hT.t hy) hk1
    have hu2 := tyOf.str (hT.t hz) hk4
    have hu3 := hT.k hik
    have hconv : (Conv.bytesToString (.slice A n (g.κ id))).run P w = .ok (.string ⟨⟨ns.map fun (m : Int) => UInt8.ofNat m.toNat⟩⟩) w := by
      rcases hr.row id _ hrow' with ⟨h0, h2⟩ | ⟨h0, _, arr, ha, hla, hs, _, hcells⟩
      · have hn0 : n = 0 := by omega
        subst hn0
        have : ns = [] := List.eq_nil_of_length_eq_zero hns
        subst this
        cases A with
        | none => simp [Conv.bytesToString, ByteArray.empty, ByteArray.emptyWithCapacity]; rfl
        | some a => simp [Conv.bytesToString, loadCells, loadCellsFrom, ByteArray.empty, ByteArray.emptyWithCapacity]; rfl
      · rw [e3 h0]
        have hload : (loadCells ⟨g.γ (.ob id), 0, none⟩ n).run P w = .ok (ns.map (Value.int .u8)).toArray w := by
          unfold loadCells
          rw [run_loadCellsFrom _ _ _ 0 (ns.map (Value.int .u8)) #[] (by simpa using hns) (fun q u hq => ?_)]
          · simp
          · rw [cell_of_row _ _ _ _ _ _ ha]
            rw [List.getElem?_map, Option.map_eq_some_iff] at hq
            obtain ⟨m, hm, rfl⟩ := hq
            have hlt : q < n := by rw [← hns]; exact (List.getElem?_eq_some_iff.1 hm).1
            have hcq : cells[q]? = some (.v (.int .u8 m)) := by
              have : (cells.take n)[q]? = some (.v (.int .u8 m)) := by rw [e1]; simp [hm]
              rw [List.getElem?_take, if_pos hlt] at this
              exact this
            obtain ⟨u, f1, f2⟩ := hcells q _ hcq
            have f2 : u = .int .u8 m := f2
            subst f2
            simpa using f1
        simp only [Conv.bytesToString, Sem.run_bind, hload, Result.andThen_ok]
        rw [bytes_run (fun n s w => by simp)]
        simp [ByteArray.empty, ByteArray.emptyWithCapacity]
        rfl
    simp [execOp, convert, run_underlying hu1, run_underlying hu2, e2, run_underlying hu3, hconv]
end
end Go.Proofs.Ytgclmlbaodcccaa
