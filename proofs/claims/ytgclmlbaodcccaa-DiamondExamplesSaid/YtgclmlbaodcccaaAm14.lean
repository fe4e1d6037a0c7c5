/- The abstract machine: contracts of functions, and calls. -/
import Derived.Test.YtgclmlbaodcccaaAm13
namespace Go.Proofs.Ytgclmlbaodcccaa
set_option linter.unusedVariables false
set_option linter.unusedSimpArgs false
open Go.RowKit

def argsR (g : Gh) (hp : List Ob) (w : World) (args : List AV) (vals : List Value) : Prop := vals.length = args.length ∧ ∀ (i : Nat) (x : AV), args[i]? = some x → ∃ v, vals[i]? = some v ∧ AVR (CR g hp w) x v
def LiveB (hp : List Ob) (g : Gh) (b : Nat) : Prop := ∃ ℓ, Lv hp g ℓ ∧ g.γ ℓ = b
/-- what a function's return leaves -/
def FPost (g : Gh) (ins : List Ob) (w : World) (R : AV → List Ob → Prop) (e : Ending) (w' : World) : Prop :=
  ∃ v r outs g', e = .returned v ∧ R r outs ∧ HR g' outs w' ∧ (ins.length ≤ outs.length ∧ Ext ins.length g g') ∧ (∀ ℓ, Lv outs g' ℓ → LiveB ins g (g'.γ ℓ) ∨ w.heap.size ≤ g'.γ ℓ) ∧ AVR (CR g' outs w') r v ∧ Fp (LiveB ins g) w w'
/-- a function's contract: its arguments, the objects that it may touch, what it gives back -/
def FC (P : Program) (f : FuncId) (args : List AV) (ins : List Ob) (R : AV → List Ob → Prop) : Prop :=
  ∀ (g : Gh) (w : World) (vals : List Value), HR g ins w → argsR g ins w args vals → Calls P f vals.toArray w (FPost g ins w R)
theorem FC.mono {P : Program} {f : FuncId} {args : List AV} {ins : List Ob} {R R' : AV → List Ob → Prop} (h : FC P f args ins R) (hr : ∀ r o, R r o → R' r o) : FC P f args ins R' :=
  fun g w vals h1 h2 => (h g w vals h1 h2).mono fun e w' ⟨v, r, outs, g', q1, q2, q3⟩ => ⟨v, r, outs, g', q1, hr _ _ q2, q3⟩

/-! the frame at the beginning, the results at the end -/
def enum : Nat → List AV → List (Nat × AV)
  | _, [] => []
  | i, x :: r => (i, x) :: enum (i + 1) r
theorem look_enum (args : List AV) (i d : Nat) : look (enum i args) d = if i ≤ d then (args[d - i]?).getD .u else .u := by
  induction args generalizing i with
  | nil => simp [enum, look]
  | cons x r ih =>
    simp only [enum, look]
    by_cases h : d = i
    · subst h; simp
    · rw [if_neg h, ih (i + 1)]
      by_cases h2 : i ≤ d
      · rw [if_pos h2, if_pos (by omega), show d - i = (d - (i + 1)) + 1 from by omega]; simp
      · rw [if_neg h2, if_neg (by omega)]
def resV (P : Program) (st : ST) : ResultVar → Option (Prop × A0)
  | .tmp t => match st.get t with
    | .a x => some (True, x)
    | _ => none
  | .cell a t => match lLoad P st.ev st.hp t (.tmp a) with
    | some (c, .a x) => some (c, x)
    | _ => none
def resL (P : Program) (st : ST) : List ResultVar → Option (Prop × List A0)
  | [] => some (True, [])
  | v :: r => match resV P st v, resL P st r with
    | some (c, x), some (d, xs) => some (c ∧ d, x :: xs)
    | _, _ => none
def resA (P : Program) (st : ST) (rs : List ResultVar) : Option (Prop × AV) :=
  match resL P st rs with
  | some (c, [x]) => some (c, .a x)
  | some (c, xs) => some (c, .tup xs)
  | none => none
def Ret (P : Program) (rs : List ResultVar) (n : Nat) (R : AV → List Ob → Prop) (e : Exit) (st : ST) : Prop :=
  (e = .ret ∨ e = .normal) ∧ ∃ st' c r, Le st st' ∧ st'.pin = n ∧ resA P st' rs = some (c, r) ∧ c ∧ R r st'.hp
theorem lLoad_ptr {P : Program} {g : Gh} {hp : List Ob} {w : World} {ρ : Operand → Value} {ev : Operand → AV} (hR : ∀ x, AVR (CR g hp w) (ev x) (ρ x)) {t : TypeId} {y : Operand} {c : Prop} {x : AV} (h : lLoad P ev hp t y = some (c, x)) : ∃ a, ρ y = .pointer (some a) := by
  have hy := hR y
  unfold lLoad at h
  split at h
  · rename_i hev; rw [hev] at hy; exact ⟨_, hy.2⟩
  · rename_i hev; rw [hev] at hy; obtain ⟨b, o, us, e, _⟩ := hy; exact ⟨_, e⟩
  · cases h
def resF (tmps : Array Value) : ResultVar → Sem Value
  | .tmp t => pure (tmps.getD t undef)
  | .cell b t => do loadVar t (← asAddr (tmps.getD b undef))
theorem results_eq (fn : Func) (tmps : Array Value) : results fn tmps = (fn.results.mapM (resF tmps) >>= fun vs => pure (if h : vs.size = 1 then vs[0] else .tuple vs)) := by
  unfold results
  have e : (fun r : ResultVar => (match r with | .tmp t => pure (tmps.getD t undef) | .cell a t => do loadVar t (← asAddr (tmps.getD a undef)) : Sem Value)) = resF tmps := by
    funext r
    cases r <;> rfl
  rw [← e]
  rfl
theorem res_sound {P : Program} {g : Gh} {M0 : Nat → Prop} {w0 w : World} {st : ST} {a : Act} (h : RelG g M0 w0 st a w) : ∀ {rs : List ResultVar} {c : Prop} {xs : List A0}, resL P st rs = some (c, xs) → c →
    ∃ vs : List Value, (rs.mapM (resF a.tmps)).run P w = .ok vs w ∧ vs.length = xs.length ∧ ∀ (i : Nat) (x : A0), xs[i]? = some x → ∃ u, vs[i]? = some u ∧ A0R (CR g st.hp w) x u
  | [], c, xs, hr, hc => by
    simp [resL] at hr
    obtain ⟨_, rfl⟩ := hr
    exact ⟨[], by simp, rfl, fun i x hx => by simp at hx⟩
  | r :: rs, c, xs, hr, hc => by
    unfold resL at hr
    split at hr
    · rename_i c1 x1 c2 xs2 h1 h2
      simp only [Option.some.injEq, Prod.mk.injEq] at hr
      obtain ⟨rfl, rfl⟩ := hr
      obtain ⟨vs, i1, i2, i3⟩ := res_sound h h2 hc.2
      have one : ∃ v, (resF a.tmps r).run P w = .ok v w ∧ A0R (CR g st.hp w) x1 v := by
        unfold resV at h1
        split at h1
        · rename_i t
          split at h1
          · rename_i x hx
            simp only [Option.some.injEq, Prod.mk.injEq] at h1
            obtain ⟨_, rfl⟩ := h1
            have := h.tm t
            rw [hx] at this
            exact ⟨_, by simp [resF], this⟩
          · cases h1
        · rename_i b t
          split at h1
          · rename_i c' x hl
            simp only [Option.some.injEq, Prod.mk.injEq] at h1
            obtain ⟨rfl, rfl⟩ := h1
            obtain ⟨v, r1, r2⟩ := lLoad_sound (P := P) h.hr h.ev hl hc.1
            obtain ⟨ad, ha⟩ := lLoad_ptr h.ev hl
            refine ⟨v, ?_, r2⟩
            have ha' : a.tmps.getD b undef = .pointer (some ad) := ha
            have r1 := r1 w (Fp.refl _ _)
            rw [ha] at r1
            simp only [Instr.loadAt, Instr.sureAddr, Sem.run_bind, Sem.run_pure, Result.andThen_ok] at r1
            simp only [resF, ha', asAddr, Sem.run_bind, Sem.run_pure, Result.andThen_ok]
            exact r1
          · cases h1
      obtain ⟨v, v1, v2⟩ := one
      refine ⟨v :: vs, ?_, by simp [i2], fun i x hx => ?_⟩
      · simp only [List.mapM_cons, Sem.run_bind, v1, i1, Result.andThen_ok, Sem.run_pure]
      · cases i with
        | zero => simp at hx; subst hx; exact ⟨v, rfl, v2⟩
        | succ i => exact i3 i x (by simpa using hx)
    · cases hr
theorem fc_intro {P : Program} {f : FuncId} {args : List AV} {ins : List Ob} {R : AV → List Ob → Prop} {fn : Func} {c : Code} (hf : P.funcs[f]? = some fn) (hb : fn.body = some c) (hn : args.length ≤ fn.ntmps)
    (h : AW P c { tm := enum 0 args, hp := ins, n := fn.ntmps, pin := ins.length } (Ret P fn.results.toList ins.length R)) : FC P f args ins R := by
  intro g w vals hr hargs
  refine calls_of_wp hf hb ?_
  have hR : Rel ⟨LiveB ins g, g⟩ w { tm := enum 0 args, hp := ins, n := fn.ntmps, pin := ins.length } { tmps := vals.toArray ++ Array.replicate (fn.ntmps - vals.toArray.size) undef, defers := [] } w := by
    refine ⟨g, ⟨Nat.le_refl _, Ext.refl _ _⟩, hr, fun ℓ hl => .inl ⟨ℓ, hl, rfl⟩, fun d => ?_, ?_, rfl, Fp.refl _ _⟩
    · show AVR _ (look (enum 0 args) d) _
      rw [look_enum]
      simp only [Nat.zero_le, if_true, Nat.sub_zero]
      cases hx : args[d]? with
      | none => exact undef_u
      | some x =>
        obtain ⟨v, v1, v2⟩ := hargs.2 d x hx
        have hlt : d < vals.length := (List.getElem?_eq_some_iff.1 v1).1
        have : ((vals.toArray ++ Array.replicate (fn.ntmps - vals.toArray.size) undef).getD d undef) = v := by
          rw [Array.getD_eq_getD_getElem?, Array.getElem?_append_left (by simpa using hlt)]
          simp [v1]
        rw [this]; exact v2
    · simp; have := hargs.1; omega
  refine wp_mono (h _ w _ w hR) ?_
  rintro e a' w' ⟨st, hRel, he, st', c', r, hle, hpin, hres, hc', hRr⟩
  obtain ⟨g', ⟨p1, p2⟩, hG⟩ := hle _ w a' w' hRel
  have key : a'.defers = [] ∧ ∃ v, (results fn a'.tmps).run P w' = .ok v w' ∧ FPost g ins w R (.returned v) w' := by
    refine ⟨hG.df, ?_⟩
    unfold resA at hres
    have fin : ∀ v, AVR (CR g' st'.hp w') r v → FPost g ins w R (.returned v) w' := fun v hv =>
      ⟨v, r, st'.hp, g', rfl, hRr, hG.hr, ⟨by rw [← hpin]; exact p1, by rw [← hpin]; exact p2⟩, hG.new, hv, hG.fp⟩
    have hrun : ∀ {vs : List Value}, (fn.results.toList.mapM (resF a'.tmps)).run P w' = .ok vs w' →
        (results fn a'.tmps).run P w' = .ok (if h : vs.toArray.size = 1 then vs.toArray[0] else .tuple vs.toArray) w' := by
      intro vs hvs
      rw [results_eq]
      simp only [Array.mapM_eq_mapM_toList, Sem.run_bind, Sem.run_map, hvs, Result.andThen_ok, Sem.run_pure]
    split at hres
    · rename_i c1 x hl
      simp only [Option.some.injEq, Prod.mk.injEq] at hres
      obtain ⟨rfl, rfl⟩ := hres
      obtain ⟨vs, v1, v2, v3⟩ := res_sound (P := P) hG hl hc'
      obtain ⟨u, u1, u2⟩ := v3 0 x rfl
      have hvs : vs = [u] := by
        cases vs with
        | nil => simp at v2
        | cons y ys =>
          simp at v2 u1
          subst u1; subst v2; rfl
      subst hvs
      exact ⟨u, by simpa using hrun v1, fin u u2⟩
    · rename_i c1 xs hne hl
      simp only [Option.some.injEq, Prod.mk.injEq] at hres
      obtain ⟨rfl, rfl⟩ := hres
      obtain ⟨vs, v1, v2, v3⟩ := res_sound (P := P) hG hl hc'
      refine ⟨.tuple vs.toArray, ?_, fin _ ⟨vs, rfl, v2, v3⟩⟩
      rw [hrun v1, dif_neg]
      intro h1
      have h1' : xs.length = 1 := by rw [← v2]; simpa using h1
      obtain ⟨x, rfl⟩ := List.length_eq_one_iff.1 h1'
      exact hne x rfl
    · cases hres
  rcases he with rfl | rfl <;> exact key
def rtn (P : Program) (rs : List ResultVar) (st : ST) (R : AV → List Ob → Prop) : Prop :=
  match resA P st rs with
  | some (c, r) => c ∧ R r st.hp
  | none => False
theorem ret_mk {P : Program} {rs : List ResultVar} {n : Nat} {R : AV → List Ob → Prop} {e : Exit} {st : ST} (he : e = .ret ∨ e = .normal) (hp : st.pin = n) (h : rtn P rs st R) : Ret P rs n R e st := by
  unfold rtn at h
  split at h
  · rename_i c r hr
    exact ⟨he, st, c, r, Le.refl _, hp, hr, h.1, h.2⟩
  · exact h.elim
theorem ret_le {P : Program} {rs : List ResultVar} {n : Nat} {R : AV → List Ob → Prop} {e : Exit} {st st' : ST} (hl : Le st st') (h : Ret P rs n R e st') : Ret P rs n R e st := by
  obtain ⟨he, s, c, r, h1, h2⟩ := h
  exact ⟨he, s, c, r, hl.trans h1, h2⟩
end Go.Proofs.Ytgclmlbaodcccaa
