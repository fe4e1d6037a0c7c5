/- The runner, sixth part: code; closed calls. -/
import Derived.Test.YtgclmlbaodcccaaAm39
import Derived.Scope
namespace Go.Proofs.Ytgclmlbaodcccaa
set_option linter.unusedVariables false
set_option linter.unusedSimpArgs false
open Go.RowKit

section
variable {P : Program} {T : Tb} {k : RS → Ans}
theorem rFind_ok {ops : Array Oper} {l : List Nat} {s : Nat} (h : rFind ops l = some s) : rChk ops s = true := by
  induction l with
  | nil => cases h
  | cons a r ih =>
    unfold rFind at h
    split at h
    · rename_i ha; cases h; exact ha
    · exact ih h
theorem aw_scope {c : Code} {st : ST} {Q : Exit → ST → Prop} (h : AW P c st (fun e s => match e with | .goto _ => False | e => Q e s)) : AW P (.scope c) st Q := by
  intro M0 w0 a w hR
  refine wp_scope_straight (wp_mono (h M0 w0 a w hR) ?_)
  rintro e a' w' ⟨st', h1, h2⟩
  cases e <;> first | exact h2.elim | exact ⟨st', h1, h2⟩
theorem aw_label {l : Nat} {st : ST} {Q : Exit → ST → Prop} (h : Q .normal st) : AW P (.label l) st Q := fun _ _ _ _ hR => wp_label ⟨st, hR, h⟩
theorem run_ok (hT : TbOk P T) : ∀ (n : Nat) (f : Nat) (c : Code) (rs : RS) (Q : Exit → RS → Ans), run T n f c rs Q = .ok → ∀ st, RR rs st → AW P c st (KQ fun e rs => match e with | .panic _ => .bad [] | e => Q e rs) := by
  intro n
  induction n using Nat.strongRecOn with
  | ind n ih =>
    intro f c rs Q h st hR
    cases n with
    | zero => cases h
    | succ n =>
      have hrc : RcOk P (run T n) := fun f c rs Q h st hR => aw_mono (ih n (Nat.lt_succ_self n) f c rs Q h st hR) (by
        rintro e st' ⟨rs', h1, h2⟩
        refine ⟨rs', h1, ?_⟩
        cases e <;> first | exact h2 | cases h2)
      have hrec : ∀ c rs Q, run T n f c rs Q = .ok → ∀ st, RR rs st → AW P c st (KQ fun e rs => match e with | .panic _ => .bad [] | e => Q e rs) := fun c rs Q => ih n (Nat.lt_succ_self n) f c rs Q
      unfold run at h
      split at h
      · exact aw_skip ⟨rs, hR, h⟩
      · rename_i id ops
        have := rLst_ok (k := Q .normal) hT hrc ops.toList rs st hR h
        have h2 : AW P (.region id ops.toList.toArray false) st (KQ fun e rs => match e with | .panic _ => .bad [] | e => Q e rs) := aw_region (by
          simp only [Array.toArray_toList]
          exact this)
        simpa using h2
      · rename_i id ops
        split at h
        · rename_i stop hs
          have hs := rFind_ok hs
          have := rLstU_ok (k := Q .normal) hT hrc _ false false rs st hR h
          have h2 : AW P (.region id ops.toList.toArray true) st (KQ fun e rs => match e with | .panic _ => .bad [] | e => Q e rs) := aw_regionU stop (rOrd ops stop) hT.mx (by
            simp only [rChk, Bool.and_eq_true] at hs
            simp only [Array.toArray_toList, Bool.and_eq_true]
            exact ⟨⟨hs.1.1.2, hs.1.2⟩, hs.2⟩) (by
            rintro c st ⟨rs', _, h2⟩
            cases h2) (by
            simp only [Array.toArray_toList]
            exact this)
          simpa using h2
        · split at h
          rotate_left
          · cases h
          rename_i hck
          have := rT_ok hT hrc _ rs st (Q .normal) hR h
          have h2 : AW P (.region id ops.toList.toArray true) st (KQ fun e rs => match e with | .panic _ => .bad [] | e => Q e rs) := aw_regionO (planT ops ops.size (Array.replicate ops.size false)) hT.mx (by
            simp only [Array.toArray_toList]
            exact hck) (by
            rintro c st ⟨rs', _, h2⟩
            cases h2) (by
            simp only [Array.toArray_toList]
            exact this)
          simpa using h2
      · rename_i x y
        refine aw_seq fun K hK => aw_mono (hrec _ _ _ h st hR) ?_
        rintro e st' ⟨rs', h1, h2⟩
        cases e with
        | normal => exact hK st' (hrec _ _ _ h2 st' h1)
        | panic c => cases h2
        | _ => exact ⟨rs', h1, h2⟩
      · rename_i op x y
        split at h
        · rename_i t ht
          refine aw_cond (t := t) ((congrFun hR.ev op).trans ht) (fun e => ?_) (fun e => ?_)
          · subst e; exact hrec _ _ _ h st hR
          · subst e; exact hrec _ _ _ h st hR
        · cases h
      · rename_i id c
        refine aw_block (aw_mono (hrec _ _ _ h st hR) ?_)
        rintro e st' ⟨rs', h1, h2⟩
        cases e with
        | exit i =>
          simp only at h2
          simp only [InBl]
          rw [Bool.cond_eq_ite, beqT] at h2
          by_cases e : i = id
          · subst e
            rw [if_pos (by simp)] at h2
            rw [if_pos rfl]
            exact ⟨rs', h1, h2⟩
          · rw [if_neg (by simpa using e)] at h2
            rw [if_neg e]
            exact ⟨rs', h1, h2⟩
        | panic c => cases h2
        | _ => exact ⟨rs', h1, h2⟩
      · rename_i c
        refine aw_loop (α := Nat × ST) (fun x => x.2) (fun x => x.1 ≤ n + 1 ∧ ∃ rs, RR rs x.2 ∧ run T x.1 f (.loop c) rs Q = .ok) (fun x => x.1) (n + 1, st) ⟨Nat.le_refl _, rs, hR, by unfold run; exact h⟩ (Le.refl _) ?_
        rintro ⟨m, s⟩ ⟨hm, rs1, hR1, h1⟩ K hK
        cases m with
        | zero => cases h1
        | succ m =>
          unfold run at h1
          simp only at h1 hm
          refine aw_mono (ih m (by omega) f c rs1 _ h1 s hR1) ?_
          rintro e st' ⟨rs', h2, h3⟩
          cases e with
          | normal => exact hK st' (m, st') ⟨by omega, rs', h2, h3⟩ (Nat.lt_succ_self m) (Le.refl _)
          | panic c => cases h3
          | _ => exact ⟨rs', h2, h3⟩
      · exact aw_exit ⟨rs, hR, h⟩
      · exact aw_ret ⟨rs, hR, h⟩
      · rename_i c
        refine aw_scope (aw_mono (hrec _ _ _ h st hR) ?_)
        rintro e st' ⟨rs', h1, h2⟩
        cases e with
        | goto l => cases h2
        | panic c => cases h2
        | _ => exact ⟨rs', h1, h2⟩
      · exact aw_label ⟨rs, hR, h⟩
      · cases h
theorem runF_ok (hT : TbOk P T) {n f : Nat} {args : List AV} {good : AV → Bool} (h : runF T n f args good = .ok) : FC P f args [] (fun r _ => good r = true) := by
  unfold runF at h
  split at h
  rotate_left
  · cases h
  rename_i fn hf
  obtain ⟨hf, hcal⟩ := asc_all hT.fn hf
  split at h
  rotate_left
  · cases h
  rename_i c hb
  obtain ⟨hle, h⟩ := condB h
  simp only [Nat.ble_eq] at hle
  obtain ⟨tm', h4, h5⟩ := rArgs_ok _ _ _ _ h
  have hAW := run_ok hT n f c ⟨tm', .e, 0, fn.ntmps, 0⟩ _ h4 { tm := enum 0 args, hp := [], n := fn.ntmps, pin := 0 } ⟨fun d => by
    show look (enum 0 args) d = _
    rw [look_enum, h5]
    simp only [Nat.zero_le, if_true, Nat.sub_zero, Bt.get_e]
    cases args[d]? <;> rfl, fun i => by simp [Bt.get_e], rfl, rfl, rfl, fun i o h => by cases h⟩
  refine fc_intro hf hb hle (aw_mono hAW ?_)
  rintro e st' ⟨rs', hR', hq⟩
  cases e with
  | panic c => cases hq
  | _ =>
    obtain ⟨hc, hq⟩ := condB hq
    simp only [beqT, Bool.and_eq_true, decide_eq_true_eq] at hc
    obtain ⟨c1, c2⟩ := hc
    split at hq
    rotate_left
    · cases hq
    rename_i r hr
    rw [fAV_eq] at hq
    obtain ⟨hg, _⟩ := condB hq
    obtain ⟨p, r1, r2⟩ := rRes_ok hT hR' hr
    refine ⟨(by first | exact .inl rfl | exact .inr rfl | cases c1), st', p, r, Le.refl _, (by rw [hR'.2.2.2.2.1, c2]; rfl), r1, r2, hg⟩
end
end Go.Proofs.Ytgclmlbaodcccaa
