/- A function run at objects that come in, with a slice of numbers for its answer. A function run at objects that come in: what stands afterwards of the objects named by `keep` is `outs`, and the answer is `res`. -/
import Derived.Test.YtglchakimolfdaaDoorMM
import Derived.Test.YtglchakimolfdaaDoorMF
namespace Go.Proofs.YtglchakimolfdaaDoor
set_option linter.unusedVariables false
set_option linter.unusedSimpArgs false
open Go.RowKit

def eqIns (hp : Bt Ob) : List Ob → Nat → Bool
 | [], _ => true
 | o :: r, i => (match hp.get i with | some q => eqO q o | none => false) && eqIns hp r (i + 1)
def chkI (d : Nat) (ins : List Ob) (xs : List Int) (rs : RS) : Bool :=
 match rs.tm.get d with
 | some (.a (.c (.s id m))) => m.beq xs.length && (Nat.ble ins.length id && ((match rs.hp.get id with | some (.r ⟨_, k, true, cs⟩) => k.beq 1 && eqL eqC cs (cInts xs) | _ => false) && eqIns rs.hp ins 0))
 | _ => false
def runC (T : Tb) (n f : Nat) (args : List AV) (ins : List Ob) (xs : List Int) : Ans :=
 match asc T.fn f with
 | some fn => match fn.body, fn.results.toList with
  | some c, [.tmp d] => bif Nat.ble args.length fn.ntmps then bFrom ins 0 .e fun hp => rArgs args 0 .e fun tm => run T n f c ⟨tm, hp, ins.length, fn.ntmps, ins.length⟩ fun e rs =>
    bif (match e with | .ret => true | .normal => true | _ => false) && (rs.pin.beq ins.length && chkI d ins xs rs) then .ok else .bad [90] else .bad [93]
  | _, _ => .bad [94]
 | none => .bad [95]
theorem eqIns_ok {hp : Bt Ob} : ∀ {ins : List Ob} {i : Nat}, eqIns hp ins i = true → ∀ j o, ins[j]? = some o → hp.get (i + j) = some o
 | [], i, _, j, o, h => by simp at h
 | q :: r, i, h, j, o, hj => by
  simp only [eqIns, Bool.and_eq_true] at h
  obtain ⟨h1, h2⟩ := h
  cases j with
  | zero =>
   simp only [List.getElem?_cons_zero, Option.some.injEq] at hj
   subst hj
   split at h1
   ·rename_i y hy
    rw [Nat.add_zero, hy, eqO_ok _ _ h1]
   ·cases h1
  | succ j =>
   rw [List.getElem?_cons_succ] at hj
   have := eqIns_ok h2 j o hj
   rw [show i + (j + 1) = i + 1 + j by omega]
   exact this
section
variable {P : Program} {T : Tb}
theorem runC_ok (hT : TbOk P T) {n f : Nat} {args : List AV} {ins : List Ob} {xs : List Int} (hd : distinct (List.range ins.length) = true) (hfx : fixes ins.length (List.range ins.length) = true) (hren : ins.map (Ob.ren (List.range ins.length)) = ins) (hok : ins.all okOb = true)
  (h : runC T n f args ins xs = .ok) : FC P f args ins (fun r o => o = ins ∧ r = aInts xs) := by
 unfold runC at h
 split at h
 rotate_left
 ·cases h
 rename_i fn hf
 obtain ⟨hf, hcal⟩ := asc_all hT.fn hf
 split at h
 rotate_left
 ·cases h
 rename_i c d hb hres
 obtain ⟨hle, h⟩ := condB h
 simp only [Nat.ble_eq] at hle
 obtain ⟨hp', q1, q2, q3⟩ := bFrom_ok _ _ _ _ h
 have hget : ∀ i, ins[i]? = hp'.get i := fun i => by
  rw [q2]
  simp only [Nat.zero_le, if_true, Nat.sub_zero, Bt.get_e]
  cases ins[i]? <;> rfl
 obtain ⟨tm', h4, h5⟩ := rArgs_ok _ _ _ _ q1
 have hAW := run_ok hT n f c ⟨tm', hp', ins.length, fn.ntmps, ins.length⟩ _ h4 { tm := enum 0 args, hp := ins, n := fn.ntmps, pin := ins.length } ⟨fun d => by
  show look (enum 0 args) d = _
  rw [look_enum, h5]
  simp only [Nat.zero_le, if_true, Nat.sub_zero, Bt.get_e]
  cases args[d]? <;> rfl, hget, rfl, rfl, rfl, fun i o ho => by
   have e := hget i
   rw [ho] at e
   exact List.all_eq_true.1 hok o (List.mem_of_getElem? e)⟩
 refine fc_intro hf hb hle (aw_mono hAW ?_)
 rintro e st' ⟨rs', hR', hq⟩
 have fin : ∀ {e : Exit}, (e = .ret ∨ e = .normal) → (rs'.pin.beq ins.length && chkI d ins xs rs') = true → Ret P fn.results.toList ins.length (fun r o => o = ins ∧ r = aInts xs) e st' := by
  intro e he hc
  simp only [beqT, Bool.and_eq_true, decide_eq_true_eq] at hc
  obtain ⟨hpin, hc⟩ := hc
  unfold chkI at hc
  split at hc
  rotate_left
  ·cases hc
  rename_i id m hs
  simp only [beqT, Bool.and_eq_true, decide_eq_true_eq, Nat.ble_eq] at hc
  obtain ⟨hm, hid, hrow, hins⟩ := hc
  split at hrow
  rotate_left
  ·cases hrow
  rename_i e0 k cs hr
  simp only [beqT, Bool.and_eq_true, decide_eq_true_eq] at hrow
  obtain ⟨rfl, hcs⟩ := hrow
  have hcs := eqL_ok eqC_ok _ _ hcs
  subst hcs
  subst hm
  have hrow2 : st'.hp[id]? = some (.r ⟨e0, 1, true, cInts xs⟩) := (hR'.2.1 id).trans hr
  have hsd : st'.get d = .a (.c (.s id xs.length)) := by rw [hR'.1 d, hs]; rfl
  have hpn : st'.pin = ins.length := by rw [hR'.2.2.2.2.1, hpin]
  refine ret_le (le_frz (r := ⟨e0, 1, true, cInts xs⟩) id (tInts xs) hrow2 (fz_c xs) (show 0 < 1 by omega)) ?_
  refine ret_le (le_pick (List.range ins.length) hd (by show fixes st'.pin _ = true; rw [hpn]; exact hfx)) ?_
  change Ret P fn.results.toList ins.length _ e ((st'.frz id 1 (tInts xs)).pick (List.range ins.length))
  have hhp : ((st'.frz id 1 (tInts xs)).pick (List.range ins.length)).hp = ins := by
   refine Eq.trans (List.ext_getElem? fun i => ?_) hren
   simp only [ST.pick, ST.frz, List.getElem?_map]
   by_cases hi : i < ins.length
   ·rw [List.getElem?_range hi]
    have hii := eqIns_ok hins i ins[i] (List.getElem?_eq_getElem hi)
    rw [Nat.zero_add] at hii
    have h2 : st'.hp[i]? = some ins[i] := (hR'.2.1 i).trans hii
    simp only [Option.map_some]
    rw [List.getD_eq_getElem?_getD, List.getElem?_set_ne (by omega), h2, List.getElem?_eq_getElem hi]
    rfl
   ·rw [List.getElem?_eq_none (by simpa using hi), List.getElem?_eq_none (by simpa using hi)]
    rfl
  have hgd : ((st'.frz id 1 (tInts xs)).pick (List.range ins.length)).get d = .a (.c (.t 1 (tInts xs))) := by
   have e1 : (st'.frz id 1 (tInts xs)).get d = .a (.c (.t 1 (tInts xs))) := by
    have := look_map (AV.frz id 1 (tInts xs)) rfl st'.tm d
    show look (st'.tm.map fun p => (p.1, p.2.frz id 1 (tInts xs))) d = _
    rw [this]
    have h0 : look st'.tm d = .a (.c (.s id xs.length)) := hsd
    rw [h0]
    simp only [AV.frz, A0.frz, C.frz, if_true, Nat.mul_one, tInts_len, Nat.le_refl]
    rw [List.take_of_length_le (by rw [tInts_len]; exact Nat.le_refl _)]
   have := look_map (AV.ren (List.range ins.length)) rfl (st'.frz id 1 (tInts xs)).tm d
   show look ((st'.frz id 1 (tInts xs)).tm.map fun p => (p.1, p.2.ren (List.range ins.length))) d = _
   rw [this]
   have h0 : look (st'.frz id 1 (tInts xs)).tm d = .a (.c (.t 1 (tInts xs))) := e1
   rw [h0]
   rfl
  rw [hres]
  refine ret_mk he (by show st'.pin = _; exact hpn) ?_
  simp only [rtn, resA, resL, resV, hgd]
  exact ⟨⟨trivial, trivial⟩, hhp, rfl⟩
 cases e with
 | panic c => cases hq
 | ret => exact fin (.inl rfl) (condB hq).1
 | normal => exact fin (.inr rfl) (condB hq).1
 | _ => cases hq
end
def eqOuts (hp : Bt Ob) (keep : List Nat) : List Nat → List Ob → Bool
 | [], [] => true
 | i :: r, o :: os => (match hp.get i with | some q => eqO (q.ren keep) o | none => false) && eqOuts hp keep r os
 | _, _ => false
def runG (T : Tb) (n f : Nat) (args : List AV) (ins : List Ob) (keep : List Nat) (outs : List Ob) (res : A0) : Ans :=
 match asc T.fn f with
 | some fn => match fn.body, fn.results.toList with
  | some c, [.tmp d] => bif Nat.ble args.length fn.ntmps then bFrom ins 0 .e fun hp => rArgs args 0 .e fun tm => run T n f c ⟨tm, hp, ins.length, fn.ntmps, ins.length⟩ fun e rs =>
    bif (match e with | .ret => true | .normal => true | _ => false) && (rs.pin.beq ins.length && (eqOuts rs.hp keep keep outs && eqAV (((rs.tm.get d).getD .u).ren keep) (.a res))) then .ok else .bad [90]
   else .bad [93]
  | _, _ => .bad [94]
 | none => .bad [95]
theorem eqOuts_ok {hp : Bt Ob} {keep : List Nat} : ∀ {ks : List Nat} {outs : List Ob}, eqOuts hp keep ks outs = true → ∃ qs : List Ob, (∀ (j : Nat) (i : Nat), ks[j]? = some i → ∃ q, hp.get i = some q ∧ qs[j]? = some q) ∧ qs.length = ks.length ∧ outs = qs.map (Ob.ren keep)
 | [], [], _ => ⟨[], fun j i h => by simp at h, rfl, rfl⟩
 | i :: r, o :: os, h => by
  simp only [eqOuts, Bool.and_eq_true] at h
  obtain ⟨h1, h2⟩ := h
  split at h1
  rotate_left
  ·cases h1
  rename_i q hq
  obtain ⟨qs, h3, h4, h5⟩ := eqOuts_ok h2
  refine ⟨q :: qs, fun j k hk => ?_, by simp [h4], by rw [← eqO_ok _ _ h1, h5]; rfl⟩
  cases j with
  | zero =>
   simp only [List.getElem?_cons_zero, Option.some.injEq] at hk
   subst hk
   exact ⟨q, hq, rfl⟩
  | succ j => rw [List.getElem?_cons_succ] at hk; exact h3 j k hk
 | [], _ :: _, h => by cases h
 | _ :: _, [], h => by cases h
section
variable {P : Program} {T : Tb}
theorem runG_ok (hT : TbOk P T) {n f : Nat} {args : List AV} {ins : List Ob} {keep : List Nat} {outs : List Ob} {res : A0} (hd : distinct keep = true) (hfx : fixes ins.length keep = true) (hok : ins.all okOb = true)
  (h : runG T n f args ins keep outs res = .ok) : FC P f args ins (fun r o => o = outs ∧ r = .a res) := by
 unfold runG at h
 split at h
 rotate_left
 ·cases h
 rename_i fn hf
 obtain ⟨hf, hcal⟩ := asc_all hT.fn hf
 split at h
 rotate_left
 ·cases h
 rename_i c d hb hres
 obtain ⟨hle, h⟩ := condB h
 simp only [Nat.ble_eq] at hle
 obtain ⟨hp', q1, q2, q3⟩ := bFrom_ok _ _ _ _ h
 have hget : ∀ i, ins[i]? = hp'.get i := fun i => by
  rw [q2]
  simp only [Nat.zero_le, if_true, Nat.sub_zero, Bt.get_e]
  cases ins[i]? <;> rfl
 obtain ⟨tm', h4, h5⟩ := rArgs_ok _ _ _ _ q1
 have hAW := run_ok hT n f c ⟨tm', hp', ins.length, fn.ntmps, ins.length⟩ _ h4 { tm := enum 0 args, hp := ins, n := fn.ntmps, pin := ins.length } ⟨fun d => by
  show look (enum 0 args) d = _
  rw [look_enum, h5]
  simp only [Nat.zero_le, if_true, Nat.sub_zero, Bt.get_e]
  cases args[d]? <;> rfl, hget, rfl, rfl, rfl, fun i o ho => by
   have e := hget i
   rw [ho] at e
   exact List.all_eq_true.1 hok o (List.mem_of_getElem? e)⟩
 refine fc_intro hf hb hle (aw_mono hAW ?_)
 rintro e st' ⟨rs', hR', hq⟩
 have fin : ∀ {e : Exit}, (e = .ret ∨ e = .normal) → (rs'.pin.beq ins.length && (eqOuts rs'.hp keep keep outs && eqAV (((rs'.tm.get d).getD .u).ren keep) (.a res))) = true → Ret P fn.results.toList ins.length (fun r o => o = outs ∧ r = .a res) e st' := by
  intro e he hc
  simp only [beqT, Bool.and_eq_true, decide_eq_true_eq] at hc
  obtain ⟨hpin, hou, hrs⟩ := hc
  have hrs := eqAV_ok _ _ hrs
  have hpn : st'.pin = ins.length := by rw [hR'.2.2.2.2.1, hpin]
  obtain ⟨qs, h6, h7, h8⟩ := eqOuts_ok hou
  refine ret_le (le_pick keep hd (by rw [hpn]; exact hfx)) ?_
  have hhp : (st'.pick keep).hp = outs := by
   rw [h8]
   refine List.ext_getElem? fun j => ?_
   simp only [ST.pick, List.getElem?_map]
   by_cases hj : j < keep.length
   ·obtain ⟨q, h9, h10⟩ := h6 j keep[j] (List.getElem?_eq_getElem hj)
    have h2 : st'.hp[keep[j]]? = some q := (hR'.2.1 _).trans h9
    rw [List.getElem?_eq_getElem hj, h10]
    simp only [Option.map_some]
    rw [List.getD_eq_getElem?_getD, h2]
    rfl
   ·rw [List.getElem?_eq_none (by omega), List.getElem?_eq_none (by omega)]
    rfl
  have hgd : (st'.pick keep).get d = .a res := by
   have := look_map (AV.ren keep) rfl st'.tm d
   show look (st'.tm.map fun p => (p.1, p.2.ren keep)) d = _
   rw [this, ← hrs]
   exact congrArg _ (hR'.1 d)
  rw [hres]
  refine ret_mk he (by show st'.pin = _; exact hpn) ?_
  simp only [rtn, resA, resL, resV, hgd]
  exact ⟨⟨trivial, trivial⟩, hhp, trivial⟩
 cases e with
 | panic c => cases hq
 | ret => exact fin (.inl rfl) (condB hq).1
 | normal => exact fin (.inr rfl) (condB hq).1
 | _ => cases hq
end
end Go.Proofs.YtglchakimolfdaaDoor
