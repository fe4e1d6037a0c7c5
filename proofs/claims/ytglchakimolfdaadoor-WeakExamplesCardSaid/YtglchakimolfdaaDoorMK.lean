/- Structs of numbers compared. cmp.Compare, cmp.Or, and the program's compares of pairs of numbers: contracts for the runner. The runner: maps, copies, clears, values of other kinds. The runner: more steps that hold. -/
import Derived.Test.YtglchakimolfdaaDoorAm33
import Derived.Test.YtglchakimolfdaaDoorAe
import Derived.MapKept
import Derived.Test.YtglchakimolfdaaDoorShlfT
import Derived.Shelf.Spec.TrailingZeros
import Derived.Test.YtglchakimolfdaaDoorProg
namespace Go.Proofs.YtglchakimolfdaaDoor
set_option linter.unusedVariables false
set_option linter.unusedSimpArgs false
open Go.RowKit

def ciQ (a b : Int) : Int := if a < b then -1 else if b < a then 1 else 0
def orQ (x y : Int) : Int := if x ≠ 0 then x else y
theorem isNaN_q (a : Int) (w : World) : Calls Tryd.prog 70 #[.int .i64 a] w fun e w' => e = .returned (.bool false) ∧ w' = w := by
 have h1 : (a != a) = false := by simp
 go_enter Tryd.func70, Tryd.ntmps70
 go_wp2_with fail
 go_ret
 exact ⟨rfl, rfl⟩
set_option maxHeartbeats 1000000 in
theorem compare_q (a b : Int) (w : World) : Calls Tryd.prog 48 #[.int .i64 a, .int .i64 b] w fun e w' => e = .returned (.int .i64 (ciQ a b)) ∧ w' = w := by
 by_cases h1 : a < b
 ·have he : ciQ a b = -1 := by simp [ciQ, h1]
  rw [he]
  clear he
  go_enter Tryd.func48, Tryd.ntmps48
  go_wp2_with ((go_at_call 70; refine (isNaN_q _ _).mono ?_; rintro e w' ⟨rfl, rfl⟩))
  go_ret
  exact ⟨rfl, rfl⟩
 ·by_cases h2 : b < a
  ·have he : ciQ a b = 1 := by simp [ciQ, h1, h2]
   rw [he]
   clear he
   go_enter Tryd.func48, Tryd.ntmps48
   go_wp2_with ((go_at_call 70; refine (isNaN_q _ _).mono ?_; rintro e w' ⟨rfl, rfl⟩))
   go_ret
   exact ⟨rfl, rfl⟩
  ·have he : ciQ a b = 0 := by simp [ciQ, h1, h2]
   rw [he]
   clear he
   go_enter Tryd.func48, Tryd.ntmps48
   go_wp2_with ((go_at_call 70; refine (isNaN_q _ _).mono ?_; rintro e w' ⟨rfl, rfl⟩))
   go_ret
   exact ⟨rfl, rfl⟩
set_option maxHeartbeats 1000000 in
theorem or_q (g : Nat) (x y : Int) (w : World) (h0 : w.cell? ⟨g, 0, none⟩ = some (.int .i64 x)) (h1 : w.cell? ⟨g, 1, none⟩ = some (.int .i64 y)) :
  Calls Tryd.prog 47 #[.slice (some ⟨g, 0, none⟩) 2 2] w fun e w' => e = .returned (.int .i64 (orQ x y)) ∧ w' = w := by
 by_cases hx : x = 0
 ·subst hx
  have ho : orQ 0 y = y := by simp [orQ]
  rw [ho]
  clear ho
  by_cases hy : y = 0
  ·subst hy
   have e0 : ((0 : Int) != 0) = false := by simp
   go_enter Tryd.func47, Tryd.ntmps47
   go_wp2_with fail
   refine wp_loop_rounds 3 ?_
   rw [rounds_succ]
   go_wp2_with fail
   rw [rounds_succ]
   go_wp2_with fail
   rw [rounds_succ]
   go_wp2_with fail
   go_ret
   exact ⟨rfl, rfl⟩
  ·have e0 : ((0 : Int) != 0) = false := by simp
   have e1 : (y != 0) = true := by simpa using hy
   clear hy
   go_enter Tryd.func47, Tryd.ntmps47
   go_wp2_with fail
   refine wp_loop_rounds 2 ?_
   rw [rounds_succ]
   go_wp2_with fail
   rw [rounds_succ]
   go_wp2_with fail
   go_ret
   exact ⟨rfl, rfl⟩
 ·have ho : orQ x y = x := by simp [orQ, hx]
  rw [ho]
  clear ho
  have e1 : (x != 0) = true := by simpa using hx
  clear hx
  go_enter Tryd.func47, Tryd.ntmps47
  go_wp2_with fail
  refine wp_loop_rounds 1 ?_
  rw [rounds_succ]
  go_wp2_with fail
  go_ret
  exact ⟨rfl, rfl⟩
theorem fc_vals {P : Program} {f : FuncId} {args : List AV} {vals : List Value} {r : Value} (ha : ∀ (g : Gh) (w : World) (vs : List Value), argsR g [] w args vs → vs = vals)
  (h : ∀ w, Calls P f vals.toArray w fun e w' => e = .returned r ∧ Fp (fun _ => False) w w') : FC P f args [] (fun x o => o = [] ∧ x = .a (.c (.v r))) := by
 intro g w vs hr hargs
 obtain rfl := ha g w vs hargs
 refine (h w).mono ?_
 rintro e w' ⟨rfl, hf⟩
 refine ⟨r, _, [], g, rfl, ⟨rfl, rfl⟩, ?_, ⟨Nat.le_refl _, Ext.refl _ _⟩, fun ℓ hl => ?_, rfl, hf.mono (fun _ _ h => h.elim)⟩
 ·exact ⟨fun q hq => Nat.lt_of_lt_of_le (hr.ml q hq) hf.size, fun ℓ hl => hr.md ℓ hl, hr.inj, fun id r e => by simp at e, fun id kv e => by simp at e, hr.gl.keep hf.size (fun k hk _ => hf.block k hk (fun h => h)) (fun _ _ h => h)⟩
 ·cases ℓ with
  | ob i => rcases hl with ⟨r, e, _⟩ | ⟨kv, e⟩ <;> simp at e
  | cl i j => obtain ⟨r, k, cs, e, _⟩ := hl; simp at e
def orCi : List AV → Option AV
 | [.a (.c (.v (.int .i64 a))), .a (.c (.v (.int .i64 b)))] => some (.i (ciQ a b))
 | _ => none
def orCa : List AV → Option AV
 | [.a (.g [.v (.int .i64 a), .v (.int .i64 b)]), .a (.g [.v (.int .i64 c), .v (.int .i64 d)])] => some (.i (orQ (ciQ a c) (ciQ b d)))
 | _ => none
theorem fc_ci {P : Program} {f : FuncId} (h : ∀ (a b : Int) (w : World), Calls P f #[.int .i64 a, .int .i64 b] w fun e w' => e = .returned (.int .i64 (ciQ a b)) ∧ Fp (fun _ => False) w w') :
  ∀ args r, orCi args = some r → args.map (AV.ren []) = args ∧ (∀ h, r.up h = r) ∧ FC P f args [] (fun x o => o = [] ∧ x = r) := by
 intro args r hr
 unfold orCi at hr
 split at hr
 ·rename_i a b
  cases hr
  refine ⟨rfl, fun _ => rfl, fc_vals (vals := [.int .i64 a, .int .i64 b]) (fun g w vs hv => ?_) (h a b)⟩
  obtain ⟨h0, h1⟩ := hv
  obtain ⟨v, e1, e2⟩ := h1 0 _ rfl
  obtain ⟨u, e3, e4⟩ := h1 1 _ rfl
  match vs, h0 with
  | [x, y], _ => simp at e1 e3; subst e1; subst e3; rw [show x = _ from e2, show y = _ from e4]
 ·cases hr
theorem fc_ca {P : Program} {f : FuncId} (h : ∀ (a b c d : Int) (w : World), Calls P f #[.agg #[.int .i64 a, .int .i64 b], .agg #[.int .i64 c, .int .i64 d]] w fun e w' => e = .returned (.int .i64 (orQ (ciQ a c) (ciQ b d))) ∧ Fp (fun _ => False) w w') :
  ∀ args r, orCa args = some r → args.map (AV.ren []) = args ∧ (∀ h, r.up h = r) ∧ FC P f args [] (fun x o => o = [] ∧ x = r) := by
 intro args r hr
 unfold orCa at hr
 split at hr
 ·rename_i a b c d
  cases hr
  refine ⟨rfl, fun _ => rfl, fc_vals (vals := [.agg #[.int .i64 a, .int .i64 b], .agg #[.int .i64 c, .int .i64 d]]) (fun g w vs hv => ?_) (h a b c d)⟩
  obtain ⟨h0, h1⟩ := hv
  have two : ∀ {x : Value} {p q : Int}, AVR (CR g [] w) (.a (.g [.v (.int .i64 p), .v (.int .i64 q)])) x → x = .agg #[.int .i64 p, .int .i64 q] := by
   rintro x p q ⟨us, rfl, l1, l2⟩
   obtain ⟨u, e1, e2⟩ := l2 0 _ rfl
   obtain ⟨v, e3, e4⟩ := l2 1 _ rfl
   match us, l1 with
   | [s, t], _ => simp at e1 e3; subst e1; subst e3; rw [show s = _ from e2, show t = _ from e4]
  obtain ⟨v, e1, e2⟩ := h1 0 _ rfl
  obtain ⟨u, e3, e4⟩ := h1 1 _ rfl
  match vs, h0 with
  | [x, y], _ => simp at e1 e3; subst e1; subst e3; rw [two e2, two e4]
 ·cases hr
set_option maxHeartbeats 2000000 in
theorem rcmp_q (a b c d : Int) (w : World) : Calls Tryd.prog 26 #[.agg #[.int .i64 a, .int .i64 b], .agg #[.int .i64 c, .int .i64 d]] w fun e w' => e = .returned (.int .i64 (orQ (ciQ a c) (ciQ b d))) ∧ Fp (fun _ => False) w w' := by
 go_enter Tryd.func26, Tryd.ntmps26
 go_wp2_with fail
 go_region_held3 (fun w' => w'.cell? ⟨w.heap.size, 0, none⟩ = some (.int .i64 a) ∧ w'.cell? ⟨w.heap.size, 1, none⟩ = some (.int .i64 b) ∧ w'.cell? ⟨w.heap.size + 1, 0, none⟩ = some (.int .i64 c) ∧ w'.cell? ⟨w.heap.size + 1, 1, none⟩ = some (.int .i64 d))
  (go_keep)
  (first
   | (go_at_call 48; refine (compare_q _ _ _).mono ?_; rintro e w' ⟨rfl, rfl⟩)
   | (go_at_call 47; refine (or_q _ (ciQ a c) (ciQ b d) _ (by go_simp) (by go_simp)).mono ?_; rintro e w' ⟨rfl, rfl⟩))
 go_wp2_with fail
 go_ret
 exact ⟨rfl, by repeat (first | exact Fp.refl _ _ | with_reducible refine Fp.trans ?_ (Fp.drew _ _) | with_reducible refine Fp.trans ?_ (Fp.alloc _ _ _))⟩
set_option maxHeartbeats 2000000 in
theorem fcmp_q (a b c d : Int) (w : World) : Calls Tryd.prog 74 #[.agg #[.int .i64 a, .int .i64 b], .agg #[.int .i64 c, .int .i64 d]] w fun e w' => e = .returned (.int .i64 (orQ (ciQ a c) (ciQ b d))) ∧ Fp (fun _ => False) w w' := by
 go_enter Tryd.func74, Tryd.ntmps74
 go_wp2_with fail
 go_region_held3 (fun w' => w'.cell? ⟨w.heap.size, 0, none⟩ = some (.int .i64 a) ∧ w'.cell? ⟨w.heap.size, 1, none⟩ = some (.int .i64 b) ∧ w'.cell? ⟨w.heap.size + 1, 0, none⟩ = some (.int .i64 c) ∧ w'.cell? ⟨w.heap.size + 1, 1, none⟩ = some (.int .i64 d))
  (go_keep)
  (first
   | (go_at_call 48; refine (compare_q _ _ _).mono ?_; rintro e w' ⟨rfl, rfl⟩)
   | (go_at_call 47; refine (or_q _ (ciQ a c) (ciQ b d) _ (by go_simp) (by go_simp)).mono ?_; rintro e w' ⟨rfl, rfl⟩))
 go_wp2_with fail
 go_ret
 exact ⟨rfl, by repeat (first | exact Fp.refl _ _ | with_reducible refine Fp.trans ?_ (Fp.drew _ _) | with_reducible refine Fp.trans ?_ (Fp.alloc _ _ _))⟩
set_option maxHeartbeats 2000000 in
theorem pcmp_q (a b c d : Int) (w : World) : Calls Tryd.prog 66 #[.agg #[.int .i64 a, .int .i64 b], .agg #[.int .i64 c, .int .i64 d]] w fun e w' => e = .returned (.int .i64 (orQ (ciQ a c) (ciQ b d))) ∧ Fp (fun _ => False) w w' := by
 go_enter Tryd.func66, Tryd.ntmps66
 go_wp2_with fail
 go_region_held3 (fun w' => w'.cell? ⟨w.heap.size, 0, none⟩ = some (.int .i64 a) ∧ w'.cell? ⟨w.heap.size, 1, none⟩ = some (.int .i64 b) ∧ w'.cell? ⟨w.heap.size + 1, 0, none⟩ = some (.int .i64 c) ∧ w'.cell? ⟨w.heap.size + 1, 1, none⟩ = some (.int .i64 d))
  (go_keep)
  (first
   | (go_at_call 48; refine (compare_q _ _ _).mono ?_; rintro e w' ⟨rfl, rfl⟩)
   | (go_at_call 47; refine (or_q _ (ciQ a c) (ciQ b d) _ (by go_simp) (by go_simp)).mono ?_; rintro e w' ⟨rfl, rfl⟩))
 go_wp2_with fail
 go_ret
 exact ⟨rfl, by repeat (first | exact Fp.refl _ _ | with_reducible refine Fp.trans ?_ (Fp.drew _ _) | with_reducible refine Fp.trans ?_ (Fp.alloc _ _ _))⟩
def orTz : List AV → Option AV
 | [.a (.c (.v (.int .u64 x)))] => if 0 ≤ x ∧ x < 18446744073709551616 then some (.i (Lib.ctz 64 x.toNat)) else none
 | _ => none
theorem fc_tz : ∀ args r, orTz args = some r → args.map (AV.ren []) = args ∧ (∀ h, r.up h = r) ∧ FC Tryd.prog 72 args [] (fun x o => o = [] ∧ x = r) := by
 intro args r hr
 unfold orTz at hr
 split at hr
 ·rename_i x
  split at hr
  ·rename_i hx
   cases hr
   refine ⟨rfl, fun _ => rfl, fun g w vs hR hargs => ?_⟩
   obtain ⟨h0, h1⟩ := hargs
   obtain ⟨v, e1, e2⟩ := h1 0 _ rfl
   obtain rfl : vs = [.int .u64 x] := by
    match vs, h0 with
    | [y], _ => simp at e1; subst e1; rw [show y = _ from e2]
   have hT : TabAt 0 Lib.deBruijn64tab w := fun j hj => by
    refine ((hR.gl 0 _ rfl).2.2 j _ ?_).2
    rw [List.getElem?_map, List.getElem?_eq_getElem hj, List.getD_eq_getElem?_getD, List.getElem?_eq_getElem hj]; rfl
   have hc := Any7.bits_TrailingZeros64 Tryd.tz64 x.toNat (by omega) w (fun _ => hT)
   have ex : ((x.toNat : Nat) : Int) = x := by omega
   rw [ex] at hc
   refine (show Calls Tryd.prog 72 _ w _ from hc).mono ?_
   rintro e w' ⟨rfl, rfl⟩
   exact ⟨_, _, [], g, rfl, ⟨rfl, rfl⟩, hR, ⟨Nat.le_refl _, Ext.refl _ _⟩, fun ℓ hl => .inl ⟨ℓ, hl, rfl⟩, rfl, Fp.refl _ _⟩
  ·cases hr
 ·cases hr
def orcs : List (Nat × (List AV → Option AV)) := [(48, orCi)
 , (26, orCa)
 , (74, orCa)
 , (66, orCa)
 , (72, orTz)
 ]
theorem orcsOk : AllP (fun f g => callable Tryd.prog f = true ∧ ∀ args r, g args = some r → args.map (AV.ren []) = args ∧ (∀ h, r.up h = r) ∧ FC Tryd.prog f args [] (fun x o => o = [] ∧ x = r)) orcs :=
 ⟨⟨by kernel_rfl, fc_ci fun a b w => (compare_q a b w).mono fun e w' ⟨h1, h2⟩ => ⟨h1, h2 ▸ Fp.refl _ _⟩⟩
 , ⟨by kernel_rfl, fc_ca rcmp_q⟩
 , ⟨by kernel_rfl, fc_ca fcmp_q⟩
 , ⟨by kernel_rfl, fc_ca pcmp_q⟩
 , ⟨by kernel_rfl, fc_tz⟩
 , trivial⟩
end Go.Proofs.YtglchakimolfdaaDoor
namespace Go.Proofs.YtglchakimolfdaaDoor
set_option linter.unusedVariables false
set_option linter.unusedSimpArgs false
open Go.RowKit

section
variable {P : Program} {T : Tb} {g : Gh} {hp : List Ob} {w : World}
theorem keyOf_ok {x : AV} {y k : Value} (h : keyOf x = some k) (hR : AVR (CR g hp w) x y) : y = k := by
 have cv : ∀ {xs : List C} {vs : List Value}, cVals xs = some vs → ∀ {us : List Value}, LR (CR g hp w) xs us → us = vs := by
  intro xs
  induction xs with
  | nil =>
   intro vs e us hl
   cases e
   exact List.eq_nil_of_length_eq_zero hl.1
  | cons c r ih =>
   intro vs e us hl
   cases c <;> simp only [cVals, reduceCtorEq] at e
   rename_i v
   cases hr : cVals r with
   | none => rw [hr] at e; cases e
   | some l =>
    rw [hr] at e
    cases e
    cases us with
    | nil => exact absurd hl.1 (by simp)
    | cons u us =>
     obtain ⟨u', e1, e2⟩ := hl.2 0 (.v v) rfl
     simp at e1
     subst e1
     have := ih hr (us := us) ⟨by have := hl.1; simpa using this, fun i x hx => by simpa using hl.2 (i + 1) x (by simpa using hx)⟩
     rw [this, show u = v from e2]
 unfold keyOf at h
 split at h
 ·cases h; exact hR
 ·rename_i xs
  split at h
  ·rename_i vs hv
   cases h
   obtain ⟨us, rfl, hl⟩ := hR
   rw [cv hv hl]
  ·cases h
 ·cases h
def KvOk (kv : List (Value × C)) (es : List MapEntry) : Prop := es.length = kv.length ∧ ∀ (i : Nat) (p : Value × C), kv[i]? = some p → ∃ e, es[i]? = some e ∧ e.key = p.1
theorem KvOk.tail {p : Value × C} {kv : List (Value × C)} {e : MapEntry} {es : List MapEntry} (h : KvOk (p :: kv) (e :: es)) : e.key = p.1 ∧ KvOk kv es := by
 obtain ⟨h1, h2⟩ := h
 obtain ⟨e', f1, f2⟩ := h2 0 p rfl
 simp at f1
 subst f1
 exact ⟨f2, by simpa using h1, fun i q hq => by simpa using h2 (i + 1) q (by simpa using hq)⟩
def fnd (es : List MapEntry) (i0 : Nat) : Option (Nat × C) → Option (Nat × Value)
 | none => none
 | some (i, _) => (es[i - i0]?).map fun e => (i, e.val)
theorem findNow_ok {kd : TypeDesc} {s : Ks} (hk : ∀ a b t, keyEq s a b = some t → Instr.sameNow kd a b = some t) (key : Value) : ∀ (kv : List (Value × C)) (es : List MapEntry) (i : Nat) (r : Option (Nat × C)), KvOk kv es → kvFind s key kv i = some r →
  Instr.findNow kd key es i = some (fnd es i r) ∧ ∀ j c, r = some (j, c) → i ≤ j ∧ (∃ q, kv[j - i]? = some (q, c)) ∧ ∃ k, kv[j - i]? = some (k, c) ∧ keyEq s key k = some true
 | [], es, i, r, hk', h => by
  have : es = [] := List.eq_nil_of_length_eq_zero hk'.1
  subst this
  cases h
  exact ⟨rfl, fun j c e => by cases e⟩
 | (k, c) :: kv, es, i, r, hk', h => by
  cases es with
  | nil => exact absurd hk'.1 (by simp)
  | cons e es =>
   obtain ⟨e1, e2⟩ := hk'.tail
   simp only at e1
   unfold kvFind at h
   split at h
   ·rename_i ht
    cases h
    refine ⟨by simp [Instr.findNow, e1, hk _ _ _ ht, fnd], fun j c' e => ?_⟩
    cases e
    exact ⟨Nat.le_refl _, ⟨k, by simp⟩, k, by simp, ht⟩
   ·rename_i ht
    obtain ⟨h1, h2⟩ := findNow_ok hk key kv es (i + 1) r e2 h
    refine ⟨?_, fun j c' e => ?_⟩
    ·simp only [Instr.findNow, e1, hk _ _ _ ht, h1]
     cases r with
     | none => rfl
     | some p =>
      obtain ⟨j, c'⟩ := p
      obtain ⟨h3, _⟩ := h2 j c' rfl
      simp only [fnd]
      rw [show j - i = (j - (i + 1)) + 1 from by omega]
      simp
    ·obtain ⟨h3, ⟨q, h4⟩, k', h5, h6⟩ := h2 j c' e
     rw [show j - i = (j - (i + 1)) + 1 from by omega]
     exact ⟨by omega, ⟨q, by simpa using h4⟩, k', by simpa using h5, h6⟩
   ·cases h
theorem findAsk_ok {kt : TypeId} {s : Ks} (hk : ∀ a b t, keyEq s a b = some t → ∀ w, (Op.equal kt a b).run P w = .ok t w) (key : Value) (w : World) : ∀ (kv : List (Value × C)) (es : List MapEntry) (i : Nat) (r : Option (Nat × C)), KvOk kv es → kvFind s key kv i = some r →
  (Instr.findAsking kt key es i).run P w = .ok (fnd es i r) w ∧ ∀ j c, r = some (j, c) → i ≤ j ∧ ∃ k, kv[j - i]? = some (k, c) ∧ keyEq s key k = some true
 | [], es, i, r, hk', h => by
  have : es = [] := List.eq_nil_of_length_eq_zero hk'.1
  subst this
  cases h
  exact ⟨by simp [Instr.findAsking, fnd], fun j c e => by cases e⟩
 | (k, c) :: kv, es, i, r, hk', h => by
  cases es with
  | nil => exact absurd hk'.1 (by simp)
  | cons e es =>
   obtain ⟨e1, e2⟩ := hk'.tail
   simp only at e1
   unfold kvFind at h
   split at h
   ·rename_i ht
    cases h
    refine ⟨by simp [Instr.findAsking, e1, hk _ _ _ ht w, fnd], fun j c' e => ?_⟩
    cases e
    exact ⟨Nat.le_refl _, k, by simp, ht⟩
   ·rename_i ht
    obtain ⟨h1, h2⟩ := findAsk_ok hk key w kv es (i + 1) r e2 h
    refine ⟨?_, fun j c' e => ?_⟩
    ·simp only [Instr.findAsking, e1, Sem.run_bind, hk _ _ _ ht w, Result.andThen_ok, Bool.false_eq_true, if_false, h1]
     cases r with
     | none => rfl
     | some p =>
      obtain ⟨j, c'⟩ := p
      obtain ⟨h3, _⟩ := h2 j c' rfl
      simp only [fnd]
      rw [show j - i = (j - (i + 1)) + 1 from by omega]
      simp
    ·obtain ⟨h3, k', h5, h6⟩ := h2 j c' e
     rw [show j - i = (j - (i + 1)) + 1 from by omega]
     exact ⟨by omega, k', by simpa using h5, h6⟩
   ·cases h
theorem find_ok {kt : TypeId} {s : Ks} (hk : KeyOk P kt s) (key : Value) (w : World) {kv : List (Value × C)} {es : List MapEntry} {r : Option (Nat × C)} (h : KvOk kv es) (hf : kvFind s key kv 0 = some r) :
  (Instr.findKey kt key es).run P w = .ok (fnd es 0 r) w ∧ ∀ j c, r = some (j, c) → ∃ k, kv[j]? = some (k, c) ∧ keyEq s key k = some true := by
 obtain ⟨kd, hu, hk1 | hk2⟩ := hk.eq
 ·obtain ⟨h1, h2⟩ := findNow_ok hk1 key kv es 0 r h hf
  refine ⟨MapKept.run_findKey hu h1, fun j c e => ?_⟩
  obtain ⟨_, _, k, h3, h4⟩ := h2 j c e
  exact ⟨k, by simpa using h3, h4⟩
 ·obtain ⟨h1, h2⟩ := findAsk_ok (fun a b t e => (hk2 a b t e).2) key w kv es 0 r h hf
  refine ⟨?_, fun j c e => ?_⟩
  ·cases kv with
   | nil =>
    have : es = [] := List.eq_nil_of_length_eq_zero h.1
    subst this
    cases hf
    exact MapKept.run_findKey hu rfl
   | cons p kv =>
    cases es with
    | nil => exact absurd h.1 (by simp)
    | cons e es =>
     obtain ⟨e1, _⟩ := h.tail
     have hn : Instr.findNow kd key (e :: es) 0 = none := by
      unfold kvFind at hf
      split at hf
      ·rename_i ht; simp [Instr.findNow, e1, (hk2 _ _ _ ht).1]
      ·rename_i ht; simp [Instr.findNow, e1, (hk2 _ _ _ ht).1]
      ·cases hf
     simp only [Instr.findKey, Sem.run_bind, run_underlying hu, Result.andThen_ok, hn]
     exact h1
  ·obtain ⟨_, k, h3, h4⟩ := h2 j c e
   exact ⟨k, by simpa using h3, h4⟩
theorem same_bits {s : Ks} {a b : Value} (h : keyEq s a b = some true) : Instr.sameBits 10000 b a = true := by
 unfold keyEq at h
 split at h
 ·rename_i x y
  simp only [Option.some.injEq, beq_iff_eq] at h
  subst h
  simp [Instr.sameBits]
 ·rename_i x y
  simp only [Option.some.injEq] at h
  obtain rfl := (MapKept.bytes_beq _ _).1 h
  simp [Instr.sameBits, MapKept.bytes_beq]
 ·rename_i n xs ys
  split at h
  ·have key : ∀ {xs ys : List Value}, keyEqL xs ys = some true → xs = ys ∧ ∀ x ∈ xs, ∃ n : Int, x = .int .i64 n := by
    intro xs
    induction xs with
    | nil =>
     intro ys h
     cases ys with
     | nil => exact ⟨rfl, by simp⟩
     | cons y ys => simp [keyEqL] at h
    | cons x xs ih =>
     intro ys h
     unfold keyEqL at h
     split at h
     ·rename_i h1; cases h1
     ·rename_i a r b s h1
      cases h1
      split at h
      ·rename_i q hq
       simp only [Option.some.injEq, Bool.and_eq_true, beq_iff_eq] at h
       obtain ⟨rfl, rfl⟩ := h
       obtain ⟨rfl, h2⟩ := ih hq
       refine ⟨rfl, fun x hx => ?_⟩
       rcases List.mem_cons.1 hx with rfl | hx
       ·exact ⟨_, rfl⟩
       ·exact h2 x hx
      ·cases h
     ·cases h
   obtain ⟨rfl, h2⟩ := key h
   show Instr.sameBits (9999 + 1) _ _ = true
   simp only [Instr.sameBits, beq_self_eq_true, Bool.true_and, List.all_eq_true]
   rintro ⟨x, y⟩ hxy
   rw [List.zip_eq_zipWith, ← List.map_uncurry_zip_eq_zipWith] at hxy
   simp only [List.zip_eq_zipWith, List.zipWith_self, List.map_map, List.mem_map] at hxy
   obtain ⟨z, hz, e⟩ := hxy
   cases e
   obtain ⟨n, rfl⟩ := h2 _ hz
   simp [Instr.sameBits]
  ·cases h
 ·cases h
end
theorem RelG.mobj {g : Gh} {M0 : Nat → Prop} {w0 w : World} {st : ST} {a : Act} (h : RelG g M0 w0 st a w) {id : Nat} {kv kv' : List (Value × C)} {ob' : Obj} (hm : st.hp[id]? = some (.m kv))
  (hnw : Mo g st.hp w g (st.hp.set id (.m kv')) { w with heap := w.heap.setIfInBounds (g.γ (.ob id)) ob' } (fun _ => True) → (w.heap.setIfInBounds (g.γ (.ob id)) ob')[g.γ (.ob id)]? = some ob' → MpR g (st.hp.set id (.m kv')) { w with heap := w.heap.setIfInBounds (g.γ (.ob id)) ob' } id kv') :
  Mo g st.hp w g (st.hp.set id (.m kv')) { w with heap := w.heap.setIfInBounds (g.γ (.ob id)) ob' } (fun _ => True) ∧ RelG g M0 w0 { st with hp := st.hp.set id (.m kv') } a { w with heap := w.heap.setIfInBounds (g.γ (.ob id)) ob' } := by
 have hlt : id < st.hp.length := (List.getElem?_eq_some_iff.1 hm).1
 have hlid : Lv st.hp g (.ob id) := .inr ⟨kv, hm⟩
 have hne : ∀ i, i ≠ id → (st.hp.set id (.m kv'))[i]? = st.hp[i]? := fun i hi => by rw [List.getElem?_set_ne (Ne.symm hi)]
 have h1 : (st.hp.set id (.m kv'))[id]? = some (.m kv') := by simp [hlt]
 have hfx : ∀ b, b ≠ g.γ (.ob id) → (w.heap.setIfInBounds (g.γ (.ob id)) ob')[b]? = w.heap[b]? := fun b hb => by simp [Array.getElem?_setIfInBounds, Ne.symm hb]
 have hrow : ∀ i r, (st.hp.set id (.m kv'))[i]? = some (.r r) → i ≠ id ∧ st.hp[i]? = some (.r r) := by
  intro i r e
  by_cases hi : i = id
  ·subst hi; rw [h1] at e; cases e
  ·exact ⟨hi, by rw [← hne i hi]; exact e⟩
 have hsub : ∀ ℓ, Lv (st.hp.set id (.m kv')) g ℓ → Lv st.hp g ℓ := by
  intro ℓ hl
  cases ℓ with
  | ob i =>
   by_cases e : i = id
   ·subst e; exact hlid
   ·rcases hl with ⟨r', e1, e2⟩ | ⟨kv, e1⟩
    ·exact .inl ⟨r', by rw [← hne i e]; exact e1, e2⟩
    ·exact .inr ⟨kv, by rw [← hne i e]; exact e1⟩
  | cl i j =>
   obtain ⟨r', k, cs, e1, e2, e3⟩ := hl
   exact ⟨r', k, cs, (hrow i r' e1).2, e2, e3⟩
 have far : ∀ ℓ, Lv st.hp g ℓ → ℓ ≠ .ob id → (w.heap.setIfInBounds (g.γ (.ob id)) ob')[g.γ ℓ]? = w.heap[g.γ ℓ]? := fun ℓ hl hn => hfx _ (fun he => hn (h.hr.inj _ _ hl hlid he))
 have hmo : Mo g st.hp w g (st.hp.set id (.m kv')) { w with heap := w.heap.setIfInBounds (g.γ (.ob id)) ob' } (fun _ => True) := by
  refine ⟨fun i hi => ⟨?_, rfl, rfl⟩, fun b _ ho => ho.elim .inl (fun ⟨ℓ, hl, e⟩ => .inr ⟨ℓ, hsub ℓ hl, e⟩), by simp, fun b hb ho => hfx b (fun e => ho (.inr ⟨.ob id, hlid, e.symm⟩)), fun i _ hi r' j k cs e1 e2 => ?_⟩
  ·by_cases e : i = id
   ·subst e; exact ⟨_, h1, rfl⟩
   ·obtain ⟨o, e1, e2⟩ := hi
    exact ⟨o, by rw [hne i e]; exact e1, e2⟩
  ·obtain ⟨hi', e3⟩ := hrow i r' e1
   refine ⟨r', e3, e2, fun _ => World.cell?_of_block (hfx _ (fun he => ?_))⟩
   by_cases h0 : g.κ i = 0
   ·rcases h.hr.row i r' e3 with ⟨_, h2⟩ | ⟨h2, _⟩
    ·rw [h2] at e2; simp at e2
    ·exact h2 h0
   ·have := h.hr.inj (.ob i) (.ob id) (.inl ⟨r', e3, h0⟩) hlid he
    injection this with this
    exact hi' this
 refine ⟨hmo, h.mo hmo ⟨fun q hq => by simpa using h.hr.ml q hq, fun ℓ hl => h.hr.md ℓ (hsub ℓ hl), fun ℓ ℓ' h1 h2 e => h.hr.inj _ _ (hsub _ h1) (hsub _ h2) e, fun i r e => ?_, fun i kv2 e => ?_, hmo.gl h.hr.gl⟩ (fun ℓ hl => h.new ℓ (hsub ℓ hl)) ?_⟩
 ·obtain ⟨hi, e3⟩ := hrow i r e
  exact RowR.mo hmo e3 (h.hr.row i r e3) (fun h0 => far _ (.inl ⟨r, e3, h0⟩) (by simpa using hi)) (fun j k cs hj hn => ⟨rfl, far _ ⟨r, k, cs, e3, hj, hn⟩ (by simp)⟩)
 ·by_cases hi : i = id
  ·subst hi
   rw [h1] at e
   cases e
   refine hnw hmo ?_
   have := h.hr.lt hlid
   simp [this]
  ·rw [hne i hi] at e
   exact MpR.mo hmo e (h.hr.mp i kv2 e) (far _ (.inr ⟨kv2, e⟩) (by simpa using hi))
 ·refine ⟨h.fp.os, h.fp.tape, h.fp.output, by simpa using h.fp.size, fun k hk' hM => ?_, h.fp.drawn⟩
  rw [← h.fp.block k hk' hM]
  refine hfx k (fun e => ?_)
  rcases h.new (.ob id) hlid with h2 | h2
  ·exact hM (by rw [e]; exact h2)
  ·omega
theorem RelG.mapset {g : Gh} {M0 : Nat → Prop} {w0 w : World} {st : ST} {a : Act} (h : RelG g M0 w0 st a w) {id : Nat} {kv kv' : List (Value × C)} {es' : Array MapEntry} {clock : Nat} (hm : st.hp[id]? = some (.m kv)) (hs : es'.size = kv'.length)
  (hc : ∀ (i : Nat) (p : Value × C), kv'[i]? = some p → (∃ e : MapEntry, es'[i]? = some e ∧ e.key = p.1 ∧ CellR g st.hp w id 0 p.2 e.val) ∧ ∀ k cs, p.2 ≠ .o k cs) (hb : Bo es' clock) :
  RelG g M0 w0 { st with hp := st.hp.set id (.m kv') } a { w with heap := w.heap.setIfInBounds (g.γ (.ob id)) (.map es' clock) } :=
 (h.mobj hm fun hmo hh => .inr ⟨es', clock, hh, hs, fun j p hp => by
  obtain ⟨⟨e, f1, f2, f3⟩, f4⟩ := hc j p hp
  exact ⟨⟨e, f1, f2, CellR.mo hmo f3 fun k cs hx => absurd hx (f4 k cs)⟩, f4⟩, hb⟩).2
theorem MpR.map {g : Gh} {hp : List Ob} {w : World} {id : Nat} {kv : List (Value × C)} {s : Ks} {key : Value} {r : Option (Nat × C)} (h : MpR g hp w id kv) (hf : kvFind s key kv 0 = some r) : MpR0 g hp w id kv := by
 rcases h with ⟨mid, since, seen, last, rfl, _⟩ | h
 ·exfalso
  have e : keyEq s key (.bool true) = none := by
   unfold keyEq
   split <;> simp_all
  simp [itKV, kvFind, e] at hf
 ·exact h
end Go.Proofs.YtglchakimolfdaaDoor
namespace Go.Proofs.YtglchakimolfdaaDoor
set_option linter.unusedVariables false
set_option linter.unusedSimpArgs false
open Go.RowKit

section
variable {P : Program} {T : Tb} {o : Oper} {st : ST} {K : ST → Prop}
theorem tyOf.str {t : TypeId} {y : Ty} (h : tyOf P t = some y) (hk : y.kind = 4) : P.underlying t = some .string := by
 obtain ⟨i, u, z, hi, hu, hz, hd, rfl⟩ := tyOf_ex h
 cases u <;> simp [kindD] at hk
 exact hu
theorem tyOf.map {t : TypeId} {y : Ty} (h : tyOf P t = some y) (hk : y.kind = 3) {kt e : TypeId} (hu : P.underlying t = some (.map kt e)) : y.elem = e := by
 obtain ⟨i, u, z, hi, hu', hz, hd, rfl⟩ := tyOf_ex h
 rw [hu] at hu'
 cases hu'
 rfl
theorem stp_val {v : AV} (hd : dok o st.n = true) (h : ∀ (g : Gh) (w : World) (ρ : Operand → Value), HR g st.hp w → (∀ x, AVR (CR g st.hp w) (st.ev x) (ρ x)) → ∃ u, (execOp ρ o).run P w = .ok (.value u) w ∧ AVR (CR g st.hp w) v u)
  (hk : K (st.put o.dst v)) : Stp P o st K := by
 intro M0 w0 a w N Q hR hN
 obtain ⟨g, ⟨hp1, hp2⟩, hR⟩ := hR
 obtain ⟨u, h1, h2⟩ := h g w a.eval hR.hr hR.ev
 unfold Oper.wp
 rw [h1]
 exact hN _ _ _ hk ⟨g, ⟨by cases o.dst <;> exact hp1, by cases o.dst <;> exact hp2⟩, hR.put (dok_lt hd) h2⟩
theorem intX_ok {op : BinOp} {k k' : IntKind} {a b : Int} {v : Value} (h : intX op k k' a b = some v) (t : TypeId) (x y : Operand) (w : World) : (do eqGuard op t x y (.int k a) (.int k' b); binOp op t (.int k a) (.int k' b) : Sem Value).run P w = .ok v w := by
 have same : ∀ {z : Value}, (bif decide (k = k') then some z else none) = some v → k = k' ∧ z = v := by
  intro z h
  obtain ⟨h1, h2⟩ := condS h
  exact ⟨by simpa using h1, h2⟩
 cases op <;> simp only [intX, reduceCtorEq] at h
 case shl =>
  obtain ⟨h1, rfl⟩ := condS h
  simp only [decide_eq_true_eq] at h1
  simp [eqGuard, binOp, Op.shift, show ¬ b < 0 by omega]
 case shr =>
  obtain ⟨h1, rfl⟩ := condS h
  simp only [decide_eq_true_eq] at h1
  simp [eqGuard, binOp, Op.shift, show ¬ b < 0 by omega]
 case add => obtain ⟨rfl, rfl⟩ := same h; simp [eqGuard, binOp, Op.intArith]
 case sub => obtain ⟨rfl, rfl⟩ := same h; simp [eqGuard, binOp, Op.intArith]
 case mul => obtain ⟨rfl, rfl⟩ := same h; simp [eqGuard, binOp, Op.intArith]
 case and => obtain ⟨rfl, rfl⟩ := same h; simp [eqGuard, binOp, Op.intBits]
 case or => obtain ⟨rfl, rfl⟩ := same h; simp [eqGuard, binOp, Op.intBits]
 case xor => obtain ⟨rfl, rfl⟩ := same h; simp [eqGuard, binOp, Op.intBits]
theorem run_eqB {t : TypeId} (hu : P.underlying t = some .bool) (a b : Bool) (W : World) : (Op.equal t (.bool a) (.bool b)).run P W = .ok (a == b) W := by
 unfold Op.equal Op.maxDepth
 show (Op.equalIn (9999 + 1) _ _ _).run P W = _
 unfold Op.equalIn
 simp only [Sem.run_bind, run_underlying hu, Result.andThen_ok]
 rfl
theorem rE_ok (hT : TbOk P T) {ev : Operand → AV} {v : AV} (h : rE T o.op ev = some v) (g : Gh) (hp : List Ob) (w : World) (ρ : Operand → Value) (hR : ∀ x, AVR (CR g hp w) (ev x) (ρ x)) :
  ∃ u, (∀ W, (execOp ρ o).run P W = .ok (.value u) W) ∧ AVR (CR g hp w) v u := by
 obtain ⟨dst, op, ty, pos, af, gd⟩ := o
 simp only at h
 unfold rE at h
 split at h
 ·rename_i op t x y yt
  split at h
  ·rename_i k a k' b hx hy
   cases hi : intX op k k' a b with
   | none => rw [hi] at h; cases h
   | some u =>
    rw [hi] at h
    cases h
    have e1 := hR x
    have e2 := hR y
    rw [hx] at e1
    rw [hy] at e2
    have e1 : ρ x = .int k a := e1
    have e2 : ρ y = .int k' b := e2
    refine ⟨u, fun W => ?_, rfl⟩
    have := intX_ok (P := P) hi t x y W
    simp only [execOp, e1, e2]
    rw [Sem.run_bind, this]
    rfl
  ·rename_i a b hx hy
   have e1 := hR x
   have e2 := hR y
   rw [hx] at e1
   rw [hy] at e2
   have e1 : ρ x = .bool a := e1
   have e2 : ρ y = .bool b := e2
   split at h
   ·rename_i hbl
    cases h
    have hu := asc_all hT.bl hbl
    refine ⟨.bool (a == b), fun W => ?_, rfl⟩
    simp only [execOp, e1, e2]
    simp [eqGuard, binOp, run_eqB hu]
   ·rename_i hbl
    cases h
    have hu := asc_all hT.bl hbl
    refine ⟨.bool (!(a == b)), fun W => ?_, rfl⟩
    simp only [execOp, e1, e2]
    simp [eqGuard, binOp, run_eqB hu]
   ·cases h
  ·cases h
 ·rename_i t x l
  split at h
  ·rename_i z id n kk i hz hx hl
   obtain ⟨hc, rfl⟩ := condS h
   have hc : i = n := by simpa using hc
   have e1 := hR x
   have e2 := hR l
   rw [hx] at e1
   rw [hl] at e2
   obtain ⟨_, hn, A, e1, _⟩ := e1
   have e2 : ρ l = .int kk i := e2
   obtain ⟨e, h2, h4, h3⟩ := elSize_run (rEl_ok hT hz)
   subst hc
   refine ⟨.slice (cutA A (g.κ id) n (z + 1)) (n - n) (g.κ id - n), fun W => ?_, ?_⟩
   ·simp only [execOp, Option.map_some, Option.map_none, e1, e2, Sem.run_bind, sliceAt_eq h2]
    rw [run_slice_l W t _ _ _ (by rw [h4]; exact h2) _ (n : Int) (by omega) (by omega), h4, h3]
    simp [sliced, Result.andThen, cutA]
   ·rw [Nat.sub_self]
    exact Rd.e _ _ _
  ·rename_i z kk i hz hx hl
   obtain ⟨hc, rfl⟩ := condS h
   have hc : i = 0 := by simpa using hc
   have e1 := hR x
   have e2 := hR l
   rw [hx] at e1
   rw [hl] at e2
   have e1 : ρ x = .slice none 0 0 := e1
   have e2 : ρ l = .int kk i := e2
   obtain ⟨e, h2, h4, h3⟩ := elSize_run (rEl_ok hT hz)
   subst hc
   refine ⟨.slice (cutA none 0 0 (z + 1)) (0 - 0) (0 - 0), fun W => ?_, Rd.e _ _ _⟩
   simp only [execOp, Option.map_some, Option.map_none, e1, e2, Sem.run_bind, sliceAt_eq h2]
   rw [run_slice_l W t _ _ _ (by rw [h4]; exact h2) _ 0 (by omega) (by omega), h4, h3]
   simp [sliced, Result.andThen, cutA]
  ·cases h
 ·rename_i t x l
  split at h
  ·rename_i z kk i hz hx hl
   obtain ⟨hc, rfl⟩ := condS h
   have hc : i = 0 := by simpa using hc
   have e1 := hR x
   have e2 := hR l
   rw [hx] at e1
   rw [hl] at e2
   have e1 : ρ x = .slice none 0 0 := e1
   have e2 : ρ l = .int kk i := e2
   obtain ⟨e, h2, h4, h3⟩ := elSize_run (rEl_ok hT hz)
   subst hc
   refine ⟨.slice none 0 0, fun W => ?_, rfl⟩
   simp only [execOp, Option.map_some, Option.map_none, e1, e2, Sem.run_bind, sliceAt_eq h2]
   rw [run_slice_h W t _ _ _ (by rw [h4]; exact h2) _ 0 (by omega) (by omega), h4, h3]
   simp [sliced, Result.andThen]
  ·cases h
 ·rename_i t x l
  split at h
  ·rename_i y s kk i hy hx hl
   rw [Bool.cond_eq_ite] at h
   split at h
   ·rename_i hc
    simp only [beqT, Bool.and_eq_true, decide_eq_true_eq] at hc
    cases hs : s[i.toNat]? with
    | none => rw [hs] at h; cases h
    | some b =>
     rw [hs] at h
     cases h
     have e1 := hR x
     have e2 := hR l
     rw [hx] at e1
     rw [hl] at e2
     have e1 : ρ x = .string s := e1
     have e2 : ρ l = .int kk i := e2
     have hu := tyOf.str (hT.t hy) hc.1
     refine ⟨.int .u8 b.toNat, fun W => ?_, rfl⟩
     simp [execOp, e1, e2, Instr.index, asIntOf, run_underlying hu, hc.2, hs]
   ·cases h
  ·cases h
 ·cases h
theorem rDE_sound (hT : TbOk P T) {ev : Operand → AV} {v : AV} (h : rDE T o.op ev = some v) (g : Gh) (hp : List Ob) (w : World) (ρ : Operand → Value) (hR : ∀ x, AVR (CR g hp w) (ev x) (ρ x)) :
  ∃ u, (∀ W, (execOp ρ o).run P W = .ok (.value u) W) ∧ AVR (CR g hp w) v u := by
 unfold rDE at h
 split at h
 ·rename_i v' hv
  cases h
  obtain ⟨c, h3, h4⟩ := rD_ok hT hv
  exact d_sound (P := P) (ρ := ρ) (ev := ev) hR h3 h4
 ·exact rE_ok hT h g hp w ρ hR
theorem lookup_ok (hT : TbOk P T) {rs : RS} (hRR : RR rs st) {t : TypeId} {x ix : Operand} {ok : Bool} {v : AV} (ho : o.op = .lookup t x ix ok) (h : rLookup T rs t x ix ok = some v) (g : Gh) (w : World) (ρ : Operand → Value) (hr : HR g st.hp w) (hR : ∀ x, AVR (CR g st.hp w) (st.ev x) (ρ x)) :
  ∃ u, (execOp ρ o).run P w = .ok (.value u) w ∧ AVR (CR g st.hp w) v u := by
 obtain ⟨dst, op, ty, pos, af, gd⟩ := o
 simp only at ho
 subst ho
 unfold rLookup at h
 split at h
 rotate_left
 ·cases h
 rename_i s zv hs
 split at h
 rotate_left
 ·cases h
 rename_i id key hx hkey
 split at h
 rotate_left
 ·cases h
 rename_i kv hkv hfit
 obtain ⟨kt, e, hu, hK, hze⟩ := asc_all hT.mp hs
 have hz1 : ∀ w, (zeroValue e).run P w = .ok zv w := by
  intro w
  cases hi : P.info? e with
  | none => rw [hi] at hze; cases hze
  | some i =>
   rw [hi] at hze
   simp only [Option.bind_some] at hze
   simp [zeroValue, run_typeInfo hi, hze]
 have hm : st.hp[id]? = some (.m kv) := (hRR.2.1 id).trans hkv
 obtain ⟨rf, hrf⟩ : ∃ r, kvFind s key kv 0 = some r := by
  cases hk : kvFind s key kv 0 with
  | none => rw [hk] at h; cases h
  | some r => exact ⟨r, rfl⟩
 obtain ⟨es, clock, m1, m2, m3, m4⟩ := (hr.mp id kv hm).map hrf
 have e1 := hR x
 rw [hRR.ev, hx] at e1
 obtain ⟨_, e1⟩ := e1
 have e2 := hR ix
 rw [hRR.ev] at e2
 have e2 := keyOf_ok hkey e2
 have hpl : kv.all (fun p => p.2.pl) = true := hRR.2.2.2.2.2 id _ hkv
 have hKv : KvOk kv es.toList := ⟨by simpa using m2, fun i p hp => by
  obtain ⟨⟨e, f1, f2, _⟩, _⟩ := m3 i p hp
  exact ⟨e, by simpa using f1, f2⟩⟩
 obtain ⟨q, hq⟩ : ∃ q, keyEq s key key = some q := by
  unfold keyFit at hfit
  split at hfit
  ·exact ⟨_, ‹_›⟩
  ·cases hfit
 have hck := hK.ck key q hq es.isEmpty w
 split at h
 ·rename_i j c hf
  obtain ⟨h1, h2⟩ := find_ok hK key w hKv hf
  obtain ⟨k', h3, h4⟩ := h2 j c rfl
  obtain ⟨⟨e, f1, f2, f3⟩, f4⟩ := m3 j _ h3
  have hc : CR g st.hp w c e.val := by
   have := List.all_eq_true.1 hpl _ (List.mem_of_getElem? h3)
   exact CellR.cr this f3
  have hfnd : fnd es.toList 0 (some (j, c)) = some (j, e.val) := by simp [fnd, f1]
  rw [hfnd] at h1
  cases h
  cases ok with
  | true =>
   refine ⟨.tuple #[e.val, .bool true], ?_, [e.val, .bool true], rfl, rfl, fun i a ha => ?_⟩
   ·simp [execOp, Instr.lookup, run_underlying hu, e1, MapKept.run_getObj_map m1, e2, hck, h1]
   ·match i, ha with
    | 0, ha => cases ha; exact ⟨_, rfl, hc⟩
    | 1, ha => cases ha; exact ⟨_, rfl, rfl⟩
  | false =>
   refine ⟨e.val, ?_, hc⟩
   simp [execOp, Instr.lookup, run_underlying hu, e1, MapKept.run_getObj_map m1, e2, hck, h1]
 ·rename_i hf
  obtain ⟨h1, _⟩ := find_ok hK key w hKv hf
  have hfnd : fnd es.toList 0 none = none := rfl
  rw [hfnd] at h1
  cases h
  cases ok with
  | true =>
   refine ⟨.tuple #[zv, .bool false], ?_, [zv, .bool false], rfl, rfl, fun i a ha => ?_⟩
   ·simp [execOp, Instr.lookup, run_underlying hu, e1, MapKept.run_getObj_map m1, e2, hck, h1, hz1 w]
   ·match i, ha with
    | 0, ha => cases ha; exact ⟨_, rfl, rfl⟩
    | 1, ha => cases ha; exact ⟨_, rfl, rfl⟩
  | false =>
   refine ⟨zv, ?_, rfl⟩
   simp [execOp, Instr.lookup, run_underlying hu, e1, MapKept.run_getObj_map m1, e2, hck, h1, hz1 w]
 ·cases h
theorem stp_map (hT : TbOk P T) {rs : RS} {k : RS → Ans} (hRR : RR rs st) {t : TypeId} {m kx v : Operand} (ho : o.op = .mapUpdate t m kx v ∨ o.op = .insert t m kx v) (h : rMapUpd T rs t m kx v (fun rs => rs.put o.dst .u k) = .ok) :
  dok o st.n = true ∧ ∃ hp', Stp P o st (fun s => s = { st with hp := hp' }.put o.dst .u) ∧ ∃ rs', RR rs' ({ st with hp := hp' }.put o.dst .u) ∧ k rs' = .ok := by
 unfold rMapUpd at h
 split at h
 rotate_left
 ·cases h
 rename_i s zv id key c hs hm hkey hv
 split at h
 rotate_left
 ·cases h
 rename_i kv hkv hfit hone
 obtain ⟨kt, e, hu, hK, _⟩ := asc_all hT.mp hs
 have hmm : st.hp[id]? = some (.m kv) := (hRR.2.1 id).trans hkv
 have hpl : kv.all (fun p => p.2.pl) = true := hRR.2.2.2.2.2 id _ hkv
 obtain ⟨q, hq⟩ : ∃ q, keyEq s key key = some q := by
  unfold keyFit at hfit
  split at hfit
  ·exact ⟨_, ‹_›⟩
  ·cases hfit
 obtain ⟨rf, hrf⟩ : ∃ r, kvFind s key kv 0 = some r := by
  cases hk : kvFind s key kv 0 with
  | none => rw [hk] at h; cases h
  | some r => exact ⟨r, rfl⟩
 have main : ∀ (kv' : List (Value × C)), (∀ (g : Gh) (w : World) (es : Array MapEntry) (clock : Nat) (u : Value), w.heap[g.γ (.ob id)]? = some (.map es clock) → KvOk kv es.toList → CR g st.hp w c u → (∀ (i : Nat) (p : Value × C), kv[i]? = some p → ∃ e : MapEntry, es[i]? = some e ∧ e.key = p.1 ∧ CellR g st.hp w id 0 p.2 e.val) →
   Bo es clock → ∃ es' clock', (Instr.mapUpdate t (.map (some (g.γ (.ob id)))) key u).run P w = .ok () { w with heap := w.heap.setIfInBounds (g.γ (.ob id)) (.map es' clock') } ∧ es'.size = kv'.length ∧
    (∀ (i : Nat) (p : Value × C), kv'[i]? = some p → ∃ e : MapEntry, es'[i]? = some e ∧ e.key = p.1 ∧ CellR g st.hp w id 0 p.2 e.val) ∧ Bo es' clock') →
   (∀ p ∈ kv', p.2.pl = true) → rs.upd id (.m kv') (fun rs => rs.put o.dst .u k) = .ok → dok o st.n = true ∧ ∃ hp', Stp P o st (fun s => s = { st with hp := hp' }.put o.dst .u) ∧ ∃ rs', RR rs' ({ st with hp := hp' }.put o.dst .u) ∧ k rs' = .ok := by
  intro kv' hmain hpl' hupd
  obtain ⟨rs1, h1, h2⟩ := RS.upd_ok hRR hupd
  obtain ⟨h3, rs2, h4, h5⟩ := RS.put_ok h2 h1
  have hd : dok o st.n = true := by
   unfold dok
   split
   ·rename_i d hd; simpa using h3 d hd
   ·rfl
  refine ⟨hd, _, ?_, rs2, h5, h4⟩
  intro M0 w0 a w N Q hR hN
  obtain ⟨g, ⟨hp1, hp2⟩, hR⟩ := hR
  have e1 := hR.ev m
  rw [hRR.ev, hm] at e1
  obtain ⟨_, e1⟩ := e1
  have e2 := hR.ev kx
  rw [hRR.ev] at e2
  have e2 := keyOf_ok hkey e2
  have e3 := hR.ev v
  rw [hRR.ev, hv] at e3
  obtain ⟨es, clock, m1, m2, m3, m4⟩ := (hR.hr.mp id kv hmm).map hrf
  have hKv : KvOk kv es.toList := ⟨by simpa using m2, fun i p hp => by
   obtain ⟨⟨e, f1, f2, _⟩, _⟩ := m3 i p hp
   exact ⟨e, by simpa using f1, f2⟩⟩
  obtain ⟨es', clock', r1, r2, r3, r4⟩ := hmain g w es clock _ m1 hKv e3 (fun i p hp => (m3 i p hp).1) m4
  have hset := hR.mapset (es' := es') (clock := clock') hmm r2 (fun i p hp => ⟨r3 i p hp, fun k' cs e => by
   have := hpl' p (List.mem_of_getElem? hp)
   rw [e] at this
   cases this⟩) r4
  have hrun : (execOp a.eval o).run P w = .ok .skip { w with heap := w.heap.setIfInBounds (g.γ (.ob id)) (.map es' clock') } := by
   unfold execOp
   rcases ho with ho | ho <;> simp [ho, e1, e2, r1]
  unfold Oper.wp
  rw [hrun]
  exact hN _ _ _ rfl ⟨g, ⟨by cases o.dst <;> (simp [ST.put]; omega), by cases o.dst <;> exact hp2⟩, hset.put (dok_lt hd) trivial⟩
 have hcell : ∀ {g : Gh} {w : World} {u : Value}, CR g st.hp w c u → CellR g st.hp w id 0 c u := fun h => cellR_of_one hone h
 have hcpl : c.pl = true := by cases c <;> first | rfl | cases hone
 split at h
 ·rename_i j c0 hf
  refine main _ (fun g w es clock u m1 hKv hc hes hbo => ?_) (fun p hp => ?_) h
  ·obtain ⟨h1, h2⟩ := find_ok hK key w hKv hf
   obtain ⟨k', h3, h4⟩ := h2 j c0 rfl
   obtain ⟨e, f1, f2, f3⟩ := hes j _ h3
   simp only at f2
   have hfnd : fnd es.toList 0 (some (j, c0)) = some (j, e.val) := by simp [fnd, f1]
   rw [hfnd] at h1
   have hsb := same_bits h4
   refine ⟨es.modify j fun e => { e with key := key, val := u }, clock, ?_, ?_, fun i p hp => ?_, hbo.modify _ _ _⟩
   ·simp [Instr.mapUpdate, run_underlying hu, MapKept.run_getObj_map m1, hK.ck key q hq, h1, f1, f2, Instr.keyThatStays, hsb, MapKept.run_setObj_map _ m1]
   ·have := hKv.1
    simpa using this
   ·rw [List.getElem?_set] at hp
    split at hp
    ·rename_i hji
     subst hji
     have hlt : j < kv.length := (List.getElem?_eq_some_iff.1 h3).1
     rw [if_pos hlt] at hp
     cases hp
     exact ⟨{ key := key, val := u, born := e.born }, by simp [Array.getElem?_modify, f1], rfl, hcell hc⟩
    ·rename_i hji
     obtain ⟨e', g1, g2, g3⟩ := hes i p hp
     exact ⟨e', by simp [Array.getElem?_modify, hji, g1], g2, g3⟩
  ·rcases List.mem_or_eq_of_mem_set hp with hp | rfl
   ·exact List.all_eq_true.1 hpl p hp
   ·exact hcpl
 ·rename_i hf
  refine main _ (fun g w es clock u m1 hKv hc hes hbo => ?_) (fun p hp => ?_) h
  ·obtain ⟨h1, _⟩ := find_ok hK key w hKv hf
   have hfnd : fnd es.toList 0 none = none := rfl
   rw [hfnd] at h1
   have hl : es.size = kv.length := by simpa using hKv.1
   refine ⟨es.push { key := key, val := u, born := clock }, clock + 1, ?_, by simp [hl], fun i p hp => ?_, hbo.push _ _⟩
   ·simp [Instr.mapUpdate, run_underlying hu, MapKept.run_getObj_map m1, hK.ck key q hq, h1, MapKept.run_setObj_map _ m1]
   ·rcases Nat.lt_or_ge i kv.length with hi | hi
    ·rw [List.getElem?_append_left hi] at hp
     obtain ⟨e', g1, g2, g3⟩ := hes i p hp
     exact ⟨e', by rw [Array.getElem?_push_lt (by omega)]; rw [← g1]; simp [show i < es.size by omega], g2, g3⟩
    ·rw [List.getElem?_append_right hi] at hp
     have hi' : i = kv.length := by
      have := (List.getElem?_eq_some_iff.1 hp).1
      simp at this
      omega
     subst hi'
     simp at hp
     subst hp
     exact ⟨{ key := key, val := u, born := clock }, by rw [← hl]; simp, rfl, hcell hc⟩
  ·rcases List.mem_append.1 hp with hp | hp
   ·exact List.all_eq_true.1 hpl p hp
   ·simp at hp; subst hp; exact hcpl
 ·cases h
theorem win_ok {g : Gh} {hp : List Ob} {w : World} {z i off n : Nat} {x : AV} {y : Value} (h : rWin z x = some (i, off, n)) (h0 : 0 < n) (hR : AVR (CR g hp w) x y) : ∃ c, y = .slice (some ⟨g.γ (.ob i), off * z, none⟩) n c := by
 unfold rWin at h
 split at h
 ·cases h
  obtain ⟨_, h1, A, h2, h3, _⟩ := hR
  exact ⟨g.κ i, by rw [h2, h3 (by omega)]; simp⟩
 ·rename_i id2 off2 n2 zz
  obtain ⟨hc, he⟩ := condS h
  cases he
  have hc : zz = z := by simpa [beqT] using hc
  subst hc
  obtain ⟨_, _, _, h2⟩ := hR
  exact ⟨_, h2⟩
 ·cases h
theorem stp_copy (hd : dok o st.n = true) {d s : Operand} {t t' : TypeId} {y z : Ty} (ho : o.op = .call ⟨.builtin .copy, #[d, s], #[t, t']⟩) (hty : tyOf P t = some y) (hk : y.kind = 1) (hz : tyOf P y.elem = some z) {i off n j p m : Nat}
  (hdst : rWin z.size (st.ev d) = some (i, off, n)) (hsrc : rWin z.size (st.ev s) = some (j, p, m)) {r r' : Row} (hi : st.hp[i]? = some (.r r)) (hj : st.hp[j]? = some (.r r')) {l : Nat} (hl : l = min m n) (h0 : 0 < l) (hz0 : 0 < z.size)
  {cs : List C} (hcs : cs = (r'.cells.drop (p * z.size)).take (l * z.size)) (hone : cs.all C.one = true) (hlen : cs.length = l * z.size) (hfit : off * z.size + l * z.size ≤ r.cells.length)
  (h : K ({ st with hp := st.hp.set i (.r { r with cells := setC r.cells (off * z.size) cs }) }.put o.dst (.i (l : Nat)))) : Stp P o st K := by
 intro M0 w0 a w N Q hR hN
 obtain ⟨g, ⟨hp1, hp2⟩, hR⟩ := hR
 have hpos : 0 < l * z.size := Nat.mul_pos h0 hz0
 obtain ⟨c1, e1⟩ := win_ok hdst (by omega) (hR.ev d)
 obtain ⟨c2, e2⟩ := win_ok hsrc (by omega) (hR.ev s)
 have hki : g.κ i ≠ 0 := by
  rcases hR.hr.row i r hi with ⟨_, h2⟩ | ⟨h2, _⟩
  ·rw [h2] at hfit; simp at hfit; omega
  ·exact h2
 rcases hR.hr.row j r' hj with ⟨_, h2⟩ | ⟨hkj, _, arr, ha, hla, hs, _, hcells⟩
 ·rw [hcs, h2] at hlen; simp at hlen; omega
 have hlr : LR (CR g st.hp w) cs ((arr.toList.drop (p * z.size)).take (l * z.size)) := by
  have hle : p * z.size + l * z.size ≤ r'.cells.length := by
   rw [hcs] at hlen
   simp at hlen
   omega
  refine ⟨by rw [hlen]; simp; omega, fun q c hq => ?_⟩
  have h1 := List.all_eq_true.1 hone c (List.mem_of_getElem? hq)
  rw [hcs, List.getElem?_take] at hq
  rw [List.getElem?_take]
  split at hq
  ·rename_i hlt
   rw [List.getElem?_drop] at hq ⊢
   obtain ⟨u, f1, f2⟩ := hcells _ c hq
   exact ⟨u, by rw [if_pos hlt]; simpa using f1, f2.cr (by cases c <;> first | rfl | cases h1)⟩
  ·cases hq
 have hload : (loadCells ⟨g.γ (.ob j), p * z.size, none⟩ (l * z.size)).run P w = .ok ((arr.toList.drop (p * z.size)).take (l * z.size)).toArray w := by
  unfold loadCells
  rw [run_loadCellsFrom _ _ _ 0 ((arr.toList.drop (p * z.size)).take (l * z.size)) #[] (by rw [hlr.1, hlen]) (fun q u hq => ?_)]
  ·simp
  ·rw [Nat.zero_add, cell_of_row _ _ _ _ _ _ ha]
   rw [List.getElem?_take] at hq
   split at hq
   ·rw [List.getElem?_drop] at hq
    simpa using hq
   ·cases hq
 obtain ⟨w', r1, r2⟩ := run_storeCells_rel (P := P) (off := off * z.size) hki cs _ 0 st w r hR hi hlr hone (by omega)
 have hrun : (execOp a.eval o).run P w = .ok (.value (.int .i64 l)) w' := by
  have hn : Nat.min m n = l := hl.symm
  unfold execOp
  simp only [ho, resolve, invoke, builtin, Sem.run_bind, Sem.run_pure, Result.andThen_ok, List.map_toArray, List.map_cons, List.map_nil, e1, e2]
  simp [Builtin.copy_, run_underlying (tyOf.slice hty hk), Builtin.lenOf, Builtin.firstCells, tyOf.size hz, hn, hload, r1, goInt]
 unfold Oper.wp
 rw [hrun]
 exact hN _ _ _ h ⟨g, ⟨by cases o.dst <;> (simp [ST.put]; omega), by cases o.dst <;> exact hp2⟩, RelG.put (st := { st with hp := st.hp.set i (.r { r with cells := setC r.cells (off * z.size) cs }) }) (by simpa using r2) (dok_lt hd) rfl⟩
theorem stp_clear0 (hd : dok o st.n = true) {x : Operand} {t : TypeId} {y : Ty} (ho : o.op = .call ⟨.builtin .clear, #[x], #[t]⟩) (hty : tyOf P t = some y) (hk : y.kind = 1) {k : Nat} (hk0 : 0 < k) (hx : st.ev x = .a (.c (.t k []))) (h : K (st.put o.dst .u)) : Stp P o st K := by
 intro M0 w0 a w N Q hR hN
 obtain ⟨g, ⟨hp1, hp2⟩, hR⟩ := hR
 have hvx := hR.ev x
 rw [hx] at hvx
 obtain ⟨B, d, e2⟩ : ∃ B d, a.eval x = .slice B 0 d := by
  obtain ⟨A, m, c, h1, h2, _⟩ := Rd.form hvx
  have hvx : Rd _ _ _ _ := hvx
  rw [h1] at hvx
  generalize hm : m = m' at hvx
  cases hvx with
  | e => subst hm; exact ⟨_, _, h1⟩
  | l _ _ _ _ _ _ us hn h0 => exact absurd hn (by have := Nat.mul_pos h0 hk0; simp; omega)
 have hrun : (execOp a.eval o).run P w = .ok (.value (.tuple #[])) w := by
  unfold execOp
  simp only [ho, resolve, invoke, builtin, Sem.run_bind, Sem.run_pure, Result.andThen_ok, List.map_toArray, List.map_cons, List.map_nil, e2]
  cases B <;> simp [Builtin.clear_, run_underlying (tyOf.slice hty hk)]
 unfold Oper.wp
 rw [hrun]
 exact hN _ _ _ h ⟨g, ⟨by cases o.dst <;> exact hp1, by cases o.dst <;> exact hp2⟩, hR.put (dok_lt hd) trivial⟩
theorem bytes_run {P : Program} {f : Value → ByteArray → Sem (ForInStep ByteArray)} (hf : ∀ (n : Int) (s : ByteArray) (w : World), (f (.int .u8 n) s).run P w = .ok (ForInStep.yield (s.push (UInt8.ofNat n.toNat))) w) (l : List Int) (w : World) :
  ∀ (s : ByteArray), (forIn (l.map (Value.int .u8)).toArray s f : Sem ByteArray).run P w = .ok ⟨⟨s.data.toList ++ l.map (fun n => UInt8.ofNat n.toNat)⟩⟩ w := by
 induction l with
 | nil => intro s; simp
 | cons x l ih =>
  intro s
  have := ih (s.push (UInt8.ofNat x.toNat))
  simp only [List.forIn_toArray] at this ⊢
  simp only [List.map_cons, List.forIn_cons, Sem.run_bind, hf, Result.andThen_ok, this]
  simp [ByteArray.push]
theorem bytesOf_ok : ∀ {cs : List C} {l : List UInt8}, bytesOf cs = some l → ∃ ns : List Int, cs = ns.map (fun n => C.v (.int .u8 n)) ∧ l = ns.map fun n => UInt8.ofNat n.toNat := by
 intro cs
 induction cs with
 | nil => intro l h; cases h; exact ⟨[], rfl, rfl⟩
 | cons c r ih =>
  intro l h
  unfold bytesOf at h
  split at h
  ·rename_i h1; cases h1
  ·rename_i n r' h1
   cases h1
   split at h
   ·rename_i q hq
    cases h
    obtain ⟨ns, rfl, rfl⟩ := ih hq
    exact ⟨n :: ns, rfl, rfl⟩
   ·cases h
  ·cases h
theorem str_ok (hT : TbOk P T) {rs : RS} (hRR : RR rs st) {s d : TypeId} {x : Operand} {v : AV} (ho : o.op = .convert s d x) (h : rStr T rs s d x = some v) (g : Gh) (w : World) (ρ : Operand → Value) (hr : HR g st.hp w) (hR : ∀ x, AVR (CR g st.hp w) (st.ev x) (ρ x)) :
  ∃ u, (execOp ρ o).run P w = .ok (.value u) w ∧ AVR (CR g st.hp w) v u := by
 obtain ⟨dst, op, ty, pos, af, gd⟩ := o
 simp only at ho
 subst ho
 unfold rStr at h
 split at h
 rotate_left
 ·cases h
 rename_i y z id n hy hz hx
 split at h
 rotate_left
 ·cases h
 rename_i e q sl cells hk1 hk4 hik hrow
 rw [Bool.cond_eq_ite] at h
 split at h
 rotate_left
 ·cases h
 rename_i hc
 simp only [beqT, Bool.and_eq_true, decide_eq_true_eq, Nat.ble_eq] at hc
 obtain ⟨rfl, hle⟩ := hc
 cases hb : bytesOf (cells.take n) with
 | none => rw [hb] at h; cases h
 | some l =>
  rw [hb] at h
  cases h
  obtain ⟨ns, e1, rfl⟩ := bytesOf_ok hb
  have hns : ns.length = n := by
   have := congrArg List.length e1
   simp at this
   omega
  have hrow' : st.hp[id]? = some (.r ⟨e, 1, sl, cells⟩) := (hRR.2.1 id).trans hrow
  have e2 := hR x
  rw [hRR.ev, hx] at e2
  obtain ⟨_, hn, A, e2, e3, _⟩ := e2
  refine ⟨.string ⟨⟨ns.map fun (m : Int) => UInt8.ofNat m.toNat⟩⟩, ?_, rfl⟩
  have hu1 := tyOf.slice (hT.t hy) hk1
  have hu2 := tyOf.str (hT.t hz) hk4
  have hu3 := hT.k hik
  have hconv : (Conv.bytesToString (.slice A n (g.κ id))).run P w = .ok (.string ⟨⟨ns.map fun (m : Int) => UInt8.ofNat m.toNat⟩⟩) w := by
   rcases hr.row id _ hrow' with ⟨h0, h2⟩ | ⟨h0, _, arr, ha, hla, hs, _, hcells⟩
   ·have hn0 : n = 0 := by omega
    subst hn0
    have : ns = [] := List.eq_nil_of_length_eq_zero hns
    subst this
    cases A with
    | none => simp [Conv.bytesToString, ByteArray.empty, ByteArray.emptyWithCapacity]; rfl
    | some a => simp [Conv.bytesToString, loadCells, loadCellsFrom, ByteArray.empty, ByteArray.emptyWithCapacity]; rfl
   ·rw [e3 h0]
    have hload : (loadCells ⟨g.γ (.ob id), 0, none⟩ n).run P w = .ok (ns.map (Value.int .u8)).toArray w := by
     unfold loadCells
     rw [run_loadCellsFrom _ _ _ 0 (ns.map (Value.int .u8)) #[] (by simpa using hns) (fun q u hq => ?_)]
     ·simp
     ·rw [cell_of_row _ _ _ _ _ _ ha]
      rw [List.getElem?_map, Option.map_eq_some_iff] at hq
      obtain ⟨m, hm, rfl⟩ := hq
      have hlt : q < n := by rw [← hns]; exact (List.getElem?_eq_some_iff.1 hm).1
      have hcq : cells[q]? = some (.v (.int .u8 m)) := by
       have : (cells.take n)[q]? = some (.v (.int .u8 m)) := by rw [e1]; simp [hm]
       rw [List.getElem?_take, if_pos hlt] at this
       exact this
      obtain ⟨u, f1, f2⟩ := hcells q _ hcq
      have f2 : u = .int .u8 m := f2
      subst f2
      simpa using f1
    simp only [Conv.bytesToString, Sem.run_bind, hload, Result.andThen_ok]
    rw [bytes_run (fun n s w => by simp)]
    simp [ByteArray.empty, ByteArray.emptyWithCapacity]
    rfl
  simp [execOp, convert, run_underlying hu1, run_underlying hu2, e2, run_underlying hu3, hconv]
theorem lenM_ok (hT : TbOk P T) {rs : RS} (hRR : RR rs st) {c : Call} {v : AV} (ho : o.op = .call c) (h : rLenM T rs c = some v) (g : Gh) (w : World) (ρ : Operand → Value) (hr : HR g st.hp w) (hR : ∀ x, AVR (CR g st.hp w) (st.ev x) (ρ x)) :
  ∃ u, (execOp ρ o).run P w = .ok (.value u) w ∧ AVR (CR g st.hp w) v u := by
 obtain ⟨dst, op, ty, pos, af, gd⟩ := o
 simp only at ho
 subst ho
 obtain ⟨callee, args, ts⟩ := c
 unfold rLenM at h
 simp only at h
 split at h
 ·rename_i x t
  split at h
  ·rename_i s id hs hx
   split at h
   ·rename_i kv hkv
    split at h
    ·cases h
    rename_i hit
    cases h
    obtain ⟨kt, e, hu, _⟩ := asc_all hT.mp hs
    rcases hr.mp id kv ((hRR.2.1 id).trans hkv) with ⟨_, _, _, _, rfl, _⟩ | ⟨es, clock, m1, m2, _⟩
    ·simp [itKV, isIt] at hit
    have e1 := hR x
    rw [hRR.ev, hx] at e1
    obtain ⟨_, e1⟩ := e1
    refine ⟨.int .i64 kv.length, ?_, rfl⟩
    simp only [execOp, resolve, invoke, builtin, Sem.run_bind, Sem.run_pure, Result.andThen_ok, List.map_toArray, List.map_cons, List.map_nil, e1]
    simp [Builtin.len_, run_underlying hu, MapKept.run_getObj_map m1, goInt, m2]
   ·cases h
  ·cases h
 ·cases h
end
end Go.Proofs.YtglchakimolfdaaDoor
