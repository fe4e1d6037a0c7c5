/- cmp.Compare, cmp.Or, and the program's compares of pairs of numbers: contracts for the runner. -/
import Derived.Test.YtgclmlbaodcccaaProg
import Derived.Test.YtgclmlbaodcccaaAm31
namespace Go.Proofs.Ytgclmlbaodcccaa
set_option linter.unusedVariables false
set_option linter.unusedSimpArgs false
open Go.RowKit

def ciQ (a b : Int) : Int := if a < b then -1 else if b < a then 1 else 0
def orQ (x y : Int) : Int := if x ≠ 0 then x else y
theorem isNaN_q (a : Int) (w : World) : Calls Try.prog 82 #[.int .i64 a] w fun e w' => e = .returned (.bool false) ∧ w' = w := by
  have h1 : (a != a) = false := by simp
  go_enter Try.func82, Try.ntmps82
  go_wp2_with fail
  go_ret
  exact ⟨rfl, rfl⟩
set_option maxHeartbeats 1000000 in
theorem compare_q (a b : Int) (w : World) : Calls Try.prog 56 #[.int .i64 a, .int .i64 b] w fun e w' => e = .returned (.int .i64 (ciQ a b)) ∧ w' = w := by
  by_cases h1 : a < b
  · have he : ciQ a b = -1 := by simp [ciQ, h1]
    rw [he]
    clear he
    go_enter Try.func56, Try.ntmps56
    go_wp2_with ((go_at_call 82; refine (isNaN_q _ _).mono ?_; rintro e w' ⟨rfl, rfl⟩))
    go_ret
    exact ⟨rfl, rfl⟩
  · by_cases h2 : b < a
    · have he : ciQ a b = 1 := by simp [ciQ, h1, h2]
      rw [he]
      clear he
      go_enter Try.func56, Try.ntmps56
      go_wp2_with ((go_at_call 82; refine (isNaN_q _ _).mono ?_; rintro e w' ⟨rfl, rfl⟩))
      go_ret
      exact ⟨rfl, rfl⟩
    · have he : ciQ a b = 0 := by simp [ciQ, h1, h2]
      rw [he]
      clear he
      go_enter Try.func56, Try.ntmps56
      go_wp2_with ((go_at_call 82; refine (isNaN_q _ _).mono ?_; rintro e w' ⟨rfl, rfl⟩))
      go_ret
      exact ⟨rfl, rfl⟩
set_option maxHeartbeats 1000000 in
theorem or_q (g : Nat) (x y : Int) (w : World) (h0 : w.cell? ⟨g, 0, none⟩ = some (.int .i64 x)) (h1 : w.cell? ⟨g, 1, none⟩ = some (.int .i64 y)) :
    Calls Try.prog 78 #[.slice (some ⟨g, 0, none⟩) 2 2] w fun e w' => e = .returned (.int .i64 (orQ x y)) ∧ w' = w := by
  by_cases hx : x = 0
  · subst hx
    have ho : orQ 0 y = y := by simp [orQ]
    rw [ho]
    clear ho
    by_cases hy : y = 0
    · subst hy
      have e0 : ((0 : Int) != 0) = false := by simp
      go_enter Try.func78, Try.ntmps78
      go_wp2_with fail
      refine wp_loop_rounds 3 ?_
      rw [rounds_succ]
      go_wp2_with fail
      rw [rounds_succ]
      go_wp2_with fail
      rw [rounds_succ]
      go_wp2_with fail
      go_ret
      exact ⟨rfl, rfl⟩
    · have e0 : ((0 : Int) != 0) = false := by simp
      have e1 : (y != 0) = true := by simpa using hy
      clear hy
      go_enter Try.func78, Try.ntmps78
      go_wp2_with fail
      refine wp_loop_rounds 2 ?_
      rw [rounds_succ]
      go_wp2_with fail
      rw [rounds_succ]
      go_wp2_with fail
      go_ret
      exact ⟨rfl, rfl⟩
  · have ho : orQ x y = x := by simp [orQ, hx]
    rw [ho]
    clear ho
    have e1 : (x != 0) = true := by simpa using hx
    clear hx
    go_enter Try.func78, Try.ntmps78
    go_wp2_with fail
    refine wp_loop_rounds 1 ?_
    rw [rounds_succ]
    go_wp2_with fail
    go_ret
    exact ⟨rfl, rfl⟩
/-- a contract without objects, out of one over values -/
theorem fc_vals {P : Program} {f : FuncId} {args : List AV} {vals : List Value} {r : Value} (ha : ∀ (g : Gh) (w : World) (vs : List Value), argsR g [] w args vs → vs = vals)
    (h : ∀ w, Calls P f vals.toArray w fun e w' => e = .returned r ∧ Fp (fun _ => False) w w') : FC P f args [] (fun x o => o = [] ∧ x = .a (.c (.v r))) := by
  intro g w vs hr hargs
  obtain rfl := ha g w vs hargs
  refine (h w).mono ?_
  rintro e w' ⟨rfl, hf⟩
  refine ⟨r, _, [], g, rfl, ⟨rfl, rfl⟩, ?_, ⟨Nat.le_refl _, Ext.refl _ _⟩, fun ℓ hl => ?_, rfl, hf.mono (fun _ _ h => h.elim)⟩
  · exact ⟨fun q hq => Nat.lt_of_lt_of_le (hr.ml q hq) hf.size, fun ℓ hl => hr.md ℓ hl, hr.inj, fun id r e => by simp at e, fun id kv e => by simp at e⟩
  · cases ℓ with
    | ob i => rcases hl with ⟨r, e, _⟩ | ⟨kv, e⟩ <;> simp at e
    | cl i j => obtain ⟨r, k, cs, e, _⟩ := hl; simp at e
def orCi : List AV → Option AV
  | [.a (.c (.v (.int .i64 a))), .a (.c (.v (.int .i64 b)))] => some (.i (ciQ a b))
  | _ => none
def orCa : List AV → Option AV
  | [.a (.g [.v (.int .i64 a), .v (.int .i64 b)]), .a (.g [.v (.int .i64 c), .v (.int .i64 d)])] => some (.i (orQ (ciQ a c) (ciQ b d)))
  | _ => none
theorem fc_ci {P : Program} {f : FuncId} (h : ∀ (a b : Int) (w : World), Calls P f #[.int .i64 a, .int .i64 b] w fun e w' => e = .returned (.int .i64 (ciQ a b)) ∧ Fp (fun _ => False) w w') :
    ∀ args r, orCi args = some r → args.map (AV.ren []) = args ∧ (∀ h, r.up h = r) ∧ FC P f args [] (fun x o => o = [] ∧ x = r) := by
  intro args r hr
  unfold orCi at hr
  split at hr
  · rename_i a b
    cases hr
    refine ⟨rfl, fun _ => rfl, fc_vals (vals := [.int .i64 a, .int .i64 b]) (fun g w vs hv => ?_) (h a b)⟩
    obtain ⟨h0, h1⟩ := hv
    obtain ⟨v, e1, e2⟩ := h1 0 _ rfl
    obtain ⟨u, e3, e4⟩ := h1 1 _ rfl
    match vs, h0 with
    | [x, y], _ => simp at e1 e3; subst e1; subst e3; rw [show x = _ from e2, show y = _ from e4]
  · cases hr
theorem fc_ca {P : Program} {f : FuncId} (h : ∀ (a b c d : Int) (w : World), Calls P f #[.agg #[.int .i64 a, .int .i64 b], .agg #[.int .i64 c, .int .i64 d]] w fun e w' => e = .returned (.int .i64 (orQ (ciQ a c) (ciQ b d))) ∧ Fp (fun _ => False) w w') :
    ∀ args r, orCa args = some r → args.map (AV.ren []) = args ∧ (∀ h, r.up h = r) ∧ FC P f args [] (fun x o => o = [] ∧ x = r) := by
  intro args r hr
  unfold orCa at hr
  split at hr
  · rename_i a b c d
    cases hr
    refine ⟨rfl, fun _ => rfl, fc_vals (vals := [.agg #[.int .i64 a, .int .i64 b], .agg #[.int .i64 c, .int .i64 d]]) (fun g w vs hv => ?_) (h a b c d)⟩
    obtain ⟨h0, h1⟩ := hv
    have two : ∀ {x : Value} {p q : Int}, AVR (CR g [] w) (.a (.g [.v (.int .i64 p), .v (.int .i64 q)])) x → x = .agg #[.int .i64 p, .int .i64 q] := by
      rintro x p q ⟨us, rfl, l1, l2⟩
      obtain ⟨u, e1, e2⟩ := l2 0 _ rfl
      obtain ⟨v, e3, e4⟩ := l2 1 _ rfl
      match us, l1 with
      | [s, t], _ => simp at e1 e3; subst e1; subst e3; rw [show s = _ from e2, show t = _ from e4]
    obtain ⟨v, e1, e2⟩ := h1 0 _ rfl
    obtain ⟨u, e3, e4⟩ := h1 1 _ rfl
    match vs, h0 with
    | [x, y], _ => simp at e1 e3; subst e1; subst e3; rw [two e2, two e4]
  · cases hr
set_option maxHeartbeats 2000000 in
theorem rcmp_q (a b c d : Int) (w : World) : Calls Try.prog 44 #[.agg #[.int .i64 a, .int .i64 b], .agg #[.int .i64 c, .int .i64 d]] w fun e w' => e = .returned (.int .i64 (orQ (ciQ a c) (ciQ b d))) ∧ Fp (fun _ => False) w w' := by
  go_enter Try.func44, Try.ntmps44
  go_wp2_with fail
  go_region_held3 (fun w' => w'.cell? ⟨w.heap.size, 0, none⟩ = some (.int .i64 a) ∧ w'.cell? ⟨w.heap.size, 1, none⟩ = some (.int .i64 b) ∧ w'.cell? ⟨w.heap.size + 1, 0, none⟩ = some (.int .i64 c) ∧ w'.cell? ⟨w.heap.size + 1, 1, none⟩ = some (.int .i64 d))
    (go_keep)
    (first
      | (go_at_call 56; refine (compare_q _ _ _).mono ?_; rintro e w' ⟨rfl, rfl⟩)
      | (go_at_call 78; refine (or_q _ (ciQ a c) (ciQ b d) _ (by go_simp) (by go_simp)).mono ?_; rintro e w' ⟨rfl, rfl⟩))
  go_wp2_with fail
  go_ret
  exact ⟨rfl, by repeat (first | exact Fp.refl _ _ | with_reducible refine Fp.trans ?_ (Fp.drew _ _) | with_reducible refine Fp.trans ?_ (Fp.alloc _ _ _))⟩
set_option maxHeartbeats 2000000 in
theorem fcmp_q (a b c d : Int) (w : World) : Calls Try.prog 100 #[.agg #[.int .i64 a, .int .i64 b], .agg #[.int .i64 c, .int .i64 d]] w fun e w' => e = .returned (.int .i64 (orQ (ciQ a c) (ciQ b d))) ∧ Fp (fun _ => False) w w' := by
  go_enter Try.func100, Try.ntmps100
  go_wp2_with fail
  go_region_held3 (fun w' => w'.cell? ⟨w.heap.size, 0, none⟩ = some (.int .i64 a) ∧ w'.cell? ⟨w.heap.size, 1, none⟩ = some (.int .i64 b) ∧ w'.cell? ⟨w.heap.size + 1, 0, none⟩ = some (.int .i64 c) ∧ w'.cell? ⟨w.heap.size + 1, 1, none⟩ = some (.int .i64 d))
    (go_keep)
    (first
      | (go_at_call 56; refine (compare_q _ _ _).mono ?_; rintro e w' ⟨rfl, rfl⟩)
      | (go_at_call 78; refine (or_q _ (ciQ a c) (ciQ b d) _ (by go_simp) (by go_simp)).mono ?_; rintro e w' ⟨rfl, rfl⟩))
  go_wp2_with fail
  go_ret
  exact ⟨rfl, by repeat (first | exact Fp.refl _ _ | with_reducible refine Fp.trans ?_ (Fp.drew _ _) | with_reducible refine Fp.trans ?_ (Fp.alloc _ _ _))⟩
set_option maxHeartbeats 2000000 in
theorem lcmp_q (a b c d : Int) (w : World) : Calls Try.prog 58 #[.agg #[.int .i64 a, .int .i64 b], .agg #[.int .i64 c, .int .i64 d]] w fun e w' => e = .returned (.int .i64 (orQ (ciQ a c) (ciQ b d))) ∧ Fp (fun _ => False) w w' := by
  go_enter Try.func58, Try.ntmps58
  go_wp2_with fail
  go_region_held3 (fun w' => w'.cell? ⟨w.heap.size, 0, none⟩ = some (.int .i64 a) ∧ w'.cell? ⟨w.heap.size, 1, none⟩ = some (.int .i64 b) ∧ w'.cell? ⟨w.heap.size + 1, 0, none⟩ = some (.int .i64 c) ∧ w'.cell? ⟨w.heap.size + 1, 1, none⟩ = some (.int .i64 d))
    (go_keep)
    (first
      | (go_at_call 56; refine (compare_q _ _ _).mono ?_; rintro e w' ⟨rfl, rfl⟩)
      | (go_at_call 78; refine (or_q _ (ciQ a c) (ciQ b d) _ (by go_simp) (by go_simp)).mono ?_; rintro e w' ⟨rfl, rfl⟩))
  go_wp2_with fail
  go_ret
  exact ⟨rfl, by repeat (first | exact Fp.refl _ _ | with_reducible refine Fp.trans ?_ (Fp.drew _ _) | with_reducible refine Fp.trans ?_ (Fp.alloc _ _ _))⟩
set_option maxHeartbeats 2000000 in
theorem pcmp_q (a b c d : Int) (w : World) : Calls Try.prog 75 #[.agg #[.int .i64 a, .int .i64 b], .agg #[.int .i64 c, .int .i64 d]] w fun e w' => e = .returned (.int .i64 (orQ (ciQ a c) (ciQ b d))) ∧ Fp (fun _ => False) w w' := by
  go_enter Try.func75, Try.ntmps75
  go_wp2_with fail
  go_region_held3 (fun w' => w'.cell? ⟨w.heap.size, 0, none⟩ = some (.int .i64 a) ∧ w'.cell? ⟨w.heap.size, 1, none⟩ = some (.int .i64 b) ∧ w'.cell? ⟨w.heap.size + 1, 0, none⟩ = some (.int .i64 c) ∧ w'.cell? ⟨w.heap.size + 1, 1, none⟩ = some (.int .i64 d))
    (go_keep)
    (first
      | (go_at_call 56; refine (compare_q _ _ _).mono ?_; rintro e w' ⟨rfl, rfl⟩)
      | (go_at_call 78; refine (or_q _ (ciQ a c) (ciQ b d) _ (by go_simp) (by go_simp)).mono ?_; rintro e w' ⟨rfl, rfl⟩))
  go_wp2_with fail
  go_ret
  exact ⟨rfl, by repeat (first | exact Fp.refl _ _ | with_reducible refine Fp.trans ?_ (Fp.drew _ _) | with_reducible refine Fp.trans ?_ (Fp.alloc _ _ _))⟩
def orcs : List (Nat × (List AV → Option AV)) := [(56, orCi)
  , (44, orCa)
  , (100, orCa)
  , (58, orCa)
  , (75, orCa)
  ]
theorem orcsOk : AllP (fun f g => callable Try.prog f = true ∧ ∀ args r, g args = some r → args.map (AV.ren []) = args ∧ (∀ h, r.up h = r) ∧ FC Try.prog f args [] (fun x o => o = [] ∧ x = r)) orcs :=
  ⟨⟨by kernel_rfl, fc_ci fun a b w => (compare_q a b w).mono fun e w' ⟨h1, h2⟩ => ⟨h1, h2 ▸ Fp.refl _ _⟩⟩
  , ⟨by kernel_rfl, fc_ca rcmp_q⟩
  , ⟨by kernel_rfl, fc_ca fcmp_q⟩
  , ⟨by kernel_rfl, fc_ca lcmp_q⟩
  , ⟨by kernel_rfl, fc_ca pcmp_q⟩
  , trivial⟩
end Go.Proofs.Ytgclmlbaodcccaa
