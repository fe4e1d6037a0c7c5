/- Structs of numbers compared. -/
import Derived.Test.YthlckclbjknldaaGreatAm33
import Derived.MapKept
namespace Go.Proofs.YthlckclbjknldaaGreat
set_option linter.unusedVariables false
set_option linter.unusedSimpArgs false
open Go.RowKit

def AeOk (P : Program) (t n : Nat) : Prop := ∀ (x y : Operand) (us vs : List C) (a b : List Value), us.length = n → vs.length = n → ints us = some a → ints vs = some b → aggEq P .eql t x y a b (eqI us vs) ∧ aggEq P .neq t x y a b (!eqI us vs)
theorem ints_one {c : C} {r : List C} {us : List Value} (h : ints (c :: r) = some us) : ∃ n l, c = .v (.int .i64 n) ∧ us = .int .i64 n :: l ∧ ints r = some l := by
  cases c with
  | v v =>
    cases v with
    | int k n =>
      cases k <;> simp only [ints, reduceCtorEq] at h
      cases hr : ints r with
      | none => rw [hr] at h; cases h
      | some l => rw [hr] at h; cases h; exact ⟨n, l, rfl, rfl, rfl⟩
    | _ => simp [ints] at h
  | _ => simp [ints] at h
theorem aeOk2 {P : Program} {t : TypeId} {f g : Field} (hu : P.underlying t = some (.struct #[f, g])) (hf : P.underlying f.type = some (.int .i64)) (hg : P.underlying g.type = some (.int .i64))
    (n1 : f.name ≠ "_") (n2 : g.name ≠ "_") (o1 : f.offset = 0) (o2 : g.offset = 1) (hq : P.eqGuardType P.depth t = false) (hs : P.stoodInHeld t = false) : AeOk P t 2 := by
  intro x y us vs a b h1 h2 ha hb
  obtain ⟨c1, c2, rfl⟩ : ∃ c1 c2, us = [c1, c2] := by
    match us, h1 with
    | [c1, c2], _ => exact ⟨c1, c2, rfl⟩
  obtain ⟨d1, d2, rfl⟩ : ∃ c1 c2, vs = [c1, c2] := by
    match vs, h2 with
    | [c1, c2], _ => exact ⟨c1, c2, rfl⟩
  obtain ⟨p1, l1, rfl, rfl, ha1⟩ := ints_one ha
  obtain ⟨p2, l2, rfl, rfl, ha2⟩ := ints_one ha1
  cases ha2
  obtain ⟨q1, l1, rfl, rfl, hb1⟩ := ints_one hb
  obtain ⟨q2, l2, rfl, rfl, hb2⟩ := ints_one hb1
  cases hb2
  have ag : ∀ {t : TypeId} (w : World), P.underlying t = some (.int .i64) → (isAgg t).run P w = .ok false w := by
    intro t w h
    simp [isAgg, run_underlying h]
  have eq1 : ∀ (d : Nat) {t : TypeId} (w : World) (m n : Int), P.underlying t = some (.int .i64) → (Op.equalIn (d + 1) t (.int .i64 m) (.int .i64 n)).run P w = .ok (m == n) w := by
    intro d t w m n h
    simp [Op.equalIn, run_underlying h]
  have hpr : ∀ w, (program).run P w = .ok P w := fun w => by simp [program, Sem.run]
  have hE : ∀ w, (Op.equal t (.agg #[.int .i64 p1, .int .i64 p2]) (.agg #[.int .i64 q1, .int .i64 q2])).run P w = .ok (p1 == q1 && (p2 == q2 && true)) w := by
    intro w
    have e1 := fun w => eq1 9998 w p1 q1 hf
    have e2 := fun w => eq1 9998 w p2 q2 hg
    unfold Op.equal Op.maxDepth
    show (Op.equalIn (9999 + 1) _ _ _).run P w = _
    unfold Op.equalIn
    simp only [Sem.run_bind, run_underlying hu, Result.andThen_ok]
    cases c1 : (p1 == q1) <;> cases c2 : (p2 == q2) <;> simp [hpr, hs, n1, n2, o1, o2, part, ag _ hf, ag _ hg, Sem.run_bind, e1, e2, c1, c2]
  constructor
  · intro w
    simp [eqGuard, hq, hpr, binOp, hE, eqI]
  · intro w
    simp [eqGuard, hq, hpr, binOp, hE, eqI]
theorem keyOk_s {P : Program} {kt : TypeId} (h : P.underlying kt = some .string) : KeyOk P kt .ks := by
  refine ⟨⟨_, h, .inl fun a b t e => ?_⟩, fun a t e q w => ?_⟩
  · unfold keyEq at e
    split at e
    all_goals first | (cases e; rfl) | (cases e; done) | (rename_i hk; cases hk)
  · unfold keyEq at e
    split at e
    all_goals first | (rename_i hk _; cases hk; done) | (cases e; done) | (refine MapKept.run_checkKey h ?_ q 9999; simp [MapKept.IsKey]; done)
theorem keyL_ex : ∀ {xs ys : List Value} {t : Bool}, keyEqL xs ys = some t → (∃ as : List Int, xs = as.map (Value.int .i64)) ∧ (∃ bs : List Int, ys = bs.map (Value.int .i64)) := by
  intro xs
  induction xs with
  | nil =>
    intro ys t h
    cases ys with
    | nil => exact ⟨⟨[], rfl⟩, ⟨[], rfl⟩⟩
    | cons y ys => simp [keyEqL] at h
  | cons x xs ih =>
    intro ys t h
    unfold keyEqL at h
    split at h
    · rename_i h1; cases h1
    · rename_i a r b s h1
      cases h1
      split at h
      · rename_i q hq
        obtain ⟨⟨as, rfl⟩, ⟨bs, rfl⟩⟩ := ih hq
        exact ⟨⟨a :: as, rfl⟩, ⟨b :: bs, rfl⟩⟩
      · cases h
    · cases h
theorem keyOk_g3 {P : Program} {t : TypeId} {f g h : Field} (hu : P.underlying t = some (.struct #[f, g, h])) (hf : P.underlying f.type = some (.int .i64)) (hg : P.underlying g.type = some (.int .i64)) (hh : P.underlying h.type = some (.int .i64))
    (n1 : f.name ≠ "_") (n2 : g.name ≠ "_") (n3 : h.name ≠ "_") (o1 : f.offset = 0) (o2 : g.offset = 1) (o3 : h.offset = 2) (hs : P.stoodInHeld t = false) : KeyOk P t (.kg 3) := by
  have ag : ∀ {t : TypeId} (w : World), P.underlying t = some (.int .i64) → (isAgg t).run P w = .ok false w := by
    intro t w h
    simp [isAgg, run_underlying h]
  have eq1 : ∀ (d : Nat) {t : TypeId} (w : World) (m n : Int), P.underlying t = some (.int .i64) → (Op.equalIn (d + 1) t (.int .i64 m) (.int .i64 n)).run P w = .ok (m == n) w := by
    intro d t w m n h
    simp [Op.equalIn, run_underlying h]
  have ck1 : ∀ (e : Bool) (d : Nat) {t : TypeId} (w : World) (m : Int), P.underlying t = some (.int .i64) → (Instr.checkKey e (d + 1) t (.int .i64 m)).run P w = .ok () w := by
    intro e d t w m h
    simp [Instr.checkKey, run_underlying h]
  have hpr : ∀ w, (program).run P w = .ok P w := fun w => by simp [program, Sem.run]
  have three : ∀ {a b : Value} {r : Bool}, keyEq (.kg 3) a b = some r → ∃ p1 p2 p3 q1 q2 q3 : Int, a = .agg #[.int .i64 p1, .int .i64 p2, .int .i64 p3] ∧ b = .agg #[.int .i64 q1, .int .i64 q2, .int .i64 q3] ∧ r = (p1 == q1 && (p2 == q2 && (p3 == q3 && true))) := by
    intro a b r e
    cases a <;> try (simp [keyEq] at e; done)
    rename_i xa
    cases b <;> try (simp [keyEq] at e; done)
    rename_i yb
    obtain ⟨xs⟩ := xa
    obtain ⟨ys⟩ := yb
    simp only [keyEq] at e
    split at e
    · rename_i hl
      simp only [beqT, Bool.and_eq_true, decide_eq_true_eq] at hl
      obtain ⟨⟨as, rfl⟩, ⟨bs, rfl⟩⟩ := keyL_ex e
      simp only [List.length_map] at hl
      match as, bs, hl.1, hl.2 with
      | [p1, p2, p3], [q1, q2, q3], _, _ =>
        refine ⟨p1, p2, p3, q1, q2, q3, rfl, rfl, ?_⟩
        simp only [List.map_cons, List.map_nil, keyEqL] at e
        exact (Option.some.inj e).symm
    · cases e
  refine ⟨⟨_, hu, .inr fun a b r e => ?_⟩, fun a r e q w => ?_⟩
  · obtain ⟨p1, p2, p3, q1, q2, q3, rfl, rfl, rfl⟩ := three e
    refine ⟨rfl, fun w => ?_⟩
    have e1 := fun w => eq1 9998 w p1 q1 hf
    have e2 := fun w => eq1 9998 w p2 q2 hg
    have e3 := fun w => eq1 9998 w p3 q3 hh
    unfold Op.equal Op.maxDepth
    show (Op.equalIn (9999 + 1) _ _ _).run P w = _
    unfold Op.equalIn
    simp only [Sem.run_bind, run_underlying hu, Result.andThen_ok]
    cases c1 : (p1 == q1) <;> cases c2 : (p2 == q2) <;> cases c3 : (p3 == q3) <;> simp [hpr, hs, n1, n2, n3, o1, o2, o3, part, ag _ hf, ag _ hg, ag _ hh, Sem.run_bind, e1, e2, e3, c1, c2, c3]
  · obtain ⟨p1, p2, p3, q1, q2, q3, rfl, _, _⟩ := three e
    have e1 := fun w => ck1 q 9998 w p1 hf
    have e2 := fun w => ck1 q 9998 w p2 hg
    have e3 := fun w => ck1 q 9998 w p3 hh
    show (Instr.checkKey q (9999 + 1) _ _).run P w = _
    unfold Instr.checkKey
    simp only [Sem.run_bind, run_underlying hu, Result.andThen_ok]
    simp [n1, n2, n3, o1, o2, o3, part, ag _ hf, ag _ hg, ag _ hh, Sem.run_bind, e1, e2, e3]
end Go.Proofs.YthlckclbjknldaaGreat
