/- A run never takes back a draw. -/
import Derived.Test.YtgclmlbaodcccaaBase
namespace Go.Proofs.Ytgclmlbaodcccaa
set_option linter.unusedVariables false
set_option linter.unusedSimpArgs false

theorem viewStore_drawn {p : Program} {w w' : World} {at_ : Addr} {u : TypeId} {k : Addr} {v : Value} {atomic : Bool} {l : List Addr} (h : w.viewStore p at_ u k v atomic = .ok (w', l)) : w'.drawn = w.drawn := by
  unfold World.viewStore at h
  simp only [bind, Except.bind, pure, Except.pure, throw, throwThe, MonadExceptOf.throw] at h
  repeat' split at h
  all_goals first
    | (cases h; done)
    | (cases h; rfl)
theorem ask_drawn {α : Type} (a : Ask α) : ∀ (w : World), w.drawn ≤ (w.ask a).2.drawn := by
  induction a with
  | done a => intro w; exact Nat.le_refl _
  | ask what range k ih =>
    intro w
    unfold World.ask
    simp only
    split
    · exact ih _ _
    · exact Nat.le_trans (Nat.le_succ _) (ih _ { w with drawn := w.drawn + 1 })
theorem sys_drawn (w : World) (c : Sys) : w.drawn ≤ (w.sys c).2.drawn := by
  have h := ask_drawn (Kernel.perform c w.os) w
  unfold World.sys
  split
  · exact Nat.le_refl _
  · rename_i r os w' he
    rw [he] at h
    exact h
theorem farStore_drawn {p : Program} {w w' : World} {a : Addr} {v : Value} {at_ : Bool} {l : List Addr} (h : w.farStore p a v at_ = .ok (w', l)) : w'.drawn = w.drawn := by
  unfold World.farStore at h
  split at h
  · split at h
    · rename_i r he; cases h; exact viewStore_drawn he
    · cases h
  · cases h
theorem run_drawn {α : Type} {P : Program} (m : Sem α) : ∀ {w : World} {v : α} {w' : World}, m.run P w = .ok v w' → w.drawn ≤ w'.drawn := by
  induction m with
  | pure a => intro w v w' h; unfold Sem.run at h; cases h; exact Nat.le_refl _
  | load m a k ih =>
    intro w v w' h
    unfold Sem.run at h
    split at h
    · exact ih _ h
    · split at h
      · exact ih _ h
      · cases h
  | store m a u k ih =>
    intro w v w' h
    have main : (match w.cell? a with
        | some _ => if w.frozen? a then .halt (.unsupported (.unsafePointer "a write to bytes that a string shares")) w else k.run P (w.setCell a u)
        | none => match w.farStore P a u (m == .atomic) with
          | .ok (w, _) => k.run P w
          | .error h => .halt h w) = Result.ok v w' → w.drawn ≤ w'.drawn := by
      intro h
      split at h
      · split at h
        · cases h
        · exact ih (w := w.setCell a u) h
      · split at h
        · rename_i he; rw [← farStore_drawn he]; exact ih h
        · cases h
    cases u <;> first | (exact main h) | (cases h)
  | new o k ih => intro w v w' h; unfold Sem.run at h; exact ih _ (w := { w with heap := w.heap.push o }) h
  | shape r k ih => intro w v w' h; unfold Sem.run at h; exact ih _ h
  | freeze a n k ih =>
    intro w v w' h
    unfold Sem.run at h
    have e : (w.freeze a n).drawn = w.drawn := by unfold World.freeze; split <;> rfl
    rw [← e]; exact ih h
  | frozen a k ih => intro w v w' h; unfold Sem.run at h; exact ih _ h
  | getObj r k ih =>
    intro w v w' h
    unfold Sem.run at h
    split at h
    · cases h
    · exact ih _ h
    · cases h
  | setObj r o k ih =>
    intro w v w' h
    unfold Sem.run at h
    split at h
    · cases h
    · exact ih (w := { w with heap := w.heap.setIfInBounds r o }) h
    · cases h
  | choose q k ih =>
    intro w v w' h
    unfold Sem.run at h
    split at h
    · exact ih _ h
    · exact Nat.le_trans (Nat.le_succ _) (ih _ (w := { w with drawn := w.drawn + 1 }) h)
  | sys c k ih => intro w v w' h; unfold Sem.run at h; exact Nat.le_trans (sys_drawn w c) (ih _ h)
  | program k ih => intro w v w' h; unfold Sem.run at h; exact ih _ h
  | mark m k ih => intro w v w' h; unfold Sem.run at h; exact ih h
  | halt h0 => intro w v w' h; unfold Sem.run at h; cases h
end Go.Proofs.Ytgclmlbaodcccaa
