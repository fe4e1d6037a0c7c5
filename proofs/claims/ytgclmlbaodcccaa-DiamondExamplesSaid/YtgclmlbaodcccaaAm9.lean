/- The abstract machine: append. -/
import Derived.Test.YtgclmlbaodcccaaAm8
namespace Go.Proofs.Ytgclmlbaodcccaa
set_option linter.unusedVariables false
set_option linter.unusedSimpArgs false
open Go.RowKit

section
variable {P : Program} {t e : TypeId} {k bytes : Nat}
/-- what an append leaves -/
def ApR (w : World) (e : TypeId) (k : Nat) (v : Value) (n m : Nat) (old news : List Value) (v' : Value) (w' : World) : Prop :=
  (m = 0 ∧ v' = v ∧ w' = w) ∨ ∃ (b cap : Nat) (arr : Array Value), m ≠ 0 ∧ v' = .slice (some ⟨b, 0, none⟩) (n + m) cap ∧ cap ≠ 0 ∧ w'.heap[b]? = some (.cells arr e (0, 0)) ∧ n + m ≤ cap ∧ cap ≤ 9223372036854775807 ∧ arr.size = cap * k ∧ arr.toList.take ((n + m) * k) = old ++ news ∧
    ((b = w.heap.size ∧ Fp (fun _ => False) w w') ∨ ∃ bo capo, v = .slice (some ⟨bo, 0, none⟩) n capo ∧ capo ≠ 0 ∧ (b = w.heap.size ∨ b = bo) ∧ Fp (fun q => q = bo) w w')
def BaseR (w : World) (e : TypeId) (k : Nat) (v : Value) (n : Nat) (old : List Value) : Prop :=
  (∃ A, v = .slice A 0 0 ∧ n = 0 ∧ old = [] ∧ ∀ a, A = some a → a.block < w.heap.size) ∨
  (∃ (b cap : Nat) (arr : Array Value), v = .slice (some ⟨b, 0, none⟩) n cap ∧ cap ≠ 0 ∧ w.heap[b]? = some (.cells arr e (0, 0)) ∧ n ≤ cap ∧ cap ≤ 9223372036854775807 ∧ arr.size = cap * k ∧ arr.toList.take (n * k) = old ∧ old.length = n * k)
theorem fp_grown {w w' : World} {row : Option Nat} (h : w.grownBy w' row) (hd : w.drawn ≤ w'.drawn) : Fp (fun q => row = some q) w w' :=
  ⟨h.os, h.tape, h.output, h.size, fun q hq hn => h.block q hq (fun e => hn e.symm), hd⟩
theorem run_ap (E : ET P t e k bytes) (w : World) (ty : TypeId) {v : Value} {n : Nat} {old : List Value} (hb : BaseR w e k v n old) {A : Option Addr} {m c : Nat} {news : List Value} (hr : Sl [] w A m c k news) (h1 : ∀ u ∈ news, u.oneCell' = true)
    (hby : (n + m) * bytes ≤ 140737488355328) (hmax : n + m ≤ 140737488355328) :
    ∃ v' w', (Builtin.append_ #[t, t] ty #[v, .slice A m c]).run P w = .ok v' w' ∧ ApR w e k v n m old news v' w' := by
  by_cases h0 : m = 0
  · subst h0
    obtain ⟨ht, ⟨i, z, hi, hz, hs, hby', hzs⟩, hk⟩ := E
    have form : ∃ A' c', v = .slice A' n c' ∧ n ≤ c' := by
      rcases hb with ⟨A', rfl, rfl, rfl, hA⟩ | ⟨b, cap, arr, rfl, hc, h2, h3, h4, h5, h6, h7⟩
      · exact ⟨_, _, rfl, Nat.le_refl _⟩
      · exact ⟨_, _, rfl, h3⟩
    obtain ⟨A', c', rfl, hnc⟩ := form
    refine ⟨.slice A' n c', w, ?_, .inl ⟨rfl, rfl, rfl⟩⟩
    cases A' with
    | none => cases A <;> simp [Builtin.append_, run_underlying ht, sizeOf, typeInfo, hi, Builtin.lenOf, Builtin.firstCells, hnc, loadCells, loadCellsFrom]
    | some a' => cases A <;> simp [Builtin.append_, run_underlying ht, sizeOf, typeInfo, hi, Builtin.lenOf, Builtin.firstCells, hnc, storeCells, loadCells, loadCellsFrom]
  · obtain ⟨hte, ⟨i, z, hi, hz, hs, hbyt, hzs⟩, hk⟩ := E
    obtain ⟨b2, off2, rfl, _, _, hc2⟩ := hr.at_ (by omega)
    have hnews : ∀ (j : Nat) (u : Value), news[j]? = some u → w.cell? ((⟨b2, off2, none⟩ : Addr).add j) = some u := fun j u hu => by rw [add_mk]; exact hc2 j u hu
    have fin : ∀ {v' : Value} {w' : World} {bo : Option Nat}, w'.ownsRow 0 e k v' (n + m) (old ++ news) → w.grownBy w' bo → w.drawn ≤ w'.drawn → (v'.ownBlock = bo ∨ v'.ownBlock = some w.heap.size) → (bo = none ∨ ∃ b capo, bo = some b ∧ v = .slice (some ⟨b, 0, none⟩) n capo ∧ capo ≠ 0) → ApR w e k v n m old news v' w' := by
      intro v' w' bo h2 h3 hdr h5 h6
      rcases h2.2 with ⟨_, hz⟩ | ⟨b, cap, cur, rfl, _, g1, g2, g3, g4, g5⟩
      · omega
      · refine .inr ⟨b, cap, cur, h0, rfl, by omega, g1, g2, by simpa [maxLen] using g3, g4, g5, ?_⟩
        rcases h6 with rfl | ⟨b0, capo, rfl, h7, h8⟩
        · left
          rcases h5 with h5 | h5
          · cases h5
          · exact ⟨by simpa [Value.ownBlock] using h5, (fp_grown h3 hdr).mono (fun _ _ h => by cases h)⟩
        · right
          refine ⟨b0, capo, h7, h8, ?_, (fp_grown h3 hdr).mono (fun _ _ h => by simpa using h.symm)⟩
          rcases h5 with h5 | h5
          · right; simpa [Value.ownBlock] using h5
          · left; simpa [Value.ownBlock] using h5
    rcases hb with ⟨A', rfl, rfl, rfl, hA⟩ | ⟨b, cap, arr, rfl, hc, h2, h3, h4, h5, h6, h7⟩
    · cases A' with
      | none =>
        obtain ⟨v', w', r1, r2, r3, _, r5⟩ := run_append_own_at (P := P) w 0 t ty e i z k bytes hte hi hz hs hbyt hzs hk (.slice none 0 0) 0 [] (World.ownsRow_nil _ _ _ _) ⟨b2, off2, none⟩ m c news hr.len
          hnews h1 (by simp only [maxLen]; omega) hby (Nat.zero_le _)
        exact ⟨v', w', r1, fin r2 r3 (run_drawn _ r1) r5 (.inl rfl)⟩
      | some a' =>
        subst hs; subst hbyt
        have hr2 := run_append_grow (P := P) w t ty e i z hte hi hz a' 0 0 [] (by simp) (fun j u hu => by simp at hu) ⟨b2, off2, none⟩ m c news hr.len hnews (by omega) (by omega) (growslice_fits (by omega) hby)
        have hge := grownCap_ge w (0 + m) 0 e
        have hcm : grownCap w (0 + m) 0 e ≤ maxLen := grownCap_le_maxLen w (0 + m) 0 e (by simp only [maxLen]; omega)
        refine ⟨_, _, hr2, .inr ⟨w.heap.size, _, _, h0, rfl, by omega, heap_alloc_new w.drew _, hge, by simpa [maxLen] using hcm, ?_, ?_, .inl ⟨rfl, ?_⟩⟩⟩
        · simp only [Array.size_append, List.size_toArray, size_zeroCells, hzs, hr.len, ← Nat.add_mul, List.length_nil]
          rw [Nat.zero_add, ← Nat.add_mul]
          congr 1
          omega
        · simp only [Array.toList_append, List.append_assoc, List.nil_append]
          rw [Nat.zero_add, ← hr.len]
          exact List.take_left
        · exact (Fp.drew w _).trans (Fp.alloc _ _ _)
    · obtain ⟨v', w', r1, r2, r3, _, r5⟩ := run_append_own_at (P := P) w 0 t ty e i z k bytes hte hi hz hs hbyt hzs hk _ n old ⟨h7, .inr ⟨b, cap, arr, rfl, Nat.zero_le _, h2, h3, by simpa [maxLen] using h4, h5, h6⟩⟩ ⟨b2, off2, none⟩ m c news hr.len
        hnews h1 (by simp only [maxLen]; omega) hby (Nat.zero_le _)
      exact ⟨v', w', r1, fin r2 r3 (run_drawn _ r1) r5 (.inr ⟨b, cap, rfl, rfl, hc⟩)⟩
end
end Go.Proofs.Ytgclmlbaodcccaa
