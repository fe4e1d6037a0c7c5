/- The arguments' readings at this program's types. -/
import Derived.Test.YtfkpjnmngafnmaaOpn1
import Derived.Test.YtfkpjnmngafnmaaRows
import Derived.OpenShut
namespace Go.Proofs.Ytfkpjnmngafnmaa
set_option linter.unusedVariables false
set_option linter.unusedSimpArgs false
open Go.RowKit Go.Deep Go.ChangeShapes Go.WideShapes

theorem own_ : ownKnob Try.prog.godebug = none := by kernel_rfl
theorem laidOut_ : laidOutB Try.prog = true := by kernel_rfl
theorem fields2 {t i : TypeId} {n0 n1 : String} (ht : Try.prog.underlying t = some (.struct (Try.prog.fieldsOf t))) (hf : (Try.prog.fieldsOf t).toList.map (fun f => (f.name, f.type, f.offset)) = [(n0, i, 0), (n1, i, 1)]) :
    ∃ f0 f1, Try.prog.underlying t = some (.struct #[f0, f1]) ∧ (f0.type = i ∧ f0.offset = 0) ∧ (f1.type = i ∧ f1.offset = 1) := by
  match h : (Try.prog.fieldsOf t).toList, hf with
  | [f, g], hf =>
    simp only [List.map_cons, List.map_nil, List.cons.injEq, Prod.mk.injEq, and_true] at hf
    obtain ⟨⟨_, a1, a2⟩, _, b1, b2⟩ := hf
    refine ⟨f, g, ?_, ⟨a1, a2⟩, ⟨b1, b2⟩⟩
    rw [ht]
    have : Try.prog.fieldsOf t = #[f, g] := by apply Array.ext'; simpa using h
    rw [this]
  | [], hf => simp at hf
  | [_], hf => simp at hf
  | _ :: _ :: _ :: _, hf => simp at hf
theorem fields1 {t i : TypeId} {n0 : String} (ht : Try.prog.underlying t = some (.struct (Try.prog.fieldsOf t))) (hf : (Try.prog.fieldsOf t).toList.map (fun f => (f.name, f.type, f.offset)) = [(n0, i, 0)]) :
    ∃ f0, Try.prog.underlying t = some (.struct #[f0]) ∧ (f0.type = i ∧ f0.offset = 0) := by
  match h : (Try.prog.fieldsOf t).toList, hf with
  | [f], hf =>
    simp only [List.map_cons, List.map_nil, List.cons.injEq, Prod.mk.injEq, and_true] at hf
    obtain ⟨_, a1, a2⟩ := hf
    refine ⟨f, ?_, ⟨a1, a2⟩⟩
    rw [ht]
    have : Try.prog.fieldsOf t = #[f] := by apply Array.ext'; simpa using h
    rw [this]
  | [], hf => simp at hf
  | _ :: _ :: _, hf => simp at hf
theorem arcF : ∃ f0 f1, Try.prog.underlying 46 = some (.struct #[f0, f1]) ∧ (f0.type = 3 ∧ f0.offset = 0) ∧ (f1.type = 3 ∧ f1.offset = 1) := fields2 (n0 := "Event") (n1 := "To") (by kernel_rfl) (by kernel_rfl)
theorem aboveF : ∃ f0 f1, Try.prog.underlying 52 = some (.struct #[f0, f1]) ∧ (f0.type = 3 ∧ f0.offset = 0) ∧ (f1.type = 3 ∧ f1.offset = 1) := fields2 (n0 := "Low") (n1 := "High") (by kernel_rfl) (by kernel_rfl)
theorem ltsF : ∃ f0, Try.prog.underlying 25 = some (.struct #[f0]) ∧ (f0.type = 23 ∧ f0.offset = 0) := fields1 (n0 := "Out") (by kernel_rfl) (by kernel_rfl)

variable {H : Type} {enc : TypeId × Value → H}
/-- a tape of numbers that came in -/
theorem tape_open {W : World} {a : Option Addr} {len cap : Nat} {d : DataW H} {p : List MemPlace} (h : DataW.Trod enc Try.prog W 0 (fun _ => true) true 22 (.slice a len cap) d p) :
    ∃ zs, Ints [] W a len cap zs ∧ len ≤ 9223372036854775807 ∧ ∀ x ∈ zs, -9223372036854775808 ≤ x ∧ x ≤ 9223372036854775807 := by
  obtain ⟨fuel, hf⟩ := h
  rcases open_ints Try.underlying22 Try.underlying3 (by kernel_rfl) hf with ⟨hcs, _⟩ | ⟨x, l, c, zs, hcs, _, hl, hm, hz, _, hcell, hwz⟩
  · simp [Value.cells] at hcs
    obtain ⟨rfl, rfl, rfl⟩ := hcs
    exact ⟨[], Ls.none0, by omega, by simp⟩
  · simp [Value.cells] at hcs
    obtain ⟨rfl, rfl, rfl⟩ := hcs
    have hzl : zs.length = cap := by simpa using hz
    simp only [maxLen] at hm
    refine ⟨zs.take len, ?_, by omega, fun y hy => ?_⟩
    · by_cases h0 : len = 0
      · subst h0; exact Ls.none0
      · have hX0 := hcell 0 (by omega)
        simp [Addr.add] at hX0
        obtain ⟨hsp, hlt⟩ := cell_lt hX0
        obtain ⟨b, off, rfl⟩ : ∃ b off, x = ⟨b, off, none⟩ := ⟨x.block, x.off, by cases x; simp at hsp; subst hsp; rfl⟩
        have hadd : ∀ q, (⟨b, off, none⟩ : Addr).add q = ⟨b, off + q, none⟩ := fun q => by unfold Addr.add; split <;> simp_all
        refine Ls.of_cells (f := ci) (k := 1) (fun _ => rfl) (by omega) (by simp; omega) hl (fun _ => hlt) (fun q y hqy r u hu => ?_)
        rw [List.getElem?_take] at hqy
        split at hqy
        · have := hcell q (by omega)
          rw [hadd] at this
          match r, hu with
          | 0, hu =>
            simp [ci] at hu; subst hu
            simpa [List.getD, hqy] using this
          | r + 1, hu => simp [ci] at hu
        · cases hqy
    · have := hwz y (List.mem_of_mem_take hy)
      simpa [Lit.wf, IntKind.min, IntKind.max, IntKind.signed, IntKind.bits] using this
set_option maxRecDepth 100000 in
/-- a system that came in -/
theorem lts_open {W : World} {v : Value} {d : DataW H} {p : List MemPlace} {r : Reach} {b0 : Nat} (hv : Value.okWide Try.prog W r b0 25 v) (h : DataW.Trod enc Try.prog W 0 (fun _ => true) true 25 v d p) (hwt : ∀ k ∈ d.weights Try.prog 25, k ≤ reachBytes) :
    ∃ A n c rows, v = .agg #[.slice A n c] ∧ Ll cp 2 [] W A n c rows ∧ n ≤ 140737488355328 ∧ ∀ r ∈ rows, r.length ≤ 140737488355328 := by
  obtain ⟨f0, hs, hf1, hf2⟩ := ltsF
  obtain ⟨a0, a1, he, ha0, ha1⟩ := arcF
  obtain ⟨cs, rfl, hsz⟩ := okWide_struct hs hv
  have hC : Try.prog.cellsOf 25 = 1 := by kernel_rfl
  rw [hC] at hsz
  obtain ⟨c0, rfl⟩ : ∃ c0, cs = #[c0] := by
    match cs, hsz with
    | ⟨[c0]⟩, _ => exact ⟨c0, rfl⟩
  obtain ⟨fuel, hf⟩ := h
  obtain ⟨y0, n, hx, _, h0⟩ := trod_struct1 hs hf
  have hC2 : Try.prog.cellsOf 23 = 1 := by kernel_rfl
  rw [hf1, hf2, hC2] at h0
  simp [Value.cells] at h0
  have hd : d = .agg [y0.1] := by simpa using congrArg Prod.fst hx
  subst hd
  obtain ⟨A, n, c, rows, hv2, h1, h2, h3⟩ := rows_open Try.underlying23 (by kernel_rfl) Try.underlying44 he (by kernel_rfl) ha0 ha1 Try.underlying3 (by kernel_rfl) h0 (by kernel_rfl) (by kernel_rfl) (fun k hk => hwt k (by
    simp only [DataW.weights, hs, List.toList_toArray, List.map_cons, List.map_nil, DataW.weightsEach, hf1, List.append_nil]; exact hk))
  exact ⟨A, n, c, rows, by rw [hv2], h1, h2, h3⟩
theorem order_open {W : World} {v : Value} {d : DataW H} {p : List MemPlace} (h : DataW.Trod enc Try.prog W 0 (fun _ => true) true 26 v d p) (hv : ∃ a l c, v = .slice a l c) (hwt : ∀ k ∈ d.weights Try.prog 26, k ≤ reachBytes) : ∃ A n c o, v = .slice A n c ∧ Pairs [] W A n c o ∧ n ≤ 140737488355328 := by
  obtain ⟨a0, a1, he, ha0, ha1⟩ := aboveF
  obtain ⟨a, l, c, rfl⟩ := hv
  obtain ⟨fuel, hf⟩ := h
  exact pairs_open Try.underlying26 he (by kernel_rfl) ha0 ha1 Try.underlying3 (by kernel_rfl) (by simpa [Value.cells] using hf) (by kernel_rfl) hwt
end Go.Proofs.Ytfkpjnmngafnmaa
