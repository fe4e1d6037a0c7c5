/- slices.Compact at arcs. -/
import Derived.Test.YtfkpjnmngafnmaaCln1
import Derived.Lib.SliceRun
namespace Go.Proofs.Ytfkpjnmngafnmaa
set_option linter.unusedVariables false
set_option linter.unusedSimpArgs false
open Go.RowKit Go.Shelf Go.Sort

def compGo (p : Arc) : List Arc → List Arc
  | [] => []
  | y :: ys => if y = p then compGo p ys else y :: compGo y ys
def compL : List Arc → List Arc
  | [] => []
  | x :: xs => x :: compGo x xs

theorem run_clear_at {P : Program} (w : World) (t e ty et : TypeId) (z : Value) (k : Nat) (ht : P.underlying t = some (.slice e)) (hv : ∀ w, (zeroValue e).run P w = .ok z w) (hz : z.cells.size = k) (h1 : ∀ u ∈ z.cells.toList, u.oneCell' = true)
    (g o n c : Nat) (cs : List Value) (hg : Blk w g et cs) (hn : 0 < n) (hfit : o + n * k ≤ cs.length) :
    (Builtin.clear_ #[t] ty #[.slice (some ⟨g, o, none⟩) n c]).run P w = .ok (.tuple #[]) (w.setRow g (cs.take o ++ (Builtin.zeroCells z.cells n).toList ++ cs.drop (o + n * k)).toArray) := by
  have hsz : (Builtin.zeroCells z.cells n).toList.length = n * k := by simp [size_zeroCells, hz]
  have hone : ∀ v ∈ (Builtin.zeroCells z.cells n).toList, v.oneCell' = true := by
    intro v hv
    have hv' : v ∈ Builtin.zeroCells z.cells n := by simpa using hv
    simp only [Builtin.zeroCells, Array.mem_map, Array.mem_range] at hv'
    obtain ⟨i, hi, rfl⟩ := hv'
    by_cases hk : k = 0
    · subst hk; simp [hz] at hi
    · have hm : i % z.cells.size < z.cells.size := Nat.mod_lt _ (by omega)
      apply h1
      simp [hm]
  have hst := run_storeCells_at P g o et (Builtin.zeroCells z.cells n).toList 0 cs.toArray w hg (by simpa [size_zeroCells, hz] using hfit) hone
  rw [hsz] at hst
  simp only [Nat.add_zero] at hst
  obtain ⟨m, rfl⟩ : ∃ m, n = m + 1 := ⟨n - 1, by omega⟩
  simp [Builtin.clear_, run_underlying ht, hv, hst]

theorem zero_arc (w : World) : (zeroValue 46).run Try.prog w = .ok (.agg #[.int .i64 0, .int .i64 0]) w := by
  have h : (Try.prog.info? 46).map (fun i => (i.zero, i.size, i.bytes)) = some (some (.agg #[.int .i64 0, .int .i64 0]), 2, 16) := by kernel_rfl
  obtain ⟨i, h1, h2, h3, h4⟩ := info_parts h
  simp [zeroValue, typeInfo, h1, h2]
/-- a block that begins with the arcs ys -/
structure AB (w : World) (g : Nat) (ys : List Arc) (rest : List Value) (n : Nat) : Prop where
  b : Blk w g 46 (ys.flatMap cp ++ rest)
  n_eq : ys.length = n
section
variable {w w' : World} {g n : Nat} {ys : List Arc} {rest : List Value} {M : List Nat}
theorem AB.get (h : AB w g ys rest n) {i : Nat} (hi : i < n) : ∃ x y, ys[i]? = some (x, y) ∧ w.cell? ⟨g, i * 2, none⟩ = some (.int .i64 x) ∧ w.cell? ⟨g, i * 2 + 1, none⟩ = some (.int .i64 y) := by
  have hl : i < ys.length := by rw [h.n_eq]; exact hi
  obtain ⟨x, y, hg⟩ : ∃ x y, ys[i]? = some (x, y) := ⟨ys[i].1, ys[i].2, List.getElem?_eq_getElem hl⟩
  have hlen := flat_len cp 2 (fun _ => rfl) ys
  refine ⟨x, y, hg, h.b.cellS ?_, h.b.cellS ?_⟩
  · rw [List.getElem?_append_left (by omega)]
    simpa [cp] using flat_get cp 2 (fun _ => rfl) ys i 0 _ hg (by omega)
  · rw [List.getElem?_append_left (by omega)]
    simpa [cp] using flat_get cp 2 (fun _ => rfl) ys i 1 _ hg (by omega)
theorem AB.fr (h : AB w g ys rest n) (hf : Fr M w w') (hg : g ∉ M) : AB w' g ys rest n := ⟨h.b.fr hf hg, h.n_eq⟩
theorem flat_set (ys : List Arc) (i : Nat) (x y : Int) (hi : i < ys.length) (rest : List Value) : ((ys.flatMap cp ++ rest).set (i * 2) (.int .i64 x)).set (i * 2 + 1) (.int .i64 y) = (ys.set i (x, y)).flatMap cp ++ rest := by
  induction ys generalizing i with
  | nil => simp at hi
  | cons z zs ih =>
    cases i with
    | zero => simp [cp]
    | succ i =>
      have := ih i (by simpa using hi)
      simp only [List.flatMap_cons, cp, List.cons_append, List.nil_append, List.set_cons_succ, show (i + 1) * 2 = i * 2 + 1 + 1 by omega]
      rw [this]
theorem AB.set_ (h : AB w g ys rest n) {i : Nat} (hi : i < n) (x y : Int) : AB ((w.setCell ⟨g, i * 2, none⟩ (.int .i64 x)).setCell ⟨g, i * 2 + 1, none⟩ (.int .i64 y)) g (ys.set i (x, y)) rest n :=
  ⟨by rw [← flat_set ys i x y (by rw [h.n_eq]; exact hi) rest]; exact (h.b.set_ _ _).set_ _ _, by simp [h.n_eq]⟩
theorem AB.set1 (h : AB w g ys rest n) {i : Nat} {x y : Int} (hi : ys[i]? = some (x, y)) (y' : Int) : AB (w.setCell ⟨g, i * 2 + 1, none⟩ (.int .i64 y')) g (ys.set i (x, y')) rest n := by
  have hl := (List.getElem?_eq_some_iff.1 hi).1
  refine ⟨?_, by simp [h.n_eq]⟩
  rw [← flat_set ys i x y' hl rest]
  have hs : (ys.flatMap cp ++ rest).set (i * 2) (.int .i64 x) = ys.flatMap cp ++ rest := by
    apply List.ext_getElem?
    intro j
    rw [List.getElem?_set]
    split
    · rename_i hj
      subst hj
      have hlen := flat_len cp 2 (fun _ => rfl) ys
      have := flat_get cp 2 (fun _ => rfl) ys i 0 _ hi (by omega)
      simp only [Nat.add_zero] at this
      rw [if_pos (by simp [hlen]; omega), List.getElem?_append_left (by omega), this]
      rfl
    · rfl
  rw [hs]
  exact h.b.set_ _ _
theorem AB.of_row {B : Nat} {v : Value} {xs : List Arc} (h : Row w B 46 2 v n (xs.flatMap cp)) (hn : xs.length = n) (h0 : 0 < n) :
    ∃ g cap rest, v = .slice (some ⟨g, 0, none⟩) n cap ∧ B ≤ g ∧ n ≤ cap ∧ cap ≤ maxLen ∧ AB w g xs rest n ∧ (xs.flatMap cp ++ rest).length = cap * 2 := by
  rcases h with ⟨h, _⟩ | ⟨_, _, ⟨_, h⟩ | ⟨g, cap, cur, rfl, hB, hh, hc1, hc2, hc3, hc4⟩⟩
  · omega
  · omega
  · have hl : xs.flatMap cp ++ cur.toList.drop (n * 2) = cur.toList := by rw [← hc4]; exact List.take_append_drop _ _
    refine ⟨g, cap, cur.toList.drop (n * 2), rfl, hB, hc1, hc2, ⟨?_, hn⟩, by rw [hl]; simpa using hc3⟩
    unfold Blk
    rw [hl]; exact hh
theorem AB.row {B cap : Nat} (h : AB w g ys rest n) (h0 : 0 < n) (hB : B ≤ g) (h1 : n ≤ cap) (h2 : cap ≤ maxLen) (h3 : (ys.flatMap cp ++ rest).length = cap * 2) : Row w B 46 2 (.slice (some ⟨g, 0, none⟩) n cap) n (ys.flatMap cp) := by
  have hlen := flat_len cp 2 (fun _ => rfl) ys
  have hn := h.n_eq
  refine .inr ⟨h0, by rw [hlen, hn], .inr ⟨g, cap, _, rfl, hB, h.b, h1, h2, by simpa using h3, ?_⟩⟩
  rw [← hn, ← hlen]
  simp
end
theorem compL_start {xs : List Arc} (h : 1 ≤ xs.length) : compL xs = xs.take 1 ++ compGo (xs.getD 0 (0, 0)) (xs.drop 1) := by
  cases xs with
  | nil => simp at h
  | cons x xs => simp [compL]
theorem compGo_step {xs ys : List Arc} {k p : Nat} {a b : Arc} (h : compL xs = ys.take k ++ compGo (ys.getD (p - 1) (0, 0)) (ys.drop p)) (hp : 1 ≤ p) (ha : ys[p - 1]? = some a) (hb : ys[p]? = some b) :
    (b = a → compL xs = ys.take k ++ compGo (ys.getD (p + 1 - 1) (0, 0)) (ys.drop (p + 1))) ∧
    (b ≠ a → k < p → compL xs = (ys.set k b).take (k + 1) ++ compGo ((ys.set k b).getD (p + 1 - 1) (0, 0)) ((ys.set k b).drop (p + 1))) ∧
    (b ≠ a → k = p → compL xs = ys.take (k + 1) ++ compGo (ys.getD (p + 1 - 1) (0, 0)) (ys.drop (p + 1))) := by
  have hl := (List.getElem?_eq_some_iff.1 hb).1
  have hd : ys.drop p = b :: ys.drop (p + 1) := by
    rw [List.drop_eq_getElem_cons hl]; congr 1
    rw [List.getElem?_eq_getElem hl] at hb; exact Option.some.inj hb
  have hga : ys.getD (p - 1) (0, 0) = a := by simp [List.getD, ha]
  have hgb : ys.getD (p + 1 - 1) (0, 0) = b := by simp [List.getD, hb]
  rw [hga, hd] at h
  refine ⟨fun e => ?_, fun e hk => ?_, fun e hk => ?_⟩
  · rw [h, hgb, e]; simp [compGo]
  · have h1 : (ys.set k b).getD (p + 1 - 1) (0, 0) = b := by
      simp [List.getD, List.getElem?_set, show k ≠ p by omega, hb]
    have h2 : (ys.set k b).drop (p + 1) = ys.drop (p + 1) := by rw [List.drop_set, if_pos (by omega)]
    have h3 : (ys.set k b).take (k + 1) = ys.take k ++ [b] := by
      rw [List.take_add_one, List.take_set_of_le (Nat.le_refl k)]
      simp [List.getElem?_set, show k < ys.length by omega]
    rw [h, h1, h2, h3]
    simp [compGo, e]
  · subst hk
    rw [h, hgb, List.take_add_one, hb]
    simp [compGo, e]
theorem comp_end {xs ys : List Arc} {k p : Nat} (h : compL xs = ys.take k ++ compGo (ys.getD (p - 1) (0, 0)) (ys.drop p)) (hp : ys.length ≤ p) : compL xs = ys.take k := by
  rw [h, List.drop_eq_nil_of_le hp]; simp [compGo]
end Go.Proofs.Ytfkpjnmngafnmaa
