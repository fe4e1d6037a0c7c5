/- What the arguments' readings say, in our words: lists of numbers, of pairs, systems. -/
import Derived.Test.YtfjfllpcflddmaaGreatBase
import Derived.Deep.Slices
import Derived.ProofKit
namespace Go.Proofs.YtfjfllpcflddmaaGreat
set_option linter.unusedVariables false
set_option linter.unusedSimpArgs false
open Go.RowKit Go.Deep Go.ChangeShapes

theorem cell_lt {w : World} {a : Addr} {v : Value} (h : w.cell? a = some v) : a.spot = none ∧ a.block < w.heap.size := by
  constructor
  · unfold World.cell? at h
    split at h
    · split at h
      · cases h
      · rename_i hs; cases hsp : a.spot with
        | none => rfl
        | some x => simp [hsp] at hs
    · cases h
  · rcases Nat.lt_or_ge a.block w.heap.size with hl | hl
    · exact hl
    · simp [World.cell?, Array.getElem?_eq_none hl] at h
theorem Ls.of_cells {α : Type} {f : α → List Value} {k : Nat} (hfk : ∀ x, (f x).length = k) (hk : 0 < k) {w : World} {b off n c : Nat} {xs : List α} (hn : xs.length = n) (hc : n ≤ c) (hb : 0 < n → b < w.heap.size)
    (h : ∀ (i : Nat) (x : α), xs[i]? = some x → ∀ (q : Nat) (u : Value), (f x)[q]? = some u → w.cell? ⟨b, off + (i * k + q), none⟩ = some u) : Ls f k [] w (some ⟨b, off, none⟩) n c xs := by
  subst hn
  refine ⟨⟨flat_len f k hfk xs, hc, fun hp => ⟨b, off, rfl, by simp, hb hp, fun j u hu => ?_⟩⟩, rfl⟩
  have hjl := (List.getElem?_eq_some_iff.1 hu).1
  rw [flat_len f k hfk] at hjl
  have hd : j / k < xs.length := Nat.div_lt_of_lt_mul (by rw [Nat.mul_comm]; exact hjl)
  have hm : j % k < k := Nat.mod_lt _ hk
  have htd : j / k * k + j % k = j := by rw [Nat.mul_comm]; exact Nat.div_add_mod j k
  have hg := flat_get f k hfk xs (j / k) (j % k) xs[j / k] (List.getElem?_eq_getElem hd) hm
  rw [htd] at hg
  rw [hg] at hu
  have := h (j / k) xs[j / k] (List.getElem?_eq_getElem hd) (j % k) u hu
  rw [htd] at this
  exact this
theorem Ls.none0 {α : Type} {f : α → List Value} {k : Nat} {w : World} {A : Option Addr} {c : Nat} : Ls f k [] w A 0 c [] := ⟨⟨by simp, Nat.zero_le _, fun h => absurd h (by omega)⟩, rfl⟩

theorem choose_list {α : Type} {p : Nat → α → Prop} : ∀ (n : Nat), (∀ q, q < n → ∃ x, p q x) → ∃ xs : List α, xs.length = n ∧ ∀ q x, xs[q]? = some x → p q x
  | 0, _ => ⟨[], rfl, by simp⟩
  | n + 1, h => by
    obtain ⟨xs, hl, hx⟩ := choose_list n (fun q hq => h q (by omega))
    obtain ⟨x, hp⟩ := h n (by omega)
    refine ⟨xs ++ [x], by simp [hl], fun q y hy => ?_⟩
    by_cases hq : q < xs.length
    · rw [List.getElem?_append_left hq] at hy; exact hx q y hy
    · rw [List.getElem?_append_right (by omega)] at hy
      have hq2 : q - xs.length = 0 := by
        rcases Nat.eq_zero_or_pos (q - xs.length) with h | h
        · exact h
        · rw [List.getElem?_eq_none (by simp; omega)] at hy; cases hy
      rw [hq2] at hy
      simp at hy
      subst hy
      rw [show q = n by omega]; exact hp

variable {H : Type} {enc : TypeId × Value → H}
/-- a slice of pairs that came in -/
theorem pairs_open {P : Program} {w : World} {t e i : TypeId} {f0 f1 : Field} {fuel : Nat} {v : Value} {x : DataW H × List MemPlace} (ht : P.underlying t = some (.slice e)) (he : P.underlying e = some (.struct #[f0, f1])) (hc : P.cellsOf e = 2)
    (hf0 : f0.type = i ∧ f0.offset = 0) (hf1 : f1.type = i ∧ f1.offset = 1) (hi : P.underlying i = some (.int .i64)) (hci : P.cellsOf i = 1) (h : DataW.trod enc P w 0 (fun _ => true) true fuel t [v] = some x)
    (hby : P.bytesOf e = 16) (hwt : ∀ k ∈ x.1.weights P t, k ≤ reachBytes) :
    ∃ A n c xs, v = .slice A n c ∧ Pairs [] w A n c xs ∧ n ≤ 140737488355328 := by
  rcases open_slice ht h with ⟨hcs, _⟩ | ⟨a, len, cap, m, n, D, Pl, hcs, _, hl, hm, hmm, hxe, hx⟩
  · simp at hcs; subst hcs
    exact ⟨none, 0, 0, [], rfl, Ls.none0, by omega⟩
  · simp at hcs; subst hcs
    simp at hmm
    subst hmm
    have hlen47 : len ≤ 140737488355328 := by
      have := hwt ((((List.range len).map D).length + ((List.range (m - len)).map fun j => D (len + j)).length) * 16) (by rw [hxe]; simp [DataW.weights, ht, hby])
      simp only [List.length_map, List.length_range] at this
      have hr := reachBytes_lt
      omega
    have hx2 : ∀ q, q < len → ∃ X Y : Int, w.cell? (a.add (q * 2)) = some (.int .i64 X) ∧ w.cell? ((a.add (q * 2)).add 1) = some (.int .i64 Y) := by
      intro q hq
      obtain ⟨cs', h1, h2⟩ := hx q (by omega)
      rw [hc] at h1
      obtain ⟨_, hlen, hcell⟩ := World.cells?_some h1
      match cs', hlen with
      | [c0, c1], _ =>
        obtain ⟨y0, y1, n', _, _, e0, e1⟩ := trod_struct2 he h2
        rw [hf0.1, hf0.2, hci] at e0
        rw [hf1.1, hf1.2, hci] at e1
        obtain ⟨X, hX, _, _⟩ := DataW.trod_int hi e0
        obtain ⟨Y, hY, _, _⟩ := DataW.trod_int hi e1
        simp at hX hY
        subst hX; subst hY
        have z0 := hcell 0 (by omega)
        have z1 := hcell 1 (by omega)
        simp [Addr.add] at z0
        exact ⟨X, Y, by simpa [Addr.add] using z0, by simpa using z1⟩
    by_cases h0 : len = 0
    · subst h0
      exact ⟨some a, 0, m, [], rfl, Ls.none0, by omega⟩
    · obtain ⟨X0, _, hX0, _⟩ := hx2 0 (by omega)
      simp [Addr.add] at hX0
      obtain ⟨hsp, hlt⟩ := cell_lt hX0
      obtain ⟨b, off, rfl⟩ : ∃ b off, a = ⟨b, off, none⟩ := ⟨a.block, a.off, by cases a; simp at hsp; subst hsp; rfl⟩
      have hadd : ∀ q, (⟨b, off, none⟩ : Addr).add q = ⟨b, off + q, none⟩ := fun q => by unfold Addr.add; split <;> simp_all
      have hadd2 : ∀ q, (⟨b, off + q, none⟩ : Addr).add 1 = ⟨b, off + (q + 1), none⟩ := fun q => by unfold Addr.add; simp; omega
      obtain ⟨xs, hxl, hxs⟩ := choose_list (α := Int × Int) (p := fun q x => w.cell? ⟨b, off + q * 2, none⟩ = some (.int .i64 x.1) ∧ w.cell? ⟨b, off + (q * 2 + 1), none⟩ = some (.int .i64 x.2)) len (fun q hq => by
        obtain ⟨X, Y, h1, h2⟩ := hx2 q hq
        rw [hadd] at h1 h2
        rw [hadd2] at h2
        exact ⟨(X, Y), h1, h2⟩)
      refine ⟨some ⟨b, off, none⟩, len, m, xs, rfl, ?_, hlen47⟩
      refine Ls.of_cells (f := cp) (k := 2) (fun _ => rfl) (by omega) hxl hl (fun _ => hlt) (fun q x hqx r u hu => ?_)
      obtain ⟨h1, h2⟩ := hxs q x hqx
      match r, hu with
      | 0, hu => simp [cp] at hu; subst hu; simpa using h1
      | 1, hu => simp [cp] at hu; subst hu; exact h2
      | r + 2, hu => simp [cp] at hu

theorem weightsAll_mem {P : Program} {e : TypeId} {ds : List (DataW H)} {d : DataW H} (h : d ∈ ds) {k : Nat} (hk : k ∈ d.weights P e) : k ∈ DataW.weightsAll P e ds := by
  induction ds with
  | nil => cases h
  | cons x xs ih =>
    simp only [DataW.weightsAll, List.mem_append]
    rcases List.mem_cons.1 h with rfl | h
    · exact .inl hk
    · exact .inr (ih h)
/-- a slice of slices of pairs that came in -/
theorem rows_open {P : Program} {w : World} {T t e i : TypeId} {f0 f1 : Field} {fuel : Nat} {v : Value} {x : DataW H × List MemPlace} (hT : P.underlying T = some (.slice t)) (hct : P.cellsOf t = 1) (ht : P.underlying t = some (.slice e)) (he : P.underlying e = some (.struct #[f0, f1])) (hc : P.cellsOf e = 2)
    (hf0 : f0.type = i ∧ f0.offset = 0) (hf1 : f1.type = i ∧ f1.offset = 1) (hi : P.underlying i = some (.int .i64)) (hci : P.cellsOf i = 1) (h : DataW.trod enc P w 0 (fun _ => true) true fuel T [v] = some x)
    (hbT : P.bytesOf t = 24) (hby : P.bytesOf e = 16) (hwt : ∀ k ∈ x.1.weights P T, k ≤ reachBytes) :
    ∃ A n c rows, v = .slice A n c ∧ Ll cp 2 [] w A n c rows ∧ n ≤ 140737488355328 ∧ ∀ r ∈ rows, r.length ≤ 140737488355328 := by
  rcases open_slice1 hT hct h with ⟨hcs, _⟩ | ⟨a, len, cap, m, n, V, D, Pl, hcs, _, hl, hm, hmm, hxe, hx⟩
  · simp at hcs; subst hcs
    exact ⟨none, 0, 0, [], rfl, Ll.nil _ _ _ _, by omega, by simp⟩
  · simp at hcs; subst hcs
    simp at hmm
    subst hmm
    have hlen47 : len ≤ 140737488355328 := by
      have := hwt ((((List.range len).map D).length + ((List.range (m - len)).map fun j => D (len + j)).length) * 24) (by rw [hxe]; simp [DataW.weights, hT, hbT])
      simp only [List.length_map, List.length_range] at this
      have hr := reachBytes_lt
      omega
    obtain ⟨rows, hrl, hrs⟩ := choose_list (α := List (Int × Int)) (p := fun q r => w.cell? (a.add q) = some (V q) ∧ LsV cp 2 [] w (V q) r ∧ r.length ≤ 140737488355328) len (fun q hq => by
      obtain ⟨h1, h2⟩ := hx q (by omega)
      obtain ⟨A, n', c, xs, hv, hp, hn⟩ := pairs_open ht he hc hf0 hf1 hi hci h2 hby (fun k hk => hwt k (by
        rw [hxe]
        simp only [DataW.weights, hT, List.mem_cons, List.mem_append]
        exact .inr (.inl (weightsAll_mem (List.mem_map.2 ⟨q, by simpa using hq, rfl⟩) hk))))
      exact ⟨xs, h1, ⟨A, n', c, hv, hp⟩, by rw [hp.n_eq]; exact hn⟩)
    refine ⟨some a, len, m, rows, rfl, ?_, hlen47, fun r hr => by obtain ⟨q, hq⟩ := List.getElem?_of_mem hr; exact (hrs q r hq).2.2⟩
    by_cases h0 : len = 0
    · subst h0
      have : rows = [] := List.length_eq_zero_iff.1 hrl
      subst this
      exact ⟨[], Ls.none0, LRel.nil⟩
    · obtain ⟨hX0, _⟩ := hx 0 (by omega)
      simp [Addr.add] at hX0
      obtain ⟨hsp, hlt⟩ := cell_lt hX0
      obtain ⟨b, off, rfl⟩ : ∃ b off, a = ⟨b, off, none⟩ := ⟨a.block, a.off, by cases a; simp at hsp; subst hsp; rfl⟩
      have hadd : ∀ q, (⟨b, off, none⟩ : Addr).add q = ⟨b, off + q, none⟩ := fun q => by unfold Addr.add; split <;> simp_all
      refine ⟨(List.range len).map V, ?_, by simp [hrl], fun q v r hv hr => ?_⟩
      · refine Ls.of_cells (f := cv) (k := 1) (fun _ => rfl) (by omega) (by simp) hl (fun _ => hlt) (fun q y hqy r u hu => ?_)
        have hq : q < len := by have := (List.getElem?_eq_some_iff.1 hqy).1; simpa using this
        have hy : y = V q := by simp [hq] at hqy; exact hqy.symm
        subst hy
        have := (hx q (by omega)).1
        rw [hadd] at this
        match r, hu with
        | 0, hu => simp [cv] at hu; subst hu; simpa using this
        | r + 1, hu => simp [cv] at hu
      · have hq : q < len := by have := (List.getElem?_eq_some_iff.1 hv).1; simpa using this
        have hy : v = V q := by simp [hq] at hv; exact hv.symm
        subst hy
        exact (hrs q r hr).2.1
end Go.Proofs.YtfjfllpcflddmaaGreat
