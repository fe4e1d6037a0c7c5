/- The arguments' readings, with what memory bounds. -/
import Derived.Test.YtfjfllpcflddmaaGreatOpn3
namespace Go.Proofs.YtfjfllpcflddmaaGreat
set_option linter.unusedVariables false
set_option linter.unusedSimpArgs false
open Go.RowKit Go.Deep Go.ChangeShapes Go.WideShapes
variable {H : Type} {enc : TypeId × Value → H}
/-- .. and what fits in memory -/
theorem ints_trW {P : Program} {w : World} {t e : TypeId} {fuel : Nat} {v : Value} {x : DataW H × List MemPlace} (ht : P.underlying t = some (.slice e)) (he : P.underlying e = some (.int .i64)) (hc : P.cellsOf e = 1) (h : DataW.trod enc P w 0 (fun _ => true) true fuel t [v] = some x)
    (hby : P.bytesOf e = 8) (hwt : ∀ k ∈ x.1.weights P t, k ≤ reachBytes) :
    ∃ zs, Rd noM w (.l 1 (tInts zs)) v ∧ zs.length ≤ 140737488355328 ∧ ∀ y ∈ zs, in64 y := by
  obtain ⟨zs, h1, h2, h3⟩ := ints_tr ht he hc h
  refine ⟨zs, h1, ?_, h3⟩
  rcases open_slice ht h with ⟨hcs, _⟩ | ⟨a, len, cap, m, n, D, Pl, hcs, _, hl, hm, hmm, hxe, hx⟩
  · simp at hcs; subst hcs
    generalize htz : tInts zs = ts at h1
    cases h1 with
    | e A c => have := congrArg List.length htz; rw [tInts_len] at this; simp at this; simp [this]
  · simp at hcs; subst hcs
    simp at hmm
    subst hmm
    have hlen47 : len ≤ 140737488355328 := by
      have := hwt ((((List.range len).map D).length + ((List.range (m - len)).map fun j => D (len + j)).length) * 8) (by rw [hxe]; simp [DataW.weights, ht, hby])
      simp only [List.length_map, List.length_range] at this
      have hr := reachBytes_lt
      omega
    generalize htz : tInts zs = ts at h1
    cases h1 with
    | e A c => have := congrArg List.length htz; rw [tInts_len] at this; simp at this; simp [this]
    | l _ _ b off n' c us hn h0 hc hM hb h1 h2 => have := congrArg List.length htz; rw [tInts_len] at this; omega
theorem sets_trW {P : Program} {w : World} {T t e : TypeId} {fuel : Nat} {v : Value} {x : DataW H × List MemPlace} (hT : P.underlying T = some (.slice t)) (hct : P.cellsOf t = 1) (ht : P.underlying t = some (.slice e)) (he : P.underlying e = some (.int .i64)) (hc : P.cellsOf e = 1) (h : DataW.trod enc P w 0 (fun _ => true) true fuel T [v] = some x)
    (hbT : P.bytesOf t = 24) (hby : P.bytesOf e = 8) (hwt : ∀ k ∈ x.1.weights P T, k ≤ reachBytes) :
    ∃ L : List (List Int), Rd noM w (.l 1 (tSets L)) v ∧ L.length ≤ 140737488355328 ∧ ∀ s ∈ L, s.length ≤ 140737488355328 ∧ ∀ y ∈ s, in64 y := by
  rcases open_slice1 hT hct h with ⟨hcs, _⟩ | ⟨a, len, cap, m, n, V, D, Pl, hcs, _, hl, hm, hmm, hxe, hx⟩
  · simp at hcs; subst hcs
    exact ⟨[], .e _ _ _, by simp, by simp⟩
  · simp at hcs; subst hcs
    simp at hmm
    subst hmm
    have hlen47 : len ≤ 140737488355328 := by
      have := hwt ((((List.range len).map D).length + ((List.range (m - len)).map fun j => D (len + j)).length) * 24) (by rw [hxe]; simp [DataW.weights, hT, hbT])
      simp only [List.length_map, List.length_range] at this
      have hr := reachBytes_lt
      omega
    obtain ⟨L, hrl, hrs⟩ := choose_list (α := List Int) (p := fun q r => Rd noM w (.l 1 (tInts r)) (V q) ∧ r.length ≤ 140737488355328 ∧ ∀ y ∈ r, in64 y) len (fun q hq => ints_trW ht he hc (hx q (by omega)).2 hby (fun k hk => hwt k (by
      rw [hxe]
      simp only [DataW.weights, hT, List.mem_cons, List.mem_append]
      exact .inr (.inl (weightsAll_mem (List.mem_map.2 ⟨q, by simpa using hq, rfl⟩) hk)))))
    refine ⟨L, ?_, by omega, fun r hr => by obtain ⟨q, hq⟩ := List.getElem?_of_mem hr; exact (hrs q r hq).2⟩
    rcases Nat.eq_zero_or_pos len with h0 | h0
    · subst h0
      have : L = [] := List.length_eq_zero_iff.1 hrl
      subst this
      exact .e _ _ _
    · obtain ⟨hX0, _⟩ := hx 0 (by omega)
      simp [Addr.add] at hX0
      obtain ⟨hsp, hlt⟩ := cell_lt hX0
      obtain ⟨b, off, rfl⟩ : ∃ b off, a = ⟨b, off, none⟩ := ⟨a.block, a.off, by cases a; simp at hsp; subst hsp; rfl⟩
      have hadd : ∀ q, (⟨b, off, none⟩ : Addr).add q = ⟨b, off + q, none⟩ := fun q => by unfold Addr.add; split <;> simp_all
      refine .l 1 _ b off len m V (by simp [tSets]; omega) h0 hl (fun h => h) hlt (fun j t hj => ?_) (fun j t hj => ?_)
      · have hj2 : j < len := by
          have := (List.getElem?_eq_some_iff.1 hj).1
          simp [tSets] at this; omega
        rw [← hadd]; exact (hx j (by omega)).1
      · simp only [tSets, List.getElem?_map, Option.map_eq_some_iff] at hj
        obtain ⟨r, hr, rfl⟩ := hj
        exact (hrs j r hr).1
end Go.Proofs.YtfjfllpcflddmaaGreat
