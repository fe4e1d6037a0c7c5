/- The arguments' readings as trees; a law's contract as the statement wants it. -/
import Derived.Test.YtfjfllpcflddmaaGreatOpn1
import Derived.Test.YtfjfllpcflddmaaGreatMF
import Derived.Test.YtfjfllpcflddmaaGreatRows
import Derived.OpenShut
namespace Go.Proofs.YtfjfllpcflddmaaGreat
set_option linter.unusedVariables false
set_option linter.unusedSimpArgs false
open Go.RowKit Go.Deep Go.ChangeShapes Go.WideShapes

def noM : Nat → Prop := fun _ => False
theorem rd_of_sl {w : World} {A : Option Addr} {n c k : Nat} {cs : List Value} (h : Sl [] w A n c k cs) (h1 : ∀ u ∈ cs, u.oneCell' = true) : Rd noM w (.l k (cs.map .v)) (.slice A n c) := by
  rcases Nat.eq_zero_or_pos n with h0 | h0
  · subst h0
    have : cs = [] := List.eq_nil_of_length_eq_zero (by rw [h.len]; simp)
    subst this
    exact .e _ _ _
  · obtain ⟨b, off, rfl, _, hb, hc⟩ := h.at_ h0
    refine .l k _ b off n c (fun j => (cs[j]?).getD undef) (by rw [List.length_map]; exact h.len) h0 h.cap (fun h => h) hb (fun j t hj => ?_) (fun j t hj => ?_)
    · rw [List.getElem?_map, Option.map_eq_some_iff] at hj
      obtain ⟨u, hu, rfl⟩ := hj
      rw [hu]; exact hc j u hu
    · rw [List.getElem?_map, Option.map_eq_some_iff] at hj
      obtain ⟨u, hu, rfl⟩ := hj
      rw [hu]
      exact .v u (h1 u (List.mem_of_getElem? hu))
theorem tv_ints : ∀ xs : List Int, (xs.flatMap ci).map Tr.v = tInts xs
  | [] => rfl
  | x :: r => by
    show Tr.v (.int .i64 x) :: (r.flatMap ci).map Tr.v = Tr.v (.int .i64 x) :: tInts r
    rw [tv_ints r]
theorem flat_cv : ∀ vs : List Value, vs.flatMap cv = vs
  | [] => rfl
  | v :: r => by
    show v :: r.flatMap cv = v :: r
    rw [flat_cv r]
theorem rd_of_ints {w : World} {A : Option Addr} {n c : Nat} {xs : List Int} (h : Ints [] w A n c xs) : Rd noM w (.l 1 (tInts xs)) (.slice A n c) := by
  have := rd_of_sl h.sl (by
    intro u hu
    obtain ⟨x, _, hx⟩ := List.mem_flatMap.1 hu
    simp [ci] at hx
    subst hx; rfl)
  rwa [tv_ints] at this
theorem rd_of_arcs {w : World} {A : Option Addr} {n c : Nat} {xs : List (Int × Int)} (h : Pairs [] w A n c xs) : Rd noM w (.l 2 (tArcs xs)) (.slice A n c) := by
  have := rd_of_sl h.sl (by
    intro u hu
    obtain ⟨x, _, hx⟩ := List.mem_flatMap.1 hu
    simp [cp] at hx
    rcases hx with rfl | rfl <;> rfl)
  have e : (xs.flatMap cp).map Tr.v = tArcs xs := by simp [tArcs, List.map_flatMap, cp]
  rwa [e] at this
theorem rd_of_ll {α : Type} {f : α → List Value} {k : Nat} {tr : List α → List Tr} {w : World} {A : Option Addr} {n c : Nat} {rs : List (List α)} (h : Ll f k [] w A n c rs)
    (hf : ∀ {A : Option Addr} {n c : Nat} {xs : List α}, Ls f k [] w A n c xs → Rd noM w (.l k (tr xs)) (.slice A n c)) : Rd noM w (.l 1 (rs.map fun r => .l k (tr r))) (.slice A n c) := by
  obtain ⟨vs, h1, h2⟩ := h.ex
  have hl : rs.length = n := by rw [← h2.1]; exact h1.n_eq
  rcases Nat.eq_zero_or_pos n with h0 | h0
  · subst h0
    have : rs = [] := List.eq_nil_of_length_eq_zero hl
    subst this
    exact .e _ _ _
  · obtain ⟨b, off, rfl, _, hb, hc⟩ := h1.sl.at_ h0
    have hcv : ∀ j v, vs[j]? = some v → w.cell? ⟨b, off + j, none⟩ = some v := fun j v hv => by
      refine hc j v ?_
      rw [flat_cv]; exact hv
    refine .l 1 _ b off n c (fun j => (vs[j]?).getD undef) (by simp [hl]) h0 h1.sl.cap (fun h => h) hb (fun j t hj => ?_) (fun j t hj => ?_)
    · rw [List.getElem?_map, Option.map_eq_some_iff] at hj
      obtain ⟨r, hr, rfl⟩ := hj
      obtain ⟨v, hv, _⟩ := h2.get' hr
      rw [hv]; exact hcv j v hv
    · rw [List.getElem?_map, Option.map_eq_some_iff] at hj
      obtain ⟨r, hr, rfl⟩ := hj
      obtain ⟨v, hv, A, n', c', e, hx⟩ := h2.get' hr
      rw [hv, e]
      exact hf hx
theorem rd_of_rows {w : World} {A : Option Addr} {n c : Nat} {R : List (List (Int × Int))} (h : Ll cp 2 [] w A n c R) : Rd noM w (.l 1 (tRows R)) (.slice A n c) := rd_of_ll h rd_of_arcs

variable {H : Type} {enc : TypeId × Value → H}
/-- a list of numbers that came in -/
theorem ints_tr {P : Program} {w : World} {t e : TypeId} {fuel : Nat} {v : Value} {x : DataW H × List MemPlace} (ht : P.underlying t = some (.slice e)) (he : P.underlying e = some (.int .i64)) (hc : P.cellsOf e = 1) (h : DataW.trod enc P w 0 (fun _ => true) true fuel t [v] = some x) :
    ∃ zs, Rd noM w (.l 1 (tInts zs)) v ∧ zs.length ≤ 9223372036854775807 ∧ ∀ y ∈ zs, in64 y := by
  rcases open_ints ht he hc h with ⟨hcs, _⟩ | ⟨a, l, c, zs, hcs, _, hl, hm, hz, _, hcell, hwz⟩
  · simp at hcs; subst hcs
    exact ⟨[], .e _ _ _, by simp, by simp⟩
  · simp at hcs; subst hcs
    have hzl : zs.length = c := by simpa using hz
    simp only [maxLen] at hm
    refine ⟨zs.take l, ?_, by simp; omega, fun y hy => ?_⟩
    · rcases Nat.eq_zero_or_pos l with h0 | h0
      · subst h0; exact .e _ _ _
      · have hX0 := hcell 0 (by omega)
        simp [Addr.add] at hX0
        obtain ⟨hsp, hlt⟩ := cell_lt hX0
        obtain ⟨b, off, rfl⟩ : ∃ b off, a = ⟨b, off, none⟩ := ⟨a.block, a.off, by cases a; simp at hsp; subst hsp; rfl⟩
        have hadd : ∀ q, (⟨b, off, none⟩ : Addr).add q = ⟨b, off + q, none⟩ := fun q => by unfold Addr.add; split <;> simp_all
        refine .l 1 _ b off l c (fun j => .int .i64 (zs.getD j 0)) (by simp [tInts]; omega) h0 hl (fun h => h) hlt (fun j t hj => ?_) (fun j t hj => ?_)
        · have hj2 : j < l := by
            have := (List.getElem?_eq_some_iff.1 hj).1
            simp [tInts] at this; omega
          rw [← hadd]; exact hcell j (by omega)
        · have hj2 : j < l := by
            have := (List.getElem?_eq_some_iff.1 hj).1
            simp [tInts] at this; omega
          simp only [tInts, List.getElem?_map, List.getElem?_take, if_pos hj2] at hj
          rw [List.getElem?_eq_getElem (by omega)] at hj
          simp at hj
          subst hj
          rw [List.getD, List.getElem?_eq_getElem (by omega)]
          exact .v _ rfl
    · have := hwz y (List.mem_of_mem_take hy)
      have h2 : -9223372036854775808 ≤ y ∧ y ≤ 9223372036854775807 := by simpa [Lit.wf, IntKind.min, IntKind.max, IntKind.signed, IntKind.bits] using this
      exact ⟨h2.1, by omega⟩
/-- a list of lists of numbers that came in -/
theorem sets_tr {P : Program} {w : World} {T t e : TypeId} {fuel : Nat} {v : Value} {x : DataW H × List MemPlace} (hT : P.underlying T = some (.slice t)) (hct : P.cellsOf t = 1) (ht : P.underlying t = some (.slice e)) (he : P.underlying e = some (.int .i64)) (hc : P.cellsOf e = 1) (h : DataW.trod enc P w 0 (fun _ => true) true fuel T [v] = some x) :
    ∃ L : List (List Int), Rd noM w (.l 1 (tSets L)) v ∧ L.length ≤ 9223372036854775807 ∧ ∀ s ∈ L, s.length ≤ 9223372036854775807 ∧ ∀ y ∈ s, in64 y := by
  rcases open_slice1 hT hct h with ⟨hcs, _⟩ | ⟨a, len, cap, m, n, V, D, Pl, hcs, _, hl, hm, hmm, hxe, hx⟩
  · simp at hcs; subst hcs
    exact ⟨[], .e _ _ _, by simp, by simp⟩
  · simp at hcs; subst hcs
    simp at hmm
    subst hmm
    simp only [maxLen] at hm
    obtain ⟨L, hrl, hrs⟩ := choose_list (α := List Int) (p := fun q r => Rd noM w (.l 1 (tInts r)) (V q) ∧ r.length ≤ 9223372036854775807 ∧ ∀ y ∈ r, in64 y) len (fun q hq => ints_tr ht he hc (hx q (by omega)).2)
    refine ⟨L, ?_, by omega, fun r hr => by obtain ⟨q, hq⟩ := List.getElem?_of_mem hr; exact (hrs q r hq).2⟩
    rcases Nat.eq_zero_or_pos len with h0 | h0
    · subst h0
      have : L = [] := List.length_eq_zero_iff.1 hrl
      subst this
      exact .e _ _ _
    · obtain ⟨hX0, _⟩ := hx 0 (by omega)
      simp [Addr.add] at hX0
      obtain ⟨hsp, hlt⟩ := cell_lt hX0
      obtain ⟨b, off, rfl⟩ : ∃ b off, a = ⟨b, off, none⟩ := ⟨a.block, a.off, by cases a; simp at hsp; subst hsp; rfl⟩
      have hadd : ∀ q, (⟨b, off, none⟩ : Addr).add q = ⟨b, off + q, none⟩ := fun q => by unfold Addr.add; split <;> simp_all
      refine .l 1 _ b off len m V (by simp [tSets]; omega) h0 hl (fun h => h) hlt (fun j t hj => ?_) (fun j t hj => ?_)
      · have hj2 : j < len := by
          have := (List.getElem?_eq_some_iff.1 hj).1
          simp [tSets] at this; omega
        rw [← hadd]; exact (hx j (by omega)).1
      · simp only [tSets, List.getElem?_map, Option.map_eq_some_iff] at hj
        obtain ⟨r, hr, rfl⟩ := hj
        exact (hrs j r hr).1

/-- a law's contract, where it is called from outside -/
theorem law_calls {P : Program} {f : FuncId} {args : List AV} (h : FC P f args [] (fun r _ => r = .b true)) (W : World) (vals : List Value) (hl : vals.length = args.length)
    (ha : ∀ (i : Nat) (x : AV), args[i]? = some x → ∃ v, vals[i]? = some v ∧ ∀ g : Gh, g.M = noM → AVR (CR g [] W) x v) : Calls P f vals.toArray W fun e W' => e = .returned (.bool true) ∧ Fr [] W W' := by
  let g : Gh := ⟨fun _ => 0, fun _ => 0, noM⟩
  have lv : ∀ ℓ, ¬ Lv [] g ℓ := by
    intro ℓ hl
    cases ℓ with
    | ob i => rcases hl with ⟨r, e, _⟩ | ⟨kv, e⟩ <;> simp at e
    | cl i j => obtain ⟨r, k, cs, e, _⟩ := hl; simp at e
  have hr : HR g [] W := ⟨fun b hb => hb.elim, fun ℓ hl => (lv ℓ hl).elim, fun ℓ _ hl _ _ => (lv ℓ hl).elim, fun id r e => by simp at e, fun id kv e => by simp at e⟩
  refine (h g W vals hr ⟨hl, fun i x hx => by obtain ⟨v, h1, h2⟩ := ha i x hx; exact ⟨v, h1, h2 g rfl⟩⟩).mono ?_
  rintro e W' ⟨v, r, outs, g', rfl, rfl, _, _, _, hv, hf⟩
  exact ⟨by rw [show v = .bool true from hv], hf.fr fun k _ ⟨ℓ, hl, _⟩ => (lv ℓ hl).elim⟩
theorem ow_none {g : Gh} (h : g.M = noM) {b : Nat} : ¬ Ow [] g b := by
  rintro (ho | ⟨ℓ, hl, _⟩)
  · rw [h] at ho; exact ho
  · cases ℓ with
    | ob i => rcases hl with ⟨r, e, _⟩ | ⟨kv, e⟩ <;> simp at e
    | cl i j => obtain ⟨r, k, cs, e, _⟩ := hl; simp at e
theorem avr_tr {g : Gh} {W : World} {k : Nat} {cs : List Tr} {v : Value} (h : Rd noM W (.l k cs) v) (hg : g.M = noM) : AVR (CR g [] W) (.a (.c (.t k cs))) v := h.mono fun _ _ ho => absurd ho (ow_none hg)
theorem own_ : ownKnob Tryz.prog.godebug = none := by kernel_rfl
theorem laidOut_ : laidOutB Tryz.prog = true := by kernel_rfl
end Go.Proofs.YtfjfllpcflddmaaGreat
