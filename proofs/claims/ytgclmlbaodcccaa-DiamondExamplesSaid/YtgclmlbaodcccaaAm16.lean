/- The abstract machine: regions that draw their order. -/
import Derived.Test.YtgclmlbaodcccaaAm15
import Derived.Test.YtgclmlbaodcccaaRegn
namespace Go.Proofs.Ytgclmlbaodcccaa
set_option linter.unusedVariables false
set_option linter.unusedSimpArgs false
open Go.RowKit

section
variable {P : Program} {ops : Array Oper} {Q : Exit → Act → World → Prop} {md : Region.Mode} {S : World → Prop} {stop : Nat}
/-- the walk in one order: (number, kind: 0 computes, 1 loads, else acts); past: the first operation that may write has come up -/
def wpU (P : Program) (ops : Array Oper) (Q : Exit → Act → World → Prop) (S : World → Prop) (stop : Nat) : Bool → List (Nat × Nat) → Act → World → Prop
  | _, [], a, w => Q .normal a w
  | past, (i, 0) :: rest, a, w => ∃ oi v, ops[i]? = some oi ∧ YieldsIf P ops (fun _ => True) oi v a ∧ wpU P ops Q S stop past rest (a.put oi.dst v) w
  | past, (i, 1) :: rest, a, w => ∃ oi v, ops[i]? = some oi ∧ YieldsIf P ops S oi v a ∧ wpU P ops Q S stop past rest (a.put oi.dst v) w
  | past, (i, _) :: rest, a, w => wpOp P ops Q i (fun a' w' => ((past || i == stop) = true ∨ S w') ∧ wpU P ops Q S stop (past || i == stop) rest a' w') a w
def chkU (md : Region.Mode) (ops : Array Oper) (stop : Nat) : List (Nat × Nat) → Array Bool → Bool
  | [], listed => (Region.ready md ops listed).isEmpty
  | (i, 0) :: rest, listed => Region.free md ops listed i && (Region.ready md ops listed).contains i && i != stop && chkU md ops stop rest (listed.setIfInBounds i true)
  | (i, 1) :: rest, listed => Region.free md ops listed i && (Region.ready md ops listed).contains i && (depsOf md ops ops.size stop).contains i && i != stop && chkU md ops stop rest (listed.setIfInBounds i true)
  | (i, _) :: rest, listed => (Region.ready md ops listed == [i]) && decide (i < listed.size) && chkU md ops stop rest (listed.setIfInBounds i true)
theorem wpAnyP_first' {i : Nat} {oi : Oper} {v : Value} {S1 : World → Prop} (hi : ops[i]? = some oi) (hsel : ∀ (j : Nat) (o : Oper) cs b, ops[j]? = some o → o.op ≠ .select cs b)
    (hQ : ∀ c (a : Act) (d : Option Tmp) (v : Value) w, Q (.panic c) (a.put d v) w → Q (.panic c) a w) (hst : i ≠ stop)
    (hS : ∀ (listed : Array Bool) (w : World), Closed md ops listed → i ∈ Region.ready md ops listed → Ph S stop listed w → S1 w) :
    ∀ (fuel : Nat) (listed : Array Bool) (a : Act) (w : World), Closed md ops listed →
      (∀ j oj, ops[j]? = some oj → j ≠ i → listed.getD j true = false → (∀ e ∈ oj.after, Region.binds md e = true → e.on ≠ i) → oi.apart ops oj = true) →
      i ∈ Region.ready md ops listed → YieldsIf P ops S1 oi v a → Ph S stop listed w →
      wpAnyP P md ops Q S stop fuel (listed.setIfInBounds i true) (a.put oi.dst v) w → wpAnyP P md ops Q S stop (fuel + 1) listed a w := by
  have hPh : ∀ (listed : Array Bool) (w : World), Ph S stop (listed.setIfInBounds i true) w → Ph S stop listed w := by
    intro listed w h
    rcases h with h | h
    · left; rwa [getD_set_ne false hst] at h
    · exact .inr h
  have hPh' : ∀ (listed : Array Bool) (w : World), Ph S stop listed w → Ph S stop (listed.setIfInBounds i true) w := by
    intro listed w h
    rcases h with h | h
    · left; rwa [getD_set_ne false hst]
    · exact .inr h
  intro fuel
  induction fuel with
  | zero =>
    intro listed a w hcl _ hr hy hp H
    refine ⟨fun h => (by rw [h] at hr; cases hr), fun j hj => ?_⟩
    by_cases hji : j = i
    · subst hji; exact hy.wpOp hi (hS listed w hcl hr hp) ⟨hPh' _ _ hp, H⟩
    · have := ready_mono hj hji
      rw [H.1] at this
      cases this
  | succ fuel ih =>
    intro listed a w hcl hfree hr hy hp H
    refine ⟨fun h => (by rw [h] at hr; cases hr), fun j hj => ?_⟩
    by_cases hji : j = i
    · subst hji; exact hy.wpOp hi (hS listed w hcl hr hp) ⟨hPh' _ _ hp, H⟩
    · have h1 := H.2 j (ready_mono hj hji)
      obtain ⟨hjun, oj, hoj, hall⟩ := mem_ready.1 hj
      have hnot : ∀ e ∈ oj.after, Region.binds md e = true → e.on ≠ i := fun e he hb heq => by
        have h1 := hall e he hb
        rw [heq, getD_ft (mem_ready.1 hr).1] at h1
        cases h1
      have h2 := wpOp_putIf hoj (hfree j oj hoj hji hjun hnot) (fun cs b => hsel i oi cs b hi) (fun cs b => hsel j oj cs b hoj) (fun c a w h => hQ c a _ _ w h) hy h1
      have hfree' : ∀ k ok, ops[k]? = some ok → k ≠ i → (listed.setIfInBounds j true).getD k true = false →
          (∀ e ∈ ok.after, Region.binds md e = true → e.on ≠ i) → oi.apart ops ok = true := fun k ok hk hki hun hno => by
        refine hfree k ok hk hki ?_ hno
        by_cases hjk : j = k
        · subst hjk; exact hjun
        · rw [getD_set_ne true hjk] at hun; exact hun
      refine wpOp_mono (fun a' w' h3 => ?_) h2
      have hc := h3.2.1
      rw [Array.setIfInBounds_comm _ _ (Ne.symm hji)] at hc
      have hp' := hPh _ _ hc
      refine ⟨hp', ih (listed.setIfInBounds j true) a' w' (hcl.step hj) hfree' (ready_mono hr (Ne.symm hji)) h3.1 hp' ?_⟩
      rw [Array.setIfInBounds_comm _ _ hji]
      exact h3.2.2
theorem wpAnyP_of_U (hs : Region.noSelect ops = true) (hQ : ∀ c (a : Act) (d : Option Tmp) (v : Value) w, Q (.panic c) (a.put d v) w → Q (.panic c) a w) :
    ∀ (l : List (Nat × Nat)) (past : Bool) (listed : Array Bool) (a : Act) (w : World), Closed md ops listed → chkU md ops stop l listed = true → (past = true → listed.getD stop false = true) → Ph S stop listed w → wpU P ops Q S stop past l a w → wpAnyP P md ops Q S stop l.length listed a w
  | [], past, listed, a, w, _, hc, _, _, h => by
    simp only [chkU, List.isEmpty_iff] at hc
    exact ⟨hc, h⟩
  | (i, 0) :: rest, past, listed, a, w, hcl, hc, hpast, hp, h => by
    simp only [chkU, Bool.and_eq_true, bne_iff_ne, ne_eq, List.contains_eq_mem, decide_eq_true_eq] at hc
    obtain ⟨⟨⟨hf, hr⟩, hne⟩, hrest⟩ := hc
    obtain ⟨oi, v, hi, hy, hT⟩ := h
    have hp' : Ph S stop (listed.setIfInBounds i true) w := by
      rcases hp with hp | hp
      · left; rwa [getD_set_ne false hne]
      · exact .inr hp
    exact wpAnyP_first' (S1 := fun _ => True) hi (Region.noSelect_spec hs) hQ hne (fun _ _ _ _ _ => trivial) rest.length listed a w hcl (Region.free_spec hi hf) hr hy hp
      (wpAnyP_of_U hs hQ rest past _ _ w (hcl.step hr) hrest (fun e => by rw [getD_set_ne false hne]; exact hpast e) hp' hT)
  | (i, 1) :: rest, past, listed, a, w, hcl, hc, hpast, hp, h => by
    simp only [chkU, Bool.and_eq_true, bne_iff_ne, ne_eq, List.contains_eq_mem, decide_eq_true_eq] at hc
    obtain ⟨⟨⟨⟨hf, hr⟩, hd⟩, hne⟩, hrest⟩ := hc
    obtain ⟨oi, v, hi, hy, hT⟩ := h
    have hp' : Ph S stop (listed.setIfInBounds i true) w := by
      rcases hp with hp | hp
      · left; rwa [getD_set_ne false hne]
      · exact .inr hp
    refine wpAnyP_first' (S1 := S) hi (Region.noSelect_spec hs) hQ hne ?_ rest.length listed a w hcl (Region.free_spec hi hf) hr hy hp
      (wpAnyP_of_U hs hQ rest past _ _ w (hcl.step hr) hrest (fun e => by rw [getD_set_ne false hne]; exact hpast e) hp' hT)
    intro listed w hcl hr hp
    rcases hp with hp | hp
    · have h1 := hcl.deps ops.size stop hp i hd
      rw [getD_ft (mem_ready.1 hr).1] at h1
      cases h1
    · exact hp
  | (i, k + 2) :: rest, past, listed, a, w, hcl, hc, hpast, hp, h => by
    simp only [chkU, Bool.and_eq_true, beq_iff_eq, decide_eq_true_eq] at hc
    obtain ⟨⟨hr, hlt⟩, hrest⟩ := hc
    refine ⟨fun h0 => absurd (h0 ▸ hr) (by simp), fun j hj => ?_⟩
    have hji : j = i := by rw [hr] at hj; simpa using hj
    subst hji
    have h : wpOp P ops Q j (fun a' w' => ((past || j == stop) = true ∨ S w') ∧ wpU P ops Q S stop (past || j == stop) rest a' w') a w := h
    have hpast' : (past || j == stop) = true → (listed.setIfInBounds j true).getD stop false = true := by
      intro e
      simp only [Bool.or_eq_true, beq_iff_eq] at e
      rcases e with e | e
      · by_cases hjs : j = stop
        · subst hjs; simp [hlt]
        · rw [getD_set_ne false hjs]; exact hpast e
      · subst e; simp [hlt]
    refine wpOp_mono (fun a' w' h' => ?_) h
    have hp' : Ph S stop (listed.setIfInBounds j true) w' := by
      rcases h'.1 with h0 | h0
      · exact .inl (hpast' h0)
      · exact .inr h0
    exact ⟨hp', wpAnyP_of_U hs hQ rest _ _ a' w' (hcl.step hj) hrest hpast' hp' h'.2⟩
theorem wp_region_U {id : Nat} {a : Act} {w : World} (S : World → Prop) (stop : Nat) (l : List (Nat × Nat)) (hm : P.follows .mixedOrders = true)
    (hs : (Region.noSelect ops && chkU .any ops stop l (Array.replicate ops.size false) && (l.length == ops.size)) = true)
    (hQ : ∀ c (a : Act) (d : Option Tmp) (v : Value) w, Q (.panic c) (a.put d v) w → Q (.panic c) a w) (hS : S w.drew) (h : wpU P ops Q S stop false l a w.drew) : (Code.region id ops true).wp P Q a w := by
  simp only [Bool.and_eq_true, beq_iff_eq] at hs
  obtain ⟨⟨hs, hc⟩, hl⟩ := hs
  refine wp_region_any hm (wpAny_of_P (S := S) (stop := stop) _ _ _ _ ?_)
  rw [← hl]
  refine wpAnyP_of_U hs hQ l false _ a w.drew ?_ (by rw [hl]; exact hc) (by simp) (.inr hS) h
  intro j o hj hlist
  exfalso
  simp [Array.getElem?_replicate] at hlist
  split at hlist <;> simp at hlist
end

/-! .. abstractly -/
/-- an operation that leaves all old blocks as they are -/
def StpF (P : Program) (o : Oper) (st : ST) (K : ST → Prop) : Prop :=
  ∀ (M0 : Fm) (w0 : World) (a : Act) (w : World) (N : Act → World → Prop) (Q : Exit → Act → World → Prop), Rel M0 w0 st a w → (∀ st' a' w', K st' → Rel M0 w0 st' a' w' → Fp (fun _ => False) w w' → N a' w') → o.wp P a w N Q
/-- the operations of a region that draws, in this order; eff: an operation that acts has come up; past: one that may write -/
def LstU (P : Program) (ops : Array Oper) (stop : Nat) (eff past : Bool) (l : List (Nat × Nat)) (st : ST) (K : ST → Prop) : Prop :=
  ∀ (M0 : Fm) (w0 : World) (a : Act) (w w1 : World) (Q : Exit → Act → World → Prop), (eff = false → w = w1) → (past = false → Fp (fun _ => False) w1 w) → Rel M0 w0 st a w → (∀ st' a' w', K st' → Rel M0 w0 st' a' w' → Q .normal a' w') →
    wpU P ops Q (fun W => Fp (fun _ => False) w1 W) stop past l a w
section
variable {P : Program} {ops : Array Oper} {o : Oper} {st : ST} {K : ST → Prop} {stop i : Nat} {eff past : Bool} {rest : List (Nat × Nat)}
theorem u_nil (h : K st) : LstU P ops stop eff past [] st K := fun _ _ _ _ _ _ _ _ hR hN => hN _ _ _ h hR
theorem u_d (hi : ops[i]? = some o) (hg : o.guard = none) (hd : dok o st.n = true) (h : ∀ K' : ST → Prop, (∀ st', LstU P ops stop eff past rest st' K → K' st') → evD P o st K') : LstU P ops stop eff past ((i, 0) :: rest) st K := by
  intro M0 w0 a w w1 Q he hp hR hN
  have h := h (fun st' => LstU P ops stop eff past rest st' K) (fun _ h => h)
  obtain ⟨g, hpp, hR⟩ := hR
  unfold evD at h
  split at h
  · rename_i c x hop
    obtain ⟨v, h1, h2⟩ := d_sound (P := P) (ρ := a.eval) (ev := st.ev) hR.ev hop h.1
    exact ⟨o, v, hi, .inl ⟨by simp [Region.wanted, hg], fun W _ => h1 W⟩, h.2 M0 w0 _ w w1 Q he hp ⟨g, by cases o.dst <;> exact hpp, hR.put (dok_lt hd) h2⟩ hN⟩
  · exact h.elim
theorem u_l (hi : ops[i]? = some o) (hg : o.guard = none) (hd : dok o st.n = true) (h : ∀ K' : ST → Prop, (∀ st', LstU P ops stop false past rest st' K → K' st') → evL P o st K') : LstU P ops stop false past ((i, 1) :: rest) st K := by
  intro M0 w0 a w w1 Q he hp hR hN
  have h := h (fun st' => LstU P ops stop false past rest st' K) (fun _ h => h)
  obtain ⟨g, hpp, hR⟩ := hR
  unfold evL at h
  split at h
  · rename_i c x hop
    obtain ⟨v, h1, h2⟩ := l_sound (P := P) hR.hr hR.ev hop h.1
    have hw := he rfl
    subst hw
    exact ⟨o, v, hi, .inl ⟨by simp [Region.wanted, hg], fun W hW => h1 W hW⟩, h.2 M0 w0 _ w w Q he hp ⟨g, by cases o.dst <;> exact hpp, hR.put (dok_lt hd) h2⟩ hN⟩
  · exact h.elim
/-- an operation that acts, before the first that may write -/
theorem u_e {k : Nat} (hi : ops[i]? = some o) (hg : o.guard = none) (hns : (i == stop) = false) (h : ∀ K' : ST → Prop, (∀ st', LstU P ops stop true false rest st' K → K' st') → StpF P o st K') : LstU P ops stop eff false ((i, k + 2) :: rest) st K := by
  intro M0 w0 a w w1 Q he hp hR hN
  show wpOp P ops Q i _ a w
  unfold wpOp
  rw [hi]
  simp only [Region.wanted, hg, if_true, hns, Bool.or_false]
  refine .inl (h (fun st' => LstU P ops stop true false rest st' K) (fun _ h => h) M0 w0 a w _ Q hR fun st' a' w' h1 h2 h3 => ?_)
  have hx := (hp rfl).trans h3
  exact ⟨.inr hx, h1 M0 w0 a' w' w1 Q (by simp) (fun _ => hx) h2 hN⟩
/-- the first that may write, and what comes after it -/
theorem u_w {k : Nat} (hi : ops[i]? = some o) (hg : o.guard = none) (hns : (past || i == stop) = true) (h : ∀ K' : ST → Prop, (∀ st', LstU P ops stop true true rest st' K → K' st') → Stp P o st K') : LstU P ops stop eff past ((i, k + 2) :: rest) st K := by
  intro M0 w0 a w w1 Q he hp hR hN
  show wpOp P ops Q i _ a w
  unfold wpOp
  rw [hi]
  simp only [Region.wanted, hg, if_true, hns]
  exact .inl (h (fun st' => LstU P ops stop true true rest st' K) (fun _ h => h) M0 w0 a w _ Q hR fun st' a' w' h1 h2 => ⟨.inl trivial, h1 M0 w0 a' w' w1 Q (by simp) (by simp) h2 hN⟩)
theorem Rel.drew {M0 : Fm} {w0 w : World} {st : ST} {a : Act} (h : Rel M0 w0 st a w) : Rel M0 w0 st a w.drew := by
  obtain ⟨g, hpp, hR⟩ := h
  have hm : Mo g st.hp w g st.hp w.drew (fun _ => True) := ⟨fun i hi => ⟨hi, rfl, rfl⟩, fun _ _ h => h, Nat.le_refl _, fun _ _ _ => rfl, fun i _ _ r' j k cs e1 e2 => ⟨r', e1, e2, fun _ => rfl⟩⟩
  refine ⟨g, hpp, ?_⟩
  have := hR.mo (hp' := st.hp) hm ⟨hR.hr.ml, hR.hr.md, hR.hr.inj, fun id r e => RowR.mo hm e (hR.hr.row id r e) (fun _ => rfl) (fun _ _ _ _ _ => ⟨rfl, rfl⟩), fun id kv e => MpR.mo hm e (hR.hr.mp id kv e) rfl⟩ hR.new (hR.fp.trans (Fp.drew _ _))
  exact this
theorem aw_regionU {Q : Exit → ST → Prop} {id : Nat} {l : List Oper} (stop : Nat) (ks : List (Nat × Nat)) (hm : P.follows .mixedOrders = true)
    (hs : (Region.noSelect l.toArray && chkU .any l.toArray stop ks (Array.replicate l.toArray.size false) && (ks.length == l.toArray.size)) = true)
    (hQ : ∀ c st, ¬ Q (.panic c) st) (h : LstU P l.toArray stop false false ks st (Q .normal)) : AW P (.region id l.toArray true) st Q := by
  intro M0 w0 a w hR
  refine wp_region_U (fun W => Fp (fun _ => False) w.drew W) stop ks hm hs (fun c a d v w ⟨st', _, h⟩ => (hQ c st' h).elim) (Fp.refl _ _) ?_
  exact h M0 w0 a w.drew w.drew _ (fun _ => rfl) (fun _ => Fp.refl _ _) hR.drew fun st' a' w' h1 h2 => ⟨st', h2, h1⟩
theorem stpF_a (hd : dok o st.n = true) (h : evA P o st K) : StpF P o st K := by
  intro M0 w0 a w N Q hR hN
  obtain ⟨g, ⟨hp1, hp2⟩, hR⟩ := hR
  unfold evA at h
  split at h
  · rename_i c ob f hop
    obtain ⟨v, w', h1, g', hx, hx2, h2, h3⟩ := a_sound (P := P) hR hop h.1
    unfold Oper.wp
    rw [h1]
    exact hN _ _ _ h.2 ⟨g', ⟨by cases o.dst <;> (simp [ST.put]; omega), by cases o.dst <;> exact hp2.trans (hx.le hp1)⟩, h2.put (dok_lt hd) h3⟩ hx2
  · exact h.elim
theorem StpC.stpF (h : StpC P o st K True) : StpF P o st K := fun M0 w0 a w N Q hR hN => h M0 w0 a w N Q hR fun st' a' w' h1 h2 h3 => hN st' a' w' h1 h2 (h3 trivial)
end
/-! the builtin clear, at a window -/
theorem setC_tail (cs zs : List C) (off : Nat) : (setC cs off zs).take off = cs.take off := by
  induction zs generalizing cs off with
  | nil => rfl
  | cons x r ih =>
    simp only [setC]
    have h := ih (cs.set off x) (off + 1)
    have h2 : (setC (cs.set off x) (off + 1) r).take off = (cs.set off x).take off := by
      have := congrArg (List.take off) h
      rwa [List.take_take, List.take_take, Nat.min_eq_left (by omega)] at this
    rw [h2, List.take_set_of_le (Nat.le_refl _)]
theorem stp_clear {P : Program} {o : Oper} {st : ST} {K : ST → Prop} {t e : TypeId} {x : Operand} {z : Ty} {id off n k : Nat} {r : Row} (hd : dok o st.n = true) (ho : o.op = .call ⟨.builtin .clear, #[x], #[t]⟩) (ht : P.underlying t = some (.slice e)) (hz : tyOf P e = some z)
    (hx : st.ev x = .a (.c (.w id off n k))) (hrow : st.hp[id]? = some (.r r)) (hn : 0 < n) (hlen : z.zero.length = k) (hone : (z.zero.map C.v).all C.one = true) (hfit : off * k + n * k ≤ r.cells.length)
    (h : ∀ zs : List C, zs.length = n * k → (∀ c ∈ zs, c ∈ z.zero.map C.v) → K ({ st with hp := st.hp.set id (.r { r with cells := setC r.cells (off * k) zs }) }.put o.dst .u)) : Stp P o st K := by
  intro M0 w0 a w N Q hR hN
  obtain ⟨g, ⟨hp1, hp2⟩, hR⟩ := hR
  have hv := hR.ev x
  rw [hx] at hv
  obtain ⟨b1, b2, b3, b4⟩ := hv
  obtain ⟨zv, z1, z2⟩ := tyOf.zero hz w
  have hzs : zv.cells.size = k := by rw [← hlen, ← z2]; simp
  let us := (Builtin.zeroCells zv.cells n).toList
  have hul : us.length = n * k := by simp [us, size_zeroCells, hzs]
  have hum : ∀ u ∈ us, u ∈ z.zero := by
    intro u hu
    have hu' : u ∈ Builtin.zeroCells zv.cells n := by simpa [us] using hu
    simp only [Builtin.zeroCells, Array.mem_map, Array.mem_range] at hu'
    obtain ⟨i, hi, rfl⟩ := hu'
    by_cases hk : k = 0
    · rw [hzs, hk] at hi; simp at hi
    · have hm : i % zv.cells.size < zv.cells.size := Nat.mod_lt _ (by omega)
      rw [← z2]
      simp [hm]
  have hcm : ∀ c ∈ us.map C.v, c ∈ z.zero.map C.v := by
    intro c hc
    obtain ⟨u, hu, rfl⟩ := List.mem_map.1 hc
    exact List.mem_map.2 ⟨u, hum u hu, rfl⟩
  obtain ⟨w', r1, r2⟩ := run_storeCells_rel (P := P) (off := off * k) (by omega) (us.map C.v) us 0 st w r hR hrow
    ⟨by simp, fun i c hc => by
      rw [List.getElem?_map, Option.map_eq_some_iff] at hc
      obtain ⟨u, hu, rfl⟩ := hc
      exact ⟨u, hu, rfl⟩⟩
    (by rw [List.all_eq_true] at hone ⊢; exact fun c hc => hone c (hcm c hc)) (by simp only [List.length_map, hul]; omega)
  have hrun : (execOp a.eval o).run P w = .ok (.value (.tuple #[])) w' := by
    obtain ⟨m, rfl⟩ : ∃ m, n = m + 1 := ⟨n - 1, by omega⟩
    simp only [us] at r1
    unfold execOp
    simp only [ho, resolve, invoke, builtin, Sem.run_bind, Sem.run_pure, Result.andThen_ok, List.map_toArray, List.map_cons, List.map_nil, b4]
    simp [Builtin.clear_, run_underlying ht, z1, r1]
  unfold Oper.wp
  rw [hrun]
  exact hN _ _ _ (h (us.map C.v) (by simp [hul]) hcm) ⟨g, ⟨by cases o.dst <;> (simp [ST.put]; omega), by cases o.dst <;> exact hp2⟩, RelG.put (st := { st with hp := st.hp.set id (.r { r with cells := setC r.cells (off * k) (us.map C.v) }) }) r2 (dok_lt hd) trivial⟩
end Go.Proofs.Ytgclmlbaodcccaa
