/- The abstract machine: steps, regions, code. -/
import Derived.Test.YtgclmlbaodcccaaAm11
import Derived.Deep.LoopGhost
import Derived.Lib.LazyBuf
namespace Go.Proofs.Ytgclmlbaodcccaa
set_option linter.unusedVariables false
set_option linter.unusedSimpArgs false
open Go.RowKit

/-- what an operation does to states -/
def Stp (P : Program) (o : Oper) (st : ST) (K : ST → Prop) : Prop :=
  ∀ (M0 : Fm) (w0 : World) (a : Act) (w : World) (N : Act → World → Prop) (Q : Exit → Act → World → Prop), Rel M0 w0 st a w → (∀ st' a' w', K st' → Rel M0 w0 st' a' w' → N a' w') → o.wp P a w N Q
/-- .. and, where C holds, leaves all old blocks as they are -/
def StpC (P : Program) (o : Oper) (st : ST) (K : ST → Prop) (C : Prop) : Prop :=
  ∀ (M0 : Fm) (w0 : World) (a : Act) (w : World) (N : Act → World → Prop) (Q : Exit → Act → World → Prop), Rel M0 w0 st a w → (∀ st' a' w', K st' → Rel M0 w0 st' a' w' → (C → Fp (fun _ => False) w w') → N a' w') → o.wp P a w N Q
theorem StpC.stp {P : Program} {o : Oper} {st : ST} {K : ST → Prop} {C : Prop} (h : StpC P o st K C) : Stp P o st K := fun M0 w0 a w N Q hR hN => h M0 w0 a w N Q hR fun st' a' w' h1 h2 _ => hN st' a' w' h1 h2
def dok (o : Oper) (n : Nat) : Bool :=
  match o.dst with
  | some d => decide (d < n)
  | none => true
theorem dok_lt {o : Oper} {n : Nat} (h : dok o n = true) : ∀ e, o.dst = some e → e < n := by
  intro e he
  unfold dok at h
  rw [he] at h
  simpa using h
/-- the evaluator of one operation -/
def evD (P : Program) (o : Oper) (st : ST) (K : ST → Prop) : Prop :=
  match dOp P o.op st.ev with
  | some (c, x) => c ∧ K (st.put o.dst x)
  | none => False
def evL (P : Program) (o : Oper) (st : ST) (K : ST → Prop) : Prop :=
  match lOp P o.op st.ev st.hp with
  | some (c, x) => c ∧ K (st.put o.dst x)
  | none => False
def evA (P : Program) (o : Oper) (st : ST) (K : ST → Prop) : Prop :=
  match aOp P o.op st.ev with
  | some (c, ob, f) => c ∧ K ({ st with hp := st.hp ++ [ob] }.put o.dst (f st.hp.length))
  | none => False
def evS (P : Program) (o : Oper) (st : ST) (K : ST → Prop) (t : TypeId) (x v : Operand) : Prop :=
  match sOp P st.ev st.hp t x v with
  | some (c, hp') => c ∧ K ({ st with hp := hp' }.put o.dst .u)
  | none => False
def evAp (P : Program) (o : Oper) (st : ST) (K : ST → Prop) (cl : Call) : Prop :=
  match apOp P st.ev st.hp cl with
  | some (c, hp', x) => c ∧ K ({ st with hp := hp' }.put o.dst x)
  | none => False
section
variable {P : Program} {o : Oper} {st : ST} {K : ST → Prop}
theorem undef_u {g : Gh} {hp : List Ob} {w : World} {v : Value} : AVR (CR g hp w) .u v := trivial
theorem stp_d (hd : dok o st.n = true) (h : evD P o st K) : Stp P o st K := by
  intro M0 w0 a w N Q hR hN
  obtain ⟨g, ⟨hp1, hp2⟩, hR⟩ := hR
  unfold evD at h
  split at h
  · rename_i c x hop
    obtain ⟨v, h1, h2⟩ := d_sound (P := P) (ρ := a.eval) (ev := st.ev) hR.ev hop h.1
    unfold Oper.wp
    rw [h1 w]
    exact hN _ _ _ h.2 ⟨g, ⟨by cases o.dst <;> exact hp1, by cases o.dst <;> exact hp2⟩, hR.put (dok_lt hd) h2⟩
  · exact h.elim
theorem stp_l (hd : dok o st.n = true) (h : evL P o st K) : Stp P o st K := by
  intro M0 w0 a w N Q hR hN
  obtain ⟨g, ⟨hp1, hp2⟩, hR⟩ := hR
  unfold evL at h
  split at h
  · rename_i c x hop
    obtain ⟨v, h1, h2⟩ := l_sound (P := P) hR.hr hR.ev hop h.1
    unfold Oper.wp
    rw [h1 w (Fp.refl _ _)]
    exact hN _ _ _ h.2 ⟨g, ⟨by cases o.dst <;> exact hp1, by cases o.dst <;> exact hp2⟩, hR.put (dok_lt hd) h2⟩
  · exact h.elim
theorem stp_a (hd : dok o st.n = true) (h : evA P o st K) : Stp P o st K := by
  intro M0 w0 a w N Q hR hN
  obtain ⟨g, ⟨hp1, hp2⟩, hR⟩ := hR
  unfold evA at h
  split at h
  · rename_i c ob f hop
    obtain ⟨v, w', h1, g', hx, _, h2, h3⟩ := a_sound (P := P) hR hop h.1
    unfold Oper.wp
    rw [h1]
    exact hN _ _ _ h.2 ⟨g', ⟨by cases o.dst <;> (simp [ST.put]; omega), by cases o.dst <;> exact hp2.trans (hx.le hp1)⟩, h2.put (dok_lt hd) h3⟩
  · exact h.elim
theorem sOp_len {ev : Operand → AV} {hp hp' : List Ob} {t : TypeId} {x v : Operand} {c : Prop} (h : sOp P ev hp t x v = some (c, hp')) : hp'.length = hp.length := by
  unfold sOp at h
  split at h
  · split at h
    · simp only [Option.some.injEq, Prod.mk.injEq] at h
      rw [← h.2]; simp
    · cases h
  · cases h
theorem stp_s (hd : dok o st.n = true) {t : TypeId} {x v : Operand} (ho : o.op = .store t x v) (h : evS P o st K t x v) : Stp P o st K := by
  intro M0 w0 a w N Q hR hN
  obtain ⟨g, ⟨hp1, hp2⟩, hR⟩ := hR
  unfold evS at h
  split at h
  · rename_i c hp' hop
    obtain ⟨w', h1, h2⟩ := s_sound (P := P) hR ho hop h.1
    unfold Oper.wp
    rw [h1]
    exact hN _ _ _ h.2 ⟨g, ⟨by have := sOp_len hop; cases o.dst <;> (simp [ST.put]; omega), by cases o.dst <;> exact hp2⟩, h2.put (dok_lt hd) trivial⟩
  · exact h.elim
theorem stp_ap (hd : dok o st.n = true) {cl : Call} (ho : o.op = .call cl) (h : evAp P o st K cl) : Stp P o st K := by
  intro M0 w0 a w N Q hR hN
  obtain ⟨g, ⟨hp1, hp2⟩, hR⟩ := hR
  unfold evAp at h
  split at h
  · rename_i c hp' x hop
    obtain ⟨v, w', g', h1, h2, h3, h4, h5⟩ := ap_sound (P := P) hR ho hop h.1
    unfold Oper.wp
    rw [h1]
    exact hN _ _ _ h.2 ⟨g', ⟨by cases o.dst <;> (simp [ST.put]; omega), by cases o.dst <;> exact hp2.trans (h4.le hp1)⟩, h2.put (dok_lt hd) h3⟩
  · exact h.elim
/-- the evaluator -/
def ev1 (P : Program) (o : Oper) (st : ST) (K : ST → Prop) : Prop :=
  match o.op with
  | .load _ _ => evL P o st K
  | .box _ _ => evA P o st K
  | .alloc _ => evA P o st K
  | .buildSlice _ _ _ => evA P o st K
  | .makeSlice _ _ _ => evA P o st K
  | .makeMap _ _ => evA P o st K
  | .store t x v => evS P o st K t x v
  | .call cl => match cl.callee with
    | .builtin .append => evAp P o st K cl
    | .builtin .len => evD P o st K ∨ evL P o st K
    | .builtin _ => evD P o st K
    | _ => False
  | _ => evD P o st K
/-- is a slice nil? -/
theorem stp_nil (hd : dok o st.n = true) {op : BinOp} {t e yt : TypeId} {x : Operand} (ho : o.op = .binOp op t x (.const (.slice none 0 0)) yt) (ht : P.underlying t = some (.slice e)) (hop : op = .eql ∨ op = .neq)
    (h : (∃ k cs, st.ev x = .a (.c (.t k cs)) ∧ ∀ b : Bool, (b = true → cs = []) → K (st.put o.dst (.b (if op = .eql then b else !b)))) ∨ (∃ id n, st.ev x = .a (.c (.s id n)) ∧ ∀ b : Bool, (b = true → n = 0) → K (st.put o.dst (.b (if op = .eql then b else !b))))) : Stp P o st K := by
  intro M0 w0 a w N Q hR hN
  obtain ⟨g, hpp, hR⟩ := hR
  have hx := hR.ev x
  have fin : ∀ (A : Option Addr) (n c : Nat), a.eval x = .slice A n c → K (st.put o.dst (.b (if op = .eql then A.isNone else !A.isNone))) → o.wp P a w N Q := by
    intro A n c hv hk
    have q1 := Lib.run_eql_slice_nil (P := P) w t e A n c 0 0 ht
    have q2 := Go.run_neq_slice_nil (P := P) w t e A n c ht
    have hrun : (execOp a.eval o).run P w = .ok (.value (.bool (if op = .eql then A.isNone else !A.isNone))) w := by
      unfold execOp
      have hv2 : a.eval (.const (.slice none 0 0)) = .slice none 0 0 := rfl
      rcases hop with rfl | rfl
      · simp only [ho, hv, hv2, Sem.run_bind, eqGuard, q1]
        simp [q1]
      · simp only [ho, hv, hv2, Sem.run_bind, eqGuard, q2]
        simp [q2]
    unfold Oper.wp
    rw [hrun]
    exact hN _ _ _ hk ⟨g, by cases o.dst <;> exact hpp, hR.put (dok_lt hd) rfl⟩
  rcases h with ⟨k, cs, he, hk⟩ | ⟨id, n, he, hk⟩
  · rw [he] at hx
    obtain ⟨A, n, c, e1, e2, e3⟩ := Rd.form hx
    refine fin A n c e1 (hk _ (fun hb => ?_))
    cases A with
    | some => cases hb
    | none =>
      rw [e1] at hx
      cases (show Rd _ _ _ _ from hx)
      rfl
  · rw [he] at hx
    obtain ⟨_, _, A, e1, e2, _⟩ := hx
    refine fin A n _ e1 (hk _ (fun hb => ?_))
    cases A with
    | some => cases hb
    | none =>
      rename_i hle
      by_cases h0 : g.κ id = 0
      · omega
      · cases e2 h0
theorem stp_ev (hd : dok o st.n = true) (h : ev1 P o st K) : Stp P o st K := by
  obtain ⟨dst, op, ty, pos, af, gd⟩ := o
  unfold ev1 at h
  simp only at h
  split at h
  · exact stp_l hd h
  · exact stp_a hd h
  · exact stp_a hd h
  · exact stp_a hd h
  · exact stp_a hd h
  · exact stp_a hd h
  · exact stp_s hd rfl h
  · split at h
    · exact stp_ap hd rfl h
    · rcases h with h | h
      · exact stp_d hd h
      · exact stp_l hd h
    · exact stp_d hd h
    · exact h.elim
  · exact stp_d hd h

/-- a list of operations in this order -/
def Lst (P : Program) (ops : Array Oper) (l : List Oper) (st : ST) (K : ST → Prop) : Prop :=
  ∀ (M0 : Fm) (w0 : World) (a : Act) (w : World) (Q : Exit → Act → World → Prop), Rel M0 w0 st a w → (∀ st' a' w', K st' → Rel M0 w0 st' a' w' → Q .normal a' w') → wpList P ops Q l a w
theorem lst_nil {ops : Array Oper} (h : K st) : Lst P ops [] st K := fun _ _ _ _ _ hR hN => hN _ _ _ h hR
theorem lst_cons {ops : Array Oper} {r : List Oper} (hg : o.guard = none) (h : ∀ K' : ST → Prop, (∀ st', Lst P ops r st' K → K' st') → Stp P o st K') : Lst P ops (o :: r) st K := by
  intro M0 w0 a w Q hR hN
  refine wpList_plain hg fun K' hK' => ?_
  exact h (fun st' => Lst P ops r st' K) (fun _ h => h) M0 w0 a w K' Q hR fun st' a' w' h1 h2 => hK' _ _ (h1 M0 w0 a' w' Q h2 hN)
theorem lst_guard {ops : Array Oper} {r : List Oper} {j d : Nat} {want t : Bool} (hg : o.guard = some (j, want)) (hj : (ops[j]?).bind (·.dst) = some d) (ht : st.get d = .b t) (hd : dok o st.n = true)
    (h1 : t = want → ∀ K' : ST → Prop, (∀ st', Lst P ops r st' K → K' st') → Stp P o st K') (h2 : t ≠ want → Lst P ops r (st.put o.dst .u) K) : Lst P ops (o :: r) st K := by
  intro M0 w0 a w Q hR hN
  obtain ⟨g, hpp, hR'⟩ := hR
  have hy : yielded ops a.tmps j = some t := by
    unfold yielded
    rw [hj]
    have := hR'.tm d
    rw [ht] at this
    have hv : a.tmps.getD d undef = .bool t := this
    simp only [Option.bind_some]
    rw [Array.getD_eq_getD_getElem?] at hv
    cases hd : a.tmps[d]? with
    | none => rw [hd] at hv; cases hv
    | some v => rw [hd] at hv; simp at hv; subst hv; rfl
  refine wpList_step fun K' hK' => ?_
  have hw : Region.wanted o (yielded ops a.tmps) = (t == want) := by
    unfold Region.wanted
    rw [hg]
    simp only [hy]
    cases t <;> cases want <;> rfl
  rw [hw]
  by_cases e : t = want
  · rw [if_pos (by simp [e])]
    exact h1 e (fun st' => Lst P ops r st' K) (fun _ h => h) M0 w0 a w K' Q ⟨g, hpp, hR'⟩ fun st' a' w' q1 q2 => hK' _ _ (q1 M0 w0 a' w' Q q2 hN)
  · rw [if_neg (by simp [e])]
    exact hK' _ _ (h2 e M0 w0 _ w Q ⟨g, by cases o.dst <;> exact hpp, hR'.put (dok_lt hd) trivial⟩ hN)

/-- what code does to states -/
def AW (P : Program) (c : Code) (st : ST) (Q : Exit → ST → Prop) : Prop :=
  ∀ (M0 : Fm) (w0 : World) (a : Act) (w : World), Rel M0 w0 st a w → c.wp P (fun e a' w' => ∃ st', Rel M0 w0 st' a' w' ∧ Q e st') a w
def ThenA (N : ST → Prop) (Q : Exit → ST → Prop) : Exit → ST → Prop
  | .normal, st => N st
  | e, st => Q e st
def InBl (id : Nat) (Q : Exit → ST → Prop) : Exit → ST → Prop
  | .exit id', st => if id' = id then Q .normal st else Q (.exit id') st
  | e, st => Q e st
variable {Q : Exit → ST → Prop} {c x y : Code}
theorem aw_region {id : Nat} {l : List Oper} (h : Lst P l.toArray l st (Q .normal)) : AW P (.region id l.toArray false) st Q := fun M0 w0 a w hR =>
  wp_region_lit (h M0 w0 a w _ hR fun st' a' w' h1 h2 => ⟨st', h2, h1⟩)
theorem aw_seq (h : ∀ K : ST → Prop, (∀ st', AW P y st' Q → K st') → AW P x st (ThenA K Q)) : AW P (.seq x y) st Q := by
  intro M0 w0 a w hR
  refine wp_seq (wp_mono (h (fun st' => AW P y st' Q) (fun _ h => h) M0 w0 a w hR) ?_)
  rintro e a' w' ⟨st', h1, h2⟩
  cases e <;> first | exact h2 M0 w0 a' w' h1 | exact ⟨st', h1, h2⟩
theorem aw_cond {op : Operand} {t : Bool} (hc : st.ev op = .b t) (ht : t = true → AW P x st Q) (hf : t = false → AW P y st Q) : AW P (.cond op x y) st Q := by
  intro M0 w0 a w hR
  obtain ⟨g, hpp, hR'⟩ := hR
  have := hR'.ev op
  rw [hc] at this
  exact wp_cond_split this (fun e => ht e M0 w0 a w ⟨g, hpp, hR'⟩) (fun e => hf e M0 w0 a w ⟨g, hpp, hR'⟩)
theorem aw_block {id : Nat} (h : AW P c st (InBl id Q)) : AW P (.block id c) st Q := by
  intro M0 w0 a w hR
  refine wp_block (wp_mono (h M0 w0 a w hR) ?_)
  rintro e a' w' ⟨st', h1, h2⟩
  cases e with
  | exit id' =>
    simp only [InBl] at h2
    simp only [Exit.inBlock]
    split at h2
    · rename_i he; rw [if_pos he]; exact ⟨st', h1, h2⟩
    · rename_i he; rw [if_neg he]; exact ⟨st', h1, h2⟩
  | _ => exact ⟨st', h1, h2⟩
theorem aw_skip (h : Q .normal st) : AW P .skip st Q := fun _ _ _ _ hR => wp_skip ⟨st, hR, h⟩
theorem aw_exit {id : Nat} (h : Q (.exit id) st) : AW P (.exit id) st Q := fun _ _ _ _ hR => wp_exit ⟨st, hR, h⟩
theorem aw_ret (h : Q .ret st) : AW P .ret st Q := fun _ _ _ _ hR => wp_ret ⟨st, hR, h⟩
theorem aw_mono {Q' : Exit → ST → Prop} (h : AW P c st Q) (hq : ∀ e st, Q e st → Q' e st) : AW P c st Q' := fun M0 w0 a w hR => wp_mono (h M0 w0 a w hR) fun e a' w' ⟨st', h1, h2⟩ => ⟨st', h1, hq e st' h2⟩

def cnd (st : ST) (op : Operand) (X Y : Prop) : Prop :=
  match st.ev op with
  | .a (.c (.v (.bool t))) => (t = true → X) ∧ (t = false → Y)
  | _ => False
theorem aw_cnd {op : Operand} (h : ∀ X Y : Prop, (AW P x st Q → X) → (AW P y st Q → Y) → cnd st op X Y) : AW P (.cond op x y) st Q := by
  have := h _ _ (fun h => h) (fun h => h)
  unfold cnd at this
  split at this
  · rename_i t ht
    exact aw_cond ht this.1 this.2
  · exact this.elim
/-! states that say less -/
def Le (s t : ST) : Prop := ∀ (M0 : Fm) (w0 : World) (a : Act) (w : World), Rel M0 w0 s a w → Rel M0 w0 t a w
theorem Le.refl (s : ST) : Le s s := fun _ _ _ _ h => h
theorem Le.trans {s t u : ST} (h : Le s t) (k : Le t u) : Le s u := fun M0 w0 a w hR => k M0 w0 a w (h M0 w0 a w hR)
theorem aw_le {t : ST} (h : Le st t) (k : AW P c t Q) : AW P c st Q := fun M0 w0 a w hR => k M0 w0 a w (h M0 w0 a w hR)
theorem aw_loop {α : Type} (Inv : α → ST) (good : α → Prop) (μ : α → Nat) (x0 : α) (h0 : good x0) (hle : Le st (Inv x0))
    (round : ∀ x, good x → ∀ K : ST → Prop, (∀ s x', good x' → μ x' < μ x → Le s (Inv x') → K s) → AW P c (Inv x) (ThenA K Q)) : AW P (.loop c) st Q := by
  intro M0 w0 a w hR
  refine wp_loop_ghost (fun n a w => ∃ x, good x ∧ μ x = n ∧ Rel M0 w0 (Inv x) a w) (μ x0) ⟨x0, h0, rfl, hle M0 w0 a w hR⟩ ?_
  rintro n a w ⟨x, hx, rfl, hR⟩
  refine wp_mono (round x hx (fun s => ∃ x', good x' ∧ μ x' < μ x ∧ Le s (Inv x')) (fun s x' h1 h2 h3 => ⟨x', h1, h2, h3⟩) M0 w0 a w hR) ?_
  rintro e a' w' ⟨st', h1, h2⟩
  cases e <;> first
    | (obtain ⟨x', q1, q2, q3⟩ := h2; exact ⟨μ x', q2, x', q1, rfl, q3 M0 w0 a' w' h1⟩)
    | exact ⟨st', h1, h2⟩
/-- slots forgotten -/
def LeTm (s : ST) : List (Nat × AV) → Prop
  | [] => True
  | (d, x) :: r => s.get d = x ∧ LeTm s r
theorem le_tm {s : ST} {tm : List (Nat × AV)} (h : LeTm s tm) : Le s { s with tm := tm } := by
  rintro M0 w0 a w ⟨g, hpp, hR⟩
  refine ⟨g, hpp, hR.hr, hR.new, fun d => ?_, hR.n, hR.df, hR.fp⟩
  show AVR (CR g s.hp w) (look tm d) (a.tmps.getD d undef)
  induction tm with
  | nil => trivial
  | cons p r ih =>
    obtain ⟨k, x⟩ := p
    simp only [look]
    split
    · rename_i e; subst e; rw [← h.1]; exact hR.tm d
    · exact ih h.2
theorem le_frz {s : ST} (id : Nat) {r : Row} (ts : List Tr) (hrow : s.hp[id]? = some (.r r)) (hts : Fz r.cells ts) (hk : 0 < r.k) : Le s (s.frz id r.k ts) := by
  rintro M0 w0 a w ⟨g, hpp, hR⟩
  exact ⟨g, ⟨by simpa [ST.frz] using hpp.1, hpp.2⟩, hR.freeze hrow hts hk⟩
/-- a nil slice as an empty frozen one -/
theorem le_nilt {s : ST} (d k : Nat) (h : s.get d = .a (.c (.v (.slice none 0 0)))) : Le s { s with tm := (d, .a (.c (.t k []))) :: s.tm } := by
  rintro M0 w0 a w ⟨g, hpp, hR⟩
  refine ⟨g, hpp, hR.hr, hR.new, fun d' => ?_, hR.n, hR.df, hR.fp⟩
  show AVR _ (look ((d, _) :: s.tm) d') _
  simp only [look]
  split
  · rename_i e'; subst e'
    have := hR.tm d'
    rw [h] at this
    have hv : a.tmps.getD d' undef = .slice none 0 0 := this
    rw [hv]
    exact Rd.e _ _ _
  · exact hR.tm d'
/-- a nil slice as a row without room -/
theorem le_nil {s : ST} (d : Nat) (e k : Nat) (h : s.get d = .a (.c (.v (.slice none 0 0)))) : Le s { s with tm := (d, .a (.c (.s s.hp.length 0))) :: s.tm, hp := s.hp ++ [.r ⟨e, k, true, []⟩] } := by
  rintro M0 w0 a w ⟨g, hpp, hR⟩
  have hb := hR.birth0 (w' := w) (hp' := s.hp ++ [.r ⟨e, k, true, []⟩]) (id := s.hp.length) (r := ⟨e, k, true, []⟩) bn_len (push_ne _) (push_self _) rfl (Fp.refl _ _)
  refine ⟨_, ⟨by have := hpp.1; simp; omega, hpp.2.trans (ext_at hpp.1)⟩, hb.hr, hb.new, fun d' => ?_, hb.n, hb.df, hb.fp⟩
  show AVR _ (look ((d, _) :: s.tm) d') _
  simp only [look]
  split
  · rename_i e'; subst e'
    have := hR.tm d'
    rw [h] at this
    have hv : a.tmps.getD d' undef = .slice none 0 0 := this
    rw [hv]
    exact ⟨push_bn rfl, Nat.zero_le _, none, by rw [g.at_self.2], fun hn => absurd g.at_self.2 hn, by simp⟩
  · exact hb.tm d'
end
end Go.Proofs.Ytgclmlbaodcccaa
