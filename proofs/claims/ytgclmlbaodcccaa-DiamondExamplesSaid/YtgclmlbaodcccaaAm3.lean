/- The abstract machine: operations that only compute are sound. -/
import Derived.Test.YtgclmlbaodcccaaAm2
import Derived.IntWalk
namespace Go.Proofs.Ytgclmlbaodcccaa
set_option linter.unusedVariables false
set_option linter.unusedSimpArgs false
open Go.RowKit

theorem add_mk (b off n : Nat) : (⟨b, off, none⟩ : Addr).add n = ⟨b, off + n, none⟩ := by
  unfold Addr.add
  split
  · rename_i h; subst h; rfl
  · rfl
theorem wrap_in {n : Int} (h : in64 n) : IntKind.i64.wrap n = n := by
  obtain ⟨h1, h2⟩ := h
  exact IntWalk.i64_in n (by omega)
theorem binA_sound {P : Program} {op : BinOp} {t : TypeId} {x y : Operand} {a b v : Value} {c : Prop} (h : binA op a b = some (c, v)) (hc : c) (w : World) :
    (do eqGuard op t x y a b; binOp op t a b : Sem Value).run P w = .ok v w := by
  have hg : ∀ w : World, (eqGuard op t x y a b).run P w = .ok () w := by
    intro w
    unfold eqGuard
    unfold binA at h
    split at h <;> (cases op <;> simp at h ⊢)
  simp only [Sem.run_bind, hg, Result.andThen_ok]
  unfold binA at h
  split at h
  · rename_i a b
    cases op <;> simp [arith, icmp] at h <;> obtain ⟨h1, h2⟩ := h <;> subst h2 <;> (try replace hc := h1.2 hc) <;> simp [binOp, Op.intArith, Op.intDiv, Op.intCmp, Op.shift]
    · exact wrap_in hc
    · exact wrap_in hc
    · exact wrap_in hc
    · rw [if_neg (by omega)]
      simp
      rw [Int.tdiv_eq_ediv_of_nonneg hc.1]
      refine wrap_in ⟨?_, ?_⟩
      · have := Int.ediv_nonneg hc.1 (Int.le_of_lt hc.2.1); omega
      · have := Int.ediv_le_self b hc.1; omega
    · intro h0; omega
    · exact wrap_in hc.2.2
    · exact (Int.fdiv_eq_ediv_of_nonneg _ (by exact Int.le_of_lt (Int.pow_pos (by omega)))).symm
  · rename_i a b _
    cases op <;> simp at h <;> obtain ⟨h1, h2⟩ := h <;> subst h2 <;> (try replace hc := h1.2 hc) <;> simp [binOp, Op.shift]
    · exact wrap_in hc.2.2
    · exact (Int.fdiv_eq_ediv_of_nonneg _ (by exact Int.le_of_lt (Int.pow_pos (by omega)))).symm
  · rename_i a b
    cases op <;> simp [icmp] at h <;> obtain ⟨h1, h2⟩ := h <;> subst h2 <;> (try replace hc := h1.2 hc) <;> simp [binOp, Op.intCmp, Op.shift]
  · rename_i k a k' b _ _ _
    cases op <;> simp [icmp] at h <;> obtain ⟨h1, h2⟩ := h <;> subst h2 <;> (try replace hc := h1.2 hc) <;> simp [binOp, Op.intCmp, hc]
  · cases h
theorem unA_sound {P : Program} {op : UnOp} {a v : Value} {c : Prop} (h : unA op a = some (c, v)) (hc : c) (w : World) : (Op.unary op a).run P w = .ok v w := by
  unfold unA at h
  split at h
  · simp at h; obtain ⟨_, h2⟩ := h; subst h2; simp [Op.unary]
  · simp at h; obtain ⟨h1, h2⟩ := h; subst h2
    simp [Op.unary, Op.intArith]
    exact wrap_in (h1.2 hc)
  · cases h
theorem ints_ex : ∀ {xs : List C} {us : List Value}, ints xs = some us → ∀ {R : C → Value → Prop}, (∀ v y, R (.v v) y → y = v) → ∀ {ys : List Value}, LR R xs ys → ys = us
  | [], us, h, R, hR, ys, hl => by
    simp [ints] at h; subst h
    exact List.eq_nil_of_length_eq_zero hl.1
  | c :: r, us, h, R, hR, ys, hl => by
    unfold ints at h
    split at h
    · rename_i heq; exact absurd heq (by simp)
    · rename_i n r' heq
      simp only [List.cons.injEq] at heq
      obtain ⟨rfl, rfl⟩ := heq
      cases hr : ints r with
      | none => rw [hr] at h; cases h
      | some us' =>
        rw [hr] at h
        simp at h; subst h
        obtain ⟨y, ys', rfl⟩ : ∃ y ys', ys = y :: ys' := by
          cases ys with
          | nil => have := hl.1; simp at this
          | cons y ys' => exact ⟨y, ys', rfl⟩
        have h0 := hl.2 0 _ rfl
        simp at h0
        rw [hR _ _ h0]
        rw [ints_ex hr hR (ys := ys') ⟨by have := hl.1; simpa using this, fun i x hx => by simpa using hl.2 (i + 1) x (by simpa using hx)⟩]
    · cases h
theorem AVR.c_v {g : Gh} {hp : List Ob} {w : World} {v y : Value} (h : AVR (CR g hp w) (.a (.c (.v v))) y) : y = v := h
theorem LR.part {R : C → Value → Prop} {xs : List C} {us : List Value} (h : LR R xs us) (off sz : Nat) (hle : off + sz ≤ xs.length) : LR R ((xs.drop off).take sz) ((us.drop off).take sz) := by
  refine ⟨by simp [h.1], fun i x hx => ?_⟩
  rw [List.getElem?_take] at hx ⊢
  split at hx
  · rw [List.getElem?_drop] at hx ⊢
    rename_i hi
    obtain ⟨u, h1, h2⟩ := h.2 _ x hx
    exact ⟨u, by simpa [hi] using h1, h2⟩
  · cases hx
theorem one_cell {g : Gh} {hp : List Ob} {w : World} {c : C} {y : Value} (h1 : c.one = true) (h : CR g hp w c y) : y.cells = #[y] := by
  cases c with
  | u => cases h1
  | v x => cases (show y = x from h); cases y <;> simp [C.one] at h1 <;> rfl
  | t k cs => cases (show Rd _ _ _ _ from h) <;> rfl
  | s id n => obtain ⟨_, _, _, rfl, _⟩ := h; rfl
  | p id off => obtain ⟨_, rfl⟩ := h; rfl
  | q cs off => obtain ⟨b, o, us, rfl, _⟩ := h; rfl
  | o k cs => cases h1
  | b id j n => cases h1
  | m id => obtain ⟨_, rfl⟩ := h; rfl
  | w id off n k => obtain ⟨_, _, _, rfl⟩ := h; rfl
  | f fn ids => obtain ⟨_, rfl⟩ := h; rfl
/-- what a value's cells are -/
theorem A0R.cells {g : Gh} {hp : List Ob} {w : World} {x : A0} {y : Value} (h1 : x.ones = true) (h : A0R (CR g hp w) x y) : LR (CR g hp w) x.cells y.cells.toList := by
  cases x with
  | c c =>
    rw [one_cell h1 h]
    exact ⟨by simp [A0.cells], fun i x hx => by
      cases i with
      | zero => simp [A0.cells] at hx; subst hx; exact ⟨y, by simp, h⟩
      | succ i => simp [A0.cells] at hx⟩
  | g xs => obtain ⟨us, rfl, hl⟩ := h; exact hl
theorem LR.set {R : C → Value → Prop} {xs : List C} {us : List Value} (h : LR R xs us) (i : Nat) {x : C} {u : Value} (hx : R x u) : LR R (xs.set i x) (us.set i u) := by
  refine ⟨by simp [h.1], fun j y hy => ?_⟩
  rw [List.getElem?_set] at hy ⊢
  split at hy
  · split at hy
    · cases hy
      rename_i h1 h2
      subst h1
      exact ⟨u, by rw [if_pos rfl, if_pos (by rw [h.1]; exact h2)], hx⟩
    · cases hy
  · rename_i h1
    rw [if_neg h1]
    exact h.2 j y hy
theorem LR.append {R : C → Value → Prop} {xs ys : List C} {us vs : List Value} (h : LR R xs us) (k : LR R ys vs) : LR R (xs ++ ys) (us ++ vs) := by
  refine ⟨by simp [h.1, k.1], fun i x hx => ?_⟩
  by_cases hi : i < xs.length
  · rw [List.getElem?_append_left hi] at hx
    rw [List.getElem?_append_left (by rw [h.1]; exact hi)]
    exact h.2 i x hx
  · rw [List.getElem?_append_right (by omega)] at hx
    rw [List.getElem?_append_right (by rw [h.1]; omega), h.1]
    exact k.2 _ x hx
theorem setC_len (off : Nat) (xs cs : List C) : (setC cs off xs).length = cs.length := by
  induction xs generalizing cs off with
  | nil => rfl
  | cons x r ih => simp [setC, ih]
theorem setC_foldl {R : C → Value → Prop} {cs : List C} {us : List Value} {off : Nat} {xs : List C} {ys : List Value} (h : LR R cs us) (hx : LR R xs ys) :
    ∃ vs : List Value, ((ys.toArray.zipIdx.foldl (fun cs p => cs.setIfInBounds (off + p.2) p.1) us.toArray) = vs.toArray) ∧ LR R (setC cs off xs) vs := by
  have key : ∀ (xs : List C) (ys : List Value) (cs : List C) (us : List Value) (k : Nat), LR R cs us → LR R xs ys →
      ∃ vs : List Value, ((ys.zipIdx k).foldl (fun cs p => cs.setIfInBounds (off + p.2) p.1) us.toArray) = vs.toArray ∧ LR R (setC cs (off + k) xs) vs := by
    intro xs
    induction xs with
    | nil =>
      intro ys cs us k h hx
      have : ys = [] := List.eq_nil_of_length_eq_zero hx.1
      subst this
      exact ⟨us, by simp, h⟩
    | cons x r ih =>
      intro ys cs us k h hx
      obtain ⟨y, ys', rfl⟩ : ∃ y ys', ys = y :: ys' := by
        cases ys with
        | nil => have := hx.1; simp at this
        | cons y ys' => exact ⟨y, ys', rfl⟩
      have h0 := hx.2 0 x rfl
      simp at h0
      obtain ⟨vs, e1, e2⟩ := ih ys' (cs.set (off + k) x) (us.set (off + k) y) (k + 1) (h.set _ h0) ⟨by have := hx.1; simpa using this, fun i x hx' => by simpa using hx.2 (i + 1) x (by simpa using hx')⟩
      refine ⟨vs, ?_, e2⟩
      rw [← e1]
      simp [List.zipIdx_cons]
  obtain ⟨vs, e1, e2⟩ := key xs ys cs us 0 h hx
  exact ⟨vs, by rw [← e1]; simp, e2⟩
theorem fillA_sound {g : Gh} {hp : List Ob} {w : World} {place : Nat → Option (Nat × Nat)} : ∀ {parts : List (Nat × AV)} {vs : List (Nat × Value)} {cells cs : List C} {us : List Value},
    fillA place cells parts = some cs → LR (CR g hp w) cells us → vs.length = parts.length → (∀ (i : Nat) p q, parts[i]? = some p → vs[i]? = some q → q.1 = p.1 ∧ AVR (CR g hp w) p.2 q.2) →
    ∃ r : List Value, Instr.fill place us.toArray vs = some r.toArray ∧ LR (CR g hp w) cs r
  | [], vs, cells, cs, us, h, hl, hn, _ => by
    have : vs = [] := List.eq_nil_of_length_eq_zero hn
    subst this
    simp [fillA] at h; subst h
    exact ⟨us, by simp [Instr.fill], hl⟩
  | (i, x) :: rest, vs, cells, cs, us, h, hl, hn, hp' => by
    obtain ⟨⟨i', v⟩, vs', rfl⟩ : ∃ y ys', vs = y :: ys' := by
      cases vs with
      | nil => simp at hn
      | cons y ys' => exact ⟨y, ys', rfl⟩
    obtain ⟨e1, e2⟩ := hp' 0 _ _ rfl rfl
    simp only at e1 e2
    subst e1
    unfold fillA at h
    split at h
    · rename_i heq; exact absurd heq (by simp)
    · rename_i i2 x2 rest2 heq
      simp only [List.cons.injEq, Prod.mk.injEq] at heq
      obtain ⟨⟨rfl, rfl⟩, rfl⟩ := heq
      split at h
      · rename_i off size hpl
        split at h
        · rename_i hcond
          simp only [Bool.and_eq_true, beq_iff_eq, decide_eq_true_eq] at hcond
          obtain ⟨⟨c1, c2⟩, c3⟩ := hcond
          have hlx := A0R.cells c1 e2
          have hsz : v.cells.size = size := by have := hlx.1; rw [c2] at this; simpa using this
          obtain ⟨us', f1, f2⟩ := setC_foldl (off := off) hl hlx
          obtain ⟨r, g1, g2⟩ := fillA_sound (vs := vs') h f2 (by simpa using hn) (fun j p q hp1 hq1 => hp' (j + 1) p q (by simpa using hp1) (by simpa using hq1))
          refine ⟨r, ?_, g2⟩
          unfold Instr.fill
          rw [hpl]
          simp only
          rw [if_neg (by
            simp only [Bool.or_eq_true, decide_eq_true_eq, not_or]
            exact ⟨by simp [hsz], by simp; rw [hsz]; have := hl.1; omega⟩)]
          have hft : v.cells.zipIdx.foldl (fun cs x => cs.setIfInBounds (off + x.2) x.1) us.toArray = us'.toArray := by rw [← f1]
          rw [show (fun (cs : Array Value) (x : Value × Nat) => match x with | (c, j) => cs.setIfInBounds (off + j) c) = (fun cs x => cs.setIfInBounds (off + x.2) x.1) from rfl, hft]
          exact g1
        · cases h
      · cases h
    · cases h
theorem LR.zero {g : Gh} {hp : List Ob} {w : World} (vs : List Value) : LR (CR g hp w) (vs.map .v) vs :=
  ⟨by simp, fun i x hx => by
    rw [List.getElem?_map] at hx
    cases hv : vs[i]? with
    | none => rw [hv] at hx; cases hx
    | some v => rw [hv] at hx; cases hx; exact ⟨v, rfl, rfl⟩⟩
theorem objs_sound {g : Gh} {hp : List Ob} {w : World} : ∀ {xs : List AV} {ids : List Nat} {vs : List Value}, objs xs = some ids → vs.length = xs.length →
    (∀ (i : Nat) x v, xs[i]? = some x → vs[i]? = some v → AVR (CR g hp w) x v) → (∀ id ∈ ids, Bn hp id) ∧ vs = ids.map fun id => Value.pointer (some ⟨g.γ (.ob id), 0, none⟩)
  | [], ids, vs, h, hn, _ => by
    simp [objs] at h; subst h
    have : vs = [] := List.eq_nil_of_length_eq_zero hn
    subst this; simp
  | x :: r, ids, vs, h, hn, hp' => by
    obtain ⟨v, vs', rfl⟩ : ∃ y ys', vs = y :: ys' := by
      cases vs with
      | nil => simp at hn
      | cons y ys' => exact ⟨y, ys', rfl⟩
    unfold objs at h
    split at h
    · rename_i heq; exact absurd heq (by simp)
    · rename_i id r' heq
      simp only [List.cons.injEq] at heq
      obtain ⟨rfl, rfl⟩ := heq
      cases hr : objs r with
      | none => rw [hr] at h; cases h
      | some ids' =>
        rw [hr] at h
        simp at h; subst h
        obtain ⟨h1, h2⟩ := objs_sound (vs := vs') hr (by simpa using hn) (fun i x v hx hv => hp' (i + 1) x v (by simpa using hx) (by simpa using hv))
        have h0 := hp' 0 _ _ rfl rfl
        obtain ⟨b1, b2⟩ := h0
        refine ⟨?_, by rw [h2, b2]; rfl⟩
        intro i hi
        rcases List.mem_cons.1 hi with rfl | hi
        · exact b1
        · exact h1 i hi
    · cases h

theorem int_of {g : Gh} {hp : List Ob} {w : World} {x : AV} {v y : Value} (hx : x = .a (.c (.v v))) (h : AVR (CR g hp w) x y) : y = v := by subst hx; exact h
theorem LR.get {R : C → Value → Prop} {xs : List C} {us : List Value} (h : LR R xs us) {i : Nat} (hi : i < xs.length) : ∃ u, us[i]? = some u ∧ R (xs.getD i .u) u := by
  obtain ⟨u, h1, h2⟩ := h.2 i xs[i] (List.getElem?_eq_getElem hi)
  exact ⟨u, h1, by simpa [List.getD, List.getElem?_eq_getElem hi] using h2⟩
theorem partC_sound {P : Program} {g : Gh} {hp : List Ob} {w : World} {xs : List C} {us : List Value} (hl : LR (CR g hp w) xs us) {t : TypeId} {off sz : Nat} {ag : Bool} (h1 : off + sz ≤ xs.length) (h2 : 0 < sz)
    (hs : ∀ w, (sizeOf t).run P w = .ok sz w) (ha : ∀ w, (isAgg t).run P w = .ok ag w) : ∃ v, (∀ W, (part t us.toArray off).run P W = .ok v W) ∧ A0R (CR g hp w) (partC xs off sz ag) v := by
  unfold part partC
  simp only [Sem.run_bind, ha, Result.andThen_ok]
  cases ag with
  | true =>
    simp only [if_true, Sem.run_bind, hs, Result.andThen_ok, Sem.run_pure]
    exact ⟨_, fun _ => rfl, (us.drop off).take sz, by simp, hl.part off sz h1⟩
  | false =>
    obtain ⟨u, e1, e2⟩ := hl.get (i := off) (by omega)
    have e1' : us.toArray[off]? = some u := by simpa using e1
    simp only [Bool.false_eq_true, if_false, e1', Sem.run_pure]
    exact ⟨u, fun _ => rfl, e2⟩
theorem Rd.cut {M : Nat → Prop} {w : World} {k : Nat} {cs : List Tr} {A : Option Addr} {n c : Nat} (h : Rd M w (.l k cs) (.slice A n c)) (hk : 0 < k) {i j : Nat} (hij : i ≤ j) (hj : j * k ≤ cs.length) :
    Rd M w (.l k ((cs.drop (i * k)).take ((j - i) * k))) (.slice (cutA A c i k) (j - i) (c - i)) := by
  by_cases h0 : j - i = 0
  · rw [h0]; simp; exact .e _ _ _
  · cases h with
    | e =>
      have : 0 < j * k := Nat.mul_pos (by omega) hk
      simp at hj
      omega
    | l _ _ b off _ _ us hn h0' hc hM hb h1 h2 =>
      have hjn : j ≤ n := Nat.le_of_mul_le_mul_right (by rw [← hn]; exact hj) hk
      unfold cutA
      rw [if_neg (by omega)]
      simp only [Option.map_some, add_mk]
      refine .l k _ b (off + i * k) (j - i) (c - i) (fun q => us (i * k + q)) ?_ (by omega) (by omega) hM hb (fun q t hq => ?_) (fun q t hq => ?_)
      · rw [List.length_take, List.length_drop, Nat.min_eq_left]
        rw [Nat.sub_mul]; omega
      · rw [List.getElem?_take] at hq
        split at hq
        · rw [List.getElem?_drop] at hq
          rw [Nat.add_assoc]
          exact h1 _ t hq
        · cases hq
      · rw [List.getElem?_take] at hq
        split at hq
        · rw [List.getElem?_drop] at hq
          exact h2 _ t hq
        · cases hq
theorem Rd.form {M : Nat → Prop} {w : World} {k : Nat} {cs : List Tr} {v : Value} (h : Rd M w (.l k cs) v) : ∃ A n c, v = .slice A n c ∧ cs.length = n * k ∧ n ≤ c := by
  cases h with
  | e => exact ⟨_, _, _, rfl, by simp, by omega⟩
  | l _ _ b off n c us hn h0 hc => exact ⟨_, _, _, rfl, hn, hc⟩

section
variable {P : Program} {g : Gh} {hp : List Ob} {w : World} {ρ : Operand → Value} {ev : Operand → AV} {c : Prop} {x : AV}
theorem dPick_sound (hR : ∀ x, AVR (CR g hp w) (ev x) (ρ x)) {y a b : Operand} (h : dPick ev y a b = some (c, x)) (hc : c) :
    ∃ v, (∀ W, (do pure (Next.value (if ← asBool (ρ y) then ρ a else ρ b)) : Sem Next).run P W = .ok (.value v) W) ∧ AVR (CR g hp w) x v := by
  unfold dPick at h
  split at h
  · rename_i t hev
    simp only [Option.some.injEq, Prod.mk.injEq] at h
    obtain ⟨_, rfl⟩ := h
    simp only [int_of hev (hR y), asBool, Sem.run_bind, Sem.run_pure, Result.andThen_ok]
    refine ⟨_, fun _ => rfl, ?_⟩
    cases t
    · exact hR b
    · exact hR a
  · cases h
theorem dNil_sound (hR : ∀ x, AVR (CR g hp w) (ev x) (ρ x)) {o : Oper} {y : Operand} (ho : o.op = .nilCheck y) (h : dNil ev y = some (c, x)) (hc : c) : ∃ v, (∀ W, (execOp ρ o).run P W = .ok (.value v) W) ∧ AVR (CR g hp w) x v := by
  have hy := hR y
  unfold execOp
  simp only [ho]
  unfold dNil at h
  split at h
  · rename_i id off hev
    rw [hev] at hy
    simp only [Option.some.injEq, Prod.mk.injEq] at h
    obtain ⟨_, rfl⟩ := h
    obtain ⟨b1, b2⟩ := hy
    rw [b2]
    exact ⟨_, fun W => by simp, b1, rfl⟩
  · rename_i cs off hev
    rw [hev] at hy
    simp only [Option.some.injEq, Prod.mk.injEq] at h
    obtain ⟨_, rfl⟩ := h
    obtain ⟨b, o', us, b2, rest⟩ := hy
    rw [b2]
    exact ⟨_, fun W => by simp, b, o', us, rfl, rest⟩
  · rename_i fn ids hev
    rw [hev] at hy
    simp only [Option.some.injEq, Prod.mk.injEq] at h
    obtain ⟨_, rfl⟩ := h
    obtain ⟨b1, b2⟩ := hy
    rw [b2]
    exact ⟨_, fun W => by simp [clo], b1, rfl⟩
  · cases h
theorem dBin_sound (hR : ∀ x, AVR (CR g hp w) (ev x) (ρ x)) {op : BinOp} {t : TypeId} {y z : Operand} (h : dBin P ev op t y z = some (c, x)) (hc : c) :
    ∃ v, (∀ W, (do eqGuard op t y z (ρ y) (ρ z); binOp op t (ρ y) (ρ z) : Sem Value).run P W = .ok v W) ∧ AVR (CR g hp w) x v := by
  unfold dBin at h
  split at h
  · rename_i a b ha hb
    split at h
    · rename_i c' v hbin
      simp only [Option.some.injEq, Prod.mk.injEq] at h
      obtain ⟨rfl, rfl⟩ := h
      rw [int_of ha (hR y), int_of hb (hR z)]
      exact ⟨v, fun W => binA_sound hbin hc W, rfl⟩
    · cases h
  · rename_i xs ys ha hb
    have hy := hR y
    have hz := hR z
    rw [ha] at hy; rw [hb] at hz
    obtain ⟨us, e1, e2⟩ := hy
    obtain ⟨vs, f1, f2⟩ := hz
    split at h
    · rename_i us' vs' hu hv
      have hue := ints_ex hu (fun v y h => h) e2
      have hve := ints_ex hv (fun v y h => h) f2
      subst hue; subst hve
      split at h
      · simp only [Option.some.injEq, Prod.mk.injEq] at h
        obtain ⟨rfl, rfl⟩ := h
        rw [e1, f1]
        exact ⟨_, fun W => hc W, rfl⟩
      · simp only [Option.some.injEq, Prod.mk.injEq] at h
        obtain ⟨rfl, rfl⟩ := h
        rw [e1, f1]
        exact ⟨_, fun W => hc W, rfl⟩
      · cases h
    · cases h
  · cases h
theorem dUn_sound (hR : ∀ x, AVR (CR g hp w) (ev x) (ρ x)) {op : UnOp} {y : Operand} (h : dUn ev op y = some (c, x)) (hc : c) : ∃ v, (∀ W, (Op.unary op (ρ y)).run P W = .ok v W) ∧ AVR (CR g hp w) x v := by
  unfold dUn at h
  split at h
  · rename_i a ha
    split at h
    · rename_i c' v hun
      simp only [Option.some.injEq, Prod.mk.injEq] at h
      obtain ⟨rfl, rfl⟩ := h
      rw [int_of ha (hR y)]
      exact ⟨v, fun W => unA_sound hun hc W, rfl⟩
    · cases h
  · cases h
theorem dConv_sound (hR : ∀ x, AVR (CR g hp w) (ev x) (ρ x)) {s d : TypeId} {y : Operand} (h : dConv P ev s d y = some (c, x)) (hc : c) : ∃ v, (∀ W, (convert s d (ρ y)).run P W = .ok v W) ∧ AVR (CR g hp w) x v := by
  unfold dConv at h
  split at h
  · rename_i k0 n u k ha hs hd
    simp only [Option.some.injEq, Prod.mk.injEq] at h
    obtain ⟨rfl, rfl⟩ := h
    rw [int_of ha (hR y)]
    refine ⟨_, fun W => ?_, rfl⟩
    unfold convert
    simp only [Sem.run_bind, run_underlying hs, run_underlying hd, Result.andThen_ok]
    cases u <;> simp [Conv.intToInt]
  · cases h
theorem dField_sound (hR : ∀ x, AVR (CR g hp w) (ev x) (ρ x)) {t : TypeId} {y : Operand} {f : Nat} (h : dField P ev t y f = some (c, x)) (hc : c) : ∃ v, (∀ W, (Instr.field t (ρ y) f).run P W = .ok v W) ∧ AVR (CR g hp w) x v := by
  have hy := hR y
  unfold dField at h
  split at h
  · rename_i xs ty hev hty
    rw [hev] at hy
    obtain ⟨us, e1, e2⟩ := hy
    split at h
    · rename_i off sz ag hk hf
      simp only [Option.some.injEq, Prod.mk.injEq] at h
      obtain ⟨rfl, rfl⟩ := h
      obtain ⟨fs, g1, g2, g3⟩ := tyOf.struct hty hk
      rw [g3] at hf
      obtain ⟨fl, k1, k2, k3, k4⟩ := fld_ex g2 hf
      obtain ⟨v, r1, r2⟩ := partC_sound (P := P) e2 hc.1 hc.2 k3 k4
      refine ⟨v, fun W => ?_, r2⟩
      rw [e1]
      simp only [Instr.field, Sem.run_bind, run_underlying g1, Result.andThen_ok, k1, asAgg, Sem.run_pure, k2]
      exact r1 W
    · cases h
  · cases h
theorem run_fieldAt {t : TypeId} {y : Ty} (hty : tyOf P t = some y) (hk : y.kind = 2) {f o sz : Nat} {ag : Bool} (hf : y.flds[f]? = some (o, sz, ag)) (hs : 0 < sz) (b off : Nat) (w : World) :
    (Instr.fieldAt t (.pointer (some ⟨b, off, none⟩)) f).run P w = .ok (.pointer (some ⟨b, off + o, none⟩)) w := by
  obtain ⟨fs, g1, g2, g3⟩ := tyOf.struct hty hk
  rw [g3] at hf
  obtain ⟨fl, k1, k2, k3, k4⟩ := fld_ex g2 hf
  simp only [Instr.fieldAt, Sem.run_bind, run_underlying g1, Result.andThen_ok, k1, Instr.sureAddr, Sem.run_pure, fieldPlace, k3]
  rw [if_neg (by omega)]
  simp [k2, add_mk]
theorem dFieldAddr_sound (hR : ∀ x, AVR (CR g hp w) (ev x) (ρ x)) {t : TypeId} {y : Operand} {f : Nat} (h : dFieldAddr P ev t y f = some (c, x)) (hc : c) : ∃ v, (∀ W, (Instr.fieldAt t (ρ y) f).run P W = .ok v W) ∧ AVR (CR g hp w) x v := by
  have hy := hR y
  unfold dFieldAddr at h
  split at h
  · rename_i id off ty hev hty
    rw [hev] at hy
    obtain ⟨b1, b2⟩ := hy
    split at h
    · rename_i o sz ag hk hf
      simp only [Option.some.injEq, Prod.mk.injEq] at h
      obtain ⟨rfl, rfl⟩ := h
      rw [b2]
      exact ⟨_, fun W => run_fieldAt hty hk hf hc _ _ W, b1, rfl⟩
    · cases h
  · rename_i cs off ty hev hty
    rw [hev] at hy
    obtain ⟨b, o', us, b2, rest⟩ := hy
    split at h
    · rename_i o sz ag hk hf
      simp only [Option.some.injEq, Prod.mk.injEq] at h
      obtain ⟨rfl, rfl⟩ := h
      rw [b2]
      exact ⟨_, fun W => run_fieldAt hty hk hf hc _ _ W, b, o', us, by rw [Nat.add_assoc], rest⟩
    · cases h
  · cases h
theorem elSize_ex {t : TypeId} {z : Nat} (h : elSize P t = some z) : ∃ e, P.underlying t = some (.slice e) ∧ ∀ w, (sizeOf e).run P w = .ok z w := by
  unfold elSize at h
  split at h
  · rename_i y hty
    split at h
    · rename_i ze hk hz
      simp at h; subst h
      exact ⟨_, tyOf.slice hty hk, fun w => tyOf.size hz w⟩
    · cases h
  · cases h
theorem run_indexAt {t : TypeId} {z : Nat} (hz : elSize P t = some z) {b off n cp : Nat} {k : IntKind} {i : Int} (h0 : 0 ≤ i) (h1 : i < n) (w : World) :
    (Instr.indexAt t (.slice (some ⟨b, off, none⟩) n cp) (.int k i)).run P w = .ok (.pointer (some ⟨b, off + i.toNat * z, none⟩)) w := by
  obtain ⟨e, h2, h3⟩ := elSize_ex hz
  simp only [Instr.indexAt, asIntOf, Sem.run_bind, Sem.run_pure, run_underlying h2, Result.andThen_ok]
  rw [if_pos ⟨h0, h1⟩]
  simp [h3, add_mk]
theorem dIndex_sound (hR : ∀ x, AVR (CR g hp w) (ev x) (ρ x)) {t : TypeId} {y ix : Operand} (h : dIndex P ev t y ix = some (c, x)) (hc : c) : ∃ v, (∀ W, (Instr.indexAt t (ρ y) (ρ ix)).run P W = .ok v W) ∧ AVR (CR g hp w) x v := by
  have hy := hR y
  unfold dIndex at h
  split at h
  · rename_i z id n kk i hz hev hi
    rw [hev] at hy
    obtain ⟨b1, b0, A, b2, b3, b4⟩ := hy
    simp only [Option.some.injEq, Prod.mk.injEq] at h
    obtain ⟨rfl, rfl⟩ := h
    rw [int_of hi (hR ix), b2, b3 (by have := hc.1; have := hc.2; omega)]
    exact ⟨_, fun W => run_indexAt hz hc.1 hc.2 W, b1, by simp⟩
  · rename_i z id off n k kk i hz hev hi
    rw [hev] at hy
    obtain ⟨b1, b2, b3, b4⟩ := hy
    simp only [Option.some.injEq, Prod.mk.injEq] at h
    obtain ⟨rfl, rfl⟩ := h
    obtain ⟨c1, c2, rfl⟩ := hc
    rw [int_of hi (hR ix), b4]
    exact ⟨_, fun W => run_indexAt hz c1 c2 W, b1, by rw [Nat.add_mul]⟩
  · rename_i z k cs kk i hz hev hi
    rw [hev] at hy
    simp only [Option.some.injEq, Prod.mk.injEq] at h
    obtain ⟨rfl, rfl⟩ := h
    obtain ⟨c1, c2, c3⟩ := hc
    subst c3
    rw [int_of hi (hR ix)]
    generalize ρ y = yv at hy
    cases (show Rd _ _ _ _ from hy) with
    | e => simp at c2
    | l _ _ b off n cp us hn h0 hcp hM hb h1 h2 =>
      have hin : i < n := by
        rw [hn] at c2
        have := Nat.lt_of_mul_lt_mul_right c2
        omega
      exact ⟨_, fun W => run_indexAt hz c1 hin W, b, off, us, rfl, hM, hb, h1, h2⟩
  · cases h
theorem dExt_sound (hR : ∀ x, AVR (CR g hp w) (ev x) (ρ x)) {y : Operand} {i : Nat} (h : dExt ev y i = some (c, x)) (hc : c) : ∃ v, (∀ W, (Instr.extract (ρ y) i).run P W = .ok v W) ∧ AVR (CR g hp w) x v := by
  have hy := hR y
  unfold dExt at h
  split at h
  · rename_i xs hev
    rw [hev] at hy
    obtain ⟨us, e1, e2, e3⟩ := hy
    split at h
    · rename_i x' hx
      simp only [Option.some.injEq, Prod.mk.injEq] at h
      obtain ⟨_, rfl⟩ := h
      obtain ⟨u, f1, f2⟩ := e3 i x' hx
      refine ⟨u, fun W => ?_, f2⟩
      rw [e1]
      simp [Instr.extract, f1]
    · cases h
  · cases h
theorem dFunc_sound (hR : ∀ x, AVR (CR g hp w) (ev x) (ρ x)) {fn : Fn} {first captured : Array Operand} (h : dFunc ev fn first captured = some (c, x)) (hc : c) :
    ∃ v, (∀ W, (Instr.makeFunc fn (first.map ρ) (captured.map ρ)).run P W = .ok v W) ∧ AVR (CR g hp w) x v := by
  unfold dFunc at h
  split at h
  · rename_i f ids hfi hob
    simp only [Option.some.injEq, Prod.mk.injEq] at h
    obtain ⟨_, rfl⟩ := h
    obtain ⟨h1, h2⟩ := objs_sound (g := g) (hp := hp) (w := w) (vs := captured.toList.map ρ) hob (by simp) (fun i x v hx hv => by
      simp only [List.getElem?_map, Option.map_eq_some_iff] at hx hv
      obtain ⟨a, ha, rfl⟩ := hx
      obtain ⟨b, hb, rfl⟩ := hv
      rw [ha] at hb; cases hb
      exact hR a)
    have hf : first = #[] := by
      have := congrArg List.toArray hfi; simpa using this
    refine ⟨_, fun _ => rfl, h1, ?_⟩
    subst hf
    unfold clo
    rw [← h2]
    have : Array.map ρ captured = (List.map ρ captured.toList).toArray := Array.ext' (by simp)
    rw [this]; simp
  · cases h
theorem mapM_places {fs : List Field} (h : fs.all (fldOk P) = true) : fs.mapM (fun f => (P.info? f.type).map fun i => (f.offset, i.size)) = some (fs.map fun f => (f.offset, ((P.info? f.type).map (·.size)).getD 0)) := by
  induction fs with
  | nil => simp
  | cons f fs ih =>
    simp only [List.all_cons, Bool.and_eq_true] at h
    obtain ⟨h1, h2⟩ := h
    simp only [fldOk, Bool.and_eq_true, Option.isSome_iff_exists] at h1
    obtain ⟨⟨i, hi⟩, _⟩ := h1
    simp [List.mapM_cons, ih h2, hi]
theorem dBuild_sound (hR : ∀ x, AVR (CR g hp w) (ev x) (ρ x)) {t : TypeId} {parts : Array (Nat × Operand)} (h : dBuild P ev t parts = some (c, x)) (hc : c) :
    ∃ v, (∀ W, (Instr.build t (parts.map fun (i, x) => (i, ρ x))).run P W = .ok v W) ∧ AVR (CR g hp w) x v := by
  unfold dBuild at h
  split at h
  · rename_i y hty
    split at h
    · rename_i cs hk hfill
      simp only [Option.some.injEq, Prod.mk.injEq] at h
      obtain ⟨_, rfl⟩ := h
      obtain ⟨i, u, z, hi, hu, hz, hd, rfl⟩ := tyOf_ex hty
      cases u with
      | struct fs =>
        obtain ⟨r, r1, r2⟩ := fillA_sound (g := g) (hp := hp) (w := w) (vs := (parts.map fun p => (p.1, ρ p.2)).toList) hfill (LR.zero z.cells.toList) (by simp) (fun i p q hp1 hq1 => by
          simp only [List.getElem?_map, Array.toList_map, Option.map_eq_some_iff] at hp1 hq1
          obtain ⟨a, ha, rfl⟩ := hp1
          obtain ⟨b, hb, rfl⟩ := hq1
          rw [ha] at hb; cases hb
          exact ⟨rfl, hR _⟩)
        refine ⟨_, fun W => run_build W t _ r.toArray ?_, r, rfl, r2⟩
        unfold Program.built
        simp only [hi, hu, hz, mapM_places hd]
        rw [← r1]
        congr 1
        funext i
        simp [fldsD]
        cases fs[i]? <;> rfl
      | _ => simp [kindD] at hk
    · cases h
  · cases h
theorem elSize_run {t : TypeId} {z : Nat} (hz : elSize P t = some z) : ∃ e, P.underlying t = some (.slice e) ∧ P.elem t = e ∧ ∀ w, (sizeOf e).run P w = .ok z w := by
  obtain ⟨e, h2, h3⟩ := elSize_ex hz
  exact ⟨e, h2, by unfold Program.elem; rw [h2], h3⟩
theorem sliceAt_eq {t e : TypeId} (h : P.underlying t = some (.slice e)) (x : Value) (lo hi mx : Option Value) (w : World) : (Instr.sliceAt t x lo hi mx).run P w = (Instr.slice t x lo hi mx).run P w := by
  simp only [Instr.sliceAt, Sem.run_bind, run_underlying h, Result.andThen_ok]
theorem dSlice_sound (hR : ∀ x, AVR (CR g hp w) (ev x) (ρ x)) {t : TypeId} {y : Operand} {lo hi mx : Option Operand} (h : dSlice P ev t y lo hi mx = some (c, x)) (hc : c) :
    ∃ v, (∀ W, (Instr.sliceAt t (ρ y) (lo.map ρ) (hi.map ρ) (mx.map ρ)).run P W = .ok v W) ∧ AVR (CR g hp w) x v := by
  have hy := hR y
  unfold dSlice at h
  split at h
  · rename_i z id n kk hh hz hev hlo hhi
    rw [hev] at hy
    simp only [Option.some.injEq, Prod.mk.injEq] at h
    obtain ⟨rfl, rfl⟩ := h
    obtain ⟨b1, b0, A, b2, b3, b4⟩ := hy
    obtain ⟨e, h2, h4, h3⟩ := elSize_run hz
    have hlo' : lo = none := by cases lo <;> simp at hlo ⊢
    subst hlo'
    obtain ⟨hx, rfl⟩ : ∃ hx, hi = some hx := by cases hi with | none => simp at hhi | some hx => exact ⟨hx, rfl⟩
    simp at hhi
    rw [b2]
    simp only [Option.map_none, Option.map_some, int_of hhi (hR hx)]
    refine ⟨.slice A hh.toNat (g.κ id), fun W => ?_, b1, by omega, A, rfl, b3, b4⟩
    rw [sliceAt_eq h2, run_slice_h W t _ _ _ (by rw [h4]; exact h2) _ hh hc.1 (by omega), h4, h3]
    have : ∀ A : Option Addr, A.map (·.add 0) = A := by intro A; cases A <;> simp [Addr.add]
    simp [sliced, Result.andThen, this]
  · rename_i z id n kk hh hz hev hlo hhi
    rw [hev] at hy
    simp only [Option.some.injEq, Prod.mk.injEq] at h
    obtain ⟨rfl, rfl⟩ := h
    obtain ⟨c1, c2⟩ := hc
    obtain ⟨b1, b0, A, b2, b3, b4⟩ := hy
    obtain ⟨e, h2, h4, h3⟩ := elSize_run hz
    have hhi' : hi = none := by cases hi <;> simp at hhi ⊢
    subst hhi'
    obtain ⟨hx, rfl⟩ : ∃ hx, lo = some hx := by cases lo with | none => simp at hlo | some hx => exact ⟨hx, rfl⟩
    simp at hlo
    rw [b2, b3 (by omega)]
    simp only [Option.map_none, Option.map_some, int_of hlo (hR hx)]
    refine ⟨.slice (some ⟨g.γ (.ob id), hh.toNat * z, none⟩) (n - hh.toNat) (g.κ id - hh.toNat), fun W => ?_, b1, by omega, by omega, rfl⟩
    rw [sliceAt_eq h2, run_slice_l W t _ _ _ (by rw [h4]; exact h2) _ hh c1 (by omega), h4, h3]
    have hne : ¬ g.κ id = hh.toNat := by omega
    by_cases h0 : hh.toNat * z = 0 <;> simp only [sliced, Result.andThen, Option.map_some, Addr.add, hne, h0, if_false, if_true, reduceIte, Nat.zero_add]
  · rename_i z k cs kk hh hz hev hlo hhi
    rw [hev] at hy
    simp only [Option.some.injEq, Prod.mk.injEq] at h
    obtain ⟨rfl, rfl⟩ := h
    obtain ⟨c1, c2, c3, c4⟩ := hc
    subst c3
    obtain ⟨e, h2, h4, h3⟩ := elSize_run hz
    have hlo' : lo = none := by cases lo <;> simp at hlo ⊢
    subst hlo'
    obtain ⟨hx, rfl⟩ : ∃ hx, hi = some hx := by cases hi with | none => simp at hhi | some hx => exact ⟨hx, rfl⟩
    simp at hhi
    obtain ⟨A, n, cp, e1, e2, e3⟩ := Rd.form hy
    have hle : hh.toNat ≤ n := Nat.le_of_mul_le_mul_right (by rw [← e2]; exact c2) c4
    rw [e1] at hy ⊢
    simp only [Option.map_none, Option.map_some, int_of hhi (hR hx)]
    have hcut := Rd.cut (show Rd _ _ _ _ from hy) c4 (i := 0) (j := hh.toNat) (by omega) c2
    refine ⟨.slice (cutA A cp 0 z) (hh.toNat - 0) (cp - 0), fun W => ?_, (by simpa using hcut : Rd (Ow hp g) w (.l z (List.take (hh.toNat * z) cs)) _)⟩
    rw [sliceAt_eq h2, run_slice_h W t _ _ _ (by rw [h4]; exact h2) _ hh c1 (by omega), h4, h3]
    simp [sliced, Result.andThen, cutA]
  · rename_i z k cs kk hh hz hev hlo hhi
    rw [hev] at hy
    simp only [Option.some.injEq, Prod.mk.injEq] at h
    obtain ⟨rfl, rfl⟩ := h
    obtain ⟨c1, c2, c3, c4⟩ := hc
    subst c3
    obtain ⟨e, h2, h4, h3⟩ := elSize_run hz
    have hhi' : hi = none := by cases hi <;> simp at hhi ⊢
    subst hhi'
    obtain ⟨hx, rfl⟩ : ∃ hx, lo = some hx := by cases lo with | none => simp at hlo | some hx => exact ⟨hx, rfl⟩
    simp at hlo
    obtain ⟨A, n, cp, e1, e2, e3⟩ := Rd.form hy
    have hle : hh.toNat ≤ n := Nat.le_of_mul_le_mul_right (by rw [← e2]; exact c2) c4
    rw [e1] at hy ⊢
    simp only [Option.map_none, Option.map_some, int_of hlo (hR hx)]
    have hcut := Rd.cut (show Rd _ _ _ _ from hy) c4 (i := hh.toNat) (j := n) hle (by rw [e2]; exact Nat.le_refl _)
    refine ⟨.slice (cutA A cp hh.toNat z) (n - hh.toNat) (cp - hh.toNat), fun W => ?_, ?_⟩
    · rw [sliceAt_eq h2, run_slice_l W t _ _ _ (by rw [h4]; exact h2) _ hh c1 (by omega), h4, h3]
      simp [sliced, Result.andThen, cutA]
    · rw [List.take_of_length_le (by rw [List.length_drop, e2, Nat.sub_mul]; exact Nat.le_refl _)] at hcut
      exact hcut
  · cases h
theorem dLen_sound (hR : ∀ x, AVR (CR g hp w) (ev x) (ρ x)) {t : TypeId} {y : Operand} (h : dLen P ev t y = some (c, x)) (hc : c) : ∃ v, (∀ W, (Builtin.len_ #[t] 3 #[ρ y]).run P W = .ok v W) ∧ AVR (CR g hp w) x v := by
  have hy := hR y
  unfold dLen at h
  split at h
  · rename_i ty hty
    split at h
    · rename_i id n hk hev
      rw [hev] at hy
      simp only [Option.some.injEq, Prod.mk.injEq] at h
      obtain ⟨rfl, rfl⟩ := h
      obtain ⟨b1, b0, A, b2, b3, b4⟩ := hy
      rw [b2]
      refine ⟨_, fun W => ?_, rfl⟩
      simp [Builtin.len_, run_underlying (tyOf.slice hty hk), goInt]
    · rename_i id off n k hk hev
      rw [hev] at hy
      simp only [Option.some.injEq, Prod.mk.injEq] at h
      obtain ⟨rfl, rfl⟩ := h
      obtain ⟨b1, b2, b3, b4⟩ := hy
      rw [b4]
      refine ⟨_, fun W => ?_, rfl⟩
      simp [Builtin.len_, run_underlying (tyOf.slice hty hk), goInt]
    · rename_i k cs hk hev
      rw [hev] at hy
      simp only [Option.some.injEq, Prod.mk.injEq] at h
      obtain ⟨rfl, rfl⟩ := h
      obtain ⟨A, n, cp, e1, e2, e3⟩ := Rd.form hy
      rw [e1]
      refine ⟨_, fun W => ?_, rfl⟩
      rw [e2, Nat.mul_div_cancel _ hc]
      simp [Builtin.len_, run_underlying (tyOf.slice hty hk), goInt]
    · rename_i A n cp hk hev
      rw [int_of hev hy]
      simp only [Option.some.injEq, Prod.mk.injEq] at h
      obtain ⟨rfl, rfl⟩ := h
      refine ⟨_, fun W => ?_, rfl⟩
      simp [Builtin.len_, run_underlying (tyOf.slice hty hk), goInt]
    · rename_i s hk hev
      rw [int_of hev hy]
      simp only [Option.some.injEq, Prod.mk.injEq] at h
      obtain ⟨rfl, rfl⟩ := h
      refine ⟨_, fun W => ?_, rfl⟩
      obtain ⟨i, u, z, hi, hu, hz, hd, rfl⟩ := tyOf_ex hty
      cases u <;> simp [kindD] at hk
      simp [Builtin.len_, run_underlying hu, goInt]
    · cases h
  · cases h
theorem dMin_sound (hR : ∀ x, AVR (CR g hp w) (ev x) (ρ x)) {mx : Bool} {y z : Operand} (h : dMin ev mx y z = some (c, x)) (hc : c) (ts : Array TypeId) (ty : TypeId) :
    ∃ v, (∀ W, ((if mx then Builtin.max_ ts ty #[ρ y, ρ z] else Builtin.min_ ts ty #[ρ y, ρ z])).run P W = .ok v W) ∧ AVR (CR g hp w) x v := by
  unfold dMin at h
  split at h
  · rename_i a b ha hb
    rw [int_of ha (hR y), int_of hb (hR z)]
    simp only [Option.some.injEq, Prod.mk.injEq] at h
    obtain ⟨rfl, rfl⟩ := h
    cases mx
    · exact ⟨_, fun W => by simp [Builtin.min_, Builtin.min2], rfl⟩
    · exact ⟨_, fun W => by simp [Builtin.max_, Builtin.max2], rfl⟩
  · cases h
theorem dCall_sound (hR : ∀ x, AVR (CR g hp w) (ev x) (ρ x)) {cl : Call} {ty : TypeId} (h : dCall P ev cl = some (c, x)) (hc : c) :
    ∃ v, (∀ W, (do let d ← resolve ρ cl ty; invoke d.target d.args : Sem Next).run P W = .ok (.value v) W) ∧ AVR (CR g hp w) x v := by
  obtain ⟨callee, args, ts⟩ := cl
  unfold dCall at h
  simp only at h
  split at h
  · rename_i y t ha ht
    obtain ⟨v, h1, h2⟩ := dLen_sound hR h hc
    refine ⟨v, fun W => ?_, h2⟩
    have ha' : args = #[y] := by apply Array.ext'; simpa using ha
    have ht' : ts = #[t] := by apply Array.ext'; simpa using ht
    subst ha'; subst ht'
    simp only [resolve, invoke, builtin, Sem.run_bind, Sem.run_pure, Result.andThen_ok, List.map_toArray, List.map_cons, List.map_nil]
    have h1' : (Builtin.len_ #[t] ty #[ρ y]).run P W = .ok v W := h1 W
    rw [h1']; rfl
  · rename_i _ y z ha
    obtain ⟨v, h1, h2⟩ := dMin_sound (P := P) hR h hc ts ty
    refine ⟨v, fun W => ?_, h2⟩
    have ha' : args = #[y, z] := by apply Array.ext'; simpa using ha
    subst ha'
    simp only [resolve, invoke, builtin, Sem.run_bind, Sem.run_pure, Result.andThen_ok, List.map_toArray, List.map_cons, List.map_nil]
    have h1 := h1 W
    simp only [Bool.false_eq_true, if_false] at h1
    rw [h1]; rfl
  · rename_i _ y z ha
    obtain ⟨v, h1, h2⟩ := dMin_sound (P := P) hR h hc ts ty
    refine ⟨v, fun W => ?_, h2⟩
    have ha' : args = #[y, z] := by apply Array.ext'; simpa using ha
    subst ha'
    simp only [resolve, invoke, builtin, Sem.run_bind, Sem.run_pure, Result.andThen_ok, List.map_toArray, List.map_cons, List.map_nil]
    have h1 := h1 W
    simp only [if_true] at h1
    rw [h1]; rfl
  · cases h
theorem d_sound (hR : ∀ x, AVR (CR g hp w) (ev x) (ρ x)) {o : Oper} (h : dOp P o.op ev = some (c, x)) (hc : c) : ∃ v, (∀ W, (execOp ρ o).run P W = .ok (.value v) W) ∧ AVR (CR g hp w) x v := by
  have lift : ∀ {s : Sem Value}, (∃ v, (∀ W, s.run P W = .ok v W) ∧ AVR (CR g hp w) x v) → ∃ v, (∀ W, (do pure (Next.value (← s)) : Sem Next).run P W = .ok (.value v) W) ∧ AVR (CR g hp w) x v := by
    rintro s ⟨v, h1, h2⟩
    exact ⟨v, by simp [h1], h2⟩
  obtain ⟨dst, op, ty, pos, af, gd⟩ := o
  simp only at h
  cases op <;> simp only [dOp] at h <;> (try (cases h; done))
  case move y => simp only [Option.some.injEq, Prod.mk.injEq] at h; obtain ⟨_, rfl⟩ := h; exact ⟨_, fun W => by simp [execOp], hR y⟩
  case assign y => simp only [Option.some.injEq, Prod.mk.injEq] at h; obtain ⟨_, rfl⟩ := h; exact ⟨_, fun W => by simp [execOp], hR y⟩
  case pick => exact dPick_sound hR h hc
  case nilCheck y => exact dNil_sound hR (o := ⟨dst, .nilCheck y, ty, pos, af, gd⟩) rfl h hc
  case binOp => exact lift (dBin_sound hR h hc)
  case unOp => exact lift (dUn_sound hR h hc)
  case convert => exact lift (dConv_sound hR h hc)
  case field => exact lift (dField_sound hR h hc)
  case fieldAddr => exact lift (dFieldAddr_sound hR h hc)
  case indexAddr => exact lift (dIndex_sound hR h hc)
  case extract => exact lift (dExt_sound hR h hc)
  case makeFunc => exact lift (dFunc_sound hR h hc)
  case build => exact lift (dBuild_sound hR h hc)
  case slice => exact lift (dSlice_sound hR h hc)
  case call => exact dCall_sound hR h hc
end
end Go.Proofs.Ytgclmlbaodcccaa
