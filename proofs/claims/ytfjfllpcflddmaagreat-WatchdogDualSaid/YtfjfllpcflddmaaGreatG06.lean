/- BinarySearch, Insert and the watchdog's with. -/
import Derived.Test.YtfjfllpcflddmaaGreatG02
import Derived.Test.YtfjfllpcflddmaaGreatMH
import Derived.Test.YtfjfllpcflddmaaGreatShlf
import Derived.Shelf.Slices.SearchI
import Derived.Shelf.Spec.SlicesInsertGrow
namespace Go.Proofs.YtfjfllpcflddmaaGreat
set_option linter.unusedVariables false
set_option linter.unusedSimpArgs false
open Go.RowKit Go.Shelf
set_option maxRecDepth 100000

/-- a contract's new objects, dropped -/
theorem FC.drop {P : Program} {f : FuncId} {args : List AV} {R : AV → List Ob → Prop} (h : FC P f args [] R) : FC P f args [] (fun r o => o = [] ∧ ∃ r0 o0, R r0 o0 ∧ r = r0.ren []) := by
  intro g w vals hr ha
  refine (h g w vals hr ha).mono ?_
  rintro x w' ⟨v, r, outs, g', rfl, hR, h1, h2, h3, h4, h5⟩
  have hp := h1.pk (ρ := []) (M := g'.M) (fun b hb => .inl hb) h1.ml (fun ℓ hl => by
    cases ℓ with
    | ob i => rcases hl with ⟨r, e1, _⟩ | ⟨kv, e1⟩ <;> simp [pkh] at e1
    | cl i j => obtain ⟨r, _, _, e1, _⟩ := hl; simp [pkh] at e1) rfl
  have hv2 := AVR.ren (ρ := []) (M := g'.M) (fun b hb => .inl hb) h4
  refine ⟨v, r.ren [], [], _, rfl, ⟨rfl, r, outs, hR, rfl⟩, hp, ⟨Nat.le_refl _, h2.2.1, fun i hi => by simp at hi⟩, fun ℓ hl => ?_, hv2, h5⟩
  cases ℓ with
  | ob i => rcases hl with ⟨r, e1, _⟩ | ⟨kv, e1⟩ <;> simp at e1
  | cl i j => obtain ⟨r, _, _, e1, _⟩ := hl; simp at e1
theorem Fp.drewN (w : World) (M : Nat → Prop) : ∀ q, Fp M w (w.drewN q) := fun q => ⟨rfl, rfl, rfl, Nat.le_refl _, fun _ _ _ => rfl, Nat.le_add_right _ _⟩
theorem asc_le {xs : List Int} (h : Asc xs) : xs.Pairwise (· ≤ ·) := h.imp fun h => by omega
theorem count_above {x : Int} : ∀ {xs : List Int}, (∀ y ∈ xs, x < y) → xs.countP (· < x) = 0
  | [], _ => rfl
  | y :: ys, h => by
    have h1 := h y (by simp)
    rw [List.countP_cons_of_neg (by simp; omega)]
    exact count_above fun z hz => h z (by simp [hz])
theorem addI_count {x : Int} : ∀ {xs : List Int}, Asc xs → x ∉ xs → addI x xs = xs.take (xs.countP (· < x)) ++ [x] ++ xs.drop (xs.countP (· < x))
  | [], _, _ => rfl
  | y :: ys, h, hx => by
    have h' := List.pairwise_cons.1 h
    simp only [addI]
    by_cases hy : y < x
    · rw [if_pos hy, List.countP_cons_of_pos (by simpa using hy), addI_count h'.2 (fun hm => hx (by simp [hm]))]
      simp
    · have hne : y ≠ x := fun e => hx (by simp [e])
      rw [if_neg hy, if_neg hne, List.countP_cons_of_neg (by simpa using hy), count_above (fun z hz => by have := h'.1 z hz; omega)]
      simp
theorem addI_mem {x : Int} : ∀ {xs : List Int}, Asc xs → x ∈ xs → addI x xs = xs
  | [], _, h => by simp at h
  | y :: ys, h, hx => by
    have h' := List.pairwise_cons.1 h
    simp only [addI]
    rcases List.mem_cons.1 hx with rfl | hx
    · rw [if_neg (by omega), if_pos rfl]
    · rw [if_pos (h'.1 x hx), addI_mem h'.2 hx]
theorem nolive {g : Gh} {ℓ : Loc} : ¬ Lv [] g ℓ := by
  intro hl
  cases ℓ with
  | ob i => rcases hl with ⟨r, e1, _⟩ | ⟨kv, e1⟩ <;> simp at e1
  | cl i j => obtain ⟨r, _, _, e1, _⟩ := hl; simp at e1
theorem args2 {g : Gh} {hp : List Ob} {w : World} {a b : AV} {vals : List Value} (h : argsR g hp w [a, b] vals) : ∃ u v, vals = [u, v] ∧ AVR (CR g hp w) a u ∧ AVR (CR g hp w) b v := by
  obtain ⟨h1, h2⟩ := h
  match vals, h1 with
  | [u, v], _ =>
    obtain ⟨u', e1, r1⟩ := h2 0 a rfl
    obtain ⟨v', e2, r2⟩ := h2 1 b rfl
    simp at e1 e2
    subst e1; subst e2
    exact ⟨u, v, rfl, r1, r2⟩
theorem args3 {g : Gh} {hp : List Ob} {w : World} {a b c : AV} {vals : List Value} (h : argsR g hp w [a, b, c] vals) : ∃ u v x, vals = [u, v, x] ∧ AVR (CR g hp w) a u ∧ AVR (CR g hp w) b v ∧ AVR (CR g hp w) c x := by
  obtain ⟨h1, h2⟩ := h
  match vals, h1 with
  | [u, v, x], _ =>
    obtain ⟨u', e1, r1⟩ := h2 0 a rfl
    obtain ⟨v', e2, r2⟩ := h2 1 b rfl
    obtain ⟨x', e3, r3⟩ := h2 2 c rfl
    simp at e1 e2 e3
    subst e1; subst e2; subst e3
    exact ⟨u, v, x, rfl, r1, r2, r3⟩
theorem rdInts {M : Nat → Prop} {w : World} {xs : List Int} {b off : Nat} {us : Nat → Value} (h1 : ∀ (j : Nat) (t : Tr), (tInts xs)[j]? = some t → w.cell? ⟨b, off + j, none⟩ = some (us j)) (h2 : ∀ (j : Nat) (t : Tr), (tInts xs)[j]? = some t → Rd M w t (us j)) :
    ∀ j x, xs[j]? = some x → w.cell? ⟨b, off + j, none⟩ = some (.int .i64 x) := by
  intro j x hx
  have ht := tInts_get hx
  rw [h1 j _ ht]
  have h3 := h2 j _ ht
  revert h3
  generalize us j = y
  intro h3
  cases h3
  rfl

def rBs (xs : List Int) (x : Int) : AV := .tup [.c (.v (.int .i64 (xs.countP (· < x) : Nat))), .c (.v (.bool (xs.contains x)))]
theorem bins_fc (xs : List Int) (x : Int) (hn : xs.length ≤ 140737488355328) (hx : Asc xs) : FC Tryz.prog 132 [aInts xs, .i x] [] (fun r o => o = [] ∧ r = rBs xs x) := by
  by_cases h0 : xs = []
  · subst h0
    refine fc_intro Tryz.func132 rfl (by rw [Tryz.ntmps132]; simp) ?_
    rw [Tryz.ntmps132]
    simp only [enum, aInts]
    (repeat (first | (refine aw_seq ?_; intro K hK) | refine aw_block ?_ | refine aw_region ?_ | (refine lst_x rfl rfl ?_; intro K1 hK1; simp only [undef, evE, dSlice, dFunc, evT, reduceIte, reduceCtorEq, Nat.reduceEqDiff, Nat.reduceAdd, Nat.reduceMul, Nat.reduceSub, Nat.reduceDiv, Nat.reduceLT, Nat.reduceLeDiff, Nat.reduceBEq, Nat.reduceBNe, List.reduceReplicate, ty0, ty1, ty3, ty22, ty93, ty132, ty133, ty157, ty189, ty190, tInts_len]; first | (refine hK1 _ ?_; clear hK1 K1) | (refine ⟨by first | omega | (simp; done) | (simp; omega), hK1 _ ?_⟩; clear hK1 K1)) | ((first | refine lst_nil ?_ | refine aw_skip ?_); refine hK _ ?_; clear hK K)))
    refine aw_loop (fun _ : Unit => { tm := [(0, .a (.c (.t 1 (tInts [])))), (1, .i x), (6, .i 0), (7, .i 0), (8, .i 0)], hp := [], n := 54, pin := 0 }) (fun _ => True) (fun _ => 0) () ?_ ?_ ?_
    · trivial
    · (refine le_tm ?_; simp only [LeTm, evE, dSlice, dFunc, evT, reduceIte, reduceCtorEq, Nat.reduceEqDiff, Nat.reduceAdd, Nat.reduceMul, Nat.reduceSub, Nat.reduceDiv, Nat.reduceLT, Nat.reduceLeDiff, Nat.reduceBEq, Nat.reduceBNe, List.reduceReplicate, ty0, ty1, ty3, ty22, ty93, ty132, ty133, ty157, ty189, ty190, tInts, List.map_nil, Int.natCast_zero]; try simp)
    · rintro _ _ K hK
      (repeat (first | (refine aw_seq ?_; intro K hK) | refine aw_block ?_ | refine aw_region ?_ | (refine lst_x rfl rfl ?_; intro K1 hK1; simp only [undef, evE, dSlice, dFunc, evT, reduceIte, reduceCtorEq, Nat.reduceEqDiff, Nat.reduceAdd, Nat.reduceMul, Nat.reduceSub, Nat.reduceDiv, Nat.reduceLT, Nat.reduceLeDiff, Nat.reduceBEq, Nat.reduceBNe, List.reduceReplicate, ty0, ty1, ty3, ty22, ty93, ty132, ty133, ty157, ty189, ty190]; first | (refine hK1 _ ?_; clear hK1 K1) | (refine ⟨by first | omega | (simp; done) | (simp; omega), hK1 _ ?_⟩; clear hK1 K1)) | ((first | refine lst_nil ?_ | refine aw_skip ?_); refine hK _ ?_; clear hK K)))
      (refine aw_cnd ?_; intro X Y hX hY; simp only [evE, dSlice, dFunc, evT, reduceIte, reduceCtorEq, Nat.reduceEqDiff, Nat.reduceAdd, Nat.reduceMul, Nat.reduceSub, Nat.reduceDiv, Nat.reduceLT, Nat.reduceLeDiff, Nat.reduceBEq, Nat.reduceBNe, List.reduceReplicate, ty0, ty1, ty3, ty22, ty93, ty132, ty133, ty157, ty189, ty190, Int.lt_irrefl, decide_false])
      refine hY ?_
      clear hX hY X Y
      (refine aw_exit ?_; simp only [ThenA, InBl, reduceIte, Nat.reduceEqDiff]; (first | refine hK _ ?_ | (clear hK K; refine hK _ ?_) | (clear hK K; clear hK K; refine hK _ ?_) | (clear hK K; clear hK K; clear hK K; refine hK _ ?_) | (clear hK K; clear hK K; clear hK K; clear hK K; refine hK _ ?_) | (clear hK K; clear hK K; clear hK K; clear hK K; clear hK K; refine hK _ ?_)); clear hK K)
      have hl : decide ((0 : Int) < 0) = false := by decide
      (repeat (first | (refine aw_seq ?_; intro K hK) | refine aw_block ?_ | refine aw_region ?_ | (refine lst_x rfl rfl ?_; intro K1 hK1; simp only [undef, evE, dSlice, dFunc, evT, reduceIte, reduceCtorEq, Nat.reduceEqDiff, Nat.reduceAdd, Nat.reduceMul, Nat.reduceSub, Nat.reduceDiv, Nat.reduceLT, Nat.reduceLeDiff, Nat.reduceBEq, Nat.reduceBNe, List.reduceReplicate, ty0, ty1, ty3, ty22, ty93, ty132, ty133, ty157, ty189, ty190, hl]; first | (refine hK1 _ ?_; clear hK1 K1) | (refine ⟨by first | omega | (simp; done) | (simp; omega), hK1 _ ?_⟩; clear hK1 K1)) | ((first | refine lst_nil ?_ | refine aw_skip ?_); refine hK _ ?_; clear hK K)))
      ((try refine aw_ret ?_); (try refine lst_nil ?_); (try simp only [ThenA, InBl]); refine ret_mk (by first | exact .inl rfl | exact .inr rfl) rfl ?_; simp only [rtn, resA, resL, resV, Tryz.results132, evE, dSlice, dFunc, evT, reduceIte, reduceCtorEq, Nat.reduceEqDiff, Nat.reduceAdd, Nat.reduceMul, Nat.reduceSub, Nat.reduceDiv, Nat.reduceLT, Nat.reduceLeDiff, Nat.reduceBEq, Nat.reduceBNe, List.reduceReplicate, ty0, ty1, ty3, ty22, ty93, ty132, ty133, ty157, ty189, ty190])
      rfl
  · intro g w vals hr ha
    obtain ⟨u, v, rfl, hu, hv⟩ := args2 ha
    cases (show v = _ from hv)
    have hu : Rd (Ow [] g) w (.l 1 (tInts xs)) u := hu
    generalize ht : tInts xs = ts at hu
    cases hu with
    | e A c => exact absurd (by have := congrArg List.length ht; rw [tInts_len] at this; exact List.eq_nil_of_length_eq_zero this) h0
    | l _ _ b off n cp us hl hn0 hc hM hb h1 h2 =>
      subst ht
      have hnl : xs.length = n := by rw [tInts_len] at hl; omega
      subst hnl
      have hcell := rdInts h1 h2
      have := Any.slices_BinarySearch_int Tryz.binS b off xs.length cp xs x w (Nat.le_refl _) (by omega) (fun j hj => by
        rw [hcell j _ (List.getElem?_eq_getElem hj)]
        simp [List.getD, hj]) (by rw [List.take_length]; exact asc_le hx)
      refine (show Calls Tryz.prog 132 _ w _ from this).mono ?_
      rintro e w' ⟨rfl, q, rfl⟩
      rw [List.take_length]
      refine ⟨_, rBs xs x, [], g, rfl, ⟨rfl, rfl⟩, ⟨fun b hb => hr.ml b hb, fun ℓ hl => absurd hl nolive, fun ℓ _ hl => absurd hl nolive, fun id r e => by simp at e, fun id kv e => by simp at e⟩, ⟨Nat.le_refl _, Ext.refl _ _⟩, fun ℓ hl => absurd hl nolive, ⟨_, rfl, rfl, fun i y hy => ?_⟩, Fp.drewN _ _ _⟩
      match i, hy with
      | 0, hy => obtain rfl := Option.some.inj hy; exact ⟨_, rfl, rfl⟩
      | 1, hy => obtain rfl := Option.some.inj hy; exact ⟨_, rfl, rfl⟩
      | i + 2, hy => simp at hy

/-! slices.Insert, out of the shelf: what it gives is frozen, what it took is dead -/
theorem fp_setCells (b : Nat) : ∀ (vs : List Value) (o : Nat) (w : World), Fp (fun q => q = b) w (w.setCells b o vs)
  | [], _, w => Fp.refl _ _
  | v :: r, o, w => (Fp.setCell (M := fun q => q = b) (p := ⟨b, o, none⟩) rfl w v).trans (fp_setCells b r (o + 1) _)
theorem sz_setCells (b : Nat) : ∀ (vs : List Value) (o : Nat) (w : World), (w.setCells b o vs).heap.size = w.heap.size
  | [], _, _ => rfl
  | v :: r, o, w => by rw [World.setCells, sz_setCells b r]; simp [World.setCell]
/-- cells put down behind one another -/
theorem put_cell {w : World} {b o : Nat} {vs : List Value} (h : ∀ j, j < vs.length → (w.cell? ⟨b, o + j, none⟩).isSome = true) (j : Nat) :
    (w.setCells b o vs).cell? ⟨b, j, none⟩ = if o ≤ j ∧ j < o + vs.length then vs[j - o]? else w.cell? ⟨b, j, none⟩ := by
  split
  · rename_i hj
    have := World.cell?_setCells_in b vs o w h (j - o) (by omega)
    rw [show o + (j - o) = j by omega] at this
    rw [this, List.getElem?_eq_getElem (by omega)]
  · rename_i hj
    exact World.cell?_setCells_out b vs o w ⟨b, j, none⟩ (fun _ _ => by show j < o ∨ o + vs.length ≤ j; omega)
theorem new_cell {w : World} {arr : Array Value} {e : TypeId} (j : Nat) : (w.alloc (.cells arr e)).cell? ⟨w.heap.size, j, none⟩ = arr[j]? := cell_of_row _ _ _ _ _ _ (heap_alloc_new w _)
theorem new_lt {w : World} {o : Obj} : w.heap.size < (w.alloc o).heap.size := by simp
def vInts (xs : List Int) : List Value := xs.map (Value.int .i64)
theorem vInts_one {xs : List Int} : ∀ v ∈ vInts xs, v.oneCell' = true := by
  intro v hv
  simp only [vInts, List.mem_map] at hv
  obtain ⟨x, _, rfl⟩ := hv; rfl
theorem ins_get {xs : List Int} {x : Int} {i : Nat} (hi : i ≤ xs.length) (j : Nat) : (xs.take i ++ [x] ++ xs.drop i)[j]? = if j < i then xs[j]? else if j = i then some x else xs[j - 1]? := by
  rw [List.append_assoc]
  by_cases h1 : j < i
  · rw [if_pos h1, List.getElem?_append_left (by simp; omega), List.getElem?_take, if_pos h1]
  · rw [if_neg h1, List.getElem?_append_right (by simp; omega)]
    have e : j - (xs.take i).length = j - i := by simp [Nat.min_eq_left hi]
    rw [e]
    by_cases h2 : j = i
    · subst h2; simp
    · rw [if_neg h2]
      obtain ⟨q, hq⟩ : ∃ q, j - i = q + 1 := ⟨j - i - 1, by omega⟩
      rw [hq]
      show (xs.drop i)[q]? = _
      rw [List.getElem?_drop]
      congr 1; omega
theorem insert_fc (xs : List Int) (x : Int) (i : Nat) (hi : i ≤ xs.length) (hn : xs.length ≤ 1000000000) :
    FC Tryz.prog 133 [.a (.c (.s 0 xs.length)), .i i, .a (.c (.s 1 1))] [rInts xs, rInts [x]] (fun r o => o = [.d, .d] ∧ r = aInts (xs.take i ++ [x] ++ xs.drop i)) := by
  intro g w vals hr ha
  obtain ⟨u, v, z, rfl, hu, hv, hz⟩ := args3 ha
  cases (show v = _ from hv)
  obtain ⟨_, b2, A, rfl, b3, b4⟩ := (show CR g [rInts xs, rInts [x]] w (.s 0 xs.length) u from hu)
  obtain ⟨_, c2, A2, rfl, c3, c4⟩ := (show CR g [rInts xs, rInts [x]] w (.s 1 1) z from hz)
  rcases hr.row 1 ⟨3, 1, true, cInts [x]⟩ rfl with ⟨_, h⟩ | ⟨k1, _, arr1, ha1, hl1, hs1, hm1, hc1⟩
  · simp [cInts] at h
  obtain rfl := c3 k1
  have hx1 : w.cell? ⟨g.γ (.ob 1), 0, none⟩ = some (.int .i64 x) := by
    obtain ⟨u, u1, u2⟩ := hc1 0 (.v (.int .i64 x)) rfl
    rw [cell_of_row _ _ _ _ _ _ ha1, u1]
    rw [show u = _ from u2]
  have hvs : ∀ j v, [Value.int .i64 x][j]? = some v → w.cell? ⟨g.γ (.ob 1), 0 + j, none⟩ = some v := by
    intro j v hj
    match j, hj with
    | 0, hj => simp at hj; subst hj; exact hx1
    | j + 1, hj => simp at hj
  have live1 : Lv [rInts xs, rInts [x]] g (.ob 1) := .inl ⟨_, rfl, k1⟩
  have nl : ∀ ℓ, ¬ Lv [.d, .d] g ℓ := by
    intro ℓ hl
    cases ℓ with
    | ob q =>
      match q, hl with
      | 0, hl => rcases hl with ⟨r, e, _⟩ | ⟨kv, e⟩ <;> simp at e
      | 1, hl => rcases hl with ⟨r, e, _⟩ | ⟨kv, e⟩ <;> simp at e
      | q + 2, hl => rcases hl with ⟨r, e, _⟩ | ⟨kv, e⟩ <;> simp at e
    | cl q j =>
      match q, hl with
      | 0, hl => obtain ⟨r, _, _, e, _⟩ := hl; simp at e
      | 1, hl => obtain ⟨r, _, _, e, _⟩ := hl; simp at e
      | q + 2, hl => obtain ⟨r, _, _, e, _⟩ := hl; simp at e
  have nor : ∀ (q : Nat) (r : Row), ([.d, .d] : List Ob)[q]? ≠ some (.r r) := by
    intro q r e
    match q, e with
    | 0, e => simp at e
    | 1, e => simp at e
    | q + 2, e => simp at e
  have nom : ∀ (q : Nat) (kv : List (Value × C)), ([.d, .d] : List Ob)[q]? ≠ some (.m kv) := by
    intro q r e
    match q, e with
    | 0, e => simp at e
    | 1, e => simp at e
    | q + 2, e => simp at e
  have hlen : (xs.take i ++ [x] ++ xs.drop i).length = xs.length + 1 := by simp; omega
  have fin : ∀ (b c : Nat) (w' : World), xs.length + 1 ≤ c → ((g.κ 0 ≠ 0 ∧ b = g.γ (.ob 0)) ∨ w.heap.size ≤ b) → b < w'.heap.size → (∀ j, j < xs.length + 1 → w'.cell? ⟨b, j, none⟩ = ((xs.take i ++ [x] ++ xs.drop i)[j]?).map (Value.int .i64)) →
      Fp (fun q => g.κ 0 ≠ 0 ∧ q = g.γ (.ob 0)) w w' → FPost g [rInts xs, rInts [x]] w (fun r o => o = [.d, .d] ∧ r = aInts (xs.take i ++ [x] ++ xs.drop i)) (.returned (.slice (some ⟨b, 0, none⟩) (xs.length + 1) c)) w' := by
    intro b c w' h1 h2 h3 h4 h5
    have live0 : g.κ 0 ≠ 0 → Lv [rInts xs, rInts [x]] g (.ob 0) := fun h => .inl ⟨_, rfl, h⟩
    refine ⟨_, _, [.d, .d], g, rfl, ⟨rfl, rfl⟩, ⟨fun b hb => Nat.lt_of_lt_of_le (hr.ml b hb) h5.size, fun ℓ hl => absurd hl (nl ℓ), fun ℓ _ hl => absurd hl (nl ℓ), fun q r e => absurd e (nor q r), fun q kv e => absurd e (nom q kv)⟩, ⟨Nat.le_refl _, Ext.refl _ _⟩, fun ℓ hl => absurd hl (nl ℓ), ?_, h5.mono fun q _ hq => ⟨.ob 0, live0 hq.1, hq.2.symm⟩⟩
    show Rd (Ow [.d, .d] g) w' (.l 1 (tInts (xs.take i ++ [x] ++ xs.drop i))) _
    refine .l 1 _ b 0 (xs.length + 1) c (fun j => (((xs.take i ++ [x] ++ xs.drop i)[j]?).map (Value.int .i64)).getD undef) (by rw [tInts_len, hlen, Nat.mul_one]) (by omega) h1 (fun ho => ?_) h3 (fun j t hj => ?_) (fun j t hj => ?_)
    · rcases ho with ho | ⟨ℓ, hl, _⟩
      · rcases h2 with ⟨h6, rfl⟩ | h6
        · exact hr.md _ (live0 h6) ho
        · have := hr.ml b ho; omega
      · exact nl ℓ hl
    · have hjl : j < (xs.take i ++ [x] ++ xs.drop i).length := by rw [← tInts_len]; exact (List.getElem?_eq_some_iff.1 hj).1
      rw [Nat.zero_add, h4 j (by omega), List.getElem?_eq_getElem hjl]; rfl
    · have hjl : j < (xs.take i ++ [x] ++ xs.drop i).length := by rw [← tInts_len]; exact (List.getElem?_eq_some_iff.1 hj).1
      rw [tInts_get (List.getElem?_eq_getElem hjl)] at hj
      obtain rfl := Option.some.inj hj
      rw [List.getElem?_eq_getElem hjl]
      exact .v _ rfl
  by_cases k0 : g.κ 0 = 0
  · have hx0 : xs = [] := List.eq_nil_of_length_eq_zero (by omega)
    subst hx0
    have : i = 0 := by simpa using hi
    subst this
    have := Any2.slices_Insert_int_end_grow Tryz.insI A 0 0 (g.γ (.ob 1)) 0 1 (g.κ 1) [] [.int .i64 x] w (by omega) (by omega) (by omega) (by omega) rfl rfl (fun _ => rfl) (fun a _ j v hj => by simp at hj) hvs (by simp [Value.oneCell'])
    rw [k0]
    refine (show Calls Tryz.prog 133 _ w _ from this).mono ?_
    rintro e w' ⟨rfl, rfl⟩
    refine fin w.heap.size _ _ (Nat.le_trans (by simp) (grownCap_ge w (0 + 1) 0 _)) (.inr (Nat.le_refl _)) (new_lt (w := w.drew)) (fun j hj => ?_) ((Fp.drew w _).trans (Fp.alloc _ _ _))
    have : j = 0 := by simp at hj; omega
    subst this
    refine (new_cell (w := w.drew) 0).trans ?_
    rw [Array.getElem?_append_left (by simp)]
    simp
  · rcases hr.row 0 ⟨3, 1, true, cInts xs⟩ rfl with ⟨h, _⟩ | ⟨_, _, arr, ha0, hl0, hs0, hm0, hc0⟩
    · exact absurd h k0
    obtain rfl := b3 k0
    have live0 : Lv [rInts xs, rInts [x]] g (.ob 0) := .inl ⟨_, rfl, k0⟩
    have hne : g.γ (.ob 1) ≠ g.γ (.ob 0) := fun e => by have := hr.inj _ _ live1 live0 e; cases this
    have hlt0 := hr.lt live0
    have hcell : ∀ j y, xs[j]? = some y → w.cell? ⟨g.γ (.ob 0), j, none⟩ = some (.int .i64 y) := by
      intro j y hj
      obtain ⟨u, u1, u2⟩ := hc0 j (.v (.int .i64 y)) (cInts_get hj)
      rw [cell_of_row _ _ _ _ _ _ ha0, u1]
      rw [show u = _ from u2]
    have hcs : ∀ j v, (vInts xs)[j]? = some v → w.cell? ⟨g.γ (.ob 0), 0 + j, none⟩ = some v := by
      intro j v hj
      simp only [vInts, List.getElem?_map, Option.map_eq_some_iff] at hj
      obtain ⟨y, hy, rfl⟩ := hj
      rw [Nat.zero_add]; exact hcell j y hy
    have hs0 : arr.size = g.κ 0 := by simpa using hs0
    have hsp : ∀ j, j < g.κ 0 → (w.cell? ⟨g.γ (.ob 0), 0 + j, none⟩).isSome = true := by
      intro j hj
      rw [cell_of_row _ _ _ _ _ _ ha0, Nat.zero_add, Array.getElem?_eq_getElem (by omega)]; rfl
    have hfz : ∀ j, w.frozen? ⟨g.γ (.ob 0), j, none⟩ = false := by intro j; simp [World.frozen?, ha0]
    have hvl : (vInts xs).length = xs.length := by simp [vInts]
    by_cases hin : i < xs.length
    · by_cases hroom : xs.length + 1 ≤ g.κ 0
      · have := Any2.slices_Insert_int_shift Tryz.insI (g.γ (.ob 0)) 0 xs.length (g.κ 0) i (g.γ (.ob 1)) 0 1 (g.κ 1) (vInts xs) [.int .i64 x] w hin (by omega) hroom hm0 hne hvl rfl hcs (fun j hj => hsp j (by omega)) (fun j _ => hfz _) hvs vInts_one (by simp [Value.oneCell'])
          3 3 arr1.size arr.size (by simp [World.shape?, ha1]) (by simp [World.shape?, ha0]) (by omega) (by simp [World.frozen?, ha1]) (by simp [World.frozen?, ha1])
        refine (show Calls Tryz.prog 133 _ w _ from this).mono ?_
        rintro e w' ⟨rfl, rfl⟩
        have hd1 : ∀ j, j < ((vInts xs).drop i).length → (w.drew.cell? ⟨g.γ (.ob 0), 0 + (i + 1) + j, none⟩).isSome = true := by
          intro j hj
          have := hsp (i + 1 + j) (by simp [vInts] at hj; omega)
          rw [show 0 + (i + 1 + j) = 0 + (i + 1) + j by omega] at this
          exact this
        refine fin (g.γ (.ob 0)) (g.κ 0) _ hroom (.inl ⟨k0, rfl⟩) (by rw [sz_setCells, sz_setCells]; exact hlt0) (fun j hj => ?_) (((Fp.drew w _).trans ((fp_setCells _ _ _ _).mono fun q _ h => ⟨k0, h⟩)).trans ((fp_setCells _ _ _ _).mono fun q _ h => ⟨k0, h⟩))
        rw [put_cell (fun q hq => by
          have : q = 0 := by simp at hq; omega
          subst this
          rw [put_cell hd1]
          split
          · rename_i h; omega
          · exact hsp i (by omega)), put_cell hd1, ins_get hi]
        simp only [Nat.zero_add, List.length_cons, List.length_nil, List.length_drop, hvl]
        by_cases h1 : j < i
        · rw [if_neg (by omega), if_neg (by omega), if_pos h1]
          rw [show w.drew.cell? ⟨g.γ (.ob 0), j, none⟩ = w.cell? ⟨g.γ (.ob 0), j, none⟩ from rfl, hcell j _ (List.getElem?_eq_getElem (by omega)), List.getElem?_eq_getElem (by omega)]; rfl
        · by_cases h2 : j = i
          · subst h2
            rw [if_pos (by omega)]; simp
          · rw [if_neg (by omega), if_pos (by omega), if_neg h1, if_neg h2, List.getElem?_drop, show i + (j - (i + 1)) = j - 1 by omega]
            simp [vInts]
      · have := Any2.slices_Insert_int_grow Tryz.insI (g.γ (.ob 0)) 0 xs.length (g.κ 0) i (g.γ (.ob 1)) 0 1 (g.κ 1) (vInts xs) [.int .i64 x] w hin (by omega) b2 (by omega) (by omega) hvl rfl hcs hvs vInts_one (by simp [Value.oneCell'])
        refine (show Calls Tryz.prog 133 _ w _ from this).mono ?_
        rintro e w' ⟨rfl, rfl⟩
        generalize hA : ((vInts xs).take i).toArray ++ Builtin.zeroCells (Value.int .i64 0).cells (xs.length + 1 - i) ++ Builtin.zeroCells (Value.int .i64 0).cells (grownCap w (xs.length + 1) (g.κ 0) (Tryz.insI_ren.t 3) - (xs.length + 1)) = A0
        have hAs : xs.length + 1 ≤ A0.size := by
          rw [← hA]
          simp only [Array.size_append, List.size_toArray, size_zeroCells, List.length_take, hvl]
          have : (Value.int .i64 0).cells.size = 1 := rfl
          rw [this]
          omega
        have hAg : ∀ j, j < i → A0[j]? = (vInts xs)[j]? := by
          intro j hj
          rw [← hA, Array.append_assoc, Array.getElem?_append_left (by simp [hvl]; omega)]
          simp [hj]
        have hsome : ∀ j, j < xs.length + 1 → ((w.alloc (.cells A0 (Tryz.insI_ren.t 3))).cell? ⟨w.heap.size, j, none⟩).isSome = true := by
          intro j hj
          rw [new_cell, Array.getElem?_eq_getElem (by omega)]; rfl
        have hd0 : ∀ j, j < [Value.int .i64 x].length → ((w.alloc (.cells A0 (Tryz.insI_ren.t 3))).drew.cell? ⟨w.heap.size, i + j, none⟩).isSome = true := by
          intro j hj
          exact hsome (i + j) (by simp at hj; omega)
        have hd1 : ∀ j, j < ((vInts xs).drop i).length → (((w.alloc (.cells A0 (Tryz.insI_ren.t 3))).drew.setCells w.heap.size i [.int .i64 x]).drew.cell? ⟨w.heap.size, i + 1 + j, none⟩).isSome = true := by
          intro j hj
          show (((w.alloc (.cells A0 (Tryz.insI_ren.t 3))).drew.setCells w.heap.size i [.int .i64 x]).cell? ⟨w.heap.size, i + 1 + j, none⟩).isSome = true
          rw [put_cell hd0, if_neg (by simp)]
          exact hsome _ (by simp [vInts] at hj; omega)
        refine fin w.heap.size _ _ (grownCap_ge w (xs.length + 1) _ _) (.inr (Nat.le_refl _)) (by rw [sz_setCells]; show w.heap.size < ((w.alloc (.cells A0 (Tryz.insI_ren.t 3))).drew.setCells w.heap.size i [.int .i64 x]).heap.size; rw [sz_setCells]; exact new_lt) (fun j hj => ?_)
          (Fp.one (Fp.trans (Fp.one (Fp.trans (Fp.alloc w _ _) (Fp.drew _ _)) (fp_setCells _ _ _ _) (.inr (Nat.le_refl _))) (Fp.drew _ _)) (fp_setCells _ _ _ _) (.inr (Nat.le_refl _)))
        rw [put_cell hd1, ins_get hi]
        have e2 : ∀ j, ((w.alloc (.cells A0 (Tryz.insI_ren.t 3))).drew.setCells w.heap.size i [.int .i64 x]).drew.cell? ⟨w.heap.size, j, none⟩ = if i ≤ j ∧ j < i + 1 then [Value.int .i64 x][j - i]? else A0[j]? := by
          intro j
          show ((w.alloc (.cells A0 (Tryz.insI_ren.t 3))).drew.setCells w.heap.size i [.int .i64 x]).cell? ⟨w.heap.size, j, none⟩ = _
          rw [put_cell hd0]
          split
          · rename_i h; exact (if_pos (show i ≤ j ∧ j < i + 1 from h)).symm
          · rename_i h; rw [if_neg (show ¬ (i ≤ j ∧ j < i + 1) from h)]; exact new_cell j
        rw [e2]
        simp only [List.length_drop, hvl]
        by_cases h1 : j < i
        · rw [if_neg (by omega), if_neg (by omega), if_pos h1, hAg j h1]; simp [vInts]
        · by_cases h2 : j = i
          · subst h2
            rw [if_neg (by omega), if_pos (by omega)]; simp
          · rw [if_pos (by omega), if_neg h1, if_neg h2, List.getElem?_drop, show i + (j - (i + 1)) = j - 1 by omega]
            simp [vInts]
    · have hie : i = xs.length := by omega
      subst hie
      have hget : ∀ j, j < xs.length + 1 → (xs.take xs.length ++ [x] ++ xs.drop xs.length)[j]? = if j < xs.length then xs[j]? else some x := by
        intro j hj
        rw [ins_get (Nat.le_refl _)]
        by_cases h1 : j < xs.length
        · rw [if_pos h1, if_pos h1]
        · rw [if_neg h1, if_neg h1, if_pos (by omega)]
      by_cases hroom : xs.length + 1 ≤ g.κ 0
      · have := Any2.slices_Insert_int_end_room Tryz.insI (g.γ (.ob 0)) 0 xs.length (g.κ 0) (g.γ (.ob 1)) 0 1 (g.κ 1) [.int .i64 x] w (by omega) hroom hm0 rfl (fun j hj => by
          have := hsp (xs.length + j) (by omega)
          rw [show 0 + (xs.length + j) = 0 + xs.length + j by omega] at this; exact this) (fun j _ => hfz _) hvs (by simp [Value.oneCell'])
        refine (show Calls Tryz.prog 133 _ w _ from this).mono ?_
        rintro e w' ⟨rfl, rfl⟩
        refine fin (g.γ (.ob 0)) (g.κ 0) _ hroom (.inl ⟨k0, rfl⟩) (by rw [sz_setCells]; exact hlt0) (fun j hj => ?_) ((fp_setCells _ _ _ _).mono fun q _ h => ⟨k0, h⟩)
        rw [put_cell (fun q hq => by
          have : q = 0 := by simp at hq; omega
          subst this
          exact hsp xs.length (by omega)), hget j hj]
        simp only [Nat.zero_add, List.length_cons, List.length_nil]
        by_cases h1 : j < xs.length
        · rw [if_neg (by omega), if_pos h1, hcell j _ (List.getElem?_eq_getElem h1), List.getElem?_eq_getElem h1]; rfl
        · have : j = xs.length := by omega
          subst this
          rw [if_pos (by omega), if_neg h1]; simp
      · have := Any2.slices_Insert_int_end_grow Tryz.insI (some ⟨g.γ (.ob 0), 0, none⟩) xs.length (g.κ 0) (g.γ (.ob 1)) 0 1 (g.κ 1) (vInts xs) [.int .i64 x] w (by omega) b2 (by omega) (by omega) hvl rfl (fun h => by cases h) (fun a ha j v hj => by
          cases ha
          rw [add_mk]; exact hcs j v hj) hvs (by simp [Value.oneCell'])
        refine (show Calls Tryz.prog 133 _ w _ from this).mono ?_
        rintro e w' ⟨rfl, rfl⟩
        refine fin w.heap.size _ _ (grownCap_ge w (xs.length + 1) _ _) (.inr (Nat.le_refl _)) (new_lt (w := w.drew)) (fun j hj => ?_) ((Fp.drew w _).trans (Fp.alloc _ _ _))
        refine (new_cell (w := w.drew) j).trans ?_
        rw [hget j hj, Array.getElem?_append_left (by simp [hvl]; omega)]
        by_cases h1 : j < xs.length
        · rw [if_pos h1]; simp [vInts, List.getElem?_append_left, h1]
        · have : j = xs.length := by omega
          subst this
          rw [if_neg h1]; simp [vInts]
theorem cInts_single (x : Int) : cInts [x] = [.v (.int .i64 x)] := rfl
/-- a set with one more element -/
theorem with_fc (s : List Int) (x : Int) (hs : Asc s) (hn : s.length ≤ 1000000) : FC Tryz.prog 70 [aInts s, .i x] [] (fun r o => o = [] ∧ r = aInts (addI x s)) := by
  refine fc_intro Tryz.func70 rfl (by rw [Tryz.ntmps70]; simp) ?_
  rw [Tryz.ntmps70]
  simp only [enum, aInts]
  (repeat (first | (refine aw_seq ?_; intro K hK) | refine aw_block ?_ | refine aw_region ?_ | (refine lst_x rfl rfl ?_; intro K1 hK1; simp only [undef, evE, dSlice, dFunc, evT, reduceIte, reduceCtorEq, Nat.reduceEqDiff, Nat.reduceAdd, Nat.reduceMul, Nat.reduceSub, Nat.reduceDiv, Nat.reduceLT, Nat.reduceLeDiff, Nat.reduceBEq, Nat.reduceBNe, List.reduceReplicate, ty0, ty1, ty3, ty22, ty93, ty132, ty133, ty157, ty189, ty190]; first | (refine hK1 _ ?_; clear hK1 K1) | (refine ⟨by first | omega | (simp; done) | (simp; omega), hK1 _ ?_⟩; clear hK1 K1)) | ((first | refine lst_nil ?_ | refine aw_skip ?_); refine hK _ ?_; clear hK K)))
  (refine lst_cons rfl ?_; intro K1 hK1; refine (stp_call0 (ids := []) (bins_fc s x (by omega) hs) rfl rfl (by simp only [evE, dSlice, dFunc, evT, reduceIte, reduceCtorEq, Nat.reduceEqDiff, Nat.reduceAdd, Nat.reduceMul, Nat.reduceSub, Nat.reduceDiv, Nat.reduceLT, Nat.reduceLeDiff, Nat.reduceBEq, Nat.reduceBNe, List.reduceReplicate, ty0, ty1, ty3, ty22, ty93, ty132, ty133, ty157, ty189, ty190]) (by kernel_rfl) (by (simp only [clos, List.append_nil, AV.ren, A0.ren, C.ren, evE, dSlice, dFunc, evT, reduceIte, reduceCtorEq, Nat.reduceEqDiff, Nat.reduceAdd, Nat.reduceMul, Nat.reduceSub, Nat.reduceDiv, Nat.reduceLT, Nat.reduceLeDiff, Nat.reduceBEq, Nat.reduceBNe, List.reduceReplicate, ty0, ty1, ty3, ty22, ty93, ty132, ty133, ty157, ty189, ty190]) <;> rfl) ?_).stp)
  rintro _ _ ⟨rfl, rfl⟩
  simp only [rBs]
  (simp only [evR, aInts, aSets, ST.back, nbTm, setAll, upn, AV.up, A0.up, C.up, Ob.up, AV.nb, A0.nb, C.nb, ofTr_up, List.contains_cons, List.contains_nil, List.getD_cons_zero, List.getD_cons_succ, List.set_cons_zero, List.set_cons_succ, List.append_nil, List.nil_append, List.length_map, evE, dSlice, dFunc, evT, reduceIte, reduceCtorEq, Nat.reduceEqDiff, Nat.reduceAdd, Nat.reduceMul, Nat.reduceSub, Nat.reduceDiv, Nat.reduceLT, Nat.reduceLeDiff, Nat.reduceBEq, Nat.reduceBNe, List.reduceReplicate, ty0, ty1, ty3, ty22, ty93, ty132, ty133, ty157, ty189, ty190]; refine hK1 _ ?_; clear hK1 K1)
  (repeat (first | (refine aw_seq ?_; intro K hK) | refine aw_block ?_ | refine aw_region ?_ | (refine lst_x rfl rfl ?_; intro K1 hK1; simp only [undef, evE, dSlice, dFunc, evT, reduceIte, reduceCtorEq, Nat.reduceEqDiff, Nat.reduceAdd, Nat.reduceMul, Nat.reduceSub, Nat.reduceDiv, Nat.reduceLT, Nat.reduceLeDiff, Nat.reduceBEq, Nat.reduceBNe, List.reduceReplicate, ty0, ty1, ty3, ty22, ty93, ty132, ty133, ty157, ty189, ty190]; first | (refine hK1 _ ?_; clear hK1 K1) | (refine ⟨by first | omega | (simp; done) | (simp; omega), hK1 _ ?_⟩; clear hK1 K1)) | ((first | refine lst_nil ?_ | refine aw_skip ?_); refine hK _ ?_; clear hK K)))
  (refine aw_cnd ?_; intro X Y hX hY; simp only [evE, dSlice, dFunc, evT, reduceIte, reduceCtorEq, Nat.reduceEqDiff, Nat.reduceAdd, Nat.reduceMul, Nat.reduceSub, Nat.reduceDiv, Nat.reduceLT, Nat.reduceLeDiff, Nat.reduceBEq, Nat.reduceBNe, List.reduceReplicate, ty0, ty1, ty3, ty22, ty93, ty132, ty133, ty157, ty189, ty190])
  refine ⟨fun h => hX ?_, fun h => hY ?_⟩
  · clear hX hY X Y
    (repeat (first | (refine aw_seq ?_; intro K hK) | refine aw_block ?_ | refine aw_region ?_ | (refine lst_x rfl rfl ?_; intro K1 hK1; simp only [undef, evE, dSlice, dFunc, evT, reduceIte, reduceCtorEq, Nat.reduceEqDiff, Nat.reduceAdd, Nat.reduceMul, Nat.reduceSub, Nat.reduceDiv, Nat.reduceLT, Nat.reduceLeDiff, Nat.reduceBEq, Nat.reduceBNe, List.reduceReplicate, ty0, ty1, ty3, ty22, ty93, ty132, ty133, ty157, ty189, ty190]; first | (refine hK1 _ ?_; clear hK1 K1) | (refine ⟨by first | omega | (simp; done) | (simp; omega), hK1 _ ?_⟩; clear hK1 K1)) | ((first | refine lst_nil ?_ | refine aw_skip ?_); refine hK _ ?_; clear hK K)))
    ((try refine aw_ret ?_); (try refine lst_nil ?_); (try simp only [ThenA, InBl]); refine ret_mk (by first | exact .inl rfl | exact .inr rfl) rfl ?_; simp only [rtn, resA, resL, resV, Tryz.results70, evE, dSlice, dFunc, evT, reduceIte, reduceCtorEq, Nat.reduceEqDiff, Nat.reduceAdd, Nat.reduceMul, Nat.reduceSub, Nat.reduceDiv, Nat.reduceLT, Nat.reduceLeDiff, Nat.reduceBEq, Nat.reduceBNe, List.reduceReplicate, ty0, ty1, ty3, ty22, ty93, ty132, ty133, ty157, ty189, ty190])
    rw [addI_mem hs (by simpa using h)]
  · have hm : x ∉ s := by simpa using h
    clear hX hY X Y
    (repeat (first | (refine aw_seq ?_; intro K hK) | refine aw_block ?_ | refine aw_region ?_ | (refine lst_x rfl rfl ?_; intro K1 hK1; simp only [undef, evE, dSlice, dFunc, evT, reduceIte, reduceCtorEq, Nat.reduceEqDiff, Nat.reduceAdd, Nat.reduceMul, Nat.reduceSub, Nat.reduceDiv, Nat.reduceLT, Nat.reduceLeDiff, Nat.reduceBEq, Nat.reduceBNe, List.reduceReplicate, ty0, ty1, ty3, ty22, ty93, ty132, ty133, ty157, ty189, ty190]; first | (refine hK1 _ ?_; clear hK1 K1) | (refine ⟨by first | omega | (simp; done) | (simp; omega), hK1 _ ?_⟩; clear hK1 K1)) | ((first | refine lst_nil ?_ | refine aw_skip ?_); refine hK _ ?_; clear hK K)))
    (refine lst_cons rfl ?_; intro K1 hK1; refine (stp_call0 (ids := []) (clone_ints (tInts s) (by rw [tInts_len]; omega)) rfl rfl (by simp only [evE, dSlice, dFunc, evT, reduceIte, reduceCtorEq, Nat.reduceEqDiff, Nat.reduceAdd, Nat.reduceMul, Nat.reduceSub, Nat.reduceDiv, Nat.reduceLT, Nat.reduceLeDiff, Nat.reduceBEq, Nat.reduceBNe, List.reduceReplicate, ty0, ty1, ty3, ty22, ty93, ty132, ty133, ty157, ty189, ty190]) (by kernel_rfl) (by (simp only [clos, List.append_nil, AV.ren, A0.ren, C.ren, evE, dSlice, dFunc, evT, reduceIte, reduceCtorEq, Nat.reduceEqDiff, Nat.reduceAdd, Nat.reduceMul, Nat.reduceSub, Nat.reduceDiv, Nat.reduceLT, Nat.reduceLeDiff, Nat.reduceBEq, Nat.reduceBNe, List.reduceReplicate, ty0, ty1, ty3, ty22, ty93, ty132, ty133, ty157, ty189, ty190]) <;> rfl) ?_).stp)
    rintro _ _ ⟨rfl, rfl⟩
    rw [tInts_c, tInts_len, Nat.div_one]
    (simp only [evR, aInts, aSets, cInts_up, ST.back, nbTm, setAll, upn, AV.up, A0.up, C.up, Ob.up, AV.nb, A0.nb, C.nb, ofTr_up, List.contains_cons, List.contains_nil, List.getD_cons_zero, List.getD_cons_succ, List.set_cons_zero, List.set_cons_succ, List.append_nil, List.nil_append, List.length_map, evE, dSlice, dFunc, evT, reduceIte, reduceCtorEq, Nat.reduceEqDiff, Nat.reduceAdd, Nat.reduceMul, Nat.reduceSub, Nat.reduceDiv, Nat.reduceLT, Nat.reduceLeDiff, Nat.reduceBEq, Nat.reduceBNe, List.reduceReplicate, ty0, ty1, ty3, ty22, ty93, ty132, ty133, ty157, ty189, ty190]; refine hK1 _ ?_; clear hK1 K1)
    (repeat (first | (refine aw_seq ?_; intro K hK) | refine aw_block ?_ | refine aw_region ?_ | (refine lst_x rfl rfl ?_; intro K1 hK1; simp only [undef, evE, dSlice, dFunc, evT, reduceIte, reduceCtorEq, Nat.reduceEqDiff, Nat.reduceAdd, Nat.reduceMul, Nat.reduceSub, Nat.reduceDiv, Nat.reduceLT, Nat.reduceLeDiff, Nat.reduceBEq, Nat.reduceBNe, List.reduceReplicate, ty0, ty1, ty3, ty22, ty93, ty132, ty133, ty157, ty189, ty190, List.set_cons_zero, List.set_cons_succ]; first | (refine hK1 _ ?_; clear hK1 K1) | (refine ⟨by first | omega | (simp; done) | (simp; omega), hK1 _ ?_⟩; clear hK1 K1)) | ((first | refine lst_nil ?_ | refine aw_skip ?_); refine hK _ ?_; clear hK K)))
    (refine lst_cons rfl ?_; intro K1 hK1; refine stp_callσ (ids := []) [0, 1] (insert_fc s x (s.countP (· < x)) List.countP_le_length (by omega)) rfl rfl (by simp only [evE, dSlice, dFunc, evT, reduceIte, reduceCtorEq, Nat.reduceEqDiff, Nat.reduceAdd, Nat.reduceMul, Nat.reduceSub, Nat.reduceDiv, Nat.reduceLT, Nat.reduceLeDiff, Nat.reduceBEq, Nat.reduceBNe, List.reduceReplicate, ty0, ty1, ty3, ty22, ty93, ty132, ty133, ty157, ty189, ty190]) (by first | assumption | kernel_rfl) rfl rfl (by (simp only [clos, List.map_append, List.append_nil, AV.ren, A0.ren, C.ren, idx, renIds, ofTr_ren, evE, dSlice, dFunc, evT, reduceIte, reduceCtorEq, Nat.reduceEqDiff, Nat.reduceAdd, Nat.reduceMul, Nat.reduceSub, Nat.reduceDiv, Nat.reduceLT, Nat.reduceLeDiff, Nat.reduceBEq, Nat.reduceBNe, List.reduceReplicate, ty0, ty1, ty3, ty22, ty93, ty132, ty133, ty157, ty189, ty190]) <;> rfl) (by (simp only [pkh, Ob.ren, C.ren, idx, renIds, ofTr_ren, List.getD_cons_zero, List.getD_cons_succ, rInts, cInts_ren, cInts_single, evE, dSlice, dFunc, evT, reduceIte, reduceCtorEq, Nat.reduceEqDiff, Nat.reduceAdd, Nat.reduceMul, Nat.reduceSub, Nat.reduceDiv, Nat.reduceLT, Nat.reduceLeDiff, Nat.reduceBEq, Nat.reduceBNe, List.reduceReplicate, ty0, ty1, ty3, ty22, ty93, ty132, ty133, ty157, ty189, ty190]) <;> rfl) ?_ ?_)
    · rintro _ _ ⟨rfl, rfl⟩; rfl
    rintro _ _ ⟨rfl, rfl⟩
    (simp only [evR, aInts, aSets, ST.back, nbTm, setAll, upn, AV.up, A0.up, C.up, Ob.up, AV.nb, A0.nb, C.nb, ofTr_up, List.contains_cons, List.contains_nil, List.getD_cons_zero, List.getD_cons_succ, List.set_cons_zero, List.set_cons_succ, List.append_nil, List.nil_append, List.length_map, evE, dSlice, dFunc, evT, reduceIte, reduceCtorEq, Nat.reduceEqDiff, Nat.reduceAdd, Nat.reduceMul, Nat.reduceSub, Nat.reduceDiv, Nat.reduceLT, Nat.reduceLeDiff, Nat.reduceBEq, Nat.reduceBNe, List.reduceReplicate, ty0, ty1, ty3, ty22, ty93, ty132, ty133, ty157, ty189, ty190]; refine hK1 _ ?_; clear hK1 K1)
    (repeat (first | (refine aw_seq ?_; intro K hK) | refine aw_block ?_ | refine aw_region ?_ | (refine lst_x rfl rfl ?_; intro K1 hK1; simp only [undef, evE, dSlice, dFunc, evT, reduceIte, reduceCtorEq, Nat.reduceEqDiff, Nat.reduceAdd, Nat.reduceMul, Nat.reduceSub, Nat.reduceDiv, Nat.reduceLT, Nat.reduceLeDiff, Nat.reduceBEq, Nat.reduceBNe, List.reduceReplicate, ty0, ty1, ty3, ty22, ty93, ty132, ty133, ty157, ty189, ty190]; first | (refine hK1 _ ?_; clear hK1 K1) | (refine ⟨by first | omega | (simp; done) | (simp; omega), hK1 _ ?_⟩; clear hK1 K1)) | ((first | refine lst_nil ?_ | refine aw_skip ?_); refine hK _ ?_; clear hK K)))
    ((try refine aw_ret ?_); (try simp only [ThenA, InBl]); refine ret_le (le_pick [] rfl rfl) ?_; (simp only [ST.pick, AV.ren, A0.ren, C.ren, Ob.ren, idx, renIds, ofTr_ren, List.getD_cons_zero, List.getD_cons_succ, List.set_cons_zero, List.set_cons_succ, List.set_nil, List.take_nil, List.take_zero, List.map_append, evE, dSlice, dFunc, evT, reduceIte, reduceCtorEq, Nat.reduceEqDiff, Nat.reduceAdd, Nat.reduceMul, Nat.reduceSub, Nat.reduceDiv, Nat.reduceLT, Nat.reduceLeDiff, Nat.reduceBEq, Nat.reduceBNe, List.reduceReplicate, ty0, ty1, ty3, ty22, ty93, ty132, ty133, ty157, ty189, ty190]); ((try refine aw_ret ?_); (try refine lst_nil ?_); (try simp only [ThenA, InBl]); refine ret_mk (by first | exact .inl rfl | exact .inr rfl) rfl ?_; simp only [rtn, resA, resL, resV, Tryz.results70, evE, dSlice, dFunc, evT, reduceIte, reduceCtorEq, Nat.reduceEqDiff, Nat.reduceAdd, Nat.reduceMul, Nat.reduceSub, Nat.reduceDiv, Nat.reduceLT, Nat.reduceLeDiff, Nat.reduceBEq, Nat.reduceBNe, List.reduceReplicate, ty0, ty1, ty3, ty22, ty93, ty132, ty133, ty157, ty189, ty190, true_and, and_true]))
    rw [addI_count hs hm]
end Go.Proofs.YtfjfllpcflddmaaGreat
