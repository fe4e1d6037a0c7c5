/- The abstract machine: append as an operation. -/
import Derived.Test.YtgclmlbaodcccaaAm10
namespace Go.Proofs.Ytgclmlbaodcccaa
set_option linter.unusedVariables false
set_option linter.unusedSimpArgs false
open Go.RowKit

/-- what is appended -/
def apSrc (k : Nat) (hp : List Ob) : AV → Option (Prop × List C × Nat)
  | .a (.c (.t k' cs)) => some (k' = k, cs.map C.ofTr, cs.length / k)
  | .a (.c (.v (.slice none 0 0))) => some (True, [], 0)
  | .a (.c (.s id m)) => match hp[id]? with
    | some (.r r) => some (r.k = k ∧ m * k ≤ r.cells.length ∧ (r.cells.take (m * k)).all C.one = true, r.cells.take (m * k), m)
    | _ => none
  | .a (.c (.b id j m)) => match hp[id]? with
    | some (.r r) => match r.cells[j]? with
      | some (.o k' cs) => some (k'.1 = k, cs.map C.ofTr, m)
      | _ => none
    | _ => none
  | _ => none
def apBase (e k : Nat) (hp : List Ob) (m : Nat) (news : List C) : AV → Option (Prop × List Ob × Nat)
  | .a (.c (.v (.slice none 0 0))) => some (True, hp ++ [.r ⟨e, k, true, news⟩], m)
  | .a (.c (.s id n)) => match hp[id]? with
    | some (.r r) => some (r.e = e ∧ r.k = k ∧ n * k ≤ r.cells.length ∧ (n + m ≠ 0 ∨ n * k = r.cells.length), hp.set id .d ++ [.r { r with cells := r.cells.take (n * k) ++ news }], n + m)
    | _ => none
  | .a (.c (.b id j n)) => match hp[id]? with
    | some (.r r) => match r.cells[j]? with
      | some (.o k' cs) => some (k' = (k, e), hp.set id (.r { r with cells := r.cells.set j .u }) ++ [.r ⟨e, k, true, cs.map C.ofTr ++ news⟩], n + m)
      | _ => none
    | _ => none
  | _ => none
def apOp (P : Program) (ev : Operand → AV) (hp : List Ob) (c : Call) : Option (Prop × List Ob × AV) :=
  match c.callee, c.args.toList, c.argTypes.toList with
  | .builtin .append, [s, x], [t, t'] => match tyOf P t with
    | some y => match y.kind, tyOf P y.elem with
      | 1, some z => match apSrc z.size hp (ev x) with
        | some (c1, news, m) => match apBase y.elem z.size hp m news (ev s) with
          | some (c2, hp', n) => if 0 < z.size && z.zero.length == z.size && t == t' then some (c1 ∧ c2 ∧ n * z.bytes ≤ 140737488355328 ∧ n ≤ 140737488355328, hp', .a (.c (.s hp.length n))) else none
          | none => none
        | none => none
      | _, _ => none
    | none => none
  | _, _, _ => none

theorem Rd.one {M : Nat → Prop} {w : World} {t : Tr} {u : Value} (h : Rd M w t u) : u.oneCell' = true := by
  cases h <;> first | assumption | rfl
theorem arr_get {arr : Array Value} {n : Nat} {xs : List Value} (h : arr.toList.take n = xs) {i : Nat} {u : Value} (hu : xs[i]? = some u) : arr[i]? = some u := by
  rw [← h, List.getElem?_take] at hu
  split at hu
  · simpa using hu
  · cases hu
section
variable {P : Program} {g : Gh} {M0 : Nat → Prop} {w0 w : World} {st : ST} {a : Act} {c : Prop}
/-- the source's cells -/
theorem src_sound (hr : HR g st.hp w) {k : Nat} (hk : 0 < k) {x : AV} {y : Value} (hx : AVR (CR g st.hp w) x y) {news : List C} {m : Nat} (h : apSrc k st.hp x = some (c, news, m)) (hc : c) :
    ∃ A cp us, y = .slice A m cp ∧ Sl [] w A m cp k us ∧ LR (CR g st.hp w) news us ∧ (∀ u ∈ us, u.oneCell' = true) ∧ news.all C.one = true := by
  have tree : ∀ {cs : List Tr} {y : Value}, ((∃ A cp, cs = [] ∧ y = .slice A 0 cp) ∨ ∃ (b off n cp : Nat) (us : Nat → Value), y = .slice (some ⟨b, off, none⟩) n cp ∧ cs.length = n * k ∧ 0 < n ∧ n ≤ cp ∧ b < w.heap.size ∧
        (∀ (j : Nat) (t : Tr), cs[j]? = some t → w.cell? ⟨b, off + j, none⟩ = some (us j)) ∧ (∀ (j : Nat) (t : Tr), cs[j]? = some t → Rd (Ow st.hp g) w t (us j))) →
      ∃ A cp us, y = .slice A (cs.length / k) cp ∧ Sl [] w A (cs.length / k) cp k us ∧ LR (CR g st.hp w) (cs.map C.ofTr) us ∧ (∀ u ∈ us, u.oneCell' = true) ∧ (cs.map C.ofTr).all C.one = true := by
    intro cs y hy
    rcases hy with ⟨A, cp, rfl, rfl⟩ | ⟨b, off, n, cp, us, rfl, hn, h0, hcp, hb, h1, h2⟩
    · exact ⟨A, cp, [], by simp, ⟨by simp, by simp, fun h => by simp at h⟩, ⟨rfl, fun i x hx => by simp at hx⟩, by simp, by simp⟩
    · have hdiv : cs.length / k = n := by rw [hn, Nat.mul_div_cancel _ hk]
      rw [hdiv]
      refine ⟨_, cp, (List.range cs.length).map us, rfl, ⟨by simp [hn], by omega, fun _ => ⟨b, off, rfl, by simp, hb, fun j u hj => ?_⟩⟩, ⟨by simp, fun i x hx => ?_⟩, fun u hu => ?_, ?_⟩
      · simp only [List.getElem?_map, Option.map_eq_some_iff] at hj
        obtain ⟨j', hj', rfl⟩ := hj
        obtain ⟨hlt, e⟩ := List.getElem?_eq_some_iff.1 hj'
        simp at e hlt
        subst e
        exact h1 _ _ (List.getElem?_eq_getElem hlt)
      · rw [List.getElem?_map, Option.map_eq_some_iff] at hx
        obtain ⟨t, ht, rfl⟩ := hx
        have hlt := (List.getElem?_eq_some_iff.1 ht).1
        exact ⟨us i, by simp [hlt], ofTr_cr (h2 i t ht)⟩
      · simp only [List.mem_map, List.mem_range] at hu
        obtain ⟨j, hj, rfl⟩ := hu
        exact (h2 j _ (List.getElem?_eq_getElem hj)).one
      · simp only [List.all_eq_true, List.mem_map]
        rintro _ ⟨t, ht, rfl⟩
        obtain ⟨i, hi⟩ := List.mem_iff_getElem?.1 ht
        have := h2 i t hi
        cases t with
        | v x =>
          cases this with
          | v _ h1 => cases hus : us i <;> rw [hus] at h1 <;> first | rfl | cases h1
        | l k cs => rfl
  unfold apSrc at h
  split at h
  · rename_i k' cs
    simp only [Option.some.injEq, Prod.mk.injEq] at h
    obtain ⟨rfl, rfl, rfl⟩ := h
    subst hc
    refine tree ?_
    cases (show Rd _ _ _ _ from hx) with
    | e A cp => exact .inl ⟨_, _, rfl, rfl⟩
    | l _ _ b off n cp us hn h0 hcp hM hb h1 h2 => exact .inr ⟨b, off, n, cp, us, rfl, hn, h0, hcp, hb, h1, h2⟩
  · simp only [Option.some.injEq, Prod.mk.injEq] at h
    obtain ⟨_, rfl, rfl⟩ := h
    cases (show y = _ from hx)
    exact ⟨none, 0, [], rfl, Sl.nil _ _ _, ⟨rfl, fun i x hx => by simp at hx⟩, by simp, rfl⟩
  · rename_i id m'
    obtain ⟨b1, b2, A, b3, b4, b5⟩ := hx
    split at h
    · rename_i r hrow
      simp only [Option.some.injEq, Prod.mk.injEq] at h
      obtain ⟨rfl, rfl, rfl⟩ := h
      obtain ⟨c1, c2, c3⟩ := hc
      rcases hr.row id r hrow with ⟨h0, h2⟩ | ⟨h0, _, arr, ha, hl, hs, _, hcells⟩
      · have : m' = 0 := by omega
        subst this
        rw [h2]
        exact ⟨A, _, [], b3, ⟨by simp, Nat.zero_le _, fun h => absurd h (by omega)⟩, ⟨by simp, fun i x hx => by simp at hx⟩, by simp, by simp⟩
      · have hLR : LR (CR g st.hp w) (r.cells.take (m' * k)) (arr.toList.take (m' * k)) := by
          refine ⟨by simp; omega, fun i x hx => ?_⟩
          have hone := List.all_eq_true.1 c3 x (List.mem_of_getElem? hx)
          rw [List.getElem?_take] at hx ⊢
          split at hx
          · rename_i hlt
            obtain ⟨u, f1, f2⟩ := hcells i x hx
            refine ⟨u, by rw [if_pos hlt]; simpa using f1, ?_⟩
            cases x <;> first | exact f2 | cases hone
          · cases hx
        refine ⟨A, _, arr.toList.take (m' * k), b3, ⟨by rw [hLR.1, List.length_take]; omega, b2, fun _ => ⟨g.γ (.ob id), 0, b4 h0, by simp, (Array.getElem?_eq_some_iff.1 ha).1, fun j u hj => ?_⟩⟩, hLR, fun u hu => ?_, c3⟩
        · rw [Nat.zero_add, cell_of_row _ _ _ _ _ _ ha]
          exact arr_get rfl hj
        · obtain ⟨i, hi⟩ := List.mem_iff_getElem?.1 hu
          have hlt : i < (r.cells.take (m' * k)).length := by rw [← hLR.1]; exact (List.getElem?_eq_some_iff.1 hi).1
          obtain ⟨v, v1, v2⟩ := hLR.2 i _ (List.getElem?_eq_getElem hlt)
          rw [hi] at v1; cases v1
          exact oneC (List.all_eq_true.1 c3 _ (List.getElem_mem hlt)) v2
    · cases h
  · rename_i id j m'
    obtain ⟨b1, b2⟩ := hx
    split at h
    · rename_i r hrow
      split at h
      · rename_i k' cs hcell
        simp only [Option.some.injEq, Prod.mk.injEq] at h
        obtain ⟨rfl, rfl, rfl⟩ := h
        subst hc
        obtain ⟨f1, f2, f3, _⟩ := b2 r k' cs hrow hcell
        rcases hr.row id r hrow with ⟨h0, h2⟩ | ⟨h0, _, arr, ha, hl, hs, _, hcells⟩
        · rw [h2] at hcell; simp at hcell
        · obtain ⟨u, u1, u2⟩ := hcells j _ hcell
          rw [cell_of_row _ _ _ _ _ _ ha, u1] at f2
          cases f2
          have hdiv : cs.length / k'.1 = m' := by rw [f3, Nat.mul_div_cancel _ hk]
          rw [← hdiv]
          refine tree ?_
          rcases u2 with ⟨h1, A, h2, _⟩ | ⟨h1, n, cp, arr', h2, h3, h4, h5, h6, h7, h8⟩
          · exact .inl ⟨A, 0, h1, h2⟩
          · refine .inr ⟨_, 0, n, cp, (fun i => (arr'[i]?).getD undef), h2, h3, ?_, h4, (Array.getElem?_eq_some_iff.1 h6).1, (fun i t hi => ?_), (fun i t hi => ?_)⟩
            · rcases Nat.eq_zero_or_pos n with h0 | h0
              · rw [h0] at h3; simp at h3; exact absurd h3 h1
              · exact h0
            · obtain ⟨u, g1, g2⟩ := h8 i t hi
              rw [Nat.zero_add, cell_of_row _ _ _ _ _ _ h6, g1]; simp [g1]
            · obtain ⟨u, g1, g2⟩ := h8 i t hi
              simp only [g1, Option.getD_some]; exact g2
      · cases h
    · cases h
  · cases h
theorem LR.fr {xs : List C} {us : List Value} (h : LR (CR g st.hp w) xs us) (h1 : xs.all C.one = true) {j : Nat} {x : C} (hj : xs[j]? = some x) : ∃ u, us[j]? = some u ∧ FreshR g st.hp w x u := by
  obtain ⟨u, u1, u2⟩ := h.2 j x hj
  have := List.all_eq_true.1 h1 x (List.mem_of_getElem? hj)
  exact ⟨u, u1, (by cases x <;> first | rfl | cases this), .inl u2⟩
/-- the two ways of an append at an empty base without room -/
theorem ap_empty (h : RelG g M0 w0 st a w) {e k m : Nat} (hk : 0 < k) {news : List C} {us : List Value} (hlr : LR (CR g st.hp w) news us) (hone : news.all C.one = true) (hlen : us.length = m * k) {v' : Value} {w' : World} {A : Option Addr} (hA : ∀ b, A = some b → b.block < w.heap.size)
    (hap : ApR w e k (.slice A 0 0) 0 m [] us v' w') {hp' : List Ob} {id : Nat} {sl : Bool} (hid : ¬ Bn st.hp id) (hne : ∀ i, i ≠ id → hp'[i]? = st.hp[i]?) (h1 : hp'[id]? = some (.r ⟨e, k, sl, news⟩)) :
    ∃ g', RelG g' M0 w0 { st with hp := hp' } a w' ∧ CR g' hp' w' (.s id m) v' ∧ ∀ n, n ≤ id → Ext n g g' := by
  rcases hap with ⟨h0, rfl, rfl⟩ | ⟨b, cap, arr, hm, rfl, hc, h2, h3, h4, h5, h6, h7⟩
  · subst h0
    have hn : news = [] := List.eq_nil_of_length_eq_zero (by rw [← hlr.1, hlen]; simp)
    have hb := h.birth0 (w' := w') hid hne h1 hn (Fp.refl _ _)
    exact ⟨_, hb, ⟨⟨_, h1, rfl⟩, Nat.zero_le _, A, by rw [g.at_self.2], fun hn => absurd g.at_self.2 hn, hA⟩, fun n hn => ext_at hn⟩
  · have hnew : b = w.heap.size ∧ Fp (fun _ => False) w w' := by
      rcases h7 with h7 | ⟨bo, capo, h8, h9, _⟩
      · exact h7
      · cases h8; exact absurd rfl h9
    obtain ⟨rfl, hfp⟩ := hnew
    simp only [Nat.zero_add, List.nil_append] at h6 h3
    have hul : us.length ≤ arr.size := by
      have := congrArg List.length h6
      rw [List.length_take] at this
      simp at this
      omega
    have hb := h.birthG (b := w.heap.size) (c := cap) (arr := arr) hid hne h1 hc (fun _ hnil => by
        simp only at hnil
        have := hlr.1
        rw [hnil, hlen] at this
        have := Nat.mul_pos (Nat.pos_of_ne_zero hm) hk
        simp at *; omega) h4 (by rw [← hlr.1]; exact hul) h5 (fun j x hj => by
          obtain ⟨u, u1, u2⟩ := hlr.fr hone hj
          exact ⟨u, arr_get h6 u1, u2⟩) hfp (Nat.le_refl _) h2
    exact ⟨_, hb, ⟨⟨_, h1, rfl⟩, by rw [g.at_self.2]; exact h3, _, by rw [g.at_self.2, Nat.zero_add], fun _ => by rw [g.at_self.1], fun b hb => by cases hb; exact (Array.getElem?_eq_some_iff.1 h2).1⟩, fun n hn => ext_at hn⟩
/-- what an append leaves, one way -/
theorem ApR.uni {w w' : World} {e k n m bo capo : Nat} {old news : List Value} {v' : Value} (h : ApR w e k (.slice (some ⟨bo, 0, none⟩) n capo) n m old news v' w') {arr0 : Array Value} (h0 : w.heap[bo]? = some (.cells arr0 e (0, 0))) (hc : capo ≠ 0) (hn : n ≤ capo) (hcm : capo ≤ 9223372036854775807) (hs : arr0.size = capo * k) (ho : arr0.toList.take (n * k) = old)
    (hl : news.length = m * k) :
    ∃ (b cap : Nat) (arr : Array Value), v' = .slice (some ⟨b, 0, none⟩) (n + m) cap ∧ cap ≠ 0 ∧ w'.heap[b]? = some (.cells arr e (0, 0)) ∧ n + m ≤ cap ∧ cap ≤ 9223372036854775807 ∧ arr.size = cap * k ∧ arr.toList.take ((n + m) * k) = old ++ news ∧
    (b = bo ∨ w.heap.size ≤ b) ∧ Fp (fun q => q = bo) w w' := by
  rcases h with ⟨rfl, rfl, rfl⟩ | ⟨b, cap, arr, hm, rfl, h1, h2, h3, h4, h5, h6, h7⟩
  · have : news = [] := List.eq_nil_of_length_eq_zero (by rw [hl]; simp)
    subst this
    exact ⟨bo, capo, arr0, rfl, hc, h0, hn, hcm, hs, by simpa using ho, .inl rfl, Fp.refl _ _⟩
  · refine ⟨b, cap, arr, rfl, h1, h2, h3, h4, h5, h6, ?_⟩
    rcases h7 with ⟨h7, h8⟩ | ⟨b2, c2, h7, _, h8, h9⟩
    · exact ⟨.inr (by omega), h8.mono (fun _ _ h => h.elim)⟩
    · cases h7
      exact ⟨h8.elim (fun h => .inr (by omega)) .inl, h9⟩
theorem push_get {hp : List Ob} {ob : Ob} {id i : Nat} {o : Ob} (h : (hp.set id .d ++ [ob])[i]? = some o) (hne : i ≠ hp.length) : (i = id ∧ o = .d) ∨ (i ≠ id ∧ hp[i]? = some o) := by
  rw [show hp.length = (hp.set id .d).length from by simp] at hne
  rw [push_ne _ _ hne, List.getElem?_set] at h
  split at h
  · rename_i e
    split at h
    · cases h; exact .inl ⟨e.symm, rfl⟩
    · cases h
  · rename_i e; exact .inr ⟨fun e' => e e'.symm, h⟩
theorem bn_set {hp : List Ob} {ob o : Ob} {id i : Nat} (ho : o.born = true) (h : Bn hp i) : Bn (hp.set id o ++ [ob]) i := by
  obtain ⟨x0, h1, h2⟩ := h
  have hlt : i < hp.length := (List.getElem?_eq_some_iff.1 h1).1
  refine ⟨if id = i then o else x0, ?_, by split <;> assumption⟩
  rw [List.getElem?_append_left (by simpa using hlt), List.getElem?_set]
  split
  · rename_i e; subst e; simp [hlt]
  · exact h1
theorem ap_row (h : RelG g M0 w0 st a w) {id n m : Nat} {r : Row} (hrow : st.hp[id]? = some (.r r)) (hk : 0 < r.k) (h0 : g.κ id ≠ 0) (hnk : n * r.k ≤ r.cells.length) (hnz : n + m ≠ 0 ∨ n * r.k = r.cells.length) (hnc : n ≤ g.κ id)
    {news : List C} {us old : List Value} (hlr : LR (CR g st.hp w) news us) (hone : news.all C.one = true) (hlen : us.length = m * r.k) {v' : Value} {w' : World} {arr0 : Array Value} (ha0 : w.heap[g.γ (.ob id)]? = some (.cells arr0 r.e (0, 0))) (hold : arr0.toList.take (n * r.k) = old)
    (hap : ApR w r.e r.k (.slice (some ⟨g.γ (.ob id), 0, none⟩) n (g.κ id)) n m old us v' w') :
    ∃ g', RelG g' M0 w0 { st with hp := st.hp.set id .d ++ [.r { r with cells := r.cells.take (n * r.k) ++ news }] } a w' ∧ CR g' (st.hp.set id .d ++ [.r { r with cells := r.cells.take (n * r.k) ++ news }]) w' (.s st.hp.length (n + m)) v' ∧ Ext st.hp.length g g' := by
  rcases h.hr.row id r hrow with ⟨h2, _⟩ | ⟨_, htight, arr1, ha, hl, hs, hm, hcells⟩
  · exact absurd h2 h0
  rw [ha0] at ha
  cases ha
  obtain ⟨b, cap, arr, rfl, c1, c2, c3, c4, c5, c6, c7, c8⟩ := hap.uni ha0 h0 hnc hm hs hold hlen
  have hlive : Lv st.hp g (.ob id) := .inl ⟨r, hrow, h0⟩
  have hid : id < st.hp.length := (List.getElem?_eq_some_iff.1 hrow).1
  have h1' : (st.hp.set id .d ++ [.r { r with cells := r.cells.take (n * r.k) ++ news }])[st.hp.length]? = some (.r { r with cells := r.cells.take (n * r.k) ++ news }) := by
    have := push_self (hp := st.hp.set id .d) (.r { r with cells := r.cells.take (n * r.k) ++ news })
    simp
  have hdead : (st.hp.set id .d ++ [.r { r with cells := r.cells.take (n * r.k) ++ news }])[id]? = some .d := by
    rw [List.getElem?_append_left (by simpa using hid)]; simp [hid]
  have hnewo : ∀ {j : Nat} {k : Nat × Nat} {cs : List Tr}, (r.cells.take (n * r.k) ++ news)[j]? = some (.o k cs) → j < n * r.k ∧ r.cells[j]? = some (.o k cs) := by
    intro j k cs hj
    rcases Nat.lt_or_ge j (r.cells.take (n * r.k)).length with hlt | hge
    · rw [List.getElem?_append_left hlt, List.getElem?_take] at hj
      split at hj
      · exact ⟨by assumption, hj⟩
      · cases hj
    · rw [List.getElem?_append_right hge] at hj
      have := List.all_eq_true.1 hone _ (List.mem_of_getElem? hj)
      cases this
  have hMv : Mv g st.hp w (st.hp.set id .d ++ [.r { r with cells := r.cells.take (n * r.k) ++ news }]) w' st.hp.length b cap id (g.γ (.ob id)) { r with cells := r.cells.take (n * r.k) ++ news } := by
    refine ⟨c7, bn_len, fun i hi => bn_set rfl hi, h1', fun i r2 hi e1 => ?_, fun i kv e1 => ?_, fun j k cs hj hne => ?_, fun ℓ hl' he hl2 => ?_, ?_⟩
    · rcases push_get e1 hi with ⟨_, e⟩ | ⟨_, e⟩
      · cases e
      · exact ⟨r2, e, rfl, rfl, rfl, rfl, fun j c hj => .inr hj⟩
    · have hi : i ≠ st.hp.length := by
        rintro rfl
        rw [h1'] at e1; cases e1
      rcases push_get e1 hi with ⟨_, e⟩ | ⟨_, e⟩
      · cases e
      · exact e
    · obtain ⟨_, q2⟩ := hnewo hj
      refine ⟨⟨r, hrow, q2⟩, (fun r2 e => by rw [hdead] at e; cases e), fun e => ?_⟩
      have := h.hr.inj (.cl id j) (.ob id) ⟨r, k, cs, hrow, q2, hne⟩ hlive e
      cases this
    · have := h.hr.inj ℓ (.ob id) hl' hlive he
      subst this
      rcases hl2 with ⟨r2, e, _⟩ | ⟨kv, e⟩
      · rw [hdead] at e; cases e
      · rw [hdead] at e; cases e
    · exact c8.mono (fun q _ e => ⟨e, .inr ⟨.ob id, hlive, rfl⟩⟩)
  have hnew : w.heap.size ≤ b ∨ ∃ ℓ, Lv st.hp g ℓ ∧ g.γ ℓ = b := by
    rcases c7 with c7 | c7
    · right; rw [c7]; exact ⟨.ob id, hlive, rfl⟩
    · exact .inl c7
  have hmo := hMv.mo h.hr (hnew.imp (fun h => h) .inr)
  have hrowR : RowR (g.mv st.hp.length b cap id) (st.hp.set id .d ++ [.r { r with cells := r.cells.take (n * r.k) ++ news }]) w' st.hp.length { r with cells := r.cells.take (n * r.k) ++ news } := by
    refine .inr ⟨by rw [mv_self.2.1]; exact c1, fun hsl hnil => ?_, arr, by rw [mv_self.1]; exact c2, ?_, by rw [mv_self.2.1]; exact c5, by rw [mv_self.2.1]; exact c4, fun j x hj => ?_⟩
    · simp only [List.append_eq_nil_iff] at hnil
      obtain ⟨z1, z2⟩ := hnil
      have hm0 : m = 0 := by
        have := hlr.1
        rw [z2, hlen] at this
        rcases Nat.eq_zero_or_pos m with h | h
        · exact h
        · have := Nat.mul_pos h hk; simp at *; omega
      have hz : (r.cells.take (n * r.k)).length = 0 := by rw [z1]; rfl
      rw [List.length_take, Nat.min_eq_left hnk] at hz
      rcases hnz with h3 | h3
      · have hn0 : 0 < n := by omega
        have := Nat.mul_pos hn0 hk; omega
      · exact htight hsl (List.eq_nil_of_length_eq_zero (by rw [← h3]; exact hz))
    · have := congrArg List.length c6
      rw [List.length_take, List.length_append, hlr.1] at this
      have hol : old.length = n * r.k := by rw [← hold, List.length_take]; simp; omega
      simp at this ⊢
      omega
    · rcases Nat.lt_or_ge j (r.cells.take (n * r.k)).length with hlt | hge
      · simp only [List.getElem?_append_left hlt, List.getElem?_take] at hj
        split at hj
        · rename_i hjn
          obtain ⟨u, u1, u2⟩ := hcells j x hj
          refine ⟨u, arr_get c6 ?_, ?_⟩
          · rw [← hold, List.getElem?_append_left (by rw [List.length_take]; simp; have := (Array.getElem?_eq_some_iff.1 u1).1; omega), List.getElem?_take, if_pos hjn]
            simpa using u1
          · refine CellR.mv hmo u2 (fun k cs hx hn => ⟨mv_self.2.2 j, ?_⟩)
            have hlc : Lv st.hp g (.cl id j) := ⟨r, k, cs, hrow, by rw [hj, hx], hn⟩
            exact c8.block _ (h.hr.lt hlc) (fun e => by have := h.hr.inj _ _ hlc hlive e; cases this)
        · cases hj
      · simp only [List.getElem?_append_right hge] at hj
        obtain ⟨u, u1, u2⟩ := hlr.fr hone hj
        refine ⟨u, arr_get c6 ?_, cell_of_fresh hmo u2⟩
        have hol : old.length = (r.cells.take (n * r.k)).length := by rw [← hold, List.length_take, List.length_take]; simp; omega
        rw [List.getElem?_append_right (by omega), hol]
        exact u1
  exact ⟨_, h.mo hmo (hMv.hr h.hr hnew hrowR) (hMv.new h.new (by
    rcases c7 with c7 | c7
    · rw [c7]; exact h.new _ hlive
    · right; exact Nat.le_trans h.fp.size c7)) (h.fp.one c8 (h.new _ hlive)), ⟨⟨_, h1', rfl⟩, by rw [mv_self.2.1]; exact c3, _, by rw [mv_self.2.1], fun _ => by rw [mv_self.1], fun q hq => by cases hq; exact (Array.getElem?_eq_some_iff.1 c2).1⟩, ext_mv (Nat.le_refl _)⟩
theorem push_get2 {hp : List Ob} {ob o' : Ob} {id i : Nat} {o : Ob} (h : (hp.set id o' ++ [ob])[i]? = some o) (hne : i ≠ hp.length) : (i = id ∧ o = o') ∨ (i ≠ id ∧ hp[i]? = some o) := by
  rw [show hp.length = (hp.set id o').length from by simp] at hne
  rw [push_ne _ _ hne, List.getElem?_set] at h
  split at h
  · rename_i e
    split at h
    · cases h; exact .inl ⟨e.symm, rfl⟩
    · cases h
  · rename_i e; exact .inr ⟨fun e' => e e'.symm, h⟩
theorem ofTr_one {cs : List Tr} {M : Nat → Prop} {us : Nat → Option Value} (h : ∀ (i : Nat) (t : Tr), cs[i]? = some t → ∃ u, us i = some u ∧ Rd M w t u) : (cs.map C.ofTr).all C.one = true := by
  simp only [List.all_eq_true, List.mem_map]
  rintro _ ⟨t, ht, rfl⟩
  obtain ⟨i, hi⟩ := List.mem_iff_getElem?.1 ht
  obtain ⟨u, _, hu⟩ := h i t hi
  cases t with
  | v x =>
    cases hu with
    | v _ h1 => cases u <;> first | rfl | cases h1
  | l k cs => rfl
theorem ap_own (h : RelG g M0 w0 st a w) {id j n m k e : Nat} {r : Row} {cs : List Tr} (hrow : st.hp[id]? = some (.r r)) (hcell : r.cells[j]? = some (.o (k, e) cs)) (hk : 0 < k) {news : List C} {us : List Value} (hlr : LR (CR g st.hp w) news us) (hone : news.all C.one = true) (hlen : us.length = m * k)
    {v v' : Value} {w' : World} (hv : CR g st.hp w (.b id j n) v) (hap : ∀ old, BaseR w e k v n old → ApR w e k v n m old us v' w') :
    ∃ g', RelG g' M0 w0 { st with hp := st.hp.set id (.r { r with cells := r.cells.set j .u }) ++ [.r ⟨e, k, true, cs.map C.ofTr ++ news⟩] } a w' ∧
      CR g' (st.hp.set id (.r { r with cells := r.cells.set j .u }) ++ [.r ⟨e, k, true, cs.map C.ofTr ++ news⟩]) w' (.s st.hp.length (n + m)) v' ∧ Ext st.hp.length g g' := by
  rcases h.hr.row id r hrow with ⟨_, h2⟩ | ⟨h0, htight, arr1, ha, hl, hs, hm, hcells⟩
  · rw [h2] at hcell; simp at hcell
  have hid : id < st.hp.length := (List.getElem?_eq_some_iff.1 hrow).1
  have hjl : j < r.cells.length := (List.getElem?_eq_some_iff.1 hcell).1
  obtain ⟨_, hb2⟩ := hv
  obtain ⟨v1, v2, v3, A1, cp1, v4⟩ := hb2 r _ cs hrow hcell
  obtain ⟨u, u1, u2⟩ := hcells j _ hcell
  rw [cell_of_row _ _ _ _ _ _ ha, u1] at v2
  cases v2
  simp only at v3
  have h1' : (st.hp.set id (.r { r with cells := r.cells.set j .u }) ++ [.r ⟨e, k, true, cs.map C.ofTr ++ news⟩])[st.hp.length]? = some (.r ⟨e, k, true, cs.map C.ofTr ++ news⟩) := by
    have := push_self (hp := st.hp.set id (.r { r with cells := r.cells.set j .u })) (.r ⟨e, k, true, cs.map C.ofTr ++ news⟩)
    simp
  have hat : (st.hp.set id (.r { r with cells := r.cells.set j .u }) ++ [.r ⟨e, k, true, cs.map C.ofTr ++ news⟩])[id]? = some (.r { r with cells := r.cells.set j .u }) := by
    rw [List.getElem?_append_left (by simpa using hid)]; simp [hid]
  have mk : ∀ (b cap d : Nat), (cs.map C.ofTr).all C.one = true → (b = d ∨ w.heap.size ≤ b) → (d = w.heap.size ∨ (cs ≠ [] ∧ d = g.γ (.cl id j))) → Fp (fun q => q = d ∧ Ow st.hp g d) w w' →
      Mv g st.hp w (st.hp.set id (.r { r with cells := r.cells.set j .u }) ++ [.r ⟨e, k, true, cs.map C.ofTr ++ news⟩]) w' st.hp.length b cap id d ⟨e, k, true, cs.map C.ofTr ++ news⟩ := by
    intro b cap d hco hbd hd hfp
    refine ⟨hbd, bn_len, fun i hi => bn_set rfl hi, h1', fun i r2 hi e1 => ?_, fun i kv e1 => ?_, fun j k' cs' hj hne => ?_, fun ℓ hl' he hl2 => ?_, hfp⟩
    · rcases push_get2 e1 hi with ⟨rfl, e⟩ | ⟨_, e⟩
      · cases e
        refine ⟨r, hrow, rfl, rfl, rfl, by simp, fun j' c hj' => ?_⟩
        rw [List.getElem?_set] at hj'
        split at hj'
        · left; (try split at hj') <;> first | (cases hj'; rfl) | cases hj'
        · exact .inr hj'
      · exact ⟨r2, e, rfl, rfl, rfl, rfl, fun j c hj => .inr hj⟩
    · have hi : i ≠ st.hp.length := by
        rintro rfl
        rw [h1'] at e1; cases e1
      rcases push_get2 e1 hi with ⟨_, e⟩ | ⟨_, e⟩
      · cases e
      · exact e
    · exfalso
      have := List.mem_of_getElem? hj
      rcases List.mem_append.1 this with h | h
      · have := List.all_eq_true.1 hco _ h; cases this
      · have := List.all_eq_true.1 hone _ h; cases this
    · rcases hd with rfl | ⟨hne, rfl⟩
      · have := h.hr.lt hl'; omega
      · have := h.hr.inj ℓ (.cl id j) hl' ⟨r, (k, e), cs, hrow, hcell, hne⟩ he
        subst this
        obtain ⟨r2, k2, cs2, e1, e2, _⟩ := hl2
        rw [hat] at e1
        cases e1
        simp [hjl] at e2
  have rowlen : ∀ (L : List Value), LR (CR g st.hp w) (cs.map C.ofTr ++ news) L → ∀ (arr : Array Value) (q : Nat), arr.toList.take q = L → (cs.map C.ofTr ++ news).length ≤ arr.size := by
    intro L hL arr q hq
    have := congrArg List.length hq
    rw [List.length_take, hL.1] at this
    have : L.length ≤ arr.size := by rw [← hq, List.length_take]; simp; omega
    rw [hL.1] at this; exact this
  rcases u2 with ⟨hcs, A, hA, hAb⟩ | ⟨hne, n', c', arr', hA, k1, k2, k3, k4, k5, k6⟩
  · subst hcs
    subst hA
    have hn : n = 0 := by cases v4; rfl
    subst hn
    have hap' := hap [] (.inl ⟨A, rfl, rfl, rfl, hAb⟩)
    rcases hap' with ⟨hm0, rfl, rfl⟩ | ⟨b, cap, arr, hm0, rfl, c1, c2, c3, c4, c5, c6, c7⟩
    · subst hm0
      have hnil : news = [] := List.eq_nil_of_length_eq_zero (by rw [← hlr.1, hlen]; simp)
      subst hnil
      have hMv := mk w'.heap.size 0 w'.heap.size rfl (.inl rfl) (.inl rfl) (Fp.refl _ _)
      have hmo := hMv.mo h.hr (.inl (Nat.le_refl _))
      have hrowR : RowR (g.mv st.hp.length w'.heap.size 0 id) (st.hp.set id (.r { r with cells := r.cells.set j .u }) ++ [.r ⟨e, k, true, ([] : List Tr).map C.ofTr ++ []⟩]) w' st.hp.length ⟨e, k, true, ([] : List Tr).map C.ofTr ++ []⟩ := .inl ⟨by rw [mv_self.2.1], rfl⟩
      exact ⟨_, h.mo hmo (hMv.hr h.hr (.inl (Nat.le_refl _)) hrowR) (hMv.new h.new (.inr h.fp.size)) h.fp, ⟨⟨_, h1', rfl⟩, Nat.zero_le _, A, by rw [mv_self.2.1], fun hn => absurd mv_self.2.1 hn, hAb⟩, ext_mv (Nat.le_refl _)⟩
    · have hnew : b = w.heap.size ∧ Fp (fun _ => False) w w' := by
        rcases c7 with c7 | ⟨bo, capo, h8, h9, _⟩
        · exact c7
        · cases h8; exact absurd rfl h9
      obtain ⟨rfl, hfp⟩ := hnew
      simp only [List.nil_append] at c6
      have hMv := mk w.heap.size cap w.heap.size rfl (.inl rfl) (.inl rfl) (hfp.mono (fun _ _ h => h.elim))
      have hmo := hMv.mo h.hr (.inl (Nat.le_refl _))
      have hrowR : RowR (g.mv st.hp.length w.heap.size cap id) (st.hp.set id (.r { r with cells := r.cells.set j .u }) ++ [.r ⟨e, k, true, ([] : List Tr).map C.ofTr ++ news⟩]) w' st.hp.length ⟨e, k, true, ([] : List Tr).map C.ofTr ++ news⟩ := by
        refine .inr ⟨by rw [mv_self.2.1]; exact c1, fun _ hnil => ?_, arr, by rw [mv_self.1]; exact c2, rowlen us (by simpa using hlr) arr _ c6, by rw [mv_self.2.1]; exact c5, by rw [mv_self.2.1]; exact c4, fun i x hx => ?_⟩
        · have h3 : news = [] := by simpa using hnil
          have := hlr.1
          rw [h3, hlen] at this
          have := Nat.mul_pos (Nat.pos_of_ne_zero hm0) hk
          simp at *; omega
        · obtain ⟨u, e1, e2⟩ := hlr.fr hone (by simpa using hx)
          exact ⟨u, arr_get c6 e1, cell_of_fresh hmo e2⟩
      exact ⟨_, h.mo hmo (hMv.hr h.hr (.inl (Nat.le_refl _)) hrowR) (hMv.new h.new (.inr h.fp.size)) (h.fp.trans (hfp.mono (fun _ _ h => h.elim))), ⟨⟨_, h1', rfl⟩, by rw [mv_self.2.1]; exact c3, _, by rw [mv_self.2.1], fun _ => by rw [mv_self.1], fun q hq => by cases hq; exact (Array.getElem?_eq_some_iff.1 c2).1⟩, ext_mv (Nat.le_refl _)⟩
  · subst hA
    have hn : n' = n := by cases v4; rfl
    subst hn
    simp only at k1 k4 k5
    have hc0 : c' ≠ 0 := by
      rintro rfl
      have : n' = 0 := by omega
      rw [this] at k1
      simp at k1
      exact hne k1
    have hlc : Lv st.hp g (.cl id j) := ⟨r, (k, e), cs, hrow, hcell, hne⟩
    have hol : (arr'.toList.take (n' * k)).length = n' * k := by
      rw [List.length_take]
      have : n' * k ≤ c' * k := Nat.mul_le_mul_right _ k2
      simp; omega
    have hap' := hap (arr'.toList.take (n' * k)) (.inr ⟨_, c', arr', rfl, hc0, k4, k2, k3, k5, rfl, hol⟩)
    obtain ⟨b, cap, arr, rfl, c1, c2, c3, c4, c5, c6, c7, c8⟩ := hap'.uni k4 hc0 k2 k3 k5 rfl hlen
    have hco : (cs.map C.ofTr).all C.one = true := ofTr_one (us := fun i => arr'[i]?) k6
    have hMv := mk b cap (g.γ (.cl id j)) hco c7 (.inr ⟨hne, rfl⟩) (c8.mono (fun q _ e => ⟨e, .inr ⟨.cl id j, hlc, rfl⟩⟩))
    have hnew : w.heap.size ≤ b ∨ ∃ ℓ, Lv st.hp g ℓ ∧ g.γ ℓ = b := by
      rcases c7 with c7 | c7
      · right; rw [c7]; exact ⟨.cl id j, hlc, rfl⟩
      · exact .inl c7
    have hmo := hMv.mo h.hr (hnew.imp (fun h => h) .inr)
    have hcsl : LR (CR g st.hp w) (cs.map C.ofTr) (arr'.toList.take (n' * k)) := by
      refine ⟨by rw [hol]; simp [k1], fun i x hx => ?_⟩
      rw [List.getElem?_map, Option.map_eq_some_iff] at hx
      obtain ⟨t, ht, rfl⟩ := hx
      obtain ⟨u, g1, g2⟩ := k6 i t ht
      have hlt := (List.getElem?_eq_some_iff.1 ht).1
      exact ⟨u, by rw [List.getElem?_take, if_pos (by omega)]; simpa using g1, ofTr_cr g2⟩
    have hall := hcsl.append hlr
    have honeA : (cs.map C.ofTr ++ news).all C.one = true := by rw [List.all_append, hco, hone]; rfl
    have hrowR : RowR (g.mv st.hp.length b cap id) (st.hp.set id (.r { r with cells := r.cells.set j .u }) ++ [.r ⟨e, k, true, cs.map C.ofTr ++ news⟩]) w' st.hp.length ⟨e, k, true, cs.map C.ofTr ++ news⟩ := by
      refine .inr ⟨by rw [mv_self.2.1]; exact c1, fun _ hnil => ?_, arr, by rw [mv_self.1]; exact c2, rowlen _ hall arr _ c6, by rw [mv_self.2.1]; exact c5, by rw [mv_self.2.1]; exact c4, fun i x hx => ?_⟩
      · simp at hnil; exact hne hnil.1
      · obtain ⟨u, e1, e2⟩ := hall.fr honeA hx
        exact ⟨u, arr_get c6 e1, cell_of_fresh hmo e2⟩
    exact ⟨_, h.mo hmo (hMv.hr h.hr hnew hrowR) (hMv.new h.new (by
      rcases c7 with c7 | c7
      · rw [c7]; exact h.new _ hlc
      · right; exact Nat.le_trans h.fp.size c7)) (h.fp.one c8 (h.new _ hlc)), ⟨⟨_, h1', rfl⟩, by rw [mv_self.2.1]; exact c3, _, by rw [mv_self.2.1], fun _ => by rw [mv_self.1], fun q hq => by cases hq; exact (Array.getElem?_eq_some_iff.1 c2).1⟩, ext_mv (Nat.le_refl _)⟩
theorem tyET {t : TypeId} {y z : Ty} (hty : tyOf P t = some y) (hk : y.kind = 1) (hz : tyOf P y.elem = some z) (h0 : 0 < z.size) (hl : z.zero.length = z.size) : ET P t y.elem z.size z.bytes := by
  obtain ⟨i, zv, hi, hzv, hs, hb, hzc⟩ := tyOf.info hz
  exact ⟨tyOf.slice hty hk, ⟨i, zv, hi, hzv, hs, hb, by rw [← hl, ← hzc]; simp⟩, h0⟩
theorem ap_sound (h : RelG g M0 w0 st a w) {o : Oper} {cl : Call} (ho : o.op = .call cl) {hp' : List Ob} {x : AV} (ha : apOp P st.ev st.hp cl = some (c, hp', x)) (hc : c) :
    ∃ v w' g', (execOp a.eval o).run P w = .ok (.value v) w' ∧ RelG g' M0 w0 { st with hp := hp' } a w' ∧ AVR (CR g' hp' w') x v ∧ (Ext st.hp.length g g' ∧ st.hp.length ≤ hp'.length) := by
  obtain ⟨callee, args, ts⟩ := cl
  unfold apOp at ha
  simp only at ha
  split at ha
  · rename_i s src t t' hargs hts
    have ha' : args = #[s, src] := by apply Array.ext'; simpa using hargs
    have ht' : ts = #[t, t'] := by apply Array.ext'; simpa using hts
    subst ha'; subst ht'
    split at ha
    · rename_i y hty
      split at ha
      · rename_i z hk hz
        split at ha
        · rename_i c1 news m hsrc
          split at ha
          · rename_i c2 hp2 n hbase
            split at ha
            · rename_i hcond
              simp only [Bool.and_eq_true, decide_eq_true_eq, beq_iff_eq] at hcond
              obtain ⟨⟨d1, d2⟩, rfl⟩ := hcond
              simp only [Option.some.injEq, Prod.mk.injEq] at ha
              obtain ⟨rfl, rfl, rfl⟩ := ha
              obtain ⟨hc1, hc2, hc3, hc4⟩ := hc
              obtain ⟨A, cp, us, hsv, hsl, hlr, hone1, hone⟩ := src_sound h.hr d1 (h.ev src) hsrc hc1
              have E := tyET hty hk hz d1 d2
              have hrun : ∀ {v' : Value} {w' : World}, (Builtin.append_ #[t, t] o.type #[a.eval s, .slice A m cp]).run P w = .ok v' w' → (execOp a.eval o).run P w = .ok (.value v') w' := by
                intro v' w' hr
                unfold execOp
                simp only [ho, resolve, invoke, builtin, Sem.run_bind, Sem.run_pure, Result.andThen_ok, List.map_toArray, List.map_cons, List.map_nil, hsv, hr]
              have hs := h.ev s
              generalize hsx : st.ev s = sx at hbase hs
              unfold apBase at hbase
              split at hbase
              · simp only [Option.some.injEq, Prod.mk.injEq] at hbase
                obtain ⟨_, rfl, rfl⟩ := hbase
                have hsv0 : a.eval s = .slice none 0 0 := hs
                rw [hsv0] at hrun
                obtain ⟨v', w', r1, r2⟩ := run_ap E w o.type (v := .slice none 0 0) (n := 0) (old := []) (.inl ⟨none, rfl, rfl, rfl, by simp⟩) hsl hone1 (by rw [Nat.zero_add]; exact hc3) (by omega)
                obtain ⟨g', q1, q2, q3⟩ := ap_empty h d1 hlr hone hsl.len (by simp) r2 bn_len (push_ne (.r ⟨y.elem, z.size, true, news⟩)) (push_self _)
                exact ⟨v', w', g', hrun r1, q1, q2, q3 _ (Nat.le_refl _), by simp⟩
              · rename_i id n'
                split at hbase
                · rename_i r hrow
                  simp only [Option.some.injEq, Prod.mk.injEq] at hbase
                  obtain ⟨rfl, rfl, rfl⟩ := hbase
                  obtain ⟨e1, e2, e3, e4⟩ := hc2
                  obtain ⟨b1, b2, A0, b3, b4, b5⟩ := hs
                  obtain ⟨er, kr, slr, cellsr⟩ := r
                  simp only at e1 e2 e3 e4
                  subst e1
                  subst e2
                  rw [b3] at hrun
                  rcases h.hr.row id _ hrow with ⟨h0, h2⟩ | ⟨h0, htight, arr, har, hl, hsz, hm, hcells⟩
                  · have hn0 : n' = 0 := by omega
                    subst hn0
                    rw [h0] at hrun
                    obtain ⟨v', w', r1, r2⟩ := run_ap E w o.type (v := .slice A0 0 0) (n := 0) (old := []) (.inl ⟨A0, rfl, rfl, rfl, b5⟩) hsl hone1 (by simpa using hc3) (by omega)
                    subst h2
                    have hid : id < st.hp.length := (List.getElem?_eq_some_iff.1 hrow).1
                    have hkill := h.kill (hp' := st.hp.set id .d) (fun i hi => by
                      obtain ⟨x0, x1, x2⟩ := hi
                      by_cases e : i = id
                      · subst e; exact ⟨.d, by simp [hid], rfl⟩
                      · exact ⟨x0, by rw [List.getElem?_set_ne (Ne.symm e)]; exact x1, x2⟩) (fun i r' e => by
                      rw [List.getElem?_set] at e
                      split at e
                      · (try split at e) <;> cases e
                      · exact e) (fun i kv e => by
                      rw [List.getElem?_set] at e
                      split at e
                      · (try split at e) <;> cases e
                      · exact e)
                    have hlr2 : LR (CR g (st.hp.set id .d) w) news us := hlr.imp (fun x hx u hu => by
                      refine CR.mo (mo_kill (fun i hi => by
                        obtain ⟨x0, x1, x2⟩ := hi
                        by_cases e : i = id
                        · subst e; exact ⟨.d, by simp [hid], rfl⟩
                        · exact ⟨x0, by rw [List.getElem?_set_ne (Ne.symm e)]; exact x1, x2⟩) (fun i r' e => by
                        rw [List.getElem?_set] at e
                        split at e
                        · (try split at e) <;> cases e
                        · exact e) (fun i kv e => by
                        rw [List.getElem?_set] at e
                        split at e
                        · (try split at e) <;> cases e
                        · exact e)) (by
                          have := List.all_eq_true.1 hone x hx
                          cases x <;> first | trivial | cases this) hu)
                    obtain ⟨g', q1, q2, q3⟩ := ap_empty (st := { st with hp := st.hp.set id .d }) (hp' := st.hp.set id .d ++ [.r ⟨y.elem, z.size, slr, news⟩]) (id := st.hp.length) (sl := slr) hkill d1 hlr2 hone hsl.len b5 r2 (by
                      have := bn_len (hp := st.hp.set id .d); simpa using this) (by
                      have := push_ne (hp := st.hp.set id .d) (.r ⟨y.elem, z.size, slr, news⟩); simpa using this) (by
                      have := push_self (hp := st.hp.set id .d) (.r ⟨y.elem, z.size, slr, news⟩); simp)
                    refine ⟨v', w', g', hrun r1, ?_, ?_, q3 _ (Nat.le_refl _), by simp⟩
                    · simpa using q1
                    · have : CR g' (st.hp.set id .d ++ [.r ⟨y.elem, z.size, slr, List.take (0 * z.size) [] ++ news⟩]) w' (.s st.hp.length (0 + m)) v' := by simpa using q2
                      exact this
                  · rw [b4 h0] at hrun
                    have hol : (arr.toList.take (n' * z.size)).length = n' * z.size := by
                      rw [List.length_take]
                      have : n' * z.size ≤ g.κ id * z.size := Nat.mul_le_mul_right _ b2
                      have hsz2 : arr.size = g.κ id * z.size := hsz
                      simp; omega
                    obtain ⟨v', w', r1, r2⟩ := run_ap E w o.type (n := n') (old := arr.toList.take (n' * z.size)) (.inr ⟨g.γ (.ob id), g.κ id, arr, rfl, h0, har, b2, hm, hsz, rfl, hol⟩) hsl hone1 hc3 hc4
                    obtain ⟨g', q1, q2, q3⟩ := ap_row h hrow d1 h0 e3 e4 b2 hlr hone hsl.len har rfl r2
                    exact ⟨v', w', g', hrun r1, q1, q2, q3, by simp⟩
                · cases hbase
              · rename_i id j n'
                split at hbase
                · rename_i r hrow
                  split at hbase
                  · rename_i k' cs hcell
                    simp only [Option.some.injEq, Prod.mk.injEq] at hbase
                    obtain ⟨rfl, rfl, rfl⟩ := hbase
                    subst hc2
                    have hbase2 : ∃ old, BaseR w y.elem z.size (a.eval s) n' old := by
                      obtain ⟨_, hb2⟩ := hs
                      obtain ⟨v1, v2, v3, A1, cp1, v4⟩ := hb2 r _ cs hrow hcell
                      rcases h.hr.row id r hrow with ⟨_, h2⟩ | ⟨h0, htight, arr1, har, hl, hsz, hm, hcells⟩
                      · rw [h2] at hcell; simp at hcell
                      · obtain ⟨u, u1, u2⟩ := hcells j _ hcell
                        rw [cell_of_row _ _ _ _ _ _ har, u1] at v2
                        injection v2 with v2
                        rcases u2 with ⟨hcs, A, hA, hAb⟩ | ⟨hne, n2, c', arr', hA, k1, k2, k3, k4, k5, k6⟩
                        · refine ⟨[], .inl ⟨A, by rw [← v2]; exact hA, ?_, rfl, hAb⟩⟩
                          rw [← v2, hA] at v4; cases v4; rfl
                        · have hn2 : n2 = n' := by rw [← v2, hA] at v4; cases v4; rfl
                          subst hn2
                          refine ⟨arr'.toList.take (n2 * z.size), .inr ⟨_, c', arr', by rw [← v2]; exact hA, ?_, k4, k2, k3, k5, rfl, ?_⟩⟩
                          · rintro rfl
                            have : n2 = 0 := by omega
                            rw [this] at k1; simp at k1; exact hne k1
                          · rw [List.length_take]
                            have : n2 * z.size ≤ c' * z.size := Nat.mul_le_mul_right _ k2
                            simp only at k5
                            simp; omega
                    obtain ⟨old, hbase2⟩ := hbase2
                    obtain ⟨v', w', r1, r2⟩ := run_ap E w o.type hbase2 hsl hone1 hc3 hc4
                    obtain ⟨g', q1, q2, q3⟩ := ap_own h hrow hcell d1 hlr hone hsl.len hs (v' := v') (w' := w') (fun old' hb' => by
                      have : old' = old := by
                        rcases hb' with ⟨A, hA, h1, h2, _⟩ | ⟨b, cap, arr, hA, h1, h2, h3, h4, h5, h6, h7⟩
                        · rcases hbase2 with ⟨A', _, _, h2', _⟩ | ⟨b', cap', arr', hA', h1', _⟩
                          · rw [h2, h2']
                          · rw [hA] at hA'; cases hA'; exact absurd rfl h1'
                        · rcases hbase2 with ⟨A', hA', _, h2', _⟩ | ⟨b', cap', arr', hA', h1', h2', h3', h4', h5', h6', h7'⟩
                          · rw [hA] at hA'; cases hA'; exact absurd rfl h1
                          · rw [hA] at hA'; cases hA'
                            rw [h2] at h2'; cases h2'
                            rw [← h6, ← h6']
                      rw [this]; exact r2)
                    exact ⟨v', w', g', hrun r1, q1, q2, q3, by simp⟩
                  · cases hbase
                · cases hbase
              · cases hbase
            · cases ha
          · cases ha
        · cases ha
      · cases ha
    · cases ha
  · cases ha
end
end Go.Proofs.Ytgclmlbaodcccaa
