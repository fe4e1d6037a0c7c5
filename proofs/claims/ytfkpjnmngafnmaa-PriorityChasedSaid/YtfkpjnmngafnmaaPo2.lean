/- The program's orders: contains, above, ValidOrder, blocks. -/
import Derived.Test.YtfkpjnmngafnmaaPo1
import Derived.Test.YtfkpjnmngafnmaaOrd2
namespace Go.Proofs.Ytfkpjnmngafnmaa
set_option linter.unusedVariables false
set_option linter.unusedSimpArgs false
open Go.RowKit

theorem eqAbove (a b c d : Int) (w : World) : (binOp .eql 52 (.agg #[.int .i64 a, .int .i64 b]) (.agg #[.int .i64 c, .int .i64 d])).run Try.prog w = .ok (.bool (decide ((a, b) = (c, d)))) w := by
  have ht : Try.prog.underlying 52 = some (.struct (Try.prog.fieldsOf 52)) := by kernel_rfl
  rw [run_eql_struct, run_equalIn_struct w 9999 _ _ _ ht (by kernel_rfl)]
  have hf : (Try.prog.fieldsOf 52).toList.map (fun f => (f.name, f.type, f.offset)) = [("Low", 3, 0), ("High", 3, 1)] := by kernel_rfl
  have hl : (Try.prog.fieldsOf 52).toList.length = 2 := by kernel_rfl
  match h : (Try.prog.fieldsOf 52).toList, hl with
  | [f, g], _ =>
    rw [h] at hf
    simp only [List.map_cons, List.map_nil, List.cons.injEq, Prod.mk.injEq, and_true] at hf
    obtain ⟨⟨n1, t1, o1⟩, n2, t2, o2⟩ := hf
    simp [Op.eqFields, n1, n2, t1, t2, o1, o2, go_sem, Try.underlying3]
    by_cases h1 : a = c <;> by_cases h2 : b = d <;> simp [h1, h2]
theorem T_aboves : ET Try.prog 26 52 2 16 := ⟨Try.underlying26, by
  have h : (Try.prog.info? 52).map (fun i => (i.zero, i.size, i.bytes)) = some (some (.agg #[.int .i64 0, .int .i64 0]), 2, 16) := by kernel_rfl
  obtain ⟨i, h1, h2, h3, h4⟩ := info_parts h
  exact ⟨i, _, h1, h2, h3, h4, rfl⟩, by omega⟩

abbrev SortedL (o : List Arc) : Prop := o.Pairwise fun a b => lessB a b = true
theorem firstN_lt {o : List Arc} {x : Arc} {j : Nat} {a : Arc} (h : o[j]? = some a) (hj : j < firstN o x) : lessB a x = true := by
  have : (o.takeWhile fun a => lessB a x)[j]? = some a := by
    have h2 := List.takeWhile_append_dropWhile (p := fun a => lessB a x) (l := o)
    rw [← h2, List.getElem?_append_left hj] at h
    exact h
  have := List.mem_of_getElem? this
  have hall := List.all_takeWhile (p := fun a => lessB a x) (l := o)
  exact List.all_eq_true.1 hall a this
theorem firstN_ge {o : List Arc} {x : Arc} {a : Arc} (h : o[firstN o x]? = some a) : lessB a x = false := by
  induction o with
  | nil => simp at h
  | cons y ys ih =>
    unfold firstN at h ih
    rw [List.takeWhile_cons] at h
    cases hy : lessB y x with
    | true =>
      simp only [hy, if_true, List.length_cons, List.getElem?_cons_succ] at h
      exact ih h
    | false =>
      simp [hy] at h
      subst h; exact hy
theorem firstN_after {o : List Arc} (hs : SortedL o) {x : Arc} {j : Nat} {a : Arc} (h : o[j]? = some a) (hj : firstN o x ≤ j) : lessB a x = false := by
  have hlt := (List.getElem?_eq_some_iff.1 h).1
  have h0 : o[firstN o x]? = some (o[firstN o x]'(by omega)) := List.getElem?_eq_getElem _
  cases hla : lessB a x with
  | false => rfl
  | true => have := sorted_mono hs h0 h hj hla; rw [firstN_ge h0] at this; cases this
theorem abvB_mem {o : List Arc} {lo hi : Int} : abvB o lo hi = true ↔ (lo, hi) ∈ o := by
  simp only [abvB, List.any_eq_true, Bool.and_eq_true, beq_iff_eq]
  constructor
  · rintro ⟨⟨a, b⟩, h, rfl, rfl⟩; exact h
  · intro h; exact ⟨_, h, rfl, rfl⟩
theorem contains_law {o : List Arc} (hs : SortedL o) {x y : Int} : (∀ a, o[firstN o (x, y)]? = some a → abvB o x y = decide (a = (x, y))) ∧ (o[firstN o (x, y)]? = none → abvB o x y = false) := by
  have key : abvB o x y = true → ∃ a, o[firstN o (x, y)]? = some a ∧ a = (x, y) := by
    intro h
    obtain ⟨j, hj⟩ := List.getElem?_of_mem (abvB_mem.1 h)
    have hge : firstN o (x, y) ≤ j := by
      rcases Nat.lt_or_ge j (firstN o (x, y)) with h | h
      · have := firstN_lt hj h; simp [lessB] at this
      · exact h
    have hlt := (List.getElem?_eq_some_iff.1 hj).1
    have h0 : o[firstN o (x, y)]? = some (o[firstN o (x, y)]'(by omega)) := List.getElem?_eq_getElem _
    refine ⟨_, h0, ?_⟩
    have h1 := firstN_ge h0
    rcases Nat.eq_or_lt_of_le hge with he | hl
    · rw [← he] at hj; rw [h0] at hj; exact Option.some.inj hj
    · obtain ⟨p, hp⟩ := List.getElem?_eq_some_iff.1 hj
      have h2 := List.pairwise_iff_getElem.1 hs (firstN o (x, y)) j (by omega) p hl
      rw [hp] at h2
      rw [h1] at h2; cases h2
  constructor
  · intro a ha
    cases hb : abvB o x y with
    | true =>
      obtain ⟨a', h1, h2⟩ := key hb
      rw [ha] at h1; injection h1 with h1
      simp [h1, h2]
    | false =>
      symm
      rw [decide_eq_false_iff_not]
      rintro rfl
      rw [abvB_mem.2 (List.mem_of_getElem? ha)] at hb; cases hb
  · intro hn
    cases hb : abvB o x y with
    | true => obtain ⟨a', h1, _⟩ := key hb; rw [hn] at h1; cases h1
    | false => rfl

set_option maxRecDepth 100000 in
set_option maxHeartbeats 4000000 in
theorem contains_any (A : Option Addr) (n c : Nat) (o : List Arc) (x y : Int) (w : World) (hr : Pairs [] w A n c o) (hn : n ≤ 1000) (hs : SortedL o) :
    Calls Try.prog 43 #[.slice A n c, .agg #[.int .i64 x, .int .i64 y]] w fun e w' => e = .returned (.bool (abvB o x y)) ∧ Fr [] w w' := by
  have HC := Lib.hid (contains_law hs (x := x) (y := y))
  have hfl : firstN o (x, y) ≤ n := by rw [← hr.n_eq]; exact firstN_le _ _
  have HFE : Hid (firstN o (x, y) = firstN o (x, y)) := rfl
  generalize hgi : firstN o (x, y) = i at HC hfl
  by_cases hlt : i < n
  · have hlt' : (i : Int) < (n : Int) := by omega
    obtain ⟨b, off, u, v, rfl, _, hb, hx, _, c1, c2⟩ := hr.getp hlt
    have hfin : abvB o x y = (decide (u = x) && decide (v = y)) := by rw [HC.out.1 _ hx]; simp
    have HF := Lib.hid hfin
    clear hfin hx HC
    go_enter Try.func43, Try.ntmps43
    go_wp2_with ((go_at_call 53; refine (first_any _ n c o x y _ (hr.keep (by repeat (first | exact Fr.refl _ _ | with_reducible assumption | with_reducible apply Fr.drewN | with_reducible apply Fr.drew | with_reducible apply Fr.alloc))) hn hs).mono ?_; rw [hgi]; rintro e w1 ⟨rfl, hf1⟩))
    have hG : Fr [] w w1 := Fr.trans (by repeat (first | exact Fr.refl _ _ | with_reducible assumption | with_reducible apply Fr.drewN | with_reducible apply Fr.drew | with_reducible apply Fr.alloc)) hf1
    have d1 := (hG.cell (p := ⟨b, off + i * 2, none⟩) hb (by simp)).trans c1
    have d2 := (hG.cell (p := ⟨b, off + i * 2 + 1, none⟩) hb (by simp)).trans c2
    have d3 := hf1.at1 (by simp) 0
    have d4 := hf1.at1 (by simp) 1
    simp at d3 d4
    have hE := eqAbove u v x y
    go_wp2_with fail
    go_quiet (fail)
    go_wp2_with fail
    go_ret
    exact ⟨by rw [HF.out]; rfl, hG.trans (by repeat (first | exact Fr.refl _ _ | with_reducible assumption | with_reducible apply Fr.drewN | with_reducible apply Fr.drew | with_reducible apply Fr.alloc))⟩
  · have hge : decide ((i : Int) < (n : Int)) = false := by simp; omega
    have hfin := HC.out.2 (List.getElem?_eq_none (by rw [hr.n_eq]; omega))
    have HF := Lib.hid hfin
    clear hfin HC
    go_enter Try.func43, Try.ntmps43
    go_wp2_with ((go_at_call 53; refine (first_any _ n c o x y _ (hr.keep (by repeat (first | exact Fr.refl _ _ | with_reducible assumption | with_reducible apply Fr.drewN | with_reducible apply Fr.drew | with_reducible apply Fr.alloc))) hn hs).mono ?_; rw [hgi]; rintro e w1 ⟨rfl, hf1⟩))
    have hG : Fr [] w w1 := Fr.trans (by repeat (first | exact Fr.refl _ _ | with_reducible assumption | with_reducible apply Fr.drewN | with_reducible apply Fr.drew | with_reducible apply Fr.alloc)) hf1
    go_wp2_with fail
    go_quiet (fail)
    go_wp2_with fail
    go_ret
    exact ⟨by rw [HF.out]; rfl, hG.trans (by repeat (first | exact Fr.refl _ _ | with_reducible assumption | with_reducible apply Fr.drewN | with_reducible apply Fr.drew | with_reducible apply Fr.alloc))⟩

/-- the pairs of an event -/
def abvL (o : List Arc) (e : Int) : List Arc := o.filter fun p => p.1 == e
theorem firstN_mono {o : List Arc} {x y : Arc} (h : ∀ a, lessB a x = true → lessB a y = true) : firstN o x ≤ firstN o y := by
  unfold firstN
  induction o with
  | nil => simp
  | cons z zs ih =>
    simp only [List.takeWhile_cons]
    cases hz : lessB z x with
    | true => simp [h z hz]; exact ih
    | false => simp
theorem tw_filter {o : List Arc} (hs : SortedL o) {e : Int} (h2 : ∀ p ∈ o, 2 ≤ p.2) (he : ∀ p ∈ o, e ≤ p.1) : o.takeWhile (fun a => lessB a (e + 1, 0)) = abvL o e := by
  unfold abvL
  induction o with
  | nil => rfl
  | cons y ys ih =>
    have hs' := List.pairwise_cons.1 hs
    have hy := he y (by simp)
    have hy2 := h2 y (by simp)
    by_cases hye : y.1 = e
    · have h1 : lessB y (e + 1, 0) = true := by simp [lessB]; omega
      simp [List.takeWhile_cons, h1, hye, ih hs'.2 (fun p hp => h2 p (by simp [hp])) (fun p hp => he p (by simp [hp]))]
    · have h1 : lessB y (e + 1, 0) = false := by simp [lessB]; omega
      have : ∀ p ∈ ys, ¬ p.1 = e := fun p hp h => by have := hs'.1 p hp; simp [lessB] at this; omega
      simp [List.takeWhile_cons, h1, hye]
      exact fun a b hab h => this _ hab h
theorem above_law {o : List Arc} (hs : SortedL o) {e : Int} (h2 : ∀ p ∈ o, 2 ≤ p.2) : (o.drop (firstN o (e, 0))).take (firstN o (e + 1, 0) - firstN o (e, 0)) = abvL o e := by
  induction o with
  | nil => simp [abvL]
  | cons y ys ih =>
    have hs' := List.pairwise_cons.1 hs
    have hy2 := h2 y (by simp)
    by_cases hye : y.1 < e
    · have h1 : lessB y (e, 0) = true := by simp [lessB]; omega
      have h3 : lessB y (e + 1, 0) = true := by simp [lessB]; omega
      have h4 : ¬ y.1 = e := by omega
      have := ih hs'.2 (fun p hp => h2 p (by simp [hp]))
      unfold firstN abvL at *
      simp [List.takeWhile_cons, h1, h3, h4]
      simpa using this
    · have h1 : lessB y (e, 0) = false := by simp [lessB]; omega
      have h3 : firstN (y :: ys) (e, 0) = 0 := by simp [firstN, List.takeWhile_cons, h1]
      rw [h3, List.drop_zero, Nat.sub_zero, ← tw_filter hs h2 (fun p hp => by
        rcases List.mem_cons.1 hp with rfl | hp
        · omega
        · have := hs'.1 p hp; simp [lessB] at this; omega)]
      generalize y :: ys = l
      have h5 := List.takeWhile_append_dropWhile (p := fun a => lessB a (e + 1, 0)) (l := l)
      unfold firstN
      conv => lhs; rw [← h5]
      conv => lhs; arg 1; rw [h5]
      rw [List.take_left]
theorem abvL_vis {o : List Arc} (h2 : ∀ p ∈ o, vo1 p = true) {e : Int} (hv : visB e = false) : abvL o e = [] := by
  unfold abvL
  rw [List.filter_eq_nil_iff]
  intro p hp h
  have := h2 p hp
  simp [vo1, visB] at *
  subst h
  omega

set_option maxRecDepth 100000 in
set_option maxHeartbeats 4000000 in
theorem pabove_any (M : List Nat) (A : Option Addr) (n c : Nat) (o : List Arc) (e : Int) (w : World) (hr : Pairs M w A n c o) (hn : n ≤ 1000) (hs : SortedL o) (h2 : ∀ p ∈ o, vo1 p = true) :
    Calls Try.prog 42 #[.slice A n c, .int .i64 e] w fun x w' => ∃ A' n' c', x = .returned (.slice A' n' c') ∧ Pairs M w' A' n' c' (abvL o e) ∧ Fr [] w w' := by
  cases hv : visB e with
  | false =>
    have hnil := abvL_vis h2 hv
    have HN := Lib.hid hnil
    have HV := Lib.hid hv
    clear hnil hv
    go_enter Try.func42, Try.ntmps42
    go_wp2_with ((go_at_call 40; refine (visible_any _ _).mono ?_; rw [HV.out]; rintro e w' ⟨rfl, rfl⟩))
    go_ret
    exact ⟨_, _, _, rfl, by rw [HN.out]; exact Ls.nil _ _ _ _, Fr.refl _ _⟩
  | true =>
    have hlaw := above_law hs (e := e) (fun p hp => by have := h2 p hp; simp [vo1] at this; omega)
    have hvv : 2 ≤ e ∧ e ≤ 1025 := by simpa [visB] using hv
    obtain ⟨v1, v2⟩ := hvv
    obtain ⟨e1, he1⟩ : ∃ e1, e + 1 = e1 := ⟨_, rfl⟩
    have hfit := IntWalk.i64_in (e + 1) (by omega)
    rw [he1] at hfit
    have hij : firstN o (e, 0) ≤ firstN o (e + 1, 0) := firstN_mono (fun a h => by simp [lessB] at *; omega)
    have hjn : firstN o (e + 1, 0) ≤ n := by rw [← hr.n_eq]; exact firstN_le _ _
    have HV := Lib.hid hv
    have HL := Lib.hid hlaw
    clear hv hlaw
    rw [he1] at HL hij hjn
    generalize hi : firstN o (e, 0) = i at HL hij
    generalize hj : firstN o (e1, 0) = j at HL hij hjn
    have hcap := hr.sl.cap
    have hcut := fun W => run_cut_lh T_aboves A n c i j hij (by omega) W
    have hL := hr.cut (fun _ => rfl) hij hjn (by omega)
    rw [HL.out] at hL
    go_enter Try.func42, Try.ntmps42
    go_wp2_with (first
      | (go_at_call 40; refine (visible_any _ _).mono ?_; rw [HV.out]; rintro e w' ⟨rfl, rfl⟩)
      | (go_at_call 53; refine (first_any _ n c o _ _ _ (by first | exact hr.plain | exact hr.plain.keep hf1) hn hs).mono ?_; (first | (rw [hi]; rintro x w1 ⟨rfl, hf1⟩) | (rw [hj]; rintro x w2 ⟨rfl, hf2⟩))))
    go_ret
    exact ⟨_, _, _, rfl, (hL.keep hf1.any).keep hf2.any, hf1.trans hf2⟩
end Go.Proofs.Ytfkpjnmngafnmaa
