/- Tarjan's algorithm as a plain law: what holds between its steps. Tarjan's algorithm over rows of numbers: the steps of graph.Components. graph.Components. cmp.Compare, slices.Compare, slices.Equal, diamond.subset. slices.CompactFunc at [][]int with slices.Equal. Canonical forms, as plain functions. slices.Compact at arcs. slices.SortFunc at arcs, from the shelf's contract. A row cut short. rows.Canonical. flow.Walker.Reach as a plain search: marks and queue. -/
import Derived.Test.YtknidjnbfnpkdaaGreatMF
import Derived.Test.YtknidjnbfnpkdaaGreatMGa
import Derived.Test.YtknidjnbfnpkdaaGreatG22
import Derived.Test.YtknidjnbfnpkdaaGreatMlz
import Derived.Test.YtknidjnbfnpkdaaGreatMD
import Derived.Test.YtknidjnbfnpkdaaGreatShlf
import Derived.Shelf.SlSortCmp.NoneTotal
namespace Go.Proofs.YtknidjnbfnpkdaaGreat
set_option linter.unusedVariables false
set_option linter.unusedSimpArgs false

inductive Rc (E : Nat → List Nat) : Nat → Nat → Prop
  | refl (v : Nat) : Rc E v v
  | tail {u v w : Nat} : Rc E u v → w ∈ E v → Rc E u w
theorem Rc.trans {E : Nat → List Nat} {u v w : Nat} (h1 : Rc E u v) (h2 : Rc E v w) : Rc E u w := by
  induction h2 with
  | refl => exact h1
  | tail _ he ih => exact ih.tail he
theorem Rc.one {E : Nat → List Nat} {u v : Nat} (h : v ∈ E u) : Rc E u v := (Rc.refl u).tail h

def upd (f : Nat → Int) (v : Nat) (a : Int) : Nat → Int := fun u => if u = v then a else f u
theorem upd_eq (f : Nat → Int) (v : Nat) (a : Int) : upd f v a v = a := by simp [upd]
theorem upd_ne {f : Nat → Int} {v u : Nat} {a : Int} (h : u ≠ v) : upd f v a u = f u := by simp [upd, h]

structure TJ where
  idx : Nat → Int
  low : Nat → Int
  out : Nat → Int
  opn : List Nat
  pth : List (Nat × Nat)
  cnt : Int
def TJ.op (S : TJ) (v : Nat) : Prop := 0 < S.idx v ∧ S.out v < 0
def TJ.pr (S : TJ) (v j : Nat) : Prop := ∀ k, (v, k) ∈ S.pth → j < k
/-- the least node of the component of v -/
def Least (E : Nat → List Nat) (v : Nat) (x : Int) : Prop := ∃ m : Nat, x = m ∧ Rc E v m ∧ Rc E m v ∧ ∀ u, Rc E v u → Rc E u v → m ≤ u

structure TI (E : Nat → List Nat) (n : Nat) (S : TJ) : Prop where
  nn : ∀ v, 0 ≤ S.idx v
  lt : ∀ v, 0 < S.idx v → v < n
  inj : ∀ u v, 0 < S.idx u → S.idx u = S.idx v → u = v
  cnt : ∀ v, S.idx v ≤ S.cnt
  opn : ∀ v, v ∈ S.opn ↔ S.op v
  srt : S.opn.Pairwise fun a b => S.idx a < S.idx b
  pop : ∀ g k, (g, k) ∈ S.pth → S.op g
  psr : S.pth.Pairwise fun a b => S.idx a.1 < S.idx b.1
  cls : ∀ v, 0 ≤ S.out v → 0 < S.idx v ∧ (∀ t ∈ E v, 0 ≤ S.out t) ∧ Least E v (S.out v)
  suc : ∀ v, 0 < S.idx v → ∀ j t, (E v)[j]? = some t → S.pr v j → 0 < S.idx t
  lw : ∀ v, S.op v → S.low v ≤ S.idx v ∧ ∃ w, S.op w ∧ Rc E v w ∧ S.idx w = S.low v
  blk : ∀ v, S.op v → (∀ k, (v, k) ∉ S.pth) → S.low v < S.idx v
  edg : ∀ v, S.op v → ∀ j t, (E v)[j]? = some t → S.pr v j → S.op t → ∀ g k, (g, k) ∈ S.pth → S.idx g ≤ S.idx v → (∀ g' k', (g', k') ∈ S.pth → S.idx g' ≤ S.idx v → S.idx g' ≤ S.idx g) → S.low g ≤ S.idx t
  rch : ∀ g k, (g, k) ∈ S.pth → ∀ v, S.op v → S.idx g ≤ S.idx v → Rc E g v

variable {E : Nat → List Nat} {n : Nat} {S : TJ}

theorem TI.top (h : TI E n S) {Q : List (Nat × Nat)} {s k : Nat} (hp : S.pth = Q ++ [(s, k)]) :
    S.op s ∧ (∀ g j, (g, j) ∈ Q → g ≠ s ∧ S.idx g < S.idx s) ∧ (∀ g j, (g, j) ∈ S.pth ↔ (g, j) ∈ Q ∨ (g = s ∧ j = k)) := by
  have h1 := h.psr
  rw [hp, List.pairwise_append] at h1
  refine ⟨h.pop s k (by rw [hp]; simp), fun g j hg => ?_, fun g j => by rw [hp]; simp⟩
  have := h1.2.2 (g, j) hg (s, k) (by simp)
  exact ⟨fun e => by subst e; exact absurd this (Int.lt_irrefl _), this⟩

/-- the low number of the node below, after its child -/
def Lup (S : TJ) (s : Nat) (Q : List (Nat × Nat)) (L : Nat → Int) : Prop :=
  (Q = [] ∧ L = S.low) ∨ ∃ Q' u j, Q = Q' ++ [(u, j)] ∧ L = upd S.low u (min (S.low u) (S.low s))

theorem TI.pop_ (h : TI E n S) {Q : List (Nat × Nat)} {s k : Nat} {L : Nat → Int} (hp : S.pth = Q ++ [(s, k)]) (hk : (E s).length ≤ k) (hlow : S.low s ≠ S.idx s) (hL : Lup S s Q L) :
    TI E n { S with low := L, pth := Q } := by
  obtain ⟨hos, hq, hmem⟩ := h.top hp
  have hLle : ∀ v, L v ≤ S.low v := fun v => by
    rcases hL with ⟨_, e⟩ | ⟨Q', u, j, _, e⟩
    · rw [e]; exact Int.le_refl _
    · rw [e]
      by_cases e2 : v = u
      · subst e2; rw [upd_eq]; exact Int.min_le_left _ _
      · rw [upd_ne e2]; exact Int.le_refl _
  have hLeq : ∀ v, (∀ j, (v, j) ∉ Q) → L v = S.low v := fun v hv => by
    rcases hL with ⟨_, e⟩ | ⟨Q', u, j, e1, e⟩
    · rw [e]
    · rw [e]
      by_cases e2 : v = u
      · subst e2; exact absurd (by rw [e1]; simp) (hv j)
      · rw [upd_ne e2]
  have hpr : ∀ v j q, (E v)[j]? = some q → (∀ k', (v, k') ∈ Q → j < k') → S.pr v j := by
    intro v j q hj hk' k' hm
    rcases (hmem v k').1 hm with h1 | ⟨h1, h2⟩
    · exact hk' k' h1
    · subst h1; subst h2
      have := (List.getElem?_eq_some_iff.1 hj).1
      omega
  have hin : ∀ g j, (g, j) ∈ Q → (g, j) ∈ S.pth := fun g j hg => (hmem g j).2 (.inl hg)
  refine ⟨h.nn, h.lt, h.inj, h.cnt, h.opn, h.srt, fun g j hg => h.pop g j (hin g j hg), ?_, h.cls, ?_, ?_, ?_, ?_, fun g j hg => h.rch g j (hin g j hg)⟩ <;> simp only
  · have h1 := h.psr
    rw [hp, List.pairwise_append] at h1
    exact h1.1
  · intro v hv0 j q hj hk'
    exact h.suc v hv0 j q hj (hpr v j q hj hk')
  · intro v hv0
    obtain ⟨h1, w, h2, h3, h4⟩ := h.lw v hv0
    refine ⟨Int.le_trans (hLle v) h1, ?_⟩
    rcases hL with ⟨_, e⟩ | ⟨Q', u, j, e1, e⟩
    · exact ⟨w, h2, h3, by rw [e]; exact h4⟩
    · rw [e]
      by_cases e2 : v = u
      · subst e2
        rw [upd_eq]
        rcases Int.le_total (S.low v) (S.low s) with h5 | h5
        · exact ⟨w, h2, h3, by rw [Int.min_eq_left h5]; exact h4⟩
        · obtain ⟨_, w', h6, h7, h8⟩ := h.lw s hos
          have hvQ : (v, j) ∈ Q := by rw [e1]; simp
          refine ⟨w', h6, (h.rch v j (hin v j hvQ) s hos (Int.le_of_lt (hq v j hvQ).2)).trans h7, by rw [Int.min_eq_right h5]; exact h8⟩
      · rw [upd_ne e2]; exact ⟨w, h2, h3, h4⟩
  · intro v hv0 hk'
    rw [hLeq v hk']
    by_cases e : v = s
    · subst e
      have := (h.lw v hos).1
      omega
    · refine h.blk v hv0 fun k2 hm => ?_
      rcases (hmem v k2).1 hm with h1 | ⟨h1, _⟩
      · exact hk' k2 h1
      · exact e h1
  · intro v hv0 j q hj hk' hoq g j2 hg hle hlast
    have hpv := hpr v j q hj hk'
    by_cases hsv : S.idx s ≤ S.idx v
    · have h1 := h.edg v hv0 j q hj hpv hoq s k ((hmem s k).2 (.inr ⟨rfl, rfl⟩)) hsv (fun g' k' hg' _ => by
        rcases (hmem g' k').1 hg' with h2 | ⟨h2, _⟩
        · exact Int.le_of_lt (hq g' k' h2).2
        · subst h2; exact Int.le_refl _)
      rcases hL with ⟨e0, _⟩ | ⟨Q', u, j3, e1, e⟩
      · subst e0; cases hg
      · have huQ : (u, j3) ∈ Q := by rw [e1]; simp
        have h2 := hlast u j3 huQ (by have := (hq u j3 huQ).2; omega)
        have h3 : S.idx g ≤ S.idx u := by
          have h4 := h.psr
          rw [hp, List.pairwise_append] at h4
          have h5 := h4.1
          rw [e1, List.pairwise_append] at h5
          rw [e1] at hg
          rcases List.mem_append.1 hg with h6 | h6
          · exact Int.le_of_lt (h5.2.2 _ h6 (u, j3) (by simp))
          · simp at h6; rw [h6.1]; exact Int.le_refl _
        have h4 : g = u := h.inj g u (h.pop g j2 (hin g j2 hg)).1 (Int.le_antisymm h3 h2)
        subst h4
        rw [e, upd_eq]
        exact Int.le_trans (Int.min_le_right _ _) h1
    · refine Int.le_trans (hLle g) (h.edg v hv0 j q hj hpv hoq g j2 (hin g j2 hg) hle fun g' k' hg' hle' => ?_)
      rcases (hmem g' k').1 hg' with h2 | ⟨h2, _⟩
      · exact hlast g' k' h2 hle'
      · subst h2; omega

theorem TI.none_open (h : TI E n S) (hp : S.pth = []) : ∀ (m : Nat) (v : Nat), (S.idx v).toNat ≤ m → ¬ S.op v
  | 0, v, hm, hv => by have := hv.1; omega
  | m + 1, v, hm, hv => by
    have h1 := h.blk v hv (by rw [hp]; simp)
    obtain ⟨_, w, h2, h3, h4⟩ := h.lw v hv
    exact h.none_open hp m w (by have := h2.1; omega) h2
theorem TI.done (h : TI E n S) (hp : S.pth = []) {v : Nat} (hv : 0 < S.idx v) : Least E v (S.out v) := by
  rcases Int.lt_or_le (S.out v) 0 with h1 | h1
  · exact absurd ⟨hv, h1⟩ (h.none_open hp _ v (Nat.le_refl _))
  · exact (h.cls v h1).2.2
theorem TI.start : TI E n { idx := fun _ => 0, low := fun _ => 0, out := fun _ => -1, opn := [], pth := [], cnt := 0 } := by
  refine ⟨?_, ?_, ?_, ?_, ?_, ?_, ?_, ?_, ?_, ?_, ?_, ?_, ?_, ?_⟩ <;> simp [TJ.op]
  all_goals (intros; omega)
end Go.Proofs.YtknidjnbfnpkdaaGreat
namespace Go.Proofs.YtknidjnbfnpkdaaGreat
set_option linter.unusedVariables false
set_option linter.unusedSimpArgs false

structure Tst where
  X : List Int
  W : List Int
  O : List Int
  op : List Nat
  pt : List (Nat × Nat)
  c : Nat
def fnL (L : List Int) (d : Int) (v : Nat) : Int := (L[v]?).getD d
def Tst.S (p : Tst) : TJ := { idx := fnL p.X 0, low := fnL p.W 0, out := fnL p.O (-1), opn := p.op, pth := p.pt, cnt := p.c }
theorem fnL_set {L : List Int} {d a : Int} {v : Nat} (h : v < L.length) : fnL (L.set v a) d = upd (fnL L d) v a := by
  funext u
  unfold fnL upd
  by_cases e : u = v
  · subst e; rw [if_pos rfl, List.getElem?_set_self h]; rfl
  · rw [if_neg e, List.getElem?_set_ne (fun h => e h.symm)]
/-- the nodes that v's arcs lead to -/
def Adj (t : Bool) (R : List (List Ar)) (v : Nat) : List Nat := (tauOf t (R.getD v [])).map fun a => a.2.toNat

structure Tst.Ok (E : Nat → List Nat) (n : Nat) (p : Tst) : Prop where
  ti : TI E n p.S
  lX : p.X.length = n
  lW : p.W.length = n
  lO : p.O.length = n
  cz : p.c + p.X.count 0 = n

variable {E : Nat → List Nat} {n : Nat} {p : Tst} {Q : List (Nat × Nat)} {v k : Nat}
/-- the frame at the top is new -/
def HdA (E : Nat → List Nat) (n : Nat) (p : Tst) : Prop := ∃ (P1 : List (Nat × Nat)) (t : Nat) (q : List (Nat × Nat)), p.pt = P1 ++ [(t, 0)] ∧ t < n ∧ fnL p.X 0 t = 0 ∧ Tst.Ok E n { p with pt := q } ∧
  (∀ g k, (g, k) ∈ P1 → ∃ k0, (g, k0) ∈ q) ∧ (∀ g k0, (g, k0) ∈ q → (g, k0) ∈ P1 ∨ ((g, k0 + 1) ∈ P1 ∧ (E g)[k0]? = some t)) ∧
  (P1.Pairwise fun a b => fnL p.X 0 a.1 < fnL p.X 0 b.1) ∧ (∀ g k, (g, k) ∈ q → Rc E g t) ∧ ∀ g k, (g, k) ∈ P1 → 1 ≤ k
def HdB (E : Nat → List Nat) (n : Nat) (p : Tst) : Prop := Tst.Ok E n p ∧ ∀ g k, (g, k) ∈ p.pt → 1 ≤ k
def Mid (E : Nat → List Nat) (n : Nat) (p : Tst) (Q : List (Nat × Nat)) (v k : Nat) : Prop := Tst.Ok E n p ∧ p.pt = Q ++ [(v, k)] ∧ ∀ g j, (g, j) ∈ Q → 1 ≤ j

theorem Mid.lt (h : Mid E n p Q v k) : v < n := by
  obtain ⟨h1, h2, _⟩ := h
  exact h1.ti.lt v (h1.ti.top (S := p.S) (show p.S.pth = _ from h2)).1.1
/-- an arc leads to a node that is new -/
theorem Mid.push (h : Mid E n p Q v k) {t : Nat} (ht : (E v)[k]? = some t) (hn : t < n) (h0 : fnL p.X 0 t = 0) : HdA E n { p with pt := Q ++ [(v, k + 1)] ++ [(t, 0)] } := by
  obtain ⟨h1, h2, h3⟩ := h
  obtain ⟨t1, t2, t3⟩ := h1.ti.top (S := p.S) (show p.S.pth = _ from h2)
  have hS : p.S.pth = p.pt := rfl
  refine ⟨Q ++ [(v, k + 1)], t, p.pt, rfl, hn, h0, h1, ?_, ?_, ?_, ?_, ?_⟩
  · intro g j hg
    rcases List.mem_append.1 hg with hg | hg
    · exact ⟨j, by rw [h2]; exact List.mem_append_left _ hg⟩
    · simp at hg; exact ⟨k, by rw [h2, hg.1]; simp⟩
  · intro g j hg
    rw [h2] at hg
    rcases List.mem_append.1 hg with hg | hg
    · exact .inl (List.mem_append_left _ hg)
    · simp at hg; obtain ⟨rfl, rfl⟩ := hg; exact .inr ⟨by simp, ht⟩
  · have := h1.ti.psr
    rw [show p.S.pth = _ from h2, List.pairwise_append] at this
    rw [List.pairwise_append]
    exact ⟨this.1, by simp, fun a ha b hb => by simp at hb; subst hb; exact this.2.2 a ha (v, k) (by simp)⟩
  · intro g j hg
    have hle : p.S.idx g ≤ p.S.idx v := by
      rcases (t3 g j).1 hg with h | ⟨h, _⟩
      · exact Int.le_of_lt (t2 g j h).2
      · rw [h]; exact Int.le_refl _
    exact (h1.ti.rch g j hg v t1 hle).tail (List.mem_of_getElem? ht)
  · intro g j hg
    rcases List.mem_append.1 hg with hg | hg
    · exact h3 g j hg
    · simp at hg; omega

/-- the lesser of two numbers, as the program takes it -/
def mn2 (a b : Int) : Int := if b < a then b else a
theorem mn2_eq (a b : Int) : mn2 a b = min a b := by unfold mn2; split <;> omega
/-- the row of low numbers when a frame is taken off -/
def lowUp (W : List Int) (v : Nat) (Q : List (Nat × Nat)) : List Int := match Q.getLast? with
  | none => W
  | some (u, _) => W.set u (mn2 (fnL W 0 u) (fnL W 0 v))
theorem lowUp_len (W : List Int) (v : Nat) (Q : List (Nat × Nat)) : (lowUp W v Q).length = W.length := by unfold lowUp; split <;> simp
theorem Mid.lup (h : Mid E n p Q v k) : Lup p.S v Q (fnL (lowUp p.W v Q) 0) := by
  obtain ⟨h1, h2, h3⟩ := h
  obtain ⟨t1, t2, t3⟩ := h1.ti.top (S := p.S) (show p.S.pth = _ from h2)
  rcases List.eq_nil_or_concat Q with e | ⟨Q', ⟨u, j⟩, e⟩
  · exact .inl ⟨e, by subst e; rfl⟩
  · refine .inr ⟨Q', u, j, by rw [e, List.concat_eq_append], ?_⟩
    have hu : u < n := h1.ti.lt u (h1.ti.pop u j ((t3 u j).2 (.inl (by rw [e]; simp)))).1
    have e2 : lowUp p.W v Q = p.W.set u (mn2 (fnL p.W 0 u) (fnL p.W 0 v)) := by unfold lowUp; rw [e]; simp
    rw [e2, fnL_set (by rw [h1.lW]; exact hu), mn2_eq]
    rfl
theorem Mid.pop (h : Mid E n p Q v k) (hk : (E v).length ≤ k) (hl : fnL p.W 0 v ≠ fnL p.X 0 v) : HdB E n { p with W := lowUp p.W v Q, pt := Q } :=
  ⟨⟨h.1.ti.pop_ h.2.1 hk hl h.lup, h.1.lX, by simp only [lowUp_len]; exact h.1.lW, h.1.lO, h.1.cz⟩, h.2.2⟩

theorem Mid.split (h : Mid E n p Q v k) : ∃ O1 O2, p.op = O1 ++ v :: O2 ∧ (∀ u ∈ O1, fnL p.X 0 u < fnL p.X 0 v) ∧ (∀ u ∈ O2, fnL p.X 0 v < fnL p.X 0 u) ∧ ∀ u ∈ p.op, u < n := by
  obtain ⟨h1, h2, h3⟩ := h
  obtain ⟨t1, t2, t3⟩ := h1.ti.top (S := p.S) (show p.S.pth = _ from h2)
  obtain ⟨O1, O2, e⟩ := List.append_of_mem ((h1.ti.opn v).2 t1)
  have hs := h1.ti.srt
  rw [e, List.pairwise_append, List.pairwise_cons] at hs
  exact ⟨O1, O2, e, fun u hu => hs.2.2 u hu v (by simp), fun u hu => hs.2.1.1 u hu, fun u hu => h1.ti.lt u ((h1.ti.opn u).1 hu).1⟩
theorem Tst.start : Tst.Ok E n { X := List.replicate n 0, W := List.replicate n 0, O := List.replicate n (-1), op := [], pt := [], c := 0 } := by
  refine ⟨?_, by simp, by simp, by simp, by simp⟩
  have e1 : fnL (List.replicate n 0) 0 = fun _ => 0 := by
    funext v; unfold fnL; rw [List.getElem?_replicate]; split <;> rfl
  have e2 : fnL (List.replicate n (-1)) (-1) = fun _ => -1 := by
    funext v; unfold fnL; rw [List.getElem?_replicate]; split <;> rfl
  simp only [Tst.S, e1, e2]
  exact TI.start
theorem incr_len : ∀ (L : List Int) (a b : Int), L.Pairwise (· < ·) → (∀ x ∈ L, a < x ∧ x ≤ b) → (L.length : Int) ≤ b - a ∨ L = [] := by
  intro L
  induction L with
  | nil => intro a b _ _; exact .inr rfl
  | cons x r ih =>
    intro a b hp hx
    rw [List.pairwise_cons] at hp
    have h1 := hx x (by simp)
    rcases ih x b hp.2 (fun y hy => ⟨hp.1 y hy, (hx y (by simp [hy])).2⟩) with h | h
    · left; rw [List.length_cons]; omega
    · left; subst h; simp; omega
theorem Tst.Ok.len (h : Tst.Ok E n p) : p.pt.length ≤ n ∧ p.op.length ≤ n ∧ p.c ≤ n := by
  have hz := h.cz
  have hc : p.c ≤ n := by omega
  refine ⟨?_, ?_, hc⟩
  · have h1 := h.ti.psr
    have := incr_len (p.pt.map fun f => fnL p.X 0 f.1) 0 p.c (by rw [List.pairwise_map]; exact h1) (fun x hx => by
      obtain ⟨f, hf, rfl⟩ := List.mem_map.1 hx
      exact ⟨(h.ti.pop f.1 f.2 hf).1, h.ti.cnt f.1⟩)
    rw [List.length_map] at this
    rcases this with h | h
    · omega
    · have : p.pt = [] := List.map_eq_nil_iff.1 h
      rw [this]; simp
  · have h1 := h.ti.srt
    have := incr_len (p.op.map fun f => fnL p.X 0 f) 0 p.c (by rw [List.pairwise_map]; exact h1) (fun x hx => by
      obtain ⟨f, hf, rfl⟩ := List.mem_map.1 hx
      exact ⟨((h.ti.opn f).1 hf).1, h.ti.cnt f⟩)
    rw [List.length_map] at this
    rcases this with h | h
    · omega
    · have : p.op = [] := List.map_eq_nil_iff.1 h
      rw [this]; simp
end Go.Proofs.YtknidjnbfnpkdaaGreat
namespace Go.Proofs.YtknidjnbfnpkdaaGreat
set_option linter.unusedVariables false
set_option linter.unusedSimpArgs false
open Go.RowKit
set_option maxRecDepth 100000
attribute [local go_sem] List.set_cons_zero List.set_cons_succ List.map_cons List.map_nil List.take_succ_cons List.take_zero List.drop_zero List.drop_succ_cons C.pl C.one List.all_cons List.all_nil Bool.and_true Nat.mul_one Int.toNat_natCast

theorem op_push (l : List Nat) (v : Nat) (J : List Int) : (cInts (l.map Int.ofNat ++ J)).take l.length ++ [C.v (.int .i64 v)] = cInts ((l ++ [v]).map Int.ofNat ++ []) := by
  rw [cInts_take, List.take_append_of_le_length (by simp), List.take_of_length_le (by simp), cInts_snoc, List.append_nil, List.map_append]; rfl
end Go.Proofs.YtknidjnbfnpkdaaGreat
namespace Go.Proofs.YtknidjnbfnpkdaaGreat
set_option linter.unusedVariables false
set_option linter.unusedSimpArgs false
open Go.RowKit
set_option maxRecDepth 100000

end Go.Proofs.YtknidjnbfnpkdaaGreat
namespace Go.Proofs.YtknidjnbfnpkdaaGreat
set_option linter.unusedVariables false
set_option linter.unusedSimpArgs false
open Go.RowKit
set_option maxRecDepth 100000

section
variable {α : Type} [DecidableEq α]
end
end Go.Proofs.YtknidjnbfnpkdaaGreat
namespace Go.Proofs.YtknidjnbfnpkdaaGreat
set_option linter.unusedVariables false
set_option linter.unusedSimpArgs false

def numOne (num old : List Int) (t : Int) : List Int × List Int := if num.getD t.toNat 0 < 0 then (num.set t.toNat old.length, old ++ [t]) else (num, old)
def rowGo : List Ar → List Int → List Int → List Ar → List Int × List Int × List Ar
  | [], num, old, nxt => (num, old, nxt)
  | a :: tl, num, old, nxt => rowGo tl (numOne num old a.2).1 (numOne num old a.2).2 (insA (a.1, (numOne num old a.2).1.getD a.2.toNat 0) nxt)
/-- numbers and queue fit -/
structure NumOk (n : Nat) (num old : List Int) : Prop where
  len : num.length = n
  rng : ∀ x ∈ num, -1 ≤ x ∧ x < n
  st : ∀ s ∈ old, 0 ≤ s ∧ s < n
  cnt : old.length + num.countP (fun x => decide (x < 0)) = n
theorem countP_set {p : Int → Bool} {l : List Int} {i : Nat} {x y : Int} (h : l[i]? = some x) (hx : p x = true) (hy : p y = false) : (l.set i y).countP p + 1 = l.countP p := by
  induction l generalizing i with
  | nil => simp at h
  | cons z zs ih =>
    cases i with
    | zero => simp at h; subst h; simp [List.countP_cons, hx, hy]
    | succ i =>
      simp only [List.getElem?_cons_succ] at h
      have := ih h
      simp only [List.set_cons_succ, List.countP_cons]
      omega
theorem NumOk.le {n : Nat} {num old : List Int} (h : NumOk n num old) : old.length ≤ n := by have := h.cnt; omega
theorem NumOk.get {n : Nat} {num old : List Int} (h : NumOk n num old) {t : Int} (h0 : 0 ≤ t) (h1 : t < n) : ∃ x, num[t.toNat]? = some x ∧ num.getD t.toNat 0 = x ∧ -1 ≤ x ∧ x < n := by
  have hl : t.toNat < num.length := by rw [h.len]; omega
  exact ⟨num[t.toNat], List.getElem?_eq_getElem hl, by simp [hl], h.rng _ (List.getElem_mem hl)⟩
theorem NumOk.one {n : Nat} {num old : List Int} (h : NumOk n num old) {t : Int} (h0 : 0 ≤ t) (h1 : t < n) : NumOk n (numOne num old t).1 (numOne num old t).2 := by
  obtain ⟨x, hx, hd, hb⟩ := h.get h0 h1
  unfold numOne
  rw [hd]
  split
  · rename_i hneg
    have hc := countP_set (p := fun x => decide (x < 0)) (y := (old.length : Int)) hx (by simpa using hneg) (by simp)
    have hcnt := h.cnt
    refine ⟨by simp [h.len], fun y hy => ?_, fun s hs => ?_, by simp; omega⟩
    · rcases List.mem_or_eq_of_mem_set hy with hy | hy
      · exact h.rng y hy
      · subst hy; omega
    · rcases List.mem_append.1 hs with hs | hs
      · exact h.st s hs
      · simp at hs; subst hs; exact ⟨h0, h1⟩
  · exact h
theorem NumOk.go {n : Nat} : ∀ (r : List Ar) {num old : List Int} (nxt : List Ar), NumOk n num old → (∀ a ∈ r, 0 ≤ a.2 ∧ a.2 < n) → NumOk n (rowGo r num old nxt).1 (rowGo r num old nxt).2.1
  | [], _, _, _, h, _ => h
  | a :: tl, _, _, nxt, h, hr => NumOk.go tl _ (h.one (hr a (by simp)).1 (hr a (by simp)).2) (fun b hb => hr b (List.mem_cons_of_mem _ hb))
theorem NumOk.start {n : Nat} (hn : 0 < n) : NumOk n ((List.replicate n (-1)).set 0 0) [0] := by
  obtain ⟨k, rfl⟩ : ∃ k, n = k + 1 := ⟨n - 1, by omega⟩
  refine ⟨by simp, fun x hx => ?_, fun s hs => ?_, ?_⟩
  · rcases List.mem_or_eq_of_mem_set hx with h | h
    · rw [(List.mem_replicate.1 h).2]; omega
    · subst h; omega
  · simp at hs; subst hs; omega
  · simp [List.replicate_succ, List.countP_replicate]; omega


/-- the numbering of a row, in the row's own order -/
def numL : List Ar → List Int → List Int → List Int × List Int × List Ar
  | [], num, old => (num, old, [])
  | a :: tl, num, old =>
    ((numL tl (numOne num old a.2).1 (numOne num old a.2).2).1, (numL tl (numOne num old a.2).1 (numOne num old a.2).2).2.1,
      (a.1, (numOne num old a.2).1.getD a.2.toNat 0) :: (numL tl (numOne num old a.2).1 (numOne num old a.2).2).2.2)
structure NumInj (num old : List Int) : Prop where
  inj : ∀ (t : Nat) (x : Int), num[t]? = some x → 0 ≤ x → old[x.toNat]? = some (t : Int)
theorem NumInj.one {num old : List Int} (h : NumInj num old) {t : Int} (h0 : 0 ≤ t) (h1 : t < num.length) : NumInj (numOne num old t).1 (numOne num old t).2 := by
  unfold numOne
  split
  · refine ⟨fun s x hx hp => ?_⟩
    rw [List.getElem?_set] at hx
    split at hx
    · rename_i hs
      rw [if_pos (by omega)] at hx
      injection hx with hx
      subst hx
      simp
      omega
    · have := h.inj s x hx hp
      rw [List.getElem?_append_left (List.getElem?_eq_some_iff.1 this).1]
      exact this
  · exact h
theorem NumInj.start {n : Nat} (hn : 0 < n) : NumInj ((List.replicate n (-1)).set 0 0) [0] := ⟨fun t x hx hp => by
  rw [List.getElem?_set] at hx
  split at hx
  · rename_i h
    subst h
    simp [hn] at hx
    subst hx; rfl
  · rw [List.getElem?_replicate] at hx
    split at hx
    · cases hx; omega
    · cases hx⟩

theorem numL_neg {tl : List Ar} {num old : List Int} {e x : Int} {tn L : Nat} (hx : num[tn]? = some x) (hneg : x < 0) (hL : old.length = L) :
    numL ((e, (tn : Int)) :: tl) num old = ((numL tl (num.set tn L) (old ++ [(tn : Int)])).1, (numL tl (num.set tn L) (old ++ [(tn : Int)])).2.1, (e, (L : Int)) :: (numL tl (num.set tn L) (old ++ [(tn : Int)])).2.2) := by
  have hl : tn < num.length := (List.getElem?_eq_some_iff.1 hx).1
  have h1 : numOne num old (tn : Int) = (num.set tn L, old ++ [(tn : Int)]) := by
    simp only [numOne, Int.toNat_natCast, List.getD, hx, Option.getD_some, if_pos hneg, hL]
  simp only [numL, h1, Int.toNat_natCast]
  simp [List.getD, hl]
theorem numL_pos {tl : List Ar} {num old : List Int} {e x : Int} {tn : Nat} (hx : num[tn]? = some x) (hpos : ¬ x < 0) :
    numL ((e, (tn : Int)) :: tl) num old = ((numL tl num old).1, (numL tl num old).2.1, (e, x) :: (numL tl num old).2.2) := by
  have h1 : numOne num old (tn : Int) = (num, old) := by
    simp only [numOne, Int.toNat_natCast, List.getD, hx, Option.getD_some, if_neg hpos]
  simp only [numL, h1, Int.toNat_natCast, List.getD, hx, Option.getD_some]
/-- how far the numbering of a row has come -/
def NL (R : List Int × List Int × List Ar) (ya q : List Ar) (k : Nat) (num old : List Int) : Prop :=
  ya.take k ++ (numL (q.drop k) num old).2.2 = R.2.2 ∧ (numL (q.drop k) num old).1 = R.1 ∧ (numL (q.drop k) num old).2.1 = R.2.1 ∧ ya.drop k = q.drop k
theorem NL.neg {R : List Int × List Int × List Ar} {ya q : List Ar} {k : Nat} {num old : List Int} {e x : Int} {tn L : Nat} (h : NL R ya q k num old) (hk : ya[k]? = some (e, (tn : Int))) (hx : num[tn]? = some x) (hneg : x < 0) (hL : old.length = L) :
    NL R (ya.set k (e, (L : Int))) q (k + 1) (num.set tn L) (old ++ [(tn : Int)]) := by
  obtain ⟨h1, h2, h3, h4⟩ := h
  have hl := (List.getElem?_eq_some_iff.1 hk).1
  have hd : q.drop k = (e, (tn : Int)) :: q.drop (k + 1) := by
    have h5 : ya.drop k = (e, (tn : Int)) :: ya.drop (k + 1) := by
      rw [List.drop_eq_getElem_cons hl]; congr 1
      rw [List.getElem?_eq_getElem hl] at hk; exact Option.some.inj hk
    have h6 := congrArg (List.drop 1) h4
    rw [List.drop_drop, List.drop_drop] at h6
    rw [← h4, h5, h6]
  rw [hd, numL_neg hx hneg hL] at h1 h2 h3
  refine ⟨?_, h2, h3, ?_⟩
  · rw [← h1, List.take_add_one, List.take_set_of_le (Nat.le_refl k)]
    simp [List.getElem?_set, hl]
  · rw [List.drop_set, if_pos (by omega)]
    have h6 := congrArg (List.drop 1) h4
    rwa [List.drop_drop, List.drop_drop] at h6
theorem NL.pos {R : List Int × List Int × List Ar} {ya q : List Ar} {k : Nat} {num old : List Int} {e x : Int} {tn : Nat} (h : NL R ya q k num old) (hk : ya[k]? = some (e, (tn : Int))) (hx : num[tn]? = some x) (hpos : ¬ x < 0) :
    NL R (ya.set k (e, x)) q (k + 1) num old := by
  obtain ⟨h1, h2, h3, h4⟩ := h
  have hl := (List.getElem?_eq_some_iff.1 hk).1
  have hd : q.drop k = (e, (tn : Int)) :: q.drop (k + 1) := by
    have h5 : ya.drop k = (e, (tn : Int)) :: ya.drop (k + 1) := by
      rw [List.drop_eq_getElem_cons hl]; congr 1
      rw [List.getElem?_eq_getElem hl] at hk; exact Option.some.inj hk
    have h6 := congrArg (List.drop 1) h4
    rw [List.drop_drop, List.drop_drop] at h6
    rw [← h4, h5, h6]
  rw [hd, numL_pos hx hpos] at h1 h2 h3
  refine ⟨?_, h2, h3, ?_⟩
  · rw [← h1, List.take_add_one, List.take_set_of_le (Nat.le_refl k)]
    simp [List.getElem?_set, hl]
  · rw [List.drop_set, if_pos (by omega)]
    have h6 := congrArg (List.drop 1) h4
    rwa [List.drop_drop, List.drop_drop] at h6


end Go.Proofs.YtknidjnbfnpkdaaGreat
namespace Go.Proofs.YtknidjnbfnpkdaaGreat
set_option linter.unusedVariables false
set_option linter.unusedSimpArgs false
open Go.RowKit
set_option maxRecDepth 100000

attribute [local go_sem] List.map_cons List.map_nil List.take_succ_cons List.take_zero List.drop_zero List.drop_succ_cons C.pl C.one List.all_cons List.all_nil Bool.and_true
end Go.Proofs.YtknidjnbfnpkdaaGreat
namespace Go.Proofs.YtknidjnbfnpkdaaGreat
set_option linter.unusedVariables false
set_option linter.unusedSimpArgs false
open Go.RowKit Go.Shelf Go.Sort

end Go.Proofs.YtknidjnbfnpkdaaGreat
namespace Go.Proofs.YtknidjnbfnpkdaaGreat
set_option linter.unusedVariables false
set_option linter.unusedSimpArgs false
open Go.RowKit

end Go.Proofs.YtknidjnbfnpkdaaGreat
namespace Go.Proofs.YtknidjnbfnpkdaaGreat
set_option linter.unusedVariables false
set_option linter.unusedSimpArgs false
open Go.RowKit
set_option maxRecDepth 100000
attribute [local go_sem] List.set_cons_zero List.set_cons_succ List.map_cons List.map_nil List.take_succ_cons List.take_zero List.drop_zero List.drop_succ_cons C.pl C.one List.all_cons List.all_nil Bool.and_true Nat.mul_one Int.toNat_natCast

theorem NL.start (q : List Ar) (num old : List Int) : NL (numL q num old) q q 0 num old := ⟨by simp, by simp, by simp, rfl⟩
theorem NL.fin {R : List Int × List Int × List Ar} {ya q : List Ar} {k : Nat} {num old : List Int} (h : NL R ya q k num old) (hk : q.length ≤ k) (hl : ya.length = q.length) : ya = R.2.2 ∧ num = R.1 ∧ old = R.2.1 := by
  obtain ⟨h1, h2, h3, h4⟩ := h
  rw [List.drop_of_length_le hk] at h1 h2 h3
  rw [List.take_of_length_le (by omega)] at h1
  simp only [numL, List.append_nil] at h1 h2 h3
  exact ⟨h1, h2, h3⟩
end Go.Proofs.YtknidjnbfnpkdaaGreat
namespace Go.Proofs.YtknidjnbfnpkdaaGreat
set_option linter.unusedVariables false
set_option linter.unusedSimpArgs false

/-- the search of a Walker: marks equal to the round's number stand for the queue's states -/
structure Fw (E : Nat → List Nat) (n : Nat) (F : List Nat) (rd : Int) (seen : List Int) (out : List Nat) : Prop where
  len : seen.length = n
  st : ∀ u, u < n → (seen.getD u 0 = rd ↔ u ∈ out)
  nd : out.Nodup
  lt : ∀ u ∈ out, u < n
  snd : ∀ u ∈ out, ∃ v ∈ F, Rc E v u
  bd : ∀ x ∈ seen, x ≤ rd
variable {E : Nat → List Nat} {n : Nat} {F : List Nat} {rd : Int} {seen : List Int} {out : List Nat}
theorem Fw.start (h : seen.length = n) (hb : ∀ x ∈ seen, x < rd) : Fw E n F rd seen [] :=
  ⟨h, fun u hu => ⟨fun e => by
    rw [List.getD_eq_getElem?_getD, List.getElem?_eq_getElem (by omega), Option.getD_some] at e
    have := hb _ (List.getElem_mem (show u < seen.length by omega)); omega, fun h => by simp at h⟩, List.nodup_nil, fun u h => by simp at h, fun u h => by simp at h, fun x h => by have := hb x h; omega⟩
theorem Fw.push (h : Fw E n F rd seen out) {u : Nat} (hu : u < n) (hn : seen.getD u 0 ≠ rd) (hs : ∃ v ∈ F, Rc E v u) : Fw E n F rd (seen.set u rd) (out ++ [u]) := by
  have hno : u ∉ out := fun hm => hn ((h.st u hu).2 hm)
  refine ⟨by rw [List.length_set]; exact h.len, fun w hw => ?_, ?_, fun w hw => ?_, fun w hw => ?_, fun x hx => ?_⟩
  · rw [List.getD_eq_getElem?_getD, List.getElem?_set]
    by_cases e : u = w
    · subst e
      rw [if_pos rfl, if_pos (by rw [h.len]; exact hw)]
      simp
    · rw [if_neg e, ← List.getD_eq_getElem?_getD, h.st w hw]
      simp [Ne.symm e]
  · exact List.nodup_append.2 ⟨h.nd, by simp, fun a ha b hb => by simp at hb; subst hb; exact fun e => hno (e ▸ ha)⟩
  · rcases List.mem_append.1 hw with h1 | h1
    · exact h.lt w h1
    · simp at h1; omega
  · rcases List.mem_append.1 hw with h1 | h1
    · exact h.snd w h1
    · simp at h1; subst h1; exact hs
  · rcases List.mem_or_eq_of_mem_set hx with h1 | h1
    · exact h.bd x h1
    · omega
theorem Fw.mem (h : Fw E n F rd seen out) {u : Nat} (hu : u < n) (hs : seen.getD u 0 = rd) : u ∈ out := (h.st u hu).1 hs
theorem nodup_le : ∀ (n : Nat) (l : List Nat), l.Nodup → (∀ u ∈ l, u < n) → l.length ≤ n := by
  intro n
  induction n with
  | zero => intro l _ h; cases l with
    | nil => simp
    | cons a r => have := h a (by simp); omega
  | succ n ih =>
    intro l hn hl
    have h1 : (l.erase n).length ≤ n := ih _ (hn.erase n) fun u hu => by
      have h2 := (List.Nodup.mem_erase_iff hn).1 hu
      have := hl u h2.2
      omega
    have := List.length_erase (a := n) (l := l)
    split at this <;> omega
theorem Fw.le (h : Fw E n F rd seen out) : out.length ≤ n := nodup_le n out h.nd h.lt
/-- all that is reached is there -/
theorem Fw.done (h : Fw E n F rd seen out) (hF : ∀ v ∈ F, v ∈ out) (hc : ∀ u ∈ out, ∀ w ∈ E u, w ∈ out) (u : Nat) : u ∈ out ↔ ∃ v ∈ F, Rc E v u := by
  refine ⟨h.snd u, fun ⟨v, hv, hr⟩ => ?_⟩
  induction hr with
  | refl => exact hF v hv
  | tail _ he ih => exact hc _ (ih ⟨v, hv, ‹_›⟩) _ he
/-- the states of a set, in order -/
def ordN (n : Nat) (p : Nat → Bool) : List Nat := (List.range n).filter p
theorem ordN_sorted (n : Nat) (p : Nat → Bool) : (ordN n p).Pairwise (· < ·) := List.Pairwise.filter _ List.pairwise_lt_range
theorem mem_ordN {n : Nat} {p : Nat → Bool} {u : Nat} : u ∈ ordN n p ↔ u < n ∧ p u = true := by simp [ordN]
theorem lt_ext : ∀ {l m : List Nat}, l.Pairwise (· < ·) → m.Pairwise (· < ·) → (∀ a, a ∈ l ↔ a ∈ m) → l = m
  | [], [], _, _, _ => rfl
  | [], b :: m, _, _, h => by have := (h b).2 (by simp); simp at this
  | a :: l, [], _, _, h => by have := (h a).1 (by simp); simp at this
  | a :: l, b :: m, hl, hm, h => by
    have hl' := List.pairwise_cons.1 hl
    have hm' := List.pairwise_cons.1 hm
    have hab : a = b := by
      rcases List.mem_cons.1 ((h a).1 (by simp)) with e | e
      · exact e
      · rcases List.mem_cons.1 ((h b).2 (by simp)) with e' | e'
        · exact e'.symm
        · have h1 := hm'.1 a e
          have h2 := hl'.1 b e'
          omega
    subst hab
    congr 1
    refine lt_ext hl'.2 hm'.2 fun c => ⟨fun hc => ?_, fun hc => ?_⟩
    · rcases List.mem_cons.1 ((h c).1 (List.mem_cons_of_mem _ hc)) with e | e
      · subst e; have := hl'.1 c hc; omega
      · exact e
    · rcases List.mem_cons.1 ((h c).2 (List.mem_cons_of_mem _ hc)) with e | e
      · subst e; have := hm'.1 c hc; omega
      · exact e
/-- a sorted row of different numbers is the one in order -/
theorem sort_ord {l m : List Nat} {p : Nat → Bool} (hp : m.Perm l) (hs : m.Pairwise (· ≤ ·)) (hn : l.Nodup) (hl : ∀ u, u ∈ l ↔ u < n ∧ p u = true) : m = ordN n p := by
  have hm : m.Nodup := hp.symm.nodup hn
  refine lt_ext ?_ (ordN_sorted n p) fun a => by rw [hp.mem_iff, hl, mem_ordN]
  refine List.Pairwise.imp (fun h => by omega) (List.Pairwise.and hs hm)
theorem takeW_at {r : List (Int × Int)} {k : Nat} {a : Int × Int} (h0 : ∀ j b, j < k + 1 → r[j]? = some b → b.1 = 0) (hk : r[k]? = some a) : a ∈ r.takeWhile fun a => a.1 == 0 := by
  induction r generalizing k with
  | nil => simp at hk
  | cons b r ih =>
    have hb := h0 0 b (by omega) rfl
    rw [List.takeWhile_cons, if_pos (by simp [hb])]
    cases k with
    | zero => simp at hk; subst hk; simp
    | succ k => exact List.mem_cons_of_mem _ (ih (k := k) (fun j c hj hc => h0 (j + 1) c (by omega) (by simpa using hc)) (by simpa using hk))
theorem tauOf_at {r : List (Int × Int)} {k : Nat} {t : Bool} {a : Int × Int} (h0 : t = true → ∀ j b, j < k + 1 → r[j]? = some b → b.1 = 0) (hk : r[k]? = some a) : a ∈ tauOf t r := by
  unfold tauOf
  split
  · rename_i ht
    exact takeW_at (h0 ht) hk
  · exact List.mem_of_getElem? hk
/-- a row up to its k-th arc -/
theorem tauOf_stop {r : List (Int × Int)} {k : Nat} (h0 : ∀ j a, j < k → r[j]? = some a → a.1 = 0) (h1 : ∀ a, r[k]? = some a → a.1 ≠ 0) : tauOf true r = r.take k := by
  unfold tauOf
  rw [if_pos rfl]
  induction r generalizing k with
  | nil => simp
  | cons a r ih =>
    cases k with
    | zero =>
      have := h1 a rfl
      simp [List.takeWhile_cons, this]
    | succ k =>
      have := h0 0 a (by omega) rfl
      rw [List.takeWhile_cons, if_pos (by simp [this]), List.take_succ_cons, ih (k := k) (fun j b hj hb => h0 (j + 1) b (by omega) (by simpa using hb)) (fun b hb => h1 b (by simpa using hb))]
end Go.Proofs.YtknidjnbfnpkdaaGreat
