/- Event, New, LTS, Chain: the systems that are drawn are valid. -/
import Derived.Test.YtfkpjnmngafnmaaTp
namespace Go.Proofs.Ytfkpjnmngafnmaa
set_option linter.unusedVariables false
set_option linter.unusedSimpArgs false
open Go.RowKit

theorem new_any (A : Option Addr) (n c : Nat) (xs : List Int) (w : World) (h : Ints [] w A n c xs) (hn : n ≤ 9223372036854775807) (hx : ∀ x ∈ xs, -9223372036854775808 ≤ x ∧ x ≤ 9223372036854775807) :
    Calls Try.prog 6 #[.slice A n c] w fun e w' => e = .returned (.pointer (some ⟨w.heap.size, 0, none⟩)) ∧ Tp w' w.heap.size 0 ∧ Fr [] w w' := by
  go_enter Try.func6, Try.ntmps6
  go_wp2_with fail
  go_ret
  exact ⟨rfl, ⟨A, n, c, xs, 0, Blk.new w _ [_, _], (Tz.of h).keep ((Fr.refl [] w).alloc _) (Nat.le_refl _) (by simp), by omega, hn, hx⟩, (Fr.refl [] w).alloc _⟩

def evs : List Int := [0, 0, 2, 3, 4, 2, 3, 1, 2, 5, 1025]
theorem evs_ok (v : Nat) (hv : v < 11) : ∃ x : Int, evs[v]? = some x ∧ 0 ≤ x ∧ x ≤ 1025 := by
  have h : ∀ x ∈ evs, 0 ≤ x ∧ x ≤ 1025 := by decide
  have hl : v < evs.length := hv
  exact ⟨evs[v], List.getElem?_eq_getElem hl, h _ (List.getElem_mem hl)⟩

set_option maxHeartbeats 1000000 in
theorem event_any (bt q : Nat) (w : World) (ht : Tp w bt q) (hq : q ≤ 1000000000) :
    Calls Try.prog 20 #[.pointer (some ⟨bt, 0, none⟩)] w fun e w' => ∃ x : Int, e = .returned (.int .i64 x) ∧ 0 ≤ x ∧ x ≤ 1025 ∧ Tp w' bt (q + 1) ∧ Fr [bt] w w' := by
  go_enter Try.func20, Try.ntmps20
  go_wp2_with ((go_at_call 22; refine (next_any bt q 11 _ (ht.alloc _) hq (by omega) (by omega)).mono ?_; rintro e w' ⟨v, rfl, hv, ht', hf⟩
                obtain ⟨x, hx, x0, x1⟩ := evs_ok v (by omega)
                have hc : w'.cell? ⟨w.heap.size, v, none⟩ = some (.int .i64 x) := ((Blk.new w 3 (evs.map (Value.int .i64))).fr hf (by have := ht.lt; simp; omega)).cellS (by rw [List.getElem?_map, hx]; rfl)
                clear hx))
  go_ret
  exact ⟨x, rfl, x0, x1, ht', ((Fr.refl [bt] w).alloc _).trans hf⟩

/-! valid rows -/
def Sorted (r : List Arc) : Prop := r.Pairwise fun a b => lessB a b = true
def okRow (L : Nat) (m : Nat) (r : List Arc) : Prop := Sorted r ∧ r.length ≤ L ∧ ∀ a ∈ r, 0 ≤ a.1 ∧ a.1 ≤ 1025 ∧ 0 ≤ a.2 ∧ a.2 < m
def okSys (L m : Nat) (rows : List (List Arc)) : Prop := rows.length = m ∧ ∀ r ∈ rows, okRow L m r

theorem less_trans {a b c : Arc} (h1 : lessB a b = true) (h2 : lessB b c = true) : lessB a c = true := by
  simp [lessB] at *; omega
theorem less_tri (a b : Arc) : lessB a b = true ∨ a = b ∨ lessB b a = true := by
  obtain ⟨a1, a2⟩ := a; obtain ⟨b1, b2⟩ := b
  simp [lessB]; omega
theorem mem_ins (x a : Arc) (r : List Arc) : a ∈ ins x r ↔ a = x ∨ a ∈ r := by
  induction r with
  | nil => simp [ins]
  | cons y ys ih =>
    simp only [ins]
    split
    · simp [ih]; constructor <;> (intro h; rcases h with h | h | h <;> simp [h])
    · split
      · rename_i h; subst h; simp
      · simp
theorem ins_len (x : Arc) (r : List Arc) : (ins x r).length ≤ r.length + 1 := by
  induction r with
  | nil => simp [ins]
  | cons y ys ih =>
    simp only [ins]
    split
    · simp; omega
    · split <;> simp
theorem ins_sorted (x : Arc) (r : List Arc) (h : Sorted r) : Sorted (ins x r) := by
  unfold Sorted at *
  induction r with
  | nil => simp [ins]
  | cons y ys ih =>
    rw [List.pairwise_cons] at h
    simp only [ins]
    split
    · rename_i hl
      rw [List.pairwise_cons]
      refine ⟨fun a ha => ?_, ih h.2⟩
      rcases (mem_ins x a ys).1 ha with rfl | ha
      · exact hl
      · exact h.1 a ha
    · split
      · exact List.pairwise_cons.2 h
      · rename_i hl hne
        have hxy : lessB x y = true := by
          rcases less_tri x y with h | h | h
          · exact h
          · exact absurd h.symm hne
          · exact absurd h hl
        rw [List.pairwise_cons]
        refine ⟨fun a ha => ?_, List.pairwise_cons.2 h⟩
        rcases List.mem_cons.1 ha with rfl | ha
        · exact hxy
        · exact less_trans hxy (h.1 a ha)
theorem ins_ok {L m : Nat} {x : Arc} {r : List Arc} (h : okRow L m r) (h1 : 0 ≤ x.1) (h2 : x.1 ≤ 1025) (h3 : 0 ≤ x.2) (h4 : x.2 < m) : okRow (L + 1) m (ins x r) :=
  ⟨ins_sorted x r h.1, Nat.le_trans (ins_len x r) (Nat.succ_le_succ h.2.1), fun a ha => by
    rcases (mem_ins x a r).1 ha with rfl | ha
    · exact ⟨h1, h2, h3, h4⟩
    · exact h.2.2 a ha⟩
theorem okRow.le {L L' m : Nat} {r : List Arc} (h : okRow L m r) (hl : L ≤ L') : okRow L' m r := ⟨h.1, Nat.le_trans h.2.1 hl, h.2.2⟩
theorem okSys.le {L L' m : Nat} {rows : List (List Arc)} (h : okSys L m rows) (hl : L ≤ L') : okSys L' m rows := ⟨h.1, fun r hr => (h.2 r hr).le hl⟩
theorem okSys.set {L m : Nat} {rows : List (List Arc)} (h : okSys L m rows) {r : List Arc} (hr : okRow L m r) (s : Nat) : okSys L m (rows.set s r) :=
  ⟨by simp [h.1], fun r' hr' => by
    rcases List.mem_or_eq_of_mem_set hr' with h' | h'
    · exact h.2 r' h'
    · exact h' ▸ hr⟩

/-- block g holds the rows of a valid system of m states, in blocks other than g and those of X -/
structure Gs (X : List Nat) (w : World) (g m L : Nat) : Prop where
  ex : ∃ vs rows, Blk w g 44 vs ∧ LRel (LsV cp 2 (g :: X) w) vs rows ∧ okSys L m rows
  nin : g ∉ X
section
variable {w w' : World} {X X' : List Nat} {g m L : Nat} {M : List Nat}
theorem Gs.lt (h : Gs X w g m L) : g < w.heap.size := by obtain ⟨_, _, h, _⟩ := h.ex; exact h.lt
theorem Gs.keep (h : Gs X w g m L) (hf : Fr M w w') (hM : ∀ k ∈ M, k < w.heap.size → k ∈ X) : Gs X w' g m L := by
  obtain ⟨vs, rows, h1, h2, h3⟩ := h.ex
  have hf' : Fr X w w' := hf.mono hM
  exact ⟨⟨vs, rows, h1.fr hf' h.nin, h2.imp fun _ _ hr => hr.keep hf'.cons, h3⟩, h.nin⟩
theorem Gs.le {L' : Nat} (h : Gs X w g m L) (hl : L ≤ L') : Gs X w g m L' := by
  obtain ⟨vs, rows, h1, h2, h3⟩ := h.ex; exact ⟨⟨vs, rows, h1, h2, h3.le hl⟩, h.nin⟩
theorem Gs.sub (h : Gs X w g m L) (hs : ∀ x ∈ X', x ∈ X) : Gs X' w g m L := by
  obtain ⟨vs, rows, h1, h2, h3⟩ := h.ex
  exact ⟨⟨vs, rows, h1, h2.imp fun _ _ hr => hr.sub (fun x hx => by
    rcases List.mem_cons.1 hx with rfl | hx
    · exact List.mem_cons_self
    · exact List.mem_cons_of_mem _ (hs x hx)), h3⟩, fun hin => h.nin (hs g hin)⟩
theorem Gs.new (h : Gs X w g m L) {x : Nat} (hx : w.heap.size ≤ x) : Gs (x :: X) w g m L := by
  have hg := h.lt
  obtain ⟨vs, rows, h1, h2, h3⟩ := h.ex
  exact ⟨⟨vs, rows, h1, h2.imp fun _ _ hr => (hr.new hx).sub (by intro m hm; simp at hm ⊢; rcases hm with h | h | h <;> simp [h]), h3⟩, by
    simp only [List.mem_cons, not_or]; exact ⟨by omega, h.nin⟩⟩
theorem Gs.row (h : Gs X w g m L) {s : Nat} (hs : s < m) : ∃ A n c row, w.cell? ⟨g, s, none⟩ = some (.slice A n c) ∧ Pairs (g :: X) w A n c row ∧ okRow L m row ∧ n ≤ L := by
  obtain ⟨vs, rows, h1, h2, h3⟩ := h.ex
  have hl : s < rows.length := by rw [h3.1]; exact hs
  obtain ⟨v, hv, A, n, c, rfl, hL⟩ := h2.get' (List.getElem?_eq_getElem hl)
  have ho := h3.2 _ (List.getElem_mem hl)
  exact ⟨A, n, c, _, h1.cellS hv, hL, ho, by rw [← hL.n_eq]; exact ho.2.1⟩
theorem Gs.frozen (h : Gs X w g m L) (s : Nat) : w.frozen? ⟨g, s, none⟩ = false := by obtain ⟨_, _, h, _⟩ := h.ex; exact h.frozen s
theorem Gs.set (h : Gs X w g m L) {A : Option Addr} {n c : Nat} {row : List Arc} (hr : Pairs (g :: X) w A n c row) (ho : okRow L m row) (s : Nat) : Gs X (w.setCell ⟨g, s, none⟩ (.slice A n c)) g m L := by
  obtain ⟨vs, rows, h1, h2, h3⟩ := h.ex
  have hf : Fr (g :: X) w (w.setCell ⟨g, s, none⟩ (.slice A n c)) := (Fr.refl _ w).setCell (.inl (by simp)) _
  exact ⟨⟨vs.set s (.slice A n c), rows.set s row, h1.set_ s _, (h2.imp fun _ _ hr => hr.keep hf).set s ⟨A, n, c, rfl, hr.keep hf⟩, h3.set ho s⟩, h.nin⟩
/-- what the rows are -/
theorem Gs.ll (h : Gs X w g m L) : ∃ rows, Ll cp 2 X w (some ⟨g, 0, none⟩) m m rows ∧ okSys L m rows := by
  have hg := h.nin
  obtain ⟨vs, rows, h1, h2, h3⟩ := h.ex
  have hvl : vs.length = m := by rw [h2.1]; exact h3.1
  have hfl : vs.flatMap cv = vs := by show vs.flatMap (fun x => [x]) = vs; simp
  refine ⟨rows, ⟨vs, ⟨⟨by rw [hfl, hvl]; simp, Nat.le_refl _, fun _ => ⟨g, 0, rfl, hg, h1.lt, fun j u hu => ?_⟩⟩, hvl⟩, h2.imp fun _ _ hr => hr.sub (fun x hx => List.mem_cons_of_mem _ hx)⟩, h3⟩
  rw [hfl] at hu
  rw [Nat.zero_add]
  exact h1.cellS hu
end
end Go.Proofs.Ytfkpjnmngafnmaa
