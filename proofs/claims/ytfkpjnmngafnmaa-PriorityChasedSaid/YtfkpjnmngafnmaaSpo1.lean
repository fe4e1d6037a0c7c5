/- Copy: rows of one's own, in blocks of their own. -/
import Derived.Test.YtfkpjnmngafnmaaQb1
import Derived.Test.YtfkpjnmngafnmaaRegn
namespace Go.Proofs.Ytfkpjnmngafnmaa
set_option linter.unusedVariables false
set_option linter.unusedSimpArgs false
open Go.RowKit

section
variable {P : Program} {α : Type} {f : α → List Value} {M : List Nat} {w w' : World} {A : Option Addr} {n m c k bytes : Nat} {B : Nat} {t e : TypeId} {v : Value} {cs news : List Value} {xs : List α}
theorem run_app_pos (E : ET P t e k bytes) (w : World) (ty : TypeId) (hown : Own w B e k v n cs) (hr : Sl M w A m c k news) (h1 : ∀ u ∈ news, u.oneCell' = true) (h0 : 0 < m)
    (hb : (n + m) * bytes ≤ 140737488355328) (hmax : n + m ≤ 140737488355328) (hB : B ≤ w.heap.size) :
    ∃ v' w', (Builtin.append_ #[t, t] ty #[v, .slice A m c]).run P w = .ok v' w' ∧ w'.ownsRow B e k v' (n + m) (cs ++ news) ∧
      (w.grownBy w' v.ownBlock ∧ (v'.ownBlock = v.ownBlock ∨ v'.ownBlock = some w.heap.size)) := by
  obtain ⟨ht, ⟨i, z, hi, hz, hs, hby, hzs⟩, hk⟩ := E
  obtain ⟨b, off, rfl, _, _, hc⟩ := hr.at_ (by omega)
  have hnews : ∀ j u, news[j]? = some u → w.cell? ((⟨b, off, none⟩ : Addr).add j) = some u := fun j u hu => by
    have := hc j u hu
    unfold Addr.add
    split
    · simp_all
    · exact this
  rcases hown with hown | ⟨A', rfl, hsl, hbB⟩
  · obtain ⟨v', w', r1, r2, r3, _, r5⟩ := run_append_own_at (P := P) w B t ty e i z k bytes ht hi hz hs hby hzs hk v n cs hown ⟨b, off, none⟩ m c news hr.len
      hnews h1 (by simp only [maxLen]; omega) hb hB
    exact ⟨v', w', r1, r2, r3, r5⟩
  · cases A' with
    | none =>
      have hn0 : n = 0 := by
        rcases Nat.eq_zero_or_pos n with h | h
        · exact h
        · obtain ⟨b', off', hA, _⟩ := hsl.at_ h
          cases hA
      subst hn0
      have hcs : cs = [] := List.eq_nil_of_length_eq_zero (by simpa using hsl.len)
      subst hcs
      obtain ⟨v', w', r1, r2, r3, _, r5⟩ := run_append_own_at (P := P) w B t ty e i z k bytes ht hi hz hs hby hzs hk (.slice none 0 0) 0 [] (World.ownsRow_nil _ _ _ _) ⟨b, off, none⟩ m c news hr.len
        hnews h1 (by simp only [maxLen]; omega) hb hB
      exact ⟨v', w', r1, r2, r3, r5⟩
    | some a' =>
      have holds : ∀ j u, cs[j]? = some u → w.cell? (a'.add j) = some u := fun j u hu => by
        have hn : 0 < n := by
          rcases Nat.eq_zero_or_pos n with h | h
          · have : cs = [] := List.eq_nil_of_length_eq_zero (by rw [hsl.len, h]; simp)
            rw [this] at hu; cases hu
          · exact h
        obtain ⟨b', off', hA, _, _, hc'⟩ := hsl.at_ hn
        injection hA with hA
        subst hA
        have := hc' j u hu
        unfold Addr.add
        split
        · simp_all
        · exact this
      subst hs; subst hby
      have hr2 := run_append_grow (P := P) w t ty e i z ht hi hz a' n n cs hsl.len holds ⟨b, off, none⟩ m c news hr.len hnews (by omega) (by omega) (growslice_fits (by omega) hb)
      have hge := grownCap_ge w (n + m) n e
      have hcm : grownCap w (n + m) n e ≤ maxLen := grownCap_le_maxLen w (n + m) n e (by simp only [maxLen]; omega)
      have hlen : (cs ++ news).length = (n + m) * i.size := by rw [List.length_append, hsl.len, hr.len, Nat.add_mul]
      refine ⟨_, _, hr2, ⟨hlen, .inr ⟨w.heap.size, _, _, rfl, hB, heap_alloc_new w.drew _, hge, hcm, ?_, ?_⟩⟩, ⟨rfl, rfl, rfl, by simp, fun q hq _ => Below.heap_alloc w.drew _ q (by simpa using hq)⟩, .inr rfl⟩
      · simp only [Array.size_append, List.size_toArray, size_zeroCells, hzs, hsl.len, hr.len, ← Nat.add_mul]
        congr 1
        omega
      · simp only [Array.toList_append, List.append_assoc]
        rw [← List.append_assoc, ← hlen]
        exact List.take_left
theorem wp_app_pos {o : Oper} {a : Act} {K : Act → World → Prop} {Q : Exit → Act → World → Prop} {s x : Operand}
    (ho : o.op = .call { callee := .builtin .append, args := #[s, x], argTypes := #[t, t] }) (E : ET P t e k bytes) (hown : Own w B e k v n cs)
    (hr : Sl M w A m c k news) (hs : a.eval s = v) (hx : a.eval x = .slice A m c) (h1 : ∀ u ∈ news, u.oneCell' = true)
    (h0 : 0 < m) (hb : (n + m) * bytes ≤ 140737488355328) (hmax : n + m ≤ 140737488355328) (hB : B ≤ w.heap.size)
    (h : ∀ v' w', w'.ownsRow B e k v' (n + m) (cs ++ news) → w.grownBy w' v.ownBlock → (v'.ownBlock = v.ownBlock ∨ v'.ownBlock = some w.heap.size) → K (a.put o.dst v') w') : o.wp P a w K Q := by
  obtain ⟨v', w', hrun, h2, h3, h4⟩ := run_app_pos E w o.type hown hr h1 h0 hb hmax hB
  unfold Oper.wp execOp
  simp only [ho, resolve, invoke, builtin, Sem.run_bind, Sem.run_pure, Result.andThen_ok, List.map_toArray, List.map_cons, List.map_nil, hs, hx, hrun]
  exact h v' w' h2 h3 h4
end

theorem row_fr {M : List Nat} {w w' : World} {B : Nat} {e : TypeId} {k n : Nat} {v : Value} {cs : List Value} (h : w.ownsRow B e k v n cs) (hf : Fr M w w') (hM : ∀ m ∈ M, m < B) : w'.ownsRow B e k v n cs := by
  refine ⟨h.1, ?_⟩
  rcases h.2 with hn | ⟨g, cap, cur, rfl, hb, hgg, rest⟩
  · exact .inl hn
  · refine .inr ⟨g, cap, cur, rfl, hb, ?_, rest⟩
    rw [hf.block g (Array.getElem?_eq_some_iff.1 hgg).1 (fun hin => by have := hM g hin; omega)]
    exact hgg
theorem row_low {w : World} {B B' : Nat} {e : TypeId} {k n : Nat} {v : Value} {cs : List Value} (h : w.ownsRow B e k v n cs) (hB : B' ≤ B) : w.ownsRow B' e k v n cs := by
  refine ⟨h.1, ?_⟩
  rcases h.2 with hn | ⟨g, cap, cur, h2, hb, rest⟩
  · exact .inl hn
  · exact .inr ⟨g, cap, cur, h2, Nat.le_trans hB hb, rest⟩
structure OR (B : Nat) (w : World) (vout : Value) (vs : List Value) (outs : List (List Arc)) : Prop where
  out : Own w B 44 1 vout outs.length (vs.flatMap cv)
  row : 0 < outs.length → w.ownsRow B 44 1 vout outs.length (vs.flatMap cv)
  rel : LRel (fun v r => Own w B 46 2 v r.length (r.flatMap cp)) vs outs
  far : ∀ v ∈ vs, ∀ b, v.ownBlock = some b → b ∉ bl vout
  two : vs.Pairwise (fun u v => ∀ b, u.ownBlock = some b → v.ownBlock ≠ some b)
section
variable {B : Nat} {w w' : World} {vout : Value} {vs : List Value} {outs : List (List Arc)}
theorem OR.nil (B : Nat) (w : World) : OR B w (.slice none 0 0) [] [] := ⟨Own.nil _ _ _ _, by simp, LRel.nil, by simp, List.Pairwise.nil⟩
theorem OR.fr {M : List Nat} (h : OR B w vout vs outs) (hf : Fr M w w') (hM : ∀ m ∈ M, m < B) : OR B w' vout vs outs :=
  ⟨h.out.fr hf hM, fun h0 => row_fr (h.row h0) hf hM, h.rel.imp fun _ _ hr => hr.fr hf hM, h.far, h.two⟩
theorem OR.vlt (h : OR B w vout vs outs) {v : Value} (hv : v ∈ vs) {b : Nat} (hb : v.ownBlock = some b) : B ≤ b ∧ b < w.heap.size := by
  obtain ⟨i, hi⟩ := List.getElem?_of_mem hv
  obtain ⟨r, _, hr⟩ := h.rel.get hi
  exact hr.blk2 b hb
theorem OR.push (h : OR B w vout vs outs) {u vout' : Value} {r : List Arc} {w0 : World} (hu : Own w B 46 2 u r.length (r.flatMap cp)) (h0 : OR B w0 vout vs outs) (hub : ∀ b, u.ownBlock = some b → w0.heap.size ≤ b)
    (ho : w'.ownsRow B 44 1 vout' (outs.length + 1) (vs.flatMap cv ++ [u])) (hf : Fr (bl vout) w w') (hv : vout'.ownBlock = vout.ownBlock ∨ vout'.ownBlock = some w.heap.size) :
    OR B w' vout' (vs ++ [u]) (outs ++ [r]) := by
  have hb := h0.out.blt
  have key : ∀ v ∈ vs ++ [u], ∀ b, v.ownBlock = some b → b < w.heap.size ∧ b ∉ bl vout := by
    intro v hv b hbv
    rcases List.mem_append.1 hv with hv | hv
    · exact ⟨(h.vlt hv hbv).2, h.far v hv b hbv⟩
    · simp only [List.mem_singleton] at hv
      subst hv
      exact ⟨(hu.blk2 b hbv).2, fun hin => by have := (hb b hin).2; have := hub b hbv; omega⟩
  have ho2 : w'.ownsRow B 44 1 vout' (outs ++ [r]).length ((vs ++ [u]).flatMap cv) := by simpa [List.flatMap_append, cv] using ho
  refine ⟨.inl ho2, fun _ => ho2, ?_, ?_, ?_⟩
  · refine LRel.snoc ⟨h.rel.1, fun i v r hvi hri => ?_⟩ (hu.keep hf fun b hbv => (key u (by simp) b hbv).2)
    exact (h.rel.2 i v r hvi hri).keep hf fun b hbv => h.far v (List.mem_of_getElem? hvi) b hbv
  · intro v hvm b hbv hin
    have hk := key v hvm b hbv
    rcases hv with hv | hv
    · simp only [bl, hv] at hin; exact hk.2 hin
    · simp only [bl, hv, Option.toList_some, List.mem_singleton] at hin; omega
  · rw [List.pairwise_append]
    refine ⟨h.two, List.pairwise_singleton _ _, ?_⟩
    intro a ha v hv b hba hbv
    simp only [List.mem_singleton] at hv
    subst hv
    have := (h0.vlt ha hba).2
    have := hub b hbv
    omega
end

theorem Own.low {w : World} {B B' : Nat} {e : TypeId} {k n : Nat} {v : Value} {cs : List Value} (h : Own w B e k v n cs) (hB : B' ≤ B) : Own w B' e k v n cs := by
  rcases h with ⟨h1, h2⟩ | ⟨A, h1, h2, h3⟩
  · left
    refine ⟨h1, ?_⟩
    rcases h2 with h2 | ⟨g, cap, cur, h2, h3, h4⟩
    · exact .inl h2
    · exact .inr ⟨g, cap, cur, h2, Nat.le_trans hB h3, h4⟩
  · exact .inr ⟨A, h1, h2, fun a ha => ⟨Nat.le_trans hB (h3 a ha).1, (h3 a ha).2⟩⟩
/-- .. in a boxed system -/
structure QC (w wr : World) (qb : Nat) (vout : Value) (outs : List (List Arc)) : Prop where
  sz : w.heap.size ≤ qb
  bq : Blk wr qb 25 [vout]
  out : ∃ vs, OR (qb + 1) wr vout vs outs
  fr : Fr [] w wr
section
variable {w wr w' : World} {qb : Nat} {vout : Value} {outs : List (List Arc)}
theorem QC.start {w wr : World} (hf : Fr [] w wr) : QC w (wr.alloc (.cells #[.slice none 0 0] 25)) wr.heap.size (.slice none 0 0) [] :=
  ⟨hf.size, Blk.new wr _ [_], ⟨[], OR.nil _ _⟩, hf.alloc _⟩
theorem QC.pure (h : QC w wr qb vout outs) (hf : Fr [] wr w') : QC w w' qb vout outs := by
  obtain ⟨vs, ho⟩ := h.out
  exact ⟨h.sz, h.bq.fr hf (by simp), ⟨vs, ho.fr hf (by simp)⟩, h.fr.trans hf⟩
theorem QC.store {vs : List Value} {w0 : World} {vout' : Value} (hs : w.heap.size ≤ qb) (hq : Blk w0 qb 25 [vout]) (ho : OR (qb + 1) w0 vout' vs outs) (hf : Fr [] w w0) : QC w (w0.setCell ⟨qb, 0, none⟩ vout') qb vout' outs :=
  ⟨hs, hq.set_ 0 vout', ⟨vs, ho.fr ((Fr.refl [qb] _).setCell (.inl (by simp)) _) (by simp)⟩, hf.setCell (.inr hs) _⟩
end

theorem OR.low {B B' : Nat} {w : World} {vout : Value} {vs : List Value} {outs : List (List Arc)} (h : OR B w vout vs outs) (hB : B' ≤ B) : OR B' w vout vs outs :=
  ⟨h.out.low hB, fun h0 => row_low (h.row h0) hB, h.rel.imp fun _ _ hr => hr.low hB, h.far, h.two⟩
/-- what Copy gives -/
def CopyP (rows : List (List Arc)) (w : World) (e : Ending) (w' : World) : Prop := ∃ vout vs, e = .returned (.agg #[vout]) ∧ OR w.heap.size w' vout vs rows ∧ Fr [] w w'

set_option maxRecDepth 100000 in
set_option maxHeartbeats 4000000 in
theorem copy_any (A : Option Addr) (n c : Nat) (rows : List (List Arc)) (w : World) (hr : Ll cp 2 [] w A n c rows) (hs : Small rows) :
    Calls Try.prog 23 #[.agg #[.slice A n c]] w (CopyP rows w) := by
  have hn : rows.length = n := hr.n_eq
  have hn1 : n ≤ 10000 := by rw [← hn]; exact hs.n
  have HN := Lib.hid hn
  clear hn
  go_enter Try.func23, Try.ntmps23
  go_wp2_with fail
  have hG0 : Fr [] (w.alloc (.cells #[.slice A n c] 25)) ((w.alloc (.cells #[.slice A n c] 25)).alloc (.cells #[.slice none 0 0] 25)) := (Fr.refl _ _).alloc _
  have hrb0 : Blk ((w.alloc (.cells #[.slice A n c] 25)).alloc (.cells #[.slice none 0 0] 25)) (w.heap.size + 1) 25 [.slice none 0 0] := by
    have := Blk.new (w.alloc (.cells #[.slice A n c] 25)) 25 [.slice none 0 0]
    simpa using this
  obtain ⟨w2, hw2⟩ : ∃ w2, w2 = (w.alloc (.cells #[.slice A n c] 25)).alloc (.cells #[.slice none 0 0] 25) := ⟨_, rfl⟩
  have hz2 : w2.heap.size = w.heap.size + 2 := by rw [hw2]; simp
  have hQ0 : QC w (w2.alloc (.cells #[.slice none 0 0] 25)) (w.heap.size + 2) (.slice none 0 0) [] := by
    rw [← hz2]; exact QC.start (by rw [hw2]; exact ((Fr.refl _ _).alloc _).alloc _)
  go_loopw [4] (fun sv wr => ∃ (s : Nat) (vout : Value) (outs : List (List Arc)), s ≤ n ∧ sv = .int .i64 s ∧ QC w wr (w.heap.size + 2) vout outs ∧ Hid (outs.length = s) ∧
      Fr [w.heap.size + 2] ((w.alloc (.cells #[.slice A n c] 25)).alloc (.cells #[.slice none 0 0] 25)) wr ∧ Hid (outs ++ rows.drop s = rows)) (fun sv _ => n - (intOf sv).toNat)
  case atStart =>
    subst hw2
    exact ⟨0, _, _, by omega, rfl, hQ0, rfl, ((Fr.refl _ _).alloc _), rfl⟩
  case round =>
    clear hQ0
    obtain ⟨s, vout, outs, hsn, rfl, hQ, hol, hG, hI⟩ := hrel
    have c0 := hG.at2a (by simp) 0
    simp at c0
    have l0 := hG.lt2
    have q0 := hQ.bq.cellS (i := 0) rfl
    have hqlt := hQ.bq.lt
    by_cases hlt : s < n
    · have hlt' : (s : Int) < (n : Int) := by omega
      obtain ⟨b, off, C, m, e, r, rfl, _, hbw, hm1, hrd, c1w, hroww⟩ := hr.get hlt
      have hrow := hroww.keep hQ.fr
      have hb : b < wr.heap.size := Nat.lt_of_lt_of_le hbw hQ.fr.size
      have c1 := (hQ.fr.cell (p := ⟨b, off + s, none⟩) hbw (by simp)).trans c1w
      have hm2 : m ≤ 200000 := by rw [← hrow.n_eq]; exact hs.row (List.mem_of_getElem? hm1)
      have HI2 : Hid ((outs ++ [r]) ++ rows.drop (s + 1) = rows) := by
        have := hI.out; rw [hrd] at this; unfold Hid; simpa using this
      clear hm1 hrd
      have hos : outs.length ≤ 10000 := by rw [hol.out]; omega
      obtain ⟨vs, hO⟩ := hQ.out
      go_wp2_with fail
      refine wp_region_T (fun w' => w'.cell? ⟨w.heap.size + 2, 0, none⟩ = some vout ∧ w'.cell? ⟨w.heap.size, 0, none⟩ = some (.slice (some ⟨b, off, none⟩) n c) ∧ w'.cell? ⟨b, off + s, none⟩ = some (.slice C m e)) 12
        [(0, true), (1, true), (3, true), (4, true), (5, true), (6, true), (7, true), (2, false), (8, false), (9, false), (10, false), (11, true), (12, false)]
        (by kernel_rfl) (by kernel_rfl) (fun _ _ d _ _ h => by cases d <;> exact h) ⟨q0, c0, c1⟩ ?_
      iterate 7 (apply wpT_pure'; simp only [List.getElem?_toArray, List.getElem?_cons_zero, List.getElem?_cons_succ]; rfl; rfl; apply Exists.intro; refine ⟨?_, ?_⟩; rintro w' ⟨s1, s2, s3⟩; go_simp; with_reducible rfl; simp only [Act.put, List.setIfInBounds_toArray, List.set_cons_zero, List.set_cons_succ])
      have hw0 : w.heap.size + 2 < wr.heap.size := hqlt
      have fA := ((Fr.refl [] wr).alloc (.cells #[] 46)).drew
      have lA : ((wr.alloc (.cells #[] 46)).drew).heap.size = wr.heap.size + 1 := by simp
      (apply wpT_eff; simp only [List.getElem?_toArray, List.getElem?_cons_zero, List.getElem?_cons_succ]; rfl; rfl; intro K hK; go_simp)
      (refine hK.out _ _ ⟨(fA.cell (p := ⟨w.heap.size + 2, 0, none⟩) hw0 (by simp)).trans q0, (fA.cell (p := ⟨w.heap.size, 0, none⟩) (by show w.heap.size < _; omega) (by simp)).trans c0, (fA.cell (p := ⟨b, off + s, none⟩) hb (by simp)).trans c1⟩ ?_; clear hK K; try simp only [Act.put, List.setIfInBounds_toArray, List.set_cons_zero, List.set_cons_succ])
      (apply wpT_eff; simp only [List.getElem?_toArray, List.getElem?_cons_zero, List.getElem?_cons_succ]; rfl; rfl; intro K hK)
      refine wp_app (B := wr.heap.size) rfl T_arcs (Own.lit0 _ wr.heap.size 46 2 wr.heap.size 0 (Nat.le_refl _) (by rw [lA]; omega)) ((hrow.keep fA).sl) rfl rfl (one_cp _) (by omega) (by omega) (by rw [lA]; omega) ?_
      intro u wB ownu gru hvu
      rw [Nat.zero_add, List.nil_append] at ownu
      have fB : Fr [wr.heap.size] ((wr.alloc (.cells #[] 46)).drew) wB := (Fr.refl _ _).grown gru (fun b hb => .inl (by simpa [Value.ownBlock] using hb.symm))
      have fwB : Fr [] wr wB := (fA.any.trans fB).drop (Nat.le_refl _)
      have hubb := ownu.blt
      obtain ⟨Au, cu, hu, _⟩ := ownu.form
      subst hu
      refine hK.out _ _ ⟨(fwB.cell (p := ⟨w.heap.size + 2, 0, none⟩) hw0 (by simp)).trans q0, (fwB.cell (p := ⟨w.heap.size, 0, none⟩) (by show w.heap.size < _; omega) (by simp)).trans c0, (fwB.cell (p := ⟨b, off + s, none⟩) hb (by simp)).trans c1⟩ ?_
      clear hK K
      simp only [Act.put, List.setIfInBounds_toArray, List.set_cons_zero, List.set_cons_succ]
      have fC := (Fr.refl [] wB).alloc (.cells #[.slice Au m cu] 44)
      have fwC := fwB.trans fC
      have lC : (wB.alloc (.cells #[.slice Au m cu] 44)).heap.size = wB.heap.size + 1 := by simp
      (apply wpT_eff; simp only [List.getElem?_toArray, List.getElem?_cons_zero, List.getElem?_cons_succ]; rfl; rfl; intro K hK; go_simp)
      (refine hK.out _ _ ⟨(fwC.cell (p := ⟨w.heap.size + 2, 0, none⟩) hw0 (by simp)).trans q0, (fwC.cell (p := ⟨w.heap.size, 0, none⟩) (by show w.heap.size < _; omega) (by simp)).trans c0, (fwC.cell (p := ⟨b, off + s, none⟩) hb (by simp)).trans c1⟩ ?_; clear hK K; try simp only [Act.put, List.setIfInBounds_toArray, List.set_cons_zero, List.set_cons_succ])
      have hO4 : OR (w.heap.size + 2 + 1) (wB.alloc (.cells #[.slice Au m cu] 44)) vout vs outs := hO.fr fwC (by simp)
      have hsz := fwC.size
      (apply wpT_eff; simp only [List.getElem?_toArray, List.getElem?_cons_zero, List.getElem?_cons_succ]; rfl; rfl; intro K hK)
      refine wp_app_pos (B := w.heap.size + 2 + 1) rfl T_rows hO4.out (Sl.lit [] wB 44 #[.slice Au m cu] 1 1 1 rfl (by omega) (by simp)) rfl rfl (one_cv_slice _ _ _) (by omega) (by omega) (by omega) (by omega) ?_
      intro v6 w6 own6 gr6 hv6
      have f6 : Fr (bl vout) (wB.alloc (.cells #[.slice Au m cu] 44)) w6 := (Fr.refl _ _).grown gr6 (fun b hb => .inl (by simp [bl, hb]))
      have hm0 : m = r.length := hrow.n_eq.symm
      have hob := hO.out.blt
      have hu4 : Own (wB.alloc (.cells #[.slice Au m cu] 44)) (w.heap.size + 2 + 1) 46 2 (.slice Au m cu) r.length (r.flatMap cp) := by
        have h1 := (ownu.fr fC (by simp)).low (B' := w.heap.size + 2 + 1) (by omega)
        rw [← hm0]; simpa using h1
      have hO6 := hO4.push (u := .slice Au m cu) (r := r) (w0 := wr) hu4 hO (fun b hb => (hubb b (by simp [bl, hb])).1) own6 f6 hv6
      have hnq : w.heap.size + 2 ∉ bl vout := fun hin => by have := (hob _ hin).1; omega
      have hnw : w.heap.size ∉ bl vout := fun hin => by have := (hob _ hin).1; omega
      have hnb : b ∉ bl vout := fun hin => by have := (hob _ hin).1; omega
      have fw6 : Fr (bl vout) wr w6 := fwC.any.trans f6
      have q06 := (fw6.cell (p := ⟨w.heap.size + 2, 0, none⟩) hw0 hnq).trans q0
      have l6 : w.heap.size + 2 < w6.heap.size := Nat.lt_of_lt_of_le hw0 fw6.size
      have hq6 := hQ.bq.fr fw6 hnq
      refine hK.out _ _ ⟨q06, (fw6.cell (p := ⟨w.heap.size, 0, none⟩) (by show w.heap.size < _; omega) hnw).trans c0, (fw6.cell (p := ⟨b, off + s, none⟩) hb hnb).trans c1⟩ ?_
      clear hK K
      simp only [Act.put, List.setIfInBounds_toArray, List.set_cons_zero, List.set_cons_succ]
      (apply wpT_pure'; simp only [List.getElem?_toArray, List.getElem?_cons_zero, List.getElem?_cons_succ]; rfl; rfl; apply Exists.intro; refine ⟨?_, ?_⟩; rintro w' ⟨s1, s2, s3⟩; go_simp; with_reducible rfl; simp only [Act.put, List.setIfInBounds_toArray, List.set_cons_zero, List.set_cons_succ])
      have fz6 := hq6.frozen 0
      have hF6 : Fr [] w w6 := (hQ.fr.any.trans fw6).mono (fun k hk hlt => by have := (hob k hk).1; omega)
      have hQ6 := QC.store (vout' := v6) hQ.sz hq6 hO6 hF6
      have hG6 : Fr [w.heap.size + 2] ((w.alloc (.cells #[.slice (some ⟨b, off, none⟩) n c] 25)).alloc (.cells #[.slice none 0 0] 25)) (w6.setCell ⟨w.heap.size + 2, 0, none⟩ v6) := by
        refine Fr.setCell ?_ (.inl (by simp)) _
        refine ((hG.mono (M' := (w.heap.size + 2) :: bl vout) (by simp)).trans (fw6.mono (M' := (w.heap.size + 2) :: bl vout) (by intro a ha _; simp [ha]))).mono ?_
        intro k hk hlt
        rcases List.mem_cons.1 hk with rfl | hk
        · simp
        · have := (hob k hk).1; simp at hlt; omega
      obtain ⟨A6, c6, hv6', _⟩ := (Own.form (.inl own6) : _)
      subst hv6'
      (apply wpT_last; simp only [List.getElem?_toArray, List.getElem?_cons_zero, List.getElem?_cons_succ]; rfl; rfl; go_simp)
      go_wp2_with fail
      go_roundw
      case rel => exact ⟨s + 1, _, outs ++ [r], by omega, by go_num, hQ6, by unfold Hid; simp [hol.out], hG6, HI2⟩
      case measure => simp [intOf]; omega
    · have hge : decide ((s : Int) < (n : Int)) = false := by simp; omega
      have hend : outs = rows := by
        have := hI.out
        rw [List.drop_eq_nil_of_le (by rw [HN.out]; omega)] at this
        simpa using this
      have b2 : Blk ((w.alloc (.cells #[.slice A n c] 25)).alloc (.cells #[.slice none 0 0] 25)) (w.heap.size + 1) 25 [.slice none 0 0] := hrb0
      have z0 := b2.fr hG (by simp)
      have z1 := z0.cellS (i := 0) rfl
      have z2 := z0.frozen 0
      have z3 := z0.lt
      obtain ⟨vs, hO⟩ := hQ.out
      obtain ⟨Ao, co, hvo, _⟩ := hO.out.form
      subst hvo
      have HE := Lib.hid hend
      clear hend hI
      go_wp2_with fail
      refine bodyPost_ret (v := .agg #[.slice Ao outs.length co]) (by simp [results, Try.results23, go_sem, z1, z2, z3]) rfl ?_
      have hF : Fr [w.heap.size + 1] wr (wr.setCell ⟨w.heap.size + 1, 0, none⟩ (.slice Ao outs.length co)) := (Fr.refl _ _).setCell (.inl (by simp)) _
      refine ⟨_, vs, rfl, ?_, hQ.fr.setCell (.inr (by show w.heap.size ≤ w.heap.size + 1; omega)) _⟩
      rw [← HE.out]
      exact (hO.fr hF (by simp)).low (by omega)
end Go.Proofs.Ytfkpjnmngafnmaa
