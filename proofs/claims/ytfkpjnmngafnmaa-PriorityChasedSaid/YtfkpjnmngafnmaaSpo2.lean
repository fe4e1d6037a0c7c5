/- Spoil. -/
import Derived.Test.YtfkpjnmngafnmaaSpo1
import Derived.Test.YtfkpjnmngafnmaaGen2
import Derived.Deep.Cut
import Derived.Test.YtfkpjnmngafnmaaRegf
namespace Go.Proofs.Ytfkpjnmngafnmaa
set_option linter.unusedVariables false
set_option linter.unusedSimpArgs false
open Go.RowKit

theorem OR.upd {B : Nat} {w w7 : World} {Ao : Option Addr} {n co s : Nat} {vs : List Value} {rows : List (List Arc)} {u u' : Value} {r' : List Arc} (h : OR B w (.slice Ao n co) vs rows) (hn : rows.length = n) (hs : s < n) (hu : vs[s]? = some u)
    (hf : Fr (bl u) w w7) (own7 : Own w7 B 46 2 u' r'.length (r'.flatMap cp)) (hub : ∀ b ∈ bl u', b ∈ bl u ∨ w.heap.size ≤ b) :
    ∃ og, Ao = some ⟨og, 0, none⟩ ∧ B ≤ og ∧ w7.cell? ⟨og, s, none⟩ = some u ∧ w7.frozen? ⟨og, s, none⟩ = false ∧ ∀ M, (∀ m ∈ M, m < B) → Ll cp 2 M (w7.setCell ⟨og, s, none⟩ u') (some ⟨og, 0, none⟩) n co (rows.set s r') := by
  have hrow := h.row (by omega)
  rw [hn] at hrow
  have hvl : vs.length = n := by rw [h.rel.1, hn]
  have hfl : ∀ l : List Value, l.flatMap cv = l := fun l => by show l.flatMap (fun x => [x]) = l; simp
  rw [hfl] at hrow
  rcases hrow.2 with ⟨_, h0⟩ | ⟨og, cap, cur, hv, hB, hh, hc1, hc2, hc3, hc4⟩
  · omega
  injection hv with e1 _ e3
  subst e1; subst e3
  rw [Nat.mul_one] at hc3 hc4
  have hog : og ∈ bl (.slice (some ⟨og, 0, none⟩) n co) := by simp [bl, Value.ownBlock]
  have hogl : og < w.heap.size := (Array.getElem?_eq_some_iff.1 hh).1
  have hogu : og ∉ bl u := fun hin => by
    have hm := List.mem_of_getElem? hu
    have : u.ownBlock = some og := by simpa [bl] using hin
    exact h.far u hm og this hog
  have hogu' : og ∉ bl u' := fun hin => by
    rcases hub og hin with h1 | h1
    · exact hogu h1
    · omega
  have hb7 : Blk w7 og 44 cur.toList := by
    unfold Blk; rw [hf.block og hogl hogu]; exact hh
  have hcs : cur.toList[s]? = some u := by
    rw [← hc4, List.getElem?_take] at hu
    split at hu
    · exact hu
    · omega
  have hb8 := hb7.set_ s u'
  have hfs : Fr [og] w7 (w7.setCell ⟨og, s, none⟩ u') := (Fr.refl _ _).setCell (.inl (by simp)) _
  refine ⟨og, rfl, hB, hb7.cellS hcs, hb7.frozen s, fun M hM => ⟨vs.set s u', ⟨⟨by rw [hfl]; simp [hvl], hc1, fun hp => ⟨og, 0, rfl, fun hin => by have := hM og hin; omega, hb8.lt, fun j x hx => ?_⟩⟩, by simp [hvl]⟩, ?_⟩⟩
  · rw [hfl] at hx
    rw [Nat.zero_add]
    apply hb8.cellS
    rw [List.getElem?_set] at hx ⊢
    split
    · rename_i hj
      rw [if_pos hj] at hx
      subst hj
      rw [if_pos (by rw [hvl]; exact hs)] at hx
      rw [if_pos (by simp; omega)]
      exact hx
    · rename_i hj
      rw [if_neg hj, ← hc4, List.getElem?_take] at hx
      split at hx
      · exact hx
      · cases hx
  · refine ⟨by simp [h.rel.1], fun i v r hvi hri => ?_⟩
    rw [List.getElem?_set] at hvi hri
    by_cases hi : s = i
    · subst hi
      simp [hvl, hn, hs] at hvi hri
      subst hvi; subst hri
      obtain ⟨A, c, he, hl⟩ := (own7.keep hfs (fun b hb hin => by simp at hin; subst hin; exact hogu' (by simp [bl, hb]))).ls rfl hM
      exact ⟨A, _, c, he, hl⟩
    · simp only [hi, if_false] at hvi hri
      have hr := h.rel.2 i v r hvi hri
      have hvm := List.mem_of_getElem? hvi
      have hne : ∀ b, v.ownBlock = some b → b ∉ bl u := fun b hb hin => by
        have hbu : u.ownBlock = some b := by simpa [bl] using hin
        obtain ⟨hli, hgi⟩ := List.getElem?_eq_some_iff.1 hvi
        obtain ⟨hls, hgs⟩ := List.getElem?_eq_some_iff.1 hu
        rcases Nat.lt_or_gt_of_ne hi with hlt | hlt
        · have := List.pairwise_iff_getElem.1 h.two s i hls hli hlt b (by rw [hgs]; exact hbu)
          rw [hgi] at this; exact this hb
        · have := List.pairwise_iff_getElem.1 h.two i s hli hls hlt b (by rw [hgi]; exact hb)
          rw [hgs] at this; exact this hbu
      obtain ⟨A, c, he, hl⟩ := ((hr.keep hf hne).keep hfs (fun b hb hin => by simp at hin; subst hin; exact h.far v hvm _ hb hog)).ls rfl hM
      exact ⟨A, _, c, he, hl⟩
/-- what Spoil gives -/
def SpoilP (X : List Nat) (bt q : Nat) (w : World) (e : Ending) (w' : World) : Prop :=
  ∃ A' n' c' rows', e = .returned (.agg #[.slice A' n' c']) ∧ Ll cp 2 (bt :: X) w' A' n' c' rows' ∧ Small rows' ∧ Tp w' bt (q + 4) ∧ Fr [bt] w w'

theorem small_of {rows : List (List Arc)} (h1 : rows.length ≤ 20) (h2 : ∀ r ∈ rows, r.length ≤ 2001) : Small rows := by
  refine ⟨by omega, ?_⟩
  have : ∀ l : List (List Arc), (∀ r ∈ l, r.length ≤ 2001) → tot l ≤ l.length * 2001 := by
    intro l
    induction l with
    | nil => simp [tot]
    | cons x xs ih =>
      intro h
      rw [tot_cons, List.length_cons]
      have := h x (by simp)
      have := ih (fun r hr => h r (by simp [hr]))
      omega
  have := this rows h2
  have : rows.length * 2001 ≤ 20 * 2001 := Nat.mul_le_mul_right _ h1
  omega
theorem spoil_fin {X : List Nat} {bt q B n co s og : Nat} {w w5 w7 w9 : World} {u u' : Value} {rows : List (List Arc)} {r' : List Arc} (hX : ∀ x ∈ X, x < w.heap.size) (ht5 : Tp w5 bt (q + 3 + 1)) (hbt : bt < w.heap.size) (hB : w.heap.size + 2 ≤ B) (hF5 : Fr [bt] w w5)
    (f57 : Fr (bl u) w5 w7) (hub0 : ∀ k ∈ bl u, B ≤ k) (hog : B ≤ og) (hn : rows.length = n) (hn2 : n ≤ 20) (hl : ∀ r ∈ rows, r.length ≤ 1000) (hs : s < n)
    (hfin : ∀ M, (∀ m ∈ M, m < B) → Ll cp 2 M (w7.setCell ⟨og, s, none⟩ u') (some ⟨og, 0, none⟩) n co (rows.set s r')) (hr' : r'.length ≤ 2001)
    (h9 : w9 = (w7.setCell ⟨og, s, none⟩ u').setCell ⟨w.heap.size + 1, 0, none⟩ (.slice (some ⟨og, 0, none⟩) n co)) :
    SpoilP X bt q w (.returned (.agg #[.slice (some ⟨og, 0, none⟩) n co])) w9 := by
  subst h9
  have hfs : Fr [w.heap.size + 1] (w7.setCell ⟨og, s, none⟩ u') ((w7.setCell ⟨og, s, none⟩ u').setCell ⟨w.heap.size + 1, 0, none⟩ (.slice (some ⟨og, 0, none⟩) n co)) := (Fr.refl _ _).setCell (.inl (by simp)) _
  have hall : Fr (og :: (w.heap.size + 1) :: bl u) w5 ((w7.setCell ⟨og, s, none⟩ u').setCell ⟨w.heap.size + 1, 0, none⟩ (.slice (some ⟨og, 0, none⟩) n co)) :=
    ((f57.mono (by intro a ha _; simp [ha])).setCell (.inl (by simp)) _).setCell (.inl (by simp)) _
  refine ⟨_, _, _, rows.set s r', rfl, ?_, ?_, ?_, ?_⟩
  · refine ((hfin ((w.heap.size + 1) :: bt :: X) ?_).keep (hfs.mono (by simp))).sub (by simp; intro a ha; exact .inr (.inr ha))
    intro m hm
    simp only [List.mem_cons] at hm
    rcases hm with rfl | rfl | hm
    · omega
    · omega
    · have := hX m hm; omega
  · refine small_of (by simp [hn, hn2]) (fun r hr => ?_)
    rcases List.mem_or_eq_of_mem_set hr with hr | rfl
    · have := hl r hr; omega
    · exact hr'
  · refine ht5.keep hall (fun m hm => ?_)
    simp only [List.mem_cons] at hm
    rcases hm with rfl | rfl | hm
    · omega
    · omega
    · have := hub0 m hm; omega
  · exact ((hF5.mono (M' := bt :: og :: (w.heap.size + 1) :: bl u) (by simp)).trans (hall.mono (by intro a ha _; exact List.mem_cons_of_mem _ ha))).mono (fun k hk hlt => by
      simp only [List.mem_cons] at hk ⊢
      rcases hk with rfl | rfl | rfl | hk
      · exact .inl rfl
      · omega
      · omega
      · have := hub0 k hk; omega)
set_option maxRecDepth 100000 in
set_option maxHeartbeats 16000000 in
theorem spoil_any (X : List Nat) (bt q : Nat) (A : Option Addr) (n c : Nat) (rows : List (List Arc)) (w : World) (hX : ∀ x ∈ X, x < w.heap.size) (ht : Tp w bt q) (hq : q + 4 ≤ 1000000000) (hr : Ll cp 2 [] w A n c rows) (hn1 : 1 ≤ n) (hn2 : n ≤ 20) (hl : ∀ r ∈ rows, r.length ≤ 1000) :
    Calls Try.prog 11 #[.pointer (some ⟨bt, 0, none⟩), .agg #[.slice A n c]] w (SpoilP X bt q w) := by
  have hbt := ht.lt
  have hn : rows.length = n := hr.n_eq
  have hs : Small rows := small_of (by omega) (fun r hr => by have := hl r hr; omega)
  have HN := Lib.hid hn
  have HL := Lib.hid hl
  have HX := Lib.hid hX
  clear hn hl hX
  obtain ⟨W0, hW0⟩ : ∃ W0, W0 = (w.alloc (.cells #[.slice A n c] 25)).alloc (.cells #[.slice none 0 0] 25) := ⟨_, rfl⟩
  have b2 : Blk W0 (w.heap.size + 1) 25 [.slice none 0 0] := by
    have := Blk.new (w.alloc (.cells #[.slice A n c] 25)) 25 [.slice none 0 0]
    rw [hW0]; simpa using this
  have hF0 : Fr [] w W0 := by rw [hW0]; exact ((Fr.refl _ _).alloc _).alloc _
  have hsW : W0.heap.size = w.heap.size + 2 := by rw [hW0]; simp
  have hne : ((n : Int) == 0) = false := by simp; omega
  go_enter Try.func11, Try.ntmps11
  go_wp2_with (first
    | (go_at_call 23; refine (copy_any A n c rows _ (hr.keep (by repeat (first | exact Fr.refl _ _ | with_reducible assumption | with_reducible apply Fr.drewN | with_reducible apply Fr.drew | with_reducible apply Fr.alloc))) hs).mono ?_; rintro e w1 ⟨vout, vs, rfl, hO, hf1⟩
       rw [← hW0] at hf1 hO
       obtain ⟨Ao, co, hvo, _⟩ := hO.out.form
       rw [HN.out] at hvo
       subst hvo
       have ht1 : Tp (w1.alloc (.cells #[.slice Ao n co] 25)) bt q := ht.keep ((hF0.trans hf1).alloc _) (by simp))
    | (go_at_call 22; refine (next_any bt q n _ ht1 (by omega) (by omega) (by omega)).mono ?_; rintro e w2 ⟨s, rfl, hsn, ht2, hf2⟩
       have hb5 : Blk w2 w1.heap.size 25 [.slice Ao n co] := (Blk.new w1 25 [.slice Ao n co]).fr hf2 (by have := hf1.size; simp; omega)
       have h51 := hb5.cellS (i := 0) rfl
       have h52 := hb5.lt))
  clear hne ht1 hW0
  have hO2 := (hO.fr ((Fr.refl [] w1).alloc (.cells #[.slice Ao n co] 25)) (by simp)).fr hf2 (by simp; omega)
  have hf1s := hf1.size
  have hFw : Fr [bt] w w2 := (((hF0.trans hf1).alloc (.cells #[.slice Ao n co] 25)).any).trans hf2
  have b22 : Blk w2 (w.heap.size + 1) 25 [.slice none 0 0] := ((b2.fr hf1 (by simp)).alloc _).fr hf2 (by simp; omega)
  have hon : w2.ownsRow W0.heap.size 44 1 (.slice Ao n co) n (vs.flatMap cv) := by have := hO2.row (by rw [HN.out]; omega); rw [HN.out] at this; exact this
  have HO2 := Lib.hid hO2
  have HVL : Hid (∀ v ∈ vs, ∀ b, v.ownBlock = some b → b < w1.heap.size) := fun v hv b hb => (hO.vlt hv hb).2
  have HOL : Hid (∀ b ∈ bl (.slice Ao n co), b < w1.heap.size) := fun b hb => (hO.out.blt b hb).2
  have hw12 : w1.heap.size < w2.heap.size := by have := hf2.size; simp at this; omega
  have HON := Lib.hid hon
  clear hO hf1 hf2 hO2 hon
  have hkey : w1.heap.size ≥ W0.heap.size := hf1s
  have hsn' : s < n := by omega
  go_cut [7] from 20 (fun av wr => ∃ (g : Nat) (ev : Int) (to : Nat), av = .pointer (some ⟨g, 0, none⟩) ∧ Blk wr g 46 [.int .i64 ev, .int .i64 (to : Int)] ∧ w2.heap.size ≤ g ∧ 0 ≤ ev ∧ ev ≤ 1025 ∧ to < n ∧ Tp wr bt (q + 3) ∧ Fr [bt] w2 wr)
  case first =>
    rename_i J2 K2 hJ2 hK2
    have hbw1 : w1.heap.size ∉ [bt] := by simp; omega
    have hd := (Fr.refl [] w2).drew
    refine wp_region_F (fun w' => w'.cell? ⟨w1.heap.size, 0, none⟩ = some (.slice Ao n co) ∧ True) 9
      (.pu 0 (.pu 2 (.pu 3 (.pu 4 (.pu 5 (.fk 1 (.fk 6 (.pu 7 (.ef 8 (.ef 9 .nil))) 8 (.ef 6 (.pu 7 (.ef 9 .nil)))) 8 (.ef 1 (.ef 6 (.pu 7 (.ef 9 .nil)))))))))) 
      (by kernel_rfl) (by kernel_rfl) (fun _ _ d _ _ h => by cases d <;> exact h) ⟨h51, trivial⟩ ?_
    iterate 5 (apply wpF_pure'; simp only [List.getElem?_toArray, List.getElem?_cons_zero, List.getElem?_cons_succ]; rfl; rfl; apply Exists.intro; refine ⟨?_, ?_⟩; rintro w' ⟨s1, _⟩; go_simp; with_reducible rfl; simp only [Act.put, List.setIfInBounds_toArray, List.set_cons_zero, List.set_cons_succ])
    (apply wpF_fk; simp only [List.getElem?_toArray, List.getElem?_cons_zero, List.getElem?_cons_succ]; rfl; rfl; simp only [List.getElem?_toArray, List.getElem?_cons_zero, List.getElem?_cons_succ]; rfl; rfl; all_goals intro K hK)
    · go_simp
      refine (event_any bt (q + 1) _ ht2.drew (by omega)).mono ?_
      rintro e w3 ⟨ev, rfl, hev0, hev1, ht3, hf3⟩
      have h53 := (hf3.cell (p := ⟨w1.heap.size, 0, none⟩) h52 hbw1).trans h51
      have l3 : w1.heap.size < w3.heap.size := Nat.lt_of_lt_of_le h52 hf3.size
      (refine hK.out _ _ ⟨h53, trivial⟩ ?_; clear hK K; try simp only [Act.put, List.setIfInBounds_toArray, List.set_cons_zero, List.set_cons_succ])
      (apply wpF_fk; simp only [List.getElem?_toArray, List.getElem?_cons_zero, List.getElem?_cons_succ]; rfl; rfl; simp only [List.getElem?_toArray, List.getElem?_cons_zero, List.getElem?_cons_succ]; rfl; rfl; all_goals intro K hK)
      · go_simp
        refine (next_any bt (q + 2) n _ ht3 (by omega) (by omega) (by omega)).mono ?_
        rintro e w4 ⟨to, rfl, hto, ht4, hf4⟩
        have h54 := (hf4.cell (p := ⟨w1.heap.size, 0, none⟩) l3 hbw1).trans h53
        (refine hK.out _ _ ⟨h54, trivial⟩ ?_; clear hK K; try simp only [Act.put, List.setIfInBounds_toArray, List.set_cons_zero, List.set_cons_succ])
        (apply wpF_pure'; simp only [List.getElem?_toArray, List.getElem?_cons_zero, List.getElem?_cons_succ]; rfl; rfl; apply Exists.intro; refine ⟨?_, ?_⟩; rintro w' ⟨s1, _⟩; go_simp; with_reducible rfl; simp only [Act.put, List.setIfInBounds_toArray, List.set_cons_zero, List.set_cons_succ])
        (apply wpF_eff rfl; simp only [List.getElem?_toArray, List.getElem?_cons_zero, List.getElem?_cons_succ]; rfl; rfl; intro K hK)
        go_simp
        have h55 := (((Fr.refl [] w4).alloc (.cells #[.int .i64 0, .int .i64 0] 46)).cell (p := ⟨w1.heap.size, 0, none⟩) (Nat.lt_of_lt_of_le l3 hf4.size) (by simp)).trans h54
        (refine hK.out _ _ ⟨h55, trivial⟩ ?_; clear hK K; try simp only [Act.put, List.setIfInBounds_toArray, List.set_cons_zero, List.set_cons_succ])
        (apply wpF_last; simp only [List.getElem?_toArray, List.getElem?_cons_zero, List.getElem?_cons_succ]; rfl; rfl; go_simp)
        refine hK2 _ _ (Met.intro (hJ2 _ _ ?_))
        (repeat apply Exists.intro)
        refine ⟨?_, rfl⟩
        have hFx := ((hd.any.trans hf3).trans hf4).alloc (.cells #[.int .i64 ev, .int .i64 to] 46)
        exact ⟨w4.heap.size, ev, to, rfl, Blk.new w4 46 [.int .i64 ev, .int .i64 to], Nat.le_trans hf3.size hf4.size, hev0, hev1, by omega, ht4.alloc _, hFx⟩
      · go_simp
        have hfa := (Fr.refl [] w3).alloc (.cells #[.int .i64 0, .int .i64 0] 46)
        have h54 := (hfa.cell (p := ⟨w1.heap.size, 0, none⟩) l3 (by simp)).trans h53
        (refine hK.out _ _ ⟨h54, trivial⟩ ?_; clear hK K; try simp only [Act.put, List.setIfInBounds_toArray, List.set_cons_zero, List.set_cons_succ])
        (apply wpF_eff rfl; simp only [List.getElem?_toArray, List.getElem?_cons_zero, List.getElem?_cons_succ]; rfl; rfl; intro K hK)
        go_simp
        refine (next_any bt (q + 2) n _ (ht3.alloc _) (by omega) (by omega) (by omega)).mono ?_
        rintro e w4 ⟨to, rfl, hto, ht4, hf4⟩
        have l3' : w1.heap.size < (w3.alloc (.cells #[.int .i64 0, .int .i64 0] 46)).heap.size := by simp; omega
        have h55 := (hf4.cell (p := ⟨w1.heap.size, 0, none⟩) l3' hbw1).trans h54
        (refine hK.out _ _ ⟨h55, trivial⟩ ?_; clear hK K; try simp only [Act.put, List.setIfInBounds_toArray, List.set_cons_zero, List.set_cons_succ])
        (apply wpF_pure'; simp only [List.getElem?_toArray, List.getElem?_cons_zero, List.getElem?_cons_succ]; rfl; rfl; apply Exists.intro; refine ⟨?_, ?_⟩; rintro w' ⟨s1, _⟩; go_simp; with_reducible rfl; simp only [Act.put, List.setIfInBounds_toArray, List.set_cons_zero, List.set_cons_succ])
        have hBx := (Blk.new w3 46 [.int .i64 0, .int .i64 0]).fr hf4 (by have := ht3.lt; simp; omega)
        have e0 := hBx.cellS (i := 0) rfl
        have e1 := hBx.cellS (i := 1) rfl
        have e2 := hBx.frozen 0
        have e3 := hBx.frozen 1
        have e4 := hBx.lt
        (apply wpF_last; simp only [List.getElem?_toArray, List.getElem?_cons_zero, List.getElem?_cons_succ]; rfl; rfl; go_simp)
        refine hK2 _ _ (Met.intro (hJ2 _ _ ?_))
        (repeat apply Exists.intro)
        refine ⟨?_, rfl⟩
        have hFx := ((((hd.any.trans hf3).trans hfa.any).trans hf4).setCell (p := ⟨w3.heap.size, 0, none⟩) (.inr (by have := hf3.size; exact this)) (.int .i64 ev)).setCell (p := ⟨w3.heap.size, 1, none⟩) (.inr (by have := hf3.size; exact this)) (.int .i64 to)
        have hFy := ((Fr.refl [w3.heap.size] w4).setCell (p := ⟨w3.heap.size, 0, none⟩) (.inl (by simp)) (.int .i64 ev)).setCell (p := ⟨w3.heap.size, 1, none⟩) (.inl (by simp)) (.int .i64 to)
        exact ⟨w3.heap.size, ev, to, rfl, (hBx.set_ 0 _).set_ 1 _, hf3.size, hev0, hev1, by omega, ht4.keep hFy (by have := ht3.lt; simp; omega), hFx⟩
    · go_simp
      have hfa := hd.alloc (.cells #[.int .i64 0, .int .i64 0] 46)
      have h53 := (hfa.cell (p := ⟨w1.heap.size, 0, none⟩) h52 (by simp)).trans h51
      have l3 : w1.heap.size < (w2.drew.alloc (.cells #[.int .i64 0, .int .i64 0] 46)).heap.size := by simp; omega
      (refine hK.out _ _ ⟨h53, trivial⟩ ?_; clear hK K; try simp only [Act.put, List.setIfInBounds_toArray, List.set_cons_zero, List.set_cons_succ])
      (apply wpF_eff rfl; simp only [List.getElem?_toArray, List.getElem?_cons_zero, List.getElem?_cons_succ]; rfl; rfl; intro K hK)
      go_simp
      refine (event_any bt (q + 1) _ (ht2.drew.alloc _) (by omega)).mono ?_
      rintro e w3 ⟨ev, rfl, hev0, hev1, ht3, hf3⟩
      have h54 := (hf3.cell (p := ⟨w1.heap.size, 0, none⟩) l3 hbw1).trans h53
      have l4 : w1.heap.size < w3.heap.size := Nat.lt_of_lt_of_le l3 hf3.size
      (refine hK.out _ _ ⟨h54, trivial⟩ ?_; clear hK K; try simp only [Act.put, List.setIfInBounds_toArray, List.set_cons_zero, List.set_cons_succ])
      (apply wpF_eff rfl; simp only [List.getElem?_toArray, List.getElem?_cons_zero, List.getElem?_cons_succ]; rfl; rfl; intro K hK)
      go_simp
      refine (next_any bt (q + 2) n _ ht3 (by omega) (by omega) (by omega)).mono ?_
      rintro e w4 ⟨to, rfl, hto, ht4, hf4⟩
      have h55 := (hf4.cell (p := ⟨w1.heap.size, 0, none⟩) l4 hbw1).trans h54
      (refine hK.out _ _ ⟨h55, trivial⟩ ?_; clear hK K; try simp only [Act.put, List.setIfInBounds_toArray, List.set_cons_zero, List.set_cons_succ])
      (apply wpF_pure'; simp only [List.getElem?_toArray, List.getElem?_cons_zero, List.getElem?_cons_succ]; rfl; rfl; apply Exists.intro; refine ⟨?_, ?_⟩; rintro w' ⟨s1, _⟩; go_simp; with_reducible rfl; simp only [Act.put, List.setIfInBounds_toArray, List.set_cons_zero, List.set_cons_succ])
      have hbt2 := ht2.lt
      have hBx := ((Blk.new w2.drew 46 [.int .i64 0, .int .i64 0]).fr hf3 (by simp; omega)).fr hf4 (by simp; omega)
      have hBx' : Blk w4 w2.heap.size 46 [.int .i64 0, .int .i64 0] := hBx
      have e0 := hBx'.cellS (i := 0) rfl
      have e1 := hBx'.cellS (i := 1) rfl
      have e2 := hBx'.frozen 0
      have e3 := hBx'.frozen 1
      have e4 := hBx'.lt
      (apply wpF_last; simp only [List.getElem?_toArray, List.getElem?_cons_zero, List.getElem?_cons_succ]; rfl; rfl; go_simp)
      refine hK2 _ _ (Met.intro (hJ2 _ _ ?_))
      (repeat apply Exists.intro)
      refine ⟨?_, rfl⟩
      have hFx := (((hfa.any.trans hf3).trans hf4).setCell (p := ⟨w2.heap.size, 0, none⟩) (.inr (Nat.le_refl _)) (.int .i64 ev)).setCell (p := ⟨w2.heap.size, 1, none⟩) (.inr (Nat.le_refl _)) (.int .i64 to)
      have hFy := ((Fr.refl [w2.heap.size] w4).setCell (p := ⟨w2.heap.size, 0, none⟩) (.inl (by simp)) (.int .i64 ev)).setCell (p := ⟨w2.heap.size, 1, none⟩) (.inl (by simp)) (.int .i64 to)
      exact ⟨w2.heap.size, ev, to, rfl, (hBx'.set_ 0 _).set_ 1 _, Nat.le_refl _, hev0, hev1, by omega, ht4.keep hFy (by simp; omega), hFx⟩
  case rest =>
    obtain ⟨g, ev, to, rfl, hBx, hgw, hev0, hev1, hto, ht3, hf3⟩ := hcut
    have hO3 := HO2.out.fr hf3 (by simp; omega)
    have HO3 := Lib.hid hO3
    have hg0 := hBx.cellS (i := 0) rfl
    clear hO3
    go_wp2_with fail
    refine (next_any bt (q + 3) 7 _ ht3 (by omega) (by omega) (by omega)).mono ?_
    rintro e w5 ⟨j, rfl, hj, ht5, hf5⟩
    have hbt3 := ht3.lt
    have hbt2 : bt < W0.heap.size := by omega
    have hO5 := HO3.out.fr hf5 (by simp; omega)
    have hx5 := hBx.fr hf5 (by simp; omega)
    have hb55 := (hb5.fr hf3 (by simp; omega)).fr hf5 (by simp; omega)
    have b25 := (b22.fr hf3 (by simp; omega)).fr hf5 (by simp; omega)
    have hF5 : Fr [bt] w w5 := (hFw.trans hf3).trans hf5
    have t0 := hb55.cellS (i := 0) rfl
    have t1 := hb55.lt
    have g0 := hx5.cellS (i := 0) rfl
    have g1 := hx5.cellS (i := 1) rfl
    have gl := hx5.lt
    have r0 := b25.cellS (i := 0) rfl
    have r1 := b25.frozen 0
    have r2 := b25.lt
    have HO5 := Lib.hid hO5
    clear hO5 HO3 HO2 HON hg0 h51 h52 ht3 ht2 hF0 b22 b2 hb5
    obtain ⟨r, hr0⟩ : ∃ r, rows[s]? = some r := ⟨_, List.getElem?_eq_getElem (by rw [HN.out]; exact hsn')⟩
    obtain ⟨u, hu, hown⟩ := HO5.out.rel.get' hr0
    obtain ⟨og, hAo, hogB, y0, _, _⟩ := HO5.out.upd HN.out hsn' hu (Fr.refl _ _) hown (fun b hb => .inl hb)
    subst hAo
    obtain ⟨m, hrm⟩ : ∃ m, r.length = m := ⟨_, rfl⟩
    obtain ⟨Au, cu, hue, _⟩ := hown.form
    rw [hrm] at hue hown
    subst hue
    have hm1 : m ≤ 1000 := by rw [← hrm]; exact HL.out r (List.mem_of_getElem? hr0)
    have hub0 : ∀ k ∈ bl (.slice Au m cu), W0.heap.size ≤ k := fun k hk => (hown.blt k hk).1
    have ogl : og < w5.heap.size := by
      rcases Nat.lt_or_ge og w5.heap.size with h | h
      · exact h
      · simp [World.cell?, Array.getElem?_eq_none h] at y0
    have hub1 : ∀ k ∈ bl (.slice Au m cu), k < w1.heap.size := fun k hk => HVL.out _ (List.mem_of_getElem? hu) k (by simpa [bl] using hk)
    have hog1 : og < w1.heap.size := HOL.out og (by simp [bl, Value.ownBlock])
    have hun1 : w1.heap.size ∉ bl (.slice Au m cu) := fun hin => by have := hub1 _ hin; omega
    have hun2 : g ∉ bl (.slice Au m cu) := fun hin => by have := hub1 _ hin; omega
    have hon1 : og ≠ w1.heap.size := by omega
    have hj7 : j = 0 ∨ j = 1 ∨ j = 2 ∨ j = 3 ∨ j = 4 ∨ j = 5 ∨ j = 6 := by omega
    rcases hj7 with rfl | rfl | rfl | rfl | rfl | rfl | rfl
    · go_wp2_with fail
      refine bodyPost_ret (v := .agg #[.slice none 0 0]) (by simp [results, Try.results11, go_sem, r0, r1, r2]) rfl ?_
      have hF6 : Fr [w.heap.size + 1] w5 (w5.setCell ⟨w.heap.size + 1, 0, none⟩ (.slice none 0 0)) := (Fr.refl _ _).setCell (.inl (by simp)) _
      exact ⟨none, 0, 0, [], rfl, Ll.nil _ _ _ _, ⟨by simp, by simp [tot]⟩, ht5.keep hF6 (by simp; omega), hF5.setCell (.inr (by show w.heap.size ≤ w.heap.size + 1; omega)) _⟩
    · go_wp2_with fail
      refine wp_region_T (fun w' => w'.cell? ⟨w1.heap.size, 0, none⟩ = some (.slice (some ⟨og, 0, none⟩) n co) ∧ w'.cell? ⟨og, s, none⟩ = some (.slice Au m cu) ∧ w'.cell? ⟨g, 0, none⟩ = some (.int .i64 ev) ∧ w'.cell? ⟨g, 1, none⟩ = some (.int .i64 (to : Int))) 14
        [(0, true), (1, true), (2, true), (3, true), (4, true), (5, true), (6, true), (7, true), (8, true), (9, true), (10, true), (11, false), (12, false), (13, true), (14, false)]
        (by kernel_rfl) (by kernel_rfl) (fun _ _ d _ _ h => by cases d <;> exact h) ⟨t0, y0, g0, g1⟩ ?_
      iterate 11 (apply wpT_pure'; simp only [List.getElem?_toArray, List.getElem?_cons_zero, List.getElem?_cons_succ]; rfl; rfl; apply Exists.intro; refine ⟨?_, ?_⟩; rintro w' ⟨s1, s2, s3, s4⟩; go_simp; with_reducible rfl; simp only [Act.put, List.setIfInBounds_toArray, List.set_cons_zero, List.set_cons_succ])
      have fA := ((Fr.refl [] w5).drew).alloc (.cells #[.int .i64 (-1), .int .i64 (to : Int)] 46)
      have lA : (w5.drew.alloc (.cells #[.int .i64 (-1), .int .i64 (to : Int)] 46)).heap.size = w5.heap.size + 1 := by simp
      (apply wpT_eff; simp only [List.getElem?_toArray, List.getElem?_cons_zero, List.getElem?_cons_succ]; rfl; rfl; intro K hK; go_simp)
      (refine hK.out _ _ ⟨(fA.cell (p := ⟨w1.heap.size, 0, none⟩) t1 (by simp)).trans t0, (fA.cell (p := ⟨og, s, none⟩) ogl (by simp)).trans y0, (fA.cell (p := ⟨g, 0, none⟩) gl (by simp)).trans g0, (fA.cell (p := ⟨g, 1, none⟩) gl (by simp)).trans g1⟩ ?_; clear hK K; try simp only [Act.put, List.setIfInBounds_toArray, List.set_cons_zero, List.set_cons_succ])
      (apply wpT_eff; simp only [List.getElem?_toArray, List.getElem?_cons_zero, List.getElem?_cons_succ]; rfl; rfl; intro K hK)
      refine wp_app (B := W0.heap.size) rfl T_arcs (hown.fr fA (by simp)) (Sl.litg [] w5.drew 46 #[.int .i64 (-1), .int .i64 (to : Int)] 1 1 2 w5.heap.size rfl (by omega) rfl (by simp)) rfl rfl (by simp [Value.oneCell']) (by omega) (by omega) (by simp; omega) ?_
      intro u' w7 own7 gr7 hv7
      have f7 : Fr (bl (.slice Au m cu)) (w5.drew.alloc (.cells #[.int .i64 (-1), .int .i64 (to : Int)] 46)) w7 := (Fr.refl _ _).grown gr7 (fun b hb => .inl (by simp [bl, hb]))
      have f57 : Fr (bl (.slice Au m cu)) w5 w7 := fA.any.trans f7
      have own7' : Own w7 W0.heap.size 46 2 u' (r ++ [((-1), (to : Int))]).length ((r ++ [((-1), (to : Int))]).flatMap cp) := by
        have e1 : (r ++ [(((-1) : Int), ((to : Int) : Int))]).length = m + 1 := by simp [hrm]
        have e2 : (r ++ [(((-1) : Int), ((to : Int) : Int))]).flatMap cp = r.flatMap cp ++ [.int .i64 (-1), .int .i64 (to : Int)] := by simp [List.flatMap_append, cp]
        rw [e1, e2]; exact own7
      have hub : ∀ b ∈ bl u', b ∈ bl (.slice Au m cu) ∨ w5.heap.size ≤ b := by
        intro b hb
        rcases hv7 with e | e
        · left; simpa [bl, e] using hb
        · right; simp [bl, e] at hb; omega
      obtain ⟨og', he', _, y7, fz7, hfin⟩ := HO5.out.upd HN.out hsn' hu f57 own7' hub
      injection he' with he'; injection he' with he'
      subst he'
      have hnl : ∀ k, k < W0.heap.size → k ∉ bl (.slice Au m cu) := fun k hk hin => by have := (hub0 k hin); omega
      have n1 : w1.heap.size ∉ bl (.slice Au m cu) := hun1
      have n2 : g ∉ bl (.slice Au m cu) := hun2
      refine hK.out _ _ ⟨(f57.cell (p := ⟨w1.heap.size, 0, none⟩) t1 n1).trans t0, y7, (f57.cell (p := ⟨g, 0, none⟩) gl n2).trans g0, (f57.cell (p := ⟨g, 1, none⟩) gl n2).trans g1⟩ ?_
      clear hK K
      simp only [Act.put, List.setIfInBounds_toArray, List.set_cons_zero, List.set_cons_succ]
      (apply wpT_pure'; simp only [List.getElem?_toArray, List.getElem?_cons_zero, List.getElem?_cons_succ]; rfl; rfl; apply Exists.intro; refine ⟨?_, ?_⟩; rintro w' ⟨s1, s2, s3, s4⟩; go_simp; with_reducible rfl; simp only [Act.put, List.setIfInBounds_toArray, List.set_cons_zero, List.set_cons_succ])
      have t7 := (f57.cell (p := ⟨w1.heap.size, 0, none⟩) t1 n1).trans t0
      have t7l := Nat.lt_of_lt_of_le t1 f57.size
      have r7 := b25.fr f57 (hnl _ (by omega))
      have r70 := r7.cellS (i := 0) rfl
      have r71 := r7.frozen 0
      have r72 := r7.lt
      have ogl7 := Nat.lt_of_lt_of_le ogl f57.size
      obtain ⟨A7, c7, hv7', _⟩ := own7'.form
      subst hv7'
      have hne1 : og ≠ w1.heap.size := hon1
      have hne2 : og ≠ w.heap.size + 1 := by omega
      (apply wpT_last; simp only [List.getElem?_toArray, List.getElem?_cons_zero, List.getElem?_cons_succ]; rfl; rfl; go_simp)
      go_wp2_with fail
      refine bodyPost_ret (v := .agg #[.slice (some ⟨og, 0, none⟩) n co]) (by simp [results, Try.results11, go_sem, r70, r71, r72, hne2, Ne.symm hne2]) rfl ?_
      exact spoil_fin HX.out ht5 hbt (by omega) hF5 f57 hub0 hogB HN.out hn2 HL.out hsn' hfin (by simp only [List.length_append, List.length_cons, List.length_nil]; omega) (by simp [hrm])
    · go_wp2_with fail
      refine wp_region_T (fun w' => w'.cell? ⟨w1.heap.size, 0, none⟩ = some (.slice (some ⟨og, 0, none⟩) n co) ∧ w'.cell? ⟨og, s, none⟩ = some (.slice Au m cu) ∧ w'.cell? ⟨g, 0, none⟩ = some (.int .i64 ev) ∧ w'.cell? ⟨g, 1, none⟩ = some (.int .i64 (to : Int))) 14
        [(0, true), (1, true), (2, true), (3, true), (4, true), (5, true), (6, true), (7, true), (8, true), (9, true), (10, true), (11, false), (12, false), (13, true), (14, false)]
        (by kernel_rfl) (by kernel_rfl) (fun _ _ d _ _ h => by cases d <;> exact h) ⟨t0, y0, g0, g1⟩ ?_
      iterate 11 (apply wpT_pure'; simp only [List.getElem?_toArray, List.getElem?_cons_zero, List.getElem?_cons_succ]; rfl; rfl; apply Exists.intro; refine ⟨?_, ?_⟩; rintro w' ⟨s1, s2, s3, s4⟩; go_simp; with_reducible rfl; simp only [Act.put, List.setIfInBounds_toArray, List.set_cons_zero, List.set_cons_succ])
      have fA := ((Fr.refl [] w5).drew).alloc (.cells #[.int .i64 1026, .int .i64 (to : Int)] 46)
      have lA : (w5.drew.alloc (.cells #[.int .i64 1026, .int .i64 (to : Int)] 46)).heap.size = w5.heap.size + 1 := by simp
      (apply wpT_eff; simp only [List.getElem?_toArray, List.getElem?_cons_zero, List.getElem?_cons_succ]; rfl; rfl; intro K hK; go_simp)
      (refine hK.out _ _ ⟨(fA.cell (p := ⟨w1.heap.size, 0, none⟩) t1 (by simp)).trans t0, (fA.cell (p := ⟨og, s, none⟩) ogl (by simp)).trans y0, (fA.cell (p := ⟨g, 0, none⟩) gl (by simp)).trans g0, (fA.cell (p := ⟨g, 1, none⟩) gl (by simp)).trans g1⟩ ?_; clear hK K; try simp only [Act.put, List.setIfInBounds_toArray, List.set_cons_zero, List.set_cons_succ])
      (apply wpT_eff; simp only [List.getElem?_toArray, List.getElem?_cons_zero, List.getElem?_cons_succ]; rfl; rfl; intro K hK)
      refine wp_app (B := W0.heap.size) rfl T_arcs (hown.fr fA (by simp)) (Sl.litg [] w5.drew 46 #[.int .i64 1026, .int .i64 (to : Int)] 1 1 2 w5.heap.size rfl (by omega) rfl (by simp)) rfl rfl (by simp [Value.oneCell']) (by omega) (by omega) (by simp; omega) ?_
      intro u' w7 own7 gr7 hv7
      have f7 : Fr (bl (.slice Au m cu)) (w5.drew.alloc (.cells #[.int .i64 1026, .int .i64 (to : Int)] 46)) w7 := (Fr.refl _ _).grown gr7 (fun b hb => .inl (by simp [bl, hb]))
      have f57 : Fr (bl (.slice Au m cu)) w5 w7 := fA.any.trans f7
      have own7' : Own w7 W0.heap.size 46 2 u' (r ++ [(1026, (to : Int))]).length ((r ++ [(1026, (to : Int))]).flatMap cp) := by
        have e1 : (r ++ [((1026 : Int), ((to : Int) : Int))]).length = m + 1 := by simp [hrm]
        have e2 : (r ++ [((1026 : Int), ((to : Int) : Int))]).flatMap cp = r.flatMap cp ++ [.int .i64 1026, .int .i64 (to : Int)] := by simp [List.flatMap_append, cp]
        rw [e1, e2]; exact own7
      have hub : ∀ b ∈ bl u', b ∈ bl (.slice Au m cu) ∨ w5.heap.size ≤ b := by
        intro b hb
        rcases hv7 with e | e
        · left; simpa [bl, e] using hb
        · right; simp [bl, e] at hb; omega
      obtain ⟨og', he', _, y7, fz7, hfin⟩ := HO5.out.upd HN.out hsn' hu f57 own7' hub
      injection he' with he'; injection he' with he'
      subst he'
      have hnl : ∀ k, k < W0.heap.size → k ∉ bl (.slice Au m cu) := fun k hk hin => by have := (hub0 k hin); omega
      have n1 : w1.heap.size ∉ bl (.slice Au m cu) := hun1
      have n2 : g ∉ bl (.slice Au m cu) := hun2
      refine hK.out _ _ ⟨(f57.cell (p := ⟨w1.heap.size, 0, none⟩) t1 n1).trans t0, y7, (f57.cell (p := ⟨g, 0, none⟩) gl n2).trans g0, (f57.cell (p := ⟨g, 1, none⟩) gl n2).trans g1⟩ ?_
      clear hK K
      simp only [Act.put, List.setIfInBounds_toArray, List.set_cons_zero, List.set_cons_succ]
      (apply wpT_pure'; simp only [List.getElem?_toArray, List.getElem?_cons_zero, List.getElem?_cons_succ]; rfl; rfl; apply Exists.intro; refine ⟨?_, ?_⟩; rintro w' ⟨s1, s2, s3, s4⟩; go_simp; with_reducible rfl; simp only [Act.put, List.setIfInBounds_toArray, List.set_cons_zero, List.set_cons_succ])
      have t7 := (f57.cell (p := ⟨w1.heap.size, 0, none⟩) t1 n1).trans t0
      have t7l := Nat.lt_of_lt_of_le t1 f57.size
      have r7 := b25.fr f57 (hnl _ (by omega))
      have r70 := r7.cellS (i := 0) rfl
      have r71 := r7.frozen 0
      have r72 := r7.lt
      have ogl7 := Nat.lt_of_lt_of_le ogl f57.size
      obtain ⟨A7, c7, hv7', _⟩ := own7'.form
      subst hv7'
      have hne1 : og ≠ w1.heap.size := hon1
      have hne2 : og ≠ w.heap.size + 1 := by omega
      (apply wpT_last; simp only [List.getElem?_toArray, List.getElem?_cons_zero, List.getElem?_cons_succ]; rfl; rfl; go_simp)
      go_wp2_with fail
      refine bodyPost_ret (v := .agg #[.slice (some ⟨og, 0, none⟩) n co]) (by simp [results, Try.results11, go_sem, r70, r71, r72, hne2, Ne.symm hne2]) rfl ?_
      exact spoil_fin HX.out ht5 hbt (by omega) hF5 f57 hub0 hogB HN.out hn2 HL.out hsn' hfin (by simp only [List.length_append, List.length_cons, List.length_nil]; omega) (by simp [hrm])
    · go_wp2_with fail
      refine wp_region_T (fun w' => w'.cell? ⟨w1.heap.size, 0, none⟩ = some (.slice (some ⟨og, 0, none⟩) n co) ∧ w'.cell? ⟨og, s, none⟩ = some (.slice Au m cu) ∧ w'.cell? ⟨g, 0, none⟩ = some (.int .i64 ev) ∧ w'.cell? ⟨g, 1, none⟩ = some (.int .i64 (to : Int))) 17
        [(0, true), (1, true), (2, true), (3, true), (4, true), (5, true), (6, true), (7, true), (8, true), (9, true), (10, true), (11, true), (12, true), (13, true), (14, false), (15, false), (16, true), (17, false)]
        (by kernel_rfl) (by kernel_rfl) (fun _ _ d _ _ h => by cases d <;> exact h) ⟨t0, y0, g0, g1⟩ ?_
      iterate 14 (apply wpT_pure'; simp only [List.getElem?_toArray, List.getElem?_cons_zero, List.getElem?_cons_succ]; rfl; rfl; apply Exists.intro; refine ⟨?_, ?_⟩; rintro w' ⟨s1, s2, s3, s4⟩; go_simp; with_reducible rfl; simp only [Act.put, List.setIfInBounds_toArray, List.set_cons_zero, List.set_cons_succ])
      have fA := ((Fr.refl [] w5).drew).alloc (.cells #[.int .i64 ev, .int .i64 (n : Int)] 46)
      have lA : (w5.drew.alloc (.cells #[.int .i64 ev, .int .i64 (n : Int)] 46)).heap.size = w5.heap.size + 1 := by simp
      (apply wpT_eff; simp only [List.getElem?_toArray, List.getElem?_cons_zero, List.getElem?_cons_succ]; rfl; rfl; intro K hK; go_simp)
      (refine hK.out _ _ ⟨(fA.cell (p := ⟨w1.heap.size, 0, none⟩) t1 (by simp)).trans t0, (fA.cell (p := ⟨og, s, none⟩) ogl (by simp)).trans y0, (fA.cell (p := ⟨g, 0, none⟩) gl (by simp)).trans g0, (fA.cell (p := ⟨g, 1, none⟩) gl (by simp)).trans g1⟩ ?_; clear hK K; try simp only [Act.put, List.setIfInBounds_toArray, List.set_cons_zero, List.set_cons_succ])
      (apply wpT_eff; simp only [List.getElem?_toArray, List.getElem?_cons_zero, List.getElem?_cons_succ]; rfl; rfl; intro K hK)
      refine wp_app (B := W0.heap.size) rfl T_arcs (hown.fr fA (by simp)) (Sl.litg [] w5.drew 46 #[.int .i64 ev, .int .i64 (n : Int)] 1 1 2 w5.heap.size rfl (by omega) rfl (by simp)) rfl rfl (by simp [Value.oneCell']) (by omega) (by omega) (by simp; omega) ?_
      intro u' w7 own7 gr7 hv7
      have f7 : Fr (bl (.slice Au m cu)) (w5.drew.alloc (.cells #[.int .i64 ev, .int .i64 (n : Int)] 46)) w7 := (Fr.refl _ _).grown gr7 (fun b hb => .inl (by simp [bl, hb]))
      have f57 : Fr (bl (.slice Au m cu)) w5 w7 := fA.any.trans f7
      have own7' : Own w7 W0.heap.size 46 2 u' (r ++ [(ev, (n : Int))]).length ((r ++ [(ev, (n : Int))]).flatMap cp) := by
        have e1 : (r ++ [((ev : Int), ((n : Int) : Int))]).length = m + 1 := by simp [hrm]
        have e2 : (r ++ [((ev : Int), ((n : Int) : Int))]).flatMap cp = r.flatMap cp ++ [.int .i64 ev, .int .i64 (n : Int)] := by simp [List.flatMap_append, cp]
        rw [e1, e2]; exact own7
      have hub : ∀ b ∈ bl u', b ∈ bl (.slice Au m cu) ∨ w5.heap.size ≤ b := by
        intro b hb
        rcases hv7 with e | e
        · left; simpa [bl, e] using hb
        · right; simp [bl, e] at hb; omega
      obtain ⟨og', he', _, y7, fz7, hfin⟩ := HO5.out.upd HN.out hsn' hu f57 own7' hub
      injection he' with he'; injection he' with he'
      subst he'
      have hnl : ∀ k, k < W0.heap.size → k ∉ bl (.slice Au m cu) := fun k hk hin => by have := (hub0 k hin); omega
      have n1 : w1.heap.size ∉ bl (.slice Au m cu) := hun1
      have n2 : g ∉ bl (.slice Au m cu) := hun2
      refine hK.out _ _ ⟨(f57.cell (p := ⟨w1.heap.size, 0, none⟩) t1 n1).trans t0, y7, (f57.cell (p := ⟨g, 0, none⟩) gl n2).trans g0, (f57.cell (p := ⟨g, 1, none⟩) gl n2).trans g1⟩ ?_
      clear hK K
      simp only [Act.put, List.setIfInBounds_toArray, List.set_cons_zero, List.set_cons_succ]
      (apply wpT_pure'; simp only [List.getElem?_toArray, List.getElem?_cons_zero, List.getElem?_cons_succ]; rfl; rfl; apply Exists.intro; refine ⟨?_, ?_⟩; rintro w' ⟨s1, s2, s3, s4⟩; go_simp; with_reducible rfl; simp only [Act.put, List.setIfInBounds_toArray, List.set_cons_zero, List.set_cons_succ])
      have t7 := (f57.cell (p := ⟨w1.heap.size, 0, none⟩) t1 n1).trans t0
      have t7l := Nat.lt_of_lt_of_le t1 f57.size
      have r7 := b25.fr f57 (hnl _ (by omega))
      have r70 := r7.cellS (i := 0) rfl
      have r71 := r7.frozen 0
      have r72 := r7.lt
      have ogl7 := Nat.lt_of_lt_of_le ogl f57.size
      obtain ⟨A7, c7, hv7', _⟩ := own7'.form
      subst hv7'
      have hne1 : og ≠ w1.heap.size := hon1
      have hne2 : og ≠ w.heap.size + 1 := by omega
      (apply wpT_last; simp only [List.getElem?_toArray, List.getElem?_cons_zero, List.getElem?_cons_succ]; rfl; rfl; go_simp)
      go_wp2_with fail
      refine bodyPost_ret (v := .agg #[.slice (some ⟨og, 0, none⟩) n co]) (by simp [results, Try.results11, go_sem, r70, r71, r72, hne2, Ne.symm hne2]) rfl ?_
      exact spoil_fin HX.out ht5 hbt (by omega) hF5 f57 hub0 hogB HN.out hn2 HL.out hsn' hfin (by simp only [List.length_append, List.length_cons, List.length_nil]; omega) (by simp [hrm])
    · go_wp2_with fail
      refine wp_region_T (fun w' => w'.cell? ⟨w1.heap.size, 0, none⟩ = some (.slice (some ⟨og, 0, none⟩) n co) ∧ w'.cell? ⟨og, s, none⟩ = some (.slice Au m cu) ∧ w'.cell? ⟨g, 0, none⟩ = some (.int .i64 ev) ∧ w'.cell? ⟨g, 1, none⟩ = some (.int .i64 (to : Int))) 14
        [(0, true), (1, true), (2, true), (3, true), (4, true), (5, true), (6, true), (7, true), (8, true), (9, true), (10, true), (11, false), (12, false), (13, true), (14, false)]
        (by kernel_rfl) (by kernel_rfl) (fun _ _ d _ _ h => by cases d <;> exact h) ⟨t0, y0, g0, g1⟩ ?_
      iterate 11 (apply wpT_pure'; simp only [List.getElem?_toArray, List.getElem?_cons_zero, List.getElem?_cons_succ]; rfl; rfl; apply Exists.intro; refine ⟨?_, ?_⟩; rintro w' ⟨s1, s2, s3, s4⟩; go_simp; with_reducible rfl; simp only [Act.put, List.setIfInBounds_toArray, List.set_cons_zero, List.set_cons_succ])
      have fA := ((Fr.refl [] w5).drew).alloc (.cells #[.int .i64 ev, .int .i64 (-1)] 46)
      have lA : (w5.drew.alloc (.cells #[.int .i64 ev, .int .i64 (-1)] 46)).heap.size = w5.heap.size + 1 := by simp
      (apply wpT_eff; simp only [List.getElem?_toArray, List.getElem?_cons_zero, List.getElem?_cons_succ]; rfl; rfl; intro K hK; go_simp)
      (refine hK.out _ _ ⟨(fA.cell (p := ⟨w1.heap.size, 0, none⟩) t1 (by simp)).trans t0, (fA.cell (p := ⟨og, s, none⟩) ogl (by simp)).trans y0, (fA.cell (p := ⟨g, 0, none⟩) gl (by simp)).trans g0, (fA.cell (p := ⟨g, 1, none⟩) gl (by simp)).trans g1⟩ ?_; clear hK K; try simp only [Act.put, List.setIfInBounds_toArray, List.set_cons_zero, List.set_cons_succ])
      (apply wpT_eff; simp only [List.getElem?_toArray, List.getElem?_cons_zero, List.getElem?_cons_succ]; rfl; rfl; intro K hK)
      refine wp_app (B := W0.heap.size) rfl T_arcs (hown.fr fA (by simp)) (Sl.litg [] w5.drew 46 #[.int .i64 ev, .int .i64 (-1)] 1 1 2 w5.heap.size rfl (by omega) rfl (by simp)) rfl rfl (by simp [Value.oneCell']) (by omega) (by omega) (by simp; omega) ?_
      intro u' w7 own7 gr7 hv7
      have f7 : Fr (bl (.slice Au m cu)) (w5.drew.alloc (.cells #[.int .i64 ev, .int .i64 (-1)] 46)) w7 := (Fr.refl _ _).grown gr7 (fun b hb => .inl (by simp [bl, hb]))
      have f57 : Fr (bl (.slice Au m cu)) w5 w7 := fA.any.trans f7
      have own7' : Own w7 W0.heap.size 46 2 u' (r ++ [(ev, (-1))]).length ((r ++ [(ev, (-1))]).flatMap cp) := by
        have e1 : (r ++ [((ev : Int), ((-1) : Int))]).length = m + 1 := by simp [hrm]
        have e2 : (r ++ [((ev : Int), ((-1) : Int))]).flatMap cp = r.flatMap cp ++ [.int .i64 ev, .int .i64 (-1)] := by simp [List.flatMap_append, cp]
        rw [e1, e2]; exact own7
      have hub : ∀ b ∈ bl u', b ∈ bl (.slice Au m cu) ∨ w5.heap.size ≤ b := by
        intro b hb
        rcases hv7 with e | e
        · left; simpa [bl, e] using hb
        · right; simp [bl, e] at hb; omega
      obtain ⟨og', he', _, y7, fz7, hfin⟩ := HO5.out.upd HN.out hsn' hu f57 own7' hub
      injection he' with he'; injection he' with he'
      subst he'
      have hnl : ∀ k, k < W0.heap.size → k ∉ bl (.slice Au m cu) := fun k hk hin => by have := (hub0 k hin); omega
      have n1 : w1.heap.size ∉ bl (.slice Au m cu) := hun1
      have n2 : g ∉ bl (.slice Au m cu) := hun2
      refine hK.out _ _ ⟨(f57.cell (p := ⟨w1.heap.size, 0, none⟩) t1 n1).trans t0, y7, (f57.cell (p := ⟨g, 0, none⟩) gl n2).trans g0, (f57.cell (p := ⟨g, 1, none⟩) gl n2).trans g1⟩ ?_
      clear hK K
      simp only [Act.put, List.setIfInBounds_toArray, List.set_cons_zero, List.set_cons_succ]
      (apply wpT_pure'; simp only [List.getElem?_toArray, List.getElem?_cons_zero, List.getElem?_cons_succ]; rfl; rfl; apply Exists.intro; refine ⟨?_, ?_⟩; rintro w' ⟨s1, s2, s3, s4⟩; go_simp; with_reducible rfl; simp only [Act.put, List.setIfInBounds_toArray, List.set_cons_zero, List.set_cons_succ])
      have t7 := (f57.cell (p := ⟨w1.heap.size, 0, none⟩) t1 n1).trans t0
      have t7l := Nat.lt_of_lt_of_le t1 f57.size
      have r7 := b25.fr f57 (hnl _ (by omega))
      have r70 := r7.cellS (i := 0) rfl
      have r71 := r7.frozen 0
      have r72 := r7.lt
      have ogl7 := Nat.lt_of_lt_of_le ogl f57.size
      obtain ⟨A7, c7, hv7', _⟩ := own7'.form
      subst hv7'
      have hne1 : og ≠ w1.heap.size := hon1
      have hne2 : og ≠ w.heap.size + 1 := by omega
      (apply wpT_last; simp only [List.getElem?_toArray, List.getElem?_cons_zero, List.getElem?_cons_succ]; rfl; rfl; go_simp)
      go_wp2_with fail
      refine bodyPost_ret (v := .agg #[.slice (some ⟨og, 0, none⟩) n co]) (by simp [results, Try.results11, go_sem, r70, r71, r72, hne2, Ne.symm hne2]) rfl ?_
      exact spoil_fin HX.out ht5 hbt (by omega) hF5 f57 hub0 hogB HN.out hn2 HL.out hsn' hfin (by simp only [List.length_append, List.length_cons, List.length_nil]; omega) (by simp [hrm])
    · go_wp2_with fail
      refine wp_region_T (fun w' => w'.cell? ⟨w1.heap.size, 0, none⟩ = some (.slice (some ⟨og, 0, none⟩) n co) ∧ w'.cell? ⟨og, s, none⟩ = some (.slice Au m cu) ∧ w'.cell? ⟨g, 0, none⟩ = some (.int .i64 ev) ∧ w'.cell? ⟨g, 1, none⟩ = some (.int .i64 (to : Int))) 12
        [(0, true), (1, true), (2, true), (3, true), (5, true), (6, true), (7, true), (8, true), (9, true), (4, false), (10, false), (11, true), (12, false)]
        (by kernel_rfl) (by kernel_rfl) (fun _ _ d _ _ h => by cases d <;> exact h) ⟨t0, y0, g0, g1⟩ ?_
      iterate 9 (apply wpT_pure'; simp only [List.getElem?_toArray, List.getElem?_cons_zero, List.getElem?_cons_succ]; rfl; rfl; apply Exists.intro; refine ⟨?_, ?_⟩; rintro w' ⟨s1, s2, s3, s4⟩; go_simp; with_reducible rfl; simp only [Act.put, List.setIfInBounds_toArray, List.set_cons_zero, List.set_cons_succ])
      have fA := ((Fr.refl [] w5).drew).alloc (.cells #[.int .i64 ev, .int .i64 (to : Int)] 46)
      (apply wpT_eff; simp only [List.getElem?_toArray, List.getElem?_cons_zero, List.getElem?_cons_succ]; rfl; rfl; intro K hK; go_simp)
      (refine hK.out _ _ ⟨(fA.cell (p := ⟨w1.heap.size, 0, none⟩) t1 (by simp)).trans t0, (fA.cell (p := ⟨og, s, none⟩) ogl (by simp)).trans y0, (fA.cell (p := ⟨g, 0, none⟩) gl (by simp)).trans g0, (fA.cell (p := ⟨g, 1, none⟩) gl (by simp)).trans g1⟩ ?_; clear hK K; try simp only [Act.put, List.setIfInBounds_toArray, List.set_cons_zero, List.set_cons_succ])
      (apply wpT_eff; simp only [List.getElem?_toArray, List.getElem?_cons_zero, List.getElem?_cons_succ]; rfl; rfl; intro K hK)
      have hlit := Sl.litg [] w5.drew 46 #[.int .i64 ev, .int .i64 (to : Int)] 1 1 2 w5.heap.size rfl (by omega) rfl (by simp)
      refine wp_app (B := w5.heap.size) rfl T_arcs (Own.full hlit (fun a ha => by cases ha; simp)) ((hown.fr fA (by simp)).sl (M := []) (by simp)) rfl rfl (one_cp _) (by omega) (by omega) (by simp) ?_
      intro u' w7 own7 gr7 hv7
      have f7 : Fr [w5.heap.size] (w5.drew.alloc (.cells #[.int .i64 ev, .int .i64 (to : Int)] 46)) w7 := (Fr.refl _ _).grown gr7 (fun b hb => .inl (by simpa [Value.ownBlock] using hb.symm))
      have f57 : Fr (bl (.slice Au m cu)) w5 w7 := ((fA.any.trans f7).drop (Nat.le_refl _)).any
      have own7' : Own w7 W0.heap.size 46 2 u' ((ev, (to : Int)) :: r).length (((ev, (to : Int)) :: r).flatMap cp) := by
        have e1 : ((ev, (to : Int)) :: r).length = 1 + m := by simp [hrm]; omega
        have e2 : ((ev, (to : Int)) :: r).flatMap cp = [.int .i64 ev, .int .i64 (to : Int)] ++ r.flatMap cp := by simp [cp]
        rw [e1, e2]; exact own7.low (by omega)
      have hub : ∀ b ∈ bl u', b ∈ bl (.slice Au m cu) ∨ w5.heap.size ≤ b := fun b hb => .inr (own7.blt b hb).1
      obtain ⟨og', he', _, y7, fz7, hfin⟩ := HO5.out.upd HN.out hsn' hu f57 own7' hub
      injection he' with he'; injection he' with he'
      subst he'
      have hnl : ∀ k, k < W0.heap.size → k ∉ bl (.slice Au m cu) := fun k hk hin => by have := (hub0 k hin); omega
      have n1 : w1.heap.size ∉ bl (.slice Au m cu) := hun1
      have n2 : g ∉ bl (.slice Au m cu) := hun2
      refine hK.out _ _ ⟨(f57.cell (p := ⟨w1.heap.size, 0, none⟩) t1 n1).trans t0, y7, (f57.cell (p := ⟨g, 0, none⟩) gl n2).trans g0, (f57.cell (p := ⟨g, 1, none⟩) gl n2).trans g1⟩ ?_
      clear hK K
      simp only [Act.put, List.setIfInBounds_toArray, List.set_cons_zero, List.set_cons_succ]
      (apply wpT_pure'; simp only [List.getElem?_toArray, List.getElem?_cons_zero, List.getElem?_cons_succ]; rfl; rfl; apply Exists.intro; refine ⟨?_, ?_⟩; rintro w' ⟨s1, s2, s3, s4⟩; go_simp; with_reducible rfl; simp only [Act.put, List.setIfInBounds_toArray, List.set_cons_zero, List.set_cons_succ])
      have t7 := (f57.cell (p := ⟨w1.heap.size, 0, none⟩) t1 n1).trans t0
      have t7l := Nat.lt_of_lt_of_le t1 f57.size
      have r7 := b25.fr f57 (hnl _ (by omega))
      have r70 := r7.cellS (i := 0) rfl
      have r71 := r7.frozen 0
      have r72 := r7.lt
      have ogl7 := Nat.lt_of_lt_of_le ogl f57.size
      obtain ⟨A7, c7, hv7', _⟩ := own7'.form
      subst hv7'
      have hne1 : og ≠ w1.heap.size := hon1
      have hne2 : og ≠ w.heap.size + 1 := by omega
      (apply wpT_last; simp only [List.getElem?_toArray, List.getElem?_cons_zero, List.getElem?_cons_succ]; rfl; rfl; go_simp)
      go_wp2_with fail
      refine bodyPost_ret (v := .agg #[.slice (some ⟨og, 0, none⟩) n co]) (by simp [results, Try.results11, go_sem, r70, r71, r72, hne2, Ne.symm hne2]) rfl ?_
      exact spoil_fin HX.out ht5 hbt (by omega) hF5 f57 hub0 hogB HN.out hn2 HL.out hsn' hfin (by simp only [List.length_append, List.length_cons, List.length_nil]; omega) (by simp [hrm])
    · go_wp2_with fail
      refine wp_region_T (fun w' => w'.cell? ⟨w1.heap.size, 0, none⟩ = some (.slice (some ⟨og, 0, none⟩) n co) ∧ w'.cell? ⟨og, s, none⟩ = some (.slice Au m cu) ∧ w'.cell? ⟨g, 0, none⟩ = some (.int .i64 ev) ∧ w'.cell? ⟨g, 1, none⟩ = some (.int .i64 (to : Int))) 15
        [(0, true), (1, true), (2, true), (3, true), (4, true), (5, true), (6, true), (7, true), (8, true), (9, true), (10, true), (11, true), (12, true), (13, false), (14, true), (15, false)]
        (by kernel_rfl) (by kernel_rfl) (fun _ _ d _ _ h => by cases d <;> exact h) ⟨t0, y0, g0, g1⟩ ?_
      iterate 13 (apply wpT_pure'; simp only [List.getElem?_toArray, List.getElem?_cons_zero, List.getElem?_cons_succ]; rfl; rfl; apply Exists.intro; refine ⟨?_, ?_⟩; rintro w' ⟨s1, s2, s3, s4⟩; go_simp; with_reducible rfl; simp only [Act.put, List.setIfInBounds_toArray, List.set_cons_zero, List.set_cons_succ])
      have fA := (Fr.refl [] w5).drew
      (apply wpT_eff; simp only [List.getElem?_toArray, List.getElem?_cons_zero, List.getElem?_cons_succ]; rfl; rfl; intro K hK)
      refine wp_app (B := W0.heap.size) rfl T_arcs (hown.fr fA (by simp)) ((hown.fr fA (by simp)).sl (M := []) (by simp)) rfl rfl (one_cp _) (by omega) (by omega) (by simp; omega) ?_
      intro u' w7 own7 gr7 hv7
      have f7 : Fr (bl (.slice Au m cu)) w5.drew w7 := (Fr.refl _ _).grown gr7 (fun b hb => .inl (by simp [bl, hb]))
      have f57 : Fr (bl (.slice Au m cu)) w5 w7 := fA.any.trans f7
      have own7' : Own w7 W0.heap.size 46 2 u' (r ++ r).length ((r ++ r).flatMap cp) := by
        have e1 : (r ++ r).length = m + m := by simp [hrm]
        have e2 : (r ++ r).flatMap cp = r.flatMap cp ++ r.flatMap cp := by simp [List.flatMap_append]
        rw [e1, e2]; exact own7
      have hub : ∀ b ∈ bl u', b ∈ bl (.slice Au m cu) ∨ w5.heap.size ≤ b := by
        intro b hb
        rcases hv7 with e | e
        · left; simpa [bl, e] using hb
        · right; simp [bl, e] at hb; omega
      obtain ⟨og', he', _, y7, fz7, hfin⟩ := HO5.out.upd HN.out hsn' hu f57 own7' hub
      injection he' with he'; injection he' with he'
      subst he'
      have hnl : ∀ k, k < W0.heap.size → k ∉ bl (.slice Au m cu) := fun k hk hin => by have := (hub0 k hin); omega
      have n1 : w1.heap.size ∉ bl (.slice Au m cu) := hun1
      have n2 : g ∉ bl (.slice Au m cu) := hun2
      refine hK.out _ _ ⟨(f57.cell (p := ⟨w1.heap.size, 0, none⟩) t1 n1).trans t0, y7, (f57.cell (p := ⟨g, 0, none⟩) gl n2).trans g0, (f57.cell (p := ⟨g, 1, none⟩) gl n2).trans g1⟩ ?_
      clear hK K
      simp only [Act.put, List.setIfInBounds_toArray, List.set_cons_zero, List.set_cons_succ]
      (apply wpT_pure'; simp only [List.getElem?_toArray, List.getElem?_cons_zero, List.getElem?_cons_succ]; rfl; rfl; apply Exists.intro; refine ⟨?_, ?_⟩; rintro w' ⟨s1, s2, s3, s4⟩; go_simp; with_reducible rfl; simp only [Act.put, List.setIfInBounds_toArray, List.set_cons_zero, List.set_cons_succ])
      have t7 := (f57.cell (p := ⟨w1.heap.size, 0, none⟩) t1 n1).trans t0
      have t7l := Nat.lt_of_lt_of_le t1 f57.size
      have r7 := b25.fr f57 (hnl _ (by omega))
      have r70 := r7.cellS (i := 0) rfl
      have r71 := r7.frozen 0
      have r72 := r7.lt
      have ogl7 := Nat.lt_of_lt_of_le ogl f57.size
      obtain ⟨A7, c7, hv7', _⟩ := own7'.form
      subst hv7'
      have hne1 : og ≠ w1.heap.size := hon1
      have hne2 : og ≠ w.heap.size + 1 := by omega
      (apply wpT_last; simp only [List.getElem?_toArray, List.getElem?_cons_zero, List.getElem?_cons_succ]; rfl; rfl; go_simp)
      go_wp2_with fail
      refine bodyPost_ret (v := .agg #[.slice (some ⟨og, 0, none⟩) n co]) (by simp [results, Try.results11, go_sem, r70, r71, r72, hne2, Ne.symm hne2]) rfl ?_
      exact spoil_fin HX.out ht5 hbt (by omega) hF5 f57 hub0 hogB HN.out hn2 HL.out hsn' hfin (by simp only [List.length_append, List.length_cons, List.length_nil]; omega) (by simp [hrm])
end Go.Proofs.Ytfkpjnmngafnmaa
