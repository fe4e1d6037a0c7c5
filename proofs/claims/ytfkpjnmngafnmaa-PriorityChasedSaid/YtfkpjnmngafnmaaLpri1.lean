/- The law's parts: prioritises, sane. -/
import Derived.Test.YtfkpjnmngafnmaaPrio2
namespace Go.Proofs.Ytfkpjnmngafnmaa
set_option linter.unusedVariables false
set_option linter.unusedSimpArgs false
open Go.RowKit

set_option maxRecDepth 100000 in
set_option maxHeartbeats 4000000 in
theorem prioritises_any (A B : Option Addr) (n c p d : Nat) (rows : List (List Arc)) (o : List Arc) (w : World) (hr : Ll cp 2 [] w A n c rows) (hs : Small rows) (ho : Pairs [] w B p d o) (hp : p ≤ 1000) :
    Calls Try.prog 8 #[.agg #[.slice A n c], .slice B p d] w fun e w' => e = .returned (.bool true) ∧ Fr [] w w' := by
  have hA := fun (W : World) hX h1 h2 => pprio_all [] A B n c p d rows o W hX h1 hs h2 hp
  have hB := fun (W : World) h1 h2 => refPrio_all A B n c p d rows o W h1 hs h2 hp
  obtain ⟨hb1, hb2⟩ := prioA_bound (o := o) hs
  have HB1 := Lib.hid hb1
  have HB2 := Lib.hid hb2
  generalize prioA rows o = R at hA hB HB1 HB2
  generalize hE : prioE rows o = E at hA hB
  have HA := Lib.hid hA
  have HB := Lib.hid hB
  have b0 := Blk.new w 25 [.slice A n c]
  have hF0 := (Fr.refl [] w).alloc (.cells #[.slice A n c] 25)
  clear hA hB hb1 hb2 hE
  have hEE : (E == E) = true := by simp
  go_enter Try.func8, Try.ntmps8
  go_wp2_with (first
    | (go_at_call 15; refine (HA.out _ (by simp) (hr.keep hF0) (ho.keep hF0)).mono ?_; rintro e w1 ⟨A1, n1, c1, rfl, hL1, hf1⟩
       have z0 := (b0.fr hf1 (by simp)).cellS (i := 0) rfl
       have z1 := (b0.fr hf1 (by simp)).lt)
    | (go_at_call 21; refine (HB.out _ ((hr.keep hF0).keep (hf1.alloc _)) ((ho.keep hF0).keep (hf1.alloc _))).mono ?_; rintro e w2 ⟨A2, n2, c2, rfl, hL2, hf2⟩
       have y0 := (Blk.new w1 25 [.slice A1 n1 c1]).fr hf2 (by simp)
       have y1 := y0.cellS (i := 0) rfl
       have y2 := y0.lt)
    | (go_at_call 16; refine (same_any A1 A2 n1 c1 n2 c2 R R _ (((hL1.keep ((Fr.refl _ _).alloc _)).keep hf2).keep ((Fr.refl _ _).alloc _)) (hL2.keep ((Fr.refl _ _).alloc _)) (by rw [← hL1.n_eq]; have := HB1.out; omega) (by rw [← hL2.n_eq]; have := HB1.out; omega) (fun r hr => by have := HB2.out r hr; omega) (fun r hr => by have := HB2.out r hr; omega)).mono ?_; rintro e w3 ⟨rfl, hf3⟩))
  go_ret
  exact ⟨by simp, (((hF0.trans hf1).alloc _).trans hf2).trans (((Fr.refl _ _).alloc _).trans hf3)⟩

/-- a literal block of rows -/
theorem Ll.lit {M : List Nat} {w : World} {g : Nat} {vs : List Value} {rows : List (List Arc)} {n : Nat} (hb : Blk w g 44 vs) (hg : g ∉ M) (hr : LRel (LsV cp 2 M w) vs rows) (hn : vs.length = n) : Ll cp 2 M w (some ⟨g, 0, none⟩) n n rows := by
  subst hn
  refine ⟨vs, ?_, hr⟩
  exact Ls.of_blk (f := cv) (k := 1) (fun _ => rfl) (xs := vs) (by show Blk w g _ (vs.flatMap fun x => [x]); rw [List.flatMap_singleton']; exact hb) hg
theorem LsV.lit {M : List Nat} {w : World} {g : Nat} {e : TypeId} {xs : List Arc} {n : Nat} (hb : Blk w g e (xs.flatMap cp)) (hg : g ∉ M) (hn : xs.length = n) : LsV cp 2 M w (.slice (some ⟨g, 0, none⟩) n n) xs := by
  subst hn
  exact ⟨_, _, _, rfl, Ls.of_blk (fun _ => rfl) hb hg⟩
theorem LsV.nil (M : List Nat) (w : World) : LsV cp 2 M w (.slice none 0 0) [] := ⟨_, _, _, rfl, Ls.nil _ _ _ _⟩
theorem LRel.cons {β α : Type} {R : β → α → Prop} {v : β} {r : α} {vs : List β} {rs : List α} (h : R v r) (ht : LRel R vs rs) : LRel R (v :: vs) (r :: rs) := by
  refine ⟨by simp [ht.1], fun i v' r' h1 h2 => ?_⟩
  cases i with
  | zero => simp at h1 h2; subst h1; subst h2; exact h
  | succ i => exact ht.2 i v' r' (by simpa using h1) (by simpa using h2)

theorem sane_1 : prioA [[(2, 1), (3, 2)], [], []] [(2, 3)] = [[(3, 1)], []] ∧ prioE [[(2, 1), (3, 2)], [], []] [(2, 3)] = 0 := by decide
theorem sane_2 : prioA [[(0, 1), (2, 2), (3, 2)], [], []] [(2, 3)] = [[(0, 1), (3, 2)], [], []] ∧ prioE [[(0, 1), (2, 2), (3, 2)], [], []] [(2, 3)] = 0 := by decide

theorem litk (V : World) (g : Nat) (hg : V.heap.size = g) (xs : List Arc) (k m : Nat) (hm : m = k + 1) (cs : Array Value) (rs : Array Value) (h1 : cs = (xs.flatMap cp).toArray) (h2 : rs = (.slice (some ⟨g, 0, none⟩) xs.length xs.length :: List.replicate k (.slice none 0 0)).toArray) :
    Ll cp 2 [] ((V.alloc (.cells cs 46)).alloc (.cells rs 44)) (some ⟨g + 1, 0, none⟩) m m (xs :: List.replicate k []) := by
  subst h1; subst h2; subst hm; subst hg
  have r1 : Blk ((V.alloc (.cells (xs.flatMap cp).toArray 46)).alloc (.cells (.slice (some ⟨V.heap.size, 0, none⟩) xs.length xs.length :: List.replicate k (.slice none 0 0)).toArray 44)) V.heap.size 46 (xs.flatMap cp) := (Blk.new V 46 (xs.flatMap cp)).alloc _
  have s1 := Blk.new (V.alloc (.cells (xs.flatMap cp).toArray 46)) 44 (.slice (some ⟨V.heap.size, 0, none⟩) xs.length xs.length :: List.replicate k (.slice none 0 0))
  have hz : (V.alloc (.cells (xs.flatMap cp).toArray 46)).heap.size = V.heap.size + 1 := by simp
  rw [hz] at s1
  exact Ll.lit s1 List.not_mem_nil (LRel.cons (LsV.lit r1 List.not_mem_nil rfl) (LRel.rep (LsV.nil _ _) k)) (by simp)

/-- the order of the sanity check stays -/
theorem sane_o (w V : World) (h : Fr [] (w.alloc (.cells #[.int .i64 2, .int .i64 3] 52)) V) : Pairs [] V (some ⟨w.heap.size, 0, none⟩) 1 1 [(2, 3)] :=
  Ls.of_blk (f := cp) (k := 2) (M := []) (xs := [(2, 3)]) (fun _ => rfl) ((Blk.new w 52 ([((2 : Int), (3 : Int))].flatMap cp)).fr h (by simp)) List.not_mem_nil
theorem sane_c1 (w V : World) (g : Nat) (hg : V.heap.size = g) (h : Fr [] (w.alloc (.cells #[.int .i64 2, .int .i64 3] 52)) V) :
    Calls Try.prog 15 #[.agg #[.slice (some ⟨g + 1, 0, none⟩) 3 3], .slice (some ⟨w.heap.size, 0, none⟩) 1 1]
      ((V.alloc (.cells #[.int .i64 2, .int .i64 1, .int .i64 3, .int .i64 2] 46)).alloc (.cells #[.slice (some ⟨g, 0, none⟩) 2 2, .slice none 0 0, .slice none 0 0] 44))
      fun e w' => ∃ A' n' c', e = .returned (.tuple #[.agg #[.slice A' n' c'], .int .i64 0]) ∧ Ll cp 2 [] w' A' n' c' [[(3, 1)], []] ∧ Fr [] V w' := by
  have hf := ((Fr.refl [] V).alloc (.cells #[.int .i64 2, .int .i64 1, .int .i64 3, .int .i64 2] 46)).alloc (.cells #[.slice (some ⟨g, 0, none⟩) 2 2, .slice none 0 0, .slice none 0 0] 44)
  have := pprio_all [] _ _ _ _ _ _ [[(2, 1), (3, 2)], [], []] _ _ (by simp) (litk V g hg [(2, 1), (3, 2)] 2 3 rfl #[.int .i64 2, .int .i64 1, .int .i64 3, .int .i64 2] #[.slice (some ⟨g, 0, none⟩) 2 2, .slice none 0 0, .slice none 0 0] rfl rfl) ⟨by simp, by simp [tot]⟩ (sane_o w _ (h.trans hf)) (by omega)
  rw [sane_1.1, sane_1.2] at this
  exact this.mono fun e w' ⟨A', n', c', h1, h2, h3⟩ => ⟨A', n', c', h1, h2, hf.trans h3⟩
theorem sane_c2 (w V : World) (g : Nat) (hg : V.heap.size = g) (h : Fr [] (w.alloc (.cells #[.int .i64 2, .int .i64 3] 52)) V) :
    Calls Try.prog 15 #[.agg #[.slice (some ⟨g + 1, 0, none⟩) 3 3], .slice (some ⟨w.heap.size, 0, none⟩) 1 1]
      ((V.alloc (.cells #[.int .i64 0, .int .i64 1, .int .i64 2, .int .i64 2, .int .i64 3, .int .i64 2] 46)).alloc (.cells #[.slice (some ⟨g, 0, none⟩) 3 3, .slice none 0 0, .slice none 0 0] 44))
      fun e w' => ∃ A' n' c', e = .returned (.tuple #[.agg #[.slice A' n' c'], .int .i64 0]) ∧ Ll cp 2 [] w' A' n' c' [[(0, 1), (3, 2)], [], []] ∧ Fr [] V w' := by
  have hf := ((Fr.refl [] V).alloc (.cells #[.int .i64 0, .int .i64 1, .int .i64 2, .int .i64 2, .int .i64 3, .int .i64 2] 46)).alloc (.cells #[.slice (some ⟨g, 0, none⟩) 3 3, .slice none 0 0, .slice none 0 0] 44)
  have := pprio_all [] _ _ _ _ _ _ [[(0, 1), (2, 2), (3, 2)], [], []] _ _ (by simp) (litk V g hg [(0, 1), (2, 2), (3, 2)] 2 3 rfl #[.int .i64 0, .int .i64 1, .int .i64 2, .int .i64 2, .int .i64 3, .int .i64 2] #[.slice (some ⟨g, 0, none⟩) 3 3, .slice none 0 0, .slice none 0 0] rfl rfl) ⟨by simp, by simp [tot]⟩ (sane_o w _ (h.trans hf)) (by omega)
  rw [sane_2.1, sane_2.2] at this
  exact this.mono fun e w' ⟨A', n', c', h1, h2, h3⟩ => ⟨A', n', c', h1, h2, hf.trans h3⟩

theorem same_lit (V : World) (g : Nat) (hg : V.heap.size = g) (A : Option Addr) (n c : Nat) (xs : List Arc) (k m : Nat) (hm : m = k + 1) (cs : Array Value) (rs : Array Value) (h1 : cs = (xs.flatMap cp).toArray) (h2 : rs = (.slice (some ⟨g, 0, none⟩) xs.length xs.length :: List.replicate k (.slice none 0 0)).toArray)
    (hL : Ll cp 2 [] V A n c (xs :: List.replicate k [])) (hk : k ≤ 1000) (hx : xs.length ≤ 1000) :
    Calls Try.prog 16 #[.agg #[.slice A n c], .agg #[.slice (some ⟨g + 1, 0, none⟩) m m]] ((V.alloc (.cells cs 46)).alloc (.cells rs 44)) fun e w' => e = .returned (.bool true) ∧ Fr [] V w' := by
  have hf := ((Fr.refl [] V).alloc (.cells cs 46)).alloc (.cells rs 44)
  have hl : ∀ r ∈ xs :: List.replicate k ([] : List Arc), r.length ≤ 140737488355328 := by
    intro r hr
    rcases List.mem_cons.1 hr with rfl | hr
    · omega
    · rw [List.eq_of_mem_replicate hr]; simp
  have hn := hL.n_eq
  simp at hn
  refine (same_any A _ n c m m _ _ _ (hL.keep hf) (litk V g hg xs k m hm cs rs h1 h2) (by omega) (by omega) hl hl).mono ?_
  rintro e w' ⟨rfl, h⟩
  exact ⟨by simp, hf.trans h⟩
set_option maxRecDepth 100000 in
set_option maxHeartbeats 1000000 in
theorem sane_any (w : World) : Calls Try.prog 13 #[] w fun e w' => e = .returned (.bool true) ∧ Fr [] w w' := by
  have hF0 := (Fr.refl [] w).alloc (.cells #[.int .i64 2, .int .i64 3] 52)
  have C1 := sane_c1 w (w.alloc (.cells #[.int .i64 2, .int .i64 3] 52)) (w.heap.size + 1) (by simp) (Fr.refl _ _)
  go_enter Try.func13, Try.ntmps13
  go_wp2_with fail
  refine C1.mono ?_
  rintro e w2 ⟨A2, n2, c2, rfl, hL2, hf2⟩
  have F1 := hf2.alloc (.cells #[.slice A2 n2 c2] 25)
  have hC2 := sane_c2 w (w2.alloc (.cells #[.slice A2 n2 c2] 25)) (w2.heap.size + 1) (by simp) F1
  clear C1
  go_wp2_with fail
  refine hC2.mono ?_
  rintro e w3 ⟨A3, n3, c3, rfl, hL3, hf3⟩
  clear hC2
  have z0 := ((Blk.new w2 25 [.slice A2 n2 c2]).fr hf3 (by simp)).alloc (.cells #[.slice A3 n3 c3] 25)
  have z1 := z0.cellS (i := 0) rfl
  have z2 := z0.lt
  have y0 := Blk.new w3 25 [.slice A3 n3 c3]
  have S1 := same_lit (w3.alloc (.cells #[.slice A3 n3 c3] 25)) (w3.heap.size + 1) (by simp) A2 n2 c2 [(3, 1)] 1 2 rfl #[.int .i64 3, .int .i64 1] #[.slice (some ⟨w3.heap.size + 1, 0, none⟩) 1 1, .slice none 0 0] rfl rfl (((hL2.keep ((Fr.refl _ _).alloc _)).keep hf3).keep ((Fr.refl _ _).alloc _)) (by omega) (by simp)
  go_wp2_with fail
  refine S1.mono ?_
  rintro e w4 ⟨rfl, hf4⟩
  clear S1
  have x0 := (y0.fr hf4 (by simp)).cellS (i := 0) rfl
  have x1 := (y0.fr hf4 (by simp)).lt
  have S2 := same_lit w4 w4.heap.size rfl A3 n3 c3 [(0, 1), (3, 2)] 2 3 rfl #[.int .i64 0, .int .i64 1, .int .i64 3, .int .i64 2] #[.slice (some ⟨w4.heap.size, 0, none⟩) 2 2, .slice none 0 0, .slice none 0 0] rfl rfl ((hL3.keep ((Fr.refl _ _).alloc _)).keep hf4) (by omega) (by simp)
  go_wp2_with fail
  refine S2.mono ?_
  rintro e w5 ⟨rfl, hf5⟩
  clear S2
  go_wp2_with fail
  go_ret
  exact ⟨rfl, ((((hF0.trans F1).trans hf3).alloc _).trans hf4).trans hf5⟩
end Go.Proofs.Ytfkpjnmngafnmaa
