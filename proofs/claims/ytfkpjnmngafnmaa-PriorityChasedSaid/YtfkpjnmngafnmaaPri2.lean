/- The program's Prioritise walked. -/
import Derived.Test.YtfkpjnmngafnmaaPri1
import Derived.Test.YtfkpjnmngafnmaaGen2
namespace Go.Proofs.Ytfkpjnmngafnmaa
set_option linter.unusedVariables false
set_option linter.unusedSimpArgs false
open Go.RowKit Go.Shelf Go.Sort

theorem keep_ini {o : List Arc} {r : List Arc} {x y : Int} : keepB o r (x, y) = !((iniL r).any fun e => blkB o x e) := by
  have hmem : ∀ (l : List Arc) (acc : List Int) (e : Int), e ∈ l.foldl (fun acc a => iniStep acc a.1) acc ↔ e ∈ acc ∨ ∃ a ∈ l, a.1 = e := by
    intro l
    induction l with
    | nil => simp
    | cons a tl ih =>
      intro acc e
      rw [List.foldl_cons, ih]
      unfold iniStep
      by_cases h : acc.getLast? = some a.1
      · rw [if_pos h]
        have hm : a.1 ∈ acc := List.mem_of_getLast? h
        constructor
        · rintro (h | ⟨b, hb, rfl⟩)
          · exact .inl h
          · exact .inr ⟨b, by simp [hb], rfl⟩
        · rintro (h | ⟨b, hb, rfl⟩)
          · exact .inl h
          · rcases List.mem_cons.1 hb with rfl | hb
            · exact .inl hm
            · exact .inr ⟨b, hb, rfl⟩
      · rw [if_neg h]
        simp only [List.mem_append, List.mem_cons, List.not_mem_nil, or_false]
        constructor
        · rintro ((h | rfl) | ⟨b, hb, rfl⟩)
          · exact .inl h
          · exact .inr ⟨a, .inl rfl, rfl⟩
          · exact .inr ⟨b, .inr hb, rfl⟩
        · rintro (h | ⟨b, rfl | hb, rfl⟩)
          · exact .inl (.inl h)
          · exact .inl (.inr rfl)
          · exact .inr ⟨b, hb, rfl⟩
  unfold keepB
  rw [Bool.eq_iff_iff]
  simp only [List.all_eq_true, Bool.not_eq_true', List.any_eq_false]
  constructor
  · intro h e he
    obtain ⟨a, ha, rfl⟩ : ∃ a ∈ r, a.1 = e := by simpa [iniL] using (hmem r [] e).1 he
    simpa using h a ha
  · intro h a ha
    simpa using h a.1 ((hmem r [] a.1).2 (.inr ⟨a, ha, rfl⟩))
theorem iniL_len (r : List Arc) : (iniL r).length ≤ r.length := by
  have : ∀ (l : List Arc) (acc : List Int), (l.foldl (fun acc a => iniStep acc a.1) acc).length ≤ acc.length + l.length := by
    intro l
    induction l with
    | nil => simp
    | cons a tl ih =>
      intro acc
      rw [List.foldl_cons, List.length_cons]
      have := ih (iniStep acc a.1)
      have : (iniStep acc a.1).length ≤ acc.length + 1 := by unfold iniStep; split <;> simp
      omega
  simpa [iniL] using this r []

theorem set_mid {α : Type} (vs : List α) (a b : α) (R : List α) (s : Nat) (h : vs.length = s) : (vs ++ a :: R).set s b = vs ++ b :: R := by
  subst h
  induction vs with
  | nil => rfl
  | cons v vs ih => simp [ih]

set_option maxRecDepth 100000 in
set_option maxHeartbeats 16000000 in
theorem pprio_any (X : List Nat) (A B : Option Addr) (n c p d : Nat) (rows : List (List Arc)) (o : List Arc) (w : World) (hX : ∀ x ∈ X, x < w.heap.size) (hr : Ll cp 2 [] w A n c rows) (hs : Small rows) (ho : Pairs [] w B p d o) (hp : p ≤ 1000)
    (hv : validB rows = true) (hvo : validOrdB o = true) :
    Calls Try.prog 15 #[.agg #[.slice A n c], .slice B p d] w fun e w' => ∃ A' n' c', e = .returned (.tuple #[.agg #[.slice A' n' c'], .int .i64 0]) ∧ Ll cp 2 X w' A' n' c' (canonR (prioR o rows)).1 ∧ Fr [] w w' := by
  have hn : rows.length = n := hr.n_eq
  have hn1 : n ≤ 10000 := by rw [← hn]; exact hs.n
  have hl : looseB rows = true := by simp [validB] at hv; exact hv.1
  have HN := Lib.hid hn
  have HV := Lib.hid hv
  have HVO := Lib.hid hvo
  have HL := Lib.hid hl
  have HX := Lib.hid hX
  have hmk := fun W => run_mk1 (P := Try.prog) Try.underlying23 T_rows_info rfl n (by omega) (by omega) W
  have hn0' : (0 : Int) ≤ (n : Int) := by omega
  clear hn hv hvo hl hX
  obtain ⟨W0, hW0⟩ : ∃ W0, W0 = ((w.alloc (.cells #[.slice A n c] 25)).alloc (.cells #[.slice B p d] 26)).alloc (.cells #[.slice none 0 0] 25) := ⟨_, rfl⟩
  have b0 : Blk W0 w.heap.size 25 [.slice A n c] := by rw [hW0]; exact ((Blk.new w 25 [.slice A n c]).alloc _).alloc _
  have b1 : Blk W0 (w.heap.size + 1) 26 [.slice B p d] := by
    have := (Blk.new (w.alloc (.cells #[.slice A n c] 25)) 26 [.slice B p d]).alloc (.cells #[.slice none 0 0] 25)
    rw [hW0]; simpa using this
  have b2 : Blk W0 (w.heap.size + 1 + 1) 25 [.slice none 0 0] := by
    have := Blk.new ((w.alloc (.cells #[.slice A n c] 25)).alloc (.cells #[.slice B p d] 26)) 25 [.slice none 0 0]
    rw [hW0]; simpa using this
  have hF0 : Fr [] w W0 := by rw [hW0]; exact (((Fr.refl _ _).alloc _).alloc _).alloc _
  have hrW := hr.keep hF0
  have hoW := ho.keep hF0
  have hsW : W0.heap.size = w.heap.size + 3 := by rw [hW0]; simp
  go_enter Try.func15, Try.ntmps15
  go_wp2_with (first
    | (go_at_call 24; refine (rvalid_any A n c rows _ (hr.keep (by repeat (first | exact Fr.refl _ _ | with_reducible assumption | with_reducible apply Fr.drewN | with_reducible apply Fr.drew | with_reducible apply Fr.alloc))) hs).mono ?_; rw [HV.out]; rintro e w1 ⟨rfl, hf1⟩; rw [← hW0] at hf1; have t0 := (b0.fr hf1 (by simp)).cellS (i := 0) rfl; have t1 := (b1.fr hf1 (by simp)).cellS (i := 0) rfl)
    | (go_at_call 25; refine (pvalid_any B p d o _ (hoW.keep hf1) hp).mono ?_; rw [HVO.out]; rintro e w2 ⟨rfl, hf2⟩; have q0 := (b0.fr (hf1.trans hf2) (by simp)).cellS (i := 0) rfl; have q0l := (b0.fr (hf1.trans hf2) (by simp)).lt))
  have hf12 := hf1.trans hf2
  have hs2 := hf12.size
  obtain ⟨g, hg⟩ : ∃ g, g = w2.heap.size := ⟨_, rfl⟩
  have hB0 : Blk (w2.alloc (.cells (List.replicate n (.slice none 0 0)).toArray 44)) g 44 ([] ++ List.replicate n (.slice none 0 0)) := by
    rw [hg]; exact Blk.new w2 _ _
  have hFg : Fr [] W0 (w2.alloc (.cells (List.replicate n (.slice none 0 0)).toArray 44)) := hf12.alloc _
  have hgW : W0.heap.size ≤ g := by omega
  have hg2 : g < (w2.alloc (.cells (List.replicate n (.slice none 0 0)).toArray 44)).heap.size := by simp [hg]
  clear hf1 hf2 hf12 hW0 q0l t0 t1
  try rw [← hg]
  have Hg := Lib.hid hg
  clear hg
  go_wp2_with fail
  try rw [← Hg.out]
  go_loopw [31] (fun sv wr => ∃ (s : Nat) (vs : List Value) (outs : List (List Arc)), sv = .int .i64 s ∧ s ≤ n ∧ Blk wr g 44 (vs ++ List.replicate (n - s) (.slice none 0 0)) ∧ LRel (LsV cp 2 (g :: X) wr) vs outs ∧ Hid (outs.length = s) ∧ Fr [] W0 wr ∧
      Hid (outs ++ (rows.drop s).map (fun r => r.filter (keepB o r)) = prioR o rows)) (fun sv _ => n - (intOf sv).toNat)
  case atStart => exact ⟨0, [], [], rfl, by omega, by simpa using hB0, LRel.nil, rfl, by simpa using hFg, rfl⟩
  case round =>
    clear hB0 hFg hg2
    obtain ⟨s, vs, outs, rfl, hsn, hB, hR, hol, hF, hI⟩ := hrel
    have x0 := (b0.fr hF (by simp)).cellS (i := 0) rfl
    have l0 := (b0.fr hF (by simp)).lt
    have lg := hB.lt
    by_cases hlt : s < n
    · have hlt' : (s : Int) < (n : Int) := by omega
      obtain ⟨b, off, C, m, e, r, rfl, _, hb0, hm1, hrd, c0, hrow⟩ := hrW.get hlt
      have hb : b < wr.heap.size := Nat.lt_of_lt_of_le hb0 hF.size
      have c1 := (hF.cell (p := ⟨b, off + s, none⟩) hb0 (by simp)).trans c0
      have hm2 : m ≤ 200000 := by rw [← hrow.n_eq]; exact hs.row (List.mem_of_getElem? hm1)
      have hr2 : r.length ≤ 200000 := by rw [hrow.n_eq]; exact hm2
      have HI2 := Lib.hid (map_step _ hI.out hrd)
      have hini := fun W h1 h2 => initials_any [g] (some ⟨b, off, none⟩) n c s rows r W h1 h2 hm1 hr2 (by omega)
      have HINI := Lib.hid hini
      have HR := Lib.hid hR
      have hvl : vs.length = s := by rw [hR.1, hol.out]
      have hBs : Blk wr g 44 (vs ++ (.slice none 0 0 : Value) :: List.replicate (n - s - 1) (.slice none 0 0)) := by
        have : List.replicate (n - s) (Value.slice none 0 0) = .slice none 0 0 :: List.replicate (n - s - 1) (.slice none 0 0) := by
          obtain ⟨k, hk⟩ : ∃ k, n - s = k + 1 := ⟨n - s - 1, by omega⟩
          rw [hk, List.replicate_succ]; rfl
        rw [← this]; exact hB
      have HB := Lib.hid hBs
      clear hm1 hrd hini hR hB hBs
      go_wp2_with ((go_at_call 26; refine (HINI.out _ (by simpa using lg) (hrW.keep hF)).mono ?_; rintro e' w3 ⟨A3, n3, c3, rfl, hini3, hf3⟩))
      have hFB := hF.trans hf3
      have hsz3 := hf3.size
      have hB3 := HB.out.fr hf3 (by simp)
      have hR3 := HR.out.imp fun _ _ h => h.keep (hf3.any (M := g :: X))
      have HR3 := Lib.hid hR3
      have HB3 := Lib.hid hB3
      clear HR HB hR3 hB3 hf3 c0 c1 hb x0 l0 hF
      obtain ⟨wo, hwo⟩ : ∃ wo : World, wo = w3 := ⟨_, rfl⟩
      rw [← hwo] at HR3 HB3 hsz3 hFB hini3
      go_wp2_with fail
      go_loopw [41] (fun kv wr => ∃ (k : Nat) (cur : Value) (acc : List Arc) (N : Nat), kv = .int .i64 k ∧ k ≤ m ∧ Hid (Blk wr g 44 (vs ++ cur :: List.replicate (n - s - 1) (.slice none 0 0))) ∧ Hid (LRel (LsV cp 2 (bl cur ++ (g :: X)) wr) vs outs) ∧
          Own wr wo.heap.size 46 2 cur N (acc.flatMap cp) ∧ Hid (acc.length = N) ∧ N ≤ k ∧ Fr [g] wo wr ∧ Hid (acc ++ (r.drop k).filter (keepB o r) = r.filter (keepB o r))) (fun kv _ => m - (intOf kv).toNat)
      case atStart =>
        rw [← hwo]
        exact ⟨0, .slice none 0 0, [], 0, rfl, by omega, HB3.out, by simpa [bl, Value.ownBlock, Hid] using HR3.out, Own.nil _ _ _ _, rfl, Nat.le_refl _, Fr.refl _ _, by simp [Hid]⟩
      case round =>
        clear HR3 HB3 hwo w3
        obtain ⟨k, cur, acc, N, rfl, hk, hB, hR, hown, hNe, hNk, hG, hJ⟩ := hrel
        have hgo : g < wo.heap.size := by omega
        have hF : Fr [] W0 wr := (hFB.any.trans hG).drop hgW
        have x1 := (b1.fr hF (by simp)).cellS (i := 0) rfl
        have l1 := (b1.fr hF (by simp)).lt
        have lg := hB.out.lt
        have hcb := hown.blt
        by_cases hlk : k < m
        · have hlk' : (k : Int) < (m : Int) := by omega
          obtain ⟨b', off', x, y, rfl, _, hb', hx, hrd, a1, a2⟩ := (hrow.keep hF).getp hlk
          have HFS := Lib.hid (filter_step _ hJ.out hrd)
          clear hrd hx hJ
          have n1 : (wr.alloc (.cells #[.int .i64 x, .int .i64 y] 46)).cell? ⟨wr.heap.size, 0, none⟩ = some (.int .i64 x) := by rw [World.cell?_alloc_at _ _ _ _ rfl]; rfl
          have n2 : (wr.alloc (.cells #[.int .i64 x, .int .i64 y] 46)).cell? ⟨wr.heap.size, 1, none⟩ = some (.int .i64 y) := by rw [World.cell?_alloc_at _ _ _ _ rfl]; rfl
          have hfa := (Fr.refl [] wr).alloc (.cells #[.int .i64 x, .int .i64 y] 46)
          have l2 : wr.heap.size < (wr.alloc (.cells #[.int .i64 x, .int .i64 y] 46)).heap.size := by simp
          have hCW : CW (w.heap.size + 1) wr.heap.size B p d o x (wr.alloc (.cells #[.int .i64 x, .int .i64 y] 46)) :=
            ⟨(hfa.cell (p := ⟨w.heap.size + 1, 0, none⟩) l1 (by simp)).trans x1, n1, by simp; omega, by simp, hoW.keep (hF.trans hfa)⟩
          have hn3 : n3 ≤ 1000000000 := by rw [← hini3.n_eq]; have := iniL_len r; omega
          have eg : ∀ args w, (callFunc 28 args).run Try.prog w = .ok (.enter 28 args) w := enters_of Try.func28 (by kernel_rfl) rfl
          have hcon := containsFunc_any (CW (w.heap.size + 1) wr.heap.size B p d o x) 28 #[.pointer (some ⟨w.heap.size + 1, 0, none⟩), .pointer (some ⟨wr.heap.size, 0, none⟩)] (fun e => blkB o x e) eg
            (fun W z hW => prioClos_any _ _ B p d o x z W hW hp HVO.out) (fun W W' h hf => h.fr hf) A3 n3 c3 (iniL r) _ ((hini3.keep hG).plain.keep hfa) hn3 hCW
          have HCON := Lib.hid hcon
          have hke := keep_ini (o := o) (r := r) (x := x) (y := y)
          clear hcon hCW eg
          cases hkp : keepB o r (x, y) with
          | false =>
            have hany : ((iniL r).any fun e => blkB o x e) = true := by rw [hkp] at hke; simpa using hke.symm
            have HN2 := Lib.hid (HFS.out.2 hkp)
            have hcon := HCON.out
            rw [hany] at hcon
            clear hany hke hkp HCON HFS
            go_wp2_with ((go_at_call 27; refine hcon.mono ?_; rintro e' w4 ⟨rfl, hf4⟩))
            have hf5 := hfa.trans hf4
            go_roundw
            case rel => exact ⟨k + 1, cur, acc, N, by go_num, by omega, hB.out.fr hf5 (by simp), hR.out.imp fun _ _ h => h.keep hf5.any, hown.fr hf5 (by simp), hNe, by omega, hG.trans hf5.any, HN2⟩
            case measure => simp [intOf]; omega
          | true =>
            have hany : ((iniL r).any fun e => blkB o x e) = false := by rw [hkp] at hke; simpa using hke.symm
            have HN2 := Lib.hid (HFS.out.1 hkp)
            have hcon := HCON.out
            rw [hany] at hcon
            clear hany hke hkp HCON HFS
            go_wp2_with ((go_at_call 27; refine hcon.mono ?_; rintro e' w4 ⟨rfl, hf4⟩))
            have hf5 := hfa.trans hf4
            have hF4 := hf4
            have y1 := (hf4.cell (p := ⟨wr.heap.size, 0, none⟩) l2 (by simp)).trans n1
            have y2 := (hf4.cell (p := ⟨wr.heap.size, 1, none⟩) l2 (by simp)).trans n2
            have hB4 := hB.out.fr hf5 (by simp)
            have hcl : vs.length = s := by rw [hR.out.1, hol.out]
            have y0 : w4.cell? ⟨g, s, none⟩ = some cur := hB4.cellS (by rw [← hcl]; simp)
            have yl := hB4.lt
            have zl : wr.heap.size < w4.heap.size := Nat.lt_of_lt_of_le l2 hf4.size
            have fz : (w4.drew.alloc (.cells #[.int .i64 x, .int .i64 y] 46)).frozen? ⟨g, s, none⟩ = false := (hB4.drew.alloc _).frozen s
            have hown4 := (hown.fr hf5 (by simp)).fr (((Fr.refl [] w4).drew).alloc (.cells #[.int .i64 x, .int .i64 y] 46)) (by simp)
            have hfd := ((Fr.refl [] w4).drew).alloc (.cells #[.int .i64 x, .int .i64 y] 46)
            have hS : Sl [] (w4.drew.alloc (.cells #[.int .i64 x, .int .i64 y] 46)) (some ⟨w4.heap.size, 0, none⟩) 1 1 2 [.int .i64 x, .int .i64 y] := Sl.litg [] w4.drew 46 #[.int .i64 x, .int .i64 y] 1 1 2 w4.heap.size rfl (by omega) rfl (by simp)
            have hone : ∀ u ∈ [Value.int .i64 x, Value.int .i64 y], u.oneCell' = true := by simp [Value.oneCell']
            have hob1 : (N + 1) * 16 ≤ 140737488355328 := by omega
            have hob2 : N + 1 ≤ 140737488355328 := by omega
            have hob3 : wo.heap.size ≤ (w4.drew.alloc (.cells #[.int .i64 x, .int .i64 y] 46)).heap.size := by have := hG.size; have := hf5.size; simp; omega
            obtain ⟨Ac, cc, hcur, _⟩ := hown.form
            subst hcur
            clear n1 n2 x1 hf4
            go_wp2_with fail
            refine wp_region_T (fun w' => w'.cell? ⟨g, s, none⟩ = some (.slice Ac N cc) ∧ w'.cell? ⟨wr.heap.size, 0, none⟩ = some (.int .i64 x) ∧ w'.cell? ⟨wr.heap.size, 1, none⟩ = some (.int .i64 y)) 10
              [(0, true), (1, true), (2, true), (3, true), (4, true), (5, true), (6, true), (7, false), (8, false), (9, true), (10, false)]
              (by kernel_rfl) (by kernel_rfl) (fun _ _ d _ _ h => by cases d <;> exact h) ⟨y0, y1, y2⟩ ?_
            iterate 7 (apply wpT_pure'; simp only [List.getElem?_toArray, List.getElem?_cons_zero, List.getElem?_cons_succ]; rfl; rfl; apply Exists.intro; refine ⟨?_, ?_⟩; rintro w' ⟨s1, s2, s3⟩; go_simp; with_reducible rfl; simp only [Act.put, List.setIfInBounds_toArray, List.set_cons_zero, List.set_cons_succ])
            (apply wpT_eff; simp only [List.getElem?_toArray, List.getElem?_cons_zero, List.getElem?_cons_succ]; rfl; rfl; intro K hK; go_simp)
            (refine hK.out _ _ ⟨(hfd.cell (p := ⟨g, s, none⟩) yl (by simp)).trans y0, (hfd.cell (p := ⟨wr.heap.size, 0, none⟩) zl (by simp)).trans y1, (hfd.cell (p := ⟨wr.heap.size, 1, none⟩) zl (by simp)).trans y2⟩ ?_; clear hK K; try simp only [Act.put, List.setIfInBounds_toArray, List.set_cons_zero, List.set_cons_succ])
            apply wpT_eff
            · simp only [List.getElem?_toArray, List.getElem?_cons_zero, List.getElem?_cons_succ]; rfl
            · rfl
            intro K hK
            refine wp_app rfl T_arcs hown4 hS rfl rfl hone hob1 hob2 hob3 ?_
            intro v7 w7 own7 gr7 hv7
            have hf7 : Fr (bl (.slice Ac N cc)) (w4.drew.alloc (.cells #[.int .i64 x, .int .i64 y] 46)) w7 := (Fr.refl _ _).grown gr7 (fun b hb => .inl (by simp [bl, hb]))
            have hgn : g ∉ bl (.slice Ac N cc) := fun hin => by have := (hcb _ hin).1; omega
            have hwn : wr.heap.size ∉ bl (.slice Ac N cc) := fun hin => by have := (hcb _ hin).2; omega
            have hfd7 : Fr (bl (.slice Ac N cc)) w4 w7 := hfd.any.trans hf7
            have hB7 := hB4.fr hfd7 hgn
            have y07 := (hfd7.cell (p := ⟨g, s, none⟩) yl hgn).trans y0
            refine hK.out _ _ ⟨y07, (hfd7.cell (p := ⟨wr.heap.size, 0, none⟩) zl hwn).trans y1, (hfd7.cell (p := ⟨wr.heap.size, 1, none⟩) zl hwn).trans y2⟩ ?_
            clear hK K
            simp only [Act.put, List.setIfInBounds_toArray, List.set_cons_zero, List.set_cons_succ]
            (apply wpT_pure'; simp only [List.getElem?_toArray, List.getElem?_cons_zero, List.getElem?_cons_succ]; rfl; rfl; apply Exists.intro; refine ⟨?_, ?_⟩; rintro w' ⟨s1, s2, s3⟩; go_simp; with_reducible rfl; simp only [Act.put, List.setIfInBounds_toArray, List.set_cons_zero, List.set_cons_succ])
            have fz7 := hB7.frozen s
            have lg7 := hB7.lt
            obtain ⟨A7, c7, hv7', _⟩ := own7.form
            subst hv7'
            (apply wpT_last; simp only [List.getElem?_toArray, List.getElem?_cons_zero, List.getElem?_cons_succ]; rfl; rfl; go_simp)
            go_wp2_with fail
            have hfs : Fr [g] w7 (w7.setCell ⟨g, s, none⟩ (.slice A7 (N + 1) c7)) := (Fr.refl _ _).setCell (.inl (by simp)) _
            go_roundw
            case rel =>
              refine ⟨k + 1, .slice A7 (N + 1) c7, acc ++ [(x, y)], N + 1, by go_num, by omega, ?_, ?_, ?_, by unfold Hid; simp [hNe.out], by omega, ?_, HN2⟩
              · have := hB7.set_ s (.slice A7 (N + 1) c7)
                rw [set_mid vs _ _ _ s hcl] at this
                exact this
              · unfold Hid
                have hMs : ∀ b ∈ bl (.slice Ac N cc), b ∈ bl (.slice Ac N cc) ++ (g :: X) := fun b hb => List.mem_append_left _ hb
                have hrr := hR.out.imp fun _ _ h => ((h.keep (hf5.any (M := _))).keep (hfd.any (M := _))).app hMs hf7 hv7
                refine hrr.imp fun _ _ h => (h.sub (M' := bl (.slice A7 (N + 1) c7) ++ (g :: X)) (fun q hq => ?_)).keep (hfs.mono (by simp))
                rcases List.mem_append.1 hq with hq | hq
                · exact List.mem_append_left _ hq
                · exact List.mem_append_right _ (List.mem_append_right _ hq)
              · have := own7.fr hfs (by simp; omega)
                simpa [List.flatMap_append, cp] using this
              · have h1 : Fr (g :: bl (.slice Ac N cc)) wo w7 := ((hG.trans hf5.any).mono (by simp)).trans (hfd7.mono (by intro a ha _; simp [ha]))
                exact (h1.mono (fun q hq hlt => by
                  rcases List.mem_cons.1 hq with rfl | hq
                  · simp
                  · have := (hcb q hq).1; omega)).trans hfs
            case measure => simp [intOf]; omega
        · have hge : decide ((k : Int) < (m : Int)) = false := by simp; omega
          have hend : acc = r.filter (keepB o r) := by
            have := hJ.out
            rw [List.drop_eq_nil_of_le (by rw [hrow.n_eq]; omega)] at this
            simpa using this
          have hXg : ∀ q ∈ g :: X, q < wo.heap.size := by
            intro q hq
            rcases List.mem_cons.1 hq with rfl | hq
            · exact hgo
            · have := HX.out q hq; omega
          have HE := Lib.hid hend
          have HV2 : Hid (LRel (LsV cp 2 (g :: X) wr) (vs ++ [cur]) (outs ++ [acc])) := by
            refine (hR.out.imp fun _ _ h => h.sub (fun q hq => List.mem_append_right _ hq)).snoc ?_
            obtain ⟨A', c', rfl, hw⟩ := hown.ls hNe.out hXg
            exact ⟨A', N, c', rfl, hw⟩
          have HB2 : Hid (Blk wr g 44 ((vs ++ [cur]) ++ List.replicate (n - (s + 1)) (.slice none 0 0))) := by
            have := hB.out
            unfold Hid
            rw [List.append_assoc, List.singleton_append, show n - (s + 1) = n - s - 1 by omega]; exact this
          clear hend hJ
          go_wp2_with fail
          go_roundw
          case rel => exact ⟨s + 1, vs ++ [cur], outs ++ [acc], by go_num, by omega, HB2.out, HV2.out, by unfold Hid; simp [hol.out], hF, by rw [HE.out]; exact HI2⟩
          case measure => simp [intOf]; omega
    · have hge : decide ((s : Int) < (n : Int)) = false := by simp; omega
      have hend : outs = prioR o rows := by
        have := hI.out
        rw [List.drop_eq_nil_of_le (by rw [HN.out]; omega)] at this
        simpa using this
      have hsn2 : s = n := by omega
      have hLo : Ll cp 2 [] wr (some ⟨g, 0, none⟩) n n outs := by
        rw [show n - s = 0 by omega, List.replicate_zero, List.append_nil] at hB
        have hvn : vs.length = n := by rw [hR.1, hol.out, hsn2]
        refine ⟨vs, ?_, hR.imp fun _ _ h => h.sub (by simp)⟩
        have := Ls.of_blk (f := cv) (k := 1) (M := []) (fun _ => rfl) (xs := vs) (by show Blk wr g _ (vs.flatMap fun x => [x]); simpa using hB) (by simp)
        rw [hvn] at this
        exact this
      have HE := Lib.hid hend
      have hl2 : looseB outs = true := by rw [HE.out]; exact prio_loose HL.out
      have hs2 : Small outs := by rw [HE.out]; exact prio_small hs
      have hb2 := b2.fr hF (by simp)
      clear hend hI hB hR
      go_wp2_with ((go_at_call 30; refine (rcanonical_any ((w.heap.size + 1 + 1) :: X) (some ⟨g, 0, none⟩) n n outs _ (by intro q hq; rcases List.mem_cons.1 hq with rfl | hq; have := hF.size; omega; have := HX.out q hq; have := hF.size; omega) hLo hs2 hl2).mono ?_; rintro e' w6 ⟨A', n', c', B', m', d', rfl, hL6, hI6, hf6⟩; have z0 := hb2.fr hf6 (by simp); have z1 := z0.cellS (i := 0) rfl; have z2 := z0.frozen 0; have z3 := z0.lt))
      refine bodyPost_ret (v := .tuple #[.agg #[.slice A' n' c'], .int .i64 0]) (by simp [results, Try.results15, go_sem, z1, z2, z3]) rfl ?_
      have hF2 : Fr [w.heap.size + 1 + 1] w6 ((w6.setCell ⟨w.heap.size + 1 + 1, 0, none⟩ (.slice A' n' c')).alloc (.cells #[.slice A' n' c'] 25)) := ((Fr.refl _ _).setCell (.inl (by simp)) _).alloc _
      refine ⟨_, _, _, rfl, ?_, ?_⟩
      · rw [← HE.out]
        exact (hL6.keep (hF2.mono (by simp))).sub (by simp; intro a ha; exact .inr ha)
      · exact (((hF0.trans hF).trans hf6).setCell (.inr (by show w.heap.size ≤ w.heap.size + 1 + 1; omega)) _).alloc _

set_option maxRecDepth 100000 in
set_option maxHeartbeats 4000000 in
theorem pprio_bad (A B : Option Addr) (n c p d : Nat) (rows : List (List Arc)) (o : List Arc) (w : World) (hr : Ll cp 2 [] w A n c rows) (hs : Small rows) (ho : Pairs [] w B p d o) (hp : p ≤ 1000)
    (hv : (validB rows && validOrdB o) = false) :
    Calls Try.prog 15 #[.agg #[.slice A n c], .slice B p d] w fun e w' => e = .returned (.tuple #[.agg #[.slice none 0 0], .int .i64 1]) ∧ Fr [] w w' := by
  obtain ⟨W0, hW0⟩ : ∃ W0, W0 = ((w.alloc (.cells #[.slice A n c] 25)).alloc (.cells #[.slice B p d] 26)).alloc (.cells #[.slice none 0 0] 25) := ⟨_, rfl⟩
  have b1 : Blk W0 (w.heap.size + 1) 26 [.slice B p d] := by
    have := (Blk.new (w.alloc (.cells #[.slice A n c] 25)) 26 [.slice B p d]).alloc (.cells #[.slice none 0 0] 25)
    rw [hW0]; simpa using this
  have b2 : Blk W0 (w.heap.size + 1 + 1) 25 [.slice none 0 0] := by
    have := Blk.new ((w.alloc (.cells #[.slice A n c] 25)).alloc (.cells #[.slice B p d] 26)) 25 [.slice none 0 0]
    rw [hW0]; simpa using this
  have hF0 : Fr [] w W0 := by rw [hW0]; exact (((Fr.refl _ _).alloc _).alloc _).alloc _
  have hoW := ho.keep hF0
  cases hvr : validB rows with
  | false =>
    have HV := Lib.hid hvr
    clear hv hvr
    go_enter Try.func15, Try.ntmps15
    go_wp2_with ((go_at_call 24; refine (rvalid_any A n c rows _ (hr.keep (by repeat (first | exact Fr.refl _ _ | with_reducible assumption | with_reducible apply Fr.drewN | with_reducible apply Fr.drew | with_reducible apply Fr.alloc))) hs).mono ?_; rw [HV.out]; rintro e w1 ⟨rfl, hf1⟩; rw [← hW0] at hf1; have z0 := b2.fr hf1 (by simp); have z1 := z0.cellS (i := 0) rfl; have z2 := z0.frozen 0; have z3 := z0.lt))
    refine bodyPost_ret (v := .tuple #[.agg #[.slice none 0 0], .int .i64 1]) (by simp [results, Try.results15, go_sem, z1, z2, z3]) rfl ?_
    exact ⟨rfl, (hF0.trans hf1).setCell (.inr (by show w.heap.size ≤ w.heap.size + 1 + 1; omega)) _⟩
  | true =>
    rw [hvr, Bool.true_and] at hv
    have HV := Lib.hid hvr
    have HVO := Lib.hid hv
    clear hv hvr
    go_enter Try.func15, Try.ntmps15
    go_wp2_with (first
      | (go_at_call 24; refine (rvalid_any A n c rows _ (hr.keep (by repeat (first | exact Fr.refl _ _ | with_reducible assumption | with_reducible apply Fr.drewN | with_reducible apply Fr.drew | with_reducible apply Fr.alloc))) hs).mono ?_; rw [HV.out]; rintro e w1 ⟨rfl, hf1⟩; rw [← hW0] at hf1; have t1 := (b1.fr hf1 (by simp)).cellS (i := 0) rfl)
      | (go_at_call 25; refine (pvalid_any B p d o _ (hoW.keep hf1) hp).mono ?_; rw [HVO.out]; rintro e w2 ⟨rfl, hf2⟩; have z0 := b2.fr (hf1.trans hf2) (by simp); have z1 := z0.cellS (i := 0) rfl; have z2 := z0.frozen 0; have z3 := z0.lt))
    refine bodyPost_ret (v := .tuple #[.agg #[.slice none 0 0], .int .i64 1]) (by simp [results, Try.results15, go_sem, z1, z2, z3]) rfl ?_
    exact ⟨rfl, ((hF0.trans hf1).trans hf2).setCell (.inr (by show w.heap.size ≤ w.heap.size + 1 + 1; omega)) _⟩

/-- what both answer -/
def prioA (rows : List (List Arc)) (o : List Arc) : List (List Arc) := if validB rows && validOrdB o then (canonR (prioR o rows)).1 else []
def prioE (rows : List (List Arc)) (o : List Arc) : Int := if validB rows && validOrdB o then 0 else 1
theorem pprio_all (X : List Nat) (A B : Option Addr) (n c p d : Nat) (rows : List (List Arc)) (o : List Arc) (w : World) (hX : ∀ x ∈ X, x < w.heap.size) (hr : Ll cp 2 [] w A n c rows) (hs : Small rows) (ho : Pairs [] w B p d o) (hp : p ≤ 1000) :
    Calls Try.prog 15 #[.agg #[.slice A n c], .slice B p d] w fun e w' => ∃ A' n' c', e = .returned (.tuple #[.agg #[.slice A' n' c'], .int .i64 (prioE rows o)]) ∧ Ll cp 2 X w' A' n' c' (prioA rows o) ∧ Fr [] w w' := by
  unfold prioA prioE
  cases hv : validB rows && validOrdB o with
  | false =>
    refine (pprio_bad A B n c p d rows o w hr hs ho hp hv).mono ?_
    rintro e w' ⟨rfl, hf⟩
    exact ⟨none, 0, 0, rfl, Ll.nil _ _ _ _, hf⟩
  | true =>
    simp only [Bool.and_eq_true] at hv
    exact pprio_any X A B n c p d rows o w hX hr hs ho hp hv.1 hv.2
end Go.Proofs.Ytfkpjnmngafnmaa
