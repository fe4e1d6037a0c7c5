/- The program's Canonical (rows) walked. -/
import Derived.Test.YtfkpjnmngafnmaaCan4
namespace Go.Proofs.Ytfkpjnmngafnmaa
set_option linter.unusedVariables false
set_option linter.unusedSimpArgs false
open Go.RowKit Go.Shelf Go.Sort

theorem numL_neg {tl : List Arc} {num old : List Int} {e x : Int} {tn L : Nat} (hx : num[tn]? = some x) (hneg : x < 0) (hL : old.length = L) :
    numL ((e, (tn : Int)) :: tl) num old = ((numL tl (num.set tn L) (old ++ [(tn : Int)])).1, (numL tl (num.set tn L) (old ++ [(tn : Int)])).2.1, (e, (L : Int)) :: (numL tl (num.set tn L) (old ++ [(tn : Int)])).2.2) := by
  have hl : tn < num.length := (List.getElem?_eq_some_iff.1 hx).1
  have h1 : numOne num old (tn : Int) = (num.set tn L, old ++ [(tn : Int)]) := by
    simp only [numOne, Int.toNat_natCast, List.getD, hx, Option.getD_some, if_pos hneg, hL]
  simp only [numL, h1, Int.toNat_natCast]
  simp [List.getD, hl]
theorem numL_pos {tl : List Arc} {num old : List Int} {e x : Int} {tn : Nat} (hx : num[tn]? = some x) (hpos : ¬ x < 0) :
    numL ((e, (tn : Int)) :: tl) num old = ((numL tl num old).1, (numL tl num old).2.1, (e, x) :: (numL tl num old).2.2) := by
  have h1 : numOne num old (tn : Int) = (num, old) := by
    simp only [numOne, Int.toNat_natCast, List.getD, hx, Option.getD_some, if_neg hpos]
  simp only [numL, h1, Int.toNat_natCast, List.getD, hx, Option.getD_some]
/-- how far the numbering of a row has come -/
def NL (R : List Int × List Int × List Arc) (ya q : List Arc) (k : Nat) (num old : List Int) : Prop :=
  ya.take k ++ (numL (q.drop k) num old).2.2 = R.2.2 ∧ (numL (q.drop k) num old).1 = R.1 ∧ (numL (q.drop k) num old).2.1 = R.2.1 ∧ ya.drop k = q.drop k
theorem NL.neg {R : List Int × List Int × List Arc} {ya q : List Arc} {k : Nat} {num old : List Int} {e x : Int} {tn L : Nat} (h : NL R ya q k num old) (hk : ya[k]? = some (e, (tn : Int))) (hx : num[tn]? = some x) (hneg : x < 0) (hL : old.length = L) :
    NL R (ya.set k (e, (L : Int))) q (k + 1) (num.set tn L) (old ++ [(tn : Int)]) := by
  obtain ⟨h1, h2, h3, h4⟩ := h
  have hl := (List.getElem?_eq_some_iff.1 hk).1
  have hd : q.drop k = (e, (tn : Int)) :: q.drop (k + 1) := by
    have h5 : ya.drop k = (e, (tn : Int)) :: ya.drop (k + 1) := by
      rw [List.drop_eq_getElem_cons hl]; congr 1
      rw [List.getElem?_eq_getElem hl] at hk; exact Option.some.inj hk
    have h6 := congrArg (List.drop 1) h4
    rw [List.drop_drop, List.drop_drop] at h6
    rw [← h4, h5, h6]
  rw [hd, numL_neg hx hneg hL] at h1 h2 h3
  refine ⟨?_, h2, h3, ?_⟩
  · rw [← h1, List.take_add_one, List.take_set_of_le (Nat.le_refl k)]
    simp [List.getElem?_set, hl]
  · rw [List.drop_set, if_pos (by omega)]
    have h6 := congrArg (List.drop 1) h4
    rwa [List.drop_drop, List.drop_drop] at h6
theorem NL.pos {R : List Int × List Int × List Arc} {ya q : List Arc} {k : Nat} {num old : List Int} {e x : Int} {tn : Nat} (h : NL R ya q k num old) (hk : ya[k]? = some (e, (tn : Int))) (hx : num[tn]? = some x) (hpos : ¬ x < 0) :
    NL R (ya.set k (e, x)) q (k + 1) num old := by
  obtain ⟨h1, h2, h3, h4⟩ := h
  have hl := (List.getElem?_eq_some_iff.1 hk).1
  have hd : q.drop k = (e, (tn : Int)) :: q.drop (k + 1) := by
    have h5 : ya.drop k = (e, (tn : Int)) :: ya.drop (k + 1) := by
      rw [List.drop_eq_getElem_cons hl]; congr 1
      rw [List.getElem?_eq_getElem hl] at hk; exact Option.some.inj hk
    have h6 := congrArg (List.drop 1) h4
    rw [List.drop_drop, List.drop_drop] at h6
    rw [← h4, h5, h6]
  rw [hd, numL_pos hx hpos] at h1 h2 h3
  refine ⟨?_, h2, h3, ?_⟩
  · rw [← h1, List.take_add_one, List.take_set_of_le (Nat.le_refl k)]
    simp [List.getElem?_set, hl]
  · rw [List.drop_set, if_pos (by omega)]
    have h6 := congrArg (List.drop 1) h4
    rwa [List.drop_drop, List.drop_drop] at h6

set_option maxRecDepth 100000 in
set_option maxHeartbeats 16000000 in
theorem rcanonical_any (X : List Nat) (A : Option Addr) (n c : Nat) (rows : List (List Arc)) (w : World) (hX : ∀ x ∈ X, x < w.heap.size) (hr : Ll cp 2 [] w A n c rows) (hs : Small rows) (hl : looseB rows = true) :
    Calls Try.prog 30 #[.agg #[.slice A n c]] w fun e w' => ∃ A' n' c' B' m' d', e = .returned (.tuple #[.agg #[.slice A' n' c'], .slice B' m' d', .int .i64 0]) ∧ Ll cp 2 X w' A' n' c' (canonR rows).1 ∧ Ints X w' B' m' d' (canonR rows).2 ∧ Fr [] w w' := by
  have hn : rows.length = n := hr.n_eq
  have hn1 : n ≤ 10000 := by rw [← hn]; exact hs.n
  have hn0 : 0 < n := by simp [looseB] at hl; omega
  have hok : ∀ r ∈ rows, ∀ a ∈ r, 0 ≤ a.2 ∧ a.2 < n := by
    intro r hr a ha
    have h2 := hl
    simp only [looseB, Bool.and_eq_true, List.all_eq_true] at h2
    have := h2.2 r hr a ha
    simp [arcOkB] at this
    omega
  have HN := Lib.hid hn
  have HOK := Lib.hid hok
  have HX := Lib.hid hX
  have HL := Lib.hid hl
  clear hn hok hl hX
  have hn0' : (0 : Int) < (n : Int) := by omega
  go_enter Try.func30, Try.ntmps30
  go_wp2_with (first
    | (go_at_call 38; refine (rloose_any A n c rows _ (hr.keep (by repeat (first | exact Fr.refl _ _ | with_reducible assumption | with_reducible apply Fr.drewN | with_reducible apply Fr.drew | with_reducible apply Fr.alloc))) hs).mono ?_; rw [HL.out]; rintro e w1 ⟨rfl, hf1⟩; have q0 := hf1.at2a (by simp) 0; simp at q0; have q1 := hf1.lt2; have q2 : w.heap.size < w1.heap.size := by omega)
    | (go_at_call 45; refine (repeat_any _ n _ (by go_simp) hn0 (by omega)).mono ?_; rintro e w2 ⟨nb, rfl, hnb, hBn, hf2⟩; have z1 : w2.cell? ⟨nb, 0, none⟩ = some (.int .i64 (-1)) := hBn.cellS (by simp [List.getElem?_replicate]; omega); have z2 := hBn.frozen 0))
  obtain ⟨W0, hW0⟩ : ∃ W0, W0 = (w.alloc (.cells #[.slice A n c] 25)).alloc (.cells #[.slice none 0 0] 25) := ⟨_, rfl⟩
  have b0 : Blk W0 w.heap.size 25 [.slice A n c] := by rw [hW0]; exact (Blk.new w 25 [.slice A n c]).alloc _
  have b1 : Blk W0 (w.heap.size + 1) 25 [.slice none 0 0] := by
    have := Blk.new (w.alloc (.cells #[.slice A n c] 25)) 25 [.slice none 0 0]
    rw [hW0]; simpa using this
  have hF0 : Fr [] w W0 := by rw [hW0]; exact ((Fr.refl _ _).alloc _).alloc _
  have hrW := hr.keep hF0
  have hsW : W0.heap.size = w.heap.size + 2 := by rw [hW0]; simp
  rw [← hW0] at hf1
  have hs1 := hf1.size
  have hs2 := hf2.size
  simp at hs2 hnb
  have hnb2 := hBn.lt
  have hP0 : PI ((w.heap.size + 1) :: X) W0 ((w2.setCell ⟨nb, 0, none⟩ (.int .i64 0)).alloc (.cells #[.int .i64 0] 3)) nb w2.heap.size ((List.replicate n (-1)).set 0 0) [0] 1 (.slice (some ⟨w2.heap.size, 0, none⟩) 1 1) (.slice none 0 0) [] := by
    refine ⟨rfl, ?_, by omega, hnb2, by simp [size_setCell], ?_, ?_, RO.start _ _ _⟩
    · exact ((((hf1.alloc _).trans hf2).setCell (.inr (by show W0.heap.size ≤ nb; omega)) _)).alloc _
    · rw [List.map_set]; exact (hBn.set_ 0 _).alloc _
    · refine Own.full ?_ (fun a ha => by cases ha; simp [size_setCell])
      have := Sl.litg [] (w2.setCell ⟨nb, 0, none⟩ (.int .i64 0)) 3 #[.int .i64 0] 1 1 1 w2.heap.size rfl (by omega) (by simp [size_setCell]) (by simp)
      simpa [ci] using this
  have hNO := NumOk.start hn0
  have hNJ := NumInj.start hn0
  clear hf1 hf2 hBn z1 z2 q0 q1 q2 hs2 hnb hnb2
  go_wp2_with fail
  go_loopw [6, 7, 8] (fun ov uv iv wr => ∃ (i L : Nat) (num old : List Int) (outs : List (List Arc)), iv = .int .i64 i ∧ i ≤ n ∧ PI ((w.heap.size + 1) :: X) W0 wr nb w2.heap.size num old L ov uv outs ∧ Hid (outs.length = i) ∧ Hid (NumOk n num old) ∧ Hid (NumInj num old) ∧ Hid (canGo rows (n - i) i num old outs = canonR rows))
    (fun _ _ iv _ => n - (intOf iv).toNat)
  case atStart => exact ⟨0, 1, _, _, [], rfl, by omega, by simpa [size_setCell] using hP0, rfl, hNO, hNJ, by simp [Hid, canonR, HN.out]⟩
  case round =>
    clear hP0 hNO hNJ
    obtain ⟨i, L, num, old, outs, rfl, hin, hP, hol, hNO, hNJ, hI⟩ := hrel
    have hLn : L ≤ n := by rw [← hP.hl]; exact hNO.out.le
    obtain ⟨Av, cvv, hvo, _⟩ := hP.old.form
    subst hvo
    have hfr0 := hP.fr
    have x0 := (b0.fr hfr0 (by simp)).cellS (i := 0) rfl
    have x00 := (b0.fr hfr0 (by simp)).lt
    by_cases hlt : i < L
    · have hlt' : (i : Int) < (L : Int) := by omega
      obtain ⟨A1, c1, ha1, hold⟩ := hP.old.ls (f := ci) hP.hl (M := []) (by simp)
      injection ha1 with ha1 _ ha2
      subst ha1; subst ha2
      obtain ⟨bo, oo, s, rfl, _, hbo, hs1', _, y0⟩ := hold.geti hlt
      obtain ⟨sp, sl⟩ := hNO.out.st s (List.mem_of_getElem? hs1')
      obtain ⟨sn, rfl⟩ : ∃ sn : Nat, s = (sn : Int) := ⟨s.toNat, by omega⟩
      have sln : sn < n := by omega
      obtain ⟨br, or_, C, m, d, r, rfl, _, hbr, hm1, _, y1, hrow⟩ := (hrW.keep hfr0).get sln
      have hm2 : m ≤ 200000 := by rw [← hrow.n_eq]; exact hs.row (List.mem_of_getElem? hm1)
      have hrok := HOK.out r (List.mem_of_getElem? hm1)
      have HROK := Lib.hid hrok
      have HSTEP := Lib.hid (canGo_step (num := num) (out := outs) (by omega : i < n) hs1' (by simpa using hm1) rfl)
      clear hrok hm1 hs1'
      go_wp2_with fail
      refine wp_region_T (fun w' => w'.cell? ⟨w.heap.size, 0, none⟩ = some (.slice (some ⟨br, or_, none⟩) n c) ∧ w'.cell? ⟨bo, oo + i, none⟩ = some (.int .i64 (sn : Int)) ∧ w'.cell? ⟨br, or_ + sn, none⟩ = some (.slice C m d)) 9
        [(0, true), (1, true), (2, true), (3, true), (4, true), (5, true), (6, true), (7, true), (8, false), (9, false)]
        (by kernel_rfl) (by kernel_rfl) (fun _ _ d _ _ h => by cases d <;> exact h) ⟨x0, y0, y1⟩ ?_
      iterate 8 (apply wpT_pure'; simp only [List.getElem?_toArray, List.getElem?_cons_zero, List.getElem?_cons_succ]; rfl; rfl; apply Exists.intro; refine ⟨?_, ?_⟩; rintro w' ⟨s1, s2, s3⟩; go_simp; with_reducible rfl; simp only [Act.put, List.setIfInBounds_toArray, List.set_cons_zero, List.set_cons_succ])
      (apply wpT_eff; simp only [List.getElem?_toArray, List.getElem?_cons_zero, List.getElem?_cons_succ]; rfl; rfl; intro K hK; go_simp)
      refine (clone_any [] C m d _ _ (hrow.sl.keep (Fr.refl _ _).drew) (by omega)).mono ?_
      rintro e w3 ⟨va, rfl, hva, hf3⟩
      have hJ0 : PJ ((w.heap.size + 1) :: X) W0 w3 nb w2.heap.size num old L (.slice (some ⟨bo, oo, none⟩) L cvv) u7 outs va r m := PJ.start (hP.pure ((Fr.refl _ _).drew)) hf3 hva hrow.n_eq
      (refine hK.out _ _ ⟨(hf3.cell (p := ⟨w.heap.size, 0, none⟩) x00 (by simp)).trans x0, (hf3.cell (p := ⟨bo, oo + i, none⟩) hbo (by simp)).trans y0, (hf3.cell (p := ⟨br, or_ + sn, none⟩) hbr (by simp)).trans y1⟩ ?_; clear hK K; try simp only [Act.put, List.setIfInBounds_toArray, List.set_cons_zero, List.set_cons_succ])
      (apply wpT_last; simp only [List.getElem?_toArray, List.getElem?_cons_zero, List.getElem?_cons_succ]; rfl; rfl; go_simp)
      go_wp2_with (first
        | (go_at_call 47; refine (sort_any w2.heap.size va m r _ hJ0.row hrow.n_eq (by omega)).mono ?_; rintro e w4 ⟨rfl, hrow4, hf4⟩)
        | (go_at_call 48; refine (compact_any w2.heap.size va m (sortL r) _ hrow4 (by rw [sortL_len]; exact hrow.n_eq) (by omega)).mono ?_; rintro e w5 ⟨vb, rfl, hrow5, hf5, hvb⟩))
      have hJ1 := hJ0.aside hf4 hrow4 (by rw [sortL_len]; exact hrow.n_eq) (fun _ h => h)
      have hJ2 := hJ1.aside hf5 hrow5 rfl hvb
      rw [comp_sort] at hJ2
      have hq0 := rowOf_sorted r
      have hq1 := len_rowOf r
      have hq2 : ∀ a ∈ rowOf r, 0 ≤ a.2 ∧ a.2 < n := fun a ha => HROK.out a ((mem_rowOf r a).1 ha)
      have hSTEP := HSTEP.out
      obtain ⟨q, hq⟩ : ∃ q, q = rowOf r := ⟨_, rfl⟩
      rw [← hq] at hJ2 hq0 hq1 hq2 hSTEP
      rw [rowGo_numL] at hSTEP
      have hnd := numL_nodup q (num := num) (old := old) hq0 (by rw [hNO.out.len]; exact hq2) hNJ.out
      have HOKQ := Lib.hid (NumOk.go q [] hNO.out hq2)
      have HSTEP2 := Lib.hid hSTEP
      obtain ⟨R, hR⟩ : ∃ R, R = numL q num old := ⟨_, rfl⟩
      have hNL0 : NL R q q 0 num old := by rw [hR]; exact ⟨by simp, by simp, by simp, by simp⟩
      have HNJ2 := Lib.hid (numL_inj q (num := num) (old := old) (by rw [hNO.out.len]; exact hq2) hNJ.out)
      rw [rowGo_numL] at HOKQ
      unfold Hid at HOKQ HSTEP2 HNJ2
      rw [← hR] at HSTEP2 HNJ2 HOKQ
      rw [← hR] at hnd
      have HQ0 := Lib.hid hq0
      have HQ2 := Lib.hid hq2
      have HND := Lib.hid hnd
      have HR2 := Lib.hid hR
      obtain ⟨mq, hmq⟩ : ∃ mq, mq = q.length := ⟨_, rfl⟩
      rw [← hmq] at hJ2 hq1
      have hmq1 : mq ≤ 200000 := by have := hrow.n_eq; omega
      have HMQ := Lib.hid hmq
      obtain ⟨Ab, cb, hvb2, _⟩ := hJ2.row.own.form
      subst hvb2
      have HO := Lib.hid hNO
      have HI2 := Lib.hid hI
      have HIL : Hid (i + 1 ≤ n) := by unfold Hid; omega
      clear hq0 hq2 hnd hq hR hmq hSTEP hJ0 hJ1 hrow4 hf4 hrow5 hf5 hvb hva hf3 HROK HSTEP hNO hNJ hI hrow y0 y1 x0 hold hP hq1
      go_wp2_with fail
      go_loopw [6, 45] (fun ov kv wr => ∃ (k L : Nat) (num old : List Int) (ya : List Arc), kv = .int .i64 k ∧ k ≤ mq ∧ PJ ((w.heap.size + 1) :: X) W0 wr nb w2.heap.size num old L ov u7 outs (.slice Ab mq cb) ya mq ∧ Hid (NumOk n num old) ∧ Hid (NL R ya q k num old)) (fun _ kv _ => mq - (intOf kv).toNat)
      case atStart => exact ⟨0, L, num, old, q, rfl, by omega, hJ2, HO.out, hNL0⟩
      case round =>
        clear hJ2 hNL0 hLn hfr0 x00 hlt hlt'
        obtain ⟨k, L2, num2, old2, ya, rfl, hk, hJ, hNO, hNL⟩ := hrel
        have hL2n : L2 ≤ n := by rw [← hJ.p.hl]; exact hNO.out.le
        obtain ⟨Av2, cv2, hvo2, _⟩ := hJ.p.old.form
        subst hvo2
        have hya := hJ.hm
        by_cases hlk : k < mq
        · have hlk' : (k : Int) < (mq : Int) := by omega
          obtain ⟨ga, capa, resta, hva, hga, hca1, hca2, hAB, _⟩ := AB.of_row hJ.row hJ.hm (by omega)
          injection hva with hva1 _ hva2
          subst hva1; subst hva2
          obtain ⟨e, t, hkt, a1, a2⟩ := hAB.get hlk
          have hgl := hAB.b.lt
          have hfz := hAB.b.frozen (k * 2 + 1)
          have htq : (e, t) ∈ q := by
            have h4 := hNL.out.2.2.2
            have : (ya.drop k)[0]? = some (e, t) := by rw [List.getElem?_drop]; simpa using hkt
            rw [h4] at this
            exact List.mem_of_mem_drop (List.mem_of_getElem? this)
          obtain ⟨tp, tl⟩ := HQ2.out _ htq
          simp only at tp tl
          obtain ⟨tn, rfl⟩ : ∃ tn : Nat, t = (tn : Int) := ⟨t.toNat, by omega⟩
          have tln : tn < n := by omega
          have hnl := hJ.p.bn.lt
          have hnf := hJ.p.bn.frozen tn
          have hnB := hJ.p.nbB
          have hBs := hJ.p.Bs
          obtain ⟨x, hx⟩ : ∃ x, num2[tn]? = some x := ⟨_, List.getElem?_eq_getElem (by rw [hNO.out.len]; exact tln)⟩
          have n0 : wr.cell? ⟨nb, tn, none⟩ = some (.int .i64 x) := hJ.p.bn.cellS (by rw [List.getElem?_map, hx]; rfl)
          have hxr := hNO.out.rng x (List.mem_of_getElem? hx)
          have HNO2 := Lib.hid (NumOk.one hNO.out (t := (tn : Int)) (by omega) (by omega))
          by_cases hneg : x < 0
          · have HNLn := Lib.hid (hNL.out.neg hkt hx hneg hJ.p.hl)
            have hNOn : NumOk n (num2.set tn (L2 : Int)) (old2 ++ [(tn : Int)]) := by
              have := HNO2.out
              simpa [numOne, List.getD, hx, hneg, hJ.p.hl] using this
            have HNO3 := Lib.hid hNOn
            obtain ⟨W3, hW3⟩ : ∃ W3, W3 = ((wr.setCell ⟨nb, tn, none⟩ (.int .i64 (L2 : Int))).alloc (.cells #[.int .i64 e, .int .i64 tn] 46)).alloc (.cells #[.int .i64 tn] 3) := ⟨_, rfl⟩
            have hJB : PJ ((w.heap.size + 1) :: X) W0 W3 nb w2.heap.size (num2.set tn (L2 : Int)) old2 L2 (.slice Av2 L2 cv2) u7 outs (.slice (some ⟨ga, 0, none⟩) mq cb) ya mq := by
              rw [hW3]; exact ((hJ.num_ tn L2).pure ((Fr.refl _ _).alloc _)).pure ((Fr.refl _ _).alloc _)
            have hS : Sl [] W3 (some ⟨wr.heap.size + 1, 0, none⟩) 1 1 1 [.int .i64 (tn : Int)] := by
              rw [hW3]; exact Sl.litg [] _ 3 #[.int .i64 tn] 1 1 1 _ rfl (by omega) (by simp [size_setCell]) (by simp)
            have hob1 : (L2 + 1) * 8 ≤ 140737488355328 := by omega
            have hob2 : L2 + 1 ≤ 140737488355328 := by omega
            have hob3 := hJB.p.Bs
            have hone : ∀ u ∈ [Value.int .i64 (tn : Int)], u.oneCell' = true := by simp [Value.oneCell']
            have hold3 := hJB.p.old
            clear HNO2 hNOn
            rw [hW3] at hold3 hS hob3
            go_wp2_with ((at_builtin; refine app_blk rfl rfl T_ints hold3 hS rfl rfl hone hob1 hob2 hob3 ?_))
            intro v4 w4 own4 f4 hv4
            have hz3 : W3.heap.size = wr.heap.size + 1 + 1 := by rw [hW3]; simp [size_setCell]
            rw [← hW3] at f4
            rw [← hz3] at hv4
            have hJC := hJB.app own4 f4 hv4
            obtain ⟨A4, c4, hv4', _⟩ := own4.form
            subst hv4'
            have hbx : Blk W3 wr.heap.size 46 [.int .i64 e, .int .i64 (tn : Int)] := by
              rw [hW3]
              have := Blk.new (wr.setCell ⟨nb, tn, none⟩ (.int .i64 (L2 : Int))) 46 [.int .i64 e, .int .i64 (tn : Int)]
              rw [size_setCell] at this
              exact this.alloc _
            have hbx4 := hbx.fr f4 (fun hin => by have := (hJ.p.old.blt _ hin).2; omega)
            have k0 := hbx4.cellS (i := 1) rfl
            have k0' := hbx4.lt
            have n1 : w4.cell? ⟨nb, tn, none⟩ = some (.int .i64 (L2 : Int)) := hJC.p.bn.cellS (by rw [List.getElem?_map, List.getElem?_set, if_pos rfl, if_pos (by rw [hNO.out.len]; exact tln)]; rfl)
            have n1' := hJC.p.bn.lt
            obtain ⟨ga2, capa2, resta2, hva2, _, _, _, hAB2, _⟩ := AB.of_row hJC.row hJC.hm (by omega)
            injection hva2 with hva3 _ hva4
            injection hva3 with hva3; injection hva3 with hva3
            subst hva3; subst hva4
            obtain ⟨_, _, hkt2, k1, k2⟩ := hAB2.get hlk
            have k2' := hAB2.b.frozen (k * 2 + 1)
            have k3 := hAB2.b.lt
            have hJD := hJC.set1 hkt (L2 : Int)
            clear f4 hv4 own4 hJB hS hold3 hob3 hz3 hJ hAB hAB2
            go_wp2_with fail
            go_roundw
            case rel => exact ⟨k + 1, L2 + 1, _, _, _, by go_num, by omega, hJD, HNO3, HNLn⟩
            case measure => simp [intOf]; omega
          · have HNLn := Lib.hid (hNL.out.pos hkt hx hneg)
            have HNO3 : Hid (NumOk n num2 old2) := hNO
            have hJA := (hJ.set1 hkt x).pure (w' := (wr.setCell ⟨ga, k * 2 + 1, none⟩ (.int .i64 x)).alloc (.cells #[.int .i64 e, .int .i64 tn] 46)) ((Fr.refl _ _).alloc _)
            clear HNO2
            go_wp2_with fail
            go_roundw
            case rel => exact ⟨k + 1, L2, num2, old2, _, by go_num, by omega, hJA, HNO3, HNLn⟩
            case measure => simp [intOf]; omega
        · have hge : decide ((k : Int) < (mq : Int)) = false := by simp; omega
          obtain ⟨hn1', hn2', hn3', _⟩ := hNL.out
          rw [List.drop_eq_nil_of_le (by rw [← HMQ.out]; omega)] at hn1' hn2' hn3'
          simp only [numL, List.append_nil] at hn1' hn2' hn3'
          rw [List.take_of_length_le (by omega)] at hn1'
          have HYA := Lib.hid hn1'
          have HN2 := Lib.hid hn2'
          have HN3 := Lib.hid hn3'
          have HJ := Lib.hid hJ
          clear hn1' hn2' hn3' hNL
          go_wp2_with (first
            | (go_at_call 47; refine (sort_any w2.heap.size (.slice Ab mq cb) mq ya _ HJ.out.row hya (by omega)).mono ?_; rintro e w6 ⟨rfl, hrow6, hf6⟩
               have hJE := HJ.out.aside hf6 hrow6 (by rw [sortL_len]; exact hya) (fun _ h => h)
               have hsrt : sortL ya = R.2.2.foldl (fun acc a => ins a acc) [] := by
                 rw [HYA.out, sort_nodup (by have := HND.out; exact this)]; rfl
               rw [hsrt] at hJE
               obtain ⟨vs, hov, hrel⟩ := hJE.out.out
               have hone := one_cv_slice Ab mq cb
               have hfal := (Fr.refl [] w6).alloc (.cells #[.slice Ab mq cb] 44)
               have hov' := hov.fr hfal (by simp)
               have hS : Sl [] (w6.alloc (.cells #[.slice Ab mq cb] 44)) (some ⟨w6.heap.size, 0, none⟩) 1 1 1 [.slice Ab mq cb] := Sl.lit [] w6 44 #[.slice Ab mq cb] 1 1 1 rfl (by omega) (by simp)
               have hob1 : (outs.length + 1) * 24 ≤ 140737488355328 := by have := hol.out; omega
               have hob2 : outs.length + 1 ≤ 140737488355328 := by have := hol.out; omega
               have hJF := hJE.pure hfal
               have hob3 := hJF.p.Bs
               have HRel := Lib.hid (hrel.imp fun _ _ h => h.keep (hfal.any (M := _)))
               have HJF := Lib.hid hJF
               clear hrel hov hJE hJF hsrt)
            | (at_builtin; refine app_blk rfl rfl T_rows hov' hS rfl rfl hone hob1 hob2 hob3 ?_))
          intro v5 w5' own5 f5 hv5
          have hz5 : (w6.alloc (.cells #[.slice Ab mq cb] 44)).heap.size = w6.heap.size + 1 := by simp
          rw [← hz5] at hv5
          obtain ⟨A5, c5, hv5', _⟩ := own5.form
          subst hv5'
          have hPN := HJF.out.finish HRel.out own5 f5 hv5 (fun x hx => by rcases List.mem_cons.1 hx with rfl | hx; omega; have := HX.out x hx; omega)
          clear own5 f5 hv5 hS hov' hob3
          go_wp2_with fail
          go_roundw
          case rel =>
            refine ⟨i + 1, L2, num2, old2, _, by go_num, HIL.out, hPN, by unfold Hid; simp [hol.out], hNO, ?_, ?_⟩
            · unfold Hid; rw [HN2.out, HN3.out]; exact HNJ2
            · unfold Hid; rw [HN2.out, HN3.out, ← HSTEP2]; exact HI2.out
          case measure => have := HIL.out; simp [intOf]; omega
    · have hge : decide ((i : Int) < (L : Int)) = false := by simp; omega
      have hfin := hI.out
      rw [canGo_stop (by rw [hP.hl]; omega)] at hfin
      have HFIN := Lib.hid hfin
      have q1 := hP.wnb
      have q2 := hP.nbB
      have hXB : ∀ m ∈ (w.heap.size + 1) :: X, m < w2.heap.size := by
        intro m hm
        rcases List.mem_cons.1 hm with rfl | hm
        · omega
        · have := HX.out m hm; omega
      obtain ⟨Ao, co, hu7, hLo⟩ := hP.out.ll (X := (w.heap.size + 1) :: X) hXB (fun m hm => by simp at hm ⊢; rcases hm with hm | hm <;> simp [hm])
      subst hu7
      obtain ⟨A1, c1, ha1, hold⟩ := hP.old.ls (f := ci) hP.hl (M := (w.heap.size + 1) :: X) hXB
      injection ha1 with ha1 _ ha2
      subst ha1; subst ha2
      have hb1 := b1.fr hfr0 (by simp)
      have x1 := hb1.cellS (i := 0) rfl
      have x2 := hb1.frozen 0
      have x3 := hb1.lt
      clear hfin hI
      go_wp2_with fail
      refine bodyPost_ret (v := .tuple #[.agg #[.slice Ao outs.length co], .slice Av L cvv, .int .i64 0]) (by simp [results, Try.results30, go_sem, x1, x2, x3]) rfl ?_
      have hF : Fr [w.heap.size + 1] wr (wr.setCell ⟨w.heap.size + 1, 0, none⟩ (.slice Ao outs.length co)) := (Fr.refl _ _).setCell (.inl (by simp)) _
      refine ⟨_, _, _, _, _, _, rfl, ?_, ?_, ?_⟩
      · rw [← HFIN.out]
        exact (hLo.keep (hF.mono (by simp))).sub (by simp; intro a ha; exact .inr ha)
      · rw [← HFIN.out]
        exact (hold.keep (hF.mono (by simp))).sub (by simp; intro a ha; exact .inr ha)
      · exact (hF0.trans hfr0).setCell (.inr (by show w.heap.size ≤ w.heap.size + 1; omega)) _
end Go.Proofs.Ytfkpjnmngafnmaa
