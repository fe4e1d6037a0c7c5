/- The reference's Prioritise walked. -/
import Derived.Test.YtfkpjnmngafnmaaOrd2
import Derived.Test.YtfkpjnmngafnmaaQb1
namespace Go.Proofs.Ytfkpjnmngafnmaa
set_option linter.unusedVariables false
set_option linter.unusedSimpArgs false
open Go.RowKit

theorem free_step {r : List Arc} {p : Arc → Bool} {k : Nat} {fb : Bool} {x : Arc} (h : r.all p = (fb && (r.drop k).all p)) (hd : r.drop k = x :: r.drop (k + 1)) : r.all p = ((fb && p x) && (r.drop (k + 1)).all p) := by
  rw [h, hd, List.all_cons, Bool.and_assoc]

set_option maxRecDepth 100000 in
set_option maxHeartbeats 8000000 in
theorem refPrio_any (A B : Option Addr) (n c p d : Nat) (rows : List (List Arc)) (o : List Arc) (w : World) (hr : Ll cp 2 [] w A n c rows) (hs : Small rows) (ho : Pairs [] w B p d o) (hp : p ≤ 1000)
    (hv : validB rows = true) (hvo : validOrdB o = true) :
    Calls Try.prog 21 #[.agg #[.slice A n c], .slice B p d] w fun e w' => ∃ A' n' c', e = .returned (.tuple #[.agg #[.slice A' n' c'], .int .i64 0]) ∧ Ll cp 2 [] w' A' n' c' (canonR (prioR o rows)).1 ∧ Fr [] w w' := by
  have hn : rows.length = n := hr.n_eq
  have hn1 : n ≤ 10000 := by rw [← hn]; exact hs.n
  have hl : looseB rows = true := by simp [validB] at hv; exact hv.1
  have HN := Lib.hid hn
  have HV := Lib.hid hv
  have HVO := Lib.hid hvo
  have HL := Lib.hid hl
  clear hn hv hvo hl
  go_enter Try.func21, Try.ntmps21
  go_wp2_with (first
    | (go_at_call 35; refine (valid_any A n c rows _ (hr.keep (by repeat (first | exact Fr.refl _ _ | with_reducible assumption | with_reducible apply Fr.drewN | with_reducible apply Fr.drew | with_reducible apply Fr.alloc))) hs).mono ?_; rw [HV.out]; rintro e w1 ⟨rfl, hf1⟩)
    | (go_at_call 36; refine (validOrder_any B p d o _ ((ho.keep (by repeat (first | exact Fr.refl _ _ | with_reducible assumption | with_reducible apply Fr.drewN | with_reducible apply Fr.drew | with_reducible apply Fr.alloc))).keep hf1) hp).mono ?_; rw [HVO.out]; rintro e w2 ⟨rfl, hf2⟩))
  have hG0 : Fr [] ((w.alloc (.cells #[.slice A n c] 25)).alloc (.cells #[.slice none 0 0] 25)) w2 := hf1.trans hf2
  have hz0 := hG0.lt2
  obtain ⟨qb, hqb⟩ : ∃ qb, qb = w2.heap.size := ⟨_, rfl⟩
  have hQ0 : QB w (w2.alloc (.cells #[.slice none 0 0] 25)) qb [w.heap.size + 1] (.slice none 0 0) [] := by
    rw [hqb]; exact QB.start hG0.box2 (by simp; omega)
  have hG1 := hG0.alloc (.cells #[.slice none 0 0] 25)
  have hqz : w.heap.size + 1 < qb := by omega
  rw [← hqb] at *
  clear hG0 hf1 hf2 hqb hz0
  go_loopw [7, 8, 9, 10, 11] (fun sv _ _ _ _ wr => ∃ (s : Nat) (vout : Value) (outs : List (List Arc)), s ≤ n ∧ sv = .int .i64 s ∧ QB w wr qb [w.heap.size + 1] vout outs ∧ outs.length ≤ s ∧
      Fr [qb] ((w.alloc (.cells #[.slice A n c] 25)).alloc (.cells #[.slice none 0 0] 25)) wr ∧ Hid (outs ++ (rows.drop s).map (fun r => r.filter (keepB o r)) = prioR o rows)) (fun sv _ _ _ _ _ => n - (intOf sv).toNat)
  case atStart => exact ⟨0, _, _, by omega, rfl, hQ0, by simp, hG1.any, rfl⟩
  case round =>
    clear hQ0 hG1
    obtain ⟨s, vout, outs, hsn, rfl, hQ, hol, hG, hI⟩ := hrel
    have hqsz := hQ.sz
    have c0 := hG.at2a (by simp; omega) 0
    simp at c0
    have l0 := hG.lt2
    have hF0 := hQ.fr
    by_cases hlt : s < n
    · have hlt' : (s : Int) < (n : Int) := by omega
      obtain ⟨b, off, C, m, e, r, rfl, _, hb, hm1, hrd, c1, hrow⟩ := (hr.keep hF0).get hlt
      have hm2 : m ≤ 200000 := by rw [← hrow.n_eq]; exact hs.row (List.mem_of_getElem? hm1)
      have HI2 := Lib.hid (map_step _ hI.out hrd)
      clear hm1 hrd
      go_wp2_with fail
      obtain ⟨wo, rfl⟩ : ∃ wo : World, wo = wr := ⟨_, rfl⟩
      go_loopw [8, 9, 10, 11] (fun vr iv _ _ wr => ∃ (i : Nat) (acc : List Arc) (N : Nat), i ≤ m ∧ iv = .int .i64 i ∧ Own wr wo.heap.size 46 2 vr N (acc.flatMap cp) ∧ Hid (acc.length = N) ∧ N ≤ i ∧ Fr [] wo wr ∧ Hid (acc ++ (r.drop i).filter (keepB o r) = r.filter (keepB o r))) (fun _ iv _ _ _ => m - (intOf iv).toNat)
      case atStart => exact ⟨0, [], 0, by omega, rfl, Own.nil _ _ _ _, rfl, Nat.le_refl _, Fr.refl _ _, by simp [Hid]⟩
      case round =>
        obtain ⟨i, acc, N, hi, rfl, hown, hNe, hNi, hH, hJ⟩ := hrel
        have d0 := (hH.cell (p := ⟨w.heap.size, 0, none⟩) (by show w.heap.size < _; omega) (by simp)).trans c0
        have d1 := (hH.cell (p := ⟨b, off + s, none⟩) hb (by simp)).trans c1
        have l1 := hH.size
        by_cases hli : i < m
        · have hli' : (i : Int) < (m : Int) := by omega
          obtain ⟨b', off', x, y, rfl, _, hb', hx, hrd, a1, a2⟩ := (hrow.keep hH).getp hli
          have HFS := Lib.hid (filter_step _ hJ.out hrd)
          clear hrd hx
          have hlb : w.heap.size < wr.heap.size := by omega
          have hbl := Nat.lt_of_lt_of_le hb l1
          go_wp2_with fail
          obtain ⟨w3, rfl⟩ : ∃ w3 : World, w3 = wr := ⟨_, rfl⟩
          go_loopw [10, 11] (fun fv kv wr => ∃ (k : Nat) (fb : Bool), k ≤ m ∧ kv = .int .i64 k ∧ fv = .bool fb ∧ Fr [] w3 wr ∧ Hid ((r.all fun z => !blkB o x z.1) = (fb && (r.drop k).all fun z => !blkB o x z.1))) (fun _ kv _ => m - (intOf kv).toNat)
          case atStart => exact ⟨0, true, by omega, rfl, rfl, Fr.refl _ _, by simp [Hid]⟩
          case round =>
            obtain ⟨k, fb, hk, rfl, rfl, hK, hL2⟩ := hrel
            have f0 := (hK.cell (p := ⟨w.heap.size, 0, none⟩) hlb (by simp)).trans d0
            have f1 := (hK.cell (p := ⟨b, off + s, none⟩) hbl (by simp)).trans d1
            have f2 := (hK.cell (p := ⟨b', off' + i * 2, none⟩) hb' (by simp)).trans a1
            by_cases hlk : k < m
            · have hlk' : (k : Int) < (m : Int) := by omega
              obtain ⟨b'', off'', u, v, he, _, hb'', hx2, hrd2, a3, a4⟩ := ((hrow.keep hH).keep hK).getp hlk
              injection he with he; injection he with he1 he2; subst he1; subst he2
              have HST := Lib.hid (free_step hL2.out hrd2)
              clear hrd2 hx2
              have l2 := hK.size
              have g0 : w.heap.size < wr.heap.size := by omega
              have g1 := Nat.lt_of_lt_of_le hbl l2
              have hoW := (ho.keep hF0).keep (hH.trans hK)
              cases fb with
              | false =>
                have Hn : Hid ((r.all fun z => !blkB o x z.1) = (false && (r.drop (k + 1)).all fun z => !blkB o x z.1)) := by
                  have := HST.out; unfold Hid; simpa using this
                go_wp2_with fail
                go_quiet (fail)
                go_wp2_with fail
                go_roundw
                case rel => exact ⟨k + 1, false, by omega, by go_num, rfl, hK.drewN _, Hn⟩
                case measure => simp [intOf]; omega
              | true =>
                cases hbb : blkB o x u with
                | true =>
                  have Hbb := Lib.hid hbb
                  have Hn : Hid ((r.all fun z => !blkB o x z.1) = (false && (r.drop (k + 1)).all fun z => !blkB o x z.1)) := by
                    have := HST.out; unfold Hid; simpa [hbb] using this
                  clear hbb
                  go_wp2_with fail
                  go_region_held3 (fun w' => w'.cell? ⟨w.heap.size, 0, none⟩ = some (.slice (some ⟨b, off, none⟩) n c) ∧ w'.cell? ⟨b, off + s, none⟩ = some (.slice (some ⟨b', off', none⟩) m e) ∧ w'.cell? ⟨b', off' + i * 2, none⟩ = some (.int .i64 x) ∧ w'.cell? ⟨b', off' + k * 2, none⟩ = some (.int .i64 u))
                    ((first | exact ⟨f0, f1, f2, a3⟩ | exact ⟨h0, h1, h2, h3⟩))
                    ((go_at_call 37; refine (blocks_any B p d o x u _ (hoW.keep (by repeat (first | exact Fr.refl _ _ | with_reducible assumption | with_reducible apply Fr.drewN | with_reducible apply Fr.drew | with_reducible apply Fr.alloc))) hp HVO.out).mono ?_; rw [Hbb.out]; rintro e' w4 ⟨rfl, hf4⟩
                      have hf5 : Fr [] wr w4 := Fr.trans (by repeat (first | exact Fr.refl _ _ | with_reducible assumption | with_reducible apply Fr.drewN | with_reducible apply Fr.drew | with_reducible apply Fr.alloc)) hf4
                      have h0 := (hf5.cell (p := ⟨w.heap.size, 0, none⟩) g0 (by simp)).trans f0
                      have h1 := (hf5.cell (p := ⟨b, off + s, none⟩) g1 (by simp)).trans f1
                      have h2 := (hf5.cell (p := ⟨b', off' + i * 2, none⟩) hb'' (by simp)).trans f2
                      have h3 := (hf5.cell (p := ⟨b', off' + k * 2, none⟩) hb'' (by simp)).trans a3))
                  go_wp2_with fail
                  go_roundw
                  case rel => exact ⟨k + 1, false, by omega, by go_num, rfl, hK.trans hf5, Hn⟩
                  case measure => simp [intOf]; omega
                | false =>
                  have Hbb := Lib.hid hbb
                  have Hn : Hid ((r.all fun z => !blkB o x z.1) = (true && (r.drop (k + 1)).all fun z => !blkB o x z.1)) := by
                    have := HST.out; unfold Hid; simpa [hbb] using this
                  clear hbb
                  go_wp2_with fail
                  go_region_held3 (fun w' => w'.cell? ⟨w.heap.size, 0, none⟩ = some (.slice (some ⟨b, off, none⟩) n c) ∧ w'.cell? ⟨b, off + s, none⟩ = some (.slice (some ⟨b', off', none⟩) m e) ∧ w'.cell? ⟨b', off' + i * 2, none⟩ = some (.int .i64 x) ∧ w'.cell? ⟨b', off' + k * 2, none⟩ = some (.int .i64 u))
                    ((first | exact ⟨f0, f1, f2, a3⟩ | exact ⟨h0, h1, h2, h3⟩))
                    ((go_at_call 37; refine (blocks_any B p d o x u _ (hoW.keep (by repeat (first | exact Fr.refl _ _ | with_reducible assumption | with_reducible apply Fr.drewN | with_reducible apply Fr.drew | with_reducible apply Fr.alloc))) hp HVO.out).mono ?_; rw [Hbb.out]; rintro e' w4 ⟨rfl, hf4⟩
                      have hf5 : Fr [] wr w4 := Fr.trans (by repeat (first | exact Fr.refl _ _ | with_reducible assumption | with_reducible apply Fr.drewN | with_reducible apply Fr.drew | with_reducible apply Fr.alloc)) hf4
                      have h0 := (hf5.cell (p := ⟨w.heap.size, 0, none⟩) g0 (by simp)).trans f0
                      have h1 := (hf5.cell (p := ⟨b, off + s, none⟩) g1 (by simp)).trans f1
                      have h2 := (hf5.cell (p := ⟨b', off' + i * 2, none⟩) hb'' (by simp)).trans f2
                      have h3 := (hf5.cell (p := ⟨b', off' + k * 2, none⟩) hb'' (by simp)).trans a3))
                  go_wp2_with fail
                  go_roundw
                  case rel => exact ⟨k + 1, true, by omega, by go_num, rfl, hK.trans hf5, Hn⟩
                  case measure => simp [intOf]; omega
            · have hge : decide ((k : Int) < (m : Int)) = false := by simp; omega
              have hend : keepB o r (x, y) = fb := by
                have := hL2.out
                rw [List.drop_eq_nil_of_le (by rw [hrow.n_eq]; omega)] at this
                simpa [keepB] using this
              have hown3 := hown.fr hK (by simp)
              cases fb with
              | false =>
                have Hn := Lib.hid (HFS.out.2 hend)
                clear hend
                go_wp2_with fail
                go_roundw
                case rel => exact ⟨i + 1, acc, N, by omega, by go_num, hown3, hNe, by omega, hH.trans hK, Hn⟩
                case measure => simp [intOf]; omega
              | true =>
                have Hn := Lib.hid (HFS.out.1 hend)
                have f3 := (hK.cell (p := ⟨b', off' + i * 2 + 1, none⟩) hb' (by simp)).trans a2
                have hbK := Nat.lt_of_lt_of_le hb' hK.size
                have hNm : N ≤ 200000 := by omega
                clear hend
                go_wp2_with ((at_builtin; refine app_own rfl rfl T_arcs (hown3.fr (M := []) (by repeat (first | exact Fr.refl _ _ | with_reducible assumption | with_reducible apply Fr.drewN | with_reducible apply Fr.drew | with_reducible apply Fr.alloc)) (by simp)) (Sl.lit [] wr 46 #[.int .i64 x, .int .i64 y] 1 1 2 rfl (by omega) (by simp)) rfl rfl (by simp [Value.oneCell']) (by omega) (by omega) (by have := hK.size; simp; omega) ?_))
                intro v4 w4 own4 fr4
                have hF4 : Fr [] wo w4 := fr4 [] wo ((hH.trans hK).alloc _) (Nat.le_refl _)
                clear fr4
                go_wp2_with fail
                go_roundw
                case rel => exact ⟨i + 1, acc ++ [(x, y)], N + 1, by omega, by go_num, by simpa [List.flatMap_append, cp] using own4, by unfold Hid; simp [hNe.out], by omega, hF4, Hn⟩
                case measure => simp [intOf]; omega
        · have hge : decide ((i : Int) < (m : Int)) = false := by simp; omega
          have hend : acc = r.filter (keepB o r) := by
            have := hJ.out
            rw [List.drop_eq_nil_of_le (by rw [hrow.n_eq]; omega)] at this
            simpa using this
          have hQ1 := hQ.pure hH
          obtain ⟨Ar, cr, rfl, hrw⟩ := hown.ls hNe.out (M := bl vout ++ (qb :: [w.heap.size + 1])) (fun m hm => hQ.mlt m hm)
          obtain ⟨vs, hov, hrel⟩ := hQ1.out
          have k0 := hQ1.cell
          have k1 := hQ1.bq.lt
          have hone := one_cv_slice Ar N cr
          have hov' := hov.fr (M := []) (w' := wr.alloc (.cells #[.slice Ar N cr] 44)) ((Fr.refl _ _).alloc _) (by simp)
          have hS : Sl [] (wr.alloc (.cells #[.slice Ar N cr] 44)) (some ⟨wr.heap.size, 0, none⟩) 1 1 1 [.slice Ar N cr] := Sl.lit [] wr 44 #[.slice Ar N cr] 1 1 1 rfl (by omega) (by simp)
          have hob1 : (outs.length + 1) * 24 ≤ 140737488355328 := by omega
          have hob2 : outs.length + 1 ≤ 140737488355328 := by omega
          have hob3 : qb + 1 ≤ (wr.alloc (.cells #[.slice Ar N cr] 44)).heap.size := by simp; omega
          have HRel := Lib.hid hrel
          have HE := Lib.hid hend
          have HQA := Lib.hid (hQ1.pure (w' := wr.alloc (.cells #[.slice Ar N cr] 44)) ((Fr.refl _ _).alloc _))
          clear hrel hov hend hown
          go_wp2_with ((at_builtin; refine app_blk rfl rfl T_rows hov' hS rfl rfl hone hob1 hob2 hob3 ?_))
          intro v5 w5 own5 f5 hv5
          obtain ⟨A5, c5, rfl, hc5⟩ := own5.form
          have hv5' : (Value.slice A5 (outs.length + 1) c5).ownBlock = vout.ownBlock ∨ (Value.slice A5 (outs.length + 1) c5).ownBlock = some (wr.alloc (.cells #[.slice Ar N cr] 44)).heap.size := hv5.imp id (fun h => by rw [h]; simp)
          have hQ5 := HQA.out.push (HRel.out.imp fun _ _ h => h.keep ((Fr.refl _ _).alloc _)) ⟨Ar, N, cr, rfl, hrw.keep ((Fr.refl _ _).alloc _)⟩ own5 f5 hv5'
          obtain ⟨z1, z2⟩ := HQA.out.after f5
          have hG5 : Fr [qb] ((w.alloc (.cells #[.slice (some ⟨b, off, none⟩) n c] 25)).alloc (.cells #[.slice none 0 0] 25)) (w5.setCell ⟨qb, 0, none⟩ (.slice A5 (outs.length + 1) c5)) := by
            refine Fr.setCell ?_ (.inl (by simp)) _
            refine ((((hG.trans hH.any).alloc (.cells #[.slice Ar N cr] 44)).mono (M' := qb :: bl vout) (by simp)).trans (f5.mono (by simp; intro a ha _; exact .inr ha))).mono ?_
            intro k hk hlt
            rcases List.mem_cons.1 hk with rfl | hk
            · simp
            · have := (hov'.blt k hk).1; simp at hlt; omega
          clear own5 f5 hv5 hv5'
          go_wp2_with fail
          go_roundw
          case rel => exact ⟨s + 1, _, _, by omega, by go_num, hQ5, by simp; omega, hG5, by rw [HE.out]; exact HI2⟩
          case measure => simp [intOf]; omega
    · have hge : decide ((s : Int) < (n : Int)) = false := by simp; omega
      have hend : outs = prioR o rows := by
        have := hI.out
        rw [List.drop_eq_nil_of_le (by rw [HN.out]; omega)] at this
        simpa using this
      have hQ1 := hQ
      obtain ⟨Ao, co, rfl, hLo⟩ := hQ.ll (M := [w.heap.size + 1]) (by simp; omega) (by simp)
      have k0 := hQ.cell
      have HE := Lib.hid hend
      clear hend
      have hl2 : looseB outs = true := by rw [HE.out]; exact prio_loose HL.out
      have hs2 : Small outs := by rw [HE.out]; exact prio_small hs
      have hrb0 : Blk ((w.alloc (.cells #[.slice A n c] 25)).alloc (.cells #[.slice none 0 0] 25)) (w.heap.size + 1) 25 [.slice none 0 0] := by
        have := Blk.new (w.alloc (.cells #[.slice A n c] 25)) 25 [.slice none 0 0]
        simpa using this
      have hrb := hrb0.fr hG (by simp; omega)
      have hqb := hQ.bq.lt
      go_wp2_with ((go_at_call 14; refine (canonical_any [w.heap.size + 1] Ao outs.length co outs _ (by simp; omega) hLo hs2 hl2).mono ?_; rintro e' w6 ⟨A', n', c', B', m', d', rfl, hL6, hI6, hf6⟩; have hrb6 := hrb.fr hf6 (by simp); have z1 := hrb6.cellS (i := 0) rfl; have z2 := hrb6.frozen 0; have z3 := hrb6.lt))
      refine bodyPost_ret (v := .tuple #[.agg #[.slice A' n' c'], .int .i64 0]) (by simp [results, Try.results21, go_sem, z1, z2, z3]) rfl ?_
      have hF : Fr [w.heap.size + 1] w6 ((w6.setCell ⟨w.heap.size + 1, 0, none⟩ (.slice A' n' c')).alloc (.cells #[.slice A' n' c'] 25)) := ((Fr.refl _ _).setCell (.inl (by simp)) _).alloc _
      refine ⟨_, _, _, rfl, ?_, ?_⟩
      · rw [← HE.out]
        exact (hL6.keep hF).plain
      · exact ((hQ.fr.trans hf6).setCell (.inr (Nat.le_succ _)) _).alloc _
end Go.Proofs.Ytfkpjnmngafnmaa
