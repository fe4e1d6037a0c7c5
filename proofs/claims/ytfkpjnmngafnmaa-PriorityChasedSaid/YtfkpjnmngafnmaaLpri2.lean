/- PriorityPrioritise walked. -/
import Derived.Test.YtfkpjnmngafnmaaLpri1
import Derived.Test.YtfkpjnmngafnmaaGen3
import Derived.Test.YtfkpjnmngafnmaaGen4
import Derived.Test.YtfkpjnmngafnmaaGen5
import Derived.Test.YtfkpjnmngafnmaaSpo2
namespace Go.Proofs.Ytfkpjnmngafnmaa
set_option linter.unusedVariables false
set_option linter.unusedSimpArgs false
open Go.RowKit

theorem small_ok {m : Nat} {rows : List (List Arc)} (h : okSys 200 m rows) (hm : m ≤ 20) : Small rows := small_of (by rw [h.1]; exact hm) (fun r hr => by have := (h.2 r hr).2.1; omega)

set_option maxRecDepth 100000 in
set_option maxHeartbeats 16000000 in
theorem lawPrio_any (T L O : Option Addr) (tn tc n c p d : Nat) (ts : List Int) (rows : List (List Arc)) (o : List Arc) (w : World) (ht : Ints [] w T tn tc ts) (htn : tn ≤ 9223372036854775807) (htx : ∀ x ∈ ts, -9223372036854775808 ≤ x ∧ x ≤ 9223372036854775807)
    (hr : Ll cp 2 [] w L n c rows) (hn : n ≤ 140737488355328) (hrl : ∀ r ∈ rows, r.length ≤ 140737488355328) (ho : Pairs [] w O p d o) (hp : p ≤ 140737488355328) :
    Calls Try.prog 3 #[.slice T tn tc, .agg #[.slice L n c], .slice O p d] w fun e w' => e = .returned (.bool true) ∧ Fr [] w w' := by
  have hF0 := (Fr.refl [] w).alloc (.cells #[.slice L n c] 25)
  have b0 := Blk.new w 25 [.slice L n c]
  have HRL := Lib.hid hrl
  have HTX := Lib.hid htx
  clear hrl htx
  go_enter Try.func3, Try.ntmps3
  go_wp2_with ((go_at_call 6; refine (new_any T tn tc ts _ (ht.keep hF0) htn HTX.out).mono ?_; rintro e w1 ⟨rfl, ht1, hf1⟩))
  have hsz : (w.alloc (.cells #[.slice L n c] 25)).heap.size = w.heap.size + 1 := by simp
  rw [hsz] at ht1
  have hb1 := b0.fr hf1 (by simp)
  have hF1 : Fr [] w w1 := hF0.trans hf1
  have hz1 := ht1.lt
  go_loopw [8] (fun iv wr => ∃ i : Nat, iv = .int .i64 i ∧ i ≤ 5 ∧ Tp wr (w.heap.size + 1) (1000 * i) ∧ Fr [w.heap.size + 1] w1 wr) (fun iv _ => 5 - (intOf iv).toNat)
  case atStart => exact ⟨0, rfl, by omega, ht1, Fr.refl _ _⟩
  case round =>
    obtain ⟨i, rfl, hi, htw, hG⟩ := hrel
    by_cases hlt : i < 5
    · have hlt' : (i : Int) < 5 := by omega
      go_wp2_with ((go_at_call 7; refine (chain_any [] (w.heap.size + 1) (1000 * i) 7 _ (by simp) htw (by omega) (by omega) (by omega)).mono ?_; rintro e w2 ⟨g, m, rfl, hm1, hm2, hgs, ht2, hf2, hg2⟩))
      obtain ⟨rs, hrs, hok⟩ := hgs.ll
      have hsm := small_ok hok (by omega)
      obtain ⟨W2, hW2⟩ : ∃ W2, W2 = w2.alloc (.cells #[.slice (some ⟨g, 0, none⟩) m m] 25) := ⟨_, rfl⟩
      have hbt2 := ht2.lt
      have c0 : W2.cell? ⟨w2.heap.size, 0, none⟩ = some (.slice (some ⟨g, 0, none⟩) m m) := by rw [hW2]; exact (Blk.new w2 25 [.slice (some ⟨g, 0, none⟩) m m]).cellS rfl
      have l0 : w2.heap.size < W2.heap.size := by rw [hW2]; simp
      have ht3 : Tp W2 (w.heap.size + 1) (1000 * i + 300) := by rw [hW2]; exact ht2.alloc _
      have hr3 : Ll cp 2 [w.heap.size + 1] W2 (some ⟨g, 0, none⟩) m m rs := by rw [hW2]; exact hrs.keep ((Fr.refl _ _).alloc _)
      have hG3 : Fr [w.heap.size + 1] w1 W2 := by rw [hW2]; exact (hG.trans hf2).alloc _
      have nin : w2.heap.size ∉ [w.heap.size + 1] := by simp; omega
      rw [← hW2]
      have HW2 := Lib.hid hW2
      clear hW2 htw hG hgs hrs ht2
      have hd := (Fr.refl [w.heap.size + 1] W2).drew
      refine wp_region_T (fun w' => w'.cell? ⟨w2.heap.size, 0, none⟩ = some (.slice (some ⟨g, 0, none⟩) m m) ∧ True) 20
        [(0, true), (1, true), (2, false), (3, false), (4, true), (5, true), (6, true), (7, true), (8, false), (9, false), (10, true), (11, true), (12, true), (13, true), (14, true), (16, true), (15, false), (17, false), (18, false), (19, true), (20, false)]
        (by kernel_rfl) (by kernel_rfl) (fun _ _ d _ _ h => by cases d <;> exact h) ⟨c0, trivial⟩ ?_
      iterate 2 (apply wpT_pure'; simp only [List.getElem?_toArray, List.getElem?_cons_zero, List.getElem?_cons_succ]; rfl; rfl; apply Exists.intro; refine ⟨?_, ?_⟩; rintro w' ⟨s1, _⟩; go_simp; with_reducible rfl; simp only [Act.put, List.setIfInBounds_toArray, List.set_cons_zero, List.set_cons_succ])
      (apply wpT_eff; simp only [List.getElem?_toArray, List.getElem?_cons_zero, List.getElem?_cons_succ]; rfl; rfl; intro K hK; go_simp)
      refine (order_any [] (w.heap.size + 1) (1000 * i + 300) _ (by simp) ht3.drew (by omega)).mono ?_
      rintro e w3 ⟨A1, n1, c1, o1, rfl, ho1, hm_1, ht4, hf3⟩
      have hH3 := hd.trans hf3
      (refine hK.out _ _ ⟨(hH3.cell (p := ⟨w2.heap.size, 0, none⟩) l0 nin).trans c0, trivial⟩ ?_; clear hK K; try simp only [Act.put, List.setIfInBounds_toArray, List.set_cons_zero, List.set_cons_succ])
      (apply wpT_eff; simp only [List.getElem?_toArray, List.getElem?_cons_zero, List.getElem?_cons_succ]; rfl; rfl; intro K hK; go_simp)
      refine (prioritises_any _ _ _ _ _ _ rs o1 _ ((hr3.keep hH3).plain) hsm ho1.plain (by rw [← ho1.n_eq]; have := (orders_ok o1 hm_1).2; omega)).mono ?_
      rintro e w4 ⟨rfl, hf4⟩
      have hH4 := hH3.trans hf4.any
      have ht5 := ht4.keep hf4 (by simp)
      (refine hK.out _ _ ⟨(hH4.cell (p := ⟨w2.heap.size, 0, none⟩) l0 nin).trans c0, trivial⟩ ?_; clear hK K; try simp only [Act.put, List.setIfInBounds_toArray, List.set_cons_zero, List.set_cons_succ])
      iterate 4 first | (apply wpT_pure'; simp only [List.getElem?_toArray, List.getElem?_cons_zero, List.getElem?_cons_succ]; rfl; rfl; apply Exists.intro; refine ⟨?_, ?_⟩; rintro w' ⟨s1, _⟩; go_simp; with_reducible rfl; simp only [Act.put, List.setIfInBounds_toArray, List.set_cons_zero, List.set_cons_succ]) | (apply wpT_skip; simp only [List.getElem?_toArray, List.getElem?_cons_zero, List.getElem?_cons_succ]; rfl; rfl; simp only [Act.put, List.setIfInBounds_toArray, List.set_cons_zero, List.set_cons_succ])
      (apply wpT_eff; simp only [List.getElem?_toArray, List.getElem?_cons_zero, List.getElem?_cons_succ]; rfl; rfl; intro K hK; go_simp)
      refine (badOrder_any [] (w.heap.size + 1) _ _ (by simp) ht5 (by omega)).mono ?_
      rintro e w5 ⟨A2, n2, c2, o2, rfl, ho2, hm_2, ht6, hf5⟩
      have hH5 := hH4.trans hf5
      (refine hK.out _ _ ⟨(hH5.cell (p := ⟨w2.heap.size, 0, none⟩) l0 nin).trans c0, trivial⟩ ?_; clear hK K; try simp only [Act.put, List.setIfInBounds_toArray, List.set_cons_zero, List.set_cons_succ])
      (apply wpT_eff; simp only [List.getElem?_toArray, List.getElem?_cons_zero, List.getElem?_cons_succ]; rfl; rfl; intro K hK; go_simp)
      refine (prioritises_any _ _ _ _ _ _ rs o2 _ ((hr3.keep hH5).plain) hsm ho2.plain (by rw [← ho2.n_eq]; have := (badOrders_ok o2 hm_2).2; omega)).mono ?_
      rintro e w6 ⟨rfl, hf6⟩
      have hH6 := hH5.trans hf6.any
      have ht7 := ht6.keep hf6 (by simp)
      (refine hK.out _ _ ⟨(hH6.cell (p := ⟨w2.heap.size, 0, none⟩) l0 nin).trans c0, trivial⟩ ?_; clear hK K; try simp only [Act.put, List.setIfInBounds_toArray, List.set_cons_zero, List.set_cons_succ])
      iterate 6 first | (apply wpT_pure'; simp only [List.getElem?_toArray, List.getElem?_cons_zero, List.getElem?_cons_succ]; rfl; rfl; apply Exists.intro; refine ⟨?_, ?_⟩; rintro w' ⟨s1, _⟩; go_simp; with_reducible rfl; simp only [Act.put, List.setIfInBounds_toArray, List.set_cons_zero, List.set_cons_succ]) | (apply wpT_skip; simp only [List.getElem?_toArray, List.getElem?_cons_zero, List.getElem?_cons_succ]; rfl; rfl; simp only [Act.put, List.setIfInBounds_toArray, List.set_cons_zero, List.set_cons_succ])
      (apply wpT_eff; simp only [List.getElem?_toArray, List.getElem?_cons_zero, List.getElem?_cons_succ]; rfl; rfl; intro K hK; go_simp)
      refine (spoil_any [] (w.heap.size + 1) _ _ _ _ rs _ (by simp) ht7 (by omega) ((hr3.keep hH6).plain) hm1 (by omega) (fun r hr => by have := (hok.2 r hr).2.1; omega)).mono ?_
      rintro e w7 ⟨A3, n3, c3, rs3, rfl, hr7, hsm7, ht8, hf7⟩
      have hH7 := hH6.trans hf7
      (refine hK.out _ _ ⟨(hH7.cell (p := ⟨w2.heap.size, 0, none⟩) l0 nin).trans c0, trivial⟩ ?_; clear hK K; try simp only [Act.put, List.setIfInBounds_toArray, List.set_cons_zero, List.set_cons_succ])
      (apply wpT_eff; simp only [List.getElem?_toArray, List.getElem?_cons_zero, List.getElem?_cons_succ]; rfl; rfl; intro K hK; go_simp)
      refine (order_any [] (w.heap.size + 1) _ _ (by simp) ht8 (by omega)).mono ?_
      rintro e w8 ⟨A4, n4, c4, o4, rfl, ho4, hm_4, ht9, hf8⟩
      have hH8 := hH7.trans hf8
      (refine hK.out _ _ ⟨(hH8.cell (p := ⟨w2.heap.size, 0, none⟩) l0 nin).trans c0, trivial⟩ ?_; clear hK K; try simp only [Act.put, List.setIfInBounds_toArray, List.set_cons_zero, List.set_cons_succ])
      (apply wpT_eff; simp only [List.getElem?_toArray, List.getElem?_cons_zero, List.getElem?_cons_succ]; rfl; rfl; intro K hK; go_simp)
      refine (prioritises_any _ _ _ _ _ _ rs3 o4 _ ((hr7.keep hf8).plain) hsm7 ho4.plain (by rw [← ho4.n_eq]; have := (orders_ok o4 hm_4).2; omega)).mono ?_
      rintro e w9 ⟨rfl, hf9⟩
      have hH9 := hH8.trans hf9.any
      have ht10 := ht9.keep hf9 (by simp)
      (refine hK.out _ _ ⟨(hH9.cell (p := ⟨w2.heap.size, 0, none⟩) l0 nin).trans c0, trivial⟩ ?_; clear hK K; try simp only [Act.put, List.setIfInBounds_toArray, List.set_cons_zero, List.set_cons_succ])
      (apply wpT_pure'; simp only [List.getElem?_toArray, List.getElem?_cons_zero, List.getElem?_cons_succ]; rfl; rfl; apply Exists.intro; refine ⟨?_, ?_⟩; rintro w' ⟨s1, _⟩; go_simp; with_reducible rfl; simp only [Act.put, List.setIfInBounds_toArray, List.set_cons_zero, List.set_cons_succ])
      (apply wpT_last; simp only [List.getElem?_toArray, List.getElem?_cons_zero, List.getElem?_cons_succ]; rfl; rfl; go_simp)
      go_wp2_with fail
      go_roundw
      case rel => exact ⟨i + 1, by go_num, by omega, ht10.le (by omega), hG3.trans hH9⟩
      case measure => simp [intOf]; omega
    · have hge : decide ((i : Int) < 5) = false := by simp; omega
      have hbx := hb1.fr hG (by simp)
      have x0 := hbx.cellS (i := 0) rfl
      have x1 := hbx.lt
      have hFw : Fr [] w wr := (hF1.any.trans hG).drop (by omega)
      go_wp2_with fail
      refine (huge_any L n c rows _ (hr.keep hFw) hn HRL.out).mono ?_
      rintro e w2 ⟨b, rfl, hb, hf2⟩
      cases b with
      | true =>
        clear hb
        go_wp2_with fail
        go_ret
        exact ⟨rfl, hFw.trans hf2⟩
      | false =>
        obtain ⟨hb1', hb2'⟩ := hb rfl
        have hsm : Small rows := ⟨by omega, by omega⟩
        have hbx2 := hbx.fr hf2 (by simp)
        have x2 := hbx2.cellS (i := 0) rfl
        have x3 := hbx2.lt
        by_cases hp20 : p > 20
        · have hp' : (p : Int) > 20 := by omega
          clear hb
          go_wp2_with fail
          go_ret
          exact ⟨rfl, hFw.trans hf2⟩
        · have hp' : decide ((p : Int) > 20) = false := by simp; omega
          have hcon := prioritises_any L O n c p d rows o w2 ((hr.keep hFw).keep hf2) hsm ((ho.keep hFw).keep hf2) (by omega)
          have hsan := fun W => sane_any W
          clear hb
          go_wp2_with (first
            | (go_at_call 8; refine hcon.mono ?_; rintro e w3 ⟨rfl, hf3⟩)
            | (go_at_call 13; refine (hsan _).mono ?_; rintro e w4 ⟨rfl, hf4⟩))
          go_ret
          exact ⟨rfl, ((hFw.trans hf2).trans hf3).trans hf4⟩
end Go.Proofs.Ytfkpjnmngafnmaa
