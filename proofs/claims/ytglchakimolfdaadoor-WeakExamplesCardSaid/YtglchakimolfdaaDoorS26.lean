/- law26.sane: weak.Classes by a run in the kernel at its one system, the rest by the contracts. -/
import Derived.Test.YtglchakimolfdaaDoorZk
import Derived.Test.YtglchakimolfdaaDoorG45
import Derived.Test.YtglchakimolfdaaDoorTb
import Derived.Test.YtglchakimolfdaaDoorMrc
import Derived.Test.YtglchakimolfdaaDoorG69
import Derived.Test.YtglchakimolfdaaDoorG47
import Derived.Test.YtglchakimolfdaaDoorMG
namespace Go.Proofs.YtglchakimolfdaaDoor
set_option linter.unusedVariables false
set_option linter.unusedSimpArgs false
open Go.RowKit
set_option maxRecDepth 100000
attribute [local go_sem] List.set_cons_zero List.set_cons_succ List.map_cons List.map_nil List.take_succ_cons List.take_zero List.drop_zero List.drop_succ_cons C.pl C.one List.all_cons List.all_nil Bool.and_true Nat.mul_one Int.toNat_natCast

def insK : List Ob := [.r ⟨24, 1, true, [.s 1 1, .s 2 1, .v (.slice none 0 0)]⟩, .r ⟨23, 2, true, [.v (.int .i64 0), .v (.int .i64 1)]⟩, .r ⟨23, 2, true, [.v (.int .i64 2), .v (.int .i64 2)]⟩]
theorem wclk_fc : FC Tryd.prog 7 [.a (.g [.s 0 3])] insK (fun r o => o = insK ∧ r = aInts [0, 0, 1]) :=
 runC_ok tbOk (n := 100000) rfl rfl rfl rfl (by kernel_rfl)
theorem wquk_fc : FC Tryd.prog 33 [aLts sK, aInts [0, 0, 1]] [] (fun r o => o = [.r ⟨27, 1, false, [.t 1 (tRows sQ)]⟩] ∧ r = .tup [.g [.t 1 (tRows sQ)], .c (.v (.int .i64 0))]) :=
 (quo_fc sK [0, 0, 1] sK_val rfl (by decide) (by decide)).mono fun r o ⟨B, hB, h⟩ => by
  rw [hB.uniq sK_B, sK_q, quO, if_pos (by decide)] at h
  exact h
set_option maxHeartbeats 1000000 in
theorem wcmk_fc : FC Tryd.prog 16 [.a (.g [.s 0 3])] insK (fun r o => o = [.d, .d, .d, .r ⟨27, 1, false, [.t 1 (tRows sQ)]⟩] ∧ r = .tup [.g [.t 1 (tRows sQ)], .c (.v (.int .i64 0))]) := by
 refine fc_intro Tryd.func16 rfl (by rw [Tryd.ntmps16]; simp) ?_
 rw [Tryd.ntmps16]
 simp only [enum, insK]
 have hq := wquk_fc
 simp only [aLts, aInts] at hq
 (refine wk0 ?_;(repeat clear hK K);repeat refine kq fun K hK=>?_)
 (refine aw_regionV [0, 1, 2] [(0, 1, 3), (1, 1, 2), (2, 2, 0), (3, 2, 0), (4, 0, 0), (5, 0, 0), (6, 2, 0), (7, 2, 0)] (by kernel_rfl) (by kernel_rfl) (by intro c st h; simp [ThenA, InBl, Ret] at h) ?_)
 (refine vk0 ?_; repeat clear hK K)
 (refine v_2 rfl rfl ?_; intro K1 hK1; refine stpX_call (ids := []) [0, 1, 2] (wclk_fc) rfl rfl (by simp only [go_sem]) (by kernel_rfl) rfl rfl rfl (by (simp only [List.map_append, List.append_nil, go_sem]) <;> rfl) (by (simp only [pkh, insK, go_sem]) <;> rfl) ?_ ?_)
 ·rintro _ _ ⟨rfl, rfl⟩ i o hi hl
  match i, hi with
  | 0, hi => cases hi; rfl
  | 1, hi => cases hi; rfl
  | 2, hi => cases hi; rfl
 rintro _ _ ⟨rfl, rfl⟩
 (simp only [aInts, aSets, insK, List.append_nil, List.nil_append, List.length_map, go_sem]; refine hK1 _ ?_; clear hK1 K1)
 (refine vk0 ?_; repeat clear hK K)
 refine v_le (le_sink (r := ⟨23, 2, true, cArcs [(0, 1)]⟩) (ts := tArcs [(0, 1)]) 0 0 1 1 (by decide) rfl rfl rfl rfl (show 0 < 2 by omega) rfl (fz_ca _)) ?_
 simp only [go_sem]
 refine v_le (le_sink (r := ⟨23, 2, true, cArcs [(2, 2)]⟩) (ts := tArcs [(2, 2)]) 0 1 2 1 (by decide) rfl rfl rfl rfl (show 0 < 2 by omega) rfl (fz_ca _)) ?_
 simp only [go_sem]
 refine v_le (le_nt 0 [2, 2, 2] rfl) ?_
 simp only [ntA, otC, go_sem]
 (refine v_le (le_frz (r := ⟨24, 1, true, cRows sK⟩) 0 (tRows sK) rfl (fz_cr _) (show 0 < (1 : Nat) by omega)) ?_; simp only [ST.frz, A0.frz, AV.frz, C.frz, Nat.le_refl, List.set_cons_zero, List.set_cons_succ, go_sem, show (tRows sK).take 3 = tRows sK from rfl, show (if 3 ≤ (tRows sK).length then C.t 1 (tRows sK) else C.u) = C.t 1 (tRows sK) from rfl])
 (refine v_2 rfl rfl ?_; intro K1 hK1; refine stpX_mono ?_; refine xv [] (hq) ?_ ?_)
 ·rintro _ _ ⟨rfl, rfl⟩ i o hi hl; simp at hl
 rintro _ _ ⟨rfl, rfl⟩
 (refine bkz ?_; clear hK1 K1)
 (refine vk0 ?_; repeat clear hK K)
 (refine v_3 rfl rfl rfl ?_; intro K1 hK1; refine stp_ev rfl ?_; simp only [go_sem, ST.put, setC, A0.cells]; (first | refine hK1 _ ?_ | refine andk (hK1 _ ?_)); clear hK1 K1)
 (refine v_3 rfl rfl rfl ?_; intro K1 hK1; refine stp_ev rfl ?_; simp only [go_sem]; (first | refine hK1 _ ?_ | refine andk (hK1 _ ?_)); clear hK1 K1)
 (refine vk0 ?_; repeat clear hK K)
 (refine wk0 ?_;(repeat clear hK K);repeat refine kq fun K hK=>?_)
 exact rpc0 [0, 1, 2, 4] Tryd.results16
set_option maxHeartbeats 1000000 in
theorem wchn_fc : FC Tryd.prog 17 [] [] (fun r o => o = [.r ⟨27, 1, false, [.s 3 3]⟩, .r ⟨23, 2, true, [.v (.int .i64 0), .v (.int .i64 1)]⟩, .r ⟨23, 2, true, [.v (.int .i64 2), .v (.int .i64 2)]⟩, .r ⟨24, 1, true, [.s 1 1, .s 2 1, .v (.slice none 0 0)]⟩] ∧ r = .a (.g [.s 3 3])) := by
 refine fc_intro Tryd.func17 rfl (by rw [Tryd.ntmps17]; simp) ?_
 rw [Tryd.ntmps17]
 simp only [enum]
 (refine wks0 ?_;(repeat clear hK K);repeat refine kq fun K hK=>?_)
 exact rqtc0 Tryd.results17
set_option maxHeartbeats 2000000 in
theorem sane26_fc : FC Tryd.prog 8 [] [] (fun r _ => r = .b true) := by
 refine fc_intro Tryd.func8 rfl (by rw [Tryd.ntmps8]; simp) ?_
 rw [Tryd.ntmps8]
 simp only [enum]
 have hsi := rints_fc [0, 0, 1] [0, 0, 1] (by decide) (by decide)
 have hsm := same_fc sQ (by decide) (by decide)
 simp only [aLts, aInts] at hsi hsm
 (refine wk0 ?_;(repeat clear hK K);repeat refine kq fun K hK=>?_)
 (refine ckz wchn_fc ?_; intro K1 hK1)
 rintro _ _ ⟨rfl, rfl⟩
 (refine bkz ?_; clear hK1 K1)
 (refine wk0 ?_;(repeat clear hK K);repeat refine kq fun K hK=>?_)
 (refine lst_cons rfl ?_; intro K1 hK1; refine stp_callσ (ids := []) [3, 1, 2] (wcmk_fc) rfl rfl (by simp only [go_sem]) (by first | assumption | kernel_rfl) rfl rfl (by (simp only [List.map_append, List.append_nil, go_sem]) <;> rfl) (by (simp only [pkh, insK, go_sem]) <;> rfl) ?_ ?_)
 ·rintro _ _ ⟨rfl, rfl⟩; rfl
 rintro _ _ ⟨rfl, rfl⟩
 (refine bkz ?_; clear hK1 K1)
 (refine wks0 ?_;(repeat clear hK K);repeat refine kq fun K hK=>?_)
 (refine lst_goU rfl rfl (by simp only [go_sem] <;> rfl) ?_; intro K1 hK1; refine (stp_call0 (ids := []) (wchn_fc) rfl rfl (by simp only [go_sem]) (by kernel_rfl) (by (simp only [List.append_nil, go_sem]) <;> rfl) ?_).stp)
 rintro _ _ ⟨rfl, rfl⟩
 (refine bkz ?_; clear hK1 K1)
 (refine wk0 ?_;(repeat clear hK K);repeat refine kq fun K hK=>?_)
 (refine lst_goU rfl rfl (by simp only [go_sem] <;> rfl) ?_; intro K1 hK1; refine stp_callσ (ids := []) [9, 7, 8] (wclk_fc) rfl rfl (by simp only [go_sem]) (by first | assumption | kernel_rfl) rfl rfl (by (simp only [List.map_append, List.append_nil, go_sem]) <;> rfl) (by (simp only [pkh, insK, go_sem]) <;> rfl) ?_ ?_)
 ·rintro _ _ ⟨rfl, rfl⟩; rfl
 rintro _ _ ⟨rfl, rfl⟩
 (simp only [aInts, aSets, insK, List.append_nil, List.nil_append, List.length_map, go_sem]; refine hK1 _ ?_; clear hK1 K1)
 (refine wks0 ?_;(repeat clear hK K);repeat refine kq fun K hK=>?_)
 (refine lst_le (le_frz (r := ⟨3, 1, true, cInts [0, 0, 1]⟩) 10 (tInts [0, 0, 1]) rfl (fz_c _) (show 0 < (1 : Nat) by omega)) ?_; simp only [ST.frz, A0.frz, AV.frz, C.frz, Nat.le_refl, List.set_cons_zero, List.set_cons_succ, go_sem, show (tInts [0, 0, 1]).take 3 = tInts [0, 0, 1] from rfl, show (if 3 ≤ (tInts [0, 0, 1]).length then C.t 1 (tInts [0, 0, 1]) else C.u) = C.t 1 (tInts [0, 0, 1]) from rfl])
 (refine lst_goU rfl rfl (by simp only [go_sem] <;> rfl) ?_; intro K1 hK1; refine (stp_call0 (ids := []) (hsi) rfl rfl (by simp only [go_sem]) (by kernel_rfl) (by (simp only [List.append_nil, go_sem]) <;> rfl) ?_).stp)
 rintro _ _ ⟨rfl, rfl⟩
 (refine bkz ?_; clear hK1 K1)
 (refine wks0 ?_;(repeat clear hK K);repeat refine kq fun K hK=>?_)
 refine lst_le (le_sink (r := ⟨23, 2, true, cArcs [(2, 1)]⟩) (ts := tArcs [(2, 1)]) 12 0 11 1 (by decide) rfl rfl rfl rfl (show 0 < 2 by omega) rfl (fz_ca _)) ?_
 simp only [go_sem]
 refine lst_le (le_nt 12 [2, 2] rfl) ?_
 simp only [ntA, otC, go_sem]
 (refine lst_le (le_frz (r := ⟨24, 1, true, cRows sQ⟩) 12 (tRows sQ) rfl (fz_cr _) (show 0 < (1 : Nat) by omega)) ?_; simp only [ST.frz, A0.frz, AV.frz, C.frz, Nat.le_refl, List.set_cons_zero, List.set_cons_succ, go_sem, show (tRows sQ).take 2 = tRows sQ from rfl, show (if 2 ≤ (tRows sQ).length then C.t 1 (tRows sQ) else C.u) = C.t 1 (tRows sQ) from rfl])
 (refine lst_goU rfl rfl (by simp only [go_sem] <;> rfl) ?_; intro K1 hK1; refine (stp_call0 (ids := []) (hsm) rfl rfl (by simp only [go_sem]) (by kernel_rfl) (by (simp only [List.append_nil, go_sem]) <;> rfl) ?_).stp)
 rintro _ _ ⟨rfl, rfl⟩
 (refine bkz ?_; clear hK1 K1)
 (refine wk0 ?_;(repeat clear hK K);repeat refine kq fun K hK=>?_)
 exact rqc0 Tryd.results8
end Go.Proofs.YtglchakimolfdaaDoor
