/- The law WeakExamples. -/
import Derived.Test.YtglchakimolfdaaDoorZk
import Derived.Test.YtglchakimolfdaaDoorWey
import Derived.Test.YtglchakimolfdaaDoorS26
namespace Go.Proofs.YtglchakimolfdaaDoor
set_option linter.unusedVariables false
set_option linter.unusedSimpArgs false
open Go.RowKit
set_option maxRecDepth 100000
attribute [local go_sem] List.set_cons_zero List.set_cons_succ List.map_cons List.map_nil List.take_succ_cons List.take_zero List.drop_zero List.drop_succ_cons C.pl C.one List.all_cons List.all_nil Bool.and_true Nat.mul_one Int.toNat_natCast

set_option maxHeartbeats 2000000 in
theorem wexm_fc : FC Tryd.prog 3 [] [] (fun r _ => r = .b true) := by
 refine fc_intro Tryd.func3 rfl (by rw [Tryd.ntmps3]; simp) ?_
 rw [Tryd.ntmps3]
 simp only [enum]
 have hsi := rints_fc [0, 1, 2, 3] [0, 1, 2, 3] (by decide) (by decide)
 simp only [aInts] at hsi
 (refine wks0 ?_;(repeat clear hK K);repeat refine kq fun K hK=>?_)
 (refine lst_cons rfl ?_; intro K1 hK1; refine stp_callσ (ids := []) [1, 0, 4, 3] (weLs_fc) rfl rfl (by simp only [go_sem]) (by first | assumption | kernel_rfl) rfl rfl (by (simp only [List.map_append, List.append_nil, go_sem]) <;> rfl) (by (simp only [pkh, inLs, go_sem]) <;> rfl) ?_ ?_)
 ·rintro _ _ ⟨rfl, rfl⟩; rfl
 rintro _ _ ⟨rfl, rfl⟩
 (simp only [aInts, aSets, inLs, List.append_nil, List.nil_append, List.length_map, go_sem]; refine hK1 _ ?_; clear hK1 K1)
 (refine wk1 @Bool.not_false ?_;(repeat clear hK K);repeat refine kq fun K hK=>?_)
 (refine lst_goU rfl rfl (by simp only [go_sem] <;> rfl) ?_; intro K1 hK1; refine stp_callσ (ids := []) [4, 3] (weSs_fc) rfl rfl (by simp only [go_sem]) (by first | assumption | kernel_rfl) rfl rfl (by (simp only [List.map_append, List.append_nil, go_sem]) <;> rfl) (by (simp only [pkh, inSs, go_sem]) <;> rfl) ?_ ?_)
 ·rintro _ _ ⟨rfl, rfl⟩; rfl
 rintro _ _ ⟨rfl, rfl⟩
 (simp only [aInts, aSets, inSs, List.append_nil, List.nil_append, List.length_map, go_sem]; refine hK1 _ ?_; clear hK1 K1)
 (refine wk0 ?_;(repeat clear hK K);repeat refine kq fun K hK=>?_)
 (refine lst_goU rfl rfl (by simp only [go_sem] <;> rfl) ?_; intro K1 hK1; refine stp_callσ (ids := []) [9, 6, 7, 8] (wcCh_fc) rfl rfl (by simp only [go_sem]) (by first | assumption | kernel_rfl) rfl rfl (by (simp only [List.map_append, List.append_nil, go_sem]) <;> rfl) (by (simp only [pkh, inCh, go_sem]) <;> rfl) ?_ ?_)
 ·rintro _ _ ⟨rfl, rfl⟩; rfl
 rintro _ _ ⟨rfl, rfl⟩
 (simp only [aInts, aSets, inCh, aInts, List.append_nil, List.nil_append, List.length_map, go_sem]; refine hK1 _ ?_; clear hK1 K1)
 (refine wks0 ?_;(repeat clear hK K);repeat refine kq fun K hK=>?_)
 (refine lst_le (le_frz (r := ⟨3, 1, true, cInts [0, 1, 2, 3]⟩) 11 (tInts [0, 1, 2, 3]) rfl (fz_c _) (show 0 < (1 : Nat) by omega)) ?_; simp only [ST.frz, A0.frz, AV.frz, C.frz, Nat.le_refl, List.set_cons_zero, List.set_cons_succ, go_sem, show (tInts [0, 1, 2, 3]).take 4 = tInts [0, 1, 2, 3] from rfl, show (if 4 ≤ (tInts [0, 1, 2, 3]).length then C.t 1 (tInts [0, 1, 2, 3]) else C.u) = C.t 1 (tInts [0, 1, 2, 3]) from rfl])
 (refine lst_goU rfl rfl (by simp only [go_sem] <;> rfl) ?_; intro K1 hK1; refine (stp_call0 (ids := []) (hsi) rfl rfl (by simp only [go_sem]) (by kernel_rfl) (by (simp only [List.append_nil, go_sem]) <;> rfl) ?_).stp)
 rintro _ _ ⟨rfl, rfl⟩
 (refine bkz ?_; clear hK1 K1)
 (refine wk0 ?_;(repeat clear hK K);repeat refine kq fun K hK=>?_)
 (refine lst_goU rfl rfl (by simp only [go_sem] <;> rfl) ?_; intro K1 hK1; refine (stp_call0 (ids := []) (sane26_fc) rfl rfl (by simp only [go_sem]) (by kernel_rfl) (by (simp only [List.append_nil, go_sem]) <;> rfl) ?_).stp)
 rintro _ _ rfl
 (refine bkz ?_; clear hK1 K1)
 (refine wk0 ?_;(repeat clear hK K);repeat refine kq fun K hK=>?_)
 exact rqc0 Tryd.results3
end Go.Proofs.YtglchakimolfdaaDoor
