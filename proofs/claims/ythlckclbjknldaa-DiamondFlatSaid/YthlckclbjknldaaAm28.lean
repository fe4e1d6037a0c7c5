/- The shelf's SortFunc at this seat, in the form that Am22 asks for. -/
import Derived.Test.YthlckclbjknldaaMH
import Derived.Test.YthlckclbjknldaaShlf
import Derived.Shelf.SlSortCmp.NoneTotal
namespace Go.Proofs.Ythlckclbjknldaa
set_option linter.unusedVariables false
set_option linter.unusedSimpArgs false
open Go.RowKit Go.Shelf Go.Sort

theorem sortC_sets : SortC Try.prog 42 := fun α _ enc h1 cf hO g cb blk off cap d w eg hcmp hH hblk hsz => Any.slices_SortFunc Try.sortSets enc h1 cf hO g cb blk off cap d w eg hcmp hH hblk hsz
theorem sortC0_sets : SortC0 Try.prog 42 := fun p cap fv w => AnyF.slices_SortFunc_none (P := Try.prog) (ρ := Try.sortSets_ren) { Try.sortSets with } p cap fv w
/-- the program's Minimal, its result frozen -/
theorem dminT_fc (L : List (List Int)) (hn : L.length ≤ 1000000) (hb : ∀ x ∈ L, x.length ≤ 100000000) : FC Try.prog 27 [aSets L] [] (fun r o => o = [] ∧ r = aSets (minR L)) := (dmin_fc sortC_sets sortC0_sets L hn hb).frz (fz_sets _) Nat.zero_lt_one (by rw [tSets_len, Nat.mul_one])
end Go.Proofs.Ythlckclbjknldaa
