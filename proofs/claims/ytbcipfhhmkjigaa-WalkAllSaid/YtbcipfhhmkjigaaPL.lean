/- slices.SortFunc at this program: the shelf's contract in the library's words. -/
import Derived.Test.YtbcipfhhmkjigaaPT
import Derived.Test.YtbcipfhhmkjigaaPS
import Derived.Test.YtbcipfhhmkjigaaCfF
set_option linter.unusedVariables false
open Go Go.Cf Go.Proofs Go.RowKit Go.Shelf Go.Sort Go.Lib
namespace Go.Proofs
namespace Ytbcipfhhmkjigaa
theorem ty29'' : TyOk Try.prog 29 (rArr 32 (rInt .u8)) 32 := ty_of (by kernel_rfl) Try.underlying29 rfl
theorem sorts39 : SortsK Try.prog 39 40 32 := by
  intro α _ enc hk h1 cf hO blk off cap d w hcmp hH hblk hsz
  have eg : ∀ args w, (callFunc 40 args).run Try.prog w = .ok (.enter 40 args) w := enters_of Try.func40 (by kernel_rfl) rfl
  exact AnyQ.slices_SortFunc Try.sort39 32 ty29''.run_agg ty29''.run_size enc hk h1 cf hO 40 #[] blk off cap d w eg hcmp hH hblk hsz
theorem sortsNone39 : SortsNone Try.prog 39 := by
  intro p cap fv w
  exact AnyF.slices_SortFunc_none { Try.sort39 with } p cap fv w
#print axioms sorts39
#print axioms sortsNone39
end Ytbcipfhhmkjigaa
end Go.Proofs
