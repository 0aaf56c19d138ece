/- Names of the seat's that several texts use. -/
import Derived.Test.YtbcipfhhmkjigaaPT
import Derived.Test.YtbcipfhhmkjigaaCfK
set_option linter.unusedVariables false
open Go Go.Cf Go.Proofs Go.RowKit
namespace Go.Proofs.Ytbcipfhhmkjigaa
abbrev idR : Rep (List Int) := rArr 32 (rInt .u8)
theorem keyAt : KeyAt Try.prog 29 idR := KeyAt.ints Try.underlying29 Try.underlying5 ty5
theorem ty23v : TyOk Try.prog 23 (rVal (.slice none 0 0) rfl) 24 := ty_of (by kernel_rfl) Try.underlying23 rfl
theorem hfn39 : HasFn Try.prog 39 := ⟨Try.f39, Try.func39, by decide, _, rfl⟩
end Go.Proofs.Ytbcipfhhmkjigaa
