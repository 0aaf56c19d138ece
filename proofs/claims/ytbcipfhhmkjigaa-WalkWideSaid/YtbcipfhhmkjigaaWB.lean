/- The law of wide trees, in plain words. -/
import Derived.Test.YtbcipfhhmkjigaaW1
import Derived.Test.YtbcipfhhmkjigaaW2
import Derived.Test.YtbcipfhhmkjigaaW3
set_option linter.unusedVariables false
set_option linter.unusedSimpArgs false
namespace Go.Proofs.Ytbcipfhhmkjigaa
open Go Go.Cf
def cofferlaw17_WalkWide.Pure : Prop := ∀ (a0 : Int) (a1 : Int), (rInt .i64).wf a0 → (rInt .i64).wf a1 → ∃ k, cofferlaw17_WalkWide.f k a0 a1 = some true
theorem WalkWide_pure : cofferlaw17_WalkWide.Pure := by
  intro a0 a1 _ _
  obtain ⟨p, hp, hp2⟩ := Place_is a0 7 (by omega) (by omega)
  obtain ⟨s, hs, hs2⟩ := Place_is a1 8 (by omega) (by omega)
  refine ⟨8000, ?_⟩
  have hp7 : p < 7 := by omega
  have hs8 : s < 8 := by omega
  match s, hs8, hs with
  | 0, h, hs => exact wide_true h made1 p hp7 a0 a1 hp hs
  | 1, h, hs => exact wide_true h made2 p hp7 a0 a1 hp hs
  | 2, h, hs => exact wide_true h made3 p hp7 a0 a1 hp hs
  | 3, h, hs => exact wide_true h made4 p hp7 a0 a1 hp hs
  | 4, h, hs => exact wide_true h made5 p hp7 a0 a1 hp hs
  | 5, h, hs => exact wide_true h made6 p hp7 a0 a1 hp hs
  | 6, h, hs => exact wide_true h made7 p hp7 a0 a1 hp hs
  | 7, h, hs => exact wide_true h made8 p hp7 a0 a1 hp hs
end Go.Proofs.Ytbcipfhhmkjigaa
