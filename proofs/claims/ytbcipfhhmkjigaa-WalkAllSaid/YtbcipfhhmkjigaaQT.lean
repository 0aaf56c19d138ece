/- What a folder holds. -/
import Derived.Test.YtbcipfhhmkjigaaQF
set_option linter.unusedVariables false
set_option linter.unusedSimpArgs false
namespace Go.Proofs.Ytbcipfhhmkjigaa
open Go Go.Cf
def T (b : List Int) : List Api_Item := (tkR (tk b)).1
theorem T_len (b : List Int) : (T b).length ≤ 64 := by
  unfold T tkR tk
  split
  · next l h =>
    split at h
    · cases h
    · split at h
      · cases h
      · split at h
        · cases h
        · split at h
          · next l' hits =>
            split at h
            · next hm => cases h; exact (may_item hm).1
            · cases h
          · cases h
  · simp
theorem T_id {b : List Int} (hb : IsB b) : ∀ i ∈ T b, i.Of.length = 32 := by
  unfold T tkR tk
  split
  · next l h =>
    split at h
    · cases h
    · split at h
      · cases h
      · split at h
        · cases h
        · split at h
          · next l' hits =>
            split at h
            · cases h
              exact fun i hi => ((its_enc _ ((hb.drop 2).drop _) hits).2.2.2 i hi).2.1
            · cases h
          · cases h
  · intro i hi; cases hi
theorem T_may (b : List Int) : ∀ i ∈ T b, i.Name.length ≤ 64 ∧ (i.Kind = 1 ∨ i.Kind = 2) := by
  unfold T tkR tk
  split
  · next l h =>
    split at h
    · cases h
    · split at h
      · cases h
      · split at h
        · cases h
        · split at h
          · next l' hits =>
            split at h
            · next hm => cases h; exact fun i hi => ⟨((may_item hm).2 i hi).1, ((may_item hm).2 i hi).2.2⟩
            · cases h
          · cases h
  · intro i hi; cases hi
end Go.Proofs.Ytbcipfhhmkjigaa
