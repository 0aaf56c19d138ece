/- Plain laws on places, association lists, objects by their names. -/
import Derived.Test.YtbcipfhhmkjigaaPT
import Derived.Test.YtbcipfhhmkjigaaQA
set_option linter.unusedVariables false
set_option linter.unusedSimpArgs false
namespace Go.Proofs.Ytbcipfhhmkjigaa
open Go Go.Cf
theorem wrap_succ {i n : Nat} (h : i < n) (hn : n ≤ maxB) : IntKind.i64.wrap ((i : Int) + 1) = ((i + 1 : Nat) : Int) := by
  unfold maxB at hn; rw [wrapI (by omega) (by omega)]; omega
theorem wrap_pred {i n : Nat} (h : i < n) (h0 : 0 < i) (hn : n ≤ maxB) : IntKind.i64.wrap ((i : Int) - 1) = ((i - 1 : Nat) : Int) := by
  unfold maxB at hn; rw [wrapI (by omega) (by omega)]; omega
variable {α β : Type}

section
variable [DecidableEq α]
theorem mget_mset (l : List (α × β)) (k x : α) (v : β) : mget (mset l k v) x = if x = k then some v else mget l x := by
  induction l with
  | nil => simp [mset, mget]
  | cons p l ih =>
    unfold mset
    by_cases h : k = p.1
    · rw [if_pos h]
      subst h
      unfold mget
      by_cases h2 : x = p.1 <;> simp [h2]
    · rw [if_neg h]
      unfold mget
      rw [ih]
      by_cases h2 : x = p.1
      · have : ¬ x = k := fun e => h (e.symm.trans h2)
        simp [h2, this]
        intro e; exact absurd e.symm h
      · simp [h2]
theorem mget_isSome (l : List (α × β)) (x : α) : (mget l x).isSome = true ↔ x ∈ l.map (·.1) := by
  induction l with
  | nil => simp [mget]
  | cons p l ih =>
    unfold mget
    by_cases h : x = p.1
    · simp [h]
    · rw [if_neg h, ih]; simp [h]
theorem keys_mset (l : List (α × β)) (k : α) (v : β) : (mset l k v).map (·.1) = if k ∈ l.map (·.1) then l.map (·.1) else l.map (·.1) ++ [k] := by
  induction l with
  | nil => simp [mset]
  | cons p l ih =>
    unfold mset
    by_cases h : k = p.1
    · rw [if_pos h]; simp [h]
    · rw [if_neg h, List.map_cons, ih]
      by_cases h2 : k ∈ l.map (·.1)
      · rw [if_pos h2, if_pos (by simp at h2 ⊢; exact .inr h2)]; rfl
      · rw [if_neg h2, if_neg (by simp [h] at h2 ⊢; exact h2)]; rfl
theorem nodup_mset {l : List (α × β)} {k : α} {v : β} (h : (l.map (·.1)).Nodup) : ((mset l k v).map (·.1)).Nodup := by
  rw [keys_mset]
  split
  · exact h
  · next hn =>
    rw [List.nodup_append]
    refine ⟨h, by simp, fun a ha b hb => ?_⟩
    simp at hb
    subst hb
    intro e
    subst e
    exact hn ha
theorem mget_mem {l : List (α × β)} (h : (l.map (·.1)).Nodup) {p : α × β} (hp : p ∈ l) : mget l p.1 = some p.2 := by
  induction l with
  | nil => cases hp
  | cons q l ih =>
    rw [List.map_cons, List.nodup_cons] at h
    unfold mget
    rcases List.mem_cons.1 hp with rfl | hp
    · simp
    · rw [if_neg (fun e => h.1 (by rw [← e]; exact List.mem_map.2 ⟨p, hp, rfl⟩))]
      exact ih h.2 hp
end
abbrev Objs := List Api_Object
/-- The bytes under a name: the first object's. -/
def dat (l : Objs) (x : List Int) : Option (List Int) := (l.find? fun o => decide (o.Of = x)).map (·.Data)
theorem dat_mem {l : Objs} {x d : List Int} (h : dat l x = some d) : ∃ o ∈ l, o.Of = x ∧ o.Data = d := by
  unfold dat at h
  obtain ⟨o, h1, h2⟩ := Option.map_eq_some_iff.1 h
  exact ⟨o, List.mem_of_find?_eq_some h1, by have := List.find?_some h1; simpa using this, h2⟩
theorem dat_isSome {l : Objs} {x : List Int} : (dat l x).isSome = true ↔ ∃ o ∈ l, o.Of = x := by
  unfold dat
  rw [Option.isSome_map, List.find?_isSome]
  simp
end Go.Proofs.Ytbcipfhhmkjigaa
