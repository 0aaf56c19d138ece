/- Association lists; rising lists; loops over lists. -/
import Derived.Test.YtbcipfhhmkjigaaQF
set_option linter.unusedVariables false
set_option linter.unusedSimpArgs false
namespace Go.Proofs.Ytbcipfhhmkjigaa
open Go Go.Cf
variable {α β : Type}
/-! ### Rising lists of names -/
def Up (l : List (List Int)) : Prop := l.Pairwise fun x y => cmp3 x y < 0
theorem Up.ext : ∀ {a b : List (List Int)}, Up a → Up b → (∀ x, x ∈ a ↔ x ∈ b) → a = b
  | [], [], _, _, _ => rfl
  | [], y :: b, _, _, h => by have := (h y).2 (by simp); cases this
  | x :: a, [], _, _, h => by have := (h x).1 (by simp); cases this
  | x :: a, y :: b, ha, hb, h => by
    unfold Up at ha hb
    rw [List.pairwise_cons] at ha hb
    have hxy : x = y := by
      have h1 := (h x).1 (by simp)
      have h2 := (h y).2 (by simp)
      rcases List.mem_cons.1 h1 with e | h1
      · exact e
      rcases List.mem_cons.1 h2 with e | h2
      · exact e.symm
      have a1 := hb.1 x h1
      have a2 := ha.1 y h2
      have := cmp3_swap x y
      omega
    subst hxy
    rw [Up.ext ha.2 hb.2 (fun z => ?_)]
    have hz := h z
    simp only [List.mem_cons] at hz
    constructor
    · intro hm
      rcases hz.1 (.inr hm) with e | h2
      · subst e
        have := ha.1 z hm
        rw [cmp3_refl] at this
        omega
      · exact h2
    · intro hm
      rcases hz.2 (.inr hm) with e | h2
      · subst e
        have := hb.1 z hm
        rw [cmp3_refl] at this
        omega
      · exact h2
def Len32 (l : List (List Int)) : Prop := ∀ x ∈ l, x.length = 32
theorem sort_up {l : List (List Int)} (hl : Len32 l) (hn : l.Nodup) : Up (sortN (cmpSub 32) l) ∧ ∀ x, x ∈ sortN (cmpSub 32) l ↔ x ∈ l := by
  have hp := sortN_perm (cmpSub 32) l
  have hm : ∀ x, x ∈ sortN (cmpSub 32) l ↔ x ∈ l := fun x => hp.mem_iff
  refine ⟨?_, hm⟩
  have h1 := sortN_sorted (ordC_sub 32) l
  have h2 : (sortN (cmpSub 32) l).Nodup := hp.nodup_iff.2 hn
  have h3 : Len32 (sortN (cmpSub 32) l) := fun x hx => hl x ((hm x).1 hx)
  revert h1 h2 h3
  generalize sortN ((cmpSub ((32 : Nat) : Int))) l = s
  intro h1 h2 h3
  unfold Up
  induction s with
  | nil => exact List.Pairwise.nil
  | cons a s ih =>
    rw [List.pairwise_cons] at h1 ⊢
    rw [List.nodup_cons] at h2
    refine ⟨fun y hy => ?_, ih h1.2 h2.2 (fun x hx => h3 x (by simp [hx]))⟩
    have h4 := h1.1 y hy
    unfold leC cmpSub at h4
    have e1 : sub a 0 ((32 : Nat) : Int) = a := sub_all (h3 a (by simp))
    have e2 : sub y 0 ((32 : Nat) : Int) = y := sub_all (h3 y (by simp [hy]))
    rw [e1, e2] at h4
    have h5 := cmp3_swap y a
    have h6 : cmp3 a y ≠ 0 := fun e => h2.1 (by rw [cmp3_zero e]; exact hy)
    omega
/-- A name laid into a rising list, once. -/
def wins (x : List Int) : List (List Int) → List (List Int)
  | [] => [x]
  | y :: l => if lexLt y x then y :: wins x l else if y = x then y :: l else x :: y :: l
theorem wins_mem (x z : List Int) : ∀ l, z ∈ wins x l ↔ z = x ∨ z ∈ l
  | [] => by simp [wins]
  | y :: l => by
    unfold wins
    split
    · simp only [List.mem_cons, wins_mem x z l]
      constructor
      · rintro (h | h | h)
        · exact .inr (.inl h)
        · exact .inl h
        · exact .inr (.inr h)
      · rintro (h | h | h)
        · exact .inr (.inl h)
        · exact .inl h
        · exact .inr (.inr h)
    · split
      · next e => subst e; simp
      · simp
theorem wins_up {x : List Int} : ∀ {l : List (List Int)}, Up l → Up (wins x l)
  | [], _ => by simp [wins, Up]
  | y :: l, h => by
    unfold Up at h
    rw [List.pairwise_cons] at h
    unfold wins
    split
    · next hlt =>
      unfold Up
      rw [List.pairwise_cons]
      refine ⟨fun z hz => ?_, wins_up h.2⟩
      rcases (wins_mem x z l).1 hz with rfl | hz
      · rw [lexLt_cmp3] at hlt; simpa using hlt
      · exact h.1 z hz
    · split
      · exact List.pairwise_cons.2 h
      · next h1 h2 =>
        unfold Up
        rw [List.pairwise_cons]
        rw [lexLt_cmp3] at h1
        have hxy : cmp3 x y < 0 := by
          have a1 := cmp3_swap x y
          have a2 : cmp3 y x ≠ 0 := fun e => h2 (cmp3_zero e)
          simp at h1
          omega
        refine ⟨fun z hz => ?_, List.pairwise_cons.2 h⟩
        rcases List.mem_cons.1 hz with rfl | hz
        · exact hxy
        · have h3 := h.1 z hz
          have h4 := cmp3_trans (Int.le_of_lt hxy) (Int.le_of_lt h3)
          have h5 : cmp3 x z ≠ 0 := fun e => by
            have := cmp3_zero e
            subst this
            have := cmp3_swap x y
            omega
          omega
theorem wins_len {x : List Int} (hx : x.length = 32) {l : List (List Int)} (h : Len32 l) : Len32 (wins x l) := fun z hz => by
  rcases (wins_mem x z l).1 hz with rfl | hz
  · exact hx
  · exact h z hz
theorem sub32 {x : List Int} (h : x.length = 32) : sub x 0 32 = x := sub_all (n := 32) h
theorem wins_length (x : List Int) : ∀ l, (wins x l).length ≤ l.length + 1
  | [] => by simp [wins]
  | y :: l => by
    unfold wins
    have := wins_length x l
    split
    · simp; omega
    · split <;> simp
theorem ref17_With_is (l : List (List Int)) (x : List Int) (hl : Len32 l) (hx : x.length = 32) (hll : l.length ≤ 100000) (k : Nat) (hk : l.length < k) : cofferref17_With.f k l x = some (wins x l) := by
  have hmax : 100000 * 32 + 1000 ≤ maxB := by unfold maxB; omega
  have hloop : ∀ (n i k : Nat), n + i = l.length → n < k → ∃ j : Nat, cofferref17_With.l0 l x k i = some (j : Int) ∧ i ≤ j ∧ j ≤ l.length ∧ (∀ m, i ≤ m → m < j → lexLt (l.getD m []) x = true) ∧ (j < l.length → lexLt (l.getD j []) x = false) := by
    intro n
    induction n with
    | zero =>
      intro i k hi hk
      obtain ⟨q, rfl⟩ : ∃ q, k = q + 1 := ⟨k - 1, by omega⟩
      rw [cofferref17_With.l0, if_neg (by simp; omega)]
      exact ⟨i, by simp, Nat.le_refl _, by omega, fun m h1 h2 => by omega, fun h => by omega⟩
    | succ n ih =>
      intro i k hi hk
      obtain ⟨q, rfl⟩ : ∃ q, k = q + 1 := ⟨k - 1, by omega⟩
      have hlt : i < l.length := by omega
      have hg : l.getD i idR.zeroD = l.getD i [] := by simp [List.getD_eq_getElem?_getD, List.getElem?_eq_getElem hlt]
      have hm : (l.getD i []).length = 32 := hl _ (by rw [List.getD_eq_getElem?_getD, List.getElem?_eq_getElem hlt]; exact List.getElem_mem hlt)
      rw [cofferref17_With.l0, if_pos (by simp; omega), need_pos (by omega)]
      unfold cofferref9_Less.f
      simp only [Int.toNat_natCast, Option.bind_some]
      rw [hg, sub32 hm, sub32 hx]
      cases hlx : lexLt (l.getD i []) x with
      | false =>
        refine ⟨i, by simp, Nat.le_refl _, by omega, fun m h1 h2 => by omega, fun _ => hlx⟩
      | true =>
        rw [if_pos rfl, wrap_succ hlt (by omega)]
        obtain ⟨j, h1, h2, h3, h4, h5⟩ := ih (i + 1) q (by omega) (by omega)
        refine ⟨j, h1, by omega, h3, fun m a1 a2 => ?_, h5⟩
        rcases Nat.eq_or_lt_of_le a1 with e | e
        · subst e; exact hlx
        · exact h4 m (by omega) a2
  obtain ⟨j, h1, _, h3, h4, h5⟩ := hloop l.length 0 k (by omega) hk
  have hw : ∀ (j : Nat) (l : List (List Int)), j ≤ l.length → (∀ m, m < j → lexLt (l.getD m []) x = true) → (j < l.length → lexLt (l.getD j []) x = false) → wins x l = if j < l.length ∧ l.getD j [] = x then l else l.take j ++ [x] ++ l.drop j := by
    intro j
    induction j with
    | zero =>
      intro l hj _ h5
      cases l with
      | nil => simp [wins]
      | cons y l =>
        have := h5 (by simp)
        simp at this
        simp [wins, this]
    | succ j ih =>
      intro l hj h4 h5
      cases l with
      | nil => simp at hj
      | cons y l =>
        have h0 := h4 0 (by omega)
        simp at h0
        unfold wins
        rw [if_pos h0, ih l (by simpa using hj) (fun m hm => by have := h4 (m + 1) (by omega); simpa using this) (fun hh => by have := h5 (by simpa using hh); simpa using this)]
        simp only [List.length_cons, Nat.add_lt_add_iff_right, List.getD_cons_succ]
        split <;> simp
  rw [hw j l h3 (fun m hm => h4 m (Nat.zero_le _) hm) h5]
  unfold cofferref17_With.f
  rw [show ((0 : Nat) : Int) = 0 from rfl] at h1
  rw [h1]
  simp only [Option.bind_some]
  by_cases hj : j < l.length
  · have hg : l.getD j idR.zeroD = l.getD j [] := by simp [List.getD_eq_getElem?_getD, List.getElem?_eq_getElem hj]
    rw [if_pos (by simp; omega), need_pos (by omega)]
    simp only [Int.toNat_natCast, Option.bind_some, hg]
    by_cases e : l.getD j [] = x
    · rw [if_pos (decide_eq_true e), if_pos ⟨hj, e⟩]
    · rw [if_neg (by rw [decide_eq_true_eq]; exact e), if_neg (fun h => e h.2)]
      rw [need_pos (by omega), need_pos (by unfold fits; simp [sub]; omega), need_pos (by unfold fits; simp [sub]; omega), need_pos (by omega), need_pos (by unfold fits; simp [sub]; omega)]
      simp [sub]
  · rw [if_neg (by simp; omega), if_neg (fun h => hj h.1)]
    simp only [Option.bind_some, Bool.false_eq_true, if_false]
    rw [need_pos (by omega), need_pos (by unfold fits; simp [sub]; omega), need_pos (by unfold fits; simp [sub]; omega), need_pos (by omega), need_pos (by unfold fits; simp [sub]; omega)]
    simp [sub]
end Go.Proofs.Ytbcipfhhmkjigaa
