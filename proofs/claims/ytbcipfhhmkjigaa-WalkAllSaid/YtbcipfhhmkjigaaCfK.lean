/- Lists in order. No program in sight. -/
import Derived.Test.YtbcipfhhmkjigaaCfJ
set_option linter.unusedVariables false
set_option linter.unusedSimpArgs false
namespace Go.Cf
open Go Go.RowKit Go.Sort
variable {α β γ δ : Type}
theorem cmp3_refl : ∀ a : List Int, cmp3 a a = 0
  | [] => rfl
  | x :: a => by simp [cmp3, cmp3_refl a]
theorem cmp3_swap : ∀ a b : List Int, cmp3 b a = - cmp3 a b
  | [], [] => rfl
  | [], _ :: _ => rfl
  | _ :: _, [] => rfl
  | x :: a, y :: b => by
    simp only [cmp3]
    by_cases h : x = y
    · subst h; simp [cmp3_swap a b]
    · have h' : ¬ y = x := fun e => h e.symm
      simp only [h, h', if_false]
      by_cases h1 : x < y
      · have : ¬ y < x := by omega
        simp [h1, this]
      · have : y < x := by omega
        simp [h1, this]
theorem cmp3_zero : ∀ {a b : List Int}, cmp3 a b = 0 → a = b
  | [], [], _ => rfl
  | [], _ :: _, h => by cases h
  | _ :: _, [], h => by cases h
  | x :: a, y :: b, h => by
    simp only [cmp3] at h
    by_cases e : x = y
    · subst e; simp at h; rw [cmp3_zero h]
    · simp only [e, if_false] at h
      split at h <;> cases h
theorem cmp3_trans : ∀ {a b c : List Int}, cmp3 a b ≤ 0 → cmp3 b c ≤ 0 → cmp3 a c ≤ 0
  | [], _, [], _, _ => by simp [cmp3]
  | [], _, _ :: _, _, _ => by simp [cmp3]
  | _ :: _, [], _, h, _ => by simp [cmp3] at h
  | _ :: _, _ :: _, [], _, h => by simp [cmp3] at h
  | x :: a, y :: b, z :: c, h1, h2 => by
    simp only [cmp3] at h1 h2 ⊢
    by_cases e1 : x = y
    · subst e1
      simp only [if_true] at h1
      by_cases e2 : x = z
      · subst e2; simp only [if_true] at h2 ⊢; exact cmp3_trans h1 h2
      · simp only [e2, if_false] at h2 ⊢; exact h2
    · simp only [e1, if_false] at h1
      have hxy : x < y := Classical.byContradiction fun h => by simp [h] at h1
      by_cases e2 : y = z
      · subst e2
        have : x ≠ y := by omega
        simp [this, hxy]
      · simp only [e2, if_false] at h2
        have hyz : y < z := Classical.byContradiction fun h => by simp [h] at h2
        have h3 : x ≠ z := by omega
        have h4 : x < z := by omega
        simp [h3, h4]
/-- x is not behind y. -/
def leC (c : β → β → Int) (x y : β) : Prop := ¬ c y x < 0
theorem le_cmp3 {a b : List Int} : leC cmp3 a b ↔ cmp3 a b ≤ 0 := by
  unfold leC
  have := cmp3_swap a b
  omega
/-- An order of names. -/
structure OrdC (c : β → β → Int) (S : β → Prop) : Prop where
  swap : ∀ x y, c y x = - c x y
  zero : ∀ x y, S x → S y → c x y = 0 → x = y
  trans : ∀ x y z, c x y ≤ 0 → c y z ≤ 0 → c x z ≤ 0
theorem OrdC.le {c : β → β → Int} {S : β → Prop} (h : OrdC c S) {x y : β} : leC c x y ↔ c x y ≤ 0 := by
  unfold leC; have := h.swap x y; omega
theorem OrdC.swo {c : β → β → Int} {S : β → Prop} (h : OrdC c S) : SWO (fun x y => decide (c x y < 0)) where
  irrefl := fun x => by have := h.swap x x; simp; omega
  trans := fun x y z h1 h2 => by
    simp only [decide_eq_true_eq] at *
    have h3 := h.trans x y z (by omega) (by omega)
    have h4 : c x z ≠ 0 := fun e => by
      have := h.swap x z
      have h5 := h.trans z x y (by omega) (by omega)
      have := h.swap y z
      omega
    omega
  ntrans := fun x y z h1 h2 => by
    simp only [decide_eq_false_iff_not] at *
    have e1 := h.swap x y; have e2 := h.swap y z; have e3 := h.swap x z
    have := h.trans z y x (by omega) (by omega)
    omega
theorem ordC_cmp3 : OrdC cmp3 (fun _ => True) := ⟨cmp3_swap, fun _ _ _ _ h => cmp3_zero h, fun _ _ _ h k => cmp3_trans h k⟩
theorem insN_perm (c : β → β → Int) (x : β) : ∀ l, (insN c x l).Perm (x :: l)
  | [] => List.Perm.refl _
  | y :: l => by
    unfold insN
    split
    · exact List.Perm.refl _
    · exact ((insN_perm c x l).cons y).trans (List.Perm.swap x y l)
theorem sortN_perm (c : β → β → Int) : ∀ l, (sortN c l).Perm l
  | [] => List.Perm.refl _
  | x :: l => (insN_perm c x _).trans ((sortN_perm c l).cons x)
theorem insN_sorted {c : β → β → Int} {S : β → Prop} (h : OrdC c S) (x : β) : ∀ {l : List β}, l.Pairwise (leC c) → (insN c x l).Pairwise (leC c)
  | [], _ => by simp [insN]
  | y :: l, hp => by
    rw [List.pairwise_cons] at hp
    unfold insN
    split
    · next hlt =>
      rw [List.pairwise_cons]
      refine ⟨fun z hz => ?_, List.pairwise_cons.2 hp⟩
      rcases List.mem_cons.1 hz with rfl | hz
      · exact h.le.2 (by omega)
      · exact h.le.2 (h.trans x y z (by omega) (h.le.1 (hp.1 z hz)))
    · next hge =>
      rw [List.pairwise_cons]
      refine ⟨fun z hz => ?_, insN_sorted h x hp.2⟩
      rcases List.mem_cons.1 ((insN_perm c x l).mem_iff.1 hz) with rfl | hz
      · exact hge
      · exact hp.1 z hz
theorem sortN_sorted {c : β → β → Int} {S : β → Prop} (h : OrdC c S) : ∀ l : List β, (sortN c l).Pairwise (leC c)
  | [] => List.Pairwise.nil
  | x :: l => insN_sorted h x (sortN_sorted h l)
theorem sorted_unique {c : β → β → Int} {S : β → Prop} (h : OrdC c S) : ∀ {l l' : List β}, (∀ x ∈ l, S x) → l.Perm l' → l.Pairwise (leC c) → l'.Pairwise (leC c) → l = l'
  | [], l', _, hp, _, _ => by have := hp.length_eq; simp at this; exact (List.length_eq_zero_iff.1 this.symm).symm
  | x :: l, [], _, hp, _, _ => by have := hp.length_eq; simp at this
  | x :: l, y :: l', hS, hp, h1, h2 => by
    have hxy : x = y := by
      rw [List.pairwise_cons] at h1 h2
      have hx : x ∈ y :: l' := hp.mem_iff.1 (by simp)
      have hy : y ∈ x :: l := hp.mem_iff.2 (by simp)
      rcases List.mem_cons.1 hx with e | hx'
      · exact e
      rcases List.mem_cons.1 hy with e | hy'
      · exact e.symm
      have a1 := h.le.1 (h1.1 y hy')
      have a2 := h.le.1 (h2.1 x hx')
      have := h.swap x y
      exact h.zero x y (hS x (by simp)) (hS y hy) (by omega)
    subst hxy
    rw [sorted_unique h (fun z hz => hS z (by simp [hz])) ((List.perm_cons x).1 hp) (List.pairwise_cons.1 h1).2 (List.pairwise_cons.1 h2).2]
theorem rising_le {c : β → β → Int} {l : List β} : Rising c l ↔ l.Pairwise (leC c) := Iff.rfl
theorem sort_is {c : β → β → Int} {S : β → Prop} (h : OrdC c S) {l l' : List β} (hS : ∀ x ∈ l, S x) (hp : l'.Perm l) (hr : Rising c l') : l' = sortN c l :=
  sorted_unique h (fun x hx => hS x (hp.mem_iff.1 hx)) (hp.trans (sortN_perm c l).symm) hr (sortN_sorted h l)
/-- Names of n bytes, held against each other. -/
def cmpSub (n : Int) (x y : List Int) : Int := cmp3 (sub x 0 n) (sub y 0 n)
theorem sub_all {x : List Int} {n : Nat} (h : x.length = n) : sub x 0 n = x := by
  unfold sub; simp [← h]
theorem ordC_sub (n : Nat) : OrdC (cmpSub n) (fun x => x.length = n) :=
  ⟨fun x y => cmp3_swap _ _, fun x y hx hy h => by unfold cmpSub at h; rw [sub_all hx, sub_all hy] at h; exact cmp3_zero h, fun _ _ _ h k => cmp3_trans h k⟩
end Go.Cf
