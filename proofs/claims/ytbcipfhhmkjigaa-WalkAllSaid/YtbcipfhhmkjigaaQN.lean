/- Finding an object, lists held against each other, lists that are not too great. -/
import Derived.Test.YtbcipfhhmkjigaaQG
set_option linter.unusedVariables false
set_option linter.unusedSimpArgs false
namespace Go.Proofs.Ytbcipfhhmkjigaa
open Go Go.Cf
/-- What comes in is well formed, and not too great. -/
structure Wf (l : Objs) : Prop where
  data : ∀ o ∈ l, IsB o.Data ∧ o.Data.length ≤ 5000
  id : ∀ o ∈ l, o.Of.length = 32
  len : l.length ≤ 40
theorem objs_wf {l : Objs} (h : (rSl 56 rApi_Object).wf l) : ∀ o ∈ l, IsB o.Data ∧ o.Of.length = 32 := fun o ho => by
  have h1 := (wf_sl h).2.2 o ho
  have h2 := wf_prod (wf_map h1)
  refine ⟨fun b hb => wf_u8 ((wf_sl h2.2).2.2 b hb), (wf_arr h2.1).1⟩
theorem light_wf {l : Objs} {m : Nat} (hm : m ≤ 40) (h : (rSl 56 rApi_Object).wf l) (hl : l.length ≤ m ∧ ∀ o ∈ l, o.Data.length ≤ 5000) : Wf l :=
  ⟨fun o ho => ⟨(objs_wf h o ho).1, hl.2 o ho⟩, fun o ho => (objs_wf h o ho).2, by omega⟩
/-- The place of a name: the first object's. -/
def pl (l : Objs) (x : List Int) : Option Nat := l.findIdx? fun o => decide (o.Of = x)
theorem pl_some {l : Objs} {x : List Int} {j : Nat} (h : pl l x = some j) : ∃ hj : j < l.length, l[j].Of = x ∧ dat l x = some l[j].Data := by
  unfold pl at h
  obtain ⟨hj, h1, h2⟩ := List.findIdx?_eq_some_iff_getElem.1 h
  have h1 : l[j].Of = x := by simpa using h1
  refine ⟨hj, h1, ?_⟩
  unfold dat
  have : l.find? (fun o => decide (o.Of = x)) = some l[j] := List.find?_eq_some_iff_getElem.2 ⟨by simpa using h1, j, hj, rfl, fun m hm => by have := h2 m hm; simpa using this⟩
  rw [this]; rfl
theorem pl_none {l : Objs} {x : List Int} (h : pl l x = none) : dat l x = none := by
  unfold pl at h
  unfold dat
  rw [List.findIdx?_eq_none_iff] at h
  rw [List.find?_eq_none.2 (fun o ho => by have := h o ho; simpa using this)]
  rfl
theorem ref17_Find_is (l : Objs) (hl : l.length ≤ 1000) (x : List Int) (k : Nat) (hk : l.length < k) : cofferref17_Find.f k l x = some (match pl l x with | some j => (j : Int) | none => -1) := by
  unfold cofferref17_Find.f
  have hloop : ∀ (n i k : Nat), n + i = l.length → n < k → (∀ m (hm : m < l.length), m < i → l[m].Of ≠ x) → cofferref17_Find.l0 l x k i = some (match pl l x with | some j => .inl (j : Int) | none => .inr ()) := by
    intro n
    induction n with
    | zero =>
      intro i k hi hk hno
      obtain ⟨q, rfl⟩ : ∃ q, k = q + 1 := ⟨k - 1, by omega⟩
      rw [cofferref17_Find.l0, if_neg (by simp; omega)]
      have : pl l x = none := by
        unfold pl
        rw [List.findIdx?_eq_none_iff]
        intro o ho
        obtain ⟨m, hm, rfl⟩ := List.mem_iff_getElem.1 ho
        simpa using hno m hm (by omega)
      rw [this]
    | succ n ih =>
      intro i k hi hk hno
      obtain ⟨q, rfl⟩ : ∃ q, k = q + 1 := ⟨k - 1, by omega⟩
      have hlt : i < l.length := by omega
      have hg : l.getD i rApi_Object.zeroD = l[i] := by rw [List.getD_eq_getElem?_getD, List.getElem?_eq_getElem hlt]; rfl
      rw [cofferref17_Find.l0, if_pos (by simp; omega), need_pos (by omega), wrap_succ hlt (by unfold maxB; omega)]
      simp only [Int.toNat_natCast, hg]
      by_cases e : l[i].Of = x
      · have : pl l x = some i := by
          unfold pl
          exact List.findIdx?_eq_some_iff_getElem.2 ⟨hlt, by simpa using e, fun m hm => by simpa using hno m (by omega) hm⟩
        rw [if_pos (decide_eq_true e), this]
      · rw [if_neg (by rw [decide_eq_true_eq]; exact e)]
        refine ih (i + 1) q (by omega) (by omega) (fun m hm hlt' => ?_)
        rcases Nat.eq_or_lt_of_le (Nat.le_of_lt_succ hlt') with h | h
        · subst h; exact e
        · exact hno m hm h
  have h := hloop l.length 0 k (by omega) hk (fun m _ h => by omega)
  rw [show ((0 : Nat) : Int) = 0 from rfl] at h
  rw [h]
  cases pl l x <;> rfl
theorem AlikeIDs_is (a b : List (List Int)) (ha : a.length ≤ 100000) (k : Nat) (hk : a.length < k) : cofferref17_AlikeIDs.f k a b = some (decide (a = b)) := by
  unfold cofferref17_AlikeIDs.f
  by_cases hl : a.length = b.length
  · have h := scan_loop (fun k i => cofferref17_AlikeIDs.l0 a b k i) a.length 0 (fun i => decide (a.getD i [] = b.getD i [])) false () (fun k i hi _ => by
      show cofferref17_AlikeIDs.l0 a b (k + 1) (i : Int) = _
      have h1 : a.getD i idR.zeroD = a.getD i [] := by simp [List.getD_eq_getElem?_getD, List.getElem?_eq_getElem hi]
      have h2 : b.getD i idR.zeroD = b.getD i [] := by simp [List.getD_eq_getElem?_getD, List.getElem?_eq_getElem (show i < b.length by omega)]
      rw [cofferref17_AlikeIDs.l0, if_pos (by simp; omega), need_pos (by omega), need_pos (by omega), wrap_succ hi (by unfold maxB; omega)]
      simp only [Int.toNat_natCast, h1, h2]
      cases decide (a.getD i [] = b.getD i []) <;> simp) (fun k => by
      show cofferref17_AlikeIDs.l0 a b (k + 1) (a.length : Int) = _
      rw [cofferref17_AlikeIDs.l0, if_neg (by simp)]) a.length 0 k (by omega) (by omega)
    have h : cofferref17_AlikeIDs.l0 a b k 0 = _ := h
    rw [if_neg (by simp [hl]), h]
    have hall : (List.range' 0 a.length).all (fun i => decide (a.getD i [] = b.getD i [])) = decide (a = b) := by
      rw [Bool.eq_iff_iff]
      simp only [List.all_eq_true, decide_eq_true_eq]
      constructor
      · intro h
        apply List.ext_getElem hl
        intro i h1 h2
        have := h i (by simp; omega)
        simpa [List.getD_eq_getElem?_getD, List.getElem?_eq_getElem h1, List.getElem?_eq_getElem h2] using this
      · rintro rfl i _; rfl
    rw [hall]
    cases decide (a = b) <;> rfl
  · have : ¬ a = b := fun e => hl (by rw [e])
    rw [if_pos (by simp; omega), decide_eq_false this]
theorem Light_is (l : Objs) (m : Nat) (hm : m ≤ 1000) (k : Nat) (hk : 2000 ≤ k) : cofferlaw17_Light.f k l (m : Int) = some (decide (l.length ≤ m ∧ ∀ o ∈ l, o.Data.length ≤ 5000)) := by
  unfold cofferlaw17_Light.f
  by_cases hl : l.length ≤ m
  · have h := scan_loop (fun k i => cofferlaw17_Light.l0 l k i) l.length 0 (fun i => decide ((l.getD i rApi_Object.zeroD).Data.length ≤ 5000)) false () (fun k i hi _ => by
      show cofferlaw17_Light.l0 l (k + 1) (i : Int) = _
      rw [cofferlaw17_Light.l0, if_pos (by simp; omega), need_pos (by omega), wrap_succ hi (by unfold maxB; omega)]
      simp only [Int.toNat_natCast]
      by_cases e : (l.getD i rApi_Object.zeroD).Data.length ≤ 5000
      · rw [if_neg (by rw [decide_eq_true_eq]; omega), decide_eq_true e]; rfl
      · rw [if_pos (decide_eq_true (by omega)), decide_eq_false e]; rfl) (fun k => by
      show cofferlaw17_Light.l0 l (k + 1) (l.length : Int) = _
      rw [cofferlaw17_Light.l0, if_neg (by simp)]) l.length 0 k (by omega) (by omega)
    have h : cofferlaw17_Light.l0 l k 0 = _ := h
    rw [if_neg (by rw [decide_eq_true_eq]; omega), h]
    have hall : (List.range' 0 l.length).all (fun i => decide ((l.getD i rApi_Object.zeroD).Data.length ≤ 5000)) = decide (l.length ≤ m ∧ ∀ o ∈ l, o.Data.length ≤ 5000) := by
      rw [Bool.eq_iff_iff]
      simp only [List.all_eq_true, decide_eq_true_eq]
      constructor
      · intro h
        refine ⟨hl, fun o ho => ?_⟩
        obtain ⟨i, hi, rfl⟩ := List.mem_iff_getElem.1 ho
        have := h i (by simp; omega)
        simpa [List.getD_eq_getElem?_getD, List.getElem?_eq_getElem hi] using this
      · rintro ⟨_, h⟩ i hi
        have hi : i < l.length := by simpa using hi
        rw [List.getD_eq_getElem?_getD, List.getElem?_eq_getElem hi]
        exact h _ (List.getElem_mem hi)
    rw [hall]
    cases decide (l.length ≤ m ∧ ∀ o ∈ l, o.Data.length ≤ 5000) <;> rfl
  · rw [if_pos (decide_eq_true (by omega)), decide_eq_false (fun h => hl h.1)]
end Go.Proofs.Ytbcipfhhmkjigaa
