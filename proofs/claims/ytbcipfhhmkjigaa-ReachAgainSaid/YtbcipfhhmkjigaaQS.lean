/- What is reached: the document's rounds. -/
import Derived.Test.YtbcipfhhmkjigaaQR
set_option linter.unusedVariables false
set_option linter.unusedSimpArgs false
namespace Go.Proofs.Ytbcipfhhmkjigaa
open Go Go.Cf

/-- The place of a name: the first object's. -/
def pl (l : Objs) (x : List Int) : Option Nat := l.findIdx? fun o => decide (o.Of = x)
theorem pl_some {l : Objs} {x : List Int} {j : Nat} (h : pl l x = some j) : ∃ hj : j < l.length, l[j].Of = x ∧ dat l x = some l[j].Data := by
  unfold pl at h
  obtain ⟨hj, h1, h2⟩ := List.findIdx?_eq_some_iff_getElem.1 h
  have h1 : l[j].Of = x := by simpa using h1
  refine ⟨hj, h1, ?_⟩
  unfold dat
  have : l.find? (fun o => decide (o.Of = x)) = some l[j] := List.find?_eq_some_iff_getElem.2 ⟨by simpa using h1, j, hj, rfl, fun m hm => by have := h2 m hm; simpa using this⟩
  rw [this]; rfl
theorem pl_none {l : Objs} {x : List Int} (h : pl l x = none) : dat l x = none := by
  unfold pl at h
  unfold dat
  rw [List.findIdx?_eq_none_iff] at h
  rw [List.find?_eq_none.2 (fun o ho => by have := h o ho; simpa using this)]
  rfl
theorem ref17_Find_is (l : Objs) (hl : l.length ≤ 1000) (x : List Int) (k : Nat) (hk : l.length < k) : cofferref17_Find.f k l x = some (match pl l x with | some j => (j : Int) | none => -1) := by
  unfold cofferref17_Find.f
  have hloop : ∀ (n i k : Nat), n + i = l.length → n < k → (∀ m (hm : m < l.length), m < i → l[m].Of ≠ x) → cofferref17_Find.l0 l x k i = some (match pl l x with | some j => .inl (j : Int) | none => .inr ()) := by
    intro n
    induction n with
    | zero =>
      intro i k hi hk hno
      obtain ⟨q, rfl⟩ : ∃ q, k = q + 1 := ⟨k - 1, by omega⟩
      rw [cofferref17_Find.l0, if_neg (by simp; omega)]
      have : pl l x = none := by
        unfold pl
        rw [List.findIdx?_eq_none_iff]
        intro o ho
        obtain ⟨m, hm, rfl⟩ := List.mem_iff_getElem.1 ho
        simpa using hno m hm (by omega)
      rw [this]
    | succ n ih =>
      intro i k hi hk hno
      obtain ⟨q, rfl⟩ : ∃ q, k = q + 1 := ⟨k - 1, by omega⟩
      have hlt : i < l.length := by omega
      have hg : l.getD i rApi_Object.zeroD = l[i] := by rw [List.getD_eq_getElem?_getD, List.getElem?_eq_getElem hlt]; rfl
      rw [cofferref17_Find.l0, if_pos (by simp; omega), need_pos (by omega), wrap_succ hlt (by unfold maxB; omega)]
      simp only [Int.toNat_natCast, hg]
      by_cases e : l[i].Of = x
      · have : pl l x = some i := by
          unfold pl
          exact List.findIdx?_eq_some_iff_getElem.2 ⟨hlt, by simpa using e, fun m hm => by simpa using hno m (by omega) hm⟩
        rw [if_pos (decide_eq_true e), this]
      · rw [if_neg (by rw [decide_eq_true_eq]; exact e)]
        refine ih (i + 1) q (by omega) (by omega) (fun m hm hlt' => ?_)
        rcases Nat.eq_or_lt_of_le (Nat.le_of_lt_succ hlt') with h | h
        · subst h; exact e
        · exact hno m hm h
  have h := hloop l.length 0 k (by omega) hk (fun m _ h => by omega)
  rw [show ((0 : Nat) : Int) = 0 from rfl] at h
  rw [h]
  cases pl l x <;> rfl
theorem AlikeIDs_is (a b : List (List Int)) (ha : a.length ≤ 100000) (k : Nat) (hk : a.length < k) : cofferref17_AlikeIDs.f k a b = some (decide (a = b)) := by
  unfold cofferref17_AlikeIDs.f
  by_cases hl : a.length = b.length
  · have h := scan_loop (fun k i => cofferref17_AlikeIDs.l0 a b k i) a.length 0 (fun i => decide (a.getD i [] = b.getD i [])) false () (fun k i hi _ => by
      show cofferref17_AlikeIDs.l0 a b (k + 1) (i : Int) = _
      have h1 : a.getD i idR.zeroD = a.getD i [] := by simp [List.getD_eq_getElem?_getD, List.getElem?_eq_getElem hi]
      have h2 : b.getD i idR.zeroD = b.getD i [] := by simp [List.getD_eq_getElem?_getD, List.getElem?_eq_getElem (show i < b.length by omega)]
      rw [cofferref17_AlikeIDs.l0, if_pos (by simp; omega), need_pos (by omega), need_pos (by omega), wrap_succ hi (by unfold maxB; omega)]
      simp only [Int.toNat_natCast, h1, h2]
      cases decide (a.getD i [] = b.getD i []) <;> simp) (fun k => by
      show cofferref17_AlikeIDs.l0 a b (k + 1) (a.length : Int) = _
      rw [cofferref17_AlikeIDs.l0, if_neg (by simp)]) a.length 0 k (by omega) (by omega)
    have h : cofferref17_AlikeIDs.l0 a b k 0 = _ := h
    rw [if_neg (by simp [hl]), h]
    have hall : (List.range' 0 a.length).all (fun i => decide (a.getD i [] = b.getD i [])) = decide (a = b) := by
      rw [Bool.eq_iff_iff]
      simp only [List.all_eq_true, decide_eq_true_eq]
      constructor
      · intro h
        apply List.ext_getElem hl
        intro i h1 h2
        have := h i (by simp; omega)
        simpa [List.getD_eq_getElem?_getD, List.getElem?_eq_getElem h1, List.getElem?_eq_getElem h2] using this
      · rintro rfl i _; rfl
    rw [hall]
    cases decide (a = b) <;> rfl
  · have : ¬ a = b := fun e => hl (by rw [e])
    rw [if_pos (by simp; omega), decide_eq_false this]
theorem in_is (a : List (List Int)) (x : List Int) (ha : a.length ≤ 100000) (k : Nat) (hk : a.length < k) : cofferlaw18_in.f k a x = some (decide (x ∈ a)) := by
  unfold cofferlaw18_in.f
  have h := scan_loop (fun k i => cofferlaw18_in.l0 a x k i) a.length 0 (fun i => !decide (a.getD i [] = x)) true () (fun k i hi _ => by
    show cofferlaw18_in.l0 a x (k + 1) (i : Int) = _
    have h1 : a.getD i idR.zeroD = a.getD i [] := by simp [List.getD_eq_getElem?_getD, List.getElem?_eq_getElem hi]
    rw [cofferlaw18_in.l0, if_pos (by simp; omega), need_pos (by omega), wrap_succ hi (by unfold maxB; omega)]
    simp only [Int.toNat_natCast, h1]
    cases decide (a.getD i [] = x) <;> simp) (fun k => by
    show cofferlaw18_in.l0 a x (k + 1) (a.length : Int) = _
    rw [cofferlaw18_in.l0, if_neg (by simp)]) a.length 0 k (by omega) (by omega)
  have h : cofferlaw18_in.l0 a x k 0 = _ := h
  rw [h]
  have hall : (List.range' 0 a.length).all (fun i => !decide (a.getD i [] = x)) = !decide (x ∈ a) := by
    rw [Bool.eq_iff_iff]
    simp only [List.all_eq_true, Bool.not_eq_true', decide_eq_false_iff_not]
    constructor
    · intro h hx
      obtain ⟨i, hi, e⟩ := List.mem_iff_getElem.1 hx
      have := h i (by simp; omega)
      rw [List.getD_eq_getElem?_getD, List.getElem?_eq_getElem hi] at this
      exact this e
    · intro h i hi e
      have hi : i < a.length := by simpa using hi
      rw [List.getD_eq_getElem?_getD, List.getElem?_eq_getElem hi] at e
      exact h (by rw [← e]; exact List.getElem_mem hi)
  rw [hall]
  cases decide (x ∈ a) <;> rfl
theorem Light_is (l : Objs) (m : Nat) (hm : m ≤ 1000) (k : Nat) (hk : 2000 ≤ k) : cofferlaw17_Light.f k l (m : Int) = some (decide (l.length ≤ m ∧ ∀ o ∈ l, o.Data.length ≤ 5000)) := by
  unfold cofferlaw17_Light.f
  by_cases hl : l.length ≤ m
  · have h := scan_loop (fun k i => cofferlaw17_Light.l0 l k i) l.length 0 (fun i => decide ((l.getD i rApi_Object.zeroD).Data.length ≤ 5000)) false () (fun k i hi _ => by
      show cofferlaw17_Light.l0 l (k + 1) (i : Int) = _
      rw [cofferlaw17_Light.l0, if_pos (by simp; omega), need_pos (by omega), wrap_succ hi (by unfold maxB; omega)]
      simp only [Int.toNat_natCast]
      by_cases e : (l.getD i rApi_Object.zeroD).Data.length ≤ 5000
      · rw [if_neg (by rw [decide_eq_true_eq]; omega), decide_eq_true e]; rfl
      · rw [if_pos (decide_eq_true (by omega)), decide_eq_false e]; rfl) (fun k => by
      show cofferlaw17_Light.l0 l (k + 1) (l.length : Int) = _
      rw [cofferlaw17_Light.l0, if_neg (by simp)]) l.length 0 k (by omega) (by omega)
    have h : cofferlaw17_Light.l0 l k 0 = _ := h
    rw [if_neg (by rw [decide_eq_true_eq]; omega), h]
    have hall : (List.range' 0 l.length).all (fun i => decide ((l.getD i rApi_Object.zeroD).Data.length ≤ 5000)) = decide (l.length ≤ m ∧ ∀ o ∈ l, o.Data.length ≤ 5000) := by
      rw [Bool.eq_iff_iff]
      simp only [List.all_eq_true, decide_eq_true_eq]
      constructor
      · intro h
        refine ⟨hl, fun o ho => ?_⟩
        obtain ⟨i, hi, rfl⟩ := List.mem_iff_getElem.1 ho
        have := h i (by simp; omega)
        simpa [List.getD_eq_getElem?_getD, List.getElem?_eq_getElem hi] using this
      · rintro ⟨_, h⟩ i hi
        have hi : i < l.length := by simpa using hi
        rw [List.getD_eq_getElem?_getD, List.getElem?_eq_getElem hi]
        exact h _ (List.getElem_mem hi)
    rw [hall]
    cases decide (l.length ≤ m ∧ ∀ o ∈ l, o.Data.length ≤ 5000) <;> rfl
  · rw [if_pos (decide_eq_true (by omega)), decide_eq_false (fun h => hl h.1)]
/-! ### The rounds -/
abbrev Hits := List Bool
def at' (h : Hits) (j : Nat) : Bool := h.getD j false
theorem at_set (h : Hits) (i j : Nat) (hi : i < h.length) : at' (h.set i true) j = (decide (i = j) || at' h j) := by
  unfold at'
  rw [List.getD_eq_getElem?_getD, List.getD_eq_getElem?_getD, List.getElem?_set]
  by_cases e : i = j
  · subst e; simp [hi]
  · simp [e]
structure RInv (l : Objs) (roots : List (List Int)) (h d : Hits) : Prop where
  hl : h.length = l.length
  dl : d.length = l.length
  sound : ∀ j, at' h j = true → ∃ hj : j < l.length, pl l l[j].Of = some j ∧ Rch l roots l[j].Of
  done : ∀ j (hj : j < l.length), at' d j = true → at' h j = true ∧ ∀ i ∈ T l[j].Data, ∀ m, pl l i.Of = some m → at' h m = true
theorem ref18_l0 (l : Objs) (hw : Wf l) (roots : List (List Int)) (hr : roots.length ≤ 1000) : ∀ (n i k : Nat) (h : Hits), n + i = roots.length → n + 100 < k → h.length = l.length → (∀ j, at' h j = true → ∃ hj : j < l.length, pl l l[j].Of = some j ∧ Rch l roots l[j].Of) → (∀ m (hm : m < roots.length), m < i → ∀ j, pl l roots[m] = some j → at' h j = true) →
    ∃ h', cofferref18_Mark.l0 roots l k h i = some h' ∧ h'.length = l.length ∧ (∀ j, at' h' j = true → ∃ hj : j < l.length, pl l l[j].Of = some j ∧ Rch l roots l[j].Of) ∧ ∀ x ∈ roots, ∀ j, pl l x = some j → at' h' j = true := by
  intro n
  induction n with
  | zero =>
    intro i k h hi hk hl hs hd
    obtain ⟨q, rfl⟩ : ∃ q, k = q + 1 := ⟨k - 1, by omega⟩
    rw [cofferref18_Mark.l0, if_neg (by simp; omega)]
    refine ⟨h, rfl, hl, hs, fun x hx j hj => ?_⟩
    obtain ⟨m, hm, rfl⟩ := List.mem_iff_getElem.1 hx
    exact hd m hm (by omega) j hj
  | succ n ih =>
    intro i k h hi hk hl hs hd
    obtain ⟨q, rfl⟩ : ∃ q, k = q + 1 := ⟨k - 1, by omega⟩
    have hlt : i < roots.length := by omega
    have hll := hw.len
    have hg : roots.getD i idR.zeroD = roots[i] := by rw [List.getD_eq_getElem?_getD, List.getElem?_eq_getElem hlt]; rfl
    rw [cofferref18_Mark.l0, if_pos (by simp; omega), need_pos (by omega), wrap_succ hlt (by unfold maxB; omega)]
    simp only [Int.toNat_natCast]
    rw [show (rArr 32 (rInt .u8)).zeroD = idR.zeroD from rfl, hg, ref17_Find_is l (by omega) _ q (by omega)]
    cases hp : pl l roots[i] with
    | none =>
      simp only [Option.bind_some]
      rw [if_neg (by decide)]
      simp only [Option.bind_some]
      refine ih (i + 1) q h (by omega) (by omega) hl hs (fun m hm hlt' j hj => ?_)
      rcases Nat.eq_or_lt_of_le (Nat.le_of_lt_succ hlt') with e | e
      · subst e; rw [hp] at hj; cases hj
      · exact hd m hm e j hj
    | some j0 =>
      obtain ⟨hj0, e1, e2⟩ := pl_some hp
      simp only [Option.bind_some]
      rw [if_pos (decide_eq_true (by omega)), need_pos (by omega)]
      simp only [Option.bind_some, Int.toNat_natCast]
      refine ih (i + 1) q _ (by omega) (by omega) (by simpa using hl) (fun j hj => ?_) (fun m hm hlt' j hj => ?_)
      · rw [at_set _ _ _ (by omega)] at hj
        by_cases e : j0 = j
        · subst e
          exact ⟨hj0, by rw [e1]; exact hp, by rw [e1]; exact Rch.root (List.getElem_mem hlt) (by rw [e2]; rfl)⟩
        · simp [e] at hj; exact hs j hj
      · rw [at_set _ _ _ (by omega)]
        rcases Nat.eq_or_lt_of_le (Nat.le_of_lt_succ hlt') with e | e
        · subst e; rw [hp] at hj; cases hj; simp
        · rw [hd m hm e j hj]; simp
def cnt (h : Hits) : Nat := h.countP id
theorem cnt_set {h : Hits} {i : Nat} (hi : i < h.length) (hf : at' h i = false) : cnt (h.set i true) = cnt h + 1 := by
  unfold cnt
  have hg : h[i] = false := by unfold at' at hf; rw [List.getD_eq_getElem?_getD, List.getElem?_eq_getElem hi] at hf; exact hf
  rw [List.countP_set hi, hg]
  simp
theorem cnt_le (h : Hits) : cnt h ≤ h.length := List.countP_le_length
theorem ref18_l3 (l : Objs) (hw : Wf l) (c : List Api_Item × Int) (hc : c.1.length ≤ 64) : ∀ (n i k : Nat) (h : Hits) (again : Bool), n + i = c.1.length → n + 100 < k → h.length = l.length → 
    ∃ h' again', cofferref18_Mark.l3 c l k h again i = some (h', again') ∧ h'.length = l.length ∧ (∀ j, at' h j = true → at' h' j = true) ∧ (∀ j, at' h' j = true → at' h j = true ∨ ∃ x ∈ c.1.drop i, pl l x.Of = some j) ∧ (∀ x ∈ c.1.drop i, ∀ j, pl l x.Of = some j → at' h' j = true) ∧ (again' = false → again = false ∧ h' = h) ∧ (again' = true → again = true ∨ cnt h < cnt h') ∧ cnt h ≤ cnt h' := by
  intro n
  induction n with
  | zero =>
    intro i k h again hi hk hl
    obtain ⟨q, rfl⟩ : ∃ q, k = q + 1 := ⟨k - 1, by omega⟩
    rw [cofferref18_Mark.l3, if_neg (by simp; omega), List.drop_eq_nil_of_le (by omega)]
    exact ⟨h, again, rfl, hl, fun _ h => h, fun j h => .inl h, (by intro x hx; cases hx), fun e => ⟨e, rfl⟩, fun e => .inl e, Nat.le_refl _⟩
  | succ n ih =>
    intro i k h again hi hk hl
    obtain ⟨q, rfl⟩ : ∃ q, k = q + 1 := ⟨k - 1, by omega⟩
    have hlt : i < c.1.length := by omega
    have hll := hw.len
    obtain ⟨x, hx⟩ : ∃ x, c.1.getD i rApi_Item.zeroD = x := ⟨_, rfl⟩
    rw [cofferref18_Mark.l3, if_pos (by simp; omega), need_pos (by omega), wrap_succ hlt (by unfold maxB; omega)]
    simp only [Int.toNat_natCast, hx]
    rw [ref17_Find_is l (by omega) _ q (by omega), drop_cons hlt rApi_Item.zeroD, hx]
    have skip : (∀ j, pl l x.Of = some j → at' h j = true) → ∃ h' again', cofferref18_Mark.l3 c l q h again ((i + 1 : Nat) : Int) = some (h', again') ∧ h'.length = l.length ∧ (∀ j, at' h j = true → at' h' j = true) ∧ (∀ j, at' h' j = true → at' h j = true ∨ ∃ y ∈ x :: c.1.drop (i + 1), pl l y.Of = some j) ∧ (∀ y ∈ x :: c.1.drop (i + 1), ∀ j, pl l y.Of = some j → at' h' j = true) ∧ (again' = false → again = false ∧ h' = h) ∧ (again' = true → again = true ∨ cnt h < cnt h') ∧ cnt h ≤ cnt h' := fun hall => by
      obtain ⟨h', a', e1, e2, e3, e4, e5, e6, e7, e8⟩ := ih (i + 1) q h again (by omega) (by omega) hl
      refine ⟨h', a', e1, e2, e3, fun j hj => (e4 j hj).imp id (fun ⟨y, hy, hp⟩ => ⟨y, by simp [hy], hp⟩), fun y hy j hj => ?_, e6, e7, e8⟩
      rcases List.mem_cons.1 hy with rfl | hy
      · exact e3 j (hall j hj)
      · exact e5 y hy j hj
    cases hp : pl l x.Of with
    | none =>
      simp only [Option.bind_some]
      rw [if_neg (by decide)]
      simp only [Option.bind_some, Bool.false_eq_true, if_false]
      have := skip (fun j hj => by rw [hp] at hj; cases hj)
      simpa only [hp] using this
    | some j0 =>
      obtain ⟨hj0, e1, e2⟩ := pl_some hp
      simp only [Option.bind_some]
      rw [if_pos (decide_eq_true (by omega)), need_pos (by omega)]
      simp only [Option.bind_some, Int.toNat_natCast, (show rBool.zeroD = false from rfl)]
      cases hh : h.getD j0 false with
      | true =>
        simp only [Bool.not_true, Bool.false_eq_true, if_false, Option.bind_some]
        have := skip (fun j hj => by rw [hp] at hj; cases hj; exact hh)
        simpa only [hp] using this
      | false =>
        simp only [Bool.not_false, if_true]
        rw [need_pos (by omega)]
        simp only [Option.bind_some, Int.toNat_natCast]
        have hset : ∀ j, at' (h.set j0 true) j = (decide (j0 = j) || at' h j) := fun j => at_set h j0 j (by omega)
        have hcs := cnt_set (h := h) (i := j0) (by omega) hh
        obtain ⟨h', a', f1, f2, f3, f4, f5, f6, f7, f8⟩ := ih (i + 1) q (h.set j0 true) true (by omega) (by omega) (by simpa using hl)
        refine ⟨h', a', f1, f2, fun j hj => f3 j (by rw [hset j, hj]; simp), fun j hj => ?_, fun y hy j hj => ?_, fun e => ?_, fun _ => .inr (by omega), by omega⟩
        · rcases f4 j hj with h4 | ⟨y, hy, hpy⟩
          · rw [hset j] at h4
            by_cases e : j0 = j
            · subst e; exact .inr ⟨x, by simp, hp⟩
            · simp [e] at h4; exact .inl h4
          · exact .inr ⟨y, by simp [hy], hpy⟩
        · rcases List.mem_cons.1 hy with rfl | hy
          · rw [hp] at hj; cases hj
            exact f3 j0 (by rw [hset j0]; simp)
          · exact f5 y hy j hj
        · exact absurd (f6 e).1 (by simp)
end Go.Proofs.Ytbcipfhhmkjigaa
