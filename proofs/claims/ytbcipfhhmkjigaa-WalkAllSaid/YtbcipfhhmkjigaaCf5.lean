/- Rules for operations that make or write memory, calls, and what a call comes to. -/
import Derived.Test.YtbcipfhhmkjigaaCf4
set_option linter.unusedVariables false
set_option linter.unusedSimpArgs false
namespace Go.Cf
open Go Go.RowKit
variable {α β : Type}

theorem blocks_mem {M : List Own} {b : Nat} : b ∈ Blocks M ↔ ∃ (i : Nat) (o : Own), M[i]? = some o ∧ o.blk = some b := by
  unfold Blocks
  rw [List.mem_filterMap]
  constructor
  · rintro ⟨o, h1, h2⟩
    obtain ⟨i, hi⟩ := List.mem_iff_getElem?.1 h1
    exact ⟨i, o, hi, h2⟩
  · rintro ⟨i, o, h1, h2⟩
    exact ⟨o, List.mem_of_getElem? h1, h2⟩

/-- A world behind a step that turns at most the block 't', and may lay new ones. -/
structure Step (dr : Bool) (w w' : World) (t : Option Nat) : Prop where
  os : w'.os = w.os
  tape : w'.tape = w.tape
  output : w'.output = w.output
  size : w.heap.size ≤ w'.heap.size
  keep : ∀ b, b < w.heap.size → t ≠ some b → w'.heap[b]? = w.heap[b]?
  drawn : dr = true → w.drawn ≤ w'.drawn
theorem Past.step {w0 w w' : World} {kp : Nat → Prop} {dr : Bool} {t : Option Nat} (h : Past w0 kp dr w) (g : Step dr w w' t) (ht : ∀ b, t = some b → b < w0.heap.size → ¬ kp b) : Past w0 kp dr w' :=
  ⟨g.os.trans h.os, g.tape.trans h.tape, g.output.trans h.output, Nat.le_trans h.size g.size, fun e => Nat.le_trans (h.drawn e) (g.drawn e), fun b hb hk => (g.keep b (Nat.lt_of_lt_of_le hb h.size) (fun e => ht b e hb hk)).trans (h.block b hb hk)⟩

section
variable {C : Cx} {E : List (Nat × Value)} {F : List Fact} {M : List Own} {a : Act} {w : World}

theorem OKst.grow (h : OKst C E F M a w) {w' : World} (g : Step C.dr w w' none) : OKst C E F M a w' := by
  have hg : Grows w (C.m0 ++ Blocks M) w' (C.m0 ++ Blocks M) := ⟨g.size, fun b hb _ => g.keep b hb (by simp), fun _ _ h => h⟩
  exact
  { h with
    below := h.below.step g (fun b hb => by cases hb)
    facts := fun f hf => f.mono _ _ _ _ hg (h.facts f hf)
    own := fun o ho => o.keep _ _ _ _ hg (fun b hb => g.keep b (h.range b (blocks_mem.2 (by obtain ⟨i, hi⟩ := List.mem_iff_getElem?.1 ho; exact ⟨i, o, hi, hb⟩))).2 (by simp)) (h.own o ho)
    range := fun b hb => ⟨(h.range b hb).1, Nat.lt_of_lt_of_le (h.range b hb).2 g.size⟩ }

/-- One of the call's own blocks is written, or another put in its place. -/
theorem OKst.set (h : OKst C E F M a w) {w' : World} {i : Nat} {o o' : Own} (hi : M[i]? = some o) (g : Step C.dr w w' o.blk) (hb : ∀ b, o'.blk = some b → o.blk = some b ∨ (w.heap.size ≤ b ∧ b < w'.heap.size))
    (ho : ∀ m', Grows w (C.m0 ++ Blocks M) w' m' → (∀ b, o'.blk = some b → b ∈ m') → (∀ b ∈ m', b ∈ C.m0 ++ Blocks M ∨ o'.blk = some b) → o'.holds w' m') : OKst C E F (M.set i o') a w' ∧ Grows w (C.m0 ++ Blocks M) w' (C.m0 ++ Blocks (M.set i o')) := by
  have hil : i < M.length := (List.getElem?_eq_some_iff.1 hi).1
  have hget : ∀ j, (M.set i o')[j]? = if i = j then some o' else M[j]? := fun j => by
    rw [List.getElem?_set]
    split
    · next e => subst e; simp [hil]
    · rfl
  have hmem : ∀ b, b ∈ Blocks (M.set i o') → b ∈ Blocks M ∨ (w.heap.size ≤ b ∧ b < w'.heap.size) := fun b hbm => by
    obtain ⟨j, x, hj, hx⟩ := blocks_mem.1 hbm
    rw [hget] at hj
    split at hj
    · cases hj
      rcases hb b hx with h1 | h1
      · exact .inl (blocks_mem.2 ⟨i, o, hi, h1⟩)
      · exact .inr h1
    · exact .inl (blocks_mem.2 ⟨j, x, hj, hx⟩)
  have hoblk : ∀ b, o.blk = some b → b ∈ Blocks M := fun b hb' => blocks_mem.2 ⟨i, o, hi, hb'⟩
  have hg : Grows w (C.m0 ++ Blocks M) w' (C.m0 ++ Blocks (M.set i o')) := by
    refine ⟨g.size, fun b hlt hnm => g.keep b hlt (fun e => hnm (List.mem_append_right _ (hoblk b e))), fun b hlt hnm hm' => ?_⟩
    rcases List.mem_append.1 hm' with hm' | hm'
    · exact hnm (List.mem_append_left _ hm')
    · rcases hmem b hm' with h1 | h1
      · exact hnm (List.mem_append_right _ h1)
      · omega
  have hsub : ∀ b ∈ C.m0 ++ Blocks (M.set i o'), b ∈ C.m0 ++ Blocks M ∨ o'.blk = some b := fun b hbm => by
    rcases List.mem_append.1 hbm with hbm | hbm
    · exact .inl (List.mem_append_left _ hbm)
    · obtain ⟨j, x, hj, hx⟩ := blocks_mem.1 hbm
      rw [hget] at hj
      split at hj
      · cases hj; exact .inr hx
      · exact .inl (List.mem_append_right _ (blocks_mem.2 ⟨j, x, hj, hx⟩))
  refine ⟨{ h with below := ?_, facts := ?_, own := ?_, nodup := ?_, range := ?_ }, hg⟩
  · exact h.below.step g (fun b e hlt => (h.range b (hoblk b e)).1.2 hlt)
  · exact fun f hf => f.mono _ _ _ _ hg (h.facts f hf)
  · intro x hx
    obtain ⟨j, hj⟩ := List.mem_iff_getElem?.1 hx
    rw [hget] at hj
    split at hj
    · next e =>
      cases hj
      exact ho _ hg (fun b hb' => List.mem_append_right _ (blocks_mem.2 ⟨i, o', by rw [hget, if_pos rfl], hb'⟩)) hsub
    · next e =>
      refine x.keep _ _ _ _ hg (fun b hb' => g.keep b (h.range b (blocks_mem.2 ⟨j, x, hj, hb'⟩)).2 (fun e' => e (h.nodup _ _ _ _ _ hi hj e' hb'))) (h.own x (List.mem_of_getElem? hj))
  · intro j k x y b hj hk hx hy
    rw [hget] at hj hk
    split at hj
    · next e1 =>
      cases hj
      split at hk
      · next e2 => exact e1.symm.trans e2
      · next e2 =>
        rcases hb b hx with h1 | h1
        · exact absurd (h.nodup _ _ _ _ _ hi hk h1 hy) e2
        · have := (h.range b (blocks_mem.2 ⟨k, y, hk, hy⟩)).2
          omega
    · next e1 =>
      split at hk
      · next e2 =>
        cases hk
        rcases hb b hy with h1 | h1
        · exact absurd (h.nodup _ _ _ _ _ hi hj h1 hx) e1
        · have := (h.range b (blocks_mem.2 ⟨j, x, hj, hx⟩)).2
          omega
      · exact h.nodup _ _ _ _ _ hj hk hx hy
  · intro b hbm
    rcases hmem b hbm with h1 | h1
    · exact ⟨(h.range b h1).1, Nat.lt_of_lt_of_le (h.range b h1).2 g.size⟩
    · exact ⟨⟨fun hm => by have := h.m0 b hm; have := h.below.size; omega, fun hlt => by have := h.below.size; omega⟩, h1.2⟩

/-- A new block of the call's own. -/
theorem OKst.push (h : OKst C E F M a w) {w' : World} {o' : Own} (g : Step C.dr w w' none) (hb : ∀ b, o'.blk = some b → w.heap.size ≤ b ∧ b < w'.heap.size)
    (ho : ∀ m', Grows w (C.m0 ++ Blocks M) w' m' → (∀ b, o'.blk = some b → b ∈ m') → (∀ b ∈ m', b ∈ C.m0 ++ Blocks M ∨ o'.blk = some b) → o'.holds w' m') : OKst C E F (M ++ [o']) a w' := by
  have h0 : OKst C E F (M ++ [Own.gone]) a w :=
    { h with
      facts := fun f hf => by have : Blocks (M ++ [Own.gone]) = Blocks M := by simp [Blocks, Own.gone]
                              rw [this]; exact h.facts f hf
      own := fun o ho => by
        have : Blocks (M ++ [Own.gone]) = Blocks M := by simp [Blocks, Own.gone]
        rw [this]
        rcases List.mem_append.1 ho with ho | ho
        · exact h.own o ho
        · simp at ho; subst ho; trivial
      nodup := fun i j x y b hi hj hx hy => by
        have key : ∀ k (z : Own), (M ++ [Own.gone])[k]? = some z → z.blk = some b → M[k]? = some z := fun k z hk hz => by
          rcases Nat.lt_or_ge k M.length with hlt | hge
          · rwa [List.getElem?_append_left hlt] at hk
          · rw [List.getElem?_append_right hge] at hk
            have : z = Own.gone := by
              cases hkm : k - M.length with
              | zero => rw [hkm] at hk; simpa using hk.symm
              | succ n => rw [hkm] at hk; simp at hk
            subst this
            cases hz
        exact h.nodup _ _ _ _ _ (key i x hi hx) (key j y hj hy) hx hy
      range := fun b hb => h.range b (by simpa [Blocks, Own.gone] using hb) }
  have hi : (M ++ [Own.gone])[M.length]? = some Own.gone := by simp
  have hbl : Blocks (M ++ [Own.gone]) = Blocks M := by simp [Blocks, Own.gone]
  have := (h0.set (w' := w') (o' := o') hi g (fun b hb' => .inr (hb b hb')) (fun m' hg hm hsub => ho m' (by rw [hbl] at hg; exact hg) hm (by rw [hbl] at hsub; exact hsub))).1
  have e : (M ++ [Own.gone]).set M.length o' = M ++ [o'] := by simp
  rwa [e] at this

/-- A block of the call's own is written no more. -/
theorem OKst.drop (h : OKst C E F M a w) {i : Nat} {o : Own} (hi : M[i]? = some o) : OKst C E F (M.set i Own.gone) a w ∧ Grows w (C.m0 ++ Blocks M) w (C.m0 ++ Blocks (M.set i Own.gone)) :=
  h.set (o' := Own.gone) hi ⟨rfl, rfl, rfl, Nat.le_refl _, fun _ _ _ => rfl, fun _ => Nat.le_refl _⟩ (fun b hb => by cases hb) (fun _ _ _ _ => trivial)

theorem not_in_dropped (h : OKst C E F M a w) {i : Nat} {o : Own} (hi : M[i]? = some o) {b : Nat} (hb : o.blk = some b) : b ∉ C.m0 ++ Blocks (M.set i Own.gone) := by
  intro hm
  rcases List.mem_append.1 hm with hm | hm
  · exact (h.range b (blocks_mem.2 ⟨i, o, hi, hb⟩)).1.1 hm
  · obtain ⟨j, x, hj, hx⟩ := blocks_mem.1 hm
    rw [List.getElem?_set] at hj
    split at hj
    · split at hj
      · cases hj; cases hx
      · cases hj
    · next e => exact e (h.nodup _ _ _ _ _ hi hj hb hx)

theorem OKst.more (h : OKst C E F M a w) (f : Fact) (hf : f.p w (C.m0 ++ Blocks M)) : OKst C E (f :: F) M a w :=
  { h with facts := fun g hg => (List.mem_cons.1 hg).elim (fun e => e ▸ hf) (h.facts g) }

/-- A buffer that is written no more reads as its list. -/
theorem BufOk.read {R : Rep α} {n : Nat} {v : Value} {l : List α} {m m' : List Nat} (h : BufOk R n v l w m) (hg : Grows w m w m') (hb : ∀ b, bufBlk v = some b → b ∉ m') : (rSl n R).val w m' v l := by
  obtain ⟨h0, h0', h⟩ := h
  rcases h with ⟨base, rfl, rfl⟩ | ⟨b, cap, cs, rest, T, rfl, h1, h2, h3, h4, h5⟩
  · exact ⟨[.slice base 0 0], ⟨base, 0, rfl, by simp, by simp, by simp, by simp, .inl rfl⟩, rfl⟩
  · exact ⟨_, ⟨_, cap + 1, rfl, h1, h2, h0, h0', .inr ⟨_, rfl, cs, Rows.mono R hg h5, rfl, hb b rfl, _, T, _, h3, [], rest, by simp, rfl⟩⟩, rfl⟩

variable {K : Act → World → Prop} {Q : Exit → Act → World → Prop}
/-- FREEZE: a buffer becomes a fact. -/
theorem freeze_st {R : Rep α} {n : Nat} {v : Value} {l : List α} (h : OKst C E F M a w) {i : Nat} (hi : M[i]? = some (Own.buf v n R l)) : OKst C E ((rSl n R).fact v l :: F) (M.set i Own.gone) a w := by
  obtain ⟨h1, hg⟩ := h.drop hi
  have hv := BufOk.read (h.own _ (List.mem_of_getElem? hi)) hg (fun b hb => not_in_dropped h hi hb)
  exact h1.more _ hv
theorem tl_freeze {ops : Array Oper} {os : List Oper} {R : Rep α} {n : Nat} {v : Value} {l : List α} (i : Nat) (hi : M[i]? = some (Own.buf v n R l)) (h : TL C ops E ((rSl n R).fact v l :: F) (M.set i Own.gone) os Q) : TL C ops E F M os Q :=
  fun a w hs => h a w (freeze_st hs hi)
theorem q_freeze {R : Rep α} {n : Nat} {v : Value} {l : List α} (i : Nat) (hi : M[i]? = some (Own.buf v n R l)) (h : QT C E ((rSl n R).fact v l :: F) (M.set i Own.gone) K) : QT C E F M K :=
  fun a w hs => h a w (freeze_st hs hi)
theorem t_freeze {c : Code} {R : Rep α} {n : Nat} {v : Value} {l : List α} (i : Nat) (hi : M[i]? = some (Own.buf v n R l)) (h : T C E ((rSl n R).fact v l :: F) (M.set i Own.gone) c Q) : T C E F M c Q :=
  fun a w hs => h a w (freeze_st hs hi)
/-- A box that is written no more is a place. -/
theorem freezebox_st {R : Rep α} {b : Nat} {x : α} (h : OKst C E F M a w) {i : Nat} (hi : M[i]? = some (Own.box b R x)) : OKst C E (R.place ⟨b, 0, none⟩ x :: F) (M.set i Own.gone) a w := by
  obtain ⟨h1, hg⟩ := h.drop hi
  obtain ⟨c, T, h2, h3⟩ := h.own _ (List.mem_of_getElem? hi)
  have hv : R.at_ w (C.m0 ++ Blocks (M.set i Own.gone)) ⟨b, 0, none⟩ x := ⟨c.toList, R.mono hg h3, rfl, not_in_dropped h hi rfl, c, T, _, h2, [], [], by simp, rfl⟩
  exact h1.more _ hv
theorem tl_freezebox {ops : Array Oper} {os : List Oper} {R : Rep α} {b : Nat} {x : α} (i : Nat) (hi : M[i]? = some (Own.box b R x)) (h : TL C ops E (R.place ⟨b, 0, none⟩ x :: F) (M.set i Own.gone) os Q) : TL C ops E F M os Q :=
  fun a w hs => h a w (freezebox_st hs hi)
theorem q_drop (i : Nat) {o : Own} (hi : M[i]? = some o) (h : QT C E F (M.set i Own.gone) K) : QT C E F M K := fun a w hs => h a w (hs.drop hi).1
theorem tl_drop {ops : Array Oper} {os : List Oper} (i : Nat) {o : Own} (hi : M[i]? = some o) (h : TL C ops E F (M.set i Own.gone) os Q) : TL C ops E F M os Q := fun a w hs => h a w (hs.drop hi).1
/-- A fact that always holds. -/
theorem tl_fact {ops : Array Oper} {os : List Oper} (f : Fact) (hf : ∀ w m, f.p w m) (h : TL C ops E (f :: F) M os Q) : TL C ops E F M os Q :=
  fun a w hs => h a w (hs.more f (hf _ _))
/-- The empty buffer is at hand at any time. -/
theorem nil_st {R : Rep α} {n : Nat} (h : OKst C E F M a w) : OKst C E F (M ++ [Own.buf (.slice none 0 0) n R ([] : List α)]) a w :=
  h.push ⟨rfl, rfl, rfl, Nat.le_refl _, fun _ _ _ => rfl, fun _ => Nat.le_refl _⟩ (fun b hb => by cases hb) (fun _ _ _ _ => ⟨by simp, by simp, .inl ⟨none, rfl, rfl⟩⟩)
theorem tl_nilbuf {ops : Array Oper} {os : List Oper} (n : Nat) (R : Rep α) (h : TL C ops E F (M ++ [Own.buf (.slice none 0 0) n R ([] : List α)]) os Q) : TL C ops E F M os Q := fun a w hs => h a w (nil_st hs)
theorem q_nilbuf (n : Nat) (R : Rep α) (h : QT C E F (M ++ [Own.buf (.slice none 0 0) n R ([] : List α)]) K) : QT C E F M K := fun a w hs => h a w (nil_st hs)
end
end Go.Cf
