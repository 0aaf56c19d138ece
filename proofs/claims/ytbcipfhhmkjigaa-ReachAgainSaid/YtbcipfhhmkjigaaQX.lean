/- The law of the second mark, in plain words. -/
import Derived.Test.YtbcipfhhmkjigaaQV
set_option linter.unusedVariables false
set_option linter.unusedSimpArgs false
namespace Go.Proofs.Ytbcipfhhmkjigaa
open Go Go.Cf

def keep (a : List (List Int)) (l : Objs) : Objs := l.filter fun o => decide (o.Of ∈ a)
theorem dat_keep (a : List (List Int)) (l : Objs) (x : List Int) : dat (keep a l) x = if x ∈ a then dat l x else none := by
  induction l with
  | nil => simp [keep, dat]
  | cons o l ih =>
    unfold keep dat at ih ⊢
    by_cases ho : o.Of ∈ a
    · rw [List.filter_cons_of_pos (by simpa using ho)]
      by_cases hx : o.Of = x
      · subst hx
        simp [ho]
      · simp only [List.find?_cons, decide_eq_false hx]
        exact ih
    · rw [List.filter_cons_of_neg (by simpa using ho), ih]
      by_cases hx : x ∈ a
      · have hne : o.Of ≠ x := fun e => ho (e ▸ hx)
        simp only [if_pos hx, List.find?_cons, decide_eq_false hne]
      · simp only [if_neg hx]
theorem again_l0 (l : Objs) (a : List (List Int)) (ha : a.length ≤ 100) (hl : l.length ≤ 1000) : ∀ (n i k : Nat) (s : Objs), n + i = l.length → s.length ≤ i → n + 200 < k → cofferlaw18_ReachAgain.l0 l a k s i = some (s ++ keep a (l.drop i)) := by
  intro n
  induction n with
  | zero =>
    intro i k s hi hs hk
    obtain ⟨q, rfl⟩ : ∃ q, k = q + 1 := ⟨k - 1, by omega⟩
    rw [cofferlaw18_ReachAgain.l0, if_neg (by simp; omega), List.drop_of_length_le (by omega)]
    simp [keep]
  | succ n ih =>
    intro i k s hi hs hk
    obtain ⟨q, rfl⟩ : ∃ q, k = q + 1 := ⟨k - 1, by omega⟩
    have hil : i < l.length := by omega
    rw [cofferlaw18_ReachAgain.l0, if_pos (by simp; omega), need_pos (by omega)]
    have hg : (l.getD ((i : Int)).toNat rApi_Object.zeroD) = l[i] := by simp [hil]
    rw [hg, in_is a _ (by omega) q (by omega)]
    simp only [Option.bind_some]
    have hw : IntKind.i64.wrap ((i : Int) + 1) = ((i + 1 : Nat) : Int) := wrap_succ (n := l.length) (by omega) (by unfold maxB; omega)
    rw [List.drop_eq_getElem_cons hil]
    by_cases h5 : l[i].Of ∈ a
    · rw [if_pos (by simpa using h5), need_pos (by omega), need_pos (by unfold fits maxB; simp; omega)]
      simp only [Option.bind_some]
      rw [hw, ih (i + 1) q _ (by omega) (by simp; omega) (by omega)]
      unfold keep
      rw [List.filter_cons_of_pos (by simpa using h5)]
      simp
    · rw [if_neg (by simpa using h5)]
      simp only [Option.bind_some]
      rw [hw, ih (i + 1) q _ (by omega) (by omega) (by omega)]
      unfold keep
      rw [List.filter_cons_of_neg (by simpa using h5)]
theorem keep_wf {a : List (List Int)} {l : Objs} (h : Wf l) : Wf (keep a l) :=
  ⟨fun o ho => h.data o ((List.mem_filter.1 ho).1), fun o ho => h.id o ((List.mem_filter.1 ho).1), Nat.le_trans (List.length_filter_le _ _) h.len⟩
theorem Rch.again {l : Objs} {r a : List (List Int)} (ha : ∀ x, x ∈ a ↔ Rch l r x) {x : List Int} : Rch l a x ↔ Rch l r x := by
  constructor
  · intro h
    induction h with
    | root u v => exact (ha _).1 u
    | step u v c d ih => exact .step ih v c d
  · intro h
    exact .root ((ha _).2 h) h.some
theorem Rch.keep {l : Objs} {r a : List (List Int)} (ha : ∀ x, x ∈ a ↔ Rch l r x) {x : List Int} : Rch (keep a l) r x ↔ Rch l r x := by
  constructor
  · intro h
    induction h with
    | root u v =>
      rw [dat_keep] at v
      split at v
      · exact .root u v
      · cases v
    | step u v c d ih =>
      rw [dat_keep] at v d
      split at v
      · split at d
        · exact .step ih v c d
        · cases d
      · cases v
  · intro h
    induction h with
    | root u v => exact .root u (by rw [dat_keep, if_pos ((ha _).2 (.root u v))]; exact v)
    | step u v c d ih => exact .step ih (by rw [dat_keep, if_pos ((ha _).2 u)]; exact v) c (by rw [dat_keep, if_pos ((ha _).2 (.step u v c d))]; exact d)
def cofferlaw18_ReachAgain.Pure : Prop := ∀ (a0 : (List Api_Object)) (a1 : (List (List Int))), (rSl 56 rApi_Object).wf a0 → (rSl 32 (rArr 32 (rInt .u8))).wf a1 → ∃ k, cofferlaw18_ReachAgain.f k a0 a1 = some true
theorem ReachAgain_pure : cofferlaw18_ReachAgain.Pure := by
  intro l r hl hr
  refine ⟨300000, ?_⟩
  unfold cofferlaw18_ReachAgain.f
  rw [show (300000 : Nat) = 299800 + 200 from rfl, reach_begun 299800]
  simp only [Option.bind_some, Bool.not_true, Bool.false_eq_true, if_false]
  have hli := Light_is l 40 (by omega) 300000 (by omega)
  rw [show ((40 : Nat) : Int) = 40 from rfl] at hli
  rw [show (299800 + 200 : Nat) = 300000 from rfl, hli]
  simp only [Option.bind_some]
  by_cases h1 : l.length ≤ 40 ∧ ∀ o ∈ l, o.Data.length ≤ 5000
  · rw [decide_eq_true h1]
    simp only [Bool.not_true, Bool.false_eq_true, if_false, Option.bind_some]
    by_cases h2 : (40 : Int) < r.length
    · rw [if_pos (decide_eq_true h2)]
    · rw [if_neg (by simpa using h2)]
      have hw := light_wf (by omega) hl h1
      have hll := hw.len
      obtain ⟨a, a1, a2⟩ := Mark_is l hw r (by omega) 300000 (by omega)
      have al := a2.length hw (fun x h => h.some)
      obtain ⟨b, b1, b2⟩ := Mark_is l hw a (by omega) 300000 (by omega)
      have hk := keep_wf (a := a) hw
      obtain ⟨c, c1, c2⟩ := Mark_is (keep a l) hk r (by omega) 300000 (by omega)
      obtain ⟨d, d1, d2⟩ := Lost_is (keep a l) hk r (by omega) 300000 (by omega)
      have bl := b2.length hw (fun x h => h.some)
      have cl := c2.length hk (fun x h => h.some)
      have l0 := again_l0 l a (by omega) (by omega) l.length 0 300000 [] (by omega) (by simp) (by omega)
      rw [show ((0 : Nat) : Int) = 0 from rfl, List.drop_zero, List.nil_append] at l0
      rw [a1]
      simp only [Option.bind_some]
      rw [l0]
      simp only [Option.bind_some]
      rw [b1]
      simp only [Option.bind_some]
      have eb : b = a := Up.ext b2.up a2.up (fun x => by rw [b2.mem, a2.mem]; exact Rch.again a2.mem)
      have ec : c = a := Up.ext c2.up a2.up (fun x => by rw [c2.mem, a2.mem]; exact Rch.keep a2.mem)
      have ed : d = [] := List.eq_nil_iff_forall_not_mem.2 (fun x hx => by
        have h := (d2.mem x).1 hx
        have h3 := h.1
        rw [dat_keep] at h3
        split at h3
        · next hx' => exact h.2 ((Rch.keep a2.mem).2 ((a2.mem x).1 hx'))
        · cases h3)
      subst eb ec ed
      rw [AlikeIDs_is _ _ (by omega) 300000 (by omega)]
      simp only [Option.bind_some, decide_true, if_true]
      rw [c1]
      simp only [Option.bind_some]
      rw [AlikeIDs_is _ _ (by omega) 300000 (by omega)]
      simp only [Option.bind_some, decide_true, if_true]
      rw [d1]
      rfl
  · rw [decide_eq_false h1]
    rfl
end Go.Proofs.Ytbcipfhhmkjigaa
