/- The law of the parts, in plain words. -/
import Derived.Test.YtbcipfhhmkjigaaQV
set_option linter.unusedVariables false
set_option linter.unusedSimpArgs false
namespace Go.Proofs.Ytbcipfhhmkjigaa
open Go Go.Cf

theorem Rch.mono {l : Objs} {r r' : List (List Int)} (h : ∀ x, x ∈ r → x ∈ r') {x : List Int} (hx : Rch l r x) : Rch l r' x := by
  induction hx with
  | root a b => exact .root (h _ a) b
  | step a b c d ih => exact .step ih b c d
theorem parts_l0 (l : Objs) (c35 c39 c52 : List (List Int)) (h1 : c35.length ≤ 100) (h2 : c39.length ≤ 100) (h3 : c52.length ≤ 100) (hl : l.length ≤ 1000)
    (ha : ∀ o ∈ l, (o.Of ∈ c35 ↔ ¬ o.Of ∈ c39)) (hb : ∀ o ∈ l, o.Of ∈ c35 → o.Of ∈ c52) : ∀ (n i k : Nat), n + i = l.length → n + 200 < k → cofferlaw18_ReachParts.l0 l c35 c39 c52 k i = some (.inr ()) := by
  intro n
  induction n with
  | zero =>
    intro i k hi hk
    obtain ⟨q, rfl⟩ : ∃ q, k = q + 1 := ⟨k - 1, by omega⟩
    rw [cofferlaw18_ReachParts.l0, if_neg (by simp; omega)]
  | succ n ih =>
    intro i k hi hk
    obtain ⟨q, rfl⟩ : ∃ q, k = q + 1 := ⟨k - 1, by omega⟩
    have hil : i < l.length := by omega
    have hm : l[i] ∈ l := List.getElem_mem hil
    rw [cofferlaw18_ReachParts.l0, if_pos (by simp; omega), need_pos (by omega)]
    have hg : (l.getD ((i : Int)).toNat rApi_Object.zeroD) = l[i] := by simp [hil]
    rw [hg, in_is c35 _ (by omega) q (by omega)]
    simp only [Option.bind_some]
    rw [need_pos (by omega), in_is c39 _ (by omega) q (by omega)]
    simp only [Option.bind_some]
    have hne : ¬ (decide (l[i].Of ∈ c35) = decide (l[i].Of ∈ c39)) := by
      have := ha _ hm
      by_cases h : l[i].Of ∈ c39 <;> simp [h, this]
    rw [if_neg (by simpa using hne), need_pos (by omega)]
    have hw : IntKind.i64.wrap ((i : Int) + 1) = ((i + 1 : Nat) : Int) := wrap_succ (n := l.length) (by omega) (by unfold maxB; omega)
    by_cases h5 : l[i].Of ∈ c35
    · rw [if_pos (by simpa using h5), need_pos (by omega), in_is c52 _ (by omega) q (by omega)]
      simp only [Option.bind_some]
      have h6 := hb _ hm h5
      rw [if_neg (by simp [h6]), hw]
      exact ih (i + 1) q (by omega) (by omega)
    · rw [if_neg (by simpa using h5)]
      simp only [Option.bind_some]
      rw [if_neg (by simp), hw]
      exact ih (i + 1) q (by omega) (by omega)
theorem parts_l1 (l : Objs) (r c35 : List (List Int)) (h1 : c35.length ≤ 100) (hl : l.length ≤ 1000) (hr : r.length ≤ 1000)
    (ha : ∀ x ∈ r, (dat l x).isSome = true → x ∈ c35) : ∀ (n i k : Nat), n + i = r.length → n + 2000 < k → cofferlaw18_ReachParts.l1 r l c35 k i = some (.inr ()) := by
  intro n
  induction n with
  | zero =>
    intro i k hi hk
    obtain ⟨q, rfl⟩ : ∃ q, k = q + 1 := ⟨k - 1, by omega⟩
    rw [cofferlaw18_ReachParts.l1, if_neg (by simp; omega)]
  | succ n ih =>
    intro i k hi hk
    obtain ⟨q, rfl⟩ : ∃ q, k = q + 1 := ⟨k - 1, by omega⟩
    have hil : i < r.length := by omega
    have hm : r[i] ∈ r := List.getElem_mem hil
    rw [cofferlaw18_ReachParts.l1, if_pos (by simp; omega), need_pos (by omega)]
    have hg : (r.getD ((i : Int)).toNat (rArr 32 (rInt .u8)).zeroD) = r[i] := by simp [hil]
    rw [hg, ref17_Find_is l (by omega) _ q (by omega)]
    simp only [Option.bind_some]
    have hw : IntKind.i64.wrap ((i : Int) + 1) = ((i + 1 : Nat) : Int) := wrap_succ (n := r.length) (by omega) (by unfold maxB; omega)
    cases hp : pl l r[i] with
    | none =>
      simp only []
      rw [if_neg (by decide)]
      simp only [Option.bind_some]
      rw [if_neg (by simp), hw]
      exact ih (i + 1) q (by omega) (by omega)
    | some j =>
      simp only []
      obtain ⟨hj, h7, h8⟩ := pl_some hp
      have h6 := ha _ hm (by rw [h8]; rfl)
      rw [if_pos (by simp), need_pos (by omega), in_is c35 _ (by omega) q (by omega)]
      simp only [Option.bind_some]
      rw [if_neg (by simp [h6]), hw]
      exact ih (i + 1) q (by omega) (by omega)
def cofferlaw18_ReachParts.Pure : Prop := ∀ (a0 : (List Api_Object)) (a1 : (List (List Int))) (a2 : (List (List Int))), (rSl 56 rApi_Object).wf a0 → (rSl 32 (rArr 32 (rInt .u8))).wf a1 → (rSl 32 (rArr 32 (rInt .u8))).wf a2 → ∃ k, cofferlaw18_ReachParts.f k a0 a1 a2 = some true
theorem ReachParts_pure : cofferlaw18_ReachParts.Pure := by
  intro l r r2 hl hr hr2
  refine ⟨300000, ?_⟩
  unfold cofferlaw18_ReachParts.f
  rw [show (300000 : Nat) = 299800 + 200 from rfl, reach_begun 299800]
  simp only [Option.bind_some, Bool.not_true, Bool.false_eq_true, if_false]
  have hli := Light_is l 40 (by omega) 300000 (by omega)
  rw [show ((40 : Nat) : Int) = 40 from rfl] at hli
  rw [show (299800 + 200 : Nat) = 300000 from rfl, hli]
  simp only [Option.bind_some]
  by_cases h1 : l.length ≤ 40 ∧ ∀ o ∈ l, o.Data.length ≤ 5000
  · rw [decide_eq_true h1]
    simp only [Bool.not_true, Bool.false_eq_true, if_false, Option.bind_some]
    by_cases h2 : (40 : Int) < r.length
    · rw [if_pos (decide_eq_true h2)]
      simp only [Option.bind_some, if_true]
    · rw [if_neg (by simpa using h2)]
      simp only [Option.bind_some]
      by_cases h3 : (40 : Int) < r2.length
      · rw [if_pos (decide_eq_true h3)]
      · rw [if_neg (by simpa using h3)]
        have hw := light_wf (by omega) hl h1
        have hll := hw.len
        obtain ⟨a, a1, a2⟩ := Mark_is l hw r (by omega) 300000 (by omega)
        obtain ⟨b, b1, b2⟩ := Lost_is l hw r (by omega) 300000 (by omega)
        obtain ⟨c, c1, c2⟩ := Mark_is l hw (r ++ r2) (by simp; omega) 300000 (by omega)
        have al := a2.length hw (fun x h => h.some)
        have bl := b2.length hw (fun x h => h.1)
        have cl := c2.length hw (fun x h => h.some)
        rw [a1]
        simp only [Option.bind_some]
        rw [b1]
        simp only [Option.bind_some, List.nil_append, List.length_nil, Nat.zero_add]
        rw [need_pos (by unfold fits maxB; omega), need_pos (by unfold fits maxB; omega), c1]
        simp only [Option.bind_some]
        have l0 := parts_l0 l a b c (by omega) (by omega) (by omega) (by omega)
          (fun o ho => by
            rw [a2.mem, b2.mem]
            have : (dat l o.Of).isSome = true := dat_isSome.2 ⟨o, ho, rfl⟩
            constructor
            · intro h h'; exact h'.2 h
            · intro h; exact Classical.byContradiction fun hn => h ⟨this, hn⟩)
          (fun o ho h => (c2.mem _).2 (((a2.mem _).1 h).mono (fun x hx => List.mem_append_left _ hx)))
          l.length 0 300000 (by omega) (by omega)
        have l1 := parts_l1 l r a (by omega) (by omega) (by omega) (fun x hx h => (a2.mem _).2 (.root hx h)) r.length 0 300000 (by omega) (by omega)
        rw [show ((0 : Nat) : Int) = 0 from rfl] at l0 l1
        rw [l0]
        simp only [Option.bind_some]
        rw [l1]
        simp only [Option.bind_some]
        rw [if_pos (by simp; omega)]
        simp only [Option.bind_some]
        exact congrArg some (decide_eq_true (by omega))
  · rw [decide_eq_false h1]
    rfl
end Go.Proofs.Ytbcipfhhmkjigaa
