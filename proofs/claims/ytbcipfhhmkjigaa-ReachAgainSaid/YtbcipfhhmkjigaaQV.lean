/- The laws of reach, in plain words. -/
import Derived.Test.YtbcipfhhmkjigaaQU
set_option linter.unusedVariables false
set_option linter.unusedSimpArgs false
namespace Go.Proofs.Ytbcipfhhmkjigaa
open Go Go.Cf

set_option maxRecDepth 1000000 in
theorem reach_begun (k : Nat) : cofferlaw18_begun.f (k + 200) = some true := by kernel_rfl
theorem Names.length {l : Objs} (hw : Wf l) {P : List Int → Prop} {a : List (List Int)} (h : Names P a) (hP : ∀ x, P x → (dat l x).isSome = true) : a.length ≤ l.length := by
  have hnd : a.Nodup := h.up.imp (fun {x y} h e => by subst e; rw [cmp3_refl] at h; omega)
  have := nodup_length_le (l := a) (m := l.map (·.Of)) hnd (fun x hx => by
    obtain ⟨o, ho, e⟩ := dat_isSome.1 (hP x ((h.mem x).1 hx))
    exact List.mem_map.2 ⟨o, ho, e⟩)
  simpa using this
theorem objs_wf {l : Objs} (h : (rSl 56 rApi_Object).wf l) : ∀ o ∈ l, IsB o.Data ∧ o.Of.length = 32 := fun o ho => by
  have h1 := (wf_sl h).2.2 o ho
  have h2 := wf_prod (wf_map h1)
  refine ⟨fun b hb => wf_u8 ((wf_sl h2.2).2.2 b hb), (wf_arr h2.1).1⟩
theorem light_wf {l : Objs} {m : Nat} (hm : m ≤ 40) (h : (rSl 56 rApi_Object).wf l) (hl : l.length ≤ m ∧ ∀ o ∈ l, o.Data.length ≤ 5000) : Wf l :=
  ⟨fun o ho => ⟨(objs_wf h o ho).1, hl.2 o ho⟩, fun o ho => (objs_wf h o ho).2, by omega⟩
theorem ids_wf {a : List (List Int)} (h : (rSl 32 (rArr 32 (rInt .u8))).wf a) : Len32 a ∧ a.length ≤ maxB := ⟨fun x hx => (wf_arr ((wf_sl h).2.2 x hx)).1, (wf_sl h).2.1⟩
theorem reachAll_l1 : ∀ (n i k : Nat) (s : List (List Int)), n + i = s.length → n < k → s.length ≤ 100000 → ∃ r, cofferlaw18_ReachAll.l1 k s i = some r := by
  intro n
  induction n with
  | zero =>
    intro i k s hi hk hl
    obtain ⟨q, rfl⟩ : ∃ q, k = q + 1 := ⟨k - 1, by omega⟩
    rw [cofferlaw18_ReachAll.l1, if_neg (by simp; omega)]
    exact ⟨_, rfl⟩
  | succ n ih =>
    intro i k s hi hk hl
    obtain ⟨q, rfl⟩ : ∃ q, k = q + 1 := ⟨k - 1, by omega⟩
    rw [cofferlaw18_ReachAll.l1, if_pos (by simp; omega), need_pos (by omega), wrap_succ (i := i) (n := s.length) (by omega) (by unfold maxB; omega)]
    exact ih (i + 1) q _ (by simp; omega) (by omega) (by simp; omega)
theorem reachAll_l2 : ∀ (n i k : Nat) (s : List (List Int)), n + i = s.length → n < k → s.length ≤ 100000 → ∃ r, cofferlaw18_ReachAll.l2 k s i = some r := by
  intro n
  induction n with
  | zero =>
    intro i k s hi hk hl
    obtain ⟨q, rfl⟩ : ∃ q, k = q + 1 := ⟨k - 1, by omega⟩
    rw [cofferlaw18_ReachAll.l2, if_neg (by simp; omega)]
    exact ⟨_, rfl⟩
  | succ n ih =>
    intro i k s hi hk hl
    obtain ⟨q, rfl⟩ : ∃ q, k = q + 1 := ⟨k - 1, by omega⟩
    rw [cofferlaw18_ReachAll.l2, if_pos (by simp; omega), need_pos (by omega), wrap_succ (i := i) (n := s.length) (by omega) (by unfold maxB; omega)]
    exact ih (i + 1) q _ (by simp; omega) (by omega) (by simp; omega)
theorem reachAll_turn (l : Objs) (hw : Wf l) (r : List (List Int)) (hr : r.length ≤ 40) (k : Nat) (hk : 210000 ≤ k) (i : Int) (hi : i < 2) : cofferlaw18_ReachAll.l0 l r (k + 1) i = cofferlaw18_ReachAll.l0 l r k (IntKind.i64.wrap (i + 1)) := by
  have hll := hw.len
  obtain ⟨a, a1, a2⟩ := Mark_is l hw r (by omega) k (by omega)
  obtain ⟨b, b1, b2⟩ := Lost_is l hw r (by omega) k (by omega)
  obtain ⟨a', c1, c2, _⟩ := ref18_Mark_is l hw r (by omega) k (by omega)
  obtain ⟨b', d1, d2⟩ := ref18_Lost_is l hw r (by omega) k (by omega)
  have al := a2.length hw (fun x h => h.some)
  have bl := b2.length hw (fun x h => h.1)
  obtain rfl := a2.eq c2
  obtain rfl := b2.eq d2
  rw [cofferlaw18_ReachAll.l0, if_pos (by simpa using hi)]
  have e0 : List.replicate ((0 : Int)).toNat (rArr 32 (rInt .u8)).zeroD ++ r = r := rfl
  rw [e0, a1]
  simp only [Option.bind_some]
  rw [b1]
  simp only [Option.bind_some]
  rw [c1]
  simp only [Option.bind_some]
  rw [AlikeIDs_is a a (by omega) k (by omega)]
  simp only [Option.bind_some, decide_true, Bool.not_true, Bool.false_eq_true, if_false]
  rw [d1]
  simp only [Option.bind_some]
  rw [AlikeIDs_is b b (by omega) k (by omega)]
  simp only [Option.bind_some, decide_true, Bool.not_true, Bool.false_eq_true, if_false]
  rw [AlikeIDs_is r r (by omega) k (by omega)]
  simp only [Option.bind_some, decide_true, Bool.not_true, Bool.false_eq_true, if_false]
  have hw1 : IntKind.i64.wrap ((r.length : Int) + 1) = ((r.length + 1 : Nat) : Int) := by rw [wrapI (by omega) (by omega)]; omega
  have hrep : (List.replicate (((r.length + 1 : Nat) : Int) - 0).toNat (rArr 32 (rInt .u8)).zeroD).drop r.length = [(rArr 32 (rInt .u8)).zeroD] := by
    have : (((r.length + 1 : Nat) : Int) - 0).toNat = r.length + 1 := by omega
    rw [this, List.drop_replicate, Nat.add_sub_cancel_left]; rfl
  rw [hw1, hrep]
  have hsub : sub (r ++ [(rArr 32 (rInt .u8)).zeroD]) 0 ((r.length + 1 : Nat) : Int) = r ++ [(rArr 32 (rInt .u8)).zeroD] := by
    unfold sub
    simp
    exact List.take_of_length_le (by simp)
  rw [need_pos (by simp; omega), hsub, need_pos (by simp; omega)]
  have hget : (r ++ [(rArr 32 (rInt .u8)).zeroD]).getD ((r.length : Int)).toNat (rArr 32 (rInt .u8)).zeroD = List.replicate 32 0 := by simp; rfl
  have hdec : (!decide ((r ++ [(rArr 32 (rInt .u8)).zeroD]).getD ((r.length : Int)).toNat (rArr 32 (rInt .u8)).zeroD = List.replicate 32 (rInt .u8).zeroD)) = false := by
    simp only [hget]; rfl
  rw [hdec]
  simp only [Option.bind_some, Bool.false_eq_true, if_false]
  obtain ⟨r1, f1⟩ := reachAll_l1 a.length 0 k a (by omega) (by omega) (by omega)
  obtain ⟨r2, f2⟩ := reachAll_l2 b.length 0 k b (by omega) (by omega) (by omega)
  rw [show ((0 : Nat) : Int) = 0 from rfl] at f1 f2
  rw [f1]
  simp only [Option.bind_some]
  rw [f2]
  rfl
def cofferlaw18_ReachAll.Pure : Prop := ∀ (a0 : (List Api_Object)) (a1 : (List (List Int))), (rSl 56 rApi_Object).wf a0 → (rSl 32 (rArr 32 (rInt .u8))).wf a1 → ∃ k, cofferlaw18_ReachAll.f k a0 a1 = some true
theorem ReachAll_pure : cofferlaw18_ReachAll.Pure := by
  intro l r hl hr
  refine ⟨300000, ?_⟩
  unfold cofferlaw18_ReachAll.f
  rw [show (300000 : Nat) = 299800 + 200 from rfl, reach_begun 299800]
  simp only [Option.bind_some, Bool.not_true, Bool.false_eq_true, if_false]
  have hli := Light_is l 40 (by omega) 300000 (by omega)
  rw [show ((40 : Nat) : Int) = 40 from rfl] at hli
  rw [show (299800 + 200 : Nat) = 300000 from rfl, hli]
  simp only [Option.bind_some]
  by_cases h1 : l.length ≤ 40 ∧ ∀ o ∈ l, o.Data.length ≤ 5000
  · rw [decide_eq_true h1]
    simp only [Bool.not_true, Bool.false_eq_true, if_false, Option.bind_some]
    by_cases h2 : (40 : Int) < r.length
    · rw [if_pos (decide_eq_true h2)]
    · rw [if_neg (by simpa using h2)]
      have hw := light_wf (by omega) hl h1
      have hw1 : IntKind.i64.wrap ((r.length : Int) + 1) = ((r.length + 1 : Nat) : Int) := by rw [wrapI (by omega) (by omega)]; omega
      rw [hw1, need_pos (by unfold maxB; omega), need_pos (by simp)]
      rw [show (300000 : Nat) = 299999 + 1 from rfl, reachAll_turn l hw r (by omega) 299999 (by omega) 0 (by omega)]
      rw [show (299999 : Nat) = 299998 + 1 from rfl, show IntKind.i64.wrap (0 + 1) = 1 from rfl, reachAll_turn l hw r (by omega) 299998 (by omega) 1 (by omega)]
      rw [show (299998 : Nat) = 299997 + 1 from rfl, show IntKind.i64.wrap (1 + 1) = 2 from rfl, cofferlaw18_ReachAll.l0, if_neg (by decide)]
      rfl
  · rw [decide_eq_false h1]
    rfl
end Go.Proofs.Ytbcipfhhmkjigaa
