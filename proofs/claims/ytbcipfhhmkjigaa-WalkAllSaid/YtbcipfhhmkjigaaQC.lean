/- Texts, items, folders: what the printed functions answer, in plain words. -/
import Derived.Test.YtbcipfhhmkjigaaQB
set_option linter.unusedVariables false
set_option linter.unusedSimpArgs false
namespace Go.Proofs.Ytbcipfhhmkjigaa
open Go Go.Cf

/-! ### Texts -/
def tt (b : List Int) : List Int × Int × Int :=
  if (tc b 0 0).2.2 ≠ 0 then ([], 0, (tc b 0 0).2.2) else if 65536 < (tc b 0 0).1 then ([], 0, 2) else if (b.length : Int) - (tc b 0 0).2.1 < (tc b 0 0).1 then ([], 0, 3)
  else (sub b (tc b 0 0).2.1 ((tc b 0 0).2.1 + (tc b 0 0).1), (tc b 0 0).2.1 + (tc b 0 0).1, 0)
theorem prod3 {α β γ : Type} {p : α × β × γ} {a : α} {b : β} {c : γ} (h1 : p.1 = a) (h2 : p.2.1 = b) (h3 : p.2.2 = c) : p = (a, b, c) := by
  obtain ⟨x, y, z⟩ := p
  simp at *
  exact ⟨h1, h2, h3⟩
theorem tc_ok {b : List Int} (hb : IsB b) (h : (tc b 0 0).2.2 = 0) : ∃ w : Nat, tc b 0 0 = ((w : Int), ((enc w).length : Int), 0) ∧ b = enc w ++ b.drop (enc w).length ∧ (enc w).length ≤ b.length := by
  obtain ⟨w, h1, h2, h3⟩ := tc_enc0 hb (v := (tc b 0 0).1) (n := (tc b 0 0).2.1) (prod3 rfl rfl h)
  refine ⟨w, ?_, h3, ?_⟩
  · exact prod3 h1 h2 h
  · have := congrArg List.length h3
    rw [List.length_append] at this
    omega
theorem octet_own_is (b : List Int) (hl : b.length ≤ maxB) : octet_own.f b 0 = some b := by
  unfold octet_own.f
  have hw : IntKind.i64.wrap ((b.length : Int) + 0) = b.length := by unfold maxB at hl; rw [wrapI (by omega) (by omega)]; omega
  rw [hw, need_pos (by omega), need_pos (by unfold fits; simpa using hl)]
  simp
theorem octet_TakeText_is (b : List Int) (hb : IsB b) (hl : b.length ≤ maxB) (k : Nat) (hk : b.length < k) : octet_TakeText.f k b = some (tt b) := by
  unfold octet_TakeText.f tt
  rw [octet_TakeCount_is b hb hl k hk]
  simp only [Option.bind_some]
  by_cases h0 : (tc b 0 0).2.2 = 0
  · obtain ⟨w, e1, e2, e3⟩ := tc_ok hb h0
    rw [e1]
    unfold maxB at hl
    simp only [decide_true, Bool.not_true, Bool.false_eq_true, if_false, ne_eq, not_true_eq_false]
    by_cases h1 : (65536 : Int) < w
    · simp [h1]
    · rw [if_neg (by simpa using h1), if_neg h1]
      rw [wrapI (x := (b.length : Int) - _) (by omega) (by omega), wrapU (by omega) (by omega)]
      by_cases h2 : (b.length : Int) - ((enc w).length : Int) < w
      · simp [h2]
      · rw [if_neg (by simpa using h2), if_neg h2, wrapI (x := (w : Int)) (by omega) (by omega), wrapI (by omega) (by omega), need_pos (by omega), octet_own_is _ (by
          rw [sub_length _ _ _ (by omega)]; unfold maxB; omega)]
        rfl
  · simp [h0]
theorem ref1_TakeText_is (b : List Int) (hb : IsB b) (hl : b.length ≤ maxB) (k : Nat) (hk : b.length < k) : cofferref1_TakeText.f k b = some (tt b) := by
  unfold cofferref1_TakeText.f tt
  rw [ref1_TakeCount_is b hb hl k hk]
  simp only [Option.bind_some]
  by_cases h0 : (tc b 0 0).2.2 = 0
  · obtain ⟨w, e1, e2, e3⟩ := tc_ok hb h0
    rw [e1]
    unfold maxB at hl
    simp only [decide_true, Bool.not_true, Bool.false_eq_true, if_false, ne_eq, not_true_eq_false]
    by_cases h1 : (65536 : Int) < w
    · simp [h1]
    · rw [if_neg (by simpa using h1), if_neg h1]
      rw [wrapI (x := (b.length : Int) - _) (by omega) (by omega), wrapI (x := (w : Int)) (by omega) (by omega)]
      by_cases h2 : (b.length : Int) - ((enc w).length : Int) < w
      · simp [h2]
      · rw [if_neg (by simpa using h2), if_neg h2, wrapI (by omega) (by omega), need_pos (by omega), need_pos (by
          unfold fits; simp only [List.length_nil, Nat.zero_add]; rw [sub_length _ _ _ (by omega)]; unfold maxB; omega)]
        rfl
  · simp [h0]
theorem tt_ok {b : List Int} (hb : IsB b) (h : (tt b).2.2 = 0) : ∃ (s : List Int) (n : Nat), tt b = (s, (n : Int), 0) ∧ n = (enc s.length).length + s.length ∧ s.length ≤ 65536 ∧ b = enc s.length ++ s ++ b.drop n ∧ n ≤ b.length := by
  unfold tt at h ⊢
  by_cases h0 : (tc b 0 0).2.2 = 0
  · obtain ⟨w, e1, e2, e3⟩ := tc_ok hb h0
    rw [e1] at h ⊢
    simp only [ne_eq, not_true_eq_false, if_false] at h ⊢
    by_cases h1 : (65536 : Int) < w
    · simp [h1] at h
    · rw [if_neg h1] at h ⊢
      by_cases h2 : (b.length : Int) - ((enc w).length : Int) < w
      · simp [h2] at h
      · rw [if_neg h2]
        have e4 : ((enc w).length : Int) + (w : Int) = (((enc w).length + w : Nat) : Int) := by omega
        have hlen : (sub b ((enc w).length : Int) ((enc w).length + (w : Int))).length = w := by rw [sub_length _ _ _ (by omega)]; omega
        rw [e4] at hlen ⊢
        refine ⟨_, (enc w).length + w, rfl, by rw [hlen], by rw [hlen]; omega, ?_, by omega⟩
        rw [hlen, sub_nat]
        have : (b.take ((enc w).length + w)).drop (enc w).length = (b.drop (enc w).length).take w := by rw [List.drop_take, Nat.add_sub_cancel_left]
        rw [this, ← List.drop_drop, List.append_assoc, List.take_append_drop]
        exact e2
  · simp [h0] at h
/-! ### Count, Text -/
theorem ref1_Count_loop : ∀ (v : Nat) (s : List Int) (k : Nat), (enc v).length ≤ k → v < 2 ^ 64 → s.length + (enc v).length ≤ maxB →
    ∃ (u : Nat) (z : List Int), cofferref1_Count.l0 k (v : Int) s = some ((u : Int), s ++ z) ∧ u < 128 ∧ z ++ [(u : Int)] = enc v := by
  intro v
  induction v using Nat.strongRecOn with
  | ind v ih =>
    intro s k hk hv hf
    have hpv := enc_pos v
    obtain ⟨q, rfl⟩ : ∃ q, k = q + 1 := ⟨k - 1, by omega⟩
    unfold cofferref1_Count.l0
    by_cases h : v < 128
    · rw [if_neg (by simp; omega)]
      exact ⟨v, [], by simp, h, by rw [enc_lt h]; rfl⟩
    · rw [if_pos (by simp; omega)]
      have e1 : IntKind.u8.wrap (IntKind.u64.wrap ((v : Int).tmod 128 + 128)) = ((v % 128 + 128 : Nat) : Int) := by
        have : (v : Int).tmod 128 = ((v % 128 : Nat) : Int) := by rw [Int.tmod_eq_emod_of_nonneg (by omega)]; omega
        rw [this, wrapU (by omega) (by omega), wrap8 (by omega) (by omega)]; omega
      have e2 : IntKind.u64.wrap ((v : Int).tdiv 128) = ((v / 128 : Nat) : Int) := by
        have : (v : Int).tdiv 128 = ((v / 128 : Nat) : Int) := by rw [Int.tdiv_eq_ediv_of_nonneg (by omega)]; omega
        rw [this, wrapU (by omega) (by omega)]
      rw [e1, e2]
      rw [enc_ge h] at hf hk
      simp only [List.length_cons] at hf hk
      have hp := enc_pos (v / 128)
      rw [need_pos (by unfold fits; simp only [List.length_singleton]; omega)]
      obtain ⟨u, z, h1, h2, h3⟩ := ih (v / 128) (Nat.div_lt_self (by omega) (by omega)) (s ++ [((v % 128 + 128 : Nat) : Int)]) q (by omega) (by omega) (by simp; omega)
      refine ⟨u, ((v % 128 + 128 : Nat) : Int) :: z, by rw [h1]; simp, h2, ?_⟩
      rw [enc_ge h, ← h3]
      rfl
theorem enc_len : ∀ (n v : Nat), v < 128 ^ (n + 1) → (enc v).length ≤ n + 1
  | 0, v, h => by rw [enc_lt (by simpa using h)]; simp
  | n + 1, v, h => by
    by_cases h1 : v < 128
    · rw [enc_lt h1]; simp
    · rw [enc_ge h1]
      simp only [List.length_cons]
      have := enc_len n (v / 128) (by rw [Nat.pow_succ] at h; exact Nat.div_lt_of_lt_mul (by rw [Nat.mul_comm]; exact h))
      omega
theorem enc_len10 {v : Nat} (h : v < 2 ^ 64) : (enc v).length ≤ 10 := enc_len 9 v (Nat.lt_of_lt_of_le h (by decide))
theorem ref1_Count_is (s : List Int) (v : Nat) (hv : v < 2 ^ 64) (hs : s.length + 20 ≤ maxB) (k : Nat) (hk : 10 ≤ k) : cofferref1_Count.f k s (v : Int) = some (s ++ enc v) := by
  unfold cofferref1_Count.f
  have hl := enc_len10 hv
  rw [need_pos (by unfold fits; simp; omega)]
  obtain ⟨u, z, h1, h2, h3⟩ := ref1_Count_loop v s k (by omega) hv (by omega)
  simp only [List.nil_append]
  rw [h1]
  have hz : (s ++ z).length + 1 ≤ maxB := by
    have := congrArg List.length h3
    simp at this ⊢
    omega
  simp only [Option.bind_some]
  rw [wrap8 (x := (u : Int)) (by omega) (by omega), need_pos (by unfold fits; simpa using hz), ← h3]
  simp
end Go.Proofs.Ytbcipfhhmkjigaa
