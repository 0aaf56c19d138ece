/- Numbers and texts as bytes: what the printed functions answer, in plain words. -/
import Derived.Test.YtbcipfhhmkjigaaQA
import Derived.Test.YtbcipfhhmkjigaaPFZ
set_option linter.unusedVariables false
set_option linter.unusedSimpArgs false
namespace Go.Proofs.Ytbcipfhhmkjigaa
open Go Go.Cf

/-- The number at a list's beginning: its value, how many bytes, an error. -/
def tc : List Int → Nat → Int → Int × Int × Int
  | [], _, _ => (0, 0, 3)
  | c :: r, i, v => if (i = 9 ∧ 1 < c) ∨ (c = 0 ∧ 0 < i) then (0, 0, 4) else if c < 128 then (v + c * 128 ^ i, (i : Int) + 1, 0) else tc r (i + 1) (v + (c - 128) * 128 ^ i)
/-- As the printed loops have it. -/
def tcS (b : List Int) (i : Nat) (v : Int) : Sum (Int × Int × Int) Unit := if tc b i v = (0, 0, 3) then .inr () else .inl (tc b i v)
theorem tc_three : ∀ (b : List Int) (i : Nat) (v : Int), (tc b i v).2.2 = 3 → tc b i v = (0, 0, 3)
  | [], _, _, _ => rfl
  | c :: r, i, v, h => by
    unfold tc at *
    split at h
    · cases h
    · split at h
      · cases h
      · next h1 h2 => rw [if_neg h1, if_neg h2]; exact tc_three _ _ _ h
theorem pow128 (i : Nat) : (128 : Int) ^ i = ((2 ^ (7 * i) : Nat) : Int) := by
  rw [Nat.pow_mul, Int.natCast_pow]; rfl
theorem pow_le_9 {i : Nat} (h : i ≤ 9) : 2 ^ (7 * i) ≤ 2 ^ 63 := Nat.pow_le_pow_right (by omega) (by omega)

theorem octet_tc_loop (b : List Int) (hb : IsB b) (hl : b.length ≤ maxB) : ∀ (n i : Nat) (v : Int) (k : Nat), n + i = b.length → n < k → i ≤ 9 → 0 ≤ v → v < 128 ^ i →
    octet_TakeCount.l0 b k v i = some (if (tc (b.drop i) i v).2.2 = 3 then .inr () else .inl (tc (b.drop i) i v)) := by
  intro n
  induction n with
  | zero =>
    intro i v k hn hk hi hv0 hv
    obtain ⟨q, rfl⟩ : ∃ q, k = q + 1 := ⟨k - 1, by omega⟩
    unfold octet_TakeCount.l0
    rw [if_neg (by simp; omega), List.drop_eq_nil_of_le (by omega)]
    simp [tc]
  | succ n ih =>
    intro i v k hn hk hi hv0 hv
    obtain ⟨q, rfl⟩ : ∃ q, k = q + 1 := ⟨k - 1, by omega⟩
    have hlt : i < b.length := by omega
    have hc := hb.get hlt
    unfold octet_TakeCount.l0
    rw [if_pos (by simp; omega), need_pos (by omega), drop_cons hlt 0]
    simp only [Int.toNat_natCast, (show (rInt .u8).zeroD = 0 from rfl)]
    generalize b.getD i 0 = c at hc ⊢
    obtain ⟨m, rfl⟩ : ∃ m : Nat, c = m := ⟨c.toNat, by omega⟩
    obtain ⟨u, rfl⟩ : ∃ u : Nat, v = u := ⟨v.toNat, by omega⟩
    unfold maxB at hl
    have h7 : IntKind.u64.wrap (7 * IntKind.u64.wrap (i : Int)) = ((7 * i : Nat) : Int) := by
      rw [wrapU (x := (i : Int)) (by omega) (by omega), wrapU (by omega) (by omega)]; omega
    have hand : iand .u8 (m : Int) 127 = ((m % 128 : Nat) : Int) := by
      have := iand8_nat m 127 (by omega) (by omega)
      rw [Nat.and_two_pow_sub_one_eq_mod m 7] at this
      exact this
    rw [pow128] at hv
    by_cases h9 : i = 9 ∧ (1 : Int) < m
    · simp [tc, h9]
    · by_cases h0 : (m : Int) = 0 ∧ 0 < i
      · have e1 : tc ((m : Int) :: b.drop (i + 1)) i u = (0, 0, 4) := by unfold tc; rw [if_pos (.inr h0)]
        rw [e1]
        have hm : m = 0 := by omega
        subst hm
        have hi0 : ((i : Int) = 0) = False := by simp; omega
        by_cases e9 : (i : Int) = 9 <;> simp [e9, h0.2] <;> omega
      · have a1 : (if decide ((i : Int) = 9) = true then some (decide (1 < (m : Int))) else some false) = some false := by
          by_cases a : (i : Int) = 9 <;> simp [a] <;> omega
        have a2 : (if decide ((m : Int) = 0) = true then some (decide (0 < (i : Int))) else some false) = some false := by
          by_cases b : (m : Int) = 0 <;> simp [b] <;> omega
        have hor : ¬ ((i = 9 ∧ 1 < (m : Int)) ∨ ((m : Int) = 0 ∧ 0 < i)) := by
          rintro (h | h)
          · exact h9 h
          · exact h0 h
        have hsum : ior .u64 (u : Int) (ishl .u64 (iand .u8 (m : Int) 127) (IntKind.u64.wrap (7 * IntKind.u64.wrap (i : Int)))) = (u : Int) + ((m % 128 : Nat) : Int) * 128 ^ i := by
          rw [hand, h7, pow128]
          have hb2 : m % 128 * 2 ^ (7 * i) < 2 ^ 64 := by
            by_cases e9 : i = 9
            · have : m ≤ 1 := by omega
              subst e9
              have : m % 128 ≤ 1 := by omega
              calc m % 128 * 2 ^ (7 * 9) ≤ 1 * 2 ^ (7 * 9) := Nat.mul_le_mul_right _ this
                _ < 2 ^ 64 := by decide
            · have : 2 ^ (7 * i) ≤ 2 ^ 56 := Nat.pow_le_pow_right (by omega) (by omega)
              calc m % 128 * 2 ^ (7 * i) ≤ 127 * 2 ^ 56 := Nat.mul_le_mul (by omega) this
                _ < 2 ^ 64 := by decide
          rw [ior_shift u (m % 128) (7 * i) (Int.ofNat_lt.1 hv) (by omega) hb2]
          rw [Int.natCast_add, Int.natCast_mul]
        rw [a1, a2]
        simp only [Option.bind_some, Bool.false_eq_true, if_false]
        rw [need_pos (by rw [h7]; omega), hsum]
        have hw1 : IntKind.i64.wrap ((i : Int) + 1) = ((i + 1 : Nat) : Int) := by rw [wrapI (by omega) (by omega)]; omega
        unfold tc
        rw [if_neg hor]
        by_cases hlt128 : (m : Int) < 128
        · have hm : m % 128 = m := Nat.mod_eq_of_lt (by omega)
          rw [if_pos (by simpa using hlt128), if_pos hlt128, hw1, hm]
          simp
        · have hm : ((m % 128 : Nat) : Int) = (m : Int) - 128 := by omega
          rw [if_neg (by simpa using hlt128), if_neg hlt128, hw1, hm]
          have hi8 : i + 1 ≤ 9 := by
            rcases Nat.lt_or_ge i 9 with h | h
            · omega
            · exfalso; apply h9; omega
          refine ih (i + 1) _ q (by omega) (by omega) hi8 ?_ ?_
          · have h2 : (0 : Int) ≤ ((m : Int) - 128) * 128 ^ i := Int.mul_nonneg (by omega) (by rw [pow128]; omega)
            omega
          · have h3 : (128 : Int) ^ (i + 1) = 128 * 128 ^ i := by rw [Int.pow_succ, Int.mul_comm]
            have h4 : ((m : Int) - 128) * 128 ^ i ≤ 127 * 128 ^ i := Int.mul_le_mul_of_nonneg_right (by omega) (by rw [pow128]; omega)
            rw [h3]
            rw [pow128] at *
            omega
theorem octet_TakeCount_is (b : List Int) (hb : IsB b) (hl : b.length ≤ maxB) (k : Nat) (hk : b.length < k) : octet_TakeCount.f k b = some (tc b 0 0) := by
  unfold octet_TakeCount.f
  have h := octet_tc_loop b hb hl b.length 0 0 k (by omega) hk (by omega) (by omega) (by simp)
  simp only [Int.natCast_zero, List.drop_zero] at h
  rw [show ((0 : Int)) = ((0 : Nat) : Int) from rfl] at h ⊢
  rw [h]
  by_cases h3 : (tc b 0 0).2.2 = 3
  · have := tc_three _ _ _ h3
    simp [h3]
    exact this.symm
  · simp [h3]
theorem ref1_tc_loop (b : List Int) (hb : IsB b) (hl : b.length ≤ maxB) : ∀ (n i : Nat) (v : Int) (k : Nat), n + i = b.length → n < k → i ≤ 9 → 0 ≤ v → v < 128 ^ i →
    cofferref1_TakeCount.l0 b k v (128 ^ i) i = some (if (tc (b.drop i) i v).2.2 = 3 then .inr () else .inl (tc (b.drop i) i v)) := by
  intro n
  induction n with
  | zero =>
    intro i v k hn hk hi hv0 hv
    obtain ⟨q, rfl⟩ : ∃ q, k = q + 1 := ⟨k - 1, by omega⟩
    unfold cofferref1_TakeCount.l0
    rw [if_neg (by simp; omega), List.drop_eq_nil_of_le (by omega)]
    simp [tc]
  | succ n ih =>
    intro i v k hn hk hi hv0 hv
    obtain ⟨q, rfl⟩ : ∃ q, k = q + 1 := ⟨k - 1, by omega⟩
    have hlt : i < b.length := by omega
    have hc := hb.get hlt
    unfold cofferref1_TakeCount.l0
    rw [if_pos (by simp; omega), need_pos (by omega), drop_cons hlt 0]
    simp only [Int.toNat_natCast, (show (rInt .u8).zeroD = 0 from rfl)]
    generalize b.getD i 0 = c at hc ⊢
    unfold maxB at hl
    have hp := pow_le_9 hi
    rw [pow128] at hv ⊢
    generalize hP : 2 ^ (7 * i) = P at hv hp ⊢
    have hP9 : i ≤ 8 → P ≤ 2 ^ 56 := fun h => by rw [← hP]; exact Nat.pow_le_pow_right (by omega) (by omega)
    have hP0 : 0 < P := by rw [← hP]; exact Nat.two_pow_pos _
    by_cases h9 : i = 9 ∧ (1 : Int) < c
    · simp [tc, h9]
    · have a1 : (if decide ((i : Int) = 9) = true then some (decide (1 < c)) else some false) = some false := by
        by_cases a : (i : Int) = 9 <;> simp [a] <;> omega
      rw [a1]
      simp only [Option.bind_some, Bool.false_eq_true, if_false]
      have hw1 : IntKind.i64.wrap ((i : Int) + 1) = ((i + 1 : Nat) : Int) := by rw [wrapI (by omega) (by omega)]; omega
      by_cases hlt128 : c < 128
      · rw [if_pos (by simpa using hlt128)]
        by_cases h0 : c = 0 ∧ 0 < i
        · have e1 : tc (c :: b.drop (i + 1)) i v = (0, 0, 4) := by unfold tc; rw [if_pos (.inr h0)]
          rw [e1]
          simp [h0.1]
          omega
        · have a2 : (if decide (c = 0) = true then some (decide (0 < (i : Int))) else some false) = some false := by
            by_cases b : c = 0 <;> simp [b] <;> omega
          have hor : ¬ ((i = 9 ∧ 1 < c) ∨ (c = 0 ∧ 0 < i)) := by
            rintro (h | h)
            · exact h9 h
            · exact h0 h
          have hcp : 0 ≤ c * (P : Int) ∧ c * (P : Int) + (P : Int) ≤ 18446744073709551616 := by
            refine ⟨Int.mul_nonneg hc.1 (by omega), ?_⟩
            by_cases e9 : i = 9
            · have : c ≤ 1 := by omega
              have h2 : c * (P : Int) ≤ 1 * P := Int.mul_le_mul_of_nonneg_right this (by omega)
              omega
            · have h1 := hP9 (by omega)
              have h2 : c * (P : Int) ≤ 127 * P := Int.mul_le_mul_of_nonneg_right (by omega) (by omega)
              omega
          rw [a2]
          unfold tc
          rw [if_neg hor, if_pos hlt128, hw1, wrapU (x := c * (P : Int)) (by omega) (by omega), wrapU (by omega) (by omega), pow128, hP]
          simp
      · rw [if_neg (by simpa using hlt128)]
        have hi8 : i ≤ 8 := by
          rcases Nat.lt_or_ge i 9 with h | h
          · omega
          · exfalso; apply h9; omega
        have hor : ¬ ((i = 9 ∧ 1 < c) ∨ (c = 0 ∧ 0 < i)) := by omega
        have h1 := hP9 hi8
        have h2 : (c - 128) * (P : Int) ≤ 127 * P := Int.mul_le_mul_of_nonneg_right (by omega) (by omega)
        have h3 : 0 ≤ (c - 128) * (P : Int) := Int.mul_nonneg (by omega) (by omega)
        have hPi : (128 : Int) ^ i = (P : Int) := by rw [pow128, hP]
        have hu : IntKind.u64.wrap ((P : Int) * 128) = 128 ^ (i + 1) := by
          rw [wrapU (by omega) (by omega), Int.pow_succ, pow128, hP]
        unfold tc
        rw [if_neg hor, if_neg hlt128, hw1, wrapU (x := c - 128) (by omega) (by omega), wrapU (x := (c - 128) * (P : Int)) (by omega) (by omega), wrapU (by omega) (by omega), hu, hPi]
        refine ih (i + 1) _ q (by omega) (by omega) (by omega) (by omega) ?_
        rw [Int.pow_succ, pow128, hP]
        omega
theorem ref1_TakeCount_is (b : List Int) (hb : IsB b) (hl : b.length ≤ maxB) (k : Nat) (hk : b.length < k) : cofferref1_TakeCount.f k b = some (tc b 0 0) := by
  unfold cofferref1_TakeCount.f
  have h := ref1_tc_loop b hb hl b.length 0 0 k (by omega) hk (by omega) (by omega) (by simp)
  simp only [List.drop_zero, Int.pow_zero] at h
  rw [show ((0 : Int)) = ((0 : Nat) : Int) from rfl] at h ⊢
  rw [h]
  by_cases h3 : (tc b 0 0).2.2 = 3
  · have := tc_three _ _ _ h3
    simp [h3]
    exact this.symm
  · simp [h3]
/-- A number as bytes. -/
def enc (v : Nat) : List Int := if v < 128 then [(v : Int)] else ((v % 128 + 128 : Nat) : Int) :: enc (v / 128)
  decreasing_by exact Nat.div_lt_self (by omega) (by omega)
theorem enc_lt {v : Nat} (h : v < 128) : enc v = [(v : Int)] := by rw [enc, if_pos h]
theorem enc_ge {v : Nat} (h : ¬ v < 128) : enc v = ((v % 128 + 128 : Nat) : Int) :: enc (v / 128) := by rw [enc, if_neg h]
theorem enc_isB (v : Nat) : IsB (enc v) := by
  induction v using Nat.strongRecOn with
  | ind v ih =>
    by_cases h : v < 128
    · rw [enc_lt h]; intro x hx; simp at hx; omega
    · rw [enc_ge h]
      intro x hx
      rcases List.mem_cons.1 hx with rfl | hx
      · omega
      · exact ih _ (Nat.div_lt_self (by omega) (by omega)) x hx
theorem enc_pos (v : Nat) : 0 < (enc v).length := by
  by_cases h : v < 128
  · rw [enc_lt h]; simp
  · rw [enc_ge h]; simp
/-- What is read is just what would be written. -/
theorem tc_enc : ∀ (b : List Int) (i : Nat) (v : Int), IsB b → ∀ (r : Int × Int), tc b i v = (r.1, r.2, 0) → ∃ (w : Nat), b = enc w ++ b.drop (enc w).length ∧ r.1 = v + (w : Int) * 128 ^ i ∧ r.2 = (i : Int) + ((enc w).length : Int) ∧ (0 < i → 0 < w)
  | [], i, v, _, r, h => by simp [tc] at h
  | c :: b, i, v, hb, r, h => by
    have hc := hb c (by simp)
    unfold tc at h
    split at h
    · simp at h
    · next h1 =>
      split at h
      · next h2 =>
        simp only [Prod.mk.injEq] at h
        obtain ⟨m, rfl⟩ : ∃ m : Nat, c = m := ⟨c.toNat, by omega⟩
        refine ⟨m, ?_, h.1.symm, ?_, fun hi => ?_⟩
        · rw [enc_lt (by omega)]; simp
        · rw [enc_lt (by omega)]; simp; omega
        · rcases Nat.eq_zero_or_pos m with e | e
          · subst e; exact absurd (.inr ⟨rfl, hi⟩) h1
          · exact e
      · next h2 =>
        obtain ⟨w, e1, e2, e3, e4⟩ := tc_enc b (i + 1) _ (fun x hx => hb x (by simp [hx])) r h
        obtain ⟨m, rfl⟩ : ∃ m : Nat, c = m := ⟨c.toNat, by omega⟩
        have hw := e4 (by omega)
        have hge : ¬ (128 * w + (m - 128)) < 128 := by omega
        have hmod : (128 * w + (m - 128)) % 128 + 128 = m := by omega
        have hdiv : (128 * w + (m - 128)) / 128 = w := by omega
        refine ⟨128 * w + (m - 128), ?_, ?_, ?_, fun _ => by omega⟩
        · rw [enc_ge hge, hmod, hdiv]
          simpa using e1
        · rw [e2, Int.pow_succ]
          have : (((128 * w + (m - 128) : Nat)) : Int) = 128 * (w : Int) + ((m : Int) - 128) := by omega
          rw [this, Int.add_mul]
          have : (w : Int) * (128 ^ i * 128) = 128 * (w : Int) * 128 ^ i := by rw [Int.mul_comm (128 ^ i) 128, ← Int.mul_assoc, Int.mul_comm (w : Int) 128]
          omega
        · rw [e3, enc_ge hge, hdiv]
          simp
          omega
theorem tc_enc0 {b : List Int} (hb : IsB b) {v n : Int} (h : tc b 0 0 = (v, n, 0)) : ∃ w : Nat, v = w ∧ n = (enc w).length ∧ b = enc w ++ b.drop (enc w).length := by
  obtain ⟨w, e1, e2, e3, _⟩ := tc_enc b 0 0 hb (v, n) h
  exact ⟨w, by simpa using e2, by simpa using e3, e1⟩
/-- And back. -/
theorem tc_of_enc : ∀ (w i : Nat) (v : Int) (r : List Int), (0 < i → 0 < w) → w * 128 ^ i < 2 ^ 64 → tc (enc w ++ r) i v = (v + (w : Int) * 128 ^ i, (i : Int) + ((enc w).length : Int), 0) := by
  intro w
  induction w using Nat.strongRecOn with
  | ind w ih =>
    intro i v r hi hlt
    have h9 : i ≤ 9 ∨ w = 0 := by
      rcases Nat.lt_or_ge i 10 with h | h
      · exact .inl (by omega)
      · rcases Nat.eq_zero_or_pos w with e | e
        · exact .inr e
        · exfalso
          have h1 : 128 ^ 10 ≤ 128 ^ i := Nat.pow_le_pow_right (by omega) h
          have h2 : 1 * 128 ^ i ≤ w * 128 ^ i := Nat.mul_le_mul_right _ e
          have h3 : (2 : Nat) ^ 64 < 128 ^ 10 := by decide
          omega
    have hw9 : i = 9 → w ≤ 1 := fun e => by
      subst e
      have : (128 : Nat) ^ 9 = 2 ^ 63 := by decide
      rw [this] at hlt
      omega
    by_cases h : w < 128
    · rw [enc_lt h]
      simp only [List.singleton_append, tc]
      rw [if_neg ?_, if_pos (by omega)]
      · simp
      · rintro (⟨e, h1⟩ | ⟨e, h1⟩)
        · have := hw9 e; omega
        · have := hi h1; omega
    · rw [enc_ge h]
      simp only [List.cons_append, tc]
      rw [if_neg ?_, if_neg (by omega)]
      · rw [ih (w / 128) (Nat.div_lt_self (by omega) (by omega)) (i + 1) _ r (fun _ => by omega) ?_]
        · refine Prod.ext ?_ (Prod.ext ?_ rfl)
          · simp only
            have e1 : (w : Int) = 128 * ((w / 128 : Nat) : Int) + ((w % 128 : Nat) : Int) := by omega
            have e2 : (((w % 128 + 128 : Nat) : Int) - 128) = ((w % 128 : Nat) : Int) := by omega
            rw [e2, Int.pow_succ]
            conv => rhs; rw [e1]
            rw [Int.add_mul]
            have : ((w / 128 : Nat) : Int) * (128 ^ i * 128) = 128 * ((w / 128 : Nat) : Int) * 128 ^ i := by rw [Int.mul_comm (128 ^ i) 128, ← Int.mul_assoc, Int.mul_comm _ 128]
            omega
          · simp; omega
        · rw [Nat.pow_succ, Nat.mul_comm (128 ^ i) 128, ← Nat.mul_assoc]
          exact Nat.lt_of_le_of_lt (Nat.mul_le_mul_right _ (Nat.div_mul_le_self w 128)) hlt
      · rintro (⟨e, _⟩ | ⟨e, _⟩)
        · have := hw9 e; omega
        · omega
theorem tc_of_enc0 {w : Nat} (h : w < 2 ^ 64) (r : List Int) : tc (enc w ++ r) 0 0 = ((w : Int), ((enc w).length : Int), 0) := by
  rw [tc_of_enc w 0 0 r (by omega) (by simpa using h)]; simp
end Go.Proofs.Ytbcipfhhmkjigaa
