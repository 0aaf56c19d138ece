/- SHA-256 of the document's answer as a total function: the whole. -/
import Derived.Test.YtbcipfhhmkjigaaQI
set_option linter.unusedVariables false
set_option linter.unusedSimpArgs false
namespace Go.Proofs.Ytbcipfhhmkjigaa
open Go Go.Cf
theorem tdiv4 (i : Nat) : IntKind.i64.wrap (((i : Nat) : Int).tdiv 4) = ((i / 4 : Nat) : Int) ∨ 9223372036854775808 ≤ i := by
  rcases Nat.lt_or_ge i 9223372036854775808 with h | h
  · left
    rw [show ((i : Nat) : Int).tdiv 4 = ((i / 4 : Nat) : Int) from rfl]
    exact wrapI (by omega) (by omega)
  · exact .inr h
theorem Sum_l3_is (p : List Int) (a : Nat) (ha : a * 64 + 64 ≤ p.length) (hp : p.length ≤ 1000000000) : ∀ (n i k : Nat) (w : List Int), n + i = 64 → n < k → cofferref2_Sum.l3 ((a * 64 : Nat) : Int) p k w i = some (turns (mNew ((a * 64 : Nat) : Int) p) n i w) := by
  intro n
  induction n with
  | zero =>
    intro i k w hi hk
    obtain ⟨q, rfl⟩ : ∃ q, k = q + 1 := ⟨k - 1, by omega⟩
    rw [cofferref2_Sum.l3, if_neg (by simp; omega)]
    rfl
  | succ n ih =>
    intro i k w hi hk
    obtain ⟨q, rfl⟩ : ∃ q, k = q + 1 := ⟨k - 1, by omega⟩
    have e1 : IntKind.i64.wrap (((i : Nat) : Int).tdiv 4) = ((i / 4 : Nat) : Int) := (tdiv4 i).resolve_right (by omega)
    have e2 : IntKind.i64.wrap (((a * 64 : Nat) : Int) + (i : Int)) = ((a * 64 + i : Nat) : Int) := by rw [wrapI (by omega) (by omega)]; omega
    rw [cofferref2_Sum.l3, if_pos (by simp; omega), need_pos (by rw [e1]; omega), need_pos (by rw [e2]; omega), need_pos (by rw [e1]; omega), wrap_succ (i := i) (n := 64) (by omega) (by unfold maxB; omega)]
    exact ih (i + 1) q _ (by omega) (by omega)
theorem Sum_l4_is (h : List Int) : ∀ (n i k : Nat) (w : List Int), n + i = 32 → n < k → cofferref2_Sum.l4 h k w i = some (turns (oNew h) n i w) := by
  intro n
  induction n with
  | zero =>
    intro i k w hi hk
    obtain ⟨q, rfl⟩ : ∃ q, k = q + 1 := ⟨k - 1, by omega⟩
    rw [cofferref2_Sum.l4, if_neg (by simp; omega)]
    rfl
  | succ n ih =>
    intro i k w hi hk
    obtain ⟨q, rfl⟩ : ∃ q, k = q + 1 := ⟨k - 1, by omega⟩
    have e1 : IntKind.i64.wrap (((i : Nat) : Int).tdiv 4) = ((i / 4 : Nat) : Int) := (tdiv4 i).resolve_right (by omega)
    have e3 : ((i : Nat) : Int).tmod 4 = ((i % 4 : Nat) : Int) := rfl
    have hm : i % 4 < 4 := Nat.mod_lt _ (by decide)
    have e4 : IntKind.i64.wrap ((8 : Int) * ((i % 4 : Nat) : Int)) = ((8 * (i % 4) : Nat) : Int) := by rw [wrapI (by omega) (by omega)]; omega
    have e5 : IntKind.i64.wrap ((24 : Int) - ((8 * (i % 4) : Nat) : Int)) = ((24 - 8 * (i % 4) : Nat) : Int) := by rw [wrapI (by omega) (by omega)]; omega
    rw [cofferref2_Sum.l4, if_pos (by simp; omega), need_pos (by rw [e1]; omega), need_pos (by rw [e3, e4, e5]; omega), need_pos (by omega), wrap_succ (i := i) (n := 64) (by omega) (by unfold maxB; omega)]
    exact ih (i + 1) q _ (by omega) (by omega)
theorem Sum_l1_is (a0 : List Int) : ∀ (n i k : Nat) (s : List Int), n + i = 8 → n < k → s.length ≤ 1000000000 + i → cofferref2_Sum.l1 a0 k s i = some (turns (nNew a0) n i s) := by
  intro n
  induction n with
  | zero =>
    intro i k w hi hk hl
    obtain ⟨q, rfl⟩ : ∃ q, k = q + 1 := ⟨k - 1, by omega⟩
    rw [cofferref2_Sum.l1, if_neg (by simp; omega)]
    rfl
  | succ n ih =>
    intro i k w hi hk hl
    obtain ⟨q, rfl⟩ : ∃ q, k = q + 1 := ⟨k - 1, by omega⟩
    have e4 : IntKind.i64.wrap ((8 : Int) * ((i : Nat) : Int)) = ((8 * i : Nat) : Int) := by rw [wrapI (by omega) (by omega)]; omega
    have e5 : IntKind.i64.wrap ((56 : Int) - ((8 * i : Nat) : Int)) = ((56 - 8 * i : Nat) : Int) := by rw [wrapI (by omega) (by omega)]; omega
    rw [cofferref2_Sum.l1, if_pos (by simp; omega), need_pos (by rw [e4, e5]; omega), need_pos (by unfold fits maxB; simp; omega), wrap_succ (i := i) (n := 64) (by omega) (by unfold maxB; omega)]
    exact ih (i + 1) q _ (by omega) (by omega) (by simp; omega)
theorem Sum_l0_is : ∀ (z k : Nat) (s : List Int), z = (120 - s.length % 64) % 64 → z < k → s.length + z ≤ 1000000 → cofferref2_Sum.l0 k s = some (s ++ List.replicate z 0) := by
  intro z
  induction z with
  | zero =>
    intro k s hz hk hl
    obtain ⟨q, rfl⟩ : ∃ q, k = q + 1 := ⟨k - 1, by omega⟩
    have hm : ((s.length : Nat) : Int).tmod 64 = ((s.length % 64 : Nat) : Int) := rfl
    have h56 : s.length % 64 = 56 := by have := Nat.mod_lt s.length (show 0 < 64 by decide); omega
    rw [cofferref2_Sum.l0, if_neg (by rw [hm, h56]; decide)]
    simp
  | succ z ih =>
    intro k s hz hk hl
    obtain ⟨q, rfl⟩ : ∃ q, k = q + 1 := ⟨k - 1, by omega⟩
    have hm : ((s.length : Nat) : Int).tmod 64 = ((s.length % 64 : Nat) : Int) := rfl
    have h56 : s.length % 64 ≠ 56 := by intro h; rw [h] at hz; omega
    have hlt := Nat.mod_lt s.length (show 0 < 64 by decide)
    rw [cofferref2_Sum.l0, if_pos (by rw [hm]; simp; omega), need_pos (by unfold fits maxB; simp; omega)]
    have hl2 : (s ++ [(0 : Int)]).length = s.length + 1 := by simp
    rw [ih q (s ++ [0]) (by rw [hl2]; omega) (by omega) (by rw [hl2]; omega)]
    rw [List.append_assoc, List.replicate_succ]
    rfl
theorem Sum_l2_is (p : List Int) (hp : p.length ≤ 1000000000) (h64 : p.length % 64 = 0) : ∀ (n a k : Nat) (h : List Int), n + a = p.length / 64 → n + 300 < k → cofferref2_Sum.l2 p shaK k h ((a * 64 : Nat) : Int) = some (shaBlocks p n a h) := by
  intro n
  induction n with
  | zero =>
    intro a k h hi hk
    obtain ⟨q, rfl⟩ : ∃ q, k = q + 1 := ⟨k - 1, by omega⟩
    rw [cofferref2_Sum.l2, if_neg (by simp; omega)]
    rfl
  | succ n ih =>
    intro a k h hi hk
    obtain ⟨q, rfl⟩ : ∃ q, k = q + 1 := ⟨k - 1, by omega⟩
    have e := Sum_l3_is p a (by omega) hp 64 0 q (rArr 64 (rInt .u64)).zeroD (by omega) (by omega)
    rw [show ((0 : Nat) : Int) = 0 from rfl] at e
    rw [cofferref2_Sum.l2, if_pos (by simp; omega), e]
    simp only [Option.bind_some]
    rw [block_is _ _ _ q (by omega)]
    simp only [Option.bind_some]
    have e2 : IntKind.i64.wrap (((a * 64 : Nat) : Int) + 64) = (((a + 1) * 64 : Nat) : Int) := by rw [wrapI (by omega) (by omega)]; omega
    rw [e2]
    exact ih (a + 1) q _ (by omega) (by omega)
theorem nNew_len (a0 l : List Int) (i : Int) : (nNew a0 l i).length = l.length + 1 := by simp [nNew]
theorem turns_nNew (a0 : List Int) : ∀ n i l, (turns (nNew a0) n i l).length = l.length + n
  | 0, _, _ => rfl
  | n + 1, i, l => by rw [turns, turns_nNew a0 n, nNew_len]; omega
/-- The document's sum is that. -/
theorem Sum_is (b : List Int) (hb : b.length ≤ 900000) (k : Nat) (hk : b.length + 1000 ≤ k) : cofferref2_Sum.f k b = some (sha b) := by
  unfold cofferref2_Sum.f
  rw [show cofferref2_keys.f = some shaK from rfl]
  simp only [Option.bind_some, List.nil_append]
  rw [need_pos (by unfold fits maxB; simp; omega), need_pos (by unfold fits maxB; simp; omega)]
  have e0 := Sum_l0_is ((120 - (b ++ [128]).length % 64) % 64) k (b ++ [128]) rfl (by have := Nat.mod_lt (120 - (b ++ [128]).length % 64) (show 0 < 64 by decide); omega) (by have := Nat.mod_lt (120 - (b ++ [(128 : Int)]).length % 64) (show 0 < 64 by decide); simp at this ⊢; omega)
  rw [e0]
  simp only [Option.bind_some]
  have hz : (120 - (b ++ [(128 : Int)]).length % 64) % 64 < 64 := Nat.mod_lt _ (by decide)
  have e1 := Sum_l1_is b 8 0 k (b ++ [128] ++ List.replicate ((120 - (b ++ [128]).length % 64) % 64) 0) rfl (by omega) (by
    simp only [List.length_append, List.length_replicate, List.length_singleton] at hz ⊢; omega)
  rw [show ((0 : Nat) : Int) = 0 from rfl] at e1
  rw [e1]
  simp only [Option.bind_some]
  have hpl : (shaPad b).length = b.length + 1 + (120 - (b.length + 1) % 64) % 64 + 8 := by
    unfold shaPad
    rw [turns_nNew]
    simp
    omega
  have hp : turns (nNew b) 8 0 (b ++ [128] ++ List.replicate ((120 - (b ++ [128]).length % 64) % 64) 0) = shaPad b := rfl
  rw [hp]
  have h1 := Nat.mod_lt (b.length + 1) (show 0 < 64 by decide)
  have e2 := Sum_l2_is (shaPad b) (by omega) (by omega) ((shaPad b).length / 64) 0 k shaH0 (by omega) (by omega)
  rw [show ((0 * 64 : Nat) : Int) = 0 from rfl] at e2
  rw [show shaH0 = [(1779033703 : Int), (3144134277 : Int), (1013904242 : Int), (2773480762 : Int), (1359893119 : Int), (2600822924 : Int), (528734635 : Int), (1541459225 : Int)] from rfl] at e2
  rw [e2]
  simp only [Option.bind_some]
  have e3 := Sum_l4_is (shaBlocks (shaPad b) ((shaPad b).length / 64) 0 shaH0) 32 0 k (rArr 32 (rInt .u8)).zeroD rfl (by omega)
  rw [show ((0 : Nat) : Int) = 0 from rfl] at e3
  rw [show shaH0 = [(1779033703 : Int), (3144134277 : Int), (1013904242 : Int), (2773480762 : Int), (1359893119 : Int), (2600822924 : Int), (528734635 : Int), (1541459225 : Int)] from rfl] at e3
  rw [e3]
  rfl
end Go.Proofs.Ytbcipfhhmkjigaa
