/- SHA-256 of the document's answer as a total function. -/
import Derived.Test.YtbcipfhhmkjigaaPFZ
import Derived.Test.YtbcipfhhmkjigaaQM
set_option linter.unusedVariables false
set_option linter.unusedSimpArgs false
namespace Go.Proofs.Ytbcipfhhmkjigaa
open Go Go.Cf
abbrev W64 (x : Int) : Int := IntKind.u64.wrap x
/-- A word turned to the right, bit by bit. -/
def rotI : Nat → Int → Int
  | 0, x => x
  | n + 1, x => rotI n (IntKind.u64.wrap ((IntKind.u64.wrap (x.tdiv (2 : Int))) + (IntKind.u64.wrap ((x.tmod (2 : Int)) * (2147483648 : Int)))))
def downI : Nat → Int → Int
  | 0, x => x
  | n + 1, x => downI n (IntKind.u64.wrap (x.tdiv (2 : Int)))
theorem turn_l0_is (a1 : Int) (h1 : a1 ≤ 64) : ∀ (n i k : Nat) (x : Int), ((n + i : Nat) : Int) = a1 → n < k → cofferref2_turn.l0 a1 k x i = some (rotI n x) := by
  intro n
  induction n with
  | zero =>
    intro i k x hi hk
    obtain ⟨q, rfl⟩ : ∃ q, k = q + 1 := ⟨k - 1, by omega⟩
    rw [cofferref2_turn.l0, if_neg (by simp; omega)]
    rfl
  | succ n ih =>
    intro i k x hi hk
    obtain ⟨q, rfl⟩ : ∃ q, k = q + 1 := ⟨k - 1, by omega⟩
    rw [cofferref2_turn.l0, if_pos (by simp; omega), wrap_succ (i := i) (n := 64) (by omega) (by unfold maxB; omega)]
    exact ih (i + 1) q _ (by omega) (by omega)
theorem down_l0_is (a1 : Int) (h1 : a1 ≤ 64) : ∀ (n i k : Nat) (x : Int), ((n + i : Nat) : Int) = a1 → n < k → cofferref2_down.l0 a1 k x i = some (downI n x) := by
  intro n
  induction n with
  | zero =>
    intro i k x hi hk
    obtain ⟨q, rfl⟩ : ∃ q, k = q + 1 := ⟨k - 1, by omega⟩
    rw [cofferref2_down.l0, if_neg (by simp; omega)]
    rfl
  | succ n ih =>
    intro i k x hi hk
    obtain ⟨q, rfl⟩ : ∃ q, k = q + 1 := ⟨k - 1, by omega⟩
    rw [cofferref2_down.l0, if_pos (by simp; omega), wrap_succ (i := i) (n := 64) (by omega) (by unfold maxB; omega)]
    exact ih (i + 1) q _ (by omega) (by omega)
/-- The same, at one go. -/
def rot (n : Nat) (x : Int) : Int := if 0 ≤ x ∧ x < 4294967296 then ((x.toNat / 2 ^ n + (x.toNat % 2 ^ n) * 2 ^ (32 - n) : Nat) : Int) else rotI n x
def down (n : Nat) (x : Int) : Int := if 0 ≤ x ∧ x < 4294967296 then ((x.toNat / 2 ^ n : Nat) : Int) else downI n x
theorem rotI_snoc : ∀ (n : Nat) (x : Int), rotI (n + 1) x = IntKind.u64.wrap ((IntKind.u64.wrap ((rotI n x).tdiv (2 : Int))) + (IntKind.u64.wrap (((rotI n x).tmod (2 : Int)) * (2147483648 : Int))))
  | 0, x => rfl
  | n + 1, x => by rw [rotI, rotI_snoc n, rotI]
theorem downI_snoc : ∀ (n : Nat) (x : Int), downI (n + 1) x = IntKind.u64.wrap ((downI n x).tdiv (2 : Int))
  | 0, x => rfl
  | n + 1, x => by rw [downI, downI_snoc n, downI]
theorem rot_nat (x : Nat) (hx : x < 4294967296) : ∀ n, n ≤ 32 → rotI n x = ((x / 2 ^ n + (x % 2 ^ n) * 2 ^ (32 - n) : Nat) : Int) ∧ x / 2 ^ n + (x % 2 ^ n) * 2 ^ (32 - n) < 4294967296 := by
  intro n
  induction n with
  | zero => intro _; simp [rotI, Nat.mod_one]; exact hx
  | succ n ih =>
    intro hn
    obtain ⟨h1, h2⟩ := ih (by omega)
    obtain ⟨m, hm⟩ : ∃ m, n + 1 + m = 32 := ⟨32 - (n + 1), by omega⟩
    have e1 : 32 - n = m + 1 := by omega
    have e2 : 32 - (n + 1) = m := by omega
    rw [e1] at h1 h2
    rw [e2]
    have hp : (4294967296 : Nat) = 2 ^ n * 2 * 2 ^ m := by
      have : (4294967296 : Nat) = 2 ^ (n + 1 + m) := by rw [hm]
      rw [this, Nat.pow_add, Nat.pow_succ]
    generalize hP : 2 ^ n = P at *
    generalize hM : 2 ^ m = M at *
    have hPpos : 0 < P := by rw [← hP]; exact Nat.pow_pos (by decide)
    have hMpos : 0 < M := by rw [← hM]; exact Nat.pow_pos (by decide)
    have hP1 : 2 ^ (n + 1) = P * 2 := by rw [Nat.pow_succ, hP]
    have hM1 : 2 ^ (m + 1) = M * 2 := by rw [Nat.pow_succ, hM]
    rw [hP1]
    rw [hM1] at h1 h2
    -- x = q P + r, q = 2 q' + b
    have d1 : x / (P * 2) = x / P / 2 := by rw [Nat.div_div_eq_div_mul]
    have d2 : x % (P * 2) = x % P + P * (x / P % 2) := Nat.mod_mul
    generalize hq : x / P = q at *
    generalize hr : x % P = r at *
    have hrP : r < P := by rw [← hr]; exact Nat.mod_lt _ hPpos
    have key : q + r * (M * 2) = q % 2 + 2 * (q / 2 + r * M) := by
      have := Nat.mod_add_div q 2
      have e : r * (M * 2) = 2 * (r * M) := by rw [← Nat.mul_assoc, Nat.mul_comm]
      omega
    have hb : q % 2 < 2 := Nat.mod_lt _ (by decide)
    have v1 : (q + r * (M * 2)) / 2 = q / 2 + r * M := by omega
    have v2 : (q + r * (M * 2)) % 2 = q % 2 := by omega
    have hPM : P * M = 2147483648 := by
      have : P * 2 * M = 2 * (P * M) := by rw [Nat.mul_comm P 2, Nat.mul_assoc]
      omega
    have e3 : (r + P * (q % 2)) * M = r * M + q % 2 * 2147483648 := by
      rw [Nat.add_mul, ← hPM]
      congr 1
      rw [Nat.mul_comm P, Nat.mul_assoc]
    rw [d1, d2, e3]
    constructor
    · rw [rotI_snoc, h1]
      have t1 : ((q + r * (M * 2) : Nat) : Int).tdiv 2 = ((q / 2 + r * M : Nat) : Int) := by
        rw [← v1]; rfl
      have t2 : ((q + r * (M * 2) : Nat) : Int).tmod 2 = ((q % 2 : Nat) : Int) := by
        rw [← v2]; rfl
      rw [t1, t2, wrapU (x := ((q / 2 + r * M : Nat) : Int)) (by omega) (by omega), wrapU (x := ((q % 2 : Nat) : Int) * 2147483648) (by omega) (by omega), wrapU (by omega) (by omega)]
      omega
    · omega
theorem rot_is (n : Nat) (hn : n ≤ 32) (x : Int) : rotI n x = rot n x := by
  unfold rot
  split
  · next h =>
    have := (rot_nat x.toNat (by omega) n hn).1
    rw [show ((x.toNat : Nat) : Int) = x by omega] at this
    exact this
  · rfl
theorem down_nat (x : Nat) (hx : x < 4294967296) : ∀ n, downI n x = ((x / 2 ^ n : Nat) : Int) := by
  intro n
  induction n with
  | zero => simp [downI]
  | succ n ih =>
    rw [downI_snoc, ih, Nat.pow_succ, ← Nat.div_div_eq_div_mul]
    have hle : x / 2 ^ n ≤ x := Nat.div_le_self _ _
    generalize x / 2 ^ n = y at hle ⊢
    have t1 : ((y : Nat) : Int).tdiv 2 = ((y / 2 : Nat) : Int) := rfl
    rw [t1, wrapU (by omega) (by omega)]
theorem down_is (n : Nat) (x : Int) : downI n x = down n x := by
  unfold down
  split
  · next h =>
    have := down_nat x.toNat (by omega) n
    rw [show ((x.toNat : Nat) : Int) = x by omega] at this
    exact this
  · rfl
theorem turn_is (n : Nat) (hn : n ≤ 32) (k : Nat) (hk : n < k) (x : Int) : cofferref2_turn.f k x (n : Int) = some (rot n x) := by
  unfold cofferref2_turn.f
  have := turn_l0_is (n : Int) (by omega) n 0 k x (by simp) hk
  rw [show ((0 : Nat) : Int) = 0 from rfl] at this
  rw [this, rot_is n hn]
  rfl
theorem down_is' (n : Nat) (hn : n ≤ 32) (k : Nat) (hk : n < k) (x : Int) : cofferref2_down.f k x (n : Int) = some (down n x) := by
  unfold cofferref2_down.f
  have := down_l0_is (n : Int) (by omega) n 0 k x (by simp) hk
  rw [show ((0 : Nat) : Int) = 0 from rfl] at this
  rw [this, down_is n]
  rfl
end Go.Proofs.Ytbcipfhhmkjigaa
