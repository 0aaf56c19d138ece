/- Plain laws on numbers and fuel. No program in sight. -/
import Derived.Test.YtbcipfhhmkjigaaCfO
set_option linter.unusedVariables false
set_option linter.unusedSimpArgs false
namespace Go.Cf
open Go
variable {α β γ δ : Type}

theorem wrapI {x : Int} (h0 : -9223372036854775808 ≤ x) (h1 : x < 9223372036854775808) : IntKind.i64.wrap x = x := by
  simp only [IntKind.wrap, IntKind.signed, IntKind.bits]; simp <;> omega
theorem wrapU {x : Int} (h0 : 0 ≤ x) (h1 : x < 18446744073709551616) : IntKind.u64.wrap x = x := by
  simp only [IntKind.wrap, IntKind.signed, IntKind.bits]; simp <;> omega
theorem wrap8 {x : Int} (h0 : 0 ≤ x) (h1 : x < 256) : IntKind.u8.wrap x = x := by
  simp only [IntKind.wrap, IntKind.signed, IntKind.bits]; simp <;> omega
theorem wrap8_mod (x : Int) : IntKind.u8.wrap x = x % 256 := by
  simp only [IntKind.wrap, IntKind.signed, IntKind.bits]; simp
theorem wrapU_mod (x : Int) : IntKind.u64.wrap x = x % 18446744073709551616 := by
  simp only [IntKind.wrap, IntKind.signed, IntKind.bits]; simp

/-- From some number of rounds on it is so. -/
def Ev (f : Nat → Option α) (r : α) : Prop := ∃ K, ∀ k, K ≤ k → f k = some r
theorem Ev.mk' {f : Nat → Option α} {r : α} (h : ∀ k, f k = some r) : Ev f r := ⟨0, fun k _ => h k⟩
theorem Ev.bind {f : Nat → Option α} {g : Nat → α → Option β} {a : α} {b : β} (h : Ev f a) (h2 : Ev (fun k => g k a) b) : Ev (fun k => (f k).bind (g k)) b := by
  obtain ⟨K1, h1⟩ := h
  obtain ⟨K2, h2⟩ := h2
  exact ⟨max K1 K2, fun k hk => by dsimp only; rw [h1 k (by omega)]; exact h2 k (by omega)⟩
theorem Ev.need {c : Prop} [Decidable c] {f : Nat → Option α} {r : α} (hc : c) (h : Ev f r) : Ev (fun k => Cf.need c (f k)) r := by
  obtain ⟨K, h⟩ := h
  exact ⟨K, fun k hk => by dsimp only; rw [need_pos hc]; exact h k hk⟩
theorem Ev.pos {c : Prop} [Decidable c] {f g : Nat → Option α} {r : α} (hc : c) (h : Ev f r) : Ev (fun k => if c then f k else g k) r := by
  obtain ⟨K, h⟩ := h
  exact ⟨K, fun k hk => by dsimp only; rw [if_pos hc]; exact h k hk⟩
theorem Ev.neg {c : Prop} [Decidable c] {f g : Nat → Option α} {r : α} (hc : ¬ c) (h : Ev g r) : Ev (fun k => if c then f k else g k) r := by
  obtain ⟨K, h⟩ := h
  exact ⟨K, fun k hk => by dsimp only; rw [if_neg hc]; exact h k hk⟩
theorem Ev.succ {f : Nat → Option α} {r : α} (h : Ev (fun k => f (k + 1)) r) : Ev f r := by
  obtain ⟨K, h⟩ := h
  exact ⟨K + 1, fun k hk => by
    obtain ⟨q, rfl⟩ : ∃ q, k = q + 1 := ⟨k - 1, by omega⟩
    exact h q (by omega)⟩
theorem Ev.congr {f g : Nat → Option α} {r : α} (h : ∀ k, f k = g k) (hg : Ev g r) : Ev f r := by
  obtain ⟨K, hg⟩ := hg
  exact ⟨K, fun k hk => by rw [h]; exact hg k hk⟩
theorem Ev.some (r : α) : Ev (fun _ => some r) r := ⟨0, fun _ _ => rfl⟩
theorem Ev.val {f : Nat → Option α} {r s : α} (h : Ev f r) (e : r = s) : Ev f s := e ▸ h
theorem Ev.get {f : Nat → Option α} {r : α} (h : Ev f r) : ∃ k, f k = Option.some r := let ⟨K, h⟩ := h; ⟨K, h K (Nat.le_refl _)⟩
theorem Ev.unique {f : Nat → Option α} {r s : α} (h : Ev f r) (h2 : Ev f s) : r = s := by
  obtain ⟨K1, h1⟩ := h
  obtain ⟨K2, h2⟩ := h2
  have a := h1 (max K1 K2) (by omega)
  rw [h2 (max K1 K2) (by omega)] at a
  exact (Option.some.inj a).symm
/-- What one says when it says anything, the other says too. -/
def LE (f g : Option α) : Prop := ∀ r, f = some r → g = some r
theorem LE.refl (f : Option α) : LE f f := fun _ h => h
theorem LE.bind {f f' : Option α} {g g' : α → Option β} (h : LE f f') (h2 : ∀ x, LE (g x) (g' x)) : LE (f.bind g) (f'.bind g') := fun r hr => by
  obtain ⟨x, h3, h4⟩ := Option.bind_eq_some_iff.1 hr
  rw [h x h3]
  exact h2 x r h4
theorem LE.need {c : Prop} [Decidable c] {f g : Option α} (h : LE f g) : LE (Cf.need c f) (Cf.need c g) := fun r hr => by
  obtain ⟨hc, h2⟩ := need_some hr
  rw [need_pos hc]
  exact h r h2
theorem LE.ite {c : Prop} [Decidable c] {f f' g g' : Option α} (h : LE f f') (h2 : LE g g') : LE (if c then f else g) (if c then f' else g') := fun r hr => by
  by_cases hc : c
  · rw [if_pos hc] at *; exact h r hr
  · rw [if_neg hc] at *; exact h2 r hr
theorem LE.none {g : Option α} : LE none g := fun _ h => by cases h
theorem ev_of_le {f : Nat → Option α} {r : α} (h : ∀ k, LE (f k) (f (k + 1))) (K : Nat) (hK : f K = Option.some r) : Ev f r :=
  ⟨K, fun k hk => by
    obtain ⟨d, rfl⟩ : ∃ d, k = K + d := ⟨k - K, by omega⟩
    clear hk
    induction d with
    | zero => exact hK
    | succ d ih => exact h _ _ ih⟩

/-! ### Bits -/
theorem ofInt_nat (n : Nat) (w : Nat) : (BitVec.ofInt w (n : Int)) = BitVec.ofNat w n := by simp
theorem iand_nat (a b : Nat) (ha : a < 2 ^ 64) (hb : b < 2 ^ 64) : iand .u64 a b = ((a &&& b : Nat) : Int) := by
  unfold iand
  have h : (IntKind.u64.bits) = 64 := rfl
  rw [h, ofInt_nat, ofInt_nat, BitVec.toNat_and, BitVec.toNat_ofNat, BitVec.toNat_ofNat, Nat.mod_eq_of_lt ha, Nat.mod_eq_of_lt hb]
  have : a &&& b < 2 ^ 64 := Nat.lt_of_le_of_lt Nat.and_le_left ha
  exact wrapU (by omega) (by omega)
theorem ior_nat (a b : Nat) (ha : a < 2 ^ 64) (hb : b < 2 ^ 64) : ior .u64 a b = ((a ||| b : Nat) : Int) := by
  unfold ior
  have h : (IntKind.u64.bits) = 64 := rfl
  rw [h, ofInt_nat, ofInt_nat, BitVec.toNat_or, BitVec.toNat_ofNat, BitVec.toNat_ofNat, Nat.mod_eq_of_lt ha, Nat.mod_eq_of_lt hb]
  have : a ||| b < 2 ^ 64 := Nat.or_lt_two_pow ha hb
  exact wrapU (by omega) (by omega)
theorem iand8_nat (a b : Nat) (ha : a < 256) (hb : b < 256) : iand .u8 a b = ((a &&& b : Nat) : Int) := by
  unfold iand
  have h : (IntKind.u8.bits) = 8 := rfl
  rw [h, ofInt_nat, ofInt_nat, BitVec.toNat_and, BitVec.toNat_ofNat, BitVec.toNat_ofNat, Nat.mod_eq_of_lt (by omega), Nat.mod_eq_of_lt (by omega)]
  have : a &&& b < 256 := Nat.lt_of_le_of_lt Nat.and_le_left ha
  exact wrap8 (by omega) (by omega)
/-- Bits laid above others: a sum. -/
theorem ior_shift (v m s : Nat) (hv : v < 2 ^ s) (hs : s < 64) (hm : m * 2 ^ s < 2 ^ 64) : ior .u64 v (ishl .u64 m s) = ((v + m * 2 ^ s : Nat) : Int) := by
  have h1 : ishl .u64 (m : Int) (s : Int) = ((m * 2 ^ s : Nat) : Int) := by
    unfold ishl
    have h : (IntKind.u64.bits) = 64 := rfl
    rw [h, Int.toNat_natCast, Nat.min_eq_left (by omega)]
    have e : ((m : Int) * 2 ^ s) = ((m * 2 ^ s : Nat) : Int) := by rw [Int.natCast_mul, Int.natCast_pow]; rfl
    rw [e]
    exact wrapU (by omega) (by omega)
  rw [h1, ior_nat _ _ (Nat.lt_trans hv (Nat.pow_lt_pow_right (by omega) hs)) hm]
  congr 1
  rw [← Nat.shiftLeft_eq, Nat.add_comm, Nat.shiftLeft_add_eq_or_of_lt hv, Nat.or_comm]
/-- Bytes. -/
def IsB (l : List Int) : Prop := ∀ x ∈ l, 0 ≤ x ∧ x < 256
theorem IsB.get {l : List Int} (h : IsB l) {i : Nat} (hi : i < l.length) : 0 ≤ l.getD i 0 ∧ l.getD i 0 < 256 := by
  rw [List.getD_eq_getElem?_getD, List.getElem?_eq_getElem hi]
  exact h _ (List.getElem_mem hi)
theorem IsB.sub {l : List Int} (h : IsB l) (i j : Int) : IsB (Cf.sub l i j) := fun x hx => h x (List.mem_of_mem_take (List.mem_of_mem_drop hx))
theorem IsB.drop {l : List Int} (h : IsB l) (n : Nat) : IsB (l.drop n) := fun x hx => h x (List.mem_of_mem_drop hx)
theorem IsB.take {l : List Int} (h : IsB l) (n : Nat) : IsB (l.take n) := fun x hx => h x (List.mem_of_mem_take hx)
theorem sub_nat (l : List α) (i j : Nat) : Cf.sub l (i : Int) (j : Int) = (l.take j).drop i := by unfold Cf.sub; simp
theorem sub_end (l : List α) (i : Nat) : Cf.sub l (i : Int) (l.length : Int) = l.drop i := by unfold Cf.sub; simp
theorem drop_cons {l : List α} {i : Nat} (h : i < l.length) (d : α) : l.drop i = l.getD i d :: l.drop (i + 1) := by
  rw [List.drop_eq_getElem_cons h, List.getD_eq_getElem?_getD, List.getElem?_eq_getElem h]; rfl
end Go.Cf
