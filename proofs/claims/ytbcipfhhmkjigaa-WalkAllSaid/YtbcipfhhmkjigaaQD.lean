/- Which items may be a folder. -/
import Derived.Test.YtbcipfhhmkjigaaQC
import Derived.Test.YtbcipfhhmkjigaaQM
set_option linter.unusedVariables false
set_option linter.unusedSimpArgs false
namespace Go.Proofs.Ytbcipfhhmkjigaa
open Go Go.Cf

theorem lexLt_cmp3 : ∀ a b : List Int, lexLt a b = decide (cmp3 a b < 0)
  | [], [] => by simp [lexLt, cmp3]
  | [], _ :: _ => by simp [lexLt, cmp3]
  | _ :: _, [] => by simp [lexLt, cmp3]
  | x :: a, y :: b => by
    unfold lexLt cmp3
    rw [lexLt_cmp3 a b]
    by_cases h : x = y
    · subst h; simp
    · by_cases h2 : x < y <;> simp [h, h2]
theorem lexLt_not (a b : List Int) : (!lexLt a b) = (lexLt b a || decide (b = a)) := by
  rw [lexLt_cmp3, lexLt_cmp3]
  have h := cmp3_swap a b
  by_cases e : b = a
  · subst e; rw [cmp3_refl]; simp
  · have h0 : cmp3 a b ≠ 0 := fun h1 => e (cmp3_zero h1).symm
    rw [Bool.eq_iff_iff]
    simp [e]
    omega
/-- A loop that goes over all and is left at the first that is not so. -/
theorem scan_loop {γ δ : Type} (L : Nat → Int → Option (Sum γ δ)) (n K : Nat) (P : Nat → Bool) (r : γ) (z : δ) (step : ∀ (k i : Nat), i < n → K ≤ k → L (k + 1) (i : Int) = if P i = true then L k ((i + 1 : Nat) : Int) else some (.inl r)) (stop : ∀ k : Nat, L (k + 1) (n : Int) = some (.inr z)) :
    ∀ (d i k : Nat), d + i = n → d + K < k → L k (i : Int) = some (if (List.range' i d).all P then .inr z else .inl r) := by
  intro d
  induction d with
  | zero =>
    intro i k hi hk
    obtain ⟨q, rfl⟩ : ∃ q, k = q + 1 := ⟨k - 1, by omega⟩
    have : i = n := by omega
    subst this
    rw [stop]
    simp
  | succ d ih =>
    intro i k hi hk
    obtain ⟨q, rfl⟩ : ∃ q, k = q + 1 := ⟨k - 1, by omega⟩
    rw [step q i (by omega) (by omega), List.range'_succ, List.all_cons]
    cases hP : P i with
    | false => simp
    | true => simp only [if_true, Bool.true_and]; exact ih (i + 1) q (by omega) (by omega)

def mayName (s : List Int) : Bool := decide (1 ≤ s.length) && decide (s.length ≤ 64) && !decide (s = [46]) && !decide (s = [46, 46]) && !s.contains 47 && !s.contains 0
theorem folder_MayName_is (s : List Int) : folder_MayName.f s = some (mayName s) := by
  unfold folder_MayName.f mayName
  have h1 : decide ((1 : Int) ≤ (s.length : Int)) = decide (1 ≤ s.length) := by rw [decide_eq_decide]; omega
  have h2 : decide ((s.length : Int) ≤ 64) = decide (s.length ≤ 64) := by rw [decide_eq_decide]; omega
  rw [h1, h2]
  simp only [strings_Contains.f, Option.bind_some]
  generalize s.contains 47 = c1
  generalize s.contains 0 = c2
  generalize decide (1 ≤ s.length) = c3
  generalize decide (s.length ≤ 64) = c4
  generalize decide (s = [46]) = c5
  generalize decide (s = [46, 46]) = c6
  cases c1 <;> cases c2 <;> cases c3 <;> cases c4 <;> cases c5 <;> cases c6 <;> rfl
theorem ref15_MayName_is (s : List Int) (hl : s.length ≤ maxB) (k : Nat) (hk : s.length < k) : cofferref15_MayName.f k s = some (mayName s) := by
  unfold cofferref15_MayName.f
  have h := scan_loop (fun k i => cofferref15_MayName.l0 s k i) s.length 0 (fun i => !(decide (s.getD i 0 = 47) || decide (s.getD i 0 = 0))) false () (fun k i hi _ => by
    show cofferref15_MayName.l0 s (k + 1) (i : Int) = _
    rw [cofferref15_MayName.l0]
    rw [if_pos (by simp; omega), need_pos (by omega), need_pos (by omega), wrap_succ hi hl]
    simp only [Int.toNat_natCast, (show (rInt .u8).zeroD = 0 from rfl)]
    cases decide (s.getD i 0 = 47) <;> cases decide (s.getD i 0 = 0) <;> simp) (fun k => by
    show cofferref15_MayName.l0 s (k + 1) (s.length : Int) = _
    rw [cofferref15_MayName.l0]
    rw [if_neg (by simp)]) s.length 0 k (by omega) (by omega)
  have h : cofferref15_MayName.l0 s k 0 = _ := h
  rw [h]
  have hall : (List.range' 0 s.length).all (fun i => !(decide (s.getD i 0 = 47) || decide (s.getD i 0 = 0))) = (!s.contains 47 && !s.contains 0) := by
    rw [Bool.eq_iff_iff]
    simp only [List.all_eq_true, Bool.and_eq_true, Bool.not_eq_true', Bool.or_eq_false_iff, decide_eq_false_iff_not]
    constructor
    · intro h
      refine ⟨?_, ?_⟩
      all_goals
        rw [← Bool.not_eq_true, List.contains_iff_mem]
        intro hm
        obtain ⟨i, hi, e⟩ := List.mem_iff_getElem.1 hm
        have := h i (by simp; omega)
        rw [List.getD_eq_getElem?_getD, List.getElem?_eq_getElem hi, e] at this
        simp at this
    · rintro ⟨h1, h2⟩ i hi
      have hi : i < s.length := by simpa using hi
      rw [← Bool.not_eq_true, List.contains_iff_mem] at h1 h2
      rw [List.getD_eq_getElem?_getD, List.getElem?_eq_getElem hi]
      refine ⟨fun e => h1 ?_, fun e => h2 ?_⟩
      · have e : s[i] = 47 := e
        rw [← e]; exact List.getElem_mem hi
      · have e : s[i] = 0 := e
        rw [← e]; exact List.getElem_mem hi
  rw [hall]
  unfold mayName
  have h1 : decide ((1 : Int) ≤ (s.length : Int)) = decide (1 ≤ s.length) := by rw [decide_eq_decide]; omega
  have h2 : decide ((s.length : Int) ≤ 64) = decide (s.length ≤ 64) := by rw [decide_eq_decide]; omega
  rw [h1, h2]
  clear h1 h2 hall h
  generalize s.contains 47 = c1
  generalize s.contains 0 = c2
  generalize decide (1 ≤ s.length) = c3
  generalize decide (s.length ≤ 64) = c4
  generalize decide (s = [46]) = c5
  generalize decide (s = [46, 46]) = c6
  cases c1 <;> cases c2 <;> cases c3 <;> cases c4 <;> cases c5 <;> cases c6 <;> rfl
/-- May the item at place i stand there? -/
def mayAt (l : List Api_Item) (i : Nat) : Bool :=
  mayName (l.getD i rApi_Item.zeroD).Name && (decide (i = 0) || lexLt (l.getD (i - 1) rApi_Item.zeroD).Name (l.getD i rApi_Item.zeroD).Name) && decide (0 ≤ (l.getD i rApi_Item.zeroD).Size) &&
    (decide ((l.getD i rApi_Item.zeroD).Kind = 1) || decide ((l.getD i rApi_Item.zeroD).Kind = 2) && decide ((l.getD i rApi_Item.zeroD).Size = 0))
def may (l : List Api_Item) : Bool := decide (l.length ≤ 64) && (List.range' 0 l.length).all (mayAt l)
theorem folder_May_is (l : List Api_Item) (k : Nat) (hk : 70 ≤ k) : folder_May.f k l = some (may l) := by
  unfold folder_May.f may
  by_cases hl : l.length ≤ 64
  · have hl' : l.length ≤ maxB := by unfold maxB; omega
    rw [if_neg (by simp; omega)]
    have h := scan_loop (fun k i => folder_May.l0 l k i) l.length 0 (mayAt l) false () (fun k i hi _ => by
      show folder_May.l0 l (k + 1) (i : Int) = _
      rw [folder_May.l0]
      rw [if_pos (by simp; omega), need_pos (by omega), folder_MayName_is, wrap_succ hi hl']
      simp only [Int.toNat_natCast, Option.bind_some]
      unfold mayAt
      obtain ⟨x, hx⟩ : ∃ x, l.getD i rApi_Item.zeroD = x := ⟨_, rfl⟩
      simp only [hx]
      by_cases h0 : i = 0
      · subst h0
        cases mayName x.Name <;> simp
        · by_cases h1 : x.Size < 0
          · have : ¬ (0 ≤ x.Size) := by omega
            simp [h1, this]
          · have : 0 ≤ x.Size := by omega
            simp [h1, this]
            by_cases h2 : x.Kind = 1 <;> by_cases h3 : x.Kind = 2 <;> by_cases h4 : x.Size = 0 <;> simp [h2, h3, h4]
      · rw [wrap_pred hi (by omega) hl', need_pos (by omega), Int.toNat_natCast]
        have h5 : decide ((0 : Int) < (i : Int)) = true := by simp; omega
        rw [h5, ← lexLt_not]
        generalize lexLt (l.getD (i - 1) rApi_Item.zeroD).Name x.Name = q
        have h6 : decide (i = 0) = false := by simpa using h0
        rw [h6]
        cases mayName x.Name <;> cases q <;> simp
        · by_cases h1 : x.Size < 0
          · have : ¬ (0 ≤ x.Size) := by omega
            simp [h1, this]
          · have : 0 ≤ x.Size := by omega
            simp [h1, this]
            by_cases h2 : x.Kind = 1 <;> by_cases h3 : x.Kind = 2 <;> by_cases h4 : x.Size = 0 <;> simp [h2, h3, h4]) (fun k => by
      show folder_May.l0 l (k + 1) (l.length : Int) = _
      rw [folder_May.l0]
      rw [if_neg (by simp)]) l.length 0 k (by omega) (by omega)
    have h : folder_May.l0 l k 0 = _ := h
    rw [h]
    cases (List.range' 0 l.length).all (mayAt l) <;> simp [hl]
  · rw [if_pos (by simp; omega)]
    simp [hl]
theorem mayName_len {s : List Int} (h : mayName s = true) : s.length ≤ 64 := by
  unfold mayName at h
  simp at h
  omega
theorem ref15_May_is (l : List Api_Item) (hn : ∀ x ∈ l, x.Name.length ≤ maxB) (M : Nat) (hM : ∀ x ∈ l, x.Name.length ≤ M) (k : Nat) (hk : M + 70 ≤ k) : cofferref15_May.f k l = some (may l) := by
  unfold cofferref15_May.f may
  by_cases hl : l.length ≤ 64
  · have hl' : l.length ≤ maxB := by unfold maxB; omega
    rw [if_neg (by simp; omega)]
    have h := scan_loop (fun k i => cofferref15_May.l0 l k i) l.length (M + 1) (mayAt l) false () (fun k i hi hk' => by
      show cofferref15_May.l0 l (k + 1) (i : Int) = _
      rw [cofferref15_May.l0]
      have hmem : l.getD i rApi_Item.zeroD ∈ l := by rw [List.getD_eq_getElem?_getD, List.getElem?_eq_getElem hi]; exact List.getElem_mem hi
      rw [if_pos (by simp; omega), need_pos (by omega), Int.toNat_natCast, ref15_MayName_is _ (hn _ hmem) _ (by have := hM _ hmem; omega), wrap_succ hi hl']
      simp only [Option.bind_some]
      unfold mayAt
      obtain ⟨x, hx⟩ : ∃ x, l.getD i rApi_Item.zeroD = x := ⟨_, rfl⟩
      simp only [hx]
      by_cases h0 : i = 0
      · subst h0
        cases mayName x.Name <;> simp
        by_cases h1 : x.Size < 0
        · have : ¬ (0 ≤ x.Size) := by omega
          simp [h1, this]
        · have : 0 ≤ x.Size := by omega
          by_cases h2 : x.Kind = 1
          · simp [h1, this, h2]
          · by_cases h3 : x.Kind = 2
            · by_cases h4 : x.Size = 0 <;> simp [h1, this, h2, h3, h4]
            · have : x.Kind < 1 ∨ 2 < x.Kind := by omega
              rcases this with h | h <;> simp [h, h2, h3]
      · rw [wrap_pred hi (by omega) hl', need_pos (by omega), Int.toNat_natCast]
        have h5 : decide ((0 : Int) < (i : Int)) = true := by simp; omega
        rw [h5]
        generalize lexLt (l.getD (i - 1) rApi_Item.zeroD).Name x.Name = q
        have h6 : decide (i = 0) = false := by simpa using h0
        rw [h6]
        cases mayName x.Name <;> cases q <;> simp
        all_goals
          by_cases h1 : x.Size < 0
          · have : ¬ (0 ≤ x.Size) := by omega
            simp [h1, this]
          · have : 0 ≤ x.Size := by omega
            by_cases h2 : x.Kind = 1
            · simp [h1, this, h2]
            · by_cases h3 : x.Kind = 2
              · by_cases h4 : x.Size = 0 <;> simp [h1, this, h2, h3, h4]
              · have : x.Kind < 1 ∨ 2 < x.Kind := by omega
                rcases this with h | h <;> simp [h, h2, h3]) (fun k => by
      show cofferref15_May.l0 l (k + 1) (l.length : Int) = _
      rw [cofferref15_May.l0]
      rw [if_neg (by simp)]) l.length 0 k (by omega) (by omega)
    have h : cofferref15_May.l0 l k 0 = _ := h
    rw [h]
    cases (List.range' 0 l.length).all (mayAt l) <;> simp [hl]
  · rw [if_pos (by simp; omega)]
    simp [hl]
end Go.Proofs.Ytbcipfhhmkjigaa
