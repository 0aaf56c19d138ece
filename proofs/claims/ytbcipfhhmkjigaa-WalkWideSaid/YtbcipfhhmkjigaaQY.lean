/- WalkWide: a chain of folders, each of which stands many times in the next, is gone over and counted. -/
import Derived.Test.YtbcipfhhmkjigaaQK
set_option linter.unusedVariables false
set_option linter.unusedSimpArgs false
namespace Go.Proofs.Ytbcipfhhmkjigaa
open Go Go.Cf
abbrev Way := (List (List Int × List Int)) × (List (List Int × Int)) × Int × Bool × (List Api_File) × Int
def itemsOf (t : Nat) (N : Nat → List Int) (j : Nat) : List Api_Item := (List.range t).map (fun i : Nat => (⟨[97 + (i : Int)], if j = 0 then 1 else 2, N j, if j = 0 then 4 else 0⟩ : Api_Item))
/-- A chain of t times. -/
structure Chain (t : Nat) (N D : Nat → List Int) : Prop where
  pos : 1 ≤ t
  le : t ≤ 8
  take : ∀ j, j < 7 → ∀ k, folder_Take.f (k + 1000) (D (j + 1)) = some (itemsOf t N j, 0)
  inj : ∀ i j, i ≤ 7 → j ≤ 7 → N i = N j → i = j
  leaf : (D 0).length = 4
def cnt (t : Nat) : Nat → Nat
  | 0 => 1
  | j + 1 => 1 + t * cnt t j
def Good (N : Nat → List Int) (tell : Bool) (m : List (List Int × List Int)) (met : List (List Int × Int)) (c : Nat) (files : List Api_File) (j r P F : Nat) (o : Way) : Prop :=
  (c + P ≤ 1024 → ∃ met' files', o = (m, met', ((c + P : Nat) : Int), tell, files', 0) ∧ (met'.map (·.1)).Nodup ∧ (∀ x, x ∈ met'.map (·.1) ↔ x ∈ met.map (·.1) ∨ (0 < r ∧ ∃ i, i ≤ j ∧ x = N i)) ∧ files'.length = files.length + (if tell then F else 0)) ∧
  (1024 < c + P → o.2.2.2.2.2 = 2)
theorem object_ok (m : List (List Int × List Int)) (met : List (List Int × Int)) (c : Nat) (tell : Bool) (files : List Api_File) (x d : List Int) (hc : c ≤ 1023) (h : mget m x = some d) :
    ∃ v, walk_way_object.f m met (c : Int) tell files 0 x = some (d, true, m, mset met x v, ((c + 1 : Nat) : Int), tell, files, 0) := by
  unfold walk_way_object.f
  have hw : IntKind.i64.wrap ((c : Int) + 1) = ((c + 1 : Nat) : Int) := by rw [wrapI (by omega) (by omega)]; omega
  rw [hw, if_neg (by simp; omega), h]
  simp only [Option.isSome_some, Bool.not_true, Bool.false_eq_true, if_false, Option.getD_some]
  exact ⟨_, rfl⟩
theorem object_over (m : List (List Int × List Int)) (met : List (List Int × Int)) (tell : Bool) (files : List Api_File) (x : List Int) :
    walk_way_object.f m met ((1024 : Nat) : Int) tell files 0 x = some ([], false, m, met, 1025, tell, files, 2) := by
  unfold walk_way_object.f
  have hw : IntKind.i64.wrap (((1024 : Nat) : Int) + 1) = 1025 := rfl
  rw [hw, if_pos (by decide)]
  rfl
theorem mset_mem (met : List (List Int × Int)) (x y : List Int) (v : Int) : y ∈ (mset met x v).map (·.1) ↔ y ∈ met.map (·.1) ∨ y = x := by
  rw [keys_mset]
  split
  · next h => exact ⟨.inl, fun h' => h'.elim id (fun e => e ▸ h)⟩
  · simp
theorem file_ok (N : Nat → List Int) (m : List (List Int × List Int)) (met : List (List Int × Int)) (c : Nat) (tell : Bool) (files : List Api_File) (nm path d : List Int) (hc : c ≤ 1024) (hnd : (met.map (·.1)).Nodup) (hf : files.length ≤ c) (h : mget m (N 0) = some d) (hd : d.length = 4) (hp : path.length + nm.length ≤ 2000) :
    ∃ o, walk_way_file.f m met (c : Int) tell files 0 ⟨nm, 1, N 0, 4⟩ path = some o ∧ Good N tell m met c files 0 1 1 1 o := by
  unfold walk_way_file.f
  dsimp only
  rcases Nat.lt_or_ge c 1024 with hlt | hge
  · obtain ⟨v, e⟩ := object_ok m met c tell files (N 0) d (by omega) h
    rw [e]
    simp only [Option.bind_some, Bool.not_true, Bool.false_eq_true, if_false]
    rw [if_neg (by rw [hd]; simp)]
    have hnd' := nodup_mset (k := N 0) (v := v) hnd
    have hm : ∀ x, x ∈ (mset met (N 0) v).map (·.1) ↔ x ∈ met.map (·.1) ∨ (0 < 1 ∧ ∃ i, i ≤ 0 ∧ x = N i) := fun x => by
      rw [mset_mem]
      constructor
      · rintro (h | rfl)
        · exact .inl h
        · exact .inr ⟨by omega, 0, by omega, rfl⟩
      · rintro (h | ⟨_, i, hi, rfl⟩)
        · exact .inl h
        · have : i = 0 := by omega
          subst this; exact .inr rfl
    cases tell with
    | true =>
      simp only [if_true]
      rw [need_pos (by unfold maxB; omega)]
      simp only [show slices_Clone_64.f d = some d from rfl, Option.bind_some]
      rw [need_pos (by unfold fits maxB; simp; omega)]
      simp only [Option.bind_some]
      exact ⟨_, rfl, fun _ => ⟨_, _, rfl, hnd', hm, by simp⟩, fun h => by omega⟩
    | false =>
      simp only [Bool.false_eq_true, if_false, Option.bind_some]
      exact ⟨_, rfl, fun _ => ⟨_, _, rfl, hnd', hm, by simp⟩, fun h => by omega⟩
  · have : c = 1024 := by omega
    subst this
    rw [object_over]
    exact ⟨_, rfl, fun h => by omega, fun _ => rfl⟩
theorem itemsOf_len (t : Nat) (N : Nat → List Int) (j : Nat) : (itemsOf t N j).length = t := by simp [itemsOf]
theorem itemsOf_get (t : Nat) (N : Nat → List Int) (j i : Nat) (h : i < t) : (itemsOf t N j).getD ((i : Int)).toNat rApi_Item.zeroD = ⟨[97 + (i : Int)], if j = 0 then 1 else 2, N j, if j = 0 then 4 else 0⟩ := by
  simp [itemsOf, h]
/-- What is asked of one item. -/
def OneOk (N : Nat → List Int) (m : List (List Int × List Int)) (tell : Bool) (path : List Int) (P F j : Nat) (one : List (List Int × Int) → Int → List Api_File → Api_Item → Option Way) (it : Api_Item) : Prop :=
  ∀ (met : List (List Int × Int)) (c : Nat) (files : List Api_File), c ≤ 1024 → (met.map (·.1)).Nodup → files.length ≤ c → ∃ o, one met (c : Int) files it = some o ∧ Good N tell m met c files j 1 P F o
theorem l0_ok (t : Nat) (ht : t ≤ 8) (N : Nat → List Int) (m : List (List Int × List Int)) (tell : Bool) (path : List Int) (dp : Nat) (hdp : dp ≤ 8) (hp : path.length ≤ 1000) (j P F : Nat) (hFP : F ≤ P) (self : (List ((List Int) × (List Int))) → (List ((List Int) × Int)) → Int → Bool → (List Api_File) → Int → (List Int) → (List Int) → Int → Option Way)
    (hone : ∀ i, i < t → OneOk N m tell path P F j (fun met c files it => if j = 0 then walk_way_file.f m met c tell files 0 it path else self m met c tell files 0 it.Of (path ++ it.Name ++ [47]) ((dp + 1 : Nat) : Int)) ⟨[97 + (i : Int)], if j = 0 then 1 else 2, N j, if j = 0 then 4 else 0⟩) :
    ∀ (r i k : Nat) (met : List (List Int × Int)) (c : Nat) (files : List Api_File), r + i = t → r < k → c ≤ 1024 → (met.map (·.1)).Nodup → files.length ≤ c →
      ∃ o, walk_way_enter.l0 self (itemsOf t N j, 0) path (dp : Int) k m met (c : Int) tell files 0 (i : Int) = some o ∧
        ((c + r * P ≤ 1024 → ∃ w, o = .inr w ∧ Good N tell m met c files j r (r * P) (r * F) w) ∧ (1024 < c + r * P → ∃ w, o = .inl w ∧ w.2.2.2.2.2 = 2)) := by
  intro r
  induction r with
  | zero =>
    intro i k met c files hi hk hc hnd hf
    obtain ⟨q, rfl⟩ : ∃ q, k = q + 1 := ⟨k - 1, by omega⟩
    rw [walk_way_enter.l0, if_neg (by rw [itemsOf_len]; simp; omega)]
    refine ⟨_, rfl, fun _ => ⟨_, rfl, fun _ => ⟨met, files, by simp, hnd, fun x => by simp, by simp⟩, fun h => by omega⟩, fun h => by omega⟩
  | succ r ih =>
    intro i k met c files hi hk hc hnd hf
    obtain ⟨q, rfl⟩ : ∃ q, k = q + 1 := ⟨k - 1, by omega⟩
    have hil : i < t := by omega
    rw [walk_way_enter.l0, if_pos (by rw [itemsOf_len]; simp; omega), need_pos (by rw [itemsOf_len]; omega), itemsOf_get t N j i hil]
    obtain ⟨o, ho, hg⟩ := hone i hil met c files hc hnd hf
    have hstep : ((if (decide ((if j = 0 then (1 : Int) else 2) = (2 : Int))) = true then (need ((path).length + ([97 + (i : Int)]).length ≤ maxB) (need (((path ++ [97 + (i : Int)])).length + ([47]).length ≤ maxB) ((self m met (c : Int) tell files 0 (N j) ((path ++ [97 + (i : Int)]) ++ [47]) (IntKind.i64.wrap ((dp : Int) + (1 : Int)))).bind fun c146 => (some (c146.1, c146.2.1, c146.2.2.1, c146.2.2.2.1, c146.2.2.2.2.1, c146.2.2.2.2.2))))) else ((walk_way_file.f m met (c : Int) tell files 0 ⟨[97 + (i : Int)], if j = 0 then 1 else 2, N j, if j = 0 then 4 else 0⟩ path).bind fun c161 => (some (c161.1, c161.2.1, c161.2.2.1, c161.2.2.2.1, c161.2.2.2.2.1, c161.2.2.2.2.2)))) : Option Way) = some o := by
      by_cases hj : j = 0
      · simp only [if_pos hj] at ho ⊢
        rw [if_neg (by decide), ho]
        rfl
      · simp only [if_neg hj] at ho ⊢
        have hw : IntKind.i64.wrap ((dp : Int) + 1) = ((dp + 1 : Nat) : Int) := by rw [wrapI (by omega) (by omega)]; omega
        rw [if_pos (by decide), need_pos (by simp; unfold maxB; omega), need_pos (by simp; unfold maxB; omega), hw, ho]
        rfl
    have hstep' := hstep
    dsimp only at hstep' ⊢
    rw [hstep']
    simp only [Option.bind_some]
    have hmul : (r + 1) * P = P + r * P := by rw [Nat.add_mul, Nat.one_mul, Nat.add_comm]
    have hmulF : (r + 1) * F = F + r * F := by rw [Nat.add_mul, Nat.one_mul, Nat.add_comm]
    have hw : IntKind.i64.wrap ((i : Int) + 1) = ((i + 1 : Nat) : Int) := by rw [wrapI (by omega) (by omega)]; omega
    rcases Nat.lt_or_ge 1024 (c + P) with hov | hok
    · have h2 := hg.2 hov
      obtain ⟨o1, o2, o3, o4, o5, o6⟩ := o
      have h2 : o6 = 2 := h2
      subst h2
      refine ⟨.inl (o1, o2, o3, o4, o5, 2), rfl, fun h => by omega, fun _ => ⟨_, rfl, rfl⟩⟩
    · obtain ⟨met', files', rfl, hnd', hm', hf'⟩ := hg.1 hok
      have hfl : files'.length ≤ c + P := by
        rw [hf']; split <;> omega
      obtain ⟨o, ho2, h3, h4⟩ := ih (i + 1) q met' (c + P) files' (by omega) (by omega) hok hnd' hfl
      dsimp only
      rw [if_neg (by simp), hw, ho2]
      refine ⟨o, rfl, fun h => ?_, fun h => h4 (by omega)⟩
      obtain ⟨w, rfl, g1, g2⟩ := h3 (by omega)
      refine ⟨w, rfl, fun _ => ?_, fun h => by omega⟩
      obtain ⟨met2, files2, e, n2, m2, f2⟩ := g1 (by omega)
      refine ⟨met2, files2, by rw [e, hmul, Nat.add_assoc], n2, fun x => ?_, ?_⟩
      · rw [m2, hm']
        constructor
        · rintro ((h | ⟨_, h⟩) | ⟨_, h⟩)
          · exact .inl h
          · exact .inr ⟨by omega, h⟩
          · exact .inr ⟨by omega, h⟩
        · rintro (h | ⟨_, h⟩)
          · exact .inl (.inl h)
          · exact .inl (.inr ⟨by omega, h⟩)
      · rw [f2, hf', hmulF]
        split <;> omega
theorem cnt_pos (t : Nat) : ∀ j, 1 ≤ cnt t j
  | 0 => Nat.le_refl _
  | j + 1 => by unfold cnt; omega
theorem pow_le_cnt (t : Nat) : ∀ j, t ^ j ≤ cnt t j
  | 0 => Nat.le_refl _
  | j + 1 => by
    unfold cnt
    have := Nat.mul_le_mul_left t (pow_le_cnt t j)
    rw [Nat.pow_succ, Nat.mul_comm]
    omega
theorem enter_ok {t : Nat} {N D : Nat → List Int} (ch : Chain t N D) (J : Nat) (hJ : J ≤ 7) (m : List (List Int × List Int)) (hm : ∀ j, j ≤ J → mget m (N j) = some (D j)) (tell : Bool) :
    ∀ (j : Nat), j + 1 ≤ J → ∀ (k : Nat) (met : List (List Int × Int)) (c : Nat) (files : List Api_File) (path : List Int) (dp : Nat), 1200 + 100 * j ≤ k → dp + j ≤ 8 → path.length + 10 * j ≤ 900 → c ≤ 1024 → (met.map (·.1)).Nodup → files.length ≤ c →
      ∃ o, walk_way_enter.f k m met (c : Int) tell files 0 (N (j + 1)) path (dp : Int) = some o ∧ Good N tell m met c files (j + 1) 1 (cnt t (j + 1)) (t ^ (j + 1)) o := by
  intro j
  induction j with
  | zero =>
    intro hj k met c files path dp hk hdp hp hc hnd hf
    obtain ⟨q, rfl⟩ : ∃ q, k = q + 1000 + 1 := ⟨k - 1001, by omega⟩
    rw [walk_way_enter.f, if_neg (by simp; omega)]
    simp only [Option.bind_some, Bool.false_eq_true, if_false]
    rcases Nat.lt_or_ge c 1024 with hlt | hge
    · obtain ⟨v, e⟩ := object_ok m met c tell files (N (0 + 1)) (D (0 + 1)) (by omega) (hm _ hj)
      rw [e]
      simp only [Option.bind_some, Bool.not_true, Bool.false_eq_true, if_false]
      rw [ch.take 0 (by omega) q]
      simp only [Option.bind_some]
      have hb : ∀ (a : List (List Int × List Int)) (b : List (List Int × Int)) (c : Int) (d : Bool) (f : List Api_File), walk_way_bad.f a b c d f 0 0 = some (false, a, b, c, d, f, 0) := fun _ _ _ _ _ => rfl
      rw [hb]
      simp only [Option.bind_some, Bool.false_eq_true, if_false]
      have hpos := ch.pos
      rw [if_neg (by rw [itemsOf_len]; simp; omega)]
      simp only [Option.bind_some, Bool.false_eq_true, if_false]
      have hnd' := nodup_mset (k := N (0 + 1)) (v := v) hnd
      obtain ⟨o, ho, h1, h2⟩ := l0_ok t ch.le N m tell path dp (by omega) (by omega) 0 1 1 (by omega) (walk_way_enter.f (q + 1000)) (fun i hi met c files hc hnd hf => by
        simp only [if_true]
        exact file_ok N m met c tell files _ path (D 0) hc hnd hf (hm 0 (by omega)) ch.leaf (by simp; omega)) t 0 (q + 1000) (mset met (N (0 + 1)) v) (c + 1) files (by omega) (by have := ch.le; omega) (by omega) hnd' (by omega)
      rw [show ((0 : Nat) : Int) = 0 from rfl] at ho
      rw [ho]
      simp only [Option.bind_some]
      have hcnt : cnt t (0 + 1) = 1 + t * 1 := rfl
      rw [hcnt]
      rcases Nat.lt_or_ge 1024 (c + 1 + t * 1) with hov | hok
      · obtain ⟨w, rfl, hw⟩ := h2 hov
        exact ⟨w, rfl, fun h => by omega, fun _ => hw⟩
      · obtain ⟨w, rfl, hw, _⟩ := h1 hok
        obtain ⟨met', files', rfl, n1, m1, f1⟩ := hw hok
        refine ⟨_, rfl, fun _ => ⟨met', files', by rw [show c + 1 + t * 1 = c + (1 + t * 1) by omega], n1, fun x => ?_, by rw [f1]; simp⟩, fun h => by omega⟩
        rw [m1, mset_mem]
        constructor
        · rintro ((h | rfl) | ⟨_, i, hi, rfl⟩)
          · exact .inl h
          · exact .inr ⟨by omega, _, Nat.le_refl _, rfl⟩
          · exact .inr ⟨by omega, i, by omega, rfl⟩
        · rintro (h | ⟨_, i, hi, rfl⟩)
          · exact .inl (.inl h)
          · by_cases h1 : i = 0 + 1
            · subst h1; exact .inl (.inr rfl)
            · exact .inr ⟨by omega, i, by omega, rfl⟩
    · have : c = 1024 := by omega
      subst this
      rw [object_over]
      have := cnt_pos t (0 + 1)
      exact ⟨_, rfl, fun h => by omega, fun _ => rfl⟩
  | succ j ih =>
    intro hj k met c files path dp hk hdp hp hc hnd hf
    obtain ⟨q, rfl⟩ : ∃ q, k = q + 1000 + 1 := ⟨k - 1001, by omega⟩
    rw [walk_way_enter.f, if_neg (by simp; omega)]
    simp only [Option.bind_some, Bool.false_eq_true, if_false]
    rcases Nat.lt_or_ge c 1024 with hlt | hge
    · obtain ⟨v, e⟩ := object_ok m met c tell files (N (j + 1 + 1)) (D (j + 1 + 1)) (by omega) (hm _ hj)
      rw [e]
      simp only [Option.bind_some, Bool.not_true, Bool.false_eq_true, if_false]
      rw [ch.take (j + 1) (by omega) q]
      simp only [Option.bind_some]
      have hb : ∀ (a : List (List Int × List Int)) (b : List (List Int × Int)) (c : Int) (d : Bool) (f : List Api_File), walk_way_bad.f a b c d f 0 0 = some (false, a, b, c, d, f, 0) := fun _ _ _ _ _ => rfl
      rw [hb]
      simp only [Option.bind_some, Bool.false_eq_true, if_false]
      have hpos := ch.pos
      rw [if_neg (by rw [itemsOf_len]; simp; omega)]
      simp only [Option.bind_some, Bool.false_eq_true, if_false]
      have hnd' := nodup_mset (k := N (j + 1 + 1)) (v := v) hnd
      obtain ⟨o, ho, h1, h2⟩ := l0_ok t ch.le N m tell path dp (by omega) (by omega) (j + 1) (cnt t (j + 1)) (t ^ (j + 1)) (pow_le_cnt t _) (walk_way_enter.f (q + 1000)) (fun i hi met c files hc hnd hf => by
        simp only [if_neg (Nat.succ_ne_zero j)]
        exact ih (by omega) (q + 1000) met c files (path ++ [97 + (i : Int)] ++ [47]) (dp + 1) (by omega) (by omega) (by simp; omega) hc hnd hf) t 0 (q + 1000) (mset met (N (j + 1 + 1)) v) (c + 1) files (by omega) (by have := ch.le; omega) (by omega) hnd' (by omega)
      rw [show ((0 : Nat) : Int) = 0 from rfl] at ho
      rw [ho]
      simp only [Option.bind_some]
      have hcnt : cnt t (j + 1 + 1) = 1 + t * cnt t (j + 1) := rfl
      rw [hcnt]
      rcases Nat.lt_or_ge 1024 (c + 1 + t * cnt t (j + 1)) with hov | hok
      · obtain ⟨w, rfl, hw⟩ := h2 hov
        exact ⟨w, rfl, fun h => by omega, fun _ => hw⟩
      · obtain ⟨w, rfl, hw, _⟩ := h1 hok
        obtain ⟨met', files', rfl, n1, m1, f1⟩ := hw hok
        refine ⟨_, rfl, fun _ => ⟨met', files', by rw [show c + 1 + t * cnt t (j + 1) = c + (1 + t * cnt t (j + 1)) by omega], n1, fun x => ?_, by rw [f1, Nat.pow_succ t (j + 1), Nat.mul_comm (t ^ (j + 1)) t]⟩, fun h => by omega⟩
        rw [m1, mset_mem]
        constructor
        · rintro ((h | rfl) | ⟨_, i, hi, rfl⟩)
          · exact .inl h
          · exact .inr ⟨by omega, _, Nat.le_refl _, rfl⟩
          · exact .inr ⟨by omega, i, by omega, rfl⟩
        · rintro (h | ⟨_, i, hi, rfl⟩)
          · exact .inl (.inl h)
          · by_cases h1 : i = j + 1 + 1
            · subst h1; exact .inl (.inr rfl)
            · exact .inr ⟨by omega, i, by omega, rfl⟩
    · have : c = 1024 := by omega
      subst this
      rw [object_over]
      have := cnt_pos t (j + 1 + 1)
      exact ⟨_, rfl, fun h => by omega, fun _ => rfl⟩
end Go.Proofs.Ytbcipfhhmkjigaa
