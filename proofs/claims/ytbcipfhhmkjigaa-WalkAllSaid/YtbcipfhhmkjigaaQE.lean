/- Items and folders, read and written. -/
import Derived.Test.YtbcipfhhmkjigaaQD
set_option linter.unusedVariables false
set_option linter.unusedSimpArgs false
namespace Go.Proofs.Ytbcipfhhmkjigaa
open Go Go.Cf

/-- The item at the beginning, and what is behind it. -/
def it : List Int → Option (Api_Item × List Int)
  | [] => none
  | c :: r => if (tt r).2.2 ≠ 0 then none else if (r.drop (tt r).2.1.toNat).length < 32 then none
    else if (tc ((r.drop (tt r).2.1.toNat).drop 32) 0 0).2.2 ≠ 0 ∨ 9223372036854775807 < (tc ((r.drop (tt r).2.1.toNat).drop 32) 0 0).1 then none
    else some (⟨(tt r).1, c, (r.drop (tt r).2.1.toNat).take 32, (tc ((r.drop (tt r).2.1.toNat).drop 32) 0 0).1⟩, ((r.drop (tt r).2.1.toNat).drop 32).drop (tc ((r.drop (tt r).2.1.toNat).drop 32) 0 0).2.1.toNat)
theorem sub_from {α : Type} (l : List α) {i : Int} (n : Nat) (h : i = n) : sub l i (l.length : Int) = l.drop n := by subst h; exact sub_end l n
theorem folder_item_is (b : List Int) (hb : IsB b) (hl : b.length ≤ maxB) (k : Nat) (hk : b.length < k) :
    ∃ x0, folder_item.f k b = some (match it b with | some (x, r) => (x, r, true) | none => (x0, [], false)) := by
  unfold folder_item.f
  match b, hb, hl, hk with
  | [], _, _, _ => exact ⟨rApi_Item.zeroD, by simp [it]⟩
  | c :: r, hb, hl, hk =>
    have hbr : IsB r := fun x hx => hb x (by simp [hx])
    have hlen : ((c :: r).length : Int) = (r.length : Int) + 1 := by simp
    have hlr : r.length + 1 ≤ maxB := by simpa using hl
    rw [if_neg (by simp; omega), need_pos (by omega), need_pos (by omega), sub_from (c :: r) (i := 1) 1 rfl]
    simp only [List.drop_one, List.tail_cons]
    rw [octet_TakeText_is r hbr (by omega) k (by simp at hk; omega)]
    simp only [Option.bind_some]
    by_cases h0 : (tt r).2.2 = 0
    · obtain ⟨s, n, e1, e2, e3, e4, e5⟩ := tt_ok hbr h0
      have hit : it (c :: r) = if (r.drop n).length < 32 then none else if (tc ((r.drop n).drop 32) 0 0).2.2 ≠ 0 ∨ 9223372036854775807 < (tc ((r.drop n).drop 32) 0 0).1 then none
          else some (⟨s, c, (r.drop n).take 32, (tc ((r.drop n).drop 32) 0 0).1⟩, ((r.drop n).drop 32).drop (tc ((r.drop n).drop 32) 0 0).2.1.toNat) := by
        simp [it, e1]
      rw [hit, e1]
      unfold maxB at hlr
      simp only [decide_true, Bool.not_true, Bool.false_eq_true, if_false]
      have hw : IntKind.i64.wrap (1 + (n : Int)) = ((n + 1 : Nat) : Int) := by rw [wrapI (by omega) (by omega)]; omega
      rw [hw, need_pos (by omega), sub_end]
      simp only [List.drop_succ_cons]
      by_cases h1 : (r.drop n).length < 32
      · rw [if_pos (decide_eq_true (by omega)), if_pos h1]
        exact ⟨_, rfl⟩
      · rw [if_neg (by rw [decide_eq_true_eq]; omega), if_neg h1]
        have hs32 : sub (r.drop n) 0 32 = (r.drop n).take 32 := by simp [sub]
        rw [need_pos (by omega), hs32, need_pos (by simp; simp at h1; omega), need_pos (by omega), sub_from (r.drop n) (i := 32) 32 rfl]
        have hb2 : IsB ((r.drop n).drop 32) := (hbr.drop n).drop 32
        rw [octet_TakeCount_is _ hb2 (by simp; unfold maxB; omega) k (by simp at hk ⊢; omega)]
        simp only [Option.bind_some]
        by_cases h2 : (tc ((r.drop n).drop 32) 0 0).2.2 = 0
        · obtain ⟨w, f1, f2, f3⟩ := tc_ok hb2 h2
          rw [f1]
          simp only [decide_true, Bool.not_true, Bool.false_eq_true, if_false, Option.bind_some, ne_eq, not_true_eq_false, false_or]
          by_cases h3 : (9223372036854775807 : Int) < w
          · rw [if_pos (by simpa using h3), if_pos h3]
            exact ⟨_, rfl⟩
          · rw [if_neg (by simpa using h3), if_neg h3, need_pos (by omega), sub_end, wrapI (x := (w : Int)) (by omega) (by omega)]
            refine ⟨rApi_Item.zeroD, ?_⟩
            simp only [Int.toNat_natCast, List.take_take, Nat.min_self]
            rfl
        · have h2' : (!decide ((tc ((r.drop n).drop 32) 0 0).2.2 = 0)) = true := by rw [decide_eq_false h2]; rfl
          rw [if_pos h2', if_pos (.inl h2)]
          exact ⟨_, rfl⟩
    · have hit : it (c :: r) = none := by simp [it, h0]
      rw [hit, if_pos (by simp [h0])]
      exact ⟨_, rfl⟩
/-- An item as bytes. -/
def encI (x : Api_Item) : List Int := x.Kind :: (enc x.Name.length ++ x.Name ++ x.Of ++ enc x.Size.toNat)
theorem it_enc {b : List Int} (hb : IsB b) {x : Api_Item} {r : List Int} (h : it b = some (x, r)) : b = encI x ++ r ∧ x.Name.length ≤ 65536 ∧ x.Of.length = 32 ∧ 0 ≤ x.Size ∧ x.Size ≤ 9223372036854775807 ∧ 0 ≤ x.Kind ∧ x.Kind < 256 ∧ IsB x.Name ∧ IsB x.Of ∧ IsB r := by
  match b, hb with
  | c :: b, hb =>
    have hbr : IsB b := fun x hx => hb x (by simp [hx])
    by_cases h0 : (tt b).2.2 = 0
    · obtain ⟨s, n, e1, e2, e3, e4, e5⟩ := tt_ok hbr h0
      simp only [it] at h
      rw [e1] at h
      simp only [ne_eq, not_true_eq_false, if_false, Int.toNat_natCast] at h
      split at h
      · cases h
      · next h1 =>
        have hb2 : IsB ((b.drop n).drop 32) := (hbr.drop n).drop 32
        by_cases h2 : (tc ((b.drop n).drop 32) 0 0).2.2 = 0
        · obtain ⟨w, f1, f2, f3⟩ := tc_ok hb2 h2
          rw [f1] at h
          simp only [not_true_eq_false, false_or] at h
          split at h
          · cases h
          · next h3 =>
            simp only [Option.some.injEq, Prod.mk.injEq] at h
            obtain ⟨rfl, rfl⟩ := h
            have hc := hb c (by simp)
            refine ⟨?_, e3, by simp at h1 ⊢; omega, by simp, by simp; omega, hc.1, hc.2, ?_, (hbr.drop n).take 32, hb2.drop _⟩
            · unfold encI
              simp only [Int.toNat_natCast, List.cons_append, List.cons.injEq, true_and]
              rw [List.append_assoc, ← f2, List.append_assoc, List.take_append_drop]
              exact e4
            · intro y hy
              refine hbr y ?_
              rw [e4]
              simp [hy]
        · rw [if_pos (.inl h2)] at h; cases h
    · simp [it, h0] at h
/-- So many items. -/
def its : Nat → List Int → Option (List Api_Item × List Int)
  | 0, b => some ([], b)
  | n + 1, b => (it b).bind fun p => (its n p.2).map fun q => (p.1 :: q.1, q.2)
theorem its_enc : ∀ (n : Nat) {b : List Int}, IsB b → ∀ {l : List Api_Item} {r : List Int}, its n b = some (l, r) → b = l.flatMap encI ++ r ∧ l.length = n ∧ IsB r ∧ ∀ x ∈ l, x.Name.length ≤ 65536 ∧ x.Of.length = 32 ∧ 0 ≤ x.Size ∧ x.Size ≤ 9223372036854775807 ∧ 0 ≤ x.Kind ∧ x.Kind < 256 ∧ IsB x.Name ∧ IsB x.Of
  | 0, b, hb, l, r, h => by simp [its] at h; obtain ⟨rfl, rfl⟩ := h; exact ⟨by simp, rfl, hb, by intro x hx; cases hx⟩
  | n + 1, b, hb, l, r, h => by
    unfold its at h
    obtain ⟨⟨x, b1⟩, h1, h2⟩ := Option.bind_eq_some_iff.1 h
    obtain ⟨⟨l1, r1⟩, h3, h4⟩ := Option.map_eq_some_iff.1 h2
    cases h4
    obtain ⟨g1, g2, g3, g4, g5, g6, g7, g8, g9, g10⟩ := it_enc hb h1
    obtain ⟨e1, e2, e3, e4⟩ := its_enc n g10 h3
    refine ⟨?_, by simp [e2], e3, fun y hy => ?_⟩
    · rw [g1]
      simp only [List.flatMap_cons, List.append_assoc]
      rw [← e1]
    · rcases List.mem_cons.1 hy with rfl | hy
      · exact ⟨g2, g3, g4, g5, g6, g7, g8, g9⟩
      · exact e4 y hy
theorem it_len {b : List Int} (hb : IsB b) {x : Api_Item} {r : List Int} (h : it b = some (x, r)) : r.length < b.length := by
  have := congrArg List.length (it_enc hb h).1
  unfold encI at this
  simp at this
  omega
/-- A folder's items, if just these bytes are one. -/
def tk (b : List Int) : Option (List Api_Item) :=
  if 4000 < b.length then none else if ¬ (b.take 2 = [68, 49]) then none else
  if (tc (b.drop 2) 0 0).2.2 ≠ 0 ∨ 64 < (tc (b.drop 2) 0 0).1 then none else
  match its (tc (b.drop 2) 0 0).1.toNat ((b.drop 2).drop (tc (b.drop 2) 0 0).2.1.toNat) with
  | some (l, []) => if may l then some l else none
  | _ => none
def tkR : Option (List Api_Item) → List Api_Item × Int
  | some l => (l, 0)
  | none => ([], 4)
theorem folder_Take_loop (c : Int × Int × Int) (m : Nat) (hc : c.1 = m) (hm : m ≤ 64) : ∀ (n i : Nat) (b : List Int) (l : List Api_Item) (k : Nat), n + i = m → IsB b → b.length ≤ maxB → l.length = i → b.length + n < k →
    folder_Take.l0 c k b l i = some (match its n b with | some (l', r) => .inr (r, l ++ l') | none => .inl ([], 4)) := by
  intro n
  induction n with
  | zero =>
    intro i b l k hi hb hlb hl hk
    obtain ⟨q, rfl⟩ : ∃ q, k = q + 1 := ⟨k - 1, by omega⟩
    rw [folder_Take.l0, if_neg (by simp [hc]; omega)]
    simp [its]
  | succ n ih =>
    intro i b l k hi hb hlb hl hk
    obtain ⟨q, rfl⟩ : ∃ q, k = q + 1 := ⟨k - 1, by omega⟩
    rw [folder_Take.l0, if_pos (by simp [hc]; omega)]
    obtain ⟨x0, h1⟩ := folder_item_is b hb hlb q (by omega)
    rw [h1]
    unfold its
    cases hit : it b with
    | none => simp
    | some p =>
      obtain ⟨x, r⟩ := p
      have hr := it_len hb hit
      have hbr := (it_enc hb hit).2.2.2.2.2.2.2.2.2
      simp only [Option.bind_some, Bool.not_true, Bool.false_eq_true, if_false]
      rw [need_pos (by unfold fits maxB; simp; omega), wrapU (by omega) (by omega), show ((i : Int) + 1) = ((i + 1 : Nat) : Int) by omega, ih (i + 1) r (l ++ [x]) q (by omega) hbr (by omega) (by simp [hl]) (by omega)]
      cases its n r with
      | none => rfl
      | some q => simp
theorem folder_Take_is (b : List Int) (hb : IsB b) (hl : b.length ≤ maxB) (k : Nat) (hk : b.length + 100 < k) : folder_Take.f k b = some (tkR (tk b)) := by
  unfold folder_Take.f tk
  by_cases h0 : 4000 < b.length
  · rw [if_pos (by simp; omega), if_pos h0]; rfl
  · rw [if_neg (by simp; omega), if_neg h0]
    have hpre : strings_HasPrefix.f b [68, 49] = some (decide (b.take 2 = [68, 49])) := by
      unfold strings_HasPrefix.f stringslite_HasPrefix.f
      by_cases h1 : 2 ≤ b.length
      · rw [if_pos (by simp; omega), need_pos (by simp; omega)]
        simp [sub]
      · rw [if_neg (by simp; omega)]
        have : ¬ b.take 2 = [68, 49] := fun e => by have := congrArg List.length e; simp at this; omega
        simp [this]
    rw [hpre]
    by_cases h1 : b.take 2 = [68, 49]
    · have hlen : 2 ≤ b.length := by have := congrArg List.length h1; simp at this; omega
      simp only [h1, decide_true, Bool.not_true, Option.bind_some, Bool.false_eq_true, if_false, not_true_eq_false]
      rw [need_pos (by omega), sub_from b (i := 2) 2 rfl]
      have hb2 := hb.drop 2
      rw [octet_TakeCount_is _ hb2 (by simp; omega) k (by simp; omega)]
      simp only [Option.bind_some]
      by_cases h2 : (tc (b.drop 2) 0 0).2.2 = 0
      · obtain ⟨w, f1, f2, f3⟩ := tc_ok hb2 h2
        rw [f1]
        simp only [decide_true, Bool.not_true, Bool.false_eq_true, if_false, Option.bind_some, ne_eq, not_true_eq_false, false_or, Int.toNat_natCast]
        by_cases h3 : (64 : Int) < w
        · rw [if_pos (by simpa using h3), if_pos h3]; rfl
        · rw [if_neg (by simpa using h3), if_neg h3, need_pos (by omega), sub_end]
          have hloop := folder_Take_loop ((w : Int), ((enc w).length : Int), 0) w rfl (by omega) w 0 ((b.drop 2).drop (enc w).length) [] k (by omega) (hb2.drop _) (by simp; omega) rfl (by simp; omega)
          rw [show ((0 : Nat) : Int) = 0 from rfl] at hloop
          rw [hloop]
          cases hits : its w ((b.drop 2).drop (enc w).length) with
          | none => rfl
          | some p =>
            obtain ⟨l, r⟩ := p
            simp only [Option.bind_some, List.nil_append]
            cases r with
            | nil =>
              simp only [List.length_nil]
              rw [folder_May_is l k (by omega)]
              cases may l <;> simp [tkR]
            | cons y r => simp [tkR]
      · have h2' : (!decide ((tc (b.drop 2) 0 0).2.2 = 0)) = true := by rw [decide_eq_false h2]; rfl
        rw [if_pos h2', if_pos (.inl h2)]
        rfl
    · rw [if_pos h1]
      simp [h1, tkR]
end Go.Proofs.Ytbcipfhhmkjigaa
