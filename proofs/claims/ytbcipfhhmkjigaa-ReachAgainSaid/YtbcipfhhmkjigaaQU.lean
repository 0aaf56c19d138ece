/- The document's Mark and Lost. -/
import Derived.Test.YtbcipfhhmkjigaaQS
set_option linter.unusedVariables false
set_option linter.unusedSimpArgs false
namespace Go.Proofs.Ytbcipfhhmkjigaa
open Go Go.Cf

theorem ref18_l2 (l : Objs) (hw : Wf l) (roots : List (List Int)) : ∀ (n i k : Nat) (h d : Hits) (again : Bool), n + i = l.length → n + 90000 < k → RInv l roots h d → (again = false → ∀ j, j < i → at' h j = true → at' d j = true) →
    ∃ h' d' again', cofferref18_Mark.l2 l k h d again i = some (h', d', again') ∧ RInv l roots h' d' ∧ (∀ j, at' h j = true → at' h' j = true) ∧ (again' = false → ∀ j, at' h' j = true → at' d' j = true) ∧ (again' = true → again = true ∨ cnt h < cnt h') ∧ cnt h ≤ cnt h' := by
  intro n
  induction n with
  | zero =>
    intro i k h d again hi hk hI hP
    obtain ⟨q, rfl⟩ : ∃ q, k = q + 1 := ⟨k - 1, by omega⟩
    rw [cofferref18_Mark.l2, if_neg (by simp; omega)]
    refine ⟨h, d, again, rfl, hI, fun _ h => h, fun e j hj => ?_, fun e => .inl e, Nat.le_refl _⟩
    obtain ⟨hjl, _⟩ := hI.sound j hj
    exact hP e j (by omega) hj
  | succ n ih =>
    intro i k h d again hi hk hI hP
    obtain ⟨q, rfl⟩ : ∃ q, k = q + 1 := ⟨k - 1, by omega⟩
    have hlt : i < l.length := by omega
    have hll := hw.len
    have hhl := hI.hl
    have hdl := hI.dl
    rw [cofferref18_Mark.l2, if_pos (by simp; omega), need_pos (by omega), wrap_succ hlt (by unfold maxB; omega)]
    simp only [Int.toNat_natCast, (show rBool.zeroD = false from rfl)]
    cases hh : h.getD i false with
    | false =>
      simp only [Bool.not_false, if_true, Option.bind_some]
      refine ih (i + 1) q h d again (by omega) (by omega) hI (fun e j hj hhj => ?_)
      rcases Nat.eq_or_lt_of_le (Nat.le_of_lt_succ hj) with e' | e'
      · subst e'; unfold at' at hhj; rw [hh] at hhj; cases hhj
      · exact hP e j e' hhj
    | true =>
      simp only [Bool.not_true, Bool.false_eq_true, if_false]
      rw [need_pos (by omega)]
      cases hd : d.getD i false with
      | true =>
        simp only [Option.bind_some, if_true]
        refine ih (i + 1) q h d again (by omega) (by omega) hI (fun e j hj hhj => ?_)
        rcases Nat.eq_or_lt_of_le (Nat.le_of_lt_succ hj) with e' | e'
        · subst e'; exact hd
        · exact hP e j e' hhj
      | false =>
        simp only [Option.bind_some, Bool.false_eq_true, if_false]
        rw [need_pos (by omega), need_pos (by omega)]
        have hg : l.getD i rApi_Object.zeroD = l[i] := by rw [List.getD_eq_getElem?_getD, List.getElem?_eq_getElem hlt]; rfl
        have hbd := hw.data l[i] (List.getElem_mem hlt)
        rw [hg, ref15_Take_is _ hbd.1 (by unfold maxB; omega) q (by omega)]
        simp only [Option.bind_some]
        have hTl : ((tkR (tk l[i].Data)).1).length ≤ 64 := T_len _
        obtain ⟨h', a', e1, e2, e3, e4, e5, e6, e7, e8⟩ := ref18_l3 l hw (tkR (tk l[i].Data)) hTl (tkR (tk l[i].Data)).1.length 0 q h again (by omega) (by omega) hhl
        rw [show ((0 : Nat) : Int) = 0 from rfl] at e1
        rw [List.drop_zero] at e4 e5
        rw [e1]
        simp only [Option.bind_some]
        have hset : ∀ j, at' (d.set i true) j = (decide (i = j) || at' d j) := fun j => at_set d i j (by omega)
        have hsi := hI.sound i hh
        obtain ⟨_, hpi, hRi⟩ := hsi
        have hdat : dat l l[i].Of = some l[i].Data := (pl_some hpi).2.2
        have hI' : RInv l roots h' (d.set i true) := by
          refine ⟨e2, by simpa using hdl, fun j hj => ?_, fun j hjl hj => ?_⟩
          · rcases e4 j hj with h4 | ⟨x, hx, hp⟩
            · exact hI.sound j h4
            · obtain ⟨hjl, g1, g2⟩ := pl_some hp
              refine ⟨hjl, by rw [g1]; exact hp, ?_⟩
              rw [g1]
              exact .step hRi hdat hx (by rw [g2]; rfl)
          · rw [hset j] at hj
            by_cases e : i = j
            · subst e
              exact ⟨e3 i hh, fun x hx m hm => e5 x hx m hm⟩
            · simp [e] at hj
              obtain ⟨g1, g2⟩ := hI.done j hjl hj
              exact ⟨e3 j g1, fun x hx m hm => e3 m (g2 x hx m hm)⟩
        obtain ⟨h2, d2, a2, f1, f2, f3, f4, f5, f6⟩ := ih (i + 1) q h' (d.set i true) a' (by omega) (by omega) hI' (fun e j hj hhj => by
          obtain ⟨g1, g2⟩ := e6 e
          subst g2
          rw [hset j]
          rcases Nat.eq_or_lt_of_le (Nat.le_of_lt_succ hj) with e' | e'
          · subst e'; simp
          · rw [hP g1 j e' hhj]; simp)
        refine ⟨h2, d2, a2, f1, f2, fun j hj => f3 j (e3 j hj), f4, fun e => ?_, by omega⟩
        rcases f5 e with g | g
        · rcases e7 g with g' | g'
          · exact .inl g'
          · exact .inr (by omega)
        · exact .inr (by omega)
theorem ref18_l1 (l : Objs) (hw : Wf l) (roots : List (List Int)) : ∀ (m k : Nat) (h d : Hits) (again : Bool), (again = true → l.length ≤ m + cnt h) → m + 90100 < k → RInv l roots h d → (again = false → ∀ j, at' h j = true → at' d j = true) →
    ∃ h' d', cofferref18_Mark.l1 l k h d again = some (h', d') ∧ RInv l roots h' d' ∧ (∀ j, at' h j = true → at' h' j = true) ∧ (∀ j, at' h' j = true → at' d' j = true) := by
  intro m
  induction m with
  | zero =>
    intro k h d again hm hk hI hP
    have hll := hw.len
    obtain ⟨q, rfl⟩ : ∃ q, k = q + 1 := ⟨k - 1, by omega⟩
    cases again with
    | false =>
      rw [cofferref18_Mark.l1, if_neg (by simp)]
      exact ⟨h, d, rfl, hI, fun _ h => h, hP rfl⟩
    | true =>
      rw [cofferref18_Mark.l1, if_pos rfl]
      obtain ⟨h1, d1, a1, e1, e2, e3, e4, e5, e6⟩ := ref18_l2 l hw roots l.length 0 q h d false (by omega) (by omega) hI (fun _ j hj => by omega)
      rw [show ((0 : Nat) : Int) = 0 from rfl] at e1
      rw [e1]
      simp only [Option.bind_some]
      cases a1 with
      | false =>
        obtain ⟨p, rfl⟩ : ∃ p, q = p + 1 := ⟨q - 1, by omega⟩
        rw [cofferref18_Mark.l1, if_neg (by simp)]
        exact ⟨h1, d1, rfl, e2, e3, e4 rfl⟩
      | true =>
        exfalso
        have h1l := cnt_le h1
        have := e2.hl
        have := hm rfl
        rcases e5 rfl with g | g
        · cases g
        · omega
  | succ m ih =>
    intro k h d again hm hk hI hP
    have hll := hw.len
    obtain ⟨q, rfl⟩ : ∃ q, k = q + 1 := ⟨k - 1, by omega⟩
    cases again with
    | false =>
      rw [cofferref18_Mark.l1, if_neg (by simp)]
      exact ⟨h, d, rfl, hI, fun _ h => h, hP rfl⟩
    | true =>
      rw [cofferref18_Mark.l1, if_pos rfl]
      obtain ⟨h1, d1, a1, e1, e2, e3, e4, e5, e6⟩ := ref18_l2 l hw roots l.length 0 q h d false (by omega) (by omega) hI (fun _ j hj => by omega)
      rw [show ((0 : Nat) : Int) = 0 from rfl] at e1
      rw [e1]
      simp only [Option.bind_some]
      obtain ⟨h2, d2, f1, f2, f3, f4⟩ := ih q h1 d1 a1 (fun e => by
        have := hm rfl
        rcases e5 e with g | g
        · cases g
        · omega) (by omega) e2 e4
      exact ⟨h2, d2, f1, f2, fun j hj => f3 j (e3 j hj), f4⟩
theorem ref18_l4 (l : Objs) (hw : Wf l) (h : Hits) (hl : h.length = l.length) : ∀ (n i k : Nat) (out : List (List Int)), n + i = l.length → n + 200 < k → Len32 out → Up out → out.length ≤ i →
    ∃ out', cofferref18_Mark.l4 l h k out i = some out' ∧ Len32 out' ∧ Up out' ∧ ∀ x, x ∈ out' ↔ x ∈ out ∨ ∃ j, ∃ hj : j < l.length, i ≤ j ∧ at' h j = true ∧ l[j].Of = x := by
  intro n
  induction n with
  | zero =>
    intro i k out hi hk h32 hup hol
    obtain ⟨q, rfl⟩ : ∃ q, k = q + 1 := ⟨k - 1, by omega⟩
    rw [cofferref18_Mark.l4, if_neg (by simp; omega)]
    refine ⟨out, rfl, h32, hup, fun x => ⟨fun hx => .inl hx, ?_⟩⟩
    rintro (hx | ⟨j, hj, hij, _⟩)
    · exact hx
    · omega
  | succ n ih =>
    intro i k out hi hk h32 hup hol
    obtain ⟨q, rfl⟩ : ∃ q, k = q + 1 := ⟨k - 1, by omega⟩
    have hlt : i < l.length := by omega
    have hll := hw.len
    rw [cofferref18_Mark.l4, if_pos (by simp; omega), need_pos (by omega), wrap_succ hlt (by unfold maxB; omega)]
    simp only [Int.toNat_natCast, (show rBool.zeroD = false from rfl)]
    have hg : l.getD i rApi_Object.zeroD = l[i] := by rw [List.getD_eq_getElem?_getD, List.getElem?_eq_getElem hlt]; rfl
    cases hh : h.getD i false with
    | false =>
      simp only [Bool.false_eq_true, if_false, Option.bind_some]
      obtain ⟨o', e1, e2, e3, e4⟩ := ih (i + 1) q out (by omega) (by omega) h32 hup (by omega)
      refine ⟨o', e1, e2, e3, fun x => (e4 x).trans (or_congr Iff.rfl ⟨fun ⟨j, hj, h1, h2, h3⟩ => ⟨j, hj, by omega, h2, h3⟩, fun ⟨j, hj, h1, h2, h3⟩ => ⟨j, hj, ?_, h2, h3⟩⟩)⟩
      rcases Nat.eq_or_lt_of_le h1 with e | e
      · subst e; unfold at' at h2; rw [hh] at h2; cases h2
      · omega
    | true =>
      simp only [if_true]
      rw [need_pos (by omega)]
      have hid := hw.id l[i] (List.getElem_mem hlt)
      rw [hg, ref17_With_is out l[i].Of h32 hid (by omega) q (by omega)]
      simp only [Option.bind_some]
      have hwl := wins_length l[i].Of out
      obtain ⟨o', e1, e2, e3, e4⟩ := ih (i + 1) q (wins l[i].Of out) (by omega) (by omega) (wins_len hid h32) (wins_up hup) (by omega)
      refine ⟨o', e1, e2, e3, fun x => (e4 x).trans ?_⟩
      rw [wins_mem]
      constructor
      · rintro ((rfl | h1) | ⟨j, hj, h1, h2, h3⟩)
        · exact .inr ⟨i, hlt, Nat.le_refl _, hh, rfl⟩
        · exact .inl h1
        · exact .inr ⟨j, hj, by omega, h2, h3⟩
      · rintro (h1 | ⟨j, hj, h1, h2, h3⟩)
        · exact .inl (.inr h1)
        · rcases Nat.eq_or_lt_of_le h1 with e | e
          · subst e; exact .inl (.inl h3.symm)
          · exact .inr ⟨j, hj, by omega, h2, h3⟩
theorem at_replicate (n j : Nat) : at' (List.replicate n false) j = false := by
  unfold at'
  rw [List.getD_eq_getElem?_getD, List.getElem?_replicate]
  split <;> rfl
theorem ref18_Mark_is (l : Objs) (hw : Wf l) (roots : List (List Int)) (hr : roots.length ≤ 1000) (k : Nat) (hk : 100000 ≤ k) : ∃ a, cofferref18_Mark.f k l roots = some a ∧ Names (fun x => Rch l roots x) a ∧ a.length ≤ 100000 := by
  unfold cofferref18_Mark.f
  have hll := hw.len
  rw [need_pos (by unfold maxB; omega), need_pos (by unfold maxB; omega)]
  simp only [Int.toNat_natCast, (show rBool.zeroD = false from rfl)]
  obtain ⟨h0, e1, e2, e3, e4⟩ := ref18_l0 l hw roots hr roots.length 0 k (List.replicate l.length false) (by omega) (by omega) (by simp) (fun j hj => by rw [at_replicate] at hj; cases hj) (fun m hm h => by omega)
  rw [show ((0 : Nat) : Int) = 0 from rfl] at e1
  rw [e1]
  simp only [Option.bind_some]
  have hI : RInv l roots h0 (List.replicate l.length false) := ⟨e2, by simp, e3, fun j _ hj => by rw [at_replicate] at hj; cases hj⟩
  obtain ⟨h1, d1, f1, f2, f3, f4⟩ := ref18_l1 l hw roots l.length k h0 (List.replicate l.length false) true (fun _ => by omega) (by omega) hI (fun e => by cases e)
  rw [f1]
  simp only [Option.bind_some]
  obtain ⟨out, g1, g2, g3, g4⟩ := ref18_l4 l hw h1 f2.hl l.length 0 k [] (by omega) (by omega) (by intro x hx; cases hx) List.Pairwise.nil (by simp)
  rw [show ((0 : Nat) : Int) = 0 from rfl] at g1
  rw [g1]
  have hall : ∀ x, Rch l roots x → ∀ j, pl l x = some j → at' h1 j = true := by
    intro x hR
    induction hR with
    | root hx hs => exact fun j hj => f3 j (e4 _ hx j hj)
    | step hRx hd hii hs ih =>
      rename_i x0 d0 i0
      intro j hj
      cases hp : pl l x0 with
      | none => have := pl_none hp; rw [hd] at this; cases this
      | some j0 =>
        obtain ⟨hj0, a1, a2⟩ := pl_some hp
        have hd0 : l[j0].Data = d0 := by rw [hd] at a2; exact (Option.some.inj a2).symm
        exact (f2.done j0 hj0 (f4 j0 (ih j0 hp))).2 i0 (by rw [hd0]; exact hii) j hj
  have hmem : ∀ x, x ∈ out ↔ Rch l roots x := fun x => by
    rw [g4 x]
    constructor
    · rintro (h | ⟨j, hj, _, h2, rfl⟩)
      · cases h
      · obtain ⟨_, _, hR⟩ := f2.sound j h2
        exact hR
    · intro hR
      cases hp : pl l x with
      | none => have := pl_none hp; have h2 := hR.some; rw [this] at h2; cases h2
      | some j =>
        obtain ⟨hj, a1, _⟩ := pl_some hp
        exact .inr ⟨j, hj, Nat.zero_le _, hall x hR j hp, a1⟩
  refine ⟨out, rfl, ⟨g3, hmem, g2⟩, ?_⟩
  have hnd : out.Nodup := g3.imp (fun {x y} h e => by subst e; rw [cmp3_refl] at h; omega)
  have := nodup_length_le (l := out) (m := l.map (·.Of)) hnd (fun x hx => by
    obtain ⟨o, ho, e⟩ := dat_isSome.1 ((hmem x).1 hx).some
    exact List.mem_map.2 ⟨o, ho, e⟩)
  simp at this
  omega
theorem ref18_Lost_l1 (c : List (List Int)) (hc : c.length ≤ 100000) (l : Objs) (i : Nat) (hi : i < l.length) : ∀ (n m k : Nat) (b : Bool), n + m = c.length → n < k → cofferref18_Lost.l1 c (i : Int) l k b m = some (b || decide (l[i].Of ∈ c.drop m)) := by
  intro n
  have hg : l.getD i rApi_Object.zeroD = l[i] := by rw [List.getD_eq_getElem?_getD, List.getElem?_eq_getElem hi]; rfl
  induction n with
  | zero =>
    intro m k b hm hk
    obtain ⟨q, rfl⟩ : ∃ q, k = q + 1 := ⟨k - 1, by omega⟩
    rw [cofferref18_Lost.l1, if_neg (by simp; omega), List.drop_eq_nil_of_le (by omega)]
    simp
  | succ n ih =>
    intro m k b hm hk
    obtain ⟨q, rfl⟩ : ∃ q, k = q + 1 := ⟨k - 1, by omega⟩
    have hlt : m < c.length := by omega
    have hgc : c.getD m idR.zeroD = c[m] := by rw [List.getD_eq_getElem?_getD, List.getElem?_eq_getElem hlt]; rfl
    rw [cofferref18_Lost.l1, if_pos (by simp; omega), need_pos (by omega), need_pos (by omega), wrap_succ hlt (by unfold maxB; omega)]
    simp only [Int.toNat_natCast, hg, hgc]
    rw [List.drop_eq_getElem_cons hlt]
    cases b with
    | true => simp only [if_true, Option.bind_some]; rw [ih (m + 1) q true (by omega) (by omega)]; simp
    | false =>
      simp only [Bool.false_eq_true, if_false, Option.bind_some]
      rw [ih (m + 1) q _ (by omega) (by omega)]
      congr 1
      rw [Bool.eq_iff_iff]
      simp only [Bool.or_eq_true, decide_eq_true_eq, List.mem_cons, Bool.false_or]
      exact or_congr ⟨fun h => h.symm, fun h => h.symm⟩ Iff.rfl
theorem ref18_Lost_l0 (l : Objs) (hw : Wf l) (c : List (List Int)) (hc : c.length ≤ 100000) : ∀ (n i k : Nat) (out : List (List Int)), n + i = l.length → n + 100100 < k → Len32 out → Up out → out.length ≤ i →
    ∃ out', cofferref18_Lost.l0 l c k out i = some out' ∧ Len32 out' ∧ Up out' ∧ ∀ x, x ∈ out' ↔ x ∈ out ∨ ∃ j, ∃ hj : j < l.length, i ≤ j ∧ l[j].Of ∉ c ∧ l[j].Of = x := by
  intro n
  induction n with
  | zero =>
    intro i k out hi hk h32 hup hol
    obtain ⟨q, rfl⟩ : ∃ q, k = q + 1 := ⟨k - 1, by omega⟩
    rw [cofferref18_Lost.l0, if_neg (by simp; omega)]
    refine ⟨out, rfl, h32, hup, fun x => ⟨fun hx => .inl hx, ?_⟩⟩
    rintro (hx | ⟨j, hj, hij, _⟩)
    · exact hx
    · omega
  | succ n ih =>
    intro i k out hi hk h32 hup hol
    obtain ⟨q, rfl⟩ : ∃ q, k = q + 1 := ⟨k - 1, by omega⟩
    have hlt : i < l.length := by omega
    have hll := hw.len
    have hg : l.getD i rApi_Object.zeroD = l[i] := by rw [List.getD_eq_getElem?_getD, List.getElem?_eq_getElem hlt]; rfl
    have hl1 := ref18_Lost_l1 c hc l i hlt c.length 0 q false (by omega) (by omega)
    rw [show ((0 : Nat) : Int) = 0 from rfl, List.drop_zero] at hl1
    rw [cofferref18_Lost.l0, if_pos (by simp; omega), hl1, wrap_succ hlt (by unfold maxB; omega)]
    simp only [Option.bind_some, Bool.false_or]
    by_cases hin : l[i].Of ∈ c
    · rw [if_neg (by simp [hin])]
      simp only [Option.bind_some]
      obtain ⟨o', e1, e2, e3, e4⟩ := ih (i + 1) q out (by omega) (by omega) h32 hup (by omega)
      refine ⟨o', e1, e2, e3, fun x => (e4 x).trans (or_congr Iff.rfl ⟨fun ⟨j, hj, h1, h2, h3⟩ => ⟨j, hj, by omega, h2, h3⟩, fun ⟨j, hj, h1, h2, h3⟩ => ⟨j, hj, ?_, h2, h3⟩⟩)⟩
      rcases Nat.eq_or_lt_of_le h1 with e | e
      · subst e; exact absurd hin h2
      · omega
    · rw [if_pos (by simp [hin]), need_pos (by omega)]
      have hid := hw.id l[i] (List.getElem_mem hlt)
      simp only [Int.toNat_natCast]
      rw [hg, ref17_With_is out l[i].Of h32 hid (by omega) q (by omega)]
      simp only [Option.bind_some]
      have hwl := wins_length l[i].Of out
      obtain ⟨o', e1, e2, e3, e4⟩ := ih (i + 1) q (wins l[i].Of out) (by omega) (by omega) (wins_len hid h32) (wins_up hup) (by omega)
      refine ⟨o', e1, e2, e3, fun x => (e4 x).trans ?_⟩
      rw [wins_mem]
      constructor
      · rintro ((rfl | h1) | ⟨j, hj, h1, h2, h3⟩)
        · exact .inr ⟨i, hlt, Nat.le_refl _, hin, rfl⟩
        · exact .inl h1
        · exact .inr ⟨j, hj, by omega, h2, h3⟩
      · rintro (h1 | ⟨j, hj, h1, h2, h3⟩)
        · exact .inl (.inr h1)
        · rcases Nat.eq_or_lt_of_le h1 with e | e
          · subst e; exact .inl (.inl h3.symm)
          · exact .inr ⟨j, hj, by omega, h2, h3⟩
theorem ref18_Lost_is (l : Objs) (hw : Wf l) (roots : List (List Int)) (hr : roots.length ≤ 1000) (k : Nat) (hk : 200000 ≤ k) : ∃ a, cofferref18_Lost.f k l roots = some a ∧ Names (fun x => (dat l x).isSome = true ∧ ¬ Rch l roots x) a := by
  unfold cofferref18_Lost.f
  obtain ⟨c, h1, h2, h3⟩ := ref18_Mark_is l hw roots hr k (by omega)
  have hll := hw.len
  rw [h1]
  simp only [Option.bind_some]
  obtain ⟨out, g1, g2, g3, g4⟩ := ref18_Lost_l0 l hw c h3 l.length 0 k [] (by omega) (by omega) (by intro x hx; cases hx) List.Pairwise.nil (by simp)
  rw [show ((0 : Nat) : Int) = 0 from rfl] at g1
  rw [g1]
  refine ⟨out, rfl, g3, fun x => ?_, g2⟩
  rw [g4 x]
  constructor
  · rintro (h | ⟨j, hj, _, h2', rfl⟩)
    · cases h
    · exact ⟨dat_isSome.2 ⟨l[j], List.getElem_mem hj, rfl⟩, fun hR => h2' ((h2.mem _).2 hR)⟩
  · rintro ⟨a1, a2⟩
    obtain ⟨o, ho, rfl⟩ := dat_isSome.1 a1
    obtain ⟨j, hj, rfl⟩ := List.mem_iff_getElem.1 ho
    exact .inr ⟨j, hj, Nat.zero_le _, fun h => a2 ((h2.mem _).1 h), rfl⟩
end Go.Proofs.Ytbcipfhhmkjigaa
