/- The document's folders are the program's. -/
import Derived.Test.YtbcipfhhmkjigaaQE
set_option linter.unusedVariables false
set_option linter.unusedSimpArgs false
namespace Go.Proofs.Ytbcipfhhmkjigaa
open Go Go.Cf

def BI (l : List Api_Item) : List Int := [68, 49] ++ enc l.length ++ l.flatMap encI
/-- Items as they come out of bytes. -/
def Fine (l : List Api_Item) : Prop := ∀ x ∈ l, x.Name.length ≤ 65536 ∧ x.Of.length = 32 ∧ 0 ≤ x.Size ∧ x.Size ≤ 9223372036854775807
theorem may_item {l : List Api_Item} (h : may l = true) : l.length ≤ 64 ∧ ∀ x ∈ l, x.Name.length ≤ 64 ∧ 0 ≤ x.Size ∧ (x.Kind = 1 ∨ x.Kind = 2) := by
  unfold may at h
  simp only [Bool.and_eq_true, decide_eq_true_eq, List.all_eq_true] at h
  refine ⟨h.1, fun x hx => ?_⟩
  obtain ⟨i, hi, rfl⟩ := List.mem_iff_getElem.1 hx
  have := h.2 i (by simp; omega)
  unfold mayAt at this
  simp only [Bool.and_eq_true, Bool.or_eq_true, decide_eq_true_eq, List.getD_eq_getElem?_getD, List.getElem?_eq_getElem hi, Option.getD_some] at this
  obtain ⟨⟨⟨h1, _⟩, h2⟩, h3⟩ := this
  exact ⟨mayName_len h1, h2, h3.imp id (fun h => h.1)⟩
theorem encI_len {x : Api_Item} (h1 : x.Name.length ≤ 64) (h2 : x.Of.length = 32) (h3 : 0 ≤ x.Size) (h4 : x.Size ≤ 9223372036854775807) : (encI x).length ≤ 120 := by
  have a := enc_len10 (v := x.Name.length) (by omega)
  have b := enc_len10 (v := x.Size.toNat) (by omega)
  unfold encI
  simp
  omega
theorem flat_len : ∀ {l : List Api_Item}, (∀ x ∈ l, (encI x).length ≤ 120) → (l.flatMap encI).length ≤ l.length * 120
  | [], _ => by simp
  | x :: l, h => by
    have := flat_len (l := l) (fun y hy => h y (by simp [hy]))
    have := h x (by simp)
    simp only [List.flatMap_cons, List.length_append, List.length_cons]
    omega
theorem ref1_Text_is (s t : List Int) (hs : s.length + t.length + 40 ≤ maxB) (k : Nat) (hk : 10 ≤ k) (ht : t.length ≤ 65536) : cofferref1_Text.f k s t = some (s ++ enc t.length ++ t, 0) := by
  unfold cofferref1_Text.f
  have := enc_len10 (v := t.length) (by omega)
  rw [if_neg (by simp; omega), ref1_Count_is s t.length (by omega) (by omega) k hk]
  simp only [Option.bind_some]
  rw [need_pos (by unfold fits; simp; omega)]
theorem ref15_Bytes_loop (l : List Api_Item) (hl : l.length ≤ 64) (hx : ∀ x ∈ l, x.Name.length ≤ 64 ∧ x.Of.length = 32 ∧ 0 ≤ x.Size ∧ x.Size ≤ 9223372036854775807 ∧ (x.Kind = 1 ∨ x.Kind = 2)) : ∀ (n i k : Nat) (s : List Int), n + i = l.length → n + 11 < k → s.length ≤ 100 + i * 120 →
    cofferref15_Bytes.l0 l k s i = some (s ++ (l.drop i).flatMap encI) := by
  intro n
  induction n with
  | zero =>
    intro i k s hi hk hs
    obtain ⟨q, rfl⟩ : ∃ q, k = q + 1 := ⟨k - 1, by omega⟩
    rw [cofferref15_Bytes.l0, if_neg (by simp; omega), List.drop_eq_nil_of_le (by omega)]
    simp
  | succ n ih =>
    intro i k s hi hk hs
    obtain ⟨q, rfl⟩ : ∃ q, k = q + 1 := ⟨k - 1, by omega⟩
    have hlt : i < l.length := by omega
    have hmem : l.getD i rApi_Item.zeroD ∈ l := by rw [List.getD_eq_getElem?_getD, List.getElem?_eq_getElem hlt]; exact List.getElem_mem hlt
    obtain ⟨x, e⟩ : ∃ x, l.getD i rApi_Item.zeroD = x := ⟨_, rfl⟩
    rw [drop_cons hlt rApi_Item.zeroD]
    rw [cofferref15_Bytes.l0, if_pos (by simp; omega), need_pos (by omega)]
    rw [e] at hmem ⊢
    simp only [Int.toNat_natCast, e]
    obtain ⟨h1, h2, h3, h4, h5⟩ := hx x hmem
    have hk8 : IntKind.u8.wrap x.Kind = x.Kind := wrap8 (by omega) (by omega)
    have hen1 := enc_len10 (v := x.Name.length) (by omega)
    have hen2 := enc_len10 (v := x.Size.toNat) (by omega)
    have hsz : IntKind.u64.wrap x.Size = (x.Size.toNat : Int) := by rw [wrapU (by omega) (by omega)]; omega
    have hof : sub x.Of 0 32 = x.Of := by
      have := sub_all (x := x.Of) (n := 32) h2
      exact this
    have hmax : 100000 ≤ maxB := by unfold maxB; omega
    have hll : s.length + 300 ≤ 100000 := by omega
    rw [hk8, hsz, hof]
    rw [need_pos (by unfold fits; simp; omega), ref1_Text_is (s ++ [x.Kind]) x.Name (by simp; omega) q (by omega) (by omega)]
    simp only [Option.bind_some]
    rw [need_pos (by unfold fits; simp; omega), ref1_Count_is (s ++ [x.Kind] ++ enc x.Name.length ++ x.Name ++ x.Of) x.Size.toNat (by omega) (by simp; omega) q (by omega)]
    simp only [Option.bind_some]
    rw [wrap_succ hlt (by omega), ih (i + 1) q _ (by omega) (by omega) (by simp; omega)]
    congr 1
    simp [encI, List.append_assoc]
theorem ref15_Bytes_is (l : List Api_Item) (hf : Fine l) (k : Nat) (hk : 70000 ≤ k) : cofferref15_Bytes.f k l = some (if may l then if 4000 < (BI l).length then ([], 2) else (BI l, 0) else ([], 1)) := by
  unfold cofferref15_Bytes.f
  rw [ref15_May_is l (fun x hx => by have := (hf x hx).1; unfold maxB; omega) 65536 (fun x hx => (hf x hx).1) k (by omega)]
  simp only [Option.bind_some]
  cases hm : may l with
  | false => simp
  | true =>
    obtain ⟨h1, h2⟩ := may_item hm
    have hen := enc_len10 (v := l.length) (by omega)
    rw [if_neg (by simp), ref1_Count_is [68, 49] l.length (by omega) (by unfold maxB; simp) k (by omega)]
    simp only [Option.bind_some]
    have hloop := ref15_Bytes_loop l h1 (fun x hx => ⟨(h2 x hx).1, (hf x hx).2.1, (hf x hx).2.2.1, (hf x hx).2.2.2, (h2 x hx).2.2⟩) l.length 0 k ([68, 49] ++ enc l.length) (by omega) (by omega) (by simp; omega)
    rw [show ((0 : Nat) : Int) = 0 from rfl] at hloop
    rw [hloop, List.drop_zero]
    simp only [Option.bind_some]
    show _ = some (if _ then if 4000 < (BI l).length then _ else _ else _)
    change (if decide (4000 < ((BI l).length : Int)) = true then _ else _) = _
    by_cases h : 4000 < (BI l).length
    · rw [if_pos (decide_eq_true (by omega))]; simp [h]
    · rw [if_neg (by rw [decide_eq_true_eq]; omega)]; simp [h]; rfl
theorem it_nil : it [] = none := rfl
theorem it_one (c : Int) : it [c] = none := by
  have : (tt []).2.2 = 3 := rfl
  simp [it, this]
theorem ref15_Take_loop (b : List Int) (hb : IsB b) (hl : b.length ≤ maxB) (h3 : 3 ≤ b.length) (m : Nat) (hm : b.getD 2 0 = m) (hm64 : m ≤ 64) : ∀ (n i pos k : Nat) (l : List Api_Item), n + i = m → pos ≤ b.length → l.length = i → b.length + n + 10 < k →
    cofferref15_Take.l0 b k l pos i = some (match its n (b.drop pos) with | some (l', _) => .inr (l ++ l') | none => .inl ([], 4)) := by
  intro n
  have hlM := hl
  unfold maxB at hl
  induction n with
  | zero =>
    intro i pos k l hi hpos hll hk
    obtain ⟨q, rfl⟩ : ∃ q, k = q + 1 := ⟨k - 1, by omega⟩
    rw [cofferref15_Take.l0, need_pos (by omega)]
    simp only [(show Int.toNat 2 = 2 from rfl), (show (rInt .u8).zeroD = 0 from rfl)]
    rw [hm, if_neg (by simp; omega)]
    simp [its]
  | succ n ih =>
    intro i pos k l hi hpos hll hk
    obtain ⟨q, rfl⟩ : ∃ q, k = q + 1 := ⟨k - 1, by omega⟩
    rw [cofferref15_Take.l0, need_pos (by omega)]
    simp only [(show Int.toNat 2 = 2 from rfl), (show (rInt .u8).zeroD = 0 from rfl)]
    rw [hm, if_pos (by simp; omega), wrapI (x := (pos : Int) + 2) (by omega) (by omega)]
    unfold its
    by_cases h2 : b.length < pos + 2
    · rw [if_pos (decide_eq_true (by omega))]
      have : it (b.drop pos) = none := by
        match hd : b.drop pos with
        | [] => exact it_nil
        | [c] => exact it_one c
        | c :: d :: r =>
          have := congrArg List.length hd
          simp at this
          omega
      rw [this]; rfl
    · have hlt : pos < b.length := by omega
      rw [if_neg (by rw [decide_eq_true_eq]; omega), need_pos (by omega), wrap_succ hlt hlM, need_pos (by omega), sub_end]
      have hr : IsB (b.drop (pos + 1)) := hb.drop _
      rw [drop_cons hlt 0, ref1_TakeText_is _ hr (by simp; omega) q (by simp; omega)]
      simp only [Option.bind_some, Int.toNat_natCast]
      generalize hrd : b.drop (pos + 1) = r at hr ⊢
      have hrl : r.length = b.length - (pos + 1) := by rw [← hrd]; simp
      generalize b.getD pos 0 = c
      by_cases h0 : (tt r).2.2 = 0
      · obtain ⟨s, t, e1, e2, e3, e4, e5⟩ := tt_ok hr h0
        rw [e1]
        have hw : ∀ z : Int, 0 ≤ z → z ≤ 1000000000000000 → IntKind.i64.wrap z = z := fun z h1 h2 => wrapI (by omega) (by omega)
        have w1 : IntKind.i64.wrap (((pos + 1 : Nat) : Int) + (t : Int)) = ((pos + 1 + t : Nat) : Int) := by rw [hw _ (by omega) (by omega)]; omega
        have w2 : IntKind.i64.wrap (((pos + 1 + t : Nat) : Int) + 32) = ((pos + 1 + t + 32 : Nat) : Int) := by rw [hw _ (by omega) (by omega)]; omega
        simp only [decide_true, Bool.not_true, Bool.false_eq_true, if_false, w1, w2, Option.bind_some]
        have hit : it (c :: r) = if (r.drop t).length < 32 then none else if (tc ((r.drop t).drop 32) 0 0).2.2 ≠ 0 ∨ 9223372036854775807 < (tc ((r.drop t).drop 32) 0 0).1 then none
            else some (⟨s, c, (r.drop t).take 32, (tc ((r.drop t).drop 32) 0 0).1⟩, ((r.drop t).drop 32).drop (tc ((r.drop t).drop 32) 0 0).2.1.toNat) := by
          simp [it, e1]
        rw [hit]
        by_cases h32 : (r.drop t).length < 32
        · rw [if_pos (decide_eq_true (by simp at h32; omega)), if_pos h32]; rfl
        · have h32' : 32 ≤ r.length - t := by simpa using h32
          rw [if_neg (by rw [decide_eq_true_eq]; omega), if_neg h32, need_pos (by omega), sub_nat]
          have e6 : (b.take (pos + 1 + t + 32)).drop (pos + 1 + t) = (r.drop t).take 32 := by
            rw [← hrd, List.drop_drop, List.drop_take]
            congr 1
            omega
          have e7 : b.drop (pos + 1 + t + 32) = (r.drop t).drop 32 := by
            rw [← hrd]; simp only [List.drop_drop]
          rw [e6, need_pos (by simp; omega), need_pos (by omega), sub_end, e7]
          have hb2 : IsB ((r.drop t).drop 32) := (hr.drop t).drop 32
          rw [ref1_TakeCount_is _ hb2 (by simp; omega) q (by simp; omega)]
          simp only [Option.bind_some]
          by_cases h4 : (tc ((r.drop t).drop 32) 0 0).2.2 = 0
          · obtain ⟨w, f1, f2, f3⟩ := tc_ok hb2 h4
            rw [f1]
            simp only [decide_true, Bool.not_true, Bool.false_eq_true, if_false, Option.bind_some, ne_eq, not_true_eq_false, false_or, Int.toNat_natCast]
            by_cases h5 : (9223372036854775807 : Int) < w
            · rw [if_pos (by simpa using h5), if_pos h5]; rfl
            · have f3' : (enc w).length ≤ r.length - t - 32 := by simp at f3; omega
              rw [if_neg (by simpa using h5), if_neg h5, need_pos (by unfold fits maxB; simp; omega), wrapI (x := (w : Int)) (by omega) (by omega)]
              have w3 : IntKind.i64.wrap (((pos + 1 + t + 32 : Nat) : Int) + ((enc w).length : Int)) = ((pos + 1 + t + 32 + (enc w).length : Nat) : Int) := by rw [hw _ (by omega) (by omega)]; omega
              have w4 : IntKind.i64.wrap ((i : Int) + 1) = ((i + 1 : Nat) : Int) := by rw [hw _ (by omega) (by omega)]; omega
              rw [w3, w4, ih (i + 1) (pos + 1 + t + 32 + (enc w).length) q _ (by omega) (by omega) (by simp [hll]) (by omega)]
              have e8 : b.drop (pos + 1 + t + 32 + (enc w).length) = ((r.drop t).drop 32).drop (enc w).length := by
                rw [← hrd]; simp only [List.drop_drop]
              rw [e8]
              simp only [Option.bind_some]
              have e9 : ((((⟨[], c, idR.zeroD, 0⟩ : Api_Item).set_Name s).set_Of (((r.drop t).take 32).take 32)).set_Size (w : Int)) = ⟨s, c, (r.drop t).take 32, (w : Int)⟩ := by
                rw [List.take_take, Nat.min_self]; rfl
              cases its n (((r.drop t).drop 32).drop (enc w).length) with
              | none => rfl
              | some p =>
                simp only [Option.map_some, Option.some.injEq, Sum.inr.injEq]
                rw [← e9]
                simp
          · have h4' : (!decide ((tc ((r.drop t).drop 32) 0 0).2.2 = 0)) = true := by rw [decide_eq_false h4]; rfl
            rw [if_pos h4', if_pos (.inl h4)]
            rfl
      · have h0' : (!decide ((tt r).2.2 = 0)) = true := by rw [decide_eq_false h0]; rfl
        rw [if_pos h0']
        have hit : it (c :: r) = none := by simp [it, h0]
        rw [hit]
        rfl
theorem enc_take {w : Nat} (h : ¬ w < 128) : 128 ≤ ((enc w).headD 0) := by
  rw [enc_ge h]; simp; omega
theorem ref15_Take_is (b : List Int) (hb : IsB b) (hl : b.length ≤ maxB) (k : Nat) (hk : b.length + 80000 < k) : cofferref15_Take.f k b = some (tkR (tk b)) := by
  unfold cofferref15_Take.f
  have hbad : ∀ (h : tk b = none), some (([] : List Api_Item), (4 : Int)) = some (tkR (tk b)) := fun h => by rw [h]; rfl
  by_cases h3 : b.length < 3
  · rw [if_pos (decide_eq_true (by omega))]
    refine hbad ?_
    unfold tk
    by_cases h2 : b.take 2 = [68, 49]
    · have : b.drop 2 = [] := by
        have := congrArg List.length h2
        simp at this
        exact List.drop_eq_nil_of_le (by omega)
      simp [this, tc]
    · simp [h2]
  · match b, hb, hl, hk, h3, hbad with
    | [], _, _, _, h3, _ => simp at h3
    | [_], _, _, _, h3, _ => simp at h3
    | [_, _], _, _, _, h3, _ => simp at h3
    | x :: y :: z :: r, hb, hl, hk, h3, hbad =>
      have hz := hb z (by simp)
      have hbr : IsB r := fun q hq => hb q (by simp [hq])
      rw [if_neg (by rw [decide_eq_true_eq]; omega), need_pos (by omega), need_pos (by omega), need_pos (by omega)]
      simp only [(show Int.toNat 0 = 0 from rfl), (show Int.toNat 1 = 1 from rfl), (show Int.toNat 2 = 2 from rfl), List.getD_cons_zero, List.getD_cons_succ]
      by_cases hx : x = 68
      · by_cases hy : y = 49
        · subst hx; subst hy
          simp only [decide_true, Bool.not_true, Bool.false_eq_true, if_false, Option.bind_some]
          by_cases h64 : 64 < z
          · rw [if_pos (by simpa using h64)]
            refine hbad ?_
            unfold tk
            by_cases h4 : 4000 < ((68 : Int) :: 49 :: z :: r).length
            · rw [if_pos h4]
            · rw [if_neg h4, if_neg (by simp), if_pos ?_]
              simp only [List.drop_succ_cons, List.drop_zero]
              by_cases h0 : (tc (z :: r) 0 0).2.2 = 0
              · refine Or.inr ?_
                obtain ⟨w, f1, f2, f3⟩ := tc_ok (b := z :: r) (fun q hq => hb q (by simp only [List.mem_cons] at hq ⊢; exact .inr (.inr hq))) h0
                rw [f1]
                by_cases hw : w < 128
                · rw [enc_lt hw] at f2
                  simp at f2
                  show (64 : Int) < w
                  omega
                · show (64 : Int) < w
                  omega
              · exact Or.inl h0
          · rw [if_neg (by simpa using h64)]
            obtain ⟨m, rfl⟩ : ∃ m : Nat, z = m := ⟨z.toNat, by omega⟩
            have hloop := ref15_Take_loop ((68 : Int) :: 49 :: (m : Int) :: r) hb hl (by simp) m rfl (by omega) m 0 3 k [] (by omega) (by simp) rfl (by simp at hk ⊢; omega)
            rw [show ((0 : Nat) : Int) = 0 from rfl, show ((3 : Nat) : Int) = 3 from rfl] at hloop
            rw [hloop]
            simp only [List.drop_succ_cons, List.drop_zero, List.nil_append]
            have htc : tc ((m : Int) :: r) 0 0 = ((m : Int), 1, 0) := by
              unfold tc
              rw [if_neg (by omega), if_pos (by omega)]
              simp
            have htk : tk ((68 : Int) :: 49 :: (m : Int) :: r) = if 4000 < ((68 : Int) :: 49 :: (m : Int) :: r).length then none else match its m r with | some (l, []) => if may l then some l else none | _ => none := by
              unfold tk
              simp only [List.drop_succ_cons, List.drop_zero]
              rw [htc]
              by_cases h4 : 4000 < ((68 : Int) :: 49 :: (m : Int) :: r).length
              · rw [if_pos h4, if_pos h4]
              · rw [if_neg h4, if_neg h4, if_neg (by simp), if_neg (by simp; omega)]
                simp only [Int.toNat_natCast, (show Int.toNat 1 = 1 from rfl), List.drop_one, List.tail_cons]
                cases its m r with
                | none => rfl
                | some p => obtain ⟨l, r'⟩ := p; cases r' <;> rfl
            rw [htk]
            cases hits : its m r with
            | none =>
              simp only [Option.bind_some]
              split <;> rfl
            | some p =>
              obtain ⟨l, r'⟩ := p
              obtain ⟨g1, g2, g3, g4⟩ := its_enc m hbr hits
              have hfine : Fine l := fun x hx => by obtain ⟨a1, a2, a3, a4, _⟩ := g4 x hx; exact ⟨a1, a2, a3, a4⟩
              have hBI : ((68 : Int) :: 49 :: (m : Int) :: r) = BI l ++ r' := by
                unfold BI
                rw [g2, enc_lt (by omega)]
                simp
                exact g1
              simp only [Option.bind_some]
              rw [ref15_Bytes_is l hfine k (by omega)]
              simp only [Option.bind_some]
              cases hm : may l with
              | false =>
                simp only [Bool.false_eq_true, if_false]
                cases r' with
                | nil => simp [tkR, hm]
                | cons c r' => simp [tkR]
              | true =>
                simp only [if_true]
                by_cases h4 : 4000 < (BI l).length
                · have h4' : 4000 < ((68 : Int) :: 49 :: (m : Int) :: r).length := by rw [hBI, List.length_append]; omega
                  rw [if_pos h4, if_pos h4']
                  rfl
                · rw [if_neg h4]
                  cases r' with
                  | nil =>
                    rw [List.append_nil] at hBI
                    rw [hBI]
                    simp [h4, hm, tkR]
                  | cons c r' =>
                    have hne : ¬ BI l = ((68 : Int) :: 49 :: (m : Int) :: r) := fun e => by
                      have := congrArg List.length hBI
                      rw [← e, List.length_append] at this
                      simp at this
                    simp [hne, tkR]
        · have hy' : (!decide (y = 49)) = true := by rw [decide_eq_false hy]; rfl
          subst hx
          rw [if_pos hy']
          refine hbad ?_
          simp [tk, hy]
      · have hx' : (!decide (x = 68)) = true := by rw [decide_eq_false hx]; rfl
        rw [if_pos hx']
        refine hbad ?_
        simp [tk, hx]
end Go.Proofs.Ytbcipfhhmkjigaa
