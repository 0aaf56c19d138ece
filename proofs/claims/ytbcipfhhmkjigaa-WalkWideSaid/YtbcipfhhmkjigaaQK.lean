/- SHA-256 in numbers that the kernel reckons fast. -/
import Derived.Test.YtbcipfhhmkjigaaQJ
set_option linter.unusedVariables false
set_option linter.unusedSimpArgs false
namespace Go.Proofs.Ytbcipfhhmkjigaa
open Go Go.Cf
def castL (l : List Nat) : List Int := List.map (fun n : Nat => (n : Int)) l
def Bd (l : List Nat) : Prop := ∀ x ∈ l, x < 4294967296
theorem castL_getD (l : List Nat) (j : Nat) : (castL l).getD j (rInt .u64).zeroD = ((l.getD j 0 : Nat) : Int) := by
  show (l.map _).getD j 0 = _
  simp only [List.getD_eq_getElem?_getD, List.getElem?_map]
  cases l[j]? <;> rfl
theorem castL_set (l : List Nat) (j n : Nat) : (castL l).set j (n : Int) = castL (l.set j n) := by
  unfold castL; rw [List.map_set]
theorem Bd.getD {l : List Nat} (h : Bd l) (j : Nat) : l.getD j 0 < 4294967296 := by
  simp only [List.getD_eq_getElem?_getD]
  cases hj : l[j]? with
  | none => simp
  | some x => exact h x (List.mem_of_getElem? hj)
theorem Bd.set {l : List Nat} (h : Bd l) (j : Nat) {x : Nat} (hx : x < 4294967296) : Bd (l.set j x) := fun y hy => by
  rcases List.mem_or_eq_of_mem_set hy with h' | rfl
  · exact h y h'
  · exact hx
def rotN (n x : Nat) : Nat := x / 2 ^ n + (x % 2 ^ n) * 2 ^ (32 - n)
theorem rot_cast (n : Nat) (hn : n ≤ 32) (x : Nat) (hx : x < 4294967296) : rot n (x : Int) = ((rotN n x : Nat) : Int) ∧ rotN n x < 4294967296 := by
  refine ⟨?_, (rot_nat x hx n hn).2⟩
  unfold rot
  rw [if_pos (by omega), Int.toNat_natCast]
  rfl
theorem down_cast (n : Nat) (x : Nat) (hx : x < 4294967296) : down n (x : Int) = ((x / 2 ^ n : Nat) : Int) ∧ x / 2 ^ n < 4294967296 := by
  refine ⟨?_, Nat.lt_of_le_of_lt (Nat.div_le_self _ _) hx⟩
  unfold down
  rw [if_pos (by omega), Int.toNat_natCast]
theorem ixor_nat (a b : Nat) (ha : a < 4294967296) (hb : b < 4294967296) : ixor .u64 a b = ((a ^^^ b : Nat) : Int) ∧ a ^^^ b < 4294967296 := by
  have hx : a ^^^ b < 2 ^ 32 := Nat.xor_lt_two_pow (by simpa using ha) (by simpa using hb)
  refine ⟨?_, by simpa using hx⟩
  unfold ixor
  have h : (IntKind.u64.bits) = 64 := rfl
  rw [h, ofInt_nat, ofInt_nat, BitVec.toNat_xor, BitVec.toNat_ofNat, BitVec.toNat_ofNat, Nat.mod_eq_of_lt (by omega), Nat.mod_eq_of_lt (by omega)]
  exact wrapU (by omega) (by omega)
theorem iand_nat' (a b : Nat) (ha : a < 4294967296) (hb : b < 4294967296) : iand .u64 a b = ((a &&& b : Nat) : Int) ∧ a &&& b < 4294967296 :=
  ⟨iand_nat a b (by omega) (by omega), Nat.lt_of_le_of_lt Nat.and_le_left ha⟩
theorem iand_all (a : Nat) (ha : a < 2 ^ 64) : iand .u64 (a : Int) (4294967295 : Int) = ((a % 4294967296 : Nat) : Int) := by
  have h := iand_nat a 4294967295 ha (by omega)
  rw [show ((4294967295 : Nat) : Int) = 4294967295 from rfl] at h
  rw [h]
  congr 1
  exact Nat.and_two_pow_sub_one_eq_mod a 32
theorem wadd (a b : Nat) (h : a + b < 2 ^ 64) : IntKind.u64.wrap ((a : Int) + (b : Int)) = ((a + b : Nat) : Int) := by
  rw [wrapU (by omega) (by omega)]; omega
theorem wsub (a : Nat) (h : a < 4294967296) : IntKind.u64.wrap ((4294967295 : Int) - (a : Int)) = ((4294967295 - a : Nat) : Int) := by
  rw [wrapU (by omega) (by omega)]; omega
def wN (w : List Nat) (i : Nat) : List Nat :=
  w.set i ((w.getD (i - 16) 0 + ((rotN 7 (w.getD (i - 15) 0) ^^^ rotN 18 (w.getD (i - 15) 0)) ^^^ (w.getD (i - 15) 0 / 2 ^ 3)) + w.getD (i - 7) 0 + ((rotN 17 (w.getD (i - 2) 0) ^^^ rotN 19 (w.getD (i - 2) 0)) ^^^ (w.getD (i - 2) 0 / 2 ^ 10))) % 4294967296)
theorem wNew_cast (w : List Nat) (i : Nat) (h0 : 16 ≤ i) (h1 : i < 64) (h : Bd w) : wNew (castL w) (i : Int) = castL (wN w i) ∧ Bd (wN w i) := by
  refine ⟨?_, h.set _ (Nat.mod_lt _ (by decide))⟩
  have w15 : (IntKind.i64.wrap ((i : Int) - 15)).toNat = i - 15 := by rw [wrapI (by omega) (by omega)]; omega
  have w2 : (IntKind.i64.wrap ((i : Int) - 2)).toNat = i - 2 := by rw [wrapI (by omega) (by omega)]; omega
  have w16 : (IntKind.i64.wrap ((i : Int) - 16)).toNat = i - 16 := by rw [wrapI (by omega) (by omega)]; omega
  have w7 : (IntKind.i64.wrap ((i : Int) - 7)).toNat = i - 7 := by rw [wrapI (by omega) (by omega)]; omega
  unfold wNew wN
  simp only [w15, w2, w16, w7, castL_getD, Int.toNat_natCast]
  have a15 := h.getD (i - 15)
  have a2 := h.getD (i - 2)
  have a16 := h.getD (i - 16)
  have a7 := h.getD (i - 7)
  generalize w.getD (i - 15) 0 = x at a15 ⊢
  generalize w.getD (i - 2) 0 = y at a2 ⊢
  generalize w.getD (i - 16) 0 = z at a16 ⊢
  generalize w.getD (i - 7) 0 = u at a7 ⊢
  obtain ⟨p1, q1⟩ := rot_cast 7 (by omega) x a15
  obtain ⟨p2, q2⟩ := rot_cast 18 (by omega) x a15
  obtain ⟨p3, q3⟩ := down_cast 3 x a15
  obtain ⟨p4, q4⟩ := rot_cast 17 (by omega) y a2
  obtain ⟨p5, q5⟩ := rot_cast 19 (by omega) y a2
  obtain ⟨p6, q6⟩ := down_cast 10 y a2
  rw [p1, p2, p3, p4, p5, p6]
  obtain ⟨r1, s1⟩ := ixor_nat _ _ q1 q2
  rw [r1]
  obtain ⟨r2, s2⟩ := ixor_nat _ _ s1 q3
  rw [r2]
  obtain ⟨r3, s3⟩ := ixor_nat _ _ q4 q5
  rw [r3]
  obtain ⟨r4, s4⟩ := ixor_nat _ _ s3 q6
  rw [r4, wadd _ _ (by omega), wadd _ _ (by omega), wadd _ _ (by omega), iand_all _ (by omega), castL_set]
def vN (ks w : List Nat) (v : List Nat) (i : Nat) : List Nat :=
  let x := v.getD 7 0 + ((rotN 6 (v.getD 4 0) ^^^ rotN 11 (v.getD 4 0)) ^^^ rotN 25 (v.getD 4 0)) + ((v.getD 4 0 &&& v.getD 5 0) ^^^ ((4294967295 - v.getD 4 0) &&& v.getD 6 0)) + ks.getD i 0 + w.getD i 0
  [(x + ((rotN 2 (v.getD 0 0) ^^^ rotN 13 (v.getD 0 0)) ^^^ rotN 22 (v.getD 0 0)) + (((v.getD 0 0 &&& v.getD 1 0) ^^^ (v.getD 0 0 &&& v.getD 2 0)) ^^^ (v.getD 1 0 &&& v.getD 2 0))) % 4294967296,
   v.getD 0 0, v.getD 1 0, v.getD 2 0, (v.getD 3 0 + x) % 4294967296, v.getD 4 0, v.getD 5 0, v.getD 6 0]
theorem vNew_cast (ks w v : List Nat) (i : Nat) (hk : Bd ks) (hw : Bd w) (h : Bd v) : vNew (castL ks) (castL w) (castL v) (i : Int) = castL (vN ks w v i) ∧ Bd (vN ks w v i) := by
  have a0 := h.getD 0
  have a1 := h.getD 1
  have a2 := h.getD 2
  have a3 := h.getD 3
  have a4 := h.getD 4
  have a5 := h.getD 5
  have a6 := h.getD 6
  have a7 := h.getD 7
  have ak := hk.getD i
  have aw := hw.getD i
  unfold vNew vN
  have i0 : ((0 : Int)).toNat = 0 := rfl
  have i1 : ((1 : Int)).toNat = 1 := rfl
  have i2 : ((2 : Int)).toNat = 2 := rfl
  have i3 : ((3 : Int)).toNat = 3 := rfl
  have i4 : ((4 : Int)).toNat = 4 := rfl
  have i5 : ((5 : Int)).toNat = 5 := rfl
  have i6 : ((6 : Int)).toNat = 6 := rfl
  have i7 : ((7 : Int)).toNat = 7 := rfl
  simp only [i0, i1, i2, i3, i4, i5, i6, i7, castL_getD, Int.toNat_natCast]
  generalize v.getD 0 0 = v0 at a0 ⊢
  generalize v.getD 1 0 = v1 at a1 ⊢
  generalize v.getD 2 0 = v2 at a2 ⊢
  generalize v.getD 3 0 = v3 at a3 ⊢
  generalize v.getD 4 0 = v4 at a4 ⊢
  generalize v.getD 5 0 = v5 at a5 ⊢
  generalize v.getD 6 0 = v6 at a6 ⊢
  generalize v.getD 7 0 = v7 at a7 ⊢
  generalize ks.getD i 0 = kk at ak ⊢
  generalize w.getD i 0 = ww at aw ⊢
  obtain ⟨p1, q1⟩ := rot_cast 6 (by omega) v4 a4
  obtain ⟨p2, q2⟩ := rot_cast 11 (by omega) v4 a4
  obtain ⟨p3, q3⟩ := rot_cast 25 (by omega) v4 a4
  obtain ⟨p4, q4⟩ := rot_cast 2 (by omega) v0 a0
  obtain ⟨p5, q5⟩ := rot_cast 13 (by omega) v0 a0
  obtain ⟨p6, q6⟩ := rot_cast 22 (by omega) v0 a0
  rw [p1, p2, p3, p4, p5, p6]
  obtain ⟨r1, s1⟩ := ixor_nat _ _ q1 q2
  rw [r1]
  obtain ⟨r2, s2⟩ := ixor_nat _ _ s1 q3
  rw [r2]
  obtain ⟨r3, s3⟩ := ixor_nat _ _ q4 q5
  rw [r3]
  obtain ⟨r4, s4⟩ := ixor_nat _ _ s3 q6
  rw [r4]
  obtain ⟨r5, s5⟩ := iand_nat' v4 v5 a4 a5
  have hs : 4294967295 - v4 < 4294967296 := by omega
  obtain ⟨r6, s6⟩ := iand_nat' (4294967295 - v4) v6 hs a6
  rw [wsub v4 a4, r5, r6]
  obtain ⟨r7, s7⟩ := ixor_nat _ _ s5 s6
  rw [r7]
  obtain ⟨r8, s8⟩ := iand_nat' v0 v1 a0 a1
  obtain ⟨r9, s9⟩ := iand_nat' v0 v2 a0 a2
  obtain ⟨r10, s10⟩ := iand_nat' v1 v2 a1 a2
  rw [r8, r9, r10]
  obtain ⟨r11, s11⟩ := ixor_nat _ _ s8 s9
  rw [r11]
  obtain ⟨r12, s12⟩ := ixor_nat _ _ s11 s10
  rw [r12]
  refine ⟨?_, ?_⟩
  · rw [wadd v7 _ (by omega), wadd (v7 + _) _ (by omega), wadd (v7 + _ + _) _ (by omega), wadd (v7 + _ + _ + _) _ (by omega), wadd (v7 + _ + _ + _ + _) _ (by omega), wadd (v7 + _ + _ + _ + _ + _) _ (by omega), wadd v3 _ (by omega), iand_all _ (by omega), iand_all _ (by omega)]
    rfl
  · intro x hx
    simp only [List.mem_cons, List.not_mem_nil, or_false] at hx
    rcases hx with rfl | rfl | rfl | rfl | rfl | rfl | rfl | rfl
    · exact Nat.mod_lt _ (by decide)
    · exact a0
    · exact a1
    · exact a2
    · exact Nat.mod_lt _ (by decide)
    · exact a4
    · exact a5
    · exact a6
def hN (s95 s204 : List Nat) (i : Nat) : List Nat := s204.set i ((s204.getD i 0 + s95.getD i 0) % 4294967296)
theorem hNew_cast (v h : List Nat) (i : Nat) (hv : Bd v) (hh : Bd h) : hNew (castL v) (castL h) (i : Int) = castL (hN v h i) ∧ Bd (hN v h i) := by
  refine ⟨?_, hh.set _ (Nat.mod_lt _ (by decide))⟩
  have a := hv.getD i
  have b := hh.getD i
  unfold hNew hN
  simp only [castL_getD, Int.toNat_natCast]
  rw [wadd _ _ (by omega), iand_all _ (by omega), castL_set]
def turnsN (f : List Nat → Nat → List Nat) : Nat → Nat → List Nat → List Nat
  | 0, _, l => l
  | n + 1, i, l => turnsN f n (i + 1) (f l i)
theorem turns_cast {f : List Int → Int → List Int} {g : List Nat → Nat → List Nat} (lo hi : Nat) (h : ∀ l i, lo ≤ i → i < hi → Bd l → f (castL l) (i : Int) = castL (g l i) ∧ Bd (g l i)) : ∀ (n i : Nat) (l : List Nat), lo ≤ i → i + n ≤ hi → Bd l → turns f n i (castL l) = castL (turnsN g n i l) ∧ Bd (turnsN g n i l)
  | 0, i, l, _, _, hl => ⟨rfl, hl⟩
  | n + 1, i, l, h1, h2, hl => by
    obtain ⟨e1, e2⟩ := h l i h1 (by omega) hl
    rw [turns, turnsN, e1]
    exact turns_cast lo hi h n (i + 1) _ (by omega) (by omega) e2
def blockN (h w ks : List Nat) : List Nat := turnsN (hN (turnsN (vN ks (turnsN wN 48 16 w)) 64 0 h)) 8 0 h
theorem block_cast (h w ks : List Nat) (hh : Bd h) (hw : Bd w) (hk : Bd ks) : shaBlock (castL h) (castL w) (castL ks) = castL (blockN h w ks) := by
  unfold shaBlock blockN
  obtain ⟨e1, f1⟩ := turns_cast 16 64 (fun l i a b c => wNew_cast l i a b c) 48 16 w (by omega) (by omega) hw
  rw [e1]
  obtain ⟨e2, f2⟩ := turns_cast 0 64 (fun l i a b c => vNew_cast ks (turnsN wN 48 16 w) l i hk f1 c) 64 0 h (by omega) (by omega) hh
  rw [e2]
  exact (turns_cast 0 8 (fun l i a b c => hNew_cast _ l i f2 c) 8 0 h (by omega) (by omega) hh).1
/-! ### The same in plain operations on numbers -/
def rr (n x : Nat) : Nat := Nat.add (Nat.div x (Nat.pow 2 n)) (Nat.mul (Nat.mod x (Nat.pow 2 n)) (Nat.pow 2 (Nat.sub 32 n)))
/-- The schedule as a window of sixteen. -/
def sch : Nat → List Nat → List Nat
  | 0, l => l
  | n + 1, l => match l with
    | [a0, a1, a2, a3, a4, a5, a6, a7, a8, a9, a10, a11, a12, a13, a14, a15] => a0 :: sch n [a1, a2, a3, a4, a5, a6, a7, a8, a9, a10, a11, a12, a13, a14, a15, Nat.mod (Nat.add (Nat.add (Nat.add a0 (Nat.xor (Nat.xor (rr 7 a1) (rr 18 a1)) (Nat.div a1 8))) a9) (Nat.xor (Nat.xor (rr 17 a14) (rr 19 a14)) (Nat.div a14 1024))) 4294967296]
    | _ => []
def rnds : List Nat → List Nat → Nat → Nat → Nat → Nat → Nat → Nat → Nat → Nat → List Nat
  | k :: ks, w :: ws, a, b, c, d, e, f, g, h =>
    let x := Nat.add (Nat.add (Nat.add (Nat.add h (Nat.xor (Nat.xor (rr 6 e) (rr 11 e)) (rr 25 e))) (Nat.xor (Nat.land e f) (Nat.land (Nat.sub 4294967295 e) g))) k) w
    rnds ks ws (Nat.mod (Nat.add (Nat.add x (Nat.xor (Nat.xor (rr 2 a) (rr 13 a)) (rr 22 a))) (Nat.xor (Nat.xor (Nat.land a b) (Nat.land a c)) (Nat.land b c))) 4294967296) a b c (Nat.mod (Nat.add d x) 4294967296) e f g
  | _, _, a, b, c, d, e, f, g, h => [a, b, c, d, e, f, g, h]
def win (w : List Nat) (i : Nat) : List Nat := [w.getD (i - 16) 0, w.getD (i - 15) 0, w.getD (i - 14) 0, w.getD (i - 13) 0, w.getD (i - 12) 0, w.getD (i - 11) 0, w.getD (i - 10) 0, w.getD (i - 9) 0, w.getD (i - 8) 0, w.getD (i - 7) 0, w.getD (i - 6) 0, w.getD (i - 5) 0, w.getD (i - 4) 0, w.getD (i - 3) 0, w.getD (i - 2) 0, w.getD (i - 1) 0]
theorem drop_getD (w : List Nat) (j : Nat) (h : j < w.length) : w.drop j = w.getD j 0 :: w.drop (j + 1) := by
  rw [List.drop_eq_getElem_cons h]
  simp [h]
theorem win_drop (w : List Nat) (i : Nat) (h0 : 16 ≤ i) (h1 : i ≤ w.length) : w.drop (i - 16) = win w i ++ w.drop i := by
  have e : ∀ j, j < 16 → w.drop (i - 16 + j) = w.getD (i - 16 + j) 0 :: w.drop (i - 16 + j + 1) := fun j hj => drop_getD w _ (by omega)
  have f : ∀ j, j < 16 → i - 16 + j = i - (16 - j) := fun j hj => by omega
  rw [show i - 16 = i - 16 + 0 from rfl, e 0 (by omega), e 1 (by omega), e 2 (by omega), e 3 (by omega), e 4 (by omega), e 5 (by omega), e 6 (by omega), e 7 (by omega), e 8 (by omega), e 9 (by omega), e 10 (by omega), e 11 (by omega), e 12 (by omega), e 13 (by omega), e 14 (by omega), e 15 (by omega),
    f 1 (by omega), f 2 (by omega), f 3 (by omega), f 4 (by omega), f 5 (by omega), f 6 (by omega), f 7 (by omega), f 8 (by omega), f 9 (by omega), f 10 (by omega), f 11 (by omega), f 12 (by omega), f 13 (by omega), f 14 (by omega), f 15 (by omega), show i - 16 + 0 = i - 16 from rfl, show i - (16 - 15) + 1 = i by omega]
  rfl
theorem set_getD (w : List Nat) (i j x : Nat) : (w.set i x).getD j 0 = if i = j then (if i < w.length then x else 0) else w.getD j 0 := by
  simp only [List.getD_eq_getElem?_getD, List.getElem?_set]
  by_cases h : i = j
  · subst h
    by_cases h2 : i < w.length <;> simp [h2]
  · simp [h]
theorem wN_len (w : List Nat) (i : Nat) : (wN w i).length = w.length := by simp [wN]
theorem turnsN_wN_len : ∀ n i w, (turnsN wN n i w).length = w.length
  | 0, _, _ => rfl
  | n + 1, i, w => by rw [turnsN, turnsN_wN_len n, wN_len]
theorem turnsN_wN_low : ∀ n i w j, j < i → (turnsN wN n i w).getD j 0 = w.getD j 0
  | 0, _, _, _, _ => rfl
  | n + 1, i, w, j, h => by
    rw [turnsN, turnsN_wN_low n (i + 1) _ j (by omega)]
    unfold wN
    rw [set_getD, if_neg (by omega)]
theorem sch_is : ∀ (n i : Nat) (w : List Nat), n + i = 64 → 16 ≤ i → w.length = 64 → sch n (win w i) = (turnsN wN n i w).drop (i - 16)
  | 0, i, w, h, h16, hl => by
    rw [turnsN, win_drop w i h16 (by omega), List.drop_of_length_le (by omega), List.append_nil]
    rfl
  | n + 1, i, w, h, h16, hl => by
    have hw : (wN w i).getD i 0 = (w.getD (i - 16) 0 + ((rotN 7 (w.getD (i - 15) 0) ^^^ rotN 18 (w.getD (i - 15) 0)) ^^^ (w.getD (i - 15) 0 / 2 ^ 3)) + w.getD (i - 7) 0 + ((rotN 17 (w.getD (i - 2) 0) ^^^ rotN 19 (w.getD (i - 2) 0)) ^^^ (w.getD (i - 2) 0 / 2 ^ 10))) % 4294967296 := by
      unfold wN
      rw [set_getD, if_pos rfl, if_pos (by omega)]
    have ho : ∀ j, j ≤ i → j ≠ 0 → (wN w i).getD (i + 1 - (j + 1)) 0 = w.getD (i - j) 0 := fun j hj h0 => by
      unfold wN
      rw [set_getD, if_neg (by omega)]
      congr 1
      omega
    have e1 : win (wN w i) (i + 1) = [w.getD (i - 15) 0, w.getD (i - 14) 0, w.getD (i - 13) 0, w.getD (i - 12) 0, w.getD (i - 11) 0, w.getD (i - 10) 0, w.getD (i - 9) 0, w.getD (i - 8) 0, w.getD (i - 7) 0, w.getD (i - 6) 0, w.getD (i - 5) 0, w.getD (i - 4) 0, w.getD (i - 3) 0, w.getD (i - 2) 0, w.getD (i - 1) 0, (wN w i).getD i 0] := by
      unfold win
      rw [ho 15 (by omega) (by omega), ho 14 (by omega) (by omega), ho 13 (by omega) (by omega), ho 12 (by omega) (by omega), ho 11 (by omega) (by omega), ho 10 (by omega) (by omega), ho 9 (by omega) (by omega), ho 8 (by omega) (by omega), ho 7 (by omega) (by omega), ho 6 (by omega) (by omega), ho 5 (by omega) (by omega), ho 4 (by omega) (by omega), ho 3 (by omega) (by omega), ho 2 (by omega) (by omega), ho 1 (by omega) (by omega), show i + 1 - 1 = i by omega]
    have ih := sch_is n (i + 1) (wN w i) (by omega) (by omega) (by rw [wN_len]; exact hl)
    rw [e1, hw] at ih
    have e2 : sch (n + 1) (win w i) = w.getD (i - 16) 0 :: sch n [w.getD (i - 15) 0, w.getD (i - 14) 0, w.getD (i - 13) 0, w.getD (i - 12) 0, w.getD (i - 11) 0, w.getD (i - 10) 0, w.getD (i - 9) 0, w.getD (i - 8) 0, w.getD (i - 7) 0, w.getD (i - 6) 0, w.getD (i - 5) 0, w.getD (i - 4) 0, w.getD (i - 3) 0, w.getD (i - 2) 0, w.getD (i - 1) 0, (w.getD (i - 16) 0 + ((rotN 7 (w.getD (i - 15) 0) ^^^ rotN 18 (w.getD (i - 15) 0)) ^^^ (w.getD (i - 15) 0 / 2 ^ 3)) + w.getD (i - 7) 0 + ((rotN 17 (w.getD (i - 2) 0) ^^^ rotN 19 (w.getD (i - 2) 0)) ^^^ (w.getD (i - 2) 0 / 2 ^ 10))) % 4294967296] := rfl
    rw [e2, ih, turnsN, show i + 1 - 16 = i - 16 + 1 by omega]
    rw [drop_getD _ (i - 16) (by rw [turnsN_wN_len, wN_len]; omega), turnsN_wN_low n (i + 1) _ (i - 16) (by omega)]
    unfold wN
    rw [set_getD, if_neg (by omega)]
theorem rnds_is (ks W : List Nat) (hk : ks.length = 64) (hw : W.length = 64) : ∀ (n i : Nat) (a b c d e f g h : Nat), n + i = 64 → rnds (ks.drop i) (W.drop i) a b c d e f g h = turnsN (vN ks W) n i [a, b, c, d, e, f, g, h]
  | 0, i, a, b, c, d, e, f, g, h, hi => by
    rw [List.drop_of_length_le (by omega), List.drop_of_length_le (by omega)]
    rfl
  | n + 1, i, a, b, c, d, e, f, g, h, hi => by
    rw [drop_getD ks i (by omega), drop_getD W i (by omega), turnsN]
    exact rnds_is ks W hk hw n (i + 1) _ _ _ _ _ _ _ _ (by omega)
def blockR (h w ks : List Nat) : List Nat := match h with
  | [a, b, c, d, e, f, g, i] => if w.length = 64 ∧ ks.length = 64 then turnsN (hN (rnds ks (sch 48 (w.take 16)) a b c d e f g i)) 8 0 h else blockN h w ks
  | _ => blockN h w ks
theorem blockR_is (h w ks : List Nat) : blockN h w ks = blockR h w ks := by
  unfold blockR
  split
  · next a b c d e f g i =>
    split
    · next hc =>
      obtain ⟨hw, hk⟩ := hc
      have hsch : sch 48 (w.take 16) = turnsN wN 48 16 w := by
        have hwin : w.take 16 = win w 16 := by
          have := win_drop w 16 (by omega) (by omega)
          rw [show 16 - 16 = 0 from rfl, List.drop_zero] at this
          have h2 : w.take 16 ++ w.drop 16 = win w 16 ++ w.drop 16 := by rw [List.take_append_drop]; exact this
          exact List.append_cancel_right h2
        rw [hwin, sch_is 48 16 w rfl (by omega) hw]
        rfl
      have := rnds_is ks (turnsN wN 48 16 w) hk (by rw [turnsN_wN_len]; exact hw) 64 0 a b c d e f g i rfl
      rw [List.drop_zero, List.drop_zero] at this
      rw [hsch, this]
      rfl
    · rfl
  · rfl
def low (l : List Int) : Bool := l.all fun x => decide (0 ≤ x ∧ x < 4294967296)
theorem low_cast {l : List Int} (h : low l = true) : castL (l.map Int.toNat) = l ∧ Bd (l.map Int.toNat) := by
  unfold low at h
  rw [List.all_eq_true] at h
  constructor
  · unfold castL
    rw [List.map_map]
    conv => rhs; rw [← List.map_id l]
    exact List.map_congr_left fun x hx => by
      have := h x hx
      simp at this
      simp
      omega
  · intro x hx
    obtain ⟨y, hy, rfl⟩ := List.mem_map.1 hx
    have := h y hy
    simp at this
    omega
def blockF (h w ks : List Int) : List Int := if low h && low w && low ks then castL (blockR (h.map Int.toNat) (w.map Int.toNat) (ks.map Int.toNat)) else shaBlock h w ks
theorem blockF_is (h w ks : List Int) : shaBlock h w ks = blockF h w ks := by
  unfold blockF
  split
  · next hc =>
    simp only [Bool.and_eq_true] at hc
    obtain ⟨⟨h1, h2⟩, h3⟩ := hc
    have := block_cast _ _ _ (low_cast h1).2 (low_cast h2).2 (low_cast h3).2
    rw [blockR_is] at this
    rw [(low_cast h1).1, (low_cast h2).1, (low_cast h3).1] at this
    exact this
  · rfl
def blocksF (p : List Int) : Nat → Nat → List Int → List Int
  | 0, _, h => h
  | n + 1, at_, h => blocksF p n (at_ + 1) (blockF h (turns (mNew ((at_ * 64 : Nat) : Int) p) 64 0 zeros64) shaK)
theorem blocksF_is (p : List Int) : ∀ n a h, shaBlocks p n a h = blocksF p n a h
  | 0, _, _ => rfl
  | n + 1, a, h => by rw [shaBlocks, blocksF, blockF_is, blocksF_is p n]
def shaF (a0 : List Int) : List Int := let p := shaPad a0; turns (oNew (blocksF p (p.length / 64) 0 shaH0)) 32 0 zeros32
theorem shaF_is (b : List Int) : sha b = shaF b := by
  unfold sha shaF
  dsimp only
  rw [blocksF_is]
end Go.Proofs.Ytbcipfhhmkjigaa
