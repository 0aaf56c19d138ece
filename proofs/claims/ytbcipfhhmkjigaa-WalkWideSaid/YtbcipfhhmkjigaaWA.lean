/- WalkWide: all but the chains. -/
import Derived.Test.YtbcipfhhmkjigaaQY
import Derived.KernelRfl
set_option linter.unusedVariables false
set_option linter.unusedSimpArgs false
namespace Go.Proofs.Ytbcipfhhmkjigaa
open Go Go.Cf
set_option maxRecDepth 1000000 in
theorem walk_begun (k : Nat) : cofferlaw17_begun.f (k + 300) = some true := by kernel_rfl
theorem begin_l0 (l : Objs) (hl : l.length ≤ 1000) : ∀ (n i k : Nat) (s : List (List Int × List Int)), n + i = l.length → n < k → (∀ x, mget s x = dat (l.take i) x) →
    ∃ s', walk_begin.l0 l k s i = some s' ∧ ∀ x, mget s' x = dat l x := by
  intro n
  induction n with
  | zero =>
    intro i k s hi hk hs
    obtain ⟨q, rfl⟩ : ∃ q, k = q + 1 := ⟨k - 1, by omega⟩
    rw [walk_begin.l0, if_neg (by simp; omega)]
    refine ⟨s, rfl, fun x => ?_⟩
    rw [hs x, List.take_of_length_le (by omega)]
  | succ n ih =>
    intro i k s hi hk hs
    obtain ⟨q, rfl⟩ : ∃ q, k = q + 1 := ⟨k - 1, by omega⟩
    have hlt : i < l.length := by omega
    obtain ⟨o, ho⟩ : ∃ o, l.getD i rApi_Object.zeroD = o := ⟨_, rfl⟩
    have hoi : l[i]? = some o := by rw [List.getElem?_eq_getElem hlt, ← ho, List.getD_eq_getElem?_getD, List.getElem?_eq_getElem hlt]; rfl
    have htk : l.take (i + 1) = l.take i ++ [o] := by rw [List.take_add_one, hoi]; rfl
    have hdat : ∀ x, dat (l.take (i + 1)) x = (dat (l.take i) x).or (if o.Of = x then some o.Data else none) := fun x => by
      unfold dat
      rw [htk, List.find?_append]
      cases h : List.find? (fun o => decide (o.Of = x)) (l.take i) with
      | some y => simp
      | none =>
        simp only [Option.none_or, Option.map_none, List.find?_singleton]
        by_cases e : o.Of = x <;> simp [e]
    rw [walk_begin.l0, if_pos (by simp; omega), need_pos (by omega), wrap_succ hlt (by unfold maxB; omega)]
    simp only [Int.toNat_natCast, ho]
    cases hm : mget s o.Of with
    | none =>
      simp only [Option.isSome_none, Bool.not_false, if_true, Option.bind_some]
      refine ih (i + 1) q _ (by omega) (by omega) (fun x => ?_)
      rw [mget_mset, hs x, hdat x]
      by_cases e : x = o.Of
      · subst e
        rw [hs o.Of] at hm
        simp [hm]
      · rw [if_neg e, if_neg (fun e' => e e'.symm)]
        cases dat (l.take i) x <;> rfl
    | some v =>
      simp only [Option.isSome_some, Bool.not_true, Bool.false_eq_true, if_false, Option.bind_some]
      refine ih (i + 1) q _ (by omega) (by omega) (fun x => ?_)
      rw [hs x, hdat x]
      by_cases e : o.Of = x
      · subst e
        rw [hs o.Of] at hm
        rw [hm]; rfl
      · rw [if_neg e]
        cases dat (l.take i) x <;> rfl
theorem begin_is (l : Objs) (hl : l.length ≤ 1000) (tell : Bool) (k : Nat) (hk : l.length < k) : ∃ m, walk_begin.f k l tell = some (m, [], 0, tell, [], 0) ∧ ∀ x, mget m x = dat l x := by
  obtain ⟨m, h1, h2⟩ := begin_l0 l hl l.length 0 k [] (by omega) hk (fun x => by simp [dat, mget])
  refine ⟨m, ?_, h2⟩
  unfold walk_begin.f
  rw [show ((0 : Nat) : Int) = 0 from rfl] at h1
  rw [h1]
  rfl
theorem Place_is (a n : Int) (h0 : 1 ≤ n) (h1 : n ≤ 1000) : ∃ p : Nat, cofferlaw0_Place.f a n = some (p : Int) ∧ (p : Int) < n := by
  unfold cofferlaw0_Place.f
  rw [if_neg (by simp; omega), need_pos (by omega)]
  have hlt : (a.tmod n) < n := Int.tmod_lt_of_pos a (by omega)
  have hgt : -n < a.tmod n := by
    have := Int.tmod_lt_of_pos (-a) (show 0 < n by omega)
    rw [Int.neg_tmod] at this
    omega
  by_cases h : a.tmod n < 0
  · rw [if_pos (by simpa using h)]
    simp only [Option.bind_some]
    rw [wrapI (by omega) (by omega)]
    exact ⟨(a.tmod n + n).toNat, by rw [Int.toNat_of_nonneg (by omega)], by omega⟩
  · rw [if_neg (by simpa using h)]
    simp only [Option.bind_some]
    exact ⟨(a.tmod n).toNat, by rw [Int.toNat_of_nonneg (by omega)], by omega⟩
/-- The chain as it is made. -/
structure Made (t : Nat) (N D : Nat → List Int) : Prop where
  chain : Chain t N D
  leaf : D 0 = [108, 101, 97, 102]
  of : ∀ k, 2000 ≤ k → cofferlaw17_Of.f k (D 0) = some ⟨N 0, D 0⟩
  folder : ∀ j, j < 7 → ∀ k, 3000 ≤ k → cofferlaw17_Folder.f k (itemsOf t N j) = some ⟨N (j + 1), D (j + 1)⟩
theorem Of_is (b : List Int) (hb : b.length ≤ 900000) (k : Nat) (hk : b.length + 1000 ≤ k) : cofferlaw17_Of.f k b = some ⟨sha b, b⟩ := by
  unfold cofferlaw17_Of.f
  rw [Sum_is b hb k hk]
  simp only [Option.bind_some, List.nil_append]
  rw [need_pos (by unfold fits maxB; simp; omega)]
theorem Folder_is {l : List Api_Item} {d n : List Int} (hb : ∀ k, cofferref15_Bytes.f (k + 1000) l = some (d, 0)) (hl : d.length ≤ 900) (hn : shaF d = n) (k : Nat) (hk : 3000 ≤ k) : cofferlaw17_Folder.f k l = some ⟨n, d⟩ := by
  unfold cofferlaw17_Folder.f
  obtain ⟨q, rfl⟩ : ∃ q, k = q + 1000 := ⟨k - 1000, by omega⟩
  rw [hb q]
  simp only [Option.bind_some]
  rw [Of_is d (by omega) _ (by omega), shaF_is, hn]
  rfl
def apartN (N : Nat → List Int) : Bool := (List.range 8).all fun i => (List.range 8).all fun j => (i == j) || !decide (N i = N j)
theorem inj_of {N : Nat → List Int} (h : apartN N = true) : ∀ i j, i ≤ 7 → j ≤ 7 → N i = N j → i = j := fun i j hi hj e => by
  unfold apartN at h
  rw [List.all_eq_true] at h
  have h1 := h i (List.mem_range.2 (by omega))
  rw [List.all_eq_true] at h1
  have h2 := h1 j (List.mem_range.2 (by omega))
  simp [e] at h2
  exact h2
theorem forall7 {P : Nat → Prop} (h0 : P 0) (h1 : P 1) (h2 : P 2) (h3 : P 3) (h4 : P 4) (h5 : P 5) (h6 : P 6) : ∀ j, j < 7 → P j := fun j hj => by
  match j, hj with
  | 0, _ => exact h0
  | 1, _ => exact h1
  | 2, _ => exact h2
  | 3, _ => exact h3
  | 4, _ => exact h4
  | 5, _ => exact h5
  | 6, _ => exact h6
def someOf (s57 : Int) (s56 : List Int) (s58 : Int) (n : Nat) : List Api_Item := (List.range n).map (fun i : Nat => (⟨[97 + (i : Int)], s57, s56, s58⟩ : Api_Item))
theorem wide_l1 (s : Nat) (hs : s < 8) (s57 : Int) (s56 : List Int) (s58 : Int) : ∀ (r i k : Nat), r + i = s + 1 → r < k → cofferlaw17_WalkWide.l1 (s : Int) s57 s56 s58 k (someOf s57 s56 s58 i) (i : Int) = some (someOf s57 s56 s58 (s + 1)) := by
  intro r
  have hw1 : IntKind.i64.wrap ((1 : Int) + (s : Int)) = ((s + 1 : Nat) : Int) := by rw [wrapI (by omega) (by omega)]; omega
  induction r with
  | zero =>
    intro i k hi hk
    obtain ⟨q, rfl⟩ : ∃ q, k = q + 1 := ⟨k - 1, by omega⟩
    rw [cofferlaw17_WalkWide.l1, hw1, if_neg (by simp; omega)]
    have : i = s + 1 := by omega
    subst this; rfl
  | succ r ih =>
    intro i k hi hk
    obtain ⟨q, rfl⟩ : ∃ q, k = q + 1 := ⟨k - 1, by omega⟩
    have hl : (someOf s57 s56 s58 i).length = i := by simp [someOf]
    have hw2 : IntKind.i64.wrap ((97 : Int) + (i : Int)) = 97 + (i : Int) := wrapI (by omega) (by omega)
    rw [cofferlaw17_WalkWide.l1, hw1, if_pos (by simp; omega), need_pos (by rw [hl]; unfold fits maxB; simp; omega), hw2, wrap8 (by omega) (by omega), wrap_succ (i := i) (n := 100) (by omega) (by unfold maxB; omega)]
    have hsn : someOf s57 s56 s58 i ++ [(⟨[97 + (i : Int)], s57, s56, s58⟩ : Api_Item)] = someOf s57 s56 s58 (i + 1) := by
      unfold someOf
      rw [List.range_succ, List.map_append]
      rfl
    rw [hsn]
    exact ih (i + 1) q (by omega) (by omega)
def objsTo (N D : Nat → List Int) (d : Nat) : Objs := (List.range (d + 1)).map fun i => ⟨N i, D i⟩
theorem cnt_succ (t : Nat) : ∀ d, cnt t (d + 1) = cnt t d + t ^ (d + 1)
  | 0 => by simp [cnt]
  | d + 1 => by
    have h := cnt_succ t d
    show 1 + t * cnt t (d + 1) = cnt t (d + 1) + t ^ (d + 1 + 1)
    conv => lhs; rw [h]
    rw [Nat.mul_add, ← Nat.add_assoc, Nat.pow_succ t (d + 1), Nat.mul_comm (t ^ (d + 1)) t]
    rfl
theorem pow_bound (t : Nat) (ht : t ≤ 8) (d : Nat) (hd : d ≤ 7) : t ^ d ≤ 2097152 :=
  Nat.le_trans (Nat.pow_le_pow_left ht d) (Nat.le_trans (Nat.pow_le_pow_right (by omega) hd) (by decide))
theorem cnt_bound (t : Nat) (ht : t ≤ 8) : ∀ d, d ≤ 7 → cnt t d ≤ 2097152 * (d + 1)
  | 0, _ => by simp [cnt]
  | d + 1, hd => by
    have h1 := cnt_bound t ht d (by omega)
    have h2 := pow_bound t ht (d + 1) hd
    rw [cnt_succ]
    omega
theorem wide_l0 {s : Nat} (hs : s < 8) {N D : Nat → List Int} (md : Made (s + 1) N D) (p : Nat) (hp : p < 7) : ∀ (r d k : Nat), r + d = p + 1 → 4000 + r < k → 
    cofferlaw17_WalkWide.l0 (p : Int) (s : Int) k (objsTo N D d) (N d) (if d = 0 then 1 else 2) (if d = 0 then 4 else 0) ((cnt (s + 1) d : Nat) : Int) (((s + 1) ^ d : Nat) : Int) (d : Int) = some (objsTo N D (p + 1), N (p + 1), ((cnt (s + 1) (p + 1) : Nat) : Int), (((s + 1) ^ (p + 1) : Nat) : Int)) := by
  intro r
  have hw1 : IntKind.i64.wrap ((1 : Int) + (p : Int)) = ((p + 1 : Nat) : Int) := by rw [wrapI (by omega) (by omega)]; omega
  have hw2 : IntKind.i64.wrap ((1 : Int) + (s : Int)) = ((s + 1 : Nat) : Int) := by rw [wrapI (by omega) (by omega)]; omega
  induction r with
  | zero =>
    intro d k hi hk
    obtain ⟨q, rfl⟩ : ∃ q, k = q + 1 := ⟨k - 1, by omega⟩
    rw [cofferlaw17_WalkWide.l0, hw1, if_neg (by simp; omega)]
    have : d = p + 1 := by omega
    subst this; rfl
  | succ r ih =>
    intro d k hi hk
    obtain ⟨q, rfl⟩ : ∃ q, k = q + 1 := ⟨k - 1, by omega⟩
    rw [cofferlaw17_WalkWide.l0, hw1, if_pos (by simp; omega)]
    have e1 := wide_l1 s hs (if d = 0 then 1 else 2) (N d) (if d = 0 then 4 else 0) (s + 1) 0 q (by omega) (by omega)
    rw [show someOf (if d = 0 then 1 else 2) (N d) (if d = 0 then 4 else 0) 0 = [] from rfl, show ((0 : Nat) : Int) = 0 from rfl] at e1
    rw [e1]
    simp only [Option.bind_some]
    rw [show someOf (if d = 0 then 1 else 2) (N d) (if d = 0 then 4 else 0) (s + 1) = itemsOf (s + 1) N d from rfl, md.folder d (by omega) q (by omega)]
    simp only [Option.bind_some]
    have hlen : (objsTo N D d).length = d + 1 := by simp [objsTo]
    rw [need_pos (by rw [hlen]; unfold fits maxB; simp; omega)]
    have hpow := pow_bound (s + 1) (by omega) (d + 1) (by omega)
    have hcnt := cnt_bound (s + 1) (by omega) d (by omega)
    have e2 : IntKind.i64.wrap ((((s + 1) ^ d : Nat) : Int) * ((s + 1 : Nat) : Int)) = (((s + 1) ^ (d + 1) : Nat) : Int) := by
      rw [show (((s + 1) ^ d : Nat) : Int) * ((s + 1 : Nat) : Int) = (((s + 1) ^ (d + 1) : Nat) : Int) by rw [Nat.pow_succ, Int.natCast_mul]]
      exact wrapI (by omega) (by omega)
    have e3 : IntKind.i64.wrap (((cnt (s + 1) d : Nat) : Int) + (((s + 1) ^ (d + 1) : Nat) : Int)) = ((cnt (s + 1) (d + 1) : Nat) : Int) := by
      rw [cnt_succ, Int.natCast_add]
      exact wrapI (by omega) (by omega)
    have e4 : objsTo N D d ++ [⟨N (d + 1), D (d + 1)⟩] = objsTo N D (d + 1) := by
      unfold objsTo
      rw [List.range_succ (n := d + 1), List.map_append]
      rfl
    rw [hw2, e2, e3, e4, wrap_succ (i := d) (n := 100) (by omega) (by unfold maxB; omega)]
    have := ih (d + 1) q (by omega) (by omega)
    rw [if_neg (Nat.succ_ne_zero d), if_neg (Nat.succ_ne_zero d)] at this
    exact this
theorem dat_objsTo {N D : Nat → List Int} (hinj : ∀ i j, i ≤ 7 → j ≤ 7 → N i = N j → i = j) (d : Nat) (hd : d ≤ 7) (j : Nat) (hj : j ≤ d) : dat (objsTo N D d) (N j) = some (D j) := by
  induction d with
  | zero =>
    have : j = 0 := by omega
    subst this
    simp [dat, objsTo]
  | succ d ih =>
    have e : objsTo N D (d + 1) = objsTo N D d ++ [⟨N (d + 1), D (d + 1)⟩] := by
      unfold objsTo
      rw [List.range_succ (n := d + 1), List.map_append]
      rfl
    rw [e]
    by_cases hjd : j ≤ d
    · have := ih (by omega) hjd
      unfold dat at this ⊢
      rw [List.find?_append]
      cases h : List.find? (fun o => decide (o.Of = N j)) (objsTo N D d) with
      | none => rw [h] at this; cases this
      | some o => rw [h] at this; exact this
    · have : j = d + 1 := by omega
      subst this
      unfold dat
      rw [List.find?_append]
      have h0 : List.find? (fun o => decide (o.Of = N (d + 1))) (objsTo N D d) = none := by
        rw [List.find?_eq_none]
        intro o ho
        unfold objsTo at ho
        obtain ⟨i, hi, rfl⟩ := List.mem_map.1 ho
        have := List.mem_range.1 hi
        simp
        intro e'
        have := hinj i (d + 1) (by omega) hd e'
        omega
      rw [h0]
      simp
theorem wide_end {s : Nat} (hs : s < 8) {N D : Nat → List Int} (md : Made (s + 1) N D) (p : Nat) (hp : p < 7) (tell : Bool) (k : Nat) (hk : 6000 ≤ k) :
    ∃ m, walk_begin.f k (objsTo N D (p + 1)) tell = some (m, [], 0, tell, [], 0) ∧ ∃ o, walk_way_enter.f k m [] 0 tell [] 0 (N (p + 1)) [] 1 = some o ∧
      (cnt (s + 1) (p + 1) ≤ 1024 → ∃ met files c, o = (m, met, c, tell, files, 0) ∧ met.length = p + 2 ∧ files.length = if tell then (s + 1) ^ (p + 1) else 0) ∧ (1024 < cnt (s + 1) (p + 1) → o.2.2.2.2.2 = 2) := by
  have hlen : (objsTo N D (p + 1)).length = p + 2 := by simp [objsTo]
  obtain ⟨m, h1, h2⟩ := begin_is (objsTo N D (p + 1)) (by omega) tell k (by omega)
  refine ⟨m, h1, ?_⟩
  obtain ⟨o, h3, h4, h5⟩ := enter_ok md.chain (p + 1) (by omega) m (fun j hj => by rw [h2]; exact dat_objsTo md.chain.inj (p + 1) (by omega) j hj) tell p (by omega) k [] 0 [] [] 1 (by omega) (by omega) (by simp; omega) (by omega) (by simp) (by simp)
  rw [show ((0 : Nat) : Int) = 0 from rfl, show ((1 : Nat) : Int) = 1 from rfl] at h3
  refine ⟨o, h3, fun hc => ?_, fun hc => h5 (by omega)⟩
  obtain ⟨met, files, rfl, hnd, hmem, hf⟩ := h4 (by omega)
  refine ⟨met, files, _, rfl, ?_, by rw [hf]; simp⟩
  have hnd2 : ((List.range (p + 2)).map N).Nodup := by
    rw [List.nodup_iff_pairwise_ne, List.pairwise_map]
    refine List.Pairwise.imp_of_mem ?_ (List.nodup_iff_pairwise_ne.1 List.nodup_range)
    intro a b ha hb hab e
    exact hab (md.chain.inj a b (by have := List.mem_range.1 ha; omega) (by have := List.mem_range.1 hb; omega) e)
  have hperm := (List.perm_ext_iff_of_nodup hnd hnd2).2 (fun x => by
    rw [hmem]
    constructor
    · rintro (h | ⟨_, i, hi, rfl⟩)
      · simp at h
      · exact List.mem_map.2 ⟨i, List.mem_range.2 (by omega), rfl⟩
    · intro h
      obtain ⟨i, hi, rfl⟩ := List.mem_map.1 h
      exact .inr ⟨by omega, i, by have := List.mem_range.1 hi; omega, rfl⟩)
  have := hperm.length_eq
  simpa using this
theorem wide_true {s : Nat} (hs : s < 8) {N D : Nat → List Int} (md : Made (s + 1) N D) (p : Nat) (hp : p < 7) (a0 a1 : Int) (h0 : cofferlaw0_Place.f a0 7 = some (p : Int)) (h1 : cofferlaw0_Place.f a1 8 = some (s : Int)) : cofferlaw17_WalkWide.f 8000 a0 a1 = some true := by
  unfold cofferlaw17_WalkWide.f
  rw [show (8000 : Nat) = 7700 + 300 from rfl, walk_begun 7700]
  simp only [Option.bind_some, Bool.not_true, Bool.false_eq_true, if_false]
  rw [show (7700 + 300 : Nat) = 8000 from rfl, h0]
  simp only [Option.bind_some]
  rw [h1]
  simp only [Option.bind_some]
  have hof := md.of 8000 (by omega)
  rw [md.leaf] at hof
  rw [hof]
  simp only [Option.bind_some]
  have hl0 := wide_l0 hs md p hp (p + 1) 0 8000 (by omega) (by omega)
  rw [show objsTo N D 0 = [⟨N 0, [108, 101, 97, 102]⟩] from by rw [← md.leaf]; rfl, show ((cnt (s + 1) 0 : Nat) : Int) = 1 from rfl, show (((s + 1) ^ 0 : Nat) : Int) = 1 from rfl, show ((0 : Nat) : Int) = 0 from rfl, if_pos rfl, if_pos rfl] at hl0
  rw [hl0]
  simp only [Option.bind_some]
  obtain ⟨m, b1, o, b2, b3, b4⟩ := wide_end hs md p hp false 8000 (by omega)
  obtain ⟨m', d1, o', d2, d3, d4⟩ := wide_end hs md p hp true 8000 (by omega)
  unfold walk_Close.f walk_Files.f
  rw [b1]
  simp only [Option.bind_some]
  rw [b2]
  simp only [Option.bind_some]
  rw [d1]
  simp only [Option.bind_some]
  rw [d2]
  simp only [Option.bind_some]
  rcases Nat.lt_or_ge 1024 (cnt (s + 1) (p + 1)) with hov | hok
  · have e1 := b4 hov
    have e2 := d4 hov
    rw [e1, e2, if_pos (by decide)]
    simp only [Option.bind_some]
    rw [if_pos (by decide)]
    simp only [Option.bind_some]
    rw [if_pos (by simp; omega)]
    simp
  · obtain ⟨met, files, c, rfl, hm, hf⟩ := b3 hok
    obtain ⟨met', files', c', rfl, hm', hf'⟩ := d3 hok
    dsimp only
    rw [if_neg (by simp)]
    unfold slices_SortedFunc.f
    rw [need_pos (by rw [hm]; unfold fits maxB; omega)]
    simp only [Option.bind_some]
    rw [if_neg (by simp)]
    simp only [Option.bind_some]
    rw [if_neg (by simp; omega)]
    have hn : (namesOf met).length = p + 2 := by
      unfold namesOf
      rw [(sortN_perm _ _).length_eq, List.length_map, hm]
    have hw1 : IntKind.i64.wrap ((1 : Int) + (p : Int)) = ((p + 1 : Nat) : Int) := by rw [wrapI (by omega) (by omega)]; omega
    have hw2 : IntKind.i64.wrap (((p + 1 : Nat) : Int) + 1) = ((p + 2 : Nat) : Int) := by rw [wrapI (by omega) (by omega)]; omega
    rw [hn, hw1, hw2, hf']
    simp
end Go.Proofs.Ytbcipfhhmkjigaa
