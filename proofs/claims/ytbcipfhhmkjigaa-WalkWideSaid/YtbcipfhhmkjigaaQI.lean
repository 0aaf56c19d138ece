/- SHA-256 of the document's answer as a total function: the loops. Printed by mksha.py. -/
import Derived.Test.YtbcipfhhmkjigaaQH
set_option linter.unusedVariables false
set_option linter.unusedSimpArgs false
namespace Go.Proofs.Ytbcipfhhmkjigaa
open Go Go.Cf
def wNew (s9 : List Int) (s10 : Int) : List Int := ((s9).set (s10).toNat (iand .u64 (IntKind.u64.wrap ((IntKind.u64.wrap ((IntKind.u64.wrap (((s9).getD ((IntKind.i64.wrap (s10 - (16 : Int)))).toNat (rInt .u64).zeroD) + (ixor .u64 (ixor .u64 (rot 7 ((s9).getD ((IntKind.i64.wrap (s10 - (15 : Int)))).toNat (rInt .u64).zeroD)) (rot 18 ((s9).getD ((IntKind.i64.wrap (s10 - (15 : Int)))).toNat (rInt .u64).zeroD))) (down 3 ((s9).getD ((IntKind.i64.wrap (s10 - (15 : Int)))).toNat (rInt .u64).zeroD))))) + ((s9).getD ((IntKind.i64.wrap (s10 - (7 : Int)))).toNat (rInt .u64).zeroD))) + (ixor .u64 (ixor .u64 (rot 17 ((s9).getD ((IntKind.i64.wrap (s10 - (2 : Int)))).toNat (rInt .u64).zeroD)) (rot 19 ((s9).getD ((IntKind.i64.wrap (s10 - (2 : Int)))).toNat (rInt .u64).zeroD))) (down 10 ((s9).getD ((IntKind.i64.wrap (s10 - (2 : Int)))).toNat (rInt .u64).zeroD))))) (4294967295 : Int)))
def vNew (a2 s9 : List Int) (s95 : List Int) (s96 : Int) : List Int := [(iand .u64 (IntKind.u64.wrap ((IntKind.u64.wrap ((IntKind.u64.wrap ((IntKind.u64.wrap ((IntKind.u64.wrap ((IntKind.u64.wrap (((s95).getD ((7 : Int)).toNat (rInt .u64).zeroD) + (ixor .u64 (ixor .u64 (rot 6 ((s95).getD ((4 : Int)).toNat (rInt .u64).zeroD)) (rot 11 ((s95).getD ((4 : Int)).toNat (rInt .u64).zeroD))) (rot 25 ((s95).getD ((4 : Int)).toNat (rInt .u64).zeroD))))) + (ixor .u64 (iand .u64 ((s95).getD ((4 : Int)).toNat (rInt .u64).zeroD) ((s95).getD ((5 : Int)).toNat (rInt .u64).zeroD)) (iand .u64 (IntKind.u64.wrap ((4294967295 : Int) - ((s95).getD ((4 : Int)).toNat (rInt .u64).zeroD))) ((s95).getD ((6 : Int)).toNat (rInt .u64).zeroD))))) + ((a2).getD (s96).toNat (rInt .u64).zeroD))) + ((s9).getD (s96).toNat (rInt .u64).zeroD))) + (ixor .u64 (ixor .u64 (rot 2 ((s95).getD ((0 : Int)).toNat (rInt .u64).zeroD)) (rot 13 ((s95).getD ((0 : Int)).toNat (rInt .u64).zeroD))) (rot 22 ((s95).getD ((0 : Int)).toNat (rInt .u64).zeroD))))) + (ixor .u64 (ixor .u64 (iand .u64 ((s95).getD ((0 : Int)).toNat (rInt .u64).zeroD) ((s95).getD ((1 : Int)).toNat (rInt .u64).zeroD)) (iand .u64 ((s95).getD ((0 : Int)).toNat (rInt .u64).zeroD) ((s95).getD ((2 : Int)).toNat (rInt .u64).zeroD))) (iand .u64 ((s95).getD ((1 : Int)).toNat (rInt .u64).zeroD) ((s95).getD ((2 : Int)).toNat (rInt .u64).zeroD))))) (4294967295 : Int)), ((s95).getD ((0 : Int)).toNat (rInt .u64).zeroD), ((s95).getD ((1 : Int)).toNat (rInt .u64).zeroD), ((s95).getD ((2 : Int)).toNat (rInt .u64).zeroD), (iand .u64 (IntKind.u64.wrap (((s95).getD ((3 : Int)).toNat (rInt .u64).zeroD) + (IntKind.u64.wrap ((IntKind.u64.wrap ((IntKind.u64.wrap ((IntKind.u64.wrap (((s95).getD ((7 : Int)).toNat (rInt .u64).zeroD) + (ixor .u64 (ixor .u64 (rot 6 ((s95).getD ((4 : Int)).toNat (rInt .u64).zeroD)) (rot 11 ((s95).getD ((4 : Int)).toNat (rInt .u64).zeroD))) (rot 25 ((s95).getD ((4 : Int)).toNat (rInt .u64).zeroD))))) + (ixor .u64 (iand .u64 ((s95).getD ((4 : Int)).toNat (rInt .u64).zeroD) ((s95).getD ((5 : Int)).toNat (rInt .u64).zeroD)) (iand .u64 (IntKind.u64.wrap ((4294967295 : Int) - ((s95).getD ((4 : Int)).toNat (rInt .u64).zeroD))) ((s95).getD ((6 : Int)).toNat (rInt .u64).zeroD))))) + ((a2).getD (s96).toNat (rInt .u64).zeroD))) + ((s9).getD (s96).toNat (rInt .u64).zeroD))))) (4294967295 : Int)), ((s95).getD ((4 : Int)).toNat (rInt .u64).zeroD), ((s95).getD ((5 : Int)).toNat (rInt .u64).zeroD), ((s95).getD ((6 : Int)).toNat (rInt .u64).zeroD)]
def hNew (s95 s204 : List Int) (s205 : Int) : List Int := ((s204).set (s205).toNat (iand .u64 (IntKind.u64.wrap (((s204).getD (s205).toNat (rInt .u64).zeroD) + ((s95).getD (s205).toNat (rInt .u64).zeroD))) (4294967295 : Int)))
def mNew (s58 : Int) (s37 s68 : List Int) (s69 : Int) : List Int := ((s68).set ((IntKind.i64.wrap (s69.tdiv (4 : Int)))).toNat (IntKind.u64.wrap ((IntKind.u64.wrap (((s68).getD ((IntKind.i64.wrap (s69.tdiv (4 : Int)))).toNat (rInt .u64).zeroD) * (256 : Int))) + ((s37).getD ((IntKind.i64.wrap (s58 + s69))).toNat (rInt .u8).zeroD))))
def oNew (s57 s108 : List Int) (s109 : Int) : List Int := ((s108).set (s109).toNat (IntKind.u8.wrap (ishr .u64 ((s57).getD ((IntKind.i64.wrap (s109.tdiv (4 : Int)))).toNat (rInt .u64).zeroD) (IntKind.i64.wrap ((24 : Int) - (IntKind.i64.wrap ((8 : Int) * (s109.tmod (4 : Int)))))))))
def nNew (a0 s37 : List Int) (s39 : Int) : List Int := (s37 ++ [(IntKind.u8.wrap (ishr .u64 (IntKind.u64.wrap (((a0).length : Int) * (8 : Int))) (IntKind.i64.wrap ((56 : Int) - (IntKind.i64.wrap ((8 : Int) * s39))))))])
/-- A list that is turned n times, by its place. -/
def turns (f : List Int → Int → List Int) : Nat → Nat → List Int → List Int
  | 0, _, l => l
  | n + 1, i, l => turns f n (i + 1) (f l (i : Int))
theorem turns_len {f : List Int → Int → List Int} (h : ∀ l i, (f l i).length = l.length) : ∀ n i l, (turns f n i l).length = l.length
  | 0, _, _ => rfl
  | n + 1, i, l => by rw [turns, turns_len h n, h]
def shaBlock (h w : List Int) (ks : List Int) : List Int := turns (hNew (turns (vNew ks (turns wNew 48 16 w)) 64 0 h)) 8 0 h
def shaH0 : List Int := [(1779033703 : Int), (3144134277 : Int), (1013904242 : Int), (2773480762 : Int), (1359893119 : Int), (2600822924 : Int), (528734635 : Int), (1541459225 : Int)]
def shaK : List Int := [(1116352408 : Int), (1899447441 : Int), (3049323471 : Int), (3921009573 : Int), (961987163 : Int), (1508970993 : Int), (2453635748 : Int), (2870763221 : Int), (3624381080 : Int), (310598401 : Int), (607225278 : Int), (1426881987 : Int), (1925078388 : Int), (2162078206 : Int), (2614888103 : Int), (3248222580 : Int), (3835390401 : Int), (4022224774 : Int), (264347078 : Int), (604807628 : Int), (770255983 : Int), (1249150122 : Int), (1555081692 : Int), (1996064986 : Int), (2554220882 : Int), (2821834349 : Int), (2952996808 : Int), (3210313671 : Int), (3336571891 : Int), (3584528711 : Int), (113926993 : Int), (338241895 : Int), (666307205 : Int), (773529912 : Int), (1294757372 : Int), (1396182291 : Int), (1695183700 : Int), (1986661051 : Int), (2177026350 : Int), (2456956037 : Int), (2730485921 : Int), (2820302411 : Int), (3259730800 : Int), (3345764771 : Int), (3516065817 : Int), (3600352804 : Int), (4094571909 : Int), (275423344 : Int), (430227734 : Int), (506948616 : Int), (659060556 : Int), (883997877 : Int), (958139571 : Int), (1322822218 : Int), (1537002063 : Int), (1747873779 : Int), (1955562222 : Int), (2024104815 : Int), (2227730452 : Int), (2361852424 : Int), (2428436474 : Int), (2756734187 : Int), (3204031479 : Int), (3329325298 : Int)]
def zeros64 : List Int := List.replicate 64 0
def zeros32 : List Int := List.replicate 32 0
def shaPad (a0 : List Int) : List Int := let p := a0 ++ [128]; turns (nNew a0) 8 0 (p ++ List.replicate ((120 - p.length % 64) % 64) 0)
def shaBlocks (p : List Int) : Nat → Nat → List Int → List Int
  | 0, _, h => h
  | n + 1, at_, h => shaBlocks p n (at_ + 1) (shaBlock h (turns (mNew ((at_ * 64 : Nat) : Int) p) 64 0 zeros64) shaK)
/-- SHA-256. -/
def sha (a0 : List Int) : List Int := let p := shaPad a0; turns (oNew (shaBlocks p (p.length / 64) 0 shaH0)) 32 0 zeros32
theorem block_l0_is : ∀ (n i k : Nat) (w : List Int), n + i = 64 → 16 ≤ i → n + 40 < k → cofferref2_block.l0 k w i = some (turns wNew n i w) := by
  intro n
  induction n with
  | zero =>
    intro i k w hi h16 hk
    obtain ⟨q, rfl⟩ : ∃ q, k = q + 1 := ⟨k - 1, by omega⟩
    rw [cofferref2_block.l0, if_neg (by simp; omega)]
    rfl
  | succ n ih =>
    intro i k w hi h16 hk
    obtain ⟨q, rfl⟩ : ∃ q, k = q + 1 := ⟨k - 1, by omega⟩
    rw [cofferref2_block.l0, if_pos (by simp; omega)]
    have w15 : IntKind.i64.wrap ((i : Int) - 15) = (i : Int) - 15 := wrapI (by omega) (by omega)
    have w2 : IntKind.i64.wrap ((i : Int) - 2) = (i : Int) - 2 := wrapI (by omega) (by omega)
    have w16 : IntKind.i64.wrap ((i : Int) - 16) = (i : Int) - 16 := wrapI (by omega) (by omega)
    have w7 : IntKind.i64.wrap ((i : Int) - 7) = (i : Int) - 7 := wrapI (by omega) (by omega)
    rw [need_pos (by omega), need_pos (by omega)]
    have t7 : ∀ x, cofferref2_turn.f q x (7 : Int) = some (rot 7 x) := fun x => turn_is 7 (by omega) q (by omega) x
    have t18 : ∀ x, cofferref2_turn.f q x (18 : Int) = some (rot 18 x) := fun x => turn_is 18 (by omega) q (by omega) x
    have t17 : ∀ x, cofferref2_turn.f q x (17 : Int) = some (rot 17 x) := fun x => turn_is 17 (by omega) q (by omega) x
    have t19 : ∀ x, cofferref2_turn.f q x (19 : Int) = some (rot 19 x) := fun x => turn_is 19 (by omega) q (by omega) x
    have d3 : ∀ x, cofferref2_down.f q x (3 : Int) = some (down 3 x) := fun x => down_is' 3 (by omega) q (by omega) x
    have d10 : ∀ x, cofferref2_down.f q x (10 : Int) = some (down 10 x) := fun x => down_is' 10 (by omega) q (by omega) x
    rw [t7, Option.bind_some, t18, Option.bind_some, d3, Option.bind_some, t17, Option.bind_some, t19, Option.bind_some, d10, Option.bind_some]
    rw [need_pos (by omega), need_pos (by omega), need_pos (by omega), wrap_succ (i := i) (n := 64) (by omega) (by unfold maxB; omega)]
    exact ih (i + 1) q _ (by omega) (by omega) (by omega)
theorem block_l1_is (a2 s9 : List Int) : ∀ (n i k : Nat) (v : List Int), n + i = 64 → n + 40 < k → cofferref2_block.l1 a2 s9 k v i = some (turns (vNew a2 s9) n i v) := by
  intro n
  induction n with
  | zero =>
    intro i k w hi hk
    obtain ⟨q, rfl⟩ : ∃ q, k = q + 1 := ⟨k - 1, by omega⟩
    rw [cofferref2_block.l1, if_neg (by simp; omega)]
    rfl
  | succ n ih =>
    intro i k w hi hk
    obtain ⟨q, rfl⟩ : ∃ q, k = q + 1 := ⟨k - 1, by omega⟩
    rw [cofferref2_block.l1, if_pos (by simp; omega)]
    have t6 : ∀ x, cofferref2_turn.f q x (6 : Int) = some (rot 6 x) := fun x => turn_is 6 (by omega) q (by omega) x
    have t11 : ∀ x, cofferref2_turn.f q x (11 : Int) = some (rot 11 x) := fun x => turn_is 11 (by omega) q (by omega) x
    have t25 : ∀ x, cofferref2_turn.f q x (25 : Int) = some (rot 25 x) := fun x => turn_is 25 (by omega) q (by omega) x
    have t2 : ∀ x, cofferref2_turn.f q x (2 : Int) = some (rot 2 x) := fun x => turn_is 2 (by omega) q (by omega) x
    have t13 : ∀ x, cofferref2_turn.f q x (13 : Int) = some (rot 13 x) := fun x => turn_is 13 (by omega) q (by omega) x
    have t22 : ∀ x, cofferref2_turn.f q x (22 : Int) = some (rot 22 x) := fun x => turn_is 22 (by omega) q (by omega) x
    rw [t6, Option.bind_some, t11, Option.bind_some, t25, Option.bind_some, need_pos (by omega), need_pos (by omega), t2, Option.bind_some, t13, Option.bind_some, t22, Option.bind_some]
    rw [wrap_succ (i := i) (n := 64) (by omega) (by unfold maxB; omega)]
    exact ih (i + 1) q _ (by omega) (by omega)
theorem block_l2_is (s95 : List Int) : ∀ (n i k : Nat) (v : List Int), n + i = 8 → n < k → cofferref2_block.l2 s95 k v i = some (turns (hNew s95) n i v) := by
  intro n
  induction n with
  | zero =>
    intro i k w hi hk
    obtain ⟨q, rfl⟩ : ∃ q, k = q + 1 := ⟨k - 1, by omega⟩
    rw [cofferref2_block.l2, if_neg (by simp; omega)]
    rfl
  | succ n ih =>
    intro i k w hi hk
    obtain ⟨q, rfl⟩ : ∃ q, k = q + 1 := ⟨k - 1, by omega⟩
    rw [cofferref2_block.l2, if_pos (by simp; omega), need_pos (by omega), need_pos (by omega), need_pos (by omega), wrap_succ (i := i) (n := 64) (by omega) (by unfold maxB; omega)]
    exact ih (i + 1) q _ (by omega) (by omega)
theorem block_is (h w ks : List Int) (k : Nat) (hk : 200 < k) : cofferref2_block.f k h w ks = some (shaBlock h w ks) := by
  unfold cofferref2_block.f
  have e0 := block_l0_is 48 16 k w rfl (by omega) (by omega)
  have e1 := block_l1_is ks (turns wNew 48 16 w) 64 0 k h rfl (by omega)
  have e2 := block_l2_is (turns (vNew ks (turns wNew 48 16 w)) 64 0 h) 8 0 k h rfl (by omega)
  rw [show ((16 : Nat) : Int) = 16 from rfl] at e0
  rw [show ((0 : Nat) : Int) = 0 from rfl] at e1 e2
  rw [e0]; simp only [Option.bind_some]
  rw [e1]; simp only [Option.bind_some]
  rw [e2]; simp only [Option.bind_some]
  rfl
end Go.Proofs.Ytbcipfhhmkjigaa
