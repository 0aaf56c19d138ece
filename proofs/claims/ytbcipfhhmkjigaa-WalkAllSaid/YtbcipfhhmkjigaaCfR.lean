/- Buffers of bytes of which nothing is known but that they may be written; what a write into such a one leaves. -/
import Derived.Test.YtbcipfhhmkjigaaCfP
set_option linter.unusedVariables false
set_option linter.unusedSimpArgs false
namespace Go.Cf
open Go Go.RowKit
variable {α β γ δ : Type}
/-- A slice over a whole block that may be written. -/
def RawOk (v : Value) (len cap : Nat) (w : World) : Prop :=
  (len = 0 ∧ cap = 0 ∧ ∃ base, v = .slice base 0 0) ∨ ∃ b c T, v = .slice (some ⟨b, 0, none⟩) len cap ∧ 0 < cap ∧ len ≤ cap ∧ cap < 2 ^ 63 ∧ w.heap[b]? = some (.cells c T (0, 0)) ∧ c.size = cap
def Own.raw (v : Value) (len cap : Nat) : Own where
  blk := bufBlk v
  holds := fun w _ => RawOk v len cap w
  keep := fun _ _ _ _ _ hb h => h.imp id fun ⟨b, c, T, h1, h2, h3, h4, h5, h6⟩ => ⟨b, c, T, h1, h2, h3, h4, by rw [hb b (by rw [h1]; exact bufBlk_pos h2)]; exact h5, h6⟩
/-- The slice over all there is. -/
def fullV : Value → Value
  | .slice base _ cap => .slice base cap cap
  | v => v
theorem raw_of_buf {R : Rep α} {k : Nat} {v : Value} {l : List α} {w : World} {m : List Nat} (h1 : R.size = 1) (h : BufOk R k v l w m) : ∃ len cap, RawOk v len cap w := by
  rcases h with ⟨_, _, ⟨base, rfl, _⟩ | ⟨b, cap, cs, rest, T, rfl, h3, h4, h5, h6, _⟩⟩
  · exact ⟨0, 0, .inl ⟨rfl, rfl, _, rfl⟩⟩
  · exact ⟨_, _, .inr ⟨b, _, T, rfl, by omega, h3, h4, h5, by rw [List.size_toArray, h6, h1, Nat.mul_one]⟩⟩
section
variable {C : Cx} {XI : List Nat} {E : List (Nat × Value)} {F : List Fact} {M : List Own} {d : Nat} {K : Cont} {Q : Exit → Act → World → Prop} {ops : Array Oper}
theorem d_cap_raw {x : Operand} {v : Value} {len cap : Nat} {t e : TypeId} (i : Nat) (hx : ev E x = some v) (hm : M[i]? = some (Own.raw v len cap)) (hu : C.P.underlying t = some (.slice e))
    (k : K ((d, .int .i64 cap) :: E) F M) : DOp C XI E F M (.call { callee := .builtin .cap, args := #[x], argTypes := #[t] }) d K :=
  DOp.mem (fun u => u = .int .i64 cap) (fun _ => []) (fun a w hs => by
    have h := hs.own _ (List.mem_of_getElem? hm)
    refine ⟨_, rfl, by (intro f hf; cases hf), fun w' _ o ho => ?_⟩
    cases o; subst ho
    rcases h with ⟨rfl, rfl, base, rfl⟩ | ⟨b, c, T, rfl, _⟩ <;>
      simp [execOp, resolve, hs.ev hx, invoke, builtin, Builtin.cap_, run_underlying hu, goInt]) (fun u hu => by subst hu; exact k)
theorem d_full_raw {x y : Operand} {v : Value} {len cap n : Nat} {R : Rep α} {t e : TypeId} (i : Nat) (hx : ev E x = some v) (hm : M[i]? = some (Own.raw v len cap)) (hy : ev E y = some (.int .i64 cap)) (hu : C.P.underlying t = some (.slice e)) (hT : TyOk C.P e R n)
    (k : K ((d, fullV v) :: E) F M) : DOp C XI E F M (.slice t x none (some y) none) d K :=
  DOp.mem (fun u => u = fullV v) (fun _ => []) (fun a w hs => by
    have h := hs.own _ (List.mem_of_getElem? hm)
    refine ⟨_, rfl, by (intro f hf; cases hf), fun w' _ o ho => ?_⟩
    cases o; subst ho
    have hlo : (none : Option Value) = none ∧ (0 : Int) = 0 ∨ ∃ k, (none : Option Value) = some (.int k 0) := .inl ⟨rfl, rfl⟩
    rcases h with ⟨rfl, rfl, base, rfl⟩ | ⟨b, c, T, rfl, _⟩
    · have hb := run_bounds (P := C.P) (w := w') (isSlice := true) (len := 0) (cap := 0) (hi := some (.int .i64 ((0 : Nat) : Int))) hlo (.inr ⟨_, rfl⟩) (by omega)
      simp [execOp, hs.ev hx, hs.ev hy, Instr.sliceAt, Instr.slice, run_underlying hu, hT.run_size, fullV] at hb ⊢
      simp [hb]
    · have hb := run_bounds (P := C.P) (w := w') (isSlice := true) (len := len) (cap := cap) (hi := some (.int .i64 ((cap : Nat) : Int))) hlo (.inr ⟨_, rfl⟩) (by omega)
      simp [execOp, hs.ev hx, hs.ev hy, Instr.sliceAt, Instr.slice, run_underlying hu, hb, hT.run_size, fullV]
      intro he
      simp [Addr.add]) (fun u hu => by subst hu; exact k)
theorem d_len_raw {x : Operand} {v : Value} {len cap : Nat} {t e : TypeId} (i : Nat) (hx : ev E x = some (fullV v)) (hm : M[i]? = some (Own.raw v len cap)) (hu : C.P.underlying t = some (.slice e))
    (k : K ((d, .int .i64 cap) :: E) F M) : DOp C XI E F M (.call { callee := .builtin .len, args := #[x], argTypes := #[t] }) d K :=
  DOp.mem (fun u => u = .int .i64 cap) (fun _ => []) (fun a w hs => by
    have h := hs.own _ (List.mem_of_getElem? hm)
    refine ⟨_, rfl, by (intro f hf; cases hf), fun w' _ o ho => ?_⟩
    cases o; subst ho
    rcases h with ⟨rfl, rfl, base, rfl⟩ | ⟨b, c, T, rfl, _⟩ <;>
      simp [execOp, resolve, hs.ev hx, invoke, builtin, Builtin.len_, run_underlying hu, goInt, fullV]) (fun u hu => by subst hu; exact k)
theorem d_index_raw {x ix : Operand} {v : Value} {len cap n : Nat} {R : Rep α} {t e : TypeId} {j : Nat} (i : Nat) (hx : ev E x = some (fullV v)) (hm : M[i]? = some (Own.raw v len cap)) (hi : ev E ix = some (.int .i64 j)) (hu : C.P.underlying t = some (.slice e)) (hT : TyOk C.P e R n) (h1 : R.size = 1) (hj : j < cap)
    (k : ∀ b, bufBlk v = some b → K ((d, .pointer (some ⟨b, j, none⟩)) :: E) F M) : DOp C XI E F M (.indexAddr t x ix) d K :=
  DOp.mem (fun u => ∃ b, bufBlk v = some b ∧ u = .pointer (some ⟨b, j, none⟩)) (fun _ => []) (fun a w hs => by
    have h := hs.own _ (List.mem_of_getElem? hm)
    rcases h with ⟨rfl, rfl, base, rfl⟩ | ⟨b, c, T, rfl, hp, _⟩
    · omega
    · refine ⟨.pointer (some ⟨b, j, none⟩), ⟨b, bufBlk_pos hp, rfl⟩, by (intro f hf; cases hf), fun w' _ o ho => ?_⟩
      cases o; subst ho
      simp [execOp, hs.ev hx, hs.ev hi, Instr.indexAt, run_underlying hu, asIntOf, hj, hT.run_size, addr_add, fullV, h1]) (fun u ⟨b, hb, e⟩ => by subst e; exact k b hb)
theorem g_store_raw8 {p x : Operand} {v : Value} {len cap b j n : Nat} {R : Rep α} {u : Value} {z : α} {t ty : TypeId} {pos : String} {after : Array Edge} {gd : Option (Nat × Bool)} (i : Nat) (hp : ev E p = some (.pointer (some ⟨b, j, none⟩))) (hb : bufBlk v = some b) (hj : j < cap) (hx : ev E x = some u) (hm : M[i]? = some (Own.raw v len cap)) (hv : HasV C F R u z) (hT : TyOk C.P t R n) (h1 : R.size = 1) (hX : i ∈ XI)
    (k : K E F M) : GOp C XI E F M { dst := none, op := .store t p x, type := ty, pos, after, guard := gd } K := by
  intro a w hs J Q hJ
  have h := hs.own _ (List.mem_of_getElem? hm)
  rcases h with ⟨rfl, rfl, base, rfl⟩ | ⟨b', c, T, rfl, h2, h3, h4, h5, h6⟩
  · omega
  · have : b' = b := bufBlk_eq hb
    subst this
    obtain ⟨cs, k1, _, k3⟩ := R.cells_of_val (hv E M a w hs)
    have hlen : cs.length = 1 := (R.len k1).trans h1
    have hst := run_storeVar (P := C.P) hT h5 k1 k3 (by omega : j + cs.length ≤ c.size)
    have hr : (execOp a.eval { dst := none, op := .store t p x, type := ty, pos, after, guard := gd }).run C.P w = .ok .skip (w.setRow b' (c.toList.take j ++ cs ++ c.toList.drop (j + cs.length)).toArray) := by
      simp only [execOp, hs.ev hp, hs.ev hx, Instr.storeAt, Instr.sureAddr]
      simp only [Sem.run_bind, Sem.run_pure, Result.andThen_ok, hst]
    unfold Oper.wp
    rw [hr]
    have g := Step.setRow (dr := C.dr) w b' (c.toList.take j ++ cs ++ c.toList.drop (j + cs.length)).toArray
    have e0 : M.set i (Own.raw (.slice (some ⟨b', 0, none⟩) len cap) len cap) = M := by
      apply List.ext_getElem?
      intro q
      rw [List.getElem?_set]
      split
      · next e => subst e; rw [hm, if_pos (List.getElem?_eq_some_iff.1 hm).1]
      · rfl
    have hk := set_g (E := E) (F := F) (o := { dst := none, op := .store t p x, type := ty, pos, after, guard := gd }) (own' := Own.raw (.slice (some ⟨b', 0, none⟩) len cap) len cap) hm rfl hs (by rw [show (Own.raw (.slice (some ⟨b', 0, none⟩) len cap) len cap).blk = some b' from hb]; exact g) (fun b'' hb'' => .inl hb'') (fun m' hg _ _ => by
      refine .inr ⟨b', _, T, rfl, h2, h3, h4, setRow_get _ _ _ _ _ h5, ?_⟩
      simp only [List.size_toArray, List.length_append, List.length_take, List.length_drop, Array.length_toList, hlen]
      omega)
    rw [e0] at hk
    exact hJ _ _ _ _ _ k hk (g.same (by intro b'' hb''; cases hb''; exact xs_at hm hX hb)) (fun b'' hb'' => .inl hb'')
end
/-! ### Answers that are new -/
/-- Bytes in a block that nobody else knows of, not below h0. -/
def rBufF (h0 : Nat) : Rep (List Int) where
  size := 1
  agg := false
  zero := [.slice none 0 0]
  zeroD := []
  ok := fun w m cs x => ∃ v, cs = [v] ∧ BufOk (rInt .u8) 1 v x w m ∧ ∀ b, bufBlk v = some b → h0 ≤ b ∧ b ∉ m
  len := fun ⟨v, h, _⟩ => by simp [h]
  one := fun ⟨v, h, h2, _⟩ c hc => by rw [h] at hc; simp at hc; rw [hc]; exact buf_one1 h2
  sc := fun _ => rfl
  mono := @fun w m w' m' cs x g ⟨v, h, h2, h3⟩ => by
    have hlt : ∀ b, bufBlk v = some b → b < w.heap.size := fun b hb => by
      obtain ⟨_, _, h5⟩ := h2
      rcases h5 with ⟨base, rfl, _⟩ | ⟨b', cap, cs, rest, T', rfl, _, _, h6, _, _⟩
      · cases base <;> cases hb
      · cases hb; exact lt_of_get h6
    exact ⟨v, h, (Own.buf v 1 (rInt .u8) _).keep _ _ _ _ g (fun b hb => g.keep b (hlt b hb) (h3 b hb).2) h2, fun b hb => ⟨(h3 b hb).1, g.stay b (hlt b hb) (h3 b hb).2⟩⟩
  zok := fun _ _ => ⟨_, rfl, ⟨by simp, by simp, .inl ⟨none, rfl, rfl⟩⟩, fun b hb => by cases hb⟩
theorem rBufF.val {h0 : Nat} {w : World} {m : List Nat} {cs : List Value} {x : List Int} (h : (rBufF h0).ok w m cs x) : (rSl 1 (rInt .u8)).ok w m cs x := by
  obtain ⟨v, rfl, h2, h3⟩ := h
  obtain ⟨cs, h4, h5⟩ := BufOk.read h2 (Grows.refl _ _) (fun b hb => (h3 b hb).2)
  have : cs = [v] := by
    have hl := (rSl 1 (rInt .u8)).len h4
    match cs, hl with
    | [c], _ => rw [show v = c from h5]
  rw [← this]; exact h4
/-- The same, what it holds forgotten. -/
def rJunk (h0 : Nat) : Rep (List Int) where
  size := 1
  agg := false
  zero := [.slice none 0 0]
  zeroD := []
  ok := fun w m cs _ => ∃ v len cap, cs = [v] ∧ RawOk v len cap w ∧ ∀ b, bufBlk v = some b → h0 ≤ b ∧ b ∉ m
  len := fun ⟨v, _, _, h, _⟩ => by simp [h]
  one := fun ⟨v, _, _, h, h2, _⟩ c hc => by
    rw [h] at hc; simp at hc; rw [hc]
    rcases h2 with ⟨_, _, base, rfl⟩ | ⟨b, c, T, rfl, _⟩ <;> rfl
  sc := fun _ => rfl
  mono := @fun w m w' m' cs x g ⟨v, len, cap, h, h2, h3⟩ => by
    have hlt : ∀ b, bufBlk v = some b → b < w.heap.size := fun b hb => by
      rcases h2 with ⟨_, _, base, rfl⟩ | ⟨b', c, T, rfl, hp, _, _, h6, _⟩
      · cases base <;> cases hb
      · have := bufBlk_eq hb; subst this; exact lt_of_get h6
    exact ⟨v, len, cap, h, (Own.raw v len cap).keep _ _ _ _ g (fun b hb => g.keep b (hlt b hb) (h3 b hb).2) h2, fun b hb => ⟨(h3 b hb).1, g.stay b (hlt b hb) (h3 b hb).2⟩⟩
  zok := fun _ _ => ⟨_, 0, 0, rfl, .inl ⟨rfl, rfl, none, rfl⟩, fun b hb => by cases hb⟩
theorem rBufF.junk {h0 : Nat} {w : World} {m : List Nat} {cs : List Value} {x : List Int} (h : (rBufF h0).ok w m cs x) : (rJunk h0).ok w m cs x := by
  obtain ⟨v, rfl, h2, h3⟩ := h
  obtain ⟨len, cap, h4⟩ := raw_of_buf rfl h2
  exact ⟨v, len, cap, rfl, h4, h3⟩

/-! ### A write into such a block -/
/-- One block is written: as great as it was, and it may be written again. -/
structure Spoilt (w w' : World) (b : Option Nat) : Prop where
  size : w.heap.size ≤ w'.heap.size
  keep : ∀ k, k < w.heap.size → b ≠ some k → w'.heap[k]? = w.heap[k]?
  same : ∀ k c T, b = some k → w.heap[k]? = some (.cells c T (0, 0)) → ∃ c' T', w'.heap[k]? = some (.cells c' T' (0, 0)) ∧ c'.size = c.size
/-- Data that such a write does not touch, where the block is none of m. -/
def Tough (R : Rep α) : Prop := ∀ w m w' b cs x, (∀ k, b = some k → k ∉ m) → Spoilt w w' b → R.ok w m cs x → R.ok w' m cs x
theorem Tough.flat {R : Rep α} (h : Flat R) : Tough R := fun _ _ _ _ _ _ _ _ hk => h _ _ _ _ _ _ hk
theorem RawOk.spoilt {v : Value} {len cap : Nat} {w w' : World} {b : Option Nat} (h : RawOk v len cap w) (hs : Spoilt w w' b) : RawOk v len cap w' := by
  rcases h with h | ⟨b', c, T, h1, h2, h3, h4, h5, h6⟩
  · exact .inl h
  · by_cases e : b = some b'
    · obtain ⟨c', T', h7, h8⟩ := hs.same b' c T e h5
      exact .inr ⟨b', c', T', h1, h2, h3, h4, h7, by omega⟩
    · exact .inr ⟨b', c, T, h1, h2, h3, h4, by rw [hs.keep b' (lt_of_get h5) e]; exact h5, h6⟩
theorem Tough.junk {h0 : Nat} : Tough (rJunk h0) := fun _ _ _ _ _ _ _ hs ⟨v, len, cap, h1, h2, h3⟩ => ⟨v, len, cap, h1, h2.spoilt hs, h3⟩
theorem Tough.prod {R : Rep α} {S : Rep β} (h1 : Tough R) (h2 : Tough S) : Tough (rProd R S) := fun w m w' b cs x hb hs ⟨c1, c2, e, k1, k2⟩ => ⟨c1, c2, e, h1 w m w' b _ _ hb hs k1, h2 w m w' b _ _ hb hs k2⟩
theorem Tough.rows {R : Rep α} (h : Tough R) {w w' : World} {m : List Nat} {b : Option Nat} (hb : ∀ k, b = some k → k ∉ m) (hs : Spoilt w w' b) : ∀ {l : List α} {cs : List Value}, Rows R w m cs l → Rows R w' m cs l
  | [], _, hk => hk
  | _ :: _, _, ⟨a, c, h1, h2, h3⟩ => ⟨a, c, h1, h _ _ _ _ _ _ hb hs h2, Tough.rows h hb hs h3⟩
/-- A block of the call's own that such a write does not touch. -/
def ToughO (o : Own) : Prop := ∀ w m w' b, (∀ k, b = some k → k ∉ m) → (∀ k, o.blk = some k → k ∈ m ∧ k < w.heap.size) → Spoilt w w' b → o.holds w m → o.holds w' m
theorem ToughO.box {b : Nat} {R : Rep α} {x : α} (h : Tough R) : ToughO (Own.box b R x) := fun w m w' b' hb ho hs ⟨cs, T, h1, h2⟩ => by
  have := ho b rfl
  exact ⟨cs, T, by rw [hs.keep b this.2 (fun e => hb b e this.1)]; exact h1, h _ _ _ _ _ _ hb hs h2⟩
theorem ToughO.buf {v : Value} {k : Nat} {R : Rep α} {l : List α} (h : Tough R) : ToughO (Own.buf v k R l) := fun w m w' b' hb ho hs hk => by
  obtain ⟨g0, g0', h4⟩ := hk
  refine ⟨g0, g0', ?_⟩
  rcases h4 with h4 | ⟨b, cap, cs, rest, T, rfl, h1, h2, h3, h4, h5⟩
  · exact .inl h4
  · have := ho b rfl
    exact .inr ⟨b, cap, cs, rest, T, rfl, h1, h2, by rw [hs.keep b this.2 (fun e => hb b e this.1)]; exact h3, h4, h.rows hb hs h5⟩
theorem ToughO.gone : ToughO Own.gone := fun _ _ _ _ _ _ _ h => h
section
variable {C : Cx} {XI : List Nat} {E : List (Nat × Value)} {F : List Fact} {M : List Own} {d : Nat} {K : Cont} {Q : Exit → Act → World → Prop} {ops : Array Oper}
/-- A call of a function that writes all of a slice: what is known of what was there when this call began stays. -/
theorem g_spoil {f : FuncId} {x : Operand} {ats : Array TypeId} {v : Value} {h0 : Nat} {y : List Int} {F0 : List Fact} {ty : TypeId} {pos : String} {after : Array Edge} {gd : Option (Nat × Bool)} (hn : Nat.blt d C.n = true) (hfn : HasFn C.P f)
    (hc : ∀ (v : Value) (len cap : Nat), FnM C.dr C.P f [v] [Own.raw v len cap] [] (fun r N fs => r = .tuple #[] ∧ N = [Own.raw v len cap] ∧ fs = [])) (hx : ev E x = some v) (hv : (rJunk h0).fact v y ∈ F) (hh : C.w0.heap.size ≤ h0) (hkp : ∀ k, C.kp k)
    (hF0 : ∀ f ∈ F0, f.p C.w0 C.m0) (hM : ∀ o ∈ M, ToughO o) (k : K ((d, .tuple #[]) :: E) F0 M) :
    GOp1 C E F M { dst := some d, op := .call { callee := .value (.func f), args := #[x], argTypes := ats }, type := ty, pos, after, guard := gd } K := by
  intro a w hs J Q hJ
  obtain ⟨fn, h1, h2, bd, h3⟩ := hfn
  have hr : (execOp a.eval { dst := some d, op := .call { callee := .value (.func f), args := #[x], argTypes := ats }, type := ty, pos, after, guard := gd }).run C.P w = .ok (.enter f #[v]) w := by
    rw [show (#[x] : Array Operand) = [x].toArray from rfl, execOp_call_go]
    have : #[] ++ [x].toArray.map a.eval ++ #[] = #[v] := by simp [hs.ev hx]
    rw [this]
    simp [callFunc, h1, h2, h3]
  unfold Oper.wp
  rw [hr]
  simp only [Oper.upon]
  obtain ⟨cs, hcs, hvv⟩ := hs.fact hv
  obtain ⟨v', len, cap, rfl, hraw, hblk⟩ := hcs
  have hvv : v = v' := hvv
  subst hvv
  have hlt : ∀ b, bufBlk v = some b → b < w.heap.size := fun b hb => by
    rcases hraw with ⟨_, _, base, rfl⟩ | ⟨b', c, T, rfl, hp, _, _, h6, _⟩
    · cases base <;> cases hb
    · have := bufBlk_eq hb; subst this; exact lt_of_get h6
  have hbl : ∀ b, b ∈ Blocks [Own.raw v len cap] ↔ bufBlk v = some b := fun b => by
    rw [blocks_mem]
    constructor
    · rintro ⟨i, o, hi, ho⟩
      match i, hi with
      | 0, hi => simp at hi; subst hi; exact ho
    · intro h; exact ⟨0, _, rfl, h⟩
  have hW : Whole w (C.m0 ++ Blocks M) [Own.raw v len cap] := by
    refine ⟨fun o ho => by simp at ho; subst ho; exact hraw, fun i j o o' b hi hj _ _ => ?_, fun b hb => ⟨(hblk b ((hbl b).1 hb)).2, hlt b ((hbl b).1 hb)⟩⟩
    match i, j, hi, hj with
    | 0, 0, _, _ => rfl
    | _ + 1, _, hi, _ => simp at hi
    | 0, _ + 1, _, hj => simp at hj
  refine (hc v len cap w (C.m0 ++ Blocks M) (fun b hb => ?_) hW (fun f hf => by cases hf)).mono ?_
  · rcases List.mem_append.1 hb with hb | hb
    · exact Nat.lt_of_lt_of_le (hs.m0 b hb) hs.below.size
    · exact (hs.range b hb).2
  · rintro e w' ⟨r, N, fs, rfl, hp, hN, hNb, _, rfl, rfl, rfl⟩
    obtain ⟨p1, p2, p3⟩ := put_env (C := C) hn (.tuple #[]) a hs.env hs.size
    have hraw' : RawOk v len cap w' := hN.own _ (List.mem_singleton_self _)
    have hsp : Spoilt w w' (bufBlk v) := by
      refine ⟨hp.size, fun q hq hne => hp.block q hq fun h => hne ((hbl q).1 h), fun q c T hq hc => ?_⟩
      rcases hraw with ⟨_, _, base, rfl⟩ | ⟨b1, c1, T1, rfl, g1, g2, g3, g4, g5⟩
      · cases base <;> cases hq
      · have e1 := bufBlk_eq hq; subst e1
        rw [g4] at hc; cases hc
        rcases hraw' with ⟨_, _, _, e⟩ | ⟨b2, c2, T2, e, k1, k2, k3, k4, k5⟩
        · cases e; omega
        · cases e
          exact ⟨c2, T2, k4, by omega⟩
    have hge : ∀ q, bufBlk v = some q → ¬ q < C.w0.heap.size := fun q hq => by have := (hblk q hq).1; omega
    have hmem : ∀ q, bufBlk v = some q → q ∉ C.m0 ++ Blocks M := fun q hq => (hblk q hq).2
    have hkeep : ∀ q, q < C.w0.heap.size → w'.heap[q]? = C.w0.heap[q]? := fun q hq =>
      (hsp.keep q (Nat.lt_of_lt_of_le hq hs.below.size) fun e => hge q e hq).trans (hs.below.block q hq (hkp q))
    have hg : Grows C.w0 C.m0 w' (C.m0 ++ Blocks M) := by
      refine ⟨Nat.le_trans hs.below.size hp.size, fun q hq _ => hkeep q hq, fun q hq hnm hin => ?_⟩
      rcases List.mem_append.1 hin with hin | hin
      · exact hnm hin
      · exact (hs.range q hin).1.2 hq (hkp q)
    refine hJ _ _ _ _ _ k ⟨p3.trans hs.defers, p2, p1, ?_, hs.m0, fun f hf => f.mono _ _ _ _ hg (hF0 f hf), fun o ho => ?_, hs.nodup, fun b hb => ⟨(hs.range b hb).1, Nat.lt_of_lt_of_le (hs.range b hb).2 hp.size⟩⟩
    · exact ⟨hp.os.trans hs.below.os, hp.tape.trans hs.below.tape, hp.output.trans hs.below.output, Nat.le_trans hs.below.size hp.size, fun e => Nat.le_trans (hs.below.drawn e) (hp.drawn e), fun q hq _ => hkeep q hq⟩
    · refine hM o ho w (C.m0 ++ Blocks M) w' (bufBlk v) hmem (fun q hq => ?_) hsp (hs.own o ho)
      obtain ⟨i, hi⟩ := List.mem_iff_getElem?.1 ho
      have hqb : q ∈ Blocks M := blocks_mem.2 ⟨i, o, hi, hq⟩
      exact ⟨List.mem_append_right _ hqb, (hs.range q hqb).2⟩
end

/-! ### Buffers that are new -/
/-- The world has had that many blocks. -/
def past (h0 : Nat) : Fact := ⟨fun w _ => h0 ≤ w.heap.size, fun _ _ _ _ g h => Nat.le_trans h g.size⟩
/-- The slice lies in a block that is not below h0. -/
def newBlk (h0 : Nat) (v : Value) : Fact := ⟨fun _ _ => ∀ b, bufBlk v = some b → h0 ≤ b, fun _ _ _ _ _ h => h⟩
section
variable {C : Cx} {XI : List Nat} {E : List (Nat × Value)} {F : List Fact} {M : List Own} {d : Nat} {K : Cont} {Q : Exit → Act → World → Prop} {ops : Array Oper}
theorem g_calloF {f : FuncId} {xs : List Operand} {ats : Array TypeId} {vs : List Value} {pre : World → List Nat → Prop} {h0 : Nat} {R : Rep α} {n : Nat} {l : List α} {ty : TypeId} {pos : String} {after : Array Edge} {gd : Option (Nat × Bool)} (hn : Nat.blt d C.n = true) (hfn : HasFn C.P f) (hp : past h0 ∈ F) (hc : FnX C.dr C.P f vs pre (fun w w' m v => OwnRes R n w w' m v l)) (he : Evs E xs vs)
    (hpre : ∀ a w, OKst C E F M a w → pre w (C.m0 ++ Blocks M)) (k : ∀ v, K ((d, v) :: E) (newBlk h0 v :: F) (M ++ [Own.buf v n R l])) :
    GOp C XI E F M { dst := some d, op := .call { callee := .value (.func f), args := xs.toArray, argTypes := ats }, type := ty, pos, after, guard := gd } K := by
  intro a w hs J Q hJ
  obtain ⟨fn, h1, h2, bd, h3⟩ := hfn
  have hr : (execOp a.eval { dst := some d, op := .call { callee := .value (.func f), args := xs.toArray, argTypes := ats }, type := ty, pos, after, guard := gd }).run C.P w = .ok (.enter f vs.toArray) w := by
    rw [execOp_call_go]
    have : #[] ++ xs.toArray.map a.eval ++ #[] = vs.toArray := by simp [← he.map hs]
    rw [this]
    simp [callFunc, h1, h2, h3]
  unfold Oper.wp
  rw [hr]
  simp only [Oper.upon]
  refine (hc w (C.m0 ++ Blocks M) (fun b hb => ?_) (hpre a w hs)).mono ?_
  · rcases List.mem_append.1 hb with hb | hb
    · exact Nat.lt_of_lt_of_le (hs.m0 b hb) hs.below.size
    · exact (hs.range b hb).2
  · rintro e w' ⟨v, rfl, hb, r1, r2⟩
    have g := Step.below hb
    have hst := push_g (C := C) (E := E) (F := F) (M := M) (o := { dst := some d, op := .call { callee := .value (.func f), args := xs.toArray, argTypes := ats }, type := ty, pos, after, guard := gd }) (v := v) (own := Own.buf v n R l) (E' := (d, v) :: E) (fun a' => put_env hn _ a') hs g r1 (fun m' hg _ hm => r2 m' hm)
    · refine hJ _ _ _ _ _ (k v) (hst.more _ (fun b hb => Nat.le_trans (hs.facts _ hp) (r1 b hb).1)) (g.same (by intro b hb; cases hb)) (fun b hb => ?_)
      rcases xs_push hb with h | h
      · exact .inl h
      · exact .inr (r1 b h).1
theorem freezeF_st {h0 : Nat} {v : Value} {l : List Int} {a : Act} {w : World} (h : OKst C E F M a w) {i : Nat} (hi : M[i]? = some (Own.buf v 1 (rInt .u8) l)) (hn : newBlk h0 v ∈ F) : OKst C E ((rBufF h0).fact v l :: F) (M.set i Own.gone) a w := by
  obtain ⟨h1, hg⟩ := h.drop hi
  refine h1.more _ ⟨[v], ⟨v, rfl, (Own.buf v 1 (rInt .u8) l).keep _ _ _ _ hg (fun _ _ => rfl) (h.own _ (List.mem_of_getElem? hi)), fun b hb => ⟨(h.facts _ hn) b hb, not_in_dropped h hi hb⟩⟩, rfl⟩
theorem tl_freezeF {os : List Oper} {h0 : Nat} {v : Value} {l : List Int} (i : Nat) (hi : M[i]? = some (Own.buf v 1 (rInt .u8) l)) (hn : newBlk h0 v ∈ F) (h : TL C ops E ((rBufF h0).fact v l :: F) (M.set i Own.gone) os Q) : TL C ops E F M os Q :=
  fun a w hs => h a w (freezeF_st hs hi hn)
theorem ta_freezeF {n fuel : Nat} {listed : Array Bool} {h0 : Nat} {v : Value} {l : List Int} (i : Nat) (hi : M[i]? = some (Own.buf v 1 (rInt .u8) l)) (hn : newBlk h0 v ∈ F) (h : TA C ops n XI fuel listed E ((rBufF h0).fact v l :: F) (M.set i Own.gone) Q) : TA C ops n XI fuel listed E F M Q :=
  ta_smaller (fun _ _ hs => freezeF_st hs hi hn) (fun b hb => (xs_set hb).elim id (fun h => by cases h)) h
end
theorem HasFs.mem {C : Cx} {F fs : List Fact} {f : Fact} (h : f ∈ F) (h2 : HasFs C F fs) : HasFs C F (f :: fs) := fun E M a w hs g hg => by
  cases hg with
  | head => exact hs.facts _ h
  | tail _ hg => exact h2 E M a w hs g hg
theorem t_past {C : Cx} {E : List (Nat × Value)} {F : List Fact} {M : List Own} {Q : Exit → Act → World → Prop} {c : Code} (h : T C E (past C.w0.heap.size :: F) M c Q) : T C E F M c Q := fun a w hs => h a w (hs.more _ hs.below.size)
/-- From one reading of a buffer's elements to another that says less. -/
theorem Rows.weaker {R S : Rep α} {w : World} {m : List Nat} (h : ∀ cs x, R.ok w m cs x → S.ok w m cs x) : ∀ {l : List α} {cs : List Value}, Rows R w m cs l → Rows S w m cs l
  | [], _, hk => hk
  | _ :: _, _, ⟨a, b, h1, h2, h3⟩ => ⟨a, b, h1, h _ _ h2, Rows.weaker h h3⟩
theorem BufOk.weaker {R S : Rep α} {k : Nat} {v : Value} {l : List α} {w : World} {m : List Nat} (hz : R.size = S.size) (h : ∀ cs x, R.ok w m cs x → S.ok w m cs x) (hb : BufOk R k v l w m) : BufOk S k v l w m := by
  obtain ⟨h0, h0', h4⟩ := hb
  refine ⟨h0, h0', h4.imp id ?_⟩
  rintro ⟨b, cap, cs, rest, T, h1, h2, h3, h4, h5, h6⟩
  exact ⟨b, cap, cs, rest, T, h1, h2, h3, h4, by rw [← hz]; exact h5, Rows.weaker h h6⟩
theorem OwnRes.weaker {R S : Rep α} {k : Nat} {w w' : World} {m : List Nat} {v : Value} {l : List α} (hz : R.size = S.size) (h : ∀ w m cs x, R.ok w m cs x → S.ok w m cs x) (ho : OwnRes R k w w' m v l) : OwnRes S k w w' m v l :=
  ⟨ho.1, fun m' hm' => (ho.2 m' hm').weaker hz (h w' m')⟩
section
variable {C : Cx} {XI : List Nat} {E : List (Nat × Value)} {F : List Fact} {M : List Own} {Q : Exit → Act → World → Prop} {ops : Array Oper}
theorem weaker_st {R S : Rep α} {k : Nat} {v : Value} {l : List α} {a : Act} {w : World} (h : OKst C E F M a w) {i : Nat} (hi : M[i]? = some (Own.buf v k R l)) (hz : R.size = S.size) (hw : ∀ w m cs x, R.ok w m cs x → S.ok w m cs x) : OKst C E F (M.set i (Own.buf v k S l)) a w :=
  (h.set (o' := Own.buf v k S l) hi ⟨rfl, rfl, rfl, Nat.le_refl _, fun _ _ _ => rfl, fun _ => Nat.le_refl _⟩ (fun b hb => .inl hb) (fun m' hg _ _ => BufOk.weaker hz (hw w m') ((Own.buf v k R l).keep _ _ _ _ hg (fun _ _ => rfl) (h.own _ (List.mem_of_getElem? hi))))).1
theorem t_weaker {c : Code} {R : Rep α} (S : Rep α) {k : Nat} {v : Value} {l : List α} (i : Nat) (hi : M[i]? = some (Own.buf v k R l)) (hz : R.size = S.size) (hw : ∀ w m cs x, R.ok w m cs x → S.ok w m cs x) (h : T C E F (M.set i (Own.buf v k S l)) c Q) : T C E F M c Q := fun a w hs => h a w (weaker_st hs hi hz hw)
theorem tl_weaker {os : List Oper} {R : Rep α} (S : Rep α) {k : Nat} {v : Value} {l : List α} (i : Nat) (hi : M[i]? = some (Own.buf v k R l)) (hz : R.size = S.size) (hw : ∀ w m cs x, R.ok w m cs x → S.ok w m cs x) (h : TL C ops E F (M.set i (Own.buf v k S l)) os Q) : TL C ops E F M os Q := fun a w hs => h a w (weaker_st hs hi hz hw)
end
/-- A function by its body; the facts hold where it begins. -/
theorem fn_ofE {dr : Bool} {P : Program} {f : FuncId} {fn : Func} {c : Code} {args : List Value} {pre : World → List Nat → Prop} {post : World → World → List Nat → Value → Prop} (hf : P.funcs[f]? = some fn) (hb : fn.body = some c) (hn : args.length ≤ fn.ntmps)
    (F : List Fact) (hF : ∀ w m, pre w m → ∀ f ∈ F, f.p w m)
    (h : ∀ w0 m0 (R : Ending → World → Prop), (∀ f ∈ F, f.p w0 m0) → (∀ v w, After dr w0 w → post w0 w m0 v → R (.returned v) w) → T ⟨P, w0, fn.ntmps, m0, [], fun _ => True, dr⟩ (frame0 0 args) F [] c (bodyPost P fn R)) : FnX dr P f args pre post := by
  intro w m hm hpre
  refine calls_of_wp hf hb (h w m _ (hF w m hpre) (fun v w' hb hp => ⟨v, rfl, hb, hp⟩) _ _ ?_)
  refine ⟨rfl, ?_, ?_, Past.refl _ _ _, hm, ?_, ?_, ?_, ?_⟩
  · simp; omega
  · intro d v hv
    obtain ⟨_, h2⟩ := frame0_lk args 0 d v hv
    have hlt : d < args.length := by
      rcases Nat.lt_or_ge d args.length with h | h
      · exact h
      · simp [List.getElem?_eq_none h] at h2
    simp only [Nat.sub_zero] at h2
    rw [Array.getElem?_append_left (by simpa using hlt)]
    simpa using h2
  · intro f hf
    simpa [Blocks] using hF w m hpre f hf
  · intro o ho; cases ho
  · intro i j o o' b hi; simp at hi
  · intro b hb; cases hb
theorem tough_nil : ∀ o ∈ ([] : List Own), ToughO o := fun o ho => by cases ho
theorem tough_cons {o : Own} {M : List Own} (h : ToughO o) (hs : ∀ x ∈ M, ToughO x) : ∀ x ∈ o :: M, ToughO x := fun x hx => by
  cases hx with
  | head => exact h
  | tail _ hx => exact hs x hx
theorem hv_weaker {C : Cx} {F : List Fact} {R S : Rep α} {k : Nat} {v : Value} {l : List α} (hz : R.size = S.size) (hw : ∀ w m cs x, R.ok w m cs x → S.ok w m cs x) (h : HasV C F (rSl k R) v l) : HasV C F (rSl k S) v l := fun E M a w hs => by
  obtain ⟨cs, ⟨base, cap, e, h1, h2, h3, h3', h4⟩, hv⟩ := h E M a w hs
  exact ⟨cs, ⟨base, cap, e, h1, h2, h3, h3', h4.imp id fun ⟨p, hp, cells, h5, h6⟩ => ⟨p, hp, cells, Rows.weaker (hw w _) h5, h6⟩⟩, hv⟩
section
variable {C : Cx} {XI : List Nat} {E : List (Nat × Value)} {F : List Fact} {M : List Own} {d : Nat} {K : Cont}
/-- A call whose first answer is new. -/
theorem g_callo2F {R : Nat → Rep α} {S : Rep β} {k' : Nat} {r : List α × β} {f : FuncId} {xs : List Operand} {ats : Array TypeId} {vs : List Value} {pre : World → List Nat → Prop} {ty : TypeId} {pos : String} {after : Array Edge} {gd : Option (Nat × Bool)} (hmono : ∀ h h' w m cs x, h' ≤ h → (R h).ok w m cs x → (R h').ok w m cs x) (hsz : ∀ h h', (R h).size = (R h').size)
    (hn : Nat.blt d C.n = true) (hfn : HasFn C.P f) (hc : FnX C.dr C.P f vs pre (fun w w' m v => ∃ v0 v1, v = .tuple #[v0, v1] ∧ OwnRes (R w.heap.size) k' w w' m v0 r.1 ∧ ∀ m', (∀ b, b ∈ m' → b ∈ m ∨ bufBlk v0 = some b) → S.val w' m' v1 r.2)) (he : Evs E xs vs)
    (hpre : ∀ a w, OKst C E F M a w → pre w (C.m0 ++ Blocks M)) (k : ∀ v0 v1, K ((d, .tuple #[v0, v1]) :: E) (S.fact v1 r.2 :: F) (M ++ [Own.buf v0 k' (R C.w0.heap.size) r.1])) :
    GOp C XI E F M { dst := some d, op := .call { callee := .value (.func f), args := xs.toArray, argTypes := ats }, type := ty, pos, after, guard := gd } K :=
  g_callo2 (R := R C.w0.heap.size) (S := S) (r := r) (pre := fun w m => pre w m ∧ C.w0.heap.size ≤ w.heap.size) hn hfn (fun w m hm hp => (hc w m hm hp.1).mono fun _ _ ⟨v, h1, h2, v0, v1, e, ho, hr⟩ => ⟨v, h1, h2, v0, v1, e, OwnRes.weaker (R := R w.heap.size) (hsz _ _) (fun w' m' cs x h => hmono _ _ w' m' cs x hp.2 h) ho, hr⟩) he (fun a w hs => ⟨hpre a w hs, hs.below.size⟩) k
end
end Go.Cf
