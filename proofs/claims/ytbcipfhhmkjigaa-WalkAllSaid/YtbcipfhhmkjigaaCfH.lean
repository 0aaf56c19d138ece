/- A range over a function that collects into a captured slice variable. -/
import Derived.Test.YtbcipfhhmkjigaaCfG
set_option linter.unusedVariables false
set_option linter.unusedSimpArgs false
namespace Go.Cf
open Go Go.RowKit
variable {α β γ δ : Type}
/-- Data that hang on no memory. -/
def Flat (R : Rep β) : Prop := ∀ w m w' m' cs x, R.ok w m cs x → R.ok w' m' cs x
theorem Flat.int {k : IntKind} : Flat (rInt k) := fun _ _ _ _ _ _ h => h
theorem Flat.rows {R : Rep β} (h : Flat R) {w w' : World} {m m' : List Nat} : ∀ {l : List β} {cs : List Value}, Rows R w m cs l → Rows R w' m' cs l
  | [], _, hr => hr
  | _ :: _, _, ⟨a, b, h1, h2, h3⟩ => ⟨a, b, h1, h _ _ _ _ _ _ h2, Flat.rows h h3⟩
theorem Flat.arr {R : Rep β} {n : Nat} (h : Flat R) : Flat (rArr n R) := fun _ _ _ _ _ _ hr => ⟨hr.1, h.rows hr.2⟩
theorem Flat.buf {R : Rep β} (h : Flat R) {nb : Nat} {v : Value} {l : List β} {w w' : World} {m m' : List Nat} (hb : BufOk R nb v l w m) (hk : ∀ b, bufBlk v = some b → w'.heap[b]? = w.heap[b]?) : BufOk R nb v l w' m' := by
  obtain ⟨h0, h0', h4⟩ := hb
  refine ⟨h0, h0', h4.imp id fun ⟨b, cap, cs, rest, T, h1, h2, h3, h4, h5, h6⟩ => ⟨b, cap, cs, rest, T, h1, h2, h3, by rw [hk b (by rw [h1]; rfl)]; exact h4, h5, h.rows h6⟩⟩
/-- Between two rounds: the variable's box b5 holds a slice of a block of its own; all else that lay there lies as it lay. -/
structure RI (R : Rep β) (nb : Nat) (w : World) (b5 : Nat) (l : List β) (W : World) : Prop where
  os : W.os = w.os
  tape : W.tape = w.tape
  output : W.output = w.output
  size : w.heap.size ≤ W.heap.size
  old : ∀ k, k < w.heap.size → k ≠ b5 → W.heap[k]? = w.heap[k]?
  box : ∃ v T, W.heap[b5]? = some (.cells #[v] T (0, 0)) ∧ one1 v = true ∧ BufOk R nb v l W [] ∧ ∀ b, bufBlk v = some b → w.heap.size ≤ b
theorem RI.own {R : Rep β} (hR : Flat R) {nb : Nat} {w : World} {b5 : Nat} (hb5 : b5 < w.heap.size) {ι : Type} (f : ι → List β) : OwnFrom w.heap.size (fun (s : ι) W => RI R nb w b5 (f s) W) := by
  intro s W W' row h hg hr
  have hne : ∀ (k : Nat) (o : Obj), W.heap[k]? = some o → o.isCells = true → W'.heap[k]? = W.heap[k]? := fun k o hk ho => by
    refine hg.block k (lt_of_get hk) (fun e => ?_)
    obtain ⟨_, o', h1, h2⟩ := hr k e.symm
    rw [hk] at h1
    cases h1
    rw [ho] at h2
    cases h2
  obtain ⟨v, T, h1, h2, h3, h4⟩ := h.box
  refine ⟨hg.os.trans h.os, hg.tape.trans h.tape, hg.output.trans h.output, Nat.le_trans h.size hg.size, fun k hk hk5 => ?_, v, T, (hne _ _ h1 rfl).trans h1, h2, hR.buf h3 (fun b hb => ?_), h4⟩
  · refine (hg.block k (Nat.lt_of_lt_of_le hk h.size) (fun e => ?_)).trans (h.old k hk hk5)
    have := (hr k e.symm).1
    omega
  · obtain ⟨_, _, h5⟩ := h3
    rcases h5 with ⟨base, rfl, _⟩ | ⟨b', cap, cs, rest, T', rfl, _, _, h6, _, _⟩
    · cases base <;> cases hb
    · cases hb
      exact hne _ _ h6 rfl
/-- Into a round: the frame, the facts of the world ahead, the variable's box and its slice. -/
theorem RI.enter {R : Rep β} (hR : Flat R) {nb : Nat} {w : World} {b5 : Nat} {l : List β} {W : World} (h : RI R nb w b5 l W) (hb5 : b5 < w.heap.size) {P : Program} {z : Value} {hz : one1 z = true} {m : List Nat} (hm : b5 ∈ m) {Fs : List Fact} (hf : ∀ f ∈ Fs, f.p w m) (ts : List Value) :
    ∃ v, (∀ b, bufBlk v = some b → w.heap.size ≤ b) ∧ OKst ⟨P, W, ts.length, [], [], fun k => k ≠ b5 ∧ bufBlk v ≠ some k, false⟩ (frame0 0 ts) Fs [Own.box b5 (rVal z hz) v, Own.buf v nb R l] ⟨ts.toArray, []⟩ W := by
  obtain ⟨v, T, h1, h2, h3, h4⟩ := h.box
  have hblk : ∀ b, b ∈ Blocks [Own.box b5 (rVal z hz) v, Own.buf v nb R l] ↔ b = b5 ∨ bufBlk v = some b := fun b => by
    rw [blocks_mem]
    constructor
    · rintro ⟨i, o, hi, ho⟩
      match i, hi with
      | 0, hi => simp at hi; subst hi; left; simpa [Own.box] using ho.symm
      | 1, hi => simp at hi; subst hi; right; simpa [Own.buf] using ho
    · rintro (rfl | hb)
      · exact ⟨0, _, rfl, rfl⟩
      · exact ⟨1, _, rfl, hb⟩
  have hlt : ∀ b, bufBlk v = some b → b < W.heap.size := fun b hb => by
    obtain ⟨_, _, h5⟩ := h3
    rcases h5 with ⟨base, rfl, _⟩ | ⟨b', cap, cs, rest, T', rfl, _, _, h6, _, _⟩
    · cases base <;> cases hb
    · cases hb; exact lt_of_get h6
  have hg : Grows w m W ([] ++ Blocks [Own.box b5 (rVal z hz) v, Own.buf v nb R l]) := by
    refine ⟨h.size, fun b hb hnm => h.old b hb (fun e => hnm (e ▸ hm)), fun b hb hnm hin => ?_⟩
    rcases (hblk b).1 (by simpa using hin) with rfl | hb'
    · exact hnm hm
    · have := h4 b hb'; omega
  refine ⟨v, h4, rfl, by simp, fun d u hu => ?_, Past.refl _ _ _, (by intro b hb; cases hb), fun f hfm => f.mono _ _ _ _ hg (hf f hfm), fun o ho => ?_, ?_, fun b hb => ?_⟩
  · obtain ⟨_, h5⟩ := frame0_lk ts 0 d u hu
    simpa using h5
  · rcases List.mem_cons.1 ho with rfl | ho
    · exact ⟨#[v], T, h1, rfl, h2⟩
    · simp at ho; subst ho
      exact hR.buf h3 (fun _ _ => rfl)
  · intro i j o o' b hi hj hx hy
    match i, j, hi, hj with
    | 0, 0, _, _ => rfl
    | 1, 1, _, _ => rfl
    | 0, 1, hi, hj =>
      simp at hi hj; subst hi; subst hj
      have e1 : b5 = b := by simpa [Own.box] using hx
      have e2 : bufBlk v = some b := hy
      have := h4 b e2; omega
    | 1, 0, hi, hj =>
      simp at hi hj; subst hi; subst hj
      have e1 : b5 = b := by simpa [Own.box] using hy
      have e2 : bufBlk v = some b := hx
      have := h4 b e2; omega
  · rcases (hblk b).1 hb with rfl | hb'
    · exact ⟨⟨by simp, fun _ hk => hk.1 rfl⟩, Nat.lt_of_lt_of_le hb5 h.size⟩
    · exact ⟨⟨by simp, fun _ hk => hk.2 hb'⟩, hlt b hb'⟩
/-- Out of a round. -/
theorem RI.leave {R : Rep β} (hR : Flat R) {nb : Nat} {w : World} {b5 : Nat} {l l' : List β} {W W' : World} (h : RI R nb w b5 l W) {P : Program} {n : Nat} {z : Value} {hz : one1 z = true} {v v' : Value} (hv : ∀ b, bufBlk v = some b → w.heap.size ≤ b) {E : List (Nat × Value)} {Fs : List Fact} {M : List Own} {a : Act}
    (hs : OKst ⟨P, W, n, [], [], fun k => k ≠ b5 ∧ bufBlk v ≠ some k, false⟩ E Fs M a W') {i j : Nat} (hi : M[i]? = some (Own.box b5 (rVal z hz) v')) (hj : M[j]? = some (Own.buf v' nb R l')) (hne : i ≠ j) : RI R nb w b5 l' W' := by
  obtain ⟨cs, T, h1, h2, h3⟩ := hs.own _ (List.mem_of_getElem? hi)
  have hcs : cs = #[v'] := by
    apply Array.toList_inj.1
    rw [h2]
  subst hcs
  have hb := hs.own _ (List.mem_of_getElem? hj)
  refine ⟨hs.below.os.trans h.os, hs.below.tape.trans h.tape, hs.below.output.trans h.output, Nat.le_trans h.size hs.below.size, fun k hk hk5 => ?_, v', T, h1, h3, hR.buf hb (fun _ _ => rfl), fun b hbb => ?_⟩
  · refine (hs.below.block k (Nat.lt_of_lt_of_le hk h.size) ⟨hk5, fun e => ?_⟩).trans (h.old k hk hk5)
    have := hv k e
    omega
  · obtain ⟨⟨_, r2⟩, r3⟩ := hs.range b (blocks_mem.2 ⟨j, _, hj, hbb⟩)
    rcases Nat.lt_or_ge b W.heap.size with hlt | hge
    · have hnk := r2 hlt
      have : bufBlk v = some b := by
        by_cases e : bufBlk v = some b
        · exact e
        · refine absurd ⟨fun e5 => ?_, e⟩ hnk
          subst e5
          have hij := hs.nodup i j _ _ b hi hj rfl hbb
          exact hne hij
      exact hv b this
    · exact Nat.le_trans h.size hge
/-- What is no cells lies as it lay. -/
theorem round_keeps {W W' : World} {P : Program} {n : Nat} {v : Value} {b5 : Nat} {E : List (Nat × Value)} {Fs : List Fact} {M : List Own} {a : Act} {T : TypeId} {c : Array Value} {fr : Nat × Nat} (h5 : W.heap[b5]? = some (.cells c T fr)) (hvb : ∀ b, bufBlk v = some b → ∃ c T fr, W.heap[b]? = some (.cells c T fr))
    (hs : OKst ⟨P, W, n, [], [], fun k => k ≠ b5 ∧ bufBlk v ≠ some k, false⟩ E Fs M a W') : KeepsOthers W W' := by
  refine ⟨hs.below.size, fun k o hk ho => ?_⟩
  refine (hs.below.block k (lt_of_get hk) ⟨fun e => ?_, fun e => ?_⟩).trans hk
  · subst e; rw [h5] at hk; cases hk; cases ho
  · obtain ⟨c', T', fr', h6⟩ := hvb k e
    rw [h6] at hk; cases hk; cases ho
end Go.Cf
