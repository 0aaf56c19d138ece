/- A range over a function whose body goes on at every round: the law, and its form for the judgement. -/
import Derived.Test.YtbcipfhhmkjigaaCfH
set_option linter.unusedVariables false
set_option linter.unusedSimpArgs false
namespace Go.Cf
open Go Go.RowKit
variable {α β γ δ : Type}

theorem range_go {α : Type} {F : Fence} {n : Nat} {P : Program} {g : Operand} {ps : Array Tmp} {assign body : Code} {Q : Exit → Act → World → Prop} {a : Act} {w : World}
    (hro : F.round = none) (h1 : 1 ≤ n) {gf : Nat} {lb : Array Value} (hg : a.eval g = .func (.func gf) #[] lb) (hFg : F.fn gf) (eg : ∀ args w, (callFunc gf args).run P w = .ok (.enter gf args) w)
    {encs : α → Array Value} {S Sp : List α → Prop} {N : Nat} {w0 : World} (hseq : SeqStopsK F (n - 1) P gf lb encs KeepsWalks S Sp N w0)
    (hb0 : Below w0.heap.size w0 w) (hps : ∀ x, (encs x).size = ps.size) (I : List α → World → Prop) (hI : OwnFrom w.heap.size I) (h0 : I [] w)
    (hround : ∀ (l : Nat) (pre : List α) (x : α) (W : World) (o o' : Obj), w.heap.size ≤ l → I pre W → W.heap[l]? = some o → o.isCells = false → o.isWalk = false → o'.isCells = false → pre.length < N →
      assign.wpIn (F.inRound l) (n - 1 - 1) P (Exit.then (fun a1 W1 => KeepsOthers W W1 ∧ body.wpIn (F.inRound l) (n - 1 - 1) P (fun e _ W3 => e = .normal ∧ KeepsOthers (W1.putObj l o') W3 ∧ I (pre ++ [x]) W3) a1 (W1.putObj l o')) (fun _ _ _ => False))
        { tmps := (ps.zip (encs x)).foldl (fun t (p, v) => t.setIfInBounds p v) a.tmps, defers := [] } W)
    (hdone : ∀ (D : Nat) (xs : List α) (W : World), w.heap.size ≤ D → S xs → I xs W → W.heap[D]? = some (.deferred (some [])) → Q .normal { a with defers := { target := .collected D, args := #[] } :: a.defers } W) :
    (Code.rangeFunc g ps assign body).wpIn F n P Q a w := by
  refine wpIn_rangeFunc ?_
  intro fn hfn
  rw [hro]
  obtain ⟨rec, hrec⟩ : ∃ rec : LoopState → Option Code → Loop, rec = fun st pe => { state := st, pending := pe, fn, tmps := a.tmps, params := ps, assign, body, defers := w.heap.size } := ⟨_, rfl⟩
  obtain ⟨W1, hW1⟩ : ∃ W1, (w.alloc (.deferred (some []))).alloc (.loop (rec .ready none)) = W1 := ⟨_, rfl⟩
  have hL1 : W1.heap[w.heap.size + 1]? = some (.loop (rec .ready none)) := by
    rw [← hW1]; have := World.alloc_heap_new (w.alloc (.deferred (some []))) (.loop (rec .ready none)); rwa [World.size_alloc] at this
  have hK1 : W1.heap[w.heap.size]? = some (.deferred (some [])) := by
    rw [← hW1]; exact (Below.heap_alloc _ _ _ (by simp)).trans (World.alloc_heap_new w _)
  have hI1 : I [] W1 := by rw [← hW1]; exact hI.alloc _ (hI.alloc _ h0)
  have hb1 : Below w0.heap.size w0 W1 := by
    rw [← hW1]; exact hb0.trans ((((Below.refl _ w).alloc (Nat.le_refl _) _).alloc (by simp) _).mono hb0.size)
  refine ⟨w.heap.size + 1, [{ target := .collected w.heap.size, args := #[] }], W1, { target := .fn (.func gf) lb, args := #[.func (.yield (w.heap.size + 1)) #[] #[]] }, W1, gf,
    #[.func (.yield (w.heap.size + 1)) #[] #[]] ++ lb, W1, ?_, ?_, ?_, ?_, fun _ => h1, ?_⟩
  · rw [← hW1, hrec]; exact run_enterLoop_outer _ _ _ _ _
  · simp only [resolve, hg]
    simp [go_sem]
  · intro f' hf'; simp [Target.leads] at hf'; subst hf'; exact hFg
  · simp [invoke, go_sem, eg]
  · have hnw : ∀ {A B : World} {row : Option Nat}, (∀ r, row = some r → W1.heap.size ≤ r ∧ ∃ o : Obj, A.heap[r]? = some o ∧ o.isWalk = true) → (∀ r, row = some r → w.heap.size ≤ r ∧ ∃ o : Obj, A.heap[r]? = some o ∧ o.isCells = false) :=
      fun hr r e => by obtain ⟨hB, o, ho, hw⟩ := hr r e; exact ⟨by rw [← hW1] at hB; simp at hB; omega, o, ho, Obj.not_cells_of_walk hw⟩
    refine (hseq (w.heap.size + 1)
      (fun pre W => I pre W ∧ W.heap[w.heap.size + 1]? = some (.loop (rec .ready none)) ∧ W.heap[w.heap.size]? = some (.deferred (some [])))
      (fun _ _ => False)
      W1 hb1
      (fun s A B row hs hg' hr => ⟨hI s A B row hs.1 hg' (hnw (B := B) hr), (grownBy_keeps hg' (fun r e => (hr r e).2) hs.2.1 rfl).trans hs.2.1, (grownBy_keeps hg' (fun r e => (hr r e).2) hs.2.2 rfl).trans hs.2.2⟩)
      (fun s A B row hs hg' hr => hs.elim)
      ?_ ⟨hI1, hL1, hK1⟩).mono ?_
    · rintro pre x W ⟨hi, hl, hk⟩ hlen
      have hlt : w.heap.size + 1 < W.heap.size := (Array.getElem?_eq_some_iff.1 hl).1
      have hy := run_yield (P := P) (args := encs x) hl (by rw [hrec]; exact hps x)
      rw [hrec] at hy
      refine ⟨fn, _, assign, body, hy, roundIn_of_wpIn hfn (wpIn_mono (hround _ pre x W _ (.loop { rec .ready none with state := .busy }) (by omega) hi hl rfl rfl rfl hlen) ?_)⟩
      rintro e a1 Wa hp
      cases e with
      | normal =>
        obtain ⟨hka, hbody⟩ := hp
        have hla := hka.same _ _ hl rfl
        have hkd := hka.same _ _ hk rfl
        have hlta : w.heap.size + 1 < Wa.heap.size := (Array.getElem?_eq_some_iff.1 hla).1
        refine ⟨_, run_beginRound hla (by rw [hrec]), ?_⟩
        refine wpIn_mono hbody ?_
        rintro e a3 W3 ⟨rfl, hk3, hi3⟩
        have hl2 : (Wa.putObj (w.heap.size + 1) (.loop { rec .ready none with state := .busy })).heap[w.heap.size + 1]? = some (.loop { rec .ready none with state := .busy }) := World.putObj_heap_same hlta
        have hk2 : (Wa.putObj (w.heap.size + 1) (.loop { rec .ready none with state := .busy })).heap[w.heap.size]? = some (.deferred (some [])) := (World.putObj_heap_other (by omega)).trans hkd
        have hl3 := hk3.same _ _ hl2 rfl
        have hd3 := hk3.same _ _ hk2 rfl
        have hr := run_endRound (P := P) none hl3
        rw [hrec] at hr
        refine ⟨_, _, hr, .inl ⟨rfl, ⟨hI.putObj _ hi3 (by omega) hl3 rfl, ?_, ?_⟩, ?_⟩⟩
        · have := World.putObj_heap_same (o := .loop (rec .ready none)) (Array.getElem?_eq_some_iff.1 hl3).1
          rw [hrec] at this ⊢
          simpa using this
        · exact (World.putObj_heap_other (by omega)).trans hd3
        · refine (hka.walks).trans ((KeepsWalks.putObj _ hla rfl).trans (hk3.walks.trans ?_))
          exact KeepsWalks.putObj _ hl3 rfl
      | ret => exact hp.elim
      | exit id => exact hp.elim
      | goto t => exact hp.elim
      | panic ch => exact hp.elim
      | outgrown => exact hp.elim
    · rintro e W2 ⟨⟨v, rfl⟩, (⟨xs, hS, hi, hl, hk⟩ | ⟨pre, hSp, hf⟩)⟩
      · exact ⟨none, _, by have := run_endLoop (P := P) hl (by rw [hrec]; simp); rw [hrec] at this; exact this, hdone _ xs _ (Nat.le_refl _) hS (hI.putObj _ hi (by omega) hl rfl) ((World.putObj_heap_other (by omega)).trans hk)⟩
      · exact hf.elim

/-- A block that lies as it lay. -/
def Own.obj (b : Nat) (o : Obj) : Own where
  blk := some b
  holds := fun w _ => w.heap[b]? = some o
  keep := fun _ _ _ _ _ hb h => (hb b rfl).trans h
/-- An entry whose block holds cells. -/
def CellOwn (o : Own) : Prop := ∀ w m b, o.holds w m → o.blk = some b → ∃ c T fr, w.heap[b]? = some (.cells c T fr)
theorem CellOwn.box {b : Nat} {R : Rep β} {x : β} : CellOwn (Own.box b R x) := fun _ _ _ ⟨cs, T, h, _⟩ hb => by cases hb; exact ⟨_, _, _, h⟩
theorem CellOwn.buf {v : Value} {n : Nat} {R : Rep β} {l : List β} : CellOwn (Own.buf v n R l) := fun w m b h hb => by
  obtain ⟨_, _, h5⟩ := h
  rcases h5 with ⟨base, rfl, _⟩ | ⟨b', cap, cs, rest, T', rfl, _, _, h6, _, _⟩
  · cases base <;> cases hb
  · cases hb; exact ⟨_, _, _, h6⟩
theorem CellOwn.gone : CellOwn Own.gone := fun _ _ _ _ hb => by cases hb
theorem blocks_cells {M : List Own} (hM : ∀ o ∈ M, CellOwn o) {C : Cx} {E : List (Nat × Value)} {Fs : List Fact} {a : Act} {w : World} (hs : OKst C E Fs M a w) {b : Nat} (hb : b ∈ Blocks M) : ∃ c T fr, w.heap[b]? = some (.cells c T fr) := by
  obtain ⟨i, o, hi, ho⟩ := blocks_mem.1 hb
  exact hM o (List.mem_of_getElem? hi) _ _ _ (hs.own o (List.mem_of_getElem? hi)) ho
/-- The loop's record turns: the state as it was, from that world on. -/
theorem OKst.rebase {P : Program} {w0 : World} {n l : Nat} {df : List Deferred} {kp : Nat → Prop} {dr : Bool} {E : List (Nat × Value)} {Fs : List Fact} {M : List Own} {a : Act} {w : World} (hs : OKst ⟨P, w0, n, [l], df, kp, dr⟩ E Fs M a w) (o : Obj) :
    OKst ⟨P, w.putObj l o, n, [l], df, fun k => k ∉ Blocks M, dr⟩ E Fs M a (w.putObj l o) := by
  have hsz : (w.putObj l o).heap.size = w.heap.size := by simp
  have hne : ∀ b ∈ Blocks M, b ≠ l := fun b hb e => (hs.range b hb).1.1 (by simp [e])
  have hg : Grows w ([l] ++ Blocks M) (w.putObj l o) ([l] ++ Blocks M) := ⟨by rw [hsz]; exact Nat.le_refl _, fun b _ hm => World.putObj_heap_other (fun e => hm (by simp [e])), fun _ _ h => h⟩
  refine ⟨hs.defers, hs.size, hs.env, Past.refl _ _ _, fun b hb => ?_, fun f hf => f.mono _ _ _ _ hg (hs.facts f hf), fun x hx => ?_, hs.nodup, fun b hb => ⟨⟨(hs.range b hb).1.1, fun _ h => h hb⟩, by rw [hsz]; exact (hs.range b hb).2⟩⟩
  · rw [hsz]; exact Nat.lt_of_lt_of_le (hs.m0 b hb) hs.below.size
  · refine x.keep _ _ _ _ hg (fun b hb => World.putObj_heap_other (hne b ?_)) (hs.own x hx)
    obtain ⟨i, hi⟩ := List.mem_iff_getElem?.1 hx
    exact blocks_mem.2 ⟨i, x, hi, hb⟩
theorem keeps_of_past {C : Cx} {E : List (Nat × Value)} {Fs : List Fact} {M : List Own} {a : Act} {w : World} (hs : OKst C E Fs M a w) (hk : ∀ k o, C.w0.heap[k]? = some o → o.isCells = false → C.kp k) : KeepsOthers C.w0 w :=
  ⟨hs.below.size, fun k o h1 h2 => (hs.below.block k (lt_of_get h1) (hk k o h1 h2)).trans h1⟩

/-- Into a round. -/
theorem RI.enter2 {R : Rep β} (hR : Flat R) {nb : Nat} {w : World} {b5 : Nat} {l : List β} {W : World} (h : RI R nb w b5 l W) (hb5 : b5 < w.heap.size) {P : Program} {z : Value} {hz : one1 z = true} {m : List Nat} (hm : b5 ∈ m) {Fs : List Fact} (hf : ∀ f ∈ Fs, f.p w m) {lp : Nat} (hlp : w.heap.size ≤ lp) (hlo : ∃ o : Obj, W.heap[lp]? = some o ∧ o.isCells = false)
    {ts : Array Value} {E : List (Nat × Value)} (hE : ∀ d v, lk E d = some v → ts[d]? = some v) :
    ∃ v, (∀ b, bufBlk v = some b → w.heap.size ≤ b) ∧ (∃ T, W.heap[b5]? = some (.cells #[v] T (0, 0))) ∧ OKst ⟨P, W, ts.size, [lp], [], fun k => k ≠ b5 ∧ bufBlk v ≠ some k, false⟩ E Fs [Own.box b5 (rVal z hz) v, Own.buf v nb R l] ⟨ts, []⟩ W := by
  obtain ⟨v, T, h1, h2, h3, h4⟩ := h.box
  obtain ⟨ol, hl1, hl2⟩ := hlo
  have hblk : ∀ b, b ∈ Blocks [Own.box b5 (rVal z hz) v, Own.buf v nb R l] ↔ b = b5 ∨ bufBlk v = some b := fun b => by
    rw [blocks_mem]
    constructor
    · rintro ⟨i, o, hi, ho⟩
      match i, hi with
      | 0, hi => simp at hi; subst hi; left; simpa [Own.box] using ho.symm
      | 1, hi => simp at hi; subst hi; right; simpa [Own.buf] using ho
    · rintro (rfl | hb)
      · exact ⟨0, _, rfl, rfl⟩
      · exact ⟨1, _, rfl, hb⟩
  have hcell : ∀ b, bufBlk v = some b → ∃ c T fr, W.heap[b]? = some (.cells c T fr) := fun b hb => by
    obtain ⟨_, _, h5⟩ := h3
    rcases h5 with ⟨base, rfl, _⟩ | ⟨b', cap, cs, rest, T', rfl, _, _, h6, _, _⟩
    · cases base <;> cases hb
    · cases hb; exact ⟨_, _, _, h6⟩
  have hlt : ∀ b, bufBlk v = some b → b < W.heap.size := fun b hb => by obtain ⟨_, _, _, h6⟩ := hcell b hb; exact lt_of_get h6
  have hl5 : b5 ≠ lp := by omega
  have hlb : ∀ b, bufBlk v = some b → b ≠ lp := fun b hb e => by
    obtain ⟨_, _, _, h6⟩ := hcell b hb
    subst e; rw [hl1] at h6; cases h6; cases hl2
  have hg : Grows w m W ([lp] ++ Blocks [Own.box b5 (rVal z hz) v, Own.buf v nb R l]) := by
    refine ⟨h.size, fun b hb hnm => h.old b hb (fun e => hnm (e ▸ hm)), fun b hb hnm hin => ?_⟩
    rcases List.mem_append.1 hin with hin | hin
    · simp at hin; omega
    · rcases (hblk b).1 hin with rfl | hb'
      · exact hnm hm
      · have := h4 b hb'; omega
  refine ⟨v, h4, ⟨T, h1⟩, rfl, rfl, hE, Past.refl _ _ _, (by intro b hb; simp at hb; subst hb; exact lt_of_get hl1), fun f hfm => f.mono _ _ _ _ hg (hf f hfm), fun o ho => ?_, ?_, fun b hb => ?_⟩
  · rcases List.mem_cons.1 ho with rfl | ho
    · exact ⟨#[v], T, h1, rfl, h2⟩
    · simp at ho; subst ho
      exact hR.buf h3 (fun _ _ => rfl)
  · intro i j o o' b hi hj hx hy
    match i, j, hi, hj with
    | 0, 0, _, _ => rfl
    | 1, 1, _, _ => rfl
    | 0, 1, hi, hj =>
      simp at hi hj; subst hi; subst hj
      have e1 : b5 = b := by simpa [Own.box] using hx
      have e2 : bufBlk v = some b := hy
      have := h4 b e2; omega
    | 1, 0, hi, hj =>
      simp at hi hj; subst hi; subst hj
      have e1 : b5 = b := by simpa [Own.box] using hy
      have e2 : bufBlk v = some b := hx
      have := h4 b e2; omega
  · rcases (hblk b).1 hb with rfl | hb'
    · exact ⟨⟨by simpa using hl5, fun _ hk => hk.1 rfl⟩, Nat.lt_of_lt_of_le hb5 h.size⟩
    · exact ⟨⟨by simpa using hlb b hb', fun _ hk => hk.2 hb'⟩, hlt b hb'⟩
end Go.Cf
