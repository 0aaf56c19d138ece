/- The range that collects, for the judgement; a function that holds one. -/
import Derived.Test.YtbcipfhhmkjigaaCfI
set_option linter.unusedVariables false
set_option linter.unusedSimpArgs false
namespace Go.Cf
open Go Go.RowKit
variable {α β γ δ : Type}

theorem arr_set_get {a : Array Value} {p d : Nat} {x v : Value} (hp : p < a.size) {E : List (Nat × Value)} (h : ∀ d v, lk E d = some v → a[d]? = some v) (hd : lk ((p, x) :: E) d = some v) : (a.setIfInBounds p x)[d]? = some v := by
  unfold lk at hd
  cases hb : Nat.beq p d with
  | true => rw [hb] at hd; cases hd; rw [← Nat.eq_of_beq_eq_true hb]; simp [hp]
  | false => rw [hb] at hd; rw [Array.getElem?_setIfInBounds_ne (Nat.ne_of_beq_eq_false hb)]; exact h d v hd

/-- What a round owes: the loop's variables laid, then the body; at its end the variable's box holds a slice of the longer list. -/
def RoundOk (P : Program) (n k l : Nat) (p : Nat) (E : List (Nat × Value)) (Fs : List Fact) (b5 : Nat) {z : Value} (hz : one1 z = true) (nb : Nat) (R : Rep β) (assign body : Code) (key : Value) (l0 l1 : List β) : Prop :=
  ∀ (W : World) (v : Value) (kp : Nat → Prop), TI (Fence.wide.inRound l) k ⟨P, W, n, [l], [], kp, false⟩ ((p, key) :: E) Fs [Own.box b5 (rVal z hz) v, Own.buf v nb R l0] assign
    (Exit.then (fun a1 W1 => ∃ E1 F1 M1, OKst ⟨P, W, n, [l], [], kp, false⟩ E1 F1 M1 a1 W1 ∧ (∀ o ∈ M1, CellOwn o) ∧ (∃ v1, M1[0]? = some (Own.box b5 (rVal z hz) v1)) ∧
      ∀ W2, TI (Fence.wide.inRound l) k ⟨P, W2, n, [l], [], fun k => k ∉ Blocks M1, false⟩ E1 F1 M1 body
        (fun e a3 W3 => e = .normal ∧ ∃ E3 F3 M3 v3 j, OKst ⟨P, W2, n, [l], [], fun k => k ∉ Blocks M1, false⟩ E3 F3 M3 a3 W3 ∧ M3[0]? = some (Own.box b5 (rVal z hz) v3) ∧ M3[j + 1]? = some (Own.buf v3 nb R l1)))
      (fun _ _ _ => False))

theorem wp_collect {C : Cx} {E : List (Nat × Value)} {Fs : List Fact} {M : List Own} {a : Act} {w : World} (hs : OKst C E Fs M a w) (hdr : C.dr = false) {Q : Exit → Act → World → Prop}
    {g : Operand} {p : Nat} {assign body : Code} {gf : Nat} {lb : Array Value} (hg : ev E g = some (.func (.func gf) #[] lb)) (eg : ∀ args w, (callFunc gf args).run C.P w = .ok (.enter gf args) w) (hp : Nat.blt p C.n = true)
    {X : Type} {encs : X → Value} {S Sp : List X → Prop} {N : Nat} {n : Nat} (hn : 1 ≤ n) (hseq : SeqStopsA Fence.wide (n - 1) C.P gf lb (fun x => #[encs x]) S Sp N w)
    {R : Rep β} (hR : Flat R) {nb : Nat} {z : Value} {hz : one1 z = true} {b5 : Nat} (i5 : Nat) (h5 : M[i5]? = some (Own.box b5 (rVal z hz) (.slice none 0 0)))
    (pick : List X → List β) (hpick : pick [] = [])
    (round : ∀ (l : Nat) (pre : List X) (x : X), pre.length < N → RoundOk C.P C.n (n - 1 - 1) l p E Fs b5 hz nb R assign body (encs x) (pick pre) (pick (pre ++ [x])))
    (done : ∀ D v xs, S xs → QT { C with dfr := { target := .collected D, args := #[] } :: C.dfr } E Fs (M.set i5 (Own.box b5 (rVal z hz) v) ++ [Own.buf v nb R (pick xs), Own.obj D (.deferred (some []))]) (Q .normal)) :
    (Code.rangeFunc g #[p] assign body).wp C.P Q a w := by
  rw [← wpIn_wide (n := n)]
  have hb5m : b5 ∈ Blocks M := blocks_mem.2 ⟨i5, _, h5, rfl⟩
  have hb5 : b5 < w.heap.size := (hs.range b5 hb5m).2
  obtain ⟨cs5, T5, h51, h52⟩ := hs.own _ (List.mem_of_getElem? h5)
  have hcs5 : cs5 = #[.slice none 0 0] := by apply Array.toList_inj.1; rw [h52.1]
  subst hcs5
  refine range_go (α := X) (encs := fun x => #[encs x]) rfl hn (hs.ev hg) trivial eg (seqStopsA_iff.1 hseq) (Below.refl _ _) (fun _ => rfl) (fun pre W => RI R nb w b5 (pick pre) W) (RI.own hR hb5 pick) ?_ ?_ ?_
  · show RI R nb w b5 (pick []) w
    rw [hpick]
    exact ⟨rfl, rfl, rfl, Nat.le_refl _, fun _ _ _ => rfl, _, T5, h51, rfl, ⟨by simp, by simp, .inl ⟨none, rfl, rfl⟩⟩, fun b hb => by cases hb⟩
  · intro l pre x W o o' hl hi ho hc hwk hc' hlen
    have hE : ∀ d v, lk ((p, encs x) :: E) d = some v → (a.tmps.setIfInBounds p (encs x))[d]? = some v := fun d v hd => arr_set_get (by rw [hs.size]; exact Nat.blt_eq.mp hp) hs.env hd
    obtain ⟨v, hv4, ⟨T, hT⟩, hs1⟩ := RI.enter2 (P := C.P) (z := z) (hz := hz) hR hi hb5 (m := C.m0 ++ Blocks M) (List.mem_append_right _ hb5m) hs.facts hl ⟨o, ho, hc⟩ hE
    have hsz : (a.tmps.setIfInBounds p (encs x)).size = C.n := by simpa using hs.size
    rw [hsz] at hs1
    have hr := round l pre x hlen W v _ _ _ hs1
    have hz0 : ((#[p].zip #[encs x]).foldl (fun t (x : Nat × Value) => t.setIfInBounds x.1 x.2) a.tmps) = a.tmps.setIfInBounds p (encs x) := by simp
    show assign.wpIn (Fence.wide.inRound l) (n - 1 - 1) C.P _ { tmps := (#[p].zip #[encs x]).foldl (fun t (x : Nat × Value) => t.setIfInBounds x.1 x.2) a.tmps, defers := [] } W
    rw [hz0]
    refine wpIn_mono hr ?_
    rintro e a1 W1 hq
    cases e with
    | normal =>
      obtain ⟨E1, F1, M1, hs2, hM1, ⟨v1, h10⟩, hbody⟩ := hq
      have hk1 : KeepsOthers W W1 := keeps_of_past hs2 (fun k ob hk hob => by
        have hk : W.heap[k]? = some ob := hk
        refine ⟨fun e => ?_, fun e => ?_⟩
        · subst e; rw [hT] at hk; cases hk; cases hob
        · obtain ⟨_, _, _, h6⟩ := blocks_cells (M := [Own.box b5 (rVal z hz) v, Own.buf v nb R (pick pre)]) (by intro o ho; simp at ho; rcases ho with rfl | rfl; (exact CellOwn.box); (exact CellOwn.buf)) hs1 (b := k) (blocks_mem.2 ⟨1, _, rfl, e⟩)
          rw [h6] at hk; cases hk; cases hob)
      refine ⟨hk1, ?_⟩
      have hs3 := hs2.rebase o'
      have hb1 : ∀ b ∈ Blocks M1, b = b5 ∨ w.heap.size ≤ b := fun b hb => by
        obtain ⟨⟨_, r2⟩, _⟩ := hs2.range b hb
        rcases Nat.lt_or_ge b W.heap.size with hlt | hge
        · by_cases e5 : b = b5
          · exact .inl e5
          · by_cases ev : bufBlk v = some b
            · exact .inr (hv4 b ev)
            · exact absurd ⟨e5, ev⟩ (r2 hlt)
        · exact .inr (Nat.le_trans hi.size hge)
      have hl1 : l < W1.heap.size := lt_of_get (hk1.same _ _ ho hc)
      refine wpIn_mono (hbody (W1.putObj l o') a1 _ hs3) ?_
      rintro e a3 W3 ⟨rfl, E3, F3, M3, v3, j, hs4, h30, h3j⟩
      refine ⟨rfl, keeps_of_past hs4 (fun k ob hk hob hin => ?_), ?_⟩
      · obtain ⟨_, _, _, h6⟩ := blocks_cells hM1 hs3 hin
        have hk : (W1.putObj l o').heap[k]? = some ob := hk
        rw [h6] at hk; cases hk; cases hob
      · obtain ⟨cs, T', g1, g2, g3⟩ := hs4.own _ (List.mem_of_getElem? h30)
        have hcs : cs = #[v3] := by apply Array.toList_inj.1; rw [g2]
        subst hcs
        have hbuf := hs4.own _ (List.mem_of_getElem? h3j)
        have hp1 := hs2.below
        have hp3 := hs4.below
        have e1 : ∀ k, k < w.heap.size → k ≠ b5 → W3.heap[k]? = w.heap[k]? := fun k hk hk5 => by
          have hkW : k < W.heap.size := Nat.lt_of_lt_of_le hk hi.size
          have hkW1 : k < W1.heap.size := Nat.lt_of_lt_of_le hkW hp1.size
          have hn1 : k ∉ Blocks M1 := fun hin => by exact (hb1 k hin).elim (fun h => hk5 h) (fun h => by omega)
          refine (hp3.block k (by show k < (W1.putObj l o').heap.size; simpa using hkW1) hn1).trans ((World.putObj_heap_other (by omega)).trans ?_)
          refine (hp1.block k hkW ⟨hk5, fun e => ?_⟩).trans (hi.old k hk hk5)
          have := hv4 k e; omega
        refine ⟨(hp3.os.trans hp1.os).trans hi.os, (hp3.tape.trans hp1.tape).trans hi.tape, (hp3.output.trans hp1.output).trans hi.output, ?_, e1, v3, T', g1, g3, hR.buf hbuf (fun _ _ => rfl), fun b hb => ?_⟩
        · have h8 := hp3.size
          have h9 : (W1.putObj l o').heap.size = W1.heap.size := by simp
          have h7 := hp1.size
          have h6 := hi.size
          show w.heap.size ≤ W3.heap.size
          have h8' : (W1.putObj l o').heap.size ≤ W3.heap.size := h8
          have h7' : W.heap.size ≤ W1.heap.size := h7
          omega
        · have hbm : b ∈ Blocks M3 := blocks_mem.2 ⟨j + 1, _, h3j, hb⟩
          obtain ⟨⟨_, r2⟩, _⟩ := hs4.range b hbm
          rcases Nat.lt_or_ge b (W1.putObj l o').heap.size with hlt | hge
          · have hin : b ∈ Blocks M1 := Classical.byContradiction fun h => r2 hlt h
            rcases hb1 b hin with h | h
            · subst h
              have := hs4.nodup _ _ _ _ _ h30 h3j rfl hb
              omega
            · exact h
          · have h9 : (W1.putObj l o').heap.size = W1.heap.size := by simp
            have h7' : W.heap.size ≤ W1.heap.size := hp1.size
            have h6 := hi.size
            omega
    | ret => exact hq.elim
    | exit id => exact hq.elim
    | goto t => exact hq.elim
    | panic ch => exact hq.elim
    | outgrown => exact hq.elim
  · intro D xs W hD hS hi hDW
    obtain ⟨v, T, h1, h2, h3, h4⟩ := hi.box
    refine done D v xs hS _ W ?_
    have hil : i5 < M.length := (List.getElem?_eq_some_iff.1 h5).1
    have hget : ∀ j o, (M.set i5 (Own.box b5 (rVal z hz) v) ++ [Own.buf v nb R (pick xs), Own.obj D (.deferred (some []))])[j]? = some o → ∀ b, o.blk = some b →
        (j = i5 ∧ b = b5 ∧ o = Own.box b5 (rVal z hz) v) ∨ (j ≠ i5 ∧ M[j]? = some o) ∨ (j = M.length ∧ bufBlk v = some b ∧ o = Own.buf v nb R (pick xs)) ∨ (j = M.length + 1 ∧ b = D ∧ o = Own.obj D (.deferred (some []))) := fun j o hj b hb => by
      rcases Nat.lt_or_ge j M.length with hlt | hge
      · rw [List.getElem?_append_left (by simpa using hlt), List.getElem?_set] at hj
        split at hj
        · next e => cases hj; cases hb; exact .inl ⟨e.symm, rfl, rfl⟩
        · next e => exact .inr (.inl ⟨fun e' => e e'.symm, hj⟩)
      · rw [List.getElem?_append_right (by simpa using hge)] at hj
        simp only [List.length_set] at hj
        rcases Nat.lt_or_ge (j - M.length) 1 with h | h
        · have e : j - M.length = 0 := by omega
          rw [e] at hj; simp at hj; subst hj
          exact .inr (.inr (.inl ⟨by omega, hb, rfl⟩))
        · rcases Nat.lt_or_ge (j - M.length) 2 with h' | h'
          · have e : j - M.length = 1 := by omega
            rw [e] at hj; simp at hj; subst hj; cases hb
            exact .inr (.inr (.inr ⟨by omega, rfl, rfl⟩))
          · rw [List.getElem?_eq_none (by simp; omega)] at hj; cases hj
    have hcell : ∀ b, bufBlk v = some b → ∃ c T fr, W.heap[b]? = some (.cells c T fr) := fun b hb => by
      obtain ⟨_, _, h5⟩ := h3
      rcases h5 with ⟨base, rfl, _⟩ | ⟨b', cap, cs, rest, T', rfl, _, _, h6, _, _⟩
      · cases base <;> cases hb
      · cases hb; exact ⟨_, _, _, h6⟩
    have hvD : ∀ b, bufBlk v = some b → b ≠ D := fun b hb e => by
      obtain ⟨_, _, _, h6⟩ := hcell b hb
      subst e; rw [hDW] at h6; cases h6
    have hbl : ∀ b, b ∈ Blocks (M.set i5 (Own.box b5 (rVal z hz) v) ++ [Own.buf v nb R (pick xs), Own.obj D (.deferred (some []))]) → b ∈ Blocks M ∨ (w.heap.size ≤ b ∧ b < W.heap.size) := fun b hb => by
      obtain ⟨j, o, hj, ho⟩ := blocks_mem.1 hb
      rcases hget j o hj b ho with ⟨_, rfl, _⟩ | ⟨_, hm⟩ | ⟨_, hv, _⟩ | ⟨_, rfl, _⟩
      · exact .inl hb5m
      · exact .inl (blocks_mem.2 ⟨j, o, hm, ho⟩)
      · exact .inr ⟨h4 b hv, by obtain ⟨_, _, _, h6⟩ := hcell b hv; exact lt_of_get h6⟩
      · exact .inr ⟨hD, lt_of_get hDW⟩
    have hg : Grows w (C.m0 ++ Blocks M) W (C.m0 ++ Blocks (M.set i5 (Own.box b5 (rVal z hz) v) ++ [Own.buf v nb R (pick xs), Own.obj D (.deferred (some []))])) := by
      refine ⟨hi.size, fun b hb hm => hi.old b hb (fun e => hm (List.mem_append_right _ (e ▸ hb5m))), fun b hb hm hin => ?_⟩
      rcases List.mem_append.1 hin with h | h
      · exact hm (List.mem_append_left _ h)
      · rcases hbl b h with h | h
        · exact hm (List.mem_append_right _ h)
        · omega
    have hpast : Past C.w0 C.kp C.dr W := ⟨hi.os.trans hs.below.os, hi.tape.trans hs.below.tape, hi.output.trans hs.below.output, Nat.le_trans hs.below.size hi.size, (fun e => by rw [hdr] at e; cases e),
      fun k hk hkp => (hi.old k (Nat.lt_of_lt_of_le hk hs.below.size) (fun e => by subst e; exact (hs.range k hb5m).1.2 hk hkp)).trans (hs.below.block k hk hkp)⟩
    refine ⟨by simp [hs.defers], hs.size, hs.env, hpast, hs.m0, fun f hf => f.mono _ _ _ _ hg (hs.facts f hf), fun o ho => ?_, ?_, fun b hb => ?_⟩
    · obtain ⟨j, hj⟩ := List.mem_iff_getElem?.1 ho
      rcases Nat.lt_or_ge j M.length with hlt | hge
      · rw [List.getElem?_append_left (by simpa using hlt), List.getElem?_set] at hj
        split at hj
        · cases hj
          exact ⟨#[v], T, h1, rfl, h2⟩
        · next e =>
          refine o.keep _ _ _ _ hg (fun b hb => hi.old b ?_ (fun e5 => ?_)) (hs.own o (List.mem_of_getElem? hj))
          · exact (hs.range b (blocks_mem.2 ⟨j, o, hj, hb⟩)).2
          · subst e5; exact e (hs.nodup _ _ _ _ _ h5 hj rfl hb)
      · rw [List.getElem?_append_right (by simpa using hge)] at hj
        simp only [List.length_set] at hj
        rcases Nat.lt_or_ge (j - M.length) 1 with h | h
        · have e : j - M.length = 0 := by omega
          rw [e] at hj; simp at hj; subst hj
          exact hR.buf h3 (fun _ _ => rfl)
        · rcases Nat.lt_or_ge (j - M.length) 2 with h' | h'
          · have e : j - M.length = 1 := by omega
            rw [e] at hj; simp at hj; subst hj
            exact hDW
          · rw [List.getElem?_eq_none (by simp; omega)] at hj; cases hj
    · intro i j o o' b hi1 hj1 hx hy
      have old : ∀ k (y : Own), M[k]? = some y → y.blk = some b → b < w.heap.size := fun k y hk hy' => (hs.range b (blocks_mem.2 ⟨k, y, hk, hy'⟩)).2
      rcases hget i o hi1 b hx with ⟨e1, e2, _⟩ | ⟨e1, e2⟩ | ⟨e1, e2, _⟩ | ⟨e1, e2, _⟩ <;> rcases hget j o' hj1 b hy with ⟨f1, f2, _⟩ | ⟨f1, f2⟩ | ⟨f1, f2, _⟩ | ⟨f1, f2, _⟩
      · rw [e1, f1]
      · subst e2; exact absurd (hs.nodup _ _ _ _ _ h5 f2 rfl hy).symm f1
      · subst e2; have := h4 _ f2; omega
      · subst e2; omega
      · subst f2; exact absurd (hs.nodup _ _ _ _ _ h5 e2 rfl hx).symm e1
      · exact hs.nodup _ _ _ _ _ e2 f2 hx hy
      · have := old _ _ e2 hx; have := h4 _ f2; omega
      · have := old _ _ e2 hx; omega
      · subst f2; have := h4 _ e2; omega
      · have := old _ _ f2 hy; have := h4 _ e2; omega
      · omega
      · exact absurd f2 (hvD b e2)
      · subst f2; omega
      · have := old _ _ f2 hy; omega
      · exact absurd e2 (hvD b f2)
      · omega
    · rcases hbl b hb with h | h
      · exact ⟨(hs.range b h).1, Nat.lt_of_lt_of_le (hs.range b h).2 hi.size⟩
      · exact ⟨⟨fun hm => by have hm : b ∈ C.m0 := hm; have := hs.m0 b hm; have := hs.below.size; omega, fun hlt => by have := hs.below.size; have hlt : b < C.w0.heap.size := hlt; omega⟩, h.2⟩

/-- A function that holds a range over a function, by its body. -/
theorem fn_ofM {P : Program} {f : FuncId} {fn : Func} {c : Code} {args : List Value} {pre : World → List Nat → Prop} {post : World → World → List Nat → Value → Prop} (hf : P.funcs[f]? = some fn) (hb : fn.body = some c) (hn : args.length ≤ fn.ntmps)
    (F : List Fact) (hF : ∀ w m, pre w m → ∀ f ∈ F, f.p w m)
    (h : ∀ w0 m0 (R : Ending → World → Prop), (∀ v w, After false w0 w → post w0 w m0 v → R (.returned v) w) → T ⟨P, w0, fn.ntmps, m0, [], fun _ => True, false⟩ (frame0 0 args) F [] c (bodyPostM Fence.wide 3 P fn R)) : FnX false P f args pre post := by
  intro w m hm hpre
  refine (callsIn_wide (n := 3)).1 (callsIn_of_wp_marks hf hb trivial ((wpIn_wide (n := 3)).2 (h w m _ (fun v w' hb hp => ⟨v, rfl, hb, hp⟩) _ _ ?_)))
  refine ⟨rfl, ?_, ?_, Past.refl _ _ _, hm, ?_, ?_, ?_, ?_⟩
  · simp; omega
  · intro d v hv
    obtain ⟨_, h2⟩ := frame0_lk args 0 d v hv
    have hlt : d < args.length := by
      rcases Nat.lt_or_ge d args.length with h | h
      · exact h
      · simp [List.getElem?_eq_none h] at h2
    simp only [Nat.sub_zero] at h2
    rw [Array.getElem?_append_left (by simpa using hlt)]
    simpa using h2
  · intro f hf
    simpa [Blocks] using hF w m hpre f hf
  · intro o ho; cases ho
  · intro i j o o' b hi; simp at hi
  · intro b hb; cases hb
/-- It leaves by the mark. -/
theorem q_retM {P : Program} {fn : Func} {R : Ending → World → Prop} {w0 : World} {m0 : List Nat} {post : World → World → List Nat → Value → Prop} {E : List (Nat × Value)} {F : List Fact} {M : List Own} {D : Nat} {t : Nat} {v : Value} {nb : Nat} {Rr : Rep β} {l : List β} (i j : Nat) (hFl : Flat Rr)
    (hR : ∀ v w, After false w0 w → post w0 w m0 v → R (.returned v) w) (hres : fn.results = #[.tmp t]) (hv : lk E t = some v) (hj : M[j]? = some (Own.obj D (.deferred (some [])))) (hi : M[i]? = some (Own.buf v nb Rr l)) (hpost : ∀ w, OwnRes Rr nb w0 w m0 v l → post w0 w m0 v) :
    QT ⟨P, w0, fn.ntmps, m0, [{ target := .collected D, args := #[] }], fun _ => True, false⟩ E F M (bodyPostM Fence.wide 3 P fn R .ret) := fun a w hs => by
  have hD := hs.own _ (List.mem_of_getElem? hj)
  have hD : w.heap[D]? = some (.deferred (some [])) := hD
  have hDm : D ∈ Blocks M := blocks_mem.2 ⟨j, _, hj, rfl⟩
  have hge : w0.heap.size ≤ D := Nat.le_of_not_lt fun hlt => (hs.range D hDm).1.2 hlt trivial
  show LeavesInM Fence.wide 3 P fn a.tmps R a.defers .returning w
  rw [hs.defers]
  refine ⟨by simp, .inl ⟨D, _, rfl, run_takeDeferred hD, ?_⟩⟩
  show LeavesIn Fence.wide 3 P fn a.tmps R [] .returning _
  refine ⟨v, by rw [results_tmp hres, hs.slot hv], ?_⟩
  have haft : After false w0 w := hs.below.after fun _ => trivial
  have hoth : ∀ b, b ≠ D → (w.putObj D (.deferred none)).heap[b]? = w.heap[b]? := fun b hb => World.putObj_heap_other hb
  refine hR _ _ ⟨⟨haft.below.os, haft.below.tape, haft.below.output, ?_, fun k hk => ?_⟩, fun e => by cases e⟩ (hpost _ ?_)
  · have := haft.below.size
    simpa using this
  · exact (hoth k (by omega)).trans (haft.below.block k hk)
  · have hor := hs.ownres (i := i) hi
    have hDne : ∀ b, bufBlk v = some b → b ≠ D := fun b hb e => by
      subst e
      have := hs.nodup i j _ _ b hi hj hb rfl
      subst this
      obtain ⟨_, _, _, h6⟩ := CellOwn.buf _ _ _ (hs.own _ (List.mem_of_getElem? hi)) hb
      rw [hD] at h6; cases h6
    refine ⟨fun b hb => ⟨(hor.1 b hb).1, by simpa using (hor.1 b hb).2⟩, fun m' hm' => ?_⟩
    exact hFl.buf (hor.2 m' hm') (fun b hb => hoth b (hDne b hb))
/-! ### Small rules within a fence -/
section
variable {F : Fence} {n : Nat} {C : Cx} {E : List (Nat × Value)} {Fs : List Fact} {M : List Own} {Q : Exit → Act → World → Prop} {ops : Array Oper}
theorem ti_more {c : Code} (f : Fact) (hf : ∀ w m, f.p w m) (h : TI F n C E (f :: Fs) M c Q) : TI F n C E Fs M c Q := fun a w hs => h a w (hs.more f (hf w _))
def TAIop (F : Fence) (n : Nat) (C : Cx) (ops : Array Oper) (fuel : Nat) (listed : Array Bool) (E : List (Nat × Value)) (Fs : List Fact) (M : List Own) (Q : Exit → Act → World → Prop) (i : Nat) : Prop :=
  ∃ op d ty pos after, ops[i]? = some { dst := some d, op, type := ty, pos, after, guard := none } ∧ Nat.blt d C.n = true ∧ Calm C.P { dst := some d, op, type := ty, pos, after, guard := none } ∧ DOp C [] E Fs M op d (fun E' F' M' => TAI F n C ops fuel (listed.setIfInBounds i true) E' F' M' Q)
variable {fuel : Nat} {listed : Array Bool}
theorem taiop {i : Nat} {op : Op} {d : Nat} {ty : TypeId} {pos : String} {after : Array Edge} (h1 : ops[i]? = some { dst := some d, op, type := ty, pos, after, guard := none }) (h2 : Nat.blt d C.n = true) (h3 : Calm C.P { dst := some d, op, type := ty, pos, after, guard := none })
    (h4 : DOp C [] E Fs M op d (fun E' F' M' => TAI F n C ops fuel (listed.setIfInBounds i true) E' F' M' Q)) : TAIop F n C ops fuel listed E Fs M Q i := ⟨op, d, ty, pos, after, h1, h2, h3, h4⟩
theorem tai_1 {i : Nat} (hrs : Region.ready .any ops listed = [i]) (h : TAIop F n C ops fuel listed E Fs M Q i) : TAI F n C ops (fuel + 1) listed E Fs M Q :=
  tai_step hrs (by simp) (fun j hj => by simp at hj; subst hj; exact h)
theorem tai_2 {i j : Nat} (hrs : Region.ready .any ops listed = [i, j]) (h : TAIop F n C ops fuel listed E Fs M Q i) (h' : TAIop F n C ops fuel listed E Fs M Q j) : TAI F n C ops (fuel + 1) listed E Fs M Q :=
  tai_step hrs (by simp) (fun k hk => by simp at hk; rcases hk with rfl | rfl; (exact h); (exact h'))
theorem tai_3 {i j l : Nat} (hrs : Region.ready .any ops listed = [i, j, l]) (h : TAIop F n C ops fuel listed E Fs M Q i) (h' : TAIop F n C ops fuel listed E Fs M Q j) (h'' : TAIop F n C ops fuel listed E Fs M Q l) : TAI F n C ops (fuel + 1) listed E Fs M Q :=
  tai_step hrs (by simp) (fun k hk => by simp at hk; rcases hk with rfl | rfl | rfl; (exact h); (exact h'); (exact h''))
end
theorem buf_one {nb : Nat} {R : Rep β} {v : Value} {l : List β} {w : World} {m : List Nat} (h : BufOk R nb v l w m) : one1 v = true := by
  obtain ⟨_, _, h5⟩ := h
  rcases h5 with ⟨base, rfl, _⟩ | ⟨b', cap, cs, rest, T', rfl, _⟩ <;> rfl
theorem tli_buf_one {F : Fence} {n : Nat} {C : Cx} {E : List (Nat × Value)} {Fs : List Fact} {M : List Own} {Q : Exit → Act → World → Prop} {ops : Array Oper} {os : List Oper} {nb : Nat} {R : Rep β} {v : Value} {l : List β} (i : Nat) (hm : M[i]? = some (Own.buf v nb R l)) (k : one1 v = true → TLI F n C ops E Fs M os Q) : TLI F n C ops E Fs M os Q :=
  fun a w hs => k (buf_one (hs.own _ (List.mem_of_getElem? hm))) a w hs
/-! ### Names in order -/
def insN (c : β → β → Int) (x : β) : List β → List β
  | [] => [x]
  | y :: l => if c x y < 0 then x :: y :: l else y :: insN c x l
def sortN (c : β → β → Int) : List β → List β
  | [] => []
  | x :: l => insN c x (sortN c l)
/-- The entries of a map, each with what it reads as. -/
theorem MapRows.zip {RK : Rep α} {RV : Rep β} {w : World} {m : List Nat} : ∀ {es : List MapEntry} {l : List (α × β)}, MapRows RK RV w m es l → ∃ L : List (MapEntry × (α × β)), L.map (·.1) = es ∧ L.map (·.2) = l ∧ ∀ q ∈ L, RK.val w m q.1.key q.2.1 ∧ RV.val w m q.1.val q.2.2
  | _, [], h => by have h : _ = [] := h; subst h; exact ⟨[], rfl, rfl, by intro q hq; cases hq⟩
  | _, p :: l, ⟨e, r, h1, h2, h3, h4⟩ => by
    obtain ⟨L, e1, e2, e3⟩ := MapRows.zip h4
    refine ⟨(e, p) :: L, by simp [e1, h1], by simp [e2], fun q hq => ?_⟩
    rcases List.mem_cons.1 hq with rfl | hq
    · exact ⟨h2, h3⟩
    · exact e3 q hq
theorem zip_fun {γ δ : Type} [Inhabited δ] (L : List (γ × δ)) (hn : (L.map (·.1)).Nodup) : ∃ f : γ → δ, (∀ q ∈ L, f q.1 = q.2) := by
  classical
  refine ⟨fun e => if h : ∃ d, (e, d) ∈ L then Classical.choose h else default, fun q hq => ?_⟩
  have hex : ∃ d, (q.1, d) ∈ L := ⟨q.2, hq⟩
  simp only [dif_pos hex]
  have hin := Classical.choose_spec hex
  revert hin
  generalize Classical.choose hex = d
  intro hin
  induction L with
  | nil => cases hq
  | cons x L ih =>
    rw [List.map_cons, List.nodup_cons] at hn
    rcases List.mem_cons.1 hq with h1 | h1 <;> rcases List.mem_cons.1 hin with h2 | h2
    · subst h1; rw [← h2]
    · subst h1; exact absurd (List.mem_map.2 ⟨_, h2, rfl⟩) hn.1
    · subst h2; exact absurd (List.mem_map.2 ⟨q, h1, rfl⟩) hn.1
    · exact ih hn.2 h1 ⟨q.2, h1⟩ h2
end Go.Cf
