/- A range over a map that is not written: the entries come, each once, in some order. -/
import Derived.Test.YtbcipfhhmkjigaaCfE
import Derived.Maps.RangeRun
import Derived.Sort.MapsRangeIn
import Derived.RangeFuncGives
set_option linter.unusedVariables false
set_option linter.unusedSimpArgs false
namespace Go.Cf
open Go Go.RowKit
variable {α β γ δ : Type}

structure Iter (w : World) (b r : Nat) (es : Array MapEntry) (c : Nat) (picked : List MapEntry) : Prop where
  map : w.heap[b]? = some (.map es c)
  it : ∃ since, w.heap[r]? = some (.mapIter (some b) since (picked.map (·.born)).toArray c) ∧ (∀ x ∈ es.toList, x.born < since) ∧ since ≤ c
  sub : ∀ e ∈ picked, e ∈ es.toList
  nd : (picked.map (·.born)).Nodup
  bnd : Born es.toList c
  ne : b ≠ r
theorem nodup_of_map {α β : Type} {f : α → β} {l : List α} (h : (l.map f).Nodup) : l.Nodup := by
  have := List.pairwise_map.1 h
  exact this.imp (fun h e => h (by rw [e]))
theorem Born.nodup {es : List MapEntry} {c : Nat} (h : Born es c) : (es.map (·.born)).Nodup := h.1.imp (fun h => Nat.ne_of_lt h)
theorem born_inj {es : List MapEntry} (h : (es.map (·.born)).Nodup) : ∀ e ∈ es, ∀ e' ∈ es, e.born = e'.born → e = e' := by
  induction es with
  | nil => intro e he; cases he
  | cons x es ih =>
    rw [List.map_cons, List.nodup_cons] at h
    intro e he e' he' heq
    rcases List.mem_cons.1 he with h1 | h1 <;> rcases List.mem_cons.1 he' with h2 | h2
    · rw [h1, h2]
    · exact absurd (List.mem_map.2 ⟨e', h2, by rw [← heq, h1]⟩) h.1
    · exact absurd (List.mem_map.2 ⟨e, h1, by rw [heq, h2]⟩) h.1
    · exact ih h.2 e h1 e' h2 heq
theorem Iter.done {w : World} {b r : Nat} {es : Array MapEntry} {c : Nat} {picked : List MapEntry} (h : Iter w b r es c picked) (h0 : (leftOf es (picked.map (·.born)).toArray).size = 0) : picked.Perm es.toList := by
  have hn1 : picked.Nodup := nodup_of_map h.nd
  have hn2 : es.toList.Nodup := nodup_of_map h.bnd.nodup
  refine (List.perm_ext_iff_of_nodup hn1 hn2).2 fun e => ⟨h.sub e, fun he => ?_⟩
  have hs : (picked.map (·.born)).toArray.contains e.born = true := by
    cases hc : (picked.map (·.born)).toArray.contains e.born with
    | true => rfl
    | false =>
      have : e ∈ leftOf es (picked.map (·.born)).toArray := by
        unfold leftOf
        rw [Array.mem_filter]
        exact ⟨Array.mem_toList_iff.1 he, by simp only [hc, Bool.not_false]⟩
      have hp := Array.size_pos_of_mem this
      omega
  have hm : e.born ∈ picked.map (·.born) := by simpa using hs
  obtain ⟨e', he', heq⟩ := List.mem_map.1 hm
  have := born_inj h.bnd.nodup e' (h.sub e' he') e he heq
  rwa [← this]
theorem Iter.next {P : Program} {w : World} {b r : Nat} {es : Array MapEntry} {c : Nat} {picked : List MapEntry} (h : Iter w b r es c picked) (ty : TypeId) :
    (picked.Perm es.toList ∧ (Instr.next (.pointer (some ⟨r, 0, none⟩)) false ty).run P w = .ok (.tuple #[.bool false]) w) ∨
    ∃ e w', e ∈ es.toList ∧ Iter w' b r es c (picked ++ [e]) ∧ w.grownBy w' (some r) ∧ w'.heap.size = w.heap.size ∧ (Instr.next (.pointer (some ⟨r, 0, none⟩)) false ty).run P w = .ok (.tuple #[.bool true, e.key, e.val]) w' ∧
      (Instr.entry (.pointer (some ⟨r, 0, none⟩))).run P w' = .ok (.tuple #[e.key, e.val]) w' := by
  obtain ⟨since, hr, hold, hsc⟩ := h.it
  rcases run_next_at (P := P) w ty r b since c _ es c hr h.map hold hsc with ⟨h0, hrun⟩ | ⟨e, he, w1, hal, hrun⟩
  · exact .inl ⟨h.done h0, hrun⟩
  · have hr1 : w1.heap[r]? = some (.mapIter (some b) since (picked.map (·.born)).toArray c) := by rcases hal with rfl | rfl <;> exact hr
    have hb1 : w1.heap[b]? = some (.map es c) := by rcases hal with rfl | rfl <;> exact h.map
    have hset := MapKept.heap_set (o' := .mapIter (some b) since ((picked.map (·.born)).toArray.push e.born) c) hr1
    have hb' : (ChangeMaps.setBlock w1 r (.mapIter (some b) since ((picked.map (·.born)).toArray.push e.born) c)).heap[b]? = some (.map es c) := (hset.2 b h.ne).trans hb1
    obtain ⟨hem, hes⟩ : e ∈ es.toList ∧ (picked.map (·.born)).toArray.contains e.born = false := by
      unfold leftOf at he
      rw [Array.mem_toList_iff, Array.mem_filter] at he
      exact ⟨Array.mem_toList_iff.2 he.1, by simpa using he.2⟩
    have hnot : e.born ∉ picked.map (·.born) := by
      intro hm
      have : (picked.map (·.born)).toArray.contains e.born = true := by simpa using hm
      rw [this] at hes; cases hes
    refine .inr ⟨e, _, hem, ⟨hb', ⟨since, ?_, hold, hsc⟩, ?_, ?_, h.bnd, h.ne⟩, ?_, ?_, hrun, run_entry_at _ r b since _ es c e hset.1 hb' hem h.bnd.nodup⟩
    · exact hset.1.trans (by simp)
    · intro x hx
      rcases List.mem_append.1 hx with hx | hx
      · exact h.sub x hx
      · simp at hx; subst hx; exact hem
    · rw [List.map_append, List.nodup_append]
      refine ⟨h.nd, by simp, fun x hx y hy => ?_⟩
      simp at hy
      subst hy
      intro e'; subst e'; exact hnot hx
    · rcases hal with rfl | rfl <;> exact ⟨rfl, rfl, rfl, by simp [ChangeMaps.setBlock], fun i _ hi => hset.2 i (fun e1 => hi (by rw [e1]))⟩
    · rcases hal with rfl | rfl <;> simp [ChangeMaps.setBlock]
section
variable {F : Fence} {n : Nat} {P : Program} (w : World) {ops : Array Oper} {rest : List Oper} {o : Oper} {a : Act} {Q : Exit → Act → World → Prop}
theorem wpListIn_next_iter (hg : o.guard = none) (it : Operand) (hop : o.op = Op.next it false) (b r : Nat) {es : Array MapEntry} {c : Nat} {picked : List MapEntry} (hit : a.eval it = .pointer (some ⟨r, 0, none⟩)) (h : Iter w b r es c picked)
    (hDone : picked.Perm es.toList → wpListIn F n P ops Q rest (a.put o.dst (.tuple #[.bool false])) w)
    (hMore : ∀ (e : MapEntry) (w' : World), e ∈ es.toList → Iter w' b r es c (picked ++ [e]) → w.grownBy w' (some r) → w'.heap.size = w.heap.size → (Instr.entry (.pointer (some ⟨r, 0, none⟩))).run P w' = .ok (.tuple #[e.key, e.val]) w' → wpListIn F n P ops Q rest (a.put o.dst (.tuple #[.bool true, e.key, e.val])) w') :
    wpListIn F n P ops Q (o :: rest) a w := by
  refine wpListIn_plain hg fun K' hK' => ?_
  unfold Oper.wpIn
  refine ⟨by simp [Oper.about, hop], ?_⟩
  rw [Oper.semAt_plain F _ _ (by rw [hop]; intro c hc'; cases hc')]
  rcases h.next (P := P) o.type with ⟨hp, hrun⟩ | ⟨e, w', he, hi, hgr, hsz, hrun, hen⟩
  · simp [execOp, hop, hit, hrun, Result.andThen]
    exact hK' _ _ (hDone hp)
  · simp [execOp, hop, hit, hrun, Result.andThen]
    exact hK' _ _ (hMore e w' he hi hgr hsz hen)
theorem wpListIn_range_iter (hg : o.guard = none) (m : Operand) (t : TypeId) (hop : o.op = Op.range t m) {k e : TypeId} (ht : P.underlying t = some (.map k e)) (b : Nat) {es : Array MapEntry} {c : Nat} (hm : a.eval m = .map (some b)) (hb : w.heap[b]? = some (.map es c)) (hB : Born es.toList c)
    (hK : ∀ w', Iter w' b w.heap.size es c [] → w.grownBy w' none → w'.heap.size = w.heap.size + 1 → wpListIn F n P ops Q rest (a.put o.dst (.pointer (some ⟨w.heap.size, 0, none⟩))) w') :
    wpListIn F n P ops Q (o :: rest) a w := by
  refine wpListIn_plain hg fun K' hK' => ?_
  unfold Oper.wpIn
  refine ⟨by simp [Oper.about, hop], ?_⟩
  rw [Oper.semAt_plain F _ _ (by rw [hop]; intro c hc'; cases hc')]
  have hg' := run_getObj_map (P := P) (w := w) b es c hb
  have hrun : (Instr.range t (.map (some b))).run P w = .ok (.pointer (some ⟨w.heap.size, 0, none⟩)) (w.alloc (.mapIter (some b) c #[] c)) := by
    simp [Instr.range, run_underlying ht, hg']
  simp [execOp, hop, hm, hrun, Result.andThen]
  refine hK' _ _ (hK _ ⟨?_, ⟨c, ?_, hB.2, Nat.le_refl _⟩, by simp, by simp, hB, ?_⟩ (World.grownBy_alloc _ _ none) (by simp))
  · exact (Below.heap_alloc _ _ b (lt_of_get hb)).trans hb
  · exact alloc_new _ _
  · have := lt_of_get hb; omega
end
/-- A frame written out, as a symbolic state. -/
theorem okst_frame {P : Program} {w : World} (l : List Value) (fs : List Fact) (hf : ∀ f ∈ fs, f.p w []) : OKst ⟨P, w, l.length, [], [], fun _ => True, true⟩ (frame0 0 l) fs [] ⟨l.toArray, []⟩ w where
  defers := rfl
  size := by simp
  env := fun d v hv => by
    obtain ⟨_, h2⟩ := frame0_lk l 0 d v hv
    simpa using h2
  below := Past.refl _ _ _
  m0 := by intro b hb; cases hb
  facts := fun f hm => by simpa [Blocks] using hf f hm
  own := by intro o ho; cases ho
  nodup := by intro i j o o' b hi; simp at hi
  range := by intro b hb; cases hb
theorem Iter.same {w w' : World} {b r : Nat} {es : Array MapEntry} {c : Nat} {picked : List MapEntry} (h : Iter w b r es c picked) (hb : w'.heap[b]? = w.heap[b]?) (hr : w'.heap[r]? = w.heap[r]?) : Iter w' b r es c picked :=
  { h with map := hb.trans h.map, it := by obtain ⟨s, h1, h2⟩ := h.it; exact ⟨s, hr.trans h1, h2⟩ }
theorem Iter.entry {P : Program} {w : World} {b r : Nat} {es : Array MapEntry} {c : Nat} {picked : List MapEntry} {e : MapEntry} (h : Iter w b r es c (picked ++ [e])) : (Instr.entry (.pointer (some ⟨r, 0, none⟩))).run P w = .ok (.tuple #[e.key, e.val]) w := by
  obtain ⟨since, hr, _⟩ := h.it
  have e1 : ((picked ++ [e]).map (·.born)).toArray = (picked.map (·.born)).toArray.push e.born := by simp
  rw [e1] at hr
  exact run_entry_at w r b since _ es c e hr h.map (h.sub e (by simp)) h.bnd.nodup
theorem d_entry {C : Cx} {XI : List Nat} {E : List (Nat × Value)} {Fs : List Fact} {M : List Own} {d : Nat} {K : Cont} {x : Operand} {b r : Nat} {es : Array MapEntry} {c : Nat} {picked : List MapEntry} {e : MapEntry} (hi : Iter C.w0 b r es c (picked ++ [e])) (hkp : ∀ k, C.kp k) (hx : ev E x = some (.pointer (some ⟨r, 0, none⟩)))
    (h : K ((d, .tuple #[e.key, e.val]) :: E) Fs M) : DOp C XI E Fs M (.entry x) d K :=
  DOp.mem (fun u => u = .tuple #[e.key, e.val]) (fun _ => []) (fun a w hs => by
    refine ⟨_, rfl, by (intro f hf; cases hf), fun w' hw o ho => ?_⟩
    cases o; subst ho
    have hsame : ∀ k, k < C.w0.heap.size → w'.heap[k]? = C.w0.heap[k]? := fun k hk => by
      rw [hw.2 k (Nat.lt_of_lt_of_le hk hs.below.size) (fun hm => (hs.range k (mem_Xs hm)).1.2 hk (hkp k))]
      exact hs.below.block k hk (hkp k)
    obtain ⟨since, hr, _⟩ := hi.it
    have := (hi.same (hsame b (lt_of_get hi.map)) (hsame r (lt_of_get hr))).entry (P := C.P)
    simp [execOp, hs.ev hx, this]) (fun u hu => by subst hu; exact h)
/-- The frame as it is, in whatever world. -/
theorem OKst.restart {C : Cx} {E : List (Nat × Value)} {Fs : List Fact} {M : List Own} {a : Act} {w : World} (hs : OKst C E Fs M a w) (w' : World) : OKst ⟨C.P, w', C.n, [], C.dfr, fun _ => True, C.dr⟩ E [] [] a w' where
  defers := hs.defers
  size := hs.size
  env := hs.env
  below := Past.refl _ _ _
  m0 := by intro b hb; cases hb
  facts := by intro f hf; cases hf
  own := by intro o ho; cases ho
  nodup := by intro i j o o' b hi; simp at hi
  range := by intro b hb; cases hb
theorem act14 {a : Act} (hd : a.defers = []) (hs : a.tmps.size = 14) : ∃ x0 x1 x2 x3 x4 x5 x6 x7 x8 x9 x10 x11 x12 x13, a = { tmps := #[x0, x1, x2, x3, x4, x5, x6, x7, x8, x9, x10, x11, x12, x13], defers := [] } := by
  obtain ⟨⟨tl⟩, df⟩ := a
  have hd : df = [] := hd
  subst hd
  have hs : tl.length = 14 := hs
  match tl, hs with
  | [x0, x1, x2, x3, x4, x5, x6, x7, x8, x9, x10, x11, x12, x13], _ => exact ⟨x0, x1, x2, x3, x4, x5, x6, x7, x8, x9, x10, x11, x12, x13, rfl⟩
theorem Past.grown {w w' : World} {kp : Nat → Prop} {dr : Bool} (h : Past w kp dr w') (hk : ∀ k, kp k) : w.grownBy w' none := ⟨h.os, h.tape, h.output, h.size, fun k hl _ => h.block k hl (hk k)⟩
theorem Iter.past {w w' : World} {b r : Nat} {es : Array MapEntry} {c : Nat} {picked : List MapEntry} (h : Iter w b r es c picked) {kp : Nat → Prop} {dr : Bool} (g : Past w kp dr w') (hk : ∀ k, kp k) : Iter w' b r es c picked := by
  obtain ⟨since, hr, _⟩ := h.it
  exact h.same (g.block b (lt_of_get h.map) (hk b)) (g.block r (lt_of_get hr) (hk r))
theorem Iter.walks {w w' : World} {b r : Nat} {es : Array MapEntry} {c : Nat} {picked : List MapEntry} (h : Iter w b r es c picked) (g : KeepsWalks w w') : Iter w' b r es c picked := by
  obtain ⟨since, hr, _⟩ := h.it
  exact h.same ((g.same b _ h.map rfl).trans h.map.symm) ((g.same r _ hr rfl).trans hr.symm)
theorem nodup_len : ∀ (l m : List Nat), l.Nodup → (∀ x ∈ l, x ∈ m) → l.length ≤ m.length
  | [], _, _, _ => Nat.zero_le _
  | x :: l, m, h, hs => by
    rw [List.nodup_cons] at h
    have hx := hs x (by simp)
    have := nodup_len l (m.erase x) h.2 (fun y hy => (List.mem_erase_of_ne (fun e => h.1 (by rw [← e]; exact hy))).2 (hs y (by simp [hy])))
    rw [List.length_erase_of_mem hx] at this
    have hpos := List.length_pos_of_mem hx
    simp only [List.length_cons]
    omega
theorem Iter.len {w : World} {b r : Nat} {es : Array MapEntry} {c : Nat} {picked : List MapEntry} (h : Iter w b r es c picked) : picked.length ≤ es.size := by
  have := nodup_len (picked.map (·.born)) (es.toList.map (·.born)) h.nd (fun x hx => by
    obtain ⟨e, he, rfl⟩ := List.mem_map.1 hx
    exact List.mem_map.2 ⟨e, h.sub e he, rfl⟩)
  simpa using this
/-- How many entries are still to come. -/
def leftN (b r : Nat) (n : Nat) (w : World) : Nat := match w.heap[r]? with | some (.mapIter _ _ seen _) => n - seen.size | _ => 0
theorem Iter.leftN {w : World} {b r : Nat} {es : Array MapEntry} {c : Nat} {picked : List MapEntry} (h : Iter w b r es c picked) (n : Nat) : Cf.leftN b r n w = n - picked.length := by
  obtain ⟨since, hr, _⟩ := h.it
  unfold Cf.leftN
  rw [hr]
  simp
theorem id_val {w w' : World} {m m' : List Nat} {n : Nat} {v u : Value} {l : List Int} (h1 : (rArr n (rInt .u8)).val w m v l) (h2 : (rArr n (rInt .u8)).val w' m' u l) : v = u := by
  obtain ⟨c1, ⟨_, r1⟩, rfl⟩ := h1
  obtain ⟨c2, ⟨_, r2⟩, rfl⟩ := h2
  rw [(rows_bytes r1).1, (rows_bytes r2).1]
end Go.Cf
