/- Calls that write blocks of their caller: methods of pointers. -/
import Derived.Test.YtbcipfhhmkjigaaCfO
set_option linter.unusedVariables false
set_option linter.unusedSimpArgs false
namespace Go.Cf
open Go Go.RowKit
variable {α β γ δ : Type}

/-- Blocks that are one's own, whole. -/
structure Whole (w : World) (m : List Nat) (M : List Own) : Prop where
  own : ∀ o ∈ M, o.holds w (m ++ Blocks M)
  apart : Apart M
  range : ∀ b ∈ Blocks M, b ∉ m ∧ b < w.heap.size
/-- What a call of function f comes to that may write the blocks Min: an answer, and the blocks N in their place; fs of what is handed back. -/
def FnM (dr : Bool) (P : Program) (f : FuncId) (args : List Value) (Min : List Own) (Fin : List Fact) (post : Value → List Own → List Fact → Prop) : Prop :=
  ∀ w m, (∀ b ∈ m, b < w.heap.size) → Whole w m Min → (∀ f ∈ Fin, f.p w (m ++ Blocks Min)) → Calls P f args.toArray w (fun e w' => ∃ v N fs, e = .returned v ∧ Past w (fun b => b ∉ Blocks Min) dr w' ∧ Whole w' m N ∧ (∀ b ∈ Blocks N, b ∈ Blocks Min ∨ w.heap.size ≤ b) ∧ (∀ f ∈ fs, f.p w' (m ++ Blocks N)) ∧ post v N fs)
theorem FnM.weak {P : Program} {f : FuncId} {args : List Value} {Min : List Own} {Fin : List Fact} {post : Value → List Own → List Fact → Prop} (h : FnM true P f args Min Fin post) : FnM false P f args Min Fin post := fun w m hm hW hp =>
  (h w m hm hW hp).mono fun _ _ ⟨v, N, fs, h1, h2, h3⟩ => ⟨v, N, fs, h1, ⟨h2.os, h2.tape, h2.output, h2.size, (fun e => nomatch e), h2.block⟩, h3⟩
theorem FnM.dr {dr : Bool} {P : Program} {f : FuncId} {args : List Value} {Min : List Own} {Fin : List Fact} {post : Value → List Own → List Fact → Prop} (h : FnM dr P f args Min Fin post) : FnM false P f args Min Fin post := by
  cases dr with
  | true => exact h.weak
  | false => exact h

theorem blocks_append {A B : List Own} : Blocks (A ++ B) = Blocks A ++ Blocks B := by simp [Blocks, List.filterMap_append]
theorem apart_append {A B : List Own} (h : Apart (A ++ B)) : Apart A ∧ Apart B ∧ ∀ b, b ∈ Blocks A → b ∉ Blocks B := by
  have hA : ∀ {i : Nat} {o : Own}, A[i]? = some o → (A ++ B)[i]? = some o := fun {i o} hi => by
    rw [List.getElem?_append_left (List.getElem?_eq_some_iff.1 hi).1]; exact hi
  have hB : ∀ {i : Nat} {o : Own}, B[i]? = some o → (A ++ B)[A.length + i]? = some o := fun {i o} hi => by
    rw [List.getElem?_append_right (by omega)]; simpa using hi
  refine ⟨fun i j o o' b hi hj => h i j o o' b (hA hi) (hA hj), fun i j o o' b hi hj h1 h2 => ?_, fun b h1 h2 => ?_⟩
  · have := h _ _ o o' b (hB hi) (hB hj) h1 h2
    omega
  · obtain ⟨i, o, hi, ho⟩ := blocks_mem.1 h1
    obtain ⟨j, o', hj, ho'⟩ := blocks_mem.1 h2
    have := h _ _ o o' b (hA hi) (hB hj) ho ho'
    have := (List.getElem?_eq_some_iff.1 hi).1
    omega
theorem apart_of {A B : List Own} (h1 : Apart A) (h2 : Apart B) (h3 : ∀ b, b ∈ Blocks A → b ∉ Blocks B) : Apart (A ++ B) := by
  intro i j o o' b hi hj ho ho'
  rw [List.getElem?_append] at hi hj
  split at hi <;> split at hj
  · exact h1 i j o o' b hi hj ho ho'
  · exact absurd (blocks_mem.2 ⟨_, _, hj, ho'⟩) (h3 b (blocks_mem.2 ⟨_, _, hi, ho⟩))
  · exact absurd (blocks_mem.2 ⟨_, _, hi, ho⟩) (h3 b (blocks_mem.2 ⟨_, _, hj, ho'⟩))
  · have := h2 _ _ o o' b hi hj ho ho'
    omega

/-- A function that may write blocks of its caller, by its body. -/
theorem fn_ofN {dr : Bool} {P : Program} {f : FuncId} {fn : Func} {c : Code} {args : List Value} {Min : List Own} {Fin : List Fact} {post : Value → List Own → List Fact → Prop} (hf : P.funcs[f]? = some fn) (hb : fn.body = some c) (hn : args.length ≤ fn.ntmps)
    (h : ∀ w0 m0 (R : Ending → World → Prop), (∀ v w N fs, Past w0 (fun b => b ∉ Blocks Min) dr w → Whole w m0 N → (∀ b ∈ Blocks N, b ∈ Blocks Min ∨ w0.heap.size ≤ b) → (∀ f ∈ fs, f.p w (m0 ++ Blocks N)) → post v N fs → R (.returned v) w) → T ⟨P, w0, fn.ntmps, m0, [], fun b => b ∉ Blocks Min, dr⟩ (frame0 0 args) Fin Min c (bodyPost P fn R)) : FnM dr P f args Min Fin post := by
  intro w m hm hW hpre
  refine calls_of_wp hf hb (h w m _ (fun v w' N fs h1 h2 h3 h4 h5 => ⟨v, N, fs, rfl, h1, h2, h3, h4, h5⟩) _ _ ?_)
  refine ⟨rfl, ?_, ?_, Past.refl _ _ _, hm, hpre, hW.own, hW.apart, fun b hb => ⟨⟨(hW.range b hb).1, fun _ hk => hk hb⟩, (hW.range b hb).2⟩⟩
  · simp; omega
  · intro d v hv
    obtain ⟨_, h2⟩ := frame0_lk args 0 d v hv
    have hlt : d < args.length := by
      rcases Nat.lt_or_ge d args.length with h | h
      · exact h
      · simp [List.getElem?_eq_none h] at h2
    simp only [Nat.sub_zero] at h2
    rw [Array.getElem?_append_left (by simpa using hlt)]
    simpa using h2
/-- Facts that hold wherever those of F do. -/
def HasFs (C : Cx) (F : List Fact) (fs : List Fact) : Prop := ∀ E M a w, OKst C E F M a w → ∀ f ∈ fs, f.p w (C.m0 ++ Blocks M)
theorem HasFs.nil {C : Cx} {F : List Fact} : HasFs C F [] := fun _ _ _ _ _ f hf => by cases hf
theorem HasFs.cons {C : Cx} {F fs : List Fact} {R : Rep α} {v : Value} {x : α} (h : HasV C F R v x) (h2 : HasFs C F fs) : HasFs C F (R.fact v x :: fs) := fun E M a w hs f hf => by
  cases hf with
  | head => exact h E M a w hs
  | tail _ hf => exact h2 E M a w hs f hf
section
variable {C : Cx} {XI : List Nat} {E : List (Nat × Value)} {F : List Fact} {M : List Own} {d : Nat} {K : Cont} {Q : Exit → Act → World → Prop} {ops : Array Oper}
/-- The blocks, some of them, in an order of one's own. -/
theorem tl_sel {os : List Oper} (M' : List Own) (is : List Nat) (hM : Sel M is M') (hn : ndp is = true) (h : TL C ops E F M' os Q) : TL C ops E F M os Q := fun a w hs => h a w (sel_st hs hM hn)
theorem t_sel {c : Code} (M' : List Own) (is : List Nat) (hM : Sel M is M') (hn : ndp is = true) (h : T C E F M' c Q) : T C E F M c Q := fun a w hs => h a w (sel_st hs hM hn)
theorem q_sel {J : Act → World → Prop} (M' : List Own) (is : List Nat) (hM : Sel M is M') (hn : ndp is = true) (h : QT C E F M' J) : QT C E F M J := fun a w hs => h a w (sel_st hs hM hn)
/-- A way that returns, of a function that may write its caller's blocks. -/
theorem q_retN {dr : Bool} {P : Program} {fn : Func} {R : Ending → World → Prop} {w0 : World} {m0 : List Nat} {Min : List Own} {post : Value → List Own → List Fact → Prop} (hR : ∀ v w N fs, Past w0 (fun b => b ∉ Blocks Min) dr w → Whole w m0 N → (∀ b ∈ Blocks N, b ∈ Blocks Min ∨ w0.heap.size ≤ b) → (∀ f ∈ fs, f.p w (m0 ++ Blocks N)) → post v N fs → R (.returned v) w) (e : Exit) (he : e = .ret ∨ e = .normal)
    (N : List Own) (fs : List Fact) (is : List Nat) (hM : Sel M is N) (hn : ndp is = true) (hfs : HasFs ⟨P, w0, fn.ntmps, m0, [], fun b => b ∉ Blocks Min, dr⟩ F fs) (v : Value) (hv : ∀ a w, OKst ⟨P, w0, fn.ntmps, m0, [], fun b => b ∉ Blocks Min, dr⟩ E F M a w → (results fn a.tmps).run P w = .ok v w) (hp : post v N fs) :
    QT ⟨P, w0, fn.ntmps, m0, [], fun b => b ∉ Blocks Min, dr⟩ E F M (bodyPost P fn R e) := fun a w hs => by
  have h1 := sel_st hs hM hn
  have h2 : R (.returned v) w := hR v w N fs h1.below ⟨h1.own, h1.nodup, fun b hb => ⟨(h1.range b hb).1.1, (h1.range b hb).2⟩⟩ (fun b hb => by
    by_cases hlt : b < w0.heap.size
    · exact .inl (Classical.byContradiction fun hk => (h1.range b hb).1.2 hlt hk)
    · exact .inr (Nat.le_of_not_lt hlt)) (hfs E N a w h1) hp
  rcases he with rfl | rfl
  · exact bodyPost_ret (hv a w hs) hs.defers h2
  · exact bodyPost_end (hv a w hs) hs.defers h2
/-- Any operation, by what holds behind it; nothing is asked of the blocks. -/
def GOp1 (C : Cx) (E : List (Nat × Value)) (F : List Fact) (M : List Own) (o : Oper) (K : Cont) : Prop :=
  ∀ a w, OKst C E F M a w → ∀ (J : Act → World → Prop) (Q : Exit → Act → World → Prop),
    (∀ (E' : List (Nat × Value)) (F' : List Fact) (M' : List Own) (a' : Act) (w' : World), K E' F' M' → OKst C E' F' M' a' w' → J a' w') → o.wp C.P a w J Q
theorem tl_g1 {o : Oper} {rest : List Oper} (hg : o.guard = none) (h : GOp1 C E F M o (fun E' F' M' => TL C ops E' F' M' rest Q)) : TL C ops E F M (o :: rest) Q :=
  fun a w hs => wpList_plain hg fun J hJ => h a w hs J Q fun E' F' M' a' w' hk hs' => hJ a' w' (hk a' w' hs')
theorem tl_gg1 {o : Oper} {rest : List Oper} (hg : GdOn ops E o.guard) (h : GOp1 C E F M o (fun E' F' M' => TL C ops E' F' M' rest Q)) : TL C ops E F M (o :: rest) Q := fun a w hs => by
  unfold wpList
  rw [if_pos (hg.wanted hs)]
  exact .inl (h a w hs _ Q fun E' F' M' a' w' hk hs' => hk a' w' hs')
/-- A call that may write the first of the blocks. -/
theorem g_callM {f : FuncId} {xs : List Operand} {ats : Array TypeId} {vs : List Value} {Min B : List Own} {Fin : List Fact} {post : Value → List Own → List Fact → Prop} {ty : TypeId} {pos : String} {after : Array Edge} {gd : Option (Nat × Bool)} (hn : Nat.blt d C.n = true) (hfn : HasFn C.P f) (hc : FnM C.dr C.P f vs Min Fin post) (he : Evs E xs vs)
    (hpre : HasFs C F Fin) (k : ∀ v N fs, post v N fs → K ((d, v) :: E) (fs ++ F) (N ++ B)) :
    GOp1 C E F (Min ++ B) { dst := some d, op := .call { callee := .value (.func f), args := xs.toArray, argTypes := ats }, type := ty, pos, after, guard := gd } K := by
  intro a w hs J Q hJ
  obtain ⟨fn, h1, h2, bd, h3⟩ := hfn
  have hr : (execOp a.eval { dst := some d, op := .call { callee := .value (.func f), args := xs.toArray, argTypes := ats }, type := ty, pos, after, guard := gd }).run C.P w = .ok (.enter f vs.toArray) w := by
    rw [execOp_call_go]
    have : #[] ++ xs.toArray.map a.eval ++ #[] = vs.toArray := by simp [← he.map hs]
    rw [this]
    simp [callFunc, h1, h2, h3]
  unfold Oper.wp
  rw [hr]
  simp only [Oper.upon]
  obtain ⟨aA, aB, aD⟩ := apart_append hs.nodup
  have mA : ∀ b, b ∈ Blocks Min → b ∈ Blocks (Min ++ B) := fun b hb => by rw [blocks_append]; exact List.mem_append_left _ hb
  have mB : ∀ b, b ∈ Blocks B → b ∈ Blocks (Min ++ B) := fun b hb => by rw [blocks_append]; exact List.mem_append_right _ hb
  have e1 : ∀ b, b ∈ C.m0 ++ Blocks B ++ Blocks Min ↔ b ∈ C.m0 ++ Blocks (Min ++ B) := fun b => by
    rw [blocks_append]; simp only [List.mem_append]
    constructor
    · rintro ((h | h) | h) <;> simp [h]
    · rintro (h | h | h) <;> simp [h]
  have hW : Whole w (C.m0 ++ Blocks B) Min := by
    refine ⟨fun o ho => o.keep w _ w _ (Grows.less fun b hb => (e1 b).1 hb) (fun _ _ => rfl) (hs.own o (List.mem_append_left _ ho)), aA, fun b hb => ⟨fun h => ?_, (hs.range b (mA b hb)).2⟩⟩
    rcases List.mem_append.1 h with h | h
    · exact (hs.range b (mA b hb)).1.1 h
    · exact aD b hb h
  refine (hc w (C.m0 ++ Blocks B) (fun b hb => ?_) hW (fun f hf => f.mono _ _ _ _ (Grows.less fun b hb => (e1 b).1 hb) (hpre _ _ a w hs f hf))).mono ?_
  · rcases List.mem_append.1 hb with hb | hb
    · exact Nat.lt_of_lt_of_le (hs.m0 b hb) hs.below.size
    · exact (hs.range b (mB b hb)).2
  · rintro e w' ⟨v, N, fs, rfl, hp, hN, hNb, hfs, hpost⟩
    obtain ⟨p1, p2, p3⟩ := put_env (C := C) hn v a hs.env hs.size
    have e2 : ∀ b, b ∈ C.m0 ++ Blocks (N ++ B) ↔ b ∈ C.m0 ++ Blocks B ++ Blocks N := fun b => by
      rw [blocks_append]; simp only [List.mem_append]
      constructor
      · rintro (h | h | h) <;> simp [h]
      · rintro ((h | h) | h) <;> simp [h]
    have hg : Grows w (C.m0 ++ Blocks (Min ++ B)) w' (C.m0 ++ Blocks (N ++ B)) := by
      refine ⟨hp.size, fun b hb hnm => hp.block b hb fun h => hnm (List.mem_append_right _ (mA b h)), fun b hb hnm h => ?_⟩
      rcases List.mem_append.1 ((e2 b).1 h) with h | h
      · rcases List.mem_append.1 h with h | h
        · exact hnm (List.mem_append_left _ h)
        · exact hnm (List.mem_append_right _ (mB b h))
      · rcases hNb b h with h | h
        · exact hnm (List.mem_append_right _ (mA b h))
        · omega
    refine hJ _ _ _ _ _ (k v N fs hpost) ⟨p3.trans hs.defers, p2, p1, ?_, hs.m0, fun f hf => ?_, fun o ho => ?_, ?_, fun b hb => ?_⟩
    · exact ⟨hp.os.trans hs.below.os, hp.tape.trans hs.below.tape, hp.output.trans hs.below.output, Nat.le_trans hs.below.size hp.size, fun e => Nat.le_trans (hs.below.drawn e) (hp.drawn e),
        fun b hb hk => (hp.block b (Nat.lt_of_lt_of_le hb hs.below.size) fun h => (hs.range b (mA b h)).1.2 hb hk).trans (hs.below.block b hb hk)⟩
    · rcases List.mem_append.1 hf with hf | hf
      · exact f.mono _ _ _ _ (Grows.less fun b hb => (e2 b).1 hb) (hfs f hf)
      · exact f.mono _ _ _ _ hg (hs.facts f hf)
    · rcases List.mem_append.1 ho with ho | ho
      · exact o.keep w' _ w' _ (Grows.less fun b hb => (e2 b).1 hb) (fun _ _ => rfl) (hN.own o ho)
      · refine o.keep _ _ _ _ hg (fun b hb => ?_) (hs.own o (List.mem_append_right _ ho))
        obtain ⟨i, hi⟩ := List.mem_iff_getElem?.1 ho
        have hbB : b ∈ Blocks B := blocks_mem.2 ⟨i, o, hi, hb⟩
        exact hp.block b (hs.range b (mB b hbB)).2 fun h => aD b h hbB
    · exact apart_of hN.apart aB fun b h1 h2 => (hN.range b h1).1 (List.mem_append_right _ h2)
    · rw [blocks_append] at hb
      rcases List.mem_append.1 hb with hb | hb
      · refine ⟨⟨fun h => (hN.range b hb).1 (List.mem_append_left _ h), fun hlt hk => ?_⟩, (hN.range b hb).2⟩
        rcases hNb b hb with h | h
        · exact (hs.range b (mA b h)).1.2 hlt hk
        · have := hs.below.size; omega
      · exact ⟨(hs.range b (mB b hb)).1, Nat.lt_of_lt_of_le (hs.range b (mB b hb)).2 hp.size⟩
end
end Go.Cf
