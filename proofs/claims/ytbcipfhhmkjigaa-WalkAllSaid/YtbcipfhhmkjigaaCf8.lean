/- Guards; regions in any order; loops; the frame of a function. -/
import Derived.Test.YtbcipfhhmkjigaaCf7
import Derived.StillTail
set_option linter.unusedVariables false
set_option linter.unusedSimpArgs false
namespace Go.Cf
open Go Go.RowKit
variable {α β γ δ : Type}

/-! ### Guards -/
section
variable {C : Cx} {XI : List Nat} {E : List (Nat × Value)} {F : List Fact} {M : List Own} {d : Nat} {K : Cont} {Q : Exit → Act → World → Prop} {ops : Array Oper}
/-- The operation's guard says yes (or there is none). -/
def GdOn (ops : Array Oper) (E : List (Nat × Value)) (g : Option (Nat × Bool)) : Prop := g = none ∨ ∃ j b oj dj t, g = some (j, b) ∧ ops[j]? = some oj ∧ oj.dst = some dj ∧ lk E dj = some (.bool t) ∧ t = b
/-- It says no. -/
def GdOff (ops : Array Oper) (E : List (Nat × Value)) (g : Option (Nat × Bool)) : Prop := ∃ j b oj dj, g = some (j, b) ∧ ops[j]? = some oj ∧ oj.dst = some dj ∧ (lk E dj = some undef ∨ lk E dj = some (.bool (!b)))
theorem gd_none : GdOn ops E none := .inl rfl
theorem gd_on {j : Nat} {b t : Bool} {oj : Oper} {dj : Nat} (h1 : ops[j]? = some oj) (h2 : oj.dst = some dj) (h3 : lk E dj = some (.bool t)) (h4 : t = b) : GdOn ops E (some (j, b)) := .inr ⟨j, b, oj, dj, t, rfl, h1, h2, h3, h4⟩
theorem gd_off {j : Nat} {b t : Bool} {oj : Oper} {dj : Nat} (h1 : ops[j]? = some oj) (h2 : oj.dst = some dj) (h3 : lk E dj = some (.bool t)) (h4 : t = !b) : GdOff ops E (some (j, b)) := ⟨j, b, oj, dj, rfl, h1, h2, .inr (h4 ▸ h3)⟩
/-- The guard itself did not come up. -/
theorem gd_offu {j : Nat} {b : Bool} {oj : Oper} {dj : Nat} (h1 : ops[j]? = some oj) (h2 : oj.dst = some dj) (h3 : lk E dj = some undef) : GdOff ops E (some (j, b)) := ⟨j, b, oj, dj, rfl, h1, h2, .inl h3⟩
theorem GdOn.wanted {a : Act} {w : World} (hs : OKst C E F M a w) {o : Oper} (h : GdOn ops E o.guard) : Region.wanted o (yielded ops a.tmps) = true := by
  rcases h with h | ⟨j, b, oj, dj, t, h, h1, h2, h3, h4⟩
  · simp [Region.wanted, h]
  · have := hs.env dj _ h3
    subst h4
    simp [Region.wanted, h, yielded, h1, h2, Array.getD_eq_getD_getElem?, this]
theorem GdOff.wanted {a : Act} {w : World} (hs : OKst C E F M a w) {o : Oper} (h : GdOff ops E o.guard) : Region.wanted o (yielded ops a.tmps) = false := by
  obtain ⟨j, b, oj, dj, h, h1, h2, h3⟩ := h
  rcases h3 with h3 | h3
  · have := hs.env dj _ h3
    cases b <;> simp [Region.wanted, h, yielded, h1, h2, this, undef]
  · have := hs.env dj _ h3
    cases b <;> simp [Region.wanted, h, yielded, h1, h2, this]

theorem tl_gg {o : Oper} {rest : List Oper} (XI : List Nat) (hg : GdOn ops E o.guard) (h : GOp C XI E F M o (fun E' F' M' => TL C ops E' F' M' rest Q)) : TL C ops E F M (o :: rest) Q := fun a w hs => by
  unfold wpList
  rw [if_pos (hg.wanted hs)]
  exact .inl (h a w hs _ Q fun E' F' M' a' w' hk hs' _ _ => hk a' w' hs')
theorem tl_dg {op : Op} {d : Nat} {ty : TypeId} {pos : String} {after : Array Edge} {g : Option (Nat × Bool)} {rest : List Oper} (hg : GdOn ops E g) (hn : Nat.blt d C.n = true) (h : DOp C [] E F M op d (fun E' F' M' => TL C ops E' F' M' rest Q)) :
    TL C ops E F M ({ dst := some d, op, type := ty, pos, after, guard := g } :: rest) Q :=
  tl_gg [] hg (DOp.gop (o := { dst := some d, op, type := ty, pos, after, guard := g }) rfl hn h)
theorem tl_off {o : Oper} {d : Nat} {rest : List Oper} (hg : GdOff ops E o.guard) (hd : o.dst = some d) (hn : Nat.blt d C.n = true) (h : TL C ops ((d, undef) :: E) F M rest Q) : TL C ops E F M (o :: rest) Q := fun a w hs => by
  unfold wpList
  rw [if_neg (by rw [hg.wanted hs]; simp), hd]
  exact h _ _ (hs.put (Nat.blt_eq.mp hn) undef (fs := []) (by intro f hf; cases hf))
theorem tl_off0 {o : Oper} {rest : List Oper} (hg : GdOff ops E o.guard) (hd : o.dst = none) (h : TL C ops E F M rest Q) : TL C ops E F M (o :: rest) Q := fun a w hs => by
  unfold wpList
  rw [if_neg (by rw [hg.wanted hs]; simp), hd]
  exact h _ _ hs
end

/-! ### A region in any order; the operation 'n' (if there is one) waits for all others -/
section
variable {P : Program} {ops : Array Oper} {Q : Exit → Act → World → Prop} {md : Region.Mode} {S : World → Prop} {n : Nat}
def wpAnyS (P : Program) (md : Region.Mode) (ops : Array Oper) (Q : Exit → Act → World → Prop) (S : World → Prop) (n : Nat) : Nat → Array Bool → Act → World → Prop
  | 0, listed, a, w => Region.ready md ops listed = [] ∧ Q .normal a w
  | fuel + 1, listed, a, w =>
    (Region.ready md ops listed = [] → Q .normal a w) ∧
    ∀ i ∈ Region.ready md ops listed, wpOp P ops Q i (fun a' w' => (i ≠ n → S w') ∧ wpAnyS P md ops Q S n fuel (listed.setIfInBounds i true) a' w') a w
theorem wpAny_of_S : ∀ (fuel : Nat) (listed : Array Bool) (a : Act) (w : World), wpAnyS P md ops Q S n fuel listed a w → wpAny P md ops Q fuel listed a w
  | 0, _, _, _, h => h
  | fuel + 1, _, _, _, h => ⟨h.1, fun i hi => wpOp_mono (fun a' w' h' => wpAny_of_S fuel _ a' w' h'.2) (h.2 i hi)⟩
theorem wpAnyS_mono {S' : World → Prop} (hS : ∀ w, S w → S' w) : ∀ (fuel : Nat) (listed : Array Bool) (a : Act) (w : World), wpAnyS P md ops Q S n fuel listed a w → wpAnyS P md ops Q S' n fuel listed a w
  | 0, _, _, _, h => h
  | fuel + 1, _, _, _, h => ⟨h.1, fun i hi => wpOp_mono (fun a' w' h' => ⟨fun hn => hS _ (h'.1 hn), wpAnyS_mono hS fuel _ a' w' h'.2⟩) (h.2 i hi)⟩

/-- Either no operation is the last of all, or it is 'n'. -/
def SinkOk (md : Region.Mode) (ops : Array Oper) (n : Nat) : Prop := n = ops.size ∨ (n + 1 = ops.size ∧ Region.sinkB md ops n = true)
theorem chain_last {md : Region.Mode} {ops : Array Oper} {n : Nat} (h : n + 1 = ops.size) : Region.chainB md ops n = true := by
  unfold Region.chainB
  rw [List.all_eq_true]
  intro t ht
  have := List.mem_range.1 ht
  simp only [Bool.or_eq_true, decide_eq_true_eq]
  exact .inl (by omega)
theorem sink_waits {listed : Array Bool} (hs : SinkOk md ops n) (inv : HeadInv md ops n listed) {i : Nat} (hin : i < n) (hun : listed.getD i true = false) {j : Nat} (hj : j ∈ Region.ready md ops listed) : j < n := by
  obtain ⟨_, oj, hoj, _⟩ := mem_ready.1 hj
  have hlt : j < ops.size := (Array.getElem?_eq_some_iff.1 hoj).1
  rcases hs with rfl | ⟨h1, h2⟩
  · exact hlt
  · rcases Nat.lt_or_ge j n with h | h
    · exact h
    · exact absurd hj (tail_waits h2 (chain_last h1) (by omega) inv _ i rfl hin hun j h)

theorem wpAnyS_first {i : Nat} {oi : Oper} {v : Value} (hi : ops[i]? = some oi) (hsel : ∀ (j : Nat) (o : Oper) cs b, ops[j]? = some o → o.op ≠ .select cs b) (hsink : SinkOk md ops n) (hin : i < n)
    (hQ : ∀ c a w, Q (.panic c) (a.put oi.dst v) w → Q (.panic c) a w) :
    ∀ (fuel : Nat) (listed : Array Bool) (a : Act) (w : World), HeadInv md ops n listed →
      (∀ j oj, ops[j]? = some oj → j ≠ i → listed.getD j true = false → (∀ e ∈ oj.after, Region.binds md e = true → e.on ≠ i) → oi.apart ops oj = true) →
      i ∈ Region.ready md ops listed → YieldsIf P ops S oi v a → S w →
      wpAnyS P md ops Q S n fuel (listed.setIfInBounds i true) (a.put oi.dst v) w → wpAnyS P md ops Q S n (fuel + 1) listed a w := by
  intro fuel
  induction fuel with
  | zero =>
    intro listed a w _ _ hr hy hS H
    refine ⟨fun h => (by rw [h] at hr; cases hr), fun j hj => ?_⟩
    by_cases hji : j = i
    · subst hji; exact hy.wpOp hi hS ⟨fun _ => hS, H⟩
    · have := ready_mono hj hji
      rw [H.1] at this
      cases this
  | succ fuel ih =>
    intro listed a w inv hfree hr hy hS H
    refine ⟨fun h => (by rw [h] at hr; cases hr), fun j hj => ?_⟩
    by_cases hji : j = i
    · subst hji; exact hy.wpOp hi hS ⟨fun _ => hS, H⟩
    · have h1 := H.2 j (ready_mono hj hji)
      have hjn : j < n := sink_waits hsink inv hin (mem_ready.1 hr).1 hj
      obtain ⟨hjun, oj, hoj, hall⟩ := mem_ready.1 hj
      have hnot : ∀ e ∈ oj.after, Region.binds md e = true → e.on ≠ i := fun e he hb heq => by
        have h1 := hall e he hb
        have h0 := (mem_ready.1 hr).1
        rw [heq] at h1
        rcases Nat.lt_or_ge i listed.size with h' | h'
        · simp [h'] at h0 h1; rw [h0] at h1; cases h1
        · simp [Array.getElem?_eq_none h'] at h1
      have h2 := wpOp_putIf hoj (hfree j oj hoj hji hjun hnot) (fun cs b => hsel i oi cs b hi) (fun cs b => hsel j oj cs b hoj) hQ hy h1
      have hfree' : ∀ k ok, ops[k]? = some ok → k ≠ i → (listed.setIfInBounds j true).getD k true = false →
          (∀ e ∈ ok.after, Region.binds md e = true → e.on ≠ i) → oi.apart ops ok = true := fun k ok hk hki hun hno => by
        refine hfree k ok hk hki ?_ hno
        by_cases hjk : j = k
        · subst hjk; exact hjun
        · rw [getD_set_ne true hjk] at hun; exact hun
      refine wpOp_mono (fun a' w' h3 => ⟨fun _ => h3.2.1 (by omega), ih (listed.setIfInBounds j true) a' w' (inv.set hj hjn) hfree' (ready_mono hr (Ne.symm hji)) h3.1 (h3.2.1 (by omega)) ?_⟩) h2
      rw [Array.setIfInBounds_comm _ _ hji]
      exact h3.2.2
end

section
variable {C : Cx} {XI : List Nat} {E : List (Nat × Value)} {F : List Fact} {M : List Own} {d : Nat} {K : Cont} {Q : Exit → Act → World → Prop} {ops : Array Oper} {n : Nat}
/-- What a region owes to be taken apart: no select; which operation is the last. -/
structure RegOk (ops : Array Oper) (n : Nat) : Prop where
  sel : Region.noSelect ops = true
  sink : SinkOk .any ops n
/-- At a panic the post does not look into the slots. -/
def NoPan (Q : Exit → Act → World → Prop) : Prop := ∀ c a d v w, Q (.panic c) (a.put d v) w → Q (.panic c) a w
theorem np_body {P : Program} {fn : Func} {R : Ending → World → Prop} : NoPan (bodyPost P fn R) := fun c a d v w h => by cases d <;> exact h
theorem np_then {K : Act → World → Prop} (h : NoPan Q) : NoPan (Exit.then K Q) := h
theorem np_block {id : Nat} (h : NoPan Q) : NoPan (Exit.inBlock id Q) := h
theorem np_cut {X : Type} {St : X → List (Nat × Value) × List Fact × List Own} {I : X → Prop} (h : NoPan Q) : NoPan (Cut C St I Q) := h

/-- The judgement over a region of which 'listed' is done; XI: which of the call's own blocks it may write. -/
def TA (C : Cx) (ops : Array Oper) (n : Nat) (XI : List Nat) (fuel : Nat) (listed : Array Bool) (E : List (Nat × Value)) (F : List Fact) (M : List Own) (Q : Exit → Act → World → Prop) : Prop :=
  RegOk ops n → NoPan Q → HeadInv .any ops n listed → ∀ a w, OKst C E F M a w → wpAnyS C.P .any ops Q (SameX (Xs XI M) w) n fuel listed a w
theorem headInv_start (ops : Array Oper) (n : Nat) : HeadInv .any ops n (Array.replicate ops.size false) :=
  ⟨by simp, (fun j oj _ h => by rw [getD_replicate_false] at h; cases h), (fun t _ ht => by simp [ht])⟩
theorem t_any {id : Nat} {l : List Oper} {n : Nat} (XI : List Nat) (hm : C.P.follows .mixedOrders = true) (hr : RegOk l.toArray n) (hQ : NoPan Q) (h : TA C l.toArray n XI l.length (Array.replicate l.length false) E F M Q) : T C E F M (.region id l.toArray true) Q := fun a w hs =>
  wp_region_any hm (wpAny_of_S _ _ _ _ (by
    have hs' : OKst C E F M a { w with drawn := w.drawn + 1 } := hs.grow (Step.drew w none)
    have := h hr hQ (by simpa using headInv_start l.toArray n) a _ hs'
    simpa using this))
theorem ta_take {i : Nat} {op : Op} {ty : TypeId} {pos : String} {after : Array Edge} {g : Option (Nat × Bool)} {fuel : Nat} {listed : Array Bool} (hi : ops[i]? = some { dst := some d, op, type := ty, pos, after, guard := g })
    (hb : (Region.free .any ops listed i && (Region.ready .any ops listed).contains i && Nat.blt i n && Nat.blt d C.n) = true) (hg : GdOn ops E g) (h : DOp C XI E F M op d (fun E' F' M' => TA C ops n XI fuel (listed.setIfInBounds i true) E' F' M' Q)) : TA C ops n XI (fuel + 1) listed E F M Q := fun hr hQ inv a w hs => by
  simp only [Bool.and_eq_true] at hb
  obtain ⟨⟨⟨b1, b2⟩, b3⟩, b4⟩ := hb
  have hready : i ∈ Region.ready .any ops listed := by simpa using b2
  obtain ⟨v, fs, h1, h2, h3⟩ := h a w hs
  refine wpAnyS_first hi (Region.noSelect_spec hr.sel) hr.sink (Nat.blt_eq.mp b3) (fun c a w => hQ c a _ _ w) fuel listed a w inv (Region.free_spec hi b1) hready (.inl ⟨hg.wanted hs, fun w' hw' => h1 w' hw' _ rfl⟩) (SameX.refl _ _) ?_
  exact h3 hr hQ (inv.set hready (Nat.blt_eq.mp b3)) _ _ (hs.put (Nat.blt_eq.mp b4) v h2)
theorem ta_off {i : Nat} {op : Op} {ty : TypeId} {pos : String} {after : Array Edge} {g : Option (Nat × Bool)} {fuel : Nat} {listed : Array Bool} (hi : ops[i]? = some { dst := some d, op, type := ty, pos, after, guard := g })
    (hb : (Region.free .any ops listed i && (Region.ready .any ops listed).contains i && Nat.blt i n && Nat.blt d C.n) = true) (hg : GdOff ops E g) (h : TA C ops n XI fuel (listed.setIfInBounds i true) ((d, undef) :: E) F M Q) : TA C ops n XI (fuel + 1) listed E F M Q := fun hr hQ inv a w hs => by
  simp only [Bool.and_eq_true] at hb
  obtain ⟨⟨⟨b1, b2⟩, b3⟩, b4⟩ := hb
  have hready : i ∈ Region.ready .any ops listed := by simpa using b2
  refine wpAnyS_first hi (Region.noSelect_spec hr.sel) hr.sink (Nat.blt_eq.mp b3) (fun c a w => hQ c a _ _ w) fuel listed a w inv (Region.free_spec hi b1) hready (.inr ⟨hg.wanted hs, rfl⟩) (SameX.refl _ _) ?_
  exact h hr hQ (inv.set hready (Nat.blt_eq.mp b3)) _ _ (hs.put (Nat.blt_eq.mp b4) undef (fs := []) (by intro f hf; cases hf))
/-- Any of those that may come up now. -/
theorem ta_all {rs : List Nat} {fuel : Nat} {listed : Array Bool} (hrs : Region.ready .any ops listed = rs) (hne : rs ≠ [])
    (h : ∀ i ∈ rs, i < n ∧ ∃ o, ops[i]? = some o ∧ GdOn ops E o.guard ∧ GOp C XI E F M o (fun E' F' M' => TA C ops n XI fuel (listed.setIfInBounds i true) E' F' M' Q)) : TA C ops n XI (fuel + 1) listed E F M Q := fun hr hQ inv a w hs => by
  refine ⟨fun h0 => absurd (hrs ▸ h0) hne, fun i hi => ?_⟩
  obtain ⟨hin, o, ho, hg, hG⟩ := h i (hrs ▸ hi)
  unfold wpOp
  simp only [ho]
  rw [if_pos (hg.wanted hs)]
  refine .inl (hG a w hs _ Q fun E' F' M' a' w' hk hs' hsame hX => ⟨fun _ => hsame, wpAnyS_mono (fun w'' hw'' => ?_) _ _ _ _ (hk hr hQ (inv.set hi hin) a' w' hs')⟩)
  refine ⟨Nat.le_trans hsame.1 hw''.1, fun b hb hbx => ?_⟩
  rw [hw''.2 b (Nat.lt_of_lt_of_le hb hsame.1) (fun hbm => ?_), hsame.2 b hb hbx]
  rcases hX b hbm with h | h
  · exact hbx h
  · omega
/-- One alone may come up now. -/
theorem ta_one {i : Nat} {o : Oper} {fuel : Nat} {listed : Array Bool} (hrs : Region.ready .any ops listed = [i]) (hin : Nat.blt i n = true) (ho : ops[i]? = some o) (hg : GdOn ops E o.guard)
    (h : GOp C XI E F M o (fun E' F' M' => TA C ops n XI fuel (listed.setIfInBounds i true) E' F' M' Q)) : TA C ops n XI (fuel + 1) listed E F M Q :=
  ta_all hrs (by simp) (fun j hj => by
    have : j = i := by simpa using hj
    subst this
    exact ⟨Nat.blt_eq.mp hin, o, ho, hg, h⟩)
theorem ta_two {i j : Nat} {oi oj : Oper} {fuel : Nat} {listed : Array Bool} (hrs : Region.ready .any ops listed = [i, j]) (hin : (Nat.blt i n && Nat.blt j n) = true) (hoi : ops[i]? = some oi) (hoj : ops[j]? = some oj) (hgi : GdOn ops E oi.guard) (hgj : GdOn ops E oj.guard)
    (h1 : GOp C XI E F M oi (fun E' F' M' => TA C ops n XI fuel (listed.setIfInBounds i true) E' F' M' Q)) (h2 : GOp C XI E F M oj (fun E' F' M' => TA C ops n XI fuel (listed.setIfInBounds j true) E' F' M' Q)) : TA C ops n XI (fuel + 1) listed E F M Q :=
  ta_all hrs (by simp) (fun k hk => by
    simp only [Bool.and_eq_true] at hin
    have : k = i ∨ k = j := by simpa using hk
    rcases this with rfl | rfl
    · exact ⟨Nat.blt_eq.mp hin.1, oi, hoi, hgi, h1⟩
    · exact ⟨Nat.blt_eq.mp hin.2, oj, hoj, hgj, h2⟩)
theorem ta_done {listed : Array Bool} (hrs : Region.ready .any ops listed = []) (h : QT C E F M (Q .normal)) : TA C ops n XI 0 listed E F M Q := fun _ _ _ a w hs => ⟨hrs, h a w hs⟩
/-- The operation that waits for all others. -/
theorem ta_last {o : Oper} {listed : Array Bool} (XI' : List Nat) (hrs : Region.ready .any ops listed = [n]) (hrs' : Region.ready .any ops (listed.setIfInBounds n true) = []) (ho : ops[n]? = some o) (hg : GdOn ops E o.guard)
    (h : GOp C XI' E F M o (fun E' F' M' => QT C E' F' M' (Q .normal))) : TA C ops n XI 1 listed E F M Q := fun _ _ _ a w hs => by
  refine ⟨fun h0 => (by rw [hrs] at h0; cases h0), fun i hi => ?_⟩
  have : i = n := by rw [hrs] at hi; simpa using hi
  subst this
  unfold wpOp
  simp only [ho]
  rw [if_pos (hg.wanted hs)]
  exact .inl (h a w hs _ Q fun E' F' M' a' w' hk hs' _ _ => ⟨fun hne => absurd rfl hne, hrs', hk a' w' hs'⟩)

/-- Facts that may be had at any time, within a region in any order. -/
theorem ta_st {fuel : Nat} {listed : Array Bool} {E' : List (Nat × Value)} {F' : List Fact} (hst : ∀ a w, OKst C E F M a w → OKst C E' F' M a w) (h : TA C ops n XI fuel listed E' F' M Q) : TA C ops n XI fuel listed E F M Q :=
  fun hr hQ inv a w hs => h hr hQ inv a w (hst a w hs)
theorem ta_fact {fuel : Nat} {listed : Array Bool} (f : Fact) (hf : ∀ w m, f.p w m) (h : TA C ops n XI fuel listed E (f :: F) M Q) : TA C ops n XI fuel listed E F M Q :=
  ta_st (fun _ _ hs => hs.more f (hf _ _)) h
theorem ta_int {fuel : Nat} {listed : Array Bool} {k : IntKind} {v : Value} {x : Int} (hf : (rInt k).fact v x ∈ F) (h : v = .int k x → k.wrap x = x → TA C ops n XI fuel listed E F M Q) : TA C ops n XI fuel listed E F M Q :=
  fun hr hQ inv a w hs => by obtain ⟨h1, h2⟩ := val_int (hs.fact hf); exact h h1 h2 hr hQ inv a w hs
theorem ta_bool {fuel : Nat} {listed : Array Bool} {v : Value} {x : Bool} (hf : rBool.fact v x ∈ F) (h : v = .bool x → TA C ops n XI fuel listed E F M Q) : TA C ops n XI fuel listed E F M Q :=
  fun hr hQ inv a w hs => h (val_bool (hs.fact hf)) hr hQ inv a w hs
theorem ta_smaller {fuel : Nat} {listed : Array Bool} {F' : List Fact} {M' : List Own} (hst : ∀ a w, OKst C E F M a w → OKst C E F' M' a w) (hX : ∀ b, b ∈ Xs XI M' → b ∈ Xs XI M) (h : TA C ops n XI fuel listed E F' M' Q) : TA C ops n XI fuel listed E F M Q :=
  fun hr hQ inv a w hs => wpAnyS_mono (fun w'' hw'' => ⟨hw''.1, fun b hb hbx => hw''.2 b hb (fun h => hbx (hX b h))⟩) _ _ _ _ (h hr hQ inv a w (hst a w hs))
/-- FREEZE within a region. -/
theorem ta_freeze {fuel : Nat} {listed : Array Bool} {R : Rep α} {k : Nat} {v : Value} {l : List α} (i : Nat) (hi : M[i]? = some (Own.buf v k R l)) (h : TA C ops n XI fuel listed E ((rSl k R).fact v l :: F) (M.set i Own.gone) Q) : TA C ops n XI fuel listed E F M Q :=
  ta_smaller (fun _ _ hs => freeze_st hs hi) (fun b hb => (xs_set hb).elim id (fun h => by cases h)) h
theorem ta_freezebox {fuel : Nat} {listed : Array Bool} {R : Rep α} {b : Nat} {x : α} (i : Nat) (hi : M[i]? = some (Own.box b R x)) (h : TA C ops n XI fuel listed E (R.place ⟨b, 0, none⟩ x :: F) (M.set i Own.gone) Q) : TA C ops n XI fuel listed E F M Q :=
  ta_smaller (fun _ _ hs => freezebox_st hs hi) (fun b hb => (xs_set hb).elim id (fun h => by cases h)) h
theorem ta_nilbuf {fuel : Nat} {listed : Array Bool} (k : Nat) (R : Rep α) (h : TA C ops n XI fuel listed E F (M ++ [Own.buf (.slice none 0 0) k R ([] : List α)]) Q) : TA C ops n XI fuel listed E F M Q :=
  ta_smaller (fun _ _ hs => nil_st hs) (fun b hb => (xs_push hb).elim id (fun h => by cases h)) h

/-! ### Trimming: what is laid behind is forgotten -/
def Pre : List Own → List Own → Prop
  | [], _ => True
  | _ :: _, [] => False
  | o :: r, o' :: r' => o = o' ∧ Pre r r'
theorem Pre.get : ∀ {A B : List Own}, Pre A B → ∀ (i : Nat) (o : Own), A[i]? = some o → B[i]? = some o
  | [], _, _, i, o, h => by simp at h
  | a :: A, b :: B, ⟨h1, h2⟩, i, o, h => by
    cases i with
    | zero => simp at h ⊢; rw [← h1]; exact h
    | succ i => simp at h ⊢; exact Pre.get h2 i o h
theorem Pre.refl : ∀ A : List Own, Pre A A
  | [] => trivial
  | _ :: A => ⟨rfl, Pre.refl A⟩
theorem trim_st {M' : List Own} {a : Act} {w : World} (h : OKst C E F M a w) (hp : Pre M' M) : OKst C E F M' a w := by
  have hb : ∀ b, b ∈ Blocks M' → b ∈ Blocks M := fun b hb => by
    obtain ⟨i, o, h1, h2⟩ := blocks_mem.1 hb
    exact blocks_mem.2 ⟨i, o, hp.get i o h1, h2⟩
  have hg : Grows w (C.m0 ++ Blocks M) w (C.m0 ++ Blocks M') := Grows.less fun b hbm => by
    rcases List.mem_append.1 hbm with hbm | hbm
    · exact List.mem_append_left _ hbm
    · exact List.mem_append_right _ (hb b hbm)
  exact { h with
    facts := fun f hf => f.mono _ _ _ _ hg (h.facts f hf)
    own := fun o ho => by
      obtain ⟨i, hi⟩ := List.mem_iff_getElem?.1 ho
      exact o.keep _ _ _ _ hg (fun _ _ => rfl) (h.own o (List.mem_of_getElem? (hp.get i o hi)))
    nodup := fun i j o o' b hi hj hx hy => h.nodup _ _ _ _ _ (hp.get i o hi) (hp.get j o' hj) hx hy
    range := fun b hbm => h.range b (hb b hbm) }
theorem q_trim {J : Act → World → Prop} (M' : List Own) (hp : Pre M' M) (h : QT C E F M' J) : QT C E F M J := fun a w hs => h a w (trim_st hs hp)

/-- Some of the blocks, in an order of one's own. -/
def Sel (M : List Own) : List Nat → List Own → Prop
  | [], A => A = []
  | i :: is, A => ∃ o B, A = o :: B ∧ M[i]? = some o ∧ Sel M is B
theorem Sel.nil {M : List Own} : Sel M [] [] := rfl
theorem Sel.cons {M : List Own} {i : Nat} {is : List Nat} {o : Own} {B : List Own} (h : M[i]? = some o) (h2 : Sel M is B) : Sel M (i :: is) (o :: B) := ⟨o, B, rfl, h, h2⟩
def ndp : List Nat → Bool
  | [] => true
  | i :: r => nin i r && ndp r
theorem Sel.get {M : List Own} : ∀ {is : List Nat} {A : List Own}, Sel M is A → ∀ (j : Nat) (o : Own), A[j]? = some o → ∃ i, is[j]? = some i ∧ M[i]? = some o
  | [], A, h, j, o, hj => by have h : A = [] := h; subst h; simp at hj
  | i :: is, A, ⟨x, B, e, h1, h2⟩, j, o, hj => by
    subst e
    cases j with
    | zero => simp at hj; subst hj; exact ⟨i, rfl, h1⟩
    | succ j => simp at hj; obtain ⟨k, h3, h4⟩ := Sel.get h2 j o hj; exact ⟨k, by simpa using h3, h4⟩
theorem ndp_inj : ∀ {is : List Nat}, ndp is = true → ∀ (a b i : Nat), is[a]? = some i → is[b]? = some i → a = b
  | [], _, a, b, i, h, _ => by simp at h
  | x :: is, h, a, b, i, ha, hb => by
    simp only [ndp, Bool.and_eq_true] at h
    have hni := nin_spec h.1
    cases a with
    | zero =>
      cases b with
      | zero => rfl
      | succ b => simp at ha hb; subst ha; exact absurd (List.mem_of_getElem? hb) hni
    | succ a =>
      cases b with
      | zero => simp at ha hb; subst hb; exact absurd (List.mem_of_getElem? ha) hni
      | succ b => simp at ha hb; rw [ndp_inj h.2 a b i ha hb]
theorem sel_st {M' : List Own} {is : List Nat} {a : Act} {w : World} (h : OKst C E F M a w) (hp : Sel M is M') (hn : ndp is = true) : OKst C E F M' a w := by
  have hb : ∀ b, b ∈ Blocks M' → b ∈ Blocks M := fun b hb => by
    obtain ⟨i, o, h1, h2⟩ := blocks_mem.1 hb
    obtain ⟨j, _, h3⟩ := hp.get i o h1
    exact blocks_mem.2 ⟨j, o, h3, h2⟩
  have hg : Grows w (C.m0 ++ Blocks M) w (C.m0 ++ Blocks M') := Grows.less fun b hbm => by
    rcases List.mem_append.1 hbm with hbm | hbm
    · exact List.mem_append_left _ hbm
    · exact List.mem_append_right _ (hb b hbm)
  exact { h with
    facts := fun f hf => f.mono _ _ _ _ hg (h.facts f hf)
    own := fun o ho => by
      obtain ⟨i, hi⟩ := List.mem_iff_getElem?.1 ho
      obtain ⟨j, _, h3⟩ := hp.get i o hi
      exact o.keep _ _ _ _ hg (fun _ _ => rfl) (h.own o (List.mem_of_getElem? h3))
    nodup := fun i j o o' b hi hj hx hy => by
      obtain ⟨i', e1, h3⟩ := hp.get i o hi
      obtain ⟨j', e2, h4⟩ := hp.get j o' hj
      have := h.nodup _ _ _ _ _ h3 h4 hx hy
      subst this
      exact ndp_inj hn _ _ _ e1 e2
    range := fun b hbm => h.range b (hb b hbm) }

/-! ### Loops -/
abbrev Sym := List (Nat × Value) × List Fact × List Own
/-- From one symbolic state to a family's member that says less. -/
theorem OKst.to {a : Act} {w : World} (h : OKst C E F M a w) {S : Sym} (hE : Agree E S.1) (hF : Among F S.2.1) (is : List Nat) (hM : Sel M is S.2.2) (hn : ndp is = true) : OKst C S.1 S.2.1 S.2.2 a w := sel_st (h.less hE.lk hF.mem) hM hn
/-- A loop that follows a function with rounds: 'l k s' is what is answered from s on in k rounds at most. -/
theorem t_loop {X : Type} {O : Type} {c : Code} (l : Nat → X → Option O) (out : O) (St : X → Sym) (I : X → Prop) (k0 : Nat) (s0 : X) (h0 : l k0 s0 = some out) (hI : I s0) (hE : Agree E (St s0).1) (hF : Among F (St s0).2.1) (is : List Nat) (hM : Sel M is (St s0).2.2) (hn : ndp is = true)
    (round : ∀ k s, I s → l k s = some out → T C (St s).1 (St s).2.1 (St s).2.2 c (Exit.then (fun a' w' => ∃ k' s', k' < k ∧ I s' ∧ l k' s' = some out ∧ OKst C (St s').1 (St s').2.1 (St s').2.2 a' w') Q)) : T C E F M (.loop c) Q := fun a w hs => by
  refine wp_loop_ghost (fun k a w => ∃ s, I s ∧ l k s = some out ∧ OKst C (St s).1 (St s).2.1 (St s).2.2 a w) k0 ⟨s0, hI, h0, hs.to hE hF is hM hn⟩ ?_
  rintro k a' w' ⟨s, h1, h2, h3⟩
  refine wp_mono (round k s h1 h2 a' w' h3) fun e a'' w'' q => ?_
  cases e with
  | normal => obtain ⟨k', s', h3, h4, h5, h6⟩ := q; exact ⟨k', h3, s', h4, h5, h6⟩
  | exit id => exact q
  | goto l => exact q
  | ret => exact q
  | panic ch => exact q
  | outgrown => exact q
theorem q_round {X : Type} {O : Type} {l : Nat → X → Option O} {out : O} {St : X → Sym} {I : X → Prop} {k : Nat} (k' : Nat) (s' : X) (hk : k' < k) (hI : I s') (h : l k' s' = some out) (hE : Agree E (St s').1) (hF : Among F (St s').2.1) (is : List Nat) (hM : Sel M is (St s').2.2) (hn : ndp is = true) :
    QT C E F M (Exit.then (fun a' w' => ∃ k' s', k' < k ∧ I s' ∧ l k' s' = some out ∧ OKst C (St s').1 (St s').2.1 (St s').2.2 a' w') Q .normal) := fun a w hs => ⟨k', s', hk, hI, h, hs.to hE hF is hM hn⟩
/-- The end of a cut piece. -/
theorem q_cut {X : Type} {St : X → Sym} {I : X → Prop} (s : X) (hI : I s) (hE : Agree E (St s).1) (hF : Among F (St s).2.1) (is : List Nat) (hM : Sel M is (St s).2.2) (hn : ndp is = true) : QT C E F M (Cut C St I Q .normal) := fun a w hs => ⟨s, hI, hs.to hE hF is hM hn⟩
theorem q_cut_exit {X : Type} {St : X → Sym} {I : X → Prop} {id : Nat} (h : QT C E F M (Q (.exit id))) : QT C E F M (Cut C St I Q (.exit id)) := h
theorem q_cut_ret {X : Type} {St : X → Sym} {I : X → Prop} (h : QT C E F M (Q .ret)) : QT C E F M (Cut C St I Q .ret) := h

/-! ### A function -/
def frame0 : Nat → List Value → List (Nat × Value)
  | _, [] => []
  | i, v :: vs => (i, v) :: frame0 (i + 1) vs
theorem frame0_lk : ∀ (vs : List Value) (i d : Nat) (v : Value), lk (frame0 i vs) d = some v → i ≤ d ∧ vs[d - i]? = some v
  | [], _, _, _, h => by cases h
  | u :: vs, i, d, v, h => by
    unfold frame0 lk at h
    cases hb : Nat.beq i d with
    | true =>
      rw [hb] at h
      cases h
      have := Nat.eq_of_beq_eq_true hb
      subst this
      simp
    | false =>
      rw [hb] at h
      obtain ⟨h1, h2⟩ := frame0_lk vs (i + 1) d v h
      refine ⟨by omega, ?_⟩
      have : d - i = (d - (i + 1)) + 1 := by omega
      rw [this]
      simpa using h2
/-- A function, by its body: what is asked of each way that returns. -/
theorem fn_of {dr : Bool} {P : Program} {f : FuncId} {fn : Func} {c : Code} {args : List Value} {pre : World → List Nat → Prop} {post : World → World → List Nat → Value → Prop} (hf : P.funcs[f]? = some fn) (hb : fn.body = some c) (hn : args.length ≤ fn.ntmps)
    (F : List Fact) (hF : ∀ w m, pre w m → ∀ f ∈ F, f.p w m)
    (h : ∀ w0 m0 (R : Ending → World → Prop), (∀ v w, After dr w0 w → post w0 w m0 v → R (.returned v) w) → T ⟨P, w0, fn.ntmps, m0, [], fun _ => True, dr⟩ (frame0 0 args) F [] c (bodyPost P fn R)) : FnX dr P f args pre post := by
  intro w m hm hpre
  refine calls_of_wp hf hb (h w m _ (fun v w' hb hp => ⟨v, rfl, hb, hp⟩) _ _ ?_)
  refine ⟨rfl, ?_, ?_, Past.refl _ _ _, hm, ?_, ?_, ?_, ?_⟩
  · simp; omega
  · intro d v hv
    obtain ⟨_, h2⟩ := frame0_lk args 0 d v hv
    have hlt : d < args.length := by
      rcases Nat.lt_or_ge d args.length with h | h
      · exact h
      · simp [List.getElem?_eq_none h] at h2
    simp only [Nat.sub_zero] at h2
    rw [Array.getElem?_append_left (by simpa using hlt)]
    simpa using h2
  · intro f hf
    simpa [Blocks] using hF w m hpre f hf
  · intro o ho; cases ho
  · intro i j o o' b hi; simp at hi
  · intro b hb; cases hb
/-- A way that returns: the result's value, and that it is as it should be. -/
theorem q_result {dr : Bool} {P : Program} {fn : Func} {R : Ending → World → Prop} {w0 : World} {m0 : List Nat} {post : World → World → List Nat → Value → Prop} {E : List (Nat × Value)} {F : List Fact} {M : List Own} (v : Value) (hR : ∀ v w, After dr w0 w → post w0 w m0 v → R (.returned v) w) (e : Exit) (he : e = .ret ∨ e = .normal)
    (hr : ∀ a w, OKst ⟨P, w0, fn.ntmps, m0, [], fun _ => True, dr⟩ E F M a w → (results fn a.tmps).run P w = .ok v w) (hv : ∀ a w, OKst ⟨P, w0, fn.ntmps, m0, [], fun _ => True, dr⟩ E F M a w → post w0 w m0 v) : QT ⟨P, w0, fn.ntmps, m0, [], fun _ => True, dr⟩ E F M (bodyPost P fn R e) := fun a w hs => by
  rcases he with rfl | rfl
  · exact bodyPost_ret (hr a w hs) hs.defers (hR v w (hs.below.after fun _ => trivial) (hv a w hs))
  · exact bodyPost_end (hr a w hs) hs.defers (hR v w (hs.below.after fun _ => trivial) (hv a w hs))
theorem OKst.slot {a : Act} {w : World} (hs : OKst C E F M a w) {t : Nat} {v : Value} (h : lk E t = some v) : a.tmps.getD t undef = v := by
  have := hs.env t v h
  simp [Array.getD_eq_getD_getElem?, this]
theorem res1 {P : Program} {fn : Func} {t : Nat} {v : Value} {a : Act} {w : World} (h : fn.results = #[.tmp t]) (hs : OKst C E F M a w) (hv : lk E t = some v) : (results fn a.tmps).run P w = .ok v w := by
  rw [results_tmp h, hs.slot hv]
theorem res2 {P : Program} {fn : Func} {t u : Nat} {v x : Value} {a : Act} {w : World} (h : fn.results = #[.tmp t, .tmp u]) (hs : OKst C E F M a w) (hv : lk E t = some v) (hx : lk E u = some x) : (results fn a.tmps).run P w = .ok (.tuple #[v, x]) w := by
  rw [results_tmp2 h, hs.slot hv, hs.slot hx]
theorem res3 {P : Program} {fn : Func} {t u s : Nat} {v x y : Value} {a : Act} {w : World} (h : fn.results = #[.tmp t, .tmp u, .tmp s]) (hs : OKst C E F M a w) (hv : lk E t = some v) (hx : lk E u = some x) (hy : lk E s = some y) : (results fn a.tmps).run P w = .ok (.tuple #[v, x, y]) w := by
  rw [results_tmp3 h, hs.slot hv, hs.slot hx, hs.slot hy]

/-- What the callers see of a value. -/
theorem OKst.val0 {a : Act} {w : World} (hs : OKst C E F M a w) {R : Rep α} {v : Value} {x : α} (h : R.val w (C.m0 ++ Blocks M) v x) : R.val w C.m0 v x :=
  R.val_mono (Grows.less fun b hb => List.mem_append_left _ hb) h
theorem OKst.ownres {a : Act} {w : World} (hs : OKst C E F M a w) {R : Rep α} {k : Nat} {v : Value} {l : List α} {i : Nat} (hi : M[i]? = some (Own.buf v k R l)) (hk : ∀ k, C.kp k := by exact fun _ => trivial) : OwnRes R k C.w0 w C.m0 v l := by
  refine ⟨fun b hb => ⟨Nat.le_of_not_lt fun hlt => (hs.range b (blocks_mem.2 ⟨i, _, hi, hb⟩)).1.2 hlt (hk b), (hs.range b (blocks_mem.2 ⟨i, _, hi, hb⟩)).2⟩, fun m' hm' => ?_⟩
  have h1 := hs.own _ (List.mem_of_getElem? hi)
  refine (Own.buf v k R l).keep w (C.m0 ++ Blocks M) w m' (Grows.less fun b hb => ?_) (fun b _ => rfl) h1
  rcases hm' b hb with h | h
  · exact List.mem_append_left _ h
  · exact List.mem_append_right _ (blocks_mem.2 ⟨i, _, hi, h⟩)
theorem ownres_val {R : Rep α} {k : Nat} {w w' : World} {m : List Nat} {v : Value} {l : List α} (hm : ∀ b ∈ m, b < w.heap.size) (h : OwnRes R k w w' m v l) : (rSl k R).val w' m v l := by
  obtain ⟨h1, h2⟩ := h
  refine BufOk.read (h2 m (fun b hb => .inl hb)) (Grows.refl _ _) (fun b hb hbm => ?_)
  have := (h1 b hb).1
  have := hm b hbm
  omega
end
end Go.Cf
