/- What a function hands back; the words of printed functions; small rules. -/
import Derived.Test.YtbcipfhhmkjigaaCf8
set_option linter.unusedVariables false
set_option linter.unusedSimpArgs false
namespace Go.Cf
open Go Go.RowKit
variable {α β γ δ : Type}

/-! ### Results -/
def rvSem (tmps : Array Value) : ResultVar → Sem Value
  | .tmp t => pure (tmps.getD t undef)
  | .cell a t => do loadVar t (← asAddr (tmps.getD a undef))
def RvOk (P : Program) (tmps : Array Value) (w : World) : List ResultVar → List Value → Prop
  | [], vs => vs = []
  | r :: rs, vs => ∃ v us, vs = v :: us ∧ (rvSem tmps r).run P w = .ok v w ∧ RvOk P tmps w rs us
theorem RvOk.nil {P : Program} {tmps : Array Value} {w : World} : RvOk P tmps w [] [] := rfl
theorem RvOk.cons {P : Program} {tmps : Array Value} {w : World} {r : ResultVar} {rs : List ResultVar} {v : Value} {vs : List Value} (h : (rvSem tmps r).run P w = .ok v w) (h2 : RvOk P tmps w rs vs) : RvOk P tmps w (r :: rs) (v :: vs) := ⟨v, vs, rfl, h, h2⟩
theorem RvOk.run {P : Program} {tmps : Array Value} {w : World} : ∀ {rs : List ResultVar} {vs : List Value}, RvOk P tmps w rs vs → (rs.mapM (rvSem tmps)).run P w = .ok vs w
  | [], vs, h => by have h : vs = [] := h; subst h; simp
  | r :: rs, vs, ⟨v, us, e, h1, h2⟩ => by
    subst e
    simp [List.mapM_cons, h1, RvOk.run h2]
def packed : List Value → Value
  | [v] => v
  | vs => .tuple vs.toArray
theorem run_results {P : Program} {fn : Func} {tmps : Array Value} {w : World} {rs : List ResultVar} {vs : List Value} (h : fn.results = rs.toArray) (hv : RvOk P tmps w rs vs) : (results fn tmps).run P w = .ok (packed vs) w := by
  have e : results fn tmps = (fn.results.mapM (rvSem tmps) >>= fun vs => pure (if h : vs.size = 1 then vs[0] else .tuple vs)) := by
    unfold results
    congr 2
  rw [e, h, Sem.run_bind, Array.mapM_eq_mapM_toList, Sem.run_map, hv.run]
  simp only [Result.andThen_ok, Sem.run_pure]
  congr 1
  match vs with
  | [] => rfl
  | [v] => rfl
  | v :: u :: vs => simp [packed]
section
variable {C : Cx} {XI : List Nat} {E : List (Nat × Value)} {F : List Fact} {M : List Own} {d : Nat} {K : Cont} {Q : Exit → Act → World → Prop} {ops : Array Oper} {n : Nat}
theorem rv_tmp {a : Act} {w : World} (hs : OKst C E F M a w) {t : Nat} {v : Value} (h : lk E t = some v) : (rvSem a.tmps (.tmp t)).run C.P w = .ok v w := by
  simp only [rvSem, Sem.run_pure, hs.slot h]
/-- A result that lies in memory. -/
theorem rv_cell {a : Act} {w : World} (hs : OKst C E F M a w) {t ty k b : Nat} {R : Rep α} {x : α} (i : Nat) (h : lk E t = some (.pointer (some ⟨b, 0, none⟩))) (hm : M[i]? = some (Own.box b R x)) (hT : TyOk C.P ty R k) :
    ∃ v, (rvSem a.tmps (.cell t ty)).run C.P w = .ok v w ∧ R.val w C.m0 v x := by
  obtain ⟨c, T, h5, h6⟩ := hs.own _ (List.mem_of_getElem? hm)
  refine ⟨R.mk' c.toList, ?_, hs.val0 ⟨c.toList, h6, rfl⟩⟩
  have := run_loadVar (w := w) (p := ⟨b, 0, none⟩) hT (R.len h6) (fun i hi => cells_at h5 (x := []) (y := c.toList) (z := []) (by simp) i hi)
  simp [rvSem, hs.slot h, asAddr, this]
/-- A way that returns. -/
theorem q_ret {dr : Bool} {P : Program} {fn : Func} {R : Ending → World → Prop} {w0 : World} {m0 : List Nat} {post : World → World → List Nat → Value → Prop} (hR : ∀ v w, After dr w0 w → post w0 w m0 v → R (.returned v) w) (e : Exit) (he : e = .ret ∨ e = .normal)
    (h : ∀ a w, OKst ⟨P, w0, fn.ntmps, m0, [], fun _ => True, dr⟩ E F M a w → ∃ v, (results fn a.tmps).run P w = .ok v w ∧ post w0 w m0 v) : QT ⟨P, w0, fn.ntmps, m0, [], fun _ => True, dr⟩ E F M (bodyPost P fn R e) := fun a w hs => by
  obtain ⟨v, h1, h2⟩ := h a w hs
  rcases he with rfl | rfl
  · exact bodyPost_ret h1 hs.defers (hR v w (hs.below.after fun _ => trivial) h2)
  · exact bodyPost_end h1 hs.defers (hR v w (hs.below.after fun _ => trivial) h2)
theorem OKst.hv {a : Act} {w : World} (hs : OKst C E F M a w) {R : Rep α} {v : Value} {x : α} (h : HasV C F R v x) : R.val w C.m0 v x := hs.val0 (h _ _ _ _ hs)

theorem t_fact {c : Code} (f : Fact) (hf : ∀ w m, f.p w m) (h : T C E (f :: F) M c Q) : T C E F M c Q := fun a w hs => h a w (hs.more f (hf _ _))
theorem nil_fact {k : Nat} {R : Rep α} (w : World) (m : List Nat) : ((rSl k R).fact (.slice none 0 0) ([] : List α)).p w m := ⟨[.slice none 0 0], ⟨none, 0, rfl, by simp, by simp, by simp, by simp, .inl rfl⟩, rfl⟩
theorem t_nilbuf {c : Code} (k : Nat) (R : Rep α) (h : T C E F (M ++ [Own.buf (.slice none 0 0) k R ([] : List α)]) c Q) : T C E F M c Q := fun a w hs => h a w (nil_st hs)
/-! ### Bytes seen as a string's: the conversion '[]byte' of a literal -/
theorem g_mark {x : Operand} {v : Value} {k : Nat} {R : Rep α} {l : List α} {t e ty : TypeId} {pos : String} {after : Array Edge} {gd : Option (Nat × Bool)} (i : Nat) (hn : Nat.blt d C.n = true) (hx : ev E x = some v) (hm : M[i]? = some (Own.buf v k R l)) (hne : l ≠ []) (hu : C.P.underlying t = some (.slice e)) (he : C.P.underlying e = some (.int .u8)) (hX : i ∈ XI)
    (h : K ((d, v) :: E) ((rSl k R).fact v l :: F) (M.set i Own.gone)) : GOp C XI E F M { dst := some d, op := .convert t t x, type := ty, pos, after, guard := gd } K := by
  intro a w hs J Q hJ
  obtain ⟨g0, g0', h4⟩ := hs.own _ (List.mem_of_getElem? hm)
  rcases h4 with ⟨_, _, rfl⟩ | ⟨b, cap, cs, rest, T, rfl, h1, h2, h3, h4, h5⟩
  · exact absurd rfl hne
  have hsh : w.shape? b = some (T, (cs ++ rest).length) := by simp [World.shape?, h3]
  have hr : (execOp a.eval { dst := some d, op := .convert t t x, type := ty, pos, after, guard := gd }).run C.P w = .ok (.value (.slice (some ⟨b, 0, none⟩) l.length (cap + 1))) (w.freeze ⟨b, (cs ++ rest).length, none⟩ 1) := by
    simp [execOp, hs.ev hx, convert, run_underlying hu, run_underlying he, markStringish, hsh]
  unfold Oper.wp
  rw [hr]
  have hw : w.freeze ⟨b, (cs ++ rest).length, none⟩ 1 = { w with heap := w.heap.modify b fun | .cells c elem (lo, hi) => .cells c elem (if lo == hi then ((cs ++ rest).length, (cs ++ rest).length + 1) else (min lo (cs ++ rest).length, max hi ((cs ++ rest).length + 1))) | o => o } := rfl
  have hlt := lt_of_get h3
  have g : Step C.dr w (w.freeze ⟨b, (cs ++ rest).length, none⟩ 1) (some b) := by
    rw [hw]
    refine ⟨rfl, rfl, rfl, by simp, fun b' hb' hne' => ?_, fun _ => Nat.le_refl _⟩
    simp only [Array.getElem?_modify]
    rw [if_neg (fun e => hne' (by rw [e]))]
  have hcell : (w.freeze ⟨b, (cs ++ rest).length, none⟩ 1).heap[b]? = some (.cells (cs ++ rest).toArray T ((cs ++ rest).length, (cs ++ rest).length + 1)) := by
    rw [hw]
    simp only [Array.getElem?_modify, if_true, h3]
    rfl
  obtain ⟨f1, f2⟩ := hs.set (o' := Own.gone) hm g (fun b' hb' => by cases hb') (fun m' hg _ _ => trivial)
  obtain ⟨p1, p2, p3⟩ := put_env (C := C) hn (.slice (some ⟨b, 0, none⟩) l.length (cap + 1)) a hs.env hs.size
  have f3 : OKst C ((d, .slice (some ⟨b, 0, none⟩) l.length (cap + 1)) :: E) F (M.set i Own.gone) (a.put (some d) (.slice (some ⟨b, 0, none⟩) l.length (cap + 1))) (w.freeze ⟨b, (cs ++ rest).length, none⟩ 1) :=
    { f1 with env := p1, size := p2, defers := p3.trans hs.defers }
  refine hJ _ _ _ _ _ h (f3.more _ ?_) (g.same (fun b' hb' => by cases hb'; exact xs_at hm hX rfl)) (fun b' hb' => ?_)
  · exact ⟨[.slice (some ⟨b, 0, none⟩) l.length (cap + 1)], ⟨_, (cap + 1), rfl, h1, h2, g0, g0', .inr ⟨_, rfl, cs, Rows.mono R f2 h5, rfl, not_in_dropped hs hm rfl, _, T, _, hcell, [], rest, by simp, rfl⟩⟩, rfl⟩
  · rcases xs_set hb' with h | h
    · exact .inl h
    · cases h

/-! ### A call whose first result is a buffer of its own -/
theorem g_call_own1 {f : FuncId} {xs : List Operand} {ats : Array TypeId} {vs : List Value} {pre : World → List Nat → Prop} {post : World → World → List Nat → Value → Prop} {R : Rep α} {k : Nat} {l : List α} {Z : List Value → Prop} {fs : List Value → List Fact} {ty : TypeId} {pos : String} {after : Array Edge} {gd : Option (Nat × Bool)} (hn : Nat.blt d C.n = true) (hfn : HasFn C.P f) (hc : FnX C.dr C.P f vs pre post) (he : Evs E xs vs)
    (hpre : ∀ a w, OKst C E F M a w → pre w (C.m0 ++ Blocks M)) (hpost : ∀ w w' m v, post w w' m v → ∃ v1 us, v = .tuple (v1 :: us).toArray ∧ Z us ∧ OwnRes R k w w' m v1 l ∧ ∀ m', (∀ b, b ∈ m' → b ∈ m ∨ bufBlk v1 = some b) → ∀ f ∈ fs us, f.p w' m') (h : ∀ v1 us, Z us → K ((d, .tuple (v1 :: us).toArray) :: E) (fs us ++ F) (M ++ [Own.buf v1 k R l])) :
    GOp C XI E F M { dst := some d, op := .call { callee := .value (.func f), args := xs.toArray, argTypes := ats }, type := ty, pos, after, guard := gd } K := by
  intro a w hs J Q hJ
  obtain ⟨fn, h1, h2, bd, h3⟩ := hfn
  have hr : (execOp a.eval { dst := some d, op := .call { callee := .value (.func f), args := xs.toArray, argTypes := ats }, type := ty, pos, after, guard := gd }).run C.P w = .ok (.enter f vs.toArray) w := by
    rw [execOp_call_go]
    have : #[] ++ xs.toArray.map a.eval ++ #[] = vs.toArray := by simp [← he.map hs]
    rw [this]
    simp [callFunc, h1, h2, h3]
  unfold Oper.wp
  rw [hr]
  simp only [Oper.upon]
  refine (hc w (C.m0 ++ Blocks M) (fun b hb => ?_) (hpre a w hs)).mono ?_
  · rcases List.mem_append.1 hb with hb | hb
    · exact Nat.lt_of_lt_of_le (hs.m0 b hb) hs.below.size
    · exact (hs.range b hb).2
  · rintro e w' ⟨v, rfl, hb, hp⟩
    have g := Step.below hb
    obtain ⟨v1, us, rfl, hz, ⟨r1, r2⟩, hfs⟩ := hpost _ _ _ _ hp
    have hfs' : ∀ f ∈ fs us, f.p w' (C.m0 ++ Blocks (M ++ [Own.buf v1 k R l])) := hfs _ (fun b hb => by
      rcases List.mem_append.1 hb with hb | hb
      · exact .inl (List.mem_append_left _ hb)
      · unfold Blocks at hb
        rw [List.filterMap_append] at hb
        rcases List.mem_append.1 hb with hb | hb
        · exact .inl (List.mem_append_right _ hb)
        · refine .inr ?_
          cases hbb : bufBlk v1 with
          | none => simp [Own.buf, hbb] at hb
          | some c => simp [Own.buf, hbb] at hb; rw [hb])
    have hst := push_g (C := C) (E := E) (F := F) (M := M) (o := { dst := some d, op := .call { callee := .value (.func f), args := xs.toArray, argTypes := ats }, type := ty, pos, after, guard := gd }) (v := .tuple (v1 :: us).toArray) (own := Own.buf v1 k R l) (E' := (d, .tuple (v1 :: us).toArray) :: E) (fun a' => put_env hn _ a') hs g r1 (fun m' hg _ hm => r2 m' hm)
    refine hJ _ _ _ _ _ (h v1 us hz) { hst with facts := fun f hf => (List.mem_append.1 hf).elim (hfs' f) (hst.facts f) } (g.same (by intro b hb; cases hb)) (fun b hb => ?_)
    rcases xs_push hb with h | h
    · exact .inl h
    · exact .inr (r1 b h).1

end
/-! ### The words of printed functions -/
def need {α : Type} (c : Prop) [Decidable c] (x : Option α) : Option α := if c then x else none
theorem need_some {c : Prop} [Decidable c] {x : Option α} {r : α} (h : need c x = some r) : c ∧ x = some r := by
  unfold need at h
  split at h
  · exact ⟨‹_›, h⟩
  · cases h
theorem need_pos {c : Prop} [Decidable c] {x : Option α} (h : c) : need c x = x := if_pos h
theorem bind_some {x : Option α} {f : α → Option β} {r : β} (h : x.bind f = some r) : ∃ y, x = some y ∧ f y = some r := Option.bind_eq_some_iff.1 h
theorem if_t {b : Bool} {x y : Option α} {r : α} (hb : b = true) (h : (if b = true then x else y) = some r) : x = some r := by rwa [if_pos hb] at h
theorem if_f {b : Bool} {x y : Option α} {r : α} (hb : b = false) (h : (if b = true then x else y) = some r) : y = some r := by rwa [if_neg (by rw [hb]; decide)] at h
/-- May so many things of n bytes be? -/
def fits (n k : Nat) : Prop := k * n ≤ maxB ∧ k ≤ maxB
instance (n k : Nat) : Decidable (fits n k) := by unfold fits; infer_instance
theorem Fld.at0 {R : Rep α} {S : Rep β} {o : Nat} {p : α → Prop} {g : α → β} {s : α → β → α} (h : Fld R o S p g s) : Fld R (0 + o) S p g s := by rw [Nat.zero_add]; exact h
theorem fo_of {P : Program} {s : TypeId} {j off : Nat} {fs : Array Field} {f : Field} {R : Rep α} {n : Nat} (hu : P.underlying s = some (.struct fs)) (hj : fs[j]? = some f) (ho : f.offset = off) (hT : TyOk P f.type R n) (hn : Nat.blt 0 R.size = true) : FieldOff P s j off := by
  obtain ⟨i, h1, h2, _⟩ := hT.info
  exact ⟨fs, f, i, hu, hj, ho, h1, by have := Nat.blt_eq.mp hn; omega⟩
theorem wrap_len {n : Nat} (h : n ≤ maxB) : IntKind.i64.wrap (n : Int) = n := by
  unfold maxB at h
  simp only [IntKind.wrap, IntKind.signed, IntKind.bits]
  simp
  omega
theorem emod_le_self {a b : Int} (h : 0 ≤ a) : a % b ≤ a := by
  by_cases hb : b = 0
  · subst hb; simp
  · have h1 : a % b = a % (b.natAbs : Int) := by
      rcases Int.natAbs_eq b with h | h
      · rw [← h]
      · conv => lhs; rw [h, Int.emod_neg]
    rw [h1]
    have h2 : ((a.toNat % b.natAbs : Nat) : Int) = a % (b.natAbs : Int) := by rw [Int.natCast_emod]; congr 1; omega
    have h3 := Nat.mod_le a.toNat b.natAbs
    omega
theorem wrap_tmod {k : IntKind} {a b : Int} (h : k.wrap a = a) : k.wrap (a.tmod b) = a.tmod b := by
  have h1 : 0 ≤ a → 0 ≤ a.tmod b ∧ a.tmod b ≤ a := fun h => ⟨Int.tmod_nonneg _ h, by
    rw [Int.tmod_eq_emod_of_nonneg h]
    exact emod_le_self h⟩
  have h2 : a ≤ 0 → a ≤ a.tmod b ∧ a.tmod b ≤ 0 := fun h => by
    have e : a.tmod b = -((-a).tmod b) := by rw [Int.neg_tmod]; omega
    have h3 : 0 ≤ -a := by omega
    have h4 := Int.tmod_nonneg b h3
    have h5 : (-a).tmod b ≤ -a := by rw [Int.tmod_eq_emod_of_nonneg h3]; exact emod_le_self h3
    omega
  generalize a.tmod b = c at *
  rcases Int.le_total 0 a with h0 | h0
  · obtain ⟨p, q⟩ := h1 h0
    clear h1 h2
    cases k <;> simp [IntKind.wrap, IntKind.signed, IntKind.bits] at h ⊢ <;> omega
  · obtain ⟨p, q⟩ := h2 h0
    clear h1 h2
    cases k <;> simp [IntKind.wrap, IntKind.signed, IntKind.bits] at h ⊢ <;> omega
theorem wrap_ishr {k : IntKind} {a b : Int} (h : k.wrap a = a) : k.wrap (ishr k a b) = ishr k a b := by
  unfold ishr
  have hp : (0 : Int) < 2 ^ (min b.toNat k.bits) := Int.pow_pos (by decide)
  generalize (2 : Int) ^ (min b.toNat k.bits) = p at hp ⊢
  have e := Int.fdiv_eq_ediv_of_nonneg a (Int.le_of_lt hp)
  have h1 : 0 ≤ a → 0 ≤ a.fdiv p ∧ a.fdiv p ≤ a := fun h => by
    rw [e]
    exact ⟨Int.ediv_nonneg h (Int.le_of_lt hp), Int.ediv_le_self _ h⟩
  have h2 : a ≤ 0 → a ≤ a.fdiv p ∧ a.fdiv p ≤ 0 := fun h => by
    rw [e]
    refine ⟨?_, ?_⟩
    · have := Int.ediv_mul_le a (Int.ne_of_gt hp)
      have h4 := Int.lt_ediv_add_one_mul_self a hp
      refine Int.le_of_lt_add_one ?_
      rw [← Int.not_le]
      intro h5
      have h6 : (a / p + 1) * p ≤ a * 1 := by
        have : (a / p + 1) * p ≤ a * p := Int.mul_le_mul_of_nonneg_right h5 (Int.le_of_lt hp)
        have h7 : a * p ≤ a * 1 := Int.mul_le_mul_of_nonpos_left h (by omega)
        omega
      omega
    · rcases Int.lt_or_eq_of_le h with h' | h'
      · exact Int.le_of_lt (Int.ediv_neg_of_neg_of_pos h' hp)
      · subst h'; simp
  generalize a.fdiv p = c at *
  rcases Int.le_total 0 a with h0 | h0
  · obtain ⟨q, r⟩ := h1 h0
    clear h1 h2
    cases k <;> simp [IntKind.wrap, IntKind.signed, IntKind.bits] at h ⊢ <;> omega
  · obtain ⟨q, r⟩ := h2 h0
    clear h1 h2
    cases k <;> simp [IntKind.wrap, IntKind.signed, IntKind.bits] at h ⊢ <;> omega
/-! ### Calls, by the shape of what is handed back -/
section
variable {C : Cx} {XI : List Nat} {E : List (Nat × Value)} {F : List Fact} {M : List Own} {d : Nat} {K : Cont} {Q : Exit → Act → World → Prop} {ops : Array Oper} {n : Nat}
variable {f : FuncId} {xs : List Operand} {ats : Array TypeId} {vs : List Value} {pre : World → List Nat → Prop} {ty : TypeId} {pos : String} {after : Array Edge} {gd : Option (Nat × Bool)}
theorem g_call1 {R : Rep α} {r : α} (hn : Nat.blt d C.n = true) (hfn : HasFn C.P f) (hc : FnX C.dr C.P f vs pre (fun _ w' m v => R.val w' m v r)) (he : Evs E xs vs) (hpre : ∀ a w, OKst C E F M a w → pre w (C.m0 ++ Blocks M))
    (k : ∀ v, K ((d, v) :: E) (R.fact v r :: F) M) : GOp C XI E F M { dst := some d, op := .call { callee := .value (.func f), args := xs.toArray, argTypes := ats }, type := ty, pos, after, guard := gd } K :=
  g_call (Z := fun _ => True) (fs := fun v => [R.fact v r]) hn hfn hc he hpre (fun _ _ _ v h => ⟨trivial, fun f hf => by simp only [List.mem_singleton] at hf; subst hf; exact h⟩) (fun v _ => k v)
theorem g_call2 {R : Rep α} {S : Rep β} {r : α × β} (hn : Nat.blt d C.n = true) (hfn : HasFn C.P f) (hc : FnX C.dr C.P f vs pre (fun _ w' m v => ∃ v0 v1, v = .tuple #[v0, v1] ∧ R.val w' m v0 r.1 ∧ S.val w' m v1 r.2)) (he : Evs E xs vs) (hpre : ∀ a w, OKst C E F M a w → pre w (C.m0 ++ Blocks M))
    (k : ∀ v0 v1, K ((d, .tuple #[v0, v1]) :: E) (R.fact v0 r.1 :: S.fact v1 r.2 :: F) M) : GOp C XI E F M { dst := some d, op := .call { callee := .value (.func f), args := xs.toArray, argTypes := ats }, type := ty, pos, after, guard := gd } K :=
  g_call (Z := fun v => ∃ v0 v1, v = .tuple #[v0, v1]) (fs := fun v => match v with | .tuple ⟨[v0, v1]⟩ => [R.fact v0 r.1, S.fact v1 r.2] | _ => []) hn hfn hc he hpre
    (fun _ _ _ v h => by
      obtain ⟨v0, v1, rfl, h1, h2⟩ := h
      refine ⟨⟨v0, v1, rfl⟩, fun f hf => ?_⟩
      simp only [List.mem_cons, List.not_mem_nil, or_false] at hf
      rcases hf with rfl | rfl
      · exact h1
      · exact h2) (fun v hv => by obtain ⟨v0, v1, rfl⟩ := hv; exact k v0 v1)
theorem g_call3 {R : Rep α} {S : Rep β} {T : Rep γ} {r : α × β × γ} (hn : Nat.blt d C.n = true) (hfn : HasFn C.P f) (hc : FnX C.dr C.P f vs pre (fun _ w' m v => ∃ v0 v1 v2, v = .tuple #[v0, v1, v2] ∧ R.val w' m v0 r.1 ∧ S.val w' m v1 r.2.1 ∧ T.val w' m v2 r.2.2)) (he : Evs E xs vs) (hpre : ∀ a w, OKst C E F M a w → pre w (C.m0 ++ Blocks M))
    (k : ∀ v0 v1 v2, K ((d, .tuple #[v0, v1, v2]) :: E) (R.fact v0 r.1 :: S.fact v1 r.2.1 :: T.fact v2 r.2.2 :: F) M) : GOp C XI E F M { dst := some d, op := .call { callee := .value (.func f), args := xs.toArray, argTypes := ats }, type := ty, pos, after, guard := gd } K :=
  g_call (Z := fun v => ∃ v0 v1 v2, v = .tuple #[v0, v1, v2]) (fs := fun v => match v with | .tuple ⟨[v0, v1, v2]⟩ => [R.fact v0 r.1, S.fact v1 r.2.1, T.fact v2 r.2.2] | _ => []) hn hfn hc he hpre
    (fun _ _ _ v h => by
      obtain ⟨v0, v1, v2, rfl, h1, h2, h3⟩ := h
      refine ⟨⟨v0, v1, v2, rfl⟩, fun f hf => ?_⟩
      simp only [List.mem_cons, List.not_mem_nil, or_false] at hf
      rcases hf with rfl | rfl | rfl
      · exact h1
      · exact h2
      · exact h3) (fun v hv => by obtain ⟨v0, v1, v2, rfl⟩ := hv; exact k v0 v1 v2)
theorem g_callo {R : Rep α} {k' : Nat} {r : List α} (hn : Nat.blt d C.n = true) (hfn : HasFn C.P f) (hc : FnX C.dr C.P f vs pre (fun w w' m v => OwnRes R k' w w' m v r)) (he : Evs E xs vs) (hpre : ∀ a w, OKst C E F M a w → pre w (C.m0 ++ Blocks M))
    (k : ∀ v, K ((d, v) :: E) F (M ++ [Own.buf v k' R r])) : GOp C XI E F M { dst := some d, op := .call { callee := .value (.func f), args := xs.toArray, argTypes := ats }, type := ty, pos, after, guard := gd } K :=
  g_call_own hn hfn hc he hpre (fun _ _ _ _ h => h) k
theorem g_callo2 {R : Rep α} {S : Rep β} {k' : Nat} {r : List α × β} (hn : Nat.blt d C.n = true) (hfn : HasFn C.P f) (hc : FnX C.dr C.P f vs pre (fun w w' m v => ∃ v0 v1, v = .tuple #[v0, v1] ∧ OwnRes R k' w w' m v0 r.1 ∧ ∀ m', (∀ b, b ∈ m' → b ∈ m ∨ bufBlk v0 = some b) → S.val w' m' v1 r.2)) (he : Evs E xs vs) (hpre : ∀ a w, OKst C E F M a w → pre w (C.m0 ++ Blocks M))
    (k : ∀ v0 v1, K ((d, .tuple #[v0, v1]) :: E) (S.fact v1 r.2 :: F) (M ++ [Own.buf v0 k' R r.1])) : GOp C XI E F M { dst := some d, op := .call { callee := .value (.func f), args := xs.toArray, argTypes := ats }, type := ty, pos, after, guard := gd } K :=
  g_call_own1 (Z := fun us => ∃ v1, us = [v1]) (fs := fun us => match us with | [v1] => [S.fact v1 r.2] | _ => []) hn hfn hc he hpre (fun _ _ _ v h => by
    obtain ⟨v0, v1, rfl, h1, h2⟩ := h
    refine ⟨v0, [v1], rfl, ⟨v1, rfl⟩, h1, fun m' hm' f hf => ?_⟩
    simp only [List.mem_singleton] at hf
    subst hf
    exact h2 m' hm') (fun v0 us hus => by obtain ⟨v1, rfl⟩ := hus; exact k v0 v1)
end
end Go.Cf
