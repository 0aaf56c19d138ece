/- The judgement inside a fence: what a round of a range over a function is shown with. -/
import Derived.Test.YtbcipfhhmkjigaaCfD
import Derived.RangeFuncFrom
import Derived.RangeFuncLeaves
import Derived.OwnWalkIn
import Derived.OrdersIn
set_option linter.unusedVariables false
set_option linter.unusedSimpArgs false
namespace Go.Cf
open Go Go.RowKit
variable {α β γ δ : Type}

def TI (F : Fence) (n : Nat) (C : Cx) (E : List (Nat × Value)) (Fs : List Fact) (M : List Own) (c : Code) (Q : Exit → Act → World → Prop) : Prop :=
  ∀ a w, OKst C E Fs M a w → c.wpIn F n C.P Q a w
def TLI (F : Fence) (n : Nat) (C : Cx) (ops : Array Oper) (E : List (Nat × Value)) (Fs : List Fact) (M : List Own) (os : List Oper) (Q : Exit → Act → World → Prop) : Prop :=
  ∀ a w, OKst C E Fs M a w → wpListIn F n C.P ops Q os a w
section
variable {F : Fence} {n : Nat} {C : Cx} {E : List (Nat × Value)} {Fs : List Fact} {M : List Own} {Q : Exit → Act → World → Prop} {ops : Array Oper}
theorem ti_seq {x y : Code} (h : TI F n C E Fs M x (Exit.then (y.wpIn F n C.P Q) Q)) : TI F n C E Fs M (.seq x y) Q := fun a w hs => wpIn_seq (h a w hs)
theorem ti_skip (h : QT C E Fs M (Q .normal)) : TI F n C E Fs M .skip Q := fun a w hs => wpIn_skip (h a w hs)
theorem ti_block {id : Nat} {c : Code} (h : TI F n C E Fs M c (Exit.inBlock id Q)) : TI F n C E Fs M (.block id c) Q := fun a w hs => wpIn_block (h a w hs)
theorem ti_cond {c : Operand} {x y : Code} {t : Bool} (hc : ev E c = some (.bool t)) (h1 : t = true → TI F n C E Fs M x Q) (h2 : t = false → TI F n C E Fs M y Q) : TI F n C E Fs M (.cond c x y) Q :=
  fun a w hs => wpIn_cond_split (hs.ev hc) (fun e => h1 e a w hs) (fun e => h2 e a w hs)
theorem ti_region {id : Nat} {l : List Oper} (h : TLI F n C l.toArray E Fs M l Q) : TI F n C E Fs M (.region id l.toArray false) Q := fun a w hs => wpIn_region_lit (h a w hs)
theorem tli_nil (h : QT C E Fs M (Q .normal)) : TLI F n C ops E Fs M [] Q := h
theorem qi_then_code {y : Code} (h : TI F n C E Fs M y Q) : QT C E Fs M (Exit.then (y.wpIn F n C.P Q) Q .normal) := h
theorem ti_cut {X : Type} (St : X → List (Nat × Value) × List Fact × List Own) (I : X → Prop) {c : Code} (h : TI F n C E Fs M c (Cut C St I Q)) (k : ∀ x, I x → QT C (St x).1 (St x).2.1 (St x).2.2 (Q .normal)) : TI F n C E Fs M c Q :=
  fun a w hs => wpIn_mono (h a w hs) fun e a' w' q => by
    cases e with
    | normal => obtain ⟨x, hx, hs'⟩ := q; exact k x hx a' w' hs'
    | exit id => exact q
    | goto l => exact q
    | ret => exact q
    | panic ch => exact q
    | outgrown => exact q
/-- An operation that calls nobody. -/
structure Calm (P : Program) (o : Oper) : Prop where
  about : ∀ w ρ, o.about P w ρ = none
  plain : ∀ (F : Fence) (ρ : Operand → Value), o.semAt F.round ρ = execOp ρ o
  value : ∀ ρ w x w', (execOp ρ o).run P w = .ok x w' → (∃ v, x = .value v) ∨ x = .skip
theorem Calm.wpIn {o : Oper} (hc : Calm C.P o) {a : Act} {w : World} {J : Act → World → Prop} (h : o.wp C.P a w J (fun _ _ _ => False)) : o.wpIn F n C.P a w J Q := by
  refine ⟨fun f hf => (by rw [hc.about] at hf; cases hf), ?_⟩
  rw [hc.plain]
  unfold Oper.wp at h
  cases hr : (execOp a.eval o).run C.P w with
  | ok x w' =>
    rw [hr] at h
    rcases hc.value _ _ _ _ hr with ⟨v, rfl⟩ | rfl
    · exact h
    · exact h
  | halt x w' =>
    rw [hr] at h
    exfalso
    cases x <;> first | exact h | exact h.elim | exact (h : False)
theorem tli_g {o : Oper} {rest : List Oper} (XI : List Nat) (hg : o.guard = none) (hc : Calm C.P o) (h : GOp C XI E Fs M o (fun E' F' M' => TLI F n C ops E' F' M' rest Q)) : TLI F n C ops E Fs M (o :: rest) Q :=
  fun a w hs => wpListIn_plain hg fun K hK => hc.wpIn (h a w hs K (fun _ _ _ => False) fun E' F' M' a' w' hk hs' _ _ => hK a' w' (hk a' w' hs'))
theorem tli_d {op : Op} {d : Nat} {ty : TypeId} {pos : String} {after : Array Edge} {rest : List Oper} (hn : Nat.blt d C.n = true) (hc : Calm C.P { dst := some d, op, type := ty, pos, after, guard := none }) (h : DOp C [] E Fs M op d (fun E' F' M' => TLI F n C ops E' F' M' rest Q)) :
    TLI F n C ops E Fs M ({ dst := some d, op, type := ty, pos, after, guard := none } :: rest) Q :=
  tli_g [] rfl hc (DOp.gop (o := { dst := some d, op, type := ty, pos, after, guard := none }) rfl hn h)
/-! ### A region in any order, all its operations calm and unguarded: each order tried -/
def TAI (F : Fence) (n : Nat) (C : Cx) (ops : Array Oper) (fuel : Nat) (listed : Array Bool) (E : List (Nat × Value)) (Fs : List Fact) (M : List Own) (Q : Exit → Act → World → Prop) : Prop :=
  ∀ a w, OKst C E Fs M a w → wpAnyIn F n C.P .any ops Q fuel listed a w
theorem ti_any {id : Nat} {l : List Oper} (hm : C.P.follows .mixedOrders = true) (h : TAI F n C l.toArray l.length (Array.replicate l.length false) E Fs M Q) : TI F n C E Fs M (.region id l.toArray true) Q := fun a w hs =>
  wpIn_region_any hm (by
    have := h a _ (hs.grow (Step.drew w none))
    simpa using this)
theorem tai_done {listed : Array Bool} (hrs : Region.ready .any ops listed = []) (h : QT C E Fs M (Q .normal)) : TAI F n C ops 0 listed E Fs M Q := fun a w hs => ⟨hrs, h a w hs⟩
theorem tai_step {rs : List Nat} {fuel : Nat} {listed : Array Bool} (hrs : Region.ready .any ops listed = rs) (hne : rs ≠ [])
    (h : ∀ i ∈ rs, ∃ op d ty pos after, ops[i]? = some { dst := some d, op, type := ty, pos, after, guard := none } ∧ Nat.blt d C.n = true ∧ Calm C.P { dst := some d, op, type := ty, pos, after, guard := none } ∧ DOp C [] E Fs M op d (fun E' F' M' => TAI F n C ops fuel (listed.setIfInBounds i true) E' F' M' Q)) : TAI F n C ops (fuel + 1) listed E Fs M Q :=
  fun a w hs => by
    refine ⟨fun h0 => absurd (hrs ▸ h0) hne, fun i hi => ?_⟩
    obtain ⟨op, d, ty, pos, after, h1, h2, h3, h4⟩ := h i (hrs ▸ hi)
    unfold wpOpIn
    simp only [h1]
    rw [if_pos (by simp [Region.wanted])]
    exact h3.wpIn (DOp.gop (o := { dst := some d, op, type := ty, pos, after, guard := none }) rfl h2 h4 a w hs _ _ fun E' F' M' a' w' hk hs' _ _ => hk a' w' hs')
end
/-! ### Operations that call nobody -/
theorem andThen_val {P : Program} {s : Sem Value} {w w' : World} {x : Next} (h : (s.run P w).andThen (fun v u => Result.ok (Next.value v) u) = .ok x w') : ∃ v, x = .value v := by
  cases hr : s.run P w with
  | ok v u => rw [hr] at h; simp at h; exact ⟨v, h.1.symm⟩
  | halt v u => rw [hr] at h; simp [Result.andThen] at h
section
variable {P : Program} {dst : Option Nat} {ty : TypeId} {pos : String} {after : Array Edge} {g : Option (Nat × Bool)} {x y z : Operand} {t u : TypeId} {b : Bool}
theorem calm_load : Calm P { dst, op := .load t x, type := ty, pos, after, guard := g } := by
  exact ⟨fun w ρ => by simp [Oper.about, resolve, Target.leads, Sem.run_pure], fun F ρ => Oper.semAt_plain F ρ _ (by intro c hc; cases hc), fun ρ w x w' h => by
    simp only [execOp, Sem.run_bind, Sem.run_pure, resolve, Result.andThen_ok, invoke, builtin] at h
    first
    | exact .inl (andThen_val h)
    | (cases h; exact .inl ⟨_, rfl⟩)
    | (refine .inr ?_; revert h; cases Sem.run _ _ _ <;> simp [Result.andThen] <;> (intro a b; exact a.symm))⟩
theorem calm_extract {j : Nat} : Calm P { dst, op := .extract x j, type := ty, pos, after, guard := g } := by
  exact ⟨fun w ρ => by simp [Oper.about, resolve, Target.leads, Sem.run_pure], fun F ρ => Oper.semAt_plain F ρ _ (by intro c hc; cases hc), fun ρ w x w' h => by
    simp only [execOp, Sem.run_bind, Sem.run_pure, resolve, Result.andThen_ok, invoke, builtin] at h
    first
    | exact .inl (andThen_val h)
    | (cases h; exact .inl ⟨_, rfl⟩)
    | (refine .inr ?_; revert h; cases Sem.run _ _ _ <;> simp [Result.andThen] <;> (intro a b; exact a.symm))⟩
theorem calm_entry : Calm P { dst, op := .entry x, type := ty, pos, after, guard := g } := by
  exact ⟨fun w ρ => by simp [Oper.about, resolve, Target.leads, Sem.run_pure], fun F ρ => Oper.semAt_plain F ρ _ (by intro c hc; cases hc), fun ρ w x w' h => by
    simp only [execOp, Sem.run_bind, Sem.run_pure, resolve, Result.andThen_ok, invoke, builtin] at h
    first
    | exact .inl (andThen_val h)
    | (cases h; exact .inl ⟨_, rfl⟩)
    | (refine .inr ?_; revert h; cases Sem.run _ _ _ <;> simp [Result.andThen] <;> (intro a b; exact a.symm))⟩
theorem calm_un {o : UnOp} : Calm P { dst, op := .unOp o t x, type := ty, pos, after, guard := g } := by
  exact ⟨fun w ρ => by simp [Oper.about, resolve, Target.leads, Sem.run_pure], fun F ρ => Oper.semAt_plain F ρ _ (by intro c hc; cases hc), fun ρ w x w' h => by
    simp only [execOp, Sem.run_bind, Sem.run_pure, resolve, Result.andThen_ok, invoke, builtin] at h
    first
    | exact .inl (andThen_val h)
    | (cases h; exact .inl ⟨_, rfl⟩)
    | (refine .inr ?_; revert h; cases Sem.run _ _ _ <;> simp [Result.andThen] <;> (intro a b; exact a.symm))⟩
theorem calm_move : Calm P { dst, op := .move x, type := ty, pos, after, guard := g } := by
  exact ⟨fun w ρ => by simp [Oper.about, resolve, Target.leads, Sem.run_pure], fun F ρ => Oper.semAt_plain F ρ _ (by intro c hc; cases hc), fun ρ w x w' h => by
    simp only [execOp, Sem.run_bind, Sem.run_pure, resolve, Result.andThen_ok, invoke, builtin] at h
    first
    | exact .inl (andThen_val h)
    | (cases h; exact .inl ⟨_, rfl⟩)
    | (refine .inr ?_; revert h; cases Sem.run _ _ _ <;> simp [Result.andThen] <;> (intro a b; exact a.symm))⟩
theorem calm_assign : Calm P { dst, op := .assign x, type := ty, pos, after, guard := g } := by
  exact ⟨fun w ρ => by simp [Oper.about, resolve, Target.leads, Sem.run_pure], fun F ρ => Oper.semAt_plain F ρ _ (by intro c hc; cases hc), fun ρ w x w' h => by
    simp only [execOp, Sem.run_bind, Sem.run_pure, resolve, Result.andThen_ok, invoke, builtin] at h
    first
    | exact .inl (andThen_val h)
    | (cases h; exact .inl ⟨_, rfl⟩)
    | (refine .inr ?_; revert h; cases Sem.run _ _ _ <;> simp [Result.andThen] <;> (intro a b; exact a.symm))⟩
theorem calm_alloc : Calm P { dst, op := .alloc t, type := ty, pos, after, guard := g } := by
  exact ⟨fun w ρ => by simp [Oper.about, resolve, Target.leads, Sem.run_pure], fun F ρ => Oper.semAt_plain F ρ _ (by intro c hc; cases hc), fun ρ w x w' h => by
    simp only [execOp, Sem.run_bind, Sem.run_pure, resolve, Result.andThen_ok, invoke, builtin] at h
    first
    | exact .inl (andThen_val h)
    | (cases h; exact .inl ⟨_, rfl⟩)
    | (refine .inr ?_; revert h; cases Sem.run _ _ _ <;> simp [Result.andThen] <;> (intro a b; exact a.symm))⟩
theorem calm_box : Calm P { dst, op := .box t x, type := ty, pos, after, guard := g } := by
  exact ⟨fun w ρ => by simp [Oper.about, resolve, Target.leads, Sem.run_pure], fun F ρ => Oper.semAt_plain F ρ _ (by intro c hc; cases hc), fun ρ w x w' h => by
    simp only [execOp, Sem.run_bind, Sem.run_pure, resolve, Result.andThen_ok, invoke, builtin] at h
    first
    | exact .inl (andThen_val h)
    | (cases h; exact .inl ⟨_, rfl⟩)
    | (refine .inr ?_; revert h; cases Sem.run _ _ _ <;> simp [Result.andThen] <;> (intro a b; exact a.symm))⟩
theorem calm_store : Calm P { dst, op := .store t x y, type := ty, pos, after, guard := g } := by
  exact ⟨fun w ρ => by simp [Oper.about, resolve, Target.leads, Sem.run_pure], fun F ρ => Oper.semAt_plain F ρ _ (by intro c hc; cases hc), fun ρ w x w' h => by
    simp only [execOp, Sem.run_bind, Sem.run_pure, resolve, Result.andThen_ok, invoke, builtin] at h
    first
    | exact .inl (andThen_val h)
    | (cases h; exact .inl ⟨_, rfl⟩)
    | (refine .inr ?_; revert h; cases Sem.run _ _ _ <;> simp [Result.andThen] <;> (intro a b; exact a.symm))⟩
theorem calm_lookup : Calm P { dst, op := .lookup t x y b, type := ty, pos, after, guard := g } := by
  exact ⟨fun w ρ => by simp [Oper.about, resolve, Target.leads, Sem.run_pure], fun F ρ => Oper.semAt_plain F ρ _ (by intro c hc; cases hc), fun ρ w x w' h => by
    simp only [execOp, Sem.run_bind, Sem.run_pure, resolve, Result.andThen_ok, invoke, builtin] at h
    first
    | exact .inl (andThen_val h)
    | (cases h; exact .inl ⟨_, rfl⟩)
    | (refine .inr ?_; revert h; cases Sem.run _ _ _ <;> simp [Result.andThen] <;> (intro a b; exact a.symm))⟩
theorem calm_field {j : Nat} : Calm P { dst, op := .field t x j, type := ty, pos, after, guard := g } := by
  exact ⟨fun w ρ => by simp [Oper.about, resolve, Target.leads, Sem.run_pure], fun F ρ => Oper.semAt_plain F ρ _ (by intro c hc; cases hc), fun ρ w x w' h => by
    simp only [execOp, Sem.run_bind, Sem.run_pure, resolve, Result.andThen_ok, invoke, builtin] at h
    first
    | exact .inl (andThen_val h)
    | (cases h; exact .inl ⟨_, rfl⟩)
    | (refine .inr ?_; revert h; cases Sem.run _ _ _ <;> simp [Result.andThen] <;> (intro a b; exact a.symm))⟩
theorem calm_bin {o : BinOp} : Calm P { dst, op := .binOp o t x y u, type := ty, pos, after, guard := g } :=
  ⟨fun w ρ => by simp [Oper.about], fun F ρ => Oper.semAt_plain F ρ _ (by intro c hc; cases hc), fun ρ w x w' h => by
    simp only [execOp, Sem.run_bind, Sem.run_pure] at h
    cases hg : (eqGuard o t _ _ (ρ _) (ρ _)).run P w with
    | ok u v => rw [hg] at h; simp only [Result.andThen_ok] at h; exact .inl (andThen_val h)
    | halt u v => rw [hg] at h; simp [Result.andThen] at h⟩
theorem calm_buildSlice {n : Nat} {parts : Array (Nat × Operand)} : Calm P { dst, op := .buildSlice t n parts, type := ty, pos, after, guard := g } := by
  exact ⟨fun w ρ => by simp [Oper.about, resolve, Target.leads, Sem.run_pure], fun F ρ => Oper.semAt_plain F ρ _ (by intro c hc; cases hc), fun ρ w x w' h => by
    simp only [execOp, Sem.run_bind, Sem.run_pure, resolve, Result.andThen_ok, invoke, builtin] at h
    first
    | exact .inl (andThen_val h)
    | (cases h; exact .inl ⟨_, rfl⟩)
    | (refine .inr ?_; revert h; cases Sem.run _ _ _ <;> simp [Result.andThen] <;> (intro a b; exact a.symm))⟩
theorem calm_append {ats : Array TypeId} : Calm P { dst, op := .call { callee := .builtin .append, args := #[x, y], argTypes := ats }, type := ty, pos, after, guard := g } := by
  exact ⟨fun w ρ => by simp [Oper.about, resolve, Target.leads, Sem.run_pure], fun F ρ => Oper.semAt_plain F ρ _ (by intro c hc; cases hc), fun ρ w x w' h => by
    simp only [execOp, Sem.run_bind, Sem.run_pure, resolve, Result.andThen_ok, invoke, builtin] at h
    first
    | exact .inl (andThen_val h)
    | (cases h; exact .inl ⟨_, rfl⟩)
    | (refine .inr ?_; revert h; cases Sem.run _ _ _ <;> simp [Result.andThen] <;> (intro a b; exact a.symm))⟩
end
end Go.Cf
