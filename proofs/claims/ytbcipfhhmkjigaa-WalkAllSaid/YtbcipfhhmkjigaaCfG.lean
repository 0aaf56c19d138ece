/- Variables that hold a value as it is; maps.Keys. -/
import Derived.Test.YtbcipfhhmkjigaaCfF
set_option linter.unusedVariables false
set_option linter.unusedSimpArgs false
namespace Go.Cf
open Go Go.RowKit
variable {α β γ δ : Type}
/-- One cell that holds just that value. -/
def rVal (z : Value) (hz : one1 z = true) : Rep Value where
  size := 1
  agg := false
  zero := [z]
  zeroD := z
  ok := fun _ _ cs x => cs = [x] ∧ one1 x = true
  len := fun h => by simp [h.1]
  one := fun h c hc => by rw [h.1] at hc; simp at hc; rw [hc]; exact h.2
  sc := fun _ => rfl
  mono := fun _ h => h
  zok := fun _ _ => ⟨rfl, hz⟩
theorem val_val {z : Value} {hz : one1 z = true} {w : World} {m : List Nat} {v x : Value} (h : (rVal z hz).val w m v x) : v = x := by
  obtain ⟨cs, ⟨rfl, _⟩, rfl⟩ := h
  rfl
theorem hv_val {C : Cx} {Fs : List Fact} {z : Value} {hz : one1 z = true} {x : Value} (h : one1 x = true) : HasV C Fs (rVal z hz) x x := fun _ _ _ _ _ => ⟨[x], ⟨rfl, h⟩, rfl⟩
section
variable {C : Cx} {XI : List Nat} {E : List (Nat × Value)} {F : List Fact} {M : List Own} {d : Nat} {K : Cont}
theorem d_load_val {x : Operand} {b : Nat} {z : Value} {hz : one1 z = true} {y : Value} {t n : Nat} (i : Nat) (hx : ev E x = some (.pointer (some ⟨b, 0, none⟩))) (hm : M[i]? = some (Own.box b (rVal z hz) y)) (hT : TyOk C.P t (rVal z hz) n) (hi : nin i XI = true) (h : K ((d, y) :: E) F M) : DOp C XI E F M (.load t x) d K :=
  DOp.of_fact (fun K' hK => d_load_box (K := K') i hx hm (Fld.self (rVal z hz)) trivial hT hi hK) (fun v => v = y) (fun _ _ _ hv => val_val hv) (fun v hv => by subst hv; exact h)
/-- 'maps.Keys(m)': a function value over a new block that holds the map. -/
theorem g_keys {f g : FuncId} {t : TypeId} {RK : Rep α} {RV : Rep β} {x : Operand} {v : Value} {y : List (α × β)} {ats : Array TypeId} {ty : TypeId} {pos : String} {after : Array Edge} {gd : Option (Nat × Bool)} (hn : Nat.blt d C.n = true) (hfn : HasFn C.P f) (hdr : C.dr = false)
    (hc : ∀ (mb : Option Nat) (w : World), Calls C.P f #[.map mb] w fun e w' => e = .returned (.func (.func g) #[] #[.pointer (some ⟨w.heap.size, 0, none⟩)]) ∧ ∃ q, w' = { w.alloc (.cells #[.map mb] t) with drawn := q }) (hx : ev E x = some v) (hv : HasV C F (rMp RK RV) v y)
    (k : ∀ b, K ((d, .func (.func g) #[] #[.pointer (some ⟨b, 0, none⟩)]) :: E) F (M ++ [Own.box b (rMp RK RV) y])) : GOp C XI E F M { dst := some d, op := .call { callee := .value (.func f), args := [x].toArray, argTypes := ats }, type := ty, pos, after, guard := gd } K := by
  intro a w hs J Q hJ
  obtain ⟨fn, h1, h2, bd, h3⟩ := hfn
  have hr : (execOp a.eval { dst := some d, op := .call { callee := .value (.func f), args := [x].toArray, argTypes := ats }, type := ty, pos, after, guard := gd }).run C.P w = .ok (.enter f #[v]) w := by
    rw [execOp_call_go]
    have : #[] ++ [x].toArray.map a.eval ++ #[] = #[v] := by simp [hs.ev hx]
    rw [this]
    simp [callFunc, h1, h2, h3]
  unfold Oper.wp
  rw [hr]
  simp only [Oper.upon]
  obtain ⟨cs, f1, f2⟩ := hv E M a w hs
  obtain ⟨mb, rfl, rfl⟩ : ∃ mb, cs = [.map mb] ∧ v = .map mb := by
    rcases f1 with ⟨rfl, _⟩ | ⟨b, rfl, _⟩
    · exact ⟨none, rfl, f2⟩
    · exact ⟨some b, rfl, f2⟩
  refine (hc mb w).mono ?_
  rintro e w' ⟨rfl, q, rfl⟩
  have g1 : Step C.dr w { w.alloc (.cells #[.map mb] t) with drawn := q } none := ⟨rfl, rfl, rfl, (by show w.heap.size ≤ (w.alloc _).heap.size; simp), fun b hb _ => Below.heap_alloc _ _ _ hb, fun e => by rw [hdr] at e; cases e⟩
  refine hJ _ _ _ _ _ (k w.heap.size) (push_g (o := { dst := some d, op := .call { callee := .value (.func f), args := [x].toArray, argTypes := ats }, type := ty, pos, after, guard := gd }) (fun a' => put_env hn _ a') hs g1 (fun b hb => by cases hb; exact ⟨Nat.le_refl _, by show w.heap.size < (w.alloc _).heap.size; simp⟩) (fun m' hg _ _ => ?_)) (g1.same (by intro b hb; cases hb)) (fun b hb => ?_)
  · exact ⟨#[.map mb], t, alloc_new w _, (rMp RK RV).mono hg (by simpa using f1)⟩
  · rcases xs_push hb with h | h
    · exact .inl h
    · cases h; exact .inr (Nat.le_refl _)
end
end Go.Cf
