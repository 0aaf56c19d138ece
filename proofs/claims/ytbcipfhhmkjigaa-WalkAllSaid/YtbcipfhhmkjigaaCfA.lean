/- Small rules that printed proofs name. -/
import Derived.Test.YtbcipfhhmkjigaaCf9
set_option linter.unusedVariables false
set_option linter.unusedSimpArgs false
namespace Go.Cf
open Go Go.RowKit
variable {α β γ δ : Type}
theorem bool_tf (b : Bool) : b = true ∨ b = false := by cases b <;> simp
theorem toNat_lt {j : Int} {n : Nat} (h : 0 ≤ j ∧ j < n) : j.toNat < n := by omega
def widens (k k' : IntKind) : Bool := (k.signed == k'.signed && Nat.ble k.bits k'.bits) || (!k.signed && k'.signed && Nat.blt k.bits k'.bits)
theorem wrap_widen {k k' : IntKind} {a : Int} (h : widens k k' = true) (ha : k.wrap a = a) : k'.wrap a = a := by
  cases k <;> cases k' <;> simp [widens, IntKind.signed, IntKind.bits, IntKind.wrap, Nat.blt, Nat.ble] at h ha ⊢ <;> omega
theorem wrap_lenu {n : Nat} (h : n ≤ maxB) : IntKind.u64.wrap (n : Int) = n := by
  unfold maxB at h
  simp only [IntKind.wrap, IntKind.signed, IntKind.bits]
  simp
  omega
theorem ownres_nil {R : Rep α} {k : Nat} {w w' : World} {m : List Nat} : OwnRes R k w w' m (.slice none 0 0) ([] : List α) :=
  ⟨fun b hb => (by cases hb), fun m' _ => ⟨by simp, by simp, .inl ⟨none, rfl, rfl⟩⟩⟩
def placesOf (P : Program) (t : TypeId) : Option (List (Nat × Nat)) := match P.underlying t with
  | some (.struct fs) => fs.toList.mapM (fun f => (P.info? f.type).map fun i => (f.offset, i.size))
  | _ => none
section
variable {C : Cx} {XI : List Nat} {E : List (Nat × Value)} {F : List Fact} {M : List Own} {d : Nat} {K : Cont} {Q : Exit → Act → World → Prop} {ops : Array Oper} {n : Nat}
theorem d_conv_id {x : Operand} {k k' : IntKind} {a : Int} {t t' : TypeId} {s : TypeDesc} (hs : C.P.underlying t = some s) (ht : C.P.underlying t' = some (.int k')) (hx : ev E x = some (.int k a)) (he : k'.wrap a = a) (h : K ((d, .int k' a) :: E) F M) : DOp C XI E F M (.convert t t' x) d K :=
  d_conv hs ht hx (by rw [he]; exact h)
theorem d_build2 {t : TypeId} {parts : List (Nat × Operand)} {R : Rep α} {n : Nat} {y : α} {places : List (Nat × Nat)} (hT : TyOk C.P t R n) (hag : R.agg = true) (hpl : placesOf C.P t = some places)
    (hb : BuildOk C E F (fun i => places.toArray[i]?) R parts R.zeroD y) (k : ∀ v, K ((d, v) :: E) (R.fact v y :: F) M) : DOp C XI E F M (.build t parts.toArray) d K := by
  unfold placesOf at hpl
  split at hpl
  · next fs hu => exact d_build hT hag hu hpl hb k
  · cases hpl
theorem t_cond_true {c : Operand} {x y : Code} {t : Bool} (hc : ev E c = some (.bool t)) (ht : t = true) (h1 : T C E F M x Q) : T C E F M (.cond c x y) Q :=
  t_cond hc (fun _ => h1) (fun e => by rw [ht] at e; cases e)
theorem t_cond_false {c : Operand} {x y : Code} {t : Bool} (hc : ev E c = some (.bool t)) (ht : t = false) (h1 : T C E F M y Q) : T C E F M (.cond c x y) Q :=
  t_cond hc (fun e => by rw [ht] at e; cases e) (fun _ => h1)
theorem q_fact {J : Act → World → Prop} (f : Fact) (hf : ∀ w m, f.p w m) (h : QT C E (f :: F) M J) : QT C E F M J := fun a w hs => h a w (hs.more f (hf _ _))
theorem q_int {J : Act → World → Prop} {k : IntKind} {v : Value} {x : Int} (hf : (rInt k).fact v x ∈ F) (h : v = .int k x → k.wrap x = x → QT C E F M J) : QT C E F M J :=
  fun a w hs => by obtain ⟨h1, h2⟩ := val_int (hs.fact hf); exact h h1 h2 a w hs
theorem q_bool {J : Act → World → Prop} {v : Value} {x : Bool} (hf : rBool.fact v x ∈ F) (h : v = .bool x → QT C E F M J) : QT C E F M J :=
  fun a w hs => h (val_bool (hs.fact hf)) a w hs
theorem q_freezebox {J : Act → World → Prop} {R : Rep α} {b : Nat} {x : α} (i : Nat) (hi : M[i]? = some (Own.box b R x)) (h : QT C E (R.place ⟨b, 0, none⟩ x :: F) (M.set i Own.gone) J) : QT C E F M J :=
  fun a w hs => h a w (freezebox_st hs hi)
theorem sub_place {R : Rep α} {S : Rep β} {b off : Nat} {y : α} {pre : α → Prop} {get : α → β} {set : α → β → α} (hS : Fld R off S pre get set) (hp : pre y) {w : World} {m : List Nat} (h : R.at_ w m ⟨b, 0, none⟩ y) : S.at_ w m ⟨b, off, none⟩ (get y) := by
  obtain ⟨cs, h1, h2⟩ := h
  obtain ⟨x, z, c, e, h3, h4, _⟩ := hS.cut h1 hp
  subst e
  have := h2.sub
  rw [h3, addr_add _ _ rfl] at this
  exact ⟨z, h4, by simpa using this⟩
theorem tl_sub {os : List Oper} {R : Rep α} {S : Rep β} {b off : Nat} {y : α} {pre : α → Prop} {get : α → β} {set : α → β → α} (hf : R.place ⟨b, 0, none⟩ y ∈ F) (hS : Fld R off S pre get set) (hp : pre y) (h : TL C ops E (S.place ⟨b, off, none⟩ (get y) :: F) M os Q) : TL C ops E F M os Q :=
  fun a w hs => h a w (hs.more _ (sub_place hS hp (hs.place hf)))
theorem ta_sub {fuel : Nat} {listed : Array Bool} {R : Rep α} {S : Rep β} {b off : Nat} {y : α} {pre : α → Prop} {get : α → β} {set : α → β → α} (hf : R.place ⟨b, 0, none⟩ y ∈ F) (hS : Fld R off S pre get set) (hp : pre y) (h : TA C ops n XI fuel listed E (S.place ⟨b, off, none⟩ (get y) :: F) M Q) : TA C ops n XI fuel listed E F M Q :=
  ta_st (fun _ _ hs => hs.more _ (sub_place hS hp (hs.place hf))) h
theorem q_sub {J : Act → World → Prop} {R : Rep α} {S : Rep β} {b off : Nat} {y : α} {pre : α → Prop} {get : α → β} {set : α → β → α} (hf : R.place ⟨b, 0, none⟩ y ∈ F) (hS : Fld R off S pre get set) (hp : pre y) (h : QT C E (S.place ⟨b, off, none⟩ (get y) :: F) M J) : QT C E F M J :=
  fun a w hs => h a w (hs.more _ (sub_place hS hp (hs.place hf)))
theorem g_callo3 {f : FuncId} {xs : List Operand} {ats : Array TypeId} {vs : List Value} {pre : World → List Nat → Prop} {ty : TypeId} {pos : String} {after : Array Edge} {gd : Option (Nat × Bool)} {R : Rep α} {S : Rep β} {T : Rep γ} {k' : Nat} {r : List α × β × γ} (hn : Nat.blt d C.n = true) (hfn : HasFn C.P f) (hc : FnX C.dr C.P f vs pre (fun w w' m v => ∃ v0 v1 v2, v = .tuple #[v0, v1, v2] ∧ OwnRes R k' w w' m v0 r.1 ∧ ∀ m', (∀ b, b ∈ m' → b ∈ m ∨ bufBlk v0 = some b) → S.val w' m' v1 r.2.1 ∧ T.val w' m' v2 r.2.2)) (he : Evs E xs vs) (hpre : ∀ a w, OKst C E F M a w → pre w (C.m0 ++ Blocks M))
    (k : ∀ v0 v1 v2, K ((d, .tuple #[v0, v1, v2]) :: E) (S.fact v1 r.2.1 :: T.fact v2 r.2.2 :: F) (M ++ [Own.buf v0 k' R r.1])) : GOp C XI E F M { dst := some d, op := .call { callee := .value (.func f), args := xs.toArray, argTypes := ats }, type := ty, pos, after, guard := gd } K :=
  g_call_own1 (Z := fun us => ∃ v1 v2, us = [v1, v2]) (fs := fun us => match us with | [v1, v2] => [S.fact v1 r.2.1, T.fact v2 r.2.2] | _ => []) hn hfn hc he hpre (fun _ _ _ v h => by
    obtain ⟨v0, v1, v2, rfl, h1, h2⟩ := h
    refine ⟨v0, [v1, v2], rfl, ⟨v1, v2, rfl⟩, h1, fun m' hm' f hf => ?_⟩
    simp only [List.mem_cons, List.not_mem_nil, or_false] at hf
    rcases hf with rfl | rfl
    · exact (h2 m' hm').1
    · exact (h2 m' hm').2) (fun v0 us hus => by obtain ⟨v1, v2, rfl⟩ := hus; exact k v0 v1 v2)
end
end Go.Cf
