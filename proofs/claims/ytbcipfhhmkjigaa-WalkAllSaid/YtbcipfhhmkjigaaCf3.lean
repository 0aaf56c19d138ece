/- Rules for operations that read memory. -/
import Derived.Test.YtbcipfhhmkjigaaCf2
set_option linter.unusedVariables false
set_option linter.unusedSimpArgs false
namespace Go.Cf
open Go Go.RowKit
variable {α β : Type}

/-- Is a value of such a type an 'agg'? -/
def aggDesc : TypeDesc → Bool
  | .struct _ => true
  | .array _ _ => true
  | _ => false
/-- What the table of types says of type t, whose data are of kind R: its cells, its zero, its bytes. -/
structure TyOk (P : Program) (t : TypeId) (R : Rep α) (bytes : Nat) : Prop where
  info : ∃ i, P.info? t = some i ∧ i.size = R.size ∧ i.zero = some (R.mk' R.zero) ∧ i.bytes = bytes
  agg : ∃ dsc, P.underlying t = some dsc ∧ aggDesc dsc = R.agg

section
variable {P : Program} {t : TypeId} {R : Rep α} {n : Nat}
theorem TyOk.run_size (h : TyOk P t R n) (w : World) : (sizeOf t).run P w = .ok R.size w := by
  obtain ⟨i, h1, h2, _⟩ := h.info
  simp [sizeOf, typeInfo, h1, h2]
theorem TyOk.run_zero (h : TyOk P t R n) (w : World) : (zeroValue t).run P w = .ok (R.mk' R.zero) w := by
  obtain ⟨i, h1, _, h2, _⟩ := h.info
  simp [zeroValue, typeInfo, h1, h2]
theorem TyOk.run_info (h : TyOk P t R n) (w : World) : ∃ i, (typeInfo t).run P w = .ok i w ∧ i.bytes = n ∧ i.size = R.size ∧ i.zero = some (R.mk' R.zero) := by
  obtain ⟨i, h1, h2, h3, h4⟩ := h.info
  exact ⟨i, by simp [typeInfo, h1], h4, h2, h3⟩
theorem TyOk.run_agg (h : TyOk P t R n) (w : World) : (isAgg t).run P w = .ok R.agg w := by
  obtain ⟨dsc, h1, h2⟩ := h.agg
  rw [← h2]
  simp only [isAgg, Sem.run_bind, run_underlying h1, Result.andThen_ok]
  cases dsc <;> rfl
end

theorem ty_of {P : Program} {t : TypeId} {R : Rep α} {n : Nat} {dsc : TypeDesc} (h : (P.info? t).map (fun i => (i.size, i.zero, i.bytes)) = some (R.size, some (R.mk' R.zero), n)) (hu : P.underlying t = some dsc) (ha : aggDesc dsc = R.agg) : TyOk P t R n := by
  cases hi : P.info? t with
  | none => simp [hi] at h
  | some i =>
    simp [hi] at h
    exact ⟨⟨i, hi, h.1, h.2.1, h.2.2⟩, ⟨dsc, hu, ha⟩⟩

theorem mk_agg {R : Rep α} {cs : List Value} (h : R.agg = true) : R.mk' cs = .agg cs.toArray := by simp [Rep.mk', h]
theorem mk_one {R : Rep α} {c : Value} (h : R.agg = false) : R.mk' [c] = c := by simp [Rep.mk', h]

/-- Reading cells that lie there. -/
theorem run_loadVar {P : Program} {w : World} {t : TypeId} {R : Rep α} {n : Nat} {p : Addr} {cs : List Value} (hT : TyOk P t R n) (hl : cs.length = R.size)
    (hc : ∀ i (hi : i < cs.length), w.cell? (p.add i) = some cs[i]) : (loadVar t p).run P w = .ok (R.mk' cs) w := by
  unfold loadVar
  simp only [Sem.run_bind, hT.run_agg, Result.andThen_ok]
  cases hag : R.agg with
  | true =>
    simp only [if_true, Sem.run_bind, hT.run_size, Result.andThen_ok]
    rw [← hl, run_loadCells_list w p cs (fun j v hj => by
      obtain ⟨hlt, rfl⟩ := List.getElem?_eq_some_iff.1 hj
      exact hc j hlt)]
    simp [mk_agg hag]
  | false =>
    have h1 := R.sc hag
    match cs, hl, hc with
    | [c], _, hc =>
      have := hc 0 (by simp)
      simp [Addr.add] at this
      simp [this, mk_one hag]
    | [], hl, _ => simp [h1] at hl
    | _ :: _ :: _, hl, _ => simp [h1] at hl

theorem MemAt.same {w w' : World} {m X : List Nat} {a : Addr} {cs : List Value} (h : MemAt w m a cs) (g : SameX X w w') (hX : ∀ b ∈ X, b ∈ m) : MemAt w' m a cs := by
  obtain ⟨h1, h2, c, T, fr, h3, h4⟩ := h
  exact ⟨h1, h2, c, T, fr, by rw [g.2 _ (lt_of_get h3) (fun hb => h2 (hX _ hb))]; exact h3, h4⟩

theorem mem_Xs {XI : List Nat} {M : List Own} {b : Nat} (h : b ∈ Xs XI M) : b ∈ Blocks M := by
  unfold Xs at h
  obtain ⟨i, _, h⟩ := List.mem_filterMap.1 h
  obtain ⟨o, h1, h2⟩ := Option.bind_eq_some_iff.1 h
  exact List.mem_filterMap.2 ⟨o, List.mem_of_getElem? h1, h2⟩

/-- Is the place not among those that are written? -/
def nin (i : Nat) : List Nat → Bool
  | [] => true
  | j :: r => !Nat.beq j i && nin i r
theorem nin_spec {i : Nat} : ∀ {l : List Nat}, nin i l = true → i ∉ l
  | [], _, h => by cases h
  | j :: r, h, hm => by
    simp only [nin, Bool.and_eq_true, Bool.not_eq_true'] at h
    rcases List.mem_cons.1 hm with rfl | hm
    · simp at h
    · exact nin_spec h.2 hm
theorem not_mem_Xs {XI : List Nat} {M : List Own} (hn : Apart M) {i : Nat} {o : Own} {b : Nat} (hi : M[i]? = some o) (hb : o.blk = some b) (hx : nin i XI = true) : b ∉ Xs XI M := by
  intro h
  obtain ⟨j, hj, h⟩ := List.mem_filterMap.1 h
  obtain ⟨o', h1, h2⟩ := Option.bind_eq_some_iff.1 h
  have := hn _ _ _ _ _ hi h1 hb h2
  subst this
  exact nin_spec hx hj

section
variable {C : Cx} {XI : List Nat} {E : List (Nat × Value)} {F : List Fact} {M : List Own} {d : Nat} {K : Cont}

/-- An operation whose value the frozen memory decides. -/
theorem DOp.mem {op : Op} (v : Value → Prop) (fs : Value → List Fact)
    (h : ∀ a w, OKst C E F M a w → ∃ u, v u ∧ (∀ f ∈ fs u, f.p w (C.m0 ++ Blocks M)) ∧ ∀ w', SameX (Xs XI M) w w' → ∀ o : Oper, o.op = op → (execOp a.eval o).run C.P w' = .ok (.value u) w')
    (k : ∀ u, v u → K ((d, u) :: E) (fs u ++ F) M) : DOp C XI E F M op d K := fun a w hs =>
  let ⟨u, h1, h2, h3⟩ := h a w hs
  ⟨u, fs u, h3, h2, k u h1⟩

theorem OKst.fact {a : Act} {w : World} (h : OKst C E F M a w) {R : Rep α} {v : Value} {x : α} (hf : R.fact v x ∈ F) : R.val w (C.m0 ++ Blocks M) v x := h.facts _ hf
theorem OKst.place {a : Act} {w : World} (h : OKst C E F M a w) {R : Rep α} {p : Addr} {x : α} (hf : R.place p x ∈ F) : R.at_ w (C.m0 ++ Blocks M) p x := h.facts _ hf

/-- What a fact says of a value without memory may be had at any time. -/
theorem val_int {w : World} {m : List Nat} {k : IntKind} {v : Value} {x : Int} (h : (rInt k).val w m v x) : v = .int k x ∧ k.wrap x = x := by
  obtain ⟨cs, ⟨rfl, h1⟩, h2⟩ := h
  exact ⟨h2, h1⟩
theorem val_bool {w : World} {m : List Nat} {v : Value} {x : Bool} (h : rBool.val w m v x) : v = .bool x := by
  obtain ⟨cs, h1, h2⟩ := h
  have h1 : cs = [.bool x] := h1
  subst h1
  exact h2
theorem val_str {w : World} {m : List Nat} {v : Value} {x : List Int} (h : rStr.val w m v x) : ∃ s, v = .string s ∧ x = strL s ∧ x.length ≤ maxB := by
  obtain ⟨cs, ⟨s, rfl, h1, h2⟩, h3⟩ := h
  exact ⟨s, h3, h1, h2⟩
theorem val_sl {w : World} {m : List Nat} {n : Nat} {R : Rep α} {v : Value} {x : List α} (h : (rSl n R).val w m v x) :
    ∃ base cap, v = .slice base x.length cap ∧ x.length ≤ cap ∧ cap < 2 ^ 63 ∧ x.length * n ≤ maxB ∧ x.length ≤ maxB ∧ (x = [] ∨ ∃ a, base = some a ∧ ∃ cells, Rows R w m cells x ∧ MemAt w m a cells) := by
  obtain ⟨cs, ⟨base, cap, rfl, h1⟩, h2⟩ := h
  exact ⟨base, cap, h2, h1⟩

/-! ### Lengths -/
theorem d_len_sl {x : Operand} {v : Value} {n : Nat} {R : Rep α} {l : List α} {t e : TypeId} (hx : ev E x = some v) (hf : (rSl n R).fact v l ∈ F) (hu : C.P.underlying t = some (.slice e))
    (k : l.length ≤ maxB → l.length * n ≤ maxB → K ((d, .int .i64 l.length) :: E) F M) : DOp C XI E F M (.call { callee := .builtin .len, args := #[x], argTypes := #[t] }) d K :=
  DOp.mem (fun u => u = .int .i64 l.length ∧ l.length ≤ maxB ∧ l.length * n ≤ maxB) (fun _ => []) (fun a w hs => by
    obtain ⟨base, cap, rfl, h1, h2, h3, h3', h4⟩ := val_sl (hs.fact hf)
    refine ⟨_, ⟨rfl, h3', h3⟩, by (intro f hf; cases hf), fun w' _ o ho => ?_⟩
    cases o; subst ho
    simp [execOp, resolve, hs.ev hx, invoke, builtin, Builtin.len_, run_underlying hu, goInt]) (fun u ⟨h1, h2, h3⟩ => by subst h1; exact k h2 h3)

theorem d_len_buf {x : Operand} {v : Value} {n : Nat} {R : Rep α} {l : List α} {t e : TypeId} (i : Nat) (hx : ev E x = some v) (hm : M[i]? = some (Own.buf v n R l)) (hu : C.P.underlying t = some (.slice e))
    (k : l.length ≤ maxB → l.length * n ≤ maxB → K ((d, .int .i64 l.length) :: E) F M) : DOp C XI E F M (.call { callee := .builtin .len, args := #[x], argTypes := #[t] }) d K :=
  DOp.mem (fun u => u = .int .i64 l.length ∧ l.length ≤ maxB ∧ l.length * n ≤ maxB) (fun _ => []) (fun a w hs => by
    obtain ⟨h0, h0', h⟩ := hs.own _ (List.mem_of_getElem? hm)
    refine ⟨_, ⟨rfl, h0', h0⟩, by (intro f hf; cases hf), fun w' _ o ho => ?_⟩
    cases o; subst ho
    rcases h with ⟨_, rfl, rfl⟩ | ⟨b, cap, cs, rest, T, rfl, _⟩ <;>
      simp [execOp, resolve, hs.ev hx, invoke, builtin, Builtin.len_, run_underlying hu, goInt]) (fun u ⟨h1, h2, h3⟩ => by subst h1; exact k h2 h3)
theorem d_len_str {x : Operand} {v : Value} {l : List Int} {t : TypeId} (hx : ev E x = some v) (hf : rStr.fact v l ∈ F) (hu : C.P.underlying t = some .string)
    (k : l.length ≤ maxB → K ((d, .int .i64 l.length) :: E) F M) : DOp C XI E F M (.call { callee := .builtin .len, args := #[x], argTypes := #[t] }) d K :=
  DOp.mem (fun u => u = .int .i64 l.length ∧ l.length ≤ maxB) (fun _ => []) (fun a w hs => by
    obtain ⟨s, rfl, rfl, h1⟩ := val_str (hs.fact hf)
    refine ⟨_, ⟨rfl, h1⟩, by (intro f hf; cases hf), fun w' _ o ho => ?_⟩
    cases o; subst ho
    simp [execOp, resolve, hs.ev hx, invoke, builtin, Builtin.len_, run_underlying hu, goInt, strL_length]) (fun u ⟨h1, h2⟩ => by subst h1; exact k h2)
theorem d_len_arr {x : Operand} {v : Value} {n : Nat} {t e : TypeId} (hx : ev E x = some v) (hu : C.P.underlying t = some (.array n e))
    (k : K ((d, .int .i64 n) :: E) F M) : DOp C XI E F M (.call { callee := .builtin .len, args := #[x], argTypes := #[t] }) d K :=
  DOp.pure _ (fun _ w o he ho => by
    cases o; subst ho
    have e1 : (underlying t).run C.P w = .ok (.array n e) w := run_underlying hu _
    simp [execOp, resolve, he x _ hx, invoke, builtin, Builtin.len_, e1, goInt]) k

/-! ### Addresses -/
/-- An element of a frozen slice. -/
theorem d_index_sl {x ix : Operand} {v : Value} {n n' : Nat} {R : Rep α} {l : List α} {t e : TypeId} {k : IntKind} {j : Int} (hx : ev E x = some v) (hf : (rSl n R).fact v l ∈ F) (hi : ev E ix = some (.int k j))
    (hu : C.P.underlying t = some (.slice e)) (hT : TyOk C.P e R n') (h0 : 0 ≤ j ∧ j < l.length)
    (h : ∀ p, K ((d, .pointer (some p)) :: E) (R.place p (l.getD j.toNat R.zeroD) :: F) M) : DOp C XI E F M (.indexAddr t x ix) d K :=
  DOp.mem (fun u => ∃ p, u = .pointer (some p)) (fun u => match u with | .pointer (some p) => [R.place p (l.getD j.toNat R.zeroD)] | _ => []) (fun a w hs => by
    obtain ⟨base, cap, rfl, h1, h2, h3, h3', h4⟩ := val_sl (hs.fact hf)
    have hj : j.toNat < l.length := by omega
    rcases h4 with rfl | ⟨p, rfl, cells, h5, h6⟩
    · simp at hj
    obtain ⟨ca, cb, cc, e1, e2, e3, _⟩ := Rows.get R h5 j.toNat hj
    refine ⟨.pointer (some (p.add (j.toNat * R.size))), ⟨_, rfl⟩, ?_, fun w' _ o ho => ?_⟩
    · intro f hf
      simp only [List.mem_singleton] at hf
      subst hf
      refine ⟨cb, by simpa [List.getD_eq_getElem?_getD, List.getElem?_eq_getElem hj] using e3, ?_⟩
      rw [← e2]
      exact MemAt.sub (e1 ▸ h6)
    · cases o; subst ho
      simp [execOp, hs.ev hx, hs.ev hi, Instr.indexAt, run_underlying hu, asIntOf, h0.1, h0.2, hT.run_size]) (fun u ⟨p, hp⟩ => by subst hp; exact h p)

/-- An element of an array that lies there. -/
theorem d_index_place {x ix : Operand} {p : Addr} {n n' : Nat} {R : Rep α} {l : List α} {t e : TypeId} {k : IntKind} {j : Int} (hx : ev E x = some (.pointer (some p))) (hf : (rArr n R).place p l ∈ F) (hi : ev E ix = some (.int k j))
    (hu : C.P.underlying t = some (.array n e)) (hT : TyOk C.P e R n') (h0 : 0 ≤ j ∧ j < n)
    (h : ∀ q, K ((d, .pointer (some q)) :: E) (R.place q (l.getD j.toNat R.zeroD) :: F) M) : DOp C XI E F M (.indexAddr t x ix) d K :=
  DOp.mem (fun u => ∃ p, u = .pointer (some p)) (fun u => match u with | .pointer (some p) => [R.place p (l.getD j.toNat R.zeroD)] | _ => []) (fun a w hs => by
    obtain ⟨cells, ⟨hl, h5⟩, h6⟩ := hs.place hf
    have hj : j.toNat < l.length := by omega
    obtain ⟨ca, cb, cc, e1, e2, e3, _⟩ := Rows.get R h5 j.toNat hj
    refine ⟨.pointer (some (p.add (j.toNat * R.size))), ⟨_, rfl⟩, ?_, fun w' _ o ho => ?_⟩
    · intro f hf
      simp only [List.mem_singleton] at hf
      subst hf
      refine ⟨cb, by simpa [List.getD_eq_getElem?_getD, List.getElem?_eq_getElem hj] using e3, ?_⟩
      rw [← e2]
      exact MemAt.sub (e1 ▸ h6)
    · cases o; subst ho
      simp [execOp, hs.ev hx, hs.ev hi, Instr.indexAt, run_underlying hu, asIntOf, h0.1, h0.2, hT.run_size, Instr.sureAddr]) (fun u ⟨p, hp⟩ => by subst hp; exact h p)

/-- An element's address in an array of the call's own. -/
theorem d_index_own {x ix : Operand} {b o0 : Nat} {n n' : Nat} {R : Rep α} {t e : TypeId} {k : IntKind} {j : Int} (hx : ev E x = some (.pointer (some ⟨b, o0, none⟩))) (hi : ev E ix = some (.int k j))
    (hu : C.P.underlying t = some (.array n e)) (hT : TyOk C.P e R n') (h0 : 0 ≤ j ∧ j < n)
    (h : K ((d, .pointer (some ⟨b, o0 + j.toNat * R.size, none⟩)) :: E) F M) : DOp C XI E F M (.indexAddr t x ix) d K :=
  DOp.pure _ (fun _ w o he ho => by
    cases o; subst ho
    have e1 : (underlying t).run C.P w = .ok (.array n e) w := run_underlying hu _
    simp [execOp, he x _ hx, he ix _ hi, Instr.indexAt, e1, asIntOf, h0.1, h0.2, hT.run_size, Instr.sureAddr, addr_add]) h

/-- The field j of struct type s lies at cell off. -/
def FieldOff (P : Program) (s : TypeId) (j off : Nat) : Prop := ∃ fs f i, P.underlying s = some (.struct fs) ∧ fs[j]? = some f ∧ f.offset = off ∧ P.info? f.type = some i ∧ i.size ≠ 0
theorem run_fieldAt {P : Program} {s : TypeId} {j off : Nat} (hf : FieldOff P s j off) (p : Addr) (w : World) : (Instr.fieldAt s (.pointer (some p)) j).run P w = .ok (.pointer (some (p.add off))) w := by
  obtain ⟨fs, f, i, h1, h2, h3, h4, h5⟩ := hf
  simp [Instr.fieldAt, run_underlying h1, h2, Instr.sureAddr, fieldPlace, sizeOf, typeInfo, h4, h5, h3]

theorem d_field_place {x : Operand} {p : Addr} {R : Rep α} {S : Rep β} {y : α} {s j off : Nat} {pre : α → Prop} {get : α → β} {set : α → β → α} (hx : ev E x = some (.pointer (some p))) (hf : R.place p y ∈ F) (ho : FieldOff C.P s j off)
    (hS : Fld R off S pre get set) (hp : pre y) (h : ∀ q, K ((d, .pointer (some q)) :: E) (S.place q (get y) :: F) M) : DOp C XI E F M (.fieldAddr s x j) d K :=
  DOp.mem (fun u => ∃ p, u = .pointer (some p)) (fun u => match u with | .pointer (some q) => [S.place q (get y)] | _ => []) (fun a w hs => by
    obtain ⟨cells, h5, h6⟩ := hs.place hf
    obtain ⟨ca, cb, cc, e1, e2, e3, _⟩ := hS.cut h5 hp
    refine ⟨.pointer (some (p.add off)), ⟨_, rfl⟩, ?_, fun w' _ o ho' => ?_⟩
    · intro f hf
      simp only [List.mem_singleton] at hf
      subst hf
      refine ⟨cb, e3, ?_⟩
      rw [← e2]
      exact MemAt.sub (e1 ▸ h6)
    · cases o; subst ho'
      simp [execOp, hs.ev hx, run_fieldAt ho]) (fun u ⟨p, hp⟩ => by subst hp; exact h p)
theorem d_field_own {x : Operand} {b o0 : Nat} {s j off : Nat} (hx : ev E x = some (.pointer (some ⟨b, o0, none⟩))) (ho : FieldOff C.P s j off)
    (h : K ((d, .pointer (some ⟨b, o0 + off, none⟩)) :: E) F M) : DOp C XI E F M (.fieldAddr s x j) d K :=
  DOp.pure _ (fun _ w o he ho' => by cases o; subst ho'; simp [execOp, he x _ hx, run_fieldAt ho, addr_add]) h

/-! ### Loads -/
theorem d_load_place {x : Operand} {p : Addr} {R : Rep α} {y : α} {t n : Nat} (hx : ev E x = some (.pointer (some p))) (hf : R.place p y ∈ F) (hT : TyOk C.P t R n)
    (h : ∀ v, K ((d, v) :: E) (R.fact v y :: F) M) : DOp C XI E F M (.load t x) d K :=
  DOp.mem (fun _ => True) (fun u => [R.fact u y]) (fun a w hs => by
    obtain ⟨cells, h5, h6⟩ := hs.place hf
    refine ⟨R.mk' cells, trivial, ?_, fun w' hw o ho' => ?_⟩
    · intro f hf
      simp only [List.mem_singleton] at hf
      subst hf
      exact ⟨cells, h5, rfl⟩
    · cases o; subst ho'
      have h7 := h6.same hw (fun b hb => List.mem_append_right _ (mem_Xs hb))
      have := run_loadVar (w := w') hT (R.len h5) (fun i hi => h7.cell i hi)
      simp [execOp, hs.ev hx, Instr.loadAt, Instr.sureAddr, this]) (fun u _ => h u)

theorem d_load_int {x : Operand} {p : Addr} {k : IntKind} {y : Int} {t n : Nat} (hx : ev E x = some (.pointer (some p))) (hf : (rInt k).place p y ∈ F) (hT : TyOk C.P t (rInt k) n)
    (h : k.wrap y = y → K ((d, .int k y) :: E) F M) : DOp C XI E F M (.load t x) d K := fun a w hs => by
  obtain ⟨v, fs, h1, h2, h3⟩ := d_load_place (XI := XI) (K := fun E' F' M' => ∃ v, E' = (d, v) :: E ∧ F' = (rInt k).fact v y :: F ∧ M' = M) hx hf hT (fun v => ⟨v, rfl, rfl, rfl⟩) a w hs
  obtain ⟨v', e1, e2, _⟩ := h3
  cases e1
  have hm : (rInt k).fact v y ∈ fs ++ F := by rw [e2]; exact .head _
  have hv : (rInt k).val w (C.m0 ++ Blocks M) v y := by
    rcases List.mem_append.1 hm with hm | hm
    · exact h2 _ hm
    · exact hs.facts _ hm
  obtain ⟨rfl, hw⟩ := val_int hv
  exact ⟨_, [], h1, (by intro f hf; cases hf), h hw⟩
theorem d_load_bool {x : Operand} {p : Addr} {y : Bool} {t n : Nat} (hx : ev E x = some (.pointer (some p))) (hf : rBool.place p y ∈ F) (hT : TyOk C.P t rBool n)
    (h : K ((d, .bool y) :: E) F M) : DOp C XI E F M (.load t x) d K := fun a w hs => by
  obtain ⟨v, fs, h1, h2, h3⟩ := d_load_place (XI := XI) (K := fun E' F' M' => ∃ v, E' = (d, v) :: E ∧ F' = rBool.fact v y :: F ∧ M' = M) hx hf hT (fun v => ⟨v, rfl, rfl, rfl⟩) a w hs
  obtain ⟨v', e1, e2, _⟩ := h3
  cases e1
  have hm : rBool.fact v y ∈ fs ++ F := by rw [e2]; exact .head _
  have hv : rBool.val w (C.m0 ++ Blocks M) v y := by
    rcases List.mem_append.1 hm with hm | hm
    · exact h2 _ hm
    · exact hs.facts _ hm
  obtain rfl := val_bool hv
  exact ⟨_, [], h1, (by intro f hf; cases hf), h⟩

/-- The cells of a block of the call's own. -/
theorem cells_at {w : World} {b : Nat} {c : Array Value} {T : TypeId} {fr : Nat × Nat} (h : w.heap[b]? = some (.cells c T fr)) {x y z : List Value} (e : c.toList = x ++ y ++ z) (i : Nat) (hi : i < y.length) :
    w.cell? (Addr.add ⟨b, x.length, none⟩ i) = some y[i] := by
  rw [addr_add _ _ rfl]
  unfold World.cell?
  simp only [h]
  rw [if_neg (by simp), ← Array.getElem?_toList, e, List.append_assoc, List.getElem?_append_right (by simp), List.getElem?_append_left (by simp; omega)]
  simp [List.getElem?_eq_getElem hi]

theorem d_load_box {x : Operand} {b o0 : Nat} {R : Rep α} {S : Rep β} {y : α} {t n : Nat} {pre : α → Prop} {get : α → β} {set : α → β → α} (i : Nat) (hx : ev E x = some (.pointer (some ⟨b, o0, none⟩))) (hm : M[i]? = some (Own.box b R y))
    (hS : Fld R o0 S pre get set) (hp : pre y) (hT : TyOk C.P t S n) (hi : nin i XI = true) (h : ∀ v, K ((d, v) :: E) (S.fact v (get y) :: F) M) : DOp C XI E F M (.load t x) d K :=
  DOp.mem (fun _ => True) (fun u => [S.fact u (get y)]) (fun a w hs => by
    obtain ⟨c, T, h5, h6⟩ := hs.own _ (List.mem_of_getElem? hm)
    obtain ⟨ca, cb, cc, e1, e2, e3, _⟩ := hS.cut h6 hp
    refine ⟨S.mk' cb, trivial, ?_, fun w' hw o ho' => ?_⟩
    · intro f hf
      simp only [List.mem_singleton] at hf
      subst hf
      exact ⟨cb, e3, rfl⟩
    · cases o; subst ho'
      have h7 : w'.heap[b]? = some (.cells c T (0, 0)) := by rw [hw.2 b (lt_of_get h5) (not_mem_Xs hs.nodup hm rfl hi)]; exact h5
      have := run_loadVar (w := w') (p := ⟨b, o0, none⟩) hT (S.len e3) (fun i hi => by rw [← e2]; exact cells_at h7 e1 i hi)
      simp [execOp, hs.ev hx, Instr.loadAt, Instr.sureAddr, this]) (fun u _ => h u)

/-- From a fact on a value to what it is. -/
theorem DOp.of_fact {op : Op} {R : Rep α} {y : α} (hD : ∀ K' : Cont, (∀ v, K' ((d, v) :: E) (R.fact v y :: F) M) → DOp C XI E F M op d K') (Z : Value → Prop) (hZ : ∀ w m v, R.val w m v y → Z v) (h : ∀ v, Z v → K ((d, v) :: E) F M) : DOp C XI E F M op d K := fun a w hs => by
  obtain ⟨v, fs, h1, h2, h3⟩ := hD (fun E' F' M' => ∃ v, E' = (d, v) :: E ∧ F' = R.fact v y :: F ∧ M' = M) (fun v => ⟨v, rfl, rfl, rfl⟩) a w hs
  obtain ⟨v', e1, e2, _⟩ := h3
  cases e1
  have hm : R.fact v y ∈ fs ++ F := by rw [e2]; exact .head _
  have hv : R.val w (C.m0 ++ Blocks M) v y := by
    rcases List.mem_append.1 hm with hm | hm
    · exact h2 _ hm
    · exact hs.facts _ hm
  exact ⟨v, [], h1, (by intro f hf; cases hf), h v (hZ _ _ _ hv)⟩
theorem d_load_box_int {x : Operand} {b o0 : Nat} {R : Rep α} {ik : IntKind} {y : α} {t n : Nat} {pre : α → Prop} {get : α → Int} {set : α → Int → α} (i : Nat) (hx : ev E x = some (.pointer (some ⟨b, o0, none⟩))) (hm : M[i]? = some (Own.box b R y))
    (hS : Fld R o0 (rInt ik) pre get set) (hp : pre y) (hT : TyOk C.P t (rInt ik) n) (hi : nin i XI = true) (h : ik.wrap (get y) = get y → K ((d, .int ik (get y)) :: E) F M) : DOp C XI E F M (.load t x) d K :=
  DOp.of_fact (fun K' hK => d_load_box (K := K') i hx hm hS hp hT hi hK) (fun v => v = .int ik (get y) ∧ ik.wrap (get y) = get y) (fun _ _ _ hv => val_int hv) (fun v hv => by obtain ⟨rfl, hw⟩ := hv; exact h hw)
theorem d_load_box_bool {x : Operand} {b o0 : Nat} {R : Rep α} {y : α} {t n : Nat} {pre : α → Prop} {get : α → Bool} {set : α → Bool → α} (i : Nat) (hx : ev E x = some (.pointer (some ⟨b, o0, none⟩))) (hm : M[i]? = some (Own.box b R y))
    (hS : Fld R o0 rBool pre get set) (hp : pre y) (hT : TyOk C.P t rBool n) (hi : nin i XI = true) (h : K ((d, .bool (get y)) :: E) F M) : DOp C XI E F M (.load t x) d K :=
  DOp.of_fact (fun K' hK => d_load_box (K := K') i hx hm hS hp hT hi hK) (fun v => v = .bool (get y)) (fun _ _ _ hv => val_bool hv) (fun v hv => by obtain rfl := hv; exact h)

/-- p lies in the block of the slice v, at cell o. -/
def BufPtr (v : Value) (o : Nat) (p : Addr) : Prop := ∃ b, bufBlk v = some b ∧ p = ⟨b, o, none⟩
theorem d_index_buf {x ix : Operand} {v : Value} {n n' : Nat} {R : Rep α} {l : List α} {t e : TypeId} {k : IntKind} {j : Int} (i : Nat) (hx : ev E x = some v) (hm : M[i]? = some (Own.buf v n R l)) (hi : ev E ix = some (.int k j))
    (hu : C.P.underlying t = some (.slice e)) (hT : TyOk C.P e R n') (h0 : 0 ≤ j ∧ j < l.length)
    (h : ∀ p, BufPtr v (j.toNat * R.size) p → K ((d, .pointer (some p)) :: E) F M) : DOp C XI E F M (.indexAddr t x ix) d K :=
  DOp.mem (fun u => ∃ p, u = .pointer (some p) ∧ BufPtr v (j.toNat * R.size) p) (fun _ => []) (fun a w hs => by
    obtain ⟨_, _, h4⟩ := hs.own _ (List.mem_of_getElem? hm)
    rcases h4 with ⟨_, _, rfl⟩ | ⟨b, cap, cs, rest, T, rfl, h1, h2, h3, h4, h5⟩
    · simp at h0; omega
    · refine ⟨.pointer (some ⟨b, j.toNat * R.size, none⟩), ⟨_, rfl, b, rfl, rfl⟩, by (intro f hf; cases hf), fun w' _ o ho => ?_⟩
      cases o; subst ho
      simp [execOp, hs.ev hx, hs.ev hi, Instr.indexAt, run_underlying hu, asIntOf, h0.1, h0.2, hT.run_size, addr_add]) (fun u ⟨p, hp, hb⟩ => by subst hp; exact h p hb)
theorem d_field_buf {x : Operand} {v : Value} {p : Addr} {o0 : Nat} {s j off : Nat} (hx : ev E x = some (.pointer (some p))) (hb : BufPtr v o0 p) (ho : FieldOff C.P s j off)
    (h : ∀ q, BufPtr v (o0 + off) q → K ((d, .pointer (some q)) :: E) F M) : DOp C XI E F M (.fieldAddr s x j) d K :=
  DOp.pure (.pointer (some (p.add off))) (fun _ w o he ho' => by cases o; subst ho'; simp [execOp, he x _ hx, run_fieldAt ho])
    (h _ (by obtain ⟨b, h1, rfl⟩ := hb; exact ⟨b, h1, by rw [addr_add _ _ rfl]⟩))
theorem d_load_buf {x : Operand} {v : Value} {p : Addr} {o0 off j n n' : Nat} {R : Rep α} {S : Rep β} {l : List α} {t : TypeId} {pre : α → Prop} {get : α → β} {set : α → β → α} (i : Nat) (hx : ev E x = some (.pointer (some p))) (hb : BufPtr v o0 p)
    (hm : M[i]? = some (Own.buf v n R l)) (ho : o0 = j * R.size + off) (hj : j < l.length) (hS : Fld R off S pre get set) (hp : pre (l.getD j R.zeroD)) (hT : TyOk C.P t S n') (hi : nin i XI = true)
    (h : ∀ u, K ((d, u) :: E) (S.fact u (get (l.getD j R.zeroD)) :: F) M) : DOp C XI E F M (.load t x) d K :=
  DOp.mem (fun _ => True) (fun u => [S.fact u (get (l.getD j R.zeroD))]) (fun a w hs => by
    obtain ⟨_, _, h4⟩ := hs.own _ (List.mem_of_getElem? hm)
    rcases h4 with ⟨_, _, rfl⟩ | ⟨b, cap, cs, rest, T, rfl, h1, h2, h3, h4, h5⟩
    · simp at hj
    obtain ⟨ca, cb, cc, e1, e2, e3, _⟩ := Rows.get R h5 j hj
    have e3' : R.ok w (C.m0 ++ Blocks M) cb (l.getD j R.zeroD) := by simpa [List.getD_eq_getElem?_getD, List.getElem?_eq_getElem hj] using e3
    obtain ⟨da, db, dc, f1, f2, f3, _⟩ := hS.cut e3' hp
    obtain ⟨b', hb1, rfl⟩ := hb
    cases hb1
    refine ⟨S.mk' db, trivial, ?_, fun w' hw o ho' => ?_⟩
    · intro f hf
      simp only [List.mem_singleton] at hf
      subst hf
      exact ⟨db, f3, rfl⟩
    · cases o; subst ho'
      have h7 : w'.heap[b]? = some (.cells (cs ++ rest).toArray T (0, 0)) := by rw [hw.2 b (lt_of_get h3) (not_mem_Xs hs.nodup hm rfl hi)]; exact h3
      have := run_loadVar (w := w') (p := ⟨b, o0, none⟩) hT (S.len f3) (fun i hi => by
        have e : (⟨b, o0, none⟩ : Addr) = ⟨b, (ca ++ da).length, none⟩ := by simp [ho, e2, f2]
        rw [e]
        exact cells_at h7 (x := ca ++ da) (y := db) (z := dc ++ cc ++ rest) (by simp [e1, f1]) i hi)
      simp [execOp, hs.ev hx, Instr.loadAt, Instr.sureAddr, this]) (fun u _ => h u)
theorem d_load_buf_int {x : Operand} {v : Value} {p : Addr} {o0 off j n n' : Nat} {R : Rep α} {ik : IntKind} {l : List α} {t : TypeId} {pre : α → Prop} {get : α → Int} {set : α → Int → α} (i : Nat) (hx : ev E x = some (.pointer (some p))) (hb : BufPtr v o0 p)
    (hm : M[i]? = some (Own.buf v n R l)) (ho : o0 = j * R.size + off) (hj : j < l.length) (hS : Fld R off (rInt ik) pre get set) (hp : pre (l.getD j R.zeroD)) (hT : TyOk C.P t (rInt ik) n') (hi : nin i XI = true)
    (h : ik.wrap (get (l.getD j R.zeroD)) = get (l.getD j R.zeroD) → K ((d, .int ik (get (l.getD j R.zeroD))) :: E) F M) : DOp C XI E F M (.load t x) d K :=
  DOp.of_fact (fun K' hK => d_load_buf (K := K') i hx hb hm ho hj hS hp hT hi hK) (fun v => v = .int ik (get (l.getD j R.zeroD)) ∧ ik.wrap (get (l.getD j R.zeroD)) = get (l.getD j R.zeroD)) (fun _ _ _ hv => val_int hv) (fun v hv => by obtain ⟨rfl, hw⟩ := hv; exact h hw)
theorem d_load_buf_bool {x : Operand} {v : Value} {p : Addr} {o0 off j n n' : Nat} {R : Rep α} {l : List α} {t : TypeId} {pre : α → Prop} {get : α → Bool} {set : α → Bool → α} (i : Nat) (hx : ev E x = some (.pointer (some p))) (hb : BufPtr v o0 p)
    (hm : M[i]? = some (Own.buf v n R l)) (ho : o0 = j * R.size + off) (hj : j < l.length) (hS : Fld R off rBool pre get set) (hp : pre (l.getD j R.zeroD)) (hT : TyOk C.P t rBool n') (hi : nin i XI = true)
    (h : K ((d, .bool (get (l.getD j R.zeroD))) :: E) F M) : DOp C XI E F M (.load t x) d K :=
  DOp.of_fact (fun K' hK => d_load_buf (K := K') i hx hb hm ho hj hS hp hT hi hK) (fun v => v = .bool (get (l.getD j R.zeroD))) (fun _ _ _ hv => val_bool hv) (fun v hv => by obtain rfl := hv; exact h)
end
end Go.Cf
