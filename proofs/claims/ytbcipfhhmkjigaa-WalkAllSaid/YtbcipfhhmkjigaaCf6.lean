/- Rules for operations that make or write memory, and calls. -/
import Derived.Test.YtbcipfhhmkjigaaCf5
set_option linter.unusedVariables false
set_option linter.unusedSimpArgs false
namespace Go.Cf
open Go Go.RowKit
variable {α β γ δ : Type}

theorem one1_prime {v : Value} (h : one1 v = true) : v.oneCell' = true := by cases v <;> simp_all [one1, Value.oneCell']
theorem Step.refl {dr : Bool} (w : World) (t : Option Nat) : Step dr w w t := ⟨rfl, rfl, rfl, Nat.le_refl _, fun _ _ _ => rfl, fun _ => Nat.le_refl _⟩
theorem Step.alloc {dr : Bool} (w : World) (o : Obj) (t : Option Nat) : Step dr w (w.alloc o) t := ⟨rfl, rfl, rfl, by simp, fun b hb _ => Below.heap_alloc _ _ _ hb, fun _ => Nat.le_refl _⟩
theorem Step.drew {dr : Bool} (w : World) (t : Option Nat) : Step dr w w.drew t := ⟨rfl, rfl, rfl, Nat.le_refl _, fun _ _ _ => rfl, fun _ => Nat.le_succ _⟩
theorem Step.trans {dr : Bool} {w w1 w2 : World} {t : Option Nat} (h : Step dr w w1 t) (k : Step dr w1 w2 t) : Step dr w w2 t :=
  ⟨k.os.trans h.os, k.tape.trans h.tape, k.output.trans h.output, Nat.le_trans h.size k.size, fun b hb ht => (k.keep b (Nat.lt_of_lt_of_le hb h.size) ht).trans (h.keep b hb ht), fun e => Nat.le_trans (h.drawn e) (k.drawn e)⟩
theorem Step.same {dr : Bool} {w w' : World} {t : Option Nat} (h : Step dr w w' t) {X : List Nat} (hX : ∀ b, t = some b → b ∈ X) : SameX X w w' := ⟨h.size, fun b hb hx => h.keep b hb (fun e => hx (hX b e))⟩
theorem Step.setRow {dr : Bool} (w : World) (g : Nat) (cs : Array Value) : Step dr w (w.setRow g cs) (some g) :=
  ⟨rfl, rfl, rfl, by simp [World.setRow], fun b _ hne => by
    simp only [World.setRow, Array.getElem?_modify]
    rw [if_neg (fun e => hne (by rw [e]))], fun _ => Nat.le_refl _⟩
theorem Step.below {dr : Bool} {w w' : World} (h : After dr w w') : Step dr w w' none := ⟨h.below.os, h.below.tape, h.below.output, h.below.size, fun b hb _ => h.below.block b hb, h.drawn⟩

theorem xs_push {XI : List Nat} {M : List Own} {o : Own} {b : Nat} (h : b ∈ Xs XI (M ++ [o])) : b ∈ Xs XI M ∨ o.blk = some b := by
  obtain ⟨i, hi, h⟩ := List.mem_filterMap.1 h
  obtain ⟨x, h1, h2⟩ := Option.bind_eq_some_iff.1 h
  rcases Nat.lt_or_ge i M.length with hlt | hge
  · rw [List.getElem?_append_left hlt] at h1
    exact .inl (List.mem_filterMap.2 ⟨i, hi, by rw [h1]; exact h2⟩)
  · rw [List.getElem?_append_right hge] at h1
    cases hk : i - M.length with
    | zero => rw [hk] at h1; simp at h1; subst h1; exact .inr h2
    | succ n => rw [hk] at h1; simp at h1
theorem xs_set {XI : List Nat} {M : List Own} {i : Nat} {o : Own} {b : Nat} (h : b ∈ Xs XI (M.set i o)) : b ∈ Xs XI M ∨ o.blk = some b := by
  obtain ⟨j, hj, h⟩ := List.mem_filterMap.1 h
  obtain ⟨x, h1, h2⟩ := Option.bind_eq_some_iff.1 h
  rw [List.getElem?_set] at h1
  split at h1
  · split at h1
    · cases h1; exact .inr h2
    · cases h1
  · exact .inl (List.mem_filterMap.2 ⟨j, hj, by rw [h1]; exact h2⟩)
theorem xs_at {XI : List Nat} {M : List Own} {i : Nat} {o : Own} (hi : M[i]? = some o) (hx : i ∈ XI) {b : Nat} (hb : o.blk = some b) : b ∈ Xs XI M :=
  List.mem_filterMap.2 ⟨i, hx, by rw [hi]; exact hb⟩

/-- The value v reads as x, in whatever state fits. -/
def HasV (C : Cx) (F : List Fact) (R : Rep α) (v : Value) (x : α) : Prop := ∀ E M a w, OKst C E F M a w → R.val w (C.m0 ++ Blocks M) v x
section
variable {C : Cx} {XI : List Nat} {E : List (Nat × Value)} {F : List Fact} {M : List Own} {d : Nat} {K : Cont}
theorem hv_fact {R : Rep α} {v : Value} {x : α} (h : R.fact v x ∈ F) : HasV C F R v x := fun _ _ _ _ hs => hs.fact h
theorem hv_int {k : IntKind} {x : Int} (h : k.wrap x = x) : HasV C F (rInt k) (.int k x) x := fun _ _ _ _ _ => ⟨[.int k x], ⟨rfl, h⟩, rfl⟩
theorem hv_bool {x : Bool} : HasV C F rBool (.bool x) x := fun _ _ _ _ _ => ⟨[.bool x], rfl, rfl⟩
theorem hv_str {s : ByteArray} {x : List Int} (h : strL s = x) (hl : x.length ≤ maxB) : HasV C F rStr (.string s) x := fun _ _ _ _ _ => ⟨[.string s], ⟨s, rfl, h.symm, hl⟩, rfl⟩
theorem hv_nil {n : Nat} {R : Rep α} : HasV C F (rSl n R) (.slice none 0 0) [] := fun _ _ _ _ _ => ⟨[.slice none 0 0], ⟨none, 0, rfl, by simp, by simp, by simp, by simp, .inl rfl⟩, rfl⟩
/-- A constant string as a fact. -/
theorem str_fact {s : ByteArray} {x : List Int} (h : strL s = x) (hl : x.length ≤ maxB) (w : World) (m : List Nat) : (rStr.fact (.string s) x).p w m := ⟨[.string s], ⟨s, rfl, h.symm, hl⟩, rfl⟩

/-- What is known of a value whose fact stands there. -/
theorem tl_int {ops : Array Oper} {os : List Oper} {Q : Exit → Act → World → Prop} {k : IntKind} {v : Value} {x : Int} (hf : (rInt k).fact v x ∈ F) (h : v = .int k x → k.wrap x = x → TL C ops E F M os Q) : TL C ops E F M os Q :=
  fun a w hs => by obtain ⟨h1, h2⟩ := val_int (hs.fact hf); exact h h1 h2 a w hs
theorem tl_bool {ops : Array Oper} {os : List Oper} {Q : Exit → Act → World → Prop} {v : Value} {x : Bool} (hf : rBool.fact v x ∈ F) (h : v = .bool x → TL C ops E F M os Q) : TL C ops E F M os Q :=
  fun a w hs => h (val_bool (hs.fact hf)) a w hs
theorem t_int {c : Code} {Q : Exit → Act → World → Prop} {k : IntKind} {v : Value} {x : Int} (hf : (rInt k).fact v x ∈ F) (h : v = .int k x → k.wrap x = x → T C E F M c Q) : T C E F M c Q :=
  fun a w hs => by obtain ⟨h1, h2⟩ := val_int (hs.fact hf); exact h h1 h2 a w hs
theorem t_bool {c : Code} {Q : Exit → Act → World → Prop} {v : Value} {x : Bool} (hf : rBool.fact v x ∈ F) (h : v = .bool x → T C E F M c Q) : T C E F M c Q :=
  fun a w hs => h (val_bool (hs.fact hf)) a w hs
theorem t_len {c : Code} {Q : Exit → Act → World → Prop} {n : Nat} {R : Rep α} {v : Value} {x : List α} (hf : (rSl n R).fact v x ∈ F) (h : x.length ≤ maxB → x.length * n ≤ maxB → T C E F M c Q) : T C E F M c Q :=
  fun a w hs => by obtain ⟨_, _, _, _, _, h1, h2, _⟩ := val_sl (hs.fact hf); exact h h2 h1 a w hs

/-! ### New blocks -/
theorem push_g {o : Oper} {v : Value} {own : Own} {E' : List (Nat × Value)} (hE : ∀ (a : Act), (∀ i u, lk E i = some u → a.tmps[i]? = some u) → a.tmps.size = C.n → (∀ i u, lk E' i = some u → (a.put o.dst v).tmps[i]? = some u) ∧ (a.put o.dst v).tmps.size = C.n ∧ (a.put o.dst v).defers = a.defers)
    {a : Act} {w w' : World} (hs : OKst C E F M a w) (g : Step C.dr w w' none) (hb : ∀ b, own.blk = some b → w.heap.size ≤ b ∧ b < w'.heap.size)
    (ho : ∀ m', Grows w (C.m0 ++ Blocks M) w' m' → (∀ b, own.blk = some b → b ∈ m') → (∀ b ∈ m', b ∈ C.m0 ++ Blocks M ∨ own.blk = some b) → own.holds w' m') : OKst C E' F (M ++ [own]) (a.put o.dst v) w' := by
  have h1 := hs.push g hb ho
  obtain ⟨e1, e2, e3⟩ := hE a hs.env hs.size
  exact { h1 with env := e1, size := e2, defers := e3.trans hs.defers }
theorem put_env {d : Nat} (hn : Nat.blt d C.n = true) (v : Value) (a : Act) (h : ∀ i u, lk E i = some u → a.tmps[i]? = some u) (hsz : a.tmps.size = C.n) :
    (∀ i u, lk ((d, v) :: E) i = some u → (a.put (some d) v).tmps[i]? = some u) ∧ (a.put (some d) v).tmps.size = C.n ∧ (a.put (some d) v).defers = a.defers :=
  ⟨lk_cons_env (by rw [hsz]; exact Nat.blt_eq.mp hn) h, by simp [Act.put, hsz], rfl⟩

theorem alloc_size (w : World) (o : Obj) : (w.alloc o).heap.size = w.heap.size + 1 := by simp
theorem alloc_new (w : World) (o : Obj) : (w.alloc o).heap[w.heap.size]? = some o := by
  show (w.heap.push o)[w.heap.size]? = _
  simp

theorem g_box {x : Operand} {v : Value} {R : Rep α} {y : α} {t ty : TypeId} {pos : String} {after : Array Edge} {gd : Option (Nat × Bool)} (hn : Nat.blt d C.n = true) (hx : ev E x = some v) (hv : HasV C F R v y)
    (k : ∀ b, K ((d, .pointer (some ⟨b, 0, none⟩)) :: E) F (M ++ [Own.box b R y])) : GOp C XI E F M { dst := some d, op := .box t x, type := ty, pos, after, guard := gd } K := by
  intro a w hs J Q hJ
  obtain ⟨cs, h1, h2, h3⟩ := R.cells_of_val (hv E M a w hs)
  have hr : (execOp a.eval { dst := some d, op := .box t x, type := ty, pos, after, guard := gd }).run C.P w = .ok (.value (.pointer (some ⟨w.heap.size, 0, none⟩))) (w.alloc (.cells cs.toArray t)) := by
    simp [execOp, hs.ev hx, Instr.box, newVar, newRow, h3]
  unfold Oper.wp
  rw [hr]
  have g := Step.alloc (dr := C.dr) w (.cells cs.toArray t) none
  refine hJ _ _ _ _ _ (k w.heap.size) (push_g (o := { dst := some d, op := .box t x, type := ty, pos, after, guard := gd }) (fun a' => put_env hn _ a') hs g (fun b hb => by cases hb; simp) (fun m' hg _ _ => ?_)) (g.same (by intro b hb; cases hb)) (fun b hb => ?_)
  · exact ⟨cs.toArray, t, alloc_new _ _, R.mono hg (by simpa using h1)⟩
  · rcases xs_push hb with h | h
    · exact .inl h
    · cases h; exact .inr (Nat.le_refl _)
theorem g_alloc {R : Rep α} {t n ty : TypeId} {pos : String} {after : Array Edge} {gd : Option (Nat × Bool)} (hn : Nat.blt d C.n = true) (hT : TyOk C.P t R n)
    (k : ∀ b, K ((d, .pointer (some ⟨b, 0, none⟩)) :: E) F (M ++ [Own.box b R R.zeroD])) : GOp C XI E F M { dst := some d, op := .alloc t, type := ty, pos, after, guard := gd } K := by
  intro a w hs J Q hJ
  have h3 := R.cells_mk (R.zok w (C.m0 ++ Blocks M))
  have hr : (execOp a.eval { dst := some d, op := .alloc t, type := ty, pos, after, guard := gd }).run C.P w = .ok (.value (.pointer (some ⟨w.heap.size, 0, none⟩))) (w.alloc (.cells R.zero.toArray t)) := by
    simp [execOp, Instr.alloc, hT.run_zero, newVar, newRow, h3]
  unfold Oper.wp
  rw [hr]
  have g := Step.alloc (dr := C.dr) w (.cells R.zero.toArray t) none
  refine hJ _ _ _ _ _ (k w.heap.size) (push_g (o := { dst := some d, op := .alloc t, type := ty, pos, after, guard := gd }) (fun a' => put_env hn _ a') hs g (fun b hb => by cases hb; simp) (fun m' hg _ _ => ?_)) (g.same (by intro b hb; cases hb)) (fun b hb => ?_)
  · exact ⟨R.zero.toArray, t, alloc_new _ _, by simpa using R.zok _ m'⟩
  · rcases xs_push hb with h | h
    · exact .inl h
    · cases h; exact .inr (Nat.le_refl _)

/-! ### Stores -/
theorem run_storeVar {P : Program} {w : World} {t : TypeId} {S : Rep β} {n : Nat} {b o0 : Nat} {cur : Array Value} {T : TypeId} {v : Value} {cs : List Value} {m : List Nat} {z : β} (hT : TyOk P t S n) (hb : w.heap[b]? = some (.cells cur T (0, 0)))
    (hz : S.ok w m cs z) (hv : v.cells = cs.toArray) (hl : o0 + cs.length ≤ cur.size) :
    (storeVar t ⟨b, o0, none⟩ v).run P w = .ok () (w.setRow b (cur.toList.take o0 ++ cs ++ cur.toList.drop (o0 + cs.length)).toArray) := by
  have h1 := S.len hz
  have h2 := run_storeCells_at P b o0 T cs 0 cur w hb (by omega) (fun u hu => one1_prime (S.one hz u hu))
  simp only [Nat.add_zero] at h2
  simp [storeVar, hT.run_size, hv, h1, h2]
theorem setRow_get (w : World) (g : Nat) (old cs : Array Value) (t : TypeId) (hg : w.heap[g]? = some (.cells old t (0, 0))) : (w.setRow g cs).heap[g]? = some (.cells cs t (0, 0)) := setRow_heap w g old cs t (0, 0) hg

theorem set_g {o : Oper} {i : Nat} {own own' : Own} (hi : M[i]? = some own) {a : Act} {w w' : World} (hd : o.dst = none) (hs : OKst C E F M a w) (g : Step C.dr w w' own.blk) (hb : ∀ b, own'.blk = some b → own.blk = some b ∨ (w.heap.size ≤ b ∧ b < w'.heap.size))
    (ho : ∀ m', Grows w (C.m0 ++ Blocks M) w' m' → (∀ b, own'.blk = some b → b ∈ m') → (∀ b ∈ m', b ∈ C.m0 ++ Blocks M ∨ own'.blk = some b) → own'.holds w' m') : OKst C E F (M.set i own') (a.put o.dst undef) w' := by
  rw [hd]
  exact (hs.set hi g hb ho).1

theorem g_store_box {p x : Operand} {b o0 : Nat} {R : Rep α} {S : Rep β} {y : α} {v : Value} {z : β} {t n ty : TypeId} {pos : String} {after : Array Edge} {gd : Option (Nat × Bool)} {pre : α → Prop} {get : α → β} {set : α → β → α} (i : Nat)
    (hp : ev E p = some (.pointer (some ⟨b, o0, none⟩))) (hx : ev E x = some v) (hm : M[i]? = some (Own.box b R y)) (hS : Fld R o0 S pre get set) (hpre : pre y) (hv : HasV C F S v z) (hT : TyOk C.P t S n) (hX : i ∈ XI)
    (k : K E F (M.set i (Own.box b R (set y z)))) : GOp C XI E F M { dst := none, op := .store t p x, type := ty, pos, after, guard := gd } K := by
  intro a w hs J Q hJ
  obtain ⟨c, T, h5, h6⟩ := hs.own _ (List.mem_of_getElem? hm)
  obtain ⟨ca, cb, cc, e1, e2, e3, e4⟩ := hS.cut h6 hpre
  obtain ⟨cs, f1, _, f3⟩ := S.cells_of_val (hv E M a w hs)
  have hlen : cs.length = cb.length := (S.len f1).trans (S.len e3).symm
  have hcl : c.size = ca.length + cb.length + cc.length := by rw [← Array.length_toList, e1]; simp; omega
  have hst := run_storeVar (P := C.P) hT h5 f1 f3 (by omega : o0 + cs.length ≤ c.size)
  have hnew : c.toList.take o0 ++ cs ++ c.toList.drop (o0 + cs.length) = ca ++ cs ++ cc := by
    rw [e1, ← e2, hlen]
    simp [List.drop_append]
  rw [hnew] at hst
  have hr : (execOp a.eval { dst := none, op := .store t p x, type := ty, pos, after, guard := gd }).run C.P w = .ok .skip (w.setRow b (ca ++ cs ++ cc).toArray) := by
    simp [execOp, hs.ev hp, hs.ev hx, Instr.storeAt, Instr.sureAddr, hst]
  unfold Oper.wp
  rw [hr]
  have g := Step.setRow (dr := C.dr) w b (ca ++ cs ++ cc).toArray
  refine hJ _ _ _ _ _ k (set_g (o := { dst := none, op := .store t p x, type := ty, pos, after, guard := gd }) hm rfl hs g (fun b' hb' => .inl hb') (fun m' hg _ _ => ?_)) (g.same (by intro b' hb'; cases hb'; exact xs_at hm hX rfl)) (fun b' hb' => ?_)
  · exact ⟨_, T, setRow_get _ _ _ _ _ h5, R.mono hg (by simpa using e4 cs z f1)⟩
  · rcases xs_set hb' with h | h
    · exact .inl h
    · cases h; exact .inl (xs_at hm hX rfl)

theorem g_store_buf {p x : Operand} {v : Value} {q : Addr} {o0 off j n' : Nat} {R : Rep α} {S : Rep β} {l : List α} {u : Value} {z : β} {t n ty : TypeId} {pos : String} {after : Array Edge} {gd : Option (Nat × Bool)} {pre : α → Prop} {get : α → β} {set : α → β → α} (i : Nat)
    (hp : ev E p = some (.pointer (some q))) (hq : BufPtr v o0 q) (hx : ev E x = some u) (hm : M[i]? = some (Own.buf v n' R l)) (ho : o0 = j * R.size + off) (hj : j < l.length) (hS : Fld R off S pre get set) (hpre : pre (l.getD j R.zeroD)) (hv : HasV C F S u z) (hT : TyOk C.P t S n) (hX : i ∈ XI)
    (k : K E F (M.set i (Own.buf v n' R (l.set j (set (l.getD j R.zeroD) z))))) : GOp C XI E F M { dst := none, op := .store t p x, type := ty, pos, after, guard := gd } K := by
  intro a w hs J Q hJ
  obtain ⟨g0, g0', h4⟩ := hs.own _ (List.mem_of_getElem? hm)
  rcases h4 with ⟨_, _, rfl⟩ | ⟨b, cap, rs, rest, T, rfl, h1, h2, h3, h4, h5⟩
  · simp at hj
  obtain ⟨ca, cb, cc, e1, e2, e3, e4⟩ := Rows.get R h5 j hj
  have e3' : R.ok w (C.m0 ++ Blocks M) cb (l.getD j R.zeroD) := by simpa [List.getD_eq_getElem?_getD, List.getElem?_eq_getElem hj] using e3
  obtain ⟨da, db, dc, f1, f2, f3, f4⟩ := hS.cut e3' hpre
  obtain ⟨b', hb1, rfl⟩ := hq
  cases hb1
  obtain ⟨cs, k1, _, k3⟩ := S.cells_of_val (hv E M a w hs)
  have hlen : cs.length = db.length := (S.len k1).trans (S.len f3).symm
  have hcur : ((rs ++ rest).toArray : Array Value).toList = (ca ++ da) ++ db ++ (dc ++ cc ++ rest) := by simp [e1, f1]
  have hcl : (rs ++ rest).toArray.size = (ca ++ da).length + db.length + (dc ++ cc ++ rest).length := by rw [← Array.length_toList, hcur]; simp; omega
  have hoff : o0 = (ca ++ da).length := by simp [ho, e2, f2]
  have hst := run_storeVar (P := C.P) hT h3 k1 k3 (by omega : o0 + cs.length ≤ (rs ++ rest).toArray.size)
  have hnew : (rs ++ rest).toArray.toList.take o0 ++ cs ++ (rs ++ rest).toArray.toList.drop (o0 + cs.length) = (ca ++ (da ++ cs ++ dc) ++ cc) ++ rest := by
    rw [hcur, hoff, hlen, List.append_assoc (ca ++ da), List.take_left, ← List.append_assoc (ca ++ da) db, show (ca ++ da).length + db.length = (ca ++ da ++ db).length by simp; omega, List.drop_left]
    simp
  rw [hnew] at hst
  have hr : (execOp a.eval { dst := none, op := .store t p x, type := ty, pos, after, guard := gd }).run C.P w = .ok .skip (w.setRow b ((ca ++ (da ++ cs ++ dc) ++ cc) ++ rest).toArray) := by
    simp only [execOp, hs.ev hp, hs.ev hx, Instr.storeAt, Instr.sureAddr]
    simp only [Sem.run_bind, Sem.run_pure, Result.andThen_ok, hst]
  unfold Oper.wp
  rw [hr]
  have g := Step.setRow (dr := C.dr) w b ((ca ++ (da ++ cs ++ dc) ++ cc) ++ rest).toArray
  refine hJ _ _ _ _ _ k (set_g (o := { dst := none, op := .store t p x, type := ty, pos, after, guard := gd }) hm rfl hs g (fun b' hb' => .inl hb') (fun m' hg _ _ => ?_)) (g.same (by intro b' hb'; cases hb'; exact xs_at hm hX rfl)) (fun b' hb' => ?_)
  · refine ⟨by simpa using g0, by simpa using g0', .inr ⟨b, cap, ca ++ (da ++ cs ++ dc) ++ cc, rest, T, by simp, by simpa using h1, h2, setRow_get _ _ _ _ _ h3, ?_, Rows.mono R hg (e4 _ _ (f4 cs z k1))⟩⟩
    have : (ca ++ (da ++ cs ++ dc) ++ cc).length = rs.length := by rw [e1, f1]; simp [hlen]
    rw [List.length_append, this, ← List.length_append]
    exact h4
  · rcases xs_set hb' with h | h
    · exact .inl h
    · cases h; exact .inl (xs_at hm hX rfl)

/-! ### append, make, literals -/
theorem len_replicate_flatten (n : Nat) (cs : List Value) : (List.replicate n cs).flatten.length = n * cs.length := by
  induction n with
  | zero => simp
  | succ n ih => rw [List.replicate_succ, List.flatten_cons, List.length_append, ih, Nat.add_mul]; omega

theorem grownCap_bd (w : World) {need : Nat} (old : Nat) (e : TypeId) (h : need ≤ maxB) : need ≤ grownCap w need old e ∧ grownCap w need old e < 2 ^ 63 := by
  unfold maxB at h
  have h1 : grownCap w need old e = need + w.tape w.drawn (.appendCap need old e) % (2 ^ 63 - need) := rfl
  have h2 := Nat.mod_lt (w.tape w.drawn (.appendCap need old e)) (y := 2 ^ 63 - need) (by omega)
  rw [h1]
  omega

/-- 'append' to a buffer of the call's own: from a source whose cells can be read. -/
theorem run_append {P : Program} {w : World} {m : List Nat} {t t2 ty e : TypeId} {R : Rep α} {n : Nat} {v x : Value} {l l2 : List α} {news : List Value} (ht : P.underlying t = some (.slice e)) (h2 : ∃ ds, P.underlying t2 = some ds ∧ ∀ k, ds ≠ .int k) (hT : TyOk P e R n)
    (hb : BufOk R n v l w m) (hlen : ∀ u, (Builtin.lenOf x).run P u = .ok l2.length u) (hsrc : ∀ u, u = w ∨ u = w.drew → (Builtin.firstCells R.size l2.length x).run P u = .ok news.toArray u) (hrow : Rows R w m news l2)
    (hfit : (l.length + l2.length) * n ≤ maxB) (hfit' : l.length + l2.length ≤ maxB) :
    ∃ v' w', (Builtin.append_ #[t, t2] ty #[v, x]).run P w = .ok v' w' ∧ (∀ dr, Step dr w w' (bufBlk v)) ∧ (∀ b, bufBlk v' = some b → bufBlk v = some b ∨ (w.heap.size ≤ b ∧ b < w'.heap.size)) ∧
      (∀ m', Grows w m w' m' → BufOk R n v' (l ++ l2) w' m') := by
  obtain ⟨i, hi, hi1, hi2, hi3⟩ := hT.info
  obtain ⟨ds, hds, hdk⟩ := h2
  have hnl := Rows.len R hrow
  have hz2 : ∀ u, (underlying t2).run P u = .ok ds u := fun u => run_underlying hds u
  have hdm : (match ds with | .int _ => true | _ => false) = false := by cases ds <;> first | rfl | exact absurd rfl (hdk _)
  have h63 : ∀ N : Nat, N ≤ maxB → ¬ (9223372036854775807 < (N : Int)) := fun N h => by unfold maxB at h; omega
  obtain ⟨g0, g0', hb⟩ := hb
  rcases hb with ⟨base, rfl, rfl⟩ | ⟨b, cap, cs, rest, T, rfl, h1, h2, h3, h4, h5⟩
  · rcases Nat.eq_zero_or_pos l2.length with h0 | hpos
    · have e0 : l2 = [] := List.length_eq_zero_iff.1 h0
      subst e0
      have hn0 : news = [] := List.length_eq_zero_iff.1 (by simpa using hnl)
      subst hn0
      refine ⟨.slice base 0 0, w, ?_, fun _ => Step.refl _ _, (fun b hb => .inl hb), (fun m' _ => ⟨by simp, by simp, .inl ⟨base, rfl, rfl⟩⟩)⟩
      have hs := hsrc w (.inl rfl)
      simp at hs
      cases base <;> simp [Builtin.append_, run_underlying ht, sizeOf, typeInfo, hi, hlen, hz2, hdm, hi1, hs, storeCells]
    · have hs := hsrc w.drew (.inr rfl)
      have hcap := nextslicecap_zero hpos
      have hf2 : ¬ (281474976710656 < l2.length * i.bytes) := by rw [hi3]; unfold maxB at hfit; simp at hfit; omega
      obtain ⟨hgc, hgc2⟩ := grownCap_bd w (need := l2.length) 0 e (by omega)
      refine ⟨.slice (some ⟨w.heap.size, 0, none⟩) l2.length (grownCap w l2.length 0 e), w.drew.alloc (.cells (news.toArray ++ Builtin.zeroCells (R.mk' R.zero).cells (grownCap w l2.length 0 e - l2.length)) e), ?_, fun _ => (Step.drew w _).trans (Step.alloc _ _ _), fun b hb => ?_, fun m' hg => ?_⟩
      · have hne : ¬ (l2.length = 0) := by omega
        have hfo : (Builtin.firstCells R.size 0 (.slice base 0 0)).run P w.drew = .ok #[] w.drew := by
          cases base with
          | none => simp [run_firstCells_none]
          | some p => simpa using run_firstCells_some (P := P) w.drew R.size 0 p 0 0 [] (by simp) (by simp)
        simp [Builtin.append_, run_underlying ht, sizeOf, typeInfo, zeroValue, hi, hi2, hlen, hz2, hdm, hi1, hne, h63 l2.length (by omega), hcap, hf2, Question.forced, hfo, hs, newRow, grownCap]
      · have hb := bufBlk_eq hb; subst hb
        exact .inr ⟨Nat.le_refl _, by simp⟩
      · refine BufOk.mk (b := w.heap.size) (cs := news) (rest := (Builtin.zeroCells (R.mk' R.zero).cells (grownCap w l2.length 0 e - l2.length)).toList) (T := e) (by simpa using hfit) (by simpa using hfit') (by simp) (by simpa using hgc) hgc2 ?_ ?_ (by simpa using Rows.mono R hg hrow)
        · have := alloc_new w.drew (.cells (news.toArray ++ Builtin.zeroCells (R.mk' R.zero).cells (grownCap w l2.length 0 e - l2.length)) e)
          have e1 : (news ++ (Builtin.zeroCells (R.mk' R.zero).cells (grownCap w l2.length 0 e - l2.length)).toList).toArray = news.toArray ++ Builtin.zeroCells (R.mk' R.zero).cells (grownCap w l2.length 0 e - l2.length) := by
            apply Array.toList_inj.1; simp
          rw [e1]
          exact this
        · have hzl : (R.mk' R.zero).cells.size = R.size := by rw [R.cells_mk (R.zok w m)]; simpa using R.len (R.zok w m)
          simp only [List.length_append, hnl, Array.length_toList, size_zeroCells, hzl]
          rw [← Nat.add_mul]
          congr 1
          omega
  · have hcl := Rows.len R h5
    by_cases hroom : l.length + l2.length ≤ (cap + 1)
    · have hs := hsrc w (.inl rfl)
      have hsz : l.length * R.size + news.length ≤ (cs ++ rest).toArray.size := by
        simp only [List.size_toArray, h4, hnl, ← Nat.add_mul]
        exact Nat.mul_le_mul_right _ hroom
      have hst := run_storeCells_at P b (l.length * R.size) T news 0 (cs ++ rest).toArray w h3 (by simpa using hsz) (fun u hu => one1_prime (Rows.one R hrow u hu))
      simp only [Nat.add_zero] at hst
      have hnew : (cs ++ rest).toArray.toList.take (l.length * R.size) ++ news ++ (cs ++ rest).toArray.toList.drop (l.length * R.size + news.length) = (cs ++ news) ++ rest.drop news.length := by
        rw [← hcl]
        simp [List.drop_append]
      rw [hnew] at hst
      refine ⟨.slice (some ⟨b, 0, none⟩) (l.length + l2.length) (cap + 1), w.setRow b ((cs ++ news) ++ rest.drop news.length).toArray, ?_, fun _ => Step.setRow _ _ _, fun b' hb' => .inl hb', fun m' hg => ?_⟩
      · simp [Builtin.append_, run_underlying ht, sizeOf, typeInfo, hi, hlen, hz2, hdm, hi1, hroom, hs, addr_add, hst]
      · refine ⟨by simpa using hfit, by simpa using hfit', .inr ⟨b, cap, cs ++ news, rest.drop news.length, T, by simp, by simpa using hroom, h2, setRow_get _ _ _ _ _ h3, ?_, Rows.append R (Rows.mono R hg h5) (Rows.mono R hg hrow)⟩⟩
        have := h4
        simp only [List.length_append] at this hsz ⊢
        simp only [List.size_toArray, List.length_append] at hsz
        simp only [List.length_drop]
        omega
    · have hs := hsrc w.drew (.inr rfl)
      have hcells : ∀ j u, cs[j]? = some u → w.cell? (Addr.add ⟨b, 0, none⟩ j) = some u := fun j u hu => by
        obtain ⟨hlt, rfl⟩ := List.getElem?_eq_some_iff.1 hu
        exact cells_at h3 (x := []) (y := cs) (z := rest) (by simp) j hlt
      have hfo := run_firstCells_some (P := P) w.drew R.size l.length ⟨b, 0, none⟩ l.length (cap + 1) cs hcl (by simpa using hcells)
      have hgrow : Builtin.nextslicecap (l.length + l2.length) (cap + 1) * i.bytes ≤ 281474976710656 := growslice_fits (by omega) (by rw [hi3]; exact hfit)
      have hf2 : ¬ (281474976710656 < Builtin.nextslicecap (l.length + l2.length) (cap + 1) * i.bytes) := by omega
      have h63' : ¬ (9223372036854775807 < ((l.length : Int) + (l2.length : Int))) := by have := h63 (l.length + l2.length) hfit'; omega
      obtain ⟨hgc, hgc2⟩ := grownCap_bd w (cap + 1) e hfit'
      have hn : ¬ (l.length + l2.length ≤ (cap + 1)) := hroom
      refine ⟨.slice (some ⟨w.heap.size, 0, none⟩) (l.length + l2.length) (grownCap w (l.length + l2.length) (cap + 1) e), w.drew.alloc (.cells (cs.toArray ++ news.toArray ++ Builtin.zeroCells (R.mk' R.zero).cells (grownCap w (l.length + l2.length) (cap + 1) e - (l.length + l2.length))) e), ?_, fun _ => (Step.drew w _).trans (Step.alloc _ _ _), fun b' hb' => ?_, fun m' hg => ?_⟩
      · simp [Builtin.append_, run_underlying ht, sizeOf, typeInfo, zeroValue, hi, hi2, hlen, hz2, hdm, hi1, hn, h63', hf2, Question.forced, hfo, hs, newRow, grownCap]
        exact congrArg (fun z => w.drew.alloc (Obj.cells z e)) (by apply Array.toList_inj.1; simp)
      · have hb' := bufBlk_eq hb'; subst hb'
        exact .inr ⟨Nat.le_refl _, by simp⟩
      · refine BufOk.mk (b := w.heap.size) (cs := cs ++ news) (rest := (Builtin.zeroCells (R.mk' R.zero).cells (grownCap w (l.length + l2.length) (cap + 1) e - (l.length + l2.length))).toList) (T := e) (by simpa using hfit) (by simpa using hfit') (by simp) (by simpa using hgc) hgc2 ?_ ?_ (Rows.append R (Rows.mono R hg h5) (Rows.mono R hg hrow))
        · have := alloc_new w.drew (.cells (cs.toArray ++ news.toArray ++ Builtin.zeroCells (R.mk' R.zero).cells (grownCap w (l.length + l2.length) (cap + 1) e - (l.length + l2.length))) e)
          have e1 : (cs ++ news ++ (Builtin.zeroCells (R.mk' R.zero).cells (grownCap w (l.length + l2.length) (cap + 1) e - (l.length + l2.length))).toList).toArray = cs.toArray ++ news.toArray ++ Builtin.zeroCells (R.mk' R.zero).cells (grownCap w (l.length + l2.length) (cap + 1) e - (l.length + l2.length)) := by
            apply Array.toList_inj.1; simp
          rw [e1]
          exact this
        · have hzl : (R.mk' R.zero).cells.size = R.size := by rw [R.cells_mk (R.zok w m)]; simpa using R.len (R.zok w m)
          simp only [List.length_append, hnl, hcl, Array.length_toList, size_zeroCells, hzl]
          rw [← Nat.add_mul, ← Nat.add_mul]
          congr 1
          omega

/-- A buffer's cells, as append reads them. -/
theorem run_first_sl {P : Program} {w : World} {R : Rep α} {l : List α} {base : Option Addr} {cap : Nat} {news : List Value} (hl : news.length = l.length * R.size) (h : l = [] ∨ ∃ a, base = some a ∧ ∀ j (hj : j < news.length), w.cell? (a.add j) = some news[j]) :
    ∀ u, u = w ∨ u = w.drew → (Builtin.firstCells R.size l.length (.slice base l.length cap)).run P u = .ok news.toArray u := by
  intro u hu
  have hc : ∀ p, u.cell? p = w.cell? p := by rcases hu with rfl | rfl <;> intro p <;> rfl
  cases base with
  | none =>
    rcases h with rfl | ⟨a, h1, _⟩
    · have : news = [] := List.length_eq_zero_iff.1 (by simpa using hl)
      subst this
      simp [Builtin.firstCells]
    · cases h1
  | some p =>
    refine run_firstCells_some u R.size l.length p l.length cap news hl (fun j v hv => ?_)
    obtain ⟨hlt, rfl⟩ := List.getElem?_eq_some_iff.1 hv
    rcases h with rfl | ⟨a, h1, h2⟩
    · simp at hl; subst hl; simp at hlt
    · cases h1
      rw [hc]
      exact h2 j hlt
theorem g_append_sl {x y : Operand} {v u : Value} {n n' : Nat} {R : Rep α} {l l2 : List α} {t t2 e ty : TypeId} {pos : String} {after : Array Edge} {gd : Option (Nat × Bool)} (i : Nat) (hn : Nat.blt d C.n = true) (hx : ev E x = some v) (hy : ev E y = some u) (hm : M[i]? = some (Own.buf v n R l)) (hf : HasV C F (rSl n' R) u l2)
    (hu : C.P.underlying t = some (.slice e)) (h2 : ∃ ds, C.P.underlying t2 = some ds ∧ ∀ k, ds ≠ .int k) (hT : TyOk C.P e R n) (hfit : (l.length + l2.length) * n ≤ maxB ∧ l.length + l2.length ≤ maxB) (hX : i ∈ XI)
    (k : ∀ v', K ((d, v') :: E) F (M.set i (Own.buf v' n R (l ++ l2)))) : GOp C XI E F M { dst := some d, op := .call { callee := .builtin .append, args := #[x, y], argTypes := #[t, t2] }, type := ty, pos, after, guard := gd } K := by
  intro a w hs J Q hJ
  obtain ⟨base, cap, rfl, h1, _, h3, h3', h4⟩ := val_sl (hf E M a w hs)
  have hb := hs.own _ (List.mem_of_getElem? hm)
  have hrow : ∃ news, Rows R w (C.m0 ++ Blocks M) news l2 ∧ (l2 = [] ∨ ∃ a, base = some a ∧ ∀ j (hj : j < news.length), w.cell? (a.add j) = some news[j]) := by
    rcases h4 with rfl | ⟨p, rfl, cells, h5, h6⟩
    · exact ⟨[], rfl, .inl rfl⟩
    · exact ⟨cells, h5, .inr ⟨p, rfl, fun j hj => h6.cell j hj⟩⟩
  obtain ⟨news, hr1, hr2⟩ := hrow
  obtain ⟨v', w', e1, e2, e3, e4⟩ := run_append (ty := ty) hu h2 hT hb (x := .slice base l2.length cap) (fun u => by simp [Builtin.lenOf]) (run_first_sl (Rows.len R hr1) hr2) hr1 hfit.1 hfit.2
  have hr : (execOp a.eval { dst := some d, op := .call { callee := .builtin .append, args := #[x, y], argTypes := #[t, t2] }, type := ty, pos, after, guard := gd }).run C.P w = .ok (.value v') w' := by
    simp [execOp, resolve, invoke, builtin, hs.ev hx, hs.ev hy, e1]
  unfold Oper.wp
  rw [hr]
  obtain ⟨f1, f2⟩ := hs.set (o' := Own.buf v' n R (l ++ l2)) hm (e2 _) e3 (fun m' hg _ _ => e4 m' hg)
  obtain ⟨p1, p2, p3⟩ := put_env (C := C) hn v' a hs.env hs.size
  refine hJ _ _ _ _ _ (k v') { f1 with env := p1, size := p2, defers := p3.trans hs.defers } ((e2 false).same (fun b hb => xs_at hm hX hb)) (fun b hb => ?_)
  rcases xs_set hb with h | h
  · exact .inl h
  · rcases e3 b h with h' | h'
    · exact .inl (xs_at hm hX h')
    · exact .inr h'.1
/-- From another buffer of the call's own (a literal, say). -/
theorem g_append_buf {x y : Operand} {v u : Value} {n : Nat} {R : Rep α} {l l2 : List α} {t t2 e ty : TypeId} {pos : String} {after : Array Edge} {gd : Option (Nat × Bool)} (i j : Nat) (hij : Nat.beq i j = false) (hn : Nat.blt d C.n = true) (hx : ev E x = some v) (hy : ev E y = some u) (hm : M[i]? = some (Own.buf v n R l)) (hm2 : M[j]? = some (Own.buf u n R l2))
    (hu : C.P.underlying t = some (.slice e)) (h2 : ∃ ds, C.P.underlying t2 = some ds ∧ ∀ k, ds ≠ .int k) (hT : TyOk C.P e R n) (hfit : (l.length + l2.length) * n ≤ maxB ∧ l.length + l2.length ≤ maxB) (hX : i ∈ XI)
    (k : ∀ v', K ((d, v') :: E) F (M.set i (Own.buf v' n R (l ++ l2)))) : GOp C XI E F M { dst := some d, op := .call { callee := .builtin .append, args := #[x, y], argTypes := #[t, t2] }, type := ty, pos, after, guard := gd } K := by
  intro a w hs J Q hJ
  have hb := hs.own _ (List.mem_of_getElem? hm)
  obtain ⟨g0, g0', h4⟩ := hs.own _ (List.mem_of_getElem? hm2)
  have hrow : ∃ base cap news, u = .slice base l2.length cap ∧ Rows R w (C.m0 ++ Blocks M) news l2 ∧ (l2 = [] ∨ ∃ a, base = some a ∧ ∀ j (hj : j < news.length), w.cell? (a.add j) = some news[j]) := by
    rcases h4 with ⟨base, rfl, rfl⟩ | ⟨b, cap, cs, rest, T, rfl, h1, h2, h3, h4, h5⟩
    · exact ⟨base, 0, [], rfl, rfl, .inl rfl⟩
    · exact ⟨_, cap + 1, cs, rfl, h5, .inr ⟨_, rfl, fun j hj => cells_at h3 (x := []) (y := cs) (z := rest) (by simp) j hj⟩⟩
  obtain ⟨base, cap, news, rfl, hr1, hr2⟩ := hrow
  obtain ⟨v', w', e1, e2, e3, e4⟩ := run_append (ty := ty) hu h2 hT hb (x := .slice base l2.length cap) (fun u => by simp [Builtin.lenOf]) (run_first_sl (Rows.len R hr1) hr2) hr1 hfit.1 hfit.2
  have hr : (execOp a.eval { dst := some d, op := .call { callee := .builtin .append, args := #[x, y], argTypes := #[t, t2] }, type := ty, pos, after, guard := gd }).run C.P w = .ok (.value v') w' := by
    simp [execOp, resolve, invoke, builtin, hs.ev hx, hs.ev hy, e1]
  unfold Oper.wp
  rw [hr]
  obtain ⟨f1, f2⟩ := hs.set (o' := Own.buf v' n R (l ++ l2)) hm (e2 _) e3 (fun m' hg _ _ => e4 m' hg)
  obtain ⟨p1, p2, p3⟩ := put_env (C := C) hn v' a hs.env hs.size
  refine hJ _ _ _ _ _ (k v') { f1 with env := p1, size := p2, defers := p3.trans hs.defers } ((e2 false).same (fun b hb => xs_at hm hX hb)) (fun b hb => ?_)
  rcases xs_set hb with h | h
  · exact .inl h
  · rcases e3 b h with h' | h'
    · exact .inl (xs_at hm hX h')
    · exact .inr h'.1
/-- A string's bytes appended. -/
theorem g_append_str {x y : Operand} {v u : Value} {n : Nat} {l l2 : List Int} {t t2 e ty : TypeId} {pos : String} {after : Array Edge} {gd : Option (Nat × Bool)} (i : Nat) (hn : Nat.blt d C.n = true) (hx : ev E x = some v) (hy : ev E y = some u) (hm : M[i]? = some (Own.buf v n (rInt .u8) l)) (hf : HasV C F rStr u l2)
    (hu : C.P.underlying t = some (.slice e)) (h2 : ∃ ds, C.P.underlying t2 = some ds ∧ ∀ k, ds ≠ .int k) (hT : TyOk C.P e (rInt .u8) n) (hfit : (l.length + l2.length) * n ≤ maxB ∧ l.length + l2.length ≤ maxB) (hX : i ∈ XI)
    (k : ∀ v', K ((d, v') :: E) F (M.set i (Own.buf v' n (rInt .u8) (l ++ l2)))) : GOp C XI E F M { dst := some d, op := .call { callee := .builtin .append, args := #[x, y], argTypes := #[t, t2] }, type := ty, pos, after, guard := gd } K := by
  intro a w hs J Q hJ
  obtain ⟨s, rfl, rfl, _⟩ := val_str (hf E M a w hs)
  have hb := hs.own _ (List.mem_of_getElem? hm)
  have hrow : ∀ (bs : List UInt8) (w : World) (m : List Nat), Rows (rInt .u8) w m (bs.map fun b => Value.int .u8 b.toNat) (bs.map fun b => (b.toNat : Int)) := by
    intro bs w m
    induction bs with
    | nil => rfl
    | cons b bs ih =>
      refine ⟨[.int .u8 b.toNat], _, rfl, ⟨rfl, ?_⟩, ih⟩
      have := b.toNat_lt
      simp only [IntKind.wrap, IntKind.signed, IntKind.bits]
      simp
      omega
  obtain ⟨v', w', e1, e2, e3, e4⟩ := run_append (ty := ty) (news := s.data.toList.map fun b => Value.int .u8 b.toNat) hu h2 hT hb (x := .string s) (l2 := strL s) (fun u => by simp [Builtin.lenOf, strL_length]) (fun u _ => by
    rw [strL_length]
    simp [Builtin.firstCells]
    apply Array.toList_inj.1
    simp) (hrow _ _ _) hfit.1 hfit.2
  have hr : (execOp a.eval { dst := some d, op := .call { callee := .builtin .append, args := #[x, y], argTypes := #[t, t2] }, type := ty, pos, after, guard := gd }).run C.P w = .ok (.value v') w' := by
    simp [execOp, resolve, invoke, builtin, hs.ev hx, hs.ev hy, e1]
  unfold Oper.wp
  rw [hr]
  obtain ⟨f1, f2⟩ := hs.set (o' := Own.buf v' n (rInt .u8) (l ++ strL s)) hm (e2 _) e3 (fun m' hg _ _ => e4 m' hg)
  obtain ⟨p1, p2, p3⟩ := put_env (C := C) hn v' a hs.env hs.size
  refine hJ _ _ _ _ _ (k v') { f1 with env := p1, size := p2, defers := p3.trans hs.defers } ((e2 false).same (fun b hb => xs_at hm hX hb)) (fun b hb => ?_)
  rcases xs_set hb with h | h
  · exact .inl h
  · rcases e3 b h with h' | h'
    · exact .inl (xs_at hm hX h')
    · exact .inr h'.1
end
end Go.Cf
