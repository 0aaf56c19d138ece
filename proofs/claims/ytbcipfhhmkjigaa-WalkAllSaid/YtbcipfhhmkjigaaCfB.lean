/- Maps. -/
import Derived.Test.YtbcipfhhmkjigaaCfA
import Derived.MapKept
import Derived.Lib.LazyBuf
set_option linter.unusedVariables false
set_option linter.unusedSimpArgs false
namespace Go.Cf
open Go Go.RowKit
variable {α β γ δ : Type}

/-! ### What a map holds -/
def MapRows (RK : Rep α) (RV : Rep β) (w : World) (m : List Nat) : List MapEntry → List (α × β) → Prop
  | es, [] => es = []
  | es, p :: l => ∃ e r, es = e :: r ∧ RK.val w m e.key p.1 ∧ RV.val w m e.val p.2 ∧ MapRows RK RV w m r l
theorem MapRows.mono {RK : Rep α} {RV : Rep β} {w w' : World} {m m' : List Nat} (g : Grows w m w' m') : ∀ {es : List MapEntry} {l : List (α × β)}, MapRows RK RV w m es l → MapRows RK RV w' m' es l
  | _, [], h => h
  | _, _ :: _, ⟨e, r, h1, h2, h3, h4⟩ => ⟨e, r, h1, RK.val_mono g h2, RV.val_mono g h3, MapRows.mono g h4⟩
theorem MapRows.len {RK : Rep α} {RV : Rep β} {w : World} {m : List Nat} : ∀ {es : List MapEntry} {l : List (α × β)}, MapRows RK RV w m es l → es.length = l.length
  | _, [], h => by have h : _ = [] := h; simp [h]
  | _, _ :: _, ⟨e, r, h1, h2, h3, h4⟩ => by simp [h1, MapRows.len h4]
theorem MapRows.append {RK : Rep α} {RV : Rep β} {w : World} {m : List Nat} {e : MapEntry} {x : α} {y : β} (h1 : RK.val w m e.key x) (h2 : RV.val w m e.val y) : ∀ {es : List MapEntry} {l : List (α × β)}, MapRows RK RV w m es l → MapRows RK RV w m (es ++ [e]) (l ++ [(x, y)])
  | es, [], h => by have h : es = [] := h; subst h; exact ⟨e, [], rfl, h1, h2, rfl⟩
  | _, _ :: _, ⟨e', r, h3, h4, h5, h6⟩ => ⟨e', r ++ [e], by simp [h3], h4, h5, MapRows.append h1 h2 h6⟩
def mget [DecidableEq α] : List (α × β) → α → Option β
  | [], _ => none
  | p :: l, x => if x = p.1 then some p.2 else mget l x
def mset [DecidableEq α] : List (α × β) → α → β → List (α × β)
  | [], x, y => [(x, y)]
  | p :: l, x, y => if x = p.1 then (p.1, y) :: l else p :: mset l x y
/-- Where a key stands. -/
def fidx [DecidableEq α] : List MapEntry → List (α × β) → α → Nat → Option (Nat × Value)
  | e :: es, p :: l, x, i => if x = p.1 then some (i, e.val) else fidx es l x (i + 1)
  | _, _, _, _ => none
/-- Each entry has a birth of its own. -/
def Born (es : List MapEntry) (c : Nat) : Prop := (es.map (·.born)).Pairwise (· < ·) ∧ ∀ e ∈ es, e.born < c
def MapAt (RK : Rep α) (RV : Rep β) (w : World) (m : List Nat) (b : Nat) (l : List (α × β)) : Prop := ∃ es c, w.heap[b]? = some (.map es c) ∧ MapRows RK RV w m es.toList l ∧ Born es.toList c
/-- A map of the call's own. -/
def Own.map (b : Nat) (RK : Rep α) (RV : Rep β) (l : List (α × β)) : Own where
  blk := some b
  holds := fun w m => MapAt RK RV w m b l
  keep := fun _ _ _ _ g hb ⟨es, c, h1, h2, h3⟩ => ⟨es, c, by rw [hb b rfl]; exact h1, h2.mono g, h3⟩
/-- A map that is not written any more. -/
def rMp (RK : Rep α) (RV : Rep β) : Rep (List (α × β)) where
  size := 1
  agg := false
  zero := [.map none]
  zeroD := []
  ok := fun w m cs x => (cs = [.map none] ∧ x = []) ∨ ∃ b, cs = [.map (some b)] ∧ b ∉ m ∧ MapAt RK RV w m b x
  len := fun h => by rcases h with ⟨h, _⟩ | ⟨b, h, _⟩ <;> simp [h]
  one := fun h => by rcases h with ⟨h, _⟩ | ⟨b, h, _⟩ <;> simp [h, one1]
  sc := fun _ => rfl
  mono := fun g h => h.imp id fun ⟨b, h1, h2, es, c, h3, h4, h5⟩ => by
    have hlt := lt_of_get h3
    exact ⟨b, h1, g.stay b hlt h2, es, c, by rw [g.keep b hlt h2]; exact h3, h4.mono g, h5⟩
  zok := fun _ _ => .inl ⟨rfl, rfl⟩

/-! ### Keys -/
/-- What a kind of keys owes. -/
structure KeyAt (P : Program) (t : TypeId) (R : Rep α) [DecidableEq α] : Prop where
  und : ∃ kind, P.underlying t = some kind
  eq : ∀ w m cs ds x y, R.ok w m cs x → R.ok w m ds y → ∀ w', (Op.equal t (R.mk' cs) (R.mk' ds)).run P w' = .ok (decide (x = y)) w'
  chk : ∀ b w m cs x, R.ok w m cs x → ∀ w', (Instr.checkKey b 10000 t (R.mk' cs)).run P w' = .ok () w'
  now : ∀ kind, P.underlying t = some kind → ∀ w m cs ds x y, R.ok w m cs x → R.ok w m ds y → Instr.sameNow kind (R.mk' cs) (R.mk' ds) = none ∨ Instr.sameNow kind (R.mk' cs) (R.mk' ds) = some (decide (x = y))
  same : ∀ w m cs ds x, R.ok w m cs x → R.ok w m ds x → Instr.sameBits 10000 (R.mk' cs) (R.mk' ds) = true

theorem eqat_key {P : Program} {t : TypeId} {R : Rep α} [DecidableEq α] {k : Nat} (h : EqAt P t R k) (hk : k ≤ 10000) : ∀ w m cs ds x y, R.ok w m cs x → R.ok w m ds y → ∀ w', (Op.equal t (R.mk' cs) (R.mk' ds)).run P w' = .ok (decide (x = y)) w' := by
  intro w m cs ds x y h1 h2 w'
  have := h (10000 - k) w m cs ds x y h1 h2 w'
  rwa [Nat.sub_add_cancel hk] at this
theorem chk_int {P : Program} {t : TypeId} {k : IntKind} (h : P.underlying t = some (.int k)) (b : Bool) (d : Nat) (x : Int) (w : World) : (Instr.checkKey b (d + 1) t (.int k x)).run P w = .ok () w := by
  simp [Instr.checkKey, run_underlying h]
theorem chk_str {P : Program} {t : TypeId} (h : P.underlying t = some .string) (b : Bool) (d : Nat) (x : ByteArray) (w : World) : (Instr.checkKey b (d + 1) t (.string x)).run P w = .ok () w := by
  simp [Instr.checkKey, run_underlying h]
theorem same_int (d : Nat) (k : IntKind) (x : Int) : Instr.sameBits (d + 1) (.int k x) (.int k x) = true := by simp [Instr.sameBits]
theorem bytes_beq (s u : ByteArray) : (s == u) = decide (strL s = strL u) := by
  have h : (s == u) = (s.data == u.data) := rfl
  rw [h]
  by_cases e : s = u
  · subst e; simp
  · rw [decide_eq_false (fun h => e (strL_inj h)), beq_eq_false_iff_ne]
    intro h
    cases s; cases u
    exact e (by simpa using h)
theorem same_str (d : Nat) (x : ByteArray) : Instr.sameBits (d + 1) (.string x) (.string x) = true := by simp [Instr.sameBits, bytes_beq]
theorem chk_arr {P : Program} {t e : TypeId} {n n' : Nat} {R : Rep α} {b : Bool} {d : Nat} (hu : P.underlying t = some (.array n e)) (hT : TyOk P e R n') (he : ∀ w m cs x, R.ok w m cs x → ∀ w', (Instr.checkKey b d e (R.mk' cs)).run P w' = .ok () w')
    {w : World} {m : List Nat} {cs : List Value} {x : List α} (h : (rArr n R).ok w m cs x) (w' : World) : (Instr.checkKey b (d + 1) t ((rArr n R).mk' cs)).run P w' = .ok () w' := by
  obtain ⟨hl, hr⟩ := h
  show (Instr.checkKey b (d + 1) t (.agg cs.toArray)).run P w' = _
  rw [Instr.checkKey]
  simp only [Sem.run_bind, run_underlying hu, Result.andThen_ok]
  simp only [Std.Legacy.Range.forIn_eq_forIn_range', Std.Legacy.Range.size, Nat.sub_zero, Nat.add_one_sub_one, Nat.div_one]
  have each : ∀ j ∈ List.range' 0 n, ∃ pre c post y, cs = pre ++ c ++ post ∧ pre.length = j * R.size ∧ R.ok w m c y := fun j hj => by
    have hj : j < n := by simpa [List.mem_range'] using hj
    obtain ⟨a, c, d, e1, e2, e3, _⟩ := Rows.get R hr j (by omega)
    exact ⟨a, c, d, _, e1, e2, e3⟩
  generalize List.range' 0 n = is at each
  induction is with
  | nil => simp
  | cons j is ih =>
    obtain ⟨pre, c, post, y, e1, e2, e3⟩ := each j (by simp)
    have p1 := run_part hT (w := w') (xs := cs.toArray) (pre := pre) (cs := c) (post := post) (by simp [e1]) e2 (R.len e3)
    have p2 := he w m c y e3 w'
    simp only [List.forIn_cons, Sem.run_bind, hT.run_size, Result.andThen_ok, p1, p2, Sem.run_pure]
    exact ih (fun y hy => each y (by simp [hy]))
theorem KeyAt.int {P : Program} {t : TypeId} {k : IntKind} (h : P.underlying t = some (.int k)) : KeyAt P t (rInt k) where
  und := ⟨_, h⟩
  eq := eqat_key (EqAt.int h) (by decide)
  chk := fun b w m cs x hx w' => by
    obtain ⟨rfl, _⟩ := hx
    exact chk_int h b 9999 x w'
  now := fun kind hk w m cs ds x y hx hy => by
    obtain ⟨rfl, _⟩ := hx
    obtain ⟨rfl, _⟩ := hy
    rw [h] at hk; cases hk
    refine .inr ?_
    show Instr.sameNow (.int k) (.int k x) (.int k y) = _
    simp [Instr.sameNow]
    rfl
  same := fun w m cs ds x hx hy => by
    obtain ⟨rfl, _⟩ := hx
    obtain ⟨rfl, _⟩ := hy
    exact same_int 9999 k x
theorem KeyAt.str {P : Program} {t : TypeId} (h : P.underlying t = some .string) : KeyAt P t rStr where
  und := ⟨_, h⟩
  eq := eqat_key (EqAt.str h) (by decide)
  chk := fun b w m cs x hx w' => by
    obtain ⟨s, rfl, rfl, _⟩ := hx
    exact chk_str h b 9999 s w'
  now := fun kind hk w m cs ds x y hx hy => by
    obtain ⟨s, rfl, rfl, _⟩ := hx
    obtain ⟨u, rfl, rfl, _⟩ := hy
    rw [h] at hk; cases hk
    refine .inr ?_
    show Instr.sameNow .string (.string s) (.string u) = _
    simp only [Instr.sameNow, bytes_beq]
  same := fun w m cs ds x hx hy => by
    obtain ⟨s, rfl, rfl, _⟩ := hx
    obtain ⟨u, rfl, e, _⟩ := hy
    obtain rfl := strL_inj e
    exact same_str 9999 s
/-- An array of numbers. -/
theorem KeyAt.ints {P : Program} {t e : TypeId} {k : IntKind} {n n' : Nat} (hu : P.underlying t = some (.array n e)) (he : P.underlying e = some (.int k)) (hT : TyOk P e (rInt k) n') : KeyAt P t (rArr n (rInt k)) where
  und := ⟨_, hu⟩
  eq := eqat_key (EqAt.arr hu hT (EqAt.int he)) (by decide)
  chk := fun b w m cs x hx w' => by
    exact chk_arr hu hT (fun w m cs x hx w' => by obtain ⟨rfl, _⟩ := hx; exact chk_int he b 9998 x w') hx w'
  now := fun kind hk w m cs ds x y hx hy => by
    rw [hu] at hk; cases hk
    exact .inl (by simp [Instr.sameNow])
  same := fun w m cs ds x hx hy => by
    have e : ∀ (x : List Int) (cs ds : List Value), Rows (rInt k) w m cs x → Rows (rInt k) w m ds x → cs = ds := by
      intro x
      induction x with
      | nil => intro cs ds h1 h2; have h1 : cs = [] := h1; have h2 : ds = [] := h2; rw [h1, h2]
      | cons a x ih =>
        intro cs ds h1 h2
        obtain ⟨a1, b1, e1, ⟨e2, _⟩, e3⟩ := h1
        obtain ⟨a2, b2, f1, ⟨f2, _⟩, f3⟩ := h2
        rw [e1, f1, e2, f2, ih _ _ e3 f3]
    have := e x cs ds hx.2 hy.2
    subst this
    show Instr.sameBits (9999 + 1) (.agg cs.toArray) (.agg cs.toArray) = true
    have key : ∀ (x : List Int) (cs : List Value), Rows (rInt k) w m cs x → (cs.zip cs).all (fun (p : Value × Value) => Instr.sameBits 9999 p.1 p.2) = true := by
      intro x
      induction x with
      | nil => intro cs h1; have h1 : cs = [] := h1; simp [h1]
      | cons a x ih =>
        intro cs h1
        obtain ⟨a1, b1, e1, ⟨e2, _⟩, e3⟩ := h1
        subst e1; subst e2
        simp only [List.cons_append, List.nil_append, List.zip_cons_cons, List.all_cons, ih _ e3, Bool.and_true]
        exact same_int 9998 k a
    simp only [Instr.sameBits, beq_self_eq_true, Bool.true_and]
    exact key x cs hx.2

theorem hv_nilm {C : Cx} {F : List Fact} {RK : Rep α} {RV : Rep β} : HasV C F (rMp RK RV) (.map none) [] := fun _ _ _ _ _ => ⟨[.map none], .inl ⟨rfl, rfl⟩, rfl⟩
/-! ### Finding -/
section
variable {P : Program} {t : TypeId} {RK : Rep α} {RV : Rep β} [DecidableEq α] {w : World} {m : List Nat} {cs : List Value} {x : α}
theorem find_asking (hK : KeyAt P t RK) (hx : RK.ok w m cs x) (w' : World) : ∀ (es : List MapEntry) (l : List (α × β)) (i : Nat), MapRows RK RV w m es l → (Instr.findAsking t (RK.mk' cs) es i).run P w' = .ok (fidx es l x i) w'
  | es, [], i, h => by have h : es = [] := h; subst h; simp [Instr.findAsking, fidx]
  | es, p :: l, i, h => by
    obtain ⟨e, r, h1, h2, h3, h4⟩ := h
    subst h1
    obtain ⟨ds, k1, k2⟩ := h2
    have h5 := hK.eq w m cs ds x p.1 hx k1 w'
    rw [← k2] at h5
    simp only [Instr.findAsking, Sem.run_bind, h5, Result.andThen_ok]
    by_cases hp : x = p.1
    · simp [fidx, hp]
    · simp only [hp, decide_false, Bool.false_eq_true, if_false, fidx]
      exact find_asking hK hx w' r l (i + 1) h4
theorem find_now (hK : KeyAt P t RK) {kind : TypeDesc} (hk : P.underlying t = some kind) (hx : RK.ok w m cs x) : ∀ (es : List MapEntry) (l : List (α × β)) (i : Nat), MapRows RK RV w m es l → Instr.findNow kind (RK.mk' cs) es i = none ∨ Instr.findNow kind (RK.mk' cs) es i = some (fidx es l x i)
  | es, [], i, h => by have h : es = [] := h; subst h; exact .inr (by simp [Instr.findNow, fidx])
  | es, p :: l, i, h => by
    obtain ⟨e, r, h1, h2, h3, h4⟩ := h
    subst h1
    obtain ⟨ds, k1, k2⟩ := h2
    have h5 := hK.now kind hk w m cs ds x p.1 hx k1
    rw [← k2] at h5
    rcases h5 with h5 | h5
    · exact .inl (by simp [Instr.findNow, h5])
    · by_cases hp : x = p.1
      · exact .inr (by simp [Instr.findNow, h5, fidx, hp])
      · rw [decide_eq_false hp] at h5
        rcases find_now hK hk hx r l (i + 1) h4 with h6 | h6
        · exact .inl (by simp [Instr.findNow, h5, h6])
        · exact .inr (by simp [Instr.findNow, h5, h6, fidx, hp])
theorem run_find (hK : KeyAt P t RK) (hx : RK.ok w m cs x) {es : List MapEntry} {l : List (α × β)} (h : MapRows RK RV w m es l) (w' : World) : (Instr.findKey t (RK.mk' cs) es).run P w' = .ok (fidx es l x 0) w' := by
  obtain ⟨kind, hk⟩ := hK.und
  unfold Instr.findKey
  simp only [Sem.run_bind, run_underlying hk, Result.andThen_ok]
  rcases find_now hK hk hx es l 0 h with h1 | h1
  · rw [h1]
    exact find_asking hK hx w' es l 0 h
  · rw [h1]
    simp
theorem fidx_spec {w : World} {m : List Nat} : ∀ (es : List MapEntry) (l : List (α × β)) (i : Nat), MapRows RK RV w m es l →
    (fidx es l x i = none ∧ mget l x = none ∧ ∀ y, mset l x y = l ++ [(x, y)]) ∨
    ∃ j e y0, fidx es l x i = some (i + j, e.val) ∧ es[j]? = some e ∧ RK.val w m e.key x ∧ RV.val w m e.val y0 ∧ mget l x = some y0 ∧
      ∀ w' m' key val y, RK.val w' m' key x → RV.val w' m' val y → MapRows RK RV w' m' es l → MapRows RK RV w' m' (es.modify j (fun e => { e with key, val })) (mset l x y)
  | es, [], i, h => by have h : es = [] := h; subst h; exact .inl ⟨rfl, rfl, fun _ => rfl⟩
  | es, p :: l, i, h => by
    obtain ⟨e, r, h1, h2, h3, h4⟩ := h
    subst h1
    by_cases hp : x = p.1
    · refine .inr ⟨0, e, p.2, by simp [fidx, hp], rfl, hp ▸ h2, h3, by simp [mget, hp], fun w' m' key val y hk hv hr => ?_⟩
      obtain ⟨e', r', g1, g2, g3, g4⟩ := hr
      cases g1
      have e1 : mset (p :: l) x y = (p.1, y) :: l := by simp [mset, hp]
      rw [e1]
      exact ⟨{ e with key, val }, r, by simp, hp ▸ hk, hv, g4⟩
    · rcases fidx_spec r l (i + 1) h4 with ⟨g1, g2, g3⟩ | ⟨j, e', y0, g1, g2, g3, g4, g5, g6⟩
      · exact .inl ⟨by simp [fidx, hp, g1], by simp [mget, hp, g2], fun y => by simp [mset, hp, g3]⟩
      · refine .inr ⟨j + 1, e', y0, by simp [fidx, hp, g1]; omega, by simpa using g2, g3, g4, by simp [mget, hp, g5], fun w' m' key val y hk hv hr => ?_⟩
        obtain ⟨e'', r', f1, f2, f3, f4⟩ := hr
        cases f1
        have := g6 w' m' key val y hk hv f4
        have e1 : mset (p :: l) x y = p :: mset l x y := by simp [mset, hp]
        rw [e1]
        exact ⟨e, _, by simp, f2, f3, this⟩
theorem keep_key (hK : KeyAt P t RK) {old new : Value} (h1 : RK.val w m old x) (h2 : RK.val w m new x) (w' : World) : (Instr.keyThatStays old new).run P w' = .ok new w' := by
  obtain ⟨cs, k1, rfl⟩ := h1
  obtain ⟨ds, k2, rfl⟩ := h2
  simp [Instr.keyThatStays, hK.same w m cs ds x k1 k2]
theorem Born.push {es : List MapEntry} {c : Nat} (h : Born es c) (key val : Value) : Born (es ++ [{ key, val, born := c }]) (c + 1) := by
  refine ⟨?_, fun e he => ?_⟩
  · rw [List.map_append, List.pairwise_append]
    refine ⟨h.1, by simp, fun a ha b hb => ?_⟩
    obtain ⟨e, he, rfl⟩ := List.mem_map.1 ha
    simp at hb
    subst hb
    exact h.2 e he
  · rcases List.mem_append.1 he with he | he
    · exact Nat.lt_succ_of_lt (h.2 e he)
    · simp at he; subst he; exact Nat.lt_succ_self c
theorem Born.modify {es : List MapEntry} {c : Nat} (h : Born es c) (j : Nat) (key val : Value) : Born (es.modify j (fun e => { e with key, val })) c := by
  have hm : ∀ (es : List MapEntry) (j : Nat), (es.modify j (fun e => { e with key, val })).map (·.born) = es.map (·.born) := by
    intro es
    induction es with
    | nil => intro j; simp
    | cons a es ih =>
      intro j
      cases j with
      | zero => simp
      | succ j => simp [ih]
  refine ⟨by rw [hm]; exact h.1, fun e he => ?_⟩
  have : e.born ∈ (es.modify j (fun e => { e with key, val })).map (·.born) := List.mem_map_of_mem he
  rw [hm] at this
  obtain ⟨e', he', heq⟩ := List.mem_map.1 this
  rw [← heq]
  exact h.2 e' he'
/-- Asking a map. -/
theorem run_lookup {tm e : TypeId} {n : Nat} {b : Nat} {es : Array MapEntry} {c : Nat} {l : List (α × β)} {kv : Value} (hu : P.underlying tm = some (.map t e)) (hK : KeyAt P t RK) (hV : TyOk P e RV n) (hx : RK.val w m kv x) (h : MapRows RK RV w m es.toList l) :
    ∃ v, RV.val w m v ((mget l x).getD RV.zeroD) ∧ ∀ ok w', w'.heap[b]? = some (.map es c) → (Instr.lookup tm (.map (some b)) kv ok).run P w' = .ok (if ok then .tuple #[v, .bool (mget l x).isSome] else v) w' := by
  obtain ⟨cs, k1, rfl⟩ := hx
  rcases fidx_spec (x := x) es.toList l 0 h with ⟨g1, g2, g3⟩ | ⟨j, e', y0, g1, g2, g3, g4, g5, g6⟩
  · refine ⟨RV.mk' RV.zero, by rw [g2]; exact ⟨_, RV.zok w m, rfl⟩, fun ok w' hb => ?_⟩
    have hf := run_find hK k1 h w'
    have hc := hK.chk es.isEmpty w m cs x k1 w'
    rw [g1] at hf
    have hg := run_getObj_map (P := P) (w := w') b es c hb
    cases ok <;> simp [Instr.lookup, run_underlying hu, hg, hc, hf, hV.run_zero, g2, Result.andThen]
  · refine ⟨e'.val, by rw [g5]; exact g4, fun ok w' hb => ?_⟩
    have hf := run_find hK k1 h w'
    have hc := hK.chk es.isEmpty w m cs x k1 w'
    rw [g1] at hf
    have hg := run_getObj_map (P := P) (w := w') b es c hb
    cases ok <;> simp [Instr.lookup, run_underlying hu, hg, hc, hf, g5, Result.andThen]
theorem run_lookup_nil {tm e : TypeId} {n : Nat} {w' : World} {kv : Value} (hu : P.underlying tm = some (.map t e)) (hK : KeyAt P t RK) (hV : TyOk P e RV n) (hx : RK.val w m kv x) (ok : Bool) :
    (Instr.lookup tm (.map none) kv ok).run P w' = .ok (if ok then .tuple #[RV.mk' RV.zero, .bool false] else RV.mk' RV.zero) w' := by
  obtain ⟨cs, k1, rfl⟩ := hx
  have hf := run_find (RV := RV) hK k1 (es := []) (l := []) rfl w'
  have hc := hK.chk true w m cs x k1 w'
  cases ok <;> simp [Instr.lookup, run_underlying hu, hc, hf, hV.run_zero, fidx, Result.andThen]
end
section
variable {C : Cx} {XI : List Nat} {E : List (Nat × Value)} {F : List Fact} {M : List Own} {d : Nat} {K : Cont} {Q : Exit → Act → World → Prop} {ops : Array Oper} {n : Nat}
variable {RK : Rep α} {RV : Rep β}
theorem g_makeMap (RK : Rep α) (RV : Rep β) {t ty : TypeId} {pos : String} {after : Array Edge} {gd : Option (Nat × Bool)} (hn : Nat.blt d C.n = true) (k : ∀ b, K ((d, .map (some b)) :: E) F (M ++ [Own.map b RK RV ([] : List (α × β))])) :
    GOp C XI E F M { dst := some d, op := .makeMap t none, type := ty, pos, after, guard := gd } K := by
  intro a w hs J Q hJ
  have hr : (execOp a.eval { dst := some d, op := .makeMap t none, type := ty, pos, after, guard := gd }).run C.P w = .ok (.value (.map (some w.heap.size))) (w.alloc (.map #[] 0)) := by
    simp [execOp, Instr.makeMap]
  unfold Oper.wp
  rw [hr]
  have g := Step.alloc (dr := C.dr) w (.map #[] 0) none
  refine hJ _ _ _ _ _ (k w.heap.size) (push_g (o := { dst := some d, op := .makeMap t none, type := ty, pos, after, guard := gd }) (fun a' => put_env hn _ a') hs g (fun b hb => by cases hb; simp) (fun m' hg _ _ => ?_)) (g.same (by intro b hb; cases hb)) (fun b hb => ?_)
  · exact ⟨#[], 0, alloc_new _ _, rfl, by simp [Born]⟩
  · rcases xs_push hb with h | h
    · exact .inl h
    · cases h; exact .inr (Nat.le_refl _)
section
variable [DecidableEq α]
/-- A map of the call's own is asked. -/
theorem d_lookup_own {x y : Operand} {b : Nat} {l : List (α × β)} {kv : Value} {k : α} {tm t e : TypeId} {nb : Nat} (i : Nat) (hx : ev E x = some (.map (some b))) (hm : M[i]? = some (Own.map b RK RV l)) (hy : ev E y = some kv) (hk : HasV C F RK kv k) (hu : C.P.underlying tm = some (.map t e)) (hK : KeyAt C.P t RK) (hV : TyOk C.P e RV nb)
    (hi : nin i XI = true) (h : ∀ v, K ((d, v) :: E) (RV.fact v ((mget l k).getD RV.zeroD) :: F) M) : DOp C XI E F M (.lookup tm x y false) d K :=
  DOp.mem (fun _ => True) (fun u => [RV.fact u ((mget l k).getD RV.zeroD)]) (fun a w hs => by
    obtain ⟨es, c, h5, h6, h7⟩ := hs.own _ (List.mem_of_getElem? hm)
    obtain ⟨v, h9, h10⟩ := run_lookup (b := b) (c := c) hu hK hV (hk E M a w hs) h6
    refine ⟨v, trivial, ?_, fun w' hw o ho' => ?_⟩
    · intro f hf
      simp only [List.mem_singleton] at hf
      subst hf
      exact h9
    · cases o; subst ho'
      have h8 : w'.heap[b]? = some (.map es c) := by rw [hw.2 b (lt_of_get h5) (not_mem_Xs hs.nodup hm rfl hi)]; exact h5
      simp [execOp, hs.ev hx, hs.ev hy, h10 false w' h8]) (fun u _ => h u)
theorem d_lookup_own_ok {x y : Operand} {b : Nat} {l : List (α × β)} {kv : Value} {k : α} {tm t e : TypeId} {nb : Nat} (i : Nat) (hx : ev E x = some (.map (some b))) (hm : M[i]? = some (Own.map b RK RV l)) (hy : ev E y = some kv) (hk : HasV C F RK kv k) (hu : C.P.underlying tm = some (.map t e)) (hK : KeyAt C.P t RK) (hV : TyOk C.P e RV nb)
    (hi : nin i XI = true) (h : ∀ v, K ((d, .tuple #[v, .bool (mget l k).isSome]) :: E) (RV.fact v ((mget l k).getD RV.zeroD) :: F) M) : DOp C XI E F M (.lookup tm x y true) d K :=
  DOp.mem (fun u => ∃ v, u = .tuple #[v, .bool (mget l k).isSome]) (fun u => match u with | .tuple ⟨[v, _]⟩ => [RV.fact v ((mget l k).getD RV.zeroD)] | _ => []) (fun a w hs => by
    obtain ⟨es, c, h5, h6, h7⟩ := hs.own _ (List.mem_of_getElem? hm)
    obtain ⟨v, h9, h10⟩ := run_lookup (b := b) (c := c) hu hK hV (hk E M a w hs) h6
    refine ⟨_, ⟨v, rfl⟩, ?_, fun w' hw o ho' => ?_⟩
    · intro f hf
      simp only [List.mem_singleton] at hf
      subst hf
      exact h9
    · cases o; subst ho'
      have h8 : w'.heap[b]? = some (.map es c) := by rw [hw.2 b (lt_of_get h5) (not_mem_Xs hs.nodup hm rfl hi)]; exact h5
      simp [execOp, hs.ev hx, hs.ev hy, h10 true w' h8]) (fun u hu => by obtain ⟨v, rfl⟩ := hu; exact h v)
/-- A map that is not written any more is asked. -/
theorem run_lookup_fr {P : Program} {t : TypeId} {w : World} {m : List Nat} {x : α} {tm e : TypeId} {n : Nat} {l : List (α × β)} {kv mv : Value} (hu : P.underlying tm = some (.map t e)) (hK : KeyAt P t RK) (hV : TyOk P e RV n) (hx : RK.val w m kv x) (h : (rMp RK RV).val w m mv l) {X : List Nat} (hX : ∀ b ∈ X, b ∈ m) :
    ∃ v, RV.val w m v ((mget l x).getD RV.zeroD) ∧ ∀ ok w', SameX X w w' → (Instr.lookup tm mv kv ok).run P w' = .ok (if ok then .tuple #[v, .bool (mget l x).isSome] else v) w' := by
  obtain ⟨cs, hcs, rfl⟩ := h
  rcases hcs with ⟨rfl, rfl⟩ | ⟨b, rfl, hbm, es, c, h5, h6, h7⟩
  · refine ⟨RV.mk' RV.zero, ⟨_, RV.zok w m, rfl⟩, fun ok w' _ => ?_⟩
    exact run_lookup_nil hu hK hV hx ok
  · obtain ⟨v, h9, h10⟩ := run_lookup (b := b) (c := c) hu hK hV hx h6
    refine ⟨v, h9, fun ok w' hw => h10 ok w' ?_⟩
    rw [hw.2 b (lt_of_get h5) (fun h => hbm (hX b h))]
    exact h5
theorem d_lookup_fr {x y : Operand} {mv : Value} {l : List (α × β)} {kv : Value} {k : α} {tm t e : TypeId} {nb : Nat} (hx : ev E x = some mv) (hm : (rMp RK RV).fact mv l ∈ F) (hy : ev E y = some kv) (hk : HasV C F RK kv k) (hu : C.P.underlying tm = some (.map t e)) (hK : KeyAt C.P t RK) (hV : TyOk C.P e RV nb)
    (h : ∀ v, K ((d, v) :: E) (RV.fact v ((mget l k).getD RV.zeroD) :: F) M) : DOp C XI E F M (.lookup tm x y false) d K :=
  DOp.mem (fun _ => True) (fun u => [RV.fact u ((mget l k).getD RV.zeroD)]) (fun a w hs => by
    obtain ⟨v, h9, h10⟩ := run_lookup_fr hu hK hV (hk E M a w hs) (hs.fact hm) (X := Xs XI M) (fun b hb => List.mem_append_right _ (mem_Xs hb))
    refine ⟨v, trivial, ?_, fun w' hw o ho' => ?_⟩
    · intro f hf
      simp only [List.mem_singleton] at hf
      subst hf
      exact h9
    · cases o; subst ho'
      simp [execOp, hs.ev hx, hs.ev hy, h10 false w' hw]) (fun u _ => h u)
theorem d_lookup_fr_ok {x y : Operand} {mv : Value} {l : List (α × β)} {kv : Value} {k : α} {tm t e : TypeId} {nb : Nat} (hx : ev E x = some mv) (hm : (rMp RK RV).fact mv l ∈ F) (hy : ev E y = some kv) (hk : HasV C F RK kv k) (hu : C.P.underlying tm = some (.map t e)) (hK : KeyAt C.P t RK) (hV : TyOk C.P e RV nb)
    (h : ∀ v, K ((d, .tuple #[v, .bool (mget l k).isSome]) :: E) (RV.fact v ((mget l k).getD RV.zeroD) :: F) M) : DOp C XI E F M (.lookup tm x y true) d K :=
  DOp.mem (fun u => ∃ v, u = .tuple #[v, .bool (mget l k).isSome]) (fun u => match u with | .tuple ⟨[v, _]⟩ => [RV.fact v ((mget l k).getD RV.zeroD)] | _ => []) (fun a w hs => by
    obtain ⟨v, h9, h10⟩ := run_lookup_fr hu hK hV (hk E M a w hs) (hs.fact hm) (X := Xs XI M) (fun b hb => List.mem_append_right _ (mem_Xs hb))
    refine ⟨_, ⟨v, rfl⟩, ?_, fun w' hw o ho' => ?_⟩
    · intro f hf
      simp only [List.mem_singleton] at hf
      subst hf
      exact h9
    · cases o; subst ho'
      simp [execOp, hs.ev hx, hs.ev hy, h10 true w' hw]) (fun u hu => by obtain ⟨v, rfl⟩ := hu; exact h v)
/-- An entry is written. -/
theorem g_mapUpdate {x y z : Operand} {b : Nat} {l : List (α × β)} {kv v : Value} {k : α} {u : β} {tm t e ty : TypeId} {pos : String} {after : Array Edge} {gd : Option (Nat × Bool)} (i : Nat) (hx : ev E x = some (.map (some b))) (hm : M[i]? = some (Own.map b RK RV l)) (hy : ev E y = some kv) (hk : HasV C F RK kv k) (hz : ev E z = some v) (hv : HasV C F RV v u)
    (hu : C.P.underlying tm = some (.map t e)) (hK : KeyAt C.P t RK) (hX : i ∈ XI) (h : K E F (M.set i (Own.map b RK RV (mset l k u)))) : GOp C XI E F M { dst := none, op := .mapUpdate tm x y z, type := ty, pos, after, guard := gd } K := by
  intro a w hs J Q hJ
  obtain ⟨es, c, h5, h6, h7⟩ := hs.own _ (List.mem_of_getElem? hm)
  have hkv := hk E M a w hs
  have hvv := hv E M a w hs
  obtain ⟨cs, k1, hcs⟩ := id hkv
  have hf := run_find hK k1 h6 w
  have hc := hK.chk false w _ cs k k1 w
  rw [← hcs] at hf hc
  have hg := run_getObj_map (P := C.P) (w := w) b es c h5
  obtain ⟨es', c', hrun, hrows, hborn⟩ : ∃ (es' : Array MapEntry) (c' : Nat), (Instr.mapUpdate tm (.map (some b)) kv v).run C.P w = .ok () { w with heap := w.heap.setIfInBounds b (.map es' c') } ∧ (∀ m' w', Grows w (C.m0 ++ Blocks M) w' m' → MapRows RK RV w' m' es'.toList (mset l k u)) ∧ Born es'.toList c' := by
    rcases fidx_spec (x := k) es.toList l 0 h6 with ⟨g1, g2, g3⟩ | ⟨j, e', y0, g1, g2, g3, g4, g5, g6⟩
    · refine ⟨es.push { key := kv, val := v, born := c }, c + 1, ?_, fun m' w' gr => ?_, ?_⟩
      · rw [g1] at hf
        have hst := MapKept.run_setObj_map (P := C.P) (w := w) (.map (es.push { key := kv, val := v, born := c }) (c + 1)) h5
        simp [Instr.mapUpdate, run_underlying hu, hg, hc, hf, hst, Result.andThen]
      · rw [g3, Array.toList_push]
        exact MapRows.append (RK.val_mono gr hkv) (RV.val_mono gr hvv) (h6.mono gr)
      · rw [Array.toList_push]
        exact h7.push kv v
    · refine ⟨es.modify j fun e => { e with key := kv, val := v }, c, ?_, fun m' w' gr => ?_, ?_⟩
      · rw [g1] at hf
        have hst := MapKept.run_setObj_map (P := C.P) (w := w) (.map (es.modify j fun e => { e with key := kv, val := v }) c) h5
        have hj : es[j]? = some e' := by rw [← Array.getElem?_toList]; exact g2
        have hkk := keep_key hK g3 hkv w
        simp [Instr.mapUpdate, run_underlying hu, hg, hc, hf, hj, hkk, hst, Result.andThen]
      · rw [Array.toList_modify]
        exact g6 w' m' kv v u (RK.val_mono gr hkv) (RV.val_mono gr hvv) (h6.mono gr)
      · rw [Array.toList_modify]
        exact h7.modify j kv v
  have hr : (execOp a.eval { dst := none, op := .mapUpdate tm x y z, type := ty, pos, after, guard := gd }).run C.P w = .ok .skip { w with heap := w.heap.setIfInBounds b (.map es' c') } := by
    simp [execOp, hs.ev hx, hs.ev hy, hs.ev hz, hrun]
  unfold Oper.wp
  rw [hr]
  have g : Step C.dr w { w with heap := w.heap.setIfInBounds b (.map es' c') } (some b) := by
    refine ⟨rfl, rfl, rfl, ?_, fun b' hb' hne' => ?_, fun _ => Nat.le_refl _⟩
    · simp
    · show (w.heap.setIfInBounds b _)[b']? = _
      rw [Array.getElem?_setIfInBounds_ne (fun e => hne' (by rw [e]))]
  refine hJ _ _ _ _ _ h (set_g (o := { dst := none, op := .mapUpdate tm x y z, type := ty, pos, after, guard := gd }) hm rfl hs g (fun b' hb' => .inl hb') (fun m' hg _ _ => ?_)) (g.same (by intro b' hb'; cases hb'; exact xs_at hm hX rfl)) (fun b' hb' => ?_)
  · refine ⟨es', c', ?_, hrows _ _ hg, hborn⟩
    show (w.heap.setIfInBounds b _)[b]? = _
    rw [Array.getElem?_setIfInBounds_self_of_lt (lt_of_get h5)]
  · rcases xs_set hb' with h | h
    · exact .inl h
    · cases h; exact .inl (xs_at hm hX rfl)
end
/-- A slice held against nil. -/
theorem d_eql_nil {R : Rep γ} {x : Operand} {v : Value} {nb : Nat} {l : List γ} {t e t' : TypeId} (hx : ev E x = some v) (hf : (rSl nb R).fact v l ∈ F) (hu : C.P.underlying t = some (.slice e)) (h : ∀ b : Bool, (b = true → l = []) → K ((d, .bool b) :: E) F M) :
    DOp C XI E F M (.binOp .eql t x (.const (.slice none 0 0)) t') d K :=
  DOp.mem (fun u => ∃ b : Bool, (b = true → l = []) ∧ u = .bool b) (fun _ => []) (fun a w hs => by
    obtain ⟨base, cap, rfl, h1, h2, h3, h3', h4⟩ := val_sl (hs.fact hf)
    refine ⟨.bool base.isNone, ⟨base.isNone, fun hb => ?_, rfl⟩, by (intro f hf; cases hf), fun w' _ o ho => ?_⟩
    · rcases h4 with h4 | ⟨a, rfl, _⟩
      · exact h4
      · cases hb
    · cases o; subst ho
      have := Go.run_eql_slice_nil (P := C.P) w' t e base l.length cap hu
      have ec : a.eval (.const (.slice none 0 0)) = .slice none 0 0 := rfl
      simp [execOp, hs.ev hx, ec, eqGuard, this]) (fun u hu => by obtain ⟨b, hb, rfl⟩ := hu; exact h b hb)
theorem d_neq_nil {R : Rep γ} {x : Operand} {v : Value} {nb : Nat} {l : List γ} {t e t' : TypeId} (hx : ev E x = some v) (hf : (rSl nb R).fact v l ∈ F) (hu : C.P.underlying t = some (.slice e)) (h : ∀ b : Bool, (b = false → l = []) → K ((d, .bool b) :: E) F M) :
    DOp C XI E F M (.binOp .neq t x (.const (.slice none 0 0)) t') d K :=
  DOp.mem (fun u => ∃ b : Bool, (b = false → l = []) ∧ u = .bool b) (fun _ => []) (fun a w hs => by
    obtain ⟨base, cap, rfl, h1, h2, h3, h3', h4⟩ := val_sl (hs.fact hf)
    refine ⟨.bool (!base.isNone), ⟨!base.isNone, fun hb => ?_, rfl⟩, by (intro f hf; cases hf), fun w' _ o ho => ?_⟩
    · rcases h4 with h4 | ⟨a, rfl, _⟩
      · exact h4
      · cases hb
    · cases o; subst ho
      have := Go.run_neq_slice_nil (P := C.P) w' t e base l.length cap hu
      have ec : a.eval (.const (.slice none 0 0)) = .slice none 0 0 := rfl
      simp [execOp, hs.ev hx, ec, eqGuard, this]) (fun u hu => by obtain ⟨b, hb, rfl⟩ := hu; exact h b hb)
/-- The head of a slice of the call's own. -/
theorem g_slice_buf {R : Rep γ} {x : Operand} {hi : Option Operand} {v : Value} {n' nb : Nat} {l : List γ} {t e ty : TypeId} {j : Int} {pos : String} {after : Array Edge} {gd : Option (Nat × Bool)} (i : Nat) (hn : Nat.blt d C.n = true) (hx : ev E x = some v) (hm : M[i]? = some (Own.buf v nb R l)) (hhi : Bnd E hi l.length j)
    (hu : C.P.underlying t = some (.slice e)) (hT : TyOk C.P e R n') (h0 : (0 : Int) ≤ j ∧ j ≤ (l.length : Int)) (hX : i ∈ XI) (k : ∀ v', K ((d, v') :: E) F (M.set i (Own.buf v' nb R (l.take j.toNat)))) :
    GOp C XI E F M { dst := some d, op := .slice t x none hi none, type := ty, pos, after, guard := gd } K := by
  intro a w hs J Q hJ
  obtain ⟨g0, g0', h4⟩ := hs.own _ (List.mem_of_getElem? hm)
  have hlt : (l.take j.toNat).length = j.toNat := by rw [List.length_take]; omega
  obtain ⟨base, cap, hv, hcap, hb2⟩ : ∃ base cap, v = .slice base l.length cap ∧ l.length ≤ cap ∧ (bufBlk (.slice base j.toNat cap) = bufBlk v) := by
    rcases h4 with ⟨base, rfl, rfl⟩ | ⟨b, cap, cs, rest, T, rfl, h1, h2, h3, h4, h5⟩
    · exact ⟨base, 0, rfl, Nat.le_refl _, by cases base <;> rfl⟩
    · exact ⟨_, cap + 1, rfl, h1, rfl⟩
  have hbd := run_bounds (P := C.P) (w := w) (isSlice := true) (len := l.length) (cap := cap) (lo := none) (hi := hi.map a.eval) (i := 0) (j := j) (.inl ⟨rfl, rfl⟩) (hhi.val (a := a) (fun y u hy => hs.ev hy)) (by omega)
  have hadd : base.map (·.add 0) = base := by
    cases base with
    | none => rfl
    | some p => rfl
  have hr : (execOp a.eval { dst := some d, op := .slice t x none hi none, type := ty, pos, after, guard := gd }).run C.P w = .ok (.value (.slice base j.toNat cap)) w := by
    have := hs.ev hx
    rw [hv] at this
    simp [execOp, this, Instr.sliceAt, Instr.slice, run_underlying hu, hbd, hT.run_size, hadd]
  unfold Oper.wp
  rw [hr]
  have g : Step C.dr w w (bufBlk v) := Step.refl w _
  obtain ⟨f1, f2⟩ := hs.set (o' := Own.buf (.slice base j.toNat cap) nb R (l.take j.toNat)) hm g (fun b hb => .inl (hb2.symm.trans (show bufBlk (.slice base j.toNat cap) = some b from hb))) (fun m' hg _ _ => by
    refine ⟨Nat.le_trans (Nat.mul_le_mul_right _ (by omega)) g0, by omega, ?_⟩
    rcases h4 with ⟨base', rfl, rfl⟩ | ⟨b, cap', cs, rest, T, rfl, h1, h2, h3, h4, h5⟩
    · cases hv
      refine .inl ⟨base, ?_, by simp⟩
      have : j.toNat = 0 := by simp at h0; omega
      rw [this]
    · cases hv
      have hl2 : l = l.take j.toNat ++ l.drop j.toNat := by simp
      rw [hl2] at h5
      obtain ⟨ca, cb, e1, e2, e3⟩ := Rows.split R h5
      subst e1
      exact .inr ⟨b, cap', ca, cb ++ rest, T, by rw [hlt], by omega, h2, by rw [h3]; simp, by simpa using h4, Rows.mono R hg e2⟩)
  obtain ⟨p1, p2, p3⟩ := put_env (C := C) hn (.slice base j.toNat cap) a hs.env hs.size
  refine hJ _ _ _ _ _ (k _) { f1 with env := p1, size := p2, defers := p3.trans hs.defers } (SameX.refl _ _) (fun b' hb' => ?_)
  rcases xs_set hb' with h | h
  · exact .inl h
  · exact .inl (xs_at hm hX (hb2.symm.trans (show bufBlk (.slice base j.toNat cap) = some b' from h)))
/-- A map of the call's own, from now on not written any more. -/
theorem freezemap_st {a : Act} {w : World} {b : Nat} {x : List (α × β)} (h : OKst C E F M a w) {i : Nat} (hi : M[i]? = some (Own.map b RK RV x)) : OKst C E ((rMp RK RV).fact (.map (some b)) x :: F) (M.set i Own.gone) a w := by
  obtain ⟨f1, f2⟩ := h.drop hi
  have hb := not_in_dropped h hi rfl
  obtain ⟨es, c, h5, h6, h7⟩ := h.own _ (List.mem_of_getElem? hi)
  exact f1.more _ ⟨[.map (some b)], .inr ⟨b, rfl, hb, es, c, h5, h6.mono f2, h7⟩, rfl⟩
theorem tl_freezemap {os : List Oper} {b : Nat} {x : List (α × β)} (i : Nat) (hi : M[i]? = some (Own.map b RK RV x)) (h : TL C ops E ((rMp RK RV).fact (.map (some b)) x :: F) (M.set i Own.gone) os Q) : TL C ops E F M os Q := fun a w hs => h a w (freezemap_st hs hi)
theorem ta_freezemap {fuel : Nat} {listed : Array Bool} {b : Nat} {x : List (α × β)} (i : Nat) (hi : M[i]? = some (Own.map b RK RV x)) (h : TA C ops n XI fuel listed E ((rMp RK RV).fact (.map (some b)) x :: F) (M.set i Own.gone) Q) : TA C ops n XI fuel listed E F M Q :=
  ta_smaller (fun _ _ hs => freezemap_st hs hi) (fun b hb => (xs_set hb).elim id (fun h => by cases h)) h
theorem q_freezemap {J : Act → World → Prop} {b : Nat} {x : List (α × β)} (i : Nat) (hi : M[i]? = some (Own.map b RK RV x)) (h : QT C E ((rMp RK RV).fact (.map (some b)) x :: F) (M.set i Own.gone) J) : QT C E F M J := fun a w hs => h a w (freezemap_st hs hi)
theorem t_freezemap {c : Code} {b : Nat} {x : List (α × β)} (i : Nat) (hi : M[i]? = some (Own.map b RK RV x)) (h : T C E ((rMp RK RV).fact (.map (some b)) x :: F) (M.set i Own.gone) c Q) : T C E F M c Q := fun a w hs => h a w (freezemap_st hs hi)
end
end Go.Cf
