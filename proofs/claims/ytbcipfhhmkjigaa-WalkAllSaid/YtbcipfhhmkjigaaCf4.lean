/- Rules: equality of arrays and structs, slicing, strings, parts of values, struct values. -/
import Derived.Test.YtbcipfhhmkjigaaCf3
import Derived.ChangeKeysEq
set_option linter.unusedVariables false
set_option linter.unusedSimpArgs false
namespace Go.Cf
open Go Go.RowKit
variable {α β : Type}

/-! ### Equality -/
/-- '==' at type t says whether the data are one; k: how deep it goes. -/
def EqAt (P : Program) (t : TypeId) (R : Rep α) [DecidableEq α] (k : Nat) : Prop :=
  ∀ d w m cs ds x y, R.ok w m cs x → R.ok w m ds y → ∀ w', (Op.equalIn (d + k) t (R.mk' cs) (R.mk' ds)).run P w' = .ok (decide (x = y)) w'

theorem strL_inj {a b : ByteArray} (h : strL a = strL b) : a = b := by
  have h1 : a.data.toList = b.data.toList := by
    refine List.map_inj_right ?_ |>.1 h
    intro x y hxy
    exact UInt8.toNat_inj.1 (by have : (x.toNat : Int) = y.toNat := hxy; omega)
  cases a; cases b
  simp at h1
  rw [h1]
theorem toList_data (a : ByteArray) : a.toList = a.data.toList := ByteArray.toList_eq a
theorem str_beq (a b : ByteArray) : (a.toList == b.toList) = decide (strL a = strL b) := by
  rw [toList_data, toList_data]
  by_cases h : a = b
  · subst h; simp
  · rw [decide_eq_false (fun e => h (strL_inj e))]
    rw [beq_eq_false_iff_ne]
    intro e
    apply h
    cases a; cases b
    simp at e
    rw [e]

theorem EqAt.int {P : Program} {t : TypeId} {k : IntKind} (h : P.underlying t = some (.int k)) : EqAt P t (rInt k) 1 := by
  intro d w m cs ds x y ⟨hx, _⟩ ⟨hy, _⟩ w'
  subst hx; subst hy
  show (Op.equalIn (d + 1) t (.int k x) (.int k y)).run P w' = _
  rw [run_equalIn_int w' d t k k x y h]
  rfl
theorem EqAt.bool {P : Program} {t : TypeId} (h : P.underlying t = some .bool) : EqAt P t rBool 1 := by
  intro d w m cs ds x y hx hy w'
  have hx : cs = [.bool x] := hx
  have hy : ds = [.bool y] := hy
  subst hx; subst hy
  show (Op.equalIn (d + 1) t (.bool x) (.bool y)).run P w' = _
  rw [run_equalIn_bool w' d t x y h]
  rfl
theorem EqAt.str {P : Program} {t : TypeId} (h : P.underlying t = some .string) : EqAt P t rStr 1 := by
  intro d w m cs ds x y ⟨s, hx, hx', _⟩ ⟨u, hy, hy', _⟩ w'
  subst hx; subst hy; subst hx'; subst hy'
  show (Op.equalIn (d + 1) t (.string s) (.string u)).run P w' = _
  rw [run_equalIn_string w' d t s u h, str_beq]

theorem run_part {P : Program} {w : World} {t : TypeId} {R : Rep α} {n : Nat} (hT : TyOk P t R n) {pre cs post : List Value} {xs : Array Value} {off : Nat} (hx : xs.toList = pre ++ cs ++ post) (ho : pre.length = off) (hl : cs.length = R.size) :
    (part t xs off).run P w = .ok (R.mk' cs) w := by
  unfold part
  simp only [Sem.run_bind, hT.run_agg, Result.andThen_ok]
  cases hag : R.agg with
  | true =>
    simp only [if_true, Sem.run_bind, hT.run_size, Result.andThen_ok, Sem.run_pure, mk_agg hag]
    congr 2
    apply Array.toList_inj.1
    rw [Array.toList_extract, hx, ← hl, ← ho]
    simp [List.extract_eq_take_drop]
  | false =>
    have h1 := R.sc hag
    rw [h1] at hl
    match cs, hl with
    | [c], _ =>
      have : xs[off]? = some c := by rw [← Array.getElem?_toList, hx, ← ho]; simp
      simp [this, mk_one hag]

theorem EqAt.arr {P : Program} {t e : TypeId} {n n' k : Nat} {R : Rep α} [DecidableEq α] (hu : P.underlying t = some (.array n e)) (hT : TyOk P e R n') (he : EqAt P e R k) : EqAt P t (rArr n R) (k + 1) := by
  intro d w m cs ds x y ⟨hx0, hx⟩ ⟨hy0, hy⟩ w'
  obtain ⟨i, hi, hi2, _⟩ := hT.info
  show (Op.equalIn (d + k + 1) t (.agg cs.toArray) (.agg ds.toArray)).run P w' = _
  rw [run_equalIn_array w' (d + k) cs.toArray ds.toArray hu hi]
  have hcell : P.cellsOf e = R.size := by simp [Program.cellsOf, hi, hi2]
  rw [hcell]
  have key : ∀ (x y : List α) (j : Nat) (pre pre' c1 d1 : List Value), x.length = y.length → Rows R w m c1 x → Rows R w m d1 y → pre.length = j * R.size → pre'.length = j * R.size → cs = pre ++ c1 → ds = pre' ++ d1 →
      (Op.eqItems (d + k) e R.size cs.toArray ds.toArray (List.range' j x.length)).run P w' = .ok (decide (x = y)) w' := by
    intro x
    induction x with
    | nil =>
      intro y j pre pre' c1 d1 hl _ _ _ _ _ _
      match y, hl with
      | [], _ => simp [Op.eqItems]
    | cons a x ih =>
      intro y j pre pre' c1 d1 hl h1 h2 h3 h4 h5 h6
      match y, hl, h2 with
      | b :: y, hl, h2 =>
        obtain ⟨ca, cb, e1, e2, e3⟩ := h1
        obtain ⟨da, db, f1, f2, f3⟩ := h2
        rw [List.length_cons, List.range'_succ]
        simp only [Op.eqItems, Sem.run_bind]
        rw [run_part hT (pre := pre) (cs := ca) (post := cb) (by simp [h5, e1]) h3 (R.len e2), Result.andThen_ok, run_part hT (pre := pre') (cs := da) (post := db) (by simp [h6, f1]) h4 (R.len f2), Result.andThen_ok, he d w m ca da a b e2 f2 w']
        simp only [Result.andThen_ok]
        by_cases hab : a = b
        · subst hab
          simp only [decide_true, Bool.not_true, Bool.false_eq_true, if_false]
          rw [ih y (j + 1) (pre ++ ca) (pre' ++ da) cb db (by simpa using hl) e3 f3 (by simp [h3, R.len e2, Nat.add_mul]) (by simp [h4, R.len f2, Nat.add_mul]) (by simp [h5, e1]) (by simp [h6, f1])]
          simp
        · simp [hab]
  rw [List.range_eq_range', ← hx0]
  exact key x y 0 [] [] cs ds (by omega) hx hy (by simp) (by simp) rfl rfl

/-- '==' over a struct's fields, from cell 'base' on. -/
def EqC (P : Program) (fs : List Field) (base : Nat) (R : Rep α) [DecidableEq α] (k : Nat) : Prop :=
  ∀ d w m cs ds x y (pre pre' : List Value) (xs ys : Array Value), xs.toList = pre ++ cs → ys.toList = pre' ++ ds → pre.length = base → pre'.length = base → R.ok w m cs x → R.ok w m ds y →
    ∀ w', (Op.eqFields (d + k) xs ys fs).run P w' = .ok (decide (x = y)) w'
theorem EqC.last {P : Program} {f : Field} {base n k : Nat} {R : Rep α} [DecidableEq α] (hn : f.name ≠ "_") (ho : f.offset = base) (hT : TyOk P f.type R n) (he : EqAt P f.type R k) : EqC P [f] base R k := by
  intro d w m cs ds x y pre pre' xs ys hx hy h1 h2 h3 h4 w'
  simp only [Op.eqFields, hn, ne_eq, not_false_eq_true, if_true, Sem.run_bind]
  rw [run_part hT (pre := pre) (cs := cs) (post := []) (by simp [hx]) (by rw [h1, ho]) (R.len h3), Result.andThen_ok, run_part hT (pre := pre') (cs := ds) (post := []) (by simp [hy]) (by rw [h2, ho]) (R.len h4), Result.andThen_ok, he d w m cs ds x y h3 h4 w']
  simp only [Result.andThen_ok]
  by_cases h : x = y <;> simp [h]
theorem EqC.cons {P : Program} {f : Field} {fs : List Field} {base n k k' : Nat} {R : Rep α} {S : Rep β} [DecidableEq α] [DecidableEq β] (hn : f.name ≠ "_") (ho : f.offset = base) (hT : TyOk P f.type R n) (he : EqAt P f.type R k) (hs : EqC P fs (base + R.size) S k') :
    EqC P (f :: fs) base (rProd R S) (max k k') := by
  intro d w m cs ds x y pre pre' xs ys hx hy h1 h2 h3 h4 w'
  obtain ⟨ca, cb, e1, e2, e3⟩ := h3
  obtain ⟨da, db, f1, f2, f3⟩ := h4
  simp only [Op.eqFields, hn, ne_eq, not_false_eq_true, if_true, Sem.run_bind]
  have hk : d + max k k' = (d + (max k k' - k)) + k := by omega
  have hk' : d + max k k' = (d + (max k k' - k')) + k' := by omega
  rw [run_part hT (pre := pre) (cs := ca) (post := cb) (by simp [hx, e1]) (by rw [h1, ho]) (R.len e2), Result.andThen_ok, run_part hT (pre := pre') (cs := da) (post := db) (by simp [hy, f1]) (by rw [h2, ho]) (R.len f2), Result.andThen_ok, hk, he _ w m ca da x.1 y.1 e2 f2 w']
  simp only [Result.andThen_ok]
  rw [← hk, hk']
  have key := hs (d + (max k k' - k')) w m cb db x.2 y.2 (pre ++ ca) (pre' ++ da) xs ys (by simp [hx, e1]) (by simp [hy, f1]) (by simp [h1, R.len e2]) (by simp [h2, R.len f2]) e3 f3 w'
  obtain ⟨x1, x2⟩ := x
  obtain ⟨y1, y2⟩ := y
  by_cases h : x1 = y1
  · simp only [h, decide_true, Bool.not_true, Bool.false_eq_true, if_false]
    rw [key]
    simp
  · simp [h]
theorem EqAt.struct {P : Program} {t : TypeId} {R : Rep α} {g : β → α} {f : α → β} {hg : ∀ x, g (f x) = x} [DecidableEq α] [DecidableEq β] {fs : Array Field} {k : Nat} (hu : P.underlying t = some (.struct fs)) (hp : P.stoodInHeld t = false) (hi : ∀ x y : β, g x = g y → x = y)
    (h : EqC P fs.toList 0 R k) : EqAt P t (rMap R g f hg) (k + 1) := by
  intro d w m cs ds x y hx hy w'
  show (Op.equalIn (d + k + 1) t (.agg cs.toArray) (.agg ds.toArray)).run P w' = _
  have hfs : P.fieldsOf t = fs := by simp [Program.fieldsOf, hu]
  rw [run_equalIn_struct w' (d + k) t cs.toArray ds.toArray (by rw [hfs]; exact hu) hp, hfs]
  rw [h d w m cs ds (g x) (g y) [] [] cs.toArray ds.toArray (by simp) (by simp) rfl rfl hx hy w']
  congr 1
  by_cases e : x = y
  · subst e; simp
  · have : g x ≠ g y := fun h => e (hi x y h)
    simp [e, this]

section
variable {C : Cx} {XI : List Nat} {E : List (Nat × Value)} {F : List Fact} {M : List Own} {d : Nat} {K : Cont}

theorem d_eql_agg {x y : Operand} {v u : Value} {R : Rep α} [DecidableEq α] {a b : α} {t t' : TypeId} {k : Nat} (hx : ev E x = some v) (hy : ev E y = some u) (hf : R.fact v a ∈ F) (hf' : R.fact u b ∈ F) (hag : R.agg = true)
    (he : EqAt C.P t R k) (hk : k ≤ 10000) (hm : C.P.eqGuardType C.P.depth t = false) (h : K ((d, .bool (decide (a = b))) :: E) F M) : DOp C XI E F M (.binOp .eql t x y t') d K :=
  DOp.mem (fun u => u = .bool (decide (a = b))) (fun _ => []) (fun ac w hs => by
    obtain ⟨cs, h1, rfl⟩ := hs.fact hf
    obtain ⟨ds, h2, rfl⟩ := hs.fact hf'
    refine ⟨_, rfl, by (intro f hf; cases hf), fun w' _ o ho => ?_⟩
    cases o; subst ho
    have := he (10000 - k) w _ cs ds a b h1 h2 w'
    rw [Nat.sub_add_cancel hk, mk_agg hag, mk_agg hag] at this
    simp [execOp, hs.ev hx, hs.ev hy, mk_agg hag, run_eqGuard_agg w' _ _ _ _ _ _ hm, run_eql_struct, this]) (fun u hu => by subst hu; exact h)
theorem d_neq_agg {x y : Operand} {v u : Value} {R : Rep α} [DecidableEq α] {a b : α} {t t' : TypeId} {k : Nat} (hx : ev E x = some v) (hy : ev E y = some u) (hf : R.fact v a ∈ F) (hf' : R.fact u b ∈ F) (hag : R.agg = true)
    (he : EqAt C.P t R k) (hk : k ≤ 10000) (hm : C.P.eqGuardType C.P.depth t = false) (h : K ((d, .bool (!decide (a = b))) :: E) F M) : DOp C XI E F M (.binOp .neq t x y t') d K :=
  DOp.mem (fun u => u = .bool (!decide (a = b))) (fun _ => []) (fun ac w hs => by
    obtain ⟨cs, h1, rfl⟩ := hs.fact hf
    obtain ⟨ds, h2, rfl⟩ := hs.fact hf'
    refine ⟨_, rfl, by (intro f hf; cases hf), fun w' _ o ho => ?_⟩
    cases o; subst ho
    have := he (10000 - k) w _ cs ds a b h1 h2 w'
    rw [Nat.sub_add_cancel hk, mk_agg hag, mk_agg hag] at this
    simp [execOp, hs.ev hx, hs.ev hy, mk_agg hag, run_eqGuard_agg w' _ _ _ _ _ _ hm, run_neq_struct, this]) (fun u hu => by subst hu; exact h)
theorem d_eql_bool {x y : Operand} {a b : Bool} {t t' : TypeId} (hx : ev E x = some (.bool a)) (hy : ev E y = some (.bool b)) (hu : C.P.underlying t = some .bool) (h : K ((d, .bool (decide (a = b))) :: E) F M) : DOp C XI E F M (.binOp .eql t x y t') d K :=
  DOp.pure _ (fun _ w o he ho => by
    cases o; subst ho
    have := run_equal_bool w t a b hu
    simp [execOp, he x _ hx, he y _ hy, eqGuard, binOp, this]
    cases a <;> cases b <;> rfl) h
theorem d_neq_bool {x y : Operand} {a b : Bool} {t t' : TypeId} (hx : ev E x = some (.bool a)) (hy : ev E y = some (.bool b)) (hu : C.P.underlying t = some .bool) (h : K ((d, .bool (!decide (a = b))) :: E) F M) : DOp C XI E F M (.binOp .neq t x y t') d K :=
  DOp.pure _ (fun _ w o he ho => by
    cases o; subst ho
    have := run_equal_bool w t a b hu
    simp [execOp, he x _ hx, he y _ hy, eqGuard, binOp, this]
    cases a <;> cases b <;> rfl) h

/-! ### Strings -/
/-- One list of bytes before another. -/
def lexLt : List Int → List Int → Bool
  | _, [] => false
  | [], _ :: _ => true
  | a :: x, b :: y => decide (a < b) || (decide (a = b) && lexLt x y)
theorem bytesLess_strL (a b : ByteArray) : Op.bytesLess a.toList b.toList = lexLt (strL a) (strL b) := by
  rw [toList_data, toList_data]
  unfold strL
  generalize a.data.toList = x
  generalize b.data.toList = y
  induction x generalizing y with
  | nil => cases y <;> simp [Op.bytesLess, lexLt]
  | cons c x ih =>
    cases y with
    | nil => simp [Op.bytesLess, lexLt]
    | cons e y =>
      simp only [Op.bytesLess, List.map_cons, lexLt, ih]
      congr 1
      · rw [Bool.eq_iff_iff]; simp [UInt8.lt_iff_toNat_lt]
      · congr 1
        rw [Bool.eq_iff_iff]; simp [← UInt8.toNat_inj]; omega

/-- A string's test by its bytes. -/
theorem d_str_cmp {x y : Operand} {v u : Value} {a b : List Int} {t t' : TypeId} {op : BinOp} (g : Bool) (hx : ev E x = some v) (hy : ev E y = some u) (hf : rStr.fact v a ∈ F) (hf' : rStr.fact u b ∈ F)
    (hg : (op = .eql ∧ g = decide (a = b)) ∨ (op = .neq ∧ g = !decide (a = b)) ∨ (op = .lss ∧ g = lexLt a b) ∨ (op = .leq ∧ g = (lexLt a b || decide (a = b))) ∨ (op = .gtr ∧ g = !(lexLt a b || decide (a = b))) ∨ (op = .geq ∧ g = !lexLt a b))
    (h : K ((d, .bool g) :: E) F M) : DOp C XI E F M (.binOp op t x y t') d K :=
  DOp.mem (fun u => u = .bool g) (fun _ => []) (fun ac w hs => by
    obtain ⟨s1, rfl, rfl, _⟩ := val_str (hs.fact hf)
    obtain ⟨s2, rfl, rfl, _⟩ := val_str (hs.fact hf')
    refine ⟨_, rfl, by (intro f hf; cases hf), fun w' _ o ho => ?_⟩
    cases o; subst ho
    rcases hg with ⟨rfl, rfl⟩ | ⟨rfl, rfl⟩ | ⟨rfl, rfl⟩ | ⟨rfl, rfl⟩ | ⟨rfl, rfl⟩ | ⟨rfl, rfl⟩ <;>
      simp [execOp, hs.ev hx, hs.ev hy, eqGuard, binOp, Op.stringOp, str_beq, bytesLess_strL]) (fun u hu => by subst hu; exact h)
theorem d_str_add {x y : Operand} {v u : Value} {a b : List Int} {t t' : TypeId} (hx : ev E x = some v) (hy : ev E y = some u) (hf : rStr.fact v a ∈ F) (hf' : rStr.fact u b ∈ F) (hl : a.length + b.length ≤ maxB)
    (h : ∀ z, K ((d, z) :: E) (rStr.fact z (a ++ b) :: F) M) : DOp C XI E F M (.binOp .add t x y t') d K :=
  DOp.mem (fun _ => True) (fun z => [rStr.fact z (a ++ b)]) (fun ac w hs => by
    obtain ⟨s1, rfl, rfl, _⟩ := val_str (hs.fact hf)
    obtain ⟨s2, rfl, rfl, _⟩ := val_str (hs.fact hf')
    refine ⟨.string (s1 ++ s2), trivial, ?_, fun w' _ o ho => ?_⟩
    · intro f hf
      simp only [List.mem_singleton] at hf
      subst hf
      exact ⟨[.string (s1 ++ s2)], ⟨s1 ++ s2, rfl, by simp [strL], by simpa using hl⟩, rfl⟩
    · cases o; subst ho
      rw [strL_length, strL_length] at hl
      unfold maxB at hl
      simp only [execOp, hs.ev hx, hs.ev hy, eqGuard, binOp, Op.stringOp]
      simp
      omega) (fun z _ => h z)
theorem d_index_str {x ix : Operand} {v : Value} {l : List Int} {t : TypeId} {k : IntKind} {j : Int} (hx : ev E x = some v) (hf : rStr.fact v l ∈ F) (hi : ev E ix = some (.int k j)) (hu : C.P.underlying t = some .string) (h0 : 0 ≤ j ∧ j < l.length)
    (h : IntKind.u8.wrap (l.getD j.toNat 0) = l.getD j.toNat 0 → K ((d, .int .u8 (l.getD j.toNat 0)) :: E) F M) : DOp C XI E F M (.index t x ix) d K :=
  DOp.mem (fun u => u = .int .u8 (l.getD j.toNat 0) ∧ IntKind.u8.wrap (l.getD j.toNat 0) = l.getD j.toNat 0) (fun _ => []) (fun ac w hs => by
    obtain ⟨s, rfl, rfl, _⟩ := val_str (hs.fact hf)
    have hj : j.toNat < s.size := by have := h0.2; rw [strL_length] at this; omega
    have e : (strL s).getD j.toNat 0 = (s.data[j.toNat]'hj).toNat := by simp [strL, List.getD_eq_getElem?_getD, hj]
    refine ⟨_, ⟨rfl, ?_⟩, by (intro f hf; cases hf), fun w' _ o ho => ?_⟩
    · rw [e]
      have := (s.data[j.toNat]'hj).toNat_lt
      simp only [IntKind.wrap, IntKind.signed, IntKind.bits]
      simp
      omega
    · cases o; subst ho
      have h2 : s[j.toNat]? = some s[j.toNat] := by simp [hj]
      have e' : (strL s)[j.toNat]?.getD 0 = ((s.data[j.toNat]'hj).toNat : Int) := by rw [← e, List.getD_eq_getElem?_getD]
      simp [execOp, hs.ev hx, hs.ev hi, Instr.index, run_underlying hu, asIntOf, h0.1, h2]
      rw [e']
      rfl) (fun u ⟨hu, hw⟩ => by subst hu; exact h hw)

/-! ### Slicing -/
/-- From i on to before j. -/
def sub (l : List α) (i j : Int) : List α := (l.take j.toNat).drop i.toNat
theorem sub_length (l : List α) (i j : Int) (h : 0 ≤ i ∧ i ≤ j ∧ j ≤ l.length) : (sub l i j).length = (j - i).toNat := by
  simp [sub]; omega
/-- A bound that is there or not. -/
def Bnd (E : List (Nat × Value)) (x : Option Operand) (dflt i : Int) : Prop := (x = none ∧ i = dflt) ∨ ∃ y k, x = some y ∧ ev E y = some (.int k i)
theorem run_bounds {P : Program} {w : World} {isSlice : Bool} {len cap : Nat} {lo hi : Option Value} {i j : Int} (hlo : (lo = none ∧ i = 0) ∨ ∃ k, lo = some (.int k i)) (hhi : (hi = none ∧ j = len) ∨ ∃ k, hi = some (.int k j)) (h : 0 ≤ i ∧ i ≤ j ∧ j ≤ cap) :
    (Instr.sliceBounds isSlice len cap lo hi none).run P w = .ok (i.toNat, j.toNat, cap) w := by
  have e1 : ¬ (j < 0) := by omega
  rcases hlo with ⟨rfl, rfl⟩ | ⟨k, rfl⟩ <;> rcases hhi with ⟨rfl, rfl⟩ | ⟨k', rfl⟩
  · simp [Instr.sliceBounds]
  · have h1 : 0 ≤ j ∧ j ≤ cap := by omega
    simp [Instr.sliceBounds, Instr.sliceBound, asIntOf, h1]
  · have h1 : 0 ≤ i ∧ i ≤ len := by omega
    simp [Instr.sliceBounds, Instr.sliceBound, asIntOf, h1]
  · have h1 : 0 ≤ j ∧ j ≤ cap := by omega
    have h2 : 0 ≤ i ∧ i ≤ (j.toNat : Int) := by omega
    have h3 : max j 0 = j := by omega
    simp [Instr.sliceBounds, Instr.sliceBound, asIntOf, h1, h2, h3]
    intro hh
    omega
theorem Bnd.val {E : List (Nat × Value)} {x : Option Operand} {dflt i : Int} (h : Bnd E x dflt i) {a : Act} (he : ∀ y u, ev E y = some u → a.eval y = u) : (x.map a.eval = none ∧ i = dflt) ∨ ∃ k, x.map a.eval = some (.int k i) := by
  rcases h with ⟨rfl, h⟩ | ⟨y, k, rfl, h⟩
  · exact .inl ⟨rfl, h⟩
  · exact .inr ⟨k, by simp [he y _ h]⟩

theorem d_slice_sl {x : Operand} {lo hi : Option Operand} {v : Value} {n n' : Nat} {R : Rep α} {l : List α} {t e : TypeId} {i j : Int} (hx : ev E x = some v) (hf : (rSl n R).fact v l ∈ F) (hlo : Bnd E lo 0 i) (hhi : Bnd E hi l.length j)
    (hu : C.P.underlying t = some (.slice e)) (hT : TyOk C.P e R n') (h0 : 0 ≤ i ∧ i ≤ j ∧ j ≤ l.length)
    (h : ∀ u, K ((d, u) :: E) ((rSl n R).fact u (sub l i j) :: F) M) : DOp C XI E F M (.slice t x lo hi none) d K :=
  DOp.mem (fun _ => True) (fun u => [(rSl n R).fact u (sub l i j)]) (fun a w hs => by
    obtain ⟨base, cap, rfl, h1, h2, h3, h3', h4⟩ := val_sl (hs.fact hf)
    refine ⟨.slice (if cap = i.toNat then base else base.map (·.add (i.toNat * R.size))) (j.toNat - i.toNat) (cap - i.toNat), trivial, ?_, fun w' _ o ho => ?_⟩
    · intro f hf
      simp only [List.mem_singleton] at hf
      subst hf
      have hl := sub_length l i j h0
      refine ⟨[.slice (if cap = i.toNat then base else base.map (·.add (i.toNat * R.size))) (j.toNat - i.toNat) (cap - i.toNat)], ⟨_, cap - i.toNat, by rw [hl]; congr 2; omega, by omega, by omega, ?_, by omega, ?_⟩, rfl⟩
      · exact Nat.le_trans (Nat.mul_le_mul_right _ (by omega)) h3
      · by_cases hemp : sub l i j = []
        · exact .inl hemp
        · have hpos : 0 < (sub l i j).length := List.length_pos_iff.2 hemp
          refine .inr ?_
          rcases h4 with rfl | ⟨p, rfl, cells, h5, h6⟩
          · simp [sub] at hpos
          obtain ⟨ca, cb, cc, e1, e2, e3⟩ := Rows.cut R h5 i.toNat j.toNat (by omega) (by omega)
          rw [if_neg (by omega)]
          refine ⟨_, rfl, cb, e3, ?_⟩
          rw [← e2]
          exact MemAt.sub (e1 ▸ h6)
    · cases o; subst ho
      have hb := run_bounds (P := C.P) (w := w') (isSlice := true) (len := l.length) (cap := cap) (hlo.val (a := a) (fun y u hy => hs.ev hy)) (hhi.val (a := a) (fun y u hy => hs.ev hy)) (by omega)
      simp [execOp, hs.ev hx, Instr.sliceAt, Instr.slice, run_underlying hu, hb, hT.run_size]) (fun u _ => h u)
theorem strL_extract (s : ByteArray) (i j : Nat) : strL (s.extract i j) = ((strL s).take j).drop i := by
  simp [strL, List.extract_eq_take_drop, List.map_take, List.map_drop, List.drop_take]
theorem d_slice_str {x : Operand} {lo hi : Option Operand} {v : Value} {l : List Int} {t : TypeId} {i j : Int} (hx : ev E x = some v) (hf : rStr.fact v l ∈ F) (hlo : Bnd E lo 0 i) (hhi : Bnd E hi l.length j) (hu : C.P.underlying t = some .string) (h0 : 0 ≤ i ∧ i ≤ j ∧ j ≤ l.length)
    (h : ∀ u, K ((d, u) :: E) (rStr.fact u (sub l i j) :: F) M) : DOp C XI E F M (.slice t x lo hi none) d K :=
  DOp.mem (fun _ => True) (fun u => [rStr.fact u (sub l i j)]) (fun a w hs => by
    obtain ⟨s, rfl, rfl, h1⟩ := val_str (hs.fact hf)
    rw [strL_length] at h0 h1
    refine ⟨.string (s.extract i.toNat j.toNat), trivial, ?_, fun w' _ o ho => ?_⟩
    · intro f hf
      simp only [List.mem_singleton] at hf
      subst hf
      refine ⟨[.string _], ⟨_, rfl, (strL_extract _ _ _).symm, ?_⟩, rfl⟩
      rw [sub_length _ _ _ (by rw [strL_length]; exact h0)]
      omega
    · cases o; subst ho
      have hb := run_bounds (P := C.P) (w := w') (isSlice := false) (len := s.size) (cap := s.size) (hlo.val (a := a) (fun y u hy => hs.ev hy)) ((strL_length s ▸ hhi).val (a := a) (fun y u hy => hs.ev hy)) h0
      simp [execOp, hs.ev hx, Instr.sliceAt, Instr.slice, run_underlying hu, hb]) (fun u _ => h u)
/-- An array that lies there, as a slice. -/
theorem d_slice_place {x : Operand} {lo hi : Option Operand} {p : Addr} {n n' : Nat} {R : Rep α} {l : List α} {t e : TypeId} {i j : Int} (by_ : Nat) (hx : ev E x = some (.pointer (some p))) (hf : (rArr n R).place p l ∈ F) (hlo : Bnd E lo 0 i) (hhi : Bnd E hi n j)
    (hu : C.P.underlying t = some (.array n e)) (hT : TyOk C.P e R n') (h0 : 0 ≤ i ∧ i ≤ j ∧ j ≤ n) (hn : n * by_ ≤ maxB ∧ n ≤ maxB)
    (h : ∀ u, K ((d, u) :: E) ((rSl by_ R).fact u (sub l i j) :: F) M) : DOp C XI E F M (.slice t x lo hi none) d K :=
  DOp.mem (fun _ => True) (fun u => [(rSl by_ R).fact u (sub l i j)]) (fun a w hs => by
    obtain ⟨cells, ⟨hl0, h5⟩, h6⟩ := hs.place hf
    refine ⟨.slice (some (if n = i.toNat then p else p.add (i.toNat * R.size))) (j.toNat - i.toNat) (n - i.toNat), trivial, ?_, fun w' _ o ho => ?_⟩
    · intro f hf
      simp only [List.mem_singleton] at hf
      subst hf
      have hl := sub_length l i j (by omega)
      refine ⟨[.slice (some (if n = i.toNat then p else p.add (i.toNat * R.size))) (j.toNat - i.toNat) (n - i.toNat)], ⟨_, n - i.toNat, by rw [hl]; congr 2; omega, by omega, by unfold maxB at hn; omega, ?_, by omega, ?_⟩, rfl⟩
      · exact Nat.le_trans (Nat.mul_le_mul_right _ (by omega)) hn.1
      · by_cases hemp : sub l i j = []
        · exact .inl hemp
        · have hpos : 0 < (sub l i j).length := List.length_pos_iff.2 hemp
          refine .inr ?_
          obtain ⟨ca, cb, cc, e1, e2, e3⟩ := Rows.cut R h5 i.toNat j.toNat (by omega) (by omega)
          rw [if_neg (by omega)]
          refine ⟨_, rfl, cb, e3, ?_⟩
          rw [← e2]
          exact MemAt.sub (e1 ▸ h6)
    · cases o; subst ho
      have hb := run_bounds (P := C.P) (w := w') (isSlice := false) (len := n) (cap := n) (hlo.val (a := a) (fun y u hy => hs.ev hy)) (hhi.val (a := a) (fun y u hy => hs.ev hy)) (by omega)
      simp [execOp, hs.ev hx, Instr.sliceAt, Instr.sureAddr, run_underlying hu, hb, hT.run_size]) (fun u _ => h u)
/-- A slice's head as an array that lies there. -/
theorem d_s2ap {x : Operand} {v : Value} {n n' : Nat} {R : Rep α} {l : List α} {t e : TypeId} (hx : ev E x = some v) (hf : (rSl n' R).fact v l ∈ F) (hu : C.P.underlying t = some (.array n e)) (hn : n ≤ l.length) (hpos : 0 < n)
    (h : ∀ p, K ((d, .pointer (some p)) :: E) ((rArr n R).place p (l.take n) :: F) M) : DOp C XI E F M (.sliceToArrayPointer t x) d K :=
  DOp.mem (fun u => ∃ p, u = .pointer (some p)) (fun u => match u with | .pointer (some p) => [(rArr n R).place p (l.take n)] | _ => []) (fun a w hs => by
    obtain ⟨base, cap, rfl, h1, h2, h3, h3', h4⟩ := val_sl (hs.fact hf)
    rcases h4 with rfl | ⟨p, rfl, cells, h5, h6⟩
    · simp at hn; omega
    obtain ⟨ca, cb, cc, e1, e2, e3⟩ := Rows.cut R h5 0 n (by omega) hn
    have e2' : ca = [] := List.length_eq_zero_iff.1 (by simpa using e2)
    subst e2'
    refine ⟨.pointer (some p), ⟨p, rfl⟩, ?_, fun w' _ o ho => ?_⟩
    · intro f hf
      simp only [List.mem_singleton] at hf
      subst hf
      refine ⟨cb, ⟨by simp; omega, by simpa using e3⟩, ?_⟩
      have := MemAt.sub (x := []) (y := cb) (z := cc) (by rw [← e1]; exact h6)
      simpa [Addr.add] using this
    · cases o; subst ho
      have : ¬ l.length < n := by omega
      simp [execOp, hs.ev hx, Instr.arrayAt, run_underlying hu, this]) (fun u ⟨p, hp⟩ => by subst hp; exact h p)

/-! ### Parts of values -/
theorem d_field {x : Operand} {v : Value} {R : Rep α} {S : Rep β} {y : α} {s j off n : Nat} {f : Field} {fs : Array Field} {pre : α → Prop} {get : α → β} {set : α → β → α} (hx : ev E x = some v) (hf : R.fact v y ∈ F) (hag : R.agg = true)
    (hu : C.P.underlying s = some (.struct fs)) (hj : fs[j]? = some f) (ho : f.offset = off) (hT : TyOk C.P f.type S n) (hS : Fld R off S pre get set) (hp : pre y) (h : ∀ u, K ((d, u) :: E) (S.fact u (get y) :: F) M) : DOp C XI E F M (.field s x j) d K :=
  DOp.mem (fun _ => True) (fun u => [S.fact u (get y)]) (fun a w hs => by
    obtain ⟨cs, h1, rfl⟩ := hs.fact hf
    obtain ⟨ca, cb, cc, e1, e2, e3, _⟩ := hS.cut h1 hp
    refine ⟨S.mk' cb, trivial, ?_, fun w' _ o ho' => ?_⟩
    · intro f hf
      simp only [List.mem_singleton] at hf
      subst hf
      exact ⟨cb, e3, rfl⟩
    · cases o; subst ho'
      have := run_part (w := w') hT (pre := ca) (cs := cb) (post := cc) (xs := cs.toArray) (off := f.offset) (by simp [e1]) (by rw [e2, ho]) (S.len e3)
      simp [execOp, hs.ev hx, Instr.field, run_underlying hu, hj, mk_agg hag, asAgg, this]) (fun u _ => h u)
theorem d_index_arr {x ix : Operand} {v : Value} {n n' : Nat} {R : Rep α} {l : List α} {t e : TypeId} {k : IntKind} {j : Int} (hx : ev E x = some v) (hf : (rArr n R).fact v l ∈ F) (hi : ev E ix = some (.int k j)) (hu : C.P.underlying t = some (.array n e)) (hT : TyOk C.P e R n') (h0 : 0 ≤ j ∧ j < n)
    (h : ∀ u, K ((d, u) :: E) (R.fact u (l.getD j.toNat R.zeroD) :: F) M) : DOp C XI E F M (.index t x ix) d K :=
  DOp.mem (fun _ => True) (fun u => [R.fact u (l.getD j.toNat R.zeroD)]) (fun a w hs => by
    obtain ⟨cs, ⟨hl, h1⟩, rfl⟩ := hs.fact hf
    have hj : j.toNat < l.length := by omega
    obtain ⟨ca, cb, cc, e1, e2, e3, _⟩ := Rows.get R h1 j.toNat hj
    refine ⟨R.mk' cb, trivial, ?_, fun w' _ o ho' => ?_⟩
    · intro f hf
      simp only [List.mem_singleton] at hf
      subst hf
      exact ⟨cb, by simpa [List.getD_eq_getElem?_getD, List.getElem?_eq_getElem hj] using e3, rfl⟩
    · cases o; subst ho'
      have := run_part (w := w') hT (pre := ca) (cs := cb) (post := cc) (xs := cs.toArray) (off := j.toNat * R.size) (by simp [e1]) e2 (R.len e3)
      simp [execOp, hs.ev hx, hs.ev hi, Instr.index, run_underlying hu, asIntOf, h0.1, h0.2, hT.run_size, Rep.mk', rArr, this]) (fun u _ => h u)
/-- A whole number, a bool out of a fact. -/
theorem d_as_int {op : Op} {k : IntKind} {y : Int} (hD : ∀ K' : Cont, (∀ v, K' ((d, v) :: E) ((rInt k).fact v y :: F) M) → DOp C XI E F M op d K') (h : k.wrap y = y → K ((d, .int k y) :: E) F M) : DOp C XI E F M op d K :=
  DOp.of_fact hD (fun v => v = .int k y ∧ k.wrap y = y) (fun _ _ _ hv => val_int hv) (fun v hv => by obtain ⟨rfl, hw⟩ := hv; exact h hw)
theorem d_as_bool {op : Op} {y : Bool} (hD : ∀ K' : Cont, (∀ v, K' ((d, v) :: E) (rBool.fact v y :: F) M) → DOp C XI E F M op d K') (h : K ((d, .bool y) :: E) F M) : DOp C XI E F M op d K :=
  DOp.of_fact hD (fun v => v = .bool y) (fun _ _ _ hv => val_bool hv) (fun v hv => by obtain rfl := hv; exact h)
end
end Go.Cf
