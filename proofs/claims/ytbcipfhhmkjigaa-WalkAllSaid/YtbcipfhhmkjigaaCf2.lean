/- Rules for operations that only compute: numbers, bools, strings, tuples. -/
import Derived.Test.YtbcipfhhmkjigaaCf1
set_option linter.unusedVariables false
set_option linter.unusedSimpArgs false
namespace Go.Cf
open Go Go.RowKit
variable {α β : Type}

section
variable {C : Cx} {XI : List Nat} {E : List (Nat × Value)} {F : List Fact} {M : List Own} {d : Nat} {K : Cont}

/-- An operation whose value hangs on its operands alone. -/
theorem DOp.pure {op : Op} (v : Value) (h : ∀ (a : Act) (w : World) (o : Oper), (∀ x u, ev E x = some u → a.eval x = u) → o.op = op → (execOp a.eval o).run C.P w = .ok (.value v) w) (k : K ((d, v) :: E) F M) : DOp C XI E F M op d K :=
  fun a w hs => ⟨v, [], fun w' _ o ho => h a w' o (fun _ _ hx => hs.ev hx) ho, (by intro f hf; cases hf), k⟩

theorem d_move {x : Operand} {v : Value} (hx : ev E x = some v) (k : K ((d, v) :: E) F M) : DOp C XI E F M (.move x) d K :=
  DOp.pure v (fun a w o he ho => by cases o; subst ho; simp [execOp, he x v hx]) k
theorem d_assign {x : Operand} {v : Value} (hx : ev E x = some v) (k : K ((d, v) :: E) F M) : DOp C XI E F M (.assign x) d K :=
  DOp.pure v (fun a w o he ho => by cases o; subst ho; simp [execOp, he x v hx]) k
theorem d_pick_true {c x y : Operand} {t : Bool} {v : Value} (hc : ev E c = some (.bool t)) (ht : t = true) (hx : ev E x = some v) (k : K ((d, v) :: E) F M) : DOp C XI E F M (.pick c x y) d K :=
  DOp.pure v (fun a w o he ho => by cases o; subst ho; subst ht; simp [execOp, he c _ hc, he x v hx, asBool]) k
theorem d_pick_false {c x y : Operand} {t : Bool} {v : Value} (hc : ev E c = some (.bool t)) (ht : t = false) (hx : ev E y = some v) (k : K ((d, v) :: E) F M) : DOp C XI E F M (.pick c x y) d K :=
  DOp.pure v (fun a w o he ho => by cases o; subst ho; subst ht; simp [execOp, he c _ hc, he y v hx, asBool]) k
theorem d_pick {c x y : Operand} {t : Bool} {v u : Value} (hc : ev E c = some (.bool t)) (hx : ev E x = some v) (hy : ev E y = some u) (k : K ((d, if t then v else u) :: E) F M) : DOp C XI E F M (.pick c x y) d K :=
  DOp.pure _ (fun a w o he ho => by cases o; subst ho; cases t <;> simp [execOp, he c _ hc, he x v hx, he y u hy, asBool]) k
theorem d_extract {x : Operand} {vs : Array Value} {i : Nat} {v : Value} (hx : ev E x = some (.tuple vs)) (hv : vs[i]? = some v) (k : K ((d, v) :: E) F M) : DOp C XI E F M (.extract x i) d K :=
  DOp.pure v (fun a w o he ho => by cases o; subst ho; simp [execOp, he x _ hx, Instr.extract, hv]) k
theorem d_nilCheck {x : Operand} {p : Addr} (hx : ev E x = some (.pointer (some p))) (k : K ((d, .pointer (some p)) :: E) F M) : DOp C XI E F M (.nilCheck x) d K :=
  DOp.pure _ (fun a w o he ho => by cases o; subst ho; simp [execOp, he x _ hx]) k

/-! ### Numbers -/
def iand (k : IntKind) (a b : Int) : Int := k.wrap (BitVec.ofInt k.bits a &&& BitVec.ofInt k.bits b).toNat
def ior (k : IntKind) (a b : Int) : Int := k.wrap (BitVec.ofInt k.bits a ||| BitVec.ofInt k.bits b).toNat
def ixor (k : IntKind) (a b : Int) : Int := k.wrap (BitVec.ofInt k.bits a ^^^ BitVec.ofInt k.bits b).toNat
def iandn (k : IntKind) (a b : Int) : Int := k.wrap (BitVec.ofInt k.bits a &&& ~~~ BitVec.ofInt k.bits b).toNat
def ishl (k : IntKind) (a b : Int) : Int := k.wrap (a * 2 ^ (min b.toNat k.bits))
def ishr (k : IntKind) (a b : Int) : Int := a.fdiv (2 ^ (min b.toNat k.bits))

section
variable {x y : Operand} {k : IntKind} {a b : Int} {t t' : TypeId}
theorem d_add (hx : ev E x = some (.int k a)) (hy : ev E y = some (.int k b)) (h : K ((d, .int k (k.wrap (a + b))) :: E) F M) : DOp C XI E F M (.binOp .add t x y t') d K :=
  DOp.pure _ (fun _ _ o he ho => by cases o; subst ho; simp [execOp, he x _ hx, he y _ hy, binOp, Op.intArith, eqGuard]) h
theorem d_sub (hx : ev E x = some (.int k a)) (hy : ev E y = some (.int k b)) (h : K ((d, .int k (k.wrap (a - b))) :: E) F M) : DOp C XI E F M (.binOp .sub t x y t') d K :=
  DOp.pure _ (fun _ _ o he ho => by cases o; subst ho; simp [execOp, he x _ hx, he y _ hy, binOp, Op.intArith, eqGuard]) h
theorem d_mul (hx : ev E x = some (.int k a)) (hy : ev E y = some (.int k b)) (h : K ((d, .int k (k.wrap (a * b))) :: E) F M) : DOp C XI E F M (.binOp .mul t x y t') d K :=
  DOp.pure _ (fun _ _ o he ho => by cases o; subst ho; simp [execOp, he x _ hx, he y _ hy, binOp, Op.intArith, eqGuard]) h
theorem d_quo (hx : ev E x = some (.int k a)) (hy : ev E y = some (.int k b)) (h0 : b ≠ 0) (h : K ((d, .int k (k.wrap (a.tdiv b))) :: E) F M) : DOp C XI E F M (.binOp .quo t x y t') d K :=
  DOp.pure _ (fun _ _ o he ho => by cases o; subst ho; simp [execOp, he x _ hx, he y _ hy, binOp, Op.intDiv, eqGuard, h0]) h
theorem d_rem (hx : ev E x = some (.int k a)) (hy : ev E y = some (.int k b)) (h0 : b ≠ 0) (h : K ((d, .int k (a.tmod b)) :: E) F M) : DOp C XI E F M (.binOp .rem t x y t') d K :=
  DOp.pure _ (fun _ _ o he ho => by cases o; subst ho; simp [execOp, he x _ hx, he y _ hy, binOp, Op.intDiv, eqGuard, h0]) h
theorem d_and (hx : ev E x = some (.int k a)) (hy : ev E y = some (.int k b)) (h : K ((d, .int k (iand k a b)) :: E) F M) : DOp C XI E F M (.binOp .and t x y t') d K :=
  DOp.pure _ (fun _ _ o he ho => by cases o; subst ho; simp [execOp, he x _ hx, he y _ hy, binOp, Op.intBits, eqGuard, iand]) h
theorem d_or (hx : ev E x = some (.int k a)) (hy : ev E y = some (.int k b)) (h : K ((d, .int k (ior k a b)) :: E) F M) : DOp C XI E F M (.binOp .or t x y t') d K :=
  DOp.pure _ (fun _ _ o he ho => by cases o; subst ho; simp [execOp, he x _ hx, he y _ hy, binOp, Op.intBits, eqGuard, ior]) h
theorem d_xor (hx : ev E x = some (.int k a)) (hy : ev E y = some (.int k b)) (h : K ((d, .int k (ixor k a b)) :: E) F M) : DOp C XI E F M (.binOp .xor t x y t') d K :=
  DOp.pure _ (fun _ _ o he ho => by cases o; subst ho; simp [execOp, he x _ hx, he y _ hy, binOp, Op.intBits, eqGuard, ixor]) h
theorem d_andNot (hx : ev E x = some (.int k a)) (hy : ev E y = some (.int k b)) (h : K ((d, .int k (iandn k a b)) :: E) F M) : DOp C XI E F M (.binOp .andNot t x y t') d K :=
  DOp.pure _ (fun _ _ o he ho => by cases o; subst ho; simp [execOp, he x _ hx, he y _ hy, binOp, Op.intBits, eqGuard, iandn]) h
theorem d_shl {k' : IntKind} (hx : ev E x = some (.int k a)) (hy : ev E y = some (.int k' b)) (h0 : 0 ≤ b) (h : K ((d, .int k (ishl k a b)) :: E) F M) : DOp C XI E F M (.binOp .shl t x y t') d K :=
  DOp.pure _ (fun _ _ o he ho => by cases o; subst ho; simp [execOp, he x _ hx, he y _ hy, binOp, Op.shift, eqGuard, ishl, Int.not_lt.2 h0]) h
theorem d_shr {k' : IntKind} (hx : ev E x = some (.int k a)) (hy : ev E y = some (.int k' b)) (h0 : 0 ≤ b) (h : K ((d, .int k (ishr k a b)) :: E) F M) : DOp C XI E F M (.binOp .shr t x y t') d K :=
  DOp.pure _ (fun _ _ o he ho => by cases o; subst ho; simp [execOp, he x _ hx, he y _ hy, binOp, Op.shift, eqGuard, ishr, Int.not_lt.2 h0]) h
theorem d_lss (hx : ev E x = some (.int k a)) (hy : ev E y = some (.int k b)) (h : K ((d, .bool (decide (a < b))) :: E) F M) : DOp C XI E F M (.binOp .lss t x y t') d K :=
  DOp.pure _ (fun _ _ o he ho => by cases o; subst ho; simp [execOp, he x _ hx, he y _ hy, binOp, Op.intCmp, eqGuard]) h
theorem d_leq (hx : ev E x = some (.int k a)) (hy : ev E y = some (.int k b)) (h : K ((d, .bool (decide (a ≤ b))) :: E) F M) : DOp C XI E F M (.binOp .leq t x y t') d K :=
  DOp.pure _ (fun _ _ o he ho => by cases o; subst ho; simp [execOp, he x _ hx, he y _ hy, binOp, Op.intCmp, eqGuard]) h
theorem d_gtr (hx : ev E x = some (.int k a)) (hy : ev E y = some (.int k b)) (h : K ((d, .bool (decide (b < a))) :: E) F M) : DOp C XI E F M (.binOp .gtr t x y t') d K :=
  DOp.pure _ (fun _ _ o he ho => by cases o; subst ho; simp [execOp, he x _ hx, he y _ hy, binOp, Op.intCmp, eqGuard]) h
theorem d_geq (hx : ev E x = some (.int k a)) (hy : ev E y = some (.int k b)) (h : K ((d, .bool (decide (b ≤ a))) :: E) F M) : DOp C XI E F M (.binOp .geq t x y t') d K :=
  DOp.pure _ (fun _ _ o he ho => by cases o; subst ho; simp [execOp, he x _ hx, he y _ hy, binOp, Op.intCmp, eqGuard]) h
theorem d_eql (hx : ev E x = some (.int k a)) (hy : ev E y = some (.int k b)) (h : K ((d, .bool (decide (a = b))) :: E) F M) : DOp C XI E F M (.binOp .eql t x y t') d K :=
  DOp.pure _ (fun _ _ o he ho => by cases o; subst ho; simp [execOp, he x _ hx, he y _ hy, binOp, Op.intCmp, eqGuard]; rfl) h
theorem d_neq (hx : ev E x = some (.int k a)) (hy : ev E y = some (.int k b)) (h : K ((d, .bool (!decide (a = b))) :: E) F M) : DOp C XI E F M (.binOp .neq t x y t') d K :=
  DOp.pure _ (fun _ _ o he ho => by cases o; subst ho; simp [execOp, he x _ hx, he y _ hy, binOp, Op.intCmp, eqGuard, bne]; rfl) h
theorem d_neg (hx : ev E x = some (.int k a)) (h : K ((d, .int k (k.wrap (0 - a))) :: E) F M) : DOp C XI E F M (.unOp .neg t x) d K :=
  DOp.pure _ (fun _ _ o he ho => by cases o; subst ho; simp [execOp, he x _ hx, Op.unary, Op.intArith]) h
theorem d_not {p : Bool} (hx : ev E x = some (.bool p)) (h : K ((d, .bool (!p)) :: E) F M) : DOp C XI E F M (.unOp .not t x) d K :=
  DOp.pure _ (fun _ _ o he ho => by cases o; subst ho; simp [execOp, he x _ hx, Op.unary]) h
/-- A number of another kind. -/
theorem d_conv {k' : IntKind} {s : TypeDesc} (hs : C.P.underlying t = some s) (ht : C.P.underlying t' = some (.int k')) (hx : ev E x = some (.int k a)) (h : K ((d, .int k' (k'.wrap a)) :: E) F M) : DOp C XI E F M (.convert t t' x) d K :=
  DOp.pure _ (fun _ w o he ho => by
    cases o; subst ho
    have e1 : (underlying t).run C.P w = .ok s w := run_underlying hs _
    have e2 : (underlying t').run C.P w = .ok (.int k') w := run_underlying ht _
    simp [execOp, he x _ hx, convert, e1, e2, Conv.intToInt]) h
end
end
end Go.Cf
