/- The judgement over symbolic states: slots (E), frozen facts (F), blocks of the call's own (M); its rules for code; regions in any order. -/
import Derived.Test.YtbcipfhhmkjigaaCf0
set_option linter.unusedVariables false
set_option linter.unusedSimpArgs false
namespace Go.Cf
open Go Go.RowKit
variable {α β : Type}

/-- A fact on memory that growth keeps. -/
structure Fact where
  p : World → List Nat → Prop
  mono : ∀ w m w' m', Grows w m w' m' → p w m → p w' m'
def Rep.fact (R : Rep α) (v : Value) (x : α) : Fact := ⟨fun w m => R.val w m v x, fun _ _ _ _ g h => R.val_mono g h⟩
def Rep.place (R : Rep α) (a : Addr) (x : α) : Fact := ⟨fun w m => R.at_ w m a x, fun _ _ _ _ g h => R.at_mono g h⟩

/-- A block of the call's own (or none): what it holds. -/
structure Own where
  blk : Option Nat
  holds : World → List Nat → Prop
  keep : ∀ w m w' m', Grows w m w' m' → (∀ b, blk = some b → w'.heap[b]? = w.heap[b]?) → holds w m → holds w' m'

/-- A block that holds one x of kind R. -/
def Own.box (b : Nat) (R : Rep α) (x : α) : Own where
  blk := some b
  holds := fun w m => ∃ cs T, w.heap[b]? = some (.cells cs T (0, 0)) ∧ R.ok w m cs.toList x
  keep := fun _ _ _ _ g hb ⟨cs, T, h1, h2⟩ => ⟨cs, T, by rw [hb b rfl]; exact h1, R.mono g h2⟩

def bufBlk : Value → Option Nat
  | .slice (some a) _ (_ + 1) => some a.block
  | _ => none
theorem bufBlk_eq {a : Addr} {n cap b : Nat} (h : bufBlk (.slice (some a) n cap) = some b) : a.block = b := by
  cases cap with
  | zero => cases h
  | succ c => cases h; rfl
theorem bufBlk_pos {a : Addr} {n cap : Nat} (h : 0 < cap) : bufBlk (.slice (some a) n cap) = some a.block := by
  cases cap with
  | zero => cases h
  | succ c => rfl
/-- A slice that the call itself holds alone: l, and spare places. -/
def BufOk (R : Rep α) (bytes : Nat) (v : Value) (l : List α) (w : World) (m : List Nat) : Prop :=
  l.length * bytes ≤ maxB ∧ l.length ≤ maxB ∧ ((∃ base, v = .slice base 0 0 ∧ l = []) ∨
    ∃ b cap cs rest T, v = .slice (some ⟨b, 0, none⟩) l.length (cap + 1) ∧ l.length ≤ cap + 1 ∧ cap + 1 < 2 ^ 63 ∧ w.heap[b]? = some (.cells (cs ++ rest).toArray T (0, 0)) ∧ (cs ++ rest).length = (cap + 1) * R.size ∧ Rows R w m cs l)
theorem BufOk.mk {R : Rep α} {bytes : Nat} {v : Value} {l : List α} {w : World} {m : List Nat} {b cap : Nat} {cs rest : List Value} {T : TypeId} (h0 : l.length * bytes ≤ maxB) (h0' : l.length ≤ maxB) (hv : v = .slice (some ⟨b, 0, none⟩) l.length cap) (h1 : l.length ≤ cap) (h2 : cap < 2 ^ 63)
    (h3 : w.heap[b]? = some (.cells (cs ++ rest).toArray T (0, 0))) (h4 : (cs ++ rest).length = cap * R.size) (h5 : Rows R w m cs l) : BufOk R bytes v l w m := by
  refine ⟨h0, h0', ?_⟩
  cases cap with
  | zero =>
    have : l = [] := List.length_eq_zero_iff.1 (by omega)
    subst this
    exact .inl ⟨_, hv, rfl⟩
  | succ c => exact .inr ⟨b, c, cs, rest, T, hv, h1, h2, h3, h4, h5⟩
def Own.buf (v : Value) (bytes : Nat) (R : Rep α) (l : List α) : Own where
  blk := bufBlk v
  holds := fun w m => BufOk R bytes v l w m
  keep := fun _ _ _ _ g hb ⟨h0, h0', h⟩ => ⟨h0, h0', h.imp id fun ⟨b, cap, cs, rest, T, h1, h2, h3, h4, h5, h6⟩ =>
    ⟨b, cap, cs, rest, T, h1, h2, h3, by rw [hb b (by rw [h1]; rfl)]; exact h4, h5, Rows.mono R g h6⟩⟩
def Own.gone : Own := ⟨none, fun _ _ => True, fun _ _ _ _ _ _ h => h⟩

def Blocks (M : List Own) : List Nat := M.filterMap Own.blk
def lk : List (Nat × Value) → Nat → Option Value
  | [], _ => none
  | (d, v) :: E, i => match Nat.beq d i with
    | true => some v
    | false => lk E i
def ev (E : List (Nat × Value)) : Operand → Option Value
  | .tmp t => lk E t
  | .const v => some v
  | .global g => some (.pointer (some ⟨g, 0, none⟩))
  | .func f => some (.func (.func f) #[] #[])

/-- No block stands twice. -/
def Apart (M : List Own) : Prop := ∀ (i j : Nat) (o o' : Own) (b : Nat), M[i]? = some o → M[j]? = some o' → o.blk = some b → o'.blk = some b → i = j

/-- One call: the program, the world it began in, how many slots, the callers' own blocks. -/
structure Cx where
  P : Program
  w0 : World
  n : Nat
  m0 : List Nat
  dfr : List Deferred
  kp : Nat → Prop
  dr : Bool

/-- A later world: the streams as they were, the blocks 'kp' as they were. -/
structure Past (w0 : World) (kp : Nat → Prop) (dr : Bool) (w : World) : Prop where
  os : w.os = w0.os
  tape : w.tape = w0.tape
  output : w.output = w0.output
  size : w0.heap.size ≤ w.heap.size
  drawn : dr = true → w0.drawn ≤ w.drawn
  block : ∀ k, k < w0.heap.size → kp k → w.heap[k]? = w0.heap[k]?
theorem Past.refl (w0 : World) (kp : Nat → Prop) (dr : Bool) : Past w0 kp dr w0 := ⟨rfl, rfl, rfl, Nat.le_refl _, fun _ => Nat.le_refl _, fun _ _ _ => rfl⟩
/-- What a call leaves behind. -/
structure After (dr : Bool) (w w' : World) : Prop where
  below : Below w.heap.size w w'
  drawn : dr = true → w.drawn ≤ w'.drawn
theorem After.refl {dr : Bool} (w : World) : After dr w w := ⟨Below.refl _ _, fun _ => Nat.le_refl _⟩
theorem Past.after {w0 w : World} {kp : Nat → Prop} {dr : Bool} (h : Past w0 kp dr w) (hk : ∀ k, kp k) : After dr w0 w := ⟨⟨h.os, h.tape, h.output, h.size, fun k hl => h.block k hl (hk k)⟩, h.drawn⟩

structure OKst (C : Cx) (E : List (Nat × Value)) (F : List Fact) (M : List Own) (a : Act) (w : World) : Prop where
  defers : a.defers = C.dfr
  size : a.tmps.size = C.n
  env : ∀ d v, lk E d = some v → a.tmps[d]? = some v
  below : Past C.w0 C.kp C.dr w
  m0 : ∀ b ∈ C.m0, b < C.w0.heap.size
  facts : ∀ f ∈ F, f.p w (C.m0 ++ Blocks M)
  own : ∀ o ∈ M, o.holds w (C.m0 ++ Blocks M)
  nodup : Apart M
  range : ∀ b ∈ Blocks M, (b ∉ C.m0 ∧ (b < C.w0.heap.size → ¬ C.kp b)) ∧ b < w.heap.size

def T (C : Cx) (E : List (Nat × Value)) (F : List Fact) (M : List Own) (c : Code) (Q : Exit → Act → World → Prop) : Prop :=
  ∀ a w, OKst C E F M a w → c.wp C.P Q a w
def QT (C : Cx) (E : List (Nat × Value)) (F : List Fact) (M : List Own) (Q : Act → World → Prop) : Prop := ∀ a w, OKst C E F M a w → Q a w
def TL (C : Cx) (ops : Array Oper) (E : List (Nat × Value)) (F : List Fact) (M : List Own) (os : List Oper) (Q : Exit → Act → World → Prop) : Prop :=
  ∀ a w, OKst C E F M a w → wpList C.P ops Q os a w

section
variable {C : Cx} {E : List (Nat × Value)} {F : List Fact} {M : List Own} {Q : Exit → Act → World → Prop}

theorem OKst.ev {a : Act} {w : World} (h : OKst C E F M a w) {x : Operand} {v : Value} (hx : ev E x = some v) : a.eval x = v := by
  cases x with
  | tmp t => have := h.env t v hx; simp [Act.eval, Array.getD_eq_getD_getElem?, this]
  | const u => simpa [Cf.ev, Act.eval] using hx
  | global g => simpa [Cf.ev, Act.eval] using hx
  | func f => simpa [Cf.ev, Act.eval] using hx

theorem OKst.lt {a : Act} {w : World} (h : OKst C E F M a w) {d : Nat} {v : Value} (hx : lk E d = some v) : d < C.n := by
  have := h.env d v hx
  rw [← h.size]
  exact lt_of_get this

/-! ### Code -/
theorem t_seq {x y : Code} (h : T C E F M x (Exit.then (y.wp C.P Q) Q)) : T C E F M (.seq x y) Q := fun a w hs => wp_seq (h a w hs)
theorem t_skip (h : QT C E F M (Q .normal)) : T C E F M .skip Q := fun a w hs => wp_skip (h a w hs)
theorem t_exit {id : Nat} (h : QT C E F M (Q (.exit id))) : T C E F M (.exit id) Q := fun a w hs => wp_exit (h a w hs)
theorem t_ret (h : QT C E F M (Q .ret)) : T C E F M .ret Q := fun a w hs => wp_ret (h a w hs)
theorem t_block {id : Nat} {c : Code} (h : T C E F M c (Exit.inBlock id Q)) : T C E F M (.block id c) Q := fun a w hs => wp_block (h a w hs)
theorem t_cond {c : Operand} {x y : Code} {t : Bool} (hc : ev E c = some (.bool t)) (h1 : t = true → T C E F M x Q) (h2 : t = false → T C E F M y Q) : T C E F M (.cond c x y) Q :=
  fun a w hs => wp_cond_split (hs.ev hc) (fun e => h1 e a w hs) (fun e => h2 e a w hs)
theorem t_region {id : Nat} {l : List Oper} (h : TL C l.toArray E F M l Q) : T C E F M (.region id l.toArray false) Q := fun a w hs => wp_region_lit (h a w hs)
theorem tl_nil {ops : Array Oper} (h : QT C E F M (Q .normal)) : TL C ops E F M [] Q := h

theorem q_then {K : Act → World → Prop} (h : QT C E F M K) : QT C E F M (Exit.then K Q .normal) := h
theorem q_then_code {y : Code} (h : T C E F M y Q) : QT C E F M (Exit.then (y.wp C.P Q) Q .normal) := h
theorem q_then_exit {K : Act → World → Prop} {id : Nat} (h : QT C E F M (Q (.exit id))) : QT C E F M (Exit.then K Q (.exit id)) := h
theorem q_then_ret {K : Act → World → Prop} (h : QT C E F M (Q .ret)) : QT C E F M (Exit.then K Q .ret) := h
theorem q_block_normal {id : Nat} (h : QT C E F M (Q .normal)) : QT C E F M (Exit.inBlock id Q .normal) := h
theorem q_block_ret {id : Nat} (h : QT C E F M (Q .ret)) : QT C E F M (Exit.inBlock id Q .ret) := h
theorem q_block_hit {id : Nat} (h : QT C E F M (Q .normal)) : QT C E F M (Exit.inBlock id Q (.exit id)) := fun a w hs => by
  show if id = id then _ else _
  rw [if_pos rfl]
  exact h a w hs
theorem q_block_miss {id id' : Nat} (hne : Nat.beq id' id = false) (h : QT C E F M (Q (.exit id'))) : QT C E F M (Exit.inBlock id Q (.exit id')) := fun a w hs => by
  show if id' = id then _ else _
  rw [if_neg (Nat.ne_of_beq_eq_false hne)]
  exact h a w hs

/-- From one symbolic state to another that says less. -/
theorem OKst.less {a : Act} {w : World} (h : OKst C E F M a w) {E' : List (Nat × Value)} {F' : List Fact} (hE : ∀ d v, lk E' d = some v → lk E d = some v) (hF : ∀ f ∈ F', f ∈ F) : OKst C E' F' M a w :=
  { h with env := fun d v hv => h.env d v (hE d v hv), facts := fun f hf => h.facts f (hF f hf) }

/-- The slots that are named, each as it reads: all others forgotten. -/
def Agree (E : List (Nat × Value)) : List (Nat × Value) → Prop
  | [] => True
  | (d, v) :: r => lk E d = some v ∧ Agree E r
theorem Agree.lk : ∀ {E' : List (Nat × Value)}, Agree E E' → ∀ d v, Cf.lk E' d = some v → Cf.lk E d = some v
  | [], _, d, v, h => by cases h
  | (d', v') :: r, ⟨h1, h2⟩, d, v, h => by
    unfold Cf.lk at h
    cases hb : Nat.beq d' d with
    | true => rw [hb] at h; cases h; rw [← Nat.eq_of_beq_eq_true hb]; exact h1
    | false => rw [hb] at h; exact Agree.lk h2 d v h
/-- Each is one of those. -/
def Among (F : List Fact) : List Fact → Prop
  | [] => True
  | f :: r => f ∈ F ∧ Among F r
theorem Among.mem {F : List Fact} : ∀ {F' : List Fact}, Among F F' → ∀ f ∈ F', f ∈ F
  | _ :: _, ⟨h1, _⟩, _, .head _ => h1
  | _ :: _, ⟨_, h2⟩, f, .tail _ h => Among.mem h2 f h
theorem mem_at {F : List Fact} (i : Nat) {f : Fact} (h : F[i]? = some f) : f ∈ F := List.mem_of_getElem? h

theorem q_less (E' : List (Nat × Value)) (F' : List Fact) {K : Act → World → Prop} (hE : Agree E E') (hF : Among F F') (h : QT C E' F' M K) : QT C E F M K := fun a w hs => h a w (hs.less hE.lk hF.mem)
theorem t_less (E' : List (Nat × Value)) (F' : List Fact) {c : Code} (hE : Agree E E') (hF : Among F F') (h : T C E' F' M c Q) : T C E F M c Q := fun a w hs => h a w (hs.less hE.lk hF.mem)

/-- A cut: the piece ends normally in a state of that family, or leaves by Q. -/
def Cut (C : Cx) {X : Type} (St : X → List (Nat × Value) × List Fact × List Own) (I : X → Prop) (Q : Exit → Act → World → Prop) : Exit → Act → World → Prop
  | .normal, a, w => ∃ x, I x ∧ OKst C (St x).1 (St x).2.1 (St x).2.2 a w
  | e, a, w => Q e a w
theorem t_cut {X : Type} (St : X → List (Nat × Value) × List Fact × List Own) (I : X → Prop) {c : Code} (h : T C E F M c (Cut C St I Q)) (k : ∀ x, I x → QT C (St x).1 (St x).2.1 (St x).2.2 (Q .normal)) : T C E F M c Q :=
  fun a w hs => wp_mono (h a w hs) fun e a' w' q => by
    cases e with
    | normal => obtain ⟨x, hx, hs'⟩ := q; exact k x hx a' w' hs'
    | exit id => exact q
    | goto l => exact q
    | ret => exact q
    | panic ch => exact q
    | outgrown => exact q

/-! ### One operation -/
def Xs (XI : List Nat) (M : List Own) : List Nat := XI.filterMap fun i => (M[i]?).bind Own.blk
/-- Every block but those is as it was. -/
def SameX (X : List Nat) (w w' : World) : Prop := w.heap.size ≤ w'.heap.size ∧ ∀ b, b < w.heap.size → b ∉ X → w'.heap[b]? = w.heap[b]?
theorem SameX.refl (X : List Nat) (w : World) : SameX X w w := ⟨Nat.le_refl _, fun _ _ _ => rfl⟩

abbrev Cont := List (Nat × Value) → List Fact → List Own → Prop
/-- A definite operation: in every world in which the blocks but X are as they are now it yields one value, and turns nothing. -/
def DOp (C : Cx) (XI : List Nat) (E : List (Nat × Value)) (F : List Fact) (M : List Own) (op : Op) (d : Nat) (K : Cont) : Prop :=
  ∀ a w, OKst C E F M a w → ∃ v fs, (∀ w', SameX (Xs XI M) w w' → ∀ o : Oper, o.op = op → (execOp a.eval o).run C.P w' = .ok (.value v) w') ∧
    (∀ f ∈ fs, f.p w (C.m0 ++ Blocks M)) ∧ K ((d, v) :: E) (fs ++ F) M
/-- Any operation, by what holds behind it. -/
def GOp (C : Cx) (XI : List Nat) (E : List (Nat × Value)) (F : List Fact) (M : List Own) (o : Oper) (K : Cont) : Prop :=
  ∀ a w, OKst C E F M a w → ∀ (J : Act → World → Prop) (Q : Exit → Act → World → Prop),
    (∀ (E' : List (Nat × Value)) (F' : List Fact) (M' : List Own) (a' : Act) (w' : World), K E' F' M' → OKst C E' F' M' a' w' → SameX (Xs XI M) w w' → (∀ b ∈ Xs XI M', b ∈ Xs XI M ∨ w.heap.size ≤ b) → J a' w') → o.wp C.P a w J Q

theorem lk_cons_env {a : Act} {d : Nat} {v : Value} {E : List (Nat × Value)} (hd : d < a.tmps.size) (h : ∀ i u, lk E i = some u → a.tmps[i]? = some u) :
    ∀ i u, lk ((d, v) :: E) i = some u → (a.put (some d) v).tmps[i]? = some u := by
  intro i u hu
  unfold lk at hu
  simp only [Act.put]
  cases hb : Nat.beq d i with
  | true => rw [hb] at hu; cases hu; rw [← Nat.eq_of_beq_eq_true hb]; simp [hd]
  | false => rw [hb] at hu; rw [Array.getElem?_setIfInBounds_ne (Nat.ne_of_beq_eq_false hb)]; exact h i u hu

theorem OKst.put {a : Act} {w : World} (h : OKst C E F M a w) {d : Nat} (hd : d < C.n) (v : Value) {fs : List Fact} (hf : ∀ f ∈ fs, f.p w (C.m0 ++ Blocks M)) : OKst C ((d, v) :: E) (fs ++ F) M (a.put (some d) v) w :=
  { h with
    defers := h.defers
    size := by simp [Act.put, h.size]
    env := lk_cons_env (by rw [h.size]; exact hd) h.env
    facts := fun f hm => (List.mem_append.1 hm).elim (hf f) (h.facts f) }

theorem DOp.gop {XI : List Nat} {o : Oper} {d : Nat} {K : Cont} (hd : o.dst = some d) (hn : Nat.blt d C.n = true) (h : DOp C XI E F M o.op d K) : GOp C XI E F M o K := by
  intro a w hs J Q hJ
  obtain ⟨v, fs, h1, h2, h3⟩ := h a w hs
  unfold Oper.wp
  rw [h1 w (SameX.refl _ _) o rfl]
  simp only [Oper.upon, hd]
  exact hJ _ _ _ _ _ h3 (hs.put (Nat.blt_eq.mp hn) v h2) (SameX.refl _ _) (fun b hb => .inl hb)

theorem tl_g {ops : Array Oper} {o : Oper} {rest : List Oper} (XI : List Nat) (hg : o.guard = none) (h : GOp C XI E F M o (fun E' F' M' => TL C ops E' F' M' rest Q)) : TL C ops E F M (o :: rest) Q :=
  fun a w hs => wpList_plain hg fun J hJ => h a w hs J Q fun E' F' M' a' w' hk hs' _ _ => hJ a' w' (hk a' w' hs')
theorem tl_d {ops : Array Oper} {op : Op} {d : Nat} {ty : TypeId} {pos : String} {after : Array Edge} {rest : List Oper} (hn : Nat.blt d C.n = true) (h : DOp C [] E F M op d (fun E' F' M' => TL C ops E' F' M' rest Q)) :
    TL C ops E F M ({ dst := some d, op, type := ty, pos, after, guard := none } :: rest) Q :=
  tl_g [] rfl (DOp.gop (o := { dst := some d, op, type := ty, pos, after, guard := none }) rfl hn h)
end
end Go.Cf
