/- Readings of memory as plain data, and what keeps them: 'Rep' (a kind of data and its cells), 'Grows' (from one world to a later one), rows of cells, fields. No program in sight. -/
import Derived.WalkKit
import Derived.OrdersHeld
import Derived.Deep.LoopGhost
set_option linter.unusedVariables false
set_option linter.unusedSimpArgs false
namespace Go.Cf
open Go Go.RowKit

/-- From (w, m) to (w', m'): 'm' are the blocks that may be written; every other block that was there is as it was, and stays so. -/
structure Grows (w : World) (m : List Nat) (w' : World) (m' : List Nat) : Prop where
  size : w.heap.size ≤ w'.heap.size
  keep : ∀ b, b < w.heap.size → b ∉ m → w'.heap[b]? = w.heap[b]?
  stay : ∀ b, b < w.heap.size → b ∉ m → b ∉ m'

theorem Grows.refl (w : World) (m : List Nat) : Grows w m w m := ⟨Nat.le_refl _, fun _ _ _ => rfl, fun _ _ h => h⟩
theorem Grows.trans {w w1 w2 : World} {m m1 m2 : List Nat} (h : Grows w m w1 m1) (k : Grows w1 m1 w2 m2) : Grows w m w2 m2 :=
  ⟨Nat.le_trans h.size k.size, fun b hb hm => (k.keep b (Nat.lt_of_lt_of_le hb h.size) (h.stay b hb hm)).trans (h.keep b hb hm),
   fun b hb hm => k.stay b (Nat.lt_of_lt_of_le hb h.size) (h.stay b hb hm)⟩
theorem Grows.less {w : World} {m m' : List Nat} (h : ∀ b, b ∈ m' → b ∈ m) : Grows w m w m' := ⟨Nat.le_refl _, fun _ _ _ => rfl, fun _ _ hm h' => hm (h _ h')⟩

/-- The cells from address a on are cs, in a block that is not written any more. -/
def MemAt (w : World) (m : List Nat) (a : Addr) (cs : List Value) : Prop :=
  a.spot = none ∧ a.block ∉ m ∧ ∃ c T fr, w.heap[a.block]? = some (.cells c T fr) ∧ ∃ pre post, c.toList = pre ++ cs ++ post ∧ pre.length = a.off

theorem lt_of_get {α : Type} {xs : Array α} {i : Nat} {x : α} (h : xs[i]? = some x) : i < xs.size := by
  rcases Nat.lt_or_ge i xs.size with h' | h'
  · exact h'
  · rw [Array.getElem?_eq_none h'] at h; cases h

theorem MemAt.mono {w w' : World} {m m' : List Nat} {a : Addr} {cs : List Value} (g : Grows w m w' m') (h : MemAt w m a cs) : MemAt w' m' a cs := by
  obtain ⟨h1, h2, c, T, fr, h3, h4⟩ := h
  have hlt := lt_of_get h3
  exact ⟨h1, g.stay _ hlt h2, c, T, fr, by rw [g.keep _ hlt h2]; exact h3, h4⟩

theorem MemAt.lt {w : World} {m : List Nat} {a : Addr} {cs : List Value} (h : MemAt w m a cs) : a.block < w.heap.size := by
  obtain ⟨_, _, c, T, fr, h3, _⟩ := h
  exact lt_of_get h3

theorem addr_add (a : Addr) (n : Nat) (h : a.spot = none) : a.add n = ⟨a.block, a.off + n, none⟩ := by
  unfold Addr.add
  split
  · next h0 => subst h0; cases a; simp at h; simp [h]
  · rfl

theorem MemAt.sub {w : World} {m : List Nat} {a : Addr} {x y z : List Value} (h : MemAt w m a (x ++ y ++ z)) : MemAt w m (a.add x.length) y := by
  obtain ⟨h1, h2, c, T, fr, h3, pre, post, h4, h5⟩ := h
  rw [addr_add _ _ h1]
  exact ⟨rfl, h2, c, T, fr, h3, pre ++ x, z ++ post, by simp [h4], by simp [h5]⟩

theorem MemAt.cell {w : World} {m : List Nat} {a : Addr} {cs : List Value} (h : MemAt w m a cs) (i : Nat) (hi : i < cs.length) : w.cell? (a.add i) = some cs[i] := by
  obtain ⟨h1, h2, c, T, fr, h3, pre, post, h4, h5⟩ := h
  rw [addr_add _ _ h1]
  unfold World.cell?
  simp only [h3]
  rw [if_neg (by simp), ← Array.getElem?_toList, h4, List.append_assoc, List.getElem?_append_right (by omega), List.getElem?_append_left (by omega)]
  have e : a.off + i - pre.length = i := by omega
  rw [e, List.getElem?_eq_getElem hi]

/-- Is it the value of one cell? -/
def one1 : Value → Bool
  | .agg _ | .tuple _ => false
  | _ => true

/-- A kind of data: how many cells it takes, whether they are held as one 'agg', its zero, and when cells read as it. -/
structure Rep (α : Type) where
  size : Nat
  agg : Bool
  zero : List Value
  zeroD : α
  ok : World → List Nat → List Value → α → Prop
  len : ∀ {w m cs x}, ok w m cs x → cs.length = size
  one : ∀ {w m cs x}, ok w m cs x → ∀ c ∈ cs, one1 c = true
  sc : agg = false → size = 1
  mono : ∀ {w m w' m' cs x}, Grows w m w' m' → ok w m cs x → ok w' m' cs x
  zok : ∀ w m, ok w m zero zeroD

variable {α β γ δ : Type}

def Rep.mk' (R : Rep α) (cs : List Value) : Value := if R.agg then .agg cs.toArray else cs.headD undef
/-- The value v reads as x. -/
def Rep.val (R : Rep α) (w : World) (m : List Nat) (v : Value) (x : α) : Prop := ∃ cs, R.ok w m cs x ∧ v = R.mk' cs
/-- At address a there lies x. -/
def Rep.at_ (R : Rep α) (w : World) (m : List Nat) (a : Addr) (x : α) : Prop := ∃ cs, R.ok w m cs x ∧ MemAt w m a cs

theorem Rep.val_mono (R : Rep α) {w m w' m' v} {x : α} (g : Grows w m w' m') (h : R.val w m v x) : R.val w' m' v x :=
  let ⟨cs, h1, h2⟩ := h; ⟨cs, R.mono g h1, h2⟩
theorem Rep.at_mono (R : Rep α) {w m w' m' a} {x : α} (g : Grows w m w' m') (h : R.at_ w m a x) : R.at_ w' m' a x :=
  let ⟨cs, h1, h2⟩ := h; ⟨cs, R.mono g h1, h2.mono g⟩

/-- The cells of a value of a kind. -/
theorem oneCell_cells {v : Value} (h : one1 v = true) : v.cells = #[v] := by
  cases v <;> simp_all [one1, Value.cells]

theorem Rep.cells_mk (R : Rep α) {w m cs} {x : α} (h : R.ok w m cs x) : (R.mk' cs).cells = cs.toArray := by
  unfold Rep.mk'
  split
  · rfl
  · next hf =>
    have hl := R.len h
    rw [R.sc (by simpa using hf)] at hl
    match cs, hl with
    | [c], _ => exact oneCell_cells (R.one h c (by simp))

theorem Rep.cells_of_val (R : Rep α) {w m v} {x : α} (h : R.val w m v x) : ∃ cs, R.ok w m cs x ∧ v = R.mk' cs ∧ v.cells = cs.toArray := by
  obtain ⟨cs, h1, h2⟩ := h
  exact ⟨cs, h1, h2, by rw [h2]; exact R.cells_mk h1⟩

/-! ### Plain kinds -/
theorem wrap_wrap (k : IntKind) (x : Int) : k.wrap (k.wrap x) = k.wrap x := by
  unfold IntKind.wrap
  cases k <;> simp [IntKind.signed, IntKind.bits] <;> omega

def rInt (k : IntKind) : Rep Int where
  size := 1
  agg := false
  zero := [.int k 0]
  zeroD := 0
  ok := fun _ _ cs x => cs = [.int k x] ∧ k.wrap x = x
  len := fun h => by simp [h.1]
  one := fun h => by simp [h.1, one1]
  sc := fun _ => rfl
  mono := fun _ h => h
  zok := fun _ _ => ⟨rfl, by cases k <;> rfl⟩

def rBool : Rep Bool where
  size := 1
  agg := false
  zero := [.bool false]
  zeroD := false
  ok := fun _ _ cs x => cs = [.bool x]
  len := fun h => by simp [h]
  one := fun h => by simp [h, one1]
  sc := fun _ => rfl
  mono := fun _ h => h
  zok := fun _ _ => rfl

/-- A string's bytes as numbers. -/
def strL (s : ByteArray) : List Int := s.data.toList.map fun b => (b.toNat : Int)
theorem strL_length (s : ByteArray) : (strL s).length = s.size := by simp [strL]
/-- How many bytes a thing may take. -/
def maxB : Nat := 140737488355328

def rStr : Rep (List Int) where
  size := 1
  agg := false
  zero := [.string .empty]
  zeroD := []
  ok := fun _ _ cs x => ∃ s, cs = [.string s] ∧ x = strL s ∧ x.length ≤ maxB
  len := fun ⟨_, h, _⟩ => by simp [h]
  one := fun ⟨_, h, _⟩ => by simp [h, one1]
  sc := fun _ => rfl
  mono := fun _ h => h
  zok := fun _ _ => ⟨.empty, rfl, rfl, by simp [maxB]⟩

/-! ### Two kinds side by side; a kind by another name -/
def rProd (R : Rep α) (S : Rep β) : Rep (α × β) where
  size := R.size + S.size
  agg := true
  zero := R.zero ++ S.zero
  zeroD := (R.zeroD, S.zeroD)
  ok := fun w m cs p => ∃ a b, cs = a ++ b ∧ R.ok w m a p.1 ∧ S.ok w m b p.2
  len := fun ⟨a, b, h, ha, hb⟩ => by simp [h, R.len ha, S.len hb]
  one := fun ⟨a, b, h, ha, hb⟩ c hc => by
    subst h
    rcases List.mem_append.1 hc with hc | hc
    · exact R.one ha c hc
    · exact S.one hb c hc
  sc := fun h => by cases h
  mono := fun g ⟨a, b, h, ha, hb⟩ => ⟨a, b, h, R.mono g ha, S.mono g hb⟩
  zok := fun w m => ⟨_, _, rfl, R.zok w m, S.zok w m⟩

/-- A struct: its fields' chain under the struct's own type. -/
def rMap (R : Rep α) (g : β → α) (f : α → β) (hg : ∀ x, g (f x) = x) : Rep β where
  size := R.size
  agg := true
  zero := R.zero
  zeroD := f R.zeroD
  ok := fun w m cs x => R.ok w m cs (g x)
  len := fun h => R.len h
  one := fun h => R.one h
  sc := fun h => by cases h
  mono := fun g h => R.mono g h
  zok := fun w m => by rw [hg]; exact R.zok w m

/-! ### Rows -/
def Rows (R : Rep α) (w : World) (m : List Nat) : List Value → List α → Prop
  | cs, [] => cs = []
  | cs, x :: xs => ∃ a b, cs = a ++ b ∧ R.ok w m a x ∧ Rows R w m b xs

theorem Rows.len (R : Rep α) {w m} : ∀ {xs : List α} {cs}, Rows R w m cs xs → cs.length = xs.length * R.size
  | [], cs, h => by simp [Rows] at h; simp [h]
  | x :: xs, cs, ⟨a, b, h, ha, hb⟩ => by simp [h, R.len ha, Rows.len R hb, Nat.add_mul]; omega
theorem Rows.mono (R : Rep α) {w m w' m'} (g : Grows w m w' m') : ∀ {xs : List α} {cs}, Rows R w m cs xs → Rows R w' m' cs xs
  | [], _, h => h
  | _ :: _, _, ⟨a, b, h, ha, hb⟩ => ⟨a, b, h, R.mono g ha, Rows.mono R g hb⟩
theorem Rows.one (R : Rep α) {w m} : ∀ {xs : List α} {cs}, Rows R w m cs xs → ∀ c ∈ cs, one1 c = true
  | [], cs, h, c, hc => by simp [Rows] at h; subst h; cases hc
  | x :: xs, cs, ⟨a, b, h, ha, hb⟩, c, hc => by
    subst h
    rcases List.mem_append.1 hc with hc | hc
    · exact R.one ha c hc
    · exact Rows.one R hb c hc
theorem Rows.append (R : Rep α) {w m} : ∀ {xs ys : List α} {cs ds}, Rows R w m cs xs → Rows R w m ds ys → Rows R w m (cs ++ ds) (xs ++ ys)
  | [], ys, cs, ds, h, k => by simp [Rows] at h; subst h; simpa using k
  | x :: xs, ys, cs, ds, ⟨a, b, h, ha, hb⟩, k => ⟨a, b ++ ds, by simp [h], ha, Rows.append R hb k⟩
theorem Rows.split (R : Rep α) {w m} : ∀ {xs ys : List α} {cs}, Rows R w m cs (xs ++ ys) → ∃ a b, cs = a ++ b ∧ Rows R w m a xs ∧ Rows R w m b ys
  | [], ys, cs, h => ⟨[], cs, rfl, rfl, h⟩
  | x :: xs, ys, cs, ⟨a, b, h, ha, hb⟩ => by
    obtain ⟨c, d, h1, h2, h3⟩ := Rows.split R (xs := xs) hb
    exact ⟨a ++ c, d, by simp [h, h1], ⟨a, c, rfl, ha, h2⟩, h3⟩
theorem Rows.single (R : Rep α) {w m cs} {x : α} (h : R.ok w m cs x) : Rows R w m cs [x] := ⟨cs, [], by simp, h, rfl⟩
theorem Rows.of_single (R : Rep α) {w m cs} {x : α} (h : Rows R w m cs [x]) : R.ok w m cs x := by
  obtain ⟨a, b, h1, h2, h3⟩ := h
  simp [Rows] at h3
  subst h3
  simpa [h1] using h2
theorem Rows.replicate (R : Rep α) {w m cs} {x : α} (h : R.ok w m cs x) : ∀ n, Rows R w m (List.replicate n cs).flatten (List.replicate n x)
  | 0 => rfl
  | n + 1 => by rw [List.replicate_succ, List.replicate_succ, List.flatten_cons]; exact ⟨cs, _, rfl, h, Rows.replicate R h n⟩
theorem Rows.get (R : Rep α) {w m} {xs : List α} {cs} (h : Rows R w m cs xs) (i : Nat) (hi : i < xs.length) :
    ∃ a b c, cs = a ++ b ++ c ∧ a.length = i * R.size ∧ R.ok w m b xs[i] ∧ (∀ b' y, R.ok w m b' y → Rows R w m (a ++ b' ++ c) (xs.set i y)) := by
  have e : xs = xs.take i ++ ([xs[i]] ++ xs.drop (i + 1)) := by simp
  rw [e] at h
  obtain ⟨a, bc, h1, h2, h3⟩ := Rows.split R h
  obtain ⟨b, c, h4, h5, h6⟩ := Rows.split R h3
  refine ⟨a, b, c, by simp [h1, h4], ?_, Rows.of_single R h5, ?_⟩
  · rw [Rows.len R h2, List.length_take, Nat.min_eq_left (by omega)]
  · intro b' y hy
    have e2 : xs.set i y = xs.take i ++ ([y] ++ xs.drop (i + 1)) := by rw [List.set_eq_take_append_cons_drop, if_pos hi]; rfl
    rw [e2, List.append_assoc]
    exact Rows.append R h2 (Rows.append R (Rows.single R hy) h6)
theorem Rows.cut (R : Rep α) {w m} {xs : List α} {cs} (h : Rows R w m cs xs) (i j : Nat) (hij : i ≤ j) (hj : j ≤ xs.length) :
    ∃ a b c, cs = a ++ b ++ c ∧ a.length = i * R.size ∧ Rows R w m b ((xs.take j).drop i) := by
  have e : xs = xs.take i ++ ((xs.take j).drop i ++ xs.drop j) := by
    have h1 : xs = xs.take j ++ xs.drop j := by simp
    have h2 : xs.take j = (xs.take j).take i ++ (xs.take j).drop i := by simp
    rw [List.take_take, Nat.min_eq_left hij] at h2
    rw [← List.append_assoc, ← h2]
    exact h1
  rw [e] at h
  obtain ⟨a, bc, h1, h2, h3⟩ := Rows.split R h
  obtain ⟨b, c, h4, h5, h6⟩ := Rows.split R h3
  exact ⟨a, b, c, by simp [h1, h4], by rw [Rows.len R h2, List.length_take, Nat.min_eq_left (by omega)], h5⟩

def rArr (n : Nat) (R : Rep α) : Rep (List α) where
  size := n * R.size
  agg := true
  zero := (List.replicate n R.zero).flatten
  zeroD := List.replicate n R.zeroD
  ok := fun w m cs x => x.length = n ∧ Rows R w m cs x
  len := fun ⟨h, k⟩ => by rw [Rows.len R k, h]
  one := fun h => Rows.one R h.2
  sc := fun h => by cases h
  mono := fun g h => ⟨h.1, Rows.mono R g h.2⟩
  zok := fun w m => ⟨by simp, Rows.replicate R (R.zok w m) n⟩

/-- A slice; bytes: how many bytes an element takes. -/
def rSl (bytes : Nat) (R : Rep α) : Rep (List α) where
  size := 1
  agg := false
  zero := [.slice none 0 0]
  zeroD := []
  ok := fun w m cs x => ∃ base cap, cs = [.slice base x.length cap] ∧ x.length ≤ cap ∧ cap < 2 ^ 63 ∧ x.length * bytes ≤ maxB ∧ x.length ≤ maxB ∧
    (x = [] ∨ ∃ a, base = some a ∧ ∃ cells, Rows R w m cells x ∧ MemAt w m a cells)
  len := fun ⟨_, _, h, _⟩ => by simp [h]
  one := fun ⟨_, _, h, _⟩ => by simp [h, one1]
  sc := fun _ => rfl
  mono := fun g ⟨base, cap, h, h1, h2, h3, h3', h4⟩ => ⟨base, cap, h, h1, h2, h3, h3', h4.imp id fun ⟨a, h5, cells, h6, h7⟩ => ⟨a, h5, cells, Rows.mono R g h6, h7.mono g⟩⟩
  zok := fun _ _ => ⟨none, 0, rfl, by simp, by simp, by simp, by simp, .inl rfl⟩

/-! ### Fields -/
/-- In the cells of R, at off, there lies an S: 'get x', where 'pre x' holds; 'set' puts another there. -/
structure Fld (R : Rep α) (off : Nat) (S : Rep β) (pre : α → Prop) (get : α → β) (set : α → β → α) : Prop where
  cut : ∀ {w m cs x}, R.ok w m cs x → pre x → ∃ a b c, cs = a ++ b ++ c ∧ a.length = off ∧ S.ok w m b (get x) ∧ (∀ b' y, S.ok w m b' y → R.ok w m (a ++ b' ++ c) (set x y))

theorem Fld.self (R : Rep α) : Fld R 0 R (fun _ => True) (fun x => x) (fun _ y => y) :=
  ⟨fun {_ _ cs _} h _ => ⟨[], cs, [], by simp, rfl, h, fun b' y hy => by simpa using hy⟩⟩
theorem Fld.fst (R : Rep α) (S : Rep β) : Fld (rProd R S) 0 R (fun _ => True) (fun x => x.1) (fun x y => (y, x.2)) :=
  ⟨fun {_ _ _ _} h _ => by
    obtain ⟨a, b, h1, h2, h3⟩ := h
    exact ⟨[], a, b, by simp [h1], rfl, h2, fun b' y hy => ⟨b', b, by simp, hy, h3⟩⟩⟩
theorem Fld.snd (R : Rep α) (S : Rep β) : Fld (rProd R S) R.size S (fun _ => True) (fun x => x.2) (fun x y => (x.1, y)) :=
  ⟨fun {_ _ _ _} h _ => by
    obtain ⟨a, b, h1, h2, h3⟩ := h
    exact ⟨a, b, [], by simp [h1], R.len h2, h3, fun b' y hy => ⟨a, b', by simp, h2, hy⟩⟩⟩
theorem Fld.trans {R : Rep α} {S : Rep β} {T : Rep γ} {o1 o2 : Nat} {p1 : α → Prop} {p2 : β → Prop} {g1 : α → β} {g2 : β → γ} {s1 : α → β → α} {s2 : β → γ → β}
    (h : Fld R o1 S p1 g1 s1) (k : Fld S o2 T p2 g2 s2) : Fld R (o1 + o2) T (fun x => p1 x ∧ p2 (g1 x)) (fun x => g2 (g1 x)) (fun x y => s1 x (s2 (g1 x) y)) :=
  ⟨fun {_ _ _ _} hx hp => by
    obtain ⟨a, b, c, h1, h2, h3, h4⟩ := h.cut hx hp.1
    obtain ⟨d, e, f, k1, k2, k3, k4⟩ := k.cut h3 hp.2
    exact ⟨a ++ d, e, f ++ c, by simp [h1, k1], by simp [h2, k2], k3, fun b' y hy => by
      have := h4 _ _ (k4 b' y hy)
      simpa using this⟩⟩
theorem Fld.map {R : Rep α} {S : Rep γ} {o : Nat} {p : α → Prop} {gt : α → γ} {st : α → γ → α} (g : β → α) (f : α → β) (hg : ∀ x, g (f x) = x) 
    (h : Fld R o S p gt st) : Fld (rMap R g f hg) o S (fun x => p (g x)) (fun x => gt (g x)) (fun x y => f (st (g x) y)) :=
  ⟨fun {_ _ _ _} hx hp => by
    obtain ⟨a, b, c, h1, h2, h3, h4⟩ := h.cut hx hp
    exact ⟨a, b, c, h1, h2, h3, fun b' y hy => by
      show R.ok _ _ _ (g (f _))
      rw [hg]
      exact h4 b' y hy⟩⟩
theorem Fld.to {R : Rep α} {S : Rep β} {o o' : Nat} {p p' : α → Prop} {g g' : α → β} {s s' : α → β → α} (h : Fld R o S p g s) (ho : o = o') (hp : ∀ x, p' x → p x) (hg : ∀ x, g x = g' x) (hs : ∀ x y, s x y = s' x y) :
    Fld R o' S p' g' s' := by
  subst ho
  have e1 : g = g' := funext hg
  have e2 : s = s' := funext fun x => funext fun y => hs x y
  subst e1; subst e2
  exact ⟨fun hx hp' => h.cut hx (hp _ hp')⟩
/-- An array's element. -/
theorem Fld.elem (n : Nat) (R : Rep α) (i : Nat) (d : α) : Fld (rArr n R) (i * R.size) R (fun _ => i < n) (fun x => x.getD i d) (fun x y => x.set i y) :=
  ⟨fun {_ _ _ x} hx hp => by
    obtain ⟨h0, h⟩ := hx
    have hi : i < x.length := by omega
    obtain ⟨a, b, c, h1, h2, h3, h4⟩ := Rows.get R h i hi
    exact ⟨a, b, c, h1, h2, by simpa [List.getD_eq_getElem?_getD, List.getElem?_eq_getElem hi] using h3, fun b' y hy => ⟨by simpa using h0, h4 b' y hy⟩⟩⟩

end Go.Cf
