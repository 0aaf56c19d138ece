/- Rules: struct and array values, slice literals, make, conversions between strings and bytes, calls. -/
import Derived.Test.YtbcipfhhmkjigaaCf6
import Derived.Great.BuildSlice
import Derived.Laws.IdiomStrings
set_option linter.unusedVariables false
set_option linter.unusedSimpArgs false
namespace Go.Cf
open Go Go.RowKit
variable {α β γ δ : Type}

/-! ### Filling -/
theorem setAll (off : Nat) : ∀ (bs : List Value) (k : Nat) (cells : Array Value) (x y z : List Value), cells.toList = x ++ y ++ z → x.length = off + k → y.length = bs.length →
    ((bs.zipIdx k).foldl (fun cs (p : Value × Nat) => cs.setIfInBounds (off + p.2) p.1) cells).toList = x ++ bs ++ z
  | [], k, cells, x, y, z, h, _, hy => by
    have : y = [] := List.length_eq_zero_iff.1 (by simpa using hy)
    subst this
    simpa using h
  | b :: bs, k, cells, x, y, z, h, hx, hy => by
    match y, hy with
    | c :: y, hy =>
      rw [List.zipIdx_cons, List.foldl_cons]
      have := setAll off bs (k + 1) (cells.setIfInBounds (off + k) b) (x ++ [b]) y z (by
        rw [Array.toList_setIfInBounds, h, ← hx]
        simp) (by simp [hx]; omega) (by simpa using hy)
      simpa using this
theorem fill_step {place : Nat → Option (Nat × Nat)} {cells : Array Value} {i off size : Nat} {v : Value} {bs x y z : List Value} {rest : List (Nat × Value)} (hp : place i = some (off, size)) (hv : v.cells = bs.toArray) (hs : bs.length = size)
    (hc : cells.toList = x ++ y ++ z) (hx : x.length = off) (hy : y.length = size) : Instr.fill place cells ((i, v) :: rest) = Instr.fill place (x ++ bs ++ z).toArray rest := by
  have hsz : cells.size = x.length + y.length + z.length := by rw [← Array.length_toList, hc]; simp; omega
  simp only [Instr.fill, hp]
  rw [hv]
  have h1 : (bs.toArray.size != size || decide (off + bs.toArray.size > cells.size)) = false := by simp [hs]; omega
  have h2 : ¬ ((bs.toArray.size ≠ size) || (off + bs.toArray.size > cells.size)) = true := by simp [hs]; omega
  rw [if_neg (by simpa using h2)]
  congr 1
  apply Array.toList_inj.1
  have := setAll off bs 0 cells x y z hc (by omega) (by omega)
  have hzi : bs.toArray.zipIdx.toList = bs.zipIdx := by rw [Array.toList_zipIdx]
  rw [← this]
  simp only [← Array.foldl_toList, hzi]

section
variable {C : Cx} {XI : List Nat} {E : List (Nat × Value)} {F : List Fact} {M : List Own} {d : Nat} {K : Cont}

/-- Parts laid into a value, one by one: from y to y'. -/
def BuildOk (C : Cx) (E : List (Nat × Value)) (F : List Fact) (place : Nat → Option (Nat × Nat)) (R : Rep α) : List (Nat × Operand) → α → α → Prop
  | [], y, y' => y = y'
  | (j, x) :: ps, y, y' => ∃ (β : Type) (S : Rep β) (off : Nat) (pre : α → Prop) (get : α → β) (set : α → β → α) (v : Value) (z : β),
      place j = some (off, S.size) ∧ Fld R off S pre get set ∧ pre y ∧ ev E x = some v ∧ HasV C F S v z ∧ BuildOk C E F place R ps (set y z) y'
theorem BuildOk.nil {place : Nat → Option (Nat × Nat)} {R : Rep α} {y : α} : BuildOk C E F place R [] y y := rfl
theorem BuildOk.cons {place : Nat → Option (Nat × Nat)} {R : Rep α} {y y' : α} {j : Nat} {x : Operand} {ps : List (Nat × Operand)} {S : Rep β} {off : Nat} {pre : α → Prop} {get : α → β} {set : α → β → α} {v : Value} {z : β} (h1 : place j = some (off, S.size)) (h2 : Fld R off S pre get set) (h3 : pre y) (h4 : ev E x = some v)
    (h5 : HasV C F S v z) (h6 : BuildOk C E F place R ps (set y z) y') : BuildOk C E F place R ((j, x) :: ps) y y' := ⟨β, S, off, pre, get, set, v, z, h1, h2, h3, h4, h5, h6⟩

theorem BuildOk.run {place : Nat → Option (Nat × Nat)} {R : Rep α} {a : Act} {w : World} (hs : OKst C E F M a w) : ∀ (ps : List (Nat × Operand)) (y y' : α) (cs : List Value), BuildOk C E F place R ps y y' → R.ok w (C.m0 ++ Blocks M) cs y →
    ∃ cs', Instr.fill place cs.toArray (ps.map fun p => (p.1, a.eval p.2)) = some cs'.toArray ∧ R.ok w (C.m0 ++ Blocks M) cs' y'
  | [], y, y', cs, h, ho => by
    have h : y = y' := h
    subst h
    exact ⟨cs, rfl, ho⟩
  | (j, x) :: ps, y, y', cs, ⟨β, S, off, pre, get, set, v, z, h1, h2, h3, h4, h5, h6⟩, ho => by
    obtain ⟨ca, cb, cc, e1, e2, e3, e4⟩ := h2.cut ho h3
    obtain ⟨bs, f1, _, f3⟩ := S.cells_of_val (h5 E M a w hs)
    obtain ⟨cs', g1, g2⟩ := BuildOk.run hs ps (set y z) y' (ca ++ bs ++ cc) h6 (e4 bs z f1)
    refine ⟨cs', ?_, g2⟩
    rw [List.map_cons, hs.ev h4, fill_step h1 f3 (S.len f1) (x := ca) (y := cb) (z := cc) (by simpa using e1) e2 (S.len e3)]
    exact g1

/-- A struct value. -/
theorem d_build {t : TypeId} {parts : List (Nat × Operand)} {R : Rep α} {n : Nat} {y : α} {fs : Array Field} {places : List (Nat × Nat)} (hT : TyOk C.P t R n) (hag : R.agg = true) (hu : C.P.underlying t = some (.struct fs)) (hpl : fs.toList.mapM (fun f => (C.P.info? f.type).map fun i => (f.offset, i.size)) = some places)
    (hb : BuildOk C E F (fun i => places.toArray[i]?) R parts R.zeroD y) (k : ∀ v, K ((d, v) :: E) (R.fact v y :: F) M) : DOp C XI E F M (.build t parts.toArray) d K :=
  DOp.mem (fun _ => True) (fun v => [R.fact v y]) (fun a w hs => by
    obtain ⟨i, hi, _, hz, _⟩ := hT.info
    obtain ⟨cs, h1, h2⟩ := hb.run hs _ _ _ R.zero (R.zok _ _)
    refine ⟨.agg cs.toArray, trivial, ?_, fun w' _ o ho => ?_⟩
    · intro f hf
      simp only [List.mem_singleton] at hf
      subst hf
      exact ⟨cs, h2, by rw [mk_agg hag]⟩
    · cases o; subst ho
      have hbt : C.P.built t (parts.map fun p => (p.1, a.eval p.2)) = some cs.toArray := by
        unfold Program.built
        rw [hi, hu]
        simp only [hz, hpl]
        rw [mk_agg hag]
        exact h1
      have := run_build w' t (parts.map fun p => (p.1, a.eval p.2)).toArray cs.toArray (by simpa using hbt)
      simp [execOp, this]) (fun v _ => k v)
/-- An array value. -/
theorem d_build_arr {t e : TypeId} {parts : List (Nat × Operand)} {R : Rep α} {N n n' : Nat} {y : List α} (hT : TyOk C.P t (rArr N R) n) (hu : C.P.underlying t = some (.array N e)) (hTe : TyOk C.P e R n')
    (hb : BuildOk C E F (fun i => some (i * R.size, R.size)) (rArr N R) parts (List.replicate N R.zeroD) y) (k : ∀ v, K ((d, v) :: E) ((rArr N R).fact v y :: F) M) : DOp C XI E F M (.build t parts.toArray) d K :=
  DOp.mem (fun _ => True) (fun v => [(rArr N R).fact v y]) (fun a w hs => by
    obtain ⟨i, hi, _, hz, _⟩ := hT.info
    obtain ⟨ie, hie, hie2, _⟩ := hTe.info
    obtain ⟨cs, h1, h2⟩ := hb.run hs _ _ _ (rArr N R).zero ((rArr N R).zok _ _)
    refine ⟨.agg cs.toArray, trivial, ?_, fun w' _ o ho => ?_⟩
    · intro f hf
      simp only [List.mem_singleton] at hf
      subst hf
      exact ⟨cs, h2, rfl⟩
    · cases o; subst ho
      have hbt : C.P.built t (parts.map fun p => (p.1, a.eval p.2)) = some cs.toArray := by
        unfold Program.built
        rw [hi, hu]
        simp only [hz, hie, hie2]
        exact h1
      have := run_build w' t (parts.map fun p => (p.1, a.eval p.2)).toArray cs.toArray (by simpa using hbt)
      simp [execOp, this]) (fun v _ => k v)

/-- The parts of a slice literal, each in its place. -/
def PartsOk (C : Cx) (E : List (Nat × Value)) (F : List Fact) (R : Rep α) : Nat → List (Nat × Operand) → List α → Prop
  | _, [], l => l = []
  | i, (j, x) :: ps, l => j = i ∧ ∃ v y l', l = y :: l' ∧ ev E x = some v ∧ HasV C F R v y ∧ PartsOk C E F R (i + 1) ps l'
theorem PartsOk.nil {R : Rep α} {i : Nat} : PartsOk C E F R i [] [] := rfl
theorem PartsOk.cons {R : Rep α} {i j : Nat} {x : Operand} {ps : List (Nat × Operand)} {v : Value} {y : α} {l : List α} (hj : j = i) (h1 : ev E x = some v) (h2 : HasV C F R v y) (h3 : PartsOk C E F R (i + 1) ps l) : PartsOk C E F R i ((j, x) :: ps) (y :: l) := ⟨hj, v, y, l, rfl, h1, h2, h3⟩
theorem PartsOk.run {R : Rep α} {a : Act} {w : World} (hs : OKst C E F M a w) : ∀ (ps : List (Nat × Operand)) (i : Nat) (l : List α) (pre old : List Value), PartsOk C E F R i ps l → pre.length = i * R.size → old.length = ps.length * R.size →
    ∃ cs, Instr.fill (fun i => some (i * R.size, R.size)) (pre ++ old).toArray (ps.map fun p => (p.1, a.eval p.2)) = some (pre ++ cs).toArray ∧ Rows R w (C.m0 ++ Blocks M) cs l
  | [], i, l, pre, old, h, hp, ho => by
    have h : l = [] := h
    subst h
    have : old = [] := List.length_eq_zero_iff.1 (by simpa using ho)
    subst this
    exact ⟨[], rfl, rfl⟩
  | (j, x) :: ps, i, l, pre, old, ⟨hj, v, y, l', e, h1, h2, h3⟩, hp, ho => by
    subst hj
    subst e
    obtain ⟨bs, f1, _, f3⟩ := R.cells_of_val (h2 E M a w hs)
    have hbl := R.len f1
    have ho' : old.length = R.size + ps.length * R.size := by rw [ho]; simp [Nat.add_mul]; omega
    obtain ⟨cs, g1, g2⟩ := PartsOk.run hs ps (j + 1) l' (pre ++ bs) (old.drop R.size) h3 (by simp [hp, hbl, Nat.add_mul]) (by simp; omega)
    refine ⟨bs ++ cs, ?_, ⟨bs, cs, rfl, f1, g2⟩⟩
    rw [List.map_cons, hs.ev h1, fill_step (x := pre) (y := old.take R.size) (z := old.drop R.size) rfl f3 hbl (by simp) hp (by simp; omega)]
    rw [List.append_assoc] at g1 ⊢
    simpa using g1

theorem g_buildSlice {t e : TypeId} {len : Nat} {parts : List (Nat × Operand)} {R : Rep α} {n : Nat} {l : List α} {ty : TypeId} {pos : String} {after : Array Edge} {gd : Option (Nat × Bool)} (hn : Nat.blt d C.n = true) (hu : C.P.underlying t = some (.slice e)) (hT : TyOk C.P e R n)
    (hl : len = parts.length ∧ len * R.size ≤ 16777216 ∧ len * n ≤ maxB ∧ len ≤ maxB) (hp : PartsOk C E F R 0 parts l) (hll : l.length = len) (k : ∀ v, K ((d, v) :: E) F (M ++ [Own.buf v n R l])) : GOp C XI E F M { dst := some d, op := .buildSlice t len parts.toArray, type := ty, pos, after, guard := gd } K := by
  intro a w hs J Q hJ
  obtain ⟨hl1, hl2, hl3, hlm⟩ := hl
  obtain ⟨i, hi, hi1, hi2, hi3⟩ := hT.info
  have hzl : (R.mk' R.zero).cells.size = R.size := by rw [R.cells_mk (R.zok w (C.m0 ++ Blocks M))]; simpa using R.len (R.zok w (C.m0 ++ Blocks M))
  have hr0 : ∃ cells : Array Value, (execOp a.eval { dst := some d, op := .buildSlice t len parts.toArray, type := ty, pos, after, guard := gd }).run C.P w = .ok (.value (.slice (some ⟨w.heap.size, 0, none⟩) len len)) (w.alloc (.cells cells e)) ∧ Rows R w (C.m0 ++ Blocks M) cells.toList l := by
    obtain ⟨cs, g1, g2⟩ := hp.run hs parts 0 l [] (((Array.range (len * R.size)).map ((if len * R.size = 0 then #[] else (R.mk' R.zero).cells)[· % (if len * R.size = 0 then #[] else (R.mk' R.zero).cells).size]!)).toList) (by simp) (by simp [hl1])
    refine ⟨cs.toArray, ?_, by simpa using g2⟩
    have hbig : ¬ (len * R.size > 2 ^ 24) := by omega
    simp only [List.nil_append, Array.toArray_toList] at g1
    by_cases h0 : len * R.size = 0
    · simp only [h0, if_true] at g1
      simp [execOp, Instr.buildSlice, run_underlying hu, hT.run_size, h0, newRow]
      simp at g1
      simp [g1]
    · simp only [h0, if_false] at g1
      have hb2 : ¬ (16777216 < len * R.size) := by omega
      simp [execOp, Instr.buildSlice, run_underlying hu, hT.run_size, hT.run_zero, h0, newRow, hb2, g1]
  obtain ⟨cells, hr, hrow⟩ := hr0
  have hcl := Rows.len R hrow
  unfold Oper.wp
  rw [hr]
  have g := Step.alloc (dr := C.dr) w (.cells cells e) none
  refine hJ _ _ _ _ _ (k (.slice (some ⟨w.heap.size, 0, none⟩) len len)) (push_g (o := { dst := some d, op := .buildSlice t len parts.toArray, type := ty, pos, after, guard := gd }) (fun a' => put_env hn _ a') hs g (fun b hb => by have hb := bufBlk_eq hb; subst hb; simp) (fun m' hg _ _ => ?_)) (g.same (by intro b hb; cases hb)) (fun b hb => ?_)
  · exact BufOk.mk (b := w.heap.size) (cap := len) (cs := cells.toList) (rest := []) (T := e) (by rw [hll]; exact hl3) (by rw [hll]; exact hlm) (by rw [hll]) (by omega) (by unfold maxB at hlm; omega) (by simpa using alloc_new w (.cells cells e)) (by simp only [List.append_nil, hcl, hll]) (Rows.mono R hg hrow)
  · rcases xs_push hb with h | h
    · exact .inl h
    · have h := bufBlk_eq h; subst h; exact .inr (Nat.le_refl _)

theorem madeCells_rows {R : Rep α} (w : World) (m : List Nat) (n : Nat) : Rows R w m (madeCells (R.mk' R.zero).cells (n * R.size)).toList (List.replicate n R.zeroD) := by
  have hz : (R.mk' R.zero).cells = R.zero.toArray := R.cells_mk (R.zok w m)
  have hzl : R.zero.length = R.size := R.len (R.zok w m)
  have e : (madeCells (R.mk' R.zero).cells (n * R.size)).toList = (List.replicate n R.zero).flatten := by
    rw [hz]
    unfold madeCells
    by_cases h0 : R.size = 0
    · have : R.zero = [] := List.length_eq_zero_iff.1 (by omega)
      simp [h0, this]
    · apply List.ext_getElem
      · simp [len_replicate_flatten, hzl]
      · intro i h1 h2
        simp only [Array.toList_map, List.getElem_map, Array.toList_range, List.getElem_range]
        have hi : i < n * R.size := by simpa using h1
        have hmod : i % R.size < R.zero.length := by rw [hzl]; exact Nat.mod_lt _ (by omega)
        have key : ∀ (k i : Nat) (h : i < (List.replicate k R.zero).flatten.length), ((List.replicate k R.zero).flatten)[i]'h = R.zero[i % R.size]'(by rw [hzl]; exact Nat.mod_lt _ (by omega)) := by
          intro k
          induction k with
          | zero => intro i h; simp at h
          | succ k ih =>
            intro i h
            simp only [List.replicate_succ, List.flatten_cons]
            by_cases hlt : i < R.zero.length
            · rw [List.getElem_append_left hlt]
              congr 1
              rw [Nat.mod_eq_of_lt (by omega)]
            · rw [List.getElem_append_right (by omega), ih]
              congr 1
              rw [hzl, ← Nat.mod_eq_sub_mod (by omega)]
        rw [key]
        have hsz : R.zero.toArray.size = R.size := by simp [hzl]
        simp only [hsz, show n * R.size ≠ 0 from fun e => by rw [e] at hi; omega, if_false]
        rw [getElem!_pos R.zero.toArray (i % R.size) (by simpa using hmod)]
        simp
  rw [e]
  exact Rows.replicate R (R.zok w m) n

theorem g_makeSlice {x y : Operand} {t e : TypeId} {R : Rep α} {n : Nat} {kl kc : IntKind} {l c : Int} {ty : TypeId} {pos : String} {after : Array Edge} {gd : Option (Nat × Bool)} (hn : Nat.blt d C.n = true) (hu : C.P.underlying t = some (.slice e)) (hT : TyOk C.P e R n) (hx : ev E x = some (.int kl l)) (hy : ev E y = some (.int kc c))
    (hl : 0 ≤ l ∧ l ≤ c ∧ c * n ≤ maxB ∧ c ≤ maxB) (k : ∀ v, K ((d, v) :: E) F (M ++ [Own.buf v n R (List.replicate l.toNat R.zeroD)])) : GOp C XI E F M { dst := some d, op := .makeSlice t x y, type := ty, pos, after, guard := gd } K := by
  intro a w hs J Q hJ
  obtain ⟨hl1, hl2, hl3, hl4⟩ := hl
  obtain ⟨i, hi, hi1, hi2, hi3⟩ := hT.info
  have hm := run_make (P := C.P) w t e i (R.mk' R.zero) hu hi hi2 kl kc l c hl1 hl2 (by rw [hi3, Int.mul_comm]; unfold maxB at hl3; omega) (by unfold maxB at hl4; omega)
  rw [hi1] at hm
  have hr : (execOp a.eval { dst := some d, op := .makeSlice t x y, type := ty, pos, after, guard := gd }).run C.P w = .ok (.value (.slice (some ⟨w.heap.size, 0, none⟩) l.toNat c.toNat)) (w.alloc (.cells (madeCells (R.mk' R.zero).cells (c.toNat * R.size)) e)) := by
    simp [execOp, hs.ev hx, hs.ev hy, hm]
  unfold Oper.wp
  rw [hr]
  have g := Step.alloc (dr := C.dr) w (.cells (madeCells (R.mk' R.zero).cells (c.toNat * R.size)) e) none
  refine hJ _ _ _ _ _ (k (.slice (some ⟨w.heap.size, 0, none⟩) l.toNat c.toNat)) (push_g (o := { dst := some d, op := .makeSlice t x y, type := ty, pos, after, guard := gd }) (fun a' => put_env hn _ a') hs g (fun b hb => by have hb := bufBlk_eq hb; subst hb; simp) (fun m' hg _ _ => ?_)) (g.same (by intro b hb; cases hb)) (fun b hb => ?_)
  · have hr := madeCells_rows (R := R) (w.alloc (.cells (madeCells (R.mk' R.zero).cells (c.toNat * R.size)) e)) m' c.toNat
    have hcl : l.toNat ≤ c.toNat := by omega
    obtain ⟨ca, cb, e1, e2, e3⟩ := Rows.split R (xs := List.replicate l.toNat R.zeroD) (ys := List.replicate (c.toNat - l.toNat) R.zeroD) (by rw [List.replicate_append_replicate, Nat.add_sub_cancel' hcl]; exact hr)
    have hlen := Rows.len R hr
    have hcn : c.toNat * n ≤ maxB := by
      have : (c.toNat : Int) = c := by omega
      have h2 : ((c.toNat * n : Nat) : Int) ≤ (maxB : Int) := by rw [Int.natCast_mul, this]; exact hl3
      exact Int.ofNat_le.1 h2
    refine BufOk.mk (b := w.heap.size) (cap := c.toNat) (cs := ca) (rest := cb) (T := e) ?_ (by simp; unfold maxB at *; omega) (by simp) (by simpa using hcl) (by unfold maxB at hl4; omega) ?_ (by rw [← e1, hlen]; simp) e2
    · simp
      exact Nat.le_trans (Nat.mul_le_mul_right _ hcl) hcn
    · rw [← e1]
      exact alloc_new w _
  · rcases xs_push hb with h | h
    · exact .inl h
    · have h := bufBlk_eq h; subst h; exact .inr (Nat.le_refl _)

/-! ### Strings and bytes -/
theorem d_bytes_str {x : Operand} {v : Value} {n : Nat} {l : List Int} {t t' e : TypeId} (hx : ev E x = some v) (hf : (rSl n (rInt .u8)).fact v l ∈ F) (hu : C.P.underlying t = some (.slice e)) (he : C.P.underlying e = some (.int .u8)) (hu' : C.P.underlying t' = some .string)
    (h : ∀ u, K ((d, u) :: E) (rStr.fact u l :: F) M) : DOp C XI E F M (.convert t t' x) d K :=
  DOp.mem (fun _ => True) (fun u => [rStr.fact u l]) (fun a w hs => by
    obtain ⟨base, cap, rfl, h1, h2, h3, h3', h4⟩ := val_sl (hs.fact hf)
    have hrow : ∀ (l : List Int) (cells : List Value) (w : World) (m : List Nat), Rows (rInt .u8) w m cells l → cells = l.map (Value.int .u8) ∧ ∀ y ∈ l, IntKind.u8.wrap y = y := by
      intro l
      induction l with
      | nil => intro cells w m h; exact ⟨h, by simp⟩
      | cons y l ih =>
        intro cells w m ⟨ca, cb, e1, e2, e3⟩
        obtain ⟨f1, f2⟩ := ih cb w m e3
        obtain ⟨rfl, g2⟩ := e2
        subst e1
        exact ⟨by simp [f1], fun z hz => by rcases List.mem_cons.1 hz with rfl | hz; exact g2; exact f2 z hz⟩
    have hfold : ∀ (l : List Int) (s : ByteArray), (∀ y ∈ l, IntKind.u8.wrap y = y) → strL (l.foldl (fun r n => r.push (UInt8.ofNat n.toNat)) s) = strL s ++ l := by
      intro l
      induction l with
      | nil => intro s _; simp
      | cons y l ih =>
        intro s hl
        rw [List.foldl_cons, ih _ (fun z hz => hl z (List.mem_cons_of_mem _ hz))]
        have hy := hl y (List.mem_cons_self ..)
        simp only [IntKind.wrap, IntKind.signed, IntKind.bits] at hy
        simp at hy
        simp [strL]
        omega
    rcases h4 with rfl | ⟨p, rfl, cells, h5, h6⟩
    · refine ⟨.string .empty, trivial, ?_, fun w' _ o ho => ?_⟩
      · intro f hf
        simp only [List.mem_singleton] at hf
        subst hf
        exact ⟨[.string .empty], ⟨.empty, rfl, rfl, by simp [maxB]⟩, rfl⟩
      · cases o; subst ho
        cases base with
        | none => simp [execOp, hs.ev hx, convert, run_underlying hu, run_underlying he, run_underlying hu', Conv.bytesToString]
        | some q =>
          have hlc : (loadCells q 0).run C.P w' = .ok (([] : List Int).map (Value.int .u8)).toArray w' := by simp [loadCells, loadCellsFrom]
          have := run_bytesToString (P := C.P) w' q 0 cap [] hlc
          simp [execOp, hs.ev hx, run_convert_bytes_string w' t t' e (some q) 0 cap hu he hu', this]
    · obtain ⟨g1, g2⟩ := hrow l cells w _ h5
      refine ⟨.string (l.foldl (fun r n => r.push (UInt8.ofNat n.toNat)) ByteArray.empty), trivial, ?_, fun w' hw o ho => ?_⟩
      · intro f hf
        simp only [List.mem_singleton] at hf
        subst hf
        exact ⟨[_], ⟨_, rfl, by rw [hfold l _ g2]; rfl, h3'⟩, rfl⟩
      · cases o; subst ho
        have h7 := h6.same hw (fun b hb => List.mem_append_right _ (mem_Xs hb))
        have hcl : cells.length = l.length := by rw [g1]; simp
        have hlc : (loadCells p l.length).run C.P w' = .ok (l.map (Value.int .u8)).toArray w' := by
          rw [← g1, ← hcl]
          exact run_loadCells_list w' p cells (fun j u hu => by
            obtain ⟨hlt, rfl⟩ := List.getElem?_eq_some_iff.1 hu
            exact h7.cell j hlt)
        have := run_bytesToString (P := C.P) w' p l.length cap l hlc
        simp [execOp, hs.ev hx, run_convert_bytes_string w' t t' e (some p) l.length cap hu he hu', this]) (fun u _ => h u)
/-- A string under another name. -/
theorem d_str_str {x : Operand} {v : Value} {l : List Int} {t t' : TypeId} {s : TypeDesc} (hx : ev E x = some v) (hf : rStr.fact v l ∈ F) (hu : C.P.underlying t = some s) (hu' : C.P.underlying t' = some .string)
    (h : K ((d, v) :: E) F M) : DOp C XI E F M (.convert t t' x) d K :=
  DOp.mem (fun u => u = v) (fun _ => []) (fun a w hs => by
    obtain ⟨s, rfl, rfl, _⟩ := val_str (hs.fact hf)
    refine ⟨_, rfl, by (intro f hf; cases hf), fun w' _ o ho => ?_⟩
    cases o; subst ho
    simp [execOp, hs.ev hx, convert, run_underlying hu, run_underlying hu']) (fun u hu => by subst hu; exact h)

theorem bytes_rows (bs : List UInt8) (w : World) (m : List Nat) : Rows (rInt .u8) w m (bs.map fun b => Value.int .u8 b.toNat) (bs.map fun b => (b.toNat : Int)) := by
  induction bs with
  | nil => rfl
  | cons b bs ih =>
    refine ⟨[.int .u8 b.toNat], _, rfl, ⟨rfl, ?_⟩, ih⟩
    have := b.toNat_lt
    simp only [IntKind.wrap, IntKind.signed, IntKind.bits]
    simp
    omega
theorem g_str_bytes {x : Operand} {v : Value} {l : List Int} {t t' e : TypeId} {n : Nat} {ty : TypeId} {pos : String} {after : Array Edge} {gd : Option (Nat × Bool)} (hd : Nat.blt d C.n = true) (hx : ev E x = some v) (hf : HasV C F rStr v l) (hu : C.P.underlying t = some .string) (hu' : C.P.underlying t' = some (.slice e)) (he : C.P.underlying e = some (.int .u8)) (hn : n = 1)
    (k : ∀ u, K ((d, u) :: E) ((rSl n (rInt .u8)).fact u l :: F) M) : GOp C XI E F M { dst := some d, op := .convert t t' x, type := ty, pos, after, guard := gd } K := by
  intro a w hs J Q hJ
  subst hn
  obtain ⟨str, rfl, rfl, hl⟩ := val_str (hf E M a w hs)
  have hl' := hl
  rw [strL_length] at hl'
  obtain ⟨c1, c2⟩ := grownCap_bd w 0 e hl'
  have hrun := run_bytes_of_string (P := C.P) w t t' e str hu hu' he
  generalize hcap : grownCap w str.size 0 e = cap at *
  generalize hrow : bytesRow str cap = row at *
  have hr : (execOp a.eval { dst := some d, op := .convert t t' x, type := ty, pos, after, guard := gd }).run C.P w = .ok (.value (.slice (some ⟨w.heap.size, 0, none⟩) str.size cap)) (w.drew.alloc (.cells row e (row.size, row.size + 1))) := by
    simp [execOp, hs.ev hx, hrun]
  unfold Oper.wp
  rw [hr]
  have g : Step C.dr w (w.drew.alloc (.cells row e (row.size, row.size + 1))) none := (Step.drew w none).trans (Step.alloc _ _ _)
  have h1 := hs.grow g
  obtain ⟨p1, p2, p3⟩ := put_env (C := C) hd (.slice (some ⟨w.heap.size, 0, none⟩) str.size cap) a hs.env hs.size
  have h2 : OKst C ((d, .slice (some ⟨w.heap.size, 0, none⟩) str.size cap) :: E) F M (a.put (some d) (.slice (some ⟨w.heap.size, 0, none⟩) str.size cap)) (w.drew.alloc (.cells row e (row.size, row.size + 1))) :=
    { h1 with env := p1, size := p2, defers := p3.trans hs.defers }
  refine hJ _ _ _ _ _ (k (.slice (some ⟨w.heap.size, 0, none⟩) str.size cap)) (h2.more _ ?_) (g.same (by intro b hb; cases hb)) (fun b hb => .inl hb)
  have hnew : w.heap.size ∉ C.m0 ++ Blocks M := fun hm => by
    rcases List.mem_append.1 hm with hm | hm
    · have := hs.m0 _ hm
      have := hs.below.size
      omega
    · have := (hs.range _ hm).2
      omega
  refine ⟨[.slice (some ⟨w.heap.size, 0, none⟩) str.size cap], ⟨some ⟨w.heap.size, 0, none⟩, cap, by rw [strL_length], by rw [strL_length]; exact c1, c2, by simpa using hl, hl, .inr ⟨_, rfl, str.data.toList.map (fun b => Value.int .u8 b.toNat), bytes_rows _ _ _, rfl, hnew, row, e, _, alloc_new w.drew _, [], (List.replicate (cap - str.size) (.int .u8 0)), ?_, rfl⟩⟩, rfl⟩
  rw [← hrow]
  simp [bytesRow]

/-! ### Calls -/
/-- What a call of function f comes to: an answer, nothing that was there turned, 'post' of the answer in the world behind. 'm': the blocks that the callers may write. -/
def FnX (dr : Bool) (P : Program) (f : FuncId) (args : List Value) (pre : World → List Nat → Prop) (post : World → World → List Nat → Value → Prop) : Prop :=
  ∀ w m, (∀ b ∈ m, b < w.heap.size) → pre w m → Calls P f args.toArray w (fun e w' => ∃ v, e = .returned v ∧ After dr w w' ∧ post w w' m v)
abbrev Fn (P : Program) (f : FuncId) (args : List Value) (pre : World → List Nat → Prop) (post : World → World → List Nat → Value → Prop) : Prop := FnX false P f args pre post
theorem FnX.weak {P : Program} {f : FuncId} {args : List Value} {pre : World → List Nat → Prop} {post : World → World → List Nat → Value → Prop} (h : FnX true P f args pre post) : FnX false P f args pre post := fun w m hm hp =>
  (h w m hm hp).mono fun _ _ ⟨v, h1, h2, h3⟩ => ⟨v, h1, ⟨h2.below, fun e => by cases e⟩, h3⟩
/-- Values of operands. -/
def Evs (E : List (Nat × Value)) : List Operand → List Value → Prop
  | [], vs => vs = []
  | x :: xs, vs => ∃ v r, vs = v :: r ∧ ev E x = some v ∧ Evs E xs r
theorem Evs.nil : Evs E [] [] := rfl
theorem Evs.cons {x : Operand} {xs : List Operand} {v : Value} {vs : List Value} (h : ev E x = some v) (h2 : Evs E xs vs) : Evs E (x :: xs) (v :: vs) := ⟨v, vs, rfl, h, h2⟩
theorem Evs.map {a : Act} {w : World} (hs : OKst C E F M a w) : ∀ {xs : List Operand} {vs : List Value}, Evs E xs vs → xs.map a.eval = vs
  | [], vs, h => by have h : vs = [] := h; subst h; rfl
  | x :: xs, vs, ⟨v, r, e, h1, h2⟩ => by subst e; rw [List.map_cons, hs.ev h1, Evs.map hs h2]
/-- The function is there, with a body. -/
def HasFn (P : Program) (f : FuncId) : Prop := ∃ fn, P.funcs[f]? = some fn ∧ fn.name ≠ "runtime.NumGoroutine" ∧ ∃ c, fn.body = some c

theorem g_call {f : FuncId} {xs : List Operand} {ats : Array TypeId} {vs : List Value} {pre : World → List Nat → Prop} {post : World → World → List Nat → Value → Prop} {Z : Value → Prop} {fs : Value → List Fact} {ty : TypeId} {pos : String} {after : Array Edge} {gd : Option (Nat × Bool)} (hn : Nat.blt d C.n = true) (hfn : HasFn C.P f) (hc : FnX C.dr C.P f vs pre post) (he : Evs E xs vs)
    (hpre : ∀ a w, OKst C E F M a w → pre w (C.m0 ++ Blocks M)) (hpost : ∀ w w' m v, post w w' m v → Z v ∧ ∀ f ∈ fs v, f.p w' m) (k : ∀ v, Z v → K ((d, v) :: E) (fs v ++ F) M) :
    GOp C XI E F M { dst := some d, op := .call { callee := .value (.func f), args := xs.toArray, argTypes := ats }, type := ty, pos, after, guard := gd } K := by
  intro a w hs J Q hJ
  obtain ⟨fn, h1, h2, bd, h3⟩ := hfn
  have hr : (execOp a.eval { dst := some d, op := .call { callee := .value (.func f), args := xs.toArray, argTypes := ats }, type := ty, pos, after, guard := gd }).run C.P w = .ok (.enter f vs.toArray) w := by
    rw [execOp_call_go]
    have : #[] ++ xs.toArray.map a.eval ++ #[] = vs.toArray := by simp [← he.map hs]
    rw [this]
    simp [callFunc, h1, h2, h3]
  unfold Oper.wp
  rw [hr]
  simp only [Oper.upon]
  refine (hc w (C.m0 ++ Blocks M) (fun b hb => ?_) (hpre a w hs)).mono ?_
  · rcases List.mem_append.1 hb with hb | hb
    · exact Nat.lt_of_lt_of_le (hs.m0 b hb) hs.below.size
    · exact (hs.range b hb).2
  · rintro e w' ⟨v, rfl, hb, hp⟩
    have g := Step.below hb
    have h1 := hs.grow g
    obtain ⟨p1, p2, p3⟩ := put_env (C := C) hn v a hs.env hs.size
    obtain ⟨hZ, hfs⟩ := hpost _ _ _ _ hp
    refine hJ _ _ _ _ _ (k v hZ) { h1 with env := p1, size := p2, defers := p3.trans hs.defers, facts := fun f hf => ?_ } (g.same (by intro b hb; cases hb)) (fun b hb => .inl hb)
    exact (List.mem_append.1 hf).elim (hfs f) (h1.facts f)
/-- A callee whose answer is a buffer that nobody else holds. -/
def OwnRes (R : Rep α) (n : Nat) (w w' : World) (m : List Nat) (v : Value) (l : List α) : Prop :=
  (∀ b, bufBlk v = some b → w.heap.size ≤ b ∧ b < w'.heap.size) ∧ ∀ m', (∀ b, b ∈ m' → b ∈ m ∨ bufBlk v = some b) → BufOk R n v l w' m'
theorem g_call_own {f : FuncId} {xs : List Operand} {ats : Array TypeId} {vs : List Value} {pre : World → List Nat → Prop} {post : World → World → List Nat → Value → Prop} {R : Rep α} {n : Nat} {l : List α} {ty : TypeId} {pos : String} {after : Array Edge} {gd : Option (Nat × Bool)} (hn : Nat.blt d C.n = true) (hfn : HasFn C.P f) (hc : FnX C.dr C.P f vs pre post) (he : Evs E xs vs)
    (hpre : ∀ a w, OKst C E F M a w → pre w (C.m0 ++ Blocks M)) (hpost : ∀ w w' m v, post w w' m v → OwnRes R n w w' m v l) (k : ∀ v, K ((d, v) :: E) F (M ++ [Own.buf v n R l])) :
    GOp C XI E F M { dst := some d, op := .call { callee := .value (.func f), args := xs.toArray, argTypes := ats }, type := ty, pos, after, guard := gd } K := by
  intro a w hs J Q hJ
  obtain ⟨fn, h1, h2, bd, h3⟩ := hfn
  have hr : (execOp a.eval { dst := some d, op := .call { callee := .value (.func f), args := xs.toArray, argTypes := ats }, type := ty, pos, after, guard := gd }).run C.P w = .ok (.enter f vs.toArray) w := by
    rw [execOp_call_go]
    have : #[] ++ xs.toArray.map a.eval ++ #[] = vs.toArray := by simp [← he.map hs]
    rw [this]
    simp [callFunc, h1, h2, h3]
  unfold Oper.wp
  rw [hr]
  simp only [Oper.upon]
  refine (hc w (C.m0 ++ Blocks M) (fun b hb => ?_) (hpre a w hs)).mono ?_
  · rcases List.mem_append.1 hb with hb | hb
    · exact Nat.lt_of_lt_of_le (hs.m0 b hb) hs.below.size
    · exact (hs.range b hb).2
  · rintro e w' ⟨v, rfl, hb, hp⟩
    have g := Step.below hb
    obtain ⟨r1, r2⟩ := hpost _ _ _ _ hp
    have hst := push_g (C := C) (E := E) (F := F) (M := M) (o := { dst := some d, op := .call { callee := .value (.func f), args := xs.toArray, argTypes := ats }, type := ty, pos, after, guard := gd }) (v := v) (own := Own.buf v n R l) (E' := (d, v) :: E) (fun a' => put_env hn _ a') hs g r1 (fun m' hg _ hm => r2 m' hm)
    · refine hJ _ _ _ _ _ (k v) hst (g.same (by intro b hb; cases hb)) (fun b hb => ?_)
      rcases xs_push hb with h | h
      · exact .inl h
      · exact .inr (r1 b h).1
end
end Go.Cf
