/- Data that hang on no memory; calls that only look at the call's own buffers; buffers whose spare room is known. -/
import Derived.Test.YtbcipfhhmkjigaaCfK
set_option linter.unusedVariables false
set_option linter.unusedSimpArgs false
namespace Go.Cf
open Go Go.RowKit
variable {α β γ δ : Type}

/-! ### Data that hang on no memory -/
theorem Flat.bool : Flat rBool := fun _ _ _ _ _ _ h => h
theorem Flat.str : Flat rStr := fun _ _ _ _ _ _ h => h
theorem Flat.prod {R : Rep α} {S : Rep β} (h : Flat R) (k : Flat S) : Flat (rProd R S) := fun _ _ _ _ _ _ ⟨a, b, e, h1, h2⟩ => ⟨a, b, e, h _ _ _ _ _ _ h1, k _ _ _ _ _ _ h2⟩
theorem Flat.map {R : Rep α} {g : β → α} {f : α → β} {hg : ∀ x, g (f x) = x} (h : Flat R) : Flat (rMap R g f hg) := fun _ _ _ _ _ _ k => h _ _ _ _ _ _ k
theorem Flat.val {R : Rep β} (h : Flat R) {w w' : World} {m m' : List Nat} {v : Value} {x : β} (k : R.val w m v x) : R.val w' m' v x := let ⟨cs, h1, h2⟩ := k; ⟨cs, h _ _ _ _ _ _ h1, h2⟩
theorem Flat.own {R : Rep β} (h : Flat R) {n : Nat} {w w' : World} {m m' : List Nat} {v : Value} {l : List β} (k : OwnRes R n w w' m v l) : OwnRes R n w w' m' v l :=
  ⟨k.1, fun _ _ => h.buf (k.2 [] (by intro b hb; cases hb)) (fun _ _ => rfl)⟩
/-- A call whose answer hangs on no memory may look at what else the caller may write. -/
theorem FnX.flat {dr : Bool} {P : Program} {f : FuncId} {args : List Value} {pre : World → List Nat → Prop} {post : World → World → List Nat → Value → Prop} (hf : ∀ w w' m m' v, post w w' m v → post w w' m' v) (h : FnX dr P f args pre post) :
    FnX dr P f args (fun w m => ∃ m', (∀ b ∈ m', b ∈ m) ∧ pre w m') post := fun w m hm ⟨m', h1, h2⟩ =>
  (h w m' (fun b hb => hm b (h1 b hb)) h2).mono fun _ _ ⟨v, e, h3, h4⟩ => ⟨v, e, h3, hf _ _ _ _ _ h4⟩
theorem blocks_gone {M : List Own} {i : Nat} {b : Nat} (h : b ∈ Blocks (M.set i Own.gone)) : b ∈ Blocks M := by
  obtain ⟨j, o, hj, ho⟩ := blocks_mem.1 h
  rw [List.getElem?_set] at hj
  split at hj
  · split at hj
    · cases hj; cases ho
    · cases hj
  · exact blocks_mem.2 ⟨j, o, hj, ho⟩
theorem bor_refl {m0 : List Nat} {M : List Own} : ∀ b ∈ m0 ++ Blocks M, b ∈ m0 ++ Blocks M := fun _ h => h
theorem bor_step {m0 : List Nat} {M M' : List Own} (i : Nat) (h : ∀ b ∈ m0 ++ Blocks M', b ∈ m0 ++ Blocks (M.set i Own.gone)) : ∀ b ∈ m0 ++ Blocks M', b ∈ m0 ++ Blocks M := fun b hb => by
  rcases List.mem_append.1 (h b hb) with h1 | h1
  · exact List.mem_append_left _ h1
  · exact List.mem_append_right _ (blocks_gone h1)
theorem bor_one {C : Cx} {E : List (Nat × Value)} {F : List Fact} {M : List Own} {a : Act} {w : World} {p : List Nat → Prop} {v : Value} {n : Nat} {R : Rep α} {l : List α} (hs : OKst C E F M a w) (i : Nat) (hi : M[i]? = some (Own.buf v n R l))
    (k : OKst C E ((rSl n R).fact v l :: F) (M.set i Own.gone) a w → ∃ m', (∀ b ∈ m', b ∈ C.m0 ++ Blocks (M.set i Own.gone)) ∧ p m') : ∃ m', (∀ b ∈ m', b ∈ C.m0 ++ Blocks M) ∧ p m' :=
  let ⟨m', h1, h2⟩ := k (freeze_st hs hi); ⟨m', fun b hb => by
    rcases List.mem_append.1 (h1 b hb) with h3 | h3
    · exact List.mem_append_left _ h3
    · exact List.mem_append_right _ (blocks_gone h3), h2⟩
theorem bor_end {C : Cx} {E : List (Nat × Value)} {F : List Fact} {M : List Own} {a : Act} {w : World} {p : List Nat → Prop} (_ : OKst C E F M a w) (h : p (C.m0 ++ Blocks M)) : ∃ m', (∀ b ∈ m', b ∈ C.m0 ++ Blocks M) ∧ p m' := ⟨_, fun _ h => h, h⟩

/-! ### The blocks, written out anew -/
theorem tl_M {C : Cx} {E : List (Nat × Value)} {F : List Fact} {M : List Own} {Q : Exit → Act → World → Prop} {ops : Array Oper} {os : List Oper} (M' : List Own) (h : M = M') (k : TL C ops E F M' os Q) : TL C ops E F M os Q := by subst h; exact k
theorem ta_M {C : Cx} {XI : List Nat} {E : List (Nat × Value)} {F : List Fact} {M : List Own} {Q : Exit → Act → World → Prop} {ops : Array Oper} {n fuel : Nat} {listed : Array Bool} (M' : List Own) (h : M = M') (k : TA C ops n XI fuel listed E F M' Q) : TA C ops n XI fuel listed E F M Q := by subst h; exact k
theorem q_M {C : Cx} {E : List (Nat × Value)} {F : List Fact} {M : List Own} {J : Act → World → Prop} (M' : List Own) (h : M = M') (k : QT C E F M' J) : QT C E F M J := by subst h; exact k

/-! ### Spare room -/
def rSx (bytes : Nat) (R : Rep α) : Rep (List α × List α) where
  size := 1
  agg := false
  zero := [.slice none 0 0]
  zeroD := ([], [])
  ok := fun w m cs x => ∃ base cap, cs = [.slice base x.1.length cap] ∧ (rSl bytes R).ok w m [.slice base (x.1 ++ x.2).length cap] (x.1 ++ x.2)
  len := fun ⟨_, _, h, _⟩ => by simp [h]
  one := fun ⟨_, _, h, _⟩ => by simp [h, one1]
  sc := fun _ => rfl
  mono := fun g ⟨base, cap, h, h1⟩ => ⟨base, cap, h, (rSl bytes R).mono g h1⟩
  zok := fun w m => ⟨none, 0, rfl, (rSl bytes R).zok w m⟩
theorem sl_prefix {n : Nat} {R : Rep α} {w : World} {m : List Nat} {base : Option Addr} {cap : Nat} {l s : List α} (h : (rSl n R).ok w m [.slice base (l ++ s).length cap] (l ++ s)) : (rSl n R).ok w m [.slice base l.length cap] l := by
  obtain ⟨base', cap', h0, h1, h2, h3, h3', h4⟩ := h
  cases h0
  simp only [List.length_append] at h1 h3 h3'
  refine ⟨base, cap, rfl, by omega, h2, Nat.le_trans (Nat.mul_le_mul_right _ (by omega)) h3, by omega, ?_⟩
  rcases h4 with h4 | ⟨a, rfl, cells, h5, h6⟩
  · exact .inl (List.append_eq_nil_iff.1 h4).1
  · obtain ⟨ca, cb, e1, e2, e3⟩ := Rows.split R h5
    subst e1
    refine .inr ⟨a, rfl, ca, e2, ?_⟩
    have := MemAt.sub (x := []) (y := ca) (z := cb) (by simpa using h6)
    simpa [Addr.add] using this
theorem sx_sl {n : Nat} {R : Rep α} {w : World} {m : List Nat} {v : Value} {x : List α × List α} (h : (rSx n R).val w m v x) : (rSl n R).val w m v x.1 := by
  obtain ⟨cs, ⟨base, cap, rfl, h1⟩, rfl⟩ := h
  exact ⟨_, sl_prefix h1, rfl⟩
/-- A buffer of the call's own: l, and behind it s in its spare room. -/
def Own.bufs (v : Value) (bytes : Nat) (R : Rep α) (l s : List α) : Own where
  blk := bufBlk v
  holds := fun w m => ∃ base cap, v = .slice base l.length cap ∧ BufOk R bytes (.slice base (l ++ s).length cap) (l ++ s) w m
  keep := fun _ _ _ _ g hb ⟨base, cap, h0, h⟩ => ⟨base, cap, h0, (Own.buf (.slice base (l ++ s).length cap) bytes R (l ++ s)).keep _ _ _ _ g (fun b hb' => hb b (by
    rw [h0]; cases base <;> cases cap <;> first | exact hb' | cases hb')) h⟩
section
variable {C : Cx} {XI : List Nat} {E : List (Nat × Value)} {F : List Fact} {M : List Own} {d : Nat} {K : Cont} {Q : Exit → Act → World → Prop} {ops : Array Oper} {os : List Oper}
theorem bufs_blk {base : Option Addr} {n n' cap : Nat} : bufBlk (.slice base n cap) = bufBlk (.slice base n' cap) := by
  cases base <;> cases cap <;> rfl
theorem freezes_st {R : Rep α} {n : Nat} {v : Value} {l s : List α} {a : Act} {w : World} (h : OKst C E F M a w) {i : Nat} (hi : M[i]? = some (Own.bufs v n R l s)) : OKst C E ((rSx n R).fact v (l, s) :: (rSl n R).fact v l :: F) (M.set i Own.gone) a w := by
  obtain ⟨h1, hg⟩ := h.drop hi
  obtain ⟨base, cap, rfl, hb⟩ := h.own _ (List.mem_of_getElem? hi)
  obtain ⟨cs, hv, hcs⟩ := BufOk.read hb hg (fun b hb => not_in_dropped h hi (o := Own.bufs _ n R l s) (by rw [← hb]; exact bufs_blk))
  have hcs : cs = [.slice base (l ++ s).length cap] := by
    obtain ⟨base', cap', h0, _⟩ := hv
    subst h0
    rw [show (rSl n R).mk' [.slice base' (l ++ s).length cap'] = .slice base' (l ++ s).length cap' from rfl] at hcs
    cases hcs; rfl
  subst hcs
  have hx : (rSx n R).val w (C.m0 ++ Blocks (M.set i Own.gone)) (.slice base l.length cap) (l, s) := ⟨_, ⟨base, cap, rfl, hv⟩, rfl⟩
  exact (h1.more ((rSl n R).fact _ l) (sx_sl hx)).more _ hx
theorem tl_freezes {R : Rep α} {n : Nat} {v : Value} {l s : List α} (i : Nat) (hi : M[i]? = some (Own.bufs v n R l s)) (h : TL C ops E ((rSx n R).fact v (l, s) :: (rSl n R).fact v l :: F) (M.set i Own.gone) os Q) : TL C ops E F M os Q := fun a w hs => h a w (freezes_st hs hi)
theorem q_freezes {J : Act → World → Prop} {R : Rep α} {n : Nat} {v : Value} {l s : List α} (i : Nat) (hi : M[i]? = some (Own.bufs v n R l s)) (h : QT C E ((rSx n R).fact v (l, s) :: (rSl n R).fact v l :: F) (M.set i Own.gone) J) : QT C E F M J := fun a w hs => h a w (freezes_st hs hi)
theorem t_freezes {c : Code} {R : Rep α} {n : Nat} {v : Value} {l s : List α} (i : Nat) (hi : M[i]? = some (Own.bufs v n R l s)) (h : T C E ((rSx n R).fact v (l, s) :: (rSl n R).fact v l :: F) (M.set i Own.gone) c Q) : T C E F M c Q := fun a w hs => h a w (freezes_st hs hi)
/-- A slice beyond its length, within what its spare room holds. -/
theorem d_slice_sx {x : Operand} {hi : Option Operand} {v : Value} {n n' : Nat} {R : Rep α} {l s : List α} {t e : TypeId} {j : Int} (hx : ev E x = some v) (hf : (rSx n R).fact v (l, s) ∈ F) (hhi : Bnd E hi l.length j)
    (hu : C.P.underlying t = some (.slice e)) (hT : TyOk C.P e R n') (h0 : 0 ≤ j ∧ j ≤ (l ++ s).length)
    (h : ∀ u, K ((d, u) :: E) ((rSl n R).fact u (sub (l ++ s) 0 j) :: F) M) : DOp C XI E F M (.slice t x none hi none) d K :=
  DOp.mem (fun _ => True) (fun u => [(rSl n R).fact u (sub (l ++ s) 0 j)]) (fun a w hs => by
    obtain ⟨cs, ⟨base, cap, rfl, hok⟩, hv⟩ := hs.fact hf
    have hv : v = .slice base l.length cap := hv
    subst hv
    obtain ⟨base', cap', e0, h1, h2, h3, h3', h4⟩ := hok
    cases e0
    have h1 : (l ++ s).length ≤ cap := h1
    have e1 : sub (l ++ s) 0 j = (l ++ s).take j.toNat := by simp [sub]
    refine ⟨.slice base j.toNat cap, trivial, ?_, fun w' _ o ho => ?_⟩
    · intro f hf
      simp only [List.mem_singleton] at hf
      subst hf
      refine ⟨[.slice base j.toNat cap], ?_, rfl⟩
      have hl : (sub (l ++ s) 0 j).length = j.toNat := by rw [e1, List.length_take]; omega
      have := sl_prefix (n := n) (R := R) (w := w) (m := C.m0 ++ Blocks M) (base := base) (cap := cap) (l := (l ++ s).take j.toNat) (s := (l ++ s).drop j.toNat) (by rw [List.take_append_drop]; exact ⟨base, cap, rfl, h1, h2, h3, h3', h4⟩)
      rw [← e1, hl] at this
      exact this
    · cases o; subst ho
      have hlo : (none : Option Value) = none ∧ (0 : Int) = 0 ∨ ∃ k, (none : Option Value) = some (.int k 0) := .inl ⟨rfl, rfl⟩
      have hb := run_bounds (P := C.P) (w := w') (isSlice := true) (len := l.length) (cap := cap) hlo (hhi.val (a := a) (fun y u hy => hs.ev hy)) (by omega)
      simp [execOp, hs.ev hx, Instr.sliceAt, Instr.slice, run_underlying hu, hb, hT.run_size]
      intro he
      cases base with
      | none => rfl
      | some p => simp [Addr.add]) (fun u _ => h u)
/-- 'make' with room to spare. -/
theorem g_makeSlices {x y : Operand} {t e : TypeId} {R : Rep α} {n : Nat} {kl kc : IntKind} {l c : Int} {ty : TypeId} {pos : String} {after : Array Edge} {gd : Option (Nat × Bool)} (hn : Nat.blt d C.n = true) (hu : C.P.underlying t = some (.slice e)) (hT : TyOk C.P e R n) (hx : ev E x = some (.int kl l)) (hy : ev E y = some (.int kc c))
    (hl : 0 ≤ l ∧ l ≤ c ∧ c * n ≤ maxB ∧ c ≤ maxB) (k : ∀ v, K ((d, v) :: E) F (M ++ [Own.bufs v n R (List.replicate l.toNat R.zeroD) (List.replicate (c - l).toNat R.zeroD)])) : GOp C XI E F M { dst := some d, op := .makeSlice t x y, type := ty, pos, after, guard := gd } K := by
  intro a w hs J Q hJ
  obtain ⟨hl1, hl2, hl3, hl4⟩ := hl
  obtain ⟨i, hi, hi1, hi2, hi3⟩ := hT.info
  have hm := run_make (P := C.P) w t e i (R.mk' R.zero) hu hi hi2 kl kc l c hl1 hl2 (by rw [hi3, Int.mul_comm]; unfold maxB at hl3; omega) (by unfold maxB at hl4; omega)
  rw [hi1] at hm
  have hr : (execOp a.eval { dst := some d, op := .makeSlice t x y, type := ty, pos, after, guard := gd }).run C.P w = .ok (.value (.slice (some ⟨w.heap.size, 0, none⟩) l.toNat c.toNat)) (w.alloc (.cells (madeCells (R.mk' R.zero).cells (c.toNat * R.size)) e)) := by
    simp [execOp, hs.ev hx, hs.ev hy, hm]
  unfold Oper.wp
  rw [hr]
  have g := Step.alloc (dr := C.dr) w (.cells (madeCells (R.mk' R.zero).cells (c.toNat * R.size)) e) none
  refine hJ _ _ _ _ _ (k (.slice (some ⟨w.heap.size, 0, none⟩) l.toNat c.toNat)) (push_g (o := { dst := some d, op := .makeSlice t x y, type := ty, pos, after, guard := gd }) (fun a' => put_env hn _ a') hs g (fun b hb => by have hb := bufBlk_eq hb; subst hb; simp) (fun m' hg _ _ => ?_)) (g.same (by intro b hb; cases hb)) (fun b hb => ?_)
  · have hr := madeCells_rows (R := R) (w.alloc (.cells (madeCells (R.mk' R.zero).cells (c.toNat * R.size)) e)) m' c.toNat
    have hcl : l.toNat ≤ c.toNat := by omega
    have hlen := Rows.len R hr
    have hcn : c.toNat * n ≤ maxB := by
      have : (c.toNat : Int) = c := by omega
      have h2 : ((c.toNat * n : Nat) : Int) ≤ (maxB : Int) := by rw [Int.natCast_mul, this]; exact hl3
      exact Int.ofNat_le.1 h2
    have e1 : List.replicate l.toNat R.zeroD ++ List.replicate (c - l).toNat R.zeroD = List.replicate c.toNat R.zeroD := by rw [List.replicate_append_replicate]; congr 1; omega
    refine ⟨some ⟨w.heap.size, 0, none⟩, c.toNat, by simp, ?_⟩
    rw [e1]
    refine BufOk.mk (b := w.heap.size) (cap := c.toNat) (cs := (madeCells (R.mk' R.zero).cells (c.toNat * R.size)).toList) (rest := []) (T := e) (by simpa using hcn) (by simp; unfold maxB at *; omega) (by simp) (by simp) (by unfold maxB at hl4; omega) ?_ (by simp [hlen]) hr
    simpa using alloc_new w _
  · rcases xs_push hb with h | h
    · exact .inl h
    · have h := bufBlk_eq h; subst h; exact .inr (Nat.le_refl _)
/-- 'append' within the spare room. -/
theorem run_appends {P : Program} {w : World} {m : List Nat} {t t2 ty e : TypeId} {R : Rep α} {n : Nat} {base : Option Addr} {cap : Nat} {x : Value} {l s l2 : List α} {news : List Value} (ht : P.underlying t = some (.slice e)) (h2 : ∃ ds, P.underlying t2 = some ds ∧ ∀ k, ds ≠ .int k) (hT : TyOk P e R n)
    (hb : BufOk R n (.slice base (l ++ s).length cap) (l ++ s) w m) (hlen : ∀ u, (Builtin.lenOf x).run P u = .ok l2.length u) (hsrc : ∀ u, u = w ∨ u = w.drew → (Builtin.firstCells R.size l2.length x).run P u = .ok news.toArray u) (hrow : Rows R w m news l2) (hfit : l2.length ≤ s.length) :
    ∃ w', (Builtin.append_ #[t, t2] ty #[.slice base l.length cap, x]).run P w = .ok (.slice base (l ++ l2).length cap) w' ∧ (∀ dr, Step dr w w' (bufBlk (.slice base l.length cap))) ∧
      (∀ m', Grows w m w' m' → BufOk R n (.slice base ((l ++ l2) ++ s.drop l2.length).length cap) ((l ++ l2) ++ s.drop l2.length) w' m') := by
  obtain ⟨i, hi, hi1, hi2, hi3⟩ := hT.info
  obtain ⟨ds, hds, hdk⟩ := h2
  have hnl := Rows.len R hrow
  have hz2 : ∀ u, (underlying t2).run P u = .ok ds u := fun u => run_underlying hds u
  have hdm : (match ds with | .int _ => true | _ => false) = false := by cases ds <;> first | rfl | exact absurd rfl (hdk _)
  obtain ⟨g0, g0', hb⟩ := hb
  have hlen' : ((l ++ l2) ++ s.drop l2.length).length = (l ++ s).length := by simp; omega
  rcases hb with ⟨base', e1, e2⟩ | ⟨b, cap', cs, rest, T, e1, h1, h2, h3, h4, h5⟩
  · obtain ⟨rfl, rfl⟩ := List.append_eq_nil_iff.1 e2
    have e0 : l2 = [] := List.length_eq_zero_iff.1 (by simpa using hfit)
    subst e0
    have hn0 : news = [] := List.length_eq_zero_iff.1 (by simpa using hnl)
    subst hn0
    simp at e1
    obtain ⟨_, rfl⟩ := e1
    have hs := hsrc w (.inl rfl)
    simp at hs
    refine ⟨w, ?_, fun _ => Step.refl _ _, fun m' _ => ⟨by simp, by simp, .inl ⟨base, rfl, rfl⟩⟩⟩
    cases base <;> simp [Builtin.append_, run_underlying ht, sizeOf, typeInfo, hi, hlen, hz2, hdm, hi1, hs, storeCells]
  · simp at e1
    obtain ⟨rfl, rfl⟩ := e1
    obtain ⟨cl, cs', ec, hl5, hs5⟩ := Rows.split R h5
    have hcl := Rows.len R hl5
    have hcs := Rows.len R hs5
    have hroom : l.length + l2.length ≤ cap' + 1 := by simp at h1; omega
    have hs := hsrc w (.inl rfl)
    have hsz : l.length * R.size + news.length ≤ (cs ++ rest).toArray.size := by
      simp only [List.size_toArray, h4, hnl, ← Nat.add_mul]
      exact Nat.mul_le_mul_right _ hroom
    have hst := run_storeCells_at P b (l.length * R.size) T news 0 (cs ++ rest).toArray w h3 (by simpa using hsz) (fun u hu => one1_prime (Rows.one R hrow u hu))
    simp only [Nat.add_zero] at hst
    have hnew : (cs ++ rest).toArray.toList.take (l.length * R.size) ++ news ++ (cs ++ rest).toArray.toList.drop (l.length * R.size + news.length) = (cl ++ news ++ cs'.drop news.length) ++ rest := by
      have hle : news.length ≤ cs'.length := by rw [hnl, hcs]; exact Nat.mul_le_mul_right _ hfit
      have hz : news.length - cs'.length = 0 := by omega
      rw [ec, ← hcl]
      simp [List.drop_append, hz]
    rw [hnew] at hst
    have hdrop : Rows R w m (cs'.drop news.length) (s.drop l2.length) := by
      have : s = s.take l2.length ++ s.drop l2.length := by simp
      rw [this] at hs5
      obtain ⟨c1, c2, e3, e4, e5⟩ := Rows.split R hs5
      have h6 := Rows.len R e4
      rw [List.length_take, Nat.min_eq_left hfit] at h6
      rw [e3, hnl, ← h6, List.drop_left]
      exact e5
    refine ⟨w.setRow b ((cl ++ news ++ cs'.drop news.length) ++ rest).toArray, ?_, fun _ => by rw [bufBlk_pos (by omega)]; exact Step.setRow _ _ _, fun m' hg => ?_⟩
    · simp [Builtin.append_, run_underlying ht, sizeOf, typeInfo, hi, hlen, hz2, hdm, hi1, hroom, hs, addr_add]
      simp at hst
      simp [hst]
    · refine ⟨by rw [hlen']; exact g0, by rw [hlen']; exact g0', .inr ⟨b, cap', cl ++ news ++ cs'.drop news.length, rest, T, by rw [hlen'], by rw [hlen']; exact h1, h2, setRow_get _ _ _ _ _ h3, ?_, Rows.append R (Rows.append R (Rows.mono R hg hl5) (Rows.mono R hg hrow)) (Rows.mono R hg hdrop)⟩⟩
      have hle : news.length ≤ cs'.length := by rw [hnl, hcs]; exact Nat.mul_le_mul_right _ hfit
      rw [← h4, ec]
      simp
      omega
theorem g_append_sls {x y : Operand} {v u : Value} {n n' : Nat} {R : Rep α} {l s l2 : List α} {t t2 e ty : TypeId} {pos : String} {after : Array Edge} {gd : Option (Nat × Bool)} (i : Nat) (hn : Nat.blt d C.n = true) (hx : ev E x = some v) (hy : ev E y = some u) (hm : M[i]? = some (Own.bufs v n R l s)) (hf : HasV C F (rSl n' R) u l2)
    (hu : C.P.underlying t = some (.slice e)) (h2 : ∃ ds, C.P.underlying t2 = some ds ∧ ∀ k, ds ≠ .int k) (hT : TyOk C.P e R n) (hfit : l2.length ≤ s.length) (hX : i ∈ XI)
    (k : ∀ v', K ((d, v') :: E) F (M.set i (Own.bufs v' n R (l ++ l2) (s.drop l2.length)))) : GOp C XI E F M { dst := some d, op := .call { callee := .builtin .append, args := #[x, y], argTypes := #[t, t2] }, type := ty, pos, after, guard := gd } K := by
  intro a w hs J Q hJ
  obtain ⟨base, cap, rfl, h1, _, h3, h3', h4⟩ := val_sl (hf E M a w hs)
  obtain ⟨bs, cp, rfl, hb⟩ := hs.own _ (List.mem_of_getElem? hm)
  have hrow : ∃ news, Rows R w (C.m0 ++ Blocks M) news l2 ∧ (l2 = [] ∨ ∃ a, base = some a ∧ ∀ j (hj : j < news.length), w.cell? (a.add j) = some news[j]) := by
    rcases h4 with rfl | ⟨p, rfl, cells, h5, h6⟩
    · exact ⟨[], rfl, .inl rfl⟩
    · exact ⟨cells, h5, .inr ⟨p, rfl, fun j hj => h6.cell j hj⟩⟩
  obtain ⟨news, hr1, hr2⟩ := hrow
  obtain ⟨w', e1, e2, e4⟩ := run_appends (ty := ty) hu h2 hT hb (x := .slice base l2.length cap) (fun u => by simp [Builtin.lenOf]) (run_first_sl (Rows.len R hr1) hr2) hr1 hfit
  have hr : (execOp a.eval { dst := some d, op := .call { callee := .builtin .append, args := #[x, y], argTypes := #[t, t2] }, type := ty, pos, after, guard := gd }).run C.P w = .ok (.value (.slice bs (l ++ l2).length cp)) w' := by
    simp only [execOp, resolve, invoke, builtin]
    simp [hs.ev hx, hs.ev hy]
    simp at e1
    simp [e1]
  unfold Oper.wp
  rw [hr]
  have hbl : ∀ b, (Own.bufs (.slice bs (l ++ l2).length cp) n R (l ++ l2) (s.drop l2.length)).blk = some b → (Own.bufs (.slice bs l.length cp) n R l s).blk = some b := fun b hb => by rw [← hb]; exact bufs_blk
  obtain ⟨f1, f2⟩ := hs.set (o' := Own.bufs (.slice bs (l ++ l2).length cp) n R (l ++ l2) (s.drop l2.length)) hm (e2 _) (fun b hb => .inl (hbl b hb)) (fun m' hg _ _ => ⟨bs, cp, rfl, e4 m' hg⟩)
  obtain ⟨p1, p2, p3⟩ := put_env (C := C) hn (.slice bs (l ++ l2).length cp) a hs.env hs.size
  refine hJ _ _ _ _ _ (k _) { f1 with env := p1, size := p2, defers := p3.trans hs.defers } ((e2 false).same (fun b hb => xs_at hm hX hb)) (fun b hb => ?_)
  rcases xs_set hb with h | h
  · exact .inl h
  · exact .inl (xs_at hm hX (hbl b h))
end
end Go.Cf
