/- Boxes with fields that point at blocks of the call's own; 'm[k]++'. -/
import Derived.Test.YtbcipfhhmkjigaaCfN
set_option linter.unusedVariables false
set_option linter.unusedSimpArgs false
namespace Go.Cf
open Go Go.RowKit
variable {α β γ δ : Type}
theorem buf_one1 {R : Rep α} {k : Nat} {v : Value} {l : List α} {w : World} {m : List Nat} (h : BufOk R k v l w m) : one1 v = true := by
  rcases h with ⟨_, _, ⟨base, rfl, _⟩ | ⟨b, cap, cs, rest, T, rfl, _⟩⟩ <;> rfl
section
variable {C : Cx} {XI : List Nat} {E : List (Nat × Value)} {F : List Fact} {M : List Own} {d : Nat} {K : Cont}
/-- A definite operation among such as have no order. -/
theorem gop_of {o : Oper} (hd : o.dst = some d) (hn : Nat.blt d C.n = true) (h : DOp C [] E F M o.op d K) : GOp C XI E F M o K := by
  intro a w hs J Q hJ
  obtain ⟨v, fs, h1, h2, h3⟩ := h a w hs
  unfold Oper.wp
  rw [h1 w (SameX.refl _ _) o rfl]
  simp only [Oper.upon, hd]
  exact hJ _ _ _ _ _ h3 (hs.put (Nat.blt_eq.mp hn) v h2) (SameX.refl _ _) (fun b hb => .inl hb)
/-- A field that points at a block of one's own. -/
theorem d_load_raw {x : Operand} {b o0 : Nat} {R : Rep α} {z : Value} {hz : one1 z = true} {y : α} {t n : Nat} {pre : α → Prop} {get : α → Value} {set : α → Value → α} (i : Nat) (u : Value) (hx : ev E x = some (.pointer (some ⟨b, o0, none⟩))) (hm : M[i]? = some (Own.box b R y))
    (hS : Fld R o0 (rVal z hz) pre get set) (hp : pre y) (hT : TyOk C.P t (rVal z hz) n) (hi : nin i XI = true) (hu : get y = u) (h : K ((d, u) :: E) F M) : DOp C XI E F M (.load t x) d K :=
  DOp.of_fact (fun K' hK => d_load_box (K := K') i hx hm hS hp hT hi hK) (fun v => v = u) (fun _ _ _ hv => (val_val hv).trans hu) (fun v hv => by subst hv; exact h)
/-- A buffer is put into such a field. -/
theorem g_store_raw {p x : Operand} {b o0 j k' : Nat} {R : Rep α} {R' : Rep β} {l : List β} {z : Value} {hz : one1 z = true} {y : α} {v : Value} {t n ty : TypeId} {pos : String} {after : Array Edge} {gd : Option (Nat × Bool)} {pre : α → Prop} {get : α → Value} {set : α → Value → α} (i : Nat) (hj : M[j]? = some (Own.buf v k' R' l))
    (hp : ev E p = some (.pointer (some ⟨b, o0, none⟩))) (hx : ev E x = some v) (hm : M[i]? = some (Own.box b R y)) (hS : Fld R o0 (rVal z hz) pre get set) (hpre : pre y) (hT : TyOk C.P t (rVal z hz) n) (hX : i ∈ XI) (y' : α) (hy : set y v = y')
    (k : K E F (M.set i (Own.box b R y'))) : GOp C XI E F M { dst := none, op := .store t p x, type := ty, pos, after, guard := gd } K := by
  subst hy
  exact fun a w hs J Q hJ => (g_store_box i hp hx hm hS hpre (hv_val (buf_one1 (hs.own _ (List.mem_of_getElem? hj)))) hT hX k) a w hs J Q hJ
/-- A map or a pointer is put into such a field. -/
theorem g_store_raw1 {p x : Operand} {b o0 : Nat} {R : Rep α} {z : Value} {hz : one1 z = true} {y : α} {v : Value} {t n ty : TypeId} {pos : String} {after : Array Edge} {gd : Option (Nat × Bool)} {pre : α → Prop} {get : α → Value} {set : α → Value → α} (i : Nat) (hv : one1 v = true)
    (hp : ev E p = some (.pointer (some ⟨b, o0, none⟩))) (hx : ev E x = some v) (hm : M[i]? = some (Own.box b R y)) (hS : Fld R o0 (rVal z hz) pre get set) (hpre : pre y) (hT : TyOk C.P t (rVal z hz) n) (hX : i ∈ XI) (y' : α) (hy : set y v = y')
    (k : K E F (M.set i (Own.box b R y'))) : GOp C XI E F M { dst := none, op := .store t p x, type := ty, pos, after, guard := gd } K := by
  subst hy
  exact g_store_box i hp hx hm hS hpre (hv_val hv) hT hX k
/-- A value is put into a plain field of such a box. -/
theorem g_store_boxy {p x : Operand} {b o0 : Nat} {R : Rep α} {S : Rep β} {y : α} {v : Value} {z : β} {t n ty : TypeId} {pos : String} {after : Array Edge} {gd : Option (Nat × Bool)} {pre : α → Prop} {get : α → β} {set : α → β → α} (i : Nat)
    (hp : ev E p = some (.pointer (some ⟨b, o0, none⟩))) (hx : ev E x = some v) (hm : M[i]? = some (Own.box b R y)) (hS : Fld R o0 S pre get set) (hpre : pre y) (hv : HasV C F S v z) (hT : TyOk C.P t S n) (hX : i ∈ XI) (y' : α) (hy : set y z = y')
    (k : K E F (M.set i (Own.box b R y'))) : GOp C XI E F M { dst := none, op := .store t p x, type := ty, pos, after, guard := gd } K := by
  subst hy
  exact g_store_box i hp hx hm hS hpre hv hT hX k

/-- A callee whose answer is a buffer of its own, of which something is known. -/
theorem g_call_ownE {f : FuncId} {xs : List Operand} {ats : Array TypeId} {vs : List Value} {pre : World → List Nat → Prop} {R : Rep α} {n : Nat} {Z : List α → Prop} {ty : TypeId} {pos : String} {after : Array Edge} {gd : Option (Nat × Bool)} (hn : Nat.blt d C.n = true) (hfn : HasFn C.P f) (hc : FnX C.dr C.P f vs pre (fun w w' m v => ∃ l, Z l ∧ OwnRes R n w w' m v l)) (he : Evs E xs vs)
    (hpre : ∀ a w, OKst C E F M a w → pre w (C.m0 ++ Blocks M)) (k : ∀ v l, Z l → K ((d, v) :: E) F (M ++ [Own.buf v n R l])) :
    GOp C XI E F M { dst := some d, op := .call { callee := .value (.func f), args := xs.toArray, argTypes := ats }, type := ty, pos, after, guard := gd } K := by
  intro a w hs J Q hJ
  obtain ⟨fn, h1, h2, bd, h3⟩ := hfn
  have hr : (execOp a.eval { dst := some d, op := .call { callee := .value (.func f), args := xs.toArray, argTypes := ats }, type := ty, pos, after, guard := gd }).run C.P w = .ok (.enter f vs.toArray) w := by
    rw [execOp_call_go]
    have : #[] ++ xs.toArray.map a.eval ++ #[] = vs.toArray := by simp [← he.map hs]
    rw [this]
    simp [callFunc, h1, h2, h3]
  unfold Oper.wp
  rw [hr]
  simp only [Oper.upon]
  refine (hc w (C.m0 ++ Blocks M) (fun b hb => ?_) (hpre a w hs)).mono ?_
  · rcases List.mem_append.1 hb with hb | hb
    · exact Nat.lt_of_lt_of_le (hs.m0 b hb) hs.below.size
    · exact (hs.range b hb).2
  · rintro e w' ⟨v, rfl, hb, l, hZ, r1, r2⟩
    have g := Step.below hb
    have hst := push_g (C := C) (E := E) (F := F) (M := M) (o := { dst := some d, op := .call { callee := .value (.func f), args := xs.toArray, argTypes := ats }, type := ty, pos, after, guard := gd }) (v := v) (own := Own.buf v n R l) (E' := (d, v) :: E) (fun a' => put_env hn _ a') hs g r1 (fun m' hg _ hm => r2 m' hm)
    · refine hJ _ _ _ _ _ (k v l hZ) hst (g.same (by intro b hb; cases hb)) (fun b hb => ?_)
      rcases xs_push hb with h | h
      · exact .inl h
      · exact .inr (r1 b h).1
/-! ### m[k]++ -/
theorem modify_twice (f g : MapEntry → MapEntry) : ∀ (es : List MapEntry) (j : Nat), (es.modify j f).modify j g = es.modify j (fun e => g (f e))
  | [], j => by simp
  | e :: es, 0 => by simp
  | e :: es, j + 1 => by simp [modify_twice f g es j]
theorem modify_at {f g : MapEntry → MapEntry} : ∀ {es : List MapEntry} {j : Nat} {e : MapEntry}, es[j]? = some e → f e = g e → es.modify j f = es.modify j g
  | [], j, e, h, _ => by simp at h
  | x :: es, 0, e, h, h2 => by simp at h; subst h; simp [h2]
  | x :: es, j + 1, e, h, h2 => by simp at h; simp [modify_at h h2]
theorem modify_end (f : MapEntry → MapEntry) (e : MapEntry) : ∀ (es : List MapEntry), (es ++ [e]).modify es.length f = es ++ [f e]
  | [] => by simp
  | x :: es => by simp [modify_end f e es]
/-- A map in which the entry of a key has just been sought: its place's birth is s. -/
def MentAt [DecidableEq α] (b : Nat) (RK : Rep α) (RV : Rep β) (l : List (α × β)) (k : α) (s : Nat) (w : World) (m : List Nat) : Prop :=
  ∃ (es : Array MapEntry) (c j : Nat) (e : MapEntry), w.heap[b]? = some (.map es c) ∧ MapRows RK RV w m es.toList (mset l k ((mget l k).getD RV.zeroD)) ∧ Born es.toList c ∧ es.toList[j]? = some e ∧ e.born = s ∧
    ∀ (w' : World) (m' : List Nat) (val : Value) (y : β), Grows w m w' m' → RV.val w' m' val y → MapRows RK RV w' m' (es.toList.modify j (fun e => { e with val })) (mset l k y)
def Own.ment [DecidableEq α] (b : Nat) (RK : Rep α) (RV : Rep β) (l : List (α × β)) (k : α) (s : Nat) : Own where
  blk := some b
  holds := fun w m => MentAt b RK RV l k s w m
  keep := by
    rintro w m w' m' g hb ⟨es, c, j, e, h1, h2, h3, h4, h5, h6⟩
    exact ⟨es, c, j, e, by rw [hb b rfl]; exact h1, h2.mono g, h3, h4, h5, fun w2 m2 val y g2 hv => h6 w2 m2 val y (g.trans g2) hv⟩
section
variable [DecidableEq α] {RK : Rep α} {RV : Rep β}
theorem mget_mset_self : ∀ (l : List (α × β)) (k : α) (y : β), mget (mset l k y) k = some y
  | [], k, y => by simp [mset, mget]
  | p :: l, k, y => by
    unfold mset
    split
    · next h => simp [mget, h]
    · next h => simp [mget, h, mget_mset_self l k y]
/-- The entry is sought. -/
theorem g_mapEntry {x y : Operand} {b : Nat} {l : List (α × β)} {kv : Value} {k : α} {tm t e ty nb : TypeId} {pos : String} {after : Array Edge} {gd : Option (Nat × Bool)} (i : Nat) (hn : Nat.blt d C.n = true) (hx : ev E x = some (.map (some b))) (hm : M[i]? = some (Own.map b RK RV l)) (hy : ev E y = some kv) (hk : HasV C F RK kv k)
    (hu : C.P.underlying tm = some (.map t e)) (hK : KeyAt C.P t RK) (hV : TyOk C.P e RV nb) (hX : i ∈ XI) (h : ∀ v s, K ((d, .tuple #[v, .int .i64 (s : Nat)]) :: E) F (M.set i (Own.ment b RK RV l k s))) : GOp C XI E F M { dst := some d, op := .mapEntry tm x y, type := ty, pos, after, guard := gd } K := by
  intro a w hs J Q hJ
  obtain ⟨es, c, h5, h6, h7⟩ := hs.own _ (List.mem_of_getElem? hm)
  have hkv := hk E M a w hs
  obtain ⟨cs, k1, hcs⟩ := id hkv
  have hf := run_find hK k1 h6 w
  have hc := hK.chk false w _ cs k k1 w
  rw [← hcs] at hf hc
  have hg := run_getObj_map (P := C.P) (w := w) b es c h5
  have hz := hV.run_zero w
  obtain ⟨v, s, es', c', hrun, hown⟩ : ∃ (v : Value) (s : Nat) (es' : Array MapEntry) (c' : Nat), (Instr.mapEntry tm (.map (some b)) kv).run C.P w = .ok (.tuple #[v, .int .i64 (s : Nat)]) { w with heap := w.heap.setIfInBounds b (.map es' c') } ∧
      ∀ m' w', Grows w (C.m0 ++ Blocks M) w' m' → w'.heap[b]? = some (.map es' c') → (Own.ment b RK RV l k s).holds w' m' := by
    rcases fidx_spec (x := k) es.toList l 0 h6 with ⟨g1, g2, g3⟩ | ⟨j, e', y0, g1, g2, g3, g4, g5, g6⟩
    · refine ⟨RV.mk' RV.zero, c, es.push { key := kv, val := RV.mk' RV.zero, born := c }, c + 1, ?_, fun m' w' gr hh => ?_⟩
      · rw [g1] at hf
        have hst := MapKept.run_setObj_map (P := C.P) (w := w) (.map (es.push { key := kv, val := RV.mk' RV.zero, born := c }) (c + 1)) h5
        simp [Instr.mapEntry, run_underlying hu, hg, hc, hf, hst, hz, Result.andThen, goInt]
      · have row : ∀ w2 m2 val y, Grows w' m' w2 m2 → RV.val w2 m2 val y → MapRows RK RV w2 m2 (es.toList ++ [{ key := kv, val, born := c }]) (mset l k y) := fun w2 m2 val y g2 hv => by
          rw [g3]
          exact MapRows.append (RK.val_mono (gr.trans g2) hkv) hv (h6.mono (gr.trans g2))
        refine ⟨_, _, es.toList.length, { key := kv, val := RV.mk' RV.zero, born := c }, hh, ?_, ?_, ?_, rfl, ?_⟩
        · rw [Array.toList_push, g2]
          exact row w' m' _ _ (Grows.refl _ _) ⟨_, RV.zok _ _, rfl⟩
        · rw [Array.toList_push]; exact h7.push kv _
        · rw [Array.toList_push]; simp
        · intro w2 m2 val y g2 hv
          rw [Array.toList_push, modify_end]
          exact row w2 m2 val y g2 hv
    · have hj : es[j]? = some e' := by rw [← Array.getElem?_toList]; exact g2
      refine ⟨e'.val, e'.born, es.modify j fun e => { e with key := kv }, c, ?_, fun m' w' gr hh => ?_⟩
      · rw [g1] at hf
        have hst := MapKept.run_setObj_map (P := C.P) (w := w) (.map (es.modify j fun e => { e with key := kv }) c) h5
        have hkk := keep_key hK g3 hkv w
        simp [Instr.mapEntry, run_underlying hu, hg, hc, hf, hj, hkk, hst, Result.andThen, goInt]
      · have e1 : (es.modify j fun e => { e with key := kv }).toList = es.toList.modify j (fun e => { e with key := kv, val := e'.val }) := by
          rw [Array.toList_modify]
          exact modify_at g2 rfl
        refine ⟨_, _, j, { e' with key := kv }, hh, ?_, ?_, ?_, rfl, ?_⟩
        · rw [e1, g5]
          exact g6 w' m' kv e'.val y0 (RK.val_mono gr hkv) (RV.val_mono gr g4) (h6.mono gr)
        · rw [e1]; exact h7.modify j kv _
        · rw [Array.toList_modify]; simp [g2]
        · intro w2 m2 val y g2' hv
          rw [Array.toList_modify, modify_twice]
          exact g6 w2 m2 kv val y (RK.val_mono (gr.trans g2') hkv) hv (h6.mono (gr.trans g2'))
  have hr : (execOp a.eval { dst := some d, op := .mapEntry tm x y, type := ty, pos, after, guard := gd }).run C.P w = .ok (.value (.tuple #[v, .int .i64 (s : Nat)])) { w with heap := w.heap.setIfInBounds b (.map es' c') } := by
    simp [execOp, hs.ev hx, hs.ev hy, hrun]
  unfold Oper.wp
  rw [hr]
  have g : Step C.dr w { w with heap := w.heap.setIfInBounds b (.map es' c') } (some b) := by
    refine ⟨rfl, rfl, rfl, ?_, fun b' hb' hne' => ?_, fun _ => Nat.le_refl _⟩
    · simp
    · show (w.heap.setIfInBounds b _)[b']? = _
      rw [Array.getElem?_setIfInBounds_ne (fun e => hne' (by rw [e]))]
  obtain ⟨f1, f2⟩ := hs.set (o' := Own.ment b RK RV l k s) hm g (fun b' hb' => .inl hb') (fun m' hg _ _ => hown _ _ hg (by
    show (w.heap.setIfInBounds b _)[b]? = _
    rw [Array.getElem?_setIfInBounds_self_of_lt (lt_of_get h5)]))
  obtain ⟨p1, p2, p3⟩ := put_env (C := C) hn (.tuple #[v, .int .i64 (s : Nat)]) a hs.env hs.size
  refine hJ _ _ _ _ _ (h v s) { f1 with env := p1, size := p2, defers := p3.trans hs.defers } (g.same (by intro b' hb'; cases hb'; exact xs_at hm hX rfl)) (fun b' hb' => ?_)
  rcases xs_set hb' with h | h
  · exact .inl h
  · cases h; exact .inl (xs_at hm hX rfl)
/-- The key of the entry that was sought is asked. -/
theorem d_lookup_ment {x y : Operand} {b s : Nat} {l : List (α × β)} {kv : Value} {k : α} {tm t e : TypeId} {nb : Nat} (i : Nat) (hx : ev E x = some (.map (some b))) (hm : M[i]? = some (Own.ment b RK RV l k s)) (hy : ev E y = some kv) (hk : HasV C F RK kv k) (hu : C.P.underlying tm = some (.map t e)) (hK : KeyAt C.P t RK) (hV : TyOk C.P e RV nb)
    (hi : nin i XI = true) (h : ∀ v, K ((d, v) :: E) (RV.fact v ((mget l k).getD RV.zeroD) :: F) M) : DOp C XI E F M (.lookup tm x y false) d K :=
  DOp.mem (fun _ => True) (fun u => [RV.fact u ((mget l k).getD RV.zeroD)]) (fun a w hs => by
    obtain ⟨es, c, j, e0, h5, h6, _⟩ := hs.own _ (List.mem_of_getElem? hm)
    obtain ⟨v, h9, h10⟩ := run_lookup (b := b) (c := c) hu hK hV (hk E M a w hs) h6
    rw [mget_mset_self] at h9
    refine ⟨v, trivial, ?_, fun w' hw o ho' => ?_⟩
    · intro f hf
      simp only [List.mem_singleton] at hf
      subst hf
      exact h9
    · cases o; subst ho'
      have h8 : w'.heap[b]? = some (.map es c) := by rw [hw.2 b (lt_of_get h5) (not_mem_Xs hs.nodup hm rfl hi)]; exact h5
      simp [execOp, hs.ev hx, hs.ev hy, h10 false w' h8]) (fun u _ => h u)
theorem findIdx_born {c : Nat} : ∀ {es : List MapEntry} {j : Nat} {e : MapEntry}, Born es c → es[j]? = some e → es.findIdx? (fun x => (x.born : Int) == (e.born : Int)) = some j
  | [], j, e, _, h => by simp at h
  | x :: es, 0, e, hb, h => by simp at h; subst h; simp [List.findIdx?_cons]
  | x :: es, j + 1, e, hb, h => by
    have h' : es[j]? = some e := by simpa using h
    have hlt : x.born < e.born := by
      have := hb.1
      rw [List.map_cons, List.pairwise_cons] at this
      exact this.1 _ (List.mem_map_of_mem (List.mem_of_getElem? h'))
    have hb' : Born es c := ⟨by have := hb.1; rw [List.map_cons, List.pairwise_cons] at this; exact this.2, fun e he => hb.2 e (List.mem_cons_of_mem _ he)⟩
    rw [List.findIdx?_cons, if_neg (by simp; omega), findIdx_born hb' h']
    rfl
theorem Born.val {es : List MapEntry} {c : Nat} (h : Born es c) (j : Nat) (val : Value) : Born (es.modify j (fun e => { e with val })) c := by
  cases hj : es[j]? with
  | none =>
    have : es.modify j (fun e => { e with val }) = es := by
      have hle : es.length ≤ j := List.getElem?_eq_none_iff.1 hj
      exact List.ext_getElem? fun i => by
        rw [List.getElem?_modify]
        split
        · next e => subst e; rw [hj]; rfl
        · simp
    rw [this]; exact h
  | some e =>
    rw [modify_at (g := fun x => { x with key := e.key, val }) hj rfl]
    exact h.modify j e.key val
/-- The entry is written. -/
theorem g_entryStore {x y z : Operand} {b s : Nat} {l : List (α × β)} {v : Value} {k : α} {u : β} {tm ty : TypeId} {pos : String} {after : Array Edge} {gd : Option (Nat × Bool)} (i : Nat) (hx : ev E x = some (.map (some b))) (hm : M[i]? = some (Own.ment b RK RV l k s)) (hy : ev E y = some (.int .i64 (s : Nat))) (hz : ev E z = some v) (hv : HasV C F RV v u)
    (hX : i ∈ XI) (h : K E F (M.set i (Own.map b RK RV (mset l k u)))) : GOp C XI E F M { dst := none, op := .entryStore tm x y z, type := ty, pos, after, guard := gd } K := by
  intro a w hs J Q hJ
  obtain ⟨es, c, j, e, h5, h6, h7, h8, h9, h10⟩ := hs.own _ (List.mem_of_getElem? hm)
  have hvv := hv E M a w hs
  have hg := run_getObj_map (P := C.P) (w := w) b es c h5
  have hfi : es.findIdx? (fun x => (x.born : Int) == (s : Int)) = some j := by
    rw [← h9]
    have := findIdx_born h7 h8
    obtain ⟨es⟩ := es
    simpa using this
  have hst := MapKept.run_setObj_map (P := C.P) (w := w) (.map (es.modify j fun e => { e with val := v }) c) h5
  have hr : (execOp a.eval { dst := none, op := .entryStore tm x y z, type := ty, pos, after, guard := gd }).run C.P w = .ok .skip { w with heap := w.heap.setIfInBounds b (.map (es.modify j fun e => { e with val := v }) c) } := by
    simp [execOp, hs.ev hx, hs.ev hy, hs.ev hz, Instr.entryStore, hg, hst, hfi, asInt, asIntOf, Result.andThen]
  unfold Oper.wp
  rw [hr]
  have g : Step C.dr w { w with heap := w.heap.setIfInBounds b (.map (es.modify j fun e => { e with val := v }) c) } (some b) := by
    refine ⟨rfl, rfl, rfl, ?_, fun b' hb' hne' => ?_, fun _ => Nat.le_refl _⟩
    · simp
    · show (w.heap.setIfInBounds b _)[b']? = _
      rw [Array.getElem?_setIfInBounds_ne (fun e => hne' (by rw [e]))]
  refine hJ _ _ _ _ _ h (set_g (o := { dst := none, op := .entryStore tm x y z, type := ty, pos, after, guard := gd }) hm rfl hs g (fun b' hb' => .inl hb') (fun m' hg _ _ => ?_)) (g.same (by intro b' hb'; cases hb'; exact xs_at hm hX rfl)) (fun b' hb' => ?_)
  · refine ⟨es.modify j fun e => { e with val := v }, c, ?_, ?_, ?_⟩
    · show (w.heap.setIfInBounds b _)[b]? = _
      rw [Array.getElem?_setIfInBounds_self_of_lt (lt_of_get h5)]
    · rw [Array.toList_modify]
      exact h10 _ _ v u hg (RV.val_mono hg hvv)
    · rw [Array.toList_modify]
      exact h7.val j v
  · rcases xs_set hb' with h | h
    · exact .inl h
    · cases h; exact .inl (xs_at hm hX rfl)
end
end
end Go.Cf
