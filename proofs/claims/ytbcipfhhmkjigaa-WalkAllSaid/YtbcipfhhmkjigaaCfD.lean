/- slices.SortFunc over a slice of the call's own. -/
import Derived.Test.YtbcipfhhmkjigaaCfC
import Derived.Shelf.GgSortFunc.RowK
import Derived.Shelf.GgSortFunc.InsertionK
set_option linter.unusedVariables false
set_option linter.unusedSimpArgs false
namespace Go.Cf
open Go Go.RowKit Go.Sort Go.Proofs
variable {α β γ δ : Type}

theorem Rows.pairs {R : Rep β} {w : World} {m : List Nat} : ∀ {l : List β} {cs : List Value}, Rows R w m cs l → ∃ L : List (List Value × β), L.map (·.2) = l ∧ (L.map (·.1)).flatten = cs ∧ ∀ p ∈ L, R.ok w m p.1 p.2
  | [], cs, h => by have h : cs = [] := h; exact ⟨[], rfl, by simp [h], by intro p hp; cases hp⟩
  | x :: l, cs, ⟨a, b, h1, h2, h3⟩ => by
    obtain ⟨L, e1, e2, e3⟩ := Rows.pairs h3
    refine ⟨(a, x) :: L, by simp [e1], by simp [e2, h1], fun p hp => ?_⟩
    rcases List.mem_cons.1 hp with rfl | hp
    · exact h2
    · exact e3 p hp
theorem Rows.of_pairs {R : Rep β} {w : World} {m : List Nat} : ∀ (L : List (List Value × β)), (∀ p ∈ L, R.ok w m p.1 p.2) → Rows R w m (L.map (·.1)).flatten (L.map (·.2))
  | [], _ => rfl
  | p :: L, h => ⟨p.1, _, by simp, h p (by simp), Rows.of_pairs L (fun q hq => h q (by simp [hq]))⟩
theorem flatten_get (k : Nat) : ∀ (L : List (List Value)), (∀ x ∈ L, x.length = k) → ∀ t, t < L.length * k → L.flatten[t]! = (L[t / k]!)[t % k]!
  | [], _, t, ht => by simp at ht
  | x :: L, h, t, ht => by
    have hx := h x (by simp)
    have hk : 0 < k := by
      rcases Nat.eq_zero_or_pos k with e | e
      · subst e; simp at ht
      · exact e
    rw [List.flatten_cons]
    by_cases hlt : t < k
    · rw [Nat.div_eq_of_lt hlt, Nat.mod_eq_of_lt hlt]
      rw [getElem!_pos _ t (by simp; omega), List.getElem_append_left (by omega)]
      simp [getElem!_pos x t (by omega)]
    · have ih := flatten_get k L (fun y hy => h y (by simp [hy])) (t - k) (by simp [Nat.add_mul] at ht; omega)
      have e1 : t / k = (t - k) / k + 1 := by
        rw [Nat.div_eq_sub_div hk (by omega)]
      have e2 : t % k = (t - k) % k := Nat.mod_eq_sub_mod (by omega)
      have e3 : (x ++ L.flatten)[t]! = L.flatten[t - k]! := by
        rw [List.getElem!_eq_getElem?_getD, List.getElem!_eq_getElem?_getD, List.getElem?_append_right (by omega), hx]
      rw [e3, ih, e1, e2]
      simp
theorem flatK_list [Inhabited α] (enc : α → List Value) (k : Nat) (hk : ∀ x, (enc x).length = k) (d : Array α) : (flatK enc k d).toList = (d.toList.map enc).flatten := by
  have hlen : ((d.toList.map enc).flatten).length = d.size * k := by
    rw [List.length_flatten, List.map_map]
    have : (d.toList.map (List.length ∘ enc)) = List.replicate d.size k := by
      apply List.ext_getElem
      · simp
      · intro i h1 h2; simp [hk]
    rw [this]; simp
  apply List.ext_getElem
  · rw [Array.length_toList, size_flatK, hlen]
  · intro t h1 h2
    have ht : t < d.size * k := by simpa using h1
    have e1 := get_flatK enc k d t ht
    have e2 := flatten_get k (d.toList.map enc) (fun x hx => by obtain ⟨a, _, rfl⟩ := List.mem_map.1 hx; exact hk a) t (by simpa using ht)
    have hk0 : 0 < k := by
      rcases Nat.eq_zero_or_pos k with e | e
      · subst e; simp at ht
      · exact e
    have hdiv : t / k < d.size := (Nat.div_lt_iff_lt_mul hk0).2 ht
    rw [getElem!_pos _ t (by simpa using ht)] at e1
    rw [getElem!_pos _ t h2] at e2
    rw [Array.getElem_toList, e1, e2]
    congr 1
    rw [getElem!_pos d _ hdiv, getElem!_pos _ _ (by simpa using hdiv)]
    simp
/-- A world behind a call, written out. -/
theorem After.eq {w w' : World} (h : After true w w') : ∃ q os', w' = grow (w.drewN q) os' := by
  refine ⟨w'.drawn - w.drawn, w'.heap.extract w.heap.size w'.heap.size, ?_⟩
  obtain ⟨⟨h1, h2, h3, h4, h5⟩, h6'⟩ := h
  have h6 := h6' rfl
  have e : w'.heap = w.heap ++ w'.heap.extract w.heap.size w'.heap.size := by
    apply Array.ext_getElem?
    intro i
    rw [Array.getElem?_append]
    split
    · next hlt => exact h5 i hlt
    · next hge =>
      rw [Array.getElem?_extract]
      by_cases hi : i < w'.heap.size
      · rw [if_pos (by omega)]
        congr 1
        omega
      · rw [if_neg (by omega), Array.getElem?_eq_none (by omega)]
  have e2 : w.drawn + (w'.drawn - w.drawn) = w'.drawn := by omega
  unfold grow World.drewN
  cases w'
  simp only at *
  rw [e2]
  subst h1; subst h2; subst h3
  congr 1
/-- What is asked of a sort over aggregates of k cells (the shelf's contract in its own words). -/
def SortsK (P : Program) (f g : FuncId) (k : Nat) : Prop :=
  ∀ (α : Type) [Inhabited α] (enc : α → List Value) (_ : ∀ x, (enc x).length = k) (_ : ∀ x, ∀ v ∈ enc x, v.oneCell' = true) (cf : α → α → Int) (_ : SWO (fun x y => decide (cf x y < 0))) (blk off cap : Nat) (d : Array α) (w : World)
    (_ : ∀ (m : Nat) (os : Array Obj) (dk : Array α), dk.size = d.size → ∀ x y : α, Calls P g (#[.agg (enc x).toArray, .agg (enc y).toArray] ++ #[]) (sortWorldK enc k w blk off m dk os) fun e w' => e = .returned (.int .i64 (cf x y)) ∧ ∃ q os', w' = grow ((sortWorldK enc k w blk off m dk os).drewN q) os')
    (_ : HoldsK enc k w blk off d) (_ : blk < w.heap.size) (_ : d.size < 4611686018427387904),
    Calls P f #[.slice (some ⟨blk, off, none⟩) d.size cap, .func (.func g) #[] #[]] w fun e w' =>
      e = .returned (.tuple #[]) ∧ ∃ d' n os, PermIn 0 d.size d d' ∧ SortedIn (fun x y => decide (cf x y < 0)) 0 d.size d' ∧ w' = sortWorldK enc k w blk off n d' os
def SortsNone (P : Program) (f : FuncId) : Prop := ∀ (p : Option Addr) (cap : Nat) (fv : Value) (w : World), Calls P f #[.slice p 0 cap, fv] w fun e w' => e = .returned (.tuple #[]) ∧ w' = w
/-- Rising, by c. -/
def Rising (c : β → β → Int) (l : List β) : Prop := l.Pairwise fun x y => ¬ c y x < 0

theorem sort_get {α : Type} [Inhabited α] {enc : α → List Value} {k : Nat} {w : World} {blk n : Nat} {d' : Array α} {os : Array Obj} {c : Array Value} {T : TypeId} {fr : Nat × Nat} (h : w.heap[blk]? = some (.cells c T fr)) {F rest : List Value} (hF : (flatK enc k d').toList = F) (hc : ∃ F0, c.toList = F0 ++ rest ∧ F0.length = F.length) :
    (sortWorldK enc k w blk 0 n d' os).heap[blk]? = some (.cells (F ++ rest).toArray T fr) := by
  obtain ⟨F0, e1, e2⟩ := hc
  have hlt := lt_of_get h
  unfold sortWorldK putRowK putRow mapBlock grow Go.Sort.ahead
  simp only
  rw [Array.getElem?_append_left (by simpa using hlt), Array.getElem?_modify, if_pos rfl, h]
  simp only [Option.map_some, onCells]
  congr 2
  apply Array.toList_inj.1
  subst hF
  have hcs : c.size = F0.length + rest.length := by rw [← Array.length_toList, e1]; simp
  have hfs : (flatK enc k d').size = F0.length := by rw [← Array.length_toList, e2]
  apply List.ext_getElem
  · simp [putCells, hcs, hfs]
  · intro i h1 h2
    simp only [putCells, Array.toList_mapIdx, List.getElem_mapIdx, Array.getElem_toList]
    have hi : i < c.size := by simpa [putCells] using h1
    by_cases hl : i < F0.length
    · rw [if_pos (by omega)]
      simp only [Nat.sub_zero, id_eq]
      rw [getElem!_pos _ i (by omega)]
      rw [List.getElem_append_left (by rw [Array.length_toList]; omega)]
      simp
    · rw [if_neg (by omega)]
      rw [List.getElem_append_right (by rw [Array.length_toList]; omega)]
      have : c[i]? = some c[i] := by simp [hi]
      have h3 : c.toList[i]? = some c[i] := by rw [Array.getElem?_toList]; exact this
      rw [e1, List.getElem?_append_right (by omega)] at h3
      have h4 := (List.getElem?_eq_some_iff.1 h3).2
      rw [← h4]
      apply Option.some.inj
      rw [← List.getElem?_eq_getElem, ← List.getElem?_eq_getElem, e2]
theorem sort_other {α : Type} [Inhabited α] {enc : α → List Value} {k : Nat} {w : World} {blk n : Nat} {d' : Array α} {os : Array Obj} {b : Nat} (hb : b < w.heap.size) (hne : b ≠ blk) : (sortWorldK enc k w blk 0 n d' os).heap[b]? = w.heap[b]? := by
  unfold sortWorldK putRowK putRow mapBlock grow Go.Sort.ahead
  simp only
  rw [Array.getElem?_append_left (by simpa using hb), Array.getElem?_modify, if_neg (Ne.symm hne)]
theorem sort_size {α : Type} [Inhabited α] {enc : α → List Value} {k : Nat} {w : World} {blk n : Nat} {d' : Array α} {os : Array Obj} : w.heap.size ≤ (sortWorldK enc k w blk 0 n d' os).heap.size := by
  unfold sortWorldK putRowK putRow mapBlock grow Go.Sort.ahead
  simp
theorem sort_step {dr : Bool} {α : Type} [Inhabited α] (enc : α → List Value) (k : Nat) (w : World) (blk n : Nat) (d' : Array α) (os : Array Obj) : Step dr w (sortWorldK enc k w blk 0 n d' os) (some blk) :=
  ⟨rfl, rfl, rfl, sort_size, fun b hb hne => sort_other hb (fun e => hne (by rw [e])), fun _ => Nat.le_add_right _ _⟩
section
variable {C : Cx} {XI : List Nat} {E : List (Nat × Value)} {F : List Fact} {M : List Own} {d : Nat} {K : Cont}
/-- 'slices.SortFunc(l, cmp)' over a slice of the call's own. -/
theorem g_sort2 {R : Rep β} {f g : FuncId} {c : β → β → Int} {x y : Operand} {v : Value} {nb : Nat} {l : List β} {ats : Array TypeId} {ty : TypeId} {pos : String} {after : Array Edge} {gd : Option (Nat × Bool)} (i : Nat) (hn : Nat.blt d C.n = true) (hfn : HasFn C.P f) (hS : SortsK C.P f g R.size) (hN : SortsNone C.P f) (hag : R.agg = true)
    (hO : SWO (fun x y => decide (c x y < 0))) (hc : ∀ (x y : β) (u1 u2 : Value), FnX true C.P g [u1, u2] (fun w m => R.val w m u1 x ∧ R.val w m u2 y) (fun _ w' m v => (rInt .i64).val w' m v (c x y)))
    (hx : ev E x = some v) (hy : ev E y = some (.func (.func g) #[] #[])) (hm : M[i]? = some (Own.buf v nb R l)) (hX : i ∈ XI) (k : ∀ l', l'.Perm l → Rising c l' → K ((d, .tuple #[]) :: E) F (M.set i (Own.buf v nb R l'))) :
    GOp C XI E F M { dst := some d, op := .call { callee := .value (.func f), args := [x, y].toArray, argTypes := ats }, type := ty, pos, after, guard := gd } K := by
  intro a w hs J Q hJ
  obtain ⟨fn, f1, f2, bd, f3⟩ := hfn
  have hr : (execOp a.eval { dst := some d, op := .call { callee := .value (.func f), args := [x, y].toArray, argTypes := ats }, type := ty, pos, after, guard := gd }).run C.P w = .ok (.enter f #[v, .func (.func g) #[] #[]]) w := by
    rw [execOp_call_go]
    have : #[] ++ [x, y].toArray.map a.eval ++ #[] = #[v, .func (.func g) #[] #[]] := by simp [hs.ev hx, hs.ev hy]
    rw [this]
    simp [callFunc, f1, f2, f3]
  unfold Oper.wp
  rw [hr]
  simp only [Oper.upon]
  obtain ⟨g0, g0', h4⟩ := hs.own _ (List.mem_of_getElem? hm)
  obtain ⟨p1, p2, p3⟩ := put_env (C := C) hn (.tuple #[]) a hs.env hs.size
  rcases h4 with ⟨base, rfl, rfl⟩ | ⟨b, cap, cs, rest, T, rfl, h1, h2, h3, h4, h5⟩
  · refine (hN base 0 _ w).mono ?_
    rintro e w' ⟨rfl, rfl⟩
    have e0 : M.set i (Own.buf (.slice base 0 0) nb R ([] : List β)) = M := by
      apply List.ext_getElem?
      intro j
      rw [List.getElem?_set]
      split
      · next e => subst e; rw [hm, if_pos (List.getElem?_eq_some_iff.1 hm).1]
      · rfl
    have hk := k [] (List.Perm.refl _) List.Pairwise.nil
    rw [e0] at hk
    exact hJ _ _ _ _ _ hk { hs with env := p1, size := p2, defers := p3.trans hs.defers } (SameX.refl _ _) (fun b' hb' => .inl hb')
  · by_cases hl0 : l = []
    · subst hl0
      refine (hN _ _ _ w).mono ?_
      rintro e w' ⟨rfl, rfl⟩
      have e0 : M.set i (Own.buf (.slice (some ⟨b, 0, none⟩) ([] : List β).length (cap + 1)) nb R ([] : List β)) = M := by
        apply List.ext_getElem?
        intro j
        rw [List.getElem?_set]
        split
        · next e => subst e; rw [hm, if_pos (List.getElem?_eq_some_iff.1 hm).1]
        · rfl
      have hk := k [] (List.Perm.refl _) List.Pairwise.nil
      rw [e0] at hk
      exact hJ _ _ _ _ _ hk { hs with env := p1, size := p2, defers := p3.trans hs.defers } (SameX.refl _ _) (fun b' hb' => .inl hb')
    · obtain ⟨L, e1, e2, e3⟩ := Rows.pairs h5
      have hL0 : L ≠ [] := fun e => hl0 (by rw [← e1, e]; rfl)
      obtain ⟨p0, hp0⟩ := List.exists_mem_of_ne_nil _ hL0
      let α := { p // p ∈ L }
      haveI : Inhabited α := ⟨⟨p0, hp0⟩⟩
      let enc : α → List Value := fun p => p.1.1
      let cf : α → α → Int := fun x y => c x.1.2 y.1.2
      let dd : Array α := L.attach.toArray
      have hdl : dd.toList.map (fun p : α => p.1) = L := by
        show L.attach.toArray.toList.map Subtype.val = L
        rw [List.toList_toArray]
        exact List.attach_map_subtype_val L
      have hds : dd.size = l.length := by
        show L.attach.toArray.size = l.length
        rw [List.size_toArray, List.length_attach, ← e1, List.length_map]
      have hk : ∀ x : α, (enc x).length = R.size := fun x => R.len (e3 x.1 x.2)
      have hflat : (flatK enc R.size dd).toList = cs := by
        rw [flatK_list enc R.size hk, ← e2]
        congr 1
        rw [← hdl]
        simp [enc]
      have hbm : b ∈ C.m0 ++ Blocks M := List.mem_append_right _ (blocks_mem.2 ⟨i, _, hm, rfl⟩)
      have hcsl : cs.length = l.length * R.size := Rows.len R h5
      have hholds : HoldsK enc R.size w b 0 dd := by
        intro j hj
        rw [size_flatK] at hj
        have hj' : j < cs.length := by rw [hcsl, ← hds]; exact hj
        have hc := cells_at h3 (x := []) (y := cs) (z := rest) (by simp) j hj'
        have e4 : (flatK enc R.size dd)[j]! = cs[j] := by
          rw [getElem!_pos _ j (by simpa using hj)]
          have : (flatK enc R.size dd).toList[j]? = cs[j]? := by rw [hflat]
          rw [Array.getElem?_toList, Array.getElem?_eq_getElem (by simpa using hj), List.getElem?_eq_getElem hj'] at this
          exact Option.some.inj this
        refine ⟨?_, ?_⟩
        · rw [e4]
          simpa [addr_add] using hc
        · simp [World.frozen?, h3]
      have hcmp : ∀ (m : Nat) (os : Array Obj) (dk : Array α), dk.size = dd.size → ∀ x y : α, Calls C.P g (#[.agg (enc x).toArray, .agg (enc y).toArray] ++ #[]) (sortWorldK enc R.size w b 0 m dk os) fun e w' => e = .returned (.int .i64 (cf x y)) ∧ ∃ q os', w' = grow ((sortWorldK enc R.size w b 0 m dk os).drewN q) os' := by
        intro m os dk _ x y
        have hst := sort_step (dr := C.dr) enc R.size w b m dk os
        have hgr : Grows w (C.m0 ++ Blocks M) (sortWorldK enc R.size w b 0 m dk os) (C.m0 ++ Blocks M) := ⟨hst.size, fun b' hb' hnm => hst.keep b' hb' (fun e => hnm (by cases e; exact hbm)), fun _ _ h => h⟩
        have hv : ∀ z : α, R.val (sortWorldK enc R.size w b 0 m dk os) (C.m0 ++ Blocks M) (.agg (enc z).toArray) z.1.2 := fun z => ⟨enc z, R.mono hgr (e3 z.1 z.2), (mk_agg hag).symm⟩
        refine (hc x.1.2 y.1.2 _ _ _ (C.m0 ++ Blocks M) (fun b' hb' => ?_) ⟨hv x, hv y⟩).mono ?_
        · refine Nat.lt_of_lt_of_le ?_ hst.size
          rcases List.mem_append.1 hb' with hb' | hb'
          · exact Nat.lt_of_lt_of_le (hs.m0 b' hb') hs.below.size
          · exact (hs.range b' hb').2
        · rintro e w' ⟨u, rfl, haft, hu⟩
          obtain ⟨rfl, _⟩ := val_int hu
          exact ⟨rfl, haft.eq⟩
      have hblt := lt_of_get h3
      have hsz : dd.size < 4611686018427387904 := by rw [hds]; unfold maxB at g0'; omega
      have hcall := hS α enc hk (fun x v hv => one1_prime (R.one (e3 x.1 x.2) v hv)) cf ⟨fun x => hO.irrefl x.1.2, fun x y z => hO.trans x.1.2 y.1.2 z.1.2, fun x y z => hO.ntrans x.1.2 y.1.2 z.1.2⟩ b 0 (cap + 1) dd w hcmp hholds hblt hsz
      rw [hds] at hcall
      refine hcall.mono ?_
      rintro e w' ⟨rfl, d', n, os, hperm, hsorted, rfl⟩
      have hst := sort_step (dr := C.dr) enc R.size w b n d' os
      have hd's : d'.size = l.length := hperm.1.trans hds
      have hpl : d'.toList.Perm dd.toList := by
        have h6 := hperm.2.2
        rw [← hds] at h6
        have ea : d'.extract 0 dd.size = d' := by rw [← hperm.1]; simp
        have eb : dd.extract 0 dd.size = dd := by simp
        rwa [ea, eb] at h6
      have hL' : (d'.toList.map (fun p : α => p.1)).Perm L := by have := hpl.map (fun p : α => p.1); rwa [hdl] at this
      have hl' : (d'.toList.map (fun p : α => p.1.2)).Perm l := by
        have := hL'.map (fun p => p.2)
        rw [e1, List.map_map] at this
        exact this
      have hris : Rising c (d'.toList.map (fun p : α => p.1.2)) := by
        unfold Rising
        rw [List.pairwise_map]
        refine List.pairwise_iff_getElem.2 fun p q hp hq hpq => ?_
        have := hsorted p q (Nat.zero_le _) hpq (by rw [← hd's]; simpa using hq)
        rw [getElem!_pos d' q (by simpa using hq), getElem!_pos d' p (by simpa using hp)] at this
        simpa [cf] using this
      have hfl : cs.length = (d'.toList.map enc).flatten.length := by
        have h9 := congrArg List.length (flatK_list enc R.size hk d')
        rw [Array.length_toList, size_flatK, hd's] at h9
        rw [hcsl]
        exact h9
      have hget : (sortWorldK enc R.size w b 0 n d' os).heap[b]? = some (.cells ((d'.toList.map enc).flatten ++ rest).toArray T (0, 0)) :=
        sort_get h3 (flatK_list enc R.size hk d') ⟨cs, by simp, hfl⟩
      have hlen' : ((d'.toList.map enc).flatten ++ rest).length = (cap + 1) * R.size := by
        rw [← h4, List.length_append, List.length_append, hfl]
      obtain ⟨q1, q2⟩ := hs.set (o' := Own.buf (.slice (some ⟨b, 0, none⟩) l.length (cap + 1)) nb R (d'.toList.map (fun p : α => p.1.2))) hm hst (fun b' hb' => .inl hb') (fun m' hg _ _ => by
        have hl2 : (d'.toList.map (fun p : α => p.1.2)).length = l.length := by simpa using hd's
        refine ⟨by rw [hl2]; exact g0, by rw [hl2]; exact g0', .inr ⟨b, cap, (d'.toList.map enc).flatten, rest, T, by rw [hl2], by rw [hl2]; exact h1, h2, hget, hlen', ?_⟩⟩
        have := Rows.of_pairs (R := R) (w := w) (m := C.m0 ++ Blocks M) (d'.toList.map (fun p : α => p.1)) (fun p hp => by obtain ⟨z, _, rfl⟩ := List.mem_map.1 hp; exact e3 z.1 z.2)
        rw [List.map_map, List.map_map] at this
        exact Rows.mono R hg this)
      refine hJ _ _ _ _ _ (k _ hl' hris) { q1 with env := p1, size := p2, defers := p3.trans hs.defers } (hst.same (by intro b' hb'; cases hb'; exact xs_at hm hX rfl)) (fun b' hb' => ?_)
      rcases xs_set hb' with h | h
      · exact .inl h
      · exact .inl (xs_at hm hX h)
/-- The same, the function named. -/
theorem g_sort {R : Rep β} {f g : FuncId} {c : β → β → Int} {x : Operand} {v : Value} {nb : Nat} {l : List β} {ats : Array TypeId} {ty : TypeId} {pos : String} {after : Array Edge} {gd : Option (Nat × Bool)} (i : Nat) (hn : Nat.blt d C.n = true) (hfn : HasFn C.P f) (hS : SortsK C.P f g R.size) (hN : SortsNone C.P f) (hag : R.agg = true)
    (hO : SWO (fun x y => decide (c x y < 0))) (hc : ∀ (x y : β) (u1 u2 : Value), FnX true C.P g [u1, u2] (fun w m => R.val w m u1 x ∧ R.val w m u2 y) (fun _ w' m v => (rInt .i64).val w' m v (c x y)))
    (hx : ev E x = some v) (hm : M[i]? = some (Own.buf v nb R l)) (hX : i ∈ XI) (k : ∀ l', l'.Perm l → Rising c l' → K ((d, .tuple #[]) :: E) F (M.set i (Own.buf v nb R l'))) :
    GOp C XI E F M { dst := some d, op := .call { callee := .value (.func f), args := [x, .func g].toArray, argTypes := ats }, type := ty, pos, after, guard := gd } K :=
  g_sort2 i hn hfn hS hN hag hO hc hx rfl hm hX k
end
end Go.Cf
