/- What comes in, as plain data: from the row's reading of memory to 'Rep'. -/
import Derived.Test.YtbcipfhhmkjigaaCfL
import Derived.OpenShut
import Derived.SizedLaws
import Derived.ChangeArms
set_option linter.unusedVariables false
set_option linter.unusedSimpArgs false
namespace Go.Cf
open Go Go.RowKit
variable {α β γ δ : Type}

/-- The row's reading of a type's cells is this kind's. -/
def OpenAt (P : Program) (t : TypeId) (R : Rep α) : Prop :=
  P.cellsOf t = R.size ∧ ∀ {H : Type} (enc : TypeId × Value → H) (w : World) (base : Nat) (spare : Nat → Bool) (held : Bool) (fuel : Nat) (cs : List Value) (d : DataW H) (ps : List MemPlace),
    DataW.trod enc P w base spare held fuel t cs = some (d, ps) → (∀ n ∈ d.weights P t, n ≤ maxB) → ∃ x, R.ok w [] cs x
theorem wf_wrap {k : IntKind} {n : Int} (h : (Lit.int k n).wf = true) : k.wrap n = n := by
  simp [Lit.wf] at h
  obtain ⟨h1, h2⟩ := h
  cases k <;> simp [IntKind.min, IntKind.max, IntKind.wrap, IntKind.signed, IntKind.bits] at * <;> omega
theorem OpenAt.int {P : Program} {t : TypeId} {k : IntKind} (h : P.underlying t = some (.int k)) (hc : P.cellsOf t = 1) : OpenAt P t (rInt k) :=
  ⟨hc, fun enc w base spare held fuel cs d ps ht _ => by
    obtain ⟨n, rfl, _, hw⟩ := DataW.trod_int h ht
    exact ⟨n, rfl, wf_wrap hw⟩⟩
theorem OpenAt.bool {P : Program} {t : TypeId} (h : P.underlying t = some .bool) (hc : P.cellsOf t = 1) : OpenAt P t rBool :=
  ⟨hc, fun enc w base spare held fuel cs d ps ht _ => by
    obtain ⟨b, rfl, _⟩ := DataW.trod_bool h ht
    exact ⟨b, rfl⟩⟩
theorem OpenAt.str {P : Program} {t : TypeId} (h : P.underlying t = some .string) (hc : P.cellsOf t = 1) : OpenAt P t rStr :=
  ⟨hc, fun enc w base spare held fuel cs d ps ht hw => by
    obtain ⟨s, rfl, e, _⟩ := DataW.trod_string h ht
    cases e
    exact ⟨strL s, s, rfl, rfl, by rw [strL_length]; simpa using hw s.data.toList.length (by simp [DataW.weights])⟩⟩
theorem weights_elem {H : Type} {P : Program} {e : TypeId} : ∀ {ds : List (DataW H)} {d : DataW H}, d ∈ ds → ∀ n ∈ d.weights P e, n ∈ DataW.weightsAll P e ds
  | x :: ds, d, h, n, hn => by
    simp only [DataW.weightsAll, List.mem_append]
    rcases List.mem_cons.1 h with rfl | h
    · exact .inl hn
    · exact .inr (weights_elem h n hn)
theorem rows_collect {R : Rep α} {w : World} {m : List Nat} (k : Nat) (hk : R.size = k) : ∀ (n : Nat) (cs : List Value), cs.length = n * k → (∀ i, i < n → ∃ x, R.ok w m ((cs.drop (i * k)).take k) x) → ∃ xs : List α, xs.length = n ∧ Rows R w m cs xs
  | 0, cs, hl, _ => ⟨[], rfl, List.length_eq_zero_iff.1 (by simpa using hl)⟩
  | n + 1, cs, hl, h => by
    obtain ⟨x, hx⟩ := h 0 (by omega)
    have hl' : (cs.drop k).length = n * k := by rw [List.length_drop, hl, Nat.add_mul]; omega
    obtain ⟨xs, h1, h2⟩ := rows_collect k hk n (cs.drop k) hl' (fun i hi => by
      obtain ⟨y, hy⟩ := h (i + 1) (by omega)
      refine ⟨y, ?_⟩
      rw [List.drop_drop, show k + i * k = (i + 1) * k by rw [Nat.add_mul]; omega]
      exact hy)
    refine ⟨x :: xs, by simp [h1], cs.take k, cs.drop k, (List.take_append_drop k cs).symm, by simpa using hx, h2⟩
theorem OpenAt.arr {P : Program} {t e : TypeId} {n : Nat} {R : Rep α} (h : P.underlying t = some (.array n e)) (hc : P.cellsOf t = n * R.size) (he : OpenAt P e R) : OpenAt P t (rArr n R) :=
  ⟨hc, fun enc w base spare held fuel cs d ps ht hw => by
    obtain ⟨xs, m, _, e1, hl, hxl, hx⟩ := DataW.trod_array h ht
    cases e1
    obtain ⟨ys, h1, h2⟩ := rows_collect (R := R) (w := w) (m := []) R.size rfl n cs (by rw [hl, hc]) (fun i hi => by
      have h3 := hx i hi
      have hlt : i < xs.length := by omega
      rw [List.getElem?_eq_getElem hlt, he.1] at h3
      refine he.2 enc w base spare held m _ xs[i].1 xs[i].2 h3 (fun n hn => hw n ?_)
      simp only [DataW.weights, h]
      exact weights_elem (List.mem_map.2 ⟨xs[i], List.getElem_mem hlt, rfl⟩) n hn)
    exact ⟨ys, h1, h2⟩⟩
theorem memAt_cells {w : World} {a : Addr} {cs : List Value} (hne : cs ≠ []) (h : ∀ i (hi : i < cs.length), w.cell? (a.add i) = some cs[i]) : MemAt w [] a cs := by
  have hpos := List.length_pos_iff.2 hne
  have h0 := h 0 hpos
  have e0 : a.add 0 = a := rfl
  rw [e0] at h0
  have key : ∃ c T fr, w.heap[a.block]? = some (.cells c T fr) ∧ a.spot = none := by
    unfold World.cell? at h0
    split at h0
    · next c T fr hh =>
      refine ⟨c, T, fr, hh, ?_⟩
      cases hs : a.spot with
      | none => rfl
      | some s => simp [hs] at h0
    · cases h0
  obtain ⟨c, T, fr, hh, hs⟩ := key
  have hcell : ∀ i (hi : i < cs.length), c[a.off + i]? = some cs[i] := fun i hi => by
    have := h i hi
    rw [addr_add _ _ hs] at this
    unfold World.cell? at this
    simpa [hh] using this
  refine ⟨hs, by simp, c, T, fr, hh, c.toList.take a.off, c.toList.drop (a.off + cs.length), ?_, ?_⟩
  · have hmid : cs = (c.toList.drop a.off).take cs.length := by
      apply List.ext_getElem?
      intro i
      by_cases hi : i < cs.length
      · have h7 := hcell i hi
        rw [← Array.getElem?_toList] at h7
        rw [List.getElem?_take, if_pos hi, List.getElem?_drop, h7, List.getElem?_eq_getElem hi]
      · rw [List.getElem?_take, if_neg hi, List.getElem?_eq_none (by omega)]
    conv => rhs; rw [hmid]
    simp only [List.length_take, List.length_drop]
    have hle : a.off + cs.length ≤ c.toList.length := by
      have := hcell (cs.length - 1) (by omega)
      have := lt_of_get this
      simp
      omega
    rw [Nat.min_eq_left (by omega), ← List.drop_drop, List.append_assoc, List.take_append_drop, List.take_append_drop]
  · have := hcell 0 hpos
    have := lt_of_get this
    simp
    omega
theorem OpenAt.sl {P : Program} {t e : TypeId} {n : Nat} {R : Rep α} (h : P.underlying t = some (.slice e)) (hc : P.cellsOf t = 1) (hn : P.bytesOf e = n) (hn0 : 0 < n) (hs : 0 < R.size) (he : OpenAt P e R) : OpenAt P t (rSl n R) :=
  ⟨hc, fun enc w base spare held fuel cs d ps ht hw => by
    rcases DataW.trod_slice h ht with ⟨rfl, e1⟩ | ⟨a, len, cap, elems, rest, m, _, rfl, e1, hb, hlc, hcm, hel, hx, _, _⟩
    · exact ⟨[], none, 0, rfl, by simp, by simp, by simp, by simp, .inl rfl⟩
    · cases e1
      have hk := he.1
      have hwl : (elems.length + rest.length) * n ≤ maxB := by
        have := hw ((elems.length + rest.length) * P.bytesOf e) (by simp [DataW.weights, h])
        rwa [hn] at this
      have hlen : len * n ≤ maxB := by
        refine Nat.le_trans (Nat.mul_le_mul_right _ ?_) hwl
        omega
      have hlen' : len ≤ maxB := Nat.le_trans (Nat.le_mul_of_pos_right _ hn0) hlen
      have each : ∀ i, i < len → ∃ cs, cs.length = R.size ∧ (∀ j (hj : j < cs.length), w.cell? (a.add (i * R.size + j)) = some cs[j]) ∧ ∃ x, R.ok w [] cs x := fun i hi => by
        have h3 := hx i hi
        have hlt : i < elems.length := by omega
        rw [List.getElem?_eq_getElem hlt, Option.bind_eq_some_iff] at h3
        obtain ⟨cs, h4, h5⟩ := h3
        obtain ⟨_, h6, h7⟩ := World.cells?_some h4
        rw [hk] at h6 h7
        refine ⟨cs, h6, fun j hj => ?_, he.2 enc w base spare held m cs elems[i].1 elems[i].2 h5 (fun n hn' => hw n ?_)⟩
        · have := h7 j (by omega)
          have ea : (a.add (i * R.size)).add j = a.add (i * R.size + j) := by
            unfold Addr.add
            by_cases h0 : j = 0
            · subst h0; simp
            · by_cases h1 : i * R.size = 0
              · simp [h1, h0]
              · simp [h0, h1, Nat.add_assoc]
          rw [ea] at this
          rw [this, List.getElem?_eq_getElem hj]
        · simp only [DataW.weights, h]
          exact List.mem_cons_of_mem _ (List.mem_append_left _ (weights_elem (List.mem_map.2 ⟨elems[i], List.getElem_mem hlt, rfl⟩) n hn'))
      have all : ∀ n, n ≤ len → ∃ (cells : List Value) (xs : List α), xs.length = n ∧ Rows R w [] cells xs ∧ ∀ j (hj : j < cells.length), w.cell? (a.add j) = some cells[j] := by
        intro n
        induction n with
        | zero => exact fun _ => ⟨[], [], rfl, rfl, fun j hj => by simp at hj⟩
        | succ n ih =>
          intro hle
          obtain ⟨cells, xs, h1, h2, h3⟩ := ih (by omega)
          obtain ⟨cs, g1, g2, x, g3⟩ := each n (by omega)
          have hcl := Rows.len R h2
          refine ⟨cells ++ cs, xs ++ [x], by simp [h1], Rows.append R h2 (Rows.single R g3), fun j hj => ?_⟩
          by_cases hlt : j < cells.length
          · rw [List.getElem_append_left hlt]; exact h3 j hlt
          · rw [List.getElem_append_right (by omega)]
            have := g2 (j - cells.length) (by simp at hj; omega)
            rw [← this]
            congr 2
            rw [hcl, h1]
            rw [hcl, h1] at hlt
            omega
      obtain ⟨cells, xs, h1, h2, h3⟩ := all len (Nat.le_refl _)
      refine ⟨xs, some a, cap, by rw [h1], by rw [h1]; exact hlc, by unfold maxLen at hcm; omega, by rw [h1]; exact hlen, by rw [h1]; exact hlen', ?_⟩
      by_cases h0 : xs = []
      · exact .inl h0
      · refine .inr ⟨a, rfl, cells, h2, memAt_cells ?_ h3⟩
        intro hc0
        have := Rows.len R h2
        rw [hc0] at this
        have hpos := List.length_pos_iff.2 h0
        have := Nat.mul_pos hpos hs
        simp at *
        omega⟩
/-- A struct's fields, one behind the other. -/
def OpenC (P : Program) (fs : List Field) (off : Nat) (R : Rep α) : Prop :=
  ∀ {H : Type} (enc : TypeId × Value → H) (w : World) (base : Nat) (spare : Nat → Bool) (held : Bool) (n : Nat) (cs : List Value) (xs : List (DataW H × List MemPlace)), xs.length = fs.length →
    (∀ (i : Nat) (f : Field), fs[i]? = some f → DataW.trod enc P w base spare held n f.type ((cs.drop f.offset).take (P.cellsOf f.type)) = xs[i]?) →
    (∀ k ∈ DataW.weightsEach P (fs.map (·.type)) (xs.map (·.1)), k ≤ maxB) → ∃ x, R.ok w [] ((cs.drop off).take R.size) x
theorem OpenC.last {P : Program} {f : Field} {off : Nat} {R : Rep α} (ho : f.offset = off) (h : OpenAt P f.type R) : OpenC P [f] off R := fun enc w base spare held n cs xs hl hx hw => by
  match xs, hl with
  | [x], _ =>
    have h1 := hx 0 f rfl
    rw [ho, h.1] at h1
    exact h.2 enc w base spare held n _ x.1 x.2 h1 (fun k hk => hw k (by simp [DataW.weightsEach, hk]))
theorem OpenC.cons {P : Program} {f : Field} {fs : List Field} {off : Nat} {R : Rep α} {S : Rep β} (ho : f.offset = off) (h : OpenAt P f.type R) (hs : OpenC P fs (off + R.size) S) : OpenC P (f :: fs) off (rProd R S) := fun enc w base spare held n cs xs hl hx hw => by
  match xs, hl with
  | x :: xs, hl =>
    have h1 := hx 0 f rfl
    rw [ho, h.1] at h1
    obtain ⟨a, ha⟩ := h.2 enc w base spare held n _ x.1 x.2 h1 (fun k hk => hw k (by simp [DataW.weightsEach, hk]))
    obtain ⟨b, hb⟩ := hs enc w base spare held n cs xs (by simpa using hl) (fun i f' hf => by have := hx (i + 1) f' (by simpa using hf); simpa using this) (fun k hk => hw k (by simp only [List.map_cons, DataW.weightsEach, List.mem_append]; exact .inr hk))
    refine ⟨(a, b), _, _, ?_, ha, hb⟩
    show (cs.drop off).take (R.size + S.size) = _
    rw [← List.drop_drop, List.take_add]
theorem OpenAt.struct {P : Program} {t : TypeId} {fs : Array Field} {R : Rep α} {g : β → α} {f : α → β} {hg : ∀ x, g (f x) = x} (h : P.underlying t = some (.struct fs)) (hc : P.cellsOf t = R.size) (hs : OpenC P fs.toList 0 R) : OpenAt P t (rMap R g f hg) :=
  ⟨hc, fun enc w base spare held fuel cs d ps ht hw => by
    obtain ⟨xs, n, _, e1, hl, hxl, hx⟩ := DataW.trod_struct h ht
    cases e1
    obtain ⟨x, hx⟩ := hs enc w base spare held n cs xs (by simpa using hxl) (fun i f hf => hx i f (by simpa using hf)) (fun k hk => hw k (by simpa [DataW.weights, h] using hk))
    rw [List.drop_zero, List.take_of_length_le (by omega)] at hx
    exact ⟨f x, by show R.ok _ _ _ (g (f x)); rw [hg]; exact hx⟩⟩
/-- An argument. -/
theorem arg_one {R : Rep α} {v : Value} (hR : R.agg = false) (hv : one1 v = true) : R.mk' v.cells.toList = v := by
  rw [oneCell_cells hv]
  exact mk_one hR
theorem arg_agg {R : Rep α} {cs : Array Value} (hR : R.agg = true) : R.mk' (Value.agg cs).cells.toList = .agg cs := by
  rw [mk_agg hR]
  rfl
theorem OpenAt.arg {P : Program} {t : TypeId} {R : Rep α} (h : OpenAt P t R) {H : Type} {enc : TypeId × Value → H} {w : World} {base : Nat} {spare : Nat → Bool} {held : Bool} {v : Value} {d : DataW H} {ps : List MemPlace} (hok : R.mk' v.cells.toList = v) (ht : DataW.Trod enc P w base spare held t v d ps)
    (hw : ∀ n ∈ d.weights P t, n ≤ maxB) : ∃ x, R.val w [] v x := by
  obtain ⟨fuel, hf⟩ := ht
  obtain ⟨x, hx⟩ := h.2 enc w base spare held fuel _ d ps hf hw
  exact ⟨x, v.cells.toList, hx, hok.symm⟩
theorem weight_arg {H : Type} {P : Program} {ts : List TypeId} {ds : List (DataW H)} (h : (DataW.weightsEach P ts ds).all (· ≤ reachBytes) = true) {j : Nat} {t : TypeId} {d : DataW H} (ht : ts[j]? = some t) (hd : ds[j]? = some d) : ∀ n ∈ d.weights P t, n ≤ maxB := fun n hn => by
  have := List.all_eq_true.1 h n (DataW.weights_mem_each ht hd n hn)
  have h2 : n ≤ reachBytes := by simpa using this
  have h3 := reachBytes_lt
  unfold maxB
  omega
/-- What is to be shown of well-formed data: some reading of memory there is. -/
def Rep.wf (R : Rep α) (x : α) : Prop := ∃ w m cs, R.ok w m cs x
theorem Rep.wf_val {R : Rep α} {w : World} {m : List Nat} {v : Value} {x : α} (h : R.val w m v x) : R.wf x := let ⟨cs, h1, _⟩ := h; ⟨w, m, cs, h1⟩
theorem wf_int {k : IntKind} {x : Int} (h : (rInt k).wf x) : k.wrap x = x := let ⟨_, _, _, h⟩ := h; h.2
theorem wf_u8 {x : Int} (h : (rInt .u8).wf x) : 0 ≤ x ∧ x < 256 := byte_range (wf_int h)
theorem wf_str {x : List Int} (h : rStr.wf x) : x.length ≤ maxB ∧ ∀ b ∈ x, 0 ≤ b ∧ b < 256 := by
  obtain ⟨_, _, _, s, _, rfl, h⟩ := h
  refine ⟨h, fun b hb => ?_⟩
  obtain ⟨c, _, rfl⟩ := List.mem_map.1 hb
  have := c.toNat_lt
  omega
theorem wf_rows {R : Rep α} {w : World} {m : List Nat} : ∀ {xs : List α} {cs : List Value}, Rows R w m cs xs → ∀ x ∈ xs, R.wf x
  | y :: xs, _, ⟨a, b, _, h2, h3⟩, x, hx => by
    rcases List.mem_cons.1 hx with rfl | hx
    · exact ⟨w, m, a, h2⟩
    · exact wf_rows h3 x hx
theorem wf_arr {n : Nat} {R : Rep α} {x : List α} (h : (rArr n R).wf x) : x.length = n ∧ ∀ y ∈ x, R.wf y := let ⟨_, _, _, h1, h2⟩ := h; ⟨h1, wf_rows h2⟩
theorem wf_sl {n : Nat} {R : Rep α} {x : List α} (h : (rSl n R).wf x) : x.length * n ≤ maxB ∧ x.length ≤ maxB ∧ ∀ y ∈ x, R.wf y := by
  obtain ⟨_, _, _, base, cap, _, _, _, h3, h4, h5⟩ := h
  refine ⟨h3, h4, fun y hy => ?_⟩
  rcases h5 with rfl | ⟨a, _, cells, h6, _⟩
  · cases hy
  · exact wf_rows h6 y hy
theorem wf_prod {R : Rep α} {S : Rep β} {x : α × β} (h : (rProd R S).wf x) : R.wf x.1 ∧ S.wf x.2 := let ⟨w, m, _, a, b, _, h1, h2⟩ := h; ⟨⟨w, m, a, h1⟩, ⟨w, m, b, h2⟩⟩
theorem wf_map {R : Rep α} {g : β → α} {f : α → β} {hg : ∀ x, g (f x) = x} {x : β} (h : (rMap R g f hg).wf x) : R.wf (g x) := h
end Go.Cf
