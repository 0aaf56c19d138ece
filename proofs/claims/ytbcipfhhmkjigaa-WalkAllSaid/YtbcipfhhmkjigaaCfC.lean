/- Bytes held against one another (internal/bytealg.Compare). -/
import Derived.Test.YtbcipfhhmkjigaaCfB
import Derived.Lib.BytesEntry
import Derived.Laws.Externs
set_option linter.unusedVariables false
set_option linter.unusedSimpArgs false
namespace Go.Cf
open Go Go.RowKit
variable {α β γ δ : Type}

/-- -1, 0, 1: which of two lists comes first. -/
def cmp3 : List Int → List Int → Int
  | [], [] => 0
  | [], _ :: _ => -1
  | _ :: _, [] => 1
  | x :: a, y :: b => if x = y then cmp3 a b else if x < y then -1 else 1
theorem cmp3_mem : ∀ a b : List Int, cmp3 a b = -1 ∨ cmp3 a b = 0 ∨ cmp3 a b = 1
  | [], [] => by simp [cmp3]
  | [], _ :: _ => by simp [cmp3]
  | _ :: _, [] => by simp [cmp3]
  | x :: a, y :: b => by
    unfold cmp3
    split
    · exact cmp3_mem a b
    · split <;> simp
theorem cmp3_wrap (a b : List Int) : IntKind.i64.wrap (cmp3 a b) = cmp3 a b := by
  rcases cmp3_mem a b with h | h | h <;> rw [h] <;> rfl
def Bytes (l : List Int) : Prop := ∀ x ∈ l, IntKind.u8.wrap x = x
theorem byte_range {x : Int} (h : IntKind.u8.wrap x = x) : 0 ≤ x ∧ x < 256 := by
  simp [IntKind.wrap, IntKind.signed, IntKind.bits] at h
  omega
theorem cmp_spec : ∀ (a b : List Int), Bytes a → Bytes b → Extern.BytealgCompare.cmp ⟨(Lib.bytesOf a).toArray⟩ ⟨(Lib.bytesOf b).toArray⟩ = cmp3 a b := by
  have hget : ∀ (l : List Int) (i : Nat), (⟨(Lib.bytesOf l).toArray⟩ : ByteArray)[i]! = (Lib.bytesOf l)[i]! := fun l i => by
    by_cases h : i < (Lib.bytesOf l).length
    · rw [getElem!_pos _ i (by simpa [ByteArray.size] using h), getElem!_pos _ i h]
      rfl
    · rw [getElem!_neg _ i (by simpa [ByteArray.size] using h), getElem!_neg _ i h]
  intro a
  have hsz : ∀ l : List Int, (⟨(Lib.bytesOf l).toArray⟩ : ByteArray).size = l.length := fun l => by simp [ByteArray.size, Lib.bytesOf]
  have hcmp : ∀ a b : List Int, Extern.BytealgCompare.cmp ⟨(Lib.bytesOf a).toArray⟩ ⟨(Lib.bytesOf b).toArray⟩ = (match (List.range (min a.length b.length)).find? fun i => (Lib.bytesOf a)[i]! != (Lib.bytesOf b)[i]! with
      | some i => if (Lib.bytesOf a)[i]! < (Lib.bytesOf b)[i]! then -1 else 1
      | none => if a.length < b.length then -1 else if a.length > b.length then 1 else 0) := fun a b => by
    unfold Extern.BytealgCompare.cmp
    simp only [hget, hsz]
    rfl
  simp only [hcmp]
  induction a with
  | nil =>
    intro b _ _
    cases b with
    | nil => simp [cmp3]
    | cons y b => simp [cmp3]
  | cons x a ih =>
    intro b ha hb
    cases b with
    | nil => simp [cmp3]
    | cons y b =>
      have hx := byte_range (ha x (by simp))
      have hy := byte_range (hb y (by simp))
      have hxy : (UInt8.ofNat x.toNat = UInt8.ofNat y.toNat) ↔ x = y := by
        constructor
        · intro h
          have := congrArg UInt8.toNat h
          simp at this
          omega
        · intro h; rw [h]
      have hlt : (UInt8.ofNat x.toNat < UInt8.ofNat y.toNat) ↔ x < y := by
        rw [UInt8.lt_iff_toNat_lt]
        have e1 : (UInt8.ofNat x.toNat).toNat = x.toNat := by simp; omega
        have e2 : (UInt8.ofNat y.toNat).toNat = y.toNat := by simp; omega
        rw [e1, e2]
        omega
      have hmin : min (x :: a).length (y :: b).length = min a.length b.length + 1 := by simp only [List.length_cons]; omega
      have ih' := ih b (fun z hz => ha z (by simp [hz])) (fun z hz => hb z (by simp [hz]))
      rw [hmin, List.range_succ_eq_map, List.find?_cons]
      by_cases he : x = y
      · have h0 : ((Lib.bytesOf (x :: a))[0]! != (Lib.bytesOf (y :: b))[0]!) = false := by simp [Lib.bytesOf, he]
        rw [h0]
        simp only [List.find?_map, cmp3, he, if_true]
        rw [← ih']
        have hf : ((fun i => (Lib.bytesOf (y :: a))[i]! != (Lib.bytesOf (y :: b))[i]!) ∘ Nat.succ) = (fun i => (Lib.bytesOf a)[i]! != (Lib.bytesOf b)[i]!) := by
          funext i
          simp [Lib.bytesOf]
        rw [hf]
        cases (List.range (min a.length b.length)).find? (fun i => (Lib.bytesOf a)[i]! != (Lib.bytesOf b)[i]!) with
        | none => simp
        | some i => simp [Lib.bytesOf]
      · have h0 : ((Lib.bytesOf (x :: a))[0]! != (Lib.bytesOf (y :: b))[0]!) = true := by
          have : UInt8.ofNat x.toNat ≠ UInt8.ofNat y.toNat := fun h => he (hxy.1 h)
          simpa [Lib.bytesOf] using this
        rw [h0]
        simp only [cmp3, he, if_false]
        have e1 : (Lib.bytesOf (x :: a))[0]! = UInt8.ofNat x.toNat := rfl
        have e2 : (Lib.bytesOf (y :: b))[0]! = UInt8.ofNat y.toNat := rfl
        rw [e1, e2]
        by_cases hl : x < y
        · simp [hl, hlt.2 hl]
        · rw [if_neg (fun h => hl (hlt.1 h)), if_neg hl]
theorem rows_bytes {w : World} {m : List Nat} : ∀ {cs : List Value} {l : List Int}, Rows (rInt .u8) w m cs l → cs = l.map (Value.int .u8) ∧ Bytes l
  | cs, [], h => by have h : cs = [] := h; exact ⟨by simp [h], by intro x hx; cases hx⟩
  | cs, x :: l, ⟨a, b, h1, ⟨h2, h3⟩, h4⟩ => by
    obtain ⟨e, f⟩ := rows_bytes h4
    refine ⟨by rw [h1, h2, e]; rfl, fun y hy => ?_⟩
    rcases List.mem_cons.1 hy with rfl | hy
    · exact h3
    · exact f y hy
/-- What the reader of bytes reads of a slice of bytes. -/
theorem run_bytesOf {P : Program} {w w' : World} {m X : List Nat} {v : Value} {l : List Int} {n : Nat} (h : (rSl n (rInt .u8)).val w m v l) (hw : SameX X w w') (hX : ∀ b ∈ X, b ∈ m) :
    (Extern.Bytes.bytesOf v).run P w' = .ok ⟨(Lib.bytesOf l).toArray⟩ w' ∧ Bytes l := by
  obtain ⟨base, cap, rfl, h1, h2, h3, h3', h4⟩ := val_sl h
  rcases h4 with rfl | ⟨a, rfl, cells, h5, h6⟩
  · refine ⟨?_, by intro x hx; cases hx⟩
    cases base <;> simp [Extern.Bytes.bytesOf, Lib.bytesOf, Extern.Bytes.loadBytes] <;> rfl
  · obtain ⟨e, f⟩ := rows_bytes h5
    refine ⟨?_, f⟩
    have h7 := h6.same hw hX
    have := Lib.run_loadBytesX (P := P) w' l a .empty (fun j x hj => by
      obtain ⟨hjl, rfl⟩ := List.getElem?_eq_some_iff.1 hj
      have := h7.cell j (by rw [e]; simpa using hjl)
      rw [this]
      simp [e])
    simp only [Extern.Bytes.bytesOf]
    rw [this]
    congr 2
    simp
section
variable {C : Cx} {XI : List Nat} {E : List (Nat × Value)} {F : List Fact} {M : List Own} {d : Nat} {K : Cont}
theorem d_compare {f : FuncId} {fn : Func} {x y : Operand} {v u : Value} {n n' : Nat} {a b : List Int} {ats : Array TypeId} (hf : C.P.funcs[f]? = some fn) (hname : (fn.name == "runtime.NumGoroutine") = false) (hb : fn.body.isNone = true) (hn : Extern.findNext fn = none) (he : Extern.find fn = some Extern.BytealgCompare.compare)
    (hx : ev E x = some v) (hy : ev E y = some u) (h1 : (rSl n (rInt .u8)).fact v a ∈ F) (h2 : (rSl n' (rInt .u8)).fact u b ∈ F) (k : K ((d, .int .i64 (cmp3 a b)) :: E) F M) :
    DOp C XI E F M (.call { callee := .value (.func f), args := [x, y].toArray, argTypes := ats }) d K :=
  DOp.mem (fun u => u = .int .i64 (cmp3 a b)) (fun _ => []) (fun ac w hs => by
    refine ⟨_, rfl, by (intro f hf; cases hf), fun w' hw o ho => ?_⟩
    cases o; subst ho
    obtain ⟨r1, b1⟩ := run_bytesOf (P := C.P) (hs.fact h1) hw (fun b hb => List.mem_append_right _ (mem_Xs hb))
    obtain ⟨r2, b2⟩ := run_bytesOf (P := C.P) (hs.fact h2) hw (fun b hb => List.mem_append_right _ (mem_Xs hb))
    have hrun : (Extern.BytealgCompare.compare #[v, u]).run C.P w' = .ok (.int .i64 (cmp3 a b)) w' := by
      show (do pure (goInt (Extern.BytealgCompare.cmp (← Extern.Bytes.bytesOf v) (← Extern.Bytes.bytesOf u))) : Sem Value).run C.P w' = _
      simp [r1, r2, cmp_spec a b b1 b2, goInt]
    rw [execOp_call_go]
    have e : #[] ++ [x, y].toArray.map ac.eval ++ #[] = #[v, u] := by simp [hs.ev hx, hs.ev hy]
    rw [e, run_callFunc_extern hf hname hb hn he, hrun]
    rfl) (fun u hu => by subst hu; exact k)
end
end Go.Cf
