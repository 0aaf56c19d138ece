/- Files whose bytes are new; cofferlaw0.Spoil. -/
import Derived.Test.YtbcipfhhmkjigaaPT
set_option linter.unusedVariables false
set_option linter.unusedSimpArgs false
open Go Go.Cf Go.Proofs Go.RowKit
namespace Go.Proofs.Ytbcipfhhmkjigaa
def rFileF (h0 : Nat) : Rep Api_File := rMap (rProd rStr (rProd rBool (rBufF h0))) (fun x => (x.Path, x.Dir, x.Data)) (fun p => ⟨p.1, p.2.1, p.2.2⟩) (fun _ => rfl)
theorem flF_Path (h0 : Nat) : Fld (rFileF h0) 0 rStr (fun _ => True) (fun x => x.Path) (fun x y => x.set_Path y) := Fld.to (Fld.map _ _ (fun _ => rfl) (Fld.fst _ _)) rfl (fun _ _ => by simp) (fun _ => rfl) (fun _ _ => rfl)
theorem flF_Dir (h0 : Nat) : Fld (rFileF h0) 1 rBool (fun _ => True) (fun x => x.Dir) (fun x y => x.set_Dir y) := Fld.to (Fld.map _ _ (fun _ => rfl) (Fld.trans (Fld.snd _ _) (Fld.fst _ _))) rfl (fun _ _ => by simp) (fun _ => rfl) (fun _ _ => rfl)
theorem flF_Data (h0 : Nat) : Fld (rFileF h0) 2 (rBufF h0) (fun _ => True) (fun x => x.Data) (fun x y => x.set_Data y) := Fld.to (Fld.map _ _ (fun _ => rfl) (Fld.trans (Fld.snd _ _) (Fld.snd _ _))) rfl (fun _ _ => by simp) (fun _ => rfl) (fun _ _ => rfl)
theorem tyF48 (h0 : Nat) : TyOk Try.prog 48 (rFileF h0) 48 := ty_of (by kernel_rfl) Try.underlying48 rfl
theorem rFileF_plain {h0 : Nat} {w : World} {m : List Nat} {cs : List Value} {x : Api_File} (h : (rFileF h0).ok w m cs x) : rApi_File.ok w m cs x := by
  obtain ⟨c1, c2, e, h1, c3, c4, e2, h2, h3⟩ := h
  exact ⟨c1, c2, e, h1, c3, c4, e2, h2, rBufF.val h3⟩
theorem rFileF_mono (h h' : Nat) (w : World) (m : List Nat) (cs : List Value) (x : Api_File) (hh : h' ≤ h) (hk : (rFileF h).ok w m cs x) : (rFileF h').ok w m cs x := by
  obtain ⟨c1, c2, e, h1, c3, c4, e2, h2, v, h3, h4, h5⟩ := hk
  exact ⟨c1, c2, e, h1, c3, c4, e2, h2, v, h3, h4, fun b hb => ⟨Nat.le_trans hh (h5 b hb).1, (h5 b hb).2⟩⟩
/-- The rounds of Spoil. -/
def spL (cap : Nat) : Nat → Int → Option Unit
  | 0, _ => none
  | k + 1, s => if decide (s < (cap : Int)) = true then spL cap k (IntKind.i64.wrap (s + 1)) else some ()
theorem spL_is (cap : Nat) (hc : cap < 2 ^ 63) : ∀ (n i k : Nat), n + i = cap → n < k → spL cap k (i : Int) = some () := by
  intro n
  induction n with
  | zero =>
    intro i k hi hk
    obtain ⟨q, rfl⟩ : ∃ q, k = q + 1 := ⟨k - 1, by omega⟩
    rw [spL, if_neg (by simp; omega)]
  | succ n ih =>
    intro i k hi hk
    obtain ⟨q, rfl⟩ : ∃ q, k = q + 1 := ⟨k - 1, by omega⟩
    have hw : IntKind.i64.wrap ((i : Int) + 1) = ((i + 1 : Nat) : Int) := by
      simp only [IntKind.wrap, IntKind.signed, IntKind.bits]; simp <;> omega
    rw [spL, if_pos (by simp; omega), hw]
    exact ih (i + 1) q (by omega) (by omega)
theorem t_rawlt {C : Cx} {E : List (Nat × Value)} {F : List Fact} {M : List Cf.Own} {Q : Exit → Act → World → Prop} {c : Code} {v : Value} {len cap : Nat} (i : Nat) (hm : M[i]? = some (Own.raw v len cap)) (h : cap < 2 ^ 63 → T C E F M c Q) : T C E F M c Q := fun a w hs => by
  have hr := hs.own _ (List.mem_of_getElem? hm)
  refine h ?_ a w hs
  rcases hr with ⟨_, rfl, _⟩ | ⟨_, _, _, _, _, _, h4, _⟩
  · decide
  · exact h4
set_option maxRecDepth 100000 in
/-- cofferlaw0.Spoil: it writes into the slice alone. -/
theorem spoil22 (v : Value) (len cap : Nat) : FnM true Try.prog 22 [v] [Own.raw v len cap] [] (fun r N fs => r = .tuple #[] ∧ N = [Own.raw v len cap] ∧ fs = []) := by
  refine fn_ofN Try.func22 rfl (Nat.le_of_ble_eq_true rfl) ?_
  intro w0 m0 R hR
  refine t_rawlt 0 rfl (fun hcap => ?_)
  refine t_seq ?_
  refine t_region ?_
  refine tl_d rfl (d_move rfl ?_)
  refine tl_d rfl (d_move rfl ?_)
  refine tl_d rfl (d_cap_raw 0 rfl rfl Try.underlying32 ?_)
  refine tl_d rfl (d_full_raw 0 rfl rfl rfl Try.underlying32 ty5 ?_)
  refine tl_d rfl (d_assign rfl ?_)
  refine tl_nil ?_
  refine q_then_code ?_
  refine t_seq ?_
  refine t_region ?_
  refine tl_d rfl (d_assign rfl ?_)
  refine tl_nil ?_
  refine q_then_code ?_
  refine t_block ?_
  refine t_loop (X := Int) (O := Unit) (fun kl s => spL cap kl s) () (fun s => (([(2, fullV v), (3, .int .i64 s)], [], [Own.raw v len cap]) : Sym)) (fun s => 0 ≤ s) (cap + 1) 0 (spL_is cap hcap cap 0 (cap + 1) (by omega) (by omega)) (by omega) ⟨rfl, ⟨rfl, trivial⟩⟩ trivial [0] (Sel.cons rfl Sel.nil) rfl ?_
  rintro k6 s hs0 hk5
  obtain ⟨kq4, rfl⟩ : ∃ q, k6 = q + 1 := by cases k6 with | zero => cases hk5 | succ q => exact ⟨q, rfl⟩
  have hf := hk5
  clear hk5; dsimp only [spL] at hf
  refine t_seq ?_
  refine t_seq ?_
  refine t_region ?_
  refine tl_d rfl (d_move rfl ?_)
  refine tl_d rfl (d_move rfl ?_)
  refine tl_d rfl (d_len_raw 0 rfl rfl Try.underlying32 ?_)
  refine tl_d rfl (d_lss rfl rfl ?_)
  refine tl_nil ?_
  refine q_then_code ?_
  refine t_cond rfl (fun hb7 => ?_) (fun hb7 => ?_)
  · have hf := if_t hb7 hf
    have hlt : s < (cap : Int) := of_decide_eq_true hb7
    obtain ⟨j, rfl⟩ : ∃ j : Nat, s = (j : Int) := ⟨s.toNat, by omega⟩
    refine t_skip ?_
    refine q_then_code ?_
    refine t_seq ?_
    refine t_block ?_
    refine t_region ?_
    refine tl_d rfl (d_move rfl ?_)
    refine tl_d rfl (d_move rfl ?_)
    refine tl_d rfl (d_index_raw 0 rfl rfl rfl Try.underlying32 ty5 rfl (by omega) (fun b hb => ?_))
    refine tl_g [0] rfl (g_store_raw8 (R := rInt .u8) (z := 90) 0 rfl hb (by omega) rfl rfl (hv_int rfl) ty5 rfl (by decide) ?_)
    refine tl_nil ?_
    refine q_block_normal ?_
    refine q_then_code ?_
    refine t_region ?_
    refine tl_d rfl (d_move rfl ?_)
    refine tl_d rfl (d_add rfl rfl ?_)
    refine tl_d rfl (d_assign rfl ?_)
    refine tl_nil ?_
    have hw : IntKind.i64.wrap ((j : Int) + 1) = ((j + 1 : Nat) : Int) := by
      simp only [IntKind.wrap, IntKind.signed, IntKind.bits]; simp <;> omega
    exact q_round kq4 (IntKind.i64.wrap ((j : Int) + 1)) (Nat.lt_succ_self kq4) (by rw [hw]; omega) hf ⟨rfl, ⟨rfl, trivial⟩⟩ trivial [0] (Sel.cons rfl Sel.nil) rfl
  · refine t_exit ?_
    refine q_then_exit ?_
    refine q_then_exit ?_
    refine q_block_hit ?_
    exact q_retN (post := fun r N fs => r = .tuple #[] ∧ N = [Own.raw v len cap] ∧ fs = []) hR _ (.inr rfl) [Own.raw v len cap] [] [0] (Sel.cons rfl Sel.nil) rfl HasFs.nil (.tuple #[]) (fun a w hs => run_results (vs := []) rfl RvOk.nil) ⟨rfl, rfl, rfl⟩
/-- Files whose bytes may be anything. -/
def rFileJ (h0 : Nat) : Rep Api_File := rMap (rProd rStr (rProd rBool (rJunk h0))) (fun x => (x.Path, x.Dir, x.Data)) (fun p => ⟨p.1, p.2.1, p.2.2⟩) (fun _ => rfl)
theorem flJ_Path (h0 : Nat) : Fld (rFileJ h0) 0 rStr (fun _ => True) (fun x => x.Path) (fun x y => x.set_Path y) := Fld.to (Fld.map _ _ (fun _ => rfl) (Fld.fst _ _)) rfl (fun _ _ => by simp) (fun _ => rfl) (fun _ _ => rfl)
theorem flJ_Data (h0 : Nat) : Fld (rFileJ h0) 2 (rJunk h0) (fun _ => True) (fun x => x.Data) (fun x y => x.set_Data y) := Fld.to (Fld.map _ _ (fun _ => rfl) (Fld.trans (Fld.snd _ _) (Fld.snd _ _))) rfl (fun _ _ => by simp) (fun _ => rfl) (fun _ _ => rfl)
theorem tyJ48 (h0 : Nat) : TyOk Try.prog 48 (rFileJ h0) 48 := ty_of (by kernel_rfl) Try.underlying48 rfl
theorem tyJ32 (h0 : Nat) : TyOk Try.prog 32 (rJunk h0) 24 := ty_of (by kernel_rfl) Try.underlying32 rfl
theorem rFileF_junk {h0 : Nat} {w : World} {m : List Nat} {cs : List Value} {x : Api_File} (h : (rFileF h0).ok w m cs x) : (rFileJ h0).ok w m cs x := by
  obtain ⟨c1, c2, e, h1, c3, c4, e2, h2, h3⟩ := h
  exact ⟨c1, c2, e, h1, c3, c4, e2, h2, rBufF.junk h3⟩
theorem rFileJ_tough (h0 : Nat) : Tough (rFileJ h0) := fun w m w' b cs x hb hs ⟨c1, c2, e, h1, c3, c4, e2, h2, h3⟩ =>
  ⟨c1, c2, e, h1, c3, c4, e2, h2, Tough.junk w m w' b _ _ hb hs h3⟩
end Go.Proofs.Ytbcipfhhmkjigaa
