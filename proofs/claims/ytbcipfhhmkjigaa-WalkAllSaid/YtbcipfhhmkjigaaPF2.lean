/- Functions of the program as plain Lean functions, each with the proof that the call comes to it. -/
import Derived.Test.YtbcipfhhmkjigaaPF1
set_option linter.unusedVariables false
open Go Go.Cf Go.Proofs
namespace Go.Proofs.Ytbcipfhhmkjigaa

def cofferref15_May.l0 (a0 : (List Api_Item)) : Nat → Int → Option (Sum (Bool) (Unit))
  | 0, _ => none
  | k + 1, s4 => (if (decide (s4 < ((a0).length : Int))) = true then (need (0 ≤ s4 ∧ s4 < ((a0).length : Int)) ((((cofferref15_MayName.f k ((((a0).getD (s4).toNat rApi_Item.zeroD)).Name)).bind fun c25 => (if (!c25) = true then (some true) else (if (decide (((((a0).getD (s4).toNat rApi_Item.zeroD)).Kind) < (1 : Int))) = true then (some true) else (if (decide ((2 : Int) < ((((a0).getD (s4).toNat rApi_Item.zeroD)).Kind))) = true then (some true) else (if (decide (((((a0).getD (s4).toNat rApi_Item.zeroD)).Size) < (0 : Int))) = true then (some true) else (if (decide (((((a0).getD (s4).toNat rApi_Item.zeroD)).Kind) = (2 : Int))) = true then (if (!decide (((((a0).getD (s4).toNat rApi_Item.zeroD)).Size) = (0 : Int))) = true then (some true) else (if (decide ((0 : Int) < s4)) = true then (need (0 ≤ (IntKind.i64.wrap (s4 - (1 : Int))) ∧ (IntKind.i64.wrap (s4 - (1 : Int))) < ((a0).length : Int)) ((some (!lexLt (((a0).getD ((IntKind.i64.wrap (s4 - (1 : Int)))).toNat rApi_Item.zeroD)).Name ((((a0).getD (s4).toNat rApi_Item.zeroD)).Name))))) else (some false))) else (if (decide ((0 : Int) < s4)) = true then (need (0 ≤ (IntKind.i64.wrap (s4 - (1 : Int))) ∧ (IntKind.i64.wrap (s4 - (1 : Int))) < ((a0).length : Int)) ((some (!lexLt (((a0).getD ((IntKind.i64.wrap (s4 - (1 : Int)))).toNat rApi_Item.zeroD)).Name ((((a0).getD (s4).toNat rApi_Item.zeroD)).Name))))) else (some false))))))))).bind fun s61 => (if s61 = true then (some (.inl false)) else (cofferref15_May.l0 a0 k (IntKind.i64.wrap (s4 + (1 : Int))))))) else (some (.inr ())))
def cofferref15_May.f (k : Nat) (a0 : (List Api_Item)) : Option (Bool) := (if (decide ((64 : Int) < ((a0).length : Int))) = true then (some false) else (cofferref15_May.l0 a0 k (0 : Int)).bind fun o155 => (match o155 with | .inl r => some r | .inr _ => (some true)))
set_option maxRecDepth 100000 in
set_option maxHeartbeats 6010000 in
theorem cofferref15_May_ok (k : Nat) (a0 : (List Api_Item)) (u0 : Value) (r : Bool) (hf : cofferref15_May.f k a0 = some r) : Cf.FnX true Try.prog 54 [u0] (fun w m => (rSl 64 rApi_Item).val w m u0 a0) (fun w w' m v => rBool.val w' m v r) := by
  unfold cofferref15_May.f at hf
  refine fn_of Try.func54 rfl (Nat.le_of_ble_eq_true rfl) [(rSl 64 rApi_Item).fact u0 a0] (fun w m h f hf => ?_) ?_
  · simp at hf; obtain rfl := hf; exact h
  intro w0 m0 R hR
  refine t_seq ?_
  refine t_region ?_
  refine tl_d rfl (d_assign rfl ?_)
  refine tl_nil ?_
  refine q_then_code ?_
  refine t_seq ?_
  refine t_seq ?_
  refine t_region ?_
  refine tl_d rfl (d_move rfl ?_)
  refine tl_d rfl (d_len_sl rfl (mem_at 0 rfl) Try.underlying52 (fun hl2 _ => ?_))
  refine tl_d rfl (d_gtr rfl rfl ?_)
  refine tl_nil ?_
  refine q_then_code ?_
  refine t_cond rfl (fun hb3 => ?_) (fun hb3 => ?_)
  · have hf := if_t hb3 hf
    refine t_seq ?_
    refine t_region ?_
    refine tl_d rfl (d_assign rfl ?_)
    refine tl_nil ?_
    refine q_then_code ?_
    refine t_ret ?_
    refine q_then_ret ?_
    have hr := Option.some.inj hf; subst hr
    refine q_ret (post := fun w w' m v => rBool.val w' m v false) hR _ (.inl rfl) (fun a w hs => ?_)
    exact ⟨_, run_results rfl (RvOk.cons (rv_tmp hs rfl) RvOk.nil), (hs.hv hv_bool)⟩
  · have hf := if_f hb3 hf
    refine t_skip ?_
    refine q_then_code ?_
    refine t_seq ?_
    refine t_seq ?_
    refine t_region ?_
    refine tl_d rfl (d_assign rfl ?_)
    refine tl_nil ?_
    refine q_then_code ?_
    refine t_block ?_
    obtain ⟨o155, ho156, hf⟩ := bind_some hf
    refine t_loop (X := Int) (O := Sum (Bool) (Unit)) (fun kl x => match x with | s4 => cofferref15_May.l0 a0 kl s4) o155 (fun x => match x with | s4 => (([(0, u0), (3, .int .i64 s4)], [(rSl 64 rApi_Item).fact u0 a0], []) : Sym)) (fun x => match x with | s4 => IntKind.i64.wrap s4 = s4) k (0 : Int) ho156 rfl ⟨rfl, ⟨rfl, trivial⟩⟩ ⟨mem_at 0 rfl, trivial⟩ [] (Sel.nil) rfl ?_
    clear ho156
    rintro k8 s4 hw_s4 hk7
    have hout5 := hf; clear hf
    obtain ⟨kq6, rfl⟩ : ∃ q, k8 = q + 1 := by cases k8 with | zero => cases hk7 | succ q => exact ⟨q, rfl⟩
    have hf := hk7
    clear hk7; dsimp only [cofferref15_May.l0] at hf
    refine t_seq ?_
    refine t_seq ?_
    refine t_region ?_
    refine tl_d rfl (d_move rfl ?_)
    refine tl_d rfl (d_move rfl ?_)
    refine tl_d rfl (d_len_sl rfl (mem_at 0 rfl) Try.underlying52 (fun hl10 _ => ?_))
    refine tl_d rfl (d_lss rfl rfl ?_)
    refine tl_nil ?_
    refine q_then_code ?_
    refine t_cond rfl (fun hb11 => ?_) (fun hb11 => ?_)
    · have hf := if_t hb11 hf
      refine t_skip ?_
      refine q_then_code ?_
      refine t_seq ?_
      refine t_block ?_
      refine t_seq ?_
      obtain ⟨hn12, hf⟩ := need_some hf
      refine t_region ?_
      refine tl_d rfl (d_move rfl ?_)
      refine tl_d rfl (d_move rfl ?_)
      refine tl_d rfl (d_index_sl rfl (mem_at 0 rfl) rfl Try.underlying52 ty54 hn12 (fun p18 => ?_))
      refine tl_d rfl (d_load_place rfl (mem_at 0 rfl) ty54 (fun v20 => ?_))
      refine tl_g [] rfl (g_alloc rfl ty54 (fun b22 => ?_))
      refine tl_g _ rfl (g_store_box 0 rfl rfl rfl (Fld.self rApi_Item) trivial (hv_fact (mem_at 0 rfl)) ty54 (List.mem_singleton_self _) ?_)
      refine tl_nil ?_
      refine q_then_code ?_
      refine t_seq ?_
      obtain ⟨o62, ho63, hf⟩ := bind_some hf
      refine t_cut (X := Bool) (fun x => match x with | s61 => (([(0, u0), (3, (.int .i64 s4)), (61, .bool s61)], [(rSl 64 rApi_Item).fact u0 a0], []) : Sym)) (fun x => match x with | s61 => s61 = o62) ?_ ?_
      · have hf := ho63; clear ho63
        obtain ⟨c25, hc26, hf⟩ := bind_some hf
        rcases bool_tf (!c25) with hb30 | hb30
        · have hf := if_t hb30 hf
          refine t_any (n := 44) [] mixed ⟨by kernel_rfl, .inl rfl⟩ (np_cut (np_then (np_block (np_then (np_then (np_block (np_then np_body))))))) ?_
          refine ta_take (i := 0) rfl (by kernel_rfl) gd_none (d_field_own rfl fo54_0 ?_)
          refine ta_take (i := 1) rfl (by kernel_rfl) gd_none (d_load_box 0 rfl rfl (Fld.at0 fl_Api_Item_Name) trivial ty9 rfl (fun v64 => ?_))
          refine ta_one (i := 2) (by kernel_rfl) rfl rfl gd_none (g_call1 rfl hfn68 (cofferref15_MayName_ok _ _ _ _ hc26) (Evs.cons rfl Evs.nil) (fun a w hs => (hv_fact (mem_at 0 rfl)) _ _ _ _ hs) (fun v66 => ?_))
          refine ta_bool (mem_at 0 rfl) (fun hv68 => ?_)
          subst hv68
          refine ta_take (i := 3) rfl (by kernel_rfl) gd_none (d_not rfl ?_)
          refine ta_take (i := 4) rfl (by kernel_rfl) gd_none (d_move rfl ?_)
          refine ta_off (i := 5) rfl (by kernel_rfl) (gd_off rfl rfl rfl hb30) ?_
          refine ta_off (i := 6) rfl (by kernel_rfl) (gd_off rfl rfl rfl hb30) ?_
          refine ta_off (i := 7) rfl (by kernel_rfl) (gd_off rfl rfl rfl hb30) ?_
          refine ta_take (i := 8) rfl (by kernel_rfl) gd_none (d_pick_true rfl hb30 rfl ?_)
          refine ta_take (i := 9) rfl (by kernel_rfl) gd_none (d_move rfl ?_)
          refine ta_off (i := 10) rfl (by kernel_rfl) (gd_off rfl rfl rfl rfl) ?_
          refine ta_off (i := 11) rfl (by kernel_rfl) (gd_off rfl rfl rfl rfl) ?_
          refine ta_off (i := 12) rfl (by kernel_rfl) (gd_off rfl rfl rfl rfl) ?_
          refine ta_take (i := 13) rfl (by kernel_rfl) gd_none (d_pick_true rfl rfl rfl ?_)
          refine ta_take (i := 14) rfl (by kernel_rfl) gd_none (d_move rfl ?_)
          refine ta_off (i := 15) rfl (by kernel_rfl) (gd_off rfl rfl rfl rfl) ?_
          refine ta_off (i := 16) rfl (by kernel_rfl) (gd_off rfl rfl rfl rfl) ?_
          refine ta_off (i := 17) rfl (by kernel_rfl) (gd_off rfl rfl rfl rfl) ?_
          refine ta_take (i := 18) rfl (by kernel_rfl) gd_none (d_pick_true rfl rfl rfl ?_)
          refine ta_take (i := 19) rfl (by kernel_rfl) gd_none (d_move rfl ?_)
          refine ta_off (i := 20) rfl (by kernel_rfl) (gd_off rfl rfl rfl rfl) ?_
          refine ta_off (i := 21) rfl (by kernel_rfl) (gd_off rfl rfl rfl rfl) ?_
          refine ta_off (i := 22) rfl (by kernel_rfl) (gd_off rfl rfl rfl rfl) ?_
          refine ta_off (i := 23) rfl (by kernel_rfl) (gd_off rfl rfl rfl rfl) ?_
          refine ta_off (i := 24) rfl (by kernel_rfl) (gd_offu rfl rfl rfl) ?_
          refine ta_off (i := 25) rfl (by kernel_rfl) (gd_offu rfl rfl rfl) ?_
          refine ta_off (i := 26) rfl (by kernel_rfl) (gd_offu rfl rfl rfl) ?_
          refine ta_off (i := 27) rfl (by kernel_rfl) (gd_off rfl rfl rfl rfl) ?_
          refine ta_take (i := 28) rfl (by kernel_rfl) gd_none (d_pick_true rfl rfl rfl ?_)
          refine ta_take (i := 29) rfl (by kernel_rfl) gd_none (d_move rfl ?_)
          refine ta_off (i := 30) rfl (by kernel_rfl) (gd_off rfl rfl rfl rfl) ?_
          refine ta_off (i := 31) rfl (by kernel_rfl) (gd_off rfl rfl rfl rfl) ?_
          refine ta_off (i := 32) rfl (by kernel_rfl) (gd_off rfl rfl rfl rfl) ?_
          refine ta_off (i := 33) rfl (by kernel_rfl) (gd_offu rfl rfl rfl) ?_
          refine ta_off (i := 34) rfl (by kernel_rfl) (gd_offu rfl rfl rfl) ?_
          refine ta_off (i := 35) rfl (by kernel_rfl) (gd_offu rfl rfl rfl) ?_
          refine ta_off (i := 36) rfl (by kernel_rfl) (gd_offu rfl rfl rfl) ?_
          refine ta_off (i := 37) rfl (by kernel_rfl) (gd_offu rfl rfl rfl) ?_
          refine ta_off (i := 38) rfl (by kernel_rfl) (gd_offu rfl rfl rfl) ?_
          refine ta_off (i := 39) rfl (by kernel_rfl) (gd_offu rfl rfl rfl) ?_
          refine ta_off (i := 40) rfl (by kernel_rfl) (gd_offu rfl rfl rfl) ?_
          refine ta_off (i := 41) rfl (by kernel_rfl) (gd_offu rfl rfl rfl) ?_
          refine ta_off (i := 42) rfl (by kernel_rfl) (gd_off rfl rfl rfl rfl) ?_
          refine ta_take (i := 43) rfl (by kernel_rfl) gd_none (d_pick_true rfl rfl rfl ?_)
          refine ta_done (by kernel_rfl) ?_
          have hr := Option.some.inj hf; subst hr
          exact q_cut true rfl ⟨rfl, ⟨rfl, ⟨rfl, trivial⟩⟩⟩ ⟨mem_at 4 rfl, trivial⟩ [] (Sel.nil) rfl
        · have hf := if_f hb30 hf
          rcases bool_tf (decide (((((a0).getD (s4).toNat rApi_Item.zeroD)).Kind) < (1 : Int))) with hb32 | hb32
          · have hf := if_t hb32 hf
            refine t_any (n := 44) [] mixed ⟨by kernel_rfl, .inl rfl⟩ (np_cut (np_then (np_block (np_then (np_then (np_block (np_then np_body))))))) ?_
            refine ta_take (i := 0) rfl (by kernel_rfl) gd_none (d_field_own rfl fo54_0 ?_)
            refine ta_take (i := 1) rfl (by kernel_rfl) gd_none (d_load_box 0 rfl rfl (Fld.at0 fl_Api_Item_Name) trivial ty9 rfl (fun v69 => ?_))
            refine ta_one (i := 2) (by kernel_rfl) rfl rfl gd_none (g_call1 rfl hfn68 (cofferref15_MayName_ok _ _ _ _ hc26) (Evs.cons rfl Evs.nil) (fun a w hs => (hv_fact (mem_at 0 rfl)) _ _ _ _ hs) (fun v71 => ?_))
            refine ta_bool (mem_at 0 rfl) (fun hv73 => ?_)
            subst hv73
            refine ta_take (i := 3) rfl (by kernel_rfl) gd_none (d_not rfl ?_)
            refine ta_take (i := 4) rfl (by kernel_rfl) gd_none (d_move rfl ?_)
            refine ta_take (i := 5) rfl (by kernel_rfl) (gd_on rfl rfl rfl hb30) (d_field_own rfl fo54_1 ?_)
            refine ta_take (i := 6) rfl (by kernel_rfl) (gd_on rfl rfl rfl hb30) (d_load_box_int 0 rfl rfl (Fld.at0 fl_Api_Item_Kind) trivial ty3 rfl (fun hw74 => ?_))
            refine ta_take (i := 7) rfl (by kernel_rfl) (gd_on rfl rfl rfl hb30) (d_lss rfl rfl ?_)
            refine ta_take (i := 8) rfl (by kernel_rfl) gd_none (d_pick_false rfl hb30 rfl ?_)
            refine ta_take (i := 9) rfl (by kernel_rfl) gd_none (d_move rfl ?_)
            refine ta_off (i := 10) rfl (by kernel_rfl) (gd_off rfl rfl rfl hb32) ?_
            refine ta_off (i := 11) rfl (by kernel_rfl) (gd_off rfl rfl rfl hb32) ?_
            refine ta_off (i := 12) rfl (by kernel_rfl) (gd_off rfl rfl rfl hb32) ?_
            refine ta_take (i := 13) rfl (by kernel_rfl) gd_none (d_pick_true rfl hb32 rfl ?_)
            refine ta_take (i := 14) rfl (by kernel_rfl) gd_none (d_move rfl ?_)
            refine ta_off (i := 15) rfl (by kernel_rfl) (gd_off rfl rfl rfl rfl) ?_
            refine ta_off (i := 16) rfl (by kernel_rfl) (gd_off rfl rfl rfl rfl) ?_
            refine ta_off (i := 17) rfl (by kernel_rfl) (gd_off rfl rfl rfl rfl) ?_
            refine ta_take (i := 18) rfl (by kernel_rfl) gd_none (d_pick_true rfl rfl rfl ?_)
            refine ta_take (i := 19) rfl (by kernel_rfl) gd_none (d_move rfl ?_)
            refine ta_off (i := 20) rfl (by kernel_rfl) (gd_off rfl rfl rfl rfl) ?_
            refine ta_off (i := 21) rfl (by kernel_rfl) (gd_off rfl rfl rfl rfl) ?_
            refine ta_off (i := 22) rfl (by kernel_rfl) (gd_off rfl rfl rfl rfl) ?_
            refine ta_off (i := 23) rfl (by kernel_rfl) (gd_off rfl rfl rfl rfl) ?_
            refine ta_off (i := 24) rfl (by kernel_rfl) (gd_offu rfl rfl rfl) ?_
            refine ta_off (i := 25) rfl (by kernel_rfl) (gd_offu rfl rfl rfl) ?_
            refine ta_off (i := 26) rfl (by kernel_rfl) (gd_offu rfl rfl rfl) ?_
            refine ta_off (i := 27) rfl (by kernel_rfl) (gd_off rfl rfl rfl rfl) ?_
            refine ta_take (i := 28) rfl (by kernel_rfl) gd_none (d_pick_true rfl rfl rfl ?_)
            refine ta_take (i := 29) rfl (by kernel_rfl) gd_none (d_move rfl ?_)
            refine ta_off (i := 30) rfl (by kernel_rfl) (gd_off rfl rfl rfl rfl) ?_
            refine ta_off (i := 31) rfl (by kernel_rfl) (gd_off rfl rfl rfl rfl) ?_
            refine ta_off (i := 32) rfl (by kernel_rfl) (gd_off rfl rfl rfl rfl) ?_
            refine ta_off (i := 33) rfl (by kernel_rfl) (gd_offu rfl rfl rfl) ?_
            refine ta_off (i := 34) rfl (by kernel_rfl) (gd_offu rfl rfl rfl) ?_
            refine ta_off (i := 35) rfl (by kernel_rfl) (gd_offu rfl rfl rfl) ?_
            refine ta_off (i := 36) rfl (by kernel_rfl) (gd_offu rfl rfl rfl) ?_
            refine ta_off (i := 37) rfl (by kernel_rfl) (gd_offu rfl rfl rfl) ?_
            refine ta_off (i := 38) rfl (by kernel_rfl) (gd_offu rfl rfl rfl) ?_
            refine ta_off (i := 39) rfl (by kernel_rfl) (gd_offu rfl rfl rfl) ?_
            refine ta_off (i := 40) rfl (by kernel_rfl) (gd_offu rfl rfl rfl) ?_
            refine ta_off (i := 41) rfl (by kernel_rfl) (gd_offu rfl rfl rfl) ?_
            refine ta_off (i := 42) rfl (by kernel_rfl) (gd_off rfl rfl rfl rfl) ?_
            refine ta_take (i := 43) rfl (by kernel_rfl) gd_none (d_pick_true rfl rfl rfl ?_)
            refine ta_done (by kernel_rfl) ?_
            have hr := Option.some.inj hf; subst hr
            exact q_cut true rfl ⟨rfl, ⟨rfl, ⟨rfl, trivial⟩⟩⟩ ⟨mem_at 4 rfl, trivial⟩ [] (Sel.nil) rfl
          · have hf := if_f hb32 hf
            rcases bool_tf (decide ((2 : Int) < ((((a0).getD (s4).toNat rApi_Item.zeroD)).Kind))) with hb34 | hb34
            · have hf := if_t hb34 hf
              refine t_any (n := 44) [] mixed ⟨by kernel_rfl, .inl rfl⟩ (np_cut (np_then (np_block (np_then (np_then (np_block (np_then np_body))))))) ?_
              refine ta_take (i := 0) rfl (by kernel_rfl) gd_none (d_field_own rfl fo54_0 ?_)
              refine ta_take (i := 1) rfl (by kernel_rfl) gd_none (d_load_box 0 rfl rfl (Fld.at0 fl_Api_Item_Name) trivial ty9 rfl (fun v75 => ?_))
              refine ta_one (i := 2) (by kernel_rfl) rfl rfl gd_none (g_call1 rfl hfn68 (cofferref15_MayName_ok _ _ _ _ hc26) (Evs.cons rfl Evs.nil) (fun a w hs => (hv_fact (mem_at 0 rfl)) _ _ _ _ hs) (fun v77 => ?_))
              refine ta_bool (mem_at 0 rfl) (fun hv79 => ?_)
              subst hv79
              refine ta_take (i := 3) rfl (by kernel_rfl) gd_none (d_not rfl ?_)
              refine ta_take (i := 4) rfl (by kernel_rfl) gd_none (d_move rfl ?_)
              refine ta_take (i := 5) rfl (by kernel_rfl) (gd_on rfl rfl rfl hb30) (d_field_own rfl fo54_1 ?_)
              refine ta_take (i := 6) rfl (by kernel_rfl) (gd_on rfl rfl rfl hb30) (d_load_box_int 0 rfl rfl (Fld.at0 fl_Api_Item_Kind) trivial ty3 rfl (fun hw80 => ?_))
              refine ta_take (i := 7) rfl (by kernel_rfl) (gd_on rfl rfl rfl hb30) (d_lss rfl rfl ?_)
              refine ta_take (i := 8) rfl (by kernel_rfl) gd_none (d_pick_false rfl hb30 rfl ?_)
              refine ta_take (i := 9) rfl (by kernel_rfl) gd_none (d_move rfl ?_)
              refine ta_take (i := 10) rfl (by kernel_rfl) (gd_on rfl rfl rfl hb32) (d_field_own rfl fo54_1 ?_)
              refine ta_take (i := 11) rfl (by kernel_rfl) (gd_on rfl rfl rfl hb32) (d_load_box_int 0 rfl rfl (Fld.at0 fl_Api_Item_Kind) trivial ty3 rfl (fun hw81 => ?_))
              refine ta_take (i := 12) rfl (by kernel_rfl) (gd_on rfl rfl rfl hb32) (d_gtr rfl rfl ?_)
              refine ta_take (i := 13) rfl (by kernel_rfl) gd_none (d_pick_false rfl hb32 rfl ?_)
              refine ta_take (i := 14) rfl (by kernel_rfl) gd_none (d_move rfl ?_)
              refine ta_off (i := 15) rfl (by kernel_rfl) (gd_off rfl rfl rfl hb34) ?_
              refine ta_off (i := 16) rfl (by kernel_rfl) (gd_off rfl rfl rfl hb34) ?_
              refine ta_off (i := 17) rfl (by kernel_rfl) (gd_off rfl rfl rfl hb34) ?_
              refine ta_take (i := 18) rfl (by kernel_rfl) gd_none (d_pick_true rfl hb34 rfl ?_)
              refine ta_take (i := 19) rfl (by kernel_rfl) gd_none (d_move rfl ?_)
              refine ta_off (i := 20) rfl (by kernel_rfl) (gd_off rfl rfl rfl rfl) ?_
              refine ta_off (i := 21) rfl (by kernel_rfl) (gd_off rfl rfl rfl rfl) ?_
              refine ta_off (i := 22) rfl (by kernel_rfl) (gd_off rfl rfl rfl rfl) ?_
              refine ta_off (i := 23) rfl (by kernel_rfl) (gd_off rfl rfl rfl rfl) ?_
              refine ta_off (i := 24) rfl (by kernel_rfl) (gd_offu rfl rfl rfl) ?_
              refine ta_off (i := 25) rfl (by kernel_rfl) (gd_offu rfl rfl rfl) ?_
              refine ta_off (i := 26) rfl (by kernel_rfl) (gd_offu rfl rfl rfl) ?_
              refine ta_off (i := 27) rfl (by kernel_rfl) (gd_off rfl rfl rfl rfl) ?_
              refine ta_take (i := 28) rfl (by kernel_rfl) gd_none (d_pick_true rfl rfl rfl ?_)
              refine ta_take (i := 29) rfl (by kernel_rfl) gd_none (d_move rfl ?_)
              refine ta_off (i := 30) rfl (by kernel_rfl) (gd_off rfl rfl rfl rfl) ?_
              refine ta_off (i := 31) rfl (by kernel_rfl) (gd_off rfl rfl rfl rfl) ?_
              refine ta_off (i := 32) rfl (by kernel_rfl) (gd_off rfl rfl rfl rfl) ?_
              refine ta_off (i := 33) rfl (by kernel_rfl) (gd_offu rfl rfl rfl) ?_
              refine ta_off (i := 34) rfl (by kernel_rfl) (gd_offu rfl rfl rfl) ?_
              refine ta_off (i := 35) rfl (by kernel_rfl) (gd_offu rfl rfl rfl) ?_
              refine ta_off (i := 36) rfl (by kernel_rfl) (gd_offu rfl rfl rfl) ?_
              refine ta_off (i := 37) rfl (by kernel_rfl) (gd_offu rfl rfl rfl) ?_
              refine ta_off (i := 38) rfl (by kernel_rfl) (gd_offu rfl rfl rfl) ?_
              refine ta_off (i := 39) rfl (by kernel_rfl) (gd_offu rfl rfl rfl) ?_
              refine ta_off (i := 40) rfl (by kernel_rfl) (gd_offu rfl rfl rfl) ?_
              refine ta_off (i := 41) rfl (by kernel_rfl) (gd_offu rfl rfl rfl) ?_
              refine ta_off (i := 42) rfl (by kernel_rfl) (gd_off rfl rfl rfl rfl) ?_
              refine ta_take (i := 43) rfl (by kernel_rfl) gd_none (d_pick_true rfl rfl rfl ?_)
              refine ta_done (by kernel_rfl) ?_
              have hr := Option.some.inj hf; subst hr
              exact q_cut true rfl ⟨rfl, ⟨rfl, ⟨rfl, trivial⟩⟩⟩ ⟨mem_at 4 rfl, trivial⟩ [] (Sel.nil) rfl
            · have hf := if_f hb34 hf
              rcases bool_tf (decide (((((a0).getD (s4).toNat rApi_Item.zeroD)).Size) < (0 : Int))) with hb36 | hb36
              · have hf := if_t hb36 hf
                refine t_any (n := 44) [] mixed ⟨by kernel_rfl, .inl rfl⟩ (np_cut (np_then (np_block (np_then (np_then (np_block (np_then np_body))))))) ?_
                refine ta_take (i := 0) rfl (by kernel_rfl) gd_none (d_field_own rfl fo54_0 ?_)
                refine ta_take (i := 1) rfl (by kernel_rfl) gd_none (d_load_box 0 rfl rfl (Fld.at0 fl_Api_Item_Name) trivial ty9 rfl (fun v82 => ?_))
                refine ta_one (i := 2) (by kernel_rfl) rfl rfl gd_none (g_call1 rfl hfn68 (cofferref15_MayName_ok _ _ _ _ hc26) (Evs.cons rfl Evs.nil) (fun a w hs => (hv_fact (mem_at 0 rfl)) _ _ _ _ hs) (fun v84 => ?_))
                refine ta_bool (mem_at 0 rfl) (fun hv86 => ?_)
                subst hv86
                refine ta_take (i := 3) rfl (by kernel_rfl) gd_none (d_not rfl ?_)
                refine ta_take (i := 4) rfl (by kernel_rfl) gd_none (d_move rfl ?_)
                refine ta_take (i := 5) rfl (by kernel_rfl) (gd_on rfl rfl rfl hb30) (d_field_own rfl fo54_1 ?_)
                refine ta_take (i := 6) rfl (by kernel_rfl) (gd_on rfl rfl rfl hb30) (d_load_box_int 0 rfl rfl (Fld.at0 fl_Api_Item_Kind) trivial ty3 rfl (fun hw87 => ?_))
                refine ta_take (i := 7) rfl (by kernel_rfl) (gd_on rfl rfl rfl hb30) (d_lss rfl rfl ?_)
                refine ta_take (i := 8) rfl (by kernel_rfl) gd_none (d_pick_false rfl hb30 rfl ?_)
                refine ta_take (i := 9) rfl (by kernel_rfl) gd_none (d_move rfl ?_)
                refine ta_take (i := 10) rfl (by kernel_rfl) (gd_on rfl rfl rfl hb32) (d_field_own rfl fo54_1 ?_)
                refine ta_take (i := 11) rfl (by kernel_rfl) (gd_on rfl rfl rfl hb32) (d_load_box_int 0 rfl rfl (Fld.at0 fl_Api_Item_Kind) trivial ty3 rfl (fun hw88 => ?_))
                refine ta_take (i := 12) rfl (by kernel_rfl) (gd_on rfl rfl rfl hb32) (d_gtr rfl rfl ?_)
                refine ta_take (i := 13) rfl (by kernel_rfl) gd_none (d_pick_false rfl hb32 rfl ?_)
                refine ta_take (i := 14) rfl (by kernel_rfl) gd_none (d_move rfl ?_)
                refine ta_take (i := 15) rfl (by kernel_rfl) (gd_on rfl rfl rfl hb34) (d_field_own rfl fo54_3 ?_)
                refine ta_take (i := 16) rfl (by kernel_rfl) (gd_on rfl rfl rfl hb34) (d_load_box_int 0 rfl rfl (Fld.at0 fl_Api_Item_Size) trivial ty2 rfl (fun hw89 => ?_))
                refine ta_take (i := 17) rfl (by kernel_rfl) (gd_on rfl rfl rfl hb34) (d_lss rfl rfl ?_)
                refine ta_take (i := 18) rfl (by kernel_rfl) gd_none (d_pick_false rfl hb34 rfl ?_)
                refine ta_take (i := 19) rfl (by kernel_rfl) gd_none (d_move rfl ?_)
                refine ta_off (i := 20) rfl (by kernel_rfl) (gd_off rfl rfl rfl hb36) ?_
                refine ta_off (i := 21) rfl (by kernel_rfl) (gd_off rfl rfl rfl hb36) ?_
                refine ta_off (i := 22) rfl (by kernel_rfl) (gd_off rfl rfl rfl hb36) ?_
                refine ta_off (i := 23) rfl (by kernel_rfl) (gd_off rfl rfl rfl hb36) ?_
                refine ta_off (i := 24) rfl (by kernel_rfl) (gd_offu rfl rfl rfl) ?_
                refine ta_off (i := 25) rfl (by kernel_rfl) (gd_offu rfl rfl rfl) ?_
                refine ta_off (i := 26) rfl (by kernel_rfl) (gd_offu rfl rfl rfl) ?_
                refine ta_off (i := 27) rfl (by kernel_rfl) (gd_off rfl rfl rfl hb36) ?_
                refine ta_take (i := 28) rfl (by kernel_rfl) gd_none (d_pick_true rfl hb36 rfl ?_)
                refine ta_take (i := 29) rfl (by kernel_rfl) gd_none (d_move rfl ?_)
                refine ta_off (i := 30) rfl (by kernel_rfl) (gd_off rfl rfl rfl rfl) ?_
                refine ta_off (i := 31) rfl (by kernel_rfl) (gd_off rfl rfl rfl rfl) ?_
                refine ta_off (i := 32) rfl (by kernel_rfl) (gd_off rfl rfl rfl rfl) ?_
                refine ta_off (i := 33) rfl (by kernel_rfl) (gd_offu rfl rfl rfl) ?_
                refine ta_off (i := 34) rfl (by kernel_rfl) (gd_offu rfl rfl rfl) ?_
                refine ta_off (i := 35) rfl (by kernel_rfl) (gd_offu rfl rfl rfl) ?_
                refine ta_off (i := 36) rfl (by kernel_rfl) (gd_offu rfl rfl rfl) ?_
                refine ta_off (i := 37) rfl (by kernel_rfl) (gd_offu rfl rfl rfl) ?_
                refine ta_off (i := 38) rfl (by kernel_rfl) (gd_offu rfl rfl rfl) ?_
                refine ta_off (i := 39) rfl (by kernel_rfl) (gd_offu rfl rfl rfl) ?_
                refine ta_off (i := 40) rfl (by kernel_rfl) (gd_offu rfl rfl rfl) ?_
                refine ta_off (i := 41) rfl (by kernel_rfl) (gd_offu rfl rfl rfl) ?_
                refine ta_off (i := 42) rfl (by kernel_rfl) (gd_off rfl rfl rfl rfl) ?_
                refine ta_take (i := 43) rfl (by kernel_rfl) gd_none (d_pick_true rfl rfl rfl ?_)
                refine ta_done (by kernel_rfl) ?_
                have hr := Option.some.inj hf; subst hr
                exact q_cut true rfl ⟨rfl, ⟨rfl, ⟨rfl, trivial⟩⟩⟩ ⟨mem_at 4 rfl, trivial⟩ [] (Sel.nil) rfl
              · have hf := if_f hb36 hf
                rcases bool_tf (decide (((((a0).getD (s4).toNat rApi_Item.zeroD)).Kind) = (2 : Int))) with hb38 | hb38
                · have hf := if_t hb38 hf
                  rcases bool_tf (!decide (((((a0).getD (s4).toNat rApi_Item.zeroD)).Size) = (0 : Int))) with hb40 | hb40
                  · have hf := if_t hb40 hf
                    refine t_any (n := 44) [] mixed ⟨by kernel_rfl, .inl rfl⟩ (np_cut (np_then (np_block (np_then (np_then (np_block (np_then np_body))))))) ?_
                    refine ta_take (i := 0) rfl (by kernel_rfl) gd_none (d_field_own rfl fo54_0 ?_)
                    refine ta_take (i := 1) rfl (by kernel_rfl) gd_none (d_load_box 0 rfl rfl (Fld.at0 fl_Api_Item_Name) trivial ty9 rfl (fun v90 => ?_))
                    refine ta_one (i := 2) (by kernel_rfl) rfl rfl gd_none (g_call1 rfl hfn68 (cofferref15_MayName_ok _ _ _ _ hc26) (Evs.cons rfl Evs.nil) (fun a w hs => (hv_fact (mem_at 0 rfl)) _ _ _ _ hs) (fun v92 => ?_))
                    refine ta_bool (mem_at 0 rfl) (fun hv94 => ?_)
                    subst hv94
                    refine ta_take (i := 3) rfl (by kernel_rfl) gd_none (d_not rfl ?_)
                    refine ta_take (i := 4) rfl (by kernel_rfl) gd_none (d_move rfl ?_)
                    refine ta_take (i := 5) rfl (by kernel_rfl) (gd_on rfl rfl rfl hb30) (d_field_own rfl fo54_1 ?_)
                    refine ta_take (i := 6) rfl (by kernel_rfl) (gd_on rfl rfl rfl hb30) (d_load_box_int 0 rfl rfl (Fld.at0 fl_Api_Item_Kind) trivial ty3 rfl (fun hw95 => ?_))
                    refine ta_take (i := 7) rfl (by kernel_rfl) (gd_on rfl rfl rfl hb30) (d_lss rfl rfl ?_)
                    refine ta_take (i := 8) rfl (by kernel_rfl) gd_none (d_pick_false rfl hb30 rfl ?_)
                    refine ta_take (i := 9) rfl (by kernel_rfl) gd_none (d_move rfl ?_)
                    refine ta_take (i := 10) rfl (by kernel_rfl) (gd_on rfl rfl rfl hb32) (d_field_own rfl fo54_1 ?_)
                    refine ta_take (i := 11) rfl (by kernel_rfl) (gd_on rfl rfl rfl hb32) (d_load_box_int 0 rfl rfl (Fld.at0 fl_Api_Item_Kind) trivial ty3 rfl (fun hw96 => ?_))
                    refine ta_take (i := 12) rfl (by kernel_rfl) (gd_on rfl rfl rfl hb32) (d_gtr rfl rfl ?_)
                    refine ta_take (i := 13) rfl (by kernel_rfl) gd_none (d_pick_false rfl hb32 rfl ?_)
                    refine ta_take (i := 14) rfl (by kernel_rfl) gd_none (d_move rfl ?_)
                    refine ta_take (i := 15) rfl (by kernel_rfl) (gd_on rfl rfl rfl hb34) (d_field_own rfl fo54_3 ?_)
                    refine ta_take (i := 16) rfl (by kernel_rfl) (gd_on rfl rfl rfl hb34) (d_load_box_int 0 rfl rfl (Fld.at0 fl_Api_Item_Size) trivial ty2 rfl (fun hw97 => ?_))
                    refine ta_take (i := 17) rfl (by kernel_rfl) (gd_on rfl rfl rfl hb34) (d_lss rfl rfl ?_)
                    refine ta_take (i := 18) rfl (by kernel_rfl) gd_none (d_pick_false rfl hb34 rfl ?_)
                    refine ta_take (i := 19) rfl (by kernel_rfl) gd_none (d_move rfl ?_)
                    refine ta_take (i := 20) rfl (by kernel_rfl) (gd_on rfl rfl rfl hb36) (d_field_own rfl fo54_1 ?_)
                    refine ta_take (i := 21) rfl (by kernel_rfl) (gd_on rfl rfl rfl hb36) (d_load_box_int 0 rfl rfl (Fld.at0 fl_Api_Item_Kind) trivial ty3 rfl (fun hw98 => ?_))
                    refine ta_take (i := 22) rfl (by kernel_rfl) (gd_on rfl rfl rfl hb36) (d_eql rfl rfl ?_)
                    refine ta_take (i := 23) rfl (by kernel_rfl) (gd_on rfl rfl rfl hb36) (d_move rfl ?_)
                    refine ta_take (i := 24) rfl (by kernel_rfl) (gd_on rfl rfl rfl hb38) (d_field_own rfl fo54_3 ?_)
                    refine ta_take (i := 25) rfl (by kernel_rfl) (gd_on rfl rfl rfl hb38) (d_load_box_int 0 rfl rfl (Fld.at0 fl_Api_Item_Size) trivial ty2 rfl (fun hw99 => ?_))
                    refine ta_take (i := 26) rfl (by kernel_rfl) (gd_on rfl rfl rfl hb38) (d_neq rfl rfl ?_)
                    refine ta_take (i := 27) rfl (by kernel_rfl) (gd_on rfl rfl rfl hb36) (d_pick_true rfl hb38 rfl ?_)
                    refine ta_take (i := 28) rfl (by kernel_rfl) gd_none (d_pick_false rfl hb36 rfl ?_)
                    refine ta_take (i := 29) rfl (by kernel_rfl) gd_none (d_move rfl ?_)
                    refine ta_off (i := 30) rfl (by kernel_rfl) (gd_off rfl rfl rfl hb40) ?_
                    refine ta_off (i := 31) rfl (by kernel_rfl) (gd_off rfl rfl rfl hb40) ?_
                    refine ta_off (i := 32) rfl (by kernel_rfl) (gd_off rfl rfl rfl hb40) ?_
                    refine ta_off (i := 33) rfl (by kernel_rfl) (gd_offu rfl rfl rfl) ?_
                    refine ta_off (i := 34) rfl (by kernel_rfl) (gd_offu rfl rfl rfl) ?_
                    refine ta_off (i := 35) rfl (by kernel_rfl) (gd_offu rfl rfl rfl) ?_
                    refine ta_off (i := 36) rfl (by kernel_rfl) (gd_offu rfl rfl rfl) ?_
                    refine ta_off (i := 37) rfl (by kernel_rfl) (gd_offu rfl rfl rfl) ?_
                    refine ta_off (i := 38) rfl (by kernel_rfl) (gd_offu rfl rfl rfl) ?_
                    refine ta_off (i := 39) rfl (by kernel_rfl) (gd_offu rfl rfl rfl) ?_
                    refine ta_off (i := 40) rfl (by kernel_rfl) (gd_offu rfl rfl rfl) ?_
                    refine ta_off (i := 41) rfl (by kernel_rfl) (gd_offu rfl rfl rfl) ?_
                    refine ta_off (i := 42) rfl (by kernel_rfl) (gd_off rfl rfl rfl hb40) ?_
                    refine ta_take (i := 43) rfl (by kernel_rfl) gd_none (d_pick_true rfl hb40 rfl ?_)
                    refine ta_done (by kernel_rfl) ?_
                    have hr := Option.some.inj hf; subst hr
                    exact q_cut true rfl ⟨rfl, ⟨rfl, ⟨rfl, trivial⟩⟩⟩ ⟨mem_at 4 rfl, trivial⟩ [] (Sel.nil) rfl
                  · have hf := if_f hb40 hf
                    rcases bool_tf (decide ((0 : Int) < s4)) with hb41 | hb41
                    · have hf := if_t hb41 hf
                      obtain ⟨hn42, hf⟩ := need_some hf
                      refine t_any (n := 44) [] mixed ⟨by kernel_rfl, .inl rfl⟩ (np_cut (np_then (np_block (np_then (np_then (np_block (np_then np_body))))))) ?_
                      refine ta_take (i := 0) rfl (by kernel_rfl) gd_none (d_field_own rfl fo54_0 ?_)
                      refine ta_take (i := 1) rfl (by kernel_rfl) gd_none (d_load_box 0 rfl rfl (Fld.at0 fl_Api_Item_Name) trivial ty9 rfl (fun v100 => ?_))
                      refine ta_one (i := 2) (by kernel_rfl) rfl rfl gd_none (g_call1 rfl hfn68 (cofferref15_MayName_ok _ _ _ _ hc26) (Evs.cons rfl Evs.nil) (fun a w hs => (hv_fact (mem_at 0 rfl)) _ _ _ _ hs) (fun v102 => ?_))
                      refine ta_bool (mem_at 0 rfl) (fun hv104 => ?_)
                      subst hv104
                      refine ta_take (i := 3) rfl (by kernel_rfl) gd_none (d_not rfl ?_)
                      refine ta_take (i := 4) rfl (by kernel_rfl) gd_none (d_move rfl ?_)
                      refine ta_take (i := 5) rfl (by kernel_rfl) (gd_on rfl rfl rfl hb30) (d_field_own rfl fo54_1 ?_)
                      refine ta_take (i := 6) rfl (by kernel_rfl) (gd_on rfl rfl rfl hb30) (d_load_box_int 0 rfl rfl (Fld.at0 fl_Api_Item_Kind) trivial ty3 rfl (fun hw105 => ?_))
                      refine ta_take (i := 7) rfl (by kernel_rfl) (gd_on rfl rfl rfl hb30) (d_lss rfl rfl ?_)
                      refine ta_take (i := 8) rfl (by kernel_rfl) gd_none (d_pick_false rfl hb30 rfl ?_)
                      refine ta_take (i := 9) rfl (by kernel_rfl) gd_none (d_move rfl ?_)
                      refine ta_take (i := 10) rfl (by kernel_rfl) (gd_on rfl rfl rfl hb32) (d_field_own rfl fo54_1 ?_)
                      refine ta_take (i := 11) rfl (by kernel_rfl) (gd_on rfl rfl rfl hb32) (d_load_box_int 0 rfl rfl (Fld.at0 fl_Api_Item_Kind) trivial ty3 rfl (fun hw106 => ?_))
                      refine ta_take (i := 12) rfl (by kernel_rfl) (gd_on rfl rfl rfl hb32) (d_gtr rfl rfl ?_)
                      refine ta_take (i := 13) rfl (by kernel_rfl) gd_none (d_pick_false rfl hb32 rfl ?_)
                      refine ta_take (i := 14) rfl (by kernel_rfl) gd_none (d_move rfl ?_)
                      refine ta_take (i := 15) rfl (by kernel_rfl) (gd_on rfl rfl rfl hb34) (d_field_own rfl fo54_3 ?_)
                      refine ta_take (i := 16) rfl (by kernel_rfl) (gd_on rfl rfl rfl hb34) (d_load_box_int 0 rfl rfl (Fld.at0 fl_Api_Item_Size) trivial ty2 rfl (fun hw107 => ?_))
                      refine ta_take (i := 17) rfl (by kernel_rfl) (gd_on rfl rfl rfl hb34) (d_lss rfl rfl ?_)
                      refine ta_take (i := 18) rfl (by kernel_rfl) gd_none (d_pick_false rfl hb34 rfl ?_)
                      refine ta_take (i := 19) rfl (by kernel_rfl) gd_none (d_move rfl ?_)
                      refine ta_take (i := 20) rfl (by kernel_rfl) (gd_on rfl rfl rfl hb36) (d_field_own rfl fo54_1 ?_)
                      refine ta_take (i := 21) rfl (by kernel_rfl) (gd_on rfl rfl rfl hb36) (d_load_box_int 0 rfl rfl (Fld.at0 fl_Api_Item_Kind) trivial ty3 rfl (fun hw108 => ?_))
                      refine ta_take (i := 22) rfl (by kernel_rfl) (gd_on rfl rfl rfl hb36) (d_eql rfl rfl ?_)
                      refine ta_take (i := 23) rfl (by kernel_rfl) (gd_on rfl rfl rfl hb36) (d_move rfl ?_)
                      refine ta_take (i := 24) rfl (by kernel_rfl) (gd_on rfl rfl rfl hb38) (d_field_own rfl fo54_3 ?_)
                      refine ta_take (i := 25) rfl (by kernel_rfl) (gd_on rfl rfl rfl hb38) (d_load_box_int 0 rfl rfl (Fld.at0 fl_Api_Item_Size) trivial ty2 rfl (fun hw109 => ?_))
                      refine ta_take (i := 26) rfl (by kernel_rfl) (gd_on rfl rfl rfl hb38) (d_neq rfl rfl ?_)
                      refine ta_take (i := 27) rfl (by kernel_rfl) (gd_on rfl rfl rfl hb36) (d_pick_true rfl hb38 rfl ?_)
                      refine ta_take (i := 28) rfl (by kernel_rfl) gd_none (d_pick_false rfl hb36 rfl ?_)
                      refine ta_take (i := 29) rfl (by kernel_rfl) gd_none (d_move rfl ?_)
                      refine ta_take (i := 30) rfl (by kernel_rfl) (gd_on rfl rfl rfl hb40) (d_move rfl ?_)
                      refine ta_take (i := 31) rfl (by kernel_rfl) (gd_on rfl rfl rfl hb40) (d_gtr rfl rfl ?_)
                      refine ta_take (i := 32) rfl (by kernel_rfl) (gd_on rfl rfl rfl hb40) (d_move rfl ?_)
                      refine ta_take (i := 33) rfl (by kernel_rfl) (gd_on rfl rfl rfl hb41) (d_move rfl ?_)
                      refine ta_take (i := 34) rfl (by kernel_rfl) (gd_on rfl rfl rfl hb41) (d_move rfl ?_)
                      refine ta_take (i := 35) rfl (by kernel_rfl) (gd_on rfl rfl rfl hb41) (d_sub rfl rfl ?_)
                      refine ta_take (i := 36) rfl (by kernel_rfl) (gd_on rfl rfl rfl hb41) (d_index_sl rfl (mem_at 4 rfl) rfl Try.underlying52 ty54 hn42 (fun p110 => ?_))
                      refine ta_take (i := 37) rfl (by kernel_rfl) (gd_on rfl rfl rfl hb41) (d_field_place rfl (mem_at 0 rfl) fo54_0 fl_Api_Item_Name trivial (fun p112 => ?_))
                      refine ta_take (i := 38) rfl (by kernel_rfl) (gd_on rfl rfl rfl hb41) (d_load_place rfl (mem_at 0 rfl) ty9 (fun v114 => ?_))
                      refine ta_take (i := 39) rfl (by kernel_rfl) (gd_on rfl rfl rfl hb41) (d_field_own rfl fo54_0 ?_)
                      refine ta_take (i := 40) rfl (by kernel_rfl) (gd_on rfl rfl rfl hb41) (d_load_box 0 rfl rfl (Fld.at0 fl_Api_Item_Name) trivial ty9 rfl (fun v116 => ?_))
                      refine ta_take (i := 41) rfl (by kernel_rfl) (gd_on rfl rfl rfl hb41) (d_str_cmp (!lexLt (((a0).getD ((IntKind.i64.wrap (s4 - (1 : Int)))).toNat rApi_Item.zeroD)).Name ((((a0).getD (s4).toNat rApi_Item.zeroD)).Name)) rfl rfl (mem_at 1 rfl) (mem_at 0 rfl) (.inr (.inr (.inr (.inr (.inr ⟨rfl, rfl⟩))))) ?_)
                      refine ta_take (i := 42) rfl (by kernel_rfl) (gd_on rfl rfl rfl hb40) (d_pick_true rfl hb41 rfl ?_)
                      refine ta_take (i := 43) rfl (by kernel_rfl) gd_none (d_pick_false rfl hb40 rfl ?_)
                      refine ta_done (by kernel_rfl) ?_
                      have hr := Option.some.inj hf; subst hr
                      exact q_cut (!lexLt (((a0).getD ((IntKind.i64.wrap (s4 - (1 : Int)))).toNat rApi_Item.zeroD)).Name ((((a0).getD (s4).toNat rApi_Item.zeroD)).Name)) rfl ⟨rfl, ⟨rfl, ⟨rfl, trivial⟩⟩⟩ ⟨mem_at 8 rfl, trivial⟩ [] (Sel.nil) rfl
                    · have hf := if_f hb41 hf
                      refine t_any (n := 44) [] mixed ⟨by kernel_rfl, .inl rfl⟩ (np_cut (np_then (np_block (np_then (np_then (np_block (np_then np_body))))))) ?_
                      refine ta_take (i := 0) rfl (by kernel_rfl) gd_none (d_field_own rfl fo54_0 ?_)
                      refine ta_take (i := 1) rfl (by kernel_rfl) gd_none (d_load_box 0 rfl rfl (Fld.at0 fl_Api_Item_Name) trivial ty9 rfl (fun v118 => ?_))
                      refine ta_one (i := 2) (by kernel_rfl) rfl rfl gd_none (g_call1 rfl hfn68 (cofferref15_MayName_ok _ _ _ _ hc26) (Evs.cons rfl Evs.nil) (fun a w hs => (hv_fact (mem_at 0 rfl)) _ _ _ _ hs) (fun v120 => ?_))
                      refine ta_bool (mem_at 0 rfl) (fun hv122 => ?_)
                      subst hv122
                      refine ta_take (i := 3) rfl (by kernel_rfl) gd_none (d_not rfl ?_)
                      refine ta_take (i := 4) rfl (by kernel_rfl) gd_none (d_move rfl ?_)
                      refine ta_take (i := 5) rfl (by kernel_rfl) (gd_on rfl rfl rfl hb30) (d_field_own rfl fo54_1 ?_)
                      refine ta_take (i := 6) rfl (by kernel_rfl) (gd_on rfl rfl rfl hb30) (d_load_box_int 0 rfl rfl (Fld.at0 fl_Api_Item_Kind) trivial ty3 rfl (fun hw123 => ?_))
                      refine ta_take (i := 7) rfl (by kernel_rfl) (gd_on rfl rfl rfl hb30) (d_lss rfl rfl ?_)
                      refine ta_take (i := 8) rfl (by kernel_rfl) gd_none (d_pick_false rfl hb30 rfl ?_)
                      refine ta_take (i := 9) rfl (by kernel_rfl) gd_none (d_move rfl ?_)
                      refine ta_take (i := 10) rfl (by kernel_rfl) (gd_on rfl rfl rfl hb32) (d_field_own rfl fo54_1 ?_)
                      refine ta_take (i := 11) rfl (by kernel_rfl) (gd_on rfl rfl rfl hb32) (d_load_box_int 0 rfl rfl (Fld.at0 fl_Api_Item_Kind) trivial ty3 rfl (fun hw124 => ?_))
                      refine ta_take (i := 12) rfl (by kernel_rfl) (gd_on rfl rfl rfl hb32) (d_gtr rfl rfl ?_)
                      refine ta_take (i := 13) rfl (by kernel_rfl) gd_none (d_pick_false rfl hb32 rfl ?_)
                      refine ta_take (i := 14) rfl (by kernel_rfl) gd_none (d_move rfl ?_)
                      refine ta_take (i := 15) rfl (by kernel_rfl) (gd_on rfl rfl rfl hb34) (d_field_own rfl fo54_3 ?_)
                      refine ta_take (i := 16) rfl (by kernel_rfl) (gd_on rfl rfl rfl hb34) (d_load_box_int 0 rfl rfl (Fld.at0 fl_Api_Item_Size) trivial ty2 rfl (fun hw125 => ?_))
                      refine ta_take (i := 17) rfl (by kernel_rfl) (gd_on rfl rfl rfl hb34) (d_lss rfl rfl ?_)
                      refine ta_take (i := 18) rfl (by kernel_rfl) gd_none (d_pick_false rfl hb34 rfl ?_)
                      refine ta_take (i := 19) rfl (by kernel_rfl) gd_none (d_move rfl ?_)
                      refine ta_take (i := 20) rfl (by kernel_rfl) (gd_on rfl rfl rfl hb36) (d_field_own rfl fo54_1 ?_)
                      refine ta_take (i := 21) rfl (by kernel_rfl) (gd_on rfl rfl rfl hb36) (d_load_box_int 0 rfl rfl (Fld.at0 fl_Api_Item_Kind) trivial ty3 rfl (fun hw126 => ?_))
                      refine ta_take (i := 22) rfl (by kernel_rfl) (gd_on rfl rfl rfl hb36) (d_eql rfl rfl ?_)
                      refine ta_take (i := 23) rfl (by kernel_rfl) (gd_on rfl rfl rfl hb36) (d_move rfl ?_)
                      refine ta_take (i := 24) rfl (by kernel_rfl) (gd_on rfl rfl rfl hb38) (d_field_own rfl fo54_3 ?_)
                      refine ta_take (i := 25) rfl (by kernel_rfl) (gd_on rfl rfl rfl hb38) (d_load_box_int 0 rfl rfl (Fld.at0 fl_Api_Item_Size) trivial ty2 rfl (fun hw127 => ?_))
                      refine ta_take (i := 26) rfl (by kernel_rfl) (gd_on rfl rfl rfl hb38) (d_neq rfl rfl ?_)
                      refine ta_take (i := 27) rfl (by kernel_rfl) (gd_on rfl rfl rfl hb36) (d_pick_true rfl hb38 rfl ?_)
                      refine ta_take (i := 28) rfl (by kernel_rfl) gd_none (d_pick_false rfl hb36 rfl ?_)
                      refine ta_take (i := 29) rfl (by kernel_rfl) gd_none (d_move rfl ?_)
                      refine ta_take (i := 30) rfl (by kernel_rfl) (gd_on rfl rfl rfl hb40) (d_move rfl ?_)
                      refine ta_take (i := 31) rfl (by kernel_rfl) (gd_on rfl rfl rfl hb40) (d_gtr rfl rfl ?_)
                      refine ta_take (i := 32) rfl (by kernel_rfl) (gd_on rfl rfl rfl hb40) (d_move rfl ?_)
                      refine ta_off (i := 33) rfl (by kernel_rfl) (gd_off rfl rfl rfl hb41) ?_
                      refine ta_off (i := 34) rfl (by kernel_rfl) (gd_off rfl rfl rfl hb41) ?_
                      refine ta_off (i := 35) rfl (by kernel_rfl) (gd_off rfl rfl rfl hb41) ?_
                      refine ta_off (i := 36) rfl (by kernel_rfl) (gd_off rfl rfl rfl hb41) ?_
                      refine ta_off (i := 37) rfl (by kernel_rfl) (gd_off rfl rfl rfl hb41) ?_
                      refine ta_off (i := 38) rfl (by kernel_rfl) (gd_off rfl rfl rfl hb41) ?_
                      refine ta_off (i := 39) rfl (by kernel_rfl) (gd_off rfl rfl rfl hb41) ?_
                      refine ta_off (i := 40) rfl (by kernel_rfl) (gd_off rfl rfl rfl hb41) ?_
                      refine ta_off (i := 41) rfl (by kernel_rfl) (gd_off rfl rfl rfl hb41) ?_
                      refine ta_take (i := 42) rfl (by kernel_rfl) (gd_on rfl rfl rfl hb40) (d_pick_false rfl hb41 rfl ?_)
                      refine ta_take (i := 43) rfl (by kernel_rfl) gd_none (d_pick_false rfl hb40 rfl ?_)
                      refine ta_done (by kernel_rfl) ?_
                      have hr := Option.some.inj hf; subst hr
                      exact q_cut false rfl ⟨rfl, ⟨rfl, ⟨rfl, trivial⟩⟩⟩ ⟨mem_at 4 rfl, trivial⟩ [] (Sel.nil) rfl
                · have hf := if_f hb38 hf
                  rcases bool_tf (decide ((0 : Int) < s4)) with hb51 | hb51
                  · have hf := if_t hb51 hf
                    obtain ⟨hn52, hf⟩ := need_some hf
                    refine t_any (n := 44) [] mixed ⟨by kernel_rfl, .inl rfl⟩ (np_cut (np_then (np_block (np_then (np_then (np_block (np_then np_body))))))) ?_
                    refine ta_take (i := 0) rfl (by kernel_rfl) gd_none (d_field_own rfl fo54_0 ?_)
                    refine ta_take (i := 1) rfl (by kernel_rfl) gd_none (d_load_box 0 rfl rfl (Fld.at0 fl_Api_Item_Name) trivial ty9 rfl (fun v128 => ?_))
                    refine ta_one (i := 2) (by kernel_rfl) rfl rfl gd_none (g_call1 rfl hfn68 (cofferref15_MayName_ok _ _ _ _ hc26) (Evs.cons rfl Evs.nil) (fun a w hs => (hv_fact (mem_at 0 rfl)) _ _ _ _ hs) (fun v130 => ?_))
                    refine ta_bool (mem_at 0 rfl) (fun hv132 => ?_)
                    subst hv132
                    refine ta_take (i := 3) rfl (by kernel_rfl) gd_none (d_not rfl ?_)
                    refine ta_take (i := 4) rfl (by kernel_rfl) gd_none (d_move rfl ?_)
                    refine ta_take (i := 5) rfl (by kernel_rfl) (gd_on rfl rfl rfl hb30) (d_field_own rfl fo54_1 ?_)
                    refine ta_take (i := 6) rfl (by kernel_rfl) (gd_on rfl rfl rfl hb30) (d_load_box_int 0 rfl rfl (Fld.at0 fl_Api_Item_Kind) trivial ty3 rfl (fun hw133 => ?_))
                    refine ta_take (i := 7) rfl (by kernel_rfl) (gd_on rfl rfl rfl hb30) (d_lss rfl rfl ?_)
                    refine ta_take (i := 8) rfl (by kernel_rfl) gd_none (d_pick_false rfl hb30 rfl ?_)
                    refine ta_take (i := 9) rfl (by kernel_rfl) gd_none (d_move rfl ?_)
                    refine ta_take (i := 10) rfl (by kernel_rfl) (gd_on rfl rfl rfl hb32) (d_field_own rfl fo54_1 ?_)
                    refine ta_take (i := 11) rfl (by kernel_rfl) (gd_on rfl rfl rfl hb32) (d_load_box_int 0 rfl rfl (Fld.at0 fl_Api_Item_Kind) trivial ty3 rfl (fun hw134 => ?_))
                    refine ta_take (i := 12) rfl (by kernel_rfl) (gd_on rfl rfl rfl hb32) (d_gtr rfl rfl ?_)
                    refine ta_take (i := 13) rfl (by kernel_rfl) gd_none (d_pick_false rfl hb32 rfl ?_)
                    refine ta_take (i := 14) rfl (by kernel_rfl) gd_none (d_move rfl ?_)
                    refine ta_take (i := 15) rfl (by kernel_rfl) (gd_on rfl rfl rfl hb34) (d_field_own rfl fo54_3 ?_)
                    refine ta_take (i := 16) rfl (by kernel_rfl) (gd_on rfl rfl rfl hb34) (d_load_box_int 0 rfl rfl (Fld.at0 fl_Api_Item_Size) trivial ty2 rfl (fun hw135 => ?_))
                    refine ta_take (i := 17) rfl (by kernel_rfl) (gd_on rfl rfl rfl hb34) (d_lss rfl rfl ?_)
                    refine ta_take (i := 18) rfl (by kernel_rfl) gd_none (d_pick_false rfl hb34 rfl ?_)
                    refine ta_take (i := 19) rfl (by kernel_rfl) gd_none (d_move rfl ?_)
                    refine ta_take (i := 20) rfl (by kernel_rfl) (gd_on rfl rfl rfl hb36) (d_field_own rfl fo54_1 ?_)
                    refine ta_take (i := 21) rfl (by kernel_rfl) (gd_on rfl rfl rfl hb36) (d_load_box_int 0 rfl rfl (Fld.at0 fl_Api_Item_Kind) trivial ty3 rfl (fun hw136 => ?_))
                    refine ta_take (i := 22) rfl (by kernel_rfl) (gd_on rfl rfl rfl hb36) (d_eql rfl rfl ?_)
                    refine ta_take (i := 23) rfl (by kernel_rfl) (gd_on rfl rfl rfl hb36) (d_move rfl ?_)
                    refine ta_off (i := 24) rfl (by kernel_rfl) (gd_off rfl rfl rfl hb38) ?_
                    refine ta_off (i := 25) rfl (by kernel_rfl) (gd_off rfl rfl rfl hb38) ?_
                    refine ta_off (i := 26) rfl (by kernel_rfl) (gd_off rfl rfl rfl hb38) ?_
                    refine ta_take (i := 27) rfl (by kernel_rfl) (gd_on rfl rfl rfl hb36) (d_pick_false rfl hb38 rfl ?_)
                    refine ta_take (i := 28) rfl (by kernel_rfl) gd_none (d_pick_false rfl hb36 rfl ?_)
                    refine ta_take (i := 29) rfl (by kernel_rfl) gd_none (d_move rfl ?_)
                    refine ta_take (i := 30) rfl (by kernel_rfl) (gd_on rfl rfl rfl rfl) (d_move rfl ?_)
                    refine ta_take (i := 31) rfl (by kernel_rfl) (gd_on rfl rfl rfl rfl) (d_gtr rfl rfl ?_)
                    refine ta_take (i := 32) rfl (by kernel_rfl) (gd_on rfl rfl rfl rfl) (d_move rfl ?_)
                    refine ta_take (i := 33) rfl (by kernel_rfl) (gd_on rfl rfl rfl hb51) (d_move rfl ?_)
                    refine ta_take (i := 34) rfl (by kernel_rfl) (gd_on rfl rfl rfl hb51) (d_move rfl ?_)
                    refine ta_take (i := 35) rfl (by kernel_rfl) (gd_on rfl rfl rfl hb51) (d_sub rfl rfl ?_)
                    refine ta_take (i := 36) rfl (by kernel_rfl) (gd_on rfl rfl rfl hb51) (d_index_sl rfl (mem_at 4 rfl) rfl Try.underlying52 ty54 hn52 (fun p137 => ?_))
                    refine ta_take (i := 37) rfl (by kernel_rfl) (gd_on rfl rfl rfl hb51) (d_field_place rfl (mem_at 0 rfl) fo54_0 fl_Api_Item_Name trivial (fun p139 => ?_))
                    refine ta_take (i := 38) rfl (by kernel_rfl) (gd_on rfl rfl rfl hb51) (d_load_place rfl (mem_at 0 rfl) ty9 (fun v141 => ?_))
                    refine ta_take (i := 39) rfl (by kernel_rfl) (gd_on rfl rfl rfl hb51) (d_field_own rfl fo54_0 ?_)
                    refine ta_take (i := 40) rfl (by kernel_rfl) (gd_on rfl rfl rfl hb51) (d_load_box 0 rfl rfl (Fld.at0 fl_Api_Item_Name) trivial ty9 rfl (fun v143 => ?_))
                    refine ta_take (i := 41) rfl (by kernel_rfl) (gd_on rfl rfl rfl hb51) (d_str_cmp (!lexLt (((a0).getD ((IntKind.i64.wrap (s4 - (1 : Int)))).toNat rApi_Item.zeroD)).Name ((((a0).getD (s4).toNat rApi_Item.zeroD)).Name)) rfl rfl (mem_at 1 rfl) (mem_at 0 rfl) (.inr (.inr (.inr (.inr (.inr ⟨rfl, rfl⟩))))) ?_)
                    refine ta_take (i := 42) rfl (by kernel_rfl) (gd_on rfl rfl rfl rfl) (d_pick_true rfl hb51 rfl ?_)
                    refine ta_take (i := 43) rfl (by kernel_rfl) gd_none (d_pick_false rfl rfl rfl ?_)
                    refine ta_done (by kernel_rfl) ?_
                    have hr := Option.some.inj hf; subst hr
                    exact q_cut (!lexLt (((a0).getD ((IntKind.i64.wrap (s4 - (1 : Int)))).toNat rApi_Item.zeroD)).Name ((((a0).getD (s4).toNat rApi_Item.zeroD)).Name)) rfl ⟨rfl, ⟨rfl, ⟨rfl, trivial⟩⟩⟩ ⟨mem_at 8 rfl, trivial⟩ [] (Sel.nil) rfl
                  · have hf := if_f hb51 hf
                    refine t_any (n := 44) [] mixed ⟨by kernel_rfl, .inl rfl⟩ (np_cut (np_then (np_block (np_then (np_then (np_block (np_then np_body))))))) ?_
                    refine ta_take (i := 0) rfl (by kernel_rfl) gd_none (d_field_own rfl fo54_0 ?_)
                    refine ta_take (i := 1) rfl (by kernel_rfl) gd_none (d_load_box 0 rfl rfl (Fld.at0 fl_Api_Item_Name) trivial ty9 rfl (fun v145 => ?_))
                    refine ta_one (i := 2) (by kernel_rfl) rfl rfl gd_none (g_call1 rfl hfn68 (cofferref15_MayName_ok _ _ _ _ hc26) (Evs.cons rfl Evs.nil) (fun a w hs => (hv_fact (mem_at 0 rfl)) _ _ _ _ hs) (fun v147 => ?_))
                    refine ta_bool (mem_at 0 rfl) (fun hv149 => ?_)
                    subst hv149
                    refine ta_take (i := 3) rfl (by kernel_rfl) gd_none (d_not rfl ?_)
                    refine ta_take (i := 4) rfl (by kernel_rfl) gd_none (d_move rfl ?_)
                    refine ta_take (i := 5) rfl (by kernel_rfl) (gd_on rfl rfl rfl hb30) (d_field_own rfl fo54_1 ?_)
                    refine ta_take (i := 6) rfl (by kernel_rfl) (gd_on rfl rfl rfl hb30) (d_load_box_int 0 rfl rfl (Fld.at0 fl_Api_Item_Kind) trivial ty3 rfl (fun hw150 => ?_))
                    refine ta_take (i := 7) rfl (by kernel_rfl) (gd_on rfl rfl rfl hb30) (d_lss rfl rfl ?_)
                    refine ta_take (i := 8) rfl (by kernel_rfl) gd_none (d_pick_false rfl hb30 rfl ?_)
                    refine ta_take (i := 9) rfl (by kernel_rfl) gd_none (d_move rfl ?_)
                    refine ta_take (i := 10) rfl (by kernel_rfl) (gd_on rfl rfl rfl hb32) (d_field_own rfl fo54_1 ?_)
                    refine ta_take (i := 11) rfl (by kernel_rfl) (gd_on rfl rfl rfl hb32) (d_load_box_int 0 rfl rfl (Fld.at0 fl_Api_Item_Kind) trivial ty3 rfl (fun hw151 => ?_))
                    refine ta_take (i := 12) rfl (by kernel_rfl) (gd_on rfl rfl rfl hb32) (d_gtr rfl rfl ?_)
                    refine ta_take (i := 13) rfl (by kernel_rfl) gd_none (d_pick_false rfl hb32 rfl ?_)
                    refine ta_take (i := 14) rfl (by kernel_rfl) gd_none (d_move rfl ?_)
                    refine ta_take (i := 15) rfl (by kernel_rfl) (gd_on rfl rfl rfl hb34) (d_field_own rfl fo54_3 ?_)
                    refine ta_take (i := 16) rfl (by kernel_rfl) (gd_on rfl rfl rfl hb34) (d_load_box_int 0 rfl rfl (Fld.at0 fl_Api_Item_Size) trivial ty2 rfl (fun hw152 => ?_))
                    refine ta_take (i := 17) rfl (by kernel_rfl) (gd_on rfl rfl rfl hb34) (d_lss rfl rfl ?_)
                    refine ta_take (i := 18) rfl (by kernel_rfl) gd_none (d_pick_false rfl hb34 rfl ?_)
                    refine ta_take (i := 19) rfl (by kernel_rfl) gd_none (d_move rfl ?_)
                    refine ta_take (i := 20) rfl (by kernel_rfl) (gd_on rfl rfl rfl hb36) (d_field_own rfl fo54_1 ?_)
                    refine ta_take (i := 21) rfl (by kernel_rfl) (gd_on rfl rfl rfl hb36) (d_load_box_int 0 rfl rfl (Fld.at0 fl_Api_Item_Kind) trivial ty3 rfl (fun hw153 => ?_))
                    refine ta_take (i := 22) rfl (by kernel_rfl) (gd_on rfl rfl rfl hb36) (d_eql rfl rfl ?_)
                    refine ta_take (i := 23) rfl (by kernel_rfl) (gd_on rfl rfl rfl hb36) (d_move rfl ?_)
                    refine ta_off (i := 24) rfl (by kernel_rfl) (gd_off rfl rfl rfl hb38) ?_
                    refine ta_off (i := 25) rfl (by kernel_rfl) (gd_off rfl rfl rfl hb38) ?_
                    refine ta_off (i := 26) rfl (by kernel_rfl) (gd_off rfl rfl rfl hb38) ?_
                    refine ta_take (i := 27) rfl (by kernel_rfl) (gd_on rfl rfl rfl hb36) (d_pick_false rfl hb38 rfl ?_)
                    refine ta_take (i := 28) rfl (by kernel_rfl) gd_none (d_pick_false rfl hb36 rfl ?_)
                    refine ta_take (i := 29) rfl (by kernel_rfl) gd_none (d_move rfl ?_)
                    refine ta_take (i := 30) rfl (by kernel_rfl) (gd_on rfl rfl rfl rfl) (d_move rfl ?_)
                    refine ta_take (i := 31) rfl (by kernel_rfl) (gd_on rfl rfl rfl rfl) (d_gtr rfl rfl ?_)
                    refine ta_take (i := 32) rfl (by kernel_rfl) (gd_on rfl rfl rfl rfl) (d_move rfl ?_)
                    refine ta_off (i := 33) rfl (by kernel_rfl) (gd_off rfl rfl rfl hb51) ?_
                    refine ta_off (i := 34) rfl (by kernel_rfl) (gd_off rfl rfl rfl hb51) ?_
                    refine ta_off (i := 35) rfl (by kernel_rfl) (gd_off rfl rfl rfl hb51) ?_
                    refine ta_off (i := 36) rfl (by kernel_rfl) (gd_off rfl rfl rfl hb51) ?_
                    refine ta_off (i := 37) rfl (by kernel_rfl) (gd_off rfl rfl rfl hb51) ?_
                    refine ta_off (i := 38) rfl (by kernel_rfl) (gd_off rfl rfl rfl hb51) ?_
                    refine ta_off (i := 39) rfl (by kernel_rfl) (gd_off rfl rfl rfl hb51) ?_
                    refine ta_off (i := 40) rfl (by kernel_rfl) (gd_off rfl rfl rfl hb51) ?_
                    refine ta_off (i := 41) rfl (by kernel_rfl) (gd_off rfl rfl rfl hb51) ?_
                    refine ta_take (i := 42) rfl (by kernel_rfl) (gd_on rfl rfl rfl rfl) (d_pick_false rfl hb51 rfl ?_)
                    refine ta_take (i := 43) rfl (by kernel_rfl) gd_none (d_pick_false rfl rfl rfl ?_)
                    refine ta_done (by kernel_rfl) ?_
                    have hr := Option.some.inj hf; subst hr
                    exact q_cut false rfl ⟨rfl, ⟨rfl, ⟨rfl, trivial⟩⟩⟩ ⟨mem_at 4 rfl, trivial⟩ [] (Sel.nil) rfl
      rintro s61 rfl
      refine q_then_code ?_
      refine t_cond rfl (fun hb154 => ?_) (fun hb154 => ?_)
      · have hf := if_t hb154 hf
        refine t_seq ?_
        refine t_region ?_
        refine tl_d rfl (d_assign rfl ?_)
        refine tl_nil ?_
        refine q_then_code ?_
        refine t_ret ?_
        refine q_block_ret ?_
        refine q_then_ret ?_
        refine q_then_ret ?_
        have hr := Option.some.inj hf; try subst hr
        have hf := hout5
        refine q_block_ret ?_
        refine q_then_ret ?_
        have hr := Option.some.inj hf; subst hr
        refine q_ret (post := fun w w' m v => rBool.val w' m v false) hR _ (.inl rfl) (fun a w hs => ?_)
        exact ⟨_, run_results rfl (RvOk.cons (rv_tmp hs rfl) RvOk.nil), (hs.hv hv_bool)⟩
      · have hf := if_f hb154 hf
        refine t_skip ?_
        refine q_block_normal ?_
        refine q_then_code ?_
        refine t_region ?_
        refine tl_d rfl (d_move rfl ?_)
        refine tl_d rfl (d_add rfl rfl ?_)
        refine tl_d rfl (d_assign rfl ?_)
        refine tl_nil ?_
        exact q_round kq6 (IntKind.i64.wrap (s4 + (1 : Int))) (Nat.lt_succ_self kq6) (wrap_wrap _ _) hf ⟨rfl, ⟨rfl, trivial⟩⟩ ⟨mem_at 0 rfl, trivial⟩ [] (Sel.nil) rfl
    · have hf := if_f hb11 hf
      refine t_exit ?_
      refine q_then_exit ?_
      refine q_then_exit ?_
      have hr := Option.some.inj hf; try subst hr
      have hf := hout5
      try dsimp only at hf
      refine q_block_hit ?_
      refine q_then_code ?_
      refine t_seq ?_
      refine t_region ?_
      refine tl_d rfl (d_assign rfl ?_)
      refine tl_nil ?_
      refine q_then_code ?_
      refine t_ret ?_
      have hr := Option.some.inj hf; subst hr
      refine q_ret (post := fun w w' m v => rBool.val w' m v true) hR _ (.inl rfl) (fun a w hs => ?_)
      exact ⟨_, run_results rfl (RvOk.cons (rv_tmp hs rfl) RvOk.nil), (hs.hv hv_bool)⟩

def cofferref1_Count.l0 : Nat → Int → (List Int) → Option (Int × (List Int))
  | 0, _, _ => none
  | k + 1, s6, s7 => (if (decide ((128 : Int) ≤ s6)) = true then (need (fits 1 ((s7).length + ([(IntKind.u8.wrap (IntKind.u64.wrap ((s6.tmod (128 : Int)) + (128 : Int))))]).length)) ((cofferref1_Count.l0 k (IntKind.u64.wrap (s6.tdiv (128 : Int))) (s7 ++ [(IntKind.u8.wrap (IntKind.u64.wrap ((s6.tmod (128 : Int)) + (128 : Int))))])))) else (some ((s6, s7))))
def cofferref1_Count.f (k : Nat) (a0 : (List Int)) (a1 : Int) : Option ((List Int)) := (need (fits 1 ((([] : List Int)).length + (a0).length)) ((cofferref1_Count.l0 k a1 (([] : List Int) ++ a0)).bind fun o24 => (match o24 with | (s6, s7) => (need (fits 1 ((s7).length + ([(IntKind.u8.wrap s6)]).length)) ((some (s7 ++ [(IntKind.u8.wrap s6)])))))))
set_option maxRecDepth 100000 in
set_option maxHeartbeats 860000 in
theorem cofferref1_Count_ok (k : Nat) (a0 : (List Int)) (a1 : Int) (u0 : Value) (r : (List Int)) (hf : cofferref1_Count.f k a0 a1 = some r) : Cf.FnX true Try.prog 55 [u0, (.int .u64 a1)] (fun w m => (rSl 1 (rInt .u8)).val w m u0 a0 ∧ (rInt .u64).val w m (.int .u64 a1) a1) (fun w w' m v => OwnRes (rInt .u8) 1 w w' m v r) := by
  unfold cofferref1_Count.f at hf
  refine fn_of Try.func55 rfl (Nat.le_of_ble_eq_true rfl) [(rSl 1 (rInt .u8)).fact u0 a0, (rInt .u64).fact (.int .u64 a1) a1] (fun w m h f hf => ?_) ?_
  · simp at hf; rcases hf with rfl | rfl
    · exact h.1
    · exact h.2
  intro w0 m0 R hR
  refine t_int (mem_at 1 rfl) (fun _ hw1 => ?_)
  refine t_seq ?_
  refine t_region ?_
  refine tl_d rfl (d_assign rfl ?_)
  refine tl_nil ?_
  refine q_then_code ?_
  refine t_seq ?_
  obtain ⟨hn2, hf⟩ := need_some hf
  refine t_region ?_
  refine tl_g [] rfl (g_buildSlice (R := (rInt .u8)) (l := []) rfl Try.underlying32 ty5 ⟨rfl, by decide, by decide, by decide⟩ PartsOk.nil rfl (fun v4 => ?_))
  refine tl_d rfl (d_move rfl ?_)
  refine tl_g _ rfl (g_append_sl (l2 := a0) 0 rfl rfl rfl rfl (hv_fact (mem_at 0 rfl)) Try.underlying32 ⟨_, Try.underlying32, fun k h => by cases h⟩ ty5 hn2 (List.mem_singleton_self _) (fun v5 => ?_))
  refine tl_d rfl (d_assign rfl ?_)
  refine tl_nil ?_
  refine q_then_code ?_
  refine t_seq ?_
  refine t_block ?_
  obtain ⟨o24, ho25, hf⟩ := bind_some hf
  refine t_loop (X := Int × (List Int) × Value) (O := Int × (List Int)) (fun kl x => match x with | (s6, s7, z8) => cofferref1_Count.l0 kl s6 s7) o24 (fun x => match x with | (s6, s7, z8) => (([(1, .int .u64 s6), (5, z8)], [], [Own.buf z8 1 (rInt .u8) s7]) : Sym)) (fun x => match x with | (s6, s7, z8) => IntKind.u64.wrap s6 = s6) k (a1, (([] : List Int) ++ a0), v5) ho25 hw1 ⟨rfl, ⟨rfl, trivial⟩⟩ trivial [0] (Sel.cons rfl Sel.nil) rfl ?_
  clear ho25
  rintro k12 ⟨s6, s7, z8⟩ hw_s6 hk11
  have hout9 := hf; clear hf
  obtain ⟨kq10, rfl⟩ : ∃ q, k12 = q + 1 := by cases k12 with | zero => cases hk11 | succ q => exact ⟨q, rfl⟩
  have hf := hk11
  clear hk11; dsimp only [cofferref1_Count.l0] at hf
  refine t_seq ?_
  refine t_seq ?_
  refine t_region ?_
  refine tl_d rfl (d_move rfl ?_)
  refine tl_d rfl (d_geq rfl rfl ?_)
  refine tl_nil ?_
  refine q_then_code ?_
  refine t_cond rfl (fun hb13 => ?_) (fun hb13 => ?_)
  · have hf := if_t hb13 hf
    refine t_skip ?_
    refine q_then_code ?_
    refine t_block ?_
    refine t_seq ?_
    obtain ⟨hn15, hf⟩ := need_some hf
    refine t_region ?_
    refine tl_d rfl (d_move rfl ?_)
    refine tl_d rfl (d_move rfl ?_)
    refine tl_d rfl (d_rem rfl rfl (by decide) ?_)
    refine tl_d rfl (d_add rfl rfl ?_)
    refine tl_d rfl (d_conv Try.underlying91 Try.underlying5 rfl ?_)
    refine tl_g [] rfl (g_buildSlice (R := (rInt .u8)) (l := [(IntKind.u8.wrap (IntKind.u64.wrap ((s6.tmod (128 : Int)) + (128 : Int))))]) rfl Try.underlying32 ty5 ⟨rfl, by decide, by decide, by decide⟩ (PartsOk.cons rfl rfl (hv_int (wrap_wrap _ _)) PartsOk.nil) rfl (fun v17 => ?_))
    refine tl_g _ rfl (g_append_buf 0 1 rfl rfl rfl rfl rfl rfl Try.underlying32 ⟨_, Try.underlying32, fun k h => by cases h⟩ ty5 hn15 (List.mem_singleton_self _) (fun v18 => ?_))
    refine tl_d rfl (d_assign rfl ?_)
    refine tl_nil ?_
    refine q_then_code ?_
    refine t_region ?_
    refine tl_d rfl (d_move rfl ?_)
    refine tl_d rfl (d_quo rfl rfl (by decide) ?_)
    refine tl_d rfl (d_assign rfl ?_)
    refine tl_nil ?_
    refine q_block_normal ?_
    exact q_round kq10 ((IntKind.u64.wrap (s6.tdiv (128 : Int))), (s7 ++ [(IntKind.u8.wrap (IntKind.u64.wrap ((s6.tmod (128 : Int)) + (128 : Int))))]), v18) (Nat.lt_succ_self kq10) (wrap_wrap _ _) hf ⟨rfl, ⟨rfl, trivial⟩⟩ trivial [0] (Sel.cons rfl Sel.nil) rfl
  · have hf := if_f hb13 hf
    refine t_exit ?_
    refine q_then_exit ?_
    refine q_then_exit ?_
    have hr := Option.some.inj hf; try subst hr
    have hf := hout9
    try dsimp only at hf
    refine q_block_hit ?_
    refine q_then_code ?_
    refine t_seq ?_
    obtain ⟨hn20, hf⟩ := need_some hf
    refine t_region ?_
    refine tl_d rfl (d_move rfl ?_)
    refine tl_d rfl (d_move rfl ?_)
    refine tl_d rfl (d_conv Try.underlying91 Try.underlying5 rfl ?_)
    refine tl_g [] rfl (g_buildSlice (R := (rInt .u8)) (l := [(IntKind.u8.wrap s6)]) rfl Try.underlying32 ty5 ⟨rfl, by decide, by decide, by decide⟩ (PartsOk.cons rfl rfl (hv_int (wrap_wrap _ _)) PartsOk.nil) rfl (fun v22 => ?_))
    refine tl_g _ rfl (g_append_buf 0 1 rfl rfl rfl rfl rfl rfl Try.underlying32 ⟨_, Try.underlying32, fun k h => by cases h⟩ ty5 hn20 (List.mem_singleton_self _) (fun v23 => ?_))
    refine tl_d rfl (d_assign rfl ?_)
    refine tl_nil ?_
    refine q_then_code ?_
    refine t_ret ?_
    have hr := Option.some.inj hf; subst hr
    refine q_ret (post := fun w w' m v => OwnRes (rInt .u8) 1 w w' m v (s7 ++ [(IntKind.u8.wrap s6)])) hR _ (.inl rfl) (fun a w hs => ?_)
    exact ⟨_, run_results rfl (RvOk.cons (rv_tmp hs rfl) RvOk.nil), (hs.ownres (i := 0) rfl)⟩

def cofferref1_Text.f (k : Nat) (a0 : (List Int)) (a1 : (List Int)) : Option ((List Int) × Int) := (if (decide ((65536 : Int) < ((a1).length : Int))) = true then (some (([] : (List Int)), (2 : Int))) else ((cofferref1_Count.f k a0 ((a1).length : Int)).bind fun c5 => need (fits 1 ((c5).length + (a1).length)) ((some ((c5 ++ a1), (0 : Int))))))
set_option maxRecDepth 100000 in
set_option maxHeartbeats 540000 in
theorem cofferref1_Text_ok (k : Nat) (a0 : (List Int)) (a1 : (List Int)) (u0 u1 : Value) (r : (List Int) × Int) (hf : cofferref1_Text.f k a0 a1 = some r) : Cf.FnX true Try.prog 56 [u0, u1] (fun w m => (rSl 1 (rInt .u8)).val w m u0 a0 ∧ (rSl 1 (rInt .u8)).val w m u1 a1) (fun w w' m v => ∃ v0 v1, v = .tuple #[v0, v1] ∧ OwnRes (rInt .u8) 1 w w' m v0 r.1 ∧ ∀ m', (∀ b, b ∈ m' → b ∈ m ∨ bufBlk v0 = some b) → (rInt .i64).val w' m' v1 r.2) := by
  unfold cofferref1_Text.f at hf
  refine fn_of Try.func56 rfl (Nat.le_of_ble_eq_true rfl) [(rSl 1 (rInt .u8)).fact u0 a0, (rSl 1 (rInt .u8)).fact u1 a1] (fun w m h f hf => ?_) ?_
  · simp at hf; rcases hf with rfl | rfl
    · exact h.1
    · exact h.2
  intro w0 m0 R hR
  refine t_seq ?_
  refine t_region ?_
  refine tl_d rfl (d_assign rfl ?_)
  refine tl_d rfl (d_assign rfl ?_)
  refine tl_nil ?_
  refine q_then_code ?_
  refine t_seq ?_
  refine t_seq ?_
  refine t_region ?_
  refine tl_d rfl (d_move rfl ?_)
  refine tl_d rfl (d_len_sl rfl (mem_at 1 rfl) Try.underlying32 (fun hl2 _ => ?_))
  refine tl_d rfl (d_gtr rfl rfl ?_)
  refine tl_nil ?_
  refine q_then_code ?_
  refine t_cond rfl (fun hb3 => ?_) (fun hb3 => ?_)
  · have hf := if_t hb3 hf
    refine t_seq ?_
    refine t_region ?_
    refine tl_d rfl (d_assign rfl ?_)
    refine tl_d rfl (d_assign rfl ?_)
    refine tl_nil ?_
    refine q_then_code ?_
    refine t_ret ?_
    refine q_then_ret ?_
    have hr := Option.some.inj hf; subst hr
    refine q_ret (post := fun w w' m v => ∃ v0 v1, v = .tuple #[v0, v1] ∧ OwnRes (rInt .u8) 1 w w' m v0 ([] : (List Int)) ∧ ∀ m', (∀ b, b ∈ m' → b ∈ m ∨ bufBlk v0 = some b) → (rInt .i64).val w' m' v1 (2 : Int)) hR _ (.inl rfl) (fun a w hs => ?_)
    exact ⟨_, run_results rfl (RvOk.cons (rv_tmp hs rfl) (RvOk.cons (rv_tmp hs rfl) RvOk.nil)), _, _, rfl, ownres_nil, fun m' hm' => ⟨[_], ⟨rfl, rfl⟩, rfl⟩⟩
  · have hf := if_f hb3 hf
    refine t_skip ?_
    refine q_then_code ?_
    refine t_seq ?_
    obtain ⟨c5, hc6, hf⟩ := bind_some hf
    obtain ⟨hn9, hf⟩ := need_some hf
    refine t_region ?_
    refine tl_d rfl (d_move rfl ?_)
    refine tl_d rfl (d_move rfl ?_)
    refine tl_d rfl (d_len_sl rfl (mem_at 1 rfl) Try.underlying32 (fun hl11 _ => ?_))
    refine tl_d rfl (d_conv_id Try.underlying3 Try.underlying91 rfl (wrap_lenu hl11) ?_)
    refine tl_g [] rfl (g_callo rfl hfn55 (cofferref1_Count_ok _ _ _ _ _ hc6) (Evs.cons rfl (Evs.cons rfl Evs.nil)) (fun a w hs => ⟨(hv_fact (mem_at 0 rfl)) _ _ _ _ hs, (hv_int (wrap_lenu hl11)) _ _ _ _ hs⟩) (fun v12 => ?_))
    refine tl_d rfl (d_move rfl ?_)
    refine tl_g _ rfl (g_append_sl (l2 := a1) 0 rfl rfl rfl rfl (hv_fact (mem_at 1 rfl)) Try.underlying32 ⟨_, Try.underlying32, fun k h => by cases h⟩ ty5 hn9 (List.mem_singleton_self _) (fun v14 => ?_))
    refine tl_d rfl (d_assign rfl ?_)
    refine tl_d rfl (d_assign rfl ?_)
    refine tl_nil ?_
    refine q_then_code ?_
    refine t_ret ?_
    have hr := Option.some.inj hf; subst hr
    refine q_ret (post := fun w w' m v => ∃ v0 v1, v = .tuple #[v0, v1] ∧ OwnRes (rInt .u8) 1 w w' m v0 (c5 ++ a1) ∧ ∀ m', (∀ b, b ∈ m' → b ∈ m ∨ bufBlk v0 = some b) → (rInt .i64).val w' m' v1 (0 : Int)) hR _ (.inl rfl) (fun a w hs => ?_)
    exact ⟨_, run_results rfl (RvOk.cons (rv_tmp hs rfl) (RvOk.cons (rv_tmp hs rfl) RvOk.nil)), _, _, rfl, (hs.ownres (i := 0) rfl), fun m' hm' => ⟨[_], ⟨rfl, rfl⟩, rfl⟩⟩

def cofferref15_Bytes.l0 (a0 : (List Api_Item)) : Nat → (List Int) → Int → Option ((List Int))
  | 0, _, _ => none
  | k + 1, s22, s24 => (if (decide (s24 < ((a0).length : Int))) = true then (need (0 ≤ s24 ∧ s24 < ((a0).length : Int)) ((need (fits 1 ((s22).length + ([(IntKind.u8.wrap ((((a0).getD (s24).toNat rApi_Item.zeroD)).Kind))]).length)) ((cofferref1_Text.f k (s22 ++ [(IntKind.u8.wrap ((((a0).getD (s24).toNat rApi_Item.zeroD)).Kind))]) ((((a0).getD (s24).toNat rApi_Item.zeroD)).Name)).bind fun c51 => (need (fits 1 ((c51.1).length + ((sub ((((a0).getD (s24).toNat rApi_Item.zeroD)).Of) (0 : Int) (32 : Int))).length)) ((cofferref1_Count.f k (c51.1 ++ (sub ((((a0).getD (s24).toNat rApi_Item.zeroD)).Of) (0 : Int) (32 : Int))) (IntKind.u64.wrap (((a0).getD (s24).toNat rApi_Item.zeroD)).Size)).bind fun c101 => (cofferref15_Bytes.l0 a0 k c101 (IntKind.i64.wrap (s24 + (1 : Int)))))))))) else (some (s22)))
def cofferref15_Bytes.f (k : Nat) (a0 : (List Api_Item)) : Option ((List Int) × Int) := ((cofferref15_May.f k a0).bind fun c1 => (if (!c1) = true then (some (([] : (List Int)), (1 : Int))) else ((cofferref1_Count.f k [(68 : Int), (49 : Int)] ((a0).length : Int)).bind fun c13 => (cofferref15_Bytes.l0 a0 k c13 (0 : Int)).bind fun o118 => (match o118 with | s22 => (if (decide ((4000 : Int) < ((s22).length : Int))) = true then (some (([] : (List Int)), (2 : Int))) else (some (s22, (0 : Int))))))))
set_option maxRecDepth 100000 in
set_option maxHeartbeats 2060000 in
theorem cofferref15_Bytes_ok (k : Nat) (a0 : (List Api_Item)) (u0 : Value) (r : (List Int) × Int) (hf : cofferref15_Bytes.f k a0 = some r) : Cf.FnX true Try.prog 37 [u0] (fun w m => (rSl 64 rApi_Item).val w m u0 a0) (fun w w' m v => ∃ v0 v1, v = .tuple #[v0, v1] ∧ OwnRes (rInt .u8) 1 w w' m v0 r.1 ∧ ∀ m', (∀ b, b ∈ m' → b ∈ m ∨ bufBlk v0 = some b) → (rInt .i64).val w' m' v1 r.2) := by
  unfold cofferref15_Bytes.f at hf
  refine fn_of Try.func37 rfl (Nat.le_of_ble_eq_true rfl) [(rSl 64 rApi_Item).fact u0 a0] (fun w m h f hf => ?_) ?_
  · simp at hf; obtain rfl := hf; exact h
  intro w0 m0 R hR
  refine t_seq ?_
  refine t_region ?_
  refine tl_d rfl (d_assign rfl ?_)
  refine tl_d rfl (d_assign rfl ?_)
  refine tl_nil ?_
  refine q_then_code ?_
  refine t_seq ?_
  refine t_seq ?_
  obtain ⟨c1, hc2, hf⟩ := bind_some hf
  refine t_region ?_
  refine tl_d rfl (d_move rfl ?_)
  refine tl_g [] rfl (g_call1 rfl hfn54 (cofferref15_May_ok _ _ _ _ hc2) (Evs.cons rfl Evs.nil) (fun a w hs => (hv_fact (mem_at 0 rfl)) _ _ _ _ hs) (fun v6 => ?_))
  refine tl_bool (mem_at 0 rfl) (fun hv8 => ?_)
  subst hv8
  refine tl_d rfl (d_not rfl ?_)
  refine tl_nil ?_
  refine q_then_code ?_
  refine t_cond rfl (fun hb9 => ?_) (fun hb9 => ?_)
  · have hf := if_t hb9 hf
    refine t_seq ?_
    refine t_region ?_
    refine tl_d rfl (d_assign rfl ?_)
    refine tl_d rfl (d_assign rfl ?_)
    refine tl_nil ?_
    refine q_then_code ?_
    refine t_ret ?_
    refine q_then_ret ?_
    have hr := Option.some.inj hf; subst hr
    refine q_ret (post := fun w w' m v => ∃ v0 v1, v = .tuple #[v0, v1] ∧ OwnRes (rInt .u8) 1 w w' m v0 ([] : (List Int)) ∧ ∀ m', (∀ b, b ∈ m' → b ∈ m ∨ bufBlk v0 = some b) → (rInt .i64).val w' m' v1 (1 : Int)) hR _ (.inl rfl) (fun a w hs => ?_)
    exact ⟨_, run_results rfl (RvOk.cons (rv_tmp hs rfl) (RvOk.cons (rv_tmp hs rfl) RvOk.nil)), _, _, rfl, ownres_nil, fun m' hm' => ⟨[_], ⟨rfl, rfl⟩, rfl⟩⟩
  · have hf := if_f hb9 hf
    refine t_skip ?_
    refine q_then_code ?_
    refine t_seq ?_
    obtain ⟨c13, hc14, hf⟩ := bind_some hf
    refine t_region ?_
    refine tl_g [] rfl (g_buildSlice (R := (rInt .u8)) (l := [(68 : Int), (49 : Int)]) rfl Try.underlying32 ty5 ⟨rfl, by decide, by decide, by decide⟩ (PartsOk.cons rfl rfl (hv_int rfl) (PartsOk.cons rfl rfl (hv_int rfl) PartsOk.nil)) rfl (fun v17 => ?_))
    refine tl_g _ rfl (g_mark 0 rfl rfl rfl (by simp) Try.underlying32 Try.underlying5 (List.mem_singleton_self _) ?_)
    refine tl_d rfl (d_move rfl ?_)
    refine tl_d rfl (d_len_sl rfl (mem_at 2 rfl) Try.underlying52 (fun hl19 _ => ?_))
    refine tl_d rfl (d_conv_id Try.underlying3 Try.underlying91 rfl (wrap_lenu hl19) ?_)
    refine tl_g [] rfl (g_callo rfl hfn55 (cofferref1_Count_ok _ _ _ _ _ hc14) (Evs.cons rfl (Evs.cons rfl Evs.nil)) (fun a w hs => ⟨(hv_fact (mem_at 0 rfl)) _ _ _ _ hs, (hv_int (wrap_lenu hl19)) _ _ _ _ hs⟩) (fun v20 => ?_))
    refine tl_d rfl (d_assign rfl ?_)
    refine tl_nil ?_
    refine q_then_code ?_
    refine t_seq ?_
    refine t_seq ?_
    refine t_region ?_
    refine tl_d rfl (d_assign rfl ?_)
    refine tl_nil ?_
    refine q_then_code ?_
    refine t_block ?_
    obtain ⟨o118, ho119, hf⟩ := bind_some hf
    refine t_loop (X := (List Int) × Int × Value) (O := (List Int)) (fun kl x => match x with | (s22, s24, z23) => cofferref15_Bytes.l0 a0 kl s22 s24) o118 (fun x => match x with | (s22, s24, z23) => (([(0, u0), (4, z23), (5, .int .i64 s24)], [(rSl 64 rApi_Item).fact u0 a0], [Own.buf z23 1 (rInt .u8) s22]) : Sym)) (fun x => match x with | (s22, s24, z23) => IntKind.i64.wrap s24 = s24) k (c13, (0 : Int), v20) ho119 rfl ⟨rfl, ⟨rfl, ⟨rfl, trivial⟩⟩⟩ ⟨mem_at 2 rfl, trivial⟩ [1] (Sel.cons rfl Sel.nil) rfl ?_
    clear ho119
    rintro k28 ⟨s22, s24, z23⟩ hw_s24 hk27
    have hout25 := hf; clear hf
    obtain ⟨kq26, rfl⟩ : ∃ q, k28 = q + 1 := by cases k28 with | zero => cases hk27 | succ q => exact ⟨q, rfl⟩
    have hf := hk27
    clear hk27; dsimp only [cofferref15_Bytes.l0] at hf
    refine t_seq ?_
    refine t_seq ?_
    refine t_region ?_
    refine tl_d rfl (d_move rfl ?_)
    refine tl_d rfl (d_move rfl ?_)
    refine tl_d rfl (d_len_sl rfl (mem_at 0 rfl) Try.underlying52 (fun hl30 _ => ?_))
    refine tl_d rfl (d_lss rfl rfl ?_)
    refine tl_nil ?_
    refine q_then_code ?_
    refine t_cond rfl (fun hb31 => ?_) (fun hb31 => ?_)
    · have hf := if_t hb31 hf
      refine t_skip ?_
      refine q_then_code ?_
      refine t_seq ?_
      refine t_block ?_
      refine t_seq ?_
      obtain ⟨hn32, hf⟩ := need_some hf
      refine t_region ?_
      refine tl_d rfl (d_move rfl ?_)
      refine tl_d rfl (d_move rfl ?_)
      refine tl_d rfl (d_index_sl rfl (mem_at 0 rfl) rfl Try.underlying52 ty54 hn32 (fun p38 => ?_))
      refine tl_d rfl (d_load_place rfl (mem_at 0 rfl) ty54 (fun v40 => ?_))
      refine tl_g [] rfl (g_alloc rfl ty54 (fun b42 => ?_))
      refine tl_g _ rfl (g_store_box 1 rfl rfl rfl (Fld.self rApi_Item) trivial (hv_fact (mem_at 0 rfl)) ty54 (List.mem_singleton_self _) ?_)
      refine tl_nil ?_
      refine q_then_code ?_
      refine t_seq ?_
      obtain ⟨hn45, hf⟩ := need_some hf
      obtain ⟨c51, hc52, hf⟩ := bind_some hf
      refine t_cut (X := Value) (fun x => match x with | z59 => (([(0, u0), (4, z59), (5, (.int .i64 s24)), (6, (.pointer (some ⟨b42, 0, none⟩)))], [(rSl 64 rApi_Item).fact u0 a0], [Own.buf z59 1 (rInt .u8) c51.1, Own.box b42 rApi_Item ((a0).getD (s24).toNat rApi_Item.zeroD)]) : Sym)) (fun _ => True) ?_ ?_
      · refine t_any (n := 14) [0, 2, 3, 4, 5, 6, 7, 8, 9, 10, 11, 12, 13] mixed ⟨by kernel_rfl, .inl rfl⟩ (np_cut (np_then (np_block (np_then (np_then (np_block (np_then np_body))))))) ?_
        refine ta_take (i := 0) rfl (by kernel_rfl) gd_none (d_move rfl ?_)
        refine ta_take (i := 1) rfl (by kernel_rfl) gd_none (d_field_own rfl fo54_1 ?_)
        refine ta_take (i := 2) rfl (by kernel_rfl) gd_none (d_load_box_int 1 rfl rfl (Fld.at0 fl_Api_Item_Kind) trivial ty3 rfl (fun hw60 => ?_))
        refine ta_take (i := 3) rfl (by kernel_rfl) gd_none (d_conv Try.underlying3 Try.underlying5 rfl ?_)
        refine ta_take (i := 6) rfl (by kernel_rfl) gd_none (d_field_own rfl fo54_0 ?_)
        refine ta_take (i := 7) rfl (by kernel_rfl) gd_none (d_load_box 1 rfl rfl (Fld.at0 fl_Api_Item_Name) trivial ty9 rfl (fun v61 => ?_))
        refine ta_two (i := 4) (j := 8) (by kernel_rfl) rfl rfl rfl gd_none gd_none ?_ ?_
        · refine g_buildSlice (R := (rInt .u8)) (l := [(IntKind.u8.wrap ((((a0).getD (s24).toNat rApi_Item.zeroD)).Kind))]) rfl Try.underlying32 ty5 ⟨rfl, by decide, by decide, by decide⟩ (PartsOk.cons rfl rfl (hv_int (wrap_wrap _ _)) PartsOk.nil) rfl (fun v63 => ?_)
          refine ta_two (i := 5) (j := 8) (by kernel_rfl) rfl rfl rfl gd_none gd_none ?_ ?_
          · refine g_append_buf 0 2 rfl rfl rfl rfl rfl rfl Try.underlying32 ⟨_, Try.underlying32, fun k h => by cases h⟩ ty5 hn45 (by decide) (fun v64 => ?_)
            refine ta_one (i := 8) (by kernel_rfl) rfl rfl gd_none (g_str_bytes rfl rfl (hv_fact (mem_at 0 rfl)) Try.underlying9 Try.underlying32 Try.underlying5 rfl (fun v65 => ?_))
            refine ta_one (i := 9) (by kernel_rfl) rfl rfl gd_none (g_callo2 rfl hfn56 (FnX.flat (fun _ _ _ _ _ ⟨v0, v1, e, h0, h1⟩ => ⟨v0, v1, e, Flat.own Flat.int h0, fun m' hm' => Flat.val Flat.int (h1 [] (by intro b hb; cases hb))⟩) (cofferref1_Text_ok _ _ _ _ _ _ hc52)) (Evs.cons rfl (Evs.cons rfl Evs.nil)) (fun a w hs => bor_one hs 0 rfl (fun hs1 => bor_end hs1 ⟨(hv_fact (mem_at 0 rfl)) _ _ _ _ hs1, (hv_fact (mem_at 1 rfl)) _ _ _ _ hs1⟩)) (fun v67 v68 => ?_))
            refine ta_int (mem_at 0 rfl) (fun hv72 hw71 => ?_)
            subst hv72
            refine ta_take (i := 10) rfl (by kernel_rfl) gd_none (d_move rfl ?_)
            refine ta_take (i := 11) rfl (by kernel_rfl) gd_none (d_extract rfl rfl ?_)
            refine ta_take (i := 12) rfl (by kernel_rfl) gd_none (d_extract rfl rfl ?_)
            refine ta_take (i := 13) rfl (by kernel_rfl) gd_none (d_assign rfl ?_)
            refine ta_done (by kernel_rfl) ?_
            exact q_cut v67 trivial ⟨rfl, ⟨rfl, ⟨rfl, ⟨rfl, trivial⟩⟩⟩⟩ ⟨mem_at 5 rfl, trivial⟩ [3, 1] (Sel.cons rfl (Sel.cons rfl Sel.nil)) rfl
          · refine g_str_bytes rfl rfl (hv_fact (mem_at 0 rfl)) Try.underlying9 Try.underlying32 Try.underlying5 rfl (fun v73 => ?_)
            refine ta_one (i := 5) (by kernel_rfl) rfl rfl gd_none (g_append_buf 0 2 rfl rfl rfl rfl rfl rfl Try.underlying32 ⟨_, Try.underlying32, fun k h => by cases h⟩ ty5 hn45 (by decide) (fun v75 => ?_))
            refine ta_one (i := 9) (by kernel_rfl) rfl rfl gd_none (g_callo2 rfl hfn56 (FnX.flat (fun _ _ _ _ _ ⟨v0, v1, e, h0, h1⟩ => ⟨v0, v1, e, Flat.own Flat.int h0, fun m' hm' => Flat.val Flat.int (h1 [] (by intro b hb; cases hb))⟩) (cofferref1_Text_ok _ _ _ _ _ _ hc52)) (Evs.cons rfl (Evs.cons rfl Evs.nil)) (fun a w hs => bor_one hs 0 rfl (fun hs1 => bor_end hs1 ⟨(hv_fact (mem_at 0 rfl)) _ _ _ _ hs1, (hv_fact (mem_at 1 rfl)) _ _ _ _ hs1⟩)) (fun v76 v77 => ?_))
            refine ta_int (mem_at 0 rfl) (fun hv81 hw80 => ?_)
            subst hv81
            refine ta_take (i := 10) rfl (by kernel_rfl) gd_none (d_move rfl ?_)
            refine ta_take (i := 11) rfl (by kernel_rfl) gd_none (d_extract rfl rfl ?_)
            refine ta_take (i := 12) rfl (by kernel_rfl) gd_none (d_extract rfl rfl ?_)
            refine ta_take (i := 13) rfl (by kernel_rfl) gd_none (d_assign rfl ?_)
            refine ta_done (by kernel_rfl) ?_
            exact q_cut v76 trivial ⟨rfl, ⟨rfl, ⟨rfl, ⟨rfl, trivial⟩⟩⟩⟩ ⟨mem_at 5 rfl, trivial⟩ [3, 1] (Sel.cons rfl (Sel.cons rfl Sel.nil)) rfl
        · refine g_str_bytes rfl rfl (hv_fact (mem_at 0 rfl)) Try.underlying9 Try.underlying32 Try.underlying5 rfl (fun v82 => ?_)
          refine ta_one (i := 4) (by kernel_rfl) rfl rfl gd_none (g_buildSlice (R := (rInt .u8)) (l := [(IntKind.u8.wrap ((((a0).getD (s24).toNat rApi_Item.zeroD)).Kind))]) rfl Try.underlying32 ty5 ⟨rfl, by decide, by decide, by decide⟩ (PartsOk.cons rfl rfl (hv_int (wrap_wrap _ _)) PartsOk.nil) rfl (fun v84 => ?_))
          refine ta_one (i := 5) (by kernel_rfl) rfl rfl gd_none (g_append_buf 0 2 rfl rfl rfl rfl rfl rfl Try.underlying32 ⟨_, Try.underlying32, fun k h => by cases h⟩ ty5 hn45 (by decide) (fun v85 => ?_))
          refine ta_one (i := 9) (by kernel_rfl) rfl rfl gd_none (g_callo2 rfl hfn56 (FnX.flat (fun _ _ _ _ _ ⟨v0, v1, e, h0, h1⟩ => ⟨v0, v1, e, Flat.own Flat.int h0, fun m' hm' => Flat.val Flat.int (h1 [] (by intro b hb; cases hb))⟩) (cofferref1_Text_ok _ _ _ _ _ _ hc52)) (Evs.cons rfl (Evs.cons rfl Evs.nil)) (fun a w hs => bor_one hs 0 rfl (fun hs1 => bor_end hs1 ⟨(hv_fact (mem_at 0 rfl)) _ _ _ _ hs1, (hv_fact (mem_at 1 rfl)) _ _ _ _ hs1⟩)) (fun v86 v87 => ?_))
          refine ta_int (mem_at 0 rfl) (fun hv91 hw90 => ?_)
          subst hv91
          refine ta_take (i := 10) rfl (by kernel_rfl) gd_none (d_move rfl ?_)
          refine ta_take (i := 11) rfl (by kernel_rfl) gd_none (d_extract rfl rfl ?_)
          refine ta_take (i := 12) rfl (by kernel_rfl) gd_none (d_extract rfl rfl ?_)
          refine ta_take (i := 13) rfl (by kernel_rfl) gd_none (d_assign rfl ?_)
          refine ta_done (by kernel_rfl) ?_
          exact q_cut v86 trivial ⟨rfl, ⟨rfl, ⟨rfl, ⟨rfl, trivial⟩⟩⟩⟩ ⟨mem_at 5 rfl, trivial⟩ [3, 1] (Sel.cons rfl (Sel.cons rfl Sel.nil)) rfl
      rintro z59 _
      refine q_then_code ?_
      obtain ⟨hn96, hf⟩ := need_some hf
      obtain ⟨c101, hc102, hf⟩ := bind_some hf
      refine t_any (n := 9) [0, 2, 3, 4, 5, 6, 7, 8, 9, 10, 11, 12, 13] mixed ⟨by kernel_rfl, .inl rfl⟩ (np_block (np_then (np_then (np_block (np_then np_body))))) ?_
      refine ta_take (i := 0) rfl (by kernel_rfl) gd_none (d_move rfl ?_)
      refine ta_take (i := 1) rfl (by kernel_rfl) gd_none (d_field_own rfl fo54_2 ?_)
      refine ta_freezebox 1 rfl ?_
      refine ta_sub (mem_at 0 rfl) (Fld.at0 fl_Api_Item_Of) trivial ?_
      refine ta_take (i := 2) rfl (by kernel_rfl) gd_none (d_slice_place (i := (0 : Int)) (j := (32 : Int)) 1 rfl (mem_at 0 rfl) (.inl ⟨rfl, rfl⟩) (.inl ⟨rfl, rfl⟩) Try.underlying29 ty5 (by decide) (by decide) (fun v105 => ?_))
      refine ta_take (i := 4) rfl (by kernel_rfl) gd_none (d_field_place rfl (mem_at 2 rfl) fo54_3 fl_Api_Item_Size trivial (fun p109 => ?_))
      refine ta_take (i := 5) rfl (by kernel_rfl) gd_none (d_load_int rfl (mem_at 0 rfl) ty2 (fun hw111 => ?_))
      refine ta_take (i := 6) rfl (by kernel_rfl) gd_none (d_conv Try.underlying2 Try.underlying91 rfl ?_)
      refine ta_one (i := 3) (by kernel_rfl) rfl rfl gd_none (g_append_sl (l2 := (sub ((((a0).getD (s24).toNat rApi_Item.zeroD)).Of) (0 : Int) (32 : Int))) 0 rfl rfl rfl rfl (hv_fact (mem_at 1 rfl)) Try.underlying32 ⟨_, Try.underlying32, fun k h => by cases h⟩ ty5 hn96 (by decide) (fun v112 => ?_))
      refine ta_one (i := 7) (by kernel_rfl) rfl rfl gd_none (g_callo rfl hfn55 (FnX.flat (fun _ _ _ _ _ h => Flat.own Flat.int h) (cofferref1_Count_ok _ _ _ _ _ hc102)) (Evs.cons rfl (Evs.cons rfl Evs.nil)) (fun a w hs => bor_one hs 0 rfl (fun hs1 => bor_end hs1 ⟨(hv_fact (mem_at 0 rfl)) _ _ _ _ hs1, (hv_int (wrap_wrap _ _)) _ _ _ _ hs1⟩)) (fun v113 => ?_))
      refine ta_take (i := 8) rfl (by kernel_rfl) gd_none (d_assign rfl ?_)
      refine ta_done (by kernel_rfl) ?_
      refine q_block_normal ?_
      refine q_then_code ?_
      refine t_region ?_
      refine tl_d rfl (d_move rfl ?_)
      refine tl_d rfl (d_add rfl rfl ?_)
      refine tl_d rfl (d_assign rfl ?_)
      refine tl_nil ?_
      exact q_round kq26 (c101, (IntKind.i64.wrap (s24 + (1 : Int))), v113) (Nat.lt_succ_self kq26) (wrap_wrap _ _) hf ⟨rfl, ⟨rfl, ⟨rfl, trivial⟩⟩⟩ ⟨mem_at 4 rfl, trivial⟩ [2] (Sel.cons rfl Sel.nil) rfl
    · have hf := if_f hb31 hf
      refine t_exit ?_
      refine q_then_exit ?_
      refine q_then_exit ?_
      have hr := Option.some.inj hf; try subst hr
      have hf := hout25
      try dsimp only at hf
      refine q_block_hit ?_
      refine q_then_code ?_
      refine t_seq ?_
      refine t_seq ?_
      refine t_region ?_
      refine tl_d rfl (d_move rfl ?_)
      refine tl_d rfl (d_len_buf 0 rfl rfl Try.underlying32 (fun hl116 _ => ?_))
      refine tl_d rfl (d_gtr rfl rfl ?_)
      refine tl_nil ?_
      refine q_then_code ?_
      refine t_cond rfl (fun hb117 => ?_) (fun hb117 => ?_)
      · have hf := if_t hb117 hf
        refine t_seq ?_
        refine t_region ?_
        refine tl_d rfl (d_assign rfl ?_)
        refine tl_d rfl (d_assign rfl ?_)
        refine tl_nil ?_
        refine q_then_code ?_
        refine t_ret ?_
        refine q_then_ret ?_
        have hr := Option.some.inj hf; subst hr
        refine q_ret (post := fun w w' m v => ∃ v0 v1, v = .tuple #[v0, v1] ∧ OwnRes (rInt .u8) 1 w w' m v0 ([] : (List Int)) ∧ ∀ m', (∀ b, b ∈ m' → b ∈ m ∨ bufBlk v0 = some b) → (rInt .i64).val w' m' v1 (2 : Int)) hR _ (.inl rfl) (fun a w hs => ?_)
        exact ⟨_, run_results rfl (RvOk.cons (rv_tmp hs rfl) (RvOk.cons (rv_tmp hs rfl) RvOk.nil)), _, _, rfl, ownres_nil, fun m' hm' => ⟨[_], ⟨rfl, rfl⟩, rfl⟩⟩
      · have hf := if_f hb117 hf
        refine t_skip ?_
        refine q_then_code ?_
        refine t_seq ?_
        refine t_region ?_
        refine tl_d rfl (d_move rfl ?_)
        refine tl_d rfl (d_assign rfl ?_)
        refine tl_d rfl (d_assign rfl ?_)
        refine tl_nil ?_
        refine q_then_code ?_
        refine t_ret ?_
        have hr := Option.some.inj hf; subst hr
        refine q_ret (post := fun w w' m v => ∃ v0 v1, v = .tuple #[v0, v1] ∧ OwnRes (rInt .u8) 1 w w' m v0 s22 ∧ ∀ m', (∀ b, b ∈ m' → b ∈ m ∨ bufBlk v0 = some b) → (rInt .i64).val w' m' v1 (0 : Int)) hR _ (.inl rfl) (fun a w hs => ?_)
        exact ⟨_, run_results rfl (RvOk.cons (rv_tmp hs rfl) (RvOk.cons (rv_tmp hs rfl) RvOk.nil)), _, _, rfl, (hs.ownres (i := 0) rfl), fun m' hm' => ⟨[_], ⟨rfl, rfl⟩, rfl⟩⟩

def cofferlaw17_Folder.f (k : Nat) (a0 : (List Api_Item)) : Option (Api_Object) := ((cofferref15_Bytes.f k a0).bind fun c3 => ((cofferlaw17_Of.f k c3.1).bind fun c18 => (some c18)))
set_option maxRecDepth 100000 in
set_option maxHeartbeats 400000 in
theorem cofferlaw17_Folder_ok (k : Nat) (a0 : (List Api_Item)) (u0 : Value) (r : Api_Object) (hf : cofferlaw17_Folder.f k a0 = some r) : Cf.FnX true Try.prog 25 [u0] (fun w m => (rSl 64 rApi_Item).val w m u0 a0) (fun w w' m v => rApi_Object.val w' m v r) := by
  unfold cofferlaw17_Folder.f at hf
  refine fn_of Try.func25 rfl (Nat.le_of_ble_eq_true rfl) [(rSl 64 rApi_Item).fact u0 a0] (fun w m h f hf => ?_) ?_
  · simp at hf; obtain rfl := hf; exact h
  intro w0 m0 R hR
  refine t_seq ?_
  refine t_region ?_
  refine tl_g [] rfl (g_alloc rfl ty34 (fun b2 => ?_))
  refine tl_nil ?_
  refine q_then_code ?_
  refine t_seq ?_
  obtain ⟨c3, hc4, hf⟩ := bind_some hf
  refine t_region ?_
  refine tl_d rfl (d_move rfl ?_)
  refine tl_g [] rfl (g_callo2 rfl hfn37 (cofferref15_Bytes_ok _ _ _ _ hc4) (Evs.cons rfl Evs.nil) (fun a w hs => (hv_fact (mem_at 0 rfl)) _ _ _ _ hs) (fun v11 v12 => ?_))
  refine tl_int (mem_at 0 rfl) (fun hv16 hw15 => ?_)
  subst hv16
  refine tl_d rfl (d_move rfl ?_)
  refine tl_d rfl (d_extract rfl rfl ?_)
  refine tl_d rfl (d_extract rfl rfl ?_)
  refine tl_d rfl (d_assign rfl ?_)
  refine tl_d rfl (d_assign rfl ?_)
  refine tl_nil ?_
  refine q_then_code ?_
  refine t_seq ?_
  obtain ⟨c18, hc19, hf⟩ := bind_some hf
  refine t_region ?_
  refine tl_d rfl (d_move rfl ?_)
  refine tl_freeze 1 rfl ?_
  refine tl_g [] rfl (g_call1 rfl hfn24 (cofferlaw17_Of_ok _ _ _ _ hc19) (Evs.cons rfl Evs.nil) (fun a w hs => (hv_fact (mem_at 0 rfl)) _ _ _ _ hs) (fun v23 => ?_))
  refine tl_g _ rfl (g_store_box 0 rfl rfl rfl (Fld.self rApi_Object) trivial (hv_fact (mem_at 0 rfl)) ty34 (List.mem_singleton_self _) ?_)
  refine tl_nil ?_
  refine q_then_code ?_
  refine t_ret ?_
  have hr := Option.some.inj hf; subst hr
  refine q_ret (post := fun w w' m v => rApi_Object.val w' m v c18) hR _ (.inl rfl) (fun a w hs => ?_)
  obtain ⟨x0, hx0, hy0⟩ := rv_cell (t := 2) (ty := 34) hs 0 rfl rfl ty34
  exact ⟨_, run_results rfl (RvOk.cons hx0 RvOk.nil), hy0⟩

def cofferlaw17_begun.f (k : Nat) : Option (Bool) := ((cofferlaw17_Of.f k [(7 : Int)]).bind fun c3 => ((cofferlaw17_Folder.f k [(⟨[97], (1 : Int), ((c3).Of), (1 : Int)⟩ : Api_Item)]).bind fun c19 => ((walk_Close.f k [c3, c19] ((c19).Of)).bind fun c40 => ((walk_Files.f k [c3, c19] ((c19).Of)).bind fun c69 => ((walk_Close.f k [c19] ((c19).Of)).bind fun c96 => ((if (decide (c40.2 = (0 : Int))) = true then (if (decide (c69.2 = (0 : Int))) = true then (if (decide (c96.2 = (15 : Int))) = true then (if (decide (((c40.1).length : Int) = (2 : Int))) = true then (if (decide (((c69.1).length : Int) = (1 : Int))) = true then (need (0 ≤ (0 : Int) ∧ (0 : Int) < ((c69.1).length : Int)) ((if (decide (((((c69.1).getD ((0 : Int)).toNat rApi_File.zeroD)).Path) = [97])) = true then (need (0 ≤ (0 : Int) ∧ (0 : Int) < ((c69.1).length : Int)) ((some (decide (((((c69.1).getD ((0 : Int)).toNat rApi_File.zeroD)).Data) = [7]))))) else (some false)))) else (some false)) else (some false)) else (some false)) else (some false)) else (some false))).bind fun s141 => (some s141))))))
set_option maxRecDepth 100000 in
set_option maxHeartbeats 4040000 in
theorem cofferlaw17_begun_ok (k : Nat) (r : Bool) (hf : cofferlaw17_begun.f k  = some r) : Cf.FnX false Try.prog 17 [] (fun w m => True) (fun w w' m v => rBool.val w' m v r) := by
  unfold cofferlaw17_begun.f at hf
  refine fn_of Try.func17 rfl (Nat.le_of_ble_eq_true rfl) [] (fun w m h f hf => ?_) ?_
  · cases hf
  intro w0 m0 R hR
  refine t_seq ?_
  refine t_region ?_
  refine tl_d rfl (d_assign rfl ?_)
  refine tl_nil ?_
  refine q_then_code ?_
  refine t_seq ?_
  obtain ⟨c3, hc4, hf⟩ := bind_some hf
  refine t_region ?_
  refine tl_g [] rfl (g_buildSlice (R := (rInt .u8)) (l := [(7 : Int)]) rfl Try.underlying32 ty5 ⟨rfl, by decide, by decide, by decide⟩ (PartsOk.cons rfl rfl (hv_int rfl) PartsOk.nil) rfl (fun v8 => ?_))
  refine tl_freeze 0 rfl ?_
  refine tl_g [] rfl (g_call1 rfl hfn24 (cofferlaw17_Of_ok _ _ _ _ hc4).weak (Evs.cons rfl Evs.nil) (fun a w hs => (hv_fact (mem_at 0 rfl)) _ _ _ _ hs) (fun v10 => ?_))
  refine tl_g [] rfl (g_alloc rfl ty34 (fun b12 => ?_))
  refine tl_g _ rfl (g_store_box 1 rfl rfl rfl (Fld.self rApi_Object) trivial (hv_fact (mem_at 0 rfl)) ty34 (List.mem_singleton_self _) ?_)
  refine tl_nil ?_
  refine q_then_code ?_
  refine t_seq ?_
  obtain ⟨c19, hc20, hf⟩ := bind_some hf
  refine t_region ?_
  refine tl_d rfl (d_field_own rfl fo34_0 ?_)
  refine tl_d rfl (d_load_box 1 rfl rfl (Fld.at0 fl_Api_Object_Of) trivial ty29 rfl (fun v24 => ?_))
  refine tl_d rfl (d_build2 (y := (⟨[97], (1 : Int), ((c3).Of), (1 : Int)⟩ : Api_Item)) ty54 rfl pl54 (BuildOk.cons rfl fl_Api_Item_Name trivial rfl (hv_str rfl (by decide)) (BuildOk.cons rfl fl_Api_Item_Kind trivial rfl (hv_int rfl) (BuildOk.cons rfl fl_Api_Item_Of trivial rfl (hv_fact (mem_at 0 rfl)) (BuildOk.cons rfl fl_Api_Item_Size trivial rfl (hv_int rfl) BuildOk.nil)))) (fun v26 => ?_))
  refine tl_g [] rfl (g_buildSlice (R := rApi_Item) (l := [(⟨[97], (1 : Int), ((c3).Of), (1 : Int)⟩ : Api_Item)]) rfl Try.underlying52 ty54 ⟨rfl, by decide, by decide, by decide⟩ (PartsOk.cons rfl rfl (hv_fact (mem_at 0 rfl)) PartsOk.nil) rfl (fun v28 => ?_))
  refine tl_freeze 2 rfl ?_
  refine tl_g [] rfl (g_call1 rfl hfn25 (cofferlaw17_Folder_ok _ _ _ _ hc20).weak (Evs.cons rfl Evs.nil) (fun a w hs => (hv_fact (mem_at 0 rfl)) _ _ _ _ hs) (fun v30 => ?_))
  refine tl_g [] rfl (g_alloc rfl ty34 (fun b32 => ?_))
  refine tl_g _ rfl (g_store_box 3 rfl rfl rfl (Fld.self rApi_Object) trivial (hv_fact (mem_at 0 rfl)) ty34 (List.mem_singleton_self _) ?_)
  refine tl_nil ?_
  refine q_then_code ?_
  refine t_seq ?_
  obtain ⟨c40, hc41, hf⟩ := bind_some hf
  refine t_region ?_
  refine tl_d rfl (d_load_box 1 rfl rfl (Fld.self rApi_Object) trivial ty34 rfl (fun v48 => ?_))
  refine tl_d rfl (d_load_box 3 rfl rfl (Fld.self rApi_Object) trivial ty34 rfl (fun v50 => ?_))
  refine tl_g [] rfl (g_buildSlice (R := rApi_Object) (l := [c3, c19]) rfl Try.underlying22 ty34 ⟨rfl, by decide, by decide, by decide⟩ (PartsOk.cons rfl rfl (hv_fact (mem_at 1 rfl)) (PartsOk.cons rfl rfl (hv_fact (mem_at 0 rfl)) PartsOk.nil)) rfl (fun v52 => ?_))
  refine tl_M [Own.gone, Own.box b12 rApi_Object c3, Own.gone, Own.box b32 rApi_Object c19, Own.buf v52 56 rApi_Object [c3, c19]] rfl ?_
  refine tl_d rfl (d_field_own rfl fo34_0 ?_)
  refine tl_d rfl (d_load_box 3 rfl rfl (Fld.at0 fl_Api_Object_Of) trivial ty29 rfl (fun v53 => ?_))
  refine tl_g [] rfl (g_callo2 rfl hfn18 (FnX.flat (fun _ _ _ _ _ ⟨v0, v1, e, h0, h1⟩ => ⟨v0, v1, e, Flat.own (Flat.arr Flat.int) h0, fun m' hm' => Flat.val Flat.int (h1 [] (by intro b hb; cases hb))⟩) (walk_Close_ok _ _ _ _ _ _ hc41)) (Evs.cons rfl (Evs.cons rfl Evs.nil)) (fun a w hs => bor_one hs 4 rfl (fun hs1 => bor_end hs1 ⟨(hv_fact (mem_at 0 rfl)) _ _ _ _ hs1, (hv_fact (mem_at 1 rfl)) _ _ _ _ hs1⟩)) (fun v55 v56 => ?_))
  refine tl_int (mem_at 0 rfl) (fun hv60 hw59 => ?_)
  subst hv60
  refine tl_M [Own.gone, Own.box b12 rApi_Object c3, Own.gone, Own.box b32 rApi_Object c19, Own.buf v52 56 rApi_Object [c3, c19], Own.buf v55 32 (rArr 32 (rInt .u8)) c40.1] rfl ?_
  refine tl_d rfl (d_move rfl ?_)
  refine tl_d rfl (d_extract rfl rfl ?_)
  refine tl_d rfl (d_extract rfl rfl ?_)
  refine tl_d rfl (d_assign rfl ?_)
  refine tl_d rfl (d_assign rfl ?_)
  refine tl_nil ?_
  refine q_then_code ?_
  refine t_seq ?_
  obtain ⟨c69, hc70, hf⟩ := bind_some hf
  refine t_region ?_
  refine tl_d rfl (d_load_box 1 rfl rfl (Fld.self rApi_Object) trivial ty34 rfl (fun v77 => ?_))
  refine tl_d rfl (d_load_box 3 rfl rfl (Fld.self rApi_Object) trivial ty34 rfl (fun v79 => ?_))
  refine tl_g [] rfl (g_buildSlice (R := rApi_Object) (l := [c3, c19]) rfl Try.underlying22 ty34 ⟨rfl, by decide, by decide, by decide⟩ (PartsOk.cons rfl rfl (hv_fact (mem_at 1 rfl)) (PartsOk.cons rfl rfl (hv_fact (mem_at 0 rfl)) PartsOk.nil)) rfl (fun v81 => ?_))
  refine tl_M [Own.gone, Own.box b12 rApi_Object c3, Own.gone, Own.box b32 rApi_Object c19, Own.buf v52 56 rApi_Object [c3, c19], Own.buf v55 32 (rArr 32 (rInt .u8)) c40.1, Own.buf v81 56 rApi_Object [c3, c19]] rfl ?_
  refine tl_d rfl (d_field_own rfl fo34_0 ?_)
  refine tl_d rfl (d_load_box 3 rfl rfl (Fld.at0 fl_Api_Object_Of) trivial ty29 rfl (fun v82 => ?_))
  refine tl_freeze 6 rfl ?_
  refine tl_g [] rfl (g_callo2 rfl hfn19 (walk_Files_ok _ _ _ _ _ _ hc70).weak (Evs.cons rfl (Evs.cons rfl Evs.nil)) (fun a w hs => ⟨(hv_fact (mem_at 0 rfl)) _ _ _ _ hs, (hv_fact (mem_at 1 rfl)) _ _ _ _ hs⟩) (fun v85 v86 => ?_))
  refine tl_int (mem_at 0 rfl) (fun hv90 hw89 => ?_)
  subst hv90
  refine tl_M [Own.gone, Own.box b12 rApi_Object c3, Own.gone, Own.box b32 rApi_Object c19, Own.buf v52 56 rApi_Object [c3, c19], Own.buf v55 32 (rArr 32 (rInt .u8)) c40.1, Own.gone, Own.buf v85 48 rApi_File c69.1] rfl ?_
  refine tl_d rfl (d_move rfl ?_)
  refine tl_d rfl (d_extract rfl rfl ?_)
  refine tl_d rfl (d_extract rfl rfl ?_)
  refine tl_d rfl (d_assign rfl ?_)
  refine tl_d rfl (d_assign rfl ?_)
  refine tl_nil ?_
  refine q_then_code ?_
  refine t_seq ?_
  obtain ⟨c96, hc97, hf⟩ := bind_some hf
  refine t_region ?_
  refine tl_d rfl (d_load_box 3 rfl rfl (Fld.self rApi_Object) trivial ty34 rfl (fun v104 => ?_))
  refine tl_g [] rfl (g_buildSlice (R := rApi_Object) (l := [c19]) rfl Try.underlying22 ty34 ⟨rfl, by decide, by decide, by decide⟩ (PartsOk.cons rfl rfl (hv_fact (mem_at 0 rfl)) PartsOk.nil) rfl (fun v106 => ?_))
  refine tl_M [Own.gone, Own.box b12 rApi_Object c3, Own.gone, Own.box b32 rApi_Object c19, Own.buf v52 56 rApi_Object [c3, c19], Own.buf v55 32 (rArr 32 (rInt .u8)) c40.1, Own.gone, Own.buf v85 48 rApi_File c69.1, Own.buf v106 56 rApi_Object [c19]] rfl ?_
  refine tl_d rfl (d_field_own rfl fo34_0 ?_)
  refine tl_d rfl (d_load_box 3 rfl rfl (Fld.at0 fl_Api_Object_Of) trivial ty29 rfl (fun v107 => ?_))
  refine tl_g [] rfl (g_callo2 rfl hfn18 (FnX.flat (fun _ _ _ _ _ ⟨v0, v1, e, h0, h1⟩ => ⟨v0, v1, e, Flat.own (Flat.arr Flat.int) h0, fun m' hm' => Flat.val Flat.int (h1 [] (by intro b hb; cases hb))⟩) (walk_Close_ok _ _ _ _ _ _ hc97)) (Evs.cons rfl (Evs.cons rfl Evs.nil)) (fun a w hs => bor_one hs 8 rfl (fun hs1 => bor_end hs1 ⟨(hv_fact (mem_at 0 rfl)) _ _ _ _ hs1, (hv_fact (mem_at 1 rfl)) _ _ _ _ hs1⟩)) (fun v109 v110 => ?_))
  refine tl_int (mem_at 0 rfl) (fun hv114 hw113 => ?_)
  subst hv114
  refine tl_M [Own.gone, Own.box b12 rApi_Object c3, Own.gone, Own.box b32 rApi_Object c19, Own.buf v52 56 rApi_Object [c3, c19], Own.buf v55 32 (rArr 32 (rInt .u8)) c40.1, Own.gone, Own.buf v85 48 rApi_File c69.1, Own.buf v106 56 rApi_Object [c19], Own.buf v109 32 (rArr 32 (rInt .u8)) c96.1] rfl ?_
  refine tl_d rfl (d_move rfl ?_)
  refine tl_d rfl (d_extract rfl rfl ?_)
  refine tl_d rfl (d_extract rfl rfl ?_)
  refine tl_d rfl (d_assign rfl ?_)
  refine tl_d rfl (d_assign rfl ?_)
  refine tl_nil ?_
  refine q_then_code ?_
  refine t_seq ?_
  obtain ⟨o142, ho143, hf⟩ := bind_some hf
  refine t_cut (X := Bool) (fun x => match x with | s141 => (([(0, .bool s141)], [], []) : Sym)) (fun x => match x with | s141 => s141 = o142) ?_ ?_
  · have hf := ho143; clear ho143
    rcases bool_tf (decide (c40.2 = (0 : Int))) with hb115 | hb115
    · have hf := if_t hb115 hf
      rcases bool_tf (decide (c69.2 = (0 : Int))) with hb116 | hb116
      · have hf := if_t hb116 hf
        rcases bool_tf (decide (c96.2 = (15 : Int))) with hb117 | hb117
        · have hf := if_t hb117 hf
          rcases bool_tf (decide (((c40.1).length : Int) = (2 : Int))) with hb119 | hb119
          · have hf := if_t hb119 hf
            rcases bool_tf (decide (((c69.1).length : Int) = (1 : Int))) with hb121 | hb121
            · have hf := if_t hb121 hf
              obtain ⟨hn122, hf⟩ := need_some hf
              rcases bool_tf (decide (((((c69.1).getD ((0 : Int)).toNat rApi_File.zeroD)).Path) = [97])) with hb130 | hb130
              · have hf := if_t hb130 hf
                obtain ⟨hn131, hf⟩ := need_some hf
                refine t_region ?_
                refine tl_d rfl (d_move rfl ?_)
                refine tl_d rfl (d_eql rfl rfl ?_)
                refine tl_d rfl (d_move rfl ?_)
                refine tl_dg (gd_on rfl rfl rfl hb115) rfl (d_move rfl ?_)
                refine tl_dg (gd_on rfl rfl rfl hb115) rfl (d_eql rfl rfl ?_)
                refine tl_d rfl (d_pick_true rfl hb115 rfl ?_)
                refine tl_d rfl (d_move rfl ?_)
                refine tl_dg (gd_on rfl rfl rfl hb116) rfl (d_move rfl ?_)
                refine tl_dg (gd_on rfl rfl rfl hb116) rfl (d_eql rfl rfl ?_)
                refine tl_d rfl (d_pick_true rfl hb116 rfl ?_)
                refine tl_d rfl (d_move rfl ?_)
                refine tl_dg (gd_on rfl rfl rfl hb117) rfl (d_move rfl ?_)
                refine tl_dg (gd_on rfl rfl rfl hb117) rfl (d_len_buf 5 rfl rfl Try.underlying23 (fun hl144 _ => ?_))
                refine tl_dg (gd_on rfl rfl rfl hb117) rfl (d_eql rfl rfl ?_)
                refine tl_d rfl (d_pick_true rfl hb117 rfl ?_)
                refine tl_d rfl (d_move rfl ?_)
                refine tl_dg (gd_on rfl rfl rfl hb119) rfl (d_move rfl ?_)
                refine tl_dg (gd_on rfl rfl rfl hb119) rfl (d_len_buf 7 rfl rfl Try.underlying40 (fun hl145 _ => ?_))
                refine tl_dg (gd_on rfl rfl rfl hb119) rfl (d_eql rfl rfl ?_)
                refine tl_d rfl (d_pick_true rfl hb119 rfl ?_)
                refine tl_d rfl (d_move rfl ?_)
                refine tl_dg (gd_on rfl rfl rfl hb121) rfl (d_move rfl ?_)
                refine tl_dg (gd_on rfl rfl rfl hb121) rfl (d_index_buf 7 rfl rfl rfl Try.underlying40 ty48 hn122 (fun p146 hp147 => ?_))
                refine tl_dg (gd_on rfl rfl rfl hb121) rfl (d_field_buf rfl hp147 fo48_0 (fun p148 hp149 => ?_))
                refine tl_dg (gd_on rfl rfl rfl hb121) rfl (d_load_buf (j := ((0 : Int)).toNat) 7 rfl hp149 rfl rfl (toNat_lt hn122) fl_Api_File_Path trivial ty9 rfl (fun v150 => ?_))
                refine tl_fact (rStr.fact (.string ⟨#[97]⟩) [97]) (str_fact rfl (by decide)) ?_
                refine tl_dg (gd_on rfl rfl rfl hb121) rfl (d_str_cmp (decide (((((c69.1).getD ((0 : Int)).toNat rApi_File.zeroD)).Path) = [97])) rfl rfl (mem_at 1 rfl) (mem_at 0 rfl) (.inl ⟨rfl, rfl⟩) ?_)
                refine tl_d rfl (d_pick_true rfl hb121 rfl ?_)
                refine tl_d rfl (d_move rfl ?_)
                refine tl_dg (gd_on rfl rfl rfl hb130) rfl (d_move rfl ?_)
                refine tl_dg (gd_on rfl rfl rfl hb130) rfl (d_index_buf 7 rfl rfl rfl Try.underlying40 ty48 hn131 (fun p153 hp154 => ?_))
                refine tl_dg (gd_on rfl rfl rfl hb130) rfl (d_field_buf rfl hp154 fo48_2 (fun p155 hp156 => ?_))
                refine tl_dg (gd_on rfl rfl rfl hb130) rfl (d_load_buf (j := ((0 : Int)).toNat) 7 rfl hp156 rfl rfl (toNat_lt hn131) fl_Api_File_Data trivial ty32 rfl (fun v157 => ?_))
                refine tl_dg (gd_on rfl rfl rfl hb130) rfl (d_bytes_str rfl (mem_at 0 rfl) Try.underlying32 Try.underlying5 Try.underlying9 (fun v159 => ?_))
                refine tl_fact (rStr.fact (.string ⟨#[7]⟩) [7]) (str_fact rfl (by decide)) ?_
                refine tl_dg (gd_on rfl rfl rfl hb130) rfl (d_str_cmp (decide (((((c69.1).getD ((0 : Int)).toNat rApi_File.zeroD)).Data) = [7])) rfl rfl (mem_at 1 rfl) (mem_at 0 rfl) (.inl ⟨rfl, rfl⟩) ?_)
                refine tl_d rfl (d_pick_true rfl hb130 rfl ?_)
                refine tl_d rfl (d_assign rfl ?_)
                refine tl_nil ?_
                have hr := Option.some.inj hf; subst hr
                exact q_cut (decide (((((c69.1).getD ((0 : Int)).toNat rApi_File.zeroD)).Data) = [7])) rfl ⟨rfl, trivial⟩ trivial [] (Sel.nil) rfl
              · have hf := if_f hb130 hf
                refine t_region ?_
                refine tl_d rfl (d_move rfl ?_)
                refine tl_d rfl (d_eql rfl rfl ?_)
                refine tl_d rfl (d_move rfl ?_)
                refine tl_dg (gd_on rfl rfl rfl hb115) rfl (d_move rfl ?_)
                refine tl_dg (gd_on rfl rfl rfl hb115) rfl (d_eql rfl rfl ?_)
                refine tl_d rfl (d_pick_true rfl hb115 rfl ?_)
                refine tl_d rfl (d_move rfl ?_)
                refine tl_dg (gd_on rfl rfl rfl hb116) rfl (d_move rfl ?_)
                refine tl_dg (gd_on rfl rfl rfl hb116) rfl (d_eql rfl rfl ?_)
                refine tl_d rfl (d_pick_true rfl hb116 rfl ?_)
                refine tl_d rfl (d_move rfl ?_)
                refine tl_dg (gd_on rfl rfl rfl hb117) rfl (d_move rfl ?_)
                refine tl_dg (gd_on rfl rfl rfl hb117) rfl (d_len_buf 5 rfl rfl Try.underlying23 (fun hl162 _ => ?_))
                refine tl_dg (gd_on rfl rfl rfl hb117) rfl (d_eql rfl rfl ?_)
                refine tl_d rfl (d_pick_true rfl hb117 rfl ?_)
                refine tl_d rfl (d_move rfl ?_)
                refine tl_dg (gd_on rfl rfl rfl hb119) rfl (d_move rfl ?_)
                refine tl_dg (gd_on rfl rfl rfl hb119) rfl (d_len_buf 7 rfl rfl Try.underlying40 (fun hl163 _ => ?_))
                refine tl_dg (gd_on rfl rfl rfl hb119) rfl (d_eql rfl rfl ?_)
                refine tl_d rfl (d_pick_true rfl hb119 rfl ?_)
                refine tl_d rfl (d_move rfl ?_)
                refine tl_dg (gd_on rfl rfl rfl hb121) rfl (d_move rfl ?_)
                refine tl_dg (gd_on rfl rfl rfl hb121) rfl (d_index_buf 7 rfl rfl rfl Try.underlying40 ty48 hn122 (fun p164 hp165 => ?_))
                refine tl_dg (gd_on rfl rfl rfl hb121) rfl (d_field_buf rfl hp165 fo48_0 (fun p166 hp167 => ?_))
                refine tl_dg (gd_on rfl rfl rfl hb121) rfl (d_load_buf (j := ((0 : Int)).toNat) 7 rfl hp167 rfl rfl (toNat_lt hn122) fl_Api_File_Path trivial ty9 rfl (fun v168 => ?_))
                refine tl_fact (rStr.fact (.string ⟨#[97]⟩) [97]) (str_fact rfl (by decide)) ?_
                refine tl_dg (gd_on rfl rfl rfl hb121) rfl (d_str_cmp (decide (((((c69.1).getD ((0 : Int)).toNat rApi_File.zeroD)).Path) = [97])) rfl rfl (mem_at 1 rfl) (mem_at 0 rfl) (.inl ⟨rfl, rfl⟩) ?_)
                refine tl_d rfl (d_pick_true rfl hb121 rfl ?_)
                refine tl_d rfl (d_move rfl ?_)
                refine tl_off (gd_off rfl rfl rfl hb130) rfl rfl ?_
                refine tl_off (gd_off rfl rfl rfl hb130) rfl rfl ?_
                refine tl_off (gd_off rfl rfl rfl hb130) rfl rfl ?_
                refine tl_off (gd_off rfl rfl rfl hb130) rfl rfl ?_
                refine tl_off (gd_off rfl rfl rfl hb130) rfl rfl ?_
                refine tl_off (gd_off rfl rfl rfl hb130) rfl rfl ?_
                refine tl_d rfl (d_pick_false rfl hb130 rfl ?_)
                refine tl_d rfl (d_assign rfl ?_)
                refine tl_nil ?_
                have hr := Option.some.inj hf; subst hr
                exact q_cut false rfl ⟨rfl, trivial⟩ trivial [] (Sel.nil) rfl
            · have hf := if_f hb121 hf
              refine t_region ?_
              refine tl_d rfl (d_move rfl ?_)
              refine tl_d rfl (d_eql rfl rfl ?_)
              refine tl_d rfl (d_move rfl ?_)
              refine tl_dg (gd_on rfl rfl rfl hb115) rfl (d_move rfl ?_)
              refine tl_dg (gd_on rfl rfl rfl hb115) rfl (d_eql rfl rfl ?_)
              refine tl_d rfl (d_pick_true rfl hb115 rfl ?_)
              refine tl_d rfl (d_move rfl ?_)
              refine tl_dg (gd_on rfl rfl rfl hb116) rfl (d_move rfl ?_)
              refine tl_dg (gd_on rfl rfl rfl hb116) rfl (d_eql rfl rfl ?_)
              refine tl_d rfl (d_pick_true rfl hb116 rfl ?_)
              refine tl_d rfl (d_move rfl ?_)
              refine tl_dg (gd_on rfl rfl rfl hb117) rfl (d_move rfl ?_)
              refine tl_dg (gd_on rfl rfl rfl hb117) rfl (d_len_buf 5 rfl rfl Try.underlying23 (fun hl171 _ => ?_))
              refine tl_dg (gd_on rfl rfl rfl hb117) rfl (d_eql rfl rfl ?_)
              refine tl_d rfl (d_pick_true rfl hb117 rfl ?_)
              refine tl_d rfl (d_move rfl ?_)
              refine tl_dg (gd_on rfl rfl rfl hb119) rfl (d_move rfl ?_)
              refine tl_dg (gd_on rfl rfl rfl hb119) rfl (d_len_buf 7 rfl rfl Try.underlying40 (fun hl172 _ => ?_))
              refine tl_dg (gd_on rfl rfl rfl hb119) rfl (d_eql rfl rfl ?_)
              refine tl_d rfl (d_pick_true rfl hb119 rfl ?_)
              refine tl_d rfl (d_move rfl ?_)
              refine tl_off (gd_off rfl rfl rfl hb121) rfl rfl ?_
              refine tl_off (gd_off rfl rfl rfl hb121) rfl rfl ?_
              refine tl_off (gd_off rfl rfl rfl hb121) rfl rfl ?_
              refine tl_off (gd_off rfl rfl rfl hb121) rfl rfl ?_
              refine tl_off (gd_off rfl rfl rfl hb121) rfl rfl ?_
              refine tl_d rfl (d_pick_false rfl hb121 rfl ?_)
              refine tl_d rfl (d_move rfl ?_)
              refine tl_off (gd_off rfl rfl rfl rfl) rfl rfl ?_
              refine tl_off (gd_off rfl rfl rfl rfl) rfl rfl ?_
              refine tl_off (gd_off rfl rfl rfl rfl) rfl rfl ?_
              refine tl_off (gd_off rfl rfl rfl rfl) rfl rfl ?_
              refine tl_off (gd_off rfl rfl rfl rfl) rfl rfl ?_
              refine tl_off (gd_off rfl rfl rfl rfl) rfl rfl ?_
              refine tl_d rfl (d_pick_false rfl rfl rfl ?_)
              refine tl_d rfl (d_assign rfl ?_)
              refine tl_nil ?_
              have hr := Option.some.inj hf; subst hr
              exact q_cut false rfl ⟨rfl, trivial⟩ trivial [] (Sel.nil) rfl
          · have hf := if_f hb119 hf
            refine t_region ?_
            refine tl_d rfl (d_move rfl ?_)
            refine tl_d rfl (d_eql rfl rfl ?_)
            refine tl_d rfl (d_move rfl ?_)
            refine tl_dg (gd_on rfl rfl rfl hb115) rfl (d_move rfl ?_)
            refine tl_dg (gd_on rfl rfl rfl hb115) rfl (d_eql rfl rfl ?_)
            refine tl_d rfl (d_pick_true rfl hb115 rfl ?_)
            refine tl_d rfl (d_move rfl ?_)
            refine tl_dg (gd_on rfl rfl rfl hb116) rfl (d_move rfl ?_)
            refine tl_dg (gd_on rfl rfl rfl hb116) rfl (d_eql rfl rfl ?_)
            refine tl_d rfl (d_pick_true rfl hb116 rfl ?_)
            refine tl_d rfl (d_move rfl ?_)
            refine tl_dg (gd_on rfl rfl rfl hb117) rfl (d_move rfl ?_)
            refine tl_dg (gd_on rfl rfl rfl hb117) rfl (d_len_buf 5 rfl rfl Try.underlying23 (fun hl173 _ => ?_))
            refine tl_dg (gd_on rfl rfl rfl hb117) rfl (d_eql rfl rfl ?_)
            refine tl_d rfl (d_pick_true rfl hb117 rfl ?_)
            refine tl_d rfl (d_move rfl ?_)
            refine tl_off (gd_off rfl rfl rfl hb119) rfl rfl ?_
            refine tl_off (gd_off rfl rfl rfl hb119) rfl rfl ?_
            refine tl_off (gd_off rfl rfl rfl hb119) rfl rfl ?_
            refine tl_d rfl (d_pick_false rfl hb119 rfl ?_)
            refine tl_d rfl (d_move rfl ?_)
            refine tl_off (gd_off rfl rfl rfl rfl) rfl rfl ?_
            refine tl_off (gd_off rfl rfl rfl rfl) rfl rfl ?_
            refine tl_off (gd_off rfl rfl rfl rfl) rfl rfl ?_
            refine tl_off (gd_off rfl rfl rfl rfl) rfl rfl ?_
            refine tl_off (gd_off rfl rfl rfl rfl) rfl rfl ?_
            refine tl_d rfl (d_pick_false rfl rfl rfl ?_)
            refine tl_d rfl (d_move rfl ?_)
            refine tl_off (gd_off rfl rfl rfl rfl) rfl rfl ?_
            refine tl_off (gd_off rfl rfl rfl rfl) rfl rfl ?_
            refine tl_off (gd_off rfl rfl rfl rfl) rfl rfl ?_
            refine tl_off (gd_off rfl rfl rfl rfl) rfl rfl ?_
            refine tl_off (gd_off rfl rfl rfl rfl) rfl rfl ?_
            refine tl_off (gd_off rfl rfl rfl rfl) rfl rfl ?_
            refine tl_d rfl (d_pick_false rfl rfl rfl ?_)
            refine tl_d rfl (d_assign rfl ?_)
            refine tl_nil ?_
            have hr := Option.some.inj hf; subst hr
            exact q_cut false rfl ⟨rfl, trivial⟩ trivial [] (Sel.nil) rfl
        · have hf := if_f hb117 hf
          refine t_region ?_
          refine tl_d rfl (d_move rfl ?_)
          refine tl_d rfl (d_eql rfl rfl ?_)
          refine tl_d rfl (d_move rfl ?_)
          refine tl_dg (gd_on rfl rfl rfl hb115) rfl (d_move rfl ?_)
          refine tl_dg (gd_on rfl rfl rfl hb115) rfl (d_eql rfl rfl ?_)
          refine tl_d rfl (d_pick_true rfl hb115 rfl ?_)
          refine tl_d rfl (d_move rfl ?_)
          refine tl_dg (gd_on rfl rfl rfl hb116) rfl (d_move rfl ?_)
          refine tl_dg (gd_on rfl rfl rfl hb116) rfl (d_eql rfl rfl ?_)
          refine tl_d rfl (d_pick_true rfl hb116 rfl ?_)
          refine tl_d rfl (d_move rfl ?_)
          refine tl_off (gd_off rfl rfl rfl hb117) rfl rfl ?_
          refine tl_off (gd_off rfl rfl rfl hb117) rfl rfl ?_
          refine tl_off (gd_off rfl rfl rfl hb117) rfl rfl ?_
          refine tl_d rfl (d_pick_false rfl hb117 rfl ?_)
          refine tl_d rfl (d_move rfl ?_)
          refine tl_off (gd_off rfl rfl rfl rfl) rfl rfl ?_
          refine tl_off (gd_off rfl rfl rfl rfl) rfl rfl ?_
          refine tl_off (gd_off rfl rfl rfl rfl) rfl rfl ?_
          refine tl_d rfl (d_pick_false rfl rfl rfl ?_)
          refine tl_d rfl (d_move rfl ?_)
          refine tl_off (gd_off rfl rfl rfl rfl) rfl rfl ?_
          refine tl_off (gd_off rfl rfl rfl rfl) rfl rfl ?_
          refine tl_off (gd_off rfl rfl rfl rfl) rfl rfl ?_
          refine tl_off (gd_off rfl rfl rfl rfl) rfl rfl ?_
          refine tl_off (gd_off rfl rfl rfl rfl) rfl rfl ?_
          refine tl_d rfl (d_pick_false rfl rfl rfl ?_)
          refine tl_d rfl (d_move rfl ?_)
          refine tl_off (gd_off rfl rfl rfl rfl) rfl rfl ?_
          refine tl_off (gd_off rfl rfl rfl rfl) rfl rfl ?_
          refine tl_off (gd_off rfl rfl rfl rfl) rfl rfl ?_
          refine tl_off (gd_off rfl rfl rfl rfl) rfl rfl ?_
          refine tl_off (gd_off rfl rfl rfl rfl) rfl rfl ?_
          refine tl_off (gd_off rfl rfl rfl rfl) rfl rfl ?_
          refine tl_d rfl (d_pick_false rfl rfl rfl ?_)
          refine tl_d rfl (d_assign rfl ?_)
          refine tl_nil ?_
          have hr := Option.some.inj hf; subst hr
          exact q_cut false rfl ⟨rfl, trivial⟩ trivial [] (Sel.nil) rfl
      · have hf := if_f hb116 hf
        refine t_region ?_
        refine tl_d rfl (d_move rfl ?_)
        refine tl_d rfl (d_eql rfl rfl ?_)
        refine tl_d rfl (d_move rfl ?_)
        refine tl_dg (gd_on rfl rfl rfl hb115) rfl (d_move rfl ?_)
        refine tl_dg (gd_on rfl rfl rfl hb115) rfl (d_eql rfl rfl ?_)
        refine tl_d rfl (d_pick_true rfl hb115 rfl ?_)
        refine tl_d rfl (d_move rfl ?_)
        refine tl_off (gd_off rfl rfl rfl hb116) rfl rfl ?_
        refine tl_off (gd_off rfl rfl rfl hb116) rfl rfl ?_
        refine tl_d rfl (d_pick_false rfl hb116 rfl ?_)
        refine tl_d rfl (d_move rfl ?_)
        refine tl_off (gd_off rfl rfl rfl rfl) rfl rfl ?_
        refine tl_off (gd_off rfl rfl rfl rfl) rfl rfl ?_
        refine tl_off (gd_off rfl rfl rfl rfl) rfl rfl ?_
        refine tl_d rfl (d_pick_false rfl rfl rfl ?_)
        refine tl_d rfl (d_move rfl ?_)
        refine tl_off (gd_off rfl rfl rfl rfl) rfl rfl ?_
        refine tl_off (gd_off rfl rfl rfl rfl) rfl rfl ?_
        refine tl_off (gd_off rfl rfl rfl rfl) rfl rfl ?_
        refine tl_d rfl (d_pick_false rfl rfl rfl ?_)
        refine tl_d rfl (d_move rfl ?_)
        refine tl_off (gd_off rfl rfl rfl rfl) rfl rfl ?_
        refine tl_off (gd_off rfl rfl rfl rfl) rfl rfl ?_
        refine tl_off (gd_off rfl rfl rfl rfl) rfl rfl ?_
        refine tl_off (gd_off rfl rfl rfl rfl) rfl rfl ?_
        refine tl_off (gd_off rfl rfl rfl rfl) rfl rfl ?_
        refine tl_d rfl (d_pick_false rfl rfl rfl ?_)
        refine tl_d rfl (d_move rfl ?_)
        refine tl_off (gd_off rfl rfl rfl rfl) rfl rfl ?_
        refine tl_off (gd_off rfl rfl rfl rfl) rfl rfl ?_
        refine tl_off (gd_off rfl rfl rfl rfl) rfl rfl ?_
        refine tl_off (gd_off rfl rfl rfl rfl) rfl rfl ?_
        refine tl_off (gd_off rfl rfl rfl rfl) rfl rfl ?_
        refine tl_off (gd_off rfl rfl rfl rfl) rfl rfl ?_
        refine tl_d rfl (d_pick_false rfl rfl rfl ?_)
        refine tl_d rfl (d_assign rfl ?_)
        refine tl_nil ?_
        have hr := Option.some.inj hf; subst hr
        exact q_cut false rfl ⟨rfl, trivial⟩ trivial [] (Sel.nil) rfl
    · have hf := if_f hb115 hf
      refine t_region ?_
      refine tl_d rfl (d_move rfl ?_)
      refine tl_d rfl (d_eql rfl rfl ?_)
      refine tl_d rfl (d_move rfl ?_)
      refine tl_off (gd_off rfl rfl rfl hb115) rfl rfl ?_
      refine tl_off (gd_off rfl rfl rfl hb115) rfl rfl ?_
      refine tl_d rfl (d_pick_false rfl hb115 rfl ?_)
      refine tl_d rfl (d_move rfl ?_)
      refine tl_off (gd_off rfl rfl rfl rfl) rfl rfl ?_
      refine tl_off (gd_off rfl rfl rfl rfl) rfl rfl ?_
      refine tl_d rfl (d_pick_false rfl rfl rfl ?_)
      refine tl_d rfl (d_move rfl ?_)
      refine tl_off (gd_off rfl rfl rfl rfl) rfl rfl ?_
      refine tl_off (gd_off rfl rfl rfl rfl) rfl rfl ?_
      refine tl_off (gd_off rfl rfl rfl rfl) rfl rfl ?_
      refine tl_d rfl (d_pick_false rfl rfl rfl ?_)
      refine tl_d rfl (d_move rfl ?_)
      refine tl_off (gd_off rfl rfl rfl rfl) rfl rfl ?_
      refine tl_off (gd_off rfl rfl rfl rfl) rfl rfl ?_
      refine tl_off (gd_off rfl rfl rfl rfl) rfl rfl ?_
      refine tl_d rfl (d_pick_false rfl rfl rfl ?_)
      refine tl_d rfl (d_move rfl ?_)
      refine tl_off (gd_off rfl rfl rfl rfl) rfl rfl ?_
      refine tl_off (gd_off rfl rfl rfl rfl) rfl rfl ?_
      refine tl_off (gd_off rfl rfl rfl rfl) rfl rfl ?_
      refine tl_off (gd_off rfl rfl rfl rfl) rfl rfl ?_
      refine tl_off (gd_off rfl rfl rfl rfl) rfl rfl ?_
      refine tl_d rfl (d_pick_false rfl rfl rfl ?_)
      refine tl_d rfl (d_move rfl ?_)
      refine tl_off (gd_off rfl rfl rfl rfl) rfl rfl ?_
      refine tl_off (gd_off rfl rfl rfl rfl) rfl rfl ?_
      refine tl_off (gd_off rfl rfl rfl rfl) rfl rfl ?_
      refine tl_off (gd_off rfl rfl rfl rfl) rfl rfl ?_
      refine tl_off (gd_off rfl rfl rfl rfl) rfl rfl ?_
      refine tl_off (gd_off rfl rfl rfl rfl) rfl rfl ?_
      refine tl_d rfl (d_pick_false rfl rfl rfl ?_)
      refine tl_d rfl (d_assign rfl ?_)
      refine tl_nil ?_
      have hr := Option.some.inj hf; subst hr
      exact q_cut false rfl ⟨rfl, trivial⟩ trivial [] (Sel.nil) rfl
  rintro s141 rfl
  refine q_then_code ?_
  refine t_ret ?_
  have hr := Option.some.inj hf; subst hr
  refine q_ret (post := fun w w' m v => rBool.val w' m v s141) hR _ (.inl rfl) (fun a w hs => ?_)
  exact ⟨_, run_results rfl (RvOk.cons (rv_tmp hs rfl) RvOk.nil), (hs.hv hv_bool)⟩

def cofferref17_Find.l0 (a0 : (List Api_Object)) (a1 : (List Int)) : Nat → Int → Option (Sum (Int) (Unit))
  | 0, _ => none
  | k + 1, s3 => (if (decide (s3 < ((a0).length : Int))) = true then (need (0 ≤ s3 ∧ s3 < ((a0).length : Int)) ((if (decide ((((a0).getD (s3).toNat rApi_Object.zeroD)).Of = a1)) = true then (some (.inl s3)) else (cofferref17_Find.l0 a0 a1 k (IntKind.i64.wrap (s3 + (1 : Int))))))) else (some (.inr ())))
def cofferref17_Find.f (k : Nat) (a0 : (List Api_Object)) (a1 : (List Int)) : Option (Int) := (cofferref17_Find.l0 a0 a1 k (0 : Int)).bind fun o29 => (match o29 with | .inl r => some r | .inr _ => (some (-1 : Int)))
set_option maxRecDepth 100000 in
set_option maxHeartbeats 1000000 in
theorem cofferref17_Find_ok (k : Nat) (a0 : (List Api_Object)) (a1 : (List Int)) (u0 u1 : Value) (r : Int) (hf : cofferref17_Find.f k a0 a1 = some r) : Cf.FnX true Try.prog 16 [u0, u1] (fun w m => (rSl 56 rApi_Object).val w m u0 a0 ∧ (rArr 32 (rInt .u8)).val w m u1 a1) (fun w w' m v => (rInt .i64).val w' m v r) := by
  unfold cofferref17_Find.f at hf
  refine fn_of Try.func16 rfl (Nat.le_of_ble_eq_true rfl) [(rSl 56 rApi_Object).fact u0 a0, (rArr 32 (rInt .u8)).fact u1 a1] (fun w m h f hf => ?_) ?_
  · simp at hf; rcases hf with rfl | rfl
    · exact h.1
    · exact h.2
  intro w0 m0 R hR
  refine t_seq ?_
  refine t_region ?_
  refine tl_g [] rfl (g_box (R := (rArr 32 (rInt .u8))) rfl rfl (hv_fact (mem_at 1 rfl)) (fun b2 => ?_))
  refine tl_d rfl (d_assign rfl ?_)
  refine tl_nil ?_
  refine q_then_code ?_
  refine t_seq ?_
  refine t_seq ?_
  refine t_region ?_
  refine tl_d rfl (d_assign rfl ?_)
  refine tl_nil ?_
  refine q_then_code ?_
  refine t_block ?_
  obtain ⟨o29, ho30, hf⟩ := bind_some hf
  refine t_loop (X := Int) (O := Sum (Int) (Unit)) (fun kl x => match x with | s3 => cofferref17_Find.l0 a0 a1 kl s3) o29 (fun x => match x with | s3 => (([(0, u0), (3, .pointer (some ⟨b2, 0, none⟩)), (5, .int .i64 s3)], [(rSl 56 rApi_Object).fact u0 a0], [Own.box b2 (rArr 32 (rInt .u8)) a1]) : Sym)) (fun x => match x with | s3 => IntKind.i64.wrap s3 = s3) k (0 : Int) ho30 rfl ⟨rfl, ⟨rfl, ⟨rfl, trivial⟩⟩⟩ ⟨mem_at 0 rfl, trivial⟩ [0] (Sel.cons rfl Sel.nil) rfl ?_
  clear ho30
  rintro k7 s3 hw_s3 hk6
  have hout4 := hf; clear hf
  obtain ⟨kq5, rfl⟩ : ∃ q, k7 = q + 1 := by cases k7 with | zero => cases hk6 | succ q => exact ⟨q, rfl⟩
  have hf := hk6
  clear hk6; dsimp only [cofferref17_Find.l0] at hf
  refine t_seq ?_
  refine t_seq ?_
  refine t_region ?_
  refine tl_d rfl (d_move rfl ?_)
  refine tl_d rfl (d_move rfl ?_)
  refine tl_d rfl (d_len_sl rfl (mem_at 0 rfl) Try.underlying22 (fun hl9 _ => ?_))
  refine tl_d rfl (d_lss rfl rfl ?_)
  refine tl_nil ?_
  refine q_then_code ?_
  refine t_cond rfl (fun hb10 => ?_) (fun hb10 => ?_)
  · have hf := if_t hb10 hf
    refine t_skip ?_
    refine q_then_code ?_
    refine t_seq ?_
    refine t_block ?_
    refine t_seq ?_
    obtain ⟨hn11, hf⟩ := need_some hf
    refine t_any (n := 7) [] mixed ⟨by kernel_rfl, .inl rfl⟩ (np_then (np_block (np_then (np_then (np_block (np_then np_body)))))) ?_
    refine ta_take (i := 0) rfl (by kernel_rfl) gd_none (d_move rfl ?_)
    refine ta_take (i := 1) rfl (by kernel_rfl) gd_none (d_move rfl ?_)
    refine ta_take (i := 2) rfl (by kernel_rfl) gd_none (d_index_sl rfl (mem_at 0 rfl) rfl Try.underlying22 ty34 hn11 (fun p20 => ?_))
    refine ta_take (i := 3) rfl (by kernel_rfl) gd_none (d_field_place rfl (mem_at 0 rfl) fo34_0 fl_Api_Object_Of trivial (fun p22 => ?_))
    refine ta_take (i := 4) rfl (by kernel_rfl) gd_none (d_load_place rfl (mem_at 0 rfl) ty29 (fun v24 => ?_))
    refine ta_take (i := 5) rfl (by kernel_rfl) gd_none (d_load_box 0 rfl rfl (Fld.self (rArr 32 (rInt .u8))) trivial ty29 rfl (fun v26 => ?_))
    refine ta_take (i := 6) rfl (by kernel_rfl) gd_none (d_eql_agg rfl rfl (mem_at 1 rfl) (mem_at 0 rfl) rfl (EqAt.arr Try.underlying29 ty5 (EqAt.int Try.underlying5)) (by decide) (by kernel_rfl) ?_)
    refine ta_done (by kernel_rfl) ?_
    refine q_then_code ?_
    refine t_cond rfl (fun hb28 => ?_) (fun hb28 => ?_)
    · have hf := if_t hb28 hf
      refine t_seq ?_
      refine t_region ?_
      refine tl_d rfl (d_move rfl ?_)
      refine tl_d rfl (d_assign rfl ?_)
      refine tl_nil ?_
      refine q_then_code ?_
      refine t_ret ?_
      refine q_block_ret ?_
      refine q_then_ret ?_
      refine q_then_ret ?_
      have hr := Option.some.inj hf; try subst hr
      have hf := hout4
      refine q_block_ret ?_
      refine q_then_ret ?_
      have hr := Option.some.inj hf; subst hr
      refine q_ret (post := fun w w' m v => (rInt .i64).val w' m v s3) hR _ (.inl rfl) (fun a w hs => ?_)
      exact ⟨_, run_results rfl (RvOk.cons (rv_tmp hs rfl) RvOk.nil), (hs.hv (hv_int hw_s3))⟩
    · have hf := if_f hb28 hf
      refine t_skip ?_
      refine q_block_normal ?_
      refine q_then_code ?_
      refine t_region ?_
      refine tl_d rfl (d_move rfl ?_)
      refine tl_d rfl (d_add rfl rfl ?_)
      refine tl_d rfl (d_assign rfl ?_)
      refine tl_nil ?_
      exact q_round kq5 (IntKind.i64.wrap (s3 + (1 : Int))) (Nat.lt_succ_self kq5) (wrap_wrap _ _) hf ⟨rfl, ⟨rfl, ⟨rfl, trivial⟩⟩⟩ ⟨mem_at 4 rfl, trivial⟩ [0] (Sel.cons rfl Sel.nil) rfl
  · have hf := if_f hb10 hf
    refine t_exit ?_
    refine q_then_exit ?_
    refine q_then_exit ?_
    have hr := Option.some.inj hf; try subst hr
    have hf := hout4
    try dsimp only at hf
    refine q_block_hit ?_
    refine q_then_code ?_
    refine t_seq ?_
    refine t_region ?_
    refine tl_d rfl (d_assign rfl ?_)
    refine tl_nil ?_
    refine q_then_code ?_
    refine t_ret ?_
    have hr := Option.some.inj hf; subst hr
    refine q_ret (post := fun w w' m v => (rInt .i64).val w' m v (-1 : Int)) hR _ (.inl rfl) (fun a w hs => ?_)
    exact ⟨_, run_results rfl (RvOk.cons (rv_tmp hs rfl) RvOk.nil), (hs.hv (hv_int rfl))⟩

def cofferref1_TakeCount.l0 (a0 : (List Int)) : Nat → Int → Int → Int → Option (Sum (Int × Int × Int) (Unit))
  | 0, _, _, _ => none
  | k + 1, s1, s2, s3 => (if (decide (s3 < ((a0).length : Int))) = true then (need (0 ≤ s3 ∧ s3 < ((a0).length : Int)) (((if (decide (s3 = (9 : Int))) = true then (some (decide ((1 : Int) < ((a0).getD (s3).toNat (rInt .u8).zeroD)))) else (some false))).bind fun s19 => (if s19 = true then (some (.inl ((0 : Int), (0 : Int), (4 : Int)))) else (if (decide (((a0).getD (s3).toNat (rInt .u8).zeroD) < (128 : Int))) = true then ((if (decide (((a0).getD (s3).toNat (rInt .u8).zeroD) = (0 : Int))) = true then (some (decide ((0 : Int) < s3))) else (some false))).bind fun s25 => (if s25 = true then (some (.inl ((0 : Int), (0 : Int), (4 : Int)))) else (some (.inl ((IntKind.u64.wrap (s1 + (IntKind.u64.wrap (((a0).getD (s3).toNat (rInt .u8).zeroD) * s2)))), (IntKind.i64.wrap (s3 + (1 : Int))), (0 : Int))))) else (cofferref1_TakeCount.l0 a0 k (IntKind.u64.wrap (s1 + (IntKind.u64.wrap ((IntKind.u64.wrap (((a0).getD (s3).toNat (rInt .u8).zeroD) - (128 : Int))) * s2)))) (IntKind.u64.wrap (s2 * (128 : Int))) (IntKind.i64.wrap (s3 + (1 : Int)))))))) else (some (.inr ())))
def cofferref1_TakeCount.f (k : Nat) (a0 : (List Int)) : Option (Int × Int × Int) := (cofferref1_TakeCount.l0 a0 k (0 : Int) (1 : Int) (0 : Int)).bind fun o29 => (match o29 with | .inl r => some r | .inr _ => (some ((0 : Int), (0 : Int), (3 : Int))))
set_option maxRecDepth 100000 in
set_option maxHeartbeats 2480000 in
theorem cofferref1_TakeCount_ok (k : Nat) (a0 : (List Int)) (u0 : Value) (r : Int × Int × Int) (hf : cofferref1_TakeCount.f k a0 = some r) : Cf.FnX true Try.prog 44 [u0] (fun w m => (rSl 1 (rInt .u8)).val w m u0 a0) (fun w w' m v => ∃ v0 v1 v2, v = .tuple #[v0, v1, v2] ∧ (rInt .u64).val w' m v0 r.1 ∧ (rInt .i64).val w' m v1 r.2.1 ∧ (rInt .i64).val w' m v2 r.2.2) := by
  unfold cofferref1_TakeCount.f at hf
  refine fn_of Try.func44 rfl (Nat.le_of_ble_eq_true rfl) [(rSl 1 (rInt .u8)).fact u0 a0] (fun w m h f hf => ?_) ?_
  · simp at hf; obtain rfl := hf; exact h
  intro w0 m0 R hR
  refine t_seq ?_
  refine t_region ?_
  refine tl_d rfl (d_assign rfl ?_)
  refine tl_d rfl (d_assign rfl ?_)
  refine tl_d rfl (d_assign rfl ?_)
  refine tl_nil ?_
  refine q_then_code ?_
  refine t_seq ?_
  refine t_region ?_
  refine tl_d rfl (d_assign rfl ?_)
  refine tl_d rfl (d_assign rfl ?_)
  refine tl_nil ?_
  refine q_then_code ?_
  refine t_seq ?_
  refine t_seq ?_
  refine t_region ?_
  refine tl_d rfl (d_assign rfl ?_)
  refine tl_nil ?_
  refine q_then_code ?_
  refine t_block ?_
  obtain ⟨o29, ho30, hf⟩ := bind_some hf
  refine t_loop (X := Int × Int × Int) (O := Sum (Int × Int × Int) (Unit)) (fun kl x => match x with | (s1, s2, s3) => cofferref1_TakeCount.l0 a0 kl s1 s2 s3) o29 (fun x => match x with | (s1, s2, s3) => (([(0, u0), (5, .int .u64 s1), (6, .int .u64 s2), (7, .int .i64 s3)], [(rSl 1 (rInt .u8)).fact u0 a0], []) : Sym)) (fun x => match x with | (s1, s2, s3) => IntKind.u64.wrap s1 = s1 ∧ IntKind.u64.wrap s2 = s2 ∧ IntKind.i64.wrap s3 = s3) k ((0 : Int), (1 : Int), (0 : Int)) ho30 ⟨rfl, rfl, rfl⟩ ⟨rfl, ⟨rfl, ⟨rfl, ⟨rfl, trivial⟩⟩⟩⟩ ⟨mem_at 0 rfl, trivial⟩ [] (Sel.nil) rfl ?_
  clear ho30
  rintro k7 ⟨s1, s2, s3⟩ ⟨hw_s1, hw_s2, hw_s3⟩ hk6
  have hout4 := hf; clear hf
  obtain ⟨kq5, rfl⟩ : ∃ q, k7 = q + 1 := by cases k7 with | zero => cases hk6 | succ q => exact ⟨q, rfl⟩
  have hf := hk6
  clear hk6; dsimp only [cofferref1_TakeCount.l0] at hf
  refine t_seq ?_
  refine t_seq ?_
  refine t_region ?_
  refine tl_d rfl (d_move rfl ?_)
  refine tl_d rfl (d_move rfl ?_)
  refine tl_d rfl (d_len_sl rfl (mem_at 0 rfl) Try.underlying32 (fun hl9 _ => ?_))
  refine tl_d rfl (d_lss rfl rfl ?_)
  refine tl_nil ?_
  refine q_then_code ?_
  refine t_cond rfl (fun hb10 => ?_) (fun hb10 => ?_)
  · have hf := if_t hb10 hf
    refine t_skip ?_
    refine q_then_code ?_
    refine t_seq ?_
    refine t_block ?_
    refine t_seq ?_
    obtain ⟨hn11, hf⟩ := need_some hf
    refine t_region ?_
    refine tl_d rfl (d_move rfl ?_)
    refine tl_d rfl (d_move rfl ?_)
    refine tl_d rfl (d_index_sl rfl (mem_at 0 rfl) rfl Try.underlying32 ty5 hn11 (fun p15 => ?_))
    refine tl_d rfl (d_load_int rfl (mem_at 0 rfl) ty5 (fun hw17 => ?_))
    refine tl_d rfl (d_conv_id Try.underlying5 Try.underlying91 rfl (wrap_widen rfl hw17) ?_)
    refine tl_d rfl (d_assign rfl ?_)
    refine tl_nil ?_
    refine q_then_code ?_
    refine t_seq ?_
    refine t_seq ?_
    obtain ⟨o20, ho21, hf⟩ := bind_some hf
    refine t_cut (X := Bool) (fun x => match x with | s19 => (([(0, u0), (5, (.int .u64 s1)), (6, (.int .u64 s2)), (7, (.int .i64 s3)), (8, (.int .u64 ((a0).getD (s3).toNat (rInt .u8).zeroD))), (25, .bool s19)], [(rSl 1 (rInt .u8)).fact u0 a0], []) : Sym)) (fun x => match x with | s19 => s19 = o20) ?_ ?_
    · have hf := ho21; clear ho21
      rcases bool_tf (decide (s3 = (9 : Int))) with hb18 | hb18
      · have hf := if_t hb18 hf
        refine t_region ?_
        refine tl_d rfl (d_move rfl ?_)
        refine tl_d rfl (d_eql rfl rfl ?_)
        refine tl_d rfl (d_move rfl ?_)
        refine tl_dg (gd_on rfl rfl rfl hb18) rfl (d_move rfl ?_)
        refine tl_dg (gd_on rfl rfl rfl hb18) rfl (d_gtr rfl rfl ?_)
        refine tl_d rfl (d_pick_true rfl hb18 rfl ?_)
        refine tl_nil ?_
        have hr := Option.some.inj hf; subst hr
        exact q_cut (decide ((1 : Int) < ((a0).getD (s3).toNat (rInt .u8).zeroD))) rfl ⟨rfl, ⟨rfl, ⟨rfl, ⟨rfl, ⟨rfl, ⟨rfl, trivial⟩⟩⟩⟩⟩⟩ ⟨mem_at 1 rfl, trivial⟩ [] (Sel.nil) rfl
      · have hf := if_f hb18 hf
        refine t_region ?_
        refine tl_d rfl (d_move rfl ?_)
        refine tl_d rfl (d_eql rfl rfl ?_)
        refine tl_d rfl (d_move rfl ?_)
        refine tl_off (gd_off rfl rfl rfl hb18) rfl rfl ?_
        refine tl_off (gd_off rfl rfl rfl hb18) rfl rfl ?_
        refine tl_d rfl (d_pick_false rfl hb18 rfl ?_)
        refine tl_nil ?_
        have hr := Option.some.inj hf; subst hr
        exact q_cut false rfl ⟨rfl, ⟨rfl, ⟨rfl, ⟨rfl, ⟨rfl, ⟨rfl, trivial⟩⟩⟩⟩⟩⟩ ⟨mem_at 1 rfl, trivial⟩ [] (Sel.nil) rfl
    rintro s19 rfl
    refine q_then_code ?_
    refine t_cond rfl (fun hb22 => ?_) (fun hb22 => ?_)
    · have hf := if_t hb22 hf
      refine t_seq ?_
      refine t_region ?_
      refine tl_d rfl (d_assign rfl ?_)
      refine tl_d rfl (d_assign rfl ?_)
      refine tl_d rfl (d_assign rfl ?_)
      refine tl_nil ?_
      refine q_then_code ?_
      refine t_ret ?_
      refine q_then_ret ?_
      refine q_block_ret ?_
      refine q_then_ret ?_
      refine q_then_ret ?_
      have hr := Option.some.inj hf; try subst hr
      have hf := hout4
      refine q_block_ret ?_
      refine q_then_ret ?_
      have hr := Option.some.inj hf; subst hr
      refine q_ret (post := fun w w' m v => ∃ v0 v1 v2, v = .tuple #[v0, v1, v2] ∧ (rInt .u64).val w' m v0 (0 : Int) ∧ (rInt .i64).val w' m v1 (0 : Int) ∧ (rInt .i64).val w' m v2 (4 : Int)) hR _ (.inl rfl) (fun a w hs => ?_)
      exact ⟨_, run_results rfl (RvOk.cons (rv_tmp hs rfl) (RvOk.cons (rv_tmp hs rfl) (RvOk.cons (rv_tmp hs rfl) RvOk.nil))), _, _, _, rfl, (hs.hv (hv_int rfl)), (hs.hv (hv_int rfl)), (hs.hv (hv_int rfl))⟩
    · have hf := if_f hb22 hf
      refine t_skip ?_
      refine q_then_code ?_
      refine t_seq ?_
      refine t_seq ?_
      refine t_region ?_
      refine tl_d rfl (d_move rfl ?_)
      refine tl_d rfl (d_lss rfl rfl ?_)
      refine tl_nil ?_
      refine q_then_code ?_
      refine t_cond rfl (fun hb23 => ?_) (fun hb23 => ?_)
      · have hf := if_t hb23 hf
        refine t_seq ?_
        refine t_seq ?_
        obtain ⟨o26, ho27, hf⟩ := bind_some hf
        refine t_cut (X := Bool) (fun x => match x with | s25 => (([(5, (.int .u64 s1)), (6, (.int .u64 s2)), (7, (.int .i64 s3)), (8, (.int .u64 ((a0).getD (s3).toNat (rInt .u8).zeroD))), (33, .bool s25)], [], []) : Sym)) (fun x => match x with | s25 => s25 = o26) ?_ ?_
        · have hf := ho27; clear ho27
          rcases bool_tf (decide (((a0).getD (s3).toNat (rInt .u8).zeroD) = (0 : Int))) with hb24 | hb24
          · have hf := if_t hb24 hf
            refine t_region ?_
            refine tl_d rfl (d_move rfl ?_)
            refine tl_d rfl (d_eql rfl rfl ?_)
            refine tl_d rfl (d_move rfl ?_)
            refine tl_dg (gd_on rfl rfl rfl hb24) rfl (d_move rfl ?_)
            refine tl_dg (gd_on rfl rfl rfl hb24) rfl (d_gtr rfl rfl ?_)
            refine tl_d rfl (d_pick_true rfl hb24 rfl ?_)
            refine tl_nil ?_
            have hr := Option.some.inj hf; subst hr
            exact q_cut (decide ((0 : Int) < s3)) rfl ⟨rfl, ⟨rfl, ⟨rfl, ⟨rfl, ⟨rfl, trivial⟩⟩⟩⟩⟩ trivial [] (Sel.nil) rfl
          · have hf := if_f hb24 hf
            refine t_region ?_
            refine tl_d rfl (d_move rfl ?_)
            refine tl_d rfl (d_eql rfl rfl ?_)
            refine tl_d rfl (d_move rfl ?_)
            refine tl_off (gd_off rfl rfl rfl hb24) rfl rfl ?_
            refine tl_off (gd_off rfl rfl rfl hb24) rfl rfl ?_
            refine tl_d rfl (d_pick_false rfl hb24 rfl ?_)
            refine tl_nil ?_
            have hr := Option.some.inj hf; subst hr
            exact q_cut false rfl ⟨rfl, ⟨rfl, ⟨rfl, ⟨rfl, ⟨rfl, trivial⟩⟩⟩⟩⟩ trivial [] (Sel.nil) rfl
        rintro s25 rfl
        refine q_then_code ?_
        refine t_cond rfl (fun hb28 => ?_) (fun hb28 => ?_)
        · have hf := if_t hb28 hf
          refine t_seq ?_
          refine t_region ?_
          refine tl_d rfl (d_assign rfl ?_)
          refine tl_d rfl (d_assign rfl ?_)
          refine tl_d rfl (d_assign rfl ?_)
          refine tl_nil ?_
          refine q_then_code ?_
          refine t_ret ?_
          refine q_then_ret ?_
          refine q_then_ret ?_
          refine q_block_ret ?_
          refine q_then_ret ?_
          refine q_then_ret ?_
          have hr := Option.some.inj hf; try subst hr
          have hf := hout4
          refine q_block_ret ?_
          refine q_then_ret ?_
          have hr := Option.some.inj hf; subst hr
          refine q_ret (post := fun w w' m v => ∃ v0 v1 v2, v = .tuple #[v0, v1, v2] ∧ (rInt .u64).val w' m v0 (0 : Int) ∧ (rInt .i64).val w' m v1 (0 : Int) ∧ (rInt .i64).val w' m v2 (4 : Int)) hR _ (.inl rfl) (fun a w hs => ?_)
          exact ⟨_, run_results rfl (RvOk.cons (rv_tmp hs rfl) (RvOk.cons (rv_tmp hs rfl) (RvOk.cons (rv_tmp hs rfl) RvOk.nil))), _, _, _, rfl, (hs.hv (hv_int rfl)), (hs.hv (hv_int rfl)), (hs.hv (hv_int rfl))⟩
        · have hf := if_f hb28 hf
          refine t_skip ?_
          refine q_then_code ?_
          refine t_seq ?_
          refine t_region ?_
          refine tl_d rfl (d_move rfl ?_)
          refine tl_d rfl (d_move rfl ?_)
          refine tl_d rfl (d_move rfl ?_)
          refine tl_d rfl (d_mul rfl rfl ?_)
          refine tl_d rfl (d_add rfl rfl ?_)
          refine tl_d rfl (d_move rfl ?_)
          refine tl_d rfl (d_add rfl rfl ?_)
          refine tl_d rfl (d_assign rfl ?_)
          refine tl_d rfl (d_assign rfl ?_)
          refine tl_d rfl (d_assign rfl ?_)
          refine tl_nil ?_
          refine q_then_code ?_
          refine t_ret ?_
          refine q_then_ret ?_
          refine q_block_ret ?_
          refine q_then_ret ?_
          refine q_then_ret ?_
          have hr := Option.some.inj hf; try subst hr
          have hf := hout4
          refine q_block_ret ?_
          refine q_then_ret ?_
          have hr := Option.some.inj hf; subst hr
          refine q_ret (post := fun w w' m v => ∃ v0 v1 v2, v = .tuple #[v0, v1, v2] ∧ (rInt .u64).val w' m v0 (IntKind.u64.wrap (s1 + (IntKind.u64.wrap (((a0).getD (s3).toNat (rInt .u8).zeroD) * s2)))) ∧ (rInt .i64).val w' m v1 (IntKind.i64.wrap (s3 + (1 : Int))) ∧ (rInt .i64).val w' m v2 (0 : Int)) hR _ (.inl rfl) (fun a w hs => ?_)
          exact ⟨_, run_results rfl (RvOk.cons (rv_tmp hs rfl) (RvOk.cons (rv_tmp hs rfl) (RvOk.cons (rv_tmp hs rfl) RvOk.nil))), _, _, _, rfl, (hs.hv (hv_int (wrap_wrap _ _))), (hs.hv (hv_int (wrap_wrap _ _))), (hs.hv (hv_int rfl))⟩
      · have hf := if_f hb23 hf
        refine t_skip ?_
        refine q_then_code ?_
        refine t_seq ?_
        refine t_region ?_
        refine tl_d rfl (d_move rfl ?_)
        refine tl_d rfl (d_move rfl ?_)
        refine tl_d rfl (d_sub rfl rfl ?_)
        refine tl_d rfl (d_move rfl ?_)
        refine tl_d rfl (d_mul rfl rfl ?_)
        refine tl_d rfl (d_add rfl rfl ?_)
        refine tl_d rfl (d_assign rfl ?_)
        refine tl_nil ?_
        refine q_then_code ?_
        refine t_region ?_
        refine tl_d rfl (d_move rfl ?_)
        refine tl_d rfl (d_mul rfl rfl ?_)
        refine tl_d rfl (d_assign rfl ?_)
        refine tl_nil ?_
        refine q_block_normal ?_
        refine q_then_code ?_
        refine t_region ?_
        refine tl_d rfl (d_move rfl ?_)
        refine tl_d rfl (d_add rfl rfl ?_)
        refine tl_d rfl (d_assign rfl ?_)
        refine tl_nil ?_
        exact q_round kq5 ((IntKind.u64.wrap (s1 + (IntKind.u64.wrap ((IntKind.u64.wrap (((a0).getD (s3).toNat (rInt .u8).zeroD) - (128 : Int))) * s2)))), (IntKind.u64.wrap (s2 * (128 : Int))), (IntKind.i64.wrap (s3 + (1 : Int)))) (Nat.lt_succ_self kq5) ⟨(wrap_wrap _ _), (wrap_wrap _ _), (wrap_wrap _ _)⟩ hf ⟨rfl, ⟨rfl, ⟨rfl, ⟨rfl, trivial⟩⟩⟩⟩ ⟨mem_at 0 rfl, trivial⟩ [] (Sel.nil) rfl
  · have hf := if_f hb10 hf
    refine t_exit ?_
    refine q_then_exit ?_
    refine q_then_exit ?_
    have hr := Option.some.inj hf; try subst hr
    have hf := hout4
    try dsimp only at hf
    refine q_block_hit ?_
    refine q_then_code ?_
    refine t_seq ?_
    refine t_region ?_
    refine tl_d rfl (d_assign rfl ?_)
    refine tl_d rfl (d_assign rfl ?_)
    refine tl_d rfl (d_assign rfl ?_)
    refine tl_nil ?_
    refine q_then_code ?_
    refine t_ret ?_
    have hr := Option.some.inj hf; subst hr
    refine q_ret (post := fun w w' m v => ∃ v0 v1 v2, v = .tuple #[v0, v1, v2] ∧ (rInt .u64).val w' m v0 (0 : Int) ∧ (rInt .i64).val w' m v1 (0 : Int) ∧ (rInt .i64).val w' m v2 (3 : Int)) hR _ (.inl rfl) (fun a w hs => ?_)
    exact ⟨_, run_results rfl (RvOk.cons (rv_tmp hs rfl) (RvOk.cons (rv_tmp hs rfl) (RvOk.cons (rv_tmp hs rfl) RvOk.nil))), _, _, _, rfl, (hs.hv (hv_int rfl)), (hs.hv (hv_int rfl)), (hs.hv (hv_int rfl))⟩

def cofferref1_TakeText.f (k : Nat) (a0 : (List Int)) : Option ((List Int) × Int × Int) := ((cofferref1_TakeCount.f k a0).bind fun c1 => (if (!decide (c1.2.2 = (0 : Int))) = true then (some (([] : (List Int)), (0 : Int), c1.2.2)) else (if (decide ((65536 : Int) < c1.1)) = true then (some (([] : (List Int)), (0 : Int), (2 : Int))) else (if (decide ((IntKind.i64.wrap (((a0).length : Int) - c1.2.1)) < (IntKind.i64.wrap c1.1))) = true then (some (([] : (List Int)), (0 : Int), (3 : Int))) else (need (0 ≤ c1.2.1 ∧ c1.2.1 ≤ (IntKind.i64.wrap (c1.2.1 + (IntKind.i64.wrap c1.1))) ∧ (IntKind.i64.wrap (c1.2.1 + (IntKind.i64.wrap c1.1))) ≤ ((a0).length : Int)) (need (fits 1 ((([] : List Int)).length + ((sub a0 c1.2.1 (IntKind.i64.wrap (c1.2.1 + (IntKind.i64.wrap c1.1))))).length)) ((some ((([] : List Int) ++ (sub a0 c1.2.1 (IntKind.i64.wrap (c1.2.1 + (IntKind.i64.wrap c1.1))))), (IntKind.i64.wrap (c1.2.1 + (IntKind.i64.wrap c1.1))), (0 : Int))))))))))
set_option maxRecDepth 100000 in
set_option maxHeartbeats 1340000 in
theorem cofferref1_TakeText_ok (k : Nat) (a0 : (List Int)) (u0 : Value) (r : (List Int) × Int × Int) (hf : cofferref1_TakeText.f k a0 = some r) : Cf.FnX true Try.prog 43 [u0] (fun w m => (rSl 1 (rInt .u8)).val w m u0 a0) (fun w w' m v => ∃ v0 v1 v2, v = .tuple #[v0, v1, v2] ∧ OwnRes (rInt .u8) 1 w w' m v0 r.1 ∧ ∀ m', (∀ b, b ∈ m' → b ∈ m ∨ bufBlk v0 = some b) → (rInt .i64).val w' m' v1 r.2.1 ∧ (rInt .i64).val w' m' v2 r.2.2) := by
  unfold cofferref1_TakeText.f at hf
  refine fn_of Try.func43 rfl (Nat.le_of_ble_eq_true rfl) [(rSl 1 (rInt .u8)).fact u0 a0] (fun w m h f hf => ?_) ?_
  · simp at hf; obtain rfl := hf; exact h
  intro w0 m0 R hR
  refine t_seq ?_
  refine t_region ?_
  refine tl_d rfl (d_assign rfl ?_)
  refine tl_d rfl (d_assign rfl ?_)
  refine tl_d rfl (d_assign rfl ?_)
  refine tl_nil ?_
  refine q_then_code ?_
  refine t_seq ?_
  obtain ⟨c1, hc2, hf⟩ := bind_some hf
  refine t_region ?_
  refine tl_d rfl (d_move rfl ?_)
  refine tl_g [] rfl (g_call3 rfl hfn44 (cofferref1_TakeCount_ok _ _ _ _ hc2) (Evs.cons rfl Evs.nil) (fun a w hs => (hv_fact (mem_at 0 rfl)) _ _ _ _ hs) (fun v15 v16 v17 => ?_))
  refine tl_int (mem_at 0 rfl) (fun hv22 hw21 => ?_)
  subst hv22
  refine tl_int (mem_at 1 rfl) (fun hv24 hw23 => ?_)
  subst hv24
  refine tl_int (mem_at 2 rfl) (fun hv26 hw25 => ?_)
  subst hv26
  refine tl_d rfl (d_move rfl ?_)
  refine tl_d rfl (d_extract rfl rfl ?_)
  refine tl_d rfl (d_extract rfl rfl ?_)
  refine tl_d rfl (d_extract rfl rfl ?_)
  refine tl_d rfl (d_assign rfl ?_)
  refine tl_d rfl (d_assign rfl ?_)
  refine tl_d rfl (d_assign rfl ?_)
  refine tl_nil ?_
  refine q_then_code ?_
  refine t_seq ?_
  refine t_seq ?_
  refine t_region ?_
  refine tl_d rfl (d_move rfl ?_)
  refine tl_d rfl (d_neq rfl rfl ?_)
  refine tl_nil ?_
  refine q_then_code ?_
  refine t_cond rfl (fun hb27 => ?_) (fun hb27 => ?_)
  · have hf := if_t hb27 hf
    refine t_seq ?_
    refine t_region ?_
    refine tl_d rfl (d_move rfl ?_)
    refine tl_d rfl (d_assign rfl ?_)
    refine tl_d rfl (d_assign rfl ?_)
    refine tl_d rfl (d_assign rfl ?_)
    refine tl_nil ?_
    refine q_then_code ?_
    refine t_ret ?_
    refine q_then_ret ?_
    have hr := Option.some.inj hf; subst hr
    refine q_ret (post := fun w w' m v => ∃ v0 v1 v2, v = .tuple #[v0, v1, v2] ∧ OwnRes (rInt .u8) 1 w w' m v0 ([] : (List Int)) ∧ ∀ m', (∀ b, b ∈ m' → b ∈ m ∨ bufBlk v0 = some b) → (rInt .i64).val w' m' v1 (0 : Int) ∧ (rInt .i64).val w' m' v2 c1.2.2) hR _ (.inl rfl) (fun a w hs => ?_)
    exact ⟨_, run_results rfl (RvOk.cons (rv_tmp hs rfl) (RvOk.cons (rv_tmp hs rfl) (RvOk.cons (rv_tmp hs rfl) RvOk.nil))), _, _, _, rfl, ownres_nil, fun m' hm' => ⟨⟨[_], ⟨rfl, rfl⟩, rfl⟩, ⟨[_], ⟨rfl, hw25⟩, rfl⟩⟩⟩
  · have hf := if_f hb27 hf
    refine t_skip ?_
    refine q_then_code ?_
    refine t_seq ?_
    refine t_seq ?_
    refine t_region ?_
    refine tl_d rfl (d_move rfl ?_)
    refine tl_d rfl (d_gtr rfl rfl ?_)
    refine tl_nil ?_
    refine q_then_code ?_
    refine t_cond rfl (fun hb28 => ?_) (fun hb28 => ?_)
    · have hf := if_t hb28 hf
      refine t_seq ?_
      refine t_region ?_
      refine tl_d rfl (d_assign rfl ?_)
      refine tl_d rfl (d_assign rfl ?_)
      refine tl_d rfl (d_assign rfl ?_)
      refine tl_nil ?_
      refine q_then_code ?_
      refine t_ret ?_
      refine q_then_ret ?_
      have hr := Option.some.inj hf; subst hr
      refine q_ret (post := fun w w' m v => ∃ v0 v1 v2, v = .tuple #[v0, v1, v2] ∧ OwnRes (rInt .u8) 1 w w' m v0 ([] : (List Int)) ∧ ∀ m', (∀ b, b ∈ m' → b ∈ m ∨ bufBlk v0 = some b) → (rInt .i64).val w' m' v1 (0 : Int) ∧ (rInt .i64).val w' m' v2 (2 : Int)) hR _ (.inl rfl) (fun a w hs => ?_)
      exact ⟨_, run_results rfl (RvOk.cons (rv_tmp hs rfl) (RvOk.cons (rv_tmp hs rfl) (RvOk.cons (rv_tmp hs rfl) RvOk.nil))), _, _, _, rfl, ownres_nil, fun m' hm' => ⟨⟨[_], ⟨rfl, rfl⟩, rfl⟩, ⟨[_], ⟨rfl, rfl⟩, rfl⟩⟩⟩
    · have hf := if_f hb28 hf
      refine t_skip ?_
      refine q_then_code ?_
      refine t_seq ?_
      refine t_seq ?_
      refine t_region ?_
      refine tl_d rfl (d_move rfl ?_)
      refine tl_d rfl (d_conv Try.underlying91 Try.underlying3 rfl ?_)
      refine tl_d rfl (d_move rfl ?_)
      refine tl_d rfl (d_len_sl rfl (mem_at 3 rfl) Try.underlying32 (fun hl30 _ => ?_))
      refine tl_d rfl (d_move rfl ?_)
      refine tl_d rfl (d_sub rfl rfl ?_)
      refine tl_d rfl (d_gtr rfl rfl ?_)
      refine tl_nil ?_
      refine q_then_code ?_
      refine t_cond rfl (fun hb31 => ?_) (fun hb31 => ?_)
      · have hf := if_t hb31 hf
        refine t_seq ?_
        refine t_region ?_
        refine tl_d rfl (d_assign rfl ?_)
        refine tl_d rfl (d_assign rfl ?_)
        refine tl_d rfl (d_assign rfl ?_)
        refine tl_nil ?_
        refine q_then_code ?_
        refine t_ret ?_
        refine q_then_ret ?_
        have hr := Option.some.inj hf; subst hr
        refine q_ret (post := fun w w' m v => ∃ v0 v1 v2, v = .tuple #[v0, v1, v2] ∧ OwnRes (rInt .u8) 1 w w' m v0 ([] : (List Int)) ∧ ∀ m', (∀ b, b ∈ m' → b ∈ m ∨ bufBlk v0 = some b) → (rInt .i64).val w' m' v1 (0 : Int) ∧ (rInt .i64).val w' m' v2 (3 : Int)) hR _ (.inl rfl) (fun a w hs => ?_)
        exact ⟨_, run_results rfl (RvOk.cons (rv_tmp hs rfl) (RvOk.cons (rv_tmp hs rfl) (RvOk.cons (rv_tmp hs rfl) RvOk.nil))), _, _, _, rfl, ownres_nil, fun m' hm' => ⟨⟨[_], ⟨rfl, rfl⟩, rfl⟩, ⟨[_], ⟨rfl, rfl⟩, rfl⟩⟩⟩
      · have hf := if_f hb31 hf
        refine t_skip ?_
        refine q_then_code ?_
        refine t_seq ?_
        obtain ⟨hn35, hf⟩ := need_some hf
        obtain ⟨hn36, hf⟩ := need_some hf
        refine t_region ?_
        refine tl_g [] rfl (g_buildSlice (R := (rInt .u8)) (l := []) rfl Try.underlying32 ty5 ⟨rfl, by decide, by decide, by decide⟩ PartsOk.nil rfl (fun v38 => ?_))
        refine tl_d rfl (d_move rfl ?_)
        refine tl_d rfl (d_move rfl ?_)
        refine tl_d rfl (d_move rfl ?_)
        refine tl_d rfl (d_move rfl ?_)
        refine tl_d rfl (d_conv Try.underlying91 Try.underlying3 rfl ?_)
        refine tl_d rfl (d_add rfl rfl ?_)
        refine tl_d rfl (d_slice_sl (i := c1.2.1) (j := (IntKind.i64.wrap (c1.2.1 + (IntKind.i64.wrap c1.1)))) rfl (mem_at 3 rfl) (.inr ⟨_, _, rfl, rfl⟩) (.inr ⟨_, _, rfl, rfl⟩) Try.underlying32 ty5 hn35 (fun v39 => ?_))
        refine tl_g _ rfl (g_append_sl (l2 := (sub a0 c1.2.1 (IntKind.i64.wrap (c1.2.1 + (IntKind.i64.wrap c1.1))))) 0 rfl rfl rfl rfl (hv_fact (mem_at 0 rfl)) Try.underlying32 ⟨_, Try.underlying32, fun k h => by cases h⟩ ty5 hn36 (List.mem_singleton_self _) (fun v41 => ?_))
        refine tl_d rfl (d_move rfl ?_)
        refine tl_d rfl (d_move rfl ?_)
        refine tl_d rfl (d_conv Try.underlying91 Try.underlying3 rfl ?_)
        refine tl_d rfl (d_add rfl rfl ?_)
        refine tl_d rfl (d_assign rfl ?_)
        refine tl_d rfl (d_assign rfl ?_)
        refine tl_d rfl (d_assign rfl ?_)
        refine tl_nil ?_
        refine q_then_code ?_
        refine t_ret ?_
        have hr := Option.some.inj hf; subst hr
        refine q_ret (post := fun w w' m v => ∃ v0 v1 v2, v = .tuple #[v0, v1, v2] ∧ OwnRes (rInt .u8) 1 w w' m v0 (([] : List Int) ++ (sub a0 c1.2.1 (IntKind.i64.wrap (c1.2.1 + (IntKind.i64.wrap c1.1))))) ∧ ∀ m', (∀ b, b ∈ m' → b ∈ m ∨ bufBlk v0 = some b) → (rInt .i64).val w' m' v1 (IntKind.i64.wrap (c1.2.1 + (IntKind.i64.wrap c1.1))) ∧ (rInt .i64).val w' m' v2 (0 : Int)) hR _ (.inl rfl) (fun a w hs => ?_)
        exact ⟨_, run_results rfl (RvOk.cons (rv_tmp hs rfl) (RvOk.cons (rv_tmp hs rfl) (RvOk.cons (rv_tmp hs rfl) RvOk.nil))), _, _, _, rfl, (hs.ownres (i := 0) rfl), fun m' hm' => ⟨⟨[_], ⟨rfl, (wrap_wrap _ _)⟩, rfl⟩, ⟨[_], ⟨rfl, rfl⟩, rfl⟩⟩⟩

def cofferref15_Take.l0 (a0 : (List Int)) : Nat → (List Api_Item) → Int → Int → Option (Sum ((List Api_Item) × Int) ((List Api_Item)))
  | 0, _, _, _ => none
  | k + 1, s43, s45, s46 => (need (0 ≤ (2 : Int) ∧ (2 : Int) < ((a0).length : Int)) ((if (decide (s46 < ((a0).getD ((2 : Int)).toNat (rInt .u8).zeroD))) = true then (if (decide (((a0).length : Int) < (IntKind.i64.wrap (s45 + (2 : Int))))) = true then (some (.inl (([] : (List Api_Item)), (4 : Int)))) else (need (0 ≤ s45 ∧ s45 < ((a0).length : Int)) ((need (0 ≤ (IntKind.i64.wrap (s45 + (1 : Int))) ∧ (IntKind.i64.wrap (s45 + (1 : Int))) ≤ ((a0).length : Int) ∧ ((a0).length : Int) ≤ ((a0).length : Int)) ((cofferref1_TakeText.f k (sub a0 (IntKind.i64.wrap (s45 + (1 : Int))) ((a0).length : Int))).bind fun c78 => ((if (!decide (c78.2.2 = (0 : Int))) = true then (some true) else (some (decide (((a0).length : Int) < (IntKind.i64.wrap ((IntKind.i64.wrap ((IntKind.i64.wrap (s45 + (1 : Int))) + c78.2.1)) + (32 : Int)))))))).bind fun s104 => (if s104 = true then (some (.inl (([] : (List Api_Item)), (4 : Int)))) else (need (0 ≤ (IntKind.i64.wrap ((IntKind.i64.wrap (s45 + (1 : Int))) + c78.2.1)) ∧ (IntKind.i64.wrap ((IntKind.i64.wrap (s45 + (1 : Int))) + c78.2.1)) ≤ (IntKind.i64.wrap ((IntKind.i64.wrap ((IntKind.i64.wrap (s45 + (1 : Int))) + c78.2.1)) + (32 : Int))) ∧ (IntKind.i64.wrap ((IntKind.i64.wrap ((IntKind.i64.wrap (s45 + (1 : Int))) + c78.2.1)) + (32 : Int))) ≤ ((a0).length : Int)) (need (32 ≤ ((sub a0 (IntKind.i64.wrap ((IntKind.i64.wrap (s45 + (1 : Int))) + c78.2.1)) (IntKind.i64.wrap ((IntKind.i64.wrap ((IntKind.i64.wrap (s45 + (1 : Int))) + c78.2.1)) + (32 : Int))))).length) ((need (0 ≤ (IntKind.i64.wrap ((IntKind.i64.wrap ((IntKind.i64.wrap (s45 + (1 : Int))) + c78.2.1)) + (32 : Int))) ∧ (IntKind.i64.wrap ((IntKind.i64.wrap ((IntKind.i64.wrap (s45 + (1 : Int))) + c78.2.1)) + (32 : Int))) ≤ ((a0).length : Int) ∧ ((a0).length : Int) ≤ ((a0).length : Int)) ((cofferref1_TakeCount.f k (sub a0 (IntKind.i64.wrap ((IntKind.i64.wrap ((IntKind.i64.wrap (s45 + (1 : Int))) + c78.2.1)) + (32 : Int))) ((a0).length : Int))).bind fun c132 => ((if (!decide (c132.2.2 = (0 : Int))) = true then (some true) else (some (decide ((9223372036854775807 : Int) < c132.1))))).bind fun s161 => (if s161 = true then (some (.inl (([] : (List Api_Item)), (4 : Int)))) else (need (fits 64 ((s43).length + ([(((((((⟨[], ((a0).getD (s45).toNat (rInt .u8).zeroD), (rArr 32 (rInt .u8)).zeroD, (0 : Int)⟩ : Api_Item)).set_Name c78.1)).set_Of (((sub a0 (IntKind.i64.wrap ((IntKind.i64.wrap (s45 + (1 : Int))) + c78.2.1)) (IntKind.i64.wrap ((IntKind.i64.wrap ((IntKind.i64.wrap (s45 + (1 : Int))) + c78.2.1)) + (32 : Int))))).take 32))).set_Size (IntKind.i64.wrap c132.1))]).length)) ((cofferref15_Take.l0 a0 k (s43 ++ [(((((((⟨[], ((a0).getD (s45).toNat (rInt .u8).zeroD), (rArr 32 (rInt .u8)).zeroD, (0 : Int)⟩ : Api_Item)).set_Name c78.1)).set_Of (((sub a0 (IntKind.i64.wrap ((IntKind.i64.wrap (s45 + (1 : Int))) + c78.2.1)) (IntKind.i64.wrap ((IntKind.i64.wrap ((IntKind.i64.wrap (s45 + (1 : Int))) + c78.2.1)) + (32 : Int))))).take 32))).set_Size (IntKind.i64.wrap c132.1))]) (IntKind.i64.wrap ((IntKind.i64.wrap ((IntKind.i64.wrap ((IntKind.i64.wrap (s45 + (1 : Int))) + c78.2.1)) + (32 : Int))) + c132.2.1)) (IntKind.i64.wrap (s46 + (1 : Int)))))))))))))))))) else (some (.inr s43)))))
def cofferref15_Take.f (k : Nat) (a0 : (List Int)) : Option ((List Api_Item) × Int) := ((if (decide (((a0).length : Int) < (3 : Int))) = true then (some true) else (need (0 ≤ (0 : Int) ∧ (0 : Int) < ((a0).length : Int)) ((if (!decide (((a0).getD ((0 : Int)).toNat (rInt .u8).zeroD) = (68 : Int))) = true then (some true) else (need (0 ≤ (1 : Int) ∧ (1 : Int) < ((a0).length : Int)) ((if (!decide (((a0).getD ((1 : Int)).toNat (rInt .u8).zeroD) = (49 : Int))) = true then (some true) else (need (0 ≤ (2 : Int) ∧ (2 : Int) < ((a0).length : Int)) ((some (decide ((64 : Int) < ((a0).getD ((2 : Int)).toNat (rInt .u8).zeroD)))))))))))))).bind fun s17 => (if s17 = true then (some (([] : (List Api_Item)), (4 : Int))) else (cofferref15_Take.l0 a0 k ([] : List Api_Item) (3 : Int) (0 : Int)).bind fun o203 => (match o203 with | .inl r => some r | .inr s43 => ((cofferref15_Bytes.f k s43).bind fun c174 => ((if (!decide (c174.2 = (0 : Int))) = true then (some true) else (some (!decide (c174.1 = a0))))).bind fun s194 => (if s194 = true then (some (([] : (List Api_Item)), (4 : Int))) else (some (s43, (0 : Int)))))))
set_option maxRecDepth 100000 in
set_option maxHeartbeats 5400000 in
theorem cofferref15_Take_ok (k : Nat) (a0 : (List Int)) (u0 : Value) (r : (List Api_Item) × Int) (hf : cofferref15_Take.f k a0 = some r) : Cf.FnX true Try.prog 28 [u0] (fun w m => (rSl 1 (rInt .u8)).val w m u0 a0) (fun w w' m v => ∃ v0 v1, v = .tuple #[v0, v1] ∧ OwnRes rApi_Item 64 w w' m v0 r.1 ∧ ∀ m', (∀ b, b ∈ m' → b ∈ m ∨ bufBlk v0 = some b) → (rInt .i64).val w' m' v1 r.2) := by
  unfold cofferref15_Take.f at hf
  refine fn_of Try.func28 rfl (Nat.le_of_ble_eq_true rfl) [(rSl 1 (rInt .u8)).fact u0 a0] (fun w m h f hf => ?_) ?_
  · simp at hf; obtain rfl := hf; exact h
  intro w0 m0 R hR
  refine t_seq ?_
  refine t_region ?_
  refine tl_d rfl (d_assign rfl ?_)
  refine tl_d rfl (d_assign rfl ?_)
  refine tl_nil ?_
  refine q_then_code ?_
  refine t_seq ?_
  refine t_seq ?_
  obtain ⟨o18, ho19, hf⟩ := bind_some hf
  refine t_cut (X := Bool) (fun x => match x with | s17 => (([(0, u0), (34, .bool s17)], [(rSl 1 (rInt .u8)).fact u0 a0], []) : Sym)) (fun x => match x with | s17 => s17 = o18) ?_ ?_
  · have hf := ho19; clear ho19
    rcases bool_tf (decide (((a0).length : Int) < (3 : Int))) with hb2 | hb2
    · have hf := if_t hb2 hf
      refine t_region ?_
      refine tl_d rfl (d_move rfl ?_)
      refine tl_d rfl (d_len_sl rfl (mem_at 0 rfl) Try.underlying32 (fun hl20 _ => ?_))
      refine tl_d rfl (d_lss rfl rfl ?_)
      refine tl_d rfl (d_move rfl ?_)
      refine tl_off (gd_off rfl rfl rfl hb2) rfl rfl ?_
      refine tl_off (gd_off rfl rfl rfl hb2) rfl rfl ?_
      refine tl_off (gd_off rfl rfl rfl hb2) rfl rfl ?_
      refine tl_off (gd_off rfl rfl rfl hb2) rfl rfl ?_
      refine tl_d rfl (d_pick_true rfl hb2 rfl ?_)
      refine tl_d rfl (d_move rfl ?_)
      refine tl_off (gd_off rfl rfl rfl rfl) rfl rfl ?_
      refine tl_off (gd_off rfl rfl rfl rfl) rfl rfl ?_
      refine tl_off (gd_off rfl rfl rfl rfl) rfl rfl ?_
      refine tl_off (gd_off rfl rfl rfl rfl) rfl rfl ?_
      refine tl_d rfl (d_pick_true rfl rfl rfl ?_)
      refine tl_d rfl (d_move rfl ?_)
      refine tl_off (gd_off rfl rfl rfl rfl) rfl rfl ?_
      refine tl_off (gd_off rfl rfl rfl rfl) rfl rfl ?_
      refine tl_off (gd_off rfl rfl rfl rfl) rfl rfl ?_
      refine tl_off (gd_off rfl rfl rfl rfl) rfl rfl ?_
      refine tl_d rfl (d_pick_true rfl rfl rfl ?_)
      refine tl_nil ?_
      have hr := Option.some.inj hf; subst hr
      exact q_cut true rfl ⟨rfl, ⟨rfl, trivial⟩⟩ ⟨mem_at 0 rfl, trivial⟩ [] (Sel.nil) rfl
    · have hf := if_f hb2 hf
      obtain ⟨hn3, hf⟩ := need_some hf
      rcases bool_tf (!decide (((a0).getD ((0 : Int)).toNat (rInt .u8).zeroD) = (68 : Int))) with hb7 | hb7
      · have hf := if_t hb7 hf
        refine t_region ?_
        refine tl_d rfl (d_move rfl ?_)
        refine tl_d rfl (d_len_sl rfl (mem_at 0 rfl) Try.underlying32 (fun hl21 _ => ?_))
        refine tl_d rfl (d_lss rfl rfl ?_)
        refine tl_d rfl (d_move rfl ?_)
        refine tl_dg (gd_on rfl rfl rfl hb2) rfl (d_move rfl ?_)
        refine tl_dg (gd_on rfl rfl rfl hb2) rfl (d_index_sl rfl (mem_at 0 rfl) rfl Try.underlying32 ty5 hn3 (fun p22 => ?_))
        refine tl_dg (gd_on rfl rfl rfl hb2) rfl (d_load_int rfl (mem_at 0 rfl) ty5 (fun hw24 => ?_))
        refine tl_dg (gd_on rfl rfl rfl hb2) rfl (d_neq rfl rfl ?_)
        refine tl_d rfl (d_pick_false rfl hb2 rfl ?_)
        refine tl_d rfl (d_move rfl ?_)
        refine tl_off (gd_off rfl rfl rfl hb7) rfl rfl ?_
        refine tl_off (gd_off rfl rfl rfl hb7) rfl rfl ?_
        refine tl_off (gd_off rfl rfl rfl hb7) rfl rfl ?_
        refine tl_off (gd_off rfl rfl rfl hb7) rfl rfl ?_
        refine tl_d rfl (d_pick_true rfl hb7 rfl ?_)
        refine tl_d rfl (d_move rfl ?_)
        refine tl_off (gd_off rfl rfl rfl rfl) rfl rfl ?_
        refine tl_off (gd_off rfl rfl rfl rfl) rfl rfl ?_
        refine tl_off (gd_off rfl rfl rfl rfl) rfl rfl ?_
        refine tl_off (gd_off rfl rfl rfl rfl) rfl rfl ?_
        refine tl_d rfl (d_pick_true rfl rfl rfl ?_)
        refine tl_nil ?_
        have hr := Option.some.inj hf; subst hr
        exact q_cut true rfl ⟨rfl, ⟨rfl, trivial⟩⟩ ⟨mem_at 1 rfl, trivial⟩ [] (Sel.nil) rfl
      · have hf := if_f hb7 hf
        obtain ⟨hn8, hf⟩ := need_some hf
        rcases bool_tf (!decide (((a0).getD ((1 : Int)).toNat (rInt .u8).zeroD) = (49 : Int))) with hb12 | hb12
        · have hf := if_t hb12 hf
          refine t_region ?_
          refine tl_d rfl (d_move rfl ?_)
          refine tl_d rfl (d_len_sl rfl (mem_at 0 rfl) Try.underlying32 (fun hl25 _ => ?_))
          refine tl_d rfl (d_lss rfl rfl ?_)
          refine tl_d rfl (d_move rfl ?_)
          refine tl_dg (gd_on rfl rfl rfl hb2) rfl (d_move rfl ?_)
          refine tl_dg (gd_on rfl rfl rfl hb2) rfl (d_index_sl rfl (mem_at 0 rfl) rfl Try.underlying32 ty5 hn3 (fun p26 => ?_))
          refine tl_dg (gd_on rfl rfl rfl hb2) rfl (d_load_int rfl (mem_at 0 rfl) ty5 (fun hw28 => ?_))
          refine tl_dg (gd_on rfl rfl rfl hb2) rfl (d_neq rfl rfl ?_)
          refine tl_d rfl (d_pick_false rfl hb2 rfl ?_)
          refine tl_d rfl (d_move rfl ?_)
          refine tl_dg (gd_on rfl rfl rfl hb7) rfl (d_move rfl ?_)
          refine tl_dg (gd_on rfl rfl rfl hb7) rfl (d_index_sl rfl (mem_at 1 rfl) rfl Try.underlying32 ty5 hn8 (fun p29 => ?_))
          refine tl_dg (gd_on rfl rfl rfl hb7) rfl (d_load_int rfl (mem_at 0 rfl) ty5 (fun hw31 => ?_))
          refine tl_dg (gd_on rfl rfl rfl hb7) rfl (d_neq rfl rfl ?_)
          refine tl_d rfl (d_pick_false rfl hb7 rfl ?_)
          refine tl_d rfl (d_move rfl ?_)
          refine tl_off (gd_off rfl rfl rfl hb12) rfl rfl ?_
          refine tl_off (gd_off rfl rfl rfl hb12) rfl rfl ?_
          refine tl_off (gd_off rfl rfl rfl hb12) rfl rfl ?_
          refine tl_off (gd_off rfl rfl rfl hb12) rfl rfl ?_
          refine tl_d rfl (d_pick_true rfl hb12 rfl ?_)
          refine tl_nil ?_
          have hr := Option.some.inj hf; subst hr
          exact q_cut true rfl ⟨rfl, ⟨rfl, trivial⟩⟩ ⟨mem_at 2 rfl, trivial⟩ [] (Sel.nil) rfl
        · have hf := if_f hb12 hf
          obtain ⟨hn13, hf⟩ := need_some hf
          refine t_region ?_
          refine tl_d rfl (d_move rfl ?_)
          refine tl_d rfl (d_len_sl rfl (mem_at 0 rfl) Try.underlying32 (fun hl32 _ => ?_))
          refine tl_d rfl (d_lss rfl rfl ?_)
          refine tl_d rfl (d_move rfl ?_)
          refine tl_dg (gd_on rfl rfl rfl hb2) rfl (d_move rfl ?_)
          refine tl_dg (gd_on rfl rfl rfl hb2) rfl (d_index_sl rfl (mem_at 0 rfl) rfl Try.underlying32 ty5 hn3 (fun p33 => ?_))
          refine tl_dg (gd_on rfl rfl rfl hb2) rfl (d_load_int rfl (mem_at 0 rfl) ty5 (fun hw35 => ?_))
          refine tl_dg (gd_on rfl rfl rfl hb2) rfl (d_neq rfl rfl ?_)
          refine tl_d rfl (d_pick_false rfl hb2 rfl ?_)
          refine tl_d rfl (d_move rfl ?_)
          refine tl_dg (gd_on rfl rfl rfl hb7) rfl (d_move rfl ?_)
          refine tl_dg (gd_on rfl rfl rfl hb7) rfl (d_index_sl rfl (mem_at 1 rfl) rfl Try.underlying32 ty5 hn8 (fun p36 => ?_))
          refine tl_dg (gd_on rfl rfl rfl hb7) rfl (d_load_int rfl (mem_at 0 rfl) ty5 (fun hw38 => ?_))
          refine tl_dg (gd_on rfl rfl rfl hb7) rfl (d_neq rfl rfl ?_)
          refine tl_d rfl (d_pick_false rfl hb7 rfl ?_)
          refine tl_d rfl (d_move rfl ?_)
          refine tl_dg (gd_on rfl rfl rfl hb12) rfl (d_move rfl ?_)
          refine tl_dg (gd_on rfl rfl rfl hb12) rfl (d_index_sl rfl (mem_at 2 rfl) rfl Try.underlying32 ty5 hn13 (fun p39 => ?_))
          refine tl_dg (gd_on rfl rfl rfl hb12) rfl (d_load_int rfl (mem_at 0 rfl) ty5 (fun hw41 => ?_))
          refine tl_dg (gd_on rfl rfl rfl hb12) rfl (d_gtr rfl rfl ?_)
          refine tl_d rfl (d_pick_false rfl hb12 rfl ?_)
          refine tl_nil ?_
          have hr := Option.some.inj hf; subst hr
          exact q_cut (decide ((64 : Int) < ((a0).getD ((2 : Int)).toNat (rInt .u8).zeroD))) rfl ⟨rfl, ⟨rfl, trivial⟩⟩ ⟨mem_at 3 rfl, trivial⟩ [] (Sel.nil) rfl
  rintro s17 rfl
  refine q_then_code ?_
  refine t_cond rfl (fun hb42 => ?_) (fun hb42 => ?_)
  · have hf := if_t hb42 hf
    refine t_seq ?_
    refine t_region ?_
    refine tl_d rfl (d_assign rfl ?_)
    refine tl_d rfl (d_assign rfl ?_)
    refine tl_nil ?_
    refine q_then_code ?_
    refine t_ret ?_
    refine q_then_ret ?_
    have hr := Option.some.inj hf; subst hr
    refine q_ret (post := fun w w' m v => ∃ v0 v1, v = .tuple #[v0, v1] ∧ OwnRes rApi_Item 64 w w' m v0 ([] : (List Api_Item)) ∧ ∀ m', (∀ b, b ∈ m' → b ∈ m ∨ bufBlk v0 = some b) → (rInt .i64).val w' m' v1 (4 : Int)) hR _ (.inl rfl) (fun a w hs => ?_)
    exact ⟨_, run_results rfl (RvOk.cons (rv_tmp hs rfl) (RvOk.cons (rv_tmp hs rfl) RvOk.nil)), _, _, rfl, ownres_nil, fun m' hm' => ⟨[_], ⟨rfl, rfl⟩, rfl⟩⟩
  · have hf := if_f hb42 hf
    refine t_skip ?_
    refine q_then_code ?_
    refine t_seq ?_
    refine t_region ?_
    refine tl_d rfl (d_assign rfl ?_)
    refine tl_nil ?_
    refine q_then_code ?_
    refine t_seq ?_
    refine t_region ?_
    refine tl_d rfl (d_assign rfl ?_)
    refine tl_nil ?_
    refine q_then_code ?_
    refine t_seq ?_
    refine t_seq ?_
    refine t_region ?_
    refine tl_d rfl (d_assign rfl ?_)
    refine tl_nil ?_
    refine q_then_code ?_
    refine t_block ?_
    refine t_nilbuf 64 rApi_Item ?_
    obtain ⟨o203, ho204, hf⟩ := bind_some hf
    refine t_loop (X := (List Api_Item) × Int × Int × Value) (O := Sum ((List Api_Item) × Int) ((List Api_Item))) (fun kl x => match x with | (s43, s45, s46, z44) => cofferref15_Take.l0 a0 kl s43 s45 s46) o203 (fun x => match x with | (s43, s45, s46, z44) => (([(0, u0), (4, z44), (5, .int .i64 s45), (6, .int .i64 s46)], [(rSl 1 (rInt .u8)).fact u0 a0], [Own.buf z44 64 rApi_Item s43]) : Sym)) (fun x => match x with | (s43, s45, s46, z44) => IntKind.i64.wrap s45 = s45 ∧ IntKind.i64.wrap s46 = s46) k (([] : List Api_Item), (3 : Int), (0 : Int), (.slice none 0 0)) ho204 ⟨rfl, rfl⟩ ⟨rfl, ⟨rfl, ⟨rfl, ⟨rfl, trivial⟩⟩⟩⟩ ⟨mem_at 0 rfl, trivial⟩ [0] (Sel.cons rfl Sel.nil) rfl ?_
    clear ho204
    rintro k50 ⟨s43, s45, s46, z44⟩ ⟨hw_s45, hw_s46⟩ hk49
    have hout47 := hf; clear hf
    obtain ⟨kq48, rfl⟩ : ∃ q, k50 = q + 1 := by cases k50 with | zero => cases hk49 | succ q => exact ⟨q, rfl⟩
    have hf := hk49
    clear hk49; dsimp only [cofferref15_Take.l0] at hf
    refine t_seq ?_
    refine t_seq ?_
    obtain ⟨hn51, hf⟩ := need_some hf
    refine t_region ?_
    refine tl_d rfl (d_move rfl ?_)
    refine tl_d rfl (d_move rfl ?_)
    refine tl_d rfl (d_index_sl rfl (mem_at 0 rfl) rfl Try.underlying32 ty5 hn51 (fun p55 => ?_))
    refine tl_d rfl (d_load_int rfl (mem_at 0 rfl) ty5 (fun hw57 => ?_))
    refine tl_d rfl (d_conv_id Try.underlying5 Try.underlying3 rfl (wrap_widen rfl hw57) ?_)
    refine tl_d rfl (d_lss rfl rfl ?_)
    refine tl_nil ?_
    refine q_then_code ?_
    refine t_cond rfl (fun hb58 => ?_) (fun hb58 => ?_)
    · have hf := if_t hb58 hf
      refine t_skip ?_
      refine q_then_code ?_
      refine t_seq ?_
      refine t_block ?_
      refine t_seq ?_
      refine t_seq ?_
      refine t_region ?_
      refine tl_d rfl (d_move rfl ?_)
      refine tl_d rfl (d_add rfl rfl ?_)
      refine tl_d rfl (d_move rfl ?_)
      refine tl_d rfl (d_len_sl rfl (mem_at 1 rfl) Try.underlying32 (fun hl60 _ => ?_))
      refine tl_d rfl (d_gtr rfl rfl ?_)
      refine tl_nil ?_
      refine q_then_code ?_
      refine t_cond rfl (fun hb61 => ?_) (fun hb61 => ?_)
      · have hf := if_t hb61 hf
        refine t_seq ?_
        refine t_region ?_
        refine tl_d rfl (d_assign rfl ?_)
        refine tl_d rfl (d_assign rfl ?_)
        refine tl_nil ?_
        refine q_then_code ?_
        refine t_ret ?_
        refine q_then_ret ?_
        refine q_block_ret ?_
        refine q_then_ret ?_
        refine q_then_ret ?_
        have hr := Option.some.inj hf; try subst hr
        have hf := hout47
        refine q_block_ret ?_
        refine q_then_ret ?_
        have hr := Option.some.inj hf; subst hr
        refine q_ret (post := fun w w' m v => ∃ v0 v1, v = .tuple #[v0, v1] ∧ OwnRes rApi_Item 64 w w' m v0 ([] : (List Api_Item)) ∧ ∀ m', (∀ b, b ∈ m' → b ∈ m ∨ bufBlk v0 = some b) → (rInt .i64).val w' m' v1 (4 : Int)) hR _ (.inl rfl) (fun a w hs => ?_)
        exact ⟨_, run_results rfl (RvOk.cons (rv_tmp hs rfl) (RvOk.cons (rv_tmp hs rfl) RvOk.nil)), _, _, rfl, ownres_nil, fun m' hm' => ⟨[_], ⟨rfl, rfl⟩, rfl⟩⟩
      · have hf := if_f hb61 hf
        refine t_skip ?_
        refine q_then_code ?_
        refine t_seq ?_
        obtain ⟨hn62, hf⟩ := need_some hf
        refine t_region ?_
        refine tl_d rfl (d_move rfl ?_)
        refine tl_d rfl (d_move rfl ?_)
        refine tl_d rfl (d_index_sl rfl (mem_at 1 rfl) rfl Try.underlying32 ty5 hn62 (fun p69 => ?_))
        refine tl_d rfl (d_load_int rfl (mem_at 0 rfl) ty5 (fun hw71 => ?_))
        refine tl_d rfl (d_conv_id Try.underlying5 Try.underlying3 rfl (wrap_widen rfl hw71) ?_)
        refine tl_d rfl (d_build2 (y := (⟨[], ((a0).getD (s45).toNat (rInt .u8).zeroD), (rArr 32 (rInt .u8)).zeroD, (0 : Int)⟩ : Api_Item)) ty54 rfl pl54 (BuildOk.cons rfl fl_Api_Item_Kind trivial rfl (hv_int (wrap_widen rfl hw71)) BuildOk.nil) (fun v72 => ?_))
        refine tl_g [] rfl (g_alloc rfl ty54 (fun b74 => ?_))
        refine tl_g _ rfl (g_store_box 1 rfl rfl rfl (Fld.self rApi_Item) trivial (hv_fact (mem_at 0 rfl)) ty54 (List.mem_singleton_self _) ?_)
        refine tl_nil ?_
        refine q_then_code ?_
        refine t_seq ?_
        obtain ⟨hn77, hf⟩ := need_some hf
        obtain ⟨c78, hc79, hf⟩ := bind_some hf
        refine t_region ?_
        refine tl_d rfl (d_move rfl ?_)
        refine tl_d rfl (d_move rfl ?_)
        refine tl_d rfl (d_add rfl rfl ?_)
        refine tl_d rfl (d_slice_sl (i := (IntKind.i64.wrap (s45 + (1 : Int)))) (j := ((a0).length : Int)) rfl (mem_at 3 rfl) (.inr ⟨_, _, rfl, rfl⟩) (.inl ⟨rfl, rfl⟩) Try.underlying32 ty5 hn77 (fun v90 => ?_))
        refine tl_g [] rfl (g_callo3 rfl hfn43 (cofferref1_TakeText_ok _ _ _ _ hc79) (Evs.cons rfl Evs.nil) (fun a w hs => (hv_fact (mem_at 0 rfl)) _ _ _ _ hs) (fun v92 v93 v94 => ?_))
        refine tl_int (mem_at 0 rfl) (fun hv99 hw98 => ?_)
        subst hv99
        refine tl_int (mem_at 1 rfl) (fun hv101 hw100 => ?_)
        subst hv101
        refine tl_d rfl (d_move rfl ?_)
        refine tl_d rfl (d_extract rfl rfl ?_)
        refine tl_d rfl (d_extract rfl rfl ?_)
        refine tl_d rfl (d_extract rfl rfl ?_)
        refine tl_d rfl (d_assign rfl ?_)
        refine tl_d rfl (d_assign rfl ?_)
        refine tl_d rfl (d_assign rfl ?_)
        refine tl_nil ?_
        refine q_then_code ?_
        refine t_seq ?_
        refine t_region ?_
        refine tl_d rfl (d_move rfl ?_)
        refine tl_d rfl (d_add rfl rfl ?_)
        refine tl_d rfl (d_move rfl ?_)
        refine tl_d rfl (d_add rfl rfl ?_)
        refine tl_d rfl (d_assign rfl ?_)
        refine tl_nil ?_
        refine q_then_code ?_
        refine t_seq ?_
        refine t_seq ?_
        obtain ⟨o105, ho106, hf⟩ := bind_some hf
        refine t_cut (X := Bool) (fun x => match x with | s104 => (([(0, u0), (4, z44), (5, (.int .i64 (IntKind.i64.wrap ((IntKind.i64.wrap (s45 + (1 : Int))) + c78.2.1)))), (6, (.int .i64 s46)), (7, .pointer (some ⟨b74, 0, none⟩)), (8, v92), (75, .bool s104)], [(rSl 1 (rInt .u8)).fact u0 a0], [Own.buf z44 64 rApi_Item s43, Own.box b74 rApi_Item (⟨[], ((a0).getD (s45).toNat (rInt .u8).zeroD), (rArr 32 (rInt .u8)).zeroD, (0 : Int)⟩ : Api_Item), Own.buf v92 1 (rInt .u8) c78.1]) : Sym)) (fun x => match x with | s104 => s104 = o105) ?_ ?_
        · have hf := ho106; clear ho106
          rcases bool_tf (!decide (c78.2.2 = (0 : Int))) with hb102 | hb102
          · have hf := if_t hb102 hf
            refine t_region ?_
            refine tl_d rfl (d_move rfl ?_)
            refine tl_d rfl (d_neq rfl rfl ?_)
            refine tl_d rfl (d_move rfl ?_)
            refine tl_off (gd_off rfl rfl rfl hb102) rfl rfl ?_
            refine tl_off (gd_off rfl rfl rfl hb102) rfl rfl ?_
            refine tl_off (gd_off rfl rfl rfl hb102) rfl rfl ?_
            refine tl_off (gd_off rfl rfl rfl hb102) rfl rfl ?_
            refine tl_off (gd_off rfl rfl rfl hb102) rfl rfl ?_
            refine tl_d rfl (d_pick_true rfl hb102 rfl ?_)
            refine tl_nil ?_
            have hr := Option.some.inj hf; subst hr
            exact q_cut true rfl ⟨rfl, ⟨rfl, ⟨rfl, ⟨rfl, ⟨rfl, ⟨rfl, ⟨rfl, trivial⟩⟩⟩⟩⟩⟩⟩ ⟨mem_at 6 rfl, trivial⟩ [0, 1, 2] (Sel.cons rfl (Sel.cons rfl (Sel.cons rfl Sel.nil))) rfl
          · have hf := if_f hb102 hf
            refine t_region ?_
            refine tl_d rfl (d_move rfl ?_)
            refine tl_d rfl (d_neq rfl rfl ?_)
            refine tl_d rfl (d_move rfl ?_)
            refine tl_dg (gd_on rfl rfl rfl hb102) rfl (d_move rfl ?_)
            refine tl_dg (gd_on rfl rfl rfl hb102) rfl (d_add rfl rfl ?_)
            refine tl_dg (gd_on rfl rfl rfl hb102) rfl (d_move rfl ?_)
            refine tl_dg (gd_on rfl rfl rfl hb102) rfl (d_len_sl rfl (mem_at 6 rfl) Try.underlying32 (fun hl107 _ => ?_))
            refine tl_dg (gd_on rfl rfl rfl hb102) rfl (d_gtr rfl rfl ?_)
            refine tl_d rfl (d_pick_false rfl hb102 rfl ?_)
            refine tl_nil ?_
            have hr := Option.some.inj hf; subst hr
            exact q_cut (decide (((a0).length : Int) < (IntKind.i64.wrap ((IntKind.i64.wrap ((IntKind.i64.wrap (s45 + (1 : Int))) + c78.2.1)) + (32 : Int))))) rfl ⟨rfl, ⟨rfl, ⟨rfl, ⟨rfl, ⟨rfl, ⟨rfl, ⟨rfl, trivial⟩⟩⟩⟩⟩⟩⟩ ⟨mem_at 6 rfl, trivial⟩ [0, 1, 2] (Sel.cons rfl (Sel.cons rfl (Sel.cons rfl Sel.nil))) rfl
        rintro s104 rfl
        refine q_then_code ?_
        refine t_cond rfl (fun hb108 => ?_) (fun hb108 => ?_)
        · have hf := if_t hb108 hf
          refine t_seq ?_
          refine t_region ?_
          refine tl_d rfl (d_assign rfl ?_)
          refine tl_d rfl (d_assign rfl ?_)
          refine tl_nil ?_
          refine q_then_code ?_
          refine t_ret ?_
          refine q_then_ret ?_
          refine q_block_ret ?_
          refine q_then_ret ?_
          refine q_then_ret ?_
          have hr := Option.some.inj hf; try subst hr
          have hf := hout47
          refine q_block_ret ?_
          refine q_then_ret ?_
          have hr := Option.some.inj hf; subst hr
          refine q_ret (post := fun w w' m v => ∃ v0 v1, v = .tuple #[v0, v1] ∧ OwnRes rApi_Item 64 w w' m v0 ([] : (List Api_Item)) ∧ ∀ m', (∀ b, b ∈ m' → b ∈ m ∨ bufBlk v0 = some b) → (rInt .i64).val w' m' v1 (4 : Int)) hR _ (.inl rfl) (fun a w hs => ?_)
          exact ⟨_, run_results rfl (RvOk.cons (rv_tmp hs rfl) (RvOk.cons (rv_tmp hs rfl) RvOk.nil)), _, _, rfl, ownres_nil, fun m' hm' => ⟨[_], ⟨rfl, rfl⟩, rfl⟩⟩
        · have hf := if_f hb108 hf
          refine t_skip ?_
          refine q_then_code ?_
          refine t_seq ?_
          obtain ⟨hn114, hf⟩ := need_some hf
          obtain ⟨hn115, hf⟩ := need_some hf
          refine t_any (n := 12) [1, 3, 4, 5, 6, 7, 8, 9, 10, 11, 12, 13, 14] mixed ⟨by kernel_rfl, .inr ⟨rfl, by kernel_rfl⟩⟩ (np_then (np_block (np_then (np_then (np_block (np_then np_body)))))) ?_
          refine ta_take (i := 0) rfl (by kernel_rfl) gd_none (d_move rfl ?_)
          refine ta_freeze 2 rfl ?_
          refine ta_take (i := 1) rfl (by kernel_rfl) gd_none (d_bytes_str rfl (mem_at 0 rfl) Try.underlying32 Try.underlying5 Try.underlying9 (fun v121 => ?_))
          refine ta_take (i := 2) rfl (by kernel_rfl) gd_none (d_move rfl ?_)
          refine ta_take (i := 3) rfl (by kernel_rfl) gd_none (d_move rfl ?_)
          refine ta_take (i := 4) rfl (by kernel_rfl) gd_none (d_move rfl ?_)
          refine ta_take (i := 5) rfl (by kernel_rfl) gd_none (d_add rfl rfl ?_)
          refine ta_take (i := 6) rfl (by kernel_rfl) gd_none (d_slice_sl (i := (IntKind.i64.wrap ((IntKind.i64.wrap (s45 + (1 : Int))) + c78.2.1))) (j := (IntKind.i64.wrap ((IntKind.i64.wrap ((IntKind.i64.wrap (s45 + (1 : Int))) + c78.2.1)) + (32 : Int)))) rfl (mem_at 2 rfl) (.inr ⟨_, _, rfl, rfl⟩) (.inr ⟨_, _, rfl, rfl⟩) Try.underlying32 ty5 hn114 (fun v123 => ?_))
          refine ta_take (i := 7) rfl (by kernel_rfl) gd_none (d_s2ap rfl (mem_at 0 rfl) Try.underlying29 hn115 (by decide) (fun p125 => ?_))
          refine ta_take (i := 8) rfl (by kernel_rfl) gd_none (d_load_place rfl (mem_at 0 rfl) ty29 (fun v127 => ?_))
          refine ta_take (i := 9) rfl (by kernel_rfl) gd_none (d_field_own rfl fo54_0 ?_)
          refine ta_one (i := 10) (by kernel_rfl) rfl rfl gd_none (g_store_box 1 rfl rfl rfl (Fld.at0 fl_Api_Item_Name) trivial (hv_fact (mem_at 3 rfl)) ty9 (by decide) ?_)
          refine ta_take (i := 11) rfl (by kernel_rfl) gd_none (d_field_own rfl fo54_2 ?_)
          refine ta_last [0, 1, 2, 3, 4, 5, 6, 7, 8, 9, 10, 11, 12, 13, 14, 15, 16, 17, 18, 19, 20, 21, 22, 23, 24, 25, 26, 27, 28, 29, 30, 31, 32, 33, 34, 35, 36, 37, 38, 39, 40, 41, 42, 43, 44, 45, 46, 47, 48, 49, 50, 51, 52, 53, 54, 55, 56, 57, 58, 59] (by kernel_rfl) (by kernel_rfl) rfl gd_none (g_store_box 1 rfl rfl rfl (Fld.at0 fl_Api_Item_Of) trivial (hv_fact (mem_at 0 rfl)) ty29 (by decide) ?_)
          refine q_then_code ?_
          refine t_seq ?_
          obtain ⟨hn131, hf⟩ := need_some hf
          obtain ⟨c132, hc133, hf⟩ := bind_some hf
          refine t_region ?_
          refine tl_d rfl (d_move rfl ?_)
          refine tl_d rfl (d_move rfl ?_)
          refine tl_d rfl (d_add rfl rfl ?_)
          refine tl_d rfl (d_slice_sl (i := (IntKind.i64.wrap ((IntKind.i64.wrap ((IntKind.i64.wrap (s45 + (1 : Int))) + c78.2.1)) + (32 : Int)))) (j := ((a0).length : Int)) rfl (mem_at 5 rfl) (.inr ⟨_, _, rfl, rfl⟩) (.inl ⟨rfl, rfl⟩) Try.underlying32 ty5 hn131 (fun v146 => ?_))
          refine tl_g [] rfl (g_call3 rfl hfn44 (cofferref1_TakeCount_ok _ _ _ _ hc133) (Evs.cons rfl Evs.nil) (fun a w hs => (hv_fact (mem_at 0 rfl)) _ _ _ _ hs) (fun v148 v149 v150 => ?_))
          refine tl_int (mem_at 0 rfl) (fun hv155 hw154 => ?_)
          subst hv155
          refine tl_int (mem_at 1 rfl) (fun hv157 hw156 => ?_)
          subst hv157
          refine tl_int (mem_at 2 rfl) (fun hv159 hw158 => ?_)
          subst hv159
          refine tl_d rfl (d_move rfl ?_)
          refine tl_d rfl (d_extract rfl rfl ?_)
          refine tl_d rfl (d_extract rfl rfl ?_)
          refine tl_d rfl (d_extract rfl rfl ?_)
          refine tl_d rfl (d_assign rfl ?_)
          refine tl_d rfl (d_assign rfl ?_)
          refine tl_d rfl (d_assign rfl ?_)
          refine tl_nil ?_
          refine q_then_code ?_
          refine t_seq ?_
          refine t_seq ?_
          obtain ⟨o162, ho163, hf⟩ := bind_some hf
          refine t_cut (X := Bool) (fun x => match x with | s161 => (([(0, u0), (4, z44), (5, (.int .i64 (IntKind.i64.wrap ((IntKind.i64.wrap (s45 + (1 : Int))) + c78.2.1)))), (6, (.int .i64 s46)), (7, .pointer (some ⟨b74, 0, none⟩)), (9, (.int .i64 c132.2.1)), (11, (.int .u64 c132.1)), (101, .bool s161)], [(rSl 1 (rInt .u8)).fact u0 a0], [Own.buf z44 64 rApi_Item s43, Own.box b74 rApi_Item (((((⟨[], ((a0).getD (s45).toNat (rInt .u8).zeroD), (rArr 32 (rInt .u8)).zeroD, (0 : Int)⟩ : Api_Item)).set_Name c78.1)).set_Of (((sub a0 (IntKind.i64.wrap ((IntKind.i64.wrap (s45 + (1 : Int))) + c78.2.1)) (IntKind.i64.wrap ((IntKind.i64.wrap ((IntKind.i64.wrap (s45 + (1 : Int))) + c78.2.1)) + (32 : Int))))).take 32))]) : Sym)) (fun x => match x with | s161 => s161 = o162) ?_ ?_
          · have hf := ho163; clear ho163
            rcases bool_tf (!decide (c132.2.2 = (0 : Int))) with hb160 | hb160
            · have hf := if_t hb160 hf
              refine t_region ?_
              refine tl_d rfl (d_move rfl ?_)
              refine tl_d rfl (d_neq rfl rfl ?_)
              refine tl_d rfl (d_move rfl ?_)
              refine tl_off (gd_off rfl rfl rfl hb160) rfl rfl ?_
              refine tl_off (gd_off rfl rfl rfl hb160) rfl rfl ?_
              refine tl_d rfl (d_pick_true rfl hb160 rfl ?_)
              refine tl_nil ?_
              have hr := Option.some.inj hf; subst hr
              exact q_cut true rfl ⟨rfl, ⟨rfl, ⟨rfl, ⟨rfl, ⟨rfl, ⟨rfl, ⟨rfl, ⟨rfl, trivial⟩⟩⟩⟩⟩⟩⟩⟩ ⟨mem_at 9 rfl, trivial⟩ [0, 1] (Sel.cons rfl (Sel.cons rfl Sel.nil)) rfl
            · have hf := if_f hb160 hf
              refine t_region ?_
              refine tl_d rfl (d_move rfl ?_)
              refine tl_d rfl (d_neq rfl rfl ?_)
              refine tl_d rfl (d_move rfl ?_)
              refine tl_dg (gd_on rfl rfl rfl hb160) rfl (d_move rfl ?_)
              refine tl_dg (gd_on rfl rfl rfl hb160) rfl (d_gtr rfl rfl ?_)
              refine tl_d rfl (d_pick_false rfl hb160 rfl ?_)
              refine tl_nil ?_
              have hr := Option.some.inj hf; subst hr
              exact q_cut (decide ((9223372036854775807 : Int) < c132.1)) rfl ⟨rfl, ⟨rfl, ⟨rfl, ⟨rfl, ⟨rfl, ⟨rfl, ⟨rfl, ⟨rfl, trivial⟩⟩⟩⟩⟩⟩⟩⟩ ⟨mem_at 9 rfl, trivial⟩ [0, 1] (Sel.cons rfl (Sel.cons rfl Sel.nil)) rfl
          rintro s161 rfl
          refine q_then_code ?_
          refine t_cond rfl (fun hb164 => ?_) (fun hb164 => ?_)
          · have hf := if_t hb164 hf
            refine t_seq ?_
            refine t_region ?_
            refine tl_d rfl (d_assign rfl ?_)
            refine tl_d rfl (d_assign rfl ?_)
            refine tl_nil ?_
            refine q_then_code ?_
            refine t_ret ?_
            refine q_then_ret ?_
            refine q_block_ret ?_
            refine q_then_ret ?_
            refine q_then_ret ?_
            have hr := Option.some.inj hf; try subst hr
            have hf := hout47
            refine q_block_ret ?_
            refine q_then_ret ?_
            have hr := Option.some.inj hf; subst hr
            refine q_ret (post := fun w w' m v => ∃ v0 v1, v = .tuple #[v0, v1] ∧ OwnRes rApi_Item 64 w w' m v0 ([] : (List Api_Item)) ∧ ∀ m', (∀ b, b ∈ m' → b ∈ m ∨ bufBlk v0 = some b) → (rInt .i64).val w' m' v1 (4 : Int)) hR _ (.inl rfl) (fun a w hs => ?_)
            exact ⟨_, run_results rfl (RvOk.cons (rv_tmp hs rfl) (RvOk.cons (rv_tmp hs rfl) RvOk.nil)), _, _, rfl, ownres_nil, fun m' hm' => ⟨[_], ⟨rfl, rfl⟩, rfl⟩⟩
          · have hf := if_f hb164 hf
            refine t_skip ?_
            refine q_then_code ?_
            refine t_seq ?_
            refine t_region ?_
            refine tl_d rfl (d_move rfl ?_)
            refine tl_d rfl (d_conv Try.underlying91 Try.underlying2 rfl ?_)
            refine tl_d rfl (d_field_own rfl fo54_3 ?_)
            refine tl_g _ rfl (g_store_box 1 rfl rfl rfl (Fld.at0 fl_Api_Item_Size) trivial (hv_int (wrap_wrap _ _)) ty2 (List.mem_singleton_self _) ?_)
            refine tl_nil ?_
            refine q_then_code ?_
            refine t_seq ?_
            refine t_region ?_
            refine tl_d rfl (d_move rfl ?_)
            refine tl_d rfl (d_add rfl rfl ?_)
            refine tl_d rfl (d_move rfl ?_)
            refine tl_d rfl (d_add rfl rfl ?_)
            refine tl_d rfl (d_assign rfl ?_)
            refine tl_nil ?_
            refine q_then_code ?_
            obtain ⟨hn168, hf⟩ := need_some hf
            refine t_region ?_
            refine tl_d rfl (d_move rfl ?_)
            refine tl_d rfl (d_load_box 1 rfl rfl (Fld.self rApi_Item) trivial ty54 rfl (fun v170 => ?_))
            refine tl_g [] rfl (g_buildSlice (R := rApi_Item) (l := [(((((((⟨[], ((a0).getD (s45).toNat (rInt .u8).zeroD), (rArr 32 (rInt .u8)).zeroD, (0 : Int)⟩ : Api_Item)).set_Name c78.1)).set_Of (((sub a0 (IntKind.i64.wrap ((IntKind.i64.wrap (s45 + (1 : Int))) + c78.2.1)) (IntKind.i64.wrap ((IntKind.i64.wrap ((IntKind.i64.wrap (s45 + (1 : Int))) + c78.2.1)) + (32 : Int))))).take 32))).set_Size (IntKind.i64.wrap c132.1))]) rfl Try.underlying52 ty54 ⟨rfl, by decide, by decide, by decide⟩ (PartsOk.cons rfl rfl (hv_fact (mem_at 0 rfl)) PartsOk.nil) rfl (fun v172 => ?_))
            refine tl_g _ rfl (g_append_buf 0 2 rfl rfl rfl rfl rfl rfl Try.underlying52 ⟨_, Try.underlying52, fun k h => by cases h⟩ ty54 hn168 (List.mem_singleton_self _) (fun v173 => ?_))
            refine tl_d rfl (d_assign rfl ?_)
            refine tl_nil ?_
            refine q_block_normal ?_
            refine q_then_code ?_
            refine t_region ?_
            refine tl_d rfl (d_move rfl ?_)
            refine tl_d rfl (d_add rfl rfl ?_)
            refine tl_d rfl (d_assign rfl ?_)
            refine tl_nil ?_
            exact q_round kq48 ((s43 ++ [(((((((⟨[], ((a0).getD (s45).toNat (rInt .u8).zeroD), (rArr 32 (rInt .u8)).zeroD, (0 : Int)⟩ : Api_Item)).set_Name c78.1)).set_Of (((sub a0 (IntKind.i64.wrap ((IntKind.i64.wrap (s45 + (1 : Int))) + c78.2.1)) (IntKind.i64.wrap ((IntKind.i64.wrap ((IntKind.i64.wrap (s45 + (1 : Int))) + c78.2.1)) + (32 : Int))))).take 32))).set_Size (IntKind.i64.wrap c132.1))]), (IntKind.i64.wrap ((IntKind.i64.wrap ((IntKind.i64.wrap ((IntKind.i64.wrap (s45 + (1 : Int))) + c78.2.1)) + (32 : Int))) + c132.2.1)), (IntKind.i64.wrap (s46 + (1 : Int))), v173) (Nat.lt_succ_self kq48) ⟨(wrap_wrap _ _), (wrap_wrap _ _)⟩ hf ⟨rfl, ⟨rfl, ⟨rfl, ⟨rfl, trivial⟩⟩⟩⟩ ⟨mem_at 1 rfl, trivial⟩ [0] (Sel.cons rfl Sel.nil) rfl
    · have hf := if_f hb58 hf
      refine t_exit ?_
      refine q_then_exit ?_
      refine q_then_exit ?_
      have hr := Option.some.inj hf; try subst hr
      have hf := hout47
      try dsimp only at hf
      refine q_block_hit ?_
      refine q_then_code ?_
      refine t_seq ?_
      obtain ⟨c174, hc175, hf⟩ := bind_some hf
      refine t_region ?_
      refine tl_d rfl (d_move rfl ?_)
      refine tl_g [] rfl (g_callo2 rfl hfn37 (FnX.flat (fun _ _ _ _ _ ⟨v0, v1, e, h0, h1⟩ => ⟨v0, v1, e, Flat.own Flat.int h0, fun m' hm' => Flat.val Flat.int (h1 [] (by intro b hb; cases hb))⟩) (cofferref15_Bytes_ok _ _ _ _ hc175)) (Evs.cons rfl Evs.nil) (fun a w hs => bor_one hs 0 rfl (fun hs1 => bor_end hs1 ((hv_fact (mem_at 0 rfl)) _ _ _ _ hs1))) (fun v182 v183 => ?_))
      refine tl_int (mem_at 0 rfl) (fun hv187 hw186 => ?_)
      subst hv187
      refine tl_d rfl (d_move rfl ?_)
      refine tl_d rfl (d_extract rfl rfl ?_)
      refine tl_d rfl (d_extract rfl rfl ?_)
      refine tl_d rfl (d_assign rfl ?_)
      refine tl_d rfl (d_assign rfl ?_)
      refine tl_nil ?_
      refine q_then_code ?_
      refine t_seq ?_
      refine t_seq ?_
      obtain ⟨o195, ho196, hf⟩ := bind_some hf
      refine t_cut (X := Bool) (fun x => match x with | s194 => (([(4, z44), (126, .bool s194)], [], [Own.buf z44 64 rApi_Item s43]) : Sym)) (fun x => match x with | s194 => s194 = o195) ?_ ?_
      · have hf := ho196; clear ho196
        rcases bool_tf (!decide (c174.2 = (0 : Int))) with hb188 | hb188
        · have hf := if_t hb188 hf
          refine t_region ?_
          refine tl_d rfl (d_move rfl ?_)
          refine tl_d rfl (d_neq rfl rfl ?_)
          refine tl_d rfl (d_move rfl ?_)
          refine tl_off (gd_off rfl rfl rfl hb188) rfl rfl ?_
          refine tl_off (gd_off rfl rfl rfl hb188) rfl rfl ?_
          refine tl_off (gd_off rfl rfl rfl hb188) rfl rfl ?_
          refine tl_off (gd_off rfl rfl rfl hb188) rfl rfl ?_
          refine tl_off (gd_off rfl rfl rfl hb188) rfl rfl ?_
          refine tl_d rfl (d_pick_true rfl hb188 rfl ?_)
          refine tl_nil ?_
          have hr := Option.some.inj hf; subst hr
          exact q_cut true rfl ⟨rfl, ⟨rfl, trivial⟩⟩ trivial [0] (Sel.cons rfl Sel.nil) rfl
        · have hf := if_f hb188 hf
          refine t_region ?_
          refine tl_d rfl (d_move rfl ?_)
          refine tl_d rfl (d_neq rfl rfl ?_)
          refine tl_d rfl (d_move rfl ?_)
          refine tl_dg (gd_on rfl rfl rfl hb188) rfl (d_move rfl ?_)
          refine tl_freeze 1 rfl ?_
          refine tl_dg (gd_on rfl rfl rfl hb188) rfl (d_bytes_str rfl (mem_at 0 rfl) Try.underlying32 Try.underlying5 Try.underlying9 (fun v198 => ?_))
          refine tl_dg (gd_on rfl rfl rfl hb188) rfl (d_move rfl ?_)
          refine tl_dg (gd_on rfl rfl rfl hb188) rfl (d_bytes_str rfl (mem_at 4 rfl) Try.underlying32 Try.underlying5 Try.underlying9 (fun v200 => ?_))
          refine tl_dg (gd_on rfl rfl rfl hb188) rfl (d_str_cmp (!decide (c174.1 = a0)) rfl rfl (mem_at 1 rfl) (mem_at 0 rfl) (.inr (.inl ⟨rfl, rfl⟩)) ?_)
          refine tl_d rfl (d_pick_false rfl hb188 rfl ?_)
          refine tl_nil ?_
          have hr := Option.some.inj hf; subst hr
          exact q_cut (!decide (c174.1 = a0)) rfl ⟨rfl, ⟨rfl, trivial⟩⟩ trivial [0] (Sel.cons rfl Sel.nil) rfl
      rintro s194 rfl
      refine q_then_code ?_
      refine t_cond rfl (fun hb202 => ?_) (fun hb202 => ?_)
      · have hf := if_t hb202 hf
        refine t_seq ?_
        refine t_region ?_
        refine tl_d rfl (d_assign rfl ?_)
        refine tl_d rfl (d_assign rfl ?_)
        refine tl_nil ?_
        refine q_then_code ?_
        refine t_ret ?_
        refine q_then_ret ?_
        have hr := Option.some.inj hf; subst hr
        refine q_ret (post := fun w w' m v => ∃ v0 v1, v = .tuple #[v0, v1] ∧ OwnRes rApi_Item 64 w w' m v0 ([] : (List Api_Item)) ∧ ∀ m', (∀ b, b ∈ m' → b ∈ m ∨ bufBlk v0 = some b) → (rInt .i64).val w' m' v1 (4 : Int)) hR _ (.inl rfl) (fun a w hs => ?_)
        exact ⟨_, run_results rfl (RvOk.cons (rv_tmp hs rfl) (RvOk.cons (rv_tmp hs rfl) RvOk.nil)), _, _, rfl, ownres_nil, fun m' hm' => ⟨[_], ⟨rfl, rfl⟩, rfl⟩⟩
      · have hf := if_f hb202 hf
        refine t_skip ?_
        refine q_then_code ?_
        refine t_seq ?_
        refine t_region ?_
        refine tl_d rfl (d_move rfl ?_)
        refine tl_d rfl (d_assign rfl ?_)
        refine tl_d rfl (d_assign rfl ?_)
        refine tl_nil ?_
        refine q_then_code ?_
        refine t_ret ?_
        have hr := Option.some.inj hf; subst hr
        refine q_ret (post := fun w w' m v => ∃ v0 v1, v = .tuple #[v0, v1] ∧ OwnRes rApi_Item 64 w w' m v0 s43 ∧ ∀ m', (∀ b, b ∈ m' → b ∈ m ∨ bufBlk v0 = some b) → (rInt .i64).val w' m' v1 (0 : Int)) hR _ (.inl rfl) (fun a w hs => ?_)
        exact ⟨_, run_results rfl (RvOk.cons (rv_tmp hs rfl) (RvOk.cons (rv_tmp hs rfl) RvOk.nil)), _, _, rfl, (hs.ownres (i := 0) rfl), fun m' hm' => ⟨[_], ⟨rfl, rfl⟩, rfl⟩⟩

def cofferref9_Less.f (a0 : (List Int)) (a1 : (List Int)) : Option (Bool) := (some (lexLt (sub a0 (0 : Int) (32 : Int)) (sub a1 (0 : Int) (32 : Int))))
set_option maxRecDepth 100000 in
set_option maxHeartbeats 400000 in
theorem cofferref9_Less_ok (a0 : (List Int)) (a1 : (List Int)) (u0 u1 : Value) (r : Bool) (hf : cofferref9_Less.f a0 a1 = some r) : Cf.FnX true Try.prog 45 [u0, u1] (fun w m => (rArr 32 (rInt .u8)).val w m u0 a0 ∧ (rArr 32 (rInt .u8)).val w m u1 a1) (fun w w' m v => rBool.val w' m v r) := by
  unfold cofferref9_Less.f at hf
  refine fn_of Try.func45 rfl (Nat.le_of_ble_eq_true rfl) [(rArr 32 (rInt .u8)).fact u0 a0, (rArr 32 (rInt .u8)).fact u1 a1] (fun w m h f hf => ?_) ?_
  · simp at hf; rcases hf with rfl | rfl
    · exact h.1
    · exact h.2
  intro w0 m0 R hR
  refine t_seq ?_
  refine t_region ?_
  refine tl_g [] rfl (g_box (R := (rArr 32 (rInt .u8))) rfl rfl (hv_fact (mem_at 0 rfl)) (fun b3 => ?_))
  refine tl_g [] rfl (g_box (R := (rArr 32 (rInt .u8))) rfl rfl (hv_fact (mem_at 1 rfl)) (fun b4 => ?_))
  refine tl_d rfl (d_assign rfl ?_)
  refine tl_nil ?_
  refine q_then_code ?_
  refine t_seq ?_
  refine t_any (n := 6) [] mixed ⟨by kernel_rfl, .inl rfl⟩ (np_then np_body) ?_
  refine ta_freezebox 0 rfl ?_
  refine ta_take (i := 0) rfl (by kernel_rfl) gd_none (d_slice_place (i := (0 : Int)) (j := (32 : Int)) 1 rfl (mem_at 0 rfl) (.inl ⟨rfl, rfl⟩) (.inl ⟨rfl, rfl⟩) Try.underlying29 ty5 (by decide) (by decide) (fun v15 => ?_))
  refine ta_take (i := 1) rfl (by kernel_rfl) gd_none (d_bytes_str rfl (mem_at 0 rfl) Try.underlying32 Try.underlying5 Try.underlying9 (fun v18 => ?_))
  refine ta_freezebox 1 rfl ?_
  refine ta_take (i := 2) rfl (by kernel_rfl) gd_none (d_slice_place (i := (0 : Int)) (j := (32 : Int)) 1 rfl (mem_at 0 rfl) (.inl ⟨rfl, rfl⟩) (.inl ⟨rfl, rfl⟩) Try.underlying29 ty5 (by decide) (by decide) (fun v20 => ?_))
  refine ta_take (i := 3) rfl (by kernel_rfl) gd_none (d_bytes_str rfl (mem_at 0 rfl) Try.underlying32 Try.underlying5 Try.underlying9 (fun v23 => ?_))
  refine ta_take (i := 4) rfl (by kernel_rfl) gd_none (d_str_cmp (lexLt (sub a0 (0 : Int) (32 : Int)) (sub a1 (0 : Int) (32 : Int))) rfl rfl (mem_at 3 rfl) (mem_at 0 rfl) (.inr (.inr (.inl ⟨rfl, rfl⟩))) ?_)
  refine ta_take (i := 5) rfl (by kernel_rfl) gd_none (d_assign rfl ?_)
  refine ta_done (by kernel_rfl) ?_
  refine q_then_code ?_
  refine t_ret ?_
  have hr := Option.some.inj hf; subst hr
  refine q_ret (post := fun w w' m v => rBool.val w' m v (lexLt (sub a0 (0 : Int) (32 : Int)) (sub a1 (0 : Int) (32 : Int)))) hR _ (.inl rfl) (fun a w hs => ?_)
  exact ⟨_, run_results rfl (RvOk.cons (rv_tmp hs rfl) RvOk.nil), (hs.hv hv_bool)⟩

end Go.Proofs.Ytbcipfhhmkjigaa
