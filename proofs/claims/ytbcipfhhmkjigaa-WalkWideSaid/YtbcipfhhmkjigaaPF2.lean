/- Functions of the program as plain Lean functions, each with the proof that the call comes to it. -/
import Derived.Test.YtbcipfhhmkjigaaPF1
set_option linter.unusedVariables false
open Go Go.Cf Go.Proofs
namespace Go.Proofs.Ytbcipfhhmkjigaa

def cofferref15_May.l0 (a0 : (List Api_Item)) : Nat → Int → Option (Sum (Bool) (Unit))
  | 0, _ => none
  | k + 1, s4 => (if (decide (s4 < ((a0).length : Int))) = true then (need (0 ≤ s4 ∧ s4 < ((a0).length : Int)) ((((cofferref15_MayName.f k ((((a0).getD (s4).toNat rApi_Item.zeroD)).Name)).bind fun c25 => (if (!c25) = true then (some true) else (if (decide (((((a0).getD (s4).toNat rApi_Item.zeroD)).Kind) < (1 : Int))) = true then (some true) else (if (decide ((2 : Int) < ((((a0).getD (s4).toNat rApi_Item.zeroD)).Kind))) = true then (some true) else (if (decide (((((a0).getD (s4).toNat rApi_Item.zeroD)).Size) < (0 : Int))) = true then (some true) else (if (decide (((((a0).getD (s4).toNat rApi_Item.zeroD)).Kind) = (2 : Int))) = true then (if (!decide (((((a0).getD (s4).toNat rApi_Item.zeroD)).Size) = (0 : Int))) = true then (some true) else (if (decide ((0 : Int) < s4)) = true then (need (0 ≤ (IntKind.i64.wrap (s4 - (1 : Int))) ∧ (IntKind.i64.wrap (s4 - (1 : Int))) < ((a0).length : Int)) ((some (!lexLt (((a0).getD ((IntKind.i64.wrap (s4 - (1 : Int)))).toNat rApi_Item.zeroD)).Name ((((a0).getD (s4).toNat rApi_Item.zeroD)).Name))))) else (some false))) else (if (decide ((0 : Int) < s4)) = true then (need (0 ≤ (IntKind.i64.wrap (s4 - (1 : Int))) ∧ (IntKind.i64.wrap (s4 - (1 : Int))) < ((a0).length : Int)) ((some (!lexLt (((a0).getD ((IntKind.i64.wrap (s4 - (1 : Int)))).toNat rApi_Item.zeroD)).Name ((((a0).getD (s4).toNat rApi_Item.zeroD)).Name))))) else (some false))))))))).bind fun s61 => (if s61 = true then (some (.inl false)) else (cofferref15_May.l0 a0 k (IntKind.i64.wrap (s4 + (1 : Int))))))) else (some (.inr ())))
def cofferref15_May.f (k : Nat) (a0 : (List Api_Item)) : Option (Bool) := (if (decide ((64 : Int) < ((a0).length : Int))) = true then (some false) else (cofferref15_May.l0 a0 k (0 : Int)).bind fun o155 => (match o155 with | .inl r => some r | .inr _ => (some true)))
set_option maxRecDepth 100000 in
set_option maxHeartbeats 6010000 in
theorem cofferref15_May_ok (k : Nat) (a0 : (List Api_Item)) (u0 : Value) (r : Bool) (hf : cofferref15_May.f k a0 = some r) : Cf.FnX true Try.prog 54 [u0] (fun w m => (rSl 64 rApi_Item).val w m u0 a0) (fun w w' m v => rBool.val w' m v r) := by
  unfold cofferref15_May.f at hf
  refine fn_of Try.func54 rfl (Nat.le_of_ble_eq_true rfl) [(rSl 64 rApi_Item).fact u0 a0] (fun w m h f hf => ?_) ?_
  · simp at hf; obtain rfl := hf; exact h
  intro w0 m0 R hR
  refine t_seq ?_
  refine t_region ?_
  refine tl_d rfl (d_assign rfl ?_)
  refine tl_nil ?_
  refine q_then_code ?_
  refine t_seq ?_
  refine t_seq ?_
  refine t_region ?_
  refine tl_d rfl (d_move rfl ?_)
  refine tl_d rfl (d_len_sl rfl (mem_at 0 rfl) Try.underlying52 (fun hl2 _ => ?_))
  refine tl_d rfl (d_gtr rfl rfl ?_)
  refine tl_nil ?_
  refine q_then_code ?_
  refine t_cond rfl (fun hb3 => ?_) (fun hb3 => ?_)
  · have hf := if_t hb3 hf
    refine t_seq ?_
    refine t_region ?_
    refine tl_d rfl (d_assign rfl ?_)
    refine tl_nil ?_
    refine q_then_code ?_
    refine t_ret ?_
    refine q_then_ret ?_
    have hr := Option.some.inj hf; subst hr
    refine q_ret (post := fun w w' m v => rBool.val w' m v false) hR _ (.inl rfl) (fun a w hs => ?_)
    exact ⟨_, run_results rfl (RvOk.cons (rv_tmp hs rfl) RvOk.nil), (hs.hv hv_bool)⟩
  · have hf := if_f hb3 hf
    refine t_skip ?_
    refine q_then_code ?_
    refine t_seq ?_
    refine t_seq ?_
    refine t_region ?_
    refine tl_d rfl (d_assign rfl ?_)
    refine tl_nil ?_
    refine q_then_code ?_
    refine t_block ?_
    obtain ⟨o155, ho156, hf⟩ := bind_some hf
    refine t_loop (X := Int) (O := Sum (Bool) (Unit)) (fun kl x => match x with | s4 => cofferref15_May.l0 a0 kl s4) o155 (fun x => match x with | s4 => (([(0, u0), (3, .int .i64 s4)], [(rSl 64 rApi_Item).fact u0 a0], []) : Sym)) (fun x => match x with | s4 => IntKind.i64.wrap s4 = s4) k (0 : Int) ho156 rfl ⟨rfl, ⟨rfl, trivial⟩⟩ ⟨mem_at 0 rfl, trivial⟩ [] (Sel.nil) rfl ?_
    clear ho156
    rintro k8 s4 hw_s4 hk7
    have hout5 := hf; clear hf
    obtain ⟨kq6, rfl⟩ : ∃ q, k8 = q + 1 := by cases k8 with | zero => cases hk7 | succ q => exact ⟨q, rfl⟩
    have hf := hk7
    clear hk7; dsimp only [cofferref15_May.l0] at hf
    refine t_seq ?_
    refine t_seq ?_
    refine t_region ?_
    refine tl_d rfl (d_move rfl ?_)
    refine tl_d rfl (d_move rfl ?_)
    refine tl_d rfl (d_len_sl rfl (mem_at 0 rfl) Try.underlying52 (fun hl10 _ => ?_))
    refine tl_d rfl (d_lss rfl rfl ?_)
    refine tl_nil ?_
    refine q_then_code ?_
    refine t_cond rfl (fun hb11 => ?_) (fun hb11 => ?_)
    · have hf := if_t hb11 hf
      refine t_skip ?_
      refine q_then_code ?_
      refine t_seq ?_
      refine t_block ?_
      refine t_seq ?_
      obtain ⟨hn12, hf⟩ := need_some hf
      refine t_region ?_
      refine tl_d rfl (d_move rfl ?_)
      refine tl_d rfl (d_move rfl ?_)
      refine tl_d rfl (d_index_sl rfl (mem_at 0 rfl) rfl Try.underlying52 ty54 hn12 (fun p18 => ?_))
      refine tl_d rfl (d_load_place rfl (mem_at 0 rfl) ty54 (fun v20 => ?_))
      refine tl_g [] rfl (g_alloc rfl ty54 (fun b22 => ?_))
      refine tl_g _ rfl (g_store_box 0 rfl rfl rfl (Fld.self rApi_Item) trivial (hv_fact (mem_at 0 rfl)) ty54 (List.mem_singleton_self _) ?_)
      refine tl_nil ?_
      refine q_then_code ?_
      refine t_seq ?_
      obtain ⟨o62, ho63, hf⟩ := bind_some hf
      refine t_cut (X := Bool) (fun x => match x with | s61 => (([(0, u0), (3, (.int .i64 s4)), (61, .bool s61)], [(rSl 64 rApi_Item).fact u0 a0], []) : Sym)) (fun x => match x with | s61 => s61 = o62) ?_ ?_
      · have hf := ho63; clear ho63
        obtain ⟨c25, hc26, hf⟩ := bind_some hf
        rcases bool_tf (!c25) with hb30 | hb30
        · have hf := if_t hb30 hf
          refine t_any (n := 44) [] mixed ⟨by kernel_rfl, .inl rfl⟩ (np_cut (np_then (np_block (np_then (np_then (np_block (np_then np_body))))))) ?_
          refine ta_take (i := 0) rfl (by kernel_rfl) gd_none (d_field_own rfl fo54_0 ?_)
          refine ta_take (i := 1) rfl (by kernel_rfl) gd_none (d_load_box 0 rfl rfl (Fld.at0 fl_Api_Item_Name) trivial ty9 rfl (fun v64 => ?_))
          refine ta_one (i := 2) (by kernel_rfl) rfl rfl gd_none (g_call1 rfl hfn68 (cofferref15_MayName_ok _ _ _ _ hc26) (Evs.cons rfl Evs.nil) (fun a w hs => (hv_fact (mem_at 0 rfl)) _ _ _ _ hs) (fun v66 => ?_))
          refine ta_bool (mem_at 0 rfl) (fun hv68 => ?_)
          subst hv68
          refine ta_take (i := 3) rfl (by kernel_rfl) gd_none (d_not rfl ?_)
          refine ta_take (i := 4) rfl (by kernel_rfl) gd_none (d_move rfl ?_)
          refine ta_off (i := 5) rfl (by kernel_rfl) (gd_off rfl rfl rfl hb30) ?_
          refine ta_off (i := 6) rfl (by kernel_rfl) (gd_off rfl rfl rfl hb30) ?_
          refine ta_off (i := 7) rfl (by kernel_rfl) (gd_off rfl rfl rfl hb30) ?_
          refine ta_take (i := 8) rfl (by kernel_rfl) gd_none (d_pick_true rfl hb30 rfl ?_)
          refine ta_take (i := 9) rfl (by kernel_rfl) gd_none (d_move rfl ?_)
          refine ta_off (i := 10) rfl (by kernel_rfl) (gd_off rfl rfl rfl rfl) ?_
          refine ta_off (i := 11) rfl (by kernel_rfl) (gd_off rfl rfl rfl rfl) ?_
          refine ta_off (i := 12) rfl (by kernel_rfl) (gd_off rfl rfl rfl rfl) ?_
          refine ta_take (i := 13) rfl (by kernel_rfl) gd_none (d_pick_true rfl rfl rfl ?_)
          refine ta_take (i := 14) rfl (by kernel_rfl) gd_none (d_move rfl ?_)
          refine ta_off (i := 15) rfl (by kernel_rfl) (gd_off rfl rfl rfl rfl) ?_
          refine ta_off (i := 16) rfl (by kernel_rfl) (gd_off rfl rfl rfl rfl) ?_
          refine ta_off (i := 17) rfl (by kernel_rfl) (gd_off rfl rfl rfl rfl) ?_
          refine ta_take (i := 18) rfl (by kernel_rfl) gd_none (d_pick_true rfl rfl rfl ?_)
          refine ta_take (i := 19) rfl (by kernel_rfl) gd_none (d_move rfl ?_)
          refine ta_off (i := 20) rfl (by kernel_rfl) (gd_off rfl rfl rfl rfl) ?_
          refine ta_off (i := 21) rfl (by kernel_rfl) (gd_off rfl rfl rfl rfl) ?_
          refine ta_off (i := 22) rfl (by kernel_rfl) (gd_off rfl rfl rfl rfl) ?_
          refine ta_off (i := 23) rfl (by kernel_rfl) (gd_off rfl rfl rfl rfl) ?_
          refine ta_off (i := 24) rfl (by kernel_rfl) (gd_offu rfl rfl rfl) ?_
          refine ta_off (i := 25) rfl (by kernel_rfl) (gd_offu rfl rfl rfl) ?_
          refine ta_off (i := 26) rfl (by kernel_rfl) (gd_offu rfl rfl rfl) ?_
          refine ta_off (i := 27) rfl (by kernel_rfl) (gd_off rfl rfl rfl rfl) ?_
          refine ta_take (i := 28) rfl (by kernel_rfl) gd_none (d_pick_true rfl rfl rfl ?_)
          refine ta_take (i := 29) rfl (by kernel_rfl) gd_none (d_move rfl ?_)
          refine ta_off (i := 30) rfl (by kernel_rfl) (gd_off rfl rfl rfl rfl) ?_
          refine ta_off (i := 31) rfl (by kernel_rfl) (gd_off rfl rfl rfl rfl) ?_
          refine ta_off (i := 32) rfl (by kernel_rfl) (gd_off rfl rfl rfl rfl) ?_
          refine ta_off (i := 33) rfl (by kernel_rfl) (gd_offu rfl rfl rfl) ?_
          refine ta_off (i := 34) rfl (by kernel_rfl) (gd_offu rfl rfl rfl) ?_
          refine ta_off (i := 35) rfl (by kernel_rfl) (gd_offu rfl rfl rfl) ?_
          refine ta_off (i := 36) rfl (by kernel_rfl) (gd_offu rfl rfl rfl) ?_
          refine ta_off (i := 37) rfl (by kernel_rfl) (gd_offu rfl rfl rfl) ?_
          refine ta_off (i := 38) rfl (by kernel_rfl) (gd_offu rfl rfl rfl) ?_
          refine ta_off (i := 39) rfl (by kernel_rfl) (gd_offu rfl rfl rfl) ?_
          refine ta_off (i := 40) rfl (by kernel_rfl) (gd_offu rfl rfl rfl) ?_
          refine ta_off (i := 41) rfl (by kernel_rfl) (gd_offu rfl rfl rfl) ?_
          refine ta_off (i := 42) rfl (by kernel_rfl) (gd_off rfl rfl rfl rfl) ?_
          refine ta_take (i := 43) rfl (by kernel_rfl) gd_none (d_pick_true rfl rfl rfl ?_)
          refine ta_done (by kernel_rfl) ?_
          have hr := Option.some.inj hf; subst hr
          exact q_cut true rfl ⟨rfl, ⟨rfl, ⟨rfl, trivial⟩⟩⟩ ⟨mem_at 4 rfl, trivial⟩ [] (Sel.nil) rfl
        · have hf := if_f hb30 hf
          rcases bool_tf (decide (((((a0).getD (s4).toNat rApi_Item.zeroD)).Kind) < (1 : Int))) with hb32 | hb32
          · have hf := if_t hb32 hf
            refine t_any (n := 44) [] mixed ⟨by kernel_rfl, .inl rfl⟩ (np_cut (np_then (np_block (np_then (np_then (np_block (np_then np_body))))))) ?_
            refine ta_take (i := 0) rfl (by kernel_rfl) gd_none (d_field_own rfl fo54_0 ?_)
            refine ta_take (i := 1) rfl (by kernel_rfl) gd_none (d_load_box 0 rfl rfl (Fld.at0 fl_Api_Item_Name) trivial ty9 rfl (fun v69 => ?_))
            refine ta_one (i := 2) (by kernel_rfl) rfl rfl gd_none (g_call1 rfl hfn68 (cofferref15_MayName_ok _ _ _ _ hc26) (Evs.cons rfl Evs.nil) (fun a w hs => (hv_fact (mem_at 0 rfl)) _ _ _ _ hs) (fun v71 => ?_))
            refine ta_bool (mem_at 0 rfl) (fun hv73 => ?_)
            subst hv73
            refine ta_take (i := 3) rfl (by kernel_rfl) gd_none (d_not rfl ?_)
            refine ta_take (i := 4) rfl (by kernel_rfl) gd_none (d_move rfl ?_)
            refine ta_take (i := 5) rfl (by kernel_rfl) (gd_on rfl rfl rfl hb30) (d_field_own rfl fo54_1 ?_)
            refine ta_take (i := 6) rfl (by kernel_rfl) (gd_on rfl rfl rfl hb30) (d_load_box_int 0 rfl rfl (Fld.at0 fl_Api_Item_Kind) trivial ty3 rfl (fun hw74 => ?_))
            refine ta_take (i := 7) rfl (by kernel_rfl) (gd_on rfl rfl rfl hb30) (d_lss rfl rfl ?_)
            refine ta_take (i := 8) rfl (by kernel_rfl) gd_none (d_pick_false rfl hb30 rfl ?_)
            refine ta_take (i := 9) rfl (by kernel_rfl) gd_none (d_move rfl ?_)
            refine ta_off (i := 10) rfl (by kernel_rfl) (gd_off rfl rfl rfl hb32) ?_
            refine ta_off (i := 11) rfl (by kernel_rfl) (gd_off rfl rfl rfl hb32) ?_
            refine ta_off (i := 12) rfl (by kernel_rfl) (gd_off rfl rfl rfl hb32) ?_
            refine ta_take (i := 13) rfl (by kernel_rfl) gd_none (d_pick_true rfl hb32 rfl ?_)
            refine ta_take (i := 14) rfl (by kernel_rfl) gd_none (d_move rfl ?_)
            refine ta_off (i := 15) rfl (by kernel_rfl) (gd_off rfl rfl rfl rfl) ?_
            refine ta_off (i := 16) rfl (by kernel_rfl) (gd_off rfl rfl rfl rfl) ?_
            refine ta_off (i := 17) rfl (by kernel_rfl) (gd_off rfl rfl rfl rfl) ?_
            refine ta_take (i := 18) rfl (by kernel_rfl) gd_none (d_pick_true rfl rfl rfl ?_)
            refine ta_take (i := 19) rfl (by kernel_rfl) gd_none (d_move rfl ?_)
            refine ta_off (i := 20) rfl (by kernel_rfl) (gd_off rfl rfl rfl rfl) ?_
            refine ta_off (i := 21) rfl (by kernel_rfl) (gd_off rfl rfl rfl rfl) ?_
            refine ta_off (i := 22) rfl (by kernel_rfl) (gd_off rfl rfl rfl rfl) ?_
            refine ta_off (i := 23) rfl (by kernel_rfl) (gd_off rfl rfl rfl rfl) ?_
            refine ta_off (i := 24) rfl (by kernel_rfl) (gd_offu rfl rfl rfl) ?_
            refine ta_off (i := 25) rfl (by kernel_rfl) (gd_offu rfl rfl rfl) ?_
            refine ta_off (i := 26) rfl (by kernel_rfl) (gd_offu rfl rfl rfl) ?_
            refine ta_off (i := 27) rfl (by kernel_rfl) (gd_off rfl rfl rfl rfl) ?_
            refine ta_take (i := 28) rfl (by kernel_rfl) gd_none (d_pick_true rfl rfl rfl ?_)
            refine ta_take (i := 29) rfl (by kernel_rfl) gd_none (d_move rfl ?_)
            refine ta_off (i := 30) rfl (by kernel_rfl) (gd_off rfl rfl rfl rfl) ?_
            refine ta_off (i := 31) rfl (by kernel_rfl) (gd_off rfl rfl rfl rfl) ?_
            refine ta_off (i := 32) rfl (by kernel_rfl) (gd_off rfl rfl rfl rfl) ?_
            refine ta_off (i := 33) rfl (by kernel_rfl) (gd_offu rfl rfl rfl) ?_
            refine ta_off (i := 34) rfl (by kernel_rfl) (gd_offu rfl rfl rfl) ?_
            refine ta_off (i := 35) rfl (by kernel_rfl) (gd_offu rfl rfl rfl) ?_
            refine ta_off (i := 36) rfl (by kernel_rfl) (gd_offu rfl rfl rfl) ?_
            refine ta_off (i := 37) rfl (by kernel_rfl) (gd_offu rfl rfl rfl) ?_
            refine ta_off (i := 38) rfl (by kernel_rfl) (gd_offu rfl rfl rfl) ?_
            refine ta_off (i := 39) rfl (by kernel_rfl) (gd_offu rfl rfl rfl) ?_
            refine ta_off (i := 40) rfl (by kernel_rfl) (gd_offu rfl rfl rfl) ?_
            refine ta_off (i := 41) rfl (by kernel_rfl) (gd_offu rfl rfl rfl) ?_
            refine ta_off (i := 42) rfl (by kernel_rfl) (gd_off rfl rfl rfl rfl) ?_
            refine ta_take (i := 43) rfl (by kernel_rfl) gd_none (d_pick_true rfl rfl rfl ?_)
            refine ta_done (by kernel_rfl) ?_
            have hr := Option.some.inj hf; subst hr
            exact q_cut true rfl ⟨rfl, ⟨rfl, ⟨rfl, trivial⟩⟩⟩ ⟨mem_at 4 rfl, trivial⟩ [] (Sel.nil) rfl
          · have hf := if_f hb32 hf
            rcases bool_tf (decide ((2 : Int) < ((((a0).getD (s4).toNat rApi_Item.zeroD)).Kind))) with hb34 | hb34
            · have hf := if_t hb34 hf
              refine t_any (n := 44) [] mixed ⟨by kernel_rfl, .inl rfl⟩ (np_cut (np_then (np_block (np_then (np_then (np_block (np_then np_body))))))) ?_
              refine ta_take (i := 0) rfl (by kernel_rfl) gd_none (d_field_own rfl fo54_0 ?_)
              refine ta_take (i := 1) rfl (by kernel_rfl) gd_none (d_load_box 0 rfl rfl (Fld.at0 fl_Api_Item_Name) trivial ty9 rfl (fun v75 => ?_))
              refine ta_one (i := 2) (by kernel_rfl) rfl rfl gd_none (g_call1 rfl hfn68 (cofferref15_MayName_ok _ _ _ _ hc26) (Evs.cons rfl Evs.nil) (fun a w hs => (hv_fact (mem_at 0 rfl)) _ _ _ _ hs) (fun v77 => ?_))
              refine ta_bool (mem_at 0 rfl) (fun hv79 => ?_)
              subst hv79
              refine ta_take (i := 3) rfl (by kernel_rfl) gd_none (d_not rfl ?_)
              refine ta_take (i := 4) rfl (by kernel_rfl) gd_none (d_move rfl ?_)
              refine ta_take (i := 5) rfl (by kernel_rfl) (gd_on rfl rfl rfl hb30) (d_field_own rfl fo54_1 ?_)
              refine ta_take (i := 6) rfl (by kernel_rfl) (gd_on rfl rfl rfl hb30) (d_load_box_int 0 rfl rfl (Fld.at0 fl_Api_Item_Kind) trivial ty3 rfl (fun hw80 => ?_))
              refine ta_take (i := 7) rfl (by kernel_rfl) (gd_on rfl rfl rfl hb30) (d_lss rfl rfl ?_)
              refine ta_take (i := 8) rfl (by kernel_rfl) gd_none (d_pick_false rfl hb30 rfl ?_)
              refine ta_take (i := 9) rfl (by kernel_rfl) gd_none (d_move rfl ?_)
              refine ta_take (i := 10) rfl (by kernel_rfl) (gd_on rfl rfl rfl hb32) (d_field_own rfl fo54_1 ?_)
              refine ta_take (i := 11) rfl (by kernel_rfl) (gd_on rfl rfl rfl hb32) (d_load_box_int 0 rfl rfl (Fld.at0 fl_Api_Item_Kind) trivial ty3 rfl (fun hw81 => ?_))
              refine ta_take (i := 12) rfl (by kernel_rfl) (gd_on rfl rfl rfl hb32) (d_gtr rfl rfl ?_)
              refine ta_take (i := 13) rfl (by kernel_rfl) gd_none (d_pick_false rfl hb32 rfl ?_)
              refine ta_take (i := 14) rfl (by kernel_rfl) gd_none (d_move rfl ?_)
              refine ta_off (i := 15) rfl (by kernel_rfl) (gd_off rfl rfl rfl hb34) ?_
              refine ta_off (i := 16) rfl (by kernel_rfl) (gd_off rfl rfl rfl hb34) ?_
              refine ta_off (i := 17) rfl (by kernel_rfl) (gd_off rfl rfl rfl hb34) ?_
              refine ta_take (i := 18) rfl (by kernel_rfl) gd_none (d_pick_true rfl hb34 rfl ?_)
              refine ta_take (i := 19) rfl (by kernel_rfl) gd_none (d_move rfl ?_)
              refine ta_off (i := 20) rfl (by kernel_rfl) (gd_off rfl rfl rfl rfl) ?_
              refine ta_off (i := 21) rfl (by kernel_rfl) (gd_off rfl rfl rfl rfl) ?_
              refine ta_off (i := 22) rfl (by kernel_rfl) (gd_off rfl rfl rfl rfl) ?_
              refine ta_off (i := 23) rfl (by kernel_rfl) (gd_off rfl rfl rfl rfl) ?_
              refine ta_off (i := 24) rfl (by kernel_rfl) (gd_offu rfl rfl rfl) ?_
              refine ta_off (i := 25) rfl (by kernel_rfl) (gd_offu rfl rfl rfl) ?_
              refine ta_off (i := 26) rfl (by kernel_rfl) (gd_offu rfl rfl rfl) ?_
              refine ta_off (i := 27) rfl (by kernel_rfl) (gd_off rfl rfl rfl rfl) ?_
              refine ta_take (i := 28) rfl (by kernel_rfl) gd_none (d_pick_true rfl rfl rfl ?_)
              refine ta_take (i := 29) rfl (by kernel_rfl) gd_none (d_move rfl ?_)
              refine ta_off (i := 30) rfl (by kernel_rfl) (gd_off rfl rfl rfl rfl) ?_
              refine ta_off (i := 31) rfl (by kernel_rfl) (gd_off rfl rfl rfl rfl) ?_
              refine ta_off (i := 32) rfl (by kernel_rfl) (gd_off rfl rfl rfl rfl) ?_
              refine ta_off (i := 33) rfl (by kernel_rfl) (gd_offu rfl rfl rfl) ?_
              refine ta_off (i := 34) rfl (by kernel_rfl) (gd_offu rfl rfl rfl) ?_
              refine ta_off (i := 35) rfl (by kernel_rfl) (gd_offu rfl rfl rfl) ?_
              refine ta_off (i := 36) rfl (by kernel_rfl) (gd_offu rfl rfl rfl) ?_
              refine ta_off (i := 37) rfl (by kernel_rfl) (gd_offu rfl rfl rfl) ?_
              refine ta_off (i := 38) rfl (by kernel_rfl) (gd_offu rfl rfl rfl) ?_
              refine ta_off (i := 39) rfl (by kernel_rfl) (gd_offu rfl rfl rfl) ?_
              refine ta_off (i := 40) rfl (by kernel_rfl) (gd_offu rfl rfl rfl) ?_
              refine ta_off (i := 41) rfl (by kernel_rfl) (gd_offu rfl rfl rfl) ?_
              refine ta_off (i := 42) rfl (by kernel_rfl) (gd_off rfl rfl rfl rfl) ?_
              refine ta_take (i := 43) rfl (by kernel_rfl) gd_none (d_pick_true rfl rfl rfl ?_)
              refine ta_done (by kernel_rfl) ?_
              have hr := Option.some.inj hf; subst hr
              exact q_cut true rfl ⟨rfl, ⟨rfl, ⟨rfl, trivial⟩⟩⟩ ⟨mem_at 4 rfl, trivial⟩ [] (Sel.nil) rfl
            · have hf := if_f hb34 hf
              rcases bool_tf (decide (((((a0).getD (s4).toNat rApi_Item.zeroD)).Size) < (0 : Int))) with hb36 | hb36
              · have hf := if_t hb36 hf
                refine t_any (n := 44) [] mixed ⟨by kernel_rfl, .inl rfl⟩ (np_cut (np_then (np_block (np_then (np_then (np_block (np_then np_body))))))) ?_
                refine ta_take (i := 0) rfl (by kernel_rfl) gd_none (d_field_own rfl fo54_0 ?_)
                refine ta_take (i := 1) rfl (by kernel_rfl) gd_none (d_load_box 0 rfl rfl (Fld.at0 fl_Api_Item_Name) trivial ty9 rfl (fun v82 => ?_))
                refine ta_one (i := 2) (by kernel_rfl) rfl rfl gd_none (g_call1 rfl hfn68 (cofferref15_MayName_ok _ _ _ _ hc26) (Evs.cons rfl Evs.nil) (fun a w hs => (hv_fact (mem_at 0 rfl)) _ _ _ _ hs) (fun v84 => ?_))
                refine ta_bool (mem_at 0 rfl) (fun hv86 => ?_)
                subst hv86
                refine ta_take (i := 3) rfl (by kernel_rfl) gd_none (d_not rfl ?_)
                refine ta_take (i := 4) rfl (by kernel_rfl) gd_none (d_move rfl ?_)
                refine ta_take (i := 5) rfl (by kernel_rfl) (gd_on rfl rfl rfl hb30) (d_field_own rfl fo54_1 ?_)
                refine ta_take (i := 6) rfl (by kernel_rfl) (gd_on rfl rfl rfl hb30) (d_load_box_int 0 rfl rfl (Fld.at0 fl_Api_Item_Kind) trivial ty3 rfl (fun hw87 => ?_))
                refine ta_take (i := 7) rfl (by kernel_rfl) (gd_on rfl rfl rfl hb30) (d_lss rfl rfl ?_)
                refine ta_take (i := 8) rfl (by kernel_rfl) gd_none (d_pick_false rfl hb30 rfl ?_)
                refine ta_take (i := 9) rfl (by kernel_rfl) gd_none (d_move rfl ?_)
                refine ta_take (i := 10) rfl (by kernel_rfl) (gd_on rfl rfl rfl hb32) (d_field_own rfl fo54_1 ?_)
                refine ta_take (i := 11) rfl (by kernel_rfl) (gd_on rfl rfl rfl hb32) (d_load_box_int 0 rfl rfl (Fld.at0 fl_Api_Item_Kind) trivial ty3 rfl (fun hw88 => ?_))
                refine ta_take (i := 12) rfl (by kernel_rfl) (gd_on rfl rfl rfl hb32) (d_gtr rfl rfl ?_)
                refine ta_take (i := 13) rfl (by kernel_rfl) gd_none (d_pick_false rfl hb32 rfl ?_)
                refine ta_take (i := 14) rfl (by kernel_rfl) gd_none (d_move rfl ?_)
                refine ta_take (i := 15) rfl (by kernel_rfl) (gd_on rfl rfl rfl hb34) (d_field_own rfl fo54_3 ?_)
                refine ta_take (i := 16) rfl (by kernel_rfl) (gd_on rfl rfl rfl hb34) (d_load_box_int 0 rfl rfl (Fld.at0 fl_Api_Item_Size) trivial ty2 rfl (fun hw89 => ?_))
                refine ta_take (i := 17) rfl (by kernel_rfl) (gd_on rfl rfl rfl hb34) (d_lss rfl rfl ?_)
                refine ta_take (i := 18) rfl (by kernel_rfl) gd_none (d_pick_false rfl hb34 rfl ?_)
                refine ta_take (i := 19) rfl (by kernel_rfl) gd_none (d_move rfl ?_)
                refine ta_off (i := 20) rfl (by kernel_rfl) (gd_off rfl rfl rfl hb36) ?_
                refine ta_off (i := 21) rfl (by kernel_rfl) (gd_off rfl rfl rfl hb36) ?_
                refine ta_off (i := 22) rfl (by kernel_rfl) (gd_off rfl rfl rfl hb36) ?_
                refine ta_off (i := 23) rfl (by kernel_rfl) (gd_off rfl rfl rfl hb36) ?_
                refine ta_off (i := 24) rfl (by kernel_rfl) (gd_offu rfl rfl rfl) ?_
                refine ta_off (i := 25) rfl (by kernel_rfl) (gd_offu rfl rfl rfl) ?_
                refine ta_off (i := 26) rfl (by kernel_rfl) (gd_offu rfl rfl rfl) ?_
                refine ta_off (i := 27) rfl (by kernel_rfl) (gd_off rfl rfl rfl hb36) ?_
                refine ta_take (i := 28) rfl (by kernel_rfl) gd_none (d_pick_true rfl hb36 rfl ?_)
                refine ta_take (i := 29) rfl (by kernel_rfl) gd_none (d_move rfl ?_)
                refine ta_off (i := 30) rfl (by kernel_rfl) (gd_off rfl rfl rfl rfl) ?_
                refine ta_off (i := 31) rfl (by kernel_rfl) (gd_off rfl rfl rfl rfl) ?_
                refine ta_off (i := 32) rfl (by kernel_rfl) (gd_off rfl rfl rfl rfl) ?_
                refine ta_off (i := 33) rfl (by kernel_rfl) (gd_offu rfl rfl rfl) ?_
                refine ta_off (i := 34) rfl (by kernel_rfl) (gd_offu rfl rfl rfl) ?_
                refine ta_off (i := 35) rfl (by kernel_rfl) (gd_offu rfl rfl rfl) ?_
                refine ta_off (i := 36) rfl (by kernel_rfl) (gd_offu rfl rfl rfl) ?_
                refine ta_off (i := 37) rfl (by kernel_rfl) (gd_offu rfl rfl rfl) ?_
                refine ta_off (i := 38) rfl (by kernel_rfl) (gd_offu rfl rfl rfl) ?_
                refine ta_off (i := 39) rfl (by kernel_rfl) (gd_offu rfl rfl rfl) ?_
                refine ta_off (i := 40) rfl (by kernel_rfl) (gd_offu rfl rfl rfl) ?_
                refine ta_off (i := 41) rfl (by kernel_rfl) (gd_offu rfl rfl rfl) ?_
                refine ta_off (i := 42) rfl (by kernel_rfl) (gd_off rfl rfl rfl rfl) ?_
                refine ta_take (i := 43) rfl (by kernel_rfl) gd_none (d_pick_true rfl rfl rfl ?_)
                refine ta_done (by kernel_rfl) ?_
                have hr := Option.some.inj hf; subst hr
                exact q_cut true rfl ⟨rfl, ⟨rfl, ⟨rfl, trivial⟩⟩⟩ ⟨mem_at 4 rfl, trivial⟩ [] (Sel.nil) rfl
              · have hf := if_f hb36 hf
                rcases bool_tf (decide (((((a0).getD (s4).toNat rApi_Item.zeroD)).Kind) = (2 : Int))) with hb38 | hb38
                · have hf := if_t hb38 hf
                  rcases bool_tf (!decide (((((a0).getD (s4).toNat rApi_Item.zeroD)).Size) = (0 : Int))) with hb40 | hb40
                  · have hf := if_t hb40 hf
                    refine t_any (n := 44) [] mixed ⟨by kernel_rfl, .inl rfl⟩ (np_cut (np_then (np_block (np_then (np_then (np_block (np_then np_body))))))) ?_
                    refine ta_take (i := 0) rfl (by kernel_rfl) gd_none (d_field_own rfl fo54_0 ?_)
                    refine ta_take (i := 1) rfl (by kernel_rfl) gd_none (d_load_box 0 rfl rfl (Fld.at0 fl_Api_Item_Name) trivial ty9 rfl (fun v90 => ?_))
                    refine ta_one (i := 2) (by kernel_rfl) rfl rfl gd_none (g_call1 rfl hfn68 (cofferref15_MayName_ok _ _ _ _ hc26) (Evs.cons rfl Evs.nil) (fun a w hs => (hv_fact (mem_at 0 rfl)) _ _ _ _ hs) (fun v92 => ?_))
                    refine ta_bool (mem_at 0 rfl) (fun hv94 => ?_)
                    subst hv94
                    refine ta_take (i := 3) rfl (by kernel_rfl) gd_none (d_not rfl ?_)
                    refine ta_take (i := 4) rfl (by kernel_rfl) gd_none (d_move rfl ?_)
                    refine ta_take (i := 5) rfl (by kernel_rfl) (gd_on rfl rfl rfl hb30) (d_field_own rfl fo54_1 ?_)
                    refine ta_take (i := 6) rfl (by kernel_rfl) (gd_on rfl rfl rfl hb30) (d_load_box_int 0 rfl rfl (Fld.at0 fl_Api_Item_Kind) trivial ty3 rfl (fun hw95 => ?_))
                    refine ta_take (i := 7) rfl (by kernel_rfl) (gd_on rfl rfl rfl hb30) (d_lss rfl rfl ?_)
                    refine ta_take (i := 8) rfl (by kernel_rfl) gd_none (d_pick_false rfl hb30 rfl ?_)
                    refine ta_take (i := 9) rfl (by kernel_rfl) gd_none (d_move rfl ?_)
                    refine ta_take (i := 10) rfl (by kernel_rfl) (gd_on rfl rfl rfl hb32) (d_field_own rfl fo54_1 ?_)
                    refine ta_take (i := 11) rfl (by kernel_rfl) (gd_on rfl rfl rfl hb32) (d_load_box_int 0 rfl rfl (Fld.at0 fl_Api_Item_Kind) trivial ty3 rfl (fun hw96 => ?_))
                    refine ta_take (i := 12) rfl (by kernel_rfl) (gd_on rfl rfl rfl hb32) (d_gtr rfl rfl ?_)
                    refine ta_take (i := 13) rfl (by kernel_rfl) gd_none (d_pick_false rfl hb32 rfl ?_)
                    refine ta_take (i := 14) rfl (by kernel_rfl) gd_none (d_move rfl ?_)
                    refine ta_take (i := 15) rfl (by kernel_rfl) (gd_on rfl rfl rfl hb34) (d_field_own rfl fo54_3 ?_)
                    refine ta_take (i := 16) rfl (by kernel_rfl) (gd_on rfl rfl rfl hb34) (d_load_box_int 0 rfl rfl (Fld.at0 fl_Api_Item_Size) trivial ty2 rfl (fun hw97 => ?_))
                    refine ta_take (i := 17) rfl (by kernel_rfl) (gd_on rfl rfl rfl hb34) (d_lss rfl rfl ?_)
                    refine ta_take (i := 18) rfl (by kernel_rfl) gd_none (d_pick_false rfl hb34 rfl ?_)
                    refine ta_take (i := 19) rfl (by kernel_rfl) gd_none (d_move rfl ?_)
                    refine ta_take (i := 20) rfl (by kernel_rfl) (gd_on rfl rfl rfl hb36) (d_field_own rfl fo54_1 ?_)
                    refine ta_take (i := 21) rfl (by kernel_rfl) (gd_on rfl rfl rfl hb36) (d_load_box_int 0 rfl rfl (Fld.at0 fl_Api_Item_Kind) trivial ty3 rfl (fun hw98 => ?_))
                    refine ta_take (i := 22) rfl (by kernel_rfl) (gd_on rfl rfl rfl hb36) (d_eql rfl rfl ?_)
                    refine ta_take (i := 23) rfl (by kernel_rfl) (gd_on rfl rfl rfl hb36) (d_move rfl ?_)
                    refine ta_take (i := 24) rfl (by kernel_rfl) (gd_on rfl rfl rfl hb38) (d_field_own rfl fo54_3 ?_)
                    refine ta_take (i := 25) rfl (by kernel_rfl) (gd_on rfl rfl rfl hb38) (d_load_box_int 0 rfl rfl (Fld.at0 fl_Api_Item_Size) trivial ty2 rfl (fun hw99 => ?_))
                    refine ta_take (i := 26) rfl (by kernel_rfl) (gd_on rfl rfl rfl hb38) (d_neq rfl rfl ?_)
                    refine ta_take (i := 27) rfl (by kernel_rfl) (gd_on rfl rfl rfl hb36) (d_pick_true rfl hb38 rfl ?_)
                    refine ta_take (i := 28) rfl (by kernel_rfl) gd_none (d_pick_false rfl hb36 rfl ?_)
                    refine ta_take (i := 29) rfl (by kernel_rfl) gd_none (d_move rfl ?_)
                    refine ta_off (i := 30) rfl (by kernel_rfl) (gd_off rfl rfl rfl hb40) ?_
                    refine ta_off (i := 31) rfl (by kernel_rfl) (gd_off rfl rfl rfl hb40) ?_
                    refine ta_off (i := 32) rfl (by kernel_rfl) (gd_off rfl rfl rfl hb40) ?_
                    refine ta_off (i := 33) rfl (by kernel_rfl) (gd_offu rfl rfl rfl) ?_
                    refine ta_off (i := 34) rfl (by kernel_rfl) (gd_offu rfl rfl rfl) ?_
                    refine ta_off (i := 35) rfl (by kernel_rfl) (gd_offu rfl rfl rfl) ?_
                    refine ta_off (i := 36) rfl (by kernel_rfl) (gd_offu rfl rfl rfl) ?_
                    refine ta_off (i := 37) rfl (by kernel_rfl) (gd_offu rfl rfl rfl) ?_
                    refine ta_off (i := 38) rfl (by kernel_rfl) (gd_offu rfl rfl rfl) ?_
                    refine ta_off (i := 39) rfl (by kernel_rfl) (gd_offu rfl rfl rfl) ?_
                    refine ta_off (i := 40) rfl (by kernel_rfl) (gd_offu rfl rfl rfl) ?_
                    refine ta_off (i := 41) rfl (by kernel_rfl) (gd_offu rfl rfl rfl) ?_
                    refine ta_off (i := 42) rfl (by kernel_rfl) (gd_off rfl rfl rfl hb40) ?_
                    refine ta_take (i := 43) rfl (by kernel_rfl) gd_none (d_pick_true rfl hb40 rfl ?_)
                    refine ta_done (by kernel_rfl) ?_
                    have hr := Option.some.inj hf; subst hr
                    exact q_cut true rfl ⟨rfl, ⟨rfl, ⟨rfl, trivial⟩⟩⟩ ⟨mem_at 4 rfl, trivial⟩ [] (Sel.nil) rfl
                  · have hf := if_f hb40 hf
                    rcases bool_tf (decide ((0 : Int) < s4)) with hb41 | hb41
                    · have hf := if_t hb41 hf
                      obtain ⟨hn42, hf⟩ := need_some hf
                      refine t_any (n := 44) [] mixed ⟨by kernel_rfl, .inl rfl⟩ (np_cut (np_then (np_block (np_then (np_then (np_block (np_then np_body))))))) ?_
                      refine ta_take (i := 0) rfl (by kernel_rfl) gd_none (d_field_own rfl fo54_0 ?_)
                      refine ta_take (i := 1) rfl (by kernel_rfl) gd_none (d_load_box 0 rfl rfl (Fld.at0 fl_Api_Item_Name) trivial ty9 rfl (fun v100 => ?_))
                      refine ta_one (i := 2) (by kernel_rfl) rfl rfl gd_none (g_call1 rfl hfn68 (cofferref15_MayName_ok _ _ _ _ hc26) (Evs.cons rfl Evs.nil) (fun a w hs => (hv_fact (mem_at 0 rfl)) _ _ _ _ hs) (fun v102 => ?_))
                      refine ta_bool (mem_at 0 rfl) (fun hv104 => ?_)
                      subst hv104
                      refine ta_take (i := 3) rfl (by kernel_rfl) gd_none (d_not rfl ?_)
                      refine ta_take (i := 4) rfl (by kernel_rfl) gd_none (d_move rfl ?_)
                      refine ta_take (i := 5) rfl (by kernel_rfl) (gd_on rfl rfl rfl hb30) (d_field_own rfl fo54_1 ?_)
                      refine ta_take (i := 6) rfl (by kernel_rfl) (gd_on rfl rfl rfl hb30) (d_load_box_int 0 rfl rfl (Fld.at0 fl_Api_Item_Kind) trivial ty3 rfl (fun hw105 => ?_))
                      refine ta_take (i := 7) rfl (by kernel_rfl) (gd_on rfl rfl rfl hb30) (d_lss rfl rfl ?_)
                      refine ta_take (i := 8) rfl (by kernel_rfl) gd_none (d_pick_false rfl hb30 rfl ?_)
                      refine ta_take (i := 9) rfl (by kernel_rfl) gd_none (d_move rfl ?_)
                      refine ta_take (i := 10) rfl (by kernel_rfl) (gd_on rfl rfl rfl hb32) (d_field_own rfl fo54_1 ?_)
                      refine ta_take (i := 11) rfl (by kernel_rfl) (gd_on rfl rfl rfl hb32) (d_load_box_int 0 rfl rfl (Fld.at0 fl_Api_Item_Kind) trivial ty3 rfl (fun hw106 => ?_))
                      refine ta_take (i := 12) rfl (by kernel_rfl) (gd_on rfl rfl rfl hb32) (d_gtr rfl rfl ?_)
                      refine ta_take (i := 13) rfl (by kernel_rfl) gd_none (d_pick_false rfl hb32 rfl ?_)
                      refine ta_take (i := 14) rfl (by kernel_rfl) gd_none (d_move rfl ?_)
                      refine ta_take (i := 15) rfl (by kernel_rfl) (gd_on rfl rfl rfl hb34) (d_field_own rfl fo54_3 ?_)
                      refine ta_take (i := 16) rfl (by kernel_rfl) (gd_on rfl rfl rfl hb34) (d_load_box_int 0 rfl rfl (Fld.at0 fl_Api_Item_Size) trivial ty2 rfl (fun hw107 => ?_))
                      refine ta_take (i := 17) rfl (by kernel_rfl) (gd_on rfl rfl rfl hb34) (d_lss rfl rfl ?_)
                      refine ta_take (i := 18) rfl (by kernel_rfl) gd_none (d_pick_false rfl hb34 rfl ?_)
                      refine ta_take (i := 19) rfl (by kernel_rfl) gd_none (d_move rfl ?_)
                      refine ta_take (i := 20) rfl (by kernel_rfl) (gd_on rfl rfl rfl hb36) (d_field_own rfl fo54_1 ?_)
                      refine ta_take (i := 21) rfl (by kernel_rfl) (gd_on rfl rfl rfl hb36) (d_load_box_int 0 rfl rfl (Fld.at0 fl_Api_Item_Kind) trivial ty3 rfl (fun hw108 => ?_))
                      refine ta_take (i := 22) rfl (by kernel_rfl) (gd_on rfl rfl rfl hb36) (d_eql rfl rfl ?_)
                      refine ta_take (i := 23) rfl (by kernel_rfl) (gd_on rfl rfl rfl hb36) (d_move rfl ?_)
                      refine ta_take (i := 24) rfl (by kernel_rfl) (gd_on rfl rfl rfl hb38) (d_field_own rfl fo54_3 ?_)
                      refine ta_take (i := 25) rfl (by kernel_rfl) (gd_on rfl rfl rfl hb38) (d_load_box_int 0 rfl rfl (Fld.at0 fl_Api_Item_Size) trivial ty2 rfl (fun hw109 => ?_))
                      refine ta_take (i := 26) rfl (by kernel_rfl) (gd_on rfl rfl rfl hb38) (d_neq rfl rfl ?_)
                      refine ta_take (i := 27) rfl (by kernel_rfl) (gd_on rfl rfl rfl hb36) (d_pick_true rfl hb38 rfl ?_)
                      refine ta_take (i := 28) rfl (by kernel_rfl) gd_none (d_pick_false rfl hb36 rfl ?_)
                      refine ta_take (i := 29) rfl (by kernel_rfl) gd_none (d_move rfl ?_)
                      refine ta_take (i := 30) rfl (by kernel_rfl) (gd_on rfl rfl rfl hb40) (d_move rfl ?_)
                      refine ta_take (i := 31) rfl (by kernel_rfl) (gd_on rfl rfl rfl hb40) (d_gtr rfl rfl ?_)
                      refine ta_take (i := 32) rfl (by kernel_rfl) (gd_on rfl rfl rfl hb40) (d_move rfl ?_)
                      refine ta_take (i := 33) rfl (by kernel_rfl) (gd_on rfl rfl rfl hb41) (d_move rfl ?_)
                      refine ta_take (i := 34) rfl (by kernel_rfl) (gd_on rfl rfl rfl hb41) (d_move rfl ?_)
                      refine ta_take (i := 35) rfl (by kernel_rfl) (gd_on rfl rfl rfl hb41) (d_sub rfl rfl ?_)
                      refine ta_take (i := 36) rfl (by kernel_rfl) (gd_on rfl rfl rfl hb41) (d_index_sl rfl (mem_at 4 rfl) rfl Try.underlying52 ty54 hn42 (fun p110 => ?_))
                      refine ta_take (i := 37) rfl (by kernel_rfl) (gd_on rfl rfl rfl hb41) (d_field_place rfl (mem_at 0 rfl) fo54_0 fl_Api_Item_Name trivial (fun p112 => ?_))
                      refine ta_take (i := 38) rfl (by kernel_rfl) (gd_on rfl rfl rfl hb41) (d_load_place rfl (mem_at 0 rfl) ty9 (fun v114 => ?_))
                      refine ta_take (i := 39) rfl (by kernel_rfl) (gd_on rfl rfl rfl hb41) (d_field_own rfl fo54_0 ?_)
                      refine ta_take (i := 40) rfl (by kernel_rfl) (gd_on rfl rfl rfl hb41) (d_load_box 0 rfl rfl (Fld.at0 fl_Api_Item_Name) trivial ty9 rfl (fun v116 => ?_))
                      refine ta_take (i := 41) rfl (by kernel_rfl) (gd_on rfl rfl rfl hb41) (d_str_cmp (!lexLt (((a0).getD ((IntKind.i64.wrap (s4 - (1 : Int)))).toNat rApi_Item.zeroD)).Name ((((a0).getD (s4).toNat rApi_Item.zeroD)).Name)) rfl rfl (mem_at 1 rfl) (mem_at 0 rfl) (.inr (.inr (.inr (.inr (.inr ⟨rfl, rfl⟩))))) ?_)
                      refine ta_take (i := 42) rfl (by kernel_rfl) (gd_on rfl rfl rfl hb40) (d_pick_true rfl hb41 rfl ?_)
                      refine ta_take (i := 43) rfl (by kernel_rfl) gd_none (d_pick_false rfl hb40 rfl ?_)
                      refine ta_done (by kernel_rfl) ?_
                      have hr := Option.some.inj hf; subst hr
                      exact q_cut (!lexLt (((a0).getD ((IntKind.i64.wrap (s4 - (1 : Int)))).toNat rApi_Item.zeroD)).Name ((((a0).getD (s4).toNat rApi_Item.zeroD)).Name)) rfl ⟨rfl, ⟨rfl, ⟨rfl, trivial⟩⟩⟩ ⟨mem_at 8 rfl, trivial⟩ [] (Sel.nil) rfl
                    · have hf := if_f hb41 hf
                      refine t_any (n := 44) [] mixed ⟨by kernel_rfl, .inl rfl⟩ (np_cut (np_then (np_block (np_then (np_then (np_block (np_then np_body))))))) ?_
                      refine ta_take (i := 0) rfl (by kernel_rfl) gd_none (d_field_own rfl fo54_0 ?_)
                      refine ta_take (i := 1) rfl (by kernel_rfl) gd_none (d_load_box 0 rfl rfl (Fld.at0 fl_Api_Item_Name) trivial ty9 rfl (fun v118 => ?_))
                      refine ta_one (i := 2) (by kernel_rfl) rfl rfl gd_none (g_call1 rfl hfn68 (cofferref15_MayName_ok _ _ _ _ hc26) (Evs.cons rfl Evs.nil) (fun a w hs => (hv_fact (mem_at 0 rfl)) _ _ _ _ hs) (fun v120 => ?_))
                      refine ta_bool (mem_at 0 rfl) (fun hv122 => ?_)
                      subst hv122
                      refine ta_take (i := 3) rfl (by kernel_rfl) gd_none (d_not rfl ?_)
                      refine ta_take (i := 4) rfl (by kernel_rfl) gd_none (d_move rfl ?_)
                      refine ta_take (i := 5) rfl (by kernel_rfl) (gd_on rfl rfl rfl hb30) (d_field_own rfl fo54_1 ?_)
                      refine ta_take (i := 6) rfl (by kernel_rfl) (gd_on rfl rfl rfl hb30) (d_load_box_int 0 rfl rfl (Fld.at0 fl_Api_Item_Kind) trivial ty3 rfl (fun hw123 => ?_))
                      refine ta_take (i := 7) rfl (by kernel_rfl) (gd_on rfl rfl rfl hb30) (d_lss rfl rfl ?_)
                      refine ta_take (i := 8) rfl (by kernel_rfl) gd_none (d_pick_false rfl hb30 rfl ?_)
                      refine ta_take (i := 9) rfl (by kernel_rfl) gd_none (d_move rfl ?_)
                      refine ta_take (i := 10) rfl (by kernel_rfl) (gd_on rfl rfl rfl hb32) (d_field_own rfl fo54_1 ?_)
                      refine ta_take (i := 11) rfl (by kernel_rfl) (gd_on rfl rfl rfl hb32) (d_load_box_int 0 rfl rfl (Fld.at0 fl_Api_Item_Kind) trivial ty3 rfl (fun hw124 => ?_))
                      refine ta_take (i := 12) rfl (by kernel_rfl) (gd_on rfl rfl rfl hb32) (d_gtr rfl rfl ?_)
                      refine ta_take (i := 13) rfl (by kernel_rfl) gd_none (d_pick_false rfl hb32 rfl ?_)
                      refine ta_take (i := 14) rfl (by kernel_rfl) gd_none (d_move rfl ?_)
                      refine ta_take (i := 15) rfl (by kernel_rfl) (gd_on rfl rfl rfl hb34) (d_field_own rfl fo54_3 ?_)
                      refine ta_take (i := 16) rfl (by kernel_rfl) (gd_on rfl rfl rfl hb34) (d_load_box_int 0 rfl rfl (Fld.at0 fl_Api_Item_Size) trivial ty2 rfl (fun hw125 => ?_))
                      refine ta_take (i := 17) rfl (by kernel_rfl) (gd_on rfl rfl rfl hb34) (d_lss rfl rfl ?_)
                      refine ta_take (i := 18) rfl (by kernel_rfl) gd_none (d_pick_false rfl hb34 rfl ?_)
                      refine ta_take (i := 19) rfl (by kernel_rfl) gd_none (d_move rfl ?_)
                      refine ta_take (i := 20) rfl (by kernel_rfl) (gd_on rfl rfl rfl hb36) (d_field_own rfl fo54_1 ?_)
                      refine ta_take (i := 21) rfl (by kernel_rfl) (gd_on rfl rfl rfl hb36) (d_load_box_int 0 rfl rfl (Fld.at0 fl_Api_Item_Kind) trivial ty3 rfl (fun hw126 => ?_))
                      refine ta_take (i := 22) rfl (by kernel_rfl) (gd_on rfl rfl rfl hb36) (d_eql rfl rfl ?_)
                      refine ta_take (i := 23) rfl (by kernel_rfl) (gd_on rfl rfl rfl hb36) (d_move rfl ?_)
                      refine ta_take (i := 24) rfl (by kernel_rfl) (gd_on rfl rfl rfl hb38) (d_field_own rfl fo54_3 ?_)
                      refine ta_take (i := 25) rfl (by kernel_rfl) (gd_on rfl rfl rfl hb38) (d_load_box_int 0 rfl rfl (Fld.at0 fl_Api_Item_Size) trivial ty2 rfl (fun hw127 => ?_))
                      refine ta_take (i := 26) rfl (by kernel_rfl) (gd_on rfl rfl rfl hb38) (d_neq rfl rfl ?_)
                      refine ta_take (i := 27) rfl (by kernel_rfl) (gd_on rfl rfl rfl hb36) (d_pick_true rfl hb38 rfl ?_)
                      refine ta_take (i := 28) rfl (by kernel_rfl) gd_none (d_pick_false rfl hb36 rfl ?_)
                      refine ta_take (i := 29) rfl (by kernel_rfl) gd_none (d_move rfl ?_)
                      refine ta_take (i := 30) rfl (by kernel_rfl) (gd_on rfl rfl rfl hb40) (d_move rfl ?_)
                      refine ta_take (i := 31) rfl (by kernel_rfl) (gd_on rfl rfl rfl hb40) (d_gtr rfl rfl ?_)
                      refine ta_take (i := 32) rfl (by kernel_rfl) (gd_on rfl rfl rfl hb40) (d_move rfl ?_)
                      refine ta_off (i := 33) rfl (by kernel_rfl) (gd_off rfl rfl rfl hb41) ?_
                      refine ta_off (i := 34) rfl (by kernel_rfl) (gd_off rfl rfl rfl hb41) ?_
                      refine ta_off (i := 35) rfl (by kernel_rfl) (gd_off rfl rfl rfl hb41) ?_
                      refine ta_off (i := 36) rfl (by kernel_rfl) (gd_off rfl rfl rfl hb41) ?_
                      refine ta_off (i := 37) rfl (by kernel_rfl) (gd_off rfl rfl rfl hb41) ?_
                      refine ta_off (i := 38) rfl (by kernel_rfl) (gd_off rfl rfl rfl hb41) ?_
                      refine ta_off (i := 39) rfl (by kernel_rfl) (gd_off rfl rfl rfl hb41) ?_
                      refine ta_off (i := 40) rfl (by kernel_rfl) (gd_off rfl rfl rfl hb41) ?_
                      refine ta_off (i := 41) rfl (by kernel_rfl) (gd_off rfl rfl rfl hb41) ?_
                      refine ta_take (i := 42) rfl (by kernel_rfl) (gd_on rfl rfl rfl hb40) (d_pick_false rfl hb41 rfl ?_)
                      refine ta_take (i := 43) rfl (by kernel_rfl) gd_none (d_pick_false rfl hb40 rfl ?_)
                      refine ta_done (by kernel_rfl) ?_
                      have hr := Option.some.inj hf; subst hr
                      exact q_cut false rfl ⟨rfl, ⟨rfl, ⟨rfl, trivial⟩⟩⟩ ⟨mem_at 4 rfl, trivial⟩ [] (Sel.nil) rfl
                · have hf := if_f hb38 hf
                  rcases bool_tf (decide ((0 : Int) < s4)) with hb51 | hb51
                  · have hf := if_t hb51 hf
                    obtain ⟨hn52, hf⟩ := need_some hf
                    refine t_any (n := 44) [] mixed ⟨by kernel_rfl, .inl rfl⟩ (np_cut (np_then (np_block (np_then (np_then (np_block (np_then np_body))))))) ?_
                    refine ta_take (i := 0) rfl (by kernel_rfl) gd_none (d_field_own rfl fo54_0 ?_)
                    refine ta_take (i := 1) rfl (by kernel_rfl) gd_none (d_load_box 0 rfl rfl (Fld.at0 fl_Api_Item_Name) trivial ty9 rfl (fun v128 => ?_))
                    refine ta_one (i := 2) (by kernel_rfl) rfl rfl gd_none (g_call1 rfl hfn68 (cofferref15_MayName_ok _ _ _ _ hc26) (Evs.cons rfl Evs.nil) (fun a w hs => (hv_fact (mem_at 0 rfl)) _ _ _ _ hs) (fun v130 => ?_))
                    refine ta_bool (mem_at 0 rfl) (fun hv132 => ?_)
                    subst hv132
                    refine ta_take (i := 3) rfl (by kernel_rfl) gd_none (d_not rfl ?_)
                    refine ta_take (i := 4) rfl (by kernel_rfl) gd_none (d_move rfl ?_)
                    refine ta_take (i := 5) rfl (by kernel_rfl) (gd_on rfl rfl rfl hb30) (d_field_own rfl fo54_1 ?_)
                    refine ta_take (i := 6) rfl (by kernel_rfl) (gd_on rfl rfl rfl hb30) (d_load_box_int 0 rfl rfl (Fld.at0 fl_Api_Item_Kind) trivial ty3 rfl (fun hw133 => ?_))
                    refine ta_take (i := 7) rfl (by kernel_rfl) (gd_on rfl rfl rfl hb30) (d_lss rfl rfl ?_)
                    refine ta_take (i := 8) rfl (by kernel_rfl) gd_none (d_pick_false rfl hb30 rfl ?_)
                    refine ta_take (i := 9) rfl (by kernel_rfl) gd_none (d_move rfl ?_)
                    refine ta_take (i := 10) rfl (by kernel_rfl) (gd_on rfl rfl rfl hb32) (d_field_own rfl fo54_1 ?_)
                    refine ta_take (i := 11) rfl (by kernel_rfl) (gd_on rfl rfl rfl hb32) (d_load_box_int 0 rfl rfl (Fld.at0 fl_Api_Item_Kind) trivial ty3 rfl (fun hw134 => ?_))
                    refine ta_take (i := 12) rfl (by kernel_rfl) (gd_on rfl rfl rfl hb32) (d_gtr rfl rfl ?_)
                    refine ta_take (i := 13) rfl (by kernel_rfl) gd_none (d_pick_false rfl hb32 rfl ?_)
                    refine ta_take (i := 14) rfl (by kernel_rfl) gd_none (d_move rfl ?_)
                    refine ta_take (i := 15) rfl (by kernel_rfl) (gd_on rfl rfl rfl hb34) (d_field_own rfl fo54_3 ?_)
                    refine ta_take (i := 16) rfl (by kernel_rfl) (gd_on rfl rfl rfl hb34) (d_load_box_int 0 rfl rfl (Fld.at0 fl_Api_Item_Size) trivial ty2 rfl (fun hw135 => ?_))
                    refine ta_take (i := 17) rfl (by kernel_rfl) (gd_on rfl rfl rfl hb34) (d_lss rfl rfl ?_)
                    refine ta_take (i := 18) rfl (by kernel_rfl) gd_none (d_pick_false rfl hb34 rfl ?_)
                    refine ta_take (i := 19) rfl (by kernel_rfl) gd_none (d_move rfl ?_)
                    refine ta_take (i := 20) rfl (by kernel_rfl) (gd_on rfl rfl rfl hb36) (d_field_own rfl fo54_1 ?_)
                    refine ta_take (i := 21) rfl (by kernel_rfl) (gd_on rfl rfl rfl hb36) (d_load_box_int 0 rfl rfl (Fld.at0 fl_Api_Item_Kind) trivial ty3 rfl (fun hw136 => ?_))
                    refine ta_take (i := 22) rfl (by kernel_rfl) (gd_on rfl rfl rfl hb36) (d_eql rfl rfl ?_)
                    refine ta_take (i := 23) rfl (by kernel_rfl) (gd_on rfl rfl rfl hb36) (d_move rfl ?_)
                    refine ta_off (i := 24) rfl (by kernel_rfl) (gd_off rfl rfl rfl hb38) ?_
                    refine ta_off (i := 25) rfl (by kernel_rfl) (gd_off rfl rfl rfl hb38) ?_
                    refine ta_off (i := 26) rfl (by kernel_rfl) (gd_off rfl rfl rfl hb38) ?_
                    refine ta_take (i := 27) rfl (by kernel_rfl) (gd_on rfl rfl rfl hb36) (d_pick_false rfl hb38 rfl ?_)
                    refine ta_take (i := 28) rfl (by kernel_rfl) gd_none (d_pick_false rfl hb36 rfl ?_)
                    refine ta_take (i := 29) rfl (by kernel_rfl) gd_none (d_move rfl ?_)
                    refine ta_take (i := 30) rfl (by kernel_rfl) (gd_on rfl rfl rfl rfl) (d_move rfl ?_)
                    refine ta_take (i := 31) rfl (by kernel_rfl) (gd_on rfl rfl rfl rfl) (d_gtr rfl rfl ?_)
                    refine ta_take (i := 32) rfl (by kernel_rfl) (gd_on rfl rfl rfl rfl) (d_move rfl ?_)
                    refine ta_take (i := 33) rfl (by kernel_rfl) (gd_on rfl rfl rfl hb51) (d_move rfl ?_)
                    refine ta_take (i := 34) rfl (by kernel_rfl) (gd_on rfl rfl rfl hb51) (d_move rfl ?_)
                    refine ta_take (i := 35) rfl (by kernel_rfl) (gd_on rfl rfl rfl hb51) (d_sub rfl rfl ?_)
                    refine ta_take (i := 36) rfl (by kernel_rfl) (gd_on rfl rfl rfl hb51) (d_index_sl rfl (mem_at 4 rfl) rfl Try.underlying52 ty54 hn52 (fun p137 => ?_))
                    refine ta_take (i := 37) rfl (by kernel_rfl) (gd_on rfl rfl rfl hb51) (d_field_place rfl (mem_at 0 rfl) fo54_0 fl_Api_Item_Name trivial (fun p139 => ?_))
                    refine ta_take (i := 38) rfl (by kernel_rfl) (gd_on rfl rfl rfl hb51) (d_load_place rfl (mem_at 0 rfl) ty9 (fun v141 => ?_))
                    refine ta_take (i := 39) rfl (by kernel_rfl) (gd_on rfl rfl rfl hb51) (d_field_own rfl fo54_0 ?_)
                    refine ta_take (i := 40) rfl (by kernel_rfl) (gd_on rfl rfl rfl hb51) (d_load_box 0 rfl rfl (Fld.at0 fl_Api_Item_Name) trivial ty9 rfl (fun v143 => ?_))
                    refine ta_take (i := 41) rfl (by kernel_rfl) (gd_on rfl rfl rfl hb51) (d_str_cmp (!lexLt (((a0).getD ((IntKind.i64.wrap (s4 - (1 : Int)))).toNat rApi_Item.zeroD)).Name ((((a0).getD (s4).toNat rApi_Item.zeroD)).Name)) rfl rfl (mem_at 1 rfl) (mem_at 0 rfl) (.inr (.inr (.inr (.inr (.inr ⟨rfl, rfl⟩))))) ?_)
                    refine ta_take (i := 42) rfl (by kernel_rfl) (gd_on rfl rfl rfl rfl) (d_pick_true rfl hb51 rfl ?_)
                    refine ta_take (i := 43) rfl (by kernel_rfl) gd_none (d_pick_false rfl rfl rfl ?_)
                    refine ta_done (by kernel_rfl) ?_
                    have hr := Option.some.inj hf; subst hr
                    exact q_cut (!lexLt (((a0).getD ((IntKind.i64.wrap (s4 - (1 : Int)))).toNat rApi_Item.zeroD)).Name ((((a0).getD (s4).toNat rApi_Item.zeroD)).Name)) rfl ⟨rfl, ⟨rfl, ⟨rfl, trivial⟩⟩⟩ ⟨mem_at 8 rfl, trivial⟩ [] (Sel.nil) rfl
                  · have hf := if_f hb51 hf
                    refine t_any (n := 44) [] mixed ⟨by kernel_rfl, .inl rfl⟩ (np_cut (np_then (np_block (np_then (np_then (np_block (np_then np_body))))))) ?_
                    refine ta_take (i := 0) rfl (by kernel_rfl) gd_none (d_field_own rfl fo54_0 ?_)
                    refine ta_take (i := 1) rfl (by kernel_rfl) gd_none (d_load_box 0 rfl rfl (Fld.at0 fl_Api_Item_Name) trivial ty9 rfl (fun v145 => ?_))
                    refine ta_one (i := 2) (by kernel_rfl) rfl rfl gd_none (g_call1 rfl hfn68 (cofferref15_MayName_ok _ _ _ _ hc26) (Evs.cons rfl Evs.nil) (fun a w hs => (hv_fact (mem_at 0 rfl)) _ _ _ _ hs) (fun v147 => ?_))
                    refine ta_bool (mem_at 0 rfl) (fun hv149 => ?_)
                    subst hv149
                    refine ta_take (i := 3) rfl (by kernel_rfl) gd_none (d_not rfl ?_)
                    refine ta_take (i := 4) rfl (by kernel_rfl) gd_none (d_move rfl ?_)
                    refine ta_take (i := 5) rfl (by kernel_rfl) (gd_on rfl rfl rfl hb30) (d_field_own rfl fo54_1 ?_)
                    refine ta_take (i := 6) rfl (by kernel_rfl) (gd_on rfl rfl rfl hb30) (d_load_box_int 0 rfl rfl (Fld.at0 fl_Api_Item_Kind) trivial ty3 rfl (fun hw150 => ?_))
                    refine ta_take (i := 7) rfl (by kernel_rfl) (gd_on rfl rfl rfl hb30) (d_lss rfl rfl ?_)
                    refine ta_take (i := 8) rfl (by kernel_rfl) gd_none (d_pick_false rfl hb30 rfl ?_)
                    refine ta_take (i := 9) rfl (by kernel_rfl) gd_none (d_move rfl ?_)
                    refine ta_take (i := 10) rfl (by kernel_rfl) (gd_on rfl rfl rfl hb32) (d_field_own rfl fo54_1 ?_)
                    refine ta_take (i := 11) rfl (by kernel_rfl) (gd_on rfl rfl rfl hb32) (d_load_box_int 0 rfl rfl (Fld.at0 fl_Api_Item_Kind) trivial ty3 rfl (fun hw151 => ?_))
                    refine ta_take (i := 12) rfl (by kernel_rfl) (gd_on rfl rfl rfl hb32) (d_gtr rfl rfl ?_)
                    refine ta_take (i := 13) rfl (by kernel_rfl) gd_none (d_pick_false rfl hb32 rfl ?_)
                    refine ta_take (i := 14) rfl (by kernel_rfl) gd_none (d_move rfl ?_)
                    refine ta_take (i := 15) rfl (by kernel_rfl) (gd_on rfl rfl rfl hb34) (d_field_own rfl fo54_3 ?_)
                    refine ta_take (i := 16) rfl (by kernel_rfl) (gd_on rfl rfl rfl hb34) (d_load_box_int 0 rfl rfl (Fld.at0 fl_Api_Item_Size) trivial ty2 rfl (fun hw152 => ?_))
                    refine ta_take (i := 17) rfl (by kernel_rfl) (gd_on rfl rfl rfl hb34) (d_lss rfl rfl ?_)
                    refine ta_take (i := 18) rfl (by kernel_rfl) gd_none (d_pick_false rfl hb34 rfl ?_)
                    refine ta_take (i := 19) rfl (by kernel_rfl) gd_none (d_move rfl ?_)
                    refine ta_take (i := 20) rfl (by kernel_rfl) (gd_on rfl rfl rfl hb36) (d_field_own rfl fo54_1 ?_)
                    refine ta_take (i := 21) rfl (by kernel_rfl) (gd_on rfl rfl rfl hb36) (d_load_box_int 0 rfl rfl (Fld.at0 fl_Api_Item_Kind) trivial ty3 rfl (fun hw153 => ?_))
                    refine ta_take (i := 22) rfl (by kernel_rfl) (gd_on rfl rfl rfl hb36) (d_eql rfl rfl ?_)
                    refine ta_take (i := 23) rfl (by kernel_rfl) (gd_on rfl rfl rfl hb36) (d_move rfl ?_)
                    refine ta_off (i := 24) rfl (by kernel_rfl) (gd_off rfl rfl rfl hb38) ?_
                    refine ta_off (i := 25) rfl (by kernel_rfl) (gd_off rfl rfl rfl hb38) ?_
                    refine ta_off (i := 26) rfl (by kernel_rfl) (gd_off rfl rfl rfl hb38) ?_
                    refine ta_take (i := 27) rfl (by kernel_rfl) (gd_on rfl rfl rfl hb36) (d_pick_false rfl hb38 rfl ?_)
                    refine ta_take (i := 28) rfl (by kernel_rfl) gd_none (d_pick_false rfl hb36 rfl ?_)
                    refine ta_take (i := 29) rfl (by kernel_rfl) gd_none (d_move rfl ?_)
                    refine ta_take (i := 30) rfl (by kernel_rfl) (gd_on rfl rfl rfl rfl) (d_move rfl ?_)
                    refine ta_take (i := 31) rfl (by kernel_rfl) (gd_on rfl rfl rfl rfl) (d_gtr rfl rfl ?_)
                    refine ta_take (i := 32) rfl (by kernel_rfl) (gd_on rfl rfl rfl rfl) (d_move rfl ?_)
                    refine ta_off (i := 33) rfl (by kernel_rfl) (gd_off rfl rfl rfl hb51) ?_
                    refine ta_off (i := 34) rfl (by kernel_rfl) (gd_off rfl rfl rfl hb51) ?_
                    refine ta_off (i := 35) rfl (by kernel_rfl) (gd_off rfl rfl rfl hb51) ?_
                    refine ta_off (i := 36) rfl (by kernel_rfl) (gd_off rfl rfl rfl hb51) ?_
                    refine ta_off (i := 37) rfl (by kernel_rfl) (gd_off rfl rfl rfl hb51) ?_
                    refine ta_off (i := 38) rfl (by kernel_rfl) (gd_off rfl rfl rfl hb51) ?_
                    refine ta_off (i := 39) rfl (by kernel_rfl) (gd_off rfl rfl rfl hb51) ?_
                    refine ta_off (i := 40) rfl (by kernel_rfl) (gd_off rfl rfl rfl hb51) ?_
                    refine ta_off (i := 41) rfl (by kernel_rfl) (gd_off rfl rfl rfl hb51) ?_
                    refine ta_take (i := 42) rfl (by kernel_rfl) (gd_on rfl rfl rfl rfl) (d_pick_false rfl hb51 rfl ?_)
                    refine ta_take (i := 43) rfl (by kernel_rfl) gd_none (d_pick_false rfl rfl rfl ?_)
                    refine ta_done (by kernel_rfl) ?_
                    have hr := Option.some.inj hf; subst hr
                    exact q_cut false rfl ⟨rfl, ⟨rfl, ⟨rfl, trivial⟩⟩⟩ ⟨mem_at 4 rfl, trivial⟩ [] (Sel.nil) rfl
      rintro s61 rfl
      refine q_then_code ?_
      refine t_cond rfl (fun hb154 => ?_) (fun hb154 => ?_)
      · have hf := if_t hb154 hf
        refine t_seq ?_
        refine t_region ?_
        refine tl_d rfl (d_assign rfl ?_)
        refine tl_nil ?_
        refine q_then_code ?_
        refine t_ret ?_
        refine q_block_ret ?_
        refine q_then_ret ?_
        refine q_then_ret ?_
        have hr := Option.some.inj hf; try subst hr
        have hf := hout5
        refine q_block_ret ?_
        refine q_then_ret ?_
        have hr := Option.some.inj hf; subst hr
        refine q_ret (post := fun w w' m v => rBool.val w' m v false) hR _ (.inl rfl) (fun a w hs => ?_)
        exact ⟨_, run_results rfl (RvOk.cons (rv_tmp hs rfl) RvOk.nil), (hs.hv hv_bool)⟩
      · have hf := if_f hb154 hf
        refine t_skip ?_
        refine q_block_normal ?_
        refine q_then_code ?_
        refine t_region ?_
        refine tl_d rfl (d_move rfl ?_)
        refine tl_d rfl (d_add rfl rfl ?_)
        refine tl_d rfl (d_assign rfl ?_)
        refine tl_nil ?_
        exact q_round kq6 (IntKind.i64.wrap (s4 + (1 : Int))) (Nat.lt_succ_self kq6) (wrap_wrap _ _) hf ⟨rfl, ⟨rfl, trivial⟩⟩ ⟨mem_at 0 rfl, trivial⟩ [] (Sel.nil) rfl
    · have hf := if_f hb11 hf
      refine t_exit ?_
      refine q_then_exit ?_
      refine q_then_exit ?_
      have hr := Option.some.inj hf; try subst hr
      have hf := hout5
      try dsimp only at hf
      refine q_block_hit ?_
      refine q_then_code ?_
      refine t_seq ?_
      refine t_region ?_
      refine tl_d rfl (d_assign rfl ?_)
      refine tl_nil ?_
      refine q_then_code ?_
      refine t_ret ?_
      have hr := Option.some.inj hf; subst hr
      refine q_ret (post := fun w w' m v => rBool.val w' m v true) hR _ (.inl rfl) (fun a w hs => ?_)
      exact ⟨_, run_results rfl (RvOk.cons (rv_tmp hs rfl) RvOk.nil), (hs.hv hv_bool)⟩

def cofferref1_Count.l0 : Nat → Int → (List Int) → Option (Int × (List Int))
  | 0, _, _ => none
  | k + 1, s6, s7 => (if (decide ((128 : Int) ≤ s6)) = true then (need (fits 1 ((s7).length + ([(IntKind.u8.wrap (IntKind.u64.wrap ((s6.tmod (128 : Int)) + (128 : Int))))]).length)) ((cofferref1_Count.l0 k (IntKind.u64.wrap (s6.tdiv (128 : Int))) (s7 ++ [(IntKind.u8.wrap (IntKind.u64.wrap ((s6.tmod (128 : Int)) + (128 : Int))))])))) else (some ((s6, s7))))
def cofferref1_Count.f (k : Nat) (a0 : (List Int)) (a1 : Int) : Option ((List Int)) := (need (fits 1 ((([] : List Int)).length + (a0).length)) ((cofferref1_Count.l0 k a1 (([] : List Int) ++ a0)).bind fun o24 => (match o24 with | (s6, s7) => (need (fits 1 ((s7).length + ([(IntKind.u8.wrap s6)]).length)) ((some (s7 ++ [(IntKind.u8.wrap s6)])))))))
set_option maxRecDepth 100000 in
set_option maxHeartbeats 860000 in
theorem cofferref1_Count_ok (k : Nat) (a0 : (List Int)) (a1 : Int) (u0 : Value) (r : (List Int)) (hf : cofferref1_Count.f k a0 a1 = some r) : Cf.FnX true Try.prog 55 [u0, (.int .u64 a1)] (fun w m => (rSl 1 (rInt .u8)).val w m u0 a0 ∧ (rInt .u64).val w m (.int .u64 a1) a1) (fun w w' m v => OwnRes (rInt .u8) 1 w w' m v r) := by
  unfold cofferref1_Count.f at hf
  refine fn_of Try.func55 rfl (Nat.le_of_ble_eq_true rfl) [(rSl 1 (rInt .u8)).fact u0 a0, (rInt .u64).fact (.int .u64 a1) a1] (fun w m h f hf => ?_) ?_
  · simp at hf; rcases hf with rfl | rfl
    · exact h.1
    · exact h.2
  intro w0 m0 R hR
  refine t_int (mem_at 1 rfl) (fun _ hw1 => ?_)
  refine t_seq ?_
  refine t_region ?_
  refine tl_d rfl (d_assign rfl ?_)
  refine tl_nil ?_
  refine q_then_code ?_
  refine t_seq ?_
  obtain ⟨hn2, hf⟩ := need_some hf
  refine t_region ?_
  refine tl_g [] rfl (g_buildSlice (R := (rInt .u8)) (l := []) rfl Try.underlying32 ty5 ⟨rfl, by decide, by decide, by decide⟩ PartsOk.nil rfl (fun v4 => ?_))
  refine tl_d rfl (d_move rfl ?_)
  refine tl_g _ rfl (g_append_sl (l2 := a0) 0 rfl rfl rfl rfl (hv_fact (mem_at 0 rfl)) Try.underlying32 ⟨_, Try.underlying32, fun k h => by cases h⟩ ty5 hn2 (List.mem_singleton_self _) (fun v5 => ?_))
  refine tl_d rfl (d_assign rfl ?_)
  refine tl_nil ?_
  refine q_then_code ?_
  refine t_seq ?_
  refine t_block ?_
  obtain ⟨o24, ho25, hf⟩ := bind_some hf
  refine t_loop (X := Int × (List Int) × Value) (O := Int × (List Int)) (fun kl x => match x with | (s6, s7, z8) => cofferref1_Count.l0 kl s6 s7) o24 (fun x => match x with | (s6, s7, z8) => (([(1, .int .u64 s6), (5, z8)], [], [Own.buf z8 1 (rInt .u8) s7]) : Sym)) (fun x => match x with | (s6, s7, z8) => IntKind.u64.wrap s6 = s6) k (a1, (([] : List Int) ++ a0), v5) ho25 hw1 ⟨rfl, ⟨rfl, trivial⟩⟩ trivial [0] (Sel.cons rfl Sel.nil) rfl ?_
  clear ho25
  rintro k12 ⟨s6, s7, z8⟩ hw_s6 hk11
  have hout9 := hf; clear hf
  obtain ⟨kq10, rfl⟩ : ∃ q, k12 = q + 1 := by cases k12 with | zero => cases hk11 | succ q => exact ⟨q, rfl⟩
  have hf := hk11
  clear hk11; dsimp only [cofferref1_Count.l0] at hf
  refine t_seq ?_
  refine t_seq ?_
  refine t_region ?_
  refine tl_d rfl (d_move rfl ?_)
  refine tl_d rfl (d_geq rfl rfl ?_)
  refine tl_nil ?_
  refine q_then_code ?_
  refine t_cond rfl (fun hb13 => ?_) (fun hb13 => ?_)
  · have hf := if_t hb13 hf
    refine t_skip ?_
    refine q_then_code ?_
    refine t_block ?_
    refine t_seq ?_
    obtain ⟨hn15, hf⟩ := need_some hf
    refine t_region ?_
    refine tl_d rfl (d_move rfl ?_)
    refine tl_d rfl (d_move rfl ?_)
    refine tl_d rfl (d_rem rfl rfl (by decide) ?_)
    refine tl_d rfl (d_add rfl rfl ?_)
    refine tl_d rfl (d_conv Try.underlying91 Try.underlying5 rfl ?_)
    refine tl_g [] rfl (g_buildSlice (R := (rInt .u8)) (l := [(IntKind.u8.wrap (IntKind.u64.wrap ((s6.tmod (128 : Int)) + (128 : Int))))]) rfl Try.underlying32 ty5 ⟨rfl, by decide, by decide, by decide⟩ (PartsOk.cons rfl rfl (hv_int (wrap_wrap _ _)) PartsOk.nil) rfl (fun v17 => ?_))
    refine tl_g _ rfl (g_append_buf 0 1 rfl rfl rfl rfl rfl rfl Try.underlying32 ⟨_, Try.underlying32, fun k h => by cases h⟩ ty5 hn15 (List.mem_singleton_self _) (fun v18 => ?_))
    refine tl_d rfl (d_assign rfl ?_)
    refine tl_nil ?_
    refine q_then_code ?_
    refine t_region ?_
    refine tl_d rfl (d_move rfl ?_)
    refine tl_d rfl (d_quo rfl rfl (by decide) ?_)
    refine tl_d rfl (d_assign rfl ?_)
    refine tl_nil ?_
    refine q_block_normal ?_
    exact q_round kq10 ((IntKind.u64.wrap (s6.tdiv (128 : Int))), (s7 ++ [(IntKind.u8.wrap (IntKind.u64.wrap ((s6.tmod (128 : Int)) + (128 : Int))))]), v18) (Nat.lt_succ_self kq10) (wrap_wrap _ _) hf ⟨rfl, ⟨rfl, trivial⟩⟩ trivial [0] (Sel.cons rfl Sel.nil) rfl
  · have hf := if_f hb13 hf
    refine t_exit ?_
    refine q_then_exit ?_
    refine q_then_exit ?_
    have hr := Option.some.inj hf; try subst hr
    have hf := hout9
    try dsimp only at hf
    refine q_block_hit ?_
    refine q_then_code ?_
    refine t_seq ?_
    obtain ⟨hn20, hf⟩ := need_some hf
    refine t_region ?_
    refine tl_d rfl (d_move rfl ?_)
    refine tl_d rfl (d_move rfl ?_)
    refine tl_d rfl (d_conv Try.underlying91 Try.underlying5 rfl ?_)
    refine tl_g [] rfl (g_buildSlice (R := (rInt .u8)) (l := [(IntKind.u8.wrap s6)]) rfl Try.underlying32 ty5 ⟨rfl, by decide, by decide, by decide⟩ (PartsOk.cons rfl rfl (hv_int (wrap_wrap _ _)) PartsOk.nil) rfl (fun v22 => ?_))
    refine tl_g _ rfl (g_append_buf 0 1 rfl rfl rfl rfl rfl rfl Try.underlying32 ⟨_, Try.underlying32, fun k h => by cases h⟩ ty5 hn20 (List.mem_singleton_self _) (fun v23 => ?_))
    refine tl_d rfl (d_assign rfl ?_)
    refine tl_nil ?_
    refine q_then_code ?_
    refine t_ret ?_
    have hr := Option.some.inj hf; subst hr
    refine q_ret (post := fun w w' m v => OwnRes (rInt .u8) 1 w w' m v (s7 ++ [(IntKind.u8.wrap s6)])) hR _ (.inl rfl) (fun a w hs => ?_)
    exact ⟨_, run_results rfl (RvOk.cons (rv_tmp hs rfl) RvOk.nil), (hs.ownres (i := 0) rfl)⟩

def cofferref1_Text.f (k : Nat) (a0 : (List Int)) (a1 : (List Int)) : Option ((List Int) × Int) := (if (decide ((65536 : Int) < ((a1).length : Int))) = true then (some (([] : (List Int)), (2 : Int))) else ((cofferref1_Count.f k a0 ((a1).length : Int)).bind fun c5 => need (fits 1 ((c5).length + (a1).length)) ((some ((c5 ++ a1), (0 : Int))))))
set_option maxRecDepth 100000 in
set_option maxHeartbeats 540000 in
theorem cofferref1_Text_ok (k : Nat) (a0 : (List Int)) (a1 : (List Int)) (u0 u1 : Value) (r : (List Int) × Int) (hf : cofferref1_Text.f k a0 a1 = some r) : Cf.FnX true Try.prog 56 [u0, u1] (fun w m => (rSl 1 (rInt .u8)).val w m u0 a0 ∧ (rSl 1 (rInt .u8)).val w m u1 a1) (fun w w' m v => ∃ v0 v1, v = .tuple #[v0, v1] ∧ OwnRes (rInt .u8) 1 w w' m v0 r.1 ∧ ∀ m', (∀ b, b ∈ m' → b ∈ m ∨ bufBlk v0 = some b) → (rInt .i64).val w' m' v1 r.2) := by
  unfold cofferref1_Text.f at hf
  refine fn_of Try.func56 rfl (Nat.le_of_ble_eq_true rfl) [(rSl 1 (rInt .u8)).fact u0 a0, (rSl 1 (rInt .u8)).fact u1 a1] (fun w m h f hf => ?_) ?_
  · simp at hf; rcases hf with rfl | rfl
    · exact h.1
    · exact h.2
  intro w0 m0 R hR
  refine t_seq ?_
  refine t_region ?_
  refine tl_d rfl (d_assign rfl ?_)
  refine tl_d rfl (d_assign rfl ?_)
  refine tl_nil ?_
  refine q_then_code ?_
  refine t_seq ?_
  refine t_seq ?_
  refine t_region ?_
  refine tl_d rfl (d_move rfl ?_)
  refine tl_d rfl (d_len_sl rfl (mem_at 1 rfl) Try.underlying32 (fun hl2 _ => ?_))
  refine tl_d rfl (d_gtr rfl rfl ?_)
  refine tl_nil ?_
  refine q_then_code ?_
  refine t_cond rfl (fun hb3 => ?_) (fun hb3 => ?_)
  · have hf := if_t hb3 hf
    refine t_seq ?_
    refine t_region ?_
    refine tl_d rfl (d_assign rfl ?_)
    refine tl_d rfl (d_assign rfl ?_)
    refine tl_nil ?_
    refine q_then_code ?_
    refine t_ret ?_
    refine q_then_ret ?_
    have hr := Option.some.inj hf; subst hr
    refine q_ret (post := fun w w' m v => ∃ v0 v1, v = .tuple #[v0, v1] ∧ OwnRes (rInt .u8) 1 w w' m v0 ([] : (List Int)) ∧ ∀ m', (∀ b, b ∈ m' → b ∈ m ∨ bufBlk v0 = some b) → (rInt .i64).val w' m' v1 (2 : Int)) hR _ (.inl rfl) (fun a w hs => ?_)
    exact ⟨_, run_results rfl (RvOk.cons (rv_tmp hs rfl) (RvOk.cons (rv_tmp hs rfl) RvOk.nil)), _, _, rfl, ownres_nil, fun m' hm' => ⟨[_], ⟨rfl, rfl⟩, rfl⟩⟩
  · have hf := if_f hb3 hf
    refine t_skip ?_
    refine q_then_code ?_
    refine t_seq ?_
    obtain ⟨c5, hc6, hf⟩ := bind_some hf
    obtain ⟨hn9, hf⟩ := need_some hf
    refine t_region ?_
    refine tl_d rfl (d_move rfl ?_)
    refine tl_d rfl (d_move rfl ?_)
    refine tl_d rfl (d_len_sl rfl (mem_at 1 rfl) Try.underlying32 (fun hl11 _ => ?_))
    refine tl_d rfl (d_conv_id Try.underlying3 Try.underlying91 rfl (wrap_lenu hl11) ?_)
    refine tl_g [] rfl (g_callo rfl hfn55 (cofferref1_Count_ok _ _ _ _ _ hc6) (Evs.cons rfl (Evs.cons rfl Evs.nil)) (fun a w hs => ⟨(hv_fact (mem_at 0 rfl)) _ _ _ _ hs, (hv_int (wrap_lenu hl11)) _ _ _ _ hs⟩) (fun v12 => ?_))
    refine tl_d rfl (d_move rfl ?_)
    refine tl_g _ rfl (g_append_sl (l2 := a1) 0 rfl rfl rfl rfl (hv_fact (mem_at 1 rfl)) Try.underlying32 ⟨_, Try.underlying32, fun k h => by cases h⟩ ty5 hn9 (List.mem_singleton_self _) (fun v14 => ?_))
    refine tl_d rfl (d_assign rfl ?_)
    refine tl_d rfl (d_assign rfl ?_)
    refine tl_nil ?_
    refine q_then_code ?_
    refine t_ret ?_
    have hr := Option.some.inj hf; subst hr
    refine q_ret (post := fun w w' m v => ∃ v0 v1, v = .tuple #[v0, v1] ∧ OwnRes (rInt .u8) 1 w w' m v0 (c5 ++ a1) ∧ ∀ m', (∀ b, b ∈ m' → b ∈ m ∨ bufBlk v0 = some b) → (rInt .i64).val w' m' v1 (0 : Int)) hR _ (.inl rfl) (fun a w hs => ?_)
    exact ⟨_, run_results rfl (RvOk.cons (rv_tmp hs rfl) (RvOk.cons (rv_tmp hs rfl) RvOk.nil)), _, _, rfl, (hs.ownres (i := 0) rfl), fun m' hm' => ⟨[_], ⟨rfl, rfl⟩, rfl⟩⟩

def cofferref15_Bytes.l0 (a0 : (List Api_Item)) : Nat → (List Int) → Int → Option ((List Int))
  | 0, _, _ => none
  | k + 1, s22, s24 => (if (decide (s24 < ((a0).length : Int))) = true then (need (0 ≤ s24 ∧ s24 < ((a0).length : Int)) ((need (fits 1 ((s22).length + ([(IntKind.u8.wrap ((((a0).getD (s24).toNat rApi_Item.zeroD)).Kind))]).length)) ((cofferref1_Text.f k (s22 ++ [(IntKind.u8.wrap ((((a0).getD (s24).toNat rApi_Item.zeroD)).Kind))]) ((((a0).getD (s24).toNat rApi_Item.zeroD)).Name)).bind fun c51 => (need (fits 1 ((c51.1).length + ((sub ((((a0).getD (s24).toNat rApi_Item.zeroD)).Of) (0 : Int) (32 : Int))).length)) ((cofferref1_Count.f k (c51.1 ++ (sub ((((a0).getD (s24).toNat rApi_Item.zeroD)).Of) (0 : Int) (32 : Int))) (IntKind.u64.wrap (((a0).getD (s24).toNat rApi_Item.zeroD)).Size)).bind fun c101 => (cofferref15_Bytes.l0 a0 k c101 (IntKind.i64.wrap (s24 + (1 : Int)))))))))) else (some (s22)))
def cofferref15_Bytes.f (k : Nat) (a0 : (List Api_Item)) : Option ((List Int) × Int) := ((cofferref15_May.f k a0).bind fun c1 => (if (!c1) = true then (some (([] : (List Int)), (1 : Int))) else ((cofferref1_Count.f k [(68 : Int), (49 : Int)] ((a0).length : Int)).bind fun c13 => (cofferref15_Bytes.l0 a0 k c13 (0 : Int)).bind fun o118 => (match o118 with | s22 => (if (decide ((4000 : Int) < ((s22).length : Int))) = true then (some (([] : (List Int)), (2 : Int))) else (some (s22, (0 : Int))))))))
set_option maxRecDepth 100000 in
set_option maxHeartbeats 2060000 in
theorem cofferref15_Bytes_ok (k : Nat) (a0 : (List Api_Item)) (u0 : Value) (r : (List Int) × Int) (hf : cofferref15_Bytes.f k a0 = some r) : Cf.FnX true Try.prog 37 [u0] (fun w m => (rSl 64 rApi_Item).val w m u0 a0) (fun w w' m v => ∃ v0 v1, v = .tuple #[v0, v1] ∧ OwnRes (rInt .u8) 1 w w' m v0 r.1 ∧ ∀ m', (∀ b, b ∈ m' → b ∈ m ∨ bufBlk v0 = some b) → (rInt .i64).val w' m' v1 r.2) := by
  unfold cofferref15_Bytes.f at hf
  refine fn_of Try.func37 rfl (Nat.le_of_ble_eq_true rfl) [(rSl 64 rApi_Item).fact u0 a0] (fun w m h f hf => ?_) ?_
  · simp at hf; obtain rfl := hf; exact h
  intro w0 m0 R hR
  refine t_seq ?_
  refine t_region ?_
  refine tl_d rfl (d_assign rfl ?_)
  refine tl_d rfl (d_assign rfl ?_)
  refine tl_nil ?_
  refine q_then_code ?_
  refine t_seq ?_
  refine t_seq ?_
  obtain ⟨c1, hc2, hf⟩ := bind_some hf
  refine t_region ?_
  refine tl_d rfl (d_move rfl ?_)
  refine tl_g [] rfl (g_call1 rfl hfn54 (cofferref15_May_ok _ _ _ _ hc2) (Evs.cons rfl Evs.nil) (fun a w hs => (hv_fact (mem_at 0 rfl)) _ _ _ _ hs) (fun v6 => ?_))
  refine tl_bool (mem_at 0 rfl) (fun hv8 => ?_)
  subst hv8
  refine tl_d rfl (d_not rfl ?_)
  refine tl_nil ?_
  refine q_then_code ?_
  refine t_cond rfl (fun hb9 => ?_) (fun hb9 => ?_)
  · have hf := if_t hb9 hf
    refine t_seq ?_
    refine t_region ?_
    refine tl_d rfl (d_assign rfl ?_)
    refine tl_d rfl (d_assign rfl ?_)
    refine tl_nil ?_
    refine q_then_code ?_
    refine t_ret ?_
    refine q_then_ret ?_
    have hr := Option.some.inj hf; subst hr
    refine q_ret (post := fun w w' m v => ∃ v0 v1, v = .tuple #[v0, v1] ∧ OwnRes (rInt .u8) 1 w w' m v0 ([] : (List Int)) ∧ ∀ m', (∀ b, b ∈ m' → b ∈ m ∨ bufBlk v0 = some b) → (rInt .i64).val w' m' v1 (1 : Int)) hR _ (.inl rfl) (fun a w hs => ?_)
    exact ⟨_, run_results rfl (RvOk.cons (rv_tmp hs rfl) (RvOk.cons (rv_tmp hs rfl) RvOk.nil)), _, _, rfl, ownres_nil, fun m' hm' => ⟨[_], ⟨rfl, rfl⟩, rfl⟩⟩
  · have hf := if_f hb9 hf
    refine t_skip ?_
    refine q_then_code ?_
    refine t_seq ?_
    obtain ⟨c13, hc14, hf⟩ := bind_some hf
    refine t_region ?_
    refine tl_g [] rfl (g_buildSlice (R := (rInt .u8)) (l := [(68 : Int), (49 : Int)]) rfl Try.underlying32 ty5 ⟨rfl, by decide, by decide, by decide⟩ (PartsOk.cons rfl rfl (hv_int rfl) (PartsOk.cons rfl rfl (hv_int rfl) PartsOk.nil)) rfl (fun v17 => ?_))
    refine tl_g _ rfl (g_mark 0 rfl rfl rfl (by simp) Try.underlying32 Try.underlying5 (List.mem_singleton_self _) ?_)
    refine tl_d rfl (d_move rfl ?_)
    refine tl_d rfl (d_len_sl rfl (mem_at 2 rfl) Try.underlying52 (fun hl19 _ => ?_))
    refine tl_d rfl (d_conv_id Try.underlying3 Try.underlying91 rfl (wrap_lenu hl19) ?_)
    refine tl_g [] rfl (g_callo rfl hfn55 (cofferref1_Count_ok _ _ _ _ _ hc14) (Evs.cons rfl (Evs.cons rfl Evs.nil)) (fun a w hs => ⟨(hv_fact (mem_at 0 rfl)) _ _ _ _ hs, (hv_int (wrap_lenu hl19)) _ _ _ _ hs⟩) (fun v20 => ?_))
    refine tl_d rfl (d_assign rfl ?_)
    refine tl_nil ?_
    refine q_then_code ?_
    refine t_seq ?_
    refine t_seq ?_
    refine t_region ?_
    refine tl_d rfl (d_assign rfl ?_)
    refine tl_nil ?_
    refine q_then_code ?_
    refine t_block ?_
    obtain ⟨o118, ho119, hf⟩ := bind_some hf
    refine t_loop (X := (List Int) × Int × Value) (O := (List Int)) (fun kl x => match x with | (s22, s24, z23) => cofferref15_Bytes.l0 a0 kl s22 s24) o118 (fun x => match x with | (s22, s24, z23) => (([(0, u0), (4, z23), (5, .int .i64 s24)], [(rSl 64 rApi_Item).fact u0 a0], [Own.buf z23 1 (rInt .u8) s22]) : Sym)) (fun x => match x with | (s22, s24, z23) => IntKind.i64.wrap s24 = s24) k (c13, (0 : Int), v20) ho119 rfl ⟨rfl, ⟨rfl, ⟨rfl, trivial⟩⟩⟩ ⟨mem_at 2 rfl, trivial⟩ [1] (Sel.cons rfl Sel.nil) rfl ?_
    clear ho119
    rintro k28 ⟨s22, s24, z23⟩ hw_s24 hk27
    have hout25 := hf; clear hf
    obtain ⟨kq26, rfl⟩ : ∃ q, k28 = q + 1 := by cases k28 with | zero => cases hk27 | succ q => exact ⟨q, rfl⟩
    have hf := hk27
    clear hk27; dsimp only [cofferref15_Bytes.l0] at hf
    refine t_seq ?_
    refine t_seq ?_
    refine t_region ?_
    refine tl_d rfl (d_move rfl ?_)
    refine tl_d rfl (d_move rfl ?_)
    refine tl_d rfl (d_len_sl rfl (mem_at 0 rfl) Try.underlying52 (fun hl30 _ => ?_))
    refine tl_d rfl (d_lss rfl rfl ?_)
    refine tl_nil ?_
    refine q_then_code ?_
    refine t_cond rfl (fun hb31 => ?_) (fun hb31 => ?_)
    · have hf := if_t hb31 hf
      refine t_skip ?_
      refine q_then_code ?_
      refine t_seq ?_
      refine t_block ?_
      refine t_seq ?_
      obtain ⟨hn32, hf⟩ := need_some hf
      refine t_region ?_
      refine tl_d rfl (d_move rfl ?_)
      refine tl_d rfl (d_move rfl ?_)
      refine tl_d rfl (d_index_sl rfl (mem_at 0 rfl) rfl Try.underlying52 ty54 hn32 (fun p38 => ?_))
      refine tl_d rfl (d_load_place rfl (mem_at 0 rfl) ty54 (fun v40 => ?_))
      refine tl_g [] rfl (g_alloc rfl ty54 (fun b42 => ?_))
      refine tl_g _ rfl (g_store_box 1 rfl rfl rfl (Fld.self rApi_Item) trivial (hv_fact (mem_at 0 rfl)) ty54 (List.mem_singleton_self _) ?_)
      refine tl_nil ?_
      refine q_then_code ?_
      refine t_seq ?_
      obtain ⟨hn45, hf⟩ := need_some hf
      obtain ⟨c51, hc52, hf⟩ := bind_some hf
      refine t_cut (X := Value) (fun x => match x with | z59 => (([(0, u0), (4, z59), (5, (.int .i64 s24)), (6, (.pointer (some ⟨b42, 0, none⟩)))], [(rSl 64 rApi_Item).fact u0 a0], [Own.buf z59 1 (rInt .u8) c51.1, Own.box b42 rApi_Item ((a0).getD (s24).toNat rApi_Item.zeroD)]) : Sym)) (fun _ => True) ?_ ?_
      · refine t_any (n := 14) [0, 2, 3, 4, 5, 6, 7, 8, 9, 10, 11, 12, 13] mixed ⟨by kernel_rfl, .inl rfl⟩ (np_cut (np_then (np_block (np_then (np_then (np_block (np_then np_body))))))) ?_
        refine ta_take (i := 0) rfl (by kernel_rfl) gd_none (d_move rfl ?_)
        refine ta_take (i := 1) rfl (by kernel_rfl) gd_none (d_field_own rfl fo54_1 ?_)
        refine ta_take (i := 2) rfl (by kernel_rfl) gd_none (d_load_box_int 1 rfl rfl (Fld.at0 fl_Api_Item_Kind) trivial ty3 rfl (fun hw60 => ?_))
        refine ta_take (i := 3) rfl (by kernel_rfl) gd_none (d_conv Try.underlying3 Try.underlying5 rfl ?_)
        refine ta_take (i := 6) rfl (by kernel_rfl) gd_none (d_field_own rfl fo54_0 ?_)
        refine ta_take (i := 7) rfl (by kernel_rfl) gd_none (d_load_box 1 rfl rfl (Fld.at0 fl_Api_Item_Name) trivial ty9 rfl (fun v61 => ?_))
        refine ta_two (i := 4) (j := 8) (by kernel_rfl) rfl rfl rfl gd_none gd_none ?_ ?_
        · refine g_buildSlice (R := (rInt .u8)) (l := [(IntKind.u8.wrap ((((a0).getD (s24).toNat rApi_Item.zeroD)).Kind))]) rfl Try.underlying32 ty5 ⟨rfl, by decide, by decide, by decide⟩ (PartsOk.cons rfl rfl (hv_int (wrap_wrap _ _)) PartsOk.nil) rfl (fun v63 => ?_)
          refine ta_two (i := 5) (j := 8) (by kernel_rfl) rfl rfl rfl gd_none gd_none ?_ ?_
          · refine g_append_buf 0 2 rfl rfl rfl rfl rfl rfl Try.underlying32 ⟨_, Try.underlying32, fun k h => by cases h⟩ ty5 hn45 (by decide) (fun v64 => ?_)
            refine ta_one (i := 8) (by kernel_rfl) rfl rfl gd_none (g_str_bytes rfl rfl (hv_fact (mem_at 0 rfl)) Try.underlying9 Try.underlying32 Try.underlying5 rfl (fun v65 => ?_))
            refine ta_one (i := 9) (by kernel_rfl) rfl rfl gd_none (g_callo2 rfl hfn56 (FnX.flat (fun _ _ _ _ _ ⟨v0, v1, e, h0, h1⟩ => ⟨v0, v1, e, Flat.own Flat.int h0, fun m' hm' => Flat.val Flat.int (h1 [] (by intro b hb; cases hb))⟩) (cofferref1_Text_ok _ _ _ _ _ _ hc52)) (Evs.cons rfl (Evs.cons rfl Evs.nil)) (fun a w hs => bor_one hs 0 rfl (fun hs1 => bor_end hs1 ⟨(hv_fact (mem_at 0 rfl)) _ _ _ _ hs1, (hv_fact (mem_at 1 rfl)) _ _ _ _ hs1⟩)) (fun v67 v68 => ?_))
            refine ta_int (mem_at 0 rfl) (fun hv72 hw71 => ?_)
            subst hv72
            refine ta_take (i := 10) rfl (by kernel_rfl) gd_none (d_move rfl ?_)
            refine ta_take (i := 11) rfl (by kernel_rfl) gd_none (d_extract rfl rfl ?_)
            refine ta_take (i := 12) rfl (by kernel_rfl) gd_none (d_extract rfl rfl ?_)
            refine ta_take (i := 13) rfl (by kernel_rfl) gd_none (d_assign rfl ?_)
            refine ta_done (by kernel_rfl) ?_
            exact q_cut v67 trivial ⟨rfl, ⟨rfl, ⟨rfl, ⟨rfl, trivial⟩⟩⟩⟩ ⟨mem_at 5 rfl, trivial⟩ [3, 1] (Sel.cons rfl (Sel.cons rfl Sel.nil)) rfl
          · refine g_str_bytes rfl rfl (hv_fact (mem_at 0 rfl)) Try.underlying9 Try.underlying32 Try.underlying5 rfl (fun v73 => ?_)
            refine ta_one (i := 5) (by kernel_rfl) rfl rfl gd_none (g_append_buf 0 2 rfl rfl rfl rfl rfl rfl Try.underlying32 ⟨_, Try.underlying32, fun k h => by cases h⟩ ty5 hn45 (by decide) (fun v75 => ?_))
            refine ta_one (i := 9) (by kernel_rfl) rfl rfl gd_none (g_callo2 rfl hfn56 (FnX.flat (fun _ _ _ _ _ ⟨v0, v1, e, h0, h1⟩ => ⟨v0, v1, e, Flat.own Flat.int h0, fun m' hm' => Flat.val Flat.int (h1 [] (by intro b hb; cases hb))⟩) (cofferref1_Text_ok _ _ _ _ _ _ hc52)) (Evs.cons rfl (Evs.cons rfl Evs.nil)) (fun a w hs => bor_one hs 0 rfl (fun hs1 => bor_end hs1 ⟨(hv_fact (mem_at 0 rfl)) _ _ _ _ hs1, (hv_fact (mem_at 1 rfl)) _ _ _ _ hs1⟩)) (fun v76 v77 => ?_))
            refine ta_int (mem_at 0 rfl) (fun hv81 hw80 => ?_)
            subst hv81
            refine ta_take (i := 10) rfl (by kernel_rfl) gd_none (d_move rfl ?_)
            refine ta_take (i := 11) rfl (by kernel_rfl) gd_none (d_extract rfl rfl ?_)
            refine ta_take (i := 12) rfl (by kernel_rfl) gd_none (d_extract rfl rfl ?_)
            refine ta_take (i := 13) rfl (by kernel_rfl) gd_none (d_assign rfl ?_)
            refine ta_done (by kernel_rfl) ?_
            exact q_cut v76 trivial ⟨rfl, ⟨rfl, ⟨rfl, ⟨rfl, trivial⟩⟩⟩⟩ ⟨mem_at 5 rfl, trivial⟩ [3, 1] (Sel.cons rfl (Sel.cons rfl Sel.nil)) rfl
        · refine g_str_bytes rfl rfl (hv_fact (mem_at 0 rfl)) Try.underlying9 Try.underlying32 Try.underlying5 rfl (fun v82 => ?_)
          refine ta_one (i := 4) (by kernel_rfl) rfl rfl gd_none (g_buildSlice (R := (rInt .u8)) (l := [(IntKind.u8.wrap ((((a0).getD (s24).toNat rApi_Item.zeroD)).Kind))]) rfl Try.underlying32 ty5 ⟨rfl, by decide, by decide, by decide⟩ (PartsOk.cons rfl rfl (hv_int (wrap_wrap _ _)) PartsOk.nil) rfl (fun v84 => ?_))
          refine ta_one (i := 5) (by kernel_rfl) rfl rfl gd_none (g_append_buf 0 2 rfl rfl rfl rfl rfl rfl Try.underlying32 ⟨_, Try.underlying32, fun k h => by cases h⟩ ty5 hn45 (by decide) (fun v85 => ?_))
          refine ta_one (i := 9) (by kernel_rfl) rfl rfl gd_none (g_callo2 rfl hfn56 (FnX.flat (fun _ _ _ _ _ ⟨v0, v1, e, h0, h1⟩ => ⟨v0, v1, e, Flat.own Flat.int h0, fun m' hm' => Flat.val Flat.int (h1 [] (by intro b hb; cases hb))⟩) (cofferref1_Text_ok _ _ _ _ _ _ hc52)) (Evs.cons rfl (Evs.cons rfl Evs.nil)) (fun a w hs => bor_one hs 0 rfl (fun hs1 => bor_end hs1 ⟨(hv_fact (mem_at 0 rfl)) _ _ _ _ hs1, (hv_fact (mem_at 1 rfl)) _ _ _ _ hs1⟩)) (fun v86 v87 => ?_))
          refine ta_int (mem_at 0 rfl) (fun hv91 hw90 => ?_)
          subst hv91
          refine ta_take (i := 10) rfl (by kernel_rfl) gd_none (d_move rfl ?_)
          refine ta_take (i := 11) rfl (by kernel_rfl) gd_none (d_extract rfl rfl ?_)
          refine ta_take (i := 12) rfl (by kernel_rfl) gd_none (d_extract rfl rfl ?_)
          refine ta_take (i := 13) rfl (by kernel_rfl) gd_none (d_assign rfl ?_)
          refine ta_done (by kernel_rfl) ?_
          exact q_cut v86 trivial ⟨rfl, ⟨rfl, ⟨rfl, ⟨rfl, trivial⟩⟩⟩⟩ ⟨mem_at 5 rfl, trivial⟩ [3, 1] (Sel.cons rfl (Sel.cons rfl Sel.nil)) rfl
      rintro z59 _
      refine q_then_code ?_
      obtain ⟨hn96, hf⟩ := need_some hf
      obtain ⟨c101, hc102, hf⟩ := bind_some hf
      refine t_any (n := 9) [0, 2, 3, 4, 5, 6, 7, 8, 9, 10, 11, 12, 13] mixed ⟨by kernel_rfl, .inl rfl⟩ (np_block (np_then (np_then (np_block (np_then np_body))))) ?_
      refine ta_take (i := 0) rfl (by kernel_rfl) gd_none (d_move rfl ?_)
      refine ta_take (i := 1) rfl (by kernel_rfl) gd_none (d_field_own rfl fo54_2 ?_)
      refine ta_freezebox 1 rfl ?_
      refine ta_sub (mem_at 0 rfl) (Fld.at0 fl_Api_Item_Of) trivial ?_
      refine ta_take (i := 2) rfl (by kernel_rfl) gd_none (d_slice_place (i := (0 : Int)) (j := (32 : Int)) 1 rfl (mem_at 0 rfl) (.inl ⟨rfl, rfl⟩) (.inl ⟨rfl, rfl⟩) Try.underlying29 ty5 (by decide) (by decide) (fun v105 => ?_))
      refine ta_take (i := 4) rfl (by kernel_rfl) gd_none (d_field_place rfl (mem_at 2 rfl) fo54_3 fl_Api_Item_Size trivial (fun p109 => ?_))
      refine ta_take (i := 5) rfl (by kernel_rfl) gd_none (d_load_int rfl (mem_at 0 rfl) ty2 (fun hw111 => ?_))
      refine ta_take (i := 6) rfl (by kernel_rfl) gd_none (d_conv Try.underlying2 Try.underlying91 rfl ?_)
      refine ta_one (i := 3) (by kernel_rfl) rfl rfl gd_none (g_append_sl (l2 := (sub ((((a0).getD (s24).toNat rApi_Item.zeroD)).Of) (0 : Int) (32 : Int))) 0 rfl rfl rfl rfl (hv_fact (mem_at 1 rfl)) Try.underlying32 ⟨_, Try.underlying32, fun k h => by cases h⟩ ty5 hn96 (by decide) (fun v112 => ?_))
      refine ta_one (i := 7) (by kernel_rfl) rfl rfl gd_none (g_callo rfl hfn55 (FnX.flat (fun _ _ _ _ _ h => Flat.own Flat.int h) (cofferref1_Count_ok _ _ _ _ _ hc102)) (Evs.cons rfl (Evs.cons rfl Evs.nil)) (fun a w hs => bor_one hs 0 rfl (fun hs1 => bor_end hs1 ⟨(hv_fact (mem_at 0 rfl)) _ _ _ _ hs1, (hv_int (wrap_wrap _ _)) _ _ _ _ hs1⟩)) (fun v113 => ?_))
      refine ta_take (i := 8) rfl (by kernel_rfl) gd_none (d_assign rfl ?_)
      refine ta_done (by kernel_rfl) ?_
      refine q_block_normal ?_
      refine q_then_code ?_
      refine t_region ?_
      refine tl_d rfl (d_move rfl ?_)
      refine tl_d rfl (d_add rfl rfl ?_)
      refine tl_d rfl (d_assign rfl ?_)
      refine tl_nil ?_
      exact q_round kq26 (c101, (IntKind.i64.wrap (s24 + (1 : Int))), v113) (Nat.lt_succ_self kq26) (wrap_wrap _ _) hf ⟨rfl, ⟨rfl, ⟨rfl, trivial⟩⟩⟩ ⟨mem_at 4 rfl, trivial⟩ [2] (Sel.cons rfl Sel.nil) rfl
    · have hf := if_f hb31 hf
      refine t_exit ?_
      refine q_then_exit ?_
      refine q_then_exit ?_
      have hr := Option.some.inj hf; try subst hr
      have hf := hout25
      try dsimp only at hf
      refine q_block_hit ?_
      refine q_then_code ?_
      refine t_seq ?_
      refine t_seq ?_
      refine t_region ?_
      refine tl_d rfl (d_move rfl ?_)
      refine tl_d rfl (d_len_buf 0 rfl rfl Try.underlying32 (fun hl116 _ => ?_))
      refine tl_d rfl (d_gtr rfl rfl ?_)
      refine tl_nil ?_
      refine q_then_code ?_
      refine t_cond rfl (fun hb117 => ?_) (fun hb117 => ?_)
      · have hf := if_t hb117 hf
        refine t_seq ?_
        refine t_region ?_
        refine tl_d rfl (d_assign rfl ?_)
        refine tl_d rfl (d_assign rfl ?_)
        refine tl_nil ?_
        refine q_then_code ?_
        refine t_ret ?_
        refine q_then_ret ?_
        have hr := Option.some.inj hf; subst hr
        refine q_ret (post := fun w w' m v => ∃ v0 v1, v = .tuple #[v0, v1] ∧ OwnRes (rInt .u8) 1 w w' m v0 ([] : (List Int)) ∧ ∀ m', (∀ b, b ∈ m' → b ∈ m ∨ bufBlk v0 = some b) → (rInt .i64).val w' m' v1 (2 : Int)) hR _ (.inl rfl) (fun a w hs => ?_)
        exact ⟨_, run_results rfl (RvOk.cons (rv_tmp hs rfl) (RvOk.cons (rv_tmp hs rfl) RvOk.nil)), _, _, rfl, ownres_nil, fun m' hm' => ⟨[_], ⟨rfl, rfl⟩, rfl⟩⟩
      · have hf := if_f hb117 hf
        refine t_skip ?_
        refine q_then_code ?_
        refine t_seq ?_
        refine t_region ?_
        refine tl_d rfl (d_move rfl ?_)
        refine tl_d rfl (d_assign rfl ?_)
        refine tl_d rfl (d_assign rfl ?_)
        refine tl_nil ?_
        refine q_then_code ?_
        refine t_ret ?_
        have hr := Option.some.inj hf; subst hr
        refine q_ret (post := fun w w' m v => ∃ v0 v1, v = .tuple #[v0, v1] ∧ OwnRes (rInt .u8) 1 w w' m v0 s22 ∧ ∀ m', (∀ b, b ∈ m' → b ∈ m ∨ bufBlk v0 = some b) → (rInt .i64).val w' m' v1 (0 : Int)) hR _ (.inl rfl) (fun a w hs => ?_)
        exact ⟨_, run_results rfl (RvOk.cons (rv_tmp hs rfl) (RvOk.cons (rv_tmp hs rfl) RvOk.nil)), _, _, rfl, (hs.ownres (i := 0) rfl), fun m' hm' => ⟨[_], ⟨rfl, rfl⟩, rfl⟩⟩

def cofferlaw17_Folder.f (k : Nat) (a0 : (List Api_Item)) : Option (Api_Object) := ((cofferref15_Bytes.f k a0).bind fun c3 => ((cofferlaw17_Of.f k c3.1).bind fun c18 => (some c18)))
set_option maxRecDepth 100000 in
set_option maxHeartbeats 400000 in
theorem cofferlaw17_Folder_ok (k : Nat) (a0 : (List Api_Item)) (u0 : Value) (r : Api_Object) (hf : cofferlaw17_Folder.f k a0 = some r) : Cf.FnX true Try.prog 25 [u0] (fun w m => (rSl 64 rApi_Item).val w m u0 a0) (fun w w' m v => rApi_Object.val w' m v r) := by
  unfold cofferlaw17_Folder.f at hf
  refine fn_of Try.func25 rfl (Nat.le_of_ble_eq_true rfl) [(rSl 64 rApi_Item).fact u0 a0] (fun w m h f hf => ?_) ?_
  · simp at hf; obtain rfl := hf; exact h
  intro w0 m0 R hR
  refine t_seq ?_
  refine t_region ?_
  refine tl_g [] rfl (g_alloc rfl ty34 (fun b2 => ?_))
  refine tl_nil ?_
  refine q_then_code ?_
  refine t_seq ?_
  obtain ⟨c3, hc4, hf⟩ := bind_some hf
  refine t_region ?_
  refine tl_d rfl (d_move rfl ?_)
  refine tl_g [] rfl (g_callo2 rfl hfn37 (cofferref15_Bytes_ok _ _ _ _ hc4) (Evs.cons rfl Evs.nil) (fun a w hs => (hv_fact (mem_at 0 rfl)) _ _ _ _ hs) (fun v11 v12 => ?_))
  refine tl_int (mem_at 0 rfl) (fun hv16 hw15 => ?_)
  subst hv16
  refine tl_d rfl (d_move rfl ?_)
  refine tl_d rfl (d_extract rfl rfl ?_)
  refine tl_d rfl (d_extract rfl rfl ?_)
  refine tl_d rfl (d_assign rfl ?_)
  refine tl_d rfl (d_assign rfl ?_)
  refine tl_nil ?_
  refine q_then_code ?_
  refine t_seq ?_
  obtain ⟨c18, hc19, hf⟩ := bind_some hf
  refine t_region ?_
  refine tl_d rfl (d_move rfl ?_)
  refine tl_freeze 1 rfl ?_
  refine tl_g [] rfl (g_call1 rfl hfn24 (cofferlaw17_Of_ok _ _ _ _ hc19) (Evs.cons rfl Evs.nil) (fun a w hs => (hv_fact (mem_at 0 rfl)) _ _ _ _ hs) (fun v23 => ?_))
  refine tl_g _ rfl (g_store_box 0 rfl rfl rfl (Fld.self rApi_Object) trivial (hv_fact (mem_at 0 rfl)) ty34 (List.mem_singleton_self _) ?_)
  refine tl_nil ?_
  refine q_then_code ?_
  refine t_ret ?_
  have hr := Option.some.inj hf; subst hr
  refine q_ret (post := fun w w' m v => rApi_Object.val w' m v c18) hR _ (.inl rfl) (fun a w hs => ?_)
  obtain ⟨x0, hx0, hy0⟩ := rv_cell (t := 2) (ty := 34) hs 0 rfl rfl ty34
  exact ⟨_, run_results rfl (RvOk.cons hx0 RvOk.nil), hy0⟩

def cofferlaw17_begun.f (k : Nat) : Option (Bool) := ((cofferlaw17_Of.f k [(7 : Int)]).bind fun c3 => ((cofferlaw17_Folder.f k [(⟨[97], (1 : Int), ((c3).Of), (1 : Int)⟩ : Api_Item)]).bind fun c19 => ((walk_Close.f k [c3, c19] ((c19).Of)).bind fun c40 => ((walk_Files.f k [c3, c19] ((c19).Of)).bind fun c69 => ((walk_Close.f k [c19] ((c19).Of)).bind fun c96 => ((if (decide (c40.2 = (0 : Int))) = true then (if (decide (c69.2 = (0 : Int))) = true then (if (decide (c96.2 = (15 : Int))) = true then (if (decide (((c40.1).length : Int) = (2 : Int))) = true then (if (decide (((c69.1).length : Int) = (1 : Int))) = true then (need (0 ≤ (0 : Int) ∧ (0 : Int) < ((c69.1).length : Int)) ((if (decide (((((c69.1).getD ((0 : Int)).toNat rApi_File.zeroD)).Path) = [97])) = true then (need (0 ≤ (0 : Int) ∧ (0 : Int) < ((c69.1).length : Int)) ((some (decide (((((c69.1).getD ((0 : Int)).toNat rApi_File.zeroD)).Data) = [7]))))) else (some false)))) else (some false)) else (some false)) else (some false)) else (some false)) else (some false))).bind fun s141 => (some s141))))))
set_option maxRecDepth 100000 in
set_option maxHeartbeats 4040000 in
theorem cofferlaw17_begun_ok (k : Nat) (r : Bool) (hf : cofferlaw17_begun.f k  = some r) : Cf.FnX false Try.prog 17 [] (fun w m => True) (fun w w' m v => rBool.val w' m v r) := by
  unfold cofferlaw17_begun.f at hf
  refine fn_of Try.func17 rfl (Nat.le_of_ble_eq_true rfl) [] (fun w m h f hf => ?_) ?_
  · cases hf
  intro w0 m0 R hR
  refine t_seq ?_
  refine t_region ?_
  refine tl_d rfl (d_assign rfl ?_)
  refine tl_nil ?_
  refine q_then_code ?_
  refine t_seq ?_
  obtain ⟨c3, hc4, hf⟩ := bind_some hf
  refine t_region ?_
  refine tl_g [] rfl (g_buildSlice (R := (rInt .u8)) (l := [(7 : Int)]) rfl Try.underlying32 ty5 ⟨rfl, by decide, by decide, by decide⟩ (PartsOk.cons rfl rfl (hv_int rfl) PartsOk.nil) rfl (fun v8 => ?_))
  refine tl_freeze 0 rfl ?_
  refine tl_g [] rfl (g_call1 rfl hfn24 (cofferlaw17_Of_ok _ _ _ _ hc4).weak (Evs.cons rfl Evs.nil) (fun a w hs => (hv_fact (mem_at 0 rfl)) _ _ _ _ hs) (fun v10 => ?_))
  refine tl_g [] rfl (g_alloc rfl ty34 (fun b12 => ?_))
  refine tl_g _ rfl (g_store_box 1 rfl rfl rfl (Fld.self rApi_Object) trivial (hv_fact (mem_at 0 rfl)) ty34 (List.mem_singleton_self _) ?_)
  refine tl_nil ?_
  refine q_then_code ?_
  refine t_seq ?_
  obtain ⟨c19, hc20, hf⟩ := bind_some hf
  refine t_region ?_
  refine tl_d rfl (d_field_own rfl fo34_0 ?_)
  refine tl_d rfl (d_load_box 1 rfl rfl (Fld.at0 fl_Api_Object_Of) trivial ty29 rfl (fun v24 => ?_))
  refine tl_d rfl (d_build2 (y := (⟨[97], (1 : Int), ((c3).Of), (1 : Int)⟩ : Api_Item)) ty54 rfl pl54 (BuildOk.cons rfl fl_Api_Item_Name trivial rfl (hv_str rfl (by decide)) (BuildOk.cons rfl fl_Api_Item_Kind trivial rfl (hv_int rfl) (BuildOk.cons rfl fl_Api_Item_Of trivial rfl (hv_fact (mem_at 0 rfl)) (BuildOk.cons rfl fl_Api_Item_Size trivial rfl (hv_int rfl) BuildOk.nil)))) (fun v26 => ?_))
  refine tl_g [] rfl (g_buildSlice (R := rApi_Item) (l := [(⟨[97], (1 : Int), ((c3).Of), (1 : Int)⟩ : Api_Item)]) rfl Try.underlying52 ty54 ⟨rfl, by decide, by decide, by decide⟩ (PartsOk.cons rfl rfl (hv_fact (mem_at 0 rfl)) PartsOk.nil) rfl (fun v28 => ?_))
  refine tl_freeze 2 rfl ?_
  refine tl_g [] rfl (g_call1 rfl hfn25 (cofferlaw17_Folder_ok _ _ _ _ hc20).weak (Evs.cons rfl Evs.nil) (fun a w hs => (hv_fact (mem_at 0 rfl)) _ _ _ _ hs) (fun v30 => ?_))
  refine tl_g [] rfl (g_alloc rfl ty34 (fun b32 => ?_))
  refine tl_g _ rfl (g_store_box 3 rfl rfl rfl (Fld.self rApi_Object) trivial (hv_fact (mem_at 0 rfl)) ty34 (List.mem_singleton_self _) ?_)
  refine tl_nil ?_
  refine q_then_code ?_
  refine t_seq ?_
  obtain ⟨c40, hc41, hf⟩ := bind_some hf
  refine t_region ?_
  refine tl_d rfl (d_load_box 1 rfl rfl (Fld.self rApi_Object) trivial ty34 rfl (fun v48 => ?_))
  refine tl_d rfl (d_load_box 3 rfl rfl (Fld.self rApi_Object) trivial ty34 rfl (fun v50 => ?_))
  refine tl_g [] rfl (g_buildSlice (R := rApi_Object) (l := [c3, c19]) rfl Try.underlying22 ty34 ⟨rfl, by decide, by decide, by decide⟩ (PartsOk.cons rfl rfl (hv_fact (mem_at 1 rfl)) (PartsOk.cons rfl rfl (hv_fact (mem_at 0 rfl)) PartsOk.nil)) rfl (fun v52 => ?_))
  refine tl_M [Own.gone, Own.box b12 rApi_Object c3, Own.gone, Own.box b32 rApi_Object c19, Own.buf v52 56 rApi_Object [c3, c19]] rfl ?_
  refine tl_d rfl (d_field_own rfl fo34_0 ?_)
  refine tl_d rfl (d_load_box 3 rfl rfl (Fld.at0 fl_Api_Object_Of) trivial ty29 rfl (fun v53 => ?_))
  refine tl_g [] rfl (g_callo2 rfl hfn18 (FnX.flat (fun _ _ _ _ _ ⟨v0, v1, e, h0, h1⟩ => ⟨v0, v1, e, Flat.own (Flat.arr Flat.int) h0, fun m' hm' => Flat.val Flat.int (h1 [] (by intro b hb; cases hb))⟩) (walk_Close_ok _ _ _ _ _ _ hc41)) (Evs.cons rfl (Evs.cons rfl Evs.nil)) (fun a w hs => bor_one hs 4 rfl (fun hs1 => bor_end hs1 ⟨(hv_fact (mem_at 0 rfl)) _ _ _ _ hs1, (hv_fact (mem_at 1 rfl)) _ _ _ _ hs1⟩)) (fun v55 v56 => ?_))
  refine tl_int (mem_at 0 rfl) (fun hv60 hw59 => ?_)
  subst hv60
  refine tl_M [Own.gone, Own.box b12 rApi_Object c3, Own.gone, Own.box b32 rApi_Object c19, Own.buf v52 56 rApi_Object [c3, c19], Own.buf v55 32 (rArr 32 (rInt .u8)) c40.1] rfl ?_
  refine tl_d rfl (d_move rfl ?_)
  refine tl_d rfl (d_extract rfl rfl ?_)
  refine tl_d rfl (d_extract rfl rfl ?_)
  refine tl_d rfl (d_assign rfl ?_)
  refine tl_d rfl (d_assign rfl ?_)
  refine tl_nil ?_
  refine q_then_code ?_
  refine t_seq ?_
  obtain ⟨c69, hc70, hf⟩ := bind_some hf
  refine t_region ?_
  refine tl_d rfl (d_load_box 1 rfl rfl (Fld.self rApi_Object) trivial ty34 rfl (fun v77 => ?_))
  refine tl_d rfl (d_load_box 3 rfl rfl (Fld.self rApi_Object) trivial ty34 rfl (fun v79 => ?_))
  refine tl_g [] rfl (g_buildSlice (R := rApi_Object) (l := [c3, c19]) rfl Try.underlying22 ty34 ⟨rfl, by decide, by decide, by decide⟩ (PartsOk.cons rfl rfl (hv_fact (mem_at 1 rfl)) (PartsOk.cons rfl rfl (hv_fact (mem_at 0 rfl)) PartsOk.nil)) rfl (fun v81 => ?_))
  refine tl_M [Own.gone, Own.box b12 rApi_Object c3, Own.gone, Own.box b32 rApi_Object c19, Own.buf v52 56 rApi_Object [c3, c19], Own.buf v55 32 (rArr 32 (rInt .u8)) c40.1, Own.buf v81 56 rApi_Object [c3, c19]] rfl ?_
  refine tl_d rfl (d_field_own rfl fo34_0 ?_)
  refine tl_d rfl (d_load_box 3 rfl rfl (Fld.at0 fl_Api_Object_Of) trivial ty29 rfl (fun v82 => ?_))
  refine tl_freeze 6 rfl ?_
  refine tl_g [] rfl (g_callo2 rfl hfn19 (walk_Files_ok _ _ _ _ _ _ hc70).weak (Evs.cons rfl (Evs.cons rfl Evs.nil)) (fun a w hs => ⟨(hv_fact (mem_at 0 rfl)) _ _ _ _ hs, (hv_fact (mem_at 1 rfl)) _ _ _ _ hs⟩) (fun v85 v86 => ?_))
  refine tl_int (mem_at 0 rfl) (fun hv90 hw89 => ?_)
  subst hv90
  refine tl_M [Own.gone, Own.box b12 rApi_Object c3, Own.gone, Own.box b32 rApi_Object c19, Own.buf v52 56 rApi_Object [c3, c19], Own.buf v55 32 (rArr 32 (rInt .u8)) c40.1, Own.gone, Own.buf v85 48 rApi_File c69.1] rfl ?_
  refine tl_d rfl (d_move rfl ?_)
  refine tl_d rfl (d_extract rfl rfl ?_)
  refine tl_d rfl (d_extract rfl rfl ?_)
  refine tl_d rfl (d_assign rfl ?_)
  refine tl_d rfl (d_assign rfl ?_)
  refine tl_nil ?_
  refine q_then_code ?_
  refine t_seq ?_
  obtain ⟨c96, hc97, hf⟩ := bind_some hf
  refine t_region ?_
  refine tl_d rfl (d_load_box 3 rfl rfl (Fld.self rApi_Object) trivial ty34 rfl (fun v104 => ?_))
  refine tl_g [] rfl (g_buildSlice (R := rApi_Object) (l := [c19]) rfl Try.underlying22 ty34 ⟨rfl, by decide, by decide, by decide⟩ (PartsOk.cons rfl rfl (hv_fact (mem_at 0 rfl)) PartsOk.nil) rfl (fun v106 => ?_))
  refine tl_M [Own.gone, Own.box b12 rApi_Object c3, Own.gone, Own.box b32 rApi_Object c19, Own.buf v52 56 rApi_Object [c3, c19], Own.buf v55 32 (rArr 32 (rInt .u8)) c40.1, Own.gone, Own.buf v85 48 rApi_File c69.1, Own.buf v106 56 rApi_Object [c19]] rfl ?_
  refine tl_d rfl (d_field_own rfl fo34_0 ?_)
  refine tl_d rfl (d_load_box 3 rfl rfl (Fld.at0 fl_Api_Object_Of) trivial ty29 rfl (fun v107 => ?_))
  refine tl_g [] rfl (g_callo2 rfl hfn18 (FnX.flat (fun _ _ _ _ _ ⟨v0, v1, e, h0, h1⟩ => ⟨v0, v1, e, Flat.own (Flat.arr Flat.int) h0, fun m' hm' => Flat.val Flat.int (h1 [] (by intro b hb; cases hb))⟩) (walk_Close_ok _ _ _ _ _ _ hc97)) (Evs.cons rfl (Evs.cons rfl Evs.nil)) (fun a w hs => bor_one hs 8 rfl (fun hs1 => bor_end hs1 ⟨(hv_fact (mem_at 0 rfl)) _ _ _ _ hs1, (hv_fact (mem_at 1 rfl)) _ _ _ _ hs1⟩)) (fun v109 v110 => ?_))
  refine tl_int (mem_at 0 rfl) (fun hv114 hw113 => ?_)
  subst hv114
  refine tl_M [Own.gone, Own.box b12 rApi_Object c3, Own.gone, Own.box b32 rApi_Object c19, Own.buf v52 56 rApi_Object [c3, c19], Own.buf v55 32 (rArr 32 (rInt .u8)) c40.1, Own.gone, Own.buf v85 48 rApi_File c69.1, Own.buf v106 56 rApi_Object [c19], Own.buf v109 32 (rArr 32 (rInt .u8)) c96.1] rfl ?_
  refine tl_d rfl (d_move rfl ?_)
  refine tl_d rfl (d_extract rfl rfl ?_)
  refine tl_d rfl (d_extract rfl rfl ?_)
  refine tl_d rfl (d_assign rfl ?_)
  refine tl_d rfl (d_assign rfl ?_)
  refine tl_nil ?_
  refine q_then_code ?_
  refine t_seq ?_
  obtain ⟨o142, ho143, hf⟩ := bind_some hf
  refine t_cut (X := Bool) (fun x => match x with | s141 => (([(0, .bool s141)], [], []) : Sym)) (fun x => match x with | s141 => s141 = o142) ?_ ?_
  · have hf := ho143; clear ho143
    rcases bool_tf (decide (c40.2 = (0 : Int))) with hb115 | hb115
    · have hf := if_t hb115 hf
      rcases bool_tf (decide (c69.2 = (0 : Int))) with hb116 | hb116
      · have hf := if_t hb116 hf
        rcases bool_tf (decide (c96.2 = (15 : Int))) with hb117 | hb117
        · have hf := if_t hb117 hf
          rcases bool_tf (decide (((c40.1).length : Int) = (2 : Int))) with hb119 | hb119
          · have hf := if_t hb119 hf
            rcases bool_tf (decide (((c69.1).length : Int) = (1 : Int))) with hb121 | hb121
            · have hf := if_t hb121 hf
              obtain ⟨hn122, hf⟩ := need_some hf
              rcases bool_tf (decide (((((c69.1).getD ((0 : Int)).toNat rApi_File.zeroD)).Path) = [97])) with hb130 | hb130
              · have hf := if_t hb130 hf
                obtain ⟨hn131, hf⟩ := need_some hf
                refine t_region ?_
                refine tl_d rfl (d_move rfl ?_)
                refine tl_d rfl (d_eql rfl rfl ?_)
                refine tl_d rfl (d_move rfl ?_)
                refine tl_dg (gd_on rfl rfl rfl hb115) rfl (d_move rfl ?_)
                refine tl_dg (gd_on rfl rfl rfl hb115) rfl (d_eql rfl rfl ?_)
                refine tl_d rfl (d_pick_true rfl hb115 rfl ?_)
                refine tl_d rfl (d_move rfl ?_)
                refine tl_dg (gd_on rfl rfl rfl hb116) rfl (d_move rfl ?_)
                refine tl_dg (gd_on rfl rfl rfl hb116) rfl (d_eql rfl rfl ?_)
                refine tl_d rfl (d_pick_true rfl hb116 rfl ?_)
                refine tl_d rfl (d_move rfl ?_)
                refine tl_dg (gd_on rfl rfl rfl hb117) rfl (d_move rfl ?_)
                refine tl_dg (gd_on rfl rfl rfl hb117) rfl (d_len_buf 5 rfl rfl Try.underlying23 (fun hl144 _ => ?_))
                refine tl_dg (gd_on rfl rfl rfl hb117) rfl (d_eql rfl rfl ?_)
                refine tl_d rfl (d_pick_true rfl hb117 rfl ?_)
                refine tl_d rfl (d_move rfl ?_)
                refine tl_dg (gd_on rfl rfl rfl hb119) rfl (d_move rfl ?_)
                refine tl_dg (gd_on rfl rfl rfl hb119) rfl (d_len_buf 7 rfl rfl Try.underlying40 (fun hl145 _ => ?_))
                refine tl_dg (gd_on rfl rfl rfl hb119) rfl (d_eql rfl rfl ?_)
                refine tl_d rfl (d_pick_true rfl hb119 rfl ?_)
                refine tl_d rfl (d_move rfl ?_)
                refine tl_dg (gd_on rfl rfl rfl hb121) rfl (d_move rfl ?_)
                refine tl_dg (gd_on rfl rfl rfl hb121) rfl (d_index_buf 7 rfl rfl rfl Try.underlying40 ty48 hn122 (fun p146 hp147 => ?_))
                refine tl_dg (gd_on rfl rfl rfl hb121) rfl (d_field_buf rfl hp147 fo48_0 (fun p148 hp149 => ?_))
                refine tl_dg (gd_on rfl rfl rfl hb121) rfl (d_load_buf (j := ((0 : Int)).toNat) 7 rfl hp149 rfl rfl (toNat_lt hn122) fl_Api_File_Path trivial ty9 rfl (fun v150 => ?_))
                refine tl_fact (rStr.fact (.string ⟨#[97]⟩) [97]) (str_fact rfl (by decide)) ?_
                refine tl_dg (gd_on rfl rfl rfl hb121) rfl (d_str_cmp (decide (((((c69.1).getD ((0 : Int)).toNat rApi_File.zeroD)).Path) = [97])) rfl rfl (mem_at 1 rfl) (mem_at 0 rfl) (.inl ⟨rfl, rfl⟩) ?_)
                refine tl_d rfl (d_pick_true rfl hb121 rfl ?_)
                refine tl_d rfl (d_move rfl ?_)
                refine tl_dg (gd_on rfl rfl rfl hb130) rfl (d_move rfl ?_)
                refine tl_dg (gd_on rfl rfl rfl hb130) rfl (d_index_buf 7 rfl rfl rfl Try.underlying40 ty48 hn131 (fun p153 hp154 => ?_))
                refine tl_dg (gd_on rfl rfl rfl hb130) rfl (d_field_buf rfl hp154 fo48_2 (fun p155 hp156 => ?_))
                refine tl_dg (gd_on rfl rfl rfl hb130) rfl (d_load_buf (j := ((0 : Int)).toNat) 7 rfl hp156 rfl rfl (toNat_lt hn131) fl_Api_File_Data trivial ty32 rfl (fun v157 => ?_))
                refine tl_dg (gd_on rfl rfl rfl hb130) rfl (d_bytes_str rfl (mem_at 0 rfl) Try.underlying32 Try.underlying5 Try.underlying9 (fun v159 => ?_))
                refine tl_fact (rStr.fact (.string ⟨#[7]⟩) [7]) (str_fact rfl (by decide)) ?_
                refine tl_dg (gd_on rfl rfl rfl hb130) rfl (d_str_cmp (decide (((((c69.1).getD ((0 : Int)).toNat rApi_File.zeroD)).Data) = [7])) rfl rfl (mem_at 1 rfl) (mem_at 0 rfl) (.inl ⟨rfl, rfl⟩) ?_)
                refine tl_d rfl (d_pick_true rfl hb130 rfl ?_)
                refine tl_d rfl (d_assign rfl ?_)
                refine tl_nil ?_
                have hr := Option.some.inj hf; subst hr
                exact q_cut (decide (((((c69.1).getD ((0 : Int)).toNat rApi_File.zeroD)).Data) = [7])) rfl ⟨rfl, trivial⟩ trivial [] (Sel.nil) rfl
              · have hf := if_f hb130 hf
                refine t_region ?_
                refine tl_d rfl (d_move rfl ?_)
                refine tl_d rfl (d_eql rfl rfl ?_)
                refine tl_d rfl (d_move rfl ?_)
                refine tl_dg (gd_on rfl rfl rfl hb115) rfl (d_move rfl ?_)
                refine tl_dg (gd_on rfl rfl rfl hb115) rfl (d_eql rfl rfl ?_)
                refine tl_d rfl (d_pick_true rfl hb115 rfl ?_)
                refine tl_d rfl (d_move rfl ?_)
                refine tl_dg (gd_on rfl rfl rfl hb116) rfl (d_move rfl ?_)
                refine tl_dg (gd_on rfl rfl rfl hb116) rfl (d_eql rfl rfl ?_)
                refine tl_d rfl (d_pick_true rfl hb116 rfl ?_)
                refine tl_d rfl (d_move rfl ?_)
                refine tl_dg (gd_on rfl rfl rfl hb117) rfl (d_move rfl ?_)
                refine tl_dg (gd_on rfl rfl rfl hb117) rfl (d_len_buf 5 rfl rfl Try.underlying23 (fun hl162 _ => ?_))
                refine tl_dg (gd_on rfl rfl rfl hb117) rfl (d_eql rfl rfl ?_)
                refine tl_d rfl (d_pick_true rfl hb117 rfl ?_)
                refine tl_d rfl (d_move rfl ?_)
                refine tl_dg (gd_on rfl rfl rfl hb119) rfl (d_move rfl ?_)
                refine tl_dg (gd_on rfl rfl rfl hb119) rfl (d_len_buf 7 rfl rfl Try.underlying40 (fun hl163 _ => ?_))
                refine tl_dg (gd_on rfl rfl rfl hb119) rfl (d_eql rfl rfl ?_)
                refine tl_d rfl (d_pick_true rfl hb119 rfl ?_)
                refine tl_d rfl (d_move rfl ?_)
                refine tl_dg (gd_on rfl rfl rfl hb121) rfl (d_move rfl ?_)
                refine tl_dg (gd_on rfl rfl rfl hb121) rfl (d_index_buf 7 rfl rfl rfl Try.underlying40 ty48 hn122 (fun p164 hp165 => ?_))
                refine tl_dg (gd_on rfl rfl rfl hb121) rfl (d_field_buf rfl hp165 fo48_0 (fun p166 hp167 => ?_))
                refine tl_dg (gd_on rfl rfl rfl hb121) rfl (d_load_buf (j := ((0 : Int)).toNat) 7 rfl hp167 rfl rfl (toNat_lt hn122) fl_Api_File_Path trivial ty9 rfl (fun v168 => ?_))
                refine tl_fact (rStr.fact (.string ⟨#[97]⟩) [97]) (str_fact rfl (by decide)) ?_
                refine tl_dg (gd_on rfl rfl rfl hb121) rfl (d_str_cmp (decide (((((c69.1).getD ((0 : Int)).toNat rApi_File.zeroD)).Path) = [97])) rfl rfl (mem_at 1 rfl) (mem_at 0 rfl) (.inl ⟨rfl, rfl⟩) ?_)
                refine tl_d rfl (d_pick_true rfl hb121 rfl ?_)
                refine tl_d rfl (d_move rfl ?_)
                refine tl_off (gd_off rfl rfl rfl hb130) rfl rfl ?_
                refine tl_off (gd_off rfl rfl rfl hb130) rfl rfl ?_
                refine tl_off (gd_off rfl rfl rfl hb130) rfl rfl ?_
                refine tl_off (gd_off rfl rfl rfl hb130) rfl rfl ?_
                refine tl_off (gd_off rfl rfl rfl hb130) rfl rfl ?_
                refine tl_off (gd_off rfl rfl rfl hb130) rfl rfl ?_
                refine tl_d rfl (d_pick_false rfl hb130 rfl ?_)
                refine tl_d rfl (d_assign rfl ?_)
                refine tl_nil ?_
                have hr := Option.some.inj hf; subst hr
                exact q_cut false rfl ⟨rfl, trivial⟩ trivial [] (Sel.nil) rfl
            · have hf := if_f hb121 hf
              refine t_region ?_
              refine tl_d rfl (d_move rfl ?_)
              refine tl_d rfl (d_eql rfl rfl ?_)
              refine tl_d rfl (d_move rfl ?_)
              refine tl_dg (gd_on rfl rfl rfl hb115) rfl (d_move rfl ?_)
              refine tl_dg (gd_on rfl rfl rfl hb115) rfl (d_eql rfl rfl ?_)
              refine tl_d rfl (d_pick_true rfl hb115 rfl ?_)
              refine tl_d rfl (d_move rfl ?_)
              refine tl_dg (gd_on rfl rfl rfl hb116) rfl (d_move rfl ?_)
              refine tl_dg (gd_on rfl rfl rfl hb116) rfl (d_eql rfl rfl ?_)
              refine tl_d rfl (d_pick_true rfl hb116 rfl ?_)
              refine tl_d rfl (d_move rfl ?_)
              refine tl_dg (gd_on rfl rfl rfl hb117) rfl (d_move rfl ?_)
              refine tl_dg (gd_on rfl rfl rfl hb117) rfl (d_len_buf 5 rfl rfl Try.underlying23 (fun hl171 _ => ?_))
              refine tl_dg (gd_on rfl rfl rfl hb117) rfl (d_eql rfl rfl ?_)
              refine tl_d rfl (d_pick_true rfl hb117 rfl ?_)
              refine tl_d rfl (d_move rfl ?_)
              refine tl_dg (gd_on rfl rfl rfl hb119) rfl (d_move rfl ?_)
              refine tl_dg (gd_on rfl rfl rfl hb119) rfl (d_len_buf 7 rfl rfl Try.underlying40 (fun hl172 _ => ?_))
              refine tl_dg (gd_on rfl rfl rfl hb119) rfl (d_eql rfl rfl ?_)
              refine tl_d rfl (d_pick_true rfl hb119 rfl ?_)
              refine tl_d rfl (d_move rfl ?_)
              refine tl_off (gd_off rfl rfl rfl hb121) rfl rfl ?_
              refine tl_off (gd_off rfl rfl rfl hb121) rfl rfl ?_
              refine tl_off (gd_off rfl rfl rfl hb121) rfl rfl ?_
              refine tl_off (gd_off rfl rfl rfl hb121) rfl rfl ?_
              refine tl_off (gd_off rfl rfl rfl hb121) rfl rfl ?_
              refine tl_d rfl (d_pick_false rfl hb121 rfl ?_)
              refine tl_d rfl (d_move rfl ?_)
              refine tl_off (gd_off rfl rfl rfl rfl) rfl rfl ?_
              refine tl_off (gd_off rfl rfl rfl rfl) rfl rfl ?_
              refine tl_off (gd_off rfl rfl rfl rfl) rfl rfl ?_
              refine tl_off (gd_off rfl rfl rfl rfl) rfl rfl ?_
              refine tl_off (gd_off rfl rfl rfl rfl) rfl rfl ?_
              refine tl_off (gd_off rfl rfl rfl rfl) rfl rfl ?_
              refine tl_d rfl (d_pick_false rfl rfl rfl ?_)
              refine tl_d rfl (d_assign rfl ?_)
              refine tl_nil ?_
              have hr := Option.some.inj hf; subst hr
              exact q_cut false rfl ⟨rfl, trivial⟩ trivial [] (Sel.nil) rfl
          · have hf := if_f hb119 hf
            refine t_region ?_
            refine tl_d rfl (d_move rfl ?_)
            refine tl_d rfl (d_eql rfl rfl ?_)
            refine tl_d rfl (d_move rfl ?_)
            refine tl_dg (gd_on rfl rfl rfl hb115) rfl (d_move rfl ?_)
            refine tl_dg (gd_on rfl rfl rfl hb115) rfl (d_eql rfl rfl ?_)
            refine tl_d rfl (d_pick_true rfl hb115 rfl ?_)
            refine tl_d rfl (d_move rfl ?_)
            refine tl_dg (gd_on rfl rfl rfl hb116) rfl (d_move rfl ?_)
            refine tl_dg (gd_on rfl rfl rfl hb116) rfl (d_eql rfl rfl ?_)
            refine tl_d rfl (d_pick_true rfl hb116 rfl ?_)
            refine tl_d rfl (d_move rfl ?_)
            refine tl_dg (gd_on rfl rfl rfl hb117) rfl (d_move rfl ?_)
            refine tl_dg (gd_on rfl rfl rfl hb117) rfl (d_len_buf 5 rfl rfl Try.underlying23 (fun hl173 _ => ?_))
            refine tl_dg (gd_on rfl rfl rfl hb117) rfl (d_eql rfl rfl ?_)
            refine tl_d rfl (d_pick_true rfl hb117 rfl ?_)
            refine tl_d rfl (d_move rfl ?_)
            refine tl_off (gd_off rfl rfl rfl hb119) rfl rfl ?_
            refine tl_off (gd_off rfl rfl rfl hb119) rfl rfl ?_
            refine tl_off (gd_off rfl rfl rfl hb119) rfl rfl ?_
            refine tl_d rfl (d_pick_false rfl hb119 rfl ?_)
            refine tl_d rfl (d_move rfl ?_)
            refine tl_off (gd_off rfl rfl rfl rfl) rfl rfl ?_
            refine tl_off (gd_off rfl rfl rfl rfl) rfl rfl ?_
            refine tl_off (gd_off rfl rfl rfl rfl) rfl rfl ?_
            refine tl_off (gd_off rfl rfl rfl rfl) rfl rfl ?_
            refine tl_off (gd_off rfl rfl rfl rfl) rfl rfl ?_
            refine tl_d rfl (d_pick_false rfl rfl rfl ?_)
            refine tl_d rfl (d_move rfl ?_)
            refine tl_off (gd_off rfl rfl rfl rfl) rfl rfl ?_
            refine tl_off (gd_off rfl rfl rfl rfl) rfl rfl ?_
            refine tl_off (gd_off rfl rfl rfl rfl) rfl rfl ?_
            refine tl_off (gd_off rfl rfl rfl rfl) rfl rfl ?_
            refine tl_off (gd_off rfl rfl rfl rfl) rfl rfl ?_
            refine tl_off (gd_off rfl rfl rfl rfl) rfl rfl ?_
            refine tl_d rfl (d_pick_false rfl rfl rfl ?_)
            refine tl_d rfl (d_assign rfl ?_)
            refine tl_nil ?_
            have hr := Option.some.inj hf; subst hr
            exact q_cut false rfl ⟨rfl, trivial⟩ trivial [] (Sel.nil) rfl
        · have hf := if_f hb117 hf
          refine t_region ?_
          refine tl_d rfl (d_move rfl ?_)
          refine tl_d rfl (d_eql rfl rfl ?_)
          refine tl_d rfl (d_move rfl ?_)
          refine tl_dg (gd_on rfl rfl rfl hb115) rfl (d_move rfl ?_)
          refine tl_dg (gd_on rfl rfl rfl hb115) rfl (d_eql rfl rfl ?_)
          refine tl_d rfl (d_pick_true rfl hb115 rfl ?_)
          refine tl_d rfl (d_move rfl ?_)
          refine tl_dg (gd_on rfl rfl rfl hb116) rfl (d_move rfl ?_)
          refine tl_dg (gd_on rfl rfl rfl hb116) rfl (d_eql rfl rfl ?_)
          refine tl_d rfl (d_pick_true rfl hb116 rfl ?_)
          refine tl_d rfl (d_move rfl ?_)
          refine tl_off (gd_off rfl rfl rfl hb117) rfl rfl ?_
          refine tl_off (gd_off rfl rfl rfl hb117) rfl rfl ?_
          refine tl_off (gd_off rfl rfl rfl hb117) rfl rfl ?_
          refine tl_d rfl (d_pick_false rfl hb117 rfl ?_)
          refine tl_d rfl (d_move rfl ?_)
          refine tl_off (gd_off rfl rfl rfl rfl) rfl rfl ?_
          refine tl_off (gd_off rfl rfl rfl rfl) rfl rfl ?_
          refine tl_off (gd_off rfl rfl rfl rfl) rfl rfl ?_
          refine tl_d rfl (d_pick_false rfl rfl rfl ?_)
          refine tl_d rfl (d_move rfl ?_)
          refine tl_off (gd_off rfl rfl rfl rfl) rfl rfl ?_
          refine tl_off (gd_off rfl rfl rfl rfl) rfl rfl ?_
          refine tl_off (gd_off rfl rfl rfl rfl) rfl rfl ?_
          refine tl_off (gd_off rfl rfl rfl rfl) rfl rfl ?_
          refine tl_off (gd_off rfl rfl rfl rfl) rfl rfl ?_
          refine tl_d rfl (d_pick_false rfl rfl rfl ?_)
          refine tl_d rfl (d_move rfl ?_)
          refine tl_off (gd_off rfl rfl rfl rfl) rfl rfl ?_
          refine tl_off (gd_off rfl rfl rfl rfl) rfl rfl ?_
          refine tl_off (gd_off rfl rfl rfl rfl) rfl rfl ?_
          refine tl_off (gd_off rfl rfl rfl rfl) rfl rfl ?_
          refine tl_off (gd_off rfl rfl rfl rfl) rfl rfl ?_
          refine tl_off (gd_off rfl rfl rfl rfl) rfl rfl ?_
          refine tl_d rfl (d_pick_false rfl rfl rfl ?_)
          refine tl_d rfl (d_assign rfl ?_)
          refine tl_nil ?_
          have hr := Option.some.inj hf; subst hr
          exact q_cut false rfl ⟨rfl, trivial⟩ trivial [] (Sel.nil) rfl
      · have hf := if_f hb116 hf
        refine t_region ?_
        refine tl_d rfl (d_move rfl ?_)
        refine tl_d rfl (d_eql rfl rfl ?_)
        refine tl_d rfl (d_move rfl ?_)
        refine tl_dg (gd_on rfl rfl rfl hb115) rfl (d_move rfl ?_)
        refine tl_dg (gd_on rfl rfl rfl hb115) rfl (d_eql rfl rfl ?_)
        refine tl_d rfl (d_pick_true rfl hb115 rfl ?_)
        refine tl_d rfl (d_move rfl ?_)
        refine tl_off (gd_off rfl rfl rfl hb116) rfl rfl ?_
        refine tl_off (gd_off rfl rfl rfl hb116) rfl rfl ?_
        refine tl_d rfl (d_pick_false rfl hb116 rfl ?_)
        refine tl_d rfl (d_move rfl ?_)
        refine tl_off (gd_off rfl rfl rfl rfl) rfl rfl ?_
        refine tl_off (gd_off rfl rfl rfl rfl) rfl rfl ?_
        refine tl_off (gd_off rfl rfl rfl rfl) rfl rfl ?_
        refine tl_d rfl (d_pick_false rfl rfl rfl ?_)
        refine tl_d rfl (d_move rfl ?_)
        refine tl_off (gd_off rfl rfl rfl rfl) rfl rfl ?_
        refine tl_off (gd_off rfl rfl rfl rfl) rfl rfl ?_
        refine tl_off (gd_off rfl rfl rfl rfl) rfl rfl ?_
        refine tl_d rfl (d_pick_false rfl rfl rfl ?_)
        refine tl_d rfl (d_move rfl ?_)
        refine tl_off (gd_off rfl rfl rfl rfl) rfl rfl ?_
        refine tl_off (gd_off rfl rfl rfl rfl) rfl rfl ?_
        refine tl_off (gd_off rfl rfl rfl rfl) rfl rfl ?_
        refine tl_off (gd_off rfl rfl rfl rfl) rfl rfl ?_
        refine tl_off (gd_off rfl rfl rfl rfl) rfl rfl ?_
        refine tl_d rfl (d_pick_false rfl rfl rfl ?_)
        refine tl_d rfl (d_move rfl ?_)
        refine tl_off (gd_off rfl rfl rfl rfl) rfl rfl ?_
        refine tl_off (gd_off rfl rfl rfl rfl) rfl rfl ?_
        refine tl_off (gd_off rfl rfl rfl rfl) rfl rfl ?_
        refine tl_off (gd_off rfl rfl rfl rfl) rfl rfl ?_
        refine tl_off (gd_off rfl rfl rfl rfl) rfl rfl ?_
        refine tl_off (gd_off rfl rfl rfl rfl) rfl rfl ?_
        refine tl_d rfl (d_pick_false rfl rfl rfl ?_)
        refine tl_d rfl (d_assign rfl ?_)
        refine tl_nil ?_
        have hr := Option.some.inj hf; subst hr
        exact q_cut false rfl ⟨rfl, trivial⟩ trivial [] (Sel.nil) rfl
    · have hf := if_f hb115 hf
      refine t_region ?_
      refine tl_d rfl (d_move rfl ?_)
      refine tl_d rfl (d_eql rfl rfl ?_)
      refine tl_d rfl (d_move rfl ?_)
      refine tl_off (gd_off rfl rfl rfl hb115) rfl rfl ?_
      refine tl_off (gd_off rfl rfl rfl hb115) rfl rfl ?_
      refine tl_d rfl (d_pick_false rfl hb115 rfl ?_)
      refine tl_d rfl (d_move rfl ?_)
      refine tl_off (gd_off rfl rfl rfl rfl) rfl rfl ?_
      refine tl_off (gd_off rfl rfl rfl rfl) rfl rfl ?_
      refine tl_d rfl (d_pick_false rfl rfl rfl ?_)
      refine tl_d rfl (d_move rfl ?_)
      refine tl_off (gd_off rfl rfl rfl rfl) rfl rfl ?_
      refine tl_off (gd_off rfl rfl rfl rfl) rfl rfl ?_
      refine tl_off (gd_off rfl rfl rfl rfl) rfl rfl ?_
      refine tl_d rfl (d_pick_false rfl rfl rfl ?_)
      refine tl_d rfl (d_move rfl ?_)
      refine tl_off (gd_off rfl rfl rfl rfl) rfl rfl ?_
      refine tl_off (gd_off rfl rfl rfl rfl) rfl rfl ?_
      refine tl_off (gd_off rfl rfl rfl rfl) rfl rfl ?_
      refine tl_d rfl (d_pick_false rfl rfl rfl ?_)
      refine tl_d rfl (d_move rfl ?_)
      refine tl_off (gd_off rfl rfl rfl rfl) rfl rfl ?_
      refine tl_off (gd_off rfl rfl rfl rfl) rfl rfl ?_
      refine tl_off (gd_off rfl rfl rfl rfl) rfl rfl ?_
      refine tl_off (gd_off rfl rfl rfl rfl) rfl rfl ?_
      refine tl_off (gd_off rfl rfl rfl rfl) rfl rfl ?_
      refine tl_d rfl (d_pick_false rfl rfl rfl ?_)
      refine tl_d rfl (d_move rfl ?_)
      refine tl_off (gd_off rfl rfl rfl rfl) rfl rfl ?_
      refine tl_off (gd_off rfl rfl rfl rfl) rfl rfl ?_
      refine tl_off (gd_off rfl rfl rfl rfl) rfl rfl ?_
      refine tl_off (gd_off rfl rfl rfl rfl) rfl rfl ?_
      refine tl_off (gd_off rfl rfl rfl rfl) rfl rfl ?_
      refine tl_off (gd_off rfl rfl rfl rfl) rfl rfl ?_
      refine tl_d rfl (d_pick_false rfl rfl rfl ?_)
      refine tl_d rfl (d_assign rfl ?_)
      refine tl_nil ?_
      have hr := Option.some.inj hf; subst hr
      exact q_cut false rfl ⟨rfl, trivial⟩ trivial [] (Sel.nil) rfl
  rintro s141 rfl
  refine q_then_code ?_
  refine t_ret ?_
  have hr := Option.some.inj hf; subst hr
  refine q_ret (post := fun w w' m v => rBool.val w' m v s141) hR _ (.inl rfl) (fun a w hs => ?_)
  exact ⟨_, run_results rfl (RvOk.cons (rv_tmp hs rfl) RvOk.nil), (hs.hv hv_bool)⟩

def cofferlaw0_Place.f (a0 : Int) (a1 : Int) : Option (Int) := (if (decide (a1 < (1 : Int))) = true then (some (0 : Int)) else (need (a1 ≠ 0) (((if (decide ((a0.tmod a1) < (0 : Int))) = true then (some (IntKind.i64.wrap ((a0.tmod a1) + a1))) else (some (a0.tmod a1)))).bind fun s3 => (some s3))))
set_option maxRecDepth 100000 in
set_option maxHeartbeats 800000 in
theorem cofferlaw0_Place_ok (a0 : Int) (a1 : Int) (r : Int) (hf : cofferlaw0_Place.f a0 a1 = some r) : Cf.FnX true Try.prog 23 [(.int .i64 a0), (.int .i64 a1)] (fun w m => (rInt .i64).val w m (.int .i64 a0) a0 ∧ (rInt .i64).val w m (.int .i64 a1) a1) (fun w w' m v => (rInt .i64).val w' m v r) := by
  unfold cofferlaw0_Place.f at hf
  refine fn_of Try.func23 rfl (Nat.le_of_ble_eq_true rfl) [(rInt .i64).fact (.int .i64 a0) a0, (rInt .i64).fact (.int .i64 a1) a1] (fun w m h f hf => ?_) ?_
  · simp at hf; rcases hf with rfl | rfl
    · exact h.1
    · exact h.2
  intro w0 m0 R hR
  refine t_int (mem_at 0 rfl) (fun _ hw0 => ?_)
  refine t_int (mem_at 1 rfl) (fun _ hw1 => ?_)
  refine t_seq ?_
  refine t_region ?_
  refine tl_d rfl (d_assign rfl ?_)
  refine tl_nil ?_
  refine q_then_code ?_
  refine t_seq ?_
  refine t_seq ?_
  refine t_region ?_
  refine tl_d rfl (d_move rfl ?_)
  refine tl_d rfl (d_lss rfl rfl ?_)
  refine tl_nil ?_
  refine q_then_code ?_
  refine t_cond rfl (fun hb1 => ?_) (fun hb1 => ?_)
  · have hf := if_t hb1 hf
    refine t_seq ?_
    refine t_region ?_
    refine tl_d rfl (d_assign rfl ?_)
    refine tl_nil ?_
    refine q_then_code ?_
    refine t_ret ?_
    refine q_then_ret ?_
    have hr := Option.some.inj hf; subst hr
    refine q_ret (post := fun w w' m v => (rInt .i64).val w' m v (0 : Int)) hR _ (.inl rfl) (fun a w hs => ?_)
    exact ⟨_, run_results rfl (RvOk.cons (rv_tmp hs rfl) RvOk.nil), (hs.hv (hv_int rfl))⟩
  · have hf := if_f hb1 hf
    refine t_skip ?_
    refine q_then_code ?_
    refine t_seq ?_
    obtain ⟨hn2, hf⟩ := need_some hf
    refine t_region ?_
    refine tl_d rfl (d_move rfl ?_)
    refine tl_d rfl (d_move rfl ?_)
    refine tl_d rfl (d_rem rfl rfl hn2 ?_)
    refine tl_d rfl (d_assign rfl ?_)
    refine tl_nil ?_
    refine q_then_code ?_
    refine t_seq ?_
    refine t_seq ?_
    refine t_region ?_
    refine tl_d rfl (d_move rfl ?_)
    refine tl_d rfl (d_lss rfl rfl ?_)
    refine tl_nil ?_
    refine q_then_code ?_
    obtain ⟨o4, ho5, hf⟩ := bind_some hf
    refine t_cut (X := Int) (fun x => match x with | s3 => (([(0, .int .i64 s3)], [], []) : Sym)) (fun x => match x with | s3 => s3 = o4 ∧ IntKind.i64.wrap s3 = s3) ?_ ?_
    · have hf := ho5
      clear ho5
      refine t_cond rfl (fun hb6 => ?_) (fun hb6 => ?_)
      · have hf := if_t hb6 hf
        refine t_region ?_
        refine tl_d rfl (d_move rfl ?_)
        refine tl_d rfl (d_move rfl ?_)
        refine tl_d rfl (d_add rfl rfl ?_)
        refine tl_d rfl (d_assign rfl ?_)
        refine tl_nil ?_
        have hr := Option.some.inj hf; subst hr
        exact q_cut (IntKind.i64.wrap ((a0.tmod a1) + a1)) ⟨rfl, (wrap_wrap _ _)⟩ ⟨rfl, trivial⟩ trivial [] (Sel.nil) rfl
      · have hf := if_f hb6 hf
        refine t_skip ?_
        have hr := Option.some.inj hf; subst hr
        exact q_cut (a0.tmod a1) ⟨rfl, (wrap_tmod hw0)⟩ ⟨rfl, trivial⟩ trivial [] (Sel.nil) rfl
    rintro s3 ⟨rfl, hw_s3⟩
    refine q_then_code ?_
    refine t_seq ?_
    refine t_region ?_
    refine tl_d rfl (d_move rfl ?_)
    refine tl_d rfl (d_assign rfl ?_)
    refine tl_nil ?_
    refine q_then_code ?_
    refine t_ret ?_
    have hr := Option.some.inj hf; subst hr
    refine q_ret (post := fun w w' m v => (rInt .i64).val w' m v s3) hR _ (.inl rfl) (fun a w hs => ?_)
    exact ⟨_, run_results rfl (RvOk.cons (rv_tmp hs rfl) RvOk.nil), (hs.hv (hv_int hw_s3))⟩

def cofferlaw17_WalkWide.l1 (c16 : Int) (s57 : Int) (s56 : (List Int)) (s58 : Int) : Nat → (List Api_Item) → Int → Option ((List Api_Item))
  | 0, _, _ => none
  | k + 1, s67, s69 => (if (decide (s69 < (IntKind.i64.wrap ((1 : Int) + c16)))) = true then (need (fits 64 ((s67).length + ([(⟨[(IntKind.u8.wrap (IntKind.i64.wrap ((97 : Int) + s69)))], s57, s56, s58⟩ : Api_Item)]).length)) ((cofferlaw17_WalkWide.l1 c16 s57 s56 s58 k (s67 ++ [(⟨[(IntKind.u8.wrap (IntKind.i64.wrap ((97 : Int) + s69)))], s57, s56, s58⟩ : Api_Item)]) (IntKind.i64.wrap (s69 + (1 : Int)))))) else (some (s67)))
def cofferlaw17_WalkWide.l0 (c10 : Int) (c16 : Int) : Nat → (List Api_Object) → (List Int) → Int → Int → Int → Int → Int → Option ((List Api_Object) × (List Int) × Int × Int)
  | 0, _, _, _, _, _, _, _ => none
  | k + 1, s54, s56, s57, s58, s59, s60, s61 => (if (decide (s61 < (IntKind.i64.wrap ((1 : Int) + c10)))) = true then (cofferlaw17_WalkWide.l1 c16 s57 s56 s58 k ([] : List Api_Item) (0 : Int)).bind fun o119 => (match o119 with | s67 => ((cofferlaw17_Folder.f k s67).bind fun c97 => (need (fits 56 ((s54).length + ([c97]).length)) ((cofferlaw17_WalkWide.l0 c10 c16 k (s54 ++ [c97]) ((c97).Of) (2 : Int) (0 : Int) (IntKind.i64.wrap (s59 + (IntKind.i64.wrap (s60 * (IntKind.i64.wrap ((1 : Int) + c16)))))) (IntKind.i64.wrap (s60 * (IntKind.i64.wrap ((1 : Int) + c16)))) (IntKind.i64.wrap (s61 + (1 : Int)))))))) else (some ((s54, s56, s59, s60))))
def cofferlaw17_WalkWide.f (k : Nat) (a0 : Int) (a1 : Int) : Option (Bool) := ((cofferlaw17_begun.f k ).bind fun c1 => (if (!c1) = true then (some false) else ((cofferlaw0_Place.f a0 (7 : Int)).bind fun c10 => (cofferlaw0_Place.f a1 (8 : Int)).bind fun c16 => ((cofferlaw17_Of.f k [(108 : Int), (101 : Int), (97 : Int), (102 : Int)]).bind fun c32 => (cofferlaw17_WalkWide.l0 c10 c16 k [c32] ((c32).Of) (1 : Int) (4 : Int) (1 : Int) (1 : Int) (0 : Int)).bind fun o175 => (match o175 with | (s54, s56, s59, s60) => ((walk_Close.f k s54 s56).bind fun c123 => ((walk_Files.f k s54 s56).bind fun c142 => (if (decide ((1024 : Int) < s59)) = true then ((if (decide (c123.2 = (2 : Int))) = true then (some (decide (c142.2 = (2 : Int)))) else (some false))).bind fun s161 => (some s161) else ((if (decide (c123.2 = (0 : Int))) = true then (if (decide (c142.2 = (0 : Int))) = true then (if (decide (((c123.1).length : Int) = (IntKind.i64.wrap ((IntKind.i64.wrap ((1 : Int) + c10)) + (1 : Int))))) = true then (some (decide (((c142.1).length : Int) = s60))) else (some false)) else (some false)) else (some false))).bind fun s169 => (some s169)))))))))
set_option maxRecDepth 100000 in
set_option maxHeartbeats 4450000 in
theorem cofferlaw17_WalkWide_ok (k : Nat) (a0 : Int) (a1 : Int) (r : Bool) (hf : cofferlaw17_WalkWide.f k a0 a1 = some r) : Cf.FnX false Try.prog 7 [(.int .i64 a0), (.int .i64 a1)] (fun w m => (rInt .i64).val w m (.int .i64 a0) a0 ∧ (rInt .i64).val w m (.int .i64 a1) a1) (fun w w' m v => rBool.val w' m v r) := by
  unfold cofferlaw17_WalkWide.f at hf
  refine fn_of Try.func7 rfl (Nat.le_of_ble_eq_true rfl) [(rInt .i64).fact (.int .i64 a0) a0, (rInt .i64).fact (.int .i64 a1) a1] (fun w m h f hf => ?_) ?_
  · simp at hf; rcases hf with rfl | rfl
    · exact h.1
    · exact h.2
  intro w0 m0 R hR
  refine t_int (mem_at 0 rfl) (fun _ hw0 => ?_)
  refine t_int (mem_at 1 rfl) (fun _ hw1 => ?_)
  refine t_seq ?_
  refine t_region ?_
  refine tl_d rfl (d_assign rfl ?_)
  refine tl_nil ?_
  refine q_then_code ?_
  refine t_seq ?_
  refine t_seq ?_
  obtain ⟨c1, hc2, hf⟩ := bind_some hf
  refine t_region ?_
  refine tl_g [] rfl (g_call1 rfl hfn17 (cofferlaw17_begun_ok _ _ hc2) Evs.nil (fun a w hs => trivial) (fun v6 => ?_))
  refine tl_bool (mem_at 0 rfl) (fun hv8 => ?_)
  subst hv8
  refine tl_d rfl (d_not rfl ?_)
  refine tl_nil ?_
  refine q_then_code ?_
  refine t_cond rfl (fun hb9 => ?_) (fun hb9 => ?_)
  · have hf := if_t hb9 hf
    refine t_seq ?_
    refine t_region ?_
    refine tl_d rfl (d_assign rfl ?_)
    refine tl_nil ?_
    refine q_then_code ?_
    refine t_ret ?_
    refine q_then_ret ?_
    have hr := Option.some.inj hf; subst hr
    refine q_ret (post := fun w w' m v => rBool.val w' m v false) hR _ (.inl rfl) (fun a w hs => ?_)
    exact ⟨_, run_results rfl (RvOk.cons (rv_tmp hs rfl) RvOk.nil), (hs.hv hv_bool)⟩
  · have hf := if_f hb9 hf
    refine t_skip ?_
    refine q_then_code ?_
    refine t_seq ?_
    obtain ⟨c10, hc11, hf⟩ := bind_some hf
    obtain ⟨c16, hc17, hf⟩ := bind_some hf
    refine t_region ?_
    refine tl_d rfl (d_move rfl ?_)
    refine tl_g [] rfl (g_call1 rfl hfn23 (cofferlaw0_Place_ok _ _ _ hc11).weak (Evs.cons rfl (Evs.cons rfl Evs.nil)) (fun a w hs => ⟨(hv_int hw0) _ _ _ _ hs, (hv_int rfl) _ _ _ _ hs⟩) (fun v22 => ?_))
    refine tl_int (mem_at 0 rfl) (fun hv25 hw24 => ?_)
    subst hv25
    refine tl_d rfl (d_add rfl rfl ?_)
    refine tl_d rfl (d_move rfl ?_)
    refine tl_g [] rfl (g_call1 rfl hfn23 (cofferlaw0_Place_ok _ _ _ hc17).weak (Evs.cons rfl (Evs.cons rfl Evs.nil)) (fun a w hs => ⟨(hv_int hw1) _ _ _ _ hs, (hv_int rfl) _ _ _ _ hs⟩) (fun v26 => ?_))
    refine tl_int (mem_at 0 rfl) (fun hv29 hw28 => ?_)
    subst hv29
    refine tl_d rfl (d_add rfl rfl ?_)
    refine tl_d rfl (d_assign rfl ?_)
    refine tl_d rfl (d_assign rfl ?_)
    refine tl_nil ?_
    refine q_then_code ?_
    refine t_seq ?_
    obtain ⟨c32, hc33, hf⟩ := bind_some hf
    refine t_region ?_
    refine tl_g [] rfl (g_buildSlice (R := (rInt .u8)) (l := [(108 : Int), (101 : Int), (97 : Int), (102 : Int)]) rfl Try.underlying32 ty5 ⟨rfl, by decide, by decide, by decide⟩ (PartsOk.cons rfl rfl (hv_int rfl) (PartsOk.cons rfl rfl (hv_int rfl) (PartsOk.cons rfl rfl (hv_int rfl) (PartsOk.cons rfl rfl (hv_int rfl) PartsOk.nil)))) rfl (fun v37 => ?_))
    refine tl_g _ rfl (g_mark 0 rfl rfl rfl (by simp) Try.underlying32 Try.underlying5 (List.mem_singleton_self _) ?_)
    refine tl_g [] rfl (g_call1 rfl hfn24 (cofferlaw17_Of_ok _ _ _ _ hc33).weak (Evs.cons rfl Evs.nil) (fun a w hs => (hv_fact (mem_at 0 rfl)) _ _ _ _ hs) (fun v39 => ?_))
    refine tl_g [] rfl (g_alloc rfl ty34 (fun b41 => ?_))
    refine tl_g _ rfl (g_store_box 1 rfl rfl rfl (Fld.self rApi_Object) trivial (hv_fact (mem_at 0 rfl)) ty34 (List.mem_singleton_self _) ?_)
    refine tl_nil ?_
    refine q_then_code ?_
    refine t_seq ?_
    refine t_region ?_
    refine tl_d rfl (d_load_box 1 rfl rfl (Fld.self rApi_Object) trivial ty34 rfl (fun v45 => ?_))
    refine tl_g [] rfl (g_buildSlice (R := rApi_Object) (l := [c32]) rfl Try.underlying22 ty34 ⟨rfl, by decide, by decide, by decide⟩ (PartsOk.cons rfl rfl (hv_fact (mem_at 0 rfl)) PartsOk.nil) rfl (fun v47 => ?_))
    refine tl_d rfl (d_assign rfl ?_)
    refine tl_nil ?_
    refine q_then_code ?_
    refine t_seq ?_
    refine t_region ?_
    refine tl_d rfl (d_field_own rfl fo34_0 ?_)
    refine tl_d rfl (d_load_box 1 rfl rfl (Fld.at0 fl_Api_Object_Of) trivial ty29 rfl (fun v51 => ?_))
    refine tl_g [] rfl (g_alloc rfl ty29 (fun b53 => ?_))
    refine tl_g _ rfl (g_store_box 3 rfl rfl rfl (Fld.self (rArr 32 (rInt .u8))) trivial (hv_fact (mem_at 0 rfl)) ty29 (List.mem_singleton_self _) ?_)
    refine tl_d rfl (d_assign rfl ?_)
    refine tl_d rfl (d_assign rfl ?_)
    refine tl_nil ?_
    refine q_then_code ?_
    refine t_seq ?_
    refine t_region ?_
    refine tl_d rfl (d_assign rfl ?_)
    refine tl_d rfl (d_assign rfl ?_)
    refine tl_nil ?_
    refine q_then_code ?_
    refine t_seq ?_
    refine t_seq ?_
    refine t_region ?_
    refine tl_d rfl (d_assign rfl ?_)
    refine tl_nil ?_
    refine q_then_code ?_
    refine t_block ?_
    obtain ⟨o175, ho176, hf⟩ := bind_some hf
    refine t_loop (X := (List Api_Object) × (List Int) × Int × Int × Int × Int × Int × Value) (O := (List Api_Object) × (List Int) × Int × Int) (fun kl x => match x with | (s54, s56, s57, s58, s59, s60, s61, z55) => cofferlaw17_WalkWide.l0 c10 c16 kl s54 s56 s57 s58 s59 s60 s61) o175 (fun x => match x with | (s54, s56, s57, s58, s59, s60, s61, z55) => (([(0, (.int .i64 (IntKind.i64.wrap ((1 : Int) + c10)))), (1, (.int .i64 (IntKind.i64.wrap ((1 : Int) + c16)))), (6, z55), (7, .pointer (some ⟨b53, 0, none⟩)), (8, .int .i64 s57), (9, .int .i64 s58), (10, .int .i64 s59), (11, .int .i64 s60), (12, .int .i64 s61)], [], [Own.buf z55 56 rApi_Object s54, Own.box b53 (rArr 32 (rInt .u8)) s56]) : Sym)) (fun x => match x with | (s54, s56, s57, s58, s59, s60, s61, z55) => IntKind.i64.wrap s57 = s57 ∧ IntKind.i64.wrap s58 = s58 ∧ IntKind.i64.wrap s59 = s59 ∧ IntKind.i64.wrap s60 = s60 ∧ IntKind.i64.wrap s61 = s61) k ([c32], ((c32).Of), (1 : Int), (4 : Int), (1 : Int), (1 : Int), (0 : Int), v47) ho176 ⟨rfl, rfl, rfl, rfl, rfl⟩ ⟨rfl, ⟨rfl, ⟨rfl, ⟨rfl, ⟨rfl, ⟨rfl, ⟨rfl, ⟨rfl, ⟨rfl, trivial⟩⟩⟩⟩⟩⟩⟩⟩⟩ trivial [2, 3] (Sel.cons rfl (Sel.cons rfl Sel.nil)) rfl ?_
    clear ho176
    rintro k65 ⟨s54, s56, s57, s58, s59, s60, s61, z55⟩ ⟨hw_s57, hw_s58, hw_s59, hw_s60, hw_s61⟩ hk64
    have hout62 := hf; clear hf
    obtain ⟨kq63, rfl⟩ : ∃ q, k65 = q + 1 := by cases k65 with | zero => cases hk64 | succ q => exact ⟨q, rfl⟩
    have hf := hk64
    clear hk64; dsimp only [cofferlaw17_WalkWide.l0] at hf
    refine t_seq ?_
    refine t_seq ?_
    refine t_region ?_
    refine tl_d rfl (d_move rfl ?_)
    refine tl_d rfl (d_move rfl ?_)
    refine tl_d rfl (d_lss rfl rfl ?_)
    refine tl_nil ?_
    refine q_then_code ?_
    refine t_cond rfl (fun hb66 => ?_) (fun hb66 => ?_)
    · have hf := if_t hb66 hf
      refine t_skip ?_
      refine q_then_code ?_
      refine t_seq ?_
      refine t_block ?_
      refine t_seq ?_
      refine t_region ?_
      refine tl_d rfl (d_assign rfl ?_)
      refine tl_nil ?_
      refine q_then_code ?_
      refine t_seq ?_
      refine t_seq ?_
      refine t_region ?_
      refine tl_d rfl (d_assign rfl ?_)
      refine tl_nil ?_
      refine q_then_code ?_
      refine t_block ?_
      refine t_nilbuf 64 rApi_Item ?_
      obtain ⟨o119, ho120, hf⟩ := bind_some hf
      refine t_loop (X := (List Api_Item) × Int × Value) (O := (List Api_Item)) (fun kl x => match x with | (s67, s69, z68) => cofferlaw17_WalkWide.l1 c16 s57 s56 s58 kl s67 s69) o119 (fun x => match x with | (s67, s69, z68) => (([(0, (.int .i64 (IntKind.i64.wrap ((1 : Int) + c10)))), (1, (.int .i64 (IntKind.i64.wrap ((1 : Int) + c16)))), (6, z55), (7, .pointer (some ⟨b53, 0, none⟩)), (8, (.int .i64 s57)), (9, (.int .i64 s58)), (10, (.int .i64 s59)), (11, (.int .i64 s60)), (12, (.int .i64 s61)), (13, z68), (14, .int .i64 s69)], [], [Own.buf z55 56 rApi_Object s54, Own.box b53 (rArr 32 (rInt .u8)) s56, Own.buf z68 64 rApi_Item s67]) : Sym)) (fun x => match x with | (s67, s69, z68) => IntKind.i64.wrap s69 = s69) kq63 (([] : List Api_Item), (0 : Int), (.slice none 0 0)) ho120 rfl ⟨rfl, ⟨rfl, ⟨rfl, ⟨rfl, ⟨rfl, ⟨rfl, ⟨rfl, ⟨rfl, ⟨rfl, ⟨rfl, ⟨rfl, trivial⟩⟩⟩⟩⟩⟩⟩⟩⟩⟩⟩ trivial [0, 1, 2] (Sel.cons rfl (Sel.cons rfl (Sel.cons rfl Sel.nil))) rfl ?_
      clear ho120
      rintro k73 ⟨s67, s69, z68⟩ hw_s69 hk72
      have hout70 := hf; clear hf
      obtain ⟨kq71, rfl⟩ : ∃ q, k73 = q + 1 := by cases k73 with | zero => cases hk72 | succ q => exact ⟨q, rfl⟩
      have hf := hk72
      clear hk72; dsimp only [cofferlaw17_WalkWide.l1] at hf
      refine t_seq ?_
      refine t_seq ?_
      refine t_region ?_
      refine tl_d rfl (d_move rfl ?_)
      refine tl_d rfl (d_move rfl ?_)
      refine tl_d rfl (d_lss rfl rfl ?_)
      refine tl_nil ?_
      refine q_then_code ?_
      refine t_cond rfl (fun hb74 => ?_) (fun hb74 => ?_)
      · have hf := if_t hb74 hf
        refine t_skip ?_
        refine q_then_code ?_
        refine t_seq ?_
        refine t_block ?_
        obtain ⟨hn84, hf⟩ := need_some hf
        refine t_region ?_
        refine tl_d rfl (d_move rfl ?_)
        refine tl_d rfl (d_move rfl ?_)
        refine tl_d rfl (d_add rfl rfl ?_)
        refine tl_d rfl (d_conv Try.underlying3 Try.underlying5 rfl ?_)
        refine tl_g [] rfl (g_buildSlice (R := (rInt .u8)) (l := [(IntKind.u8.wrap (IntKind.i64.wrap ((97 : Int) + s69)))]) rfl Try.underlying32 ty5 ⟨rfl, by decide, by decide, by decide⟩ (PartsOk.cons rfl rfl (hv_int (wrap_wrap _ _)) PartsOk.nil) rfl (fun v86 => ?_))
        refine tl_freeze 3 rfl ?_
        refine tl_d rfl (d_bytes_str rfl (mem_at 0 rfl) Try.underlying32 Try.underlying5 Try.underlying9 (fun v88 => ?_))
        refine tl_d rfl (d_move rfl ?_)
        refine tl_d rfl (d_load_box 1 rfl rfl (Fld.self (rArr 32 (rInt .u8))) trivial ty29 rfl (fun v90 => ?_))
        refine tl_d rfl (d_move rfl ?_)
        refine tl_d rfl (d_build2 (y := (⟨[(IntKind.u8.wrap (IntKind.i64.wrap ((97 : Int) + s69)))], s57, s56, s58⟩ : Api_Item)) ty54 rfl pl54 (BuildOk.cons rfl fl_Api_Item_Name trivial rfl (hv_fact (mem_at 1 rfl)) (BuildOk.cons rfl fl_Api_Item_Kind trivial rfl (hv_int hw_s57) (BuildOk.cons rfl fl_Api_Item_Of trivial rfl (hv_fact (mem_at 0 rfl)) (BuildOk.cons rfl fl_Api_Item_Size trivial rfl (hv_int hw_s58) BuildOk.nil)))) (fun v92 => ?_))
        refine tl_g [] rfl (g_buildSlice (R := rApi_Item) (l := [(⟨[(IntKind.u8.wrap (IntKind.i64.wrap ((97 : Int) + s69)))], s57, s56, s58⟩ : Api_Item)]) rfl Try.underlying52 ty54 ⟨rfl, by decide, by decide, by decide⟩ (PartsOk.cons rfl rfl (hv_fact (mem_at 0 rfl)) PartsOk.nil) rfl (fun v94 => ?_))
        refine tl_M [Own.buf z55 56 rApi_Object s54, Own.box b53 (rArr 32 (rInt .u8)) s56, Own.buf z68 64 rApi_Item s67, Own.gone, Own.buf v94 64 rApi_Item [(⟨[(IntKind.u8.wrap (IntKind.i64.wrap ((97 : Int) + s69)))], s57, s56, s58⟩ : Api_Item)]] rfl ?_
        refine tl_g _ rfl (g_append_buf 2 4 rfl rfl rfl rfl rfl rfl Try.underlying52 ⟨_, Try.underlying52, fun k h => by cases h⟩ ty54 hn84 (List.mem_singleton_self _) (fun v95 => ?_))
        refine tl_M [Own.buf z55 56 rApi_Object s54, Own.box b53 (rArr 32 (rInt .u8)) s56, Own.buf v95 64 rApi_Item (s67 ++ [(⟨[(IntKind.u8.wrap (IntKind.i64.wrap ((97 : Int) + s69)))], s57, s56, s58⟩ : Api_Item)]), Own.gone, Own.buf v94 64 rApi_Item [(⟨[(IntKind.u8.wrap (IntKind.i64.wrap ((97 : Int) + s69)))], s57, s56, s58⟩ : Api_Item)]] rfl ?_
        refine tl_d rfl (d_assign rfl ?_)
        refine tl_nil ?_
        refine q_block_normal ?_
        refine q_then_code ?_
        refine t_region ?_
        refine tl_d rfl (d_move rfl ?_)
        refine tl_d rfl (d_add rfl rfl ?_)
        refine tl_d rfl (d_assign rfl ?_)
        refine tl_nil ?_
        exact q_round kq71 ((s67 ++ [(⟨[(IntKind.u8.wrap (IntKind.i64.wrap ((97 : Int) + s69)))], s57, s56, s58⟩ : Api_Item)]), (IntKind.i64.wrap (s69 + (1 : Int))), v95) (Nat.lt_succ_self kq71) (wrap_wrap _ _) hf ⟨rfl, ⟨rfl, ⟨rfl, ⟨rfl, ⟨rfl, ⟨rfl, ⟨rfl, ⟨rfl, ⟨rfl, ⟨rfl, ⟨rfl, trivial⟩⟩⟩⟩⟩⟩⟩⟩⟩⟩⟩ trivial [0, 1, 2] (Sel.cons rfl (Sel.cons rfl (Sel.cons rfl Sel.nil))) rfl
      · have hf := if_f hb74 hf
        refine t_exit ?_
        refine q_then_exit ?_
        refine q_then_exit ?_
        have hr := Option.some.inj hf; try subst hr
        have hf := hout70
        try dsimp only at hf
        refine q_block_hit ?_
        refine q_then_code ?_
        refine t_seq ?_
        obtain ⟨c97, hc98, hf⟩ := bind_some hf
        refine t_region ?_
        refine tl_d rfl (d_move rfl ?_)
        refine tl_freeze 2 rfl ?_
        refine tl_g [] rfl (g_call1 rfl hfn25 (cofferlaw17_Folder_ok _ _ _ _ hc98).weak (Evs.cons rfl Evs.nil) (fun a w hs => (hv_fact (mem_at 0 rfl)) _ _ _ _ hs) (fun v103 => ?_))
        refine tl_g [] rfl (g_alloc rfl ty34 (fun b105 => ?_))
        refine tl_g _ rfl (g_store_box 3 rfl rfl rfl (Fld.self rApi_Object) trivial (hv_fact (mem_at 0 rfl)) ty34 (List.mem_singleton_self _) ?_)
        refine tl_nil ?_
        refine q_then_code ?_
        refine t_seq ?_
        obtain ⟨hn109, hf⟩ := need_some hf
        refine t_region ?_
        refine tl_d rfl (d_move rfl ?_)
        refine tl_d rfl (d_load_box 3 rfl rfl (Fld.self rApi_Object) trivial ty34 rfl (fun v111 => ?_))
        refine tl_g [] rfl (g_buildSlice (R := rApi_Object) (l := [c97]) rfl Try.underlying22 ty34 ⟨rfl, by decide, by decide, by decide⟩ (PartsOk.cons rfl rfl (hv_fact (mem_at 0 rfl)) PartsOk.nil) rfl (fun v113 => ?_))
        refine tl_M [Own.buf z55 56 rApi_Object s54, Own.box b53 (rArr 32 (rInt .u8)) s56, Own.gone, Own.box b105 rApi_Object c97, Own.buf v113 56 rApi_Object [c97]] rfl ?_
        refine tl_g _ rfl (g_append_buf 0 4 rfl rfl rfl rfl rfl rfl Try.underlying22 ⟨_, Try.underlying22, fun k h => by cases h⟩ ty34 hn109 (List.mem_singleton_self _) (fun v114 => ?_))
        refine tl_M [Own.buf v114 56 rApi_Object (s54 ++ [c97]), Own.box b53 (rArr 32 (rInt .u8)) s56, Own.gone, Own.box b105 rApi_Object c97, Own.buf v113 56 rApi_Object [c97]] rfl ?_
        refine tl_d rfl (d_assign rfl ?_)
        refine tl_nil ?_
        refine q_then_code ?_
        refine t_seq ?_
        refine t_region ?_
        refine tl_d rfl (d_field_own rfl fo34_0 ?_)
        refine tl_d rfl (d_load_box 3 rfl rfl (Fld.at0 fl_Api_Object_Of) trivial ty29 rfl (fun v117 => ?_))
        refine tl_g _ rfl (g_store_box 1 rfl rfl rfl (Fld.self (rArr 32 (rInt .u8))) trivial (hv_fact (mem_at 0 rfl)) ty29 (List.mem_singleton_self _) ?_)
        refine tl_M [Own.buf v114 56 rApi_Object (s54 ++ [c97]), Own.box b53 (rArr 32 (rInt .u8)) ((c97).Of), Own.gone, Own.box b105 rApi_Object c97, Own.buf v113 56 rApi_Object [c97]] rfl ?_
        refine tl_d rfl (d_assign rfl ?_)
        refine tl_d rfl (d_assign rfl ?_)
        refine tl_nil ?_
        refine q_then_code ?_
        refine t_seq ?_
        refine t_region ?_
        refine tl_d rfl (d_move rfl ?_)
        refine tl_d rfl (d_move rfl ?_)
        refine tl_d rfl (d_mul rfl rfl ?_)
        refine tl_d rfl (d_assign rfl ?_)
        refine tl_nil ?_
        refine q_then_code ?_
        refine t_region ?_
        refine tl_d rfl (d_move rfl ?_)
        refine tl_d rfl (d_move rfl ?_)
        refine tl_d rfl (d_add rfl rfl ?_)
        refine tl_d rfl (d_assign rfl ?_)
        refine tl_nil ?_
        refine q_block_normal ?_
        refine q_then_code ?_
        refine t_region ?_
        refine tl_d rfl (d_move rfl ?_)
        refine tl_d rfl (d_add rfl rfl ?_)
        refine tl_d rfl (d_assign rfl ?_)
        refine tl_nil ?_
        exact q_round kq63 ((s54 ++ [c97]), ((c97).Of), (2 : Int), (0 : Int), (IntKind.i64.wrap (s59 + (IntKind.i64.wrap (s60 * (IntKind.i64.wrap ((1 : Int) + c16)))))), (IntKind.i64.wrap (s60 * (IntKind.i64.wrap ((1 : Int) + c16)))), (IntKind.i64.wrap (s61 + (1 : Int))), v114) (Nat.lt_succ_self kq63) ⟨rfl, rfl, (wrap_wrap _ _), (wrap_wrap _ _), (wrap_wrap _ _)⟩ hf ⟨rfl, ⟨rfl, ⟨rfl, ⟨rfl, ⟨rfl, ⟨rfl, ⟨rfl, ⟨rfl, ⟨rfl, trivial⟩⟩⟩⟩⟩⟩⟩⟩⟩ trivial [0, 1] (Sel.cons rfl (Sel.cons rfl Sel.nil)) rfl
    · have hf := if_f hb66 hf
      refine t_exit ?_
      refine q_then_exit ?_
      refine q_then_exit ?_
      have hr := Option.some.inj hf; try subst hr
      have hf := hout62
      try dsimp only at hf
      refine q_block_hit ?_
      refine q_then_code ?_
      refine t_seq ?_
      obtain ⟨c123, hc124, hf⟩ := bind_some hf
      refine t_region ?_
      refine tl_d rfl (d_move rfl ?_)
      refine tl_d rfl (d_load_box 1 rfl rfl (Fld.self (rArr 32 (rInt .u8))) trivial ty29 rfl (fun v131 => ?_))
      refine tl_g [] rfl (g_callo2 rfl hfn18 (FnX.flat (fun _ _ _ _ _ ⟨v0, v1, e, h0, h1⟩ => ⟨v0, v1, e, Flat.own (Flat.arr Flat.int) h0, fun m' hm' => Flat.val Flat.int (h1 [] (by intro b hb; cases hb))⟩) (walk_Close_ok _ _ _ _ _ _ hc124)) (Evs.cons rfl (Evs.cons rfl Evs.nil)) (fun a w hs => bor_one hs 0 rfl (fun hs1 => bor_end hs1 ⟨(hv_fact (mem_at 0 rfl)) _ _ _ _ hs1, (hv_fact (mem_at 1 rfl)) _ _ _ _ hs1⟩)) (fun v133 v134 => ?_))
      refine tl_int (mem_at 0 rfl) (fun hv138 hw137 => ?_)
      subst hv138
      refine tl_d rfl (d_move rfl ?_)
      refine tl_d rfl (d_extract rfl rfl ?_)
      refine tl_d rfl (d_extract rfl rfl ?_)
      refine tl_d rfl (d_assign rfl ?_)
      refine tl_d rfl (d_assign rfl ?_)
      refine tl_nil ?_
      refine q_then_code ?_
      refine t_seq ?_
      obtain ⟨c142, hc143, hf⟩ := bind_some hf
      refine t_region ?_
      refine tl_d rfl (d_move rfl ?_)
      refine tl_d rfl (d_load_box 1 rfl rfl (Fld.self (rArr 32 (rInt .u8))) trivial ty29 rfl (fun v150 => ?_))
      refine tl_freeze 0 rfl ?_
      refine tl_g [] rfl (g_callo2 rfl hfn19 (walk_Files_ok _ _ _ _ _ _ hc143).weak (Evs.cons rfl (Evs.cons rfl Evs.nil)) (fun a w hs => ⟨(hv_fact (mem_at 0 rfl)) _ _ _ _ hs, (hv_fact (mem_at 1 rfl)) _ _ _ _ hs⟩) (fun v153 v154 => ?_))
      refine tl_int (mem_at 0 rfl) (fun hv158 hw157 => ?_)
      subst hv158
      refine tl_d rfl (d_move rfl ?_)
      refine tl_d rfl (d_extract rfl rfl ?_)
      refine tl_d rfl (d_extract rfl rfl ?_)
      refine tl_d rfl (d_assign rfl ?_)
      refine tl_d rfl (d_assign rfl ?_)
      refine tl_nil ?_
      refine q_then_code ?_
      refine t_seq ?_
      refine t_seq ?_
      refine t_region ?_
      refine tl_d rfl (d_move rfl ?_)
      refine tl_d rfl (d_gtr rfl rfl ?_)
      refine tl_nil ?_
      refine q_then_code ?_
      refine t_cond rfl (fun hb159 => ?_) (fun hb159 => ?_)
      · have hf := if_t hb159 hf
        refine t_seq ?_
        obtain ⟨o162, ho163, hf⟩ := bind_some hf
        refine t_cut (X := Bool) (fun x => match x with | s161 => (([(4, .bool s161)], [], []) : Sym)) (fun x => match x with | s161 => s161 = o162) ?_ ?_
        · have hf := ho163; clear ho163
          rcases bool_tf (decide (c123.2 = (2 : Int))) with hb160 | hb160
          · have hf := if_t hb160 hf
            refine t_region ?_
            refine tl_d rfl (d_move rfl ?_)
            refine tl_d rfl (d_eql rfl rfl ?_)
            refine tl_d rfl (d_move rfl ?_)
            refine tl_dg (gd_on rfl rfl rfl hb160) rfl (d_move rfl ?_)
            refine tl_dg (gd_on rfl rfl rfl hb160) rfl (d_eql rfl rfl ?_)
            refine tl_d rfl (d_pick_true rfl hb160 rfl ?_)
            refine tl_d rfl (d_assign rfl ?_)
            refine tl_nil ?_
            have hr := Option.some.inj hf; subst hr
            exact q_cut (decide (c142.2 = (2 : Int))) rfl ⟨rfl, trivial⟩ trivial [] (Sel.nil) rfl
          · have hf := if_f hb160 hf
            refine t_region ?_
            refine tl_d rfl (d_move rfl ?_)
            refine tl_d rfl (d_eql rfl rfl ?_)
            refine tl_d rfl (d_move rfl ?_)
            refine tl_off (gd_off rfl rfl rfl hb160) rfl rfl ?_
            refine tl_off (gd_off rfl rfl rfl hb160) rfl rfl ?_
            refine tl_d rfl (d_pick_false rfl hb160 rfl ?_)
            refine tl_d rfl (d_assign rfl ?_)
            refine tl_nil ?_
            have hr := Option.some.inj hf; subst hr
            exact q_cut false rfl ⟨rfl, trivial⟩ trivial [] (Sel.nil) rfl
        rintro s161 rfl
        refine q_then_code ?_
        refine t_ret ?_
        refine q_then_ret ?_
        have hr := Option.some.inj hf; subst hr
        refine q_ret (post := fun w w' m v => rBool.val w' m v s161) hR _ (.inl rfl) (fun a w hs => ?_)
        exact ⟨_, run_results rfl (RvOk.cons (rv_tmp hs rfl) RvOk.nil), (hs.hv hv_bool)⟩
      · have hf := if_f hb159 hf
        refine t_skip ?_
        refine q_then_code ?_
        refine t_seq ?_
        obtain ⟨o170, ho171, hf⟩ := bind_some hf
        refine t_cut (X := Bool) (fun x => match x with | s169 => (([(4, .bool s169)], [], []) : Sym)) (fun x => match x with | s169 => s169 = o170) ?_ ?_
        · have hf := ho171; clear ho171
          rcases bool_tf (decide (c123.2 = (0 : Int))) with hb164 | hb164
          · have hf := if_t hb164 hf
            rcases bool_tf (decide (c142.2 = (0 : Int))) with hb165 | hb165
            · have hf := if_t hb165 hf
              rcases bool_tf (decide (((c123.1).length : Int) = (IntKind.i64.wrap ((IntKind.i64.wrap ((1 : Int) + c10)) + (1 : Int))))) with hb167 | hb167
              · have hf := if_t hb167 hf
                refine t_region ?_
                refine tl_d rfl (d_move rfl ?_)
                refine tl_d rfl (d_eql rfl rfl ?_)
                refine tl_d rfl (d_move rfl ?_)
                refine tl_dg (gd_on rfl rfl rfl hb164) rfl (d_move rfl ?_)
                refine tl_dg (gd_on rfl rfl rfl hb164) rfl (d_eql rfl rfl ?_)
                refine tl_d rfl (d_pick_true rfl hb164 rfl ?_)
                refine tl_d rfl (d_move rfl ?_)
                refine tl_dg (gd_on rfl rfl rfl hb165) rfl (d_move rfl ?_)
                refine tl_dg (gd_on rfl rfl rfl hb165) rfl (d_len_buf 2 rfl rfl Try.underlying23 (fun hl172 _ => ?_))
                refine tl_dg (gd_on rfl rfl rfl hb165) rfl (d_move rfl ?_)
                refine tl_dg (gd_on rfl rfl rfl hb165) rfl (d_add rfl rfl ?_)
                refine tl_dg (gd_on rfl rfl rfl hb165) rfl (d_eql rfl rfl ?_)
                refine tl_d rfl (d_pick_true rfl hb165 rfl ?_)
                refine tl_d rfl (d_move rfl ?_)
                refine tl_dg (gd_on rfl rfl rfl hb167) rfl (d_move rfl ?_)
                refine tl_dg (gd_on rfl rfl rfl hb167) rfl (d_len_buf 3 rfl rfl Try.underlying40 (fun hl173 _ => ?_))
                refine tl_dg (gd_on rfl rfl rfl hb167) rfl (d_move rfl ?_)
                refine tl_dg (gd_on rfl rfl rfl hb167) rfl (d_eql rfl rfl ?_)
                refine tl_d rfl (d_pick_true rfl hb167 rfl ?_)
                refine tl_d rfl (d_assign rfl ?_)
                refine tl_nil ?_
                have hr := Option.some.inj hf; subst hr
                exact q_cut (decide (((c142.1).length : Int) = s60)) rfl ⟨rfl, trivial⟩ trivial [] (Sel.nil) rfl
              · have hf := if_f hb167 hf
                refine t_region ?_
                refine tl_d rfl (d_move rfl ?_)
                refine tl_d rfl (d_eql rfl rfl ?_)
                refine tl_d rfl (d_move rfl ?_)
                refine tl_dg (gd_on rfl rfl rfl hb164) rfl (d_move rfl ?_)
                refine tl_dg (gd_on rfl rfl rfl hb164) rfl (d_eql rfl rfl ?_)
                refine tl_d rfl (d_pick_true rfl hb164 rfl ?_)
                refine tl_d rfl (d_move rfl ?_)
                refine tl_dg (gd_on rfl rfl rfl hb165) rfl (d_move rfl ?_)
                refine tl_dg (gd_on rfl rfl rfl hb165) rfl (d_len_buf 2 rfl rfl Try.underlying23 (fun hl174 _ => ?_))
                refine tl_dg (gd_on rfl rfl rfl hb165) rfl (d_move rfl ?_)
                refine tl_dg (gd_on rfl rfl rfl hb165) rfl (d_add rfl rfl ?_)
                refine tl_dg (gd_on rfl rfl rfl hb165) rfl (d_eql rfl rfl ?_)
                refine tl_d rfl (d_pick_true rfl hb165 rfl ?_)
                refine tl_d rfl (d_move rfl ?_)
                refine tl_off (gd_off rfl rfl rfl hb167) rfl rfl ?_
                refine tl_off (gd_off rfl rfl rfl hb167) rfl rfl ?_
                refine tl_off (gd_off rfl rfl rfl hb167) rfl rfl ?_
                refine tl_off (gd_off rfl rfl rfl hb167) rfl rfl ?_
                refine tl_d rfl (d_pick_false rfl hb167 rfl ?_)
                refine tl_d rfl (d_assign rfl ?_)
                refine tl_nil ?_
                have hr := Option.some.inj hf; subst hr
                exact q_cut false rfl ⟨rfl, trivial⟩ trivial [] (Sel.nil) rfl
            · have hf := if_f hb165 hf
              refine t_region ?_
              refine tl_d rfl (d_move rfl ?_)
              refine tl_d rfl (d_eql rfl rfl ?_)
              refine tl_d rfl (d_move rfl ?_)
              refine tl_dg (gd_on rfl rfl rfl hb164) rfl (d_move rfl ?_)
              refine tl_dg (gd_on rfl rfl rfl hb164) rfl (d_eql rfl rfl ?_)
              refine tl_d rfl (d_pick_true rfl hb164 rfl ?_)
              refine tl_d rfl (d_move rfl ?_)
              refine tl_off (gd_off rfl rfl rfl hb165) rfl rfl ?_
              refine tl_off (gd_off rfl rfl rfl hb165) rfl rfl ?_
              refine tl_off (gd_off rfl rfl rfl hb165) rfl rfl ?_
              refine tl_off (gd_off rfl rfl rfl hb165) rfl rfl ?_
              refine tl_off (gd_off rfl rfl rfl hb165) rfl rfl ?_
              refine tl_d rfl (d_pick_false rfl hb165 rfl ?_)
              refine tl_d rfl (d_move rfl ?_)
              refine tl_off (gd_off rfl rfl rfl rfl) rfl rfl ?_
              refine tl_off (gd_off rfl rfl rfl rfl) rfl rfl ?_
              refine tl_off (gd_off rfl rfl rfl rfl) rfl rfl ?_
              refine tl_off (gd_off rfl rfl rfl rfl) rfl rfl ?_
              refine tl_d rfl (d_pick_false rfl rfl rfl ?_)
              refine tl_d rfl (d_assign rfl ?_)
              refine tl_nil ?_
              have hr := Option.some.inj hf; subst hr
              exact q_cut false rfl ⟨rfl, trivial⟩ trivial [] (Sel.nil) rfl
          · have hf := if_f hb164 hf
            refine t_region ?_
            refine tl_d rfl (d_move rfl ?_)
            refine tl_d rfl (d_eql rfl rfl ?_)
            refine tl_d rfl (d_move rfl ?_)
            refine tl_off (gd_off rfl rfl rfl hb164) rfl rfl ?_
            refine tl_off (gd_off rfl rfl rfl hb164) rfl rfl ?_
            refine tl_d rfl (d_pick_false rfl hb164 rfl ?_)
            refine tl_d rfl (d_move rfl ?_)
            refine tl_off (gd_off rfl rfl rfl rfl) rfl rfl ?_
            refine tl_off (gd_off rfl rfl rfl rfl) rfl rfl ?_
            refine tl_off (gd_off rfl rfl rfl rfl) rfl rfl ?_
            refine tl_off (gd_off rfl rfl rfl rfl) rfl rfl ?_
            refine tl_off (gd_off rfl rfl rfl rfl) rfl rfl ?_
            refine tl_d rfl (d_pick_false rfl rfl rfl ?_)
            refine tl_d rfl (d_move rfl ?_)
            refine tl_off (gd_off rfl rfl rfl rfl) rfl rfl ?_
            refine tl_off (gd_off rfl rfl rfl rfl) rfl rfl ?_
            refine tl_off (gd_off rfl rfl rfl rfl) rfl rfl ?_
            refine tl_off (gd_off rfl rfl rfl rfl) rfl rfl ?_
            refine tl_d rfl (d_pick_false rfl rfl rfl ?_)
            refine tl_d rfl (d_assign rfl ?_)
            refine tl_nil ?_
            have hr := Option.some.inj hf; subst hr
            exact q_cut false rfl ⟨rfl, trivial⟩ trivial [] (Sel.nil) rfl
        rintro s169 rfl
        refine q_then_code ?_
        refine t_ret ?_
        have hr := Option.some.inj hf; subst hr
        refine q_ret (post := fun w w' m v => rBool.val w' m v s169) hR _ (.inl rfl) (fun a w hs => ?_)
        exact ⟨_, run_results rfl (RvOk.cons (rv_tmp hs rfl) RvOk.nil), (hs.hv hv_bool)⟩

end Go.Proofs.Ytbcipfhhmkjigaa
