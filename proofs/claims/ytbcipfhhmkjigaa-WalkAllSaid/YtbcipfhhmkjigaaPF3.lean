/- Functions of the program as plain Lean functions, each with the proof that the call comes to it. -/
import Derived.Test.YtbcipfhhmkjigaaPF2
set_option linter.unusedVariables false
open Go Go.Cf Go.Proofs
namespace Go.Proofs.Ytbcipfhhmkjigaa

def cofferref17_With.l0 (a0 : (List (List Int))) (a1 : (List Int)) : Nat → Int → Option (Int)
  | 0, _ => none
  | k + 1, s3 => ((if (decide (s3 < ((a0).length : Int))) = true then (need (0 ≤ s3 ∧ s3 < ((a0).length : Int)) ((cofferref9_Less.f ((a0).getD (s3).toNat (rArr 32 (rInt .u8)).zeroD) a1).bind fun c17 => (some c17))) else (some false))).bind fun s22 => (if s22 = true then (cofferref17_With.l0 a0 a1 k (IntKind.i64.wrap (s3 + (1 : Int)))) else (some (s3)))
def cofferref17_With.f (k : Nat) (a0 : (List (List Int))) (a1 : (List Int)) : Option ((List (List Int))) := (cofferref17_With.l0 a0 a1 k (0 : Int)).bind fun o95 => (match o95 with | s3 => ((if (decide (s3 < ((a0).length : Int))) = true then (need (0 ≤ s3 ∧ s3 < ((a0).length : Int)) ((some (decide (((a0).getD (s3).toNat (rArr 32 (rInt .u8)).zeroD) = a1))))) else (some false))).bind fun s46 => (if s46 = true then (some a0) else (need (0 ≤ (0 : Int) ∧ (0 : Int) ≤ s3 ∧ s3 ≤ ((a0).length : Int)) (need (fits 32 ((([] : List (List Int))).length + ((sub a0 (0 : Int) s3)).length)) (need (fits 32 (((([] : List (List Int)) ++ (sub a0 (0 : Int) s3))).length + ([a1]).length)) (need (0 ≤ s3 ∧ s3 ≤ ((a0).length : Int) ∧ ((a0).length : Int) ≤ ((a0).length : Int)) (need (fits 32 ((((([] : List (List Int)) ++ (sub a0 (0 : Int) s3)) ++ [a1])).length + ((sub a0 s3 ((a0).length : Int))).length)) ((some (((([] : List (List Int)) ++ (sub a0 (0 : Int) s3)) ++ [a1]) ++ (sub a0 s3 ((a0).length : Int))))))))))))
set_option maxRecDepth 100000 in
set_option maxHeartbeats 1980000 in
theorem cofferref17_With_ok (k : Nat) (a0 : (List (List Int))) (a1 : (List Int)) (u0 u1 : Value) (r : (List (List Int))) (hf : cofferref17_With.f k a0 a1 = some r) : Cf.FnX true Try.prog 29 [u0, u1] (fun w m => (rSl 32 (rArr 32 (rInt .u8))).val w m u0 a0 ∧ (rArr 32 (rInt .u8)).val w m u1 a1) (fun w w' m v => (rSl 32 (rArr 32 (rInt .u8))).val w' m v r) := by
  unfold cofferref17_With.f at hf
  refine fn_of Try.func29 rfl (Nat.le_of_ble_eq_true rfl) [(rSl 32 (rArr 32 (rInt .u8))).fact u0 a0, (rArr 32 (rInt .u8)).fact u1 a1] (fun w m h f hf => ?_) ?_
  · simp at hf; rcases hf with rfl | rfl
    · exact h.1
    · exact h.2
  intro w0 m0 R hR
  refine t_seq ?_
  refine t_region ?_
  refine tl_g [] rfl (g_box (R := (rArr 32 (rInt .u8))) rfl rfl (hv_fact (mem_at 1 rfl)) (fun b2 => ?_))
  refine tl_d rfl (d_assign rfl ?_)
  refine tl_nil ?_
  refine q_then_code ?_
  refine t_seq ?_
  refine t_region ?_
  refine tl_d rfl (d_assign rfl ?_)
  refine tl_nil ?_
  refine q_then_code ?_
  refine t_seq ?_
  refine t_block ?_
  obtain ⟨o95, ho96, hf⟩ := bind_some hf
  refine t_loop (X := Int) (O := Int) (fun kl x => match x with | s3 => cofferref17_With.l0 a0 a1 kl s3) o95 (fun x => match x with | s3 => (([(0, u0), (3, .pointer (some ⟨b2, 0, none⟩)), (5, .int .i64 s3)], [(rSl 32 (rArr 32 (rInt .u8))).fact u0 a0], [Own.box b2 (rArr 32 (rInt .u8)) a1]) : Sym)) (fun x => match x with | s3 => IntKind.i64.wrap s3 = s3) k (0 : Int) ho96 rfl ⟨rfl, ⟨rfl, ⟨rfl, trivial⟩⟩⟩ ⟨mem_at 0 rfl, trivial⟩ [0] (Sel.cons rfl Sel.nil) rfl ?_
  clear ho96
  rintro k7 s3 hw_s3 hk6
  have hout4 := hf; clear hf
  obtain ⟨kq5, rfl⟩ : ∃ q, k7 = q + 1 := by cases k7 with | zero => cases hk6 | succ q => exact ⟨q, rfl⟩
  have hf := hk6
  clear hk6; dsimp only [cofferref17_With.l0] at hf
  refine t_seq ?_
  refine t_seq ?_
  obtain ⟨o23, ho24, hf⟩ := bind_some hf
  refine t_cut (X := Bool) (fun x => match x with | s22 => (([(0, u0), (3, .pointer (some ⟨b2, 0, none⟩)), (5, (.int .i64 s3)), (17, .bool s22)], [(rSl 32 (rArr 32 (rInt .u8))).fact u0 a0], [Own.box b2 (rArr 32 (rInt .u8)) a1]) : Sym)) (fun x => match x with | s22 => s22 = o23) ?_ ?_
  · have hf := ho24; clear ho24
    rcases bool_tf (decide (s3 < ((a0).length : Int))) with hb9 | hb9
    · have hf := if_t hb9 hf
      obtain ⟨hn10, hf⟩ := need_some hf
      obtain ⟨c17, hc18, hf⟩ := bind_some hf
      refine t_any (n := 12) [] mixed ⟨by kernel_rfl, .inl rfl⟩ (np_cut (np_then (np_then (np_then (np_block (np_then np_body)))))) ?_
      refine ta_take (i := 0) rfl (by kernel_rfl) gd_none (d_move rfl ?_)
      refine ta_take (i := 1) rfl (by kernel_rfl) gd_none (d_move rfl ?_)
      refine ta_take (i := 2) rfl (by kernel_rfl) gd_none (d_len_sl rfl (mem_at 0 rfl) Try.underlying23 (fun hl25 _ => ?_))
      refine ta_take (i := 3) rfl (by kernel_rfl) gd_none (d_lss rfl rfl ?_)
      refine ta_take (i := 4) rfl (by kernel_rfl) gd_none (d_move rfl ?_)
      refine ta_take (i := 5) rfl (by kernel_rfl) (gd_on rfl rfl rfl hb9) (d_move rfl ?_)
      refine ta_take (i := 6) rfl (by kernel_rfl) (gd_on rfl rfl rfl hb9) (d_move rfl ?_)
      refine ta_take (i := 7) rfl (by kernel_rfl) (gd_on rfl rfl rfl hb9) (d_index_sl rfl (mem_at 0 rfl) rfl Try.underlying23 ty29 hn10 (fun p26 => ?_))
      refine ta_take (i := 8) rfl (by kernel_rfl) (gd_on rfl rfl rfl hb9) (d_load_place rfl (mem_at 0 rfl) ty29 (fun v28 => ?_))
      refine ta_take (i := 9) rfl (by kernel_rfl) (gd_on rfl rfl rfl hb9) (d_load_box 0 rfl rfl (Fld.self (rArr 32 (rInt .u8))) trivial ty29 rfl (fun v30 => ?_))
      refine ta_one (i := 10) (by kernel_rfl) rfl rfl (gd_on rfl rfl rfl hb9) (g_call1 rfl hfn45 (cofferref9_Less_ok _ _ _ _ _ hc18) (Evs.cons rfl (Evs.cons rfl Evs.nil)) (fun a w hs => ⟨(hv_fact (mem_at 1 rfl)) _ _ _ _ hs, (hv_fact (mem_at 0 rfl)) _ _ _ _ hs⟩) (fun v32 => ?_))
      refine ta_bool (mem_at 0 rfl) (fun hv34 => ?_)
      subst hv34
      refine ta_take (i := 11) rfl (by kernel_rfl) gd_none (d_pick_true rfl hb9 rfl ?_)
      refine ta_done (by kernel_rfl) ?_
      have hr := Option.some.inj hf; subst hr
      exact q_cut c17 rfl ⟨rfl, ⟨rfl, ⟨rfl, ⟨rfl, trivial⟩⟩⟩⟩ ⟨mem_at 4 rfl, trivial⟩ [0] (Sel.cons rfl Sel.nil) rfl
    · have hf := if_f hb9 hf
      refine t_any (n := 12) [] mixed ⟨by kernel_rfl, .inl rfl⟩ (np_cut (np_then (np_then (np_then (np_block (np_then np_body)))))) ?_
      refine ta_take (i := 0) rfl (by kernel_rfl) gd_none (d_move rfl ?_)
      refine ta_take (i := 1) rfl (by kernel_rfl) gd_none (d_move rfl ?_)
      refine ta_take (i := 2) rfl (by kernel_rfl) gd_none (d_len_sl rfl (mem_at 0 rfl) Try.underlying23 (fun hl35 _ => ?_))
      refine ta_take (i := 3) rfl (by kernel_rfl) gd_none (d_lss rfl rfl ?_)
      refine ta_take (i := 4) rfl (by kernel_rfl) gd_none (d_move rfl ?_)
      refine ta_off (i := 5) rfl (by kernel_rfl) (gd_off rfl rfl rfl hb9) ?_
      refine ta_off (i := 6) rfl (by kernel_rfl) (gd_off rfl rfl rfl hb9) ?_
      refine ta_off (i := 7) rfl (by kernel_rfl) (gd_off rfl rfl rfl hb9) ?_
      refine ta_off (i := 8) rfl (by kernel_rfl) (gd_off rfl rfl rfl hb9) ?_
      refine ta_off (i := 9) rfl (by kernel_rfl) (gd_off rfl rfl rfl hb9) ?_
      refine ta_off (i := 10) rfl (by kernel_rfl) (gd_off rfl rfl rfl hb9) ?_
      refine ta_take (i := 11) rfl (by kernel_rfl) gd_none (d_pick_false rfl hb9 rfl ?_)
      refine ta_done (by kernel_rfl) ?_
      have hr := Option.some.inj hf; subst hr
      exact q_cut false rfl ⟨rfl, ⟨rfl, ⟨rfl, ⟨rfl, trivial⟩⟩⟩⟩ ⟨mem_at 0 rfl, trivial⟩ [0] (Sel.cons rfl Sel.nil) rfl
  rintro s22 rfl
  refine q_then_code ?_
  refine t_cond rfl (fun hb36 => ?_) (fun hb36 => ?_)
  · have hf := if_t hb36 hf
    refine t_skip ?_
    refine q_then_code ?_
    refine t_block ?_
    refine t_region ?_
    refine tl_d rfl (d_move rfl ?_)
    refine tl_d rfl (d_add rfl rfl ?_)
    refine tl_d rfl (d_assign rfl ?_)
    refine tl_nil ?_
    refine q_block_normal ?_
    exact q_round kq5 (IntKind.i64.wrap (s3 + (1 : Int))) (Nat.lt_succ_self kq5) (wrap_wrap _ _) hf ⟨rfl, ⟨rfl, ⟨rfl, trivial⟩⟩⟩ ⟨mem_at 0 rfl, trivial⟩ [0] (Sel.cons rfl Sel.nil) rfl
  · have hf := if_f hb36 hf
    refine t_exit ?_
    refine q_then_exit ?_
    refine q_then_exit ?_
    have hr := Option.some.inj hf; try subst hr
    have hf := hout4
    try dsimp only at hf
    refine q_block_hit ?_
    refine q_then_code ?_
    refine t_seq ?_
    refine t_seq ?_
    obtain ⟨o47, ho48, hf⟩ := bind_some hf
    refine t_cut (X := Bool) (fun x => match x with | s46 => (([(0, u0), (3, .pointer (some ⟨b2, 0, none⟩)), (5, (.int .i64 s3)), (31, .bool s46)], [(rSl 32 (rArr 32 (rInt .u8))).fact u0 a0], [Own.box b2 (rArr 32 (rInt .u8)) a1]) : Sym)) (fun x => match x with | s46 => s46 = o47) ?_ ?_
    · have hf := ho48; clear ho48
      rcases bool_tf (decide (s3 < ((a0).length : Int))) with hb38 | hb38
      · have hf := if_t hb38 hf
        obtain ⟨hn39, hf⟩ := need_some hf
        refine t_any (n := 12) [] mixed ⟨by kernel_rfl, .inl rfl⟩ (np_cut (np_then (np_then np_body))) ?_
        refine ta_take (i := 0) rfl (by kernel_rfl) gd_none (d_move rfl ?_)
        refine ta_take (i := 1) rfl (by kernel_rfl) gd_none (d_move rfl ?_)
        refine ta_take (i := 2) rfl (by kernel_rfl) gd_none (d_len_sl rfl (mem_at 0 rfl) Try.underlying23 (fun hl49 _ => ?_))
        refine ta_take (i := 3) rfl (by kernel_rfl) gd_none (d_lss rfl rfl ?_)
        refine ta_take (i := 4) rfl (by kernel_rfl) gd_none (d_move rfl ?_)
        refine ta_take (i := 5) rfl (by kernel_rfl) (gd_on rfl rfl rfl hb38) (d_move rfl ?_)
        refine ta_take (i := 6) rfl (by kernel_rfl) (gd_on rfl rfl rfl hb38) (d_move rfl ?_)
        refine ta_take (i := 7) rfl (by kernel_rfl) (gd_on rfl rfl rfl hb38) (d_index_sl rfl (mem_at 0 rfl) rfl Try.underlying23 ty29 hn39 (fun p50 => ?_))
        refine ta_take (i := 8) rfl (by kernel_rfl) (gd_on rfl rfl rfl hb38) (d_load_place rfl (mem_at 0 rfl) ty29 (fun v52 => ?_))
        refine ta_take (i := 9) rfl (by kernel_rfl) (gd_on rfl rfl rfl hb38) (d_load_box 0 rfl rfl (Fld.self (rArr 32 (rInt .u8))) trivial ty29 rfl (fun v54 => ?_))
        refine ta_take (i := 10) rfl (by kernel_rfl) (gd_on rfl rfl rfl hb38) (d_eql_agg rfl rfl (mem_at 1 rfl) (mem_at 0 rfl) rfl (EqAt.arr Try.underlying29 ty5 (EqAt.int Try.underlying5)) (by decide) (by kernel_rfl) ?_)
        refine ta_take (i := 11) rfl (by kernel_rfl) gd_none (d_pick_true rfl hb38 rfl ?_)
        refine ta_done (by kernel_rfl) ?_
        have hr := Option.some.inj hf; subst hr
        exact q_cut (decide (((a0).getD (s3).toNat (rArr 32 (rInt .u8)).zeroD) = a1)) rfl ⟨rfl, ⟨rfl, ⟨rfl, ⟨rfl, trivial⟩⟩⟩⟩ ⟨mem_at 3 rfl, trivial⟩ [0] (Sel.cons rfl Sel.nil) rfl
      · have hf := if_f hb38 hf
        refine t_any (n := 12) [] mixed ⟨by kernel_rfl, .inl rfl⟩ (np_cut (np_then (np_then np_body))) ?_
        refine ta_take (i := 0) rfl (by kernel_rfl) gd_none (d_move rfl ?_)
        refine ta_take (i := 1) rfl (by kernel_rfl) gd_none (d_move rfl ?_)
        refine ta_take (i := 2) rfl (by kernel_rfl) gd_none (d_len_sl rfl (mem_at 0 rfl) Try.underlying23 (fun hl56 _ => ?_))
        refine ta_take (i := 3) rfl (by kernel_rfl) gd_none (d_lss rfl rfl ?_)
        refine ta_take (i := 4) rfl (by kernel_rfl) gd_none (d_move rfl ?_)
        refine ta_off (i := 5) rfl (by kernel_rfl) (gd_off rfl rfl rfl hb38) ?_
        refine ta_off (i := 6) rfl (by kernel_rfl) (gd_off rfl rfl rfl hb38) ?_
        refine ta_off (i := 7) rfl (by kernel_rfl) (gd_off rfl rfl rfl hb38) ?_
        refine ta_off (i := 8) rfl (by kernel_rfl) (gd_off rfl rfl rfl hb38) ?_
        refine ta_off (i := 9) rfl (by kernel_rfl) (gd_off rfl rfl rfl hb38) ?_
        refine ta_off (i := 10) rfl (by kernel_rfl) (gd_off rfl rfl rfl hb38) ?_
        refine ta_take (i := 11) rfl (by kernel_rfl) gd_none (d_pick_false rfl hb38 rfl ?_)
        refine ta_done (by kernel_rfl) ?_
        have hr := Option.some.inj hf; subst hr
        exact q_cut false rfl ⟨rfl, ⟨rfl, ⟨rfl, ⟨rfl, trivial⟩⟩⟩⟩ ⟨mem_at 0 rfl, trivial⟩ [0] (Sel.cons rfl Sel.nil) rfl
    rintro s46 rfl
    refine q_then_code ?_
    refine t_cond rfl (fun hb57 => ?_) (fun hb57 => ?_)
    · have hf := if_t hb57 hf
      refine t_seq ?_
      refine t_region ?_
      refine tl_d rfl (d_move rfl ?_)
      refine tl_d rfl (d_assign rfl ?_)
      refine tl_nil ?_
      refine q_then_code ?_
      refine t_ret ?_
      refine q_then_ret ?_
      have hr := Option.some.inj hf; subst hr
      refine q_ret (post := fun w w' m v => (rSl 32 (rArr 32 (rInt .u8))).val w' m v a0) hR _ (.inl rfl) (fun a w hs => ?_)
      exact ⟨_, run_results rfl (RvOk.cons (rv_tmp hs rfl) RvOk.nil), (hs.hv (hv_fact (mem_at 0 rfl)))⟩
    · have hf := if_f hb57 hf
      refine t_skip ?_
      refine q_then_code ?_
      refine t_seq ?_
      obtain ⟨hn61, hf⟩ := need_some hf
      obtain ⟨hn62, hf⟩ := need_some hf
      obtain ⟨hn67, hf⟩ := need_some hf
      obtain ⟨hn71, hf⟩ := need_some hf
      obtain ⟨hn72, hf⟩ := need_some hf
      refine t_cut (X := Value) (fun x => match x with | z74 => (([(4, z74)], [], [Own.buf z74 32 (rArr 32 (rInt .u8)) (((([] : List (List Int)) ++ (sub a0 (0 : Int) s3)) ++ [a1]) ++ (sub a0 s3 ((a0).length : Int)))]) : Sym)) (fun _ => True) ?_ ?_
      · refine t_any (n := 13) [1, 2, 3, 4, 5, 6, 7, 8, 9, 10, 11, 12] mixed ⟨by kernel_rfl, .inl rfl⟩ (np_cut (np_then np_body)) ?_
        refine ta_take (i := 1) rfl (by kernel_rfl) gd_none (d_move rfl ?_)
        refine ta_take (i := 2) rfl (by kernel_rfl) gd_none (d_move rfl ?_)
        refine ta_take (i := 3) rfl (by kernel_rfl) gd_none (d_slice_sl (i := (0 : Int)) (j := s3) rfl (mem_at 0 rfl) (.inl ⟨rfl, rfl⟩) (.inr ⟨_, _, rfl, rfl⟩) Try.underlying23 ty29 hn61 (fun v75 => ?_))
        refine ta_take (i := 5) rfl (by kernel_rfl) gd_none (d_load_box 0 rfl rfl (Fld.self (rArr 32 (rInt .u8))) trivial ty29 rfl (fun v77 => ?_))
        refine ta_take (i := 8) rfl (by kernel_rfl) gd_none (d_move rfl ?_)
        refine ta_take (i := 9) rfl (by kernel_rfl) gd_none (d_move rfl ?_)
        refine ta_take (i := 10) rfl (by kernel_rfl) gd_none (d_slice_sl (i := s3) (j := ((a0).length : Int)) rfl (mem_at 2 rfl) (.inr ⟨_, _, rfl, rfl⟩) (.inl ⟨rfl, rfl⟩) Try.underlying23 ty29 hn71 (fun v79 => ?_))
        refine ta_two (i := 0) (j := 6) (by kernel_rfl) rfl rfl rfl gd_none gd_none ?_ ?_
        · refine g_buildSlice (R := (rArr 32 (rInt .u8))) (l := []) rfl Try.underlying23 ty29 ⟨rfl, by decide, by decide, by decide⟩ PartsOk.nil rfl (fun v81 => ?_)
          refine ta_two (i := 4) (j := 6) (by kernel_rfl) rfl rfl rfl gd_none gd_none ?_ ?_
          · refine g_append_sl (l2 := (sub a0 (0 : Int) s3)) 1 rfl rfl rfl rfl (hv_fact (mem_at 2 rfl)) Try.underlying23 ⟨_, Try.underlying23, fun k h => by cases h⟩ ty29 hn62 (by decide) (fun v82 => ?_)
            refine ta_one (i := 6) (by kernel_rfl) rfl rfl gd_none (g_buildSlice (R := (rArr 32 (rInt .u8))) (l := [a1]) rfl Try.underlying23 ty29 ⟨rfl, by decide, by decide, by decide⟩ (PartsOk.cons rfl rfl (hv_fact (mem_at 1 rfl)) PartsOk.nil) rfl (fun v83 => ?_))
            refine ta_one (i := 7) (by kernel_rfl) rfl rfl gd_none (g_append_buf 1 2 rfl rfl rfl rfl rfl rfl Try.underlying23 ⟨_, Try.underlying23, fun k h => by cases h⟩ ty29 hn67 (by decide) (fun v84 => ?_))
            refine ta_one (i := 11) (by kernel_rfl) rfl rfl gd_none (g_append_sl (l2 := (sub a0 s3 ((a0).length : Int))) 1 rfl rfl rfl rfl (hv_fact (mem_at 0 rfl)) Try.underlying23 ⟨_, Try.underlying23, fun k h => by cases h⟩ ty29 hn72 (by decide) (fun v85 => ?_))
            refine ta_take (i := 12) rfl (by kernel_rfl) gd_none (d_assign rfl ?_)
            refine ta_done (by kernel_rfl) ?_
            exact q_cut v85 trivial ⟨rfl, trivial⟩ trivial [1] (Sel.cons rfl Sel.nil) rfl
          · refine g_buildSlice (R := (rArr 32 (rInt .u8))) (l := [a1]) rfl Try.underlying23 ty29 ⟨rfl, by decide, by decide, by decide⟩ (PartsOk.cons rfl rfl (hv_fact (mem_at 1 rfl)) PartsOk.nil) rfl (fun v86 => ?_)
            refine ta_one (i := 4) (by kernel_rfl) rfl rfl gd_none (g_append_sl (l2 := (sub a0 (0 : Int) s3)) 1 rfl rfl rfl rfl (hv_fact (mem_at 2 rfl)) Try.underlying23 ⟨_, Try.underlying23, fun k h => by cases h⟩ ty29 hn62 (by decide) (fun v87 => ?_))
            refine ta_one (i := 7) (by kernel_rfl) rfl rfl gd_none (g_append_buf 1 2 rfl rfl rfl rfl rfl rfl Try.underlying23 ⟨_, Try.underlying23, fun k h => by cases h⟩ ty29 hn67 (by decide) (fun v88 => ?_))
            refine ta_one (i := 11) (by kernel_rfl) rfl rfl gd_none (g_append_sl (l2 := (sub a0 s3 ((a0).length : Int))) 1 rfl rfl rfl rfl (hv_fact (mem_at 0 rfl)) Try.underlying23 ⟨_, Try.underlying23, fun k h => by cases h⟩ ty29 hn72 (by decide) (fun v89 => ?_))
            refine ta_take (i := 12) rfl (by kernel_rfl) gd_none (d_assign rfl ?_)
            refine ta_done (by kernel_rfl) ?_
            exact q_cut v89 trivial ⟨rfl, trivial⟩ trivial [1] (Sel.cons rfl Sel.nil) rfl
        · refine g_buildSlice (R := (rArr 32 (rInt .u8))) (l := [a1]) rfl Try.underlying23 ty29 ⟨rfl, by decide, by decide, by decide⟩ (PartsOk.cons rfl rfl (hv_fact (mem_at 1 rfl)) PartsOk.nil) rfl (fun v90 => ?_)
          refine ta_one (i := 0) (by kernel_rfl) rfl rfl gd_none (g_buildSlice (R := (rArr 32 (rInt .u8))) (l := []) rfl Try.underlying23 ty29 ⟨rfl, by decide, by decide, by decide⟩ PartsOk.nil rfl (fun v91 => ?_))
          refine ta_one (i := 4) (by kernel_rfl) rfl rfl gd_none (g_append_sl (l2 := (sub a0 (0 : Int) s3)) 2 rfl rfl rfl rfl (hv_fact (mem_at 2 rfl)) Try.underlying23 ⟨_, Try.underlying23, fun k h => by cases h⟩ ty29 hn62 (by decide) (fun v92 => ?_))
          refine ta_one (i := 7) (by kernel_rfl) rfl rfl gd_none (g_append_buf 2 1 rfl rfl rfl rfl rfl rfl Try.underlying23 ⟨_, Try.underlying23, fun k h => by cases h⟩ ty29 hn67 (by decide) (fun v93 => ?_))
          refine ta_one (i := 11) (by kernel_rfl) rfl rfl gd_none (g_append_sl (l2 := (sub a0 s3 ((a0).length : Int))) 2 rfl rfl rfl rfl (hv_fact (mem_at 0 rfl)) Try.underlying23 ⟨_, Try.underlying23, fun k h => by cases h⟩ ty29 hn72 (by decide) (fun v94 => ?_))
          refine ta_take (i := 12) rfl (by kernel_rfl) gd_none (d_assign rfl ?_)
          refine ta_done (by kernel_rfl) ?_
          exact q_cut v94 trivial ⟨rfl, trivial⟩ trivial [2] (Sel.cons rfl Sel.nil) rfl
      rintro z74 _
      refine q_then_code ?_
      refine t_ret ?_
      have hr := Option.some.inj hf; subst hr
      refine q_ret (post := fun w w' m v => (rSl 32 (rArr 32 (rInt .u8))).val w' m v (((([] : List (List Int)) ++ (sub a0 (0 : Int) s3)) ++ [a1]) ++ (sub a0 s3 ((a0).length : Int)))) hR _ (.inl rfl) (fun a w hs => ?_)
      exact ⟨_, run_results rfl (RvOk.cons (rv_tmp hs rfl) RvOk.nil), (ownres_val hs.m0 (hs.ownres (i := 0) rfl))⟩

def cofferref17_Walk.l1 (c143 : (List Api_Item) × Int) (s22 : (List Cofferref17_todo)) : Nat → (List Cofferref17_todo) → Int → Option ((List Cofferref17_todo))
  | 0, _, _ => none
  | k + 1, s191, s193 => (if (decide (s193 < ((c143.1).length : Int))) = true then (need (0 ≤ s193 ∧ s193 < ((c143.1).length : Int)) (((if (decide ((1 : Int) < ((((s22).getD ((0 : Int)).toNat rCofferref17_todo.zeroD)).deep))) = true then (need ((((((s22).getD ((0 : Int)).toNat rCofferref17_todo.zeroD)).path)).length + ([47]).length ≤ maxB) (need (((((((s22).getD ((0 : Int)).toNat rCofferref17_todo.zeroD)).path) ++ [47])).length + (((((c143.1).getD (s193).toNat rApi_Item.zeroD)).Name)).length ≤ maxB) ((some ((((((s22).getD ((0 : Int)).toNat rCofferref17_todo.zeroD)).path) ++ [47]) ++ ((((c143.1).getD (s193).toNat rApi_Item.zeroD)).Name)))))) else (some ((((c143.1).getD (s193).toNat rApi_Item.zeroD)).Name)))).bind fun s216 => (need (0 ≤ s193 ∧ s193 < ((c143.1).length : Int)) (need (fits 88 ((s191).length + ([(⟨((c143.1).getD (s193).toNat rApi_Item.zeroD), (IntKind.i64.wrap (((((s22).getD ((0 : Int)).toNat rCofferref17_todo.zeroD)).deep) + (1 : Int))), s216⟩ : Cofferref17_todo)]).length)) ((cofferref17_Walk.l1 c143 s22 k (s191 ++ [(⟨((c143.1).getD (s193).toNat rApi_Item.zeroD), (IntKind.i64.wrap (((((s22).getD ((0 : Int)).toNat rCofferref17_todo.zeroD)).deep) + (1 : Int))), s216⟩ : Cofferref17_todo)]) (IntKind.i64.wrap (s193 + (1 : Int))))))))) else (some (s191)))
def cofferref17_Walk.l0 (a0 : (List Api_Object)) : Nat → (List (List Int)) → (List Api_File) → (List Cofferref17_todo) → Int → Option (Sum ((List (List Int)) × (List Api_File) × Int) ((List (List Int)) × (List Api_File)))
  | 0, _, _, _, _ => none
  | k + 1, s17, s20, s22, s25 => (if (decide ((0 : Int) < ((s22).length : Int))) = true then (need (0 ≤ (0 : Int) ∧ (0 : Int) < ((s22).length : Int)) ((need (0 ≤ (1 : Int) ∧ (1 : Int) ≤ ((s22).length : Int) ∧ ((s22).length : Int) ≤ ((s22).length : Int)) (((if (decide (((((((s22).getD ((0 : Int)).toNat rCofferref17_todo.zeroD)).item)).Kind) = (2 : Int))) = true then (if (decide ((8 : Int) < ((((s22).getD ((0 : Int)).toNat rCofferref17_todo.zeroD)).deep))) = true then (some true) else (some (decide ((1024 : Int) ≤ s25)))) else (some (decide ((1024 : Int) ≤ s25))))).bind fun s55 => (if s55 = true then (some (.inl (([] : (List (List Int))), ([] : (List Api_File)), (2 : Int)))) else ((cofferref17_Find.f k a0 ((((((s22).getD ((0 : Int)).toNat rCofferref17_todo.zeroD)).item)).Of)).bind fun c66 => (if (decide (c66 < (0 : Int))) = true then (some (.inl (([] : (List (List Int))), ([] : (List Api_File)), (15 : Int)))) else ((cofferref17_With.f k s17 ((((((s22).getD ((0 : Int)).toNat rCofferref17_todo.zeroD)).item)).Of)).bind fun c81 => (if (decide (((((((s22).getD ((0 : Int)).toNat rCofferref17_todo.zeroD)).item)).Kind) = (1 : Int))) = true then (need (0 ≤ c66 ∧ c66 < ((a0).length : Int)) ((if (!decide ((((((a0).getD (c66).toNat rApi_Object.zeroD)).Data).length : Int) = ((((((s22).getD ((0 : Int)).toNat rCofferref17_todo.zeroD)).item)).Size))) = true then (some (.inl (([] : (List (List Int))), ([] : (List Api_File)), (9 : Int)))) else (need (0 ≤ c66 ∧ c66 < ((a0).length : Int)) (need (fits 48 ((s20).length + ([(⟨((((s22).getD ((0 : Int)).toNat rCofferref17_todo.zeroD)).path), false, (((a0).getD (c66).toNat rApi_Object.zeroD)).Data⟩ : Api_File)]).length)) ((cofferref17_Walk.l0 a0 k c81 (s20 ++ [(⟨((((s22).getD ((0 : Int)).toNat rCofferref17_todo.zeroD)).path), false, (((a0).getD (c66).toNat rApi_Object.zeroD)).Data⟩ : Api_File)]) (sub s22 (1 : Int) ((s22).length : Int)) (IntKind.i64.wrap (s25 + (1 : Int)))))))))) else (need (0 ≤ c66 ∧ c66 < ((a0).length : Int)) ((cofferref15_Take.f k (((a0).getD (c66).toNat rApi_Object.zeroD)).Data).bind fun c143 => (if (!decide (c143.2 = (0 : Int))) = true then (some (.inl (([] : (List (List Int))), ([] : (List Api_File)), (4 : Int)))) else ((if (decide (((c143.1).length : Int) = (0 : Int))) = true then (some (decide ((1 : Int) < ((((s22).getD ((0 : Int)).toNat rCofferref17_todo.zeroD)).deep)))) else (some false))).bind fun s167 => ((if s167 = true then (need (fits 48 ((s20).length + ([(⟨((((s22).getD ((0 : Int)).toNat rCofferref17_todo.zeroD)).path), true, []⟩ : Api_File)]).length)) ((some (s20 ++ [(⟨((((s22).getD ((0 : Int)).toNat rCofferref17_todo.zeroD)).path), true, []⟩ : Api_File)])))) else (some s20))).bind fun s173 => (cofferref17_Walk.l1 c143 s22 k ([] : List Cofferref17_todo) (0 : Int)).bind fun o262 => (match o262 with | s191 => (need (fits 88 ((s191).length + ((sub s22 (1 : Int) ((s22).length : Int))).length)) ((cofferref17_Walk.l0 a0 k c81 s173 (s191 ++ (sub s22 (1 : Int) ((s22).length : Int))) (IntKind.i64.wrap (s25 + (1 : Int))))))))))))))))))) else (some (.inr (s17, s20))))
def cofferref17_Walk.f (k : Nat) (a0 : (List Api_Object)) (a1 : (List Int)) : Option ((List (List Int)) × (List Api_File) × Int) := (cofferref17_Walk.l0 a0 k ([] : (List (List Int))) ([] : List Api_File) [(⟨(⟨[], (2 : Int), a1, (0 : Int)⟩ : Api_Item), (1 : Int), []⟩ : Cofferref17_todo)] (0 : Int)).bind fun o264 => (match o264 with | .inl r => some r | .inr (s17, s20) => (some (s17, s20, (0 : Int))))
set_option maxRecDepth 100000 in
set_option maxHeartbeats 5700000 in
theorem cofferref17_Walk_ok (k : Nat) (a0 : (List Api_Object)) (a1 : (List Int)) (u0 u1 : Value) (r : (List (List Int)) × (List Api_File) × Int) (hf : cofferref17_Walk.f k a0 a1 = some r) : Cf.FnX true Try.prog 20 [u0, u1] (fun w m => (rSl 56 rApi_Object).val w m u0 a0 ∧ (rArr 32 (rInt .u8)).val w m u1 a1) (fun w w' m v => ∃ v0 v1 v2, v = .tuple #[v0, v1, v2] ∧ (rSl 32 (rArr 32 (rInt .u8))).val w' m v0 r.1 ∧ (rSl 48 rApi_File).val w' m v1 r.2.1 ∧ (rInt .i64).val w' m v2 r.2.2) := by
  unfold cofferref17_Walk.f at hf
  refine fn_of Try.func20 rfl (Nat.le_of_ble_eq_true rfl) [(rSl 56 rApi_Object).fact u0 a0, (rArr 32 (rInt .u8)).fact u1 a1] (fun w m h f hf => ?_) ?_
  · simp at hf; rcases hf with rfl | rfl
    · exact h.1
    · exact h.2
  intro w0 m0 R hR
  refine t_seq ?_
  refine t_region ?_
  refine tl_g [] rfl (g_box (R := (rArr 32 (rInt .u8))) rfl rfl (hv_fact (mem_at 1 rfl)) (fun b2 => ?_))
  refine tl_d rfl (d_assign rfl ?_)
  refine tl_d rfl (d_assign rfl ?_)
  refine tl_d rfl (d_assign rfl ?_)
  refine tl_nil ?_
  refine q_then_code ?_
  refine t_seq ?_
  refine t_region ?_
  refine tl_d rfl (d_assign rfl ?_)
  refine tl_nil ?_
  refine q_then_code ?_
  refine t_seq ?_
  refine t_region ?_
  refine tl_d rfl (d_assign rfl ?_)
  refine tl_nil ?_
  refine q_then_code ?_
  refine t_seq ?_
  refine t_region ?_
  refine tl_d rfl (d_load_box 0 rfl rfl (Fld.self (rArr 32 (rInt .u8))) trivial ty29 rfl (fun v10 => ?_))
  refine tl_d rfl (d_build2 (y := (⟨[], (2 : Int), a1, (0 : Int)⟩ : Api_Item)) ty54 rfl pl54 (BuildOk.cons rfl fl_Api_Item_Kind trivial rfl (hv_int rfl) (BuildOk.cons rfl fl_Api_Item_Of trivial rfl (hv_fact (mem_at 0 rfl)) BuildOk.nil)) (fun v12 => ?_))
  refine tl_d rfl (d_build2 (y := (⟨(⟨[], (2 : Int), a1, (0 : Int)⟩ : Api_Item), (1 : Int), []⟩ : Cofferref17_todo)) ty78 rfl pl78 (BuildOk.cons rfl fl_Cofferref17_todo_item trivial rfl (hv_fact (mem_at 0 rfl)) (BuildOk.cons rfl fl_Cofferref17_todo_deep trivial rfl (hv_int rfl) BuildOk.nil)) (fun v14 => ?_))
  refine tl_g [] rfl (g_buildSlice (R := rCofferref17_todo) (l := [(⟨(⟨[], (2 : Int), a1, (0 : Int)⟩ : Api_Item), (1 : Int), []⟩ : Cofferref17_todo)]) rfl Try.underlying79 ty78 ⟨rfl, by decide, by decide, by decide⟩ (PartsOk.cons rfl rfl (hv_fact (mem_at 0 rfl)) PartsOk.nil) rfl (fun v16 => ?_))
  refine tl_d rfl (d_assign rfl ?_)
  refine tl_nil ?_
  refine q_then_code ?_
  refine t_seq ?_
  refine t_seq ?_
  refine t_region ?_
  refine tl_d rfl (d_assign rfl ?_)
  refine tl_nil ?_
  refine q_then_code ?_
  refine t_block ?_
  refine t_fact ((rSl 32 (rArr 32 (rInt .u8))).fact (.slice none 0 0) ([] : (List (List Int)))) nil_fact ?_
  refine t_nilbuf 48 rApi_File ?_
  refine t_freeze 1 rfl ?_
  obtain ⟨o264, ho265, hf⟩ := bind_some hf
  refine t_loop (X := (List (List Int)) × (List Api_File) × (List Cofferref17_todo) × Int × Value × Value × Value) (O := Sum ((List (List Int)) × (List Api_File) × Int) ((List (List Int)) × (List Api_File))) (fun kl x => match x with | (s17, s20, s22, s25, z18, z21, z23) => cofferref17_Walk.l0 a0 kl s17 s20 s22 s25) o264 (fun x => match x with | (s17, s20, s22, s25, z18, z21, z23) => (([(0, u0), (7, z18), (8, z21), (9, z23), (10, .int .i64 s25)], [(rSl 56 rApi_Object).fact u0 a0, (rSl 32 (rArr 32 (rInt .u8))).fact z18 s17, (rSl 88 rCofferref17_todo).fact z23 s22], [Own.buf z21 48 rApi_File s20]) : Sym)) (fun x => match x with | (s17, s20, s22, s25, z18, z21, z23) => IntKind.i64.wrap s25 = s25) k (([] : (List (List Int))), ([] : List Api_File), [(⟨(⟨[], (2 : Int), a1, (0 : Int)⟩ : Api_Item), (1 : Int), []⟩ : Cofferref17_todo)], (0 : Int), (.slice none 0 0), (.slice none 0 0), v16) ho265 rfl ⟨rfl, ⟨rfl, ⟨rfl, ⟨rfl, ⟨rfl, trivial⟩⟩⟩⟩⟩ ⟨mem_at 5 rfl, ⟨mem_at 1 rfl, ⟨mem_at 0 rfl, trivial⟩⟩⟩ [2] (Sel.cons rfl Sel.nil) rfl ?_
  clear ho265
  rintro k31 ⟨s17, s20, s22, s25, z18, z21, z23⟩ hw_s25 hk30
  have hout28 := hf; clear hf
  obtain ⟨kq29, rfl⟩ : ∃ q, k31 = q + 1 := by cases k31 with | zero => cases hk30 | succ q => exact ⟨q, rfl⟩
  have hf := hk30
  clear hk30; dsimp only [cofferref17_Walk.l0] at hf
  refine t_seq ?_
  refine t_seq ?_
  refine t_region ?_
  refine tl_d rfl (d_move rfl ?_)
  refine tl_d rfl (d_len_sl rfl (mem_at 2 rfl) Try.underlying79 (fun hl33 _ => ?_))
  refine tl_d rfl (d_gtr rfl rfl ?_)
  refine tl_nil ?_
  refine q_then_code ?_
  refine t_cond rfl (fun hb34 => ?_) (fun hb34 => ?_)
  · have hf := if_t hb34 hf
    refine t_skip ?_
    refine q_then_code ?_
    refine t_seq ?_
    refine t_block ?_
    refine t_seq ?_
    obtain ⟨hn35, hf⟩ := need_some hf
    refine t_region ?_
    refine tl_d rfl (d_move rfl ?_)
    refine tl_d rfl (d_index_sl rfl (mem_at 2 rfl) rfl Try.underlying79 ty78 hn35 (fun p41 => ?_))
    refine tl_d rfl (d_load_place rfl (mem_at 0 rfl) ty78 (fun v43 => ?_))
    refine tl_g [] rfl (g_alloc rfl ty78 (fun b45 => ?_))
    refine tl_g _ rfl (g_store_box 1 rfl rfl rfl (Fld.self rCofferref17_todo) trivial (hv_fact (mem_at 0 rfl)) ty78 (List.mem_singleton_self _) ?_)
    refine tl_nil ?_
    refine q_then_code ?_
    refine t_seq ?_
    obtain ⟨hn48, hf⟩ := need_some hf
    refine t_region ?_
    refine tl_d rfl (d_move rfl ?_)
    refine tl_d rfl (d_slice_sl (i := (1 : Int)) (j := ((s22).length : Int)) rfl (mem_at 4 rfl) (.inr ⟨_, _, rfl, rfl⟩) (.inl ⟨rfl, rfl⟩) Try.underlying79 ty78 hn48 (fun v49 => ?_))
    refine tl_d rfl (d_assign rfl ?_)
    refine tl_nil ?_
    refine q_then_code ?_
    refine t_seq ?_
    refine t_seq ?_
    obtain ⟨o56, ho57, hf⟩ := bind_some hf
    refine t_cut (X := Bool) (fun x => match x with | s55 => (([(0, u0), (7, z18), (8, z21), (9, v49), (10, (.int .i64 s25)), (11, .pointer (some ⟨b45, 0, none⟩)), (44, .bool s55)], [(rSl 56 rApi_Object).fact u0 a0, (rSl 32 (rArr 32 (rInt .u8))).fact z18 s17, (rSl 88 rCofferref17_todo).fact v49 (sub s22 (1 : Int) ((s22).length : Int))], [Own.buf z21 48 rApi_File s20, Own.box b45 rCofferref17_todo ((s22).getD ((0 : Int)).toNat rCofferref17_todo.zeroD)]) : Sym)) (fun x => match x with | s55 => s55 = o56) ?_ ?_
    · have hf := ho57; clear ho57
      rcases bool_tf (decide (((((((s22).getD ((0 : Int)).toNat rCofferref17_todo.zeroD)).item)).Kind) = (2 : Int))) with hb52 | hb52
      · have hf := if_t hb52 hf
        rcases bool_tf (decide ((8 : Int) < ((((s22).getD ((0 : Int)).toNat rCofferref17_todo.zeroD)).deep))) with hb54 | hb54
        · have hf := if_t hb54 hf
          refine t_region ?_
          refine tl_d rfl (d_field_own rfl fo78_0 ?_)
          refine tl_d rfl (d_field_own rfl fo54_1 ?_)
          refine tl_d rfl (d_load_box_int 1 rfl rfl (Fld.trans (Fld.at0 fl_Cofferref17_todo_item) fl_Api_Item_Kind) ⟨trivial, trivial⟩ ty3 rfl (fun hw58 => ?_))
          refine tl_d rfl (d_eql rfl rfl ?_)
          refine tl_d rfl (d_move rfl ?_)
          refine tl_dg (gd_on rfl rfl rfl hb52) rfl (d_field_own rfl fo78_1 ?_)
          refine tl_dg (gd_on rfl rfl rfl hb52) rfl (d_load_box_int 1 rfl rfl (Fld.at0 fl_Cofferref17_todo_deep) trivial ty3 rfl (fun hw59 => ?_))
          refine tl_dg (gd_on rfl rfl rfl hb52) rfl (d_gtr rfl rfl ?_)
          refine tl_d rfl (d_pick_true rfl hb52 rfl ?_)
          refine tl_d rfl (d_move rfl ?_)
          refine tl_off (gd_off rfl rfl rfl hb54) rfl rfl ?_
          refine tl_off (gd_off rfl rfl rfl hb54) rfl rfl ?_
          refine tl_d rfl (d_pick_true rfl hb54 rfl ?_)
          refine tl_nil ?_
          have hr := Option.some.inj hf; subst hr
          exact q_cut true rfl ⟨rfl, ⟨rfl, ⟨rfl, ⟨rfl, ⟨rfl, ⟨rfl, ⟨rfl, trivial⟩⟩⟩⟩⟩⟩⟩ ⟨mem_at 3 rfl, ⟨mem_at 4 rfl, ⟨mem_at 0 rfl, trivial⟩⟩⟩ [0, 1] (Sel.cons rfl (Sel.cons rfl Sel.nil)) rfl
        · have hf := if_f hb54 hf
          refine t_region ?_
          refine tl_d rfl (d_field_own rfl fo78_0 ?_)
          refine tl_d rfl (d_field_own rfl fo54_1 ?_)
          refine tl_d rfl (d_load_box_int 1 rfl rfl (Fld.trans (Fld.at0 fl_Cofferref17_todo_item) fl_Api_Item_Kind) ⟨trivial, trivial⟩ ty3 rfl (fun hw60 => ?_))
          refine tl_d rfl (d_eql rfl rfl ?_)
          refine tl_d rfl (d_move rfl ?_)
          refine tl_dg (gd_on rfl rfl rfl hb52) rfl (d_field_own rfl fo78_1 ?_)
          refine tl_dg (gd_on rfl rfl rfl hb52) rfl (d_load_box_int 1 rfl rfl (Fld.at0 fl_Cofferref17_todo_deep) trivial ty3 rfl (fun hw61 => ?_))
          refine tl_dg (gd_on rfl rfl rfl hb52) rfl (d_gtr rfl rfl ?_)
          refine tl_d rfl (d_pick_true rfl hb52 rfl ?_)
          refine tl_d rfl (d_move rfl ?_)
          refine tl_dg (gd_on rfl rfl rfl hb54) rfl (d_move rfl ?_)
          refine tl_dg (gd_on rfl rfl rfl hb54) rfl (d_geq rfl rfl ?_)
          refine tl_d rfl (d_pick_false rfl hb54 rfl ?_)
          refine tl_nil ?_
          have hr := Option.some.inj hf; subst hr
          exact q_cut (decide ((1024 : Int) ≤ s25)) rfl ⟨rfl, ⟨rfl, ⟨rfl, ⟨rfl, ⟨rfl, ⟨rfl, ⟨rfl, trivial⟩⟩⟩⟩⟩⟩⟩ ⟨mem_at 3 rfl, ⟨mem_at 4 rfl, ⟨mem_at 0 rfl, trivial⟩⟩⟩ [0, 1] (Sel.cons rfl (Sel.cons rfl Sel.nil)) rfl
      · have hf := if_f hb52 hf
        refine t_region ?_
        refine tl_d rfl (d_field_own rfl fo78_0 ?_)
        refine tl_d rfl (d_field_own rfl fo54_1 ?_)
        refine tl_d rfl (d_load_box_int 1 rfl rfl (Fld.trans (Fld.at0 fl_Cofferref17_todo_item) fl_Api_Item_Kind) ⟨trivial, trivial⟩ ty3 rfl (fun hw62 => ?_))
        refine tl_d rfl (d_eql rfl rfl ?_)
        refine tl_d rfl (d_move rfl ?_)
        refine tl_off (gd_off rfl rfl rfl hb52) rfl rfl ?_
        refine tl_off (gd_off rfl rfl rfl hb52) rfl rfl ?_
        refine tl_off (gd_off rfl rfl rfl hb52) rfl rfl ?_
        refine tl_d rfl (d_pick_false rfl hb52 rfl ?_)
        refine tl_d rfl (d_move rfl ?_)
        refine tl_dg (gd_on rfl rfl rfl rfl) rfl (d_move rfl ?_)
        refine tl_dg (gd_on rfl rfl rfl rfl) rfl (d_geq rfl rfl ?_)
        refine tl_d rfl (d_pick_false rfl rfl rfl ?_)
        refine tl_nil ?_
        have hr := Option.some.inj hf; subst hr
        exact q_cut (decide ((1024 : Int) ≤ s25)) rfl ⟨rfl, ⟨rfl, ⟨rfl, ⟨rfl, ⟨rfl, ⟨rfl, ⟨rfl, trivial⟩⟩⟩⟩⟩⟩⟩ ⟨mem_at 3 rfl, ⟨mem_at 4 rfl, ⟨mem_at 0 rfl, trivial⟩⟩⟩ [0, 1] (Sel.cons rfl (Sel.cons rfl Sel.nil)) rfl
    rintro s55 rfl
    refine q_then_code ?_
    refine t_cond rfl (fun hb63 => ?_) (fun hb63 => ?_)
    · have hf := if_t hb63 hf
      refine t_seq ?_
      refine t_region ?_
      refine tl_d rfl (d_assign rfl ?_)
      refine tl_d rfl (d_assign rfl ?_)
      refine tl_d rfl (d_assign rfl ?_)
      refine tl_nil ?_
      refine q_then_code ?_
      refine t_ret ?_
      refine q_then_ret ?_
      refine q_block_ret ?_
      refine q_then_ret ?_
      refine q_then_ret ?_
      have hr := Option.some.inj hf; try subst hr
      have hf := hout28
      refine q_block_ret ?_
      refine q_then_ret ?_
      have hr := Option.some.inj hf; subst hr
      refine q_ret (post := fun w w' m v => ∃ v0 v1 v2, v = .tuple #[v0, v1, v2] ∧ (rSl 32 (rArr 32 (rInt .u8))).val w' m v0 ([] : (List (List Int))) ∧ (rSl 48 rApi_File).val w' m v1 ([] : (List Api_File)) ∧ (rInt .i64).val w' m v2 (2 : Int)) hR _ (.inl rfl) (fun a w hs => ?_)
      exact ⟨_, run_results rfl (RvOk.cons (rv_tmp hs rfl) (RvOk.cons (rv_tmp hs rfl) (RvOk.cons (rv_tmp hs rfl) RvOk.nil))), _, _, _, rfl, (hs.hv hv_nil), (hs.hv hv_nil), (hs.hv (hv_int rfl))⟩
    · have hf := if_f hb63 hf
      refine t_skip ?_
      refine q_then_code ?_
      refine t_seq ?_
      obtain ⟨c66, hc67, hf⟩ := bind_some hf
      refine t_region ?_
      refine tl_d rfl (d_move rfl ?_)
      refine tl_d rfl (d_field_own rfl fo78_0 ?_)
      refine tl_d rfl (d_field_own rfl fo54_2 ?_)
      refine tl_d rfl (d_load_box 1 rfl rfl (Fld.trans (Fld.at0 fl_Cofferref17_todo_item) fl_Api_Item_Of) ⟨trivial, trivial⟩ ty29 rfl (fun v72 => ?_))
      refine tl_g [] rfl (g_call1 rfl hfn16 (cofferref17_Find_ok _ _ _ _ _ _ hc67) (Evs.cons rfl (Evs.cons rfl Evs.nil)) (fun a w hs => ⟨(hv_fact (mem_at 1 rfl)) _ _ _ _ hs, (hv_fact (mem_at 0 rfl)) _ _ _ _ hs⟩) (fun v74 => ?_))
      refine tl_int (mem_at 0 rfl) (fun hv77 hw76 => ?_)
      subst hv77
      refine tl_d rfl (d_assign rfl ?_)
      refine tl_nil ?_
      refine q_then_code ?_
      refine t_seq ?_
      refine t_seq ?_
      refine t_region ?_
      refine tl_d rfl (d_move rfl ?_)
      refine tl_d rfl (d_lss rfl rfl ?_)
      refine tl_nil ?_
      refine q_then_code ?_
      refine t_cond rfl (fun hb78 => ?_) (fun hb78 => ?_)
      · have hf := if_t hb78 hf
        refine t_seq ?_
        refine t_region ?_
        refine tl_d rfl (d_assign rfl ?_)
        refine tl_d rfl (d_assign rfl ?_)
        refine tl_d rfl (d_assign rfl ?_)
        refine tl_nil ?_
        refine q_then_code ?_
        refine t_ret ?_
        refine q_then_ret ?_
        refine q_block_ret ?_
        refine q_then_ret ?_
        refine q_then_ret ?_
        have hr := Option.some.inj hf; try subst hr
        have hf := hout28
        refine q_block_ret ?_
        refine q_then_ret ?_
        have hr := Option.some.inj hf; subst hr
        refine q_ret (post := fun w w' m v => ∃ v0 v1 v2, v = .tuple #[v0, v1, v2] ∧ (rSl 32 (rArr 32 (rInt .u8))).val w' m v0 ([] : (List (List Int))) ∧ (rSl 48 rApi_File).val w' m v1 ([] : (List Api_File)) ∧ (rInt .i64).val w' m v2 (15 : Int)) hR _ (.inl rfl) (fun a w hs => ?_)
        exact ⟨_, run_results rfl (RvOk.cons (rv_tmp hs rfl) (RvOk.cons (rv_tmp hs rfl) (RvOk.cons (rv_tmp hs rfl) RvOk.nil))), _, _, _, rfl, (hs.hv hv_nil), (hs.hv hv_nil), (hs.hv (hv_int rfl))⟩
      · have hf := if_f hb78 hf
        refine t_skip ?_
        refine q_then_code ?_
        refine t_seq ?_
        obtain ⟨c81, hc82, hf⟩ := bind_some hf
        refine t_region ?_
        refine tl_d rfl (d_move rfl ?_)
        refine tl_d rfl (d_field_own rfl fo78_0 ?_)
        refine tl_d rfl (d_field_own rfl fo54_2 ?_)
        refine tl_d rfl (d_load_box 1 rfl rfl (Fld.trans (Fld.at0 fl_Cofferref17_todo_item) fl_Api_Item_Of) ⟨trivial, trivial⟩ ty29 rfl (fun v85 => ?_))
        refine tl_g [] rfl (g_call1 rfl hfn29 (cofferref17_With_ok _ _ _ _ _ _ hc82) (Evs.cons rfl (Evs.cons rfl Evs.nil)) (fun a w hs => ⟨(hv_fact (mem_at 4 rfl)) _ _ _ _ hs, (hv_fact (mem_at 0 rfl)) _ _ _ _ hs⟩) (fun v87 => ?_))
        refine tl_d rfl (d_assign rfl ?_)
        refine tl_nil ?_
        refine q_then_code ?_
        refine t_seq ?_
        refine t_seq ?_
        refine t_region ?_
        refine tl_d rfl (d_field_own rfl fo78_0 ?_)
        refine tl_d rfl (d_field_own rfl fo54_1 ?_)
        refine tl_d rfl (d_load_box_int 1 rfl rfl (Fld.trans (Fld.at0 fl_Cofferref17_todo_item) fl_Api_Item_Kind) ⟨trivial, trivial⟩ ty3 rfl (fun hw90 => ?_))
        refine tl_d rfl (d_eql rfl rfl ?_)
        refine tl_nil ?_
        refine q_then_code ?_
        refine t_cond rfl (fun hb91 => ?_) (fun hb91 => ?_)
        · have hf := if_t hb91 hf
          refine t_seq ?_
          refine t_seq ?_
          obtain ⟨hn92, hf⟩ := need_some hf
          refine t_any (n := 10) [] mixed ⟨by kernel_rfl, .inl rfl⟩ (np_then (np_then (np_then (np_block (np_then (np_then (np_block (np_then np_body)))))))) ?_
          refine ta_take (i := 0) rfl (by kernel_rfl) gd_none (d_move rfl ?_)
          refine ta_take (i := 1) rfl (by kernel_rfl) gd_none (d_move rfl ?_)
          refine ta_take (i := 2) rfl (by kernel_rfl) gd_none (d_index_sl rfl (mem_at 4 rfl) rfl Try.underlying22 ty34 hn92 (fun p101 => ?_))
          refine ta_take (i := 3) rfl (by kernel_rfl) gd_none (d_field_place rfl (mem_at 0 rfl) fo34_1 fl_Api_Object_Data trivial (fun p103 => ?_))
          refine ta_take (i := 4) rfl (by kernel_rfl) gd_none (d_load_place rfl (mem_at 0 rfl) ty32 (fun v105 => ?_))
          refine ta_take (i := 5) rfl (by kernel_rfl) gd_none (d_len_sl rfl (mem_at 0 rfl) Try.underlying32 (fun hl107 _ => ?_))
          refine ta_take (i := 6) rfl (by kernel_rfl) gd_none (d_field_own rfl fo78_0 ?_)
          refine ta_take (i := 7) rfl (by kernel_rfl) gd_none (d_field_own rfl fo54_3 ?_)
          refine ta_take (i := 8) rfl (by kernel_rfl) gd_none (d_load_box_int 1 rfl rfl (Fld.trans (Fld.at0 fl_Cofferref17_todo_item) fl_Api_Item_Size) ⟨trivial, trivial⟩ ty2 rfl (fun hw108 => ?_))
          refine ta_take (i := 9) rfl (by kernel_rfl) gd_none (d_neq rfl rfl ?_)
          refine ta_done (by kernel_rfl) ?_
          refine q_then_code ?_
          refine t_cond rfl (fun hb109 => ?_) (fun hb109 => ?_)
          · have hf := if_t hb109 hf
            refine t_seq ?_
            refine t_region ?_
            refine tl_d rfl (d_assign rfl ?_)
            refine tl_d rfl (d_assign rfl ?_)
            refine tl_d rfl (d_assign rfl ?_)
            refine tl_nil ?_
            refine q_then_code ?_
            refine t_ret ?_
            refine q_then_ret ?_
            refine q_then_ret ?_
            refine q_block_ret ?_
            refine q_then_ret ?_
            refine q_then_ret ?_
            have hr := Option.some.inj hf; try subst hr
            have hf := hout28
            refine q_block_ret ?_
            refine q_then_ret ?_
            have hr := Option.some.inj hf; subst hr
            refine q_ret (post := fun w w' m v => ∃ v0 v1 v2, v = .tuple #[v0, v1, v2] ∧ (rSl 32 (rArr 32 (rInt .u8))).val w' m v0 ([] : (List (List Int))) ∧ (rSl 48 rApi_File).val w' m v1 ([] : (List Api_File)) ∧ (rInt .i64).val w' m v2 (9 : Int)) hR _ (.inl rfl) (fun a w hs => ?_)
            exact ⟨_, run_results rfl (RvOk.cons (rv_tmp hs rfl) (RvOk.cons (rv_tmp hs rfl) (RvOk.cons (rv_tmp hs rfl) RvOk.nil))), _, _, _, rfl, (hs.hv hv_nil), (hs.hv hv_nil), (hs.hv (hv_int rfl))⟩
          · have hf := if_f hb109 hf
            refine t_skip ?_
            refine q_then_code ?_
            refine t_seq ?_
            obtain ⟨hn112, hf⟩ := need_some hf
            obtain ⟨hn122, hf⟩ := need_some hf
            refine t_any (n := 12) [0, 2, 3, 4, 5, 6, 7, 8, 9, 10, 11, 12, 13] mixed ⟨by kernel_rfl, .inl rfl⟩ (np_then (np_then (np_block (np_then (np_then (np_block (np_then np_body))))))) ?_
            refine ta_take (i := 0) rfl (by kernel_rfl) gd_none (d_move rfl ?_)
            refine ta_take (i := 1) rfl (by kernel_rfl) gd_none (d_field_own rfl fo78_2 ?_)
            refine ta_take (i := 2) rfl (by kernel_rfl) gd_none (d_load_box 1 rfl rfl (Fld.at0 fl_Cofferref17_todo_path) trivial ty9 rfl (fun v124 => ?_))
            refine ta_take (i := 3) rfl (by kernel_rfl) gd_none (d_move rfl ?_)
            refine ta_take (i := 4) rfl (by kernel_rfl) gd_none (d_move rfl ?_)
            refine ta_take (i := 5) rfl (by kernel_rfl) gd_none (d_index_sl rfl (mem_at 8 rfl) rfl Try.underlying22 ty34 hn112 (fun p126 => ?_))
            refine ta_take (i := 6) rfl (by kernel_rfl) gd_none (d_field_place rfl (mem_at 0 rfl) fo34_1 fl_Api_Object_Data trivial (fun p128 => ?_))
            refine ta_take (i := 7) rfl (by kernel_rfl) gd_none (d_load_place rfl (mem_at 0 rfl) ty32 (fun v130 => ?_))
            refine ta_take (i := 8) rfl (by kernel_rfl) gd_none (d_build2 (y := (⟨((((s22).getD ((0 : Int)).toNat rCofferref17_todo.zeroD)).path), false, (((a0).getD (c66).toNat rApi_Object.zeroD)).Data⟩ : Api_File)) ty48 rfl pl48 (BuildOk.cons rfl fl_Api_File_Path trivial rfl (hv_fact (mem_at 3 rfl)) (BuildOk.cons rfl fl_Api_File_Data trivial rfl (hv_fact (mem_at 0 rfl)) BuildOk.nil)) (fun v132 => ?_))
            refine ta_one (i := 9) (by kernel_rfl) rfl rfl gd_none (g_buildSlice (R := rApi_File) (l := [(⟨((((s22).getD ((0 : Int)).toNat rCofferref17_todo.zeroD)).path), false, (((a0).getD (c66).toNat rApi_Object.zeroD)).Data⟩ : Api_File)]) rfl Try.underlying40 ty48 ⟨rfl, by decide, by decide, by decide⟩ (PartsOk.cons rfl rfl (hv_fact (mem_at 0 rfl)) PartsOk.nil) rfl (fun v134 => ?_))
            refine ta_one (i := 10) (by kernel_rfl) rfl rfl gd_none (g_append_buf 0 2 rfl rfl rfl rfl rfl rfl Try.underlying40 ⟨_, Try.underlying40, fun k h => by cases h⟩ ty48 hn122 (by decide) (fun v135 => ?_))
            refine ta_take (i := 11) rfl (by kernel_rfl) gd_none (d_assign rfl ?_)
            refine ta_done (by kernel_rfl) ?_
            refine q_then_code ?_
            refine t_exit ?_
            refine q_then_exit ?_
            refine q_block_hit ?_
            refine q_then_code ?_
            refine t_region ?_
            refine tl_d rfl (d_move rfl ?_)
            refine tl_d rfl (d_add rfl rfl ?_)
            refine tl_d rfl (d_assign rfl ?_)
            refine tl_nil ?_
            exact q_round kq29 (c81, (s20 ++ [(⟨((((s22).getD ((0 : Int)).toNat rCofferref17_todo.zeroD)).path), false, (((a0).getD (c66).toNat rApi_Object.zeroD)).Data⟩ : Api_File)]), (sub s22 (1 : Int) ((s22).length : Int)), (IntKind.i64.wrap (s25 + (1 : Int))), v87, v135, v49) (Nat.lt_succ_self kq29) (wrap_wrap _ _) hf ⟨rfl, ⟨rfl, ⟨rfl, ⟨rfl, ⟨rfl, trivial⟩⟩⟩⟩⟩ ⟨mem_at 12 rfl, ⟨mem_at 8 rfl, ⟨mem_at 14 rfl, trivial⟩⟩⟩ [0] (Sel.cons rfl Sel.nil) rfl
        · have hf := if_f hb91 hf
          refine t_skip ?_
          refine q_then_code ?_
          refine t_seq ?_
          obtain ⟨hn136, hf⟩ := need_some hf
          obtain ⟨c143, hc144, hf⟩ := bind_some hf
          refine t_region ?_
          refine tl_d rfl (d_move rfl ?_)
          refine tl_d rfl (d_move rfl ?_)
          refine tl_d rfl (d_index_sl rfl (mem_at 4 rfl) rfl Try.underlying22 ty34 hn136 (fun p151 => ?_))
          refine tl_d rfl (d_field_place rfl (mem_at 0 rfl) fo34_1 fl_Api_Object_Data trivial (fun p153 => ?_))
          refine tl_d rfl (d_load_place rfl (mem_at 0 rfl) ty32 (fun v155 => ?_))
          refine tl_g [] rfl (g_callo2 rfl hfn28 (cofferref15_Take_ok _ _ _ _ hc144) (Evs.cons rfl Evs.nil) (fun a w hs => (hv_fact (mem_at 0 rfl)) _ _ _ _ hs) (fun v157 v158 => ?_))
          refine tl_int (mem_at 0 rfl) (fun hv162 hw161 => ?_)
          subst hv162
          refine tl_d rfl (d_move rfl ?_)
          refine tl_d rfl (d_extract rfl rfl ?_)
          refine tl_d rfl (d_extract rfl rfl ?_)
          refine tl_d rfl (d_assign rfl ?_)
          refine tl_d rfl (d_assign rfl ?_)
          refine tl_nil ?_
          refine q_then_code ?_
          refine t_seq ?_
          refine t_seq ?_
          refine t_region ?_
          refine tl_d rfl (d_move rfl ?_)
          refine tl_d rfl (d_neq rfl rfl ?_)
          refine tl_nil ?_
          refine q_then_code ?_
          refine t_cond rfl (fun hb163 => ?_) (fun hb163 => ?_)
          · have hf := if_t hb163 hf
            refine t_seq ?_
            refine t_region ?_
            refine tl_d rfl (d_assign rfl ?_)
            refine tl_d rfl (d_assign rfl ?_)
            refine tl_d rfl (d_assign rfl ?_)
            refine tl_nil ?_
            refine q_then_code ?_
            refine t_ret ?_
            refine q_then_ret ?_
            refine q_block_ret ?_
            refine q_then_ret ?_
            refine q_then_ret ?_
            have hr := Option.some.inj hf; try subst hr
            have hf := hout28
            refine q_block_ret ?_
            refine q_then_ret ?_
            have hr := Option.some.inj hf; subst hr
            refine q_ret (post := fun w w' m v => ∃ v0 v1 v2, v = .tuple #[v0, v1, v2] ∧ (rSl 32 (rArr 32 (rInt .u8))).val w' m v0 ([] : (List (List Int))) ∧ (rSl 48 rApi_File).val w' m v1 ([] : (List Api_File)) ∧ (rInt .i64).val w' m v2 (4 : Int)) hR _ (.inl rfl) (fun a w hs => ?_)
            exact ⟨_, run_results rfl (RvOk.cons (rv_tmp hs rfl) (RvOk.cons (rv_tmp hs rfl) (RvOk.cons (rv_tmp hs rfl) RvOk.nil))), _, _, _, rfl, (hs.hv hv_nil), (hs.hv hv_nil), (hs.hv (hv_int rfl))⟩
          · have hf := if_f hb163 hf
            refine t_skip ?_
            refine q_then_code ?_
            refine t_seq ?_
            refine t_seq ?_
            obtain ⟨o168, ho169, hf⟩ := bind_some hf
            refine t_cut (X := Bool) (fun x => match x with | s167 => (([(0, u0), (7, v87), (8, z21), (9, v49), (10, (.int .i64 s25)), (11, .pointer (some ⟨b45, 0, none⟩)), (13, v157), (100, .bool s167)], [(rSl 56 rApi_Object).fact u0 a0, (rSl 32 (rArr 32 (rInt .u8))).fact v87 c81, (rSl 88 rCofferref17_todo).fact v49 (sub s22 (1 : Int) ((s22).length : Int))], [Own.buf z21 48 rApi_File s20, Own.box b45 rCofferref17_todo ((s22).getD ((0 : Int)).toNat rCofferref17_todo.zeroD), Own.buf v157 64 rApi_Item c143.1]) : Sym)) (fun x => match x with | s167 => s167 = o168) ?_ ?_
            · have hf := ho169; clear ho169
              rcases bool_tf (decide (((c143.1).length : Int) = (0 : Int))) with hb165 | hb165
              · have hf := if_t hb165 hf
                refine t_region ?_
                refine tl_d rfl (d_move rfl ?_)
                refine tl_d rfl (d_len_buf 2 rfl rfl Try.underlying52 (fun hl170 _ => ?_))
                refine tl_d rfl (d_eql rfl rfl ?_)
                refine tl_d rfl (d_move rfl ?_)
                refine tl_dg (gd_on rfl rfl rfl hb165) rfl (d_field_own rfl fo78_1 ?_)
                refine tl_dg (gd_on rfl rfl rfl hb165) rfl (d_load_box_int 1 rfl rfl (Fld.at0 fl_Cofferref17_todo_deep) trivial ty3 rfl (fun hw171 => ?_))
                refine tl_dg (gd_on rfl rfl rfl hb165) rfl (d_gtr rfl rfl ?_)
                refine tl_d rfl (d_pick_true rfl hb165 rfl ?_)
                refine tl_nil ?_
                have hr := Option.some.inj hf; subst hr
                exact q_cut (decide ((1 : Int) < ((((s22).getD ((0 : Int)).toNat rCofferref17_todo.zeroD)).deep))) rfl ⟨rfl, ⟨rfl, ⟨rfl, ⟨rfl, ⟨rfl, ⟨rfl, ⟨rfl, ⟨rfl, trivial⟩⟩⟩⟩⟩⟩⟩⟩ ⟨mem_at 8 rfl, ⟨mem_at 4 rfl, ⟨mem_at 10 rfl, trivial⟩⟩⟩ [0, 1, 2] (Sel.cons rfl (Sel.cons rfl (Sel.cons rfl Sel.nil))) rfl
              · have hf := if_f hb165 hf
                refine t_region ?_
                refine tl_d rfl (d_move rfl ?_)
                refine tl_d rfl (d_len_buf 2 rfl rfl Try.underlying52 (fun hl172 _ => ?_))
                refine tl_d rfl (d_eql rfl rfl ?_)
                refine tl_d rfl (d_move rfl ?_)
                refine tl_off (gd_off rfl rfl rfl hb165) rfl rfl ?_
                refine tl_off (gd_off rfl rfl rfl hb165) rfl rfl ?_
                refine tl_off (gd_off rfl rfl rfl hb165) rfl rfl ?_
                refine tl_d rfl (d_pick_false rfl hb165 rfl ?_)
                refine tl_nil ?_
                have hr := Option.some.inj hf; subst hr
                exact q_cut false rfl ⟨rfl, ⟨rfl, ⟨rfl, ⟨rfl, ⟨rfl, ⟨rfl, ⟨rfl, ⟨rfl, trivial⟩⟩⟩⟩⟩⟩⟩⟩ ⟨mem_at 8 rfl, ⟨mem_at 4 rfl, ⟨mem_at 10 rfl, trivial⟩⟩⟩ [0, 1, 2] (Sel.cons rfl (Sel.cons rfl (Sel.cons rfl Sel.nil))) rfl
            rintro s167 rfl
            refine q_then_code ?_
            obtain ⟨o175, ho176, hf⟩ := bind_some hf
            refine t_cut (X := (List Api_File) × Value) (fun x => match x with | (s173, z174) => (([(0, u0), (7, v87), (8, z174), (9, v49), (10, (.int .i64 s25)), (11, .pointer (some ⟨b45, 0, none⟩)), (13, v157)], [(rSl 56 rApi_Object).fact u0 a0, (rSl 32 (rArr 32 (rInt .u8))).fact v87 c81, (rSl 88 rCofferref17_todo).fact v49 (sub s22 (1 : Int) ((s22).length : Int))], [Own.buf z174 48 rApi_File s173, Own.box b45 rCofferref17_todo ((s22).getD ((0 : Int)).toNat rCofferref17_todo.zeroD), Own.buf v157 64 rApi_Item c143.1]) : Sym)) (fun x => match x with | (s173, z174) => s173 = o175) ?_ ?_
            · have hf := ho176
              clear ho176
              refine t_cond rfl (fun hb177 => ?_) (fun hb177 => ?_)
              · have hf := if_t hb177 hf
                obtain ⟨hn183, hf⟩ := need_some hf
                refine t_region ?_
                refine tl_d rfl (d_move rfl ?_)
                refine tl_d rfl (d_field_own rfl fo78_2 ?_)
                refine tl_d rfl (d_load_box 1 rfl rfl (Fld.at0 fl_Cofferref17_todo_path) trivial ty9 rfl (fun v185 => ?_))
                refine tl_d rfl (d_build2 (y := (⟨((((s22).getD ((0 : Int)).toNat rCofferref17_todo.zeroD)).path), true, []⟩ : Api_File)) ty48 rfl pl48 (BuildOk.cons rfl fl_Api_File_Path trivial rfl (hv_fact (mem_at 0 rfl)) (BuildOk.cons rfl fl_Api_File_Dir trivial rfl hv_bool BuildOk.nil)) (fun v187 => ?_))
                refine tl_g [] rfl (g_buildSlice (R := rApi_File) (l := [(⟨((((s22).getD ((0 : Int)).toNat rCofferref17_todo.zeroD)).path), true, []⟩ : Api_File)]) rfl Try.underlying40 ty48 ⟨rfl, by decide, by decide, by decide⟩ (PartsOk.cons rfl rfl (hv_fact (mem_at 0 rfl)) PartsOk.nil) rfl (fun v189 => ?_))
                refine tl_g _ rfl (g_append_buf 0 3 rfl rfl rfl rfl rfl rfl Try.underlying40 ⟨_, Try.underlying40, fun k h => by cases h⟩ ty48 hn183 (List.mem_singleton_self _) (fun v190 => ?_))
                refine tl_d rfl (d_assign rfl ?_)
                refine tl_nil ?_
                have hr := Option.some.inj hf; subst hr
                exact q_cut ((s20 ++ [(⟨((((s22).getD ((0 : Int)).toNat rCofferref17_todo.zeroD)).path), true, []⟩ : Api_File)]), v190) rfl ⟨rfl, ⟨rfl, ⟨rfl, ⟨rfl, ⟨rfl, ⟨rfl, ⟨rfl, trivial⟩⟩⟩⟩⟩⟩⟩ ⟨mem_at 2 rfl, ⟨mem_at 3 rfl, ⟨mem_at 4 rfl, trivial⟩⟩⟩ [0, 1, 2] (Sel.cons rfl (Sel.cons rfl (Sel.cons rfl Sel.nil))) rfl
              · have hf := if_f hb177 hf
                refine t_skip ?_
                have hr := Option.some.inj hf; subst hr
                exact q_cut (s20, z21) rfl ⟨rfl, ⟨rfl, ⟨rfl, ⟨rfl, ⟨rfl, ⟨rfl, ⟨rfl, trivial⟩⟩⟩⟩⟩⟩⟩ ⟨mem_at 0 rfl, ⟨mem_at 1 rfl, ⟨mem_at 2 rfl, trivial⟩⟩⟩ [0, 1, 2] (Sel.cons rfl (Sel.cons rfl (Sel.cons rfl Sel.nil))) rfl
            rintro ⟨s173, z174⟩ rfl
            refine q_then_code ?_
            refine t_seq ?_
            refine t_region ?_
            refine tl_d rfl (d_assign rfl ?_)
            refine tl_nil ?_
            refine q_then_code ?_
            refine t_seq ?_
            refine t_seq ?_
            refine t_region ?_
            refine tl_d rfl (d_assign rfl ?_)
            refine tl_nil ?_
            refine q_then_code ?_
            refine t_block ?_
            refine t_nilbuf 88 rCofferref17_todo ?_
            obtain ⟨o262, ho263, hf⟩ := bind_some hf
            refine t_loop (X := (List Cofferref17_todo) × Int × Value) (O := (List Cofferref17_todo)) (fun kl x => match x with | (s191, s193, z192) => cofferref17_Walk.l1 c143 s22 kl s191 s193) o262 (fun x => match x with | (s191, s193, z192) => (([(0, u0), (7, v87), (8, z174), (9, v49), (10, (.int .i64 s25)), (11, .pointer (some ⟨b45, 0, none⟩)), (13, v157), (15, z192), (16, .int .i64 s193)], [(rSl 56 rApi_Object).fact u0 a0, (rSl 32 (rArr 32 (rInt .u8))).fact v87 c81, (rSl 88 rCofferref17_todo).fact v49 (sub s22 (1 : Int) ((s22).length : Int))], [Own.buf z174 48 rApi_File s173, Own.box b45 rCofferref17_todo ((s22).getD ((0 : Int)).toNat rCofferref17_todo.zeroD), Own.buf v157 64 rApi_Item c143.1, Own.buf z192 88 rCofferref17_todo s191]) : Sym)) (fun x => match x with | (s191, s193, z192) => IntKind.i64.wrap s193 = s193) kq29 (([] : List Cofferref17_todo), (0 : Int), (.slice none 0 0)) ho263 rfl ⟨rfl, ⟨rfl, ⟨rfl, ⟨rfl, ⟨rfl, ⟨rfl, ⟨rfl, ⟨rfl, ⟨rfl, trivial⟩⟩⟩⟩⟩⟩⟩⟩⟩ ⟨mem_at 0 rfl, ⟨mem_at 1 rfl, ⟨mem_at 2 rfl, trivial⟩⟩⟩ [0, 1, 2, 3] (Sel.cons rfl (Sel.cons rfl (Sel.cons rfl (Sel.cons rfl Sel.nil)))) rfl ?_
            clear ho263
            rintro k197 ⟨s191, s193, z192⟩ hw_s193 hk196
            have hout194 := hf; clear hf
            obtain ⟨kq195, rfl⟩ : ∃ q, k197 = q + 1 := by cases k197 with | zero => cases hk196 | succ q => exact ⟨q, rfl⟩
            have hf := hk196
            clear hk196; dsimp only [cofferref17_Walk.l1] at hf
            refine t_seq ?_
            refine t_seq ?_
            refine t_region ?_
            refine tl_d rfl (d_move rfl ?_)
            refine tl_d rfl (d_move rfl ?_)
            refine tl_d rfl (d_len_buf 2 rfl rfl Try.underlying52 (fun hl199 _ => ?_))
            refine tl_d rfl (d_lss rfl rfl ?_)
            refine tl_nil ?_
            refine q_then_code ?_
            refine t_cond rfl (fun hb200 => ?_) (fun hb200 => ?_)
            · have hf := if_t hb200 hf
              refine t_skip ?_
              refine q_then_code ?_
              refine t_seq ?_
              refine t_block ?_
              refine t_seq ?_
              obtain ⟨hn201, hf⟩ := need_some hf
              refine t_region ?_
              refine tl_d rfl (d_move rfl ?_)
              refine tl_d rfl (d_move rfl ?_)
              refine tl_d rfl (d_index_buf 2 rfl rfl rfl Try.underlying52 ty54 hn201 (fun p208 hp209 => ?_))
              refine tl_d rfl (d_field_buf rfl hp209 fo54_0 (fun p210 hp211 => ?_))
              refine tl_d rfl (d_load_buf (j := (s193).toNat) 2 rfl hp211 rfl rfl (toNat_lt hn201) fl_Api_Item_Name trivial ty9 rfl (fun v212 => ?_))
              refine tl_d rfl (d_assign rfl ?_)
              refine tl_nil ?_
              refine q_then_code ?_
              refine t_seq ?_
              refine t_seq ?_
              refine t_region ?_
              refine tl_d rfl (d_field_own rfl fo78_1 ?_)
              refine tl_d rfl (d_load_box_int 1 rfl rfl (Fld.at0 fl_Cofferref17_todo_deep) trivial ty3 rfl (fun hw215 => ?_))
              refine tl_d rfl (d_gtr rfl rfl ?_)
              refine tl_nil ?_
              refine q_then_code ?_
              obtain ⟨o219, ho220, hf⟩ := bind_some hf
              refine t_cut (X := (List Int) × Value) (fun x => match x with | (s216, z217) => (([(0, u0), (7, v87), (8, z174), (9, v49), (10, (.int .i64 s25)), (11, .pointer (some ⟨b45, 0, none⟩)), (13, v157), (15, z192), (16, (.int .i64 s193)), (17, z217)], [(rSl 56 rApi_Object).fact u0 a0, (rSl 32 (rArr 32 (rInt .u8))).fact v87 c81, (rSl 88 rCofferref17_todo).fact v49 (sub s22 (1 : Int) ((s22).length : Int)), rStr.fact z217 s216], [Own.buf z174 48 rApi_File s173, Own.box b45 rCofferref17_todo ((s22).getD ((0 : Int)).toNat rCofferref17_todo.zeroD), Own.buf v157 64 rApi_Item c143.1, Own.buf z192 88 rCofferref17_todo s191]) : Sym)) (fun x => match x with | (s216, z217) => s216 = o219) ?_ ?_
              · have hf := ho220
                clear ho220
                refine t_cond rfl (fun hb221 => ?_) (fun hb221 => ?_)
                · have hf := if_t hb221 hf
                  obtain ⟨hn225, hf⟩ := need_some hf
                  obtain ⟨hn228, hf⟩ := need_some hf
                  refine t_region ?_
                  refine tl_d rfl (d_field_own rfl fo78_2 ?_)
                  refine tl_d rfl (d_load_box 1 rfl rfl (Fld.at0 fl_Cofferref17_todo_path) trivial ty9 rfl (fun v231 => ?_))
                  refine tl_fact (rStr.fact (.string ⟨#[47]⟩) [47]) (str_fact rfl (by decide)) ?_
                  refine tl_d rfl (d_str_add rfl rfl (mem_at 1 rfl) (mem_at 0 rfl) hn225 (fun v234 => ?_))
                  refine tl_d rfl (d_move rfl ?_)
                  refine tl_d rfl (d_str_add rfl rfl (mem_at 0 rfl) (mem_at 3 rfl) hn228 (fun v236 => ?_))
                  refine tl_d rfl (d_assign rfl ?_)
                  refine tl_nil ?_
                  have hr := Option.some.inj hf; subst hr
                  exact q_cut (((((((s22).getD ((0 : Int)).toNat rCofferref17_todo.zeroD)).path) ++ [47]) ++ ((((c143.1).getD (s193).toNat rApi_Item.zeroD)).Name)), v236) rfl ⟨rfl, ⟨rfl, ⟨rfl, ⟨rfl, ⟨rfl, ⟨rfl, ⟨rfl, ⟨rfl, ⟨rfl, ⟨rfl, trivial⟩⟩⟩⟩⟩⟩⟩⟩⟩⟩ ⟨mem_at 5 rfl, ⟨mem_at 6 rfl, ⟨mem_at 7 rfl, ⟨mem_at 0 rfl, trivial⟩⟩⟩⟩ [0, 1, 2, 3] (Sel.cons rfl (Sel.cons rfl (Sel.cons rfl (Sel.cons rfl Sel.nil)))) rfl
                · have hf := if_f hb221 hf
                  refine t_skip ?_
                  have hr := Option.some.inj hf; subst hr
                  exact q_cut (((((c143.1).getD (s193).toNat rApi_Item.zeroD)).Name), v212) rfl ⟨rfl, ⟨rfl, ⟨rfl, ⟨rfl, ⟨rfl, ⟨rfl, ⟨rfl, ⟨rfl, ⟨rfl, ⟨rfl, trivial⟩⟩⟩⟩⟩⟩⟩⟩⟩⟩ ⟨mem_at 1 rfl, ⟨mem_at 2 rfl, ⟨mem_at 3 rfl, ⟨mem_at 0 rfl, trivial⟩⟩⟩⟩ [0, 1, 2, 3] (Sel.cons rfl (Sel.cons rfl (Sel.cons rfl (Sel.cons rfl Sel.nil)))) rfl
              rintro ⟨s216, z217⟩ rfl
              refine q_then_code ?_
              obtain ⟨hn238, hf⟩ := need_some hf
              obtain ⟨hn247, hf⟩ := need_some hf
              refine t_any (n := 13) [3, 4, 5, 6, 7, 8, 9, 10, 11, 12, 13, 14, 15] mixed ⟨by kernel_rfl, .inl rfl⟩ (np_block (np_then (np_then (np_block (np_then (np_block (np_then (np_then (np_block (np_then np_body)))))))))) ?_
              refine ta_take (i := 0) rfl (by kernel_rfl) gd_none (d_move rfl ?_)
              refine ta_take (i := 1) rfl (by kernel_rfl) gd_none (d_move rfl ?_)
              refine ta_take (i := 2) rfl (by kernel_rfl) gd_none (d_move rfl ?_)
              refine ta_take (i := 3) rfl (by kernel_rfl) gd_none (d_index_buf 2 rfl rfl rfl Try.underlying52 ty54 hn238 (fun p249 hp250 => ?_))
              refine ta_take (i := 4) rfl (by kernel_rfl) gd_none (d_load_buf (j := (s193).toNat) 2 rfl hp250 rfl rfl (toNat_lt hn238) (Fld.self rApi_Item) trivial ty54 rfl (fun v251 => ?_))
              refine ta_take (i := 5) rfl (by kernel_rfl) gd_none (d_field_own rfl fo78_1 ?_)
              refine ta_take (i := 6) rfl (by kernel_rfl) gd_none (d_load_box_int 1 rfl rfl (Fld.at0 fl_Cofferref17_todo_deep) trivial ty3 rfl (fun hw253 => ?_))
              refine ta_take (i := 7) rfl (by kernel_rfl) gd_none (d_add rfl rfl ?_)
              refine ta_take (i := 8) rfl (by kernel_rfl) gd_none (d_move rfl ?_)
              refine ta_take (i := 9) rfl (by kernel_rfl) gd_none (d_build2 (y := (⟨((c143.1).getD (s193).toNat rApi_Item.zeroD), (IntKind.i64.wrap (((((s22).getD ((0 : Int)).toNat rCofferref17_todo.zeroD)).deep) + (1 : Int))), s216⟩ : Cofferref17_todo)) ty78 rfl pl78 (BuildOk.cons rfl fl_Cofferref17_todo_item trivial rfl (hv_fact (mem_at 0 rfl)) (BuildOk.cons rfl fl_Cofferref17_todo_deep trivial rfl (hv_int (wrap_wrap _ _)) (BuildOk.cons rfl fl_Cofferref17_todo_path trivial rfl (hv_fact (mem_at 4 rfl)) BuildOk.nil))) (fun v254 => ?_))
              refine ta_one (i := 10) (by kernel_rfl) rfl rfl gd_none (g_buildSlice (R := rCofferref17_todo) (l := [(⟨((c143.1).getD (s193).toNat rApi_Item.zeroD), (IntKind.i64.wrap (((((s22).getD ((0 : Int)).toNat rCofferref17_todo.zeroD)).deep) + (1 : Int))), s216⟩ : Cofferref17_todo)]) rfl Try.underlying79 ty78 ⟨rfl, by decide, by decide, by decide⟩ (PartsOk.cons rfl rfl (hv_fact (mem_at 0 rfl)) PartsOk.nil) rfl (fun v256 => ?_))
              refine ta_M [Own.buf z174 48 rApi_File s173, Own.box b45 rCofferref17_todo ((s22).getD ((0 : Int)).toNat rCofferref17_todo.zeroD), Own.buf v157 64 rApi_Item c143.1, Own.buf z192 88 rCofferref17_todo s191, Own.buf v256 88 rCofferref17_todo [(⟨((c143.1).getD (s193).toNat rApi_Item.zeroD), (IntKind.i64.wrap (((((s22).getD ((0 : Int)).toNat rCofferref17_todo.zeroD)).deep) + (1 : Int))), s216⟩ : Cofferref17_todo)]] rfl ?_
              refine ta_one (i := 11) (by kernel_rfl) rfl rfl gd_none (g_append_buf 3 4 rfl rfl rfl rfl rfl rfl Try.underlying79 ⟨_, Try.underlying79, fun k h => by cases h⟩ ty78 hn247 (by decide) (fun v257 => ?_))
              refine ta_M [Own.buf z174 48 rApi_File s173, Own.box b45 rCofferref17_todo ((s22).getD ((0 : Int)).toNat rCofferref17_todo.zeroD), Own.buf v157 64 rApi_Item c143.1, Own.buf v257 88 rCofferref17_todo (s191 ++ [(⟨((c143.1).getD (s193).toNat rApi_Item.zeroD), (IntKind.i64.wrap (((((s22).getD ((0 : Int)).toNat rCofferref17_todo.zeroD)).deep) + (1 : Int))), s216⟩ : Cofferref17_todo)]), Own.buf v256 88 rCofferref17_todo [(⟨((c143.1).getD (s193).toNat rApi_Item.zeroD), (IntKind.i64.wrap (((((s22).getD ((0 : Int)).toNat rCofferref17_todo.zeroD)).deep) + (1 : Int))), s216⟩ : Cofferref17_todo)]] rfl ?_
              refine ta_take (i := 12) rfl (by kernel_rfl) gd_none (d_assign rfl ?_)
              refine ta_done (by kernel_rfl) ?_
              refine q_block_normal ?_
              refine q_then_code ?_
              refine t_region ?_
              refine tl_d rfl (d_move rfl ?_)
              refine tl_d rfl (d_add rfl rfl ?_)
              refine tl_d rfl (d_assign rfl ?_)
              refine tl_nil ?_
              exact q_round kq195 ((s191 ++ [(⟨((c143.1).getD (s193).toNat rApi_Item.zeroD), (IntKind.i64.wrap (((((s22).getD ((0 : Int)).toNat rCofferref17_todo.zeroD)).deep) + (1 : Int))), s216⟩ : Cofferref17_todo)]), (IntKind.i64.wrap (s193 + (1 : Int))), v257) (Nat.lt_succ_self kq195) (wrap_wrap _ _) hf ⟨rfl, ⟨rfl, ⟨rfl, ⟨rfl, ⟨rfl, ⟨rfl, ⟨rfl, ⟨rfl, ⟨rfl, trivial⟩⟩⟩⟩⟩⟩⟩⟩⟩ ⟨mem_at 2 rfl, ⟨mem_at 3 rfl, ⟨mem_at 4 rfl, trivial⟩⟩⟩ [0, 1, 2, 3] (Sel.cons rfl (Sel.cons rfl (Sel.cons rfl (Sel.cons rfl Sel.nil)))) rfl
            · have hf := if_f hb200 hf
              refine t_exit ?_
              refine q_then_exit ?_
              refine q_then_exit ?_
              have hr := Option.some.inj hf; try subst hr
              have hf := hout194
              try dsimp only at hf
              refine q_block_hit ?_
              refine q_then_code ?_
              obtain ⟨hn258, hf⟩ := need_some hf
              refine t_region ?_
              refine tl_d rfl (d_move rfl ?_)
              refine tl_d rfl (d_move rfl ?_)
              refine tl_g _ rfl (g_append_sl (l2 := (sub s22 (1 : Int) ((s22).length : Int))) 3 rfl rfl rfl rfl (hv_fact (mem_at 2 rfl)) Try.underlying79 ⟨_, Try.underlying79, fun k h => by cases h⟩ ty78 hn258 (List.mem_singleton_self _) (fun v260 => ?_))
              refine tl_d rfl (d_assign rfl ?_)
              refine tl_nil ?_
              refine q_block_normal ?_
              refine q_then_code ?_
              refine t_region ?_
              refine tl_d rfl (d_move rfl ?_)
              refine tl_d rfl (d_add rfl rfl ?_)
              refine tl_d rfl (d_assign rfl ?_)
              refine tl_nil ?_
              refine q_freeze 3 rfl ?_
              exact q_round kq29 (c81, s173, (s191 ++ (sub s22 (1 : Int) ((s22).length : Int))), (IntKind.i64.wrap (s25 + (1 : Int))), v87, z174, v260) (Nat.lt_succ_self kq29) (wrap_wrap _ _) hf ⟨rfl, ⟨rfl, ⟨rfl, ⟨rfl, ⟨rfl, trivial⟩⟩⟩⟩⟩ ⟨mem_at 1 rfl, ⟨mem_at 2 rfl, ⟨mem_at 0 rfl, trivial⟩⟩⟩ [0] (Sel.cons rfl Sel.nil) rfl
  · have hf := if_f hb34 hf
    refine t_exit ?_
    refine q_then_exit ?_
    refine q_then_exit ?_
    have hr := Option.some.inj hf; try subst hr
    have hf := hout28
    try dsimp only at hf
    refine q_block_hit ?_
    refine q_then_code ?_
    refine t_seq ?_
    refine t_region ?_
    refine tl_d rfl (d_move rfl ?_)
    refine tl_d rfl (d_move rfl ?_)
    refine tl_d rfl (d_assign rfl ?_)
    refine tl_d rfl (d_assign rfl ?_)
    refine tl_d rfl (d_assign rfl ?_)
    refine tl_nil ?_
    refine q_then_code ?_
    refine t_ret ?_
    have hr := Option.some.inj hf; subst hr
    refine q_ret (post := fun w w' m v => ∃ v0 v1 v2, v = .tuple #[v0, v1, v2] ∧ (rSl 32 (rArr 32 (rInt .u8))).val w' m v0 s17 ∧ (rSl 48 rApi_File).val w' m v1 s20 ∧ (rInt .i64).val w' m v2 (0 : Int)) hR _ (.inl rfl) (fun a w hs => ?_)
    exact ⟨_, run_results rfl (RvOk.cons (rv_tmp hs rfl) (RvOk.cons (rv_tmp hs rfl) (RvOk.cons (rv_tmp hs rfl) RvOk.nil))), _, _, _, rfl, (hs.hv (hv_fact (mem_at 1 rfl))), (ownres_val hs.m0 (hs.ownres (i := 0) rfl)), (hs.hv (hv_int rfl))⟩

def cofferref17_AlikeFiles.l0 (a0 : (List Api_File)) (a1 : (List Api_File)) : Nat → Int → Option (Sum (Bool) (Unit))
  | 0, _ => none
  | k + 1, s6 => (if (decide (s6 < ((a0).length : Int))) = true then ((need (0 ≤ s6 ∧ s6 < ((a0).length : Int)) (need (0 ≤ s6 ∧ s6 < ((a1).length : Int)) ((if (!decide ((((a0).getD (s6).toNat rApi_File.zeroD)).Path = (((a1).getD (s6).toNat rApi_File.zeroD)).Path)) = true then (some true) else (need (0 ≤ s6 ∧ s6 < ((a0).length : Int)) (need (0 ≤ s6 ∧ s6 < ((a1).length : Int)) ((if (!decide ((((a0).getD (s6).toNat rApi_File.zeroD)).Dir = (((a1).getD (s6).toNat rApi_File.zeroD)).Dir)) = true then (some true) else (need (0 ≤ s6 ∧ s6 < ((a0).length : Int)) (need (0 ≤ s6 ∧ s6 < ((a1).length : Int)) ((some (!decide ((((a0).getD (s6).toNat rApi_File.zeroD)).Data = (((a1).getD (s6).toNat rApi_File.zeroD)).Data))))))))))))))).bind fun s58 => (if s58 = true then (some (.inl false)) else (cofferref17_AlikeFiles.l0 a0 a1 k (IntKind.i64.wrap (s6 + (1 : Int))))) else (some (.inr ())))
def cofferref17_AlikeFiles.f (k : Nat) (a0 : (List Api_File)) (a1 : (List Api_File)) : Option (Bool) := (if (!decide (((a0).length : Int) = ((a1).length : Int))) = true then (some false) else (cofferref17_AlikeFiles.l0 a0 a1 k (0 : Int)).bind fun o130 => (match o130 with | .inl r => some r | .inr _ => (some true)))
set_option maxRecDepth 100000 in
set_option maxHeartbeats 2580000 in
theorem cofferref17_AlikeFiles_ok (k : Nat) (a0 : (List Api_File)) (a1 : (List Api_File)) (u0 u1 : Value) (r : Bool) (hf : cofferref17_AlikeFiles.f k a0 a1 = some r) : Cf.FnX true Try.prog 21 [u0, u1] (fun w m => (rSl 48 rApi_File).val w m u0 a0 ∧ (rSl 48 rApi_File).val w m u1 a1) (fun w w' m v => rBool.val w' m v r) := by
  unfold cofferref17_AlikeFiles.f at hf
  refine fn_of Try.func21 rfl (Nat.le_of_ble_eq_true rfl) [(rSl 48 rApi_File).fact u0 a0, (rSl 48 rApi_File).fact u1 a1] (fun w m h f hf => ?_) ?_
  · simp at hf; rcases hf with rfl | rfl
    · exact h.1
    · exact h.2
  intro w0 m0 R hR
  refine t_seq ?_
  refine t_region ?_
  refine tl_d rfl (d_assign rfl ?_)
  refine tl_nil ?_
  refine q_then_code ?_
  refine t_seq ?_
  refine t_seq ?_
  refine t_region ?_
  refine tl_d rfl (d_move rfl ?_)
  refine tl_d rfl (d_len_sl rfl (mem_at 0 rfl) Try.underlying40 (fun hl3 _ => ?_))
  refine tl_d rfl (d_move rfl ?_)
  refine tl_d rfl (d_len_sl rfl (mem_at 1 rfl) Try.underlying40 (fun hl4 _ => ?_))
  refine tl_d rfl (d_neq rfl rfl ?_)
  refine tl_nil ?_
  refine q_then_code ?_
  refine t_cond rfl (fun hb5 => ?_) (fun hb5 => ?_)
  · have hf := if_t hb5 hf
    refine t_seq ?_
    refine t_region ?_
    refine tl_d rfl (d_assign rfl ?_)
    refine tl_nil ?_
    refine q_then_code ?_
    refine t_ret ?_
    refine q_then_ret ?_
    have hr := Option.some.inj hf; subst hr
    refine q_ret (post := fun w w' m v => rBool.val w' m v false) hR _ (.inl rfl) (fun a w hs => ?_)
    exact ⟨_, run_results rfl (RvOk.cons (rv_tmp hs rfl) RvOk.nil), (hs.hv hv_bool)⟩
  · have hf := if_f hb5 hf
    refine t_skip ?_
    refine q_then_code ?_
    refine t_seq ?_
    refine t_seq ?_
    refine t_region ?_
    refine tl_d rfl (d_assign rfl ?_)
    refine tl_nil ?_
    refine q_then_code ?_
    refine t_block ?_
    obtain ⟨o130, ho131, hf⟩ := bind_some hf
    refine t_loop (X := Int) (O := Sum (Bool) (Unit)) (fun kl x => match x with | s6 => cofferref17_AlikeFiles.l0 a0 a1 kl s6) o130 (fun x => match x with | s6 => (([(0, u0), (1, u1), (5, .int .i64 s6)], [(rSl 48 rApi_File).fact u0 a0, (rSl 48 rApi_File).fact u1 a1], []) : Sym)) (fun x => match x with | s6 => IntKind.i64.wrap s6 = s6) k (0 : Int) ho131 rfl ⟨rfl, ⟨rfl, ⟨rfl, trivial⟩⟩⟩ ⟨mem_at 0 rfl, ⟨mem_at 1 rfl, trivial⟩⟩ [] (Sel.nil) rfl ?_
    clear ho131
    rintro k10 s6 hw_s6 hk9
    have hout7 := hf; clear hf
    obtain ⟨kq8, rfl⟩ : ∃ q, k10 = q + 1 := by cases k10 with | zero => cases hk9 | succ q => exact ⟨q, rfl⟩
    have hf := hk9
    clear hk9; dsimp only [cofferref17_AlikeFiles.l0] at hf
    refine t_seq ?_
    refine t_seq ?_
    refine t_region ?_
    refine tl_d rfl (d_move rfl ?_)
    refine tl_d rfl (d_move rfl ?_)
    refine tl_d rfl (d_len_sl rfl (mem_at 0 rfl) Try.underlying40 (fun hl12 _ => ?_))
    refine tl_d rfl (d_lss rfl rfl ?_)
    refine tl_nil ?_
    refine q_then_code ?_
    refine t_cond rfl (fun hb13 => ?_) (fun hb13 => ?_)
    · have hf := if_t hb13 hf
      refine t_skip ?_
      refine q_then_code ?_
      refine t_seq ?_
      refine t_block ?_
      refine t_seq ?_
      obtain ⟨o59, ho60, hf⟩ := bind_some hf
      refine t_cut (X := Bool) (fun x => match x with | s58 => (([(0, u0), (1, u1), (5, (.int .i64 s6)), (55, .bool s58)], [(rSl 48 rApi_File).fact u0 a0, (rSl 48 rApi_File).fact u1 a1], []) : Sym)) (fun x => match x with | s58 => s58 = o59) ?_ ?_
      · have hf := ho60; clear ho60
        obtain ⟨hn14, hf⟩ := need_some hf
        obtain ⟨hn21, hf⟩ := need_some hf
        rcases bool_tf (!decide ((((a0).getD (s6).toNat rApi_File.zeroD)).Path = (((a1).getD (s6).toNat rApi_File.zeroD)).Path)) with hb28 | hb28
        · have hf := if_t hb28 hf
          refine t_any (n := 39) [] mixed ⟨by kernel_rfl, .inl rfl⟩ (np_cut (np_then (np_block (np_then (np_then (np_block (np_then np_body))))))) ?_
          refine ta_take (i := 0) rfl (by kernel_rfl) gd_none (d_move rfl ?_)
          refine ta_take (i := 1) rfl (by kernel_rfl) gd_none (d_move rfl ?_)
          refine ta_take (i := 2) rfl (by kernel_rfl) gd_none (d_index_sl rfl (mem_at 0 rfl) rfl Try.underlying40 ty48 hn14 (fun p61 => ?_))
          refine ta_take (i := 3) rfl (by kernel_rfl) gd_none (d_field_place rfl (mem_at 0 rfl) fo48_0 fl_Api_File_Path trivial (fun p63 => ?_))
          refine ta_take (i := 4) rfl (by kernel_rfl) gd_none (d_load_place rfl (mem_at 0 rfl) ty9 (fun v65 => ?_))
          refine ta_take (i := 5) rfl (by kernel_rfl) gd_none (d_move rfl ?_)
          refine ta_take (i := 6) rfl (by kernel_rfl) gd_none (d_move rfl ?_)
          refine ta_take (i := 7) rfl (by kernel_rfl) gd_none (d_index_sl rfl (mem_at 4 rfl) rfl Try.underlying40 ty48 hn21 (fun p67 => ?_))
          refine ta_take (i := 8) rfl (by kernel_rfl) gd_none (d_field_place rfl (mem_at 0 rfl) fo48_0 fl_Api_File_Path trivial (fun p69 => ?_))
          refine ta_take (i := 9) rfl (by kernel_rfl) gd_none (d_load_place rfl (mem_at 0 rfl) ty9 (fun v71 => ?_))
          refine ta_take (i := 10) rfl (by kernel_rfl) gd_none (d_str_cmp (!decide ((((a0).getD (s6).toNat rApi_File.zeroD)).Path = (((a1).getD (s6).toNat rApi_File.zeroD)).Path)) rfl rfl (mem_at 3 rfl) (mem_at 0 rfl) (.inr (.inl ⟨rfl, rfl⟩)) ?_)
          refine ta_take (i := 11) rfl (by kernel_rfl) gd_none (d_move rfl ?_)
          refine ta_off (i := 12) rfl (by kernel_rfl) (gd_off rfl rfl rfl hb28) ?_
          refine ta_off (i := 13) rfl (by kernel_rfl) (gd_off rfl rfl rfl hb28) ?_
          refine ta_off (i := 14) rfl (by kernel_rfl) (gd_off rfl rfl rfl hb28) ?_
          refine ta_off (i := 15) rfl (by kernel_rfl) (gd_off rfl rfl rfl hb28) ?_
          refine ta_off (i := 16) rfl (by kernel_rfl) (gd_off rfl rfl rfl hb28) ?_
          refine ta_off (i := 17) rfl (by kernel_rfl) (gd_off rfl rfl rfl hb28) ?_
          refine ta_off (i := 18) rfl (by kernel_rfl) (gd_off rfl rfl rfl hb28) ?_
          refine ta_off (i := 19) rfl (by kernel_rfl) (gd_off rfl rfl rfl hb28) ?_
          refine ta_off (i := 20) rfl (by kernel_rfl) (gd_off rfl rfl rfl hb28) ?_
          refine ta_off (i := 21) rfl (by kernel_rfl) (gd_off rfl rfl rfl hb28) ?_
          refine ta_off (i := 22) rfl (by kernel_rfl) (gd_off rfl rfl rfl hb28) ?_
          refine ta_take (i := 23) rfl (by kernel_rfl) gd_none (d_pick_true rfl hb28 rfl ?_)
          refine ta_take (i := 24) rfl (by kernel_rfl) gd_none (d_move rfl ?_)
          refine ta_off (i := 25) rfl (by kernel_rfl) (gd_off rfl rfl rfl rfl) ?_
          refine ta_off (i := 26) rfl (by kernel_rfl) (gd_off rfl rfl rfl rfl) ?_
          refine ta_off (i := 27) rfl (by kernel_rfl) (gd_off rfl rfl rfl rfl) ?_
          refine ta_off (i := 28) rfl (by kernel_rfl) (gd_off rfl rfl rfl rfl) ?_
          refine ta_off (i := 29) rfl (by kernel_rfl) (gd_off rfl rfl rfl rfl) ?_
          refine ta_off (i := 30) rfl (by kernel_rfl) (gd_off rfl rfl rfl rfl) ?_
          refine ta_off (i := 31) rfl (by kernel_rfl) (gd_off rfl rfl rfl rfl) ?_
          refine ta_off (i := 32) rfl (by kernel_rfl) (gd_off rfl rfl rfl rfl) ?_
          refine ta_off (i := 33) rfl (by kernel_rfl) (gd_off rfl rfl rfl rfl) ?_
          refine ta_off (i := 34) rfl (by kernel_rfl) (gd_off rfl rfl rfl rfl) ?_
          refine ta_off (i := 35) rfl (by kernel_rfl) (gd_off rfl rfl rfl rfl) ?_
          refine ta_off (i := 36) rfl (by kernel_rfl) (gd_off rfl rfl rfl rfl) ?_
          refine ta_off (i := 37) rfl (by kernel_rfl) (gd_off rfl rfl rfl rfl) ?_
          refine ta_take (i := 38) rfl (by kernel_rfl) gd_none (d_pick_true rfl rfl rfl ?_)
          refine ta_done (by kernel_rfl) ?_
          have hr := Option.some.inj hf; subst hr
          exact q_cut true rfl ⟨rfl, ⟨rfl, ⟨rfl, ⟨rfl, trivial⟩⟩⟩⟩ ⟨mem_at 6 rfl, ⟨mem_at 7 rfl, trivial⟩⟩ [] (Sel.nil) rfl
        · have hf := if_f hb28 hf
          obtain ⟨hn29, hf⟩ := need_some hf
          obtain ⟨hn34, hf⟩ := need_some hf
          rcases bool_tf (!decide ((((a0).getD (s6).toNat rApi_File.zeroD)).Dir = (((a1).getD (s6).toNat rApi_File.zeroD)).Dir)) with hb39 | hb39
          · have hf := if_t hb39 hf
            refine t_any (n := 39) [] mixed ⟨by kernel_rfl, .inl rfl⟩ (np_cut (np_then (np_block (np_then (np_then (np_block (np_then np_body))))))) ?_
            refine ta_take (i := 0) rfl (by kernel_rfl) gd_none (d_move rfl ?_)
            refine ta_take (i := 1) rfl (by kernel_rfl) gd_none (d_move rfl ?_)
            refine ta_take (i := 2) rfl (by kernel_rfl) gd_none (d_index_sl rfl (mem_at 0 rfl) rfl Try.underlying40 ty48 hn14 (fun p73 => ?_))
            refine ta_take (i := 3) rfl (by kernel_rfl) gd_none (d_field_place rfl (mem_at 0 rfl) fo48_0 fl_Api_File_Path trivial (fun p75 => ?_))
            refine ta_take (i := 4) rfl (by kernel_rfl) gd_none (d_load_place rfl (mem_at 0 rfl) ty9 (fun v77 => ?_))
            refine ta_take (i := 5) rfl (by kernel_rfl) gd_none (d_move rfl ?_)
            refine ta_take (i := 6) rfl (by kernel_rfl) gd_none (d_move rfl ?_)
            refine ta_take (i := 7) rfl (by kernel_rfl) gd_none (d_index_sl rfl (mem_at 4 rfl) rfl Try.underlying40 ty48 hn21 (fun p79 => ?_))
            refine ta_take (i := 8) rfl (by kernel_rfl) gd_none (d_field_place rfl (mem_at 0 rfl) fo48_0 fl_Api_File_Path trivial (fun p81 => ?_))
            refine ta_take (i := 9) rfl (by kernel_rfl) gd_none (d_load_place rfl (mem_at 0 rfl) ty9 (fun v83 => ?_))
            refine ta_take (i := 10) rfl (by kernel_rfl) gd_none (d_str_cmp (!decide ((((a0).getD (s6).toNat rApi_File.zeroD)).Path = (((a1).getD (s6).toNat rApi_File.zeroD)).Path)) rfl rfl (mem_at 3 rfl) (mem_at 0 rfl) (.inr (.inl ⟨rfl, rfl⟩)) ?_)
            refine ta_take (i := 11) rfl (by kernel_rfl) gd_none (d_move rfl ?_)
            refine ta_take (i := 12) rfl (by kernel_rfl) (gd_on rfl rfl rfl hb28) (d_move rfl ?_)
            refine ta_take (i := 13) rfl (by kernel_rfl) (gd_on rfl rfl rfl hb28) (d_move rfl ?_)
            refine ta_take (i := 14) rfl (by kernel_rfl) (gd_on rfl rfl rfl hb28) (d_index_sl rfl (mem_at 6 rfl) rfl Try.underlying40 ty48 hn29 (fun p85 => ?_))
            refine ta_take (i := 15) rfl (by kernel_rfl) (gd_on rfl rfl rfl hb28) (d_field_place rfl (mem_at 0 rfl) fo48_1 fl_Api_File_Dir trivial (fun p87 => ?_))
            refine ta_take (i := 16) rfl (by kernel_rfl) (gd_on rfl rfl rfl hb28) (d_load_bool rfl (mem_at 0 rfl) ty4 (?_))
            refine ta_take (i := 17) rfl (by kernel_rfl) (gd_on rfl rfl rfl hb28) (d_move rfl ?_)
            refine ta_take (i := 18) rfl (by kernel_rfl) (gd_on rfl rfl rfl hb28) (d_move rfl ?_)
            refine ta_take (i := 19) rfl (by kernel_rfl) (gd_on rfl rfl rfl hb28) (d_index_sl rfl (mem_at 9 rfl) rfl Try.underlying40 ty48 hn34 (fun p89 => ?_))
            refine ta_take (i := 20) rfl (by kernel_rfl) (gd_on rfl rfl rfl hb28) (d_field_place rfl (mem_at 0 rfl) fo48_1 fl_Api_File_Dir trivial (fun p91 => ?_))
            refine ta_take (i := 21) rfl (by kernel_rfl) (gd_on rfl rfl rfl hb28) (d_load_bool rfl (mem_at 0 rfl) ty4 (?_))
            refine ta_take (i := 22) rfl (by kernel_rfl) (gd_on rfl rfl rfl hb28) (d_neq_bool rfl rfl Try.underlying4 ?_)
            refine ta_take (i := 23) rfl (by kernel_rfl) gd_none (d_pick_false rfl hb28 rfl ?_)
            refine ta_take (i := 24) rfl (by kernel_rfl) gd_none (d_move rfl ?_)
            refine ta_off (i := 25) rfl (by kernel_rfl) (gd_off rfl rfl rfl hb39) ?_
            refine ta_off (i := 26) rfl (by kernel_rfl) (gd_off rfl rfl rfl hb39) ?_
            refine ta_off (i := 27) rfl (by kernel_rfl) (gd_off rfl rfl rfl hb39) ?_
            refine ta_off (i := 28) rfl (by kernel_rfl) (gd_off rfl rfl rfl hb39) ?_
            refine ta_off (i := 29) rfl (by kernel_rfl) (gd_off rfl rfl rfl hb39) ?_
            refine ta_off (i := 30) rfl (by kernel_rfl) (gd_off rfl rfl rfl hb39) ?_
            refine ta_off (i := 31) rfl (by kernel_rfl) (gd_off rfl rfl rfl hb39) ?_
            refine ta_off (i := 32) rfl (by kernel_rfl) (gd_off rfl rfl rfl hb39) ?_
            refine ta_off (i := 33) rfl (by kernel_rfl) (gd_off rfl rfl rfl hb39) ?_
            refine ta_off (i := 34) rfl (by kernel_rfl) (gd_off rfl rfl rfl hb39) ?_
            refine ta_off (i := 35) rfl (by kernel_rfl) (gd_off rfl rfl rfl hb39) ?_
            refine ta_off (i := 36) rfl (by kernel_rfl) (gd_off rfl rfl rfl hb39) ?_
            refine ta_off (i := 37) rfl (by kernel_rfl) (gd_off rfl rfl rfl hb39) ?_
            refine ta_take (i := 38) rfl (by kernel_rfl) gd_none (d_pick_true rfl hb39 rfl ?_)
            refine ta_done (by kernel_rfl) ?_
            have hr := Option.some.inj hf; subst hr
            exact q_cut true rfl ⟨rfl, ⟨rfl, ⟨rfl, ⟨rfl, trivial⟩⟩⟩⟩ ⟨mem_at 10 rfl, ⟨mem_at 11 rfl, trivial⟩⟩ [] (Sel.nil) rfl
          · have hf := if_f hb39 hf
            obtain ⟨hn40, hf⟩ := need_some hf
            obtain ⟨hn49, hf⟩ := need_some hf
            refine t_any (n := 39) [] mixed ⟨by kernel_rfl, .inl rfl⟩ (np_cut (np_then (np_block (np_then (np_then (np_block (np_then np_body))))))) ?_
            refine ta_take (i := 0) rfl (by kernel_rfl) gd_none (d_move rfl ?_)
            refine ta_take (i := 1) rfl (by kernel_rfl) gd_none (d_move rfl ?_)
            refine ta_take (i := 2) rfl (by kernel_rfl) gd_none (d_index_sl rfl (mem_at 0 rfl) rfl Try.underlying40 ty48 hn14 (fun p93 => ?_))
            refine ta_take (i := 3) rfl (by kernel_rfl) gd_none (d_field_place rfl (mem_at 0 rfl) fo48_0 fl_Api_File_Path trivial (fun p95 => ?_))
            refine ta_take (i := 4) rfl (by kernel_rfl) gd_none (d_load_place rfl (mem_at 0 rfl) ty9 (fun v97 => ?_))
            refine ta_take (i := 5) rfl (by kernel_rfl) gd_none (d_move rfl ?_)
            refine ta_take (i := 6) rfl (by kernel_rfl) gd_none (d_move rfl ?_)
            refine ta_take (i := 7) rfl (by kernel_rfl) gd_none (d_index_sl rfl (mem_at 4 rfl) rfl Try.underlying40 ty48 hn21 (fun p99 => ?_))
            refine ta_take (i := 8) rfl (by kernel_rfl) gd_none (d_field_place rfl (mem_at 0 rfl) fo48_0 fl_Api_File_Path trivial (fun p101 => ?_))
            refine ta_take (i := 9) rfl (by kernel_rfl) gd_none (d_load_place rfl (mem_at 0 rfl) ty9 (fun v103 => ?_))
            refine ta_take (i := 10) rfl (by kernel_rfl) gd_none (d_str_cmp (!decide ((((a0).getD (s6).toNat rApi_File.zeroD)).Path = (((a1).getD (s6).toNat rApi_File.zeroD)).Path)) rfl rfl (mem_at 3 rfl) (mem_at 0 rfl) (.inr (.inl ⟨rfl, rfl⟩)) ?_)
            refine ta_take (i := 11) rfl (by kernel_rfl) gd_none (d_move rfl ?_)
            refine ta_take (i := 12) rfl (by kernel_rfl) (gd_on rfl rfl rfl hb28) (d_move rfl ?_)
            refine ta_take (i := 13) rfl (by kernel_rfl) (gd_on rfl rfl rfl hb28) (d_move rfl ?_)
            refine ta_take (i := 14) rfl (by kernel_rfl) (gd_on rfl rfl rfl hb28) (d_index_sl rfl (mem_at 6 rfl) rfl Try.underlying40 ty48 hn29 (fun p105 => ?_))
            refine ta_take (i := 15) rfl (by kernel_rfl) (gd_on rfl rfl rfl hb28) (d_field_place rfl (mem_at 0 rfl) fo48_1 fl_Api_File_Dir trivial (fun p107 => ?_))
            refine ta_take (i := 16) rfl (by kernel_rfl) (gd_on rfl rfl rfl hb28) (d_load_bool rfl (mem_at 0 rfl) ty4 (?_))
            refine ta_take (i := 17) rfl (by kernel_rfl) (gd_on rfl rfl rfl hb28) (d_move rfl ?_)
            refine ta_take (i := 18) rfl (by kernel_rfl) (gd_on rfl rfl rfl hb28) (d_move rfl ?_)
            refine ta_take (i := 19) rfl (by kernel_rfl) (gd_on rfl rfl rfl hb28) (d_index_sl rfl (mem_at 9 rfl) rfl Try.underlying40 ty48 hn34 (fun p109 => ?_))
            refine ta_take (i := 20) rfl (by kernel_rfl) (gd_on rfl rfl rfl hb28) (d_field_place rfl (mem_at 0 rfl) fo48_1 fl_Api_File_Dir trivial (fun p111 => ?_))
            refine ta_take (i := 21) rfl (by kernel_rfl) (gd_on rfl rfl rfl hb28) (d_load_bool rfl (mem_at 0 rfl) ty4 (?_))
            refine ta_take (i := 22) rfl (by kernel_rfl) (gd_on rfl rfl rfl hb28) (d_neq_bool rfl rfl Try.underlying4 ?_)
            refine ta_take (i := 23) rfl (by kernel_rfl) gd_none (d_pick_false rfl hb28 rfl ?_)
            refine ta_take (i := 24) rfl (by kernel_rfl) gd_none (d_move rfl ?_)
            refine ta_take (i := 25) rfl (by kernel_rfl) (gd_on rfl rfl rfl hb39) (d_move rfl ?_)
            refine ta_take (i := 26) rfl (by kernel_rfl) (gd_on rfl rfl rfl hb39) (d_move rfl ?_)
            refine ta_take (i := 27) rfl (by kernel_rfl) (gd_on rfl rfl rfl hb39) (d_index_sl rfl (mem_at 10 rfl) rfl Try.underlying40 ty48 hn40 (fun p113 => ?_))
            refine ta_take (i := 28) rfl (by kernel_rfl) (gd_on rfl rfl rfl hb39) (d_field_place rfl (mem_at 0 rfl) fo48_2 fl_Api_File_Data trivial (fun p115 => ?_))
            refine ta_take (i := 29) rfl (by kernel_rfl) (gd_on rfl rfl rfl hb39) (d_load_place rfl (mem_at 0 rfl) ty32 (fun v117 => ?_))
            refine ta_take (i := 30) rfl (by kernel_rfl) (gd_on rfl rfl rfl hb39) (d_bytes_str rfl (mem_at 0 rfl) Try.underlying32 Try.underlying5 Try.underlying9 (fun v119 => ?_))
            refine ta_take (i := 31) rfl (by kernel_rfl) (gd_on rfl rfl rfl hb39) (d_move rfl ?_)
            refine ta_take (i := 32) rfl (by kernel_rfl) (gd_on rfl rfl rfl hb39) (d_move rfl ?_)
            refine ta_take (i := 33) rfl (by kernel_rfl) (gd_on rfl rfl rfl hb39) (d_index_sl rfl (mem_at 15 rfl) rfl Try.underlying40 ty48 hn49 (fun p121 => ?_))
            refine ta_take (i := 34) rfl (by kernel_rfl) (gd_on rfl rfl rfl hb39) (d_field_place rfl (mem_at 0 rfl) fo48_2 fl_Api_File_Data trivial (fun p123 => ?_))
            refine ta_take (i := 35) rfl (by kernel_rfl) (gd_on rfl rfl rfl hb39) (d_load_place rfl (mem_at 0 rfl) ty32 (fun v125 => ?_))
            refine ta_take (i := 36) rfl (by kernel_rfl) (gd_on rfl rfl rfl hb39) (d_bytes_str rfl (mem_at 0 rfl) Try.underlying32 Try.underlying5 Try.underlying9 (fun v127 => ?_))
            refine ta_take (i := 37) rfl (by kernel_rfl) (gd_on rfl rfl rfl hb39) (d_str_cmp (!decide ((((a0).getD (s6).toNat rApi_File.zeroD)).Data = (((a1).getD (s6).toNat rApi_File.zeroD)).Data)) rfl rfl (mem_at 4 rfl) (mem_at 0 rfl) (.inr (.inl ⟨rfl, rfl⟩)) ?_)
            refine ta_take (i := 38) rfl (by kernel_rfl) gd_none (d_pick_false rfl hb39 rfl ?_)
            refine ta_done (by kernel_rfl) ?_
            have hr := Option.some.inj hf; subst hr
            exact q_cut (!decide ((((a0).getD (s6).toNat rApi_File.zeroD)).Data = (((a1).getD (s6).toNat rApi_File.zeroD)).Data)) rfl ⟨rfl, ⟨rfl, ⟨rfl, ⟨rfl, trivial⟩⟩⟩⟩ ⟨mem_at 18 rfl, ⟨mem_at 19 rfl, trivial⟩⟩ [] (Sel.nil) rfl
      rintro s58 rfl
      refine q_then_code ?_
      refine t_cond rfl (fun hb129 => ?_) (fun hb129 => ?_)
      · have hf := if_t hb129 hf
        refine t_seq ?_
        refine t_region ?_
        refine tl_d rfl (d_assign rfl ?_)
        refine tl_nil ?_
        refine q_then_code ?_
        refine t_ret ?_
        refine q_block_ret ?_
        refine q_then_ret ?_
        refine q_then_ret ?_
        have hr := Option.some.inj hf; try subst hr
        have hf := hout7
        refine q_block_ret ?_
        refine q_then_ret ?_
        have hr := Option.some.inj hf; subst hr
        refine q_ret (post := fun w w' m v => rBool.val w' m v false) hR _ (.inl rfl) (fun a w hs => ?_)
        exact ⟨_, run_results rfl (RvOk.cons (rv_tmp hs rfl) RvOk.nil), (hs.hv hv_bool)⟩
      · have hf := if_f hb129 hf
        refine t_skip ?_
        refine q_block_normal ?_
        refine q_then_code ?_
        refine t_region ?_
        refine tl_d rfl (d_move rfl ?_)
        refine tl_d rfl (d_add rfl rfl ?_)
        refine tl_d rfl (d_assign rfl ?_)
        refine tl_nil ?_
        exact q_round kq8 (IntKind.i64.wrap (s6 + (1 : Int))) (Nat.lt_succ_self kq8) (wrap_wrap _ _) hf ⟨rfl, ⟨rfl, ⟨rfl, trivial⟩⟩⟩ ⟨mem_at 0 rfl, ⟨mem_at 1 rfl, trivial⟩⟩ [] (Sel.nil) rfl
    · have hf := if_f hb13 hf
      refine t_exit ?_
      refine q_then_exit ?_
      refine q_then_exit ?_
      have hr := Option.some.inj hf; try subst hr
      have hf := hout7
      try dsimp only at hf
      refine q_block_hit ?_
      refine q_then_code ?_
      refine t_seq ?_
      refine t_region ?_
      refine tl_d rfl (d_assign rfl ?_)
      refine tl_nil ?_
      refine q_then_code ?_
      refine t_ret ?_
      have hr := Option.some.inj hf; subst hr
      refine q_ret (post := fun w w' m v => rBool.val w' m v true) hR _ (.inl rfl) (fun a w hs => ?_)
      exact ⟨_, run_results rfl (RvOk.cons (rv_tmp hs rfl) RvOk.nil), (hs.hv hv_bool)⟩

def cofferlaw17_WalkAll.l2 : Nat → (List (List Int)) → Int → Option ((List (List Int)))
  | 0, _, _ => none
  | k + 1, s143, s145 => (if (decide (s145 < ((s143).length : Int))) = true then (need (0 ≤ s145 ∧ s145 < ((s143).length : Int)) ((cofferlaw17_WalkAll.l2 k ((s143).set (s145).toNat (List.replicate 32 (rInt .u8).zeroD)) (IntKind.i64.wrap (s145 + (1 : Int)))))) else (some (s143)))
def cofferlaw17_WalkAll.l1 : Nat → (List Api_File) → Int → Option ((List Api_File))
  | 0, _, _ => none
  | k + 1, s111, s113 => (if (decide (s113 < ((s111).length : Int))) = true then (need (0 ≤ s113 ∧ s113 < ((s111).length : Int)) ((need (0 ≤ s113 ∧ s113 < ((s111).length : Int)) ((cofferlaw17_WalkAll.l1 k ((s111).set (s113).toNat ((((s111).getD (s113).toNat rApi_File.zeroD)).set_Path [63])) (IntKind.i64.wrap (s113 + (1 : Int)))))))) else (some (s111)))
def cofferlaw17_WalkAll.l0 (a0 : (List Api_Object)) (a1 : (List Int)) : Nat → Int → Option (Sum (Bool) (Unit))
  | 0, _ => none
  | k + 1, s21 => (if (decide (s21 < (2 : Int))) = true then ((walk_Close.f k a0 a1).bind fun c29 => ((walk_Files.f k a0 a1).bind fun c47 => ((cofferref17_Walk.f k a0 a1).bind fun c65 => ((if (!decide (c29.2 = c65.2.2)) = true then (some true) else (if (!decide (c47.2 = c65.2.2)) = true then (some true) else ((cofferref17_AlikeIDs.f k c29.1 c65.1).bind fun c87 => (if (!c87) = true then (some true) else ((cofferref17_AlikeFiles.f k c47.1 c65.2.1).bind fun c93 => (some (!c93)))))))).bind fun s98 => (if s98 = true then (some (.inl false)) else (cofferlaw17_WalkAll.l1 k c47.1 (0 : Int)).bind fun o164 => (match o164 with | s111 => (cofferlaw17_WalkAll.l2 k c29.1 (0 : Int)).bind fun o162 => (match o162 with | s143 => (cofferlaw17_WalkAll.l0 a0 a1 k (IntKind.i64.wrap (s21 + (1 : Int)))))))))) else (some (.inr ())))
def cofferlaw17_WalkAll.f (k : Nat) (a0 : (List Api_Object)) (a1 : (List Int)) : Option (Bool) := ((cofferlaw17_begun.f k ).bind fun c3 => (if (!c3) = true then (some false) else ((cofferlaw17_Light.f k a0 (40 : Int)).bind fun c12 => (if (!c12) = true then (some true) else (cofferlaw17_WalkAll.l0 a0 a1 k (0 : Int)).bind fun o166 => (match o166 with | .inl r => some r | .inr _ => (some true))))))
set_option maxRecDepth 100000 in
set_option maxHeartbeats 4260000 in
theorem cofferlaw17_WalkAll_ok (k : Nat) (a0 : (List Api_Object)) (a1 : (List Int)) (u0 u1 : Value) (r : Bool) (hf : cofferlaw17_WalkAll.f k a0 a1 = some r) : Cf.FnX false Try.prog 6 [u0, u1] (fun w m => (rSl 56 rApi_Object).val w m u0 a0 ∧ (rArr 32 (rInt .u8)).val w m u1 a1) (fun w w' m v => rBool.val w' m v r) := by
  unfold cofferlaw17_WalkAll.f at hf
  refine fn_ofE Try.func6 rfl (Nat.le_of_ble_eq_true rfl) [(rSl 56 rApi_Object).fact u0 a0, (rArr 32 (rInt .u8)).fact u1 a1] (fun w m h f hf => ?_) ?_
  · simp at hf; rcases hf with rfl | rfl
    · exact h.1
    · exact h.2
  intro w0 m0 R hE hR
  refine t_seq ?_
  refine t_region ?_
  refine tl_g [] rfl (g_box (R := (rArr 32 (rInt .u8))) rfl rfl (hv_fact (mem_at 1 rfl)) (fun b2 => ?_))
  refine tl_d rfl (d_assign rfl ?_)
  refine tl_nil ?_
  refine q_then_code ?_
  refine t_seq ?_
  refine t_seq ?_
  obtain ⟨c3, hc4, hf⟩ := bind_some hf
  refine t_region ?_
  refine tl_g [] rfl (g_call1 rfl hfn17 (cofferlaw17_begun_ok _ _ hc4) Evs.nil (fun a w hs => trivial) (fun v8 => ?_))
  refine tl_bool (mem_at 0 rfl) (fun hv10 => ?_)
  subst hv10
  refine tl_d rfl (d_not rfl ?_)
  refine tl_nil ?_
  refine q_then_code ?_
  refine t_cond rfl (fun hb11 => ?_) (fun hb11 => ?_)
  · have hf := if_t hb11 hf
    refine t_seq ?_
    refine t_region ?_
    refine tl_d rfl (d_assign rfl ?_)
    refine tl_nil ?_
    refine q_then_code ?_
    refine t_ret ?_
    refine q_then_ret ?_
    have hr := Option.some.inj hf; subst hr
    refine q_ret (post := fun w w' m v => rBool.val w' m v false) hR _ (.inl rfl) (fun a w hs => ?_)
    exact ⟨_, run_results rfl (RvOk.cons (rv_tmp hs rfl) RvOk.nil), (hs.hv hv_bool)⟩
  · have hf := if_f hb11 hf
    refine t_skip ?_
    refine q_then_code ?_
    refine t_seq ?_
    refine t_seq ?_
    obtain ⟨c12, hc13, hf⟩ := bind_some hf
    refine t_region ?_
    refine tl_d rfl (d_move rfl ?_)
    refine tl_g [] rfl (g_call1 rfl hfn9 (cofferlaw17_Light_ok _ _ _ _ _ hc13).weak (Evs.cons rfl (Evs.cons rfl Evs.nil)) (fun a w hs => ⟨(hv_fact (mem_at 1 rfl)) _ _ _ _ hs, (hv_int rfl) _ _ _ _ hs⟩) (fun v17 => ?_))
    refine tl_bool (mem_at 0 rfl) (fun hv19 => ?_)
    subst hv19
    refine tl_d rfl (d_not rfl ?_)
    refine tl_nil ?_
    refine q_then_code ?_
    refine t_cond rfl (fun hb20 => ?_) (fun hb20 => ?_)
    · have hf := if_t hb20 hf
      refine t_seq ?_
      refine t_region ?_
      refine tl_d rfl (d_assign rfl ?_)
      refine tl_nil ?_
      refine q_then_code ?_
      refine t_ret ?_
      refine q_then_ret ?_
      have hr := Option.some.inj hf; subst hr
      refine q_ret (post := fun w w' m v => rBool.val w' m v true) hR _ (.inl rfl) (fun a w hs => ?_)
      exact ⟨_, run_results rfl (RvOk.cons (rv_tmp hs rfl) RvOk.nil), (hs.hv hv_bool)⟩
    · have hf := if_f hb20 hf
      refine t_skip ?_
      refine q_then_code ?_
      refine t_seq ?_
      refine t_seq ?_
      refine t_region ?_
      refine tl_d rfl (d_assign rfl ?_)
      refine tl_nil ?_
      refine q_then_code ?_
      refine t_block ?_
      obtain ⟨o166, ho167, hf⟩ := bind_some hf
      refine t_loop (X := Int) (O := Sum (Bool) (Unit)) (fun kl x => match x with | s21 => cofferlaw17_WalkAll.l0 a0 a1 kl s21) o166 (fun x => match x with | s21 => (([(0, u0), (3, .pointer (some ⟨b2, 0, none⟩)), (5, .int .i64 s21)], [(rSl 56 rApi_Object).fact u0 a0], [Own.box b2 (rArr 32 (rInt .u8)) a1]) : Sym)) (fun x => match x with | s21 => IntKind.i64.wrap s21 = s21) k (0 : Int) ho167 rfl ⟨rfl, ⟨rfl, ⟨rfl, trivial⟩⟩⟩ ⟨mem_at 2 rfl, trivial⟩ [0] (Sel.cons rfl Sel.nil) rfl ?_
      clear ho167
      rintro k25 s21 hw_s21 hk24
      have hout22 := hf; clear hf
      obtain ⟨kq23, rfl⟩ : ∃ q, k25 = q + 1 := by cases k25 with | zero => cases hk24 | succ q => exact ⟨q, rfl⟩
      have hf := hk24
      clear hk24; dsimp only [cofferlaw17_WalkAll.l0] at hf
      refine t_seq ?_
      refine t_seq ?_
      refine t_region ?_
      refine tl_d rfl (d_move rfl ?_)
      refine tl_d rfl (d_lss rfl rfl ?_)
      refine tl_nil ?_
      refine q_then_code ?_
      refine t_cond rfl (fun hb26 => ?_) (fun hb26 => ?_)
      · have hf := if_t hb26 hf
        refine t_skip ?_
        refine q_then_code ?_
        refine t_seq ?_
        refine t_block ?_
        refine t_seq ?_
        obtain ⟨c29, hc30, hf⟩ := bind_some hf
        refine t_region ?_
        refine tl_d rfl (d_move rfl ?_)
        refine tl_d rfl (d_load_box 0 rfl rfl (Fld.self (rArr 32 (rInt .u8))) trivial ty29 rfl (fun v37 => ?_))
        refine tl_g [] rfl (g_callo2 rfl hfn18 (walk_Close_ok _ _ _ _ _ _ hc30) (Evs.cons rfl (Evs.cons rfl Evs.nil)) (fun a w hs => ⟨(hv_fact (mem_at 1 rfl)) _ _ _ _ hs, (hv_fact (mem_at 0 rfl)) _ _ _ _ hs⟩) (fun v39 v40 => ?_))
        refine tl_int (mem_at 0 rfl) (fun hv44 hw43 => ?_)
        subst hv44
        refine tl_d rfl (d_move rfl ?_)
        refine tl_d rfl (d_extract rfl rfl ?_)
        refine tl_d rfl (d_extract rfl rfl ?_)
        refine tl_d rfl (d_assign rfl ?_)
        refine tl_d rfl (d_assign rfl ?_)
        refine tl_nil ?_
        refine q_then_code ?_
        refine t_seq ?_
        obtain ⟨c47, hc48, hf⟩ := bind_some hf
        refine t_region ?_
        refine tl_d rfl (d_move rfl ?_)
        refine tl_d rfl (d_load_box 0 rfl rfl (Fld.self (rArr 32 (rInt .u8))) trivial ty29 rfl (fun v55 => ?_))
        refine tl_g [] rfl (g_callo2F rFileF_mono (fun _ _ => rfl) rfl hfn19 (walk_Files_okF _ _ _ _ _ _ hc48).weak (Evs.cons rfl (Evs.cons rfl Evs.nil)) (fun a w hs => ⟨(hv_fact (mem_at 3 rfl)) _ _ _ _ hs, (hv_fact (mem_at 0 rfl)) _ _ _ _ hs⟩) (fun v57 v58 => ?_))
        refine tl_int (mem_at 0 rfl) (fun hv62 hw61 => ?_)
        subst hv62
        refine tl_d rfl (d_move rfl ?_)
        refine tl_d rfl (d_extract rfl rfl ?_)
        refine tl_d rfl (d_extract rfl rfl ?_)
        refine tl_d rfl (d_assign rfl ?_)
        refine tl_d rfl (d_assign rfl ?_)
        refine tl_nil ?_
        refine q_then_code ?_
        refine t_seq ?_
        obtain ⟨c65, hc66, hf⟩ := bind_some hf
        refine t_region ?_
        refine tl_d rfl (d_move rfl ?_)
        refine tl_d rfl (d_load_box 0 rfl rfl (Fld.self (rArr 32 (rInt .u8))) trivial ty29 rfl (fun v75 => ?_))
        refine tl_g [] rfl (g_call3 rfl hfn20 (cofferref17_Walk_ok _ _ _ _ _ _ hc66).weak (Evs.cons rfl (Evs.cons rfl Evs.nil)) (fun a w hs => ⟨(hv_fact (mem_at 5 rfl)) _ _ _ _ hs, (hv_fact (mem_at 0 rfl)) _ _ _ _ hs⟩) (fun v77 v78 v79 => ?_))
        refine tl_int (mem_at 2 rfl) (fun hv84 hw83 => ?_)
        subst hv84
        refine tl_d rfl (d_move rfl ?_)
        refine tl_d rfl (d_extract rfl rfl ?_)
        refine tl_d rfl (d_extract rfl rfl ?_)
        refine tl_d rfl (d_extract rfl rfl ?_)
        refine tl_d rfl (d_assign rfl ?_)
        refine tl_d rfl (d_assign rfl ?_)
        refine tl_d rfl (d_assign rfl ?_)
        refine tl_nil ?_
        refine q_then_code ?_
        refine t_seq ?_
        refine t_seq ?_
        obtain ⟨o99, ho100, hf⟩ := bind_some hf
        refine t_cut (X := Bool) (fun x => match x with | s98 => (([(0, u0), (3, .pointer (some ⟨b2, 0, none⟩)), (5, (.int .i64 s21)), (6, v39), (8, v57), (62, .bool s98)], [(rSl 56 rApi_Object).fact u0 a0], [Own.box b2 (rArr 32 (rInt .u8)) a1, Own.buf v39 32 (rArr 32 (rInt .u8)) c29.1, Own.buf v57 48 (rFileF w0.heap.size) c47.1]) : Sym)) (fun x => match x with | s98 => s98 = o99) ?_ ?_
        · have hf := ho100; clear ho100
          rcases bool_tf (!decide (c29.2 = c65.2.2)) with hb85 | hb85
          · have hf := if_t hb85 hf
            refine t_region ?_
            refine tl_d rfl (d_move rfl ?_)
            refine tl_d rfl (d_move rfl ?_)
            refine tl_d rfl (d_neq rfl rfl ?_)
            refine tl_d rfl (d_move rfl ?_)
            refine tl_off (gd_off rfl rfl rfl hb85) rfl rfl ?_
            refine tl_off (gd_off rfl rfl rfl hb85) rfl rfl ?_
            refine tl_off (gd_off rfl rfl rfl hb85) rfl rfl ?_
            refine tl_d rfl (d_pick_true rfl hb85 rfl ?_)
            refine tl_d rfl (d_move rfl ?_)
            refine tl_off (gd_off rfl rfl rfl rfl) rfl rfl ?_
            refine tl_off (gd_off rfl rfl rfl rfl) rfl rfl ?_
            refine tl_off (gd_off rfl rfl rfl rfl) rfl rfl ?_
            refine tl_off (gd_off rfl rfl rfl rfl) rfl rfl ?_
            refine tl_d rfl (d_pick_true rfl rfl rfl ?_)
            refine tl_d rfl (d_move rfl ?_)
            refine tl_off (gd_off rfl rfl rfl rfl) rfl rfl ?_
            refine tl_off (gd_off rfl rfl rfl rfl) rfl rfl ?_
            refine tl_off (gd_off rfl rfl rfl rfl) rfl rfl ?_
            refine tl_off (gd_off rfl rfl rfl rfl) rfl rfl ?_
            refine tl_d rfl (d_pick_true rfl rfl rfl ?_)
            refine tl_nil ?_
            have hr := Option.some.inj hf; subst hr
            exact q_cut true rfl ⟨rfl, ⟨rfl, ⟨rfl, ⟨rfl, ⟨rfl, ⟨rfl, trivial⟩⟩⟩⟩⟩⟩ ⟨mem_at 8 rfl, trivial⟩ [0, 1, 2] (Sel.cons rfl (Sel.cons rfl (Sel.cons rfl Sel.nil))) rfl
          · have hf := if_f hb85 hf
            rcases bool_tf (!decide (c47.2 = c65.2.2)) with hb86 | hb86
            · have hf := if_t hb86 hf
              refine t_region ?_
              refine tl_d rfl (d_move rfl ?_)
              refine tl_d rfl (d_move rfl ?_)
              refine tl_d rfl (d_neq rfl rfl ?_)
              refine tl_d rfl (d_move rfl ?_)
              refine tl_dg (gd_on rfl rfl rfl hb85) rfl (d_move rfl ?_)
              refine tl_dg (gd_on rfl rfl rfl hb85) rfl (d_move rfl ?_)
              refine tl_dg (gd_on rfl rfl rfl hb85) rfl (d_neq rfl rfl ?_)
              refine tl_d rfl (d_pick_false rfl hb85 rfl ?_)
              refine tl_d rfl (d_move rfl ?_)
              refine tl_off (gd_off rfl rfl rfl hb86) rfl rfl ?_
              refine tl_off (gd_off rfl rfl rfl hb86) rfl rfl ?_
              refine tl_off (gd_off rfl rfl rfl hb86) rfl rfl ?_
              refine tl_off (gd_off rfl rfl rfl hb86) rfl rfl ?_
              refine tl_d rfl (d_pick_true rfl hb86 rfl ?_)
              refine tl_d rfl (d_move rfl ?_)
              refine tl_off (gd_off rfl rfl rfl rfl) rfl rfl ?_
              refine tl_off (gd_off rfl rfl rfl rfl) rfl rfl ?_
              refine tl_off (gd_off rfl rfl rfl rfl) rfl rfl ?_
              refine tl_off (gd_off rfl rfl rfl rfl) rfl rfl ?_
              refine tl_d rfl (d_pick_true rfl rfl rfl ?_)
              refine tl_nil ?_
              have hr := Option.some.inj hf; subst hr
              exact q_cut true rfl ⟨rfl, ⟨rfl, ⟨rfl, ⟨rfl, ⟨rfl, ⟨rfl, trivial⟩⟩⟩⟩⟩⟩ ⟨mem_at 8 rfl, trivial⟩ [0, 1, 2] (Sel.cons rfl (Sel.cons rfl (Sel.cons rfl Sel.nil))) rfl
            · have hf := if_f hb86 hf
              obtain ⟨c87, hc88, hf⟩ := bind_some hf
              rcases bool_tf (!c87) with hb92 | hb92
              · have hf := if_t hb92 hf
                refine t_region ?_
                refine tl_d rfl (d_move rfl ?_)
                refine tl_d rfl (d_move rfl ?_)
                refine tl_d rfl (d_neq rfl rfl ?_)
                refine tl_d rfl (d_move rfl ?_)
                refine tl_dg (gd_on rfl rfl rfl hb85) rfl (d_move rfl ?_)
                refine tl_dg (gd_on rfl rfl rfl hb85) rfl (d_move rfl ?_)
                refine tl_dg (gd_on rfl rfl rfl hb85) rfl (d_neq rfl rfl ?_)
                refine tl_d rfl (d_pick_false rfl hb85 rfl ?_)
                refine tl_d rfl (d_move rfl ?_)
                refine tl_dg (gd_on rfl rfl rfl hb86) rfl (d_move rfl ?_)
                refine tl_dg (gd_on rfl rfl rfl hb86) rfl (d_move rfl ?_)
                refine tl_gg [] (gd_on rfl rfl rfl hb86) (g_call1 rfl hfn12 (FnX.flat (fun _ _ _ _ _ h => Flat.val Flat.bool h) (cofferref17_AlikeIDs_ok _ _ _ _ _ _ hc88).weak) (Evs.cons rfl (Evs.cons rfl Evs.nil)) (fun a w hs => bor_one hs 1 rfl (fun hs1 => bor_end hs1 ⟨(hv_fact (mem_at 0 rfl)) _ _ _ _ hs1, (hv_fact (mem_at 1 rfl)) _ _ _ _ hs1⟩)) (fun v101 => ?_))
                refine tl_bool (mem_at 0 rfl) (fun hv103 => ?_)
                subst hv103
                refine tl_dg (gd_on rfl rfl rfl hb86) rfl (d_not rfl ?_)
                refine tl_d rfl (d_pick_false rfl hb86 rfl ?_)
                refine tl_d rfl (d_move rfl ?_)
                refine tl_off (gd_off rfl rfl rfl hb92) rfl rfl ?_
                refine tl_off (gd_off rfl rfl rfl hb92) rfl rfl ?_
                refine tl_off (gd_off rfl rfl rfl hb92) rfl rfl ?_
                refine tl_off (gd_off rfl rfl rfl hb92) rfl rfl ?_
                refine tl_d rfl (d_pick_true rfl hb92 rfl ?_)
                refine tl_nil ?_
                have hr := Option.some.inj hf; subst hr
                exact q_cut true rfl ⟨rfl, ⟨rfl, ⟨rfl, ⟨rfl, ⟨rfl, ⟨rfl, trivial⟩⟩⟩⟩⟩⟩ ⟨mem_at 9 rfl, trivial⟩ [0, 1, 2] (Sel.cons rfl (Sel.cons rfl (Sel.cons rfl Sel.nil))) rfl
              · have hf := if_f hb92 hf
                obtain ⟨c93, hc94, hf⟩ := bind_some hf
                refine t_region ?_
                refine tl_d rfl (d_move rfl ?_)
                refine tl_d rfl (d_move rfl ?_)
                refine tl_d rfl (d_neq rfl rfl ?_)
                refine tl_d rfl (d_move rfl ?_)
                refine tl_dg (gd_on rfl rfl rfl hb85) rfl (d_move rfl ?_)
                refine tl_dg (gd_on rfl rfl rfl hb85) rfl (d_move rfl ?_)
                refine tl_dg (gd_on rfl rfl rfl hb85) rfl (d_neq rfl rfl ?_)
                refine tl_d rfl (d_pick_false rfl hb85 rfl ?_)
                refine tl_d rfl (d_move rfl ?_)
                refine tl_dg (gd_on rfl rfl rfl hb86) rfl (d_move rfl ?_)
                refine tl_dg (gd_on rfl rfl rfl hb86) rfl (d_move rfl ?_)
                refine tl_gg [] (gd_on rfl rfl rfl hb86) (g_call1 rfl hfn12 (FnX.flat (fun _ _ _ _ _ h => Flat.val Flat.bool h) (cofferref17_AlikeIDs_ok _ _ _ _ _ _ hc88).weak) (Evs.cons rfl (Evs.cons rfl Evs.nil)) (fun a w hs => bor_one hs 1 rfl (fun hs1 => bor_end hs1 ⟨(hv_fact (mem_at 0 rfl)) _ _ _ _ hs1, (hv_fact (mem_at 1 rfl)) _ _ _ _ hs1⟩)) (fun v104 => ?_))
                refine tl_bool (mem_at 0 rfl) (fun hv106 => ?_)
                subst hv106
                refine tl_dg (gd_on rfl rfl rfl hb86) rfl (d_not rfl ?_)
                refine tl_d rfl (d_pick_false rfl hb86 rfl ?_)
                refine tl_d rfl (d_move rfl ?_)
                refine tl_dg (gd_on rfl rfl rfl hb92) rfl (d_move rfl ?_)
                refine tl_dg (gd_on rfl rfl rfl hb92) rfl (d_move rfl ?_)
                refine tl_gg [] (gd_on rfl rfl rfl hb92) (g_call1 rfl hfn21 (FnX.flat (fun _ _ _ _ _ h => Flat.val Flat.bool h) (cofferref17_AlikeFiles_ok _ _ _ _ _ _ hc94).weak) (Evs.cons rfl (Evs.cons rfl Evs.nil)) (fun a w hs => bor_one hs 2 rfl (fun hs1 => bor_end hs1 ⟨(hv_weaker (R := rFileF _) (S := rApi_File) rfl (fun _ _ _ _ h => rFileF_plain h) (hv_fact (mem_at 0 rfl))) _ _ _ _ hs1, (hv_fact (mem_at 3 rfl)) _ _ _ _ hs1⟩)) (fun v107 => ?_))
                refine tl_bool (mem_at 0 rfl) (fun hv109 => ?_)
                subst hv109
                refine tl_dg (gd_on rfl rfl rfl hb92) rfl (d_not rfl ?_)
                refine tl_d rfl (d_pick_false rfl hb92 rfl ?_)
                refine tl_nil ?_
                have hr := Option.some.inj hf; subst hr
                exact q_cut (!c93) rfl ⟨rfl, ⟨rfl, ⟨rfl, ⟨rfl, ⟨rfl, ⟨rfl, trivial⟩⟩⟩⟩⟩⟩ ⟨mem_at 10 rfl, trivial⟩ [0, 1, 2] (Sel.cons rfl (Sel.cons rfl (Sel.cons rfl Sel.nil))) rfl
        rintro s98 rfl
        refine q_then_code ?_
        refine t_cond rfl (fun hb110 => ?_) (fun hb110 => ?_)
        · have hf := if_t hb110 hf
          refine t_seq ?_
          refine t_region ?_
          refine tl_d rfl (d_assign rfl ?_)
          refine tl_nil ?_
          refine q_then_code ?_
          refine t_ret ?_
          refine q_then_ret ?_
          refine q_block_ret ?_
          refine q_then_ret ?_
          refine q_then_ret ?_
          have hr := Option.some.inj hf; try subst hr
          have hf := hout22
          refine q_block_ret ?_
          refine q_then_ret ?_
          have hr := Option.some.inj hf; subst hr
          refine q_ret (post := fun w w' m v => rBool.val w' m v false) hR _ (.inl rfl) (fun a w hs => ?_)
          exact ⟨_, run_results rfl (RvOk.cons (rv_tmp hs rfl) RvOk.nil), (hs.hv hv_bool)⟩
        · have hf := if_f hb110 hf
          refine t_skip ?_
          refine q_then_code ?_
          refine t_seq ?_
          refine t_seq ?_
          refine t_region ?_
          refine tl_d rfl (d_assign rfl ?_)
          refine tl_nil ?_
          refine q_then_code ?_
          refine t_block ?_
          refine t_weaker (rFileJ w0.heap.size) 2 rfl rfl (fun _ _ _ _ h => rFileF_junk h) ?_
          obtain ⟨o164, ho165, hf⟩ := bind_some hf
          refine t_loop (X := (List Api_File) × Int × Value) (O := (List Api_File)) (fun kl x => match x with | (s111, s113, z112) => cofferlaw17_WalkAll.l1 kl s111 s113) o164 (fun x => match x with | (s111, s113, z112) => (([(0, u0), (3, .pointer (some ⟨b2, 0, none⟩)), (5, (.int .i64 s21)), (6, v39), (8, z112), (13, .int .i64 s113)], [(rSl 56 rApi_Object).fact u0 a0], [Own.box b2 (rArr 32 (rInt .u8)) a1, Own.buf v39 32 (rArr 32 (rInt .u8)) c29.1, Own.buf z112 48 (rFileJ w0.heap.size) s111]) : Sym)) (fun x => match x with | (s111, s113, z112) => IntKind.i64.wrap s113 = s113) kq23 (c47.1, (0 : Int), v57) ho165 rfl ⟨rfl, ⟨rfl, ⟨rfl, ⟨rfl, ⟨rfl, ⟨rfl, trivial⟩⟩⟩⟩⟩⟩ ⟨mem_at 0 rfl, trivial⟩ [0, 1, 2] (Sel.cons rfl (Sel.cons rfl (Sel.cons rfl Sel.nil))) rfl ?_
          clear ho165
          rintro k117 ⟨s111, s113, z112⟩ hw_s113 hk116
          have hout114 := hf; clear hf
          obtain ⟨kq115, rfl⟩ : ∃ q, k117 = q + 1 := by cases k117 with | zero => cases hk116 | succ q => exact ⟨q, rfl⟩
          have hf := hk116
          clear hk116; dsimp only [cofferlaw17_WalkAll.l1] at hf
          refine t_seq ?_
          refine t_seq ?_
          refine t_region ?_
          refine tl_d rfl (d_move rfl ?_)
          refine tl_d rfl (d_move rfl ?_)
          refine tl_d rfl (d_len_buf 2 rfl rfl Try.underlying40 (fun hl119 _ => ?_))
          refine tl_d rfl (d_lss rfl rfl ?_)
          refine tl_nil ?_
          refine q_then_code ?_
          refine t_cond rfl (fun hb120 => ?_) (fun hb120 => ?_)
          · have hf := if_t hb120 hf
            refine t_skip ?_
            refine q_then_code ?_
            refine t_seq ?_
            refine t_block ?_
            refine t_seq ?_
            obtain ⟨hn121, hf⟩ := need_some hf
            refine t_region ?_
            refine tl_d rfl (d_move rfl ?_)
            refine tl_d rfl (d_move rfl ?_)
            refine tl_d rfl (d_index_buf 2 rfl rfl rfl Try.underlying40 (tyJ48 w0.heap.size) hn121 (fun p128 hp129 => ?_))
            refine tl_d rfl (d_field_buf rfl hp129 fo48_2 (fun p130 hp131 => ?_))
            refine tl_d rfl (d_load_buf (j := (s113).toNat) 2 rfl hp131 rfl rfl (toNat_lt hn121) (flJ_Data w0.heap.size) trivial (tyJ32 w0.heap.size) rfl (fun v132 => ?_))
            refine tl_M [Own.box b2 (rArr 32 (rInt .u8)) a1, Own.buf v39 32 (rArr 32 (rInt .u8)) c29.1, Own.buf z112 48 (rFileJ w0.heap.size) s111] rfl ?_
            refine tl_g1 rfl (g_spoil rfl hfn22 (fun v len cap => (spoil22 v len cap).weak) rfl (mem_at 0 rfl) (Nat.le_refl _) (fun _ => trivial) hE (tough_cons (ToughO.box (Tough.flat (Flat.arr Flat.int))) (tough_cons (ToughO.buf (Tough.flat (Flat.arr Flat.int))) (tough_cons (ToughO.buf (rFileJ_tough _)) tough_nil))) ?_)
            refine tl_nil ?_
            refine q_then_code ?_
            obtain ⟨hn134, hf⟩ := need_some hf
            refine t_region ?_
            refine tl_d rfl (d_move rfl ?_)
            refine tl_d rfl (d_move rfl ?_)
            refine tl_d rfl (d_index_buf 2 rfl rfl rfl Try.underlying40 (tyJ48 w0.heap.size) hn134 (fun p139 hp140 => ?_))
            refine tl_d rfl (d_field_buf rfl hp140 fo48_0 (fun p141 hp142 => ?_))
            refine tl_g _ rfl (g_store_buf (j := (s113).toNat) 2 rfl hp142 rfl rfl rfl (toNat_lt hn134) (flJ_Path w0.heap.size) trivial (hv_str rfl (by decide)) ty9 (List.mem_singleton_self _) ?_)
            refine tl_nil ?_
            refine q_block_normal ?_
            refine q_then_code ?_
            refine t_region ?_
            refine tl_d rfl (d_move rfl ?_)
            refine tl_d rfl (d_add rfl rfl ?_)
            refine tl_d rfl (d_assign rfl ?_)
            refine tl_nil ?_
            exact q_round kq115 (((s111).set (s113).toNat ((((s111).getD (s113).toNat rApi_File.zeroD)).set_Path [63])), (IntKind.i64.wrap (s113 + (1 : Int))), z112) (Nat.lt_succ_self kq115) (wrap_wrap _ _) hf ⟨rfl, ⟨rfl, ⟨rfl, ⟨rfl, ⟨rfl, ⟨rfl, trivial⟩⟩⟩⟩⟩⟩ ⟨mem_at 0 rfl, trivial⟩ [0, 1, 2] (Sel.cons rfl (Sel.cons rfl (Sel.cons rfl Sel.nil))) rfl
          · have hf := if_f hb120 hf
            refine t_exit ?_
            refine q_then_exit ?_
            refine q_then_exit ?_
            have hr := Option.some.inj hf; try subst hr
            have hf := hout114
            try dsimp only at hf
            refine q_block_hit ?_
            refine q_then_code ?_
            refine t_seq ?_
            refine t_region ?_
            refine tl_d rfl (d_assign rfl ?_)
            refine tl_nil ?_
            refine q_then_code ?_
            refine t_block ?_
            obtain ⟨o162, ho163, hf⟩ := bind_some hf
            refine t_loop (X := (List (List Int)) × Int × Value) (O := (List (List Int))) (fun kl x => match x with | (s143, s145, z144) => cofferlaw17_WalkAll.l2 kl s143 s145) o162 (fun x => match x with | (s143, s145, z144) => (([(0, u0), (3, .pointer (some ⟨b2, 0, none⟩)), (5, (.int .i64 s21)), (6, z144), (14, .int .i64 s145)], [(rSl 56 rApi_Object).fact u0 a0], [Own.box b2 (rArr 32 (rInt .u8)) a1, Own.buf z144 32 (rArr 32 (rInt .u8)) s143]) : Sym)) (fun x => match x with | (s143, s145, z144) => IntKind.i64.wrap s145 = s145) kq23 (c29.1, (0 : Int), v39) ho163 rfl ⟨rfl, ⟨rfl, ⟨rfl, ⟨rfl, ⟨rfl, trivial⟩⟩⟩⟩⟩ ⟨mem_at 0 rfl, trivial⟩ [0, 1] (Sel.cons rfl (Sel.cons rfl Sel.nil)) rfl ?_
            clear ho163
            rintro k149 ⟨s143, s145, z144⟩ hw_s145 hk148
            have hout146 := hf; clear hf
            obtain ⟨kq147, rfl⟩ : ∃ q, k149 = q + 1 := by cases k149 with | zero => cases hk148 | succ q => exact ⟨q, rfl⟩
            have hf := hk148
            clear hk148; dsimp only [cofferlaw17_WalkAll.l2] at hf
            refine t_seq ?_
            refine t_seq ?_
            refine t_region ?_
            refine tl_d rfl (d_move rfl ?_)
            refine tl_d rfl (d_move rfl ?_)
            refine tl_d rfl (d_len_buf 1 rfl rfl Try.underlying23 (fun hl151 _ => ?_))
            refine tl_d rfl (d_lss rfl rfl ?_)
            refine tl_nil ?_
            refine q_then_code ?_
            refine t_cond rfl (fun hb152 => ?_) (fun hb152 => ?_)
            · have hf := if_t hb152 hf
              refine t_skip ?_
              refine q_then_code ?_
              refine t_seq ?_
              refine t_block ?_
              obtain ⟨hn155, hf⟩ := need_some hf
              refine t_region ?_
              refine tl_d rfl (d_move rfl ?_)
              refine tl_d rfl (d_move rfl ?_)
              refine tl_d rfl (d_build_arr (y := (List.replicate 32 (rInt .u8).zeroD)) ty29 Try.underlying29 ty5 BuildOk.nil (fun v158 => ?_))
              refine tl_d rfl (d_index_buf 1 rfl rfl rfl Try.underlying23 ty29 hn155 (fun p160 hp161 => ?_))
              refine tl_g _ rfl (g_store_buf (j := (s145).toNat) 1 rfl hp161 rfl rfl rfl (toNat_lt hn155) (Fld.self (rArr 32 (rInt .u8))) trivial (hv_fact (mem_at 0 rfl)) ty29 (List.mem_singleton_self _) ?_)
              refine tl_nil ?_
              refine q_block_normal ?_
              refine q_then_code ?_
              refine t_region ?_
              refine tl_d rfl (d_move rfl ?_)
              refine tl_d rfl (d_add rfl rfl ?_)
              refine tl_d rfl (d_assign rfl ?_)
              refine tl_nil ?_
              exact q_round kq147 (((s143).set (s145).toNat (List.replicate 32 (rInt .u8).zeroD)), (IntKind.i64.wrap (s145 + (1 : Int))), z144) (Nat.lt_succ_self kq147) (wrap_wrap _ _) hf ⟨rfl, ⟨rfl, ⟨rfl, ⟨rfl, ⟨rfl, trivial⟩⟩⟩⟩⟩ ⟨mem_at 1 rfl, trivial⟩ [0, 1] (Sel.cons rfl (Sel.cons rfl Sel.nil)) rfl
            · have hf := if_f hb152 hf
              refine t_exit ?_
              refine q_then_exit ?_
              refine q_then_exit ?_
              have hr := Option.some.inj hf; try subst hr
              have hf := hout146
              try dsimp only at hf
              refine q_block_hit ?_
              refine q_block_normal ?_
              refine q_then_code ?_
              refine t_region ?_
              refine tl_d rfl (d_move rfl ?_)
              refine tl_d rfl (d_add rfl rfl ?_)
              refine tl_d rfl (d_assign rfl ?_)
              refine tl_nil ?_
              exact q_round kq23 (IntKind.i64.wrap (s21 + (1 : Int))) (Nat.lt_succ_self kq23) (wrap_wrap _ _) hf ⟨rfl, ⟨rfl, ⟨rfl, trivial⟩⟩⟩ ⟨mem_at 0 rfl, trivial⟩ [0] (Sel.cons rfl Sel.nil) rfl
      · have hf := if_f hb26 hf
        refine t_exit ?_
        refine q_then_exit ?_
        refine q_then_exit ?_
        have hr := Option.some.inj hf; try subst hr
        have hf := hout22
        try dsimp only at hf
        refine q_block_hit ?_
        refine q_then_code ?_
        refine t_seq ?_
        refine t_region ?_
        refine tl_d rfl (d_assign rfl ?_)
        refine tl_nil ?_
        refine q_then_code ?_
        refine t_ret ?_
        have hr := Option.some.inj hf; subst hr
        refine q_ret (post := fun w w' m v => rBool.val w' m v true) hR _ (.inl rfl) (fun a w hs => ?_)
        exact ⟨_, run_results rfl (RvOk.cons (rv_tmp hs rfl) RvOk.nil), (hs.hv hv_bool)⟩

end Go.Proofs.Ytbcipfhhmkjigaa
