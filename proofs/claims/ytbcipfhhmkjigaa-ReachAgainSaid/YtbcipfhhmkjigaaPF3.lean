/- Functions of the program as plain Lean functions, each with the proof that the call comes to it. -/
import Derived.Test.YtbcipfhhmkjigaaPF2
set_option linter.unusedVariables false
open Go Go.Cf Go.Proofs
namespace Go.Proofs.Ytbcipfhhmkjigaa

def cofferlaw18_in.l0 (a0 : (List (List Int))) (a1 : (List Int)) : Nat → Int → Option (Sum (Bool) (Unit))
  | 0, _ => none
  | k + 1, s3 => (if (decide (s3 < ((a0).length : Int))) = true then (need (0 ≤ s3 ∧ s3 < ((a0).length : Int)) ((if (decide (((a0).getD (s3).toNat (rArr 32 (rInt .u8)).zeroD) = a1)) = true then (some (.inl true)) else (cofferlaw18_in.l0 a0 a1 k (IntKind.i64.wrap (s3 + (1 : Int))))))) else (some (.inr ())))
def cofferlaw18_in.f (k : Nat) (a0 : (List (List Int))) (a1 : (List Int)) : Option (Bool) := (cofferlaw18_in.l0 a0 a1 k (0 : Int)).bind fun o25 => (match o25 with | .inl r => some r | .inr _ => (some false))
set_option maxRecDepth 100000 in
set_option maxHeartbeats 980000 in
theorem cofferlaw18_in_ok (k : Nat) (a0 : (List (List Int))) (a1 : (List Int)) (u0 u1 : Value) (r : Bool) (hf : cofferlaw18_in.f k a0 a1 = some r) : Cf.FnX true Try.prog 15 [u0, u1] (fun w m => (rSl 32 (rArr 32 (rInt .u8))).val w m u0 a0 ∧ (rArr 32 (rInt .u8)).val w m u1 a1) (fun w w' m v => rBool.val w' m v r) := by
  unfold cofferlaw18_in.f at hf
  refine fn_of Try.func15 rfl (Nat.le_of_ble_eq_true rfl) [(rSl 32 (rArr 32 (rInt .u8))).fact u0 a0, (rArr 32 (rInt .u8)).fact u1 a1] (fun w m h f hf => ?_) ?_
  · simp at hf; rcases hf with rfl | rfl
    · exact h.1
    · exact h.2
  intro w0 m0 R hR
  refine t_seq ?_
  refine t_region ?_
  refine tl_g [] rfl (g_box (R := (rArr 32 (rInt .u8))) rfl rfl (hv_fact (mem_at 1 rfl)) (fun b2 => ?_))
  refine tl_d rfl (d_assign rfl ?_)
  refine tl_nil ?_
  refine q_then_code ?_
  refine t_seq ?_
  refine t_seq ?_
  refine t_region ?_
  refine tl_d rfl (d_assign rfl ?_)
  refine tl_nil ?_
  refine q_then_code ?_
  refine t_block ?_
  obtain ⟨o25, ho26, hf⟩ := bind_some hf
  refine t_loop (X := Int) (O := Sum (Bool) (Unit)) (fun k x => match x with | s3 => cofferlaw18_in.l0 a0 a1 k s3) o25 (fun x => match x with | s3 => (([(0, u0), (3, .pointer (some ⟨b2, 0, none⟩)), (5, .int .i64 s3)], [(rSl 32 (rArr 32 (rInt .u8))).fact u0 a0], [Own.box b2 (rArr 32 (rInt .u8)) a1]) : Sym)) (fun x => match x with | s3 => IntKind.i64.wrap s3 = s3) k (0 : Int) ho26 rfl ⟨rfl, ⟨rfl, ⟨rfl, trivial⟩⟩⟩ ⟨mem_at 0 rfl, trivial⟩ [0] (Sel.cons rfl Sel.nil) rfl ?_
  clear ho26
  rintro k7 s3 hw_s3 hk6
  have hout4 := hf; clear hf
  obtain ⟨kq5, rfl⟩ : ∃ q, k7 = q + 1 := by cases k7 with | zero => cases hk6 | succ q => exact ⟨q, rfl⟩
  have hf := hk6
  clear hk6; dsimp only [cofferlaw18_in.l0] at hf
  refine t_seq ?_
  refine t_seq ?_
  refine t_region ?_
  refine tl_d rfl (d_move rfl ?_)
  refine tl_d rfl (d_move rfl ?_)
  refine tl_d rfl (d_len_sl rfl (mem_at 0 rfl) Try.underlying23 (fun hl9 _ => ?_))
  refine tl_d rfl (d_lss rfl rfl ?_)
  refine tl_nil ?_
  refine q_then_code ?_
  refine t_cond rfl (fun hb10 => ?_) (fun hb10 => ?_)
  · have hf := if_t hb10 hf
    refine t_skip ?_
    refine q_then_code ?_
    refine t_seq ?_
    refine t_block ?_
    refine t_seq ?_
    obtain ⟨hn11, hf⟩ := need_some hf
    refine t_any (n := 6) [] mixed ⟨by kernel_rfl, .inl rfl⟩ (np_then (np_block (np_then (np_then (np_block (np_then np_body)))))) ?_
    refine ta_take (i := 0) rfl (by kernel_rfl) gd_none (d_move rfl ?_)
    refine ta_take (i := 1) rfl (by kernel_rfl) gd_none (d_move rfl ?_)
    refine ta_take (i := 2) rfl (by kernel_rfl) gd_none (d_index_sl rfl (mem_at 0 rfl) rfl Try.underlying23 ty29 hn11 (fun p18 => ?_))
    refine ta_take (i := 3) rfl (by kernel_rfl) gd_none (d_load_place rfl (mem_at 0 rfl) ty29 (fun v20 => ?_))
    refine ta_take (i := 4) rfl (by kernel_rfl) gd_none (d_load_box 0 rfl rfl (Fld.self (rArr 32 (rInt .u8))) trivial ty29 rfl (fun v22 => ?_))
    refine ta_take (i := 5) rfl (by kernel_rfl) gd_none (d_eql_agg rfl rfl (mem_at 1 rfl) (mem_at 0 rfl) rfl (EqAt.arr Try.underlying29 ty5 (EqAt.int Try.underlying5)) (by decide) (by kernel_rfl) ?_)
    refine ta_done (by kernel_rfl) ?_
    refine q_then_code ?_
    refine t_cond rfl (fun hb24 => ?_) (fun hb24 => ?_)
    · have hf := if_t hb24 hf
      refine t_seq ?_
      refine t_region ?_
      refine tl_d rfl (d_assign rfl ?_)
      refine tl_nil ?_
      refine q_then_code ?_
      refine t_ret ?_
      refine q_block_ret ?_
      refine q_then_ret ?_
      refine q_then_ret ?_
      have hr := Option.some.inj hf; try subst hr
      have hf := hout4
      refine q_block_ret ?_
      refine q_then_ret ?_
      have hr := Option.some.inj hf; subst hr
      refine q_ret (post := fun w w' m v => rBool.val w' m v true) hR _ (.inl rfl) (fun a w hs => ?_)
      exact ⟨_, run_results rfl (RvOk.cons (rv_tmp hs rfl) RvOk.nil), (hs.hv hv_bool)⟩
    · have hf := if_f hb24 hf
      refine t_skip ?_
      refine q_block_normal ?_
      refine q_then_code ?_
      refine t_region ?_
      refine tl_d rfl (d_move rfl ?_)
      refine tl_d rfl (d_add rfl rfl ?_)
      refine tl_d rfl (d_assign rfl ?_)
      refine tl_nil ?_
      exact q_round kq5 (IntKind.i64.wrap (s3 + (1 : Int))) (Nat.lt_succ_self kq5) (wrap_wrap _ _) hf ⟨rfl, ⟨rfl, ⟨rfl, trivial⟩⟩⟩ ⟨mem_at 3 rfl, trivial⟩ [0] (Sel.cons rfl Sel.nil) rfl
  · have hf := if_f hb10 hf
    refine t_exit ?_
    refine q_then_exit ?_
    refine q_then_exit ?_
    have hr := Option.some.inj hf; try subst hr
    have hf := hout4
    try dsimp only at hf
    refine q_block_hit ?_
    refine q_then_code ?_
    refine t_seq ?_
    refine t_region ?_
    refine tl_d rfl (d_assign rfl ?_)
    refine tl_nil ?_
    refine q_then_code ?_
    refine t_ret ?_
    have hr := Option.some.inj hf; subst hr
    refine q_ret (post := fun w w' m v => rBool.val w' m v false) hR _ (.inl rfl) (fun a w hs => ?_)
    exact ⟨_, run_results rfl (RvOk.cons (rv_tmp hs rfl) RvOk.nil), (hs.hv hv_bool)⟩

def cofferlaw18_ReachParts.l1 (a1 : (List (List Int))) (a0 : (List Api_Object)) (c35 : (List (List Int))) : Nat → Int → Option (Sum (Bool) (Unit))
  | 0, _ => none
  | k + 1, s204 => (if (decide (s204 < ((a1).length : Int))) = true then ((need (0 ≤ s204 ∧ s204 < ((a1).length : Int)) ((cofferref17_Find.f k a0 ((a1).getD (s204).toNat (rArr 32 (rInt .u8)).zeroD)).bind fun c217 => (if (decide ((0 : Int) ≤ c217)) = true then (need (0 ≤ s204 ∧ s204 < ((a1).length : Int)) ((cofferlaw18_in.f k c35 ((a1).getD (s204).toNat (rArr 32 (rInt .u8)).zeroD)).bind fun c229 => (some (!c229)))) else (some false))))).bind fun s234 => (if s234 = true then (some (.inl false)) else (cofferlaw18_ReachParts.l1 a1 a0 c35 k (IntKind.i64.wrap (s204 + (1 : Int))))) else (some (.inr ())))
def cofferlaw18_ReachParts.l0 (a0 : (List Api_Object)) (c35 : (List (List Int))) (c39 : (List (List Int))) (c52 : (List (List Int))) : Nat → Int → Option (Sum (Bool) (Unit))
  | 0, _ => none
  | k + 1, s61 => (if (decide (s61 < ((a0).length : Int))) = true then ((need (0 ≤ s61 ∧ s61 < ((a0).length : Int)) ((cofferlaw18_in.f k c35 (((a0).getD (s61).toNat rApi_Object.zeroD)).Of).bind fun c76 => need (0 ≤ s61 ∧ s61 < ((a0).length : Int)) ((cofferlaw18_in.f k c39 (((a0).getD (s61).toNat rApi_Object.zeroD)).Of).bind fun c88 => (if (decide (c76 = c88)) = true then (some true) else (need (0 ≤ s61 ∧ s61 < ((a0).length : Int)) ((cofferlaw18_in.f k c35 (((a0).getD (s61).toNat rApi_Object.zeroD)).Of).bind fun c101 => (if c101 = true then (need (0 ≤ s61 ∧ s61 < ((a0).length : Int)) ((cofferlaw18_in.f k c52 (((a0).getD (s61).toNat rApi_Object.zeroD)).Of).bind fun c114 => (some (!c114)))) else (some false))))))))).bind fun s119 => (if s119 = true then (some (.inl false)) else (cofferlaw18_ReachParts.l0 a0 c35 c39 c52 k (IntKind.i64.wrap (s61 + (1 : Int))))) else (some (.inr ())))
def cofferlaw18_ReachParts.f (k : Nat) (a0 : (List Api_Object)) (a1 : (List (List Int))) (a2 : (List (List Int))) : Option (Bool) := ((cofferlaw18_begun.f k ).bind fun c1 => (if (!c1) = true then (some false) else (((cofferlaw17_Light.f k a0 (40 : Int)).bind fun c10 => (if (!c10) = true then (some true) else (if (decide ((40 : Int) < ((a1).length : Int))) = true then (some true) else (some (decide ((40 : Int) < ((a2).length : Int)))))))).bind fun s19 => (if s19 = true then (some true) else ((reach_Mark.f k a0 a1).bind fun c35 => (reach_Lost.f k a0 a1).bind fun c39 => (need (fits 32 ((([] : List (List Int))).length + (a1).length)) (need (fits 32 (((([] : List (List Int)) ++ a1)).length + (a2).length)) ((reach_Mark.f k a0 ((([] : List (List Int)) ++ a1) ++ a2)).bind fun c52 => (cofferlaw18_ReachParts.l0 a0 c35 c39 c52 k (0 : Int)).bind fun o277 => (match o277 with | .inl r => some r | .inr _ => (cofferlaw18_ReachParts.l1 a1 a0 c35 k (0 : Int)).bind fun o275 => (match o275 with | .inl r => some r | .inr _ => ((if (decide (((c35).length : Int) ≤ ((a0).length : Int))) = true then (some (decide (((c39).length : Int) ≤ ((a0).length : Int)))) else (some false))).bind fun s266 => (some s266))))))))))
set_option maxRecDepth 100000 in
set_option maxHeartbeats 5430000 in
theorem cofferlaw18_ReachParts_ok (k : Nat) (a0 : (List Api_Object)) (a1 : (List (List Int))) (a2 : (List (List Int))) (u0 u1 u2 : Value) (r : Bool) (hf : cofferlaw18_ReachParts.f k a0 a1 a2 = some r) : Cf.FnX false Try.prog 4 [u0, u1, u2] (fun w m => (rSl 56 rApi_Object).val w m u0 a0 ∧ (rSl 32 (rArr 32 (rInt .u8))).val w m u1 a1 ∧ (rSl 32 (rArr 32 (rInt .u8))).val w m u2 a2) (fun w w' m v => rBool.val w' m v r) := by
  unfold cofferlaw18_ReachParts.f at hf
  refine fn_of Try.func4 rfl (Nat.le_of_ble_eq_true rfl) [(rSl 56 rApi_Object).fact u0 a0, (rSl 32 (rArr 32 (rInt .u8))).fact u1 a1, (rSl 32 (rArr 32 (rInt .u8))).fact u2 a2] (fun w m h f hf => ?_) ?_
  · simp at hf; rcases hf with rfl | rfl | rfl
    · exact h.1
    · exact h.2.1
    · exact h.2.2
  intro w0 m0 R hR
  refine t_seq ?_
  refine t_region ?_
  refine tl_d rfl (d_assign rfl ?_)
  refine tl_nil ?_
  refine q_then_code ?_
  refine t_seq ?_
  refine t_seq ?_
  obtain ⟨c1, hc2, hf⟩ := bind_some hf
  refine t_region ?_
  refine tl_g [] rfl (g_call1 rfl hfn8 (cofferlaw18_begun_ok _ _ hc2) Evs.nil (fun a w hs => trivial) (fun v6 => ?_))
  refine tl_bool (mem_at 0 rfl) (fun hv8 => ?_)
  subst hv8
  refine tl_d rfl (d_not rfl ?_)
  refine tl_nil ?_
  refine q_then_code ?_
  refine t_cond rfl (fun hb9 => ?_) (fun hb9 => ?_)
  · have hf := if_t hb9 hf
    refine t_seq ?_
    refine t_region ?_
    refine tl_d rfl (d_assign rfl ?_)
    refine tl_nil ?_
    refine q_then_code ?_
    refine t_ret ?_
    refine q_then_ret ?_
    have hr := Option.some.inj hf; subst hr
    refine q_ret (post := fun w w' m v => rBool.val w' m v false) hR _ (.inl rfl) (fun a w hs => ?_)
    exact ⟨_, run_results rfl (RvOk.cons (rv_tmp hs rfl) RvOk.nil), (hs.hv hv_bool)⟩
  · have hf := if_f hb9 hf
    refine t_skip ?_
    refine q_then_code ?_
    refine t_seq ?_
    refine t_seq ?_
    obtain ⟨o20, ho21, hf⟩ := bind_some hf
    refine t_cut (X := Bool) (fun x => match x with | s19 => (([(0, u0), (1, u1), (2, u2), (26, .bool s19)], [(rSl 56 rApi_Object).fact u0 a0, (rSl 32 (rArr 32 (rInt .u8))).fact u1 a1, (rSl 32 (rArr 32 (rInt .u8))).fact u2 a2], []) : Sym)) (fun x => match x with | s19 => s19 = o20) ?_ ?_
    · have hf := ho21; clear ho21
      obtain ⟨c10, hc11, hf⟩ := bind_some hf
      rcases bool_tf (!c10) with hb15 | hb15
      · have hf := if_t hb15 hf
        refine t_region ?_
        refine tl_d rfl (d_move rfl ?_)
        refine tl_g [] rfl (g_call1 rfl hfn9 (cofferlaw17_Light_ok _ _ _ _ _ hc11).weak (Evs.cons rfl (Evs.cons rfl Evs.nil)) (fun a w hs => ⟨(hv_fact (mem_at 1 rfl)) _ _ _ _ hs, (hv_int rfl) _ _ _ _ hs⟩) (fun v22 => ?_))
        refine tl_bool (mem_at 0 rfl) (fun hv24 => ?_)
        subst hv24
        refine tl_d rfl (d_not rfl ?_)
        refine tl_d rfl (d_move rfl ?_)
        refine tl_off (gd_off rfl rfl rfl hb15) rfl rfl ?_
        refine tl_off (gd_off rfl rfl rfl hb15) rfl rfl ?_
        refine tl_off (gd_off rfl rfl rfl hb15) rfl rfl ?_
        refine tl_d rfl (d_pick_true rfl hb15 rfl ?_)
        refine tl_d rfl (d_move rfl ?_)
        refine tl_off (gd_off rfl rfl rfl rfl) rfl rfl ?_
        refine tl_off (gd_off rfl rfl rfl rfl) rfl rfl ?_
        refine tl_off (gd_off rfl rfl rfl rfl) rfl rfl ?_
        refine tl_d rfl (d_pick_true rfl rfl rfl ?_)
        refine tl_nil ?_
        have hr := Option.some.inj hf; subst hr
        exact q_cut true rfl ⟨rfl, ⟨rfl, ⟨rfl, ⟨rfl, trivial⟩⟩⟩⟩ ⟨mem_at 2 rfl, ⟨mem_at 3 rfl, ⟨mem_at 4 rfl, trivial⟩⟩⟩ [] (Sel.nil) rfl
      · have hf := if_f hb15 hf
        rcases bool_tf (decide ((40 : Int) < ((a1).length : Int))) with hb17 | hb17
        · have hf := if_t hb17 hf
          refine t_region ?_
          refine tl_d rfl (d_move rfl ?_)
          refine tl_g [] rfl (g_call1 rfl hfn9 (cofferlaw17_Light_ok _ _ _ _ _ hc11).weak (Evs.cons rfl (Evs.cons rfl Evs.nil)) (fun a w hs => ⟨(hv_fact (mem_at 1 rfl)) _ _ _ _ hs, (hv_int rfl) _ _ _ _ hs⟩) (fun v25 => ?_))
          refine tl_bool (mem_at 0 rfl) (fun hv27 => ?_)
          subst hv27
          refine tl_d rfl (d_not rfl ?_)
          refine tl_d rfl (d_move rfl ?_)
          refine tl_dg (gd_on rfl rfl rfl hb15) rfl (d_move rfl ?_)
          refine tl_dg (gd_on rfl rfl rfl hb15) rfl (d_len_sl rfl (mem_at 3 rfl) Try.underlying23 (fun hl28 _ => ?_))
          refine tl_dg (gd_on rfl rfl rfl hb15) rfl (d_gtr rfl rfl ?_)
          refine tl_d rfl (d_pick_false rfl hb15 rfl ?_)
          refine tl_d rfl (d_move rfl ?_)
          refine tl_off (gd_off rfl rfl rfl hb17) rfl rfl ?_
          refine tl_off (gd_off rfl rfl rfl hb17) rfl rfl ?_
          refine tl_off (gd_off rfl rfl rfl hb17) rfl rfl ?_
          refine tl_d rfl (d_pick_true rfl hb17 rfl ?_)
          refine tl_nil ?_
          have hr := Option.some.inj hf; subst hr
          exact q_cut true rfl ⟨rfl, ⟨rfl, ⟨rfl, ⟨rfl, trivial⟩⟩⟩⟩ ⟨mem_at 2 rfl, ⟨mem_at 3 rfl, ⟨mem_at 4 rfl, trivial⟩⟩⟩ [] (Sel.nil) rfl
        · have hf := if_f hb17 hf
          refine t_region ?_
          refine tl_d rfl (d_move rfl ?_)
          refine tl_g [] rfl (g_call1 rfl hfn9 (cofferlaw17_Light_ok _ _ _ _ _ hc11).weak (Evs.cons rfl (Evs.cons rfl Evs.nil)) (fun a w hs => ⟨(hv_fact (mem_at 1 rfl)) _ _ _ _ hs, (hv_int rfl) _ _ _ _ hs⟩) (fun v29 => ?_))
          refine tl_bool (mem_at 0 rfl) (fun hv31 => ?_)
          subst hv31
          refine tl_d rfl (d_not rfl ?_)
          refine tl_d rfl (d_move rfl ?_)
          refine tl_dg (gd_on rfl rfl rfl hb15) rfl (d_move rfl ?_)
          refine tl_dg (gd_on rfl rfl rfl hb15) rfl (d_len_sl rfl (mem_at 3 rfl) Try.underlying23 (fun hl32 _ => ?_))
          refine tl_dg (gd_on rfl rfl rfl hb15) rfl (d_gtr rfl rfl ?_)
          refine tl_d rfl (d_pick_false rfl hb15 rfl ?_)
          refine tl_d rfl (d_move rfl ?_)
          refine tl_dg (gd_on rfl rfl rfl hb17) rfl (d_move rfl ?_)
          refine tl_dg (gd_on rfl rfl rfl hb17) rfl (d_len_sl rfl (mem_at 4 rfl) Try.underlying23 (fun hl33 _ => ?_))
          refine tl_dg (gd_on rfl rfl rfl hb17) rfl (d_gtr rfl rfl ?_)
          refine tl_d rfl (d_pick_false rfl hb17 rfl ?_)
          refine tl_nil ?_
          have hr := Option.some.inj hf; subst hr
          exact q_cut (decide ((40 : Int) < ((a2).length : Int))) rfl ⟨rfl, ⟨rfl, ⟨rfl, ⟨rfl, trivial⟩⟩⟩⟩ ⟨mem_at 2 rfl, ⟨mem_at 3 rfl, ⟨mem_at 4 rfl, trivial⟩⟩⟩ [] (Sel.nil) rfl
    rintro s19 rfl
    refine q_then_code ?_
    refine t_cond rfl (fun hb34 => ?_) (fun hb34 => ?_)
    · have hf := if_t hb34 hf
      refine t_seq ?_
      refine t_region ?_
      refine tl_d rfl (d_assign rfl ?_)
      refine tl_nil ?_
      refine q_then_code ?_
      refine t_ret ?_
      refine q_then_ret ?_
      have hr := Option.some.inj hf; subst hr
      refine q_ret (post := fun w w' m v => rBool.val w' m v true) hR _ (.inl rfl) (fun a w hs => ?_)
      exact ⟨_, run_results rfl (RvOk.cons (rv_tmp hs rfl) RvOk.nil), (hs.hv hv_bool)⟩
    · have hf := if_f hb34 hf
      refine t_skip ?_
      refine q_then_code ?_
      refine t_seq ?_
      obtain ⟨c35, hc36, hf⟩ := bind_some hf
      obtain ⟨c39, hc40, hf⟩ := bind_some hf
      refine t_region ?_
      refine tl_d rfl (d_move rfl ?_)
      refine tl_d rfl (d_move rfl ?_)
      refine tl_g [] rfl (g_callo rfl hfn10 (reach_Mark_ok _ _ _ _ _ _ hc36) (Evs.cons rfl (Evs.cons rfl Evs.nil)) (fun a w hs => ⟨(hv_fact (mem_at 0 rfl)) _ _ _ _ hs, (hv_fact (mem_at 1 rfl)) _ _ _ _ hs⟩) (fun v43 => ?_))
      refine tl_d rfl (d_move rfl ?_)
      refine tl_d rfl (d_move rfl ?_)
      refine tl_g [] rfl (g_callo rfl hfn11 (reach_Lost_ok _ _ _ _ _ _ hc40) (Evs.cons rfl (Evs.cons rfl Evs.nil)) (fun a w hs => ⟨(hv_fact (mem_at 0 rfl)) _ _ _ _ hs, (hv_fact (mem_at 1 rfl)) _ _ _ _ hs⟩) (fun v45 => ?_))
      refine tl_d rfl (d_assign rfl ?_)
      refine tl_d rfl (d_assign rfl ?_)
      refine tl_nil ?_
      refine q_then_code ?_
      refine t_seq ?_
      obtain ⟨hn48, hf⟩ := need_some hf
      obtain ⟨hn50, hf⟩ := need_some hf
      obtain ⟨c52, hc53, hf⟩ := bind_some hf
      refine t_region ?_
      refine tl_d rfl (d_move rfl ?_)
      refine tl_g [] rfl (g_buildSlice (R := (rArr 32 (rInt .u8))) (l := []) rfl Try.underlying23 ty29 ⟨rfl, by decide, by decide, by decide⟩ PartsOk.nil rfl (fun v56 => ?_))
      refine tl_d rfl (d_move rfl ?_)
      refine tl_g _ rfl (g_append_sl (l2 := a1) 2 rfl rfl rfl rfl (hv_fact (mem_at 1 rfl)) Try.underlying23 ⟨_, Try.underlying23, fun k h => by cases h⟩ ty29 hn48 (List.mem_singleton_self _) (fun v57 => ?_))
      refine tl_d rfl (d_move rfl ?_)
      refine tl_g _ rfl (g_append_sl (l2 := a2) 2 rfl rfl rfl rfl (hv_fact (mem_at 2 rfl)) Try.underlying23 ⟨_, Try.underlying23, fun k h => by cases h⟩ ty29 hn50 (List.mem_singleton_self _) (fun v58 => ?_))
      refine tl_g [] rfl (g_callo rfl hfn10 (FnX.flat (fun _ _ _ _ _ h => Flat.own (Flat.arr Flat.int) h) (reach_Mark_ok _ _ _ _ _ _ hc53)) (Evs.cons rfl (Evs.cons rfl Evs.nil)) (fun a w hs => bor_one hs 2 rfl (fun hs1 => bor_end hs1 ⟨(hv_fact (mem_at 1 rfl)) _ _ _ _ hs1, (hv_fact (mem_at 0 rfl)) _ _ _ _ hs1⟩)) (fun v59 => ?_))
      refine tl_d rfl (d_assign rfl ?_)
      refine tl_nil ?_
      refine q_then_code ?_
      refine t_seq ?_
      refine t_seq ?_
      refine t_region ?_
      refine tl_d rfl (d_assign rfl ?_)
      refine tl_nil ?_
      refine q_then_code ?_
      refine t_block ?_
      obtain ⟨o277, ho278, hf⟩ := bind_some hf
      refine t_loop (X := Int) (O := Sum (Bool) (Unit)) (fun k x => match x with | s61 => cofferlaw18_ReachParts.l0 a0 c35 c39 c52 k s61) o277 (fun x => match x with | s61 => (([(0, u0), (1, u1), (7, v43), (8, v45), (9, v59), (10, .int .i64 s61)], [(rSl 56 rApi_Object).fact u0 a0, (rSl 32 (rArr 32 (rInt .u8))).fact u1 a1], [Own.buf v43 32 (rArr 32 (rInt .u8)) c35, Own.buf v45 32 (rArr 32 (rInt .u8)) c39, Own.buf v59 32 (rArr 32 (rInt .u8)) c52]) : Sym)) (fun x => match x with | s61 => IntKind.i64.wrap s61 = s61) k (0 : Int) ho278 rfl ⟨rfl, ⟨rfl, ⟨rfl, ⟨rfl, ⟨rfl, ⟨rfl, trivial⟩⟩⟩⟩⟩⟩ ⟨mem_at 0 rfl, ⟨mem_at 1 rfl, trivial⟩⟩ [0, 1, 3] (Sel.cons rfl (Sel.cons rfl (Sel.cons rfl Sel.nil))) rfl ?_
      clear ho278
      rintro k65 s61 hw_s61 hk64
      have hout62 := hf; clear hf
      obtain ⟨kq63, rfl⟩ : ∃ q, k65 = q + 1 := by cases k65 with | zero => cases hk64 | succ q => exact ⟨q, rfl⟩
      have hf := hk64
      clear hk64; dsimp only [cofferlaw18_ReachParts.l0] at hf
      refine t_seq ?_
      refine t_seq ?_
      refine t_region ?_
      refine tl_d rfl (d_move rfl ?_)
      refine tl_d rfl (d_move rfl ?_)
      refine tl_d rfl (d_len_sl rfl (mem_at 0 rfl) Try.underlying22 (fun hl67 _ => ?_))
      refine tl_d rfl (d_lss rfl rfl ?_)
      refine tl_nil ?_
      refine q_then_code ?_
      refine t_cond rfl (fun hb68 => ?_) (fun hb68 => ?_)
      · have hf := if_t hb68 hf
        refine t_skip ?_
        refine q_then_code ?_
        refine t_seq ?_
        refine t_block ?_
        refine t_seq ?_
        obtain ⟨o120, ho121, hf⟩ := bind_some hf
        refine t_cut (X := Bool) (fun x => match x with | s119 => (([(0, u0), (1, u1), (7, v43), (8, v45), (9, v59), (10, (.int .i64 s61)), (79, .bool s119)], [(rSl 56 rApi_Object).fact u0 a0, (rSl 32 (rArr 32 (rInt .u8))).fact u1 a1], [Own.buf v43 32 (rArr 32 (rInt .u8)) c35, Own.buf v45 32 (rArr 32 (rInt .u8)) c39, Own.buf v59 32 (rArr 32 (rInt .u8)) c52]) : Sym)) (fun x => match x with | s119 => s119 = o120) ?_ ?_
        · have hf := ho121; clear ho121
          obtain ⟨hn69, hf⟩ := need_some hf
          obtain ⟨c76, hc77, hf⟩ := bind_some hf
          obtain ⟨hn81, hf⟩ := need_some hf
          obtain ⟨c88, hc89, hf⟩ := bind_some hf
          rcases bool_tf (decide (c76 = c88)) with hb93 | hb93
          · have hf := if_t hb93 hf
            refine t_any (n := 34) [] mixed ⟨by kernel_rfl, .inl rfl⟩ (np_cut (np_then (np_block (np_then (np_then (np_block (np_then np_body))))))) ?_
            refine ta_take (i := 0) rfl (by kernel_rfl) gd_none (d_move rfl ?_)
            refine ta_take (i := 1) rfl (by kernel_rfl) gd_none (d_move rfl ?_)
            refine ta_take (i := 2) rfl (by kernel_rfl) gd_none (d_move rfl ?_)
            refine ta_take (i := 3) rfl (by kernel_rfl) gd_none (d_index_sl rfl (mem_at 0 rfl) rfl Try.underlying22 ty34 hn69 (fun p122 => ?_))
            refine ta_take (i := 4) rfl (by kernel_rfl) gd_none (d_field_place rfl (mem_at 0 rfl) fo34_0 fl_Api_Object_Of trivial (fun p124 => ?_))
            refine ta_take (i := 5) rfl (by kernel_rfl) gd_none (d_load_place rfl (mem_at 0 rfl) ty29 (fun v126 => ?_))
            refine ta_take (i := 7) rfl (by kernel_rfl) gd_none (d_move rfl ?_)
            refine ta_take (i := 8) rfl (by kernel_rfl) gd_none (d_move rfl ?_)
            refine ta_take (i := 9) rfl (by kernel_rfl) gd_none (d_move rfl ?_)
            refine ta_take (i := 10) rfl (by kernel_rfl) gd_none (d_index_sl rfl (mem_at 3 rfl) rfl Try.underlying22 ty34 hn81 (fun p128 => ?_))
            refine ta_take (i := 11) rfl (by kernel_rfl) gd_none (d_field_place rfl (mem_at 0 rfl) fo34_0 fl_Api_Object_Of trivial (fun p130 => ?_))
            refine ta_take (i := 12) rfl (by kernel_rfl) gd_none (d_load_place rfl (mem_at 0 rfl) ty29 (fun v132 => ?_))
            refine ta_one (i := 6) (by kernel_rfl) rfl rfl gd_none (g_call1 rfl hfn15 (FnX.flat (fun _ _ _ _ _ h => Flat.val Flat.bool h) (cofferlaw18_in_ok _ _ _ _ _ _ hc77).weak) (Evs.cons rfl (Evs.cons rfl Evs.nil)) (fun a w hs => bor_one hs 0 rfl (fun hs1 => bor_end hs1 ⟨(hv_fact (mem_at 0 rfl)) _ _ _ _ hs1, (hv_fact (mem_at 4 rfl)) _ _ _ _ hs1⟩)) (fun v134 => ?_))
            refine ta_bool (mem_at 0 rfl) (fun hv136 => ?_)
            subst hv136
            refine ta_one (i := 13) (by kernel_rfl) rfl rfl gd_none (g_call1 rfl hfn15 (FnX.flat (fun _ _ _ _ _ h => Flat.val Flat.bool h) (cofferlaw18_in_ok _ _ _ _ _ _ hc89).weak) (Evs.cons rfl (Evs.cons rfl Evs.nil)) (fun a w hs => bor_one hs 1 rfl (fun hs1 => bor_end hs1 ⟨(hv_fact (mem_at 0 rfl)) _ _ _ _ hs1, (hv_fact (mem_at 2 rfl)) _ _ _ _ hs1⟩)) (fun v137 => ?_))
            refine ta_bool (mem_at 0 rfl) (fun hv139 => ?_)
            subst hv139
            refine ta_take (i := 14) rfl (by kernel_rfl) gd_none (d_eql_bool rfl rfl Try.underlying4 ?_)
            refine ta_take (i := 15) rfl (by kernel_rfl) gd_none (d_move rfl ?_)
            refine ta_off (i := 16) rfl (by kernel_rfl) (gd_off rfl rfl rfl hb93) ?_
            refine ta_off (i := 17) rfl (by kernel_rfl) (gd_off rfl rfl rfl hb93) ?_
            refine ta_off (i := 18) rfl (by kernel_rfl) (gd_off rfl rfl rfl hb93) ?_
            refine ta_off (i := 19) rfl (by kernel_rfl) (gd_off rfl rfl rfl hb93) ?_
            refine ta_off (i := 20) rfl (by kernel_rfl) (gd_off rfl rfl rfl hb93) ?_
            refine ta_off (i := 21) rfl (by kernel_rfl) (gd_off rfl rfl rfl hb93) ?_
            refine ta_off (i := 22) rfl (by kernel_rfl) (gd_off rfl rfl rfl hb93) ?_
            refine ta_off (i := 23) rfl (by kernel_rfl) (gd_off rfl rfl rfl hb93) ?_
            refine ta_off (i := 24) rfl (by kernel_rfl) (gd_offu rfl rfl rfl) ?_
            refine ta_off (i := 25) rfl (by kernel_rfl) (gd_offu rfl rfl rfl) ?_
            refine ta_off (i := 26) rfl (by kernel_rfl) (gd_offu rfl rfl rfl) ?_
            refine ta_off (i := 27) rfl (by kernel_rfl) (gd_offu rfl rfl rfl) ?_
            refine ta_off (i := 28) rfl (by kernel_rfl) (gd_offu rfl rfl rfl) ?_
            refine ta_off (i := 29) rfl (by kernel_rfl) (gd_offu rfl rfl rfl) ?_
            refine ta_off (i := 30) rfl (by kernel_rfl) (gd_offu rfl rfl rfl) ?_
            refine ta_off (i := 31) rfl (by kernel_rfl) (gd_offu rfl rfl rfl) ?_
            refine ta_off (i := 32) rfl (by kernel_rfl) (gd_off rfl rfl rfl hb93) ?_
            refine ta_take (i := 33) rfl (by kernel_rfl) gd_none (d_pick_true rfl hb93 rfl ?_)
            refine ta_done (by kernel_rfl) ?_
            have hr := Option.some.inj hf; subst hr
            exact q_cut true rfl ⟨rfl, ⟨rfl, ⟨rfl, ⟨rfl, ⟨rfl, ⟨rfl, ⟨rfl, trivial⟩⟩⟩⟩⟩⟩⟩ ⟨mem_at 8 rfl, ⟨mem_at 9 rfl, trivial⟩⟩ [0, 1, 2] (Sel.cons rfl (Sel.cons rfl (Sel.cons rfl Sel.nil))) rfl
          · have hf := if_f hb93 hf
            obtain ⟨hn94, hf⟩ := need_some hf
            obtain ⟨c101, hc102, hf⟩ := bind_some hf
            rcases bool_tf c101 with hb106 | hb106
            · have hf := if_t hb106 hf
              obtain ⟨hn107, hf⟩ := need_some hf
              obtain ⟨c114, hc115, hf⟩ := bind_some hf
              refine t_any (n := 34) [] mixed ⟨by kernel_rfl, .inl rfl⟩ (np_cut (np_then (np_block (np_then (np_then (np_block (np_then np_body))))))) ?_
              refine ta_take (i := 0) rfl (by kernel_rfl) gd_none (d_move rfl ?_)
              refine ta_take (i := 1) rfl (by kernel_rfl) gd_none (d_move rfl ?_)
              refine ta_take (i := 2) rfl (by kernel_rfl) gd_none (d_move rfl ?_)
              refine ta_take (i := 3) rfl (by kernel_rfl) gd_none (d_index_sl rfl (mem_at 0 rfl) rfl Try.underlying22 ty34 hn69 (fun p140 => ?_))
              refine ta_take (i := 4) rfl (by kernel_rfl) gd_none (d_field_place rfl (mem_at 0 rfl) fo34_0 fl_Api_Object_Of trivial (fun p142 => ?_))
              refine ta_take (i := 5) rfl (by kernel_rfl) gd_none (d_load_place rfl (mem_at 0 rfl) ty29 (fun v144 => ?_))
              refine ta_take (i := 7) rfl (by kernel_rfl) gd_none (d_move rfl ?_)
              refine ta_take (i := 8) rfl (by kernel_rfl) gd_none (d_move rfl ?_)
              refine ta_take (i := 9) rfl (by kernel_rfl) gd_none (d_move rfl ?_)
              refine ta_take (i := 10) rfl (by kernel_rfl) gd_none (d_index_sl rfl (mem_at 3 rfl) rfl Try.underlying22 ty34 hn81 (fun p146 => ?_))
              refine ta_take (i := 11) rfl (by kernel_rfl) gd_none (d_field_place rfl (mem_at 0 rfl) fo34_0 fl_Api_Object_Of trivial (fun p148 => ?_))
              refine ta_take (i := 12) rfl (by kernel_rfl) gd_none (d_load_place rfl (mem_at 0 rfl) ty29 (fun v150 => ?_))
              refine ta_one (i := 6) (by kernel_rfl) rfl rfl gd_none (g_call1 rfl hfn15 (FnX.flat (fun _ _ _ _ _ h => Flat.val Flat.bool h) (cofferlaw18_in_ok _ _ _ _ _ _ hc77).weak) (Evs.cons rfl (Evs.cons rfl Evs.nil)) (fun a w hs => bor_one hs 0 rfl (fun hs1 => bor_end hs1 ⟨(hv_fact (mem_at 0 rfl)) _ _ _ _ hs1, (hv_fact (mem_at 4 rfl)) _ _ _ _ hs1⟩)) (fun v152 => ?_))
              refine ta_bool (mem_at 0 rfl) (fun hv154 => ?_)
              subst hv154
              refine ta_one (i := 13) (by kernel_rfl) rfl rfl gd_none (g_call1 rfl hfn15 (FnX.flat (fun _ _ _ _ _ h => Flat.val Flat.bool h) (cofferlaw18_in_ok _ _ _ _ _ _ hc89).weak) (Evs.cons rfl (Evs.cons rfl Evs.nil)) (fun a w hs => bor_one hs 1 rfl (fun hs1 => bor_end hs1 ⟨(hv_fact (mem_at 0 rfl)) _ _ _ _ hs1, (hv_fact (mem_at 2 rfl)) _ _ _ _ hs1⟩)) (fun v155 => ?_))
              refine ta_bool (mem_at 0 rfl) (fun hv157 => ?_)
              subst hv157
              refine ta_take (i := 14) rfl (by kernel_rfl) gd_none (d_eql_bool rfl rfl Try.underlying4 ?_)
              refine ta_take (i := 15) rfl (by kernel_rfl) gd_none (d_move rfl ?_)
              refine ta_take (i := 16) rfl (by kernel_rfl) (gd_on rfl rfl rfl hb93) (d_move rfl ?_)
              refine ta_take (i := 17) rfl (by kernel_rfl) (gd_on rfl rfl rfl hb93) (d_move rfl ?_)
              refine ta_take (i := 18) rfl (by kernel_rfl) (gd_on rfl rfl rfl hb93) (d_move rfl ?_)
              refine ta_take (i := 19) rfl (by kernel_rfl) (gd_on rfl rfl rfl hb93) (d_index_sl rfl (mem_at 8 rfl) rfl Try.underlying22 ty34 hn94 (fun p158 => ?_))
              refine ta_take (i := 20) rfl (by kernel_rfl) (gd_on rfl rfl rfl hb93) (d_field_place rfl (mem_at 0 rfl) fo34_0 fl_Api_Object_Of trivial (fun p160 => ?_))
              refine ta_take (i := 21) rfl (by kernel_rfl) (gd_on rfl rfl rfl hb93) (d_load_place rfl (mem_at 0 rfl) ty29 (fun v162 => ?_))
              refine ta_one (i := 22) (by kernel_rfl) rfl rfl (gd_on rfl rfl rfl hb93) (g_call1 rfl hfn15 (FnX.flat (fun _ _ _ _ _ h => Flat.val Flat.bool h) (cofferlaw18_in_ok _ _ _ _ _ _ hc102).weak) (Evs.cons rfl (Evs.cons rfl Evs.nil)) (fun a w hs => bor_one hs 0 rfl (fun hs1 => bor_end hs1 ⟨(hv_fact (mem_at 0 rfl)) _ _ _ _ hs1, (hv_fact (mem_at 1 rfl)) _ _ _ _ hs1⟩)) (fun v164 => ?_))
              refine ta_bool (mem_at 0 rfl) (fun hv166 => ?_)
              subst hv166
              refine ta_take (i := 23) rfl (by kernel_rfl) (gd_on rfl rfl rfl hb93) (d_move rfl ?_)
              refine ta_take (i := 24) rfl (by kernel_rfl) (gd_on rfl rfl rfl hb106) (d_move rfl ?_)
              refine ta_take (i := 25) rfl (by kernel_rfl) (gd_on rfl rfl rfl hb106) (d_move rfl ?_)
              refine ta_take (i := 26) rfl (by kernel_rfl) (gd_on rfl rfl rfl hb106) (d_move rfl ?_)
              refine ta_take (i := 27) rfl (by kernel_rfl) (gd_on rfl rfl rfl hb106) (d_index_sl rfl (mem_at 12 rfl) rfl Try.underlying22 ty34 hn107 (fun p167 => ?_))
              refine ta_take (i := 28) rfl (by kernel_rfl) (gd_on rfl rfl rfl hb106) (d_field_place rfl (mem_at 0 rfl) fo34_0 fl_Api_Object_Of trivial (fun p169 => ?_))
              refine ta_take (i := 29) rfl (by kernel_rfl) (gd_on rfl rfl rfl hb106) (d_load_place rfl (mem_at 0 rfl) ty29 (fun v171 => ?_))
              refine ta_one (i := 30) (by kernel_rfl) rfl rfl (gd_on rfl rfl rfl hb106) (g_call1 rfl hfn15 (FnX.flat (fun _ _ _ _ _ h => Flat.val Flat.bool h) (cofferlaw18_in_ok _ _ _ _ _ _ hc115).weak) (Evs.cons rfl (Evs.cons rfl Evs.nil)) (fun a w hs => bor_one hs 2 rfl (fun hs1 => bor_end hs1 ⟨(hv_fact (mem_at 0 rfl)) _ _ _ _ hs1, (hv_fact (mem_at 1 rfl)) _ _ _ _ hs1⟩)) (fun v173 => ?_))
              refine ta_bool (mem_at 0 rfl) (fun hv175 => ?_)
              subst hv175
              refine ta_take (i := 31) rfl (by kernel_rfl) (gd_on rfl rfl rfl hb106) (d_not rfl ?_)
              refine ta_take (i := 32) rfl (by kernel_rfl) (gd_on rfl rfl rfl hb93) (d_pick_true rfl hb106 rfl ?_)
              refine ta_take (i := 33) rfl (by kernel_rfl) gd_none (d_pick_false rfl hb93 rfl ?_)
              refine ta_done (by kernel_rfl) ?_
              have hr := Option.some.inj hf; subst hr
              exact q_cut (!c114) rfl ⟨rfl, ⟨rfl, ⟨rfl, ⟨rfl, ⟨rfl, ⟨rfl, ⟨rfl, trivial⟩⟩⟩⟩⟩⟩⟩ ⟨mem_at 16 rfl, ⟨mem_at 17 rfl, trivial⟩⟩ [0, 1, 2] (Sel.cons rfl (Sel.cons rfl (Sel.cons rfl Sel.nil))) rfl
            · have hf := if_f hb106 hf
              refine t_any (n := 34) [] mixed ⟨by kernel_rfl, .inl rfl⟩ (np_cut (np_then (np_block (np_then (np_then (np_block (np_then np_body))))))) ?_
              refine ta_take (i := 0) rfl (by kernel_rfl) gd_none (d_move rfl ?_)
              refine ta_take (i := 1) rfl (by kernel_rfl) gd_none (d_move rfl ?_)
              refine ta_take (i := 2) rfl (by kernel_rfl) gd_none (d_move rfl ?_)
              refine ta_take (i := 3) rfl (by kernel_rfl) gd_none (d_index_sl rfl (mem_at 0 rfl) rfl Try.underlying22 ty34 hn69 (fun p176 => ?_))
              refine ta_take (i := 4) rfl (by kernel_rfl) gd_none (d_field_place rfl (mem_at 0 rfl) fo34_0 fl_Api_Object_Of trivial (fun p178 => ?_))
              refine ta_take (i := 5) rfl (by kernel_rfl) gd_none (d_load_place rfl (mem_at 0 rfl) ty29 (fun v180 => ?_))
              refine ta_take (i := 7) rfl (by kernel_rfl) gd_none (d_move rfl ?_)
              refine ta_take (i := 8) rfl (by kernel_rfl) gd_none (d_move rfl ?_)
              refine ta_take (i := 9) rfl (by kernel_rfl) gd_none (d_move rfl ?_)
              refine ta_take (i := 10) rfl (by kernel_rfl) gd_none (d_index_sl rfl (mem_at 3 rfl) rfl Try.underlying22 ty34 hn81 (fun p182 => ?_))
              refine ta_take (i := 11) rfl (by kernel_rfl) gd_none (d_field_place rfl (mem_at 0 rfl) fo34_0 fl_Api_Object_Of trivial (fun p184 => ?_))
              refine ta_take (i := 12) rfl (by kernel_rfl) gd_none (d_load_place rfl (mem_at 0 rfl) ty29 (fun v186 => ?_))
              refine ta_one (i := 6) (by kernel_rfl) rfl rfl gd_none (g_call1 rfl hfn15 (FnX.flat (fun _ _ _ _ _ h => Flat.val Flat.bool h) (cofferlaw18_in_ok _ _ _ _ _ _ hc77).weak) (Evs.cons rfl (Evs.cons rfl Evs.nil)) (fun a w hs => bor_one hs 0 rfl (fun hs1 => bor_end hs1 ⟨(hv_fact (mem_at 0 rfl)) _ _ _ _ hs1, (hv_fact (mem_at 4 rfl)) _ _ _ _ hs1⟩)) (fun v188 => ?_))
              refine ta_bool (mem_at 0 rfl) (fun hv190 => ?_)
              subst hv190
              refine ta_one (i := 13) (by kernel_rfl) rfl rfl gd_none (g_call1 rfl hfn15 (FnX.flat (fun _ _ _ _ _ h => Flat.val Flat.bool h) (cofferlaw18_in_ok _ _ _ _ _ _ hc89).weak) (Evs.cons rfl (Evs.cons rfl Evs.nil)) (fun a w hs => bor_one hs 1 rfl (fun hs1 => bor_end hs1 ⟨(hv_fact (mem_at 0 rfl)) _ _ _ _ hs1, (hv_fact (mem_at 2 rfl)) _ _ _ _ hs1⟩)) (fun v191 => ?_))
              refine ta_bool (mem_at 0 rfl) (fun hv193 => ?_)
              subst hv193
              refine ta_take (i := 14) rfl (by kernel_rfl) gd_none (d_eql_bool rfl rfl Try.underlying4 ?_)
              refine ta_take (i := 15) rfl (by kernel_rfl) gd_none (d_move rfl ?_)
              refine ta_take (i := 16) rfl (by kernel_rfl) (gd_on rfl rfl rfl hb93) (d_move rfl ?_)
              refine ta_take (i := 17) rfl (by kernel_rfl) (gd_on rfl rfl rfl hb93) (d_move rfl ?_)
              refine ta_take (i := 18) rfl (by kernel_rfl) (gd_on rfl rfl rfl hb93) (d_move rfl ?_)
              refine ta_take (i := 19) rfl (by kernel_rfl) (gd_on rfl rfl rfl hb93) (d_index_sl rfl (mem_at 8 rfl) rfl Try.underlying22 ty34 hn94 (fun p194 => ?_))
              refine ta_take (i := 20) rfl (by kernel_rfl) (gd_on rfl rfl rfl hb93) (d_field_place rfl (mem_at 0 rfl) fo34_0 fl_Api_Object_Of trivial (fun p196 => ?_))
              refine ta_take (i := 21) rfl (by kernel_rfl) (gd_on rfl rfl rfl hb93) (d_load_place rfl (mem_at 0 rfl) ty29 (fun v198 => ?_))
              refine ta_one (i := 22) (by kernel_rfl) rfl rfl (gd_on rfl rfl rfl hb93) (g_call1 rfl hfn15 (FnX.flat (fun _ _ _ _ _ h => Flat.val Flat.bool h) (cofferlaw18_in_ok _ _ _ _ _ _ hc102).weak) (Evs.cons rfl (Evs.cons rfl Evs.nil)) (fun a w hs => bor_one hs 0 rfl (fun hs1 => bor_end hs1 ⟨(hv_fact (mem_at 0 rfl)) _ _ _ _ hs1, (hv_fact (mem_at 1 rfl)) _ _ _ _ hs1⟩)) (fun v200 => ?_))
              refine ta_bool (mem_at 0 rfl) (fun hv202 => ?_)
              subst hv202
              refine ta_take (i := 23) rfl (by kernel_rfl) (gd_on rfl rfl rfl hb93) (d_move rfl ?_)
              refine ta_off (i := 24) rfl (by kernel_rfl) (gd_off rfl rfl rfl hb106) ?_
              refine ta_off (i := 25) rfl (by kernel_rfl) (gd_off rfl rfl rfl hb106) ?_
              refine ta_off (i := 26) rfl (by kernel_rfl) (gd_off rfl rfl rfl hb106) ?_
              refine ta_off (i := 27) rfl (by kernel_rfl) (gd_off rfl rfl rfl hb106) ?_
              refine ta_off (i := 28) rfl (by kernel_rfl) (gd_off rfl rfl rfl hb106) ?_
              refine ta_off (i := 29) rfl (by kernel_rfl) (gd_off rfl rfl rfl hb106) ?_
              refine ta_off (i := 30) rfl (by kernel_rfl) (gd_off rfl rfl rfl hb106) ?_
              refine ta_off (i := 31) rfl (by kernel_rfl) (gd_off rfl rfl rfl hb106) ?_
              refine ta_take (i := 32) rfl (by kernel_rfl) (gd_on rfl rfl rfl hb93) (d_pick_false rfl hb106 rfl ?_)
              refine ta_take (i := 33) rfl (by kernel_rfl) gd_none (d_pick_false rfl hb93 rfl ?_)
              refine ta_done (by kernel_rfl) ?_
              have hr := Option.some.inj hf; subst hr
              exact q_cut false rfl ⟨rfl, ⟨rfl, ⟨rfl, ⟨rfl, ⟨rfl, ⟨rfl, ⟨rfl, trivial⟩⟩⟩⟩⟩⟩⟩ ⟨mem_at 12 rfl, ⟨mem_at 13 rfl, trivial⟩⟩ [0, 1, 2] (Sel.cons rfl (Sel.cons rfl (Sel.cons rfl Sel.nil))) rfl
        rintro s119 rfl
        refine q_then_code ?_
        refine t_cond rfl (fun hb203 => ?_) (fun hb203 => ?_)
        · have hf := if_t hb203 hf
          refine t_seq ?_
          refine t_region ?_
          refine tl_d rfl (d_assign rfl ?_)
          refine tl_nil ?_
          refine q_then_code ?_
          refine t_ret ?_
          refine q_block_ret ?_
          refine q_then_ret ?_
          refine q_then_ret ?_
          have hr := Option.some.inj hf; try subst hr
          have hf := hout62
          refine q_block_ret ?_
          refine q_then_ret ?_
          have hr := Option.some.inj hf; subst hr
          refine q_ret (post := fun w w' m v => rBool.val w' m v false) hR _ (.inl rfl) (fun a w hs => ?_)
          exact ⟨_, run_results rfl (RvOk.cons (rv_tmp hs rfl) RvOk.nil), (hs.hv hv_bool)⟩
        · have hf := if_f hb203 hf
          refine t_skip ?_
          refine q_block_normal ?_
          refine q_then_code ?_
          refine t_region ?_
          refine tl_d rfl (d_move rfl ?_)
          refine tl_d rfl (d_add rfl rfl ?_)
          refine tl_d rfl (d_assign rfl ?_)
          refine tl_nil ?_
          exact q_round kq63 (IntKind.i64.wrap (s61 + (1 : Int))) (Nat.lt_succ_self kq63) (wrap_wrap _ _) hf ⟨rfl, ⟨rfl, ⟨rfl, ⟨rfl, ⟨rfl, ⟨rfl, trivial⟩⟩⟩⟩⟩⟩ ⟨mem_at 0 rfl, ⟨mem_at 1 rfl, trivial⟩⟩ [0, 1, 2] (Sel.cons rfl (Sel.cons rfl (Sel.cons rfl Sel.nil))) rfl
      · have hf := if_f hb68 hf
        refine t_exit ?_
        refine q_then_exit ?_
        refine q_then_exit ?_
        have hr := Option.some.inj hf; try subst hr
        have hf := hout62
        try dsimp only at hf
        refine q_block_hit ?_
        refine q_then_code ?_
        refine t_seq ?_
        refine t_seq ?_
        refine t_region ?_
        refine tl_d rfl (d_assign rfl ?_)
        refine tl_nil ?_
        refine q_then_code ?_
        refine t_block ?_
        obtain ⟨o275, ho276, hf⟩ := bind_some hf
        refine t_loop (X := Int) (O := Sum (Bool) (Unit)) (fun k x => match x with | s204 => cofferlaw18_ReachParts.l1 a1 a0 c35 k s204) o275 (fun x => match x with | s204 => (([(0, u0), (1, u1), (7, v43), (8, v45), (11, .int .i64 s204)], [(rSl 56 rApi_Object).fact u0 a0, (rSl 32 (rArr 32 (rInt .u8))).fact u1 a1], [Own.buf v43 32 (rArr 32 (rInt .u8)) c35, Own.buf v45 32 (rArr 32 (rInt .u8)) c39]) : Sym)) (fun x => match x with | s204 => IntKind.i64.wrap s204 = s204) k (0 : Int) ho276 rfl ⟨rfl, ⟨rfl, ⟨rfl, ⟨rfl, ⟨rfl, trivial⟩⟩⟩⟩⟩ ⟨mem_at 0 rfl, ⟨mem_at 1 rfl, trivial⟩⟩ [0, 1] (Sel.cons rfl (Sel.cons rfl Sel.nil)) rfl ?_
        clear ho276
        rintro k208 s204 hw_s204 hk207
        have hout205 := hf; clear hf
        obtain ⟨kq206, rfl⟩ : ∃ q, k208 = q + 1 := by cases k208 with | zero => cases hk207 | succ q => exact ⟨q, rfl⟩
        have hf := hk207
        clear hk207; dsimp only [cofferlaw18_ReachParts.l1] at hf
        refine t_seq ?_
        refine t_seq ?_
        refine t_region ?_
        refine tl_d rfl (d_move rfl ?_)
        refine tl_d rfl (d_move rfl ?_)
        refine tl_d rfl (d_len_sl rfl (mem_at 1 rfl) Try.underlying23 (fun hl210 _ => ?_))
        refine tl_d rfl (d_lss rfl rfl ?_)
        refine tl_nil ?_
        refine q_then_code ?_
        refine t_cond rfl (fun hb211 => ?_) (fun hb211 => ?_)
        · have hf := if_t hb211 hf
          refine t_skip ?_
          refine q_then_code ?_
          refine t_seq ?_
          refine t_block ?_
          refine t_seq ?_
          obtain ⟨o235, ho236, hf⟩ := bind_some hf
          refine t_cut (X := Bool) (fun x => match x with | s234 => (([(0, u0), (1, u1), (7, v43), (8, v45), (11, (.int .i64 s204)), (101, .bool s234)], [(rSl 56 rApi_Object).fact u0 a0, (rSl 32 (rArr 32 (rInt .u8))).fact u1 a1], [Own.buf v43 32 (rArr 32 (rInt .u8)) c35, Own.buf v45 32 (rArr 32 (rInt .u8)) c39]) : Sym)) (fun x => match x with | s234 => s234 = o235) ?_ ?_
          · have hf := ho236; clear ho236
            obtain ⟨hn212, hf⟩ := need_some hf
            obtain ⟨c217, hc218, hf⟩ := bind_some hf
            rcases bool_tf (decide ((0 : Int) ≤ c217)) with hb223 | hb223
            · have hf := if_t hb223 hf
              obtain ⟨hn224, hf⟩ := need_some hf
              obtain ⟨c229, hc230, hf⟩ := bind_some hf
              refine t_region ?_
              refine tl_d rfl (d_move rfl ?_)
              refine tl_d rfl (d_move rfl ?_)
              refine tl_d rfl (d_move rfl ?_)
              refine tl_d rfl (d_index_sl rfl (mem_at 1 rfl) rfl Try.underlying23 ty29 hn212 (fun p237 => ?_))
              refine tl_d rfl (d_load_place rfl (mem_at 0 rfl) ty29 (fun v239 => ?_))
              refine tl_g [] rfl (g_call1 rfl hfn16 (cofferref17_Find_ok _ _ _ _ _ _ hc218).weak (Evs.cons rfl (Evs.cons rfl Evs.nil)) (fun a w hs => ⟨(hv_fact (mem_at 2 rfl)) _ _ _ _ hs, (hv_fact (mem_at 0 rfl)) _ _ _ _ hs⟩) (fun v241 => ?_))
              refine tl_int (mem_at 0 rfl) (fun hv244 hw243 => ?_)
              subst hv244
              refine tl_d rfl (d_geq rfl rfl ?_)
              refine tl_d rfl (d_move rfl ?_)
              refine tl_dg (gd_on rfl rfl rfl hb223) rfl (d_move rfl ?_)
              refine tl_dg (gd_on rfl rfl rfl hb223) rfl (d_move rfl ?_)
              refine tl_dg (gd_on rfl rfl rfl hb223) rfl (d_move rfl ?_)
              refine tl_dg (gd_on rfl rfl rfl hb223) rfl (d_index_sl rfl (mem_at 4 rfl) rfl Try.underlying23 ty29 hn224 (fun p245 => ?_))
              refine tl_dg (gd_on rfl rfl rfl hb223) rfl (d_load_place rfl (mem_at 0 rfl) ty29 (fun v247 => ?_))
              refine tl_gg [] (gd_on rfl rfl rfl hb223) (g_call1 rfl hfn15 (FnX.flat (fun _ _ _ _ _ h => Flat.val Flat.bool h) (cofferlaw18_in_ok _ _ _ _ _ _ hc230).weak) (Evs.cons rfl (Evs.cons rfl Evs.nil)) (fun a w hs => bor_one hs 0 rfl (fun hs1 => bor_end hs1 ⟨(hv_fact (mem_at 0 rfl)) _ _ _ _ hs1, (hv_fact (mem_at 1 rfl)) _ _ _ _ hs1⟩)) (fun v249 => ?_))
              refine tl_bool (mem_at 0 rfl) (fun hv251 => ?_)
              subst hv251
              refine tl_dg (gd_on rfl rfl rfl hb223) rfl (d_not rfl ?_)
              refine tl_d rfl (d_pick_true rfl hb223 rfl ?_)
              refine tl_nil ?_
              have hr := Option.some.inj hf; subst hr
              exact q_cut (!c229) rfl ⟨rfl, ⟨rfl, ⟨rfl, ⟨rfl, ⟨rfl, ⟨rfl, trivial⟩⟩⟩⟩⟩⟩ ⟨mem_at 6 rfl, ⟨mem_at 7 rfl, trivial⟩⟩ [0, 1] (Sel.cons rfl (Sel.cons rfl Sel.nil)) rfl
            · have hf := if_f hb223 hf
              refine t_region ?_
              refine tl_d rfl (d_move rfl ?_)
              refine tl_d rfl (d_move rfl ?_)
              refine tl_d rfl (d_move rfl ?_)
              refine tl_d rfl (d_index_sl rfl (mem_at 1 rfl) rfl Try.underlying23 ty29 hn212 (fun p252 => ?_))
              refine tl_d rfl (d_load_place rfl (mem_at 0 rfl) ty29 (fun v254 => ?_))
              refine tl_g [] rfl (g_call1 rfl hfn16 (cofferref17_Find_ok _ _ _ _ _ _ hc218).weak (Evs.cons rfl (Evs.cons rfl Evs.nil)) (fun a w hs => ⟨(hv_fact (mem_at 2 rfl)) _ _ _ _ hs, (hv_fact (mem_at 0 rfl)) _ _ _ _ hs⟩) (fun v256 => ?_))
              refine tl_int (mem_at 0 rfl) (fun hv259 hw258 => ?_)
              subst hv259
              refine tl_d rfl (d_geq rfl rfl ?_)
              refine tl_d rfl (d_move rfl ?_)
              refine tl_off (gd_off rfl rfl rfl hb223) rfl rfl ?_
              refine tl_off (gd_off rfl rfl rfl hb223) rfl rfl ?_
              refine tl_off (gd_off rfl rfl rfl hb223) rfl rfl ?_
              refine tl_off (gd_off rfl rfl rfl hb223) rfl rfl ?_
              refine tl_off (gd_off rfl rfl rfl hb223) rfl rfl ?_
              refine tl_off (gd_off rfl rfl rfl hb223) rfl rfl ?_
              refine tl_off (gd_off rfl rfl rfl hb223) rfl rfl ?_
              refine tl_d rfl (d_pick_false rfl hb223 rfl ?_)
              refine tl_nil ?_
              have hr := Option.some.inj hf; subst hr
              exact q_cut false rfl ⟨rfl, ⟨rfl, ⟨rfl, ⟨rfl, ⟨rfl, ⟨rfl, trivial⟩⟩⟩⟩⟩⟩ ⟨mem_at 3 rfl, ⟨mem_at 4 rfl, trivial⟩⟩ [0, 1] (Sel.cons rfl (Sel.cons rfl Sel.nil)) rfl
          rintro s234 rfl
          refine q_then_code ?_
          refine t_cond rfl (fun hb260 => ?_) (fun hb260 => ?_)
          · have hf := if_t hb260 hf
            refine t_seq ?_
            refine t_region ?_
            refine tl_d rfl (d_assign rfl ?_)
            refine tl_nil ?_
            refine q_then_code ?_
            refine t_ret ?_
            refine q_block_ret ?_
            refine q_then_ret ?_
            refine q_then_ret ?_
            have hr := Option.some.inj hf; try subst hr
            have hf := hout205
            refine q_block_ret ?_
            refine q_then_ret ?_
            have hr := Option.some.inj hf; subst hr
            refine q_ret (post := fun w w' m v => rBool.val w' m v false) hR _ (.inl rfl) (fun a w hs => ?_)
            exact ⟨_, run_results rfl (RvOk.cons (rv_tmp hs rfl) RvOk.nil), (hs.hv hv_bool)⟩
          · have hf := if_f hb260 hf
            refine t_skip ?_
            refine q_block_normal ?_
            refine q_then_code ?_
            refine t_region ?_
            refine tl_d rfl (d_move rfl ?_)
            refine tl_d rfl (d_add rfl rfl ?_)
            refine tl_d rfl (d_assign rfl ?_)
            refine tl_nil ?_
            exact q_round kq206 (IntKind.i64.wrap (s204 + (1 : Int))) (Nat.lt_succ_self kq206) (wrap_wrap _ _) hf ⟨rfl, ⟨rfl, ⟨rfl, ⟨rfl, ⟨rfl, trivial⟩⟩⟩⟩⟩ ⟨mem_at 0 rfl, ⟨mem_at 1 rfl, trivial⟩⟩ [0, 1] (Sel.cons rfl (Sel.cons rfl Sel.nil)) rfl
        · have hf := if_f hb211 hf
          refine t_exit ?_
          refine q_then_exit ?_
          refine q_then_exit ?_
          have hr := Option.some.inj hf; try subst hr
          have hf := hout205
          try dsimp only at hf
          refine q_block_hit ?_
          refine q_then_code ?_
          refine t_seq ?_
          obtain ⟨o267, ho268, hf⟩ := bind_some hf
          refine t_cut (X := Bool) (fun x => match x with | s266 => (([(6, .bool s266)], [], []) : Sym)) (fun x => match x with | s266 => s266 = o267) ?_ ?_
          · have hf := ho268; clear ho268
            rcases bool_tf (decide (((c35).length : Int) ≤ ((a0).length : Int))) with hb263 | hb263
            · have hf := if_t hb263 hf
              refine t_region ?_
              refine tl_d rfl (d_move rfl ?_)
              refine tl_d rfl (d_len_buf 0 rfl rfl Try.underlying23 (fun hl269 _ => ?_))
              refine tl_d rfl (d_move rfl ?_)
              refine tl_d rfl (d_len_sl rfl (mem_at 0 rfl) Try.underlying22 (fun hl270 _ => ?_))
              refine tl_d rfl (d_leq rfl rfl ?_)
              refine tl_d rfl (d_move rfl ?_)
              refine tl_dg (gd_on rfl rfl rfl hb263) rfl (d_move rfl ?_)
              refine tl_dg (gd_on rfl rfl rfl hb263) rfl (d_len_buf 1 rfl rfl Try.underlying23 (fun hl271 _ => ?_))
              refine tl_dg (gd_on rfl rfl rfl hb263) rfl (d_move rfl ?_)
              refine tl_dg (gd_on rfl rfl rfl hb263) rfl (d_len_sl rfl (mem_at 0 rfl) Try.underlying22 (fun hl272 _ => ?_))
              refine tl_dg (gd_on rfl rfl rfl hb263) rfl (d_leq rfl rfl ?_)
              refine tl_d rfl (d_pick_true rfl hb263 rfl ?_)
              refine tl_d rfl (d_assign rfl ?_)
              refine tl_nil ?_
              have hr := Option.some.inj hf; subst hr
              exact q_cut (decide (((c39).length : Int) ≤ ((a0).length : Int))) rfl ⟨rfl, trivial⟩ trivial [] (Sel.nil) rfl
            · have hf := if_f hb263 hf
              refine t_region ?_
              refine tl_d rfl (d_move rfl ?_)
              refine tl_d rfl (d_len_buf 0 rfl rfl Try.underlying23 (fun hl273 _ => ?_))
              refine tl_d rfl (d_move rfl ?_)
              refine tl_d rfl (d_len_sl rfl (mem_at 0 rfl) Try.underlying22 (fun hl274 _ => ?_))
              refine tl_d rfl (d_leq rfl rfl ?_)
              refine tl_d rfl (d_move rfl ?_)
              refine tl_off (gd_off rfl rfl rfl hb263) rfl rfl ?_
              refine tl_off (gd_off rfl rfl rfl hb263) rfl rfl ?_
              refine tl_off (gd_off rfl rfl rfl hb263) rfl rfl ?_
              refine tl_off (gd_off rfl rfl rfl hb263) rfl rfl ?_
              refine tl_off (gd_off rfl rfl rfl hb263) rfl rfl ?_
              refine tl_d rfl (d_pick_false rfl hb263 rfl ?_)
              refine tl_d rfl (d_assign rfl ?_)
              refine tl_nil ?_
              have hr := Option.some.inj hf; subst hr
              exact q_cut false rfl ⟨rfl, trivial⟩ trivial [] (Sel.nil) rfl
          rintro s266 rfl
          refine q_then_code ?_
          refine t_ret ?_
          have hr := Option.some.inj hf; subst hr
          refine q_ret (post := fun w w' m v => rBool.val w' m v s266) hR _ (.inl rfl) (fun a w hs => ?_)
          exact ⟨_, run_results rfl (RvOk.cons (rv_tmp hs rfl) RvOk.nil), (hs.hv hv_bool)⟩

def cofferlaw18_ReachAgain.l0 (a0 : (List Api_Object)) (c28 : (List (List Int))) : Nat → (List Api_Object) → Int → Option ((List Api_Object))
  | 0, _, _ => none
  | k + 1, s34, s36 => (if (decide (s36 < ((a0).length : Int))) = true then ((need (0 ≤ s36 ∧ s36 < ((a0).length : Int)) ((cofferlaw18_in.f k c28 (((a0).getD (s36).toNat rApi_Object.zeroD)).Of).bind fun c55 => ((if c55 = true then (need (0 ≤ s36 ∧ s36 < ((a0).length : Int)) (need (fits 56 ((s34).length + ([((a0).getD (s36).toNat rApi_Object.zeroD)]).length)) ((some (s34 ++ [((a0).getD (s36).toNat rApi_Object.zeroD)]))))) else (some s34))).bind fun s69 => (some s69)))).bind fun s44 => (cofferlaw18_ReachAgain.l0 a0 c28 k s44 (IntKind.i64.wrap (s36 + (1 : Int)))) else (some (s34)))
def cofferlaw18_ReachAgain.f (k : Nat) (a0 : (List Api_Object)) (a1 : (List (List Int))) : Option (Bool) := ((cofferlaw18_begun.f k ).bind fun c1 => (if (!c1) = true then (some false) else (((cofferlaw17_Light.f k a0 (40 : Int)).bind fun c10 => (if (!c10) = true then (some true) else (some (decide ((40 : Int) < ((a1).length : Int))))))).bind fun s17 => (if s17 = true then (some true) else ((reach_Mark.f k a0 a1).bind fun c28 => (cofferlaw18_ReachAgain.l0 a0 c28 k ([] : List Api_Object) (0 : Int)).bind fun o144 => (match o144 with | s34 => (((reach_Mark.f k a0 c28).bind fun c88 => (cofferref17_AlikeIDs.f k c88 c28).bind fun c92 => (if c92 = true then ((reach_Mark.f k s34 a1).bind fun c98 => (cofferref17_AlikeIDs.f k c98 c28).bind fun c102 => (if c102 = true then ((reach_Lost.f k s34 a1).bind fun c108 => (some (decide (((c108).length : Int) = (0 : Int))))) else (some false))) else (some false)))).bind fun s113 => (some s113))))))
set_option maxRecDepth 100000 in
set_option maxHeartbeats 3020000 in
theorem cofferlaw18_ReachAgain_ok (k : Nat) (a0 : (List Api_Object)) (a1 : (List (List Int))) (u0 u1 : Value) (r : Bool) (hf : cofferlaw18_ReachAgain.f k a0 a1 = some r) : Cf.FnX false Try.prog 5 [u0, u1] (fun w m => (rSl 56 rApi_Object).val w m u0 a0 ∧ (rSl 32 (rArr 32 (rInt .u8))).val w m u1 a1) (fun w w' m v => rBool.val w' m v r) := by
  unfold cofferlaw18_ReachAgain.f at hf
  refine fn_of Try.func5 rfl (Nat.le_of_ble_eq_true rfl) [(rSl 56 rApi_Object).fact u0 a0, (rSl 32 (rArr 32 (rInt .u8))).fact u1 a1] (fun w m h f hf => ?_) ?_
  · simp at hf; rcases hf with rfl | rfl
    · exact h.1
    · exact h.2
  intro w0 m0 R hR
  refine t_seq ?_
  refine t_region ?_
  refine tl_d rfl (d_assign rfl ?_)
  refine tl_nil ?_
  refine q_then_code ?_
  refine t_seq ?_
  refine t_seq ?_
  obtain ⟨c1, hc2, hf⟩ := bind_some hf
  refine t_region ?_
  refine tl_g [] rfl (g_call1 rfl hfn8 (cofferlaw18_begun_ok _ _ hc2) Evs.nil (fun a w hs => trivial) (fun v6 => ?_))
  refine tl_bool (mem_at 0 rfl) (fun hv8 => ?_)
  subst hv8
  refine tl_d rfl (d_not rfl ?_)
  refine tl_nil ?_
  refine q_then_code ?_
  refine t_cond rfl (fun hb9 => ?_) (fun hb9 => ?_)
  · have hf := if_t hb9 hf
    refine t_seq ?_
    refine t_region ?_
    refine tl_d rfl (d_assign rfl ?_)
    refine tl_nil ?_
    refine q_then_code ?_
    refine t_ret ?_
    refine q_then_ret ?_
    have hr := Option.some.inj hf; subst hr
    refine q_ret (post := fun w w' m v => rBool.val w' m v false) hR _ (.inl rfl) (fun a w hs => ?_)
    exact ⟨_, run_results rfl (RvOk.cons (rv_tmp hs rfl) RvOk.nil), (hs.hv hv_bool)⟩
  · have hf := if_f hb9 hf
    refine t_skip ?_
    refine q_then_code ?_
    refine t_seq ?_
    refine t_seq ?_
    obtain ⟨o18, ho19, hf⟩ := bind_some hf
    refine t_cut (X := Bool) (fun x => match x with | s17 => (([(0, u0), (1, u1), (17, .bool s17)], [(rSl 56 rApi_Object).fact u0 a0, (rSl 32 (rArr 32 (rInt .u8))).fact u1 a1], []) : Sym)) (fun x => match x with | s17 => s17 = o18) ?_ ?_
    · have hf := ho19; clear ho19
      obtain ⟨c10, hc11, hf⟩ := bind_some hf
      rcases bool_tf (!c10) with hb15 | hb15
      · have hf := if_t hb15 hf
        refine t_region ?_
        refine tl_d rfl (d_move rfl ?_)
        refine tl_g [] rfl (g_call1 rfl hfn9 (cofferlaw17_Light_ok _ _ _ _ _ hc11).weak (Evs.cons rfl (Evs.cons rfl Evs.nil)) (fun a w hs => ⟨(hv_fact (mem_at 1 rfl)) _ _ _ _ hs, (hv_int rfl) _ _ _ _ hs⟩) (fun v20 => ?_))
        refine tl_bool (mem_at 0 rfl) (fun hv22 => ?_)
        subst hv22
        refine tl_d rfl (d_not rfl ?_)
        refine tl_d rfl (d_move rfl ?_)
        refine tl_off (gd_off rfl rfl rfl hb15) rfl rfl ?_
        refine tl_off (gd_off rfl rfl rfl hb15) rfl rfl ?_
        refine tl_off (gd_off rfl rfl rfl hb15) rfl rfl ?_
        refine tl_d rfl (d_pick_true rfl hb15 rfl ?_)
        refine tl_nil ?_
        have hr := Option.some.inj hf; subst hr
        exact q_cut true rfl ⟨rfl, ⟨rfl, ⟨rfl, trivial⟩⟩⟩ ⟨mem_at 2 rfl, ⟨mem_at 3 rfl, trivial⟩⟩ [] (Sel.nil) rfl
      · have hf := if_f hb15 hf
        refine t_region ?_
        refine tl_d rfl (d_move rfl ?_)
        refine tl_g [] rfl (g_call1 rfl hfn9 (cofferlaw17_Light_ok _ _ _ _ _ hc11).weak (Evs.cons rfl (Evs.cons rfl Evs.nil)) (fun a w hs => ⟨(hv_fact (mem_at 1 rfl)) _ _ _ _ hs, (hv_int rfl) _ _ _ _ hs⟩) (fun v23 => ?_))
        refine tl_bool (mem_at 0 rfl) (fun hv25 => ?_)
        subst hv25
        refine tl_d rfl (d_not rfl ?_)
        refine tl_d rfl (d_move rfl ?_)
        refine tl_dg (gd_on rfl rfl rfl hb15) rfl (d_move rfl ?_)
        refine tl_dg (gd_on rfl rfl rfl hb15) rfl (d_len_sl rfl (mem_at 3 rfl) Try.underlying23 (fun hl26 _ => ?_))
        refine tl_dg (gd_on rfl rfl rfl hb15) rfl (d_gtr rfl rfl ?_)
        refine tl_d rfl (d_pick_false rfl hb15 rfl ?_)
        refine tl_nil ?_
        have hr := Option.some.inj hf; subst hr
        exact q_cut (decide ((40 : Int) < ((a1).length : Int))) rfl ⟨rfl, ⟨rfl, ⟨rfl, trivial⟩⟩⟩ ⟨mem_at 2 rfl, ⟨mem_at 3 rfl, trivial⟩⟩ [] (Sel.nil) rfl
    rintro s17 rfl
    refine q_then_code ?_
    refine t_cond rfl (fun hb27 => ?_) (fun hb27 => ?_)
    · have hf := if_t hb27 hf
      refine t_seq ?_
      refine t_region ?_
      refine tl_d rfl (d_assign rfl ?_)
      refine tl_nil ?_
      refine q_then_code ?_
      refine t_ret ?_
      refine q_then_ret ?_
      have hr := Option.some.inj hf; subst hr
      refine q_ret (post := fun w w' m v => rBool.val w' m v true) hR _ (.inl rfl) (fun a w hs => ?_)
      exact ⟨_, run_results rfl (RvOk.cons (rv_tmp hs rfl) RvOk.nil), (hs.hv hv_bool)⟩
    · have hf := if_f hb27 hf
      refine t_skip ?_
      refine q_then_code ?_
      refine t_seq ?_
      obtain ⟨c28, hc29, hf⟩ := bind_some hf
      refine t_region ?_
      refine tl_d rfl (d_move rfl ?_)
      refine tl_d rfl (d_move rfl ?_)
      refine tl_g [] rfl (g_callo rfl hfn10 (reach_Mark_ok _ _ _ _ _ _ hc29) (Evs.cons rfl (Evs.cons rfl Evs.nil)) (fun a w hs => ⟨(hv_fact (mem_at 0 rfl)) _ _ _ _ hs, (hv_fact (mem_at 1 rfl)) _ _ _ _ hs⟩) (fun v32 => ?_))
      refine tl_d rfl (d_assign rfl ?_)
      refine tl_nil ?_
      refine q_then_code ?_
      refine t_seq ?_
      refine t_region ?_
      refine tl_d rfl (d_assign rfl ?_)
      refine tl_nil ?_
      refine q_then_code ?_
      refine t_seq ?_
      refine t_seq ?_
      refine t_region ?_
      refine tl_d rfl (d_assign rfl ?_)
      refine tl_nil ?_
      refine q_then_code ?_
      refine t_block ?_
      refine t_nilbuf 56 rApi_Object ?_
      obtain ⟨o144, ho145, hf⟩ := bind_some hf
      refine t_loop (X := (List Api_Object) × Int × Value) (O := (List Api_Object)) (fun k x => match x with | (s34, s36, z35) => cofferlaw18_ReachAgain.l0 a0 c28 k s34 s36) o144 (fun x => match x with | (s34, s36, z35) => (([(0, u0), (1, u1), (5, v32), (6, z35), (7, .int .i64 s36)], [(rSl 56 rApi_Object).fact u0 a0, (rSl 32 (rArr 32 (rInt .u8))).fact u1 a1], [Own.buf v32 32 (rArr 32 (rInt .u8)) c28, Own.buf z35 56 rApi_Object s34]) : Sym)) (fun x => match x with | (s34, s36, z35) => IntKind.i64.wrap s36 = s36) k (([] : List Api_Object), (0 : Int), (.slice none 0 0)) ho145 rfl ⟨rfl, ⟨rfl, ⟨rfl, ⟨rfl, ⟨rfl, trivial⟩⟩⟩⟩⟩ ⟨mem_at 0 rfl, ⟨mem_at 1 rfl, trivial⟩⟩ [0, 1] (Sel.cons rfl (Sel.cons rfl Sel.nil)) rfl ?_
      clear ho145
      rintro k40 ⟨s34, s36, z35⟩ hw_s36 hk39
      have hout37 := hf; clear hf
      obtain ⟨kq38, rfl⟩ : ∃ q, k40 = q + 1 := by cases k40 with | zero => cases hk39 | succ q => exact ⟨q, rfl⟩
      have hf := hk39
      clear hk39; dsimp only [cofferlaw18_ReachAgain.l0] at hf
      refine t_seq ?_
      refine t_seq ?_
      refine t_region ?_
      refine tl_d rfl (d_move rfl ?_)
      refine tl_d rfl (d_move rfl ?_)
      refine tl_d rfl (d_len_sl rfl (mem_at 0 rfl) Try.underlying22 (fun hl42 _ => ?_))
      refine tl_d rfl (d_lss rfl rfl ?_)
      refine tl_nil ?_
      refine q_then_code ?_
      refine t_cond rfl (fun hb43 => ?_) (fun hb43 => ?_)
      · have hf := if_t hb43 hf
        refine t_skip ?_
        refine q_then_code ?_
        refine t_seq ?_
        obtain ⟨o46, ho47, hf⟩ := bind_some hf
        refine t_cut (X := (List Api_Object) × Value) (fun x => match x with | (s44, z45) => (([(0, u0), (1, u1), (5, v32), (6, z45), (7, (.int .i64 s36))], [(rSl 56 rApi_Object).fact u0 a0, (rSl 32 (rArr 32 (rInt .u8))).fact u1 a1], [Own.buf v32 32 (rArr 32 (rInt .u8)) c28, Own.buf z45 56 rApi_Object s44]) : Sym)) (fun x => match x with | (s44, z45) => s44 = o46) ?_ ?_
        · have hf := ho47
          clear ho47
          refine t_block ?_
          refine t_seq ?_
          obtain ⟨hn48, hf⟩ := need_some hf
          obtain ⟨c55, hc56, hf⟩ := bind_some hf
          refine t_region ?_
          refine tl_d rfl (d_move rfl ?_)
          refine tl_d rfl (d_move rfl ?_)
          refine tl_d rfl (d_move rfl ?_)
          refine tl_d rfl (d_index_sl rfl (mem_at 0 rfl) rfl Try.underlying22 ty34 hn48 (fun p60 => ?_))
          refine tl_d rfl (d_field_place rfl (mem_at 0 rfl) fo34_0 fl_Api_Object_Of trivial (fun p62 => ?_))
          refine tl_d rfl (d_load_place rfl (mem_at 0 rfl) ty29 (fun v64 => ?_))
          refine tl_g [] rfl (g_call1 rfl hfn15 (FnX.flat (fun _ _ _ _ _ h => Flat.val Flat.bool h) (cofferlaw18_in_ok _ _ _ _ _ _ hc56).weak) (Evs.cons rfl (Evs.cons rfl Evs.nil)) (fun a w hs => bor_one hs 0 rfl (fun hs1 => bor_end hs1 ⟨(hv_fact (mem_at 0 rfl)) _ _ _ _ hs1, (hv_fact (mem_at 1 rfl)) _ _ _ _ hs1⟩)) (fun v66 => ?_))
          refine tl_bool (mem_at 0 rfl) (fun hv68 => ?_)
          subst hv68
          refine tl_nil ?_
          refine q_then_code ?_
          obtain ⟨o71, ho72, hf⟩ := bind_some hf
          refine t_cut (X := (List Api_Object) × Value) (fun x => match x with | (s69, z70) => (([(0, u0), (1, u1), (5, v32), (6, z70), (7, (.int .i64 s36))], [(rSl 56 rApi_Object).fact u0 a0, (rSl 32 (rArr 32 (rInt .u8))).fact u1 a1], [Own.buf v32 32 (rArr 32 (rInt .u8)) c28, Own.buf z70 56 rApi_Object s69]) : Sym)) (fun x => match x with | (s69, z70) => s69 = o71) ?_ ?_
          · have hf := ho72
            clear ho72
            refine t_cond rfl (fun hb73 => ?_) (fun hb73 => ?_)
            · have hf := if_t hb73 hf
              obtain ⟨hn74, hf⟩ := need_some hf
              obtain ⟨hn80, hf⟩ := need_some hf
              refine t_region ?_
              refine tl_d rfl (d_move rfl ?_)
              refine tl_d rfl (d_move rfl ?_)
              refine tl_d rfl (d_move rfl ?_)
              refine tl_d rfl (d_index_sl rfl (mem_at 4 rfl) rfl Try.underlying22 ty34 hn74 (fun p82 => ?_))
              refine tl_d rfl (d_load_place rfl (mem_at 0 rfl) ty34 (fun v84 => ?_))
              refine tl_g [] rfl (g_buildSlice (R := rApi_Object) (l := [((a0).getD (s36).toNat rApi_Object.zeroD)]) rfl Try.underlying22 ty34 ⟨rfl, by decide, by decide, by decide⟩ (PartsOk.cons rfl rfl (hv_fact (mem_at 0 rfl)) PartsOk.nil) rfl (fun v86 => ?_))
              refine tl_g _ rfl (g_append_buf 1 2 rfl rfl rfl rfl rfl rfl Try.underlying22 ⟨_, Try.underlying22, fun k h => by cases h⟩ ty34 hn80 (List.mem_singleton_self _) (fun v87 => ?_))
              refine tl_d rfl (d_assign rfl ?_)
              refine tl_nil ?_
              have hr := Option.some.inj hf; subst hr
              exact q_cut ((s34 ++ [((a0).getD (s36).toNat rApi_Object.zeroD)]), v87) rfl ⟨rfl, ⟨rfl, ⟨rfl, ⟨rfl, ⟨rfl, trivial⟩⟩⟩⟩⟩ ⟨mem_at 6 rfl, ⟨mem_at 7 rfl, trivial⟩⟩ [0, 1] (Sel.cons rfl (Sel.cons rfl Sel.nil)) rfl
            · have hf := if_f hb73 hf
              refine t_skip ?_
              have hr := Option.some.inj hf; subst hr
              exact q_cut (s34, z35) rfl ⟨rfl, ⟨rfl, ⟨rfl, ⟨rfl, ⟨rfl, trivial⟩⟩⟩⟩⟩ ⟨mem_at 4 rfl, ⟨mem_at 5 rfl, trivial⟩⟩ [0, 1] (Sel.cons rfl (Sel.cons rfl Sel.nil)) rfl
          rintro ⟨s69, z70⟩ rfl
          refine q_block_normal ?_
          have hr := Option.some.inj hf; subst hr
          exact q_cut (s69, z70) rfl ⟨rfl, ⟨rfl, ⟨rfl, ⟨rfl, ⟨rfl, trivial⟩⟩⟩⟩⟩ ⟨mem_at 0 rfl, ⟨mem_at 1 rfl, trivial⟩⟩ [0, 1] (Sel.cons rfl (Sel.cons rfl Sel.nil)) rfl
        rintro ⟨s44, z45⟩ rfl
        refine q_then_code ?_
        refine t_region ?_
        refine tl_d rfl (d_move rfl ?_)
        refine tl_d rfl (d_add rfl rfl ?_)
        refine tl_d rfl (d_assign rfl ?_)
        refine tl_nil ?_
        exact q_round kq38 (s44, (IntKind.i64.wrap (s36 + (1 : Int))), z45) (Nat.lt_succ_self kq38) (wrap_wrap _ _) hf ⟨rfl, ⟨rfl, ⟨rfl, ⟨rfl, ⟨rfl, trivial⟩⟩⟩⟩⟩ ⟨mem_at 0 rfl, ⟨mem_at 1 rfl, trivial⟩⟩ [0, 1] (Sel.cons rfl (Sel.cons rfl Sel.nil)) rfl
      · have hf := if_f hb43 hf
        refine t_exit ?_
        refine q_then_exit ?_
        refine q_then_exit ?_
        have hr := Option.some.inj hf; try subst hr
        have hf := hout37
        try dsimp only at hf
        refine q_block_hit ?_
        refine q_then_code ?_
        refine t_seq ?_
        obtain ⟨o114, ho115, hf⟩ := bind_some hf
        refine t_cut (X := Bool) (fun x => match x with | s113 => (([(4, .bool s113)], [], []) : Sym)) (fun x => match x with | s113 => s113 = o114) ?_ ?_
        · have hf := ho115; clear ho115
          obtain ⟨c88, hc89, hf⟩ := bind_some hf
          obtain ⟨c92, hc93, hf⟩ := bind_some hf
          rcases bool_tf c92 with hb97 | hb97
          · have hf := if_t hb97 hf
            obtain ⟨c98, hc99, hf⟩ := bind_some hf
            obtain ⟨c102, hc103, hf⟩ := bind_some hf
            rcases bool_tf c102 with hb107 | hb107
            · have hf := if_t hb107 hf
              obtain ⟨c108, hc109, hf⟩ := bind_some hf
              refine t_region ?_
              refine tl_d rfl (d_move rfl ?_)
              refine tl_d rfl (d_move rfl ?_)
              refine tl_g [] rfl (g_callo rfl hfn10 (FnX.flat (fun _ _ _ _ _ h => Flat.own (Flat.arr Flat.int) h) (reach_Mark_ok _ _ _ _ _ _ hc89)) (Evs.cons rfl (Evs.cons rfl Evs.nil)) (fun a w hs => bor_one hs 0 rfl (fun hs1 => bor_end hs1 ⟨(hv_fact (mem_at 1 rfl)) _ _ _ _ hs1, (hv_fact (mem_at 0 rfl)) _ _ _ _ hs1⟩)) (fun v116 => ?_))
              refine tl_d rfl (d_move rfl ?_)
              refine tl_g [] rfl (g_call1 rfl hfn12 (FnX.flat (fun _ _ _ _ _ h => Flat.val Flat.bool h) (cofferref17_AlikeIDs_ok _ _ _ _ _ _ hc93).weak) (Evs.cons rfl (Evs.cons rfl Evs.nil)) (fun a w hs => bor_one hs 2 rfl (fun hs1 => bor_one hs1 0 rfl (fun hs2 => bor_end hs2 ⟨(hv_fact (mem_at 1 rfl)) _ _ _ _ hs2, (hv_fact (mem_at 0 rfl)) _ _ _ _ hs2⟩))) (fun v118 => ?_))
              refine tl_bool (mem_at 0 rfl) (fun hv120 => ?_)
              subst hv120
              refine tl_d rfl (d_move rfl ?_)
              refine tl_dg (gd_on rfl rfl rfl hb97) rfl (d_move rfl ?_)
              refine tl_dg (gd_on rfl rfl rfl hb97) rfl (d_move rfl ?_)
              refine tl_gg [] (gd_on rfl rfl rfl hb97) (g_callo rfl hfn10 (FnX.flat (fun _ _ _ _ _ h => Flat.own (Flat.arr Flat.int) h) (reach_Mark_ok _ _ _ _ _ _ hc99)) (Evs.cons rfl (Evs.cons rfl Evs.nil)) (fun a w hs => bor_one hs 1 rfl (fun hs1 => bor_end hs1 ⟨(hv_fact (mem_at 0 rfl)) _ _ _ _ hs1, (hv_fact (mem_at 3 rfl)) _ _ _ _ hs1⟩)) (fun v121 => ?_))
              refine tl_dg (gd_on rfl rfl rfl hb97) rfl (d_move rfl ?_)
              refine tl_gg [] (gd_on rfl rfl rfl hb97) (g_call1 rfl hfn12 (FnX.flat (fun _ _ _ _ _ h => Flat.val Flat.bool h) (cofferref17_AlikeIDs_ok _ _ _ _ _ _ hc103).weak) (Evs.cons rfl (Evs.cons rfl Evs.nil)) (fun a w hs => bor_one hs 3 rfl (fun hs1 => bor_one hs1 0 rfl (fun hs2 => bor_end hs2 ⟨(hv_fact (mem_at 1 rfl)) _ _ _ _ hs2, (hv_fact (mem_at 0 rfl)) _ _ _ _ hs2⟩))) (fun v123 => ?_))
              refine tl_bool (mem_at 0 rfl) (fun hv125 => ?_)
              subst hv125
              refine tl_d rfl (d_pick_true rfl hb97 rfl ?_)
              refine tl_d rfl (d_move rfl ?_)
              refine tl_dg (gd_on rfl rfl rfl hb107) rfl (d_move rfl ?_)
              refine tl_dg (gd_on rfl rfl rfl hb107) rfl (d_move rfl ?_)
              refine tl_gg [] (gd_on rfl rfl rfl hb107) (g_callo rfl hfn11 (FnX.flat (fun _ _ _ _ _ h => Flat.own (Flat.arr Flat.int) h) (reach_Lost_ok _ _ _ _ _ _ hc109)) (Evs.cons rfl (Evs.cons rfl Evs.nil)) (fun a w hs => bor_one hs 1 rfl (fun hs1 => bor_end hs1 ⟨(hv_fact (mem_at 0 rfl)) _ _ _ _ hs1, (hv_fact (mem_at 4 rfl)) _ _ _ _ hs1⟩)) (fun v126 => ?_))
              refine tl_M [Own.buf v32 32 (rArr 32 (rInt .u8)) c28, Own.buf z35 56 rApi_Object s34, Own.buf v116 32 (rArr 32 (rInt .u8)) c88, Own.buf v121 32 (rArr 32 (rInt .u8)) c98, Own.buf v126 32 (rArr 32 (rInt .u8)) c108] rfl ?_
              refine tl_dg (gd_on rfl rfl rfl hb107) rfl (d_len_buf 4 rfl rfl Try.underlying23 (fun hl128 _ => ?_))
              refine tl_dg (gd_on rfl rfl rfl hb107) rfl (d_eql rfl rfl ?_)
              refine tl_d rfl (d_pick_true rfl hb107 rfl ?_)
              refine tl_d rfl (d_assign rfl ?_)
              refine tl_nil ?_
              have hr := Option.some.inj hf; subst hr
              exact q_cut (decide (((c108).length : Int) = (0 : Int))) rfl ⟨rfl, trivial⟩ trivial [] (Sel.nil) rfl
            · have hf := if_f hb107 hf
              refine t_region ?_
              refine tl_d rfl (d_move rfl ?_)
              refine tl_d rfl (d_move rfl ?_)
              refine tl_g [] rfl (g_callo rfl hfn10 (FnX.flat (fun _ _ _ _ _ h => Flat.own (Flat.arr Flat.int) h) (reach_Mark_ok _ _ _ _ _ _ hc89)) (Evs.cons rfl (Evs.cons rfl Evs.nil)) (fun a w hs => bor_one hs 0 rfl (fun hs1 => bor_end hs1 ⟨(hv_fact (mem_at 1 rfl)) _ _ _ _ hs1, (hv_fact (mem_at 0 rfl)) _ _ _ _ hs1⟩)) (fun v129 => ?_))
              refine tl_d rfl (d_move rfl ?_)
              refine tl_g [] rfl (g_call1 rfl hfn12 (FnX.flat (fun _ _ _ _ _ h => Flat.val Flat.bool h) (cofferref17_AlikeIDs_ok _ _ _ _ _ _ hc93).weak) (Evs.cons rfl (Evs.cons rfl Evs.nil)) (fun a w hs => bor_one hs 2 rfl (fun hs1 => bor_one hs1 0 rfl (fun hs2 => bor_end hs2 ⟨(hv_fact (mem_at 1 rfl)) _ _ _ _ hs2, (hv_fact (mem_at 0 rfl)) _ _ _ _ hs2⟩))) (fun v131 => ?_))
              refine tl_bool (mem_at 0 rfl) (fun hv133 => ?_)
              subst hv133
              refine tl_d rfl (d_move rfl ?_)
              refine tl_dg (gd_on rfl rfl rfl hb97) rfl (d_move rfl ?_)
              refine tl_dg (gd_on rfl rfl rfl hb97) rfl (d_move rfl ?_)
              refine tl_gg [] (gd_on rfl rfl rfl hb97) (g_callo rfl hfn10 (FnX.flat (fun _ _ _ _ _ h => Flat.own (Flat.arr Flat.int) h) (reach_Mark_ok _ _ _ _ _ _ hc99)) (Evs.cons rfl (Evs.cons rfl Evs.nil)) (fun a w hs => bor_one hs 1 rfl (fun hs1 => bor_end hs1 ⟨(hv_fact (mem_at 0 rfl)) _ _ _ _ hs1, (hv_fact (mem_at 3 rfl)) _ _ _ _ hs1⟩)) (fun v134 => ?_))
              refine tl_dg (gd_on rfl rfl rfl hb97) rfl (d_move rfl ?_)
              refine tl_gg [] (gd_on rfl rfl rfl hb97) (g_call1 rfl hfn12 (FnX.flat (fun _ _ _ _ _ h => Flat.val Flat.bool h) (cofferref17_AlikeIDs_ok _ _ _ _ _ _ hc103).weak) (Evs.cons rfl (Evs.cons rfl Evs.nil)) (fun a w hs => bor_one hs 3 rfl (fun hs1 => bor_one hs1 0 rfl (fun hs2 => bor_end hs2 ⟨(hv_fact (mem_at 1 rfl)) _ _ _ _ hs2, (hv_fact (mem_at 0 rfl)) _ _ _ _ hs2⟩))) (fun v136 => ?_))
              refine tl_bool (mem_at 0 rfl) (fun hv138 => ?_)
              subst hv138
              refine tl_d rfl (d_pick_true rfl hb97 rfl ?_)
              refine tl_d rfl (d_move rfl ?_)
              refine tl_off (gd_off rfl rfl rfl hb107) rfl rfl ?_
              refine tl_off (gd_off rfl rfl rfl hb107) rfl rfl ?_
              refine tl_off (gd_off rfl rfl rfl hb107) rfl rfl ?_
              refine tl_off (gd_off rfl rfl rfl hb107) rfl rfl ?_
              refine tl_off (gd_off rfl rfl rfl hb107) rfl rfl ?_
              refine tl_d rfl (d_pick_false rfl hb107 rfl ?_)
              refine tl_d rfl (d_assign rfl ?_)
              refine tl_nil ?_
              have hr := Option.some.inj hf; subst hr
              exact q_cut false rfl ⟨rfl, trivial⟩ trivial [] (Sel.nil) rfl
          · have hf := if_f hb97 hf
            refine t_region ?_
            refine tl_d rfl (d_move rfl ?_)
            refine tl_d rfl (d_move rfl ?_)
            refine tl_g [] rfl (g_callo rfl hfn10 (FnX.flat (fun _ _ _ _ _ h => Flat.own (Flat.arr Flat.int) h) (reach_Mark_ok _ _ _ _ _ _ hc89)) (Evs.cons rfl (Evs.cons rfl Evs.nil)) (fun a w hs => bor_one hs 0 rfl (fun hs1 => bor_end hs1 ⟨(hv_fact (mem_at 1 rfl)) _ _ _ _ hs1, (hv_fact (mem_at 0 rfl)) _ _ _ _ hs1⟩)) (fun v139 => ?_))
            refine tl_d rfl (d_move rfl ?_)
            refine tl_g [] rfl (g_call1 rfl hfn12 (FnX.flat (fun _ _ _ _ _ h => Flat.val Flat.bool h) (cofferref17_AlikeIDs_ok _ _ _ _ _ _ hc93).weak) (Evs.cons rfl (Evs.cons rfl Evs.nil)) (fun a w hs => bor_one hs 2 rfl (fun hs1 => bor_one hs1 0 rfl (fun hs2 => bor_end hs2 ⟨(hv_fact (mem_at 1 rfl)) _ _ _ _ hs2, (hv_fact (mem_at 0 rfl)) _ _ _ _ hs2⟩))) (fun v141 => ?_))
            refine tl_bool (mem_at 0 rfl) (fun hv143 => ?_)
            subst hv143
            refine tl_d rfl (d_move rfl ?_)
            refine tl_off (gd_off rfl rfl rfl hb97) rfl rfl ?_
            refine tl_off (gd_off rfl rfl rfl hb97) rfl rfl ?_
            refine tl_off (gd_off rfl rfl rfl hb97) rfl rfl ?_
            refine tl_off (gd_off rfl rfl rfl hb97) rfl rfl ?_
            refine tl_off (gd_off rfl rfl rfl hb97) rfl rfl ?_
            refine tl_d rfl (d_pick_false rfl hb97 rfl ?_)
            refine tl_d rfl (d_move rfl ?_)
            refine tl_off (gd_off rfl rfl rfl rfl) rfl rfl ?_
            refine tl_off (gd_off rfl rfl rfl rfl) rfl rfl ?_
            refine tl_off (gd_off rfl rfl rfl rfl) rfl rfl ?_
            refine tl_off (gd_off rfl rfl rfl rfl) rfl rfl ?_
            refine tl_off (gd_off rfl rfl rfl rfl) rfl rfl ?_
            refine tl_d rfl (d_pick_false rfl rfl rfl ?_)
            refine tl_d rfl (d_assign rfl ?_)
            refine tl_nil ?_
            have hr := Option.some.inj hf; subst hr
            exact q_cut false rfl ⟨rfl, trivial⟩ trivial [] (Sel.nil) rfl
        rintro s113 rfl
        refine q_then_code ?_
        refine t_ret ?_
        have hr := Option.some.inj hf; subst hr
        refine q_ret (post := fun w w' m v => rBool.val w' m v s113) hR _ (.inl rfl) (fun a w hs => ?_)
        exact ⟨_, run_results rfl (RvOk.cons (rv_tmp hs rfl) RvOk.nil), (hs.hv hv_bool)⟩

end Go.Proofs.Ytbcipfhhmkjigaa
