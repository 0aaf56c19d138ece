/- Functions of the program as plain Lean functions, each with the proof that the call comes to it. -/
import Derived.Test.YtbcipfhhmkjigaaPF1
set_option linter.unusedVariables false
open Go Go.Cf Go.Proofs
namespace Go.Proofs.Ytbcipfhhmkjigaa

def cofferlaw17_Light.l0 (a0 : (List Api_Object)) : Nat → Int → Option (Sum (Bool) (Unit))
  | 0, _ => none
  | k + 1, s4 => (if (decide (s4 < ((a0).length : Int))) = true then (need (0 ≤ s4 ∧ s4 < ((a0).length : Int)) ((if (decide ((5000 : Int) < (((((a0).getD (s4).toNat rApi_Object.zeroD)).Data).length : Int))) = true then (some (.inl false)) else (cofferlaw17_Light.l0 a0 k (IntKind.i64.wrap (s4 + (1 : Int))))))) else (some (.inr ())))
def cofferlaw17_Light.f (k : Nat) (a0 : (List Api_Object)) (a1 : Int) : Option (Bool) := (if (decide (a1 < ((a0).length : Int))) = true then (some false) else (cofferlaw17_Light.l0 a0 k (0 : Int)).bind fun o28 => (match o28 with | .inl r => some r | .inr _ => (some true)))
set_option maxRecDepth 100000 in
set_option maxHeartbeats 1230000 in
theorem cofferlaw17_Light_ok (k : Nat) (a0 : (List Api_Object)) (a1 : Int) (u0 : Value) (r : Bool) (hf : cofferlaw17_Light.f k a0 a1 = some r) : Cf.FnX true Try.prog 9 [u0, (.int .i64 a1)] (fun w m => (rSl 56 rApi_Object).val w m u0 a0 ∧ (rInt .i64).val w m (.int .i64 a1) a1) (fun w w' m v => rBool.val w' m v r) := by
  unfold cofferlaw17_Light.f at hf
  refine fn_of Try.func9 rfl (Nat.le_of_ble_eq_true rfl) [(rSl 56 rApi_Object).fact u0 a0, (rInt .i64).fact (.int .i64 a1) a1] (fun w m h f hf => ?_) ?_
  · simp at hf; rcases hf with rfl | rfl
    · exact h.1
    · exact h.2
  intro w0 m0 R hR
  refine t_int (mem_at 1 rfl) (fun _ hw1 => ?_)
  refine t_seq ?_
  refine t_region ?_
  refine tl_d rfl (d_assign rfl ?_)
  refine tl_nil ?_
  refine q_then_code ?_
  refine t_seq ?_
  refine t_seq ?_
  refine t_region ?_
  refine tl_d rfl (d_move rfl ?_)
  refine tl_d rfl (d_len_sl rfl (mem_at 0 rfl) Try.underlying22 (fun hl2 _ => ?_))
  refine tl_d rfl (d_move rfl ?_)
  refine tl_d rfl (d_gtr rfl rfl ?_)
  refine tl_nil ?_
  refine q_then_code ?_
  refine t_cond rfl (fun hb3 => ?_) (fun hb3 => ?_)
  · have hf := if_t hb3 hf
    refine t_seq ?_
    refine t_region ?_
    refine tl_d rfl (d_assign rfl ?_)
    refine tl_nil ?_
    refine q_then_code ?_
    refine t_ret ?_
    refine q_then_ret ?_
    have hr := Option.some.inj hf; subst hr
    refine q_ret (post := fun w w' m v => rBool.val w' m v false) hR _ (.inl rfl) (fun a w hs => ?_)
    exact ⟨_, run_results rfl (RvOk.cons (rv_tmp hs rfl) RvOk.nil), (hs.hv hv_bool)⟩
  · have hf := if_f hb3 hf
    refine t_skip ?_
    refine q_then_code ?_
    refine t_seq ?_
    refine t_seq ?_
    refine t_region ?_
    refine tl_d rfl (d_assign rfl ?_)
    refine tl_nil ?_
    refine q_then_code ?_
    refine t_block ?_
    obtain ⟨o28, ho29, hf⟩ := bind_some hf
    refine t_loop (X := Int) (O := Sum (Bool) (Unit)) (fun k x => match x with | s4 => cofferlaw17_Light.l0 a0 k s4) o28 (fun x => match x with | s4 => (([(0, u0), (5, .int .i64 s4)], [(rSl 56 rApi_Object).fact u0 a0], []) : Sym)) (fun x => match x with | s4 => IntKind.i64.wrap s4 = s4) k (0 : Int) ho29 rfl ⟨rfl, ⟨rfl, trivial⟩⟩ ⟨mem_at 0 rfl, trivial⟩ [] (Sel.nil) rfl ?_
    clear ho29
    rintro k8 s4 hw_s4 hk7
    have hout5 := hf; clear hf
    obtain ⟨kq6, rfl⟩ : ∃ q, k8 = q + 1 := by cases k8 with | zero => cases hk7 | succ q => exact ⟨q, rfl⟩
    have hf := hk7
    clear hk7; dsimp only [cofferlaw17_Light.l0] at hf
    refine t_seq ?_
    refine t_seq ?_
    refine t_region ?_
    refine tl_d rfl (d_move rfl ?_)
    refine tl_d rfl (d_move rfl ?_)
    refine tl_d rfl (d_len_sl rfl (mem_at 0 rfl) Try.underlying22 (fun hl10 _ => ?_))
    refine tl_d rfl (d_lss rfl rfl ?_)
    refine tl_nil ?_
    refine q_then_code ?_
    refine t_cond rfl (fun hb11 => ?_) (fun hb11 => ?_)
    · have hf := if_t hb11 hf
      refine t_skip ?_
      refine q_then_code ?_
      refine t_seq ?_
      refine t_block ?_
      refine t_seq ?_
      obtain ⟨hn12, hf⟩ := need_some hf
      refine t_region ?_
      refine tl_d rfl (d_move rfl ?_)
      refine tl_d rfl (d_move rfl ?_)
      refine tl_d rfl (d_index_sl rfl (mem_at 0 rfl) rfl Try.underlying22 ty34 hn12 (fun p20 => ?_))
      refine tl_d rfl (d_field_place rfl (mem_at 0 rfl) fo34_1 fl_Api_Object_Data trivial (fun p22 => ?_))
      refine tl_d rfl (d_load_place rfl (mem_at 0 rfl) ty32 (fun v24 => ?_))
      refine tl_d rfl (d_len_sl rfl (mem_at 0 rfl) Try.underlying32 (fun hl26 _ => ?_))
      refine tl_d rfl (d_gtr rfl rfl ?_)
      refine tl_nil ?_
      refine q_then_code ?_
      refine t_cond rfl (fun hb27 => ?_) (fun hb27 => ?_)
      · have hf := if_t hb27 hf
        refine t_seq ?_
        refine t_region ?_
        refine tl_d rfl (d_assign rfl ?_)
        refine tl_nil ?_
        refine q_then_code ?_
        refine t_ret ?_
        refine q_block_ret ?_
        refine q_then_ret ?_
        refine q_then_ret ?_
        have hr := Option.some.inj hf; try subst hr
        have hf := hout5
        refine q_block_ret ?_
        refine q_then_ret ?_
        have hr := Option.some.inj hf; subst hr
        refine q_ret (post := fun w w' m v => rBool.val w' m v false) hR _ (.inl rfl) (fun a w hs => ?_)
        exact ⟨_, run_results rfl (RvOk.cons (rv_tmp hs rfl) RvOk.nil), (hs.hv hv_bool)⟩
      · have hf := if_f hb27 hf
        refine t_skip ?_
        refine q_block_normal ?_
        refine q_then_code ?_
        refine t_region ?_
        refine tl_d rfl (d_move rfl ?_)
        refine tl_d rfl (d_add rfl rfl ?_)
        refine tl_d rfl (d_assign rfl ?_)
        refine tl_nil ?_
        exact q_round kq6 (IntKind.i64.wrap (s4 + (1 : Int))) (Nat.lt_succ_self kq6) (wrap_wrap _ _) hf ⟨rfl, ⟨rfl, trivial⟩⟩ ⟨mem_at 3 rfl, trivial⟩ [] (Sel.nil) rfl
    · have hf := if_f hb11 hf
      refine t_exit ?_
      refine q_then_exit ?_
      refine q_then_exit ?_
      have hr := Option.some.inj hf; try subst hr
      have hf := hout5
      try dsimp only at hf
      refine q_block_hit ?_
      refine q_then_code ?_
      refine t_seq ?_
      refine t_region ?_
      refine tl_d rfl (d_assign rfl ?_)
      refine tl_nil ?_
      refine q_then_code ?_
      refine t_ret ?_
      have hr := Option.some.inj hf; subst hr
      refine q_ret (post := fun w w' m v => rBool.val w' m v true) hR _ (.inl rfl) (fun a w hs => ?_)
      exact ⟨_, run_results rfl (RvOk.cons (rv_tmp hs rfl) RvOk.nil), (hs.hv hv_bool)⟩

def cofferref17_AlikeIDs.l0 (a0 : (List (List Int))) (a1 : (List (List Int))) : Nat → Int → Option (Sum (Bool) (Unit))
  | 0, _ => none
  | k + 1, s6 => (if (decide (s6 < ((a0).length : Int))) = true then (need (0 ≤ s6 ∧ s6 < ((a0).length : Int)) (need (0 ≤ s6 ∧ s6 < ((a1).length : Int)) ((if (!decide (((a0).getD (s6).toNat (rArr 32 (rInt .u8)).zeroD) = ((a1).getD (s6).toNat (rArr 32 (rInt .u8)).zeroD))) = true then (some (.inl false)) else (cofferref17_AlikeIDs.l0 a0 a1 k (IntKind.i64.wrap (s6 + (1 : Int)))))))) else (some (.inr ())))
def cofferref17_AlikeIDs.f (k : Nat) (a0 : (List (List Int))) (a1 : (List (List Int))) : Option (Bool) := (if (!decide (((a0).length : Int) = ((a1).length : Int))) = true then (some false) else (cofferref17_AlikeIDs.l0 a0 a1 k (0 : Int)).bind fun o33 => (match o33 with | .inl r => some r | .inr _ => (some true)))
set_option maxRecDepth 100000 in
set_option maxHeartbeats 1260000 in
theorem cofferref17_AlikeIDs_ok (k : Nat) (a0 : (List (List Int))) (a1 : (List (List Int))) (u0 u1 : Value) (r : Bool) (hf : cofferref17_AlikeIDs.f k a0 a1 = some r) : Cf.FnX true Try.prog 12 [u0, u1] (fun w m => (rSl 32 (rArr 32 (rInt .u8))).val w m u0 a0 ∧ (rSl 32 (rArr 32 (rInt .u8))).val w m u1 a1) (fun w w' m v => rBool.val w' m v r) := by
  unfold cofferref17_AlikeIDs.f at hf
  refine fn_of Try.func12 rfl (Nat.le_of_ble_eq_true rfl) [(rSl 32 (rArr 32 (rInt .u8))).fact u0 a0, (rSl 32 (rArr 32 (rInt .u8))).fact u1 a1] (fun w m h f hf => ?_) ?_
  · simp at hf; rcases hf with rfl | rfl
    · exact h.1
    · exact h.2
  intro w0 m0 R hR
  refine t_seq ?_
  refine t_region ?_
  refine tl_d rfl (d_assign rfl ?_)
  refine tl_nil ?_
  refine q_then_code ?_
  refine t_seq ?_
  refine t_seq ?_
  refine t_region ?_
  refine tl_d rfl (d_move rfl ?_)
  refine tl_d rfl (d_len_sl rfl (mem_at 0 rfl) Try.underlying23 (fun hl3 _ => ?_))
  refine tl_d rfl (d_move rfl ?_)
  refine tl_d rfl (d_len_sl rfl (mem_at 1 rfl) Try.underlying23 (fun hl4 _ => ?_))
  refine tl_d rfl (d_neq rfl rfl ?_)
  refine tl_nil ?_
  refine q_then_code ?_
  refine t_cond rfl (fun hb5 => ?_) (fun hb5 => ?_)
  · have hf := if_t hb5 hf
    refine t_seq ?_
    refine t_region ?_
    refine tl_d rfl (d_assign rfl ?_)
    refine tl_nil ?_
    refine q_then_code ?_
    refine t_ret ?_
    refine q_then_ret ?_
    have hr := Option.some.inj hf; subst hr
    refine q_ret (post := fun w w' m v => rBool.val w' m v false) hR _ (.inl rfl) (fun a w hs => ?_)
    exact ⟨_, run_results rfl (RvOk.cons (rv_tmp hs rfl) RvOk.nil), (hs.hv hv_bool)⟩
  · have hf := if_f hb5 hf
    refine t_skip ?_
    refine q_then_code ?_
    refine t_seq ?_
    refine t_seq ?_
    refine t_region ?_
    refine tl_d rfl (d_assign rfl ?_)
    refine tl_nil ?_
    refine q_then_code ?_
    refine t_block ?_
    obtain ⟨o33, ho34, hf⟩ := bind_some hf
    refine t_loop (X := Int) (O := Sum (Bool) (Unit)) (fun k x => match x with | s6 => cofferref17_AlikeIDs.l0 a0 a1 k s6) o33 (fun x => match x with | s6 => (([(0, u0), (1, u1), (5, .int .i64 s6)], [(rSl 32 (rArr 32 (rInt .u8))).fact u0 a0, (rSl 32 (rArr 32 (rInt .u8))).fact u1 a1], []) : Sym)) (fun x => match x with | s6 => IntKind.i64.wrap s6 = s6) k (0 : Int) ho34 rfl ⟨rfl, ⟨rfl, ⟨rfl, trivial⟩⟩⟩ ⟨mem_at 0 rfl, ⟨mem_at 1 rfl, trivial⟩⟩ [] (Sel.nil) rfl ?_
    clear ho34
    rintro k10 s6 hw_s6 hk9
    have hout7 := hf; clear hf
    obtain ⟨kq8, rfl⟩ : ∃ q, k10 = q + 1 := by cases k10 with | zero => cases hk9 | succ q => exact ⟨q, rfl⟩
    have hf := hk9
    clear hk9; dsimp only [cofferref17_AlikeIDs.l0] at hf
    refine t_seq ?_
    refine t_seq ?_
    refine t_region ?_
    refine tl_d rfl (d_move rfl ?_)
    refine tl_d rfl (d_move rfl ?_)
    refine tl_d rfl (d_len_sl rfl (mem_at 0 rfl) Try.underlying23 (fun hl12 _ => ?_))
    refine tl_d rfl (d_lss rfl rfl ?_)
    refine tl_nil ?_
    refine q_then_code ?_
    refine t_cond rfl (fun hb13 => ?_) (fun hb13 => ?_)
    · have hf := if_t hb13 hf
      refine t_skip ?_
      refine q_then_code ?_
      refine t_seq ?_
      refine t_block ?_
      refine t_seq ?_
      obtain ⟨hn14, hf⟩ := need_some hf
      obtain ⟨hn19, hf⟩ := need_some hf
      refine t_any (n := 9) [] mixed ⟨by kernel_rfl, .inl rfl⟩ (np_then (np_block (np_then (np_then (np_block (np_then np_body)))))) ?_
      refine ta_take (i := 0) rfl (by kernel_rfl) gd_none (d_move rfl ?_)
      refine ta_take (i := 1) rfl (by kernel_rfl) gd_none (d_move rfl ?_)
      refine ta_take (i := 2) rfl (by kernel_rfl) gd_none (d_index_sl rfl (mem_at 0 rfl) rfl Try.underlying23 ty29 hn14 (fun p24 => ?_))
      refine ta_take (i := 3) rfl (by kernel_rfl) gd_none (d_load_place rfl (mem_at 0 rfl) ty29 (fun v26 => ?_))
      refine ta_take (i := 4) rfl (by kernel_rfl) gd_none (d_move rfl ?_)
      refine ta_take (i := 5) rfl (by kernel_rfl) gd_none (d_move rfl ?_)
      refine ta_take (i := 6) rfl (by kernel_rfl) gd_none (d_index_sl rfl (mem_at 3 rfl) rfl Try.underlying23 ty29 hn19 (fun p28 => ?_))
      refine ta_take (i := 7) rfl (by kernel_rfl) gd_none (d_load_place rfl (mem_at 0 rfl) ty29 (fun v30 => ?_))
      refine ta_take (i := 8) rfl (by kernel_rfl) gd_none (d_neq_agg rfl rfl (mem_at 2 rfl) (mem_at 0 rfl) rfl (EqAt.arr Try.underlying29 ty5 (EqAt.int Try.underlying5)) (by decide) (by kernel_rfl) ?_)
      refine ta_done (by kernel_rfl) ?_
      refine q_then_code ?_
      refine t_cond rfl (fun hb32 => ?_) (fun hb32 => ?_)
      · have hf := if_t hb32 hf
        refine t_seq ?_
        refine t_region ?_
        refine tl_d rfl (d_assign rfl ?_)
        refine tl_nil ?_
        refine q_then_code ?_
        refine t_ret ?_
        refine q_block_ret ?_
        refine q_then_ret ?_
        refine q_then_ret ?_
        have hr := Option.some.inj hf; try subst hr
        have hf := hout7
        refine q_block_ret ?_
        refine q_then_ret ?_
        have hr := Option.some.inj hf; subst hr
        refine q_ret (post := fun w w' m v => rBool.val w' m v false) hR _ (.inl rfl) (fun a w hs => ?_)
        exact ⟨_, run_results rfl (RvOk.cons (rv_tmp hs rfl) RvOk.nil), (hs.hv hv_bool)⟩
      · have hf := if_f hb32 hf
        refine t_skip ?_
        refine q_block_normal ?_
        refine q_then_code ?_
        refine t_region ?_
        refine tl_d rfl (d_move rfl ?_)
        refine tl_d rfl (d_add rfl rfl ?_)
        refine tl_d rfl (d_assign rfl ?_)
        refine tl_nil ?_
        exact q_round kq8 (IntKind.i64.wrap (s6 + (1 : Int))) (Nat.lt_succ_self kq8) (wrap_wrap _ _) hf ⟨rfl, ⟨rfl, ⟨rfl, trivial⟩⟩⟩ ⟨mem_at 4 rfl, ⟨mem_at 5 rfl, trivial⟩⟩ [] (Sel.nil) rfl
    · have hf := if_f hb13 hf
      refine t_exit ?_
      refine q_then_exit ?_
      refine q_then_exit ?_
      have hr := Option.some.inj hf; try subst hr
      have hf := hout7
      try dsimp only at hf
      refine q_block_hit ?_
      refine q_then_code ?_
      refine t_seq ?_
      refine t_region ?_
      refine tl_d rfl (d_assign rfl ?_)
      refine tl_nil ?_
      refine q_then_code ?_
      refine t_ret ?_
      have hr := Option.some.inj hf; subst hr
      refine q_ret (post := fun w w' m v => rBool.val w' m v true) hR _ (.inl rfl) (fun a w hs => ?_)
      exact ⟨_, run_results rfl (RvOk.cons (rv_tmp hs rfl) RvOk.nil), (hs.hv hv_bool)⟩

def cofferref17_Find.l0 (a0 : (List Api_Object)) (a1 : (List Int)) : Nat → Int → Option (Sum (Int) (Unit))
  | 0, _ => none
  | k + 1, s3 => (if (decide (s3 < ((a0).length : Int))) = true then (need (0 ≤ s3 ∧ s3 < ((a0).length : Int)) ((if (decide ((((a0).getD (s3).toNat rApi_Object.zeroD)).Of = a1)) = true then (some (.inl s3)) else (cofferref17_Find.l0 a0 a1 k (IntKind.i64.wrap (s3 + (1 : Int))))))) else (some (.inr ())))
def cofferref17_Find.f (k : Nat) (a0 : (List Api_Object)) (a1 : (List Int)) : Option (Int) := (cofferref17_Find.l0 a0 a1 k (0 : Int)).bind fun o29 => (match o29 with | .inl r => some r | .inr _ => (some (-1 : Int)))
set_option maxRecDepth 100000 in
set_option maxHeartbeats 1000000 in
theorem cofferref17_Find_ok (k : Nat) (a0 : (List Api_Object)) (a1 : (List Int)) (u0 u1 : Value) (r : Int) (hf : cofferref17_Find.f k a0 a1 = some r) : Cf.FnX true Try.prog 16 [u0, u1] (fun w m => (rSl 56 rApi_Object).val w m u0 a0 ∧ (rArr 32 (rInt .u8)).val w m u1 a1) (fun w w' m v => (rInt .i64).val w' m v r) := by
  unfold cofferref17_Find.f at hf
  refine fn_of Try.func16 rfl (Nat.le_of_ble_eq_true rfl) [(rSl 56 rApi_Object).fact u0 a0, (rArr 32 (rInt .u8)).fact u1 a1] (fun w m h f hf => ?_) ?_
  · simp at hf; rcases hf with rfl | rfl
    · exact h.1
    · exact h.2
  intro w0 m0 R hR
  refine t_seq ?_
  refine t_region ?_
  refine tl_g [] rfl (g_box (R := (rArr 32 (rInt .u8))) rfl rfl (hv_fact (mem_at 1 rfl)) (fun b2 => ?_))
  refine tl_d rfl (d_assign rfl ?_)
  refine tl_nil ?_
  refine q_then_code ?_
  refine t_seq ?_
  refine t_seq ?_
  refine t_region ?_
  refine tl_d rfl (d_assign rfl ?_)
  refine tl_nil ?_
  refine q_then_code ?_
  refine t_block ?_
  obtain ⟨o29, ho30, hf⟩ := bind_some hf
  refine t_loop (X := Int) (O := Sum (Int) (Unit)) (fun k x => match x with | s3 => cofferref17_Find.l0 a0 a1 k s3) o29 (fun x => match x with | s3 => (([(0, u0), (3, .pointer (some ⟨b2, 0, none⟩)), (5, .int .i64 s3)], [(rSl 56 rApi_Object).fact u0 a0], [Own.box b2 (rArr 32 (rInt .u8)) a1]) : Sym)) (fun x => match x with | s3 => IntKind.i64.wrap s3 = s3) k (0 : Int) ho30 rfl ⟨rfl, ⟨rfl, ⟨rfl, trivial⟩⟩⟩ ⟨mem_at 0 rfl, trivial⟩ [0] (Sel.cons rfl Sel.nil) rfl ?_
  clear ho30
  rintro k7 s3 hw_s3 hk6
  have hout4 := hf; clear hf
  obtain ⟨kq5, rfl⟩ : ∃ q, k7 = q + 1 := by cases k7 with | zero => cases hk6 | succ q => exact ⟨q, rfl⟩
  have hf := hk6
  clear hk6; dsimp only [cofferref17_Find.l0] at hf
  refine t_seq ?_
  refine t_seq ?_
  refine t_region ?_
  refine tl_d rfl (d_move rfl ?_)
  refine tl_d rfl (d_move rfl ?_)
  refine tl_d rfl (d_len_sl rfl (mem_at 0 rfl) Try.underlying22 (fun hl9 _ => ?_))
  refine tl_d rfl (d_lss rfl rfl ?_)
  refine tl_nil ?_
  refine q_then_code ?_
  refine t_cond rfl (fun hb10 => ?_) (fun hb10 => ?_)
  · have hf := if_t hb10 hf
    refine t_skip ?_
    refine q_then_code ?_
    refine t_seq ?_
    refine t_block ?_
    refine t_seq ?_
    obtain ⟨hn11, hf⟩ := need_some hf
    refine t_any (n := 7) [] mixed ⟨by kernel_rfl, .inl rfl⟩ (np_then (np_block (np_then (np_then (np_block (np_then np_body)))))) ?_
    refine ta_take (i := 0) rfl (by kernel_rfl) gd_none (d_move rfl ?_)
    refine ta_take (i := 1) rfl (by kernel_rfl) gd_none (d_move rfl ?_)
    refine ta_take (i := 2) rfl (by kernel_rfl) gd_none (d_index_sl rfl (mem_at 0 rfl) rfl Try.underlying22 ty34 hn11 (fun p20 => ?_))
    refine ta_take (i := 3) rfl (by kernel_rfl) gd_none (d_field_place rfl (mem_at 0 rfl) fo34_0 fl_Api_Object_Of trivial (fun p22 => ?_))
    refine ta_take (i := 4) rfl (by kernel_rfl) gd_none (d_load_place rfl (mem_at 0 rfl) ty29 (fun v24 => ?_))
    refine ta_take (i := 5) rfl (by kernel_rfl) gd_none (d_load_box 0 rfl rfl (Fld.self (rArr 32 (rInt .u8))) trivial ty29 rfl (fun v26 => ?_))
    refine ta_take (i := 6) rfl (by kernel_rfl) gd_none (d_eql_agg rfl rfl (mem_at 1 rfl) (mem_at 0 rfl) rfl (EqAt.arr Try.underlying29 ty5 (EqAt.int Try.underlying5)) (by decide) (by kernel_rfl) ?_)
    refine ta_done (by kernel_rfl) ?_
    refine q_then_code ?_
    refine t_cond rfl (fun hb28 => ?_) (fun hb28 => ?_)
    · have hf := if_t hb28 hf
      refine t_seq ?_
      refine t_region ?_
      refine tl_d rfl (d_move rfl ?_)
      refine tl_d rfl (d_assign rfl ?_)
      refine tl_nil ?_
      refine q_then_code ?_
      refine t_ret ?_
      refine q_block_ret ?_
      refine q_then_ret ?_
      refine q_then_ret ?_
      have hr := Option.some.inj hf; try subst hr
      have hf := hout4
      refine q_block_ret ?_
      refine q_then_ret ?_
      have hr := Option.some.inj hf; subst hr
      refine q_ret (post := fun w w' m v => (rInt .i64).val w' m v s3) hR _ (.inl rfl) (fun a w hs => ?_)
      exact ⟨_, run_results rfl (RvOk.cons (rv_tmp hs rfl) RvOk.nil), (hs.hv (hv_int hw_s3))⟩
    · have hf := if_f hb28 hf
      refine t_skip ?_
      refine q_block_normal ?_
      refine q_then_code ?_
      refine t_region ?_
      refine tl_d rfl (d_move rfl ?_)
      refine tl_d rfl (d_add rfl rfl ?_)
      refine tl_d rfl (d_assign rfl ?_)
      refine tl_nil ?_
      exact q_round kq5 (IntKind.i64.wrap (s3 + (1 : Int))) (Nat.lt_succ_self kq5) (wrap_wrap _ _) hf ⟨rfl, ⟨rfl, ⟨rfl, trivial⟩⟩⟩ ⟨mem_at 4 rfl, trivial⟩ [0] (Sel.cons rfl Sel.nil) rfl
  · have hf := if_f hb10 hf
    refine t_exit ?_
    refine q_then_exit ?_
    refine q_then_exit ?_
    have hr := Option.some.inj hf; try subst hr
    have hf := hout4
    try dsimp only at hf
    refine q_block_hit ?_
    refine q_then_code ?_
    refine t_seq ?_
    refine t_region ?_
    refine tl_d rfl (d_assign rfl ?_)
    refine tl_nil ?_
    refine q_then_code ?_
    refine t_ret ?_
    have hr := Option.some.inj hf; subst hr
    refine q_ret (post := fun w w' m v => (rInt .i64).val w' m v (-1 : Int)) hR _ (.inl rfl) (fun a w hs => ?_)
    exact ⟨_, run_results rfl (RvOk.cons (rv_tmp hs rfl) RvOk.nil), (hs.hv (hv_int rfl))⟩

def cofferref1_TakeCount.l0 (a0 : (List Int)) : Nat → Int → Int → Int → Option (Sum (Int × Int × Int) (Unit))
  | 0, _, _, _ => none
  | k + 1, s1, s2, s3 => (if (decide (s3 < ((a0).length : Int))) = true then (need (0 ≤ s3 ∧ s3 < ((a0).length : Int)) (((if (decide (s3 = (9 : Int))) = true then (some (decide ((1 : Int) < ((a0).getD (s3).toNat (rInt .u8).zeroD)))) else (some false))).bind fun s19 => (if s19 = true then (some (.inl ((0 : Int), (0 : Int), (4 : Int)))) else (if (decide (((a0).getD (s3).toNat (rInt .u8).zeroD) < (128 : Int))) = true then ((if (decide (((a0).getD (s3).toNat (rInt .u8).zeroD) = (0 : Int))) = true then (some (decide ((0 : Int) < s3))) else (some false))).bind fun s25 => (if s25 = true then (some (.inl ((0 : Int), (0 : Int), (4 : Int)))) else (some (.inl ((IntKind.u64.wrap (s1 + (IntKind.u64.wrap (((a0).getD (s3).toNat (rInt .u8).zeroD) * s2)))), (IntKind.i64.wrap (s3 + (1 : Int))), (0 : Int))))) else (cofferref1_TakeCount.l0 a0 k (IntKind.u64.wrap (s1 + (IntKind.u64.wrap ((IntKind.u64.wrap (((a0).getD (s3).toNat (rInt .u8).zeroD) - (128 : Int))) * s2)))) (IntKind.u64.wrap (s2 * (128 : Int))) (IntKind.i64.wrap (s3 + (1 : Int)))))))) else (some (.inr ())))
def cofferref1_TakeCount.f (k : Nat) (a0 : (List Int)) : Option (Int × Int × Int) := (cofferref1_TakeCount.l0 a0 k (0 : Int) (1 : Int) (0 : Int)).bind fun o29 => (match o29 with | .inl r => some r | .inr _ => (some ((0 : Int), (0 : Int), (3 : Int))))
set_option maxRecDepth 100000 in
set_option maxHeartbeats 2480000 in
theorem cofferref1_TakeCount_ok (k : Nat) (a0 : (List Int)) (u0 : Value) (r : Int × Int × Int) (hf : cofferref1_TakeCount.f k a0 = some r) : Cf.FnX true Try.prog 44 [u0] (fun w m => (rSl 1 (rInt .u8)).val w m u0 a0) (fun w w' m v => ∃ v0 v1 v2, v = .tuple #[v0, v1, v2] ∧ (rInt .u64).val w' m v0 r.1 ∧ (rInt .i64).val w' m v1 r.2.1 ∧ (rInt .i64).val w' m v2 r.2.2) := by
  unfold cofferref1_TakeCount.f at hf
  refine fn_of Try.func44 rfl (Nat.le_of_ble_eq_true rfl) [(rSl 1 (rInt .u8)).fact u0 a0] (fun w m h f hf => ?_) ?_
  · simp at hf; obtain rfl := hf; exact h
  intro w0 m0 R hR
  refine t_seq ?_
  refine t_region ?_
  refine tl_d rfl (d_assign rfl ?_)
  refine tl_d rfl (d_assign rfl ?_)
  refine tl_d rfl (d_assign rfl ?_)
  refine tl_nil ?_
  refine q_then_code ?_
  refine t_seq ?_
  refine t_region ?_
  refine tl_d rfl (d_assign rfl ?_)
  refine tl_d rfl (d_assign rfl ?_)
  refine tl_nil ?_
  refine q_then_code ?_
  refine t_seq ?_
  refine t_seq ?_
  refine t_region ?_
  refine tl_d rfl (d_assign rfl ?_)
  refine tl_nil ?_
  refine q_then_code ?_
  refine t_block ?_
  obtain ⟨o29, ho30, hf⟩ := bind_some hf
  refine t_loop (X := Int × Int × Int) (O := Sum (Int × Int × Int) (Unit)) (fun k x => match x with | (s1, s2, s3) => cofferref1_TakeCount.l0 a0 k s1 s2 s3) o29 (fun x => match x with | (s1, s2, s3) => (([(0, u0), (5, .int .u64 s1), (6, .int .u64 s2), (7, .int .i64 s3)], [(rSl 1 (rInt .u8)).fact u0 a0], []) : Sym)) (fun x => match x with | (s1, s2, s3) => IntKind.u64.wrap s1 = s1 ∧ IntKind.u64.wrap s2 = s2 ∧ IntKind.i64.wrap s3 = s3) k ((0 : Int), (1 : Int), (0 : Int)) ho30 ⟨rfl, rfl, rfl⟩ ⟨rfl, ⟨rfl, ⟨rfl, ⟨rfl, trivial⟩⟩⟩⟩ ⟨mem_at 0 rfl, trivial⟩ [] (Sel.nil) rfl ?_
  clear ho30
  rintro k7 ⟨s1, s2, s3⟩ ⟨hw_s1, hw_s2, hw_s3⟩ hk6
  have hout4 := hf; clear hf
  obtain ⟨kq5, rfl⟩ : ∃ q, k7 = q + 1 := by cases k7 with | zero => cases hk6 | succ q => exact ⟨q, rfl⟩
  have hf := hk6
  clear hk6; dsimp only [cofferref1_TakeCount.l0] at hf
  refine t_seq ?_
  refine t_seq ?_
  refine t_region ?_
  refine tl_d rfl (d_move rfl ?_)
  refine tl_d rfl (d_move rfl ?_)
  refine tl_d rfl (d_len_sl rfl (mem_at 0 rfl) Try.underlying32 (fun hl9 _ => ?_))
  refine tl_d rfl (d_lss rfl rfl ?_)
  refine tl_nil ?_
  refine q_then_code ?_
  refine t_cond rfl (fun hb10 => ?_) (fun hb10 => ?_)
  · have hf := if_t hb10 hf
    refine t_skip ?_
    refine q_then_code ?_
    refine t_seq ?_
    refine t_block ?_
    refine t_seq ?_
    obtain ⟨hn11, hf⟩ := need_some hf
    refine t_region ?_
    refine tl_d rfl (d_move rfl ?_)
    refine tl_d rfl (d_move rfl ?_)
    refine tl_d rfl (d_index_sl rfl (mem_at 0 rfl) rfl Try.underlying32 ty5 hn11 (fun p15 => ?_))
    refine tl_d rfl (d_load_int rfl (mem_at 0 rfl) ty5 (fun hw17 => ?_))
    refine tl_d rfl (d_conv_id Try.underlying5 Try.underlying91 rfl (wrap_widen rfl hw17) ?_)
    refine tl_d rfl (d_assign rfl ?_)
    refine tl_nil ?_
    refine q_then_code ?_
    refine t_seq ?_
    refine t_seq ?_
    obtain ⟨o20, ho21, hf⟩ := bind_some hf
    refine t_cut (X := Bool) (fun x => match x with | s19 => (([(0, u0), (5, (.int .u64 s1)), (6, (.int .u64 s2)), (7, (.int .i64 s3)), (8, (.int .u64 ((a0).getD (s3).toNat (rInt .u8).zeroD))), (25, .bool s19)], [(rSl 1 (rInt .u8)).fact u0 a0], []) : Sym)) (fun x => match x with | s19 => s19 = o20) ?_ ?_
    · have hf := ho21; clear ho21
      rcases bool_tf (decide (s3 = (9 : Int))) with hb18 | hb18
      · have hf := if_t hb18 hf
        refine t_region ?_
        refine tl_d rfl (d_move rfl ?_)
        refine tl_d rfl (d_eql rfl rfl ?_)
        refine tl_d rfl (d_move rfl ?_)
        refine tl_dg (gd_on rfl rfl rfl hb18) rfl (d_move rfl ?_)
        refine tl_dg (gd_on rfl rfl rfl hb18) rfl (d_gtr rfl rfl ?_)
        refine tl_d rfl (d_pick_true rfl hb18 rfl ?_)
        refine tl_nil ?_
        have hr := Option.some.inj hf; subst hr
        exact q_cut (decide ((1 : Int) < ((a0).getD (s3).toNat (rInt .u8).zeroD))) rfl ⟨rfl, ⟨rfl, ⟨rfl, ⟨rfl, ⟨rfl, ⟨rfl, trivial⟩⟩⟩⟩⟩⟩ ⟨mem_at 1 rfl, trivial⟩ [] (Sel.nil) rfl
      · have hf := if_f hb18 hf
        refine t_region ?_
        refine tl_d rfl (d_move rfl ?_)
        refine tl_d rfl (d_eql rfl rfl ?_)
        refine tl_d rfl (d_move rfl ?_)
        refine tl_off (gd_off rfl rfl rfl hb18) rfl rfl ?_
        refine tl_off (gd_off rfl rfl rfl hb18) rfl rfl ?_
        refine tl_d rfl (d_pick_false rfl hb18 rfl ?_)
        refine tl_nil ?_
        have hr := Option.some.inj hf; subst hr
        exact q_cut false rfl ⟨rfl, ⟨rfl, ⟨rfl, ⟨rfl, ⟨rfl, ⟨rfl, trivial⟩⟩⟩⟩⟩⟩ ⟨mem_at 1 rfl, trivial⟩ [] (Sel.nil) rfl
    rintro s19 rfl
    refine q_then_code ?_
    refine t_cond rfl (fun hb22 => ?_) (fun hb22 => ?_)
    · have hf := if_t hb22 hf
      refine t_seq ?_
      refine t_region ?_
      refine tl_d rfl (d_assign rfl ?_)
      refine tl_d rfl (d_assign rfl ?_)
      refine tl_d rfl (d_assign rfl ?_)
      refine tl_nil ?_
      refine q_then_code ?_
      refine t_ret ?_
      refine q_then_ret ?_
      refine q_block_ret ?_
      refine q_then_ret ?_
      refine q_then_ret ?_
      have hr := Option.some.inj hf; try subst hr
      have hf := hout4
      refine q_block_ret ?_
      refine q_then_ret ?_
      have hr := Option.some.inj hf; subst hr
      refine q_ret (post := fun w w' m v => ∃ v0 v1 v2, v = .tuple #[v0, v1, v2] ∧ (rInt .u64).val w' m v0 (0 : Int) ∧ (rInt .i64).val w' m v1 (0 : Int) ∧ (rInt .i64).val w' m v2 (4 : Int)) hR _ (.inl rfl) (fun a w hs => ?_)
      exact ⟨_, run_results rfl (RvOk.cons (rv_tmp hs rfl) (RvOk.cons (rv_tmp hs rfl) (RvOk.cons (rv_tmp hs rfl) RvOk.nil))), _, _, _, rfl, (hs.hv (hv_int rfl)), (hs.hv (hv_int rfl)), (hs.hv (hv_int rfl))⟩
    · have hf := if_f hb22 hf
      refine t_skip ?_
      refine q_then_code ?_
      refine t_seq ?_
      refine t_seq ?_
      refine t_region ?_
      refine tl_d rfl (d_move rfl ?_)
      refine tl_d rfl (d_lss rfl rfl ?_)
      refine tl_nil ?_
      refine q_then_code ?_
      refine t_cond rfl (fun hb23 => ?_) (fun hb23 => ?_)
      · have hf := if_t hb23 hf
        refine t_seq ?_
        refine t_seq ?_
        obtain ⟨o26, ho27, hf⟩ := bind_some hf
        refine t_cut (X := Bool) (fun x => match x with | s25 => (([(5, (.int .u64 s1)), (6, (.int .u64 s2)), (7, (.int .i64 s3)), (8, (.int .u64 ((a0).getD (s3).toNat (rInt .u8).zeroD))), (33, .bool s25)], [], []) : Sym)) (fun x => match x with | s25 => s25 = o26) ?_ ?_
        · have hf := ho27; clear ho27
          rcases bool_tf (decide (((a0).getD (s3).toNat (rInt .u8).zeroD) = (0 : Int))) with hb24 | hb24
          · have hf := if_t hb24 hf
            refine t_region ?_
            refine tl_d rfl (d_move rfl ?_)
            refine tl_d rfl (d_eql rfl rfl ?_)
            refine tl_d rfl (d_move rfl ?_)
            refine tl_dg (gd_on rfl rfl rfl hb24) rfl (d_move rfl ?_)
            refine tl_dg (gd_on rfl rfl rfl hb24) rfl (d_gtr rfl rfl ?_)
            refine tl_d rfl (d_pick_true rfl hb24 rfl ?_)
            refine tl_nil ?_
            have hr := Option.some.inj hf; subst hr
            exact q_cut (decide ((0 : Int) < s3)) rfl ⟨rfl, ⟨rfl, ⟨rfl, ⟨rfl, ⟨rfl, trivial⟩⟩⟩⟩⟩ trivial [] (Sel.nil) rfl
          · have hf := if_f hb24 hf
            refine t_region ?_
            refine tl_d rfl (d_move rfl ?_)
            refine tl_d rfl (d_eql rfl rfl ?_)
            refine tl_d rfl (d_move rfl ?_)
            refine tl_off (gd_off rfl rfl rfl hb24) rfl rfl ?_
            refine tl_off (gd_off rfl rfl rfl hb24) rfl rfl ?_
            refine tl_d rfl (d_pick_false rfl hb24 rfl ?_)
            refine tl_nil ?_
            have hr := Option.some.inj hf; subst hr
            exact q_cut false rfl ⟨rfl, ⟨rfl, ⟨rfl, ⟨rfl, ⟨rfl, trivial⟩⟩⟩⟩⟩ trivial [] (Sel.nil) rfl
        rintro s25 rfl
        refine q_then_code ?_
        refine t_cond rfl (fun hb28 => ?_) (fun hb28 => ?_)
        · have hf := if_t hb28 hf
          refine t_seq ?_
          refine t_region ?_
          refine tl_d rfl (d_assign rfl ?_)
          refine tl_d rfl (d_assign rfl ?_)
          refine tl_d rfl (d_assign rfl ?_)
          refine tl_nil ?_
          refine q_then_code ?_
          refine t_ret ?_
          refine q_then_ret ?_
          refine q_then_ret ?_
          refine q_block_ret ?_
          refine q_then_ret ?_
          refine q_then_ret ?_
          have hr := Option.some.inj hf; try subst hr
          have hf := hout4
          refine q_block_ret ?_
          refine q_then_ret ?_
          have hr := Option.some.inj hf; subst hr
          refine q_ret (post := fun w w' m v => ∃ v0 v1 v2, v = .tuple #[v0, v1, v2] ∧ (rInt .u64).val w' m v0 (0 : Int) ∧ (rInt .i64).val w' m v1 (0 : Int) ∧ (rInt .i64).val w' m v2 (4 : Int)) hR _ (.inl rfl) (fun a w hs => ?_)
          exact ⟨_, run_results rfl (RvOk.cons (rv_tmp hs rfl) (RvOk.cons (rv_tmp hs rfl) (RvOk.cons (rv_tmp hs rfl) RvOk.nil))), _, _, _, rfl, (hs.hv (hv_int rfl)), (hs.hv (hv_int rfl)), (hs.hv (hv_int rfl))⟩
        · have hf := if_f hb28 hf
          refine t_skip ?_
          refine q_then_code ?_
          refine t_seq ?_
          refine t_region ?_
          refine tl_d rfl (d_move rfl ?_)
          refine tl_d rfl (d_move rfl ?_)
          refine tl_d rfl (d_move rfl ?_)
          refine tl_d rfl (d_mul rfl rfl ?_)
          refine tl_d rfl (d_add rfl rfl ?_)
          refine tl_d rfl (d_move rfl ?_)
          refine tl_d rfl (d_add rfl rfl ?_)
          refine tl_d rfl (d_assign rfl ?_)
          refine tl_d rfl (d_assign rfl ?_)
          refine tl_d rfl (d_assign rfl ?_)
          refine tl_nil ?_
          refine q_then_code ?_
          refine t_ret ?_
          refine q_then_ret ?_
          refine q_block_ret ?_
          refine q_then_ret ?_
          refine q_then_ret ?_
          have hr := Option.some.inj hf; try subst hr
          have hf := hout4
          refine q_block_ret ?_
          refine q_then_ret ?_
          have hr := Option.some.inj hf; subst hr
          refine q_ret (post := fun w w' m v => ∃ v0 v1 v2, v = .tuple #[v0, v1, v2] ∧ (rInt .u64).val w' m v0 (IntKind.u64.wrap (s1 + (IntKind.u64.wrap (((a0).getD (s3).toNat (rInt .u8).zeroD) * s2)))) ∧ (rInt .i64).val w' m v1 (IntKind.i64.wrap (s3 + (1 : Int))) ∧ (rInt .i64).val w' m v2 (0 : Int)) hR _ (.inl rfl) (fun a w hs => ?_)
          exact ⟨_, run_results rfl (RvOk.cons (rv_tmp hs rfl) (RvOk.cons (rv_tmp hs rfl) (RvOk.cons (rv_tmp hs rfl) RvOk.nil))), _, _, _, rfl, (hs.hv (hv_int (wrap_wrap _ _))), (hs.hv (hv_int (wrap_wrap _ _))), (hs.hv (hv_int rfl))⟩
      · have hf := if_f hb23 hf
        refine t_skip ?_
        refine q_then_code ?_
        refine t_seq ?_
        refine t_region ?_
        refine tl_d rfl (d_move rfl ?_)
        refine tl_d rfl (d_move rfl ?_)
        refine tl_d rfl (d_sub rfl rfl ?_)
        refine tl_d rfl (d_move rfl ?_)
        refine tl_d rfl (d_mul rfl rfl ?_)
        refine tl_d rfl (d_add rfl rfl ?_)
        refine tl_d rfl (d_assign rfl ?_)
        refine tl_nil ?_
        refine q_then_code ?_
        refine t_region ?_
        refine tl_d rfl (d_move rfl ?_)
        refine tl_d rfl (d_mul rfl rfl ?_)
        refine tl_d rfl (d_assign rfl ?_)
        refine tl_nil ?_
        refine q_block_normal ?_
        refine q_then_code ?_
        refine t_region ?_
        refine tl_d rfl (d_move rfl ?_)
        refine tl_d rfl (d_add rfl rfl ?_)
        refine tl_d rfl (d_assign rfl ?_)
        refine tl_nil ?_
        exact q_round kq5 ((IntKind.u64.wrap (s1 + (IntKind.u64.wrap ((IntKind.u64.wrap (((a0).getD (s3).toNat (rInt .u8).zeroD) - (128 : Int))) * s2)))), (IntKind.u64.wrap (s2 * (128 : Int))), (IntKind.i64.wrap (s3 + (1 : Int)))) (Nat.lt_succ_self kq5) ⟨(wrap_wrap _ _), (wrap_wrap _ _), (wrap_wrap _ _)⟩ hf ⟨rfl, ⟨rfl, ⟨rfl, ⟨rfl, trivial⟩⟩⟩⟩ ⟨mem_at 0 rfl, trivial⟩ [] (Sel.nil) rfl
  · have hf := if_f hb10 hf
    refine t_exit ?_
    refine q_then_exit ?_
    refine q_then_exit ?_
    have hr := Option.some.inj hf; try subst hr
    have hf := hout4
    try dsimp only at hf
    refine q_block_hit ?_
    refine q_then_code ?_
    refine t_seq ?_
    refine t_region ?_
    refine tl_d rfl (d_assign rfl ?_)
    refine tl_d rfl (d_assign rfl ?_)
    refine tl_d rfl (d_assign rfl ?_)
    refine tl_nil ?_
    refine q_then_code ?_
    refine t_ret ?_
    have hr := Option.some.inj hf; subst hr
    refine q_ret (post := fun w w' m v => ∃ v0 v1 v2, v = .tuple #[v0, v1, v2] ∧ (rInt .u64).val w' m v0 (0 : Int) ∧ (rInt .i64).val w' m v1 (0 : Int) ∧ (rInt .i64).val w' m v2 (3 : Int)) hR _ (.inl rfl) (fun a w hs => ?_)
    exact ⟨_, run_results rfl (RvOk.cons (rv_tmp hs rfl) (RvOk.cons (rv_tmp hs rfl) (RvOk.cons (rv_tmp hs rfl) RvOk.nil))), _, _, _, rfl, (hs.hv (hv_int rfl)), (hs.hv (hv_int rfl)), (hs.hv (hv_int rfl))⟩

def cofferref1_TakeText.f (k : Nat) (a0 : (List Int)) : Option ((List Int) × Int × Int) := ((cofferref1_TakeCount.f k a0).bind fun c1 => (if (!decide (c1.2.2 = (0 : Int))) = true then (some (([] : (List Int)), (0 : Int), c1.2.2)) else (if (decide ((65536 : Int) < c1.1)) = true then (some (([] : (List Int)), (0 : Int), (2 : Int))) else (if (decide ((IntKind.i64.wrap (((a0).length : Int) - c1.2.1)) < (IntKind.i64.wrap c1.1))) = true then (some (([] : (List Int)), (0 : Int), (3 : Int))) else (need (0 ≤ c1.2.1 ∧ c1.2.1 ≤ (IntKind.i64.wrap (c1.2.1 + (IntKind.i64.wrap c1.1))) ∧ (IntKind.i64.wrap (c1.2.1 + (IntKind.i64.wrap c1.1))) ≤ ((a0).length : Int)) (need (fits 1 ((([] : List Int)).length + ((sub a0 c1.2.1 (IntKind.i64.wrap (c1.2.1 + (IntKind.i64.wrap c1.1))))).length)) ((some ((([] : List Int) ++ (sub a0 c1.2.1 (IntKind.i64.wrap (c1.2.1 + (IntKind.i64.wrap c1.1))))), (IntKind.i64.wrap (c1.2.1 + (IntKind.i64.wrap c1.1))), (0 : Int))))))))))
set_option maxRecDepth 100000 in
set_option maxHeartbeats 1340000 in
theorem cofferref1_TakeText_ok (k : Nat) (a0 : (List Int)) (u0 : Value) (r : (List Int) × Int × Int) (hf : cofferref1_TakeText.f k a0 = some r) : Cf.FnX true Try.prog 43 [u0] (fun w m => (rSl 1 (rInt .u8)).val w m u0 a0) (fun w w' m v => ∃ v0 v1 v2, v = .tuple #[v0, v1, v2] ∧ OwnRes (rInt .u8) 1 w w' m v0 r.1 ∧ ∀ m', (∀ b, b ∈ m' → b ∈ m ∨ bufBlk v0 = some b) → (rInt .i64).val w' m' v1 r.2.1 ∧ (rInt .i64).val w' m' v2 r.2.2) := by
  unfold cofferref1_TakeText.f at hf
  refine fn_of Try.func43 rfl (Nat.le_of_ble_eq_true rfl) [(rSl 1 (rInt .u8)).fact u0 a0] (fun w m h f hf => ?_) ?_
  · simp at hf; obtain rfl := hf; exact h
  intro w0 m0 R hR
  refine t_seq ?_
  refine t_region ?_
  refine tl_d rfl (d_assign rfl ?_)
  refine tl_d rfl (d_assign rfl ?_)
  refine tl_d rfl (d_assign rfl ?_)
  refine tl_nil ?_
  refine q_then_code ?_
  refine t_seq ?_
  obtain ⟨c1, hc2, hf⟩ := bind_some hf
  refine t_region ?_
  refine tl_d rfl (d_move rfl ?_)
  refine tl_g [] rfl (g_call3 rfl hfn44 (cofferref1_TakeCount_ok _ _ _ _ hc2) (Evs.cons rfl Evs.nil) (fun a w hs => (hv_fact (mem_at 0 rfl)) _ _ _ _ hs) (fun v15 v16 v17 => ?_))
  refine tl_int (mem_at 0 rfl) (fun hv22 hw21 => ?_)
  subst hv22
  refine tl_int (mem_at 1 rfl) (fun hv24 hw23 => ?_)
  subst hv24
  refine tl_int (mem_at 2 rfl) (fun hv26 hw25 => ?_)
  subst hv26
  refine tl_d rfl (d_move rfl ?_)
  refine tl_d rfl (d_extract rfl rfl ?_)
  refine tl_d rfl (d_extract rfl rfl ?_)
  refine tl_d rfl (d_extract rfl rfl ?_)
  refine tl_d rfl (d_assign rfl ?_)
  refine tl_d rfl (d_assign rfl ?_)
  refine tl_d rfl (d_assign rfl ?_)
  refine tl_nil ?_
  refine q_then_code ?_
  refine t_seq ?_
  refine t_seq ?_
  refine t_region ?_
  refine tl_d rfl (d_move rfl ?_)
  refine tl_d rfl (d_neq rfl rfl ?_)
  refine tl_nil ?_
  refine q_then_code ?_
  refine t_cond rfl (fun hb27 => ?_) (fun hb27 => ?_)
  · have hf := if_t hb27 hf
    refine t_seq ?_
    refine t_region ?_
    refine tl_d rfl (d_move rfl ?_)
    refine tl_d rfl (d_assign rfl ?_)
    refine tl_d rfl (d_assign rfl ?_)
    refine tl_d rfl (d_assign rfl ?_)
    refine tl_nil ?_
    refine q_then_code ?_
    refine t_ret ?_
    refine q_then_ret ?_
    have hr := Option.some.inj hf; subst hr
    refine q_ret (post := fun w w' m v => ∃ v0 v1 v2, v = .tuple #[v0, v1, v2] ∧ OwnRes (rInt .u8) 1 w w' m v0 ([] : (List Int)) ∧ ∀ m', (∀ b, b ∈ m' → b ∈ m ∨ bufBlk v0 = some b) → (rInt .i64).val w' m' v1 (0 : Int) ∧ (rInt .i64).val w' m' v2 c1.2.2) hR _ (.inl rfl) (fun a w hs => ?_)
    exact ⟨_, run_results rfl (RvOk.cons (rv_tmp hs rfl) (RvOk.cons (rv_tmp hs rfl) (RvOk.cons (rv_tmp hs rfl) RvOk.nil))), _, _, _, rfl, ownres_nil, fun m' hm' => ⟨⟨[_], ⟨rfl, rfl⟩, rfl⟩, ⟨[_], ⟨rfl, hw25⟩, rfl⟩⟩⟩
  · have hf := if_f hb27 hf
    refine t_skip ?_
    refine q_then_code ?_
    refine t_seq ?_
    refine t_seq ?_
    refine t_region ?_
    refine tl_d rfl (d_move rfl ?_)
    refine tl_d rfl (d_gtr rfl rfl ?_)
    refine tl_nil ?_
    refine q_then_code ?_
    refine t_cond rfl (fun hb28 => ?_) (fun hb28 => ?_)
    · have hf := if_t hb28 hf
      refine t_seq ?_
      refine t_region ?_
      refine tl_d rfl (d_assign rfl ?_)
      refine tl_d rfl (d_assign rfl ?_)
      refine tl_d rfl (d_assign rfl ?_)
      refine tl_nil ?_
      refine q_then_code ?_
      refine t_ret ?_
      refine q_then_ret ?_
      have hr := Option.some.inj hf; subst hr
      refine q_ret (post := fun w w' m v => ∃ v0 v1 v2, v = .tuple #[v0, v1, v2] ∧ OwnRes (rInt .u8) 1 w w' m v0 ([] : (List Int)) ∧ ∀ m', (∀ b, b ∈ m' → b ∈ m ∨ bufBlk v0 = some b) → (rInt .i64).val w' m' v1 (0 : Int) ∧ (rInt .i64).val w' m' v2 (2 : Int)) hR _ (.inl rfl) (fun a w hs => ?_)
      exact ⟨_, run_results rfl (RvOk.cons (rv_tmp hs rfl) (RvOk.cons (rv_tmp hs rfl) (RvOk.cons (rv_tmp hs rfl) RvOk.nil))), _, _, _, rfl, ownres_nil, fun m' hm' => ⟨⟨[_], ⟨rfl, rfl⟩, rfl⟩, ⟨[_], ⟨rfl, rfl⟩, rfl⟩⟩⟩
    · have hf := if_f hb28 hf
      refine t_skip ?_
      refine q_then_code ?_
      refine t_seq ?_
      refine t_seq ?_
      refine t_region ?_
      refine tl_d rfl (d_move rfl ?_)
      refine tl_d rfl (d_conv Try.underlying91 Try.underlying3 rfl ?_)
      refine tl_d rfl (d_move rfl ?_)
      refine tl_d rfl (d_len_sl rfl (mem_at 3 rfl) Try.underlying32 (fun hl30 _ => ?_))
      refine tl_d rfl (d_move rfl ?_)
      refine tl_d rfl (d_sub rfl rfl ?_)
      refine tl_d rfl (d_gtr rfl rfl ?_)
      refine tl_nil ?_
      refine q_then_code ?_
      refine t_cond rfl (fun hb31 => ?_) (fun hb31 => ?_)
      · have hf := if_t hb31 hf
        refine t_seq ?_
        refine t_region ?_
        refine tl_d rfl (d_assign rfl ?_)
        refine tl_d rfl (d_assign rfl ?_)
        refine tl_d rfl (d_assign rfl ?_)
        refine tl_nil ?_
        refine q_then_code ?_
        refine t_ret ?_
        refine q_then_ret ?_
        have hr := Option.some.inj hf; subst hr
        refine q_ret (post := fun w w' m v => ∃ v0 v1 v2, v = .tuple #[v0, v1, v2] ∧ OwnRes (rInt .u8) 1 w w' m v0 ([] : (List Int)) ∧ ∀ m', (∀ b, b ∈ m' → b ∈ m ∨ bufBlk v0 = some b) → (rInt .i64).val w' m' v1 (0 : Int) ∧ (rInt .i64).val w' m' v2 (3 : Int)) hR _ (.inl rfl) (fun a w hs => ?_)
        exact ⟨_, run_results rfl (RvOk.cons (rv_tmp hs rfl) (RvOk.cons (rv_tmp hs rfl) (RvOk.cons (rv_tmp hs rfl) RvOk.nil))), _, _, _, rfl, ownres_nil, fun m' hm' => ⟨⟨[_], ⟨rfl, rfl⟩, rfl⟩, ⟨[_], ⟨rfl, rfl⟩, rfl⟩⟩⟩
      · have hf := if_f hb31 hf
        refine t_skip ?_
        refine q_then_code ?_
        refine t_seq ?_
        obtain ⟨hn35, hf⟩ := need_some hf
        obtain ⟨hn36, hf⟩ := need_some hf
        refine t_region ?_
        refine tl_g [] rfl (g_buildSlice (R := (rInt .u8)) (l := []) rfl Try.underlying32 ty5 ⟨rfl, by decide, by decide, by decide⟩ PartsOk.nil rfl (fun v38 => ?_))
        refine tl_d rfl (d_move rfl ?_)
        refine tl_d rfl (d_move rfl ?_)
        refine tl_d rfl (d_move rfl ?_)
        refine tl_d rfl (d_move rfl ?_)
        refine tl_d rfl (d_conv Try.underlying91 Try.underlying3 rfl ?_)
        refine tl_d rfl (d_add rfl rfl ?_)
        refine tl_d rfl (d_slice_sl (i := c1.2.1) (j := (IntKind.i64.wrap (c1.2.1 + (IntKind.i64.wrap c1.1)))) rfl (mem_at 3 rfl) (.inr ⟨_, _, rfl, rfl⟩) (.inr ⟨_, _, rfl, rfl⟩) Try.underlying32 ty5 hn35 (fun v39 => ?_))
        refine tl_g _ rfl (g_append_sl (l2 := (sub a0 c1.2.1 (IntKind.i64.wrap (c1.2.1 + (IntKind.i64.wrap c1.1))))) 0 rfl rfl rfl rfl (hv_fact (mem_at 0 rfl)) Try.underlying32 ⟨_, Try.underlying32, fun k h => by cases h⟩ ty5 hn36 (List.mem_singleton_self _) (fun v41 => ?_))
        refine tl_d rfl (d_move rfl ?_)
        refine tl_d rfl (d_move rfl ?_)
        refine tl_d rfl (d_conv Try.underlying91 Try.underlying3 rfl ?_)
        refine tl_d rfl (d_add rfl rfl ?_)
        refine tl_d rfl (d_assign rfl ?_)
        refine tl_d rfl (d_assign rfl ?_)
        refine tl_d rfl (d_assign rfl ?_)
        refine tl_nil ?_
        refine q_then_code ?_
        refine t_ret ?_
        have hr := Option.some.inj hf; subst hr
        refine q_ret (post := fun w w' m v => ∃ v0 v1 v2, v = .tuple #[v0, v1, v2] ∧ OwnRes (rInt .u8) 1 w w' m v0 (([] : List Int) ++ (sub a0 c1.2.1 (IntKind.i64.wrap (c1.2.1 + (IntKind.i64.wrap c1.1))))) ∧ ∀ m', (∀ b, b ∈ m' → b ∈ m ∨ bufBlk v0 = some b) → (rInt .i64).val w' m' v1 (IntKind.i64.wrap (c1.2.1 + (IntKind.i64.wrap c1.1))) ∧ (rInt .i64).val w' m' v2 (0 : Int)) hR _ (.inl rfl) (fun a w hs => ?_)
        exact ⟨_, run_results rfl (RvOk.cons (rv_tmp hs rfl) (RvOk.cons (rv_tmp hs rfl) (RvOk.cons (rv_tmp hs rfl) RvOk.nil))), _, _, _, rfl, (hs.ownres (i := 0) rfl), fun m' hm' => ⟨⟨[_], ⟨rfl, (wrap_wrap _ _)⟩, rfl⟩, ⟨[_], ⟨rfl, rfl⟩, rfl⟩⟩⟩

def cofferref15_Take.l0 (a0 : (List Int)) : Nat → (List Api_Item) → Int → Int → Option (Sum ((List Api_Item) × Int) ((List Api_Item)))
  | 0, _, _, _ => none
  | k + 1, s43, s45, s46 => (need (0 ≤ (2 : Int) ∧ (2 : Int) < ((a0).length : Int)) ((if (decide (s46 < ((a0).getD ((2 : Int)).toNat (rInt .u8).zeroD))) = true then (if (decide (((a0).length : Int) < (IntKind.i64.wrap (s45 + (2 : Int))))) = true then (some (.inl (([] : (List Api_Item)), (4 : Int)))) else (need (0 ≤ s45 ∧ s45 < ((a0).length : Int)) ((need (0 ≤ (IntKind.i64.wrap (s45 + (1 : Int))) ∧ (IntKind.i64.wrap (s45 + (1 : Int))) ≤ ((a0).length : Int) ∧ ((a0).length : Int) ≤ ((a0).length : Int)) ((cofferref1_TakeText.f k (sub a0 (IntKind.i64.wrap (s45 + (1 : Int))) ((a0).length : Int))).bind fun c78 => ((if (!decide (c78.2.2 = (0 : Int))) = true then (some true) else (some (decide (((a0).length : Int) < (IntKind.i64.wrap ((IntKind.i64.wrap ((IntKind.i64.wrap (s45 + (1 : Int))) + c78.2.1)) + (32 : Int)))))))).bind fun s104 => (if s104 = true then (some (.inl (([] : (List Api_Item)), (4 : Int)))) else (need (0 ≤ (IntKind.i64.wrap ((IntKind.i64.wrap (s45 + (1 : Int))) + c78.2.1)) ∧ (IntKind.i64.wrap ((IntKind.i64.wrap (s45 + (1 : Int))) + c78.2.1)) ≤ (IntKind.i64.wrap ((IntKind.i64.wrap ((IntKind.i64.wrap (s45 + (1 : Int))) + c78.2.1)) + (32 : Int))) ∧ (IntKind.i64.wrap ((IntKind.i64.wrap ((IntKind.i64.wrap (s45 + (1 : Int))) + c78.2.1)) + (32 : Int))) ≤ ((a0).length : Int)) (need (32 ≤ ((sub a0 (IntKind.i64.wrap ((IntKind.i64.wrap (s45 + (1 : Int))) + c78.2.1)) (IntKind.i64.wrap ((IntKind.i64.wrap ((IntKind.i64.wrap (s45 + (1 : Int))) + c78.2.1)) + (32 : Int))))).length) ((need (0 ≤ (IntKind.i64.wrap ((IntKind.i64.wrap ((IntKind.i64.wrap (s45 + (1 : Int))) + c78.2.1)) + (32 : Int))) ∧ (IntKind.i64.wrap ((IntKind.i64.wrap ((IntKind.i64.wrap (s45 + (1 : Int))) + c78.2.1)) + (32 : Int))) ≤ ((a0).length : Int) ∧ ((a0).length : Int) ≤ ((a0).length : Int)) ((cofferref1_TakeCount.f k (sub a0 (IntKind.i64.wrap ((IntKind.i64.wrap ((IntKind.i64.wrap (s45 + (1 : Int))) + c78.2.1)) + (32 : Int))) ((a0).length : Int))).bind fun c132 => ((if (!decide (c132.2.2 = (0 : Int))) = true then (some true) else (some (decide ((9223372036854775807 : Int) < c132.1))))).bind fun s161 => (if s161 = true then (some (.inl (([] : (List Api_Item)), (4 : Int)))) else (need (fits 64 ((s43).length + ([(((((((⟨[], ((a0).getD (s45).toNat (rInt .u8).zeroD), (rArr 32 (rInt .u8)).zeroD, (0 : Int)⟩ : Api_Item)).set_Name c78.1)).set_Of (((sub a0 (IntKind.i64.wrap ((IntKind.i64.wrap (s45 + (1 : Int))) + c78.2.1)) (IntKind.i64.wrap ((IntKind.i64.wrap ((IntKind.i64.wrap (s45 + (1 : Int))) + c78.2.1)) + (32 : Int))))).take 32))).set_Size (IntKind.i64.wrap c132.1))]).length)) ((cofferref15_Take.l0 a0 k (s43 ++ [(((((((⟨[], ((a0).getD (s45).toNat (rInt .u8).zeroD), (rArr 32 (rInt .u8)).zeroD, (0 : Int)⟩ : Api_Item)).set_Name c78.1)).set_Of (((sub a0 (IntKind.i64.wrap ((IntKind.i64.wrap (s45 + (1 : Int))) + c78.2.1)) (IntKind.i64.wrap ((IntKind.i64.wrap ((IntKind.i64.wrap (s45 + (1 : Int))) + c78.2.1)) + (32 : Int))))).take 32))).set_Size (IntKind.i64.wrap c132.1))]) (IntKind.i64.wrap ((IntKind.i64.wrap ((IntKind.i64.wrap ((IntKind.i64.wrap (s45 + (1 : Int))) + c78.2.1)) + (32 : Int))) + c132.2.1)) (IntKind.i64.wrap (s46 + (1 : Int)))))))))))))))))) else (some (.inr s43)))))
def cofferref15_Take.f (k : Nat) (a0 : (List Int)) : Option ((List Api_Item) × Int) := ((if (decide (((a0).length : Int) < (3 : Int))) = true then (some true) else (need (0 ≤ (0 : Int) ∧ (0 : Int) < ((a0).length : Int)) ((if (!decide (((a0).getD ((0 : Int)).toNat (rInt .u8).zeroD) = (68 : Int))) = true then (some true) else (need (0 ≤ (1 : Int) ∧ (1 : Int) < ((a0).length : Int)) ((if (!decide (((a0).getD ((1 : Int)).toNat (rInt .u8).zeroD) = (49 : Int))) = true then (some true) else (need (0 ≤ (2 : Int) ∧ (2 : Int) < ((a0).length : Int)) ((some (decide ((64 : Int) < ((a0).getD ((2 : Int)).toNat (rInt .u8).zeroD)))))))))))))).bind fun s17 => (if s17 = true then (some (([] : (List Api_Item)), (4 : Int))) else (cofferref15_Take.l0 a0 k ([] : List Api_Item) (3 : Int) (0 : Int)).bind fun o203 => (match o203 with | .inl r => some r | .inr s43 => ((cofferref15_Bytes.f k s43).bind fun c174 => ((if (!decide (c174.2 = (0 : Int))) = true then (some true) else (some (!decide (c174.1 = a0))))).bind fun s194 => (if s194 = true then (some (([] : (List Api_Item)), (4 : Int))) else (some (s43, (0 : Int)))))))
set_option maxRecDepth 100000 in
set_option maxHeartbeats 5400000 in
theorem cofferref15_Take_ok (k : Nat) (a0 : (List Int)) (u0 : Value) (r : (List Api_Item) × Int) (hf : cofferref15_Take.f k a0 = some r) : Cf.FnX true Try.prog 28 [u0] (fun w m => (rSl 1 (rInt .u8)).val w m u0 a0) (fun w w' m v => ∃ v0 v1, v = .tuple #[v0, v1] ∧ OwnRes rApi_Item 64 w w' m v0 r.1 ∧ ∀ m', (∀ b, b ∈ m' → b ∈ m ∨ bufBlk v0 = some b) → (rInt .i64).val w' m' v1 r.2) := by
  unfold cofferref15_Take.f at hf
  refine fn_of Try.func28 rfl (Nat.le_of_ble_eq_true rfl) [(rSl 1 (rInt .u8)).fact u0 a0] (fun w m h f hf => ?_) ?_
  · simp at hf; obtain rfl := hf; exact h
  intro w0 m0 R hR
  refine t_seq ?_
  refine t_region ?_
  refine tl_d rfl (d_assign rfl ?_)
  refine tl_d rfl (d_assign rfl ?_)
  refine tl_nil ?_
  refine q_then_code ?_
  refine t_seq ?_
  refine t_seq ?_
  obtain ⟨o18, ho19, hf⟩ := bind_some hf
  refine t_cut (X := Bool) (fun x => match x with | s17 => (([(0, u0), (34, .bool s17)], [(rSl 1 (rInt .u8)).fact u0 a0], []) : Sym)) (fun x => match x with | s17 => s17 = o18) ?_ ?_
  · have hf := ho19; clear ho19
    rcases bool_tf (decide (((a0).length : Int) < (3 : Int))) with hb2 | hb2
    · have hf := if_t hb2 hf
      refine t_region ?_
      refine tl_d rfl (d_move rfl ?_)
      refine tl_d rfl (d_len_sl rfl (mem_at 0 rfl) Try.underlying32 (fun hl20 _ => ?_))
      refine tl_d rfl (d_lss rfl rfl ?_)
      refine tl_d rfl (d_move rfl ?_)
      refine tl_off (gd_off rfl rfl rfl hb2) rfl rfl ?_
      refine tl_off (gd_off rfl rfl rfl hb2) rfl rfl ?_
      refine tl_off (gd_off rfl rfl rfl hb2) rfl rfl ?_
      refine tl_off (gd_off rfl rfl rfl hb2) rfl rfl ?_
      refine tl_d rfl (d_pick_true rfl hb2 rfl ?_)
      refine tl_d rfl (d_move rfl ?_)
      refine tl_off (gd_off rfl rfl rfl rfl) rfl rfl ?_
      refine tl_off (gd_off rfl rfl rfl rfl) rfl rfl ?_
      refine tl_off (gd_off rfl rfl rfl rfl) rfl rfl ?_
      refine tl_off (gd_off rfl rfl rfl rfl) rfl rfl ?_
      refine tl_d rfl (d_pick_true rfl rfl rfl ?_)
      refine tl_d rfl (d_move rfl ?_)
      refine tl_off (gd_off rfl rfl rfl rfl) rfl rfl ?_
      refine tl_off (gd_off rfl rfl rfl rfl) rfl rfl ?_
      refine tl_off (gd_off rfl rfl rfl rfl) rfl rfl ?_
      refine tl_off (gd_off rfl rfl rfl rfl) rfl rfl ?_
      refine tl_d rfl (d_pick_true rfl rfl rfl ?_)
      refine tl_nil ?_
      have hr := Option.some.inj hf; subst hr
      exact q_cut true rfl ⟨rfl, ⟨rfl, trivial⟩⟩ ⟨mem_at 0 rfl, trivial⟩ [] (Sel.nil) rfl
    · have hf := if_f hb2 hf
      obtain ⟨hn3, hf⟩ := need_some hf
      rcases bool_tf (!decide (((a0).getD ((0 : Int)).toNat (rInt .u8).zeroD) = (68 : Int))) with hb7 | hb7
      · have hf := if_t hb7 hf
        refine t_region ?_
        refine tl_d rfl (d_move rfl ?_)
        refine tl_d rfl (d_len_sl rfl (mem_at 0 rfl) Try.underlying32 (fun hl21 _ => ?_))
        refine tl_d rfl (d_lss rfl rfl ?_)
        refine tl_d rfl (d_move rfl ?_)
        refine tl_dg (gd_on rfl rfl rfl hb2) rfl (d_move rfl ?_)
        refine tl_dg (gd_on rfl rfl rfl hb2) rfl (d_index_sl rfl (mem_at 0 rfl) rfl Try.underlying32 ty5 hn3 (fun p22 => ?_))
        refine tl_dg (gd_on rfl rfl rfl hb2) rfl (d_load_int rfl (mem_at 0 rfl) ty5 (fun hw24 => ?_))
        refine tl_dg (gd_on rfl rfl rfl hb2) rfl (d_neq rfl rfl ?_)
        refine tl_d rfl (d_pick_false rfl hb2 rfl ?_)
        refine tl_d rfl (d_move rfl ?_)
        refine tl_off (gd_off rfl rfl rfl hb7) rfl rfl ?_
        refine tl_off (gd_off rfl rfl rfl hb7) rfl rfl ?_
        refine tl_off (gd_off rfl rfl rfl hb7) rfl rfl ?_
        refine tl_off (gd_off rfl rfl rfl hb7) rfl rfl ?_
        refine tl_d rfl (d_pick_true rfl hb7 rfl ?_)
        refine tl_d rfl (d_move rfl ?_)
        refine tl_off (gd_off rfl rfl rfl rfl) rfl rfl ?_
        refine tl_off (gd_off rfl rfl rfl rfl) rfl rfl ?_
        refine tl_off (gd_off rfl rfl rfl rfl) rfl rfl ?_
        refine tl_off (gd_off rfl rfl rfl rfl) rfl rfl ?_
        refine tl_d rfl (d_pick_true rfl rfl rfl ?_)
        refine tl_nil ?_
        have hr := Option.some.inj hf; subst hr
        exact q_cut true rfl ⟨rfl, ⟨rfl, trivial⟩⟩ ⟨mem_at 1 rfl, trivial⟩ [] (Sel.nil) rfl
      · have hf := if_f hb7 hf
        obtain ⟨hn8, hf⟩ := need_some hf
        rcases bool_tf (!decide (((a0).getD ((1 : Int)).toNat (rInt .u8).zeroD) = (49 : Int))) with hb12 | hb12
        · have hf := if_t hb12 hf
          refine t_region ?_
          refine tl_d rfl (d_move rfl ?_)
          refine tl_d rfl (d_len_sl rfl (mem_at 0 rfl) Try.underlying32 (fun hl25 _ => ?_))
          refine tl_d rfl (d_lss rfl rfl ?_)
          refine tl_d rfl (d_move rfl ?_)
          refine tl_dg (gd_on rfl rfl rfl hb2) rfl (d_move rfl ?_)
          refine tl_dg (gd_on rfl rfl rfl hb2) rfl (d_index_sl rfl (mem_at 0 rfl) rfl Try.underlying32 ty5 hn3 (fun p26 => ?_))
          refine tl_dg (gd_on rfl rfl rfl hb2) rfl (d_load_int rfl (mem_at 0 rfl) ty5 (fun hw28 => ?_))
          refine tl_dg (gd_on rfl rfl rfl hb2) rfl (d_neq rfl rfl ?_)
          refine tl_d rfl (d_pick_false rfl hb2 rfl ?_)
          refine tl_d rfl (d_move rfl ?_)
          refine tl_dg (gd_on rfl rfl rfl hb7) rfl (d_move rfl ?_)
          refine tl_dg (gd_on rfl rfl rfl hb7) rfl (d_index_sl rfl (mem_at 1 rfl) rfl Try.underlying32 ty5 hn8 (fun p29 => ?_))
          refine tl_dg (gd_on rfl rfl rfl hb7) rfl (d_load_int rfl (mem_at 0 rfl) ty5 (fun hw31 => ?_))
          refine tl_dg (gd_on rfl rfl rfl hb7) rfl (d_neq rfl rfl ?_)
          refine tl_d rfl (d_pick_false rfl hb7 rfl ?_)
          refine tl_d rfl (d_move rfl ?_)
          refine tl_off (gd_off rfl rfl rfl hb12) rfl rfl ?_
          refine tl_off (gd_off rfl rfl rfl hb12) rfl rfl ?_
          refine tl_off (gd_off rfl rfl rfl hb12) rfl rfl ?_
          refine tl_off (gd_off rfl rfl rfl hb12) rfl rfl ?_
          refine tl_d rfl (d_pick_true rfl hb12 rfl ?_)
          refine tl_nil ?_
          have hr := Option.some.inj hf; subst hr
          exact q_cut true rfl ⟨rfl, ⟨rfl, trivial⟩⟩ ⟨mem_at 2 rfl, trivial⟩ [] (Sel.nil) rfl
        · have hf := if_f hb12 hf
          obtain ⟨hn13, hf⟩ := need_some hf
          refine t_region ?_
          refine tl_d rfl (d_move rfl ?_)
          refine tl_d rfl (d_len_sl rfl (mem_at 0 rfl) Try.underlying32 (fun hl32 _ => ?_))
          refine tl_d rfl (d_lss rfl rfl ?_)
          refine tl_d rfl (d_move rfl ?_)
          refine tl_dg (gd_on rfl rfl rfl hb2) rfl (d_move rfl ?_)
          refine tl_dg (gd_on rfl rfl rfl hb2) rfl (d_index_sl rfl (mem_at 0 rfl) rfl Try.underlying32 ty5 hn3 (fun p33 => ?_))
          refine tl_dg (gd_on rfl rfl rfl hb2) rfl (d_load_int rfl (mem_at 0 rfl) ty5 (fun hw35 => ?_))
          refine tl_dg (gd_on rfl rfl rfl hb2) rfl (d_neq rfl rfl ?_)
          refine tl_d rfl (d_pick_false rfl hb2 rfl ?_)
          refine tl_d rfl (d_move rfl ?_)
          refine tl_dg (gd_on rfl rfl rfl hb7) rfl (d_move rfl ?_)
          refine tl_dg (gd_on rfl rfl rfl hb7) rfl (d_index_sl rfl (mem_at 1 rfl) rfl Try.underlying32 ty5 hn8 (fun p36 => ?_))
          refine tl_dg (gd_on rfl rfl rfl hb7) rfl (d_load_int rfl (mem_at 0 rfl) ty5 (fun hw38 => ?_))
          refine tl_dg (gd_on rfl rfl rfl hb7) rfl (d_neq rfl rfl ?_)
          refine tl_d rfl (d_pick_false rfl hb7 rfl ?_)
          refine tl_d rfl (d_move rfl ?_)
          refine tl_dg (gd_on rfl rfl rfl hb12) rfl (d_move rfl ?_)
          refine tl_dg (gd_on rfl rfl rfl hb12) rfl (d_index_sl rfl (mem_at 2 rfl) rfl Try.underlying32 ty5 hn13 (fun p39 => ?_))
          refine tl_dg (gd_on rfl rfl rfl hb12) rfl (d_load_int rfl (mem_at 0 rfl) ty5 (fun hw41 => ?_))
          refine tl_dg (gd_on rfl rfl rfl hb12) rfl (d_gtr rfl rfl ?_)
          refine tl_d rfl (d_pick_false rfl hb12 rfl ?_)
          refine tl_nil ?_
          have hr := Option.some.inj hf; subst hr
          exact q_cut (decide ((64 : Int) < ((a0).getD ((2 : Int)).toNat (rInt .u8).zeroD))) rfl ⟨rfl, ⟨rfl, trivial⟩⟩ ⟨mem_at 3 rfl, trivial⟩ [] (Sel.nil) rfl
  rintro s17 rfl
  refine q_then_code ?_
  refine t_cond rfl (fun hb42 => ?_) (fun hb42 => ?_)
  · have hf := if_t hb42 hf
    refine t_seq ?_
    refine t_region ?_
    refine tl_d rfl (d_assign rfl ?_)
    refine tl_d rfl (d_assign rfl ?_)
    refine tl_nil ?_
    refine q_then_code ?_
    refine t_ret ?_
    refine q_then_ret ?_
    have hr := Option.some.inj hf; subst hr
    refine q_ret (post := fun w w' m v => ∃ v0 v1, v = .tuple #[v0, v1] ∧ OwnRes rApi_Item 64 w w' m v0 ([] : (List Api_Item)) ∧ ∀ m', (∀ b, b ∈ m' → b ∈ m ∨ bufBlk v0 = some b) → (rInt .i64).val w' m' v1 (4 : Int)) hR _ (.inl rfl) (fun a w hs => ?_)
    exact ⟨_, run_results rfl (RvOk.cons (rv_tmp hs rfl) (RvOk.cons (rv_tmp hs rfl) RvOk.nil)), _, _, rfl, ownres_nil, fun m' hm' => ⟨[_], ⟨rfl, rfl⟩, rfl⟩⟩
  · have hf := if_f hb42 hf
    refine t_skip ?_
    refine q_then_code ?_
    refine t_seq ?_
    refine t_region ?_
    refine tl_d rfl (d_assign rfl ?_)
    refine tl_nil ?_
    refine q_then_code ?_
    refine t_seq ?_
    refine t_region ?_
    refine tl_d rfl (d_assign rfl ?_)
    refine tl_nil ?_
    refine q_then_code ?_
    refine t_seq ?_
    refine t_seq ?_
    refine t_region ?_
    refine tl_d rfl (d_assign rfl ?_)
    refine tl_nil ?_
    refine q_then_code ?_
    refine t_block ?_
    refine t_nilbuf 64 rApi_Item ?_
    obtain ⟨o203, ho204, hf⟩ := bind_some hf
    refine t_loop (X := (List Api_Item) × Int × Int × Value) (O := Sum ((List Api_Item) × Int) ((List Api_Item))) (fun k x => match x with | (s43, s45, s46, z44) => cofferref15_Take.l0 a0 k s43 s45 s46) o203 (fun x => match x with | (s43, s45, s46, z44) => (([(0, u0), (4, z44), (5, .int .i64 s45), (6, .int .i64 s46)], [(rSl 1 (rInt .u8)).fact u0 a0], [Own.buf z44 64 rApi_Item s43]) : Sym)) (fun x => match x with | (s43, s45, s46, z44) => IntKind.i64.wrap s45 = s45 ∧ IntKind.i64.wrap s46 = s46) k (([] : List Api_Item), (3 : Int), (0 : Int), (.slice none 0 0)) ho204 ⟨rfl, rfl⟩ ⟨rfl, ⟨rfl, ⟨rfl, ⟨rfl, trivial⟩⟩⟩⟩ ⟨mem_at 0 rfl, trivial⟩ [0] (Sel.cons rfl Sel.nil) rfl ?_
    clear ho204
    rintro k50 ⟨s43, s45, s46, z44⟩ ⟨hw_s45, hw_s46⟩ hk49
    have hout47 := hf; clear hf
    obtain ⟨kq48, rfl⟩ : ∃ q, k50 = q + 1 := by cases k50 with | zero => cases hk49 | succ q => exact ⟨q, rfl⟩
    have hf := hk49
    clear hk49; dsimp only [cofferref15_Take.l0] at hf
    refine t_seq ?_
    refine t_seq ?_
    obtain ⟨hn51, hf⟩ := need_some hf
    refine t_region ?_
    refine tl_d rfl (d_move rfl ?_)
    refine tl_d rfl (d_move rfl ?_)
    refine tl_d rfl (d_index_sl rfl (mem_at 0 rfl) rfl Try.underlying32 ty5 hn51 (fun p55 => ?_))
    refine tl_d rfl (d_load_int rfl (mem_at 0 rfl) ty5 (fun hw57 => ?_))
    refine tl_d rfl (d_conv_id Try.underlying5 Try.underlying3 rfl (wrap_widen rfl hw57) ?_)
    refine tl_d rfl (d_lss rfl rfl ?_)
    refine tl_nil ?_
    refine q_then_code ?_
    refine t_cond rfl (fun hb58 => ?_) (fun hb58 => ?_)
    · have hf := if_t hb58 hf
      refine t_skip ?_
      refine q_then_code ?_
      refine t_seq ?_
      refine t_block ?_
      refine t_seq ?_
      refine t_seq ?_
      refine t_region ?_
      refine tl_d rfl (d_move rfl ?_)
      refine tl_d rfl (d_add rfl rfl ?_)
      refine tl_d rfl (d_move rfl ?_)
      refine tl_d rfl (d_len_sl rfl (mem_at 1 rfl) Try.underlying32 (fun hl60 _ => ?_))
      refine tl_d rfl (d_gtr rfl rfl ?_)
      refine tl_nil ?_
      refine q_then_code ?_
      refine t_cond rfl (fun hb61 => ?_) (fun hb61 => ?_)
      · have hf := if_t hb61 hf
        refine t_seq ?_
        refine t_region ?_
        refine tl_d rfl (d_assign rfl ?_)
        refine tl_d rfl (d_assign rfl ?_)
        refine tl_nil ?_
        refine q_then_code ?_
        refine t_ret ?_
        refine q_then_ret ?_
        refine q_block_ret ?_
        refine q_then_ret ?_
        refine q_then_ret ?_
        have hr := Option.some.inj hf; try subst hr
        have hf := hout47
        refine q_block_ret ?_
        refine q_then_ret ?_
        have hr := Option.some.inj hf; subst hr
        refine q_ret (post := fun w w' m v => ∃ v0 v1, v = .tuple #[v0, v1] ∧ OwnRes rApi_Item 64 w w' m v0 ([] : (List Api_Item)) ∧ ∀ m', (∀ b, b ∈ m' → b ∈ m ∨ bufBlk v0 = some b) → (rInt .i64).val w' m' v1 (4 : Int)) hR _ (.inl rfl) (fun a w hs => ?_)
        exact ⟨_, run_results rfl (RvOk.cons (rv_tmp hs rfl) (RvOk.cons (rv_tmp hs rfl) RvOk.nil)), _, _, rfl, ownres_nil, fun m' hm' => ⟨[_], ⟨rfl, rfl⟩, rfl⟩⟩
      · have hf := if_f hb61 hf
        refine t_skip ?_
        refine q_then_code ?_
        refine t_seq ?_
        obtain ⟨hn62, hf⟩ := need_some hf
        refine t_region ?_
        refine tl_d rfl (d_move rfl ?_)
        refine tl_d rfl (d_move rfl ?_)
        refine tl_d rfl (d_index_sl rfl (mem_at 1 rfl) rfl Try.underlying32 ty5 hn62 (fun p69 => ?_))
        refine tl_d rfl (d_load_int rfl (mem_at 0 rfl) ty5 (fun hw71 => ?_))
        refine tl_d rfl (d_conv_id Try.underlying5 Try.underlying3 rfl (wrap_widen rfl hw71) ?_)
        refine tl_d rfl (d_build2 (y := (⟨[], ((a0).getD (s45).toNat (rInt .u8).zeroD), (rArr 32 (rInt .u8)).zeroD, (0 : Int)⟩ : Api_Item)) ty54 rfl pl54 (BuildOk.cons rfl fl_Api_Item_Kind trivial rfl (hv_int (wrap_widen rfl hw71)) BuildOk.nil) (fun v72 => ?_))
        refine tl_g [] rfl (g_alloc rfl ty54 (fun b74 => ?_))
        refine tl_g _ rfl (g_store_box 1 rfl rfl rfl (Fld.self rApi_Item) trivial (hv_fact (mem_at 0 rfl)) ty54 (List.mem_singleton_self _) ?_)
        refine tl_nil ?_
        refine q_then_code ?_
        refine t_seq ?_
        obtain ⟨hn77, hf⟩ := need_some hf
        obtain ⟨c78, hc79, hf⟩ := bind_some hf
        refine t_region ?_
        refine tl_d rfl (d_move rfl ?_)
        refine tl_d rfl (d_move rfl ?_)
        refine tl_d rfl (d_add rfl rfl ?_)
        refine tl_d rfl (d_slice_sl (i := (IntKind.i64.wrap (s45 + (1 : Int)))) (j := ((a0).length : Int)) rfl (mem_at 3 rfl) (.inr ⟨_, _, rfl, rfl⟩) (.inl ⟨rfl, rfl⟩) Try.underlying32 ty5 hn77 (fun v90 => ?_))
        refine tl_g [] rfl (g_callo3 rfl hfn43 (cofferref1_TakeText_ok _ _ _ _ hc79) (Evs.cons rfl Evs.nil) (fun a w hs => (hv_fact (mem_at 0 rfl)) _ _ _ _ hs) (fun v92 v93 v94 => ?_))
        refine tl_int (mem_at 0 rfl) (fun hv99 hw98 => ?_)
        subst hv99
        refine tl_int (mem_at 1 rfl) (fun hv101 hw100 => ?_)
        subst hv101
        refine tl_d rfl (d_move rfl ?_)
        refine tl_d rfl (d_extract rfl rfl ?_)
        refine tl_d rfl (d_extract rfl rfl ?_)
        refine tl_d rfl (d_extract rfl rfl ?_)
        refine tl_d rfl (d_assign rfl ?_)
        refine tl_d rfl (d_assign rfl ?_)
        refine tl_d rfl (d_assign rfl ?_)
        refine tl_nil ?_
        refine q_then_code ?_
        refine t_seq ?_
        refine t_region ?_
        refine tl_d rfl (d_move rfl ?_)
        refine tl_d rfl (d_add rfl rfl ?_)
        refine tl_d rfl (d_move rfl ?_)
        refine tl_d rfl (d_add rfl rfl ?_)
        refine tl_d rfl (d_assign rfl ?_)
        refine tl_nil ?_
        refine q_then_code ?_
        refine t_seq ?_
        refine t_seq ?_
        obtain ⟨o105, ho106, hf⟩ := bind_some hf
        refine t_cut (X := Bool) (fun x => match x with | s104 => (([(0, u0), (4, z44), (5, (.int .i64 (IntKind.i64.wrap ((IntKind.i64.wrap (s45 + (1 : Int))) + c78.2.1)))), (6, (.int .i64 s46)), (7, .pointer (some ⟨b74, 0, none⟩)), (8, v92), (75, .bool s104)], [(rSl 1 (rInt .u8)).fact u0 a0], [Own.buf z44 64 rApi_Item s43, Own.box b74 rApi_Item (⟨[], ((a0).getD (s45).toNat (rInt .u8).zeroD), (rArr 32 (rInt .u8)).zeroD, (0 : Int)⟩ : Api_Item), Own.buf v92 1 (rInt .u8) c78.1]) : Sym)) (fun x => match x with | s104 => s104 = o105) ?_ ?_
        · have hf := ho106; clear ho106
          rcases bool_tf (!decide (c78.2.2 = (0 : Int))) with hb102 | hb102
          · have hf := if_t hb102 hf
            refine t_region ?_
            refine tl_d rfl (d_move rfl ?_)
            refine tl_d rfl (d_neq rfl rfl ?_)
            refine tl_d rfl (d_move rfl ?_)
            refine tl_off (gd_off rfl rfl rfl hb102) rfl rfl ?_
            refine tl_off (gd_off rfl rfl rfl hb102) rfl rfl ?_
            refine tl_off (gd_off rfl rfl rfl hb102) rfl rfl ?_
            refine tl_off (gd_off rfl rfl rfl hb102) rfl rfl ?_
            refine tl_off (gd_off rfl rfl rfl hb102) rfl rfl ?_
            refine tl_d rfl (d_pick_true rfl hb102 rfl ?_)
            refine tl_nil ?_
            have hr := Option.some.inj hf; subst hr
            exact q_cut true rfl ⟨rfl, ⟨rfl, ⟨rfl, ⟨rfl, ⟨rfl, ⟨rfl, ⟨rfl, trivial⟩⟩⟩⟩⟩⟩⟩ ⟨mem_at 6 rfl, trivial⟩ [0, 1, 2] (Sel.cons rfl (Sel.cons rfl (Sel.cons rfl Sel.nil))) rfl
          · have hf := if_f hb102 hf
            refine t_region ?_
            refine tl_d rfl (d_move rfl ?_)
            refine tl_d rfl (d_neq rfl rfl ?_)
            refine tl_d rfl (d_move rfl ?_)
            refine tl_dg (gd_on rfl rfl rfl hb102) rfl (d_move rfl ?_)
            refine tl_dg (gd_on rfl rfl rfl hb102) rfl (d_add rfl rfl ?_)
            refine tl_dg (gd_on rfl rfl rfl hb102) rfl (d_move rfl ?_)
            refine tl_dg (gd_on rfl rfl rfl hb102) rfl (d_len_sl rfl (mem_at 6 rfl) Try.underlying32 (fun hl107 _ => ?_))
            refine tl_dg (gd_on rfl rfl rfl hb102) rfl (d_gtr rfl rfl ?_)
            refine tl_d rfl (d_pick_false rfl hb102 rfl ?_)
            refine tl_nil ?_
            have hr := Option.some.inj hf; subst hr
            exact q_cut (decide (((a0).length : Int) < (IntKind.i64.wrap ((IntKind.i64.wrap ((IntKind.i64.wrap (s45 + (1 : Int))) + c78.2.1)) + (32 : Int))))) rfl ⟨rfl, ⟨rfl, ⟨rfl, ⟨rfl, ⟨rfl, ⟨rfl, ⟨rfl, trivial⟩⟩⟩⟩⟩⟩⟩ ⟨mem_at 6 rfl, trivial⟩ [0, 1, 2] (Sel.cons rfl (Sel.cons rfl (Sel.cons rfl Sel.nil))) rfl
        rintro s104 rfl
        refine q_then_code ?_
        refine t_cond rfl (fun hb108 => ?_) (fun hb108 => ?_)
        · have hf := if_t hb108 hf
          refine t_seq ?_
          refine t_region ?_
          refine tl_d rfl (d_assign rfl ?_)
          refine tl_d rfl (d_assign rfl ?_)
          refine tl_nil ?_
          refine q_then_code ?_
          refine t_ret ?_
          refine q_then_ret ?_
          refine q_block_ret ?_
          refine q_then_ret ?_
          refine q_then_ret ?_
          have hr := Option.some.inj hf; try subst hr
          have hf := hout47
          refine q_block_ret ?_
          refine q_then_ret ?_
          have hr := Option.some.inj hf; subst hr
          refine q_ret (post := fun w w' m v => ∃ v0 v1, v = .tuple #[v0, v1] ∧ OwnRes rApi_Item 64 w w' m v0 ([] : (List Api_Item)) ∧ ∀ m', (∀ b, b ∈ m' → b ∈ m ∨ bufBlk v0 = some b) → (rInt .i64).val w' m' v1 (4 : Int)) hR _ (.inl rfl) (fun a w hs => ?_)
          exact ⟨_, run_results rfl (RvOk.cons (rv_tmp hs rfl) (RvOk.cons (rv_tmp hs rfl) RvOk.nil)), _, _, rfl, ownres_nil, fun m' hm' => ⟨[_], ⟨rfl, rfl⟩, rfl⟩⟩
        · have hf := if_f hb108 hf
          refine t_skip ?_
          refine q_then_code ?_
          refine t_seq ?_
          obtain ⟨hn114, hf⟩ := need_some hf
          obtain ⟨hn115, hf⟩ := need_some hf
          refine t_any (n := 12) [1, 3, 4, 5, 6, 7, 8, 9, 10, 11, 12, 13, 14] mixed ⟨by kernel_rfl, .inr ⟨rfl, by kernel_rfl⟩⟩ (np_then (np_block (np_then (np_then (np_block (np_then np_body)))))) ?_
          refine ta_take (i := 0) rfl (by kernel_rfl) gd_none (d_move rfl ?_)
          refine ta_freeze 2 rfl ?_
          refine ta_take (i := 1) rfl (by kernel_rfl) gd_none (d_bytes_str rfl (mem_at 0 rfl) Try.underlying32 Try.underlying5 Try.underlying9 (fun v121 => ?_))
          refine ta_take (i := 2) rfl (by kernel_rfl) gd_none (d_move rfl ?_)
          refine ta_take (i := 3) rfl (by kernel_rfl) gd_none (d_move rfl ?_)
          refine ta_take (i := 4) rfl (by kernel_rfl) gd_none (d_move rfl ?_)
          refine ta_take (i := 5) rfl (by kernel_rfl) gd_none (d_add rfl rfl ?_)
          refine ta_take (i := 6) rfl (by kernel_rfl) gd_none (d_slice_sl (i := (IntKind.i64.wrap ((IntKind.i64.wrap (s45 + (1 : Int))) + c78.2.1))) (j := (IntKind.i64.wrap ((IntKind.i64.wrap ((IntKind.i64.wrap (s45 + (1 : Int))) + c78.2.1)) + (32 : Int)))) rfl (mem_at 2 rfl) (.inr ⟨_, _, rfl, rfl⟩) (.inr ⟨_, _, rfl, rfl⟩) Try.underlying32 ty5 hn114 (fun v123 => ?_))
          refine ta_take (i := 7) rfl (by kernel_rfl) gd_none (d_s2ap rfl (mem_at 0 rfl) Try.underlying29 hn115 (by decide) (fun p125 => ?_))
          refine ta_take (i := 8) rfl (by kernel_rfl) gd_none (d_load_place rfl (mem_at 0 rfl) ty29 (fun v127 => ?_))
          refine ta_take (i := 9) rfl (by kernel_rfl) gd_none (d_field_own rfl fo54_0 ?_)
          refine ta_one (i := 10) (by kernel_rfl) rfl rfl gd_none (g_store_box 1 rfl rfl rfl (Fld.at0 fl_Api_Item_Name) trivial (hv_fact (mem_at 3 rfl)) ty9 (by decide) ?_)
          refine ta_take (i := 11) rfl (by kernel_rfl) gd_none (d_field_own rfl fo54_2 ?_)
          refine ta_last [0, 1, 2, 3, 4, 5, 6, 7, 8, 9, 10, 11, 12, 13, 14, 15, 16, 17, 18, 19, 20, 21, 22, 23, 24, 25, 26, 27, 28, 29, 30, 31, 32, 33, 34, 35, 36, 37, 38, 39, 40, 41, 42, 43, 44, 45, 46, 47, 48, 49, 50, 51, 52, 53, 54, 55, 56, 57, 58, 59] (by kernel_rfl) (by kernel_rfl) rfl gd_none (g_store_box 1 rfl rfl rfl (Fld.at0 fl_Api_Item_Of) trivial (hv_fact (mem_at 0 rfl)) ty29 (by decide) ?_)
          refine q_then_code ?_
          refine t_seq ?_
          obtain ⟨hn131, hf⟩ := need_some hf
          obtain ⟨c132, hc133, hf⟩ := bind_some hf
          refine t_region ?_
          refine tl_d rfl (d_move rfl ?_)
          refine tl_d rfl (d_move rfl ?_)
          refine tl_d rfl (d_add rfl rfl ?_)
          refine tl_d rfl (d_slice_sl (i := (IntKind.i64.wrap ((IntKind.i64.wrap ((IntKind.i64.wrap (s45 + (1 : Int))) + c78.2.1)) + (32 : Int)))) (j := ((a0).length : Int)) rfl (mem_at 5 rfl) (.inr ⟨_, _, rfl, rfl⟩) (.inl ⟨rfl, rfl⟩) Try.underlying32 ty5 hn131 (fun v146 => ?_))
          refine tl_g [] rfl (g_call3 rfl hfn44 (cofferref1_TakeCount_ok _ _ _ _ hc133) (Evs.cons rfl Evs.nil) (fun a w hs => (hv_fact (mem_at 0 rfl)) _ _ _ _ hs) (fun v148 v149 v150 => ?_))
          refine tl_int (mem_at 0 rfl) (fun hv155 hw154 => ?_)
          subst hv155
          refine tl_int (mem_at 1 rfl) (fun hv157 hw156 => ?_)
          subst hv157
          refine tl_int (mem_at 2 rfl) (fun hv159 hw158 => ?_)
          subst hv159
          refine tl_d rfl (d_move rfl ?_)
          refine tl_d rfl (d_extract rfl rfl ?_)
          refine tl_d rfl (d_extract rfl rfl ?_)
          refine tl_d rfl (d_extract rfl rfl ?_)
          refine tl_d rfl (d_assign rfl ?_)
          refine tl_d rfl (d_assign rfl ?_)
          refine tl_d rfl (d_assign rfl ?_)
          refine tl_nil ?_
          refine q_then_code ?_
          refine t_seq ?_
          refine t_seq ?_
          obtain ⟨o162, ho163, hf⟩ := bind_some hf
          refine t_cut (X := Bool) (fun x => match x with | s161 => (([(0, u0), (4, z44), (5, (.int .i64 (IntKind.i64.wrap ((IntKind.i64.wrap (s45 + (1 : Int))) + c78.2.1)))), (6, (.int .i64 s46)), (7, .pointer (some ⟨b74, 0, none⟩)), (9, (.int .i64 c132.2.1)), (11, (.int .u64 c132.1)), (101, .bool s161)], [(rSl 1 (rInt .u8)).fact u0 a0], [Own.buf z44 64 rApi_Item s43, Own.box b74 rApi_Item (((((⟨[], ((a0).getD (s45).toNat (rInt .u8).zeroD), (rArr 32 (rInt .u8)).zeroD, (0 : Int)⟩ : Api_Item)).set_Name c78.1)).set_Of (((sub a0 (IntKind.i64.wrap ((IntKind.i64.wrap (s45 + (1 : Int))) + c78.2.1)) (IntKind.i64.wrap ((IntKind.i64.wrap ((IntKind.i64.wrap (s45 + (1 : Int))) + c78.2.1)) + (32 : Int))))).take 32))]) : Sym)) (fun x => match x with | s161 => s161 = o162) ?_ ?_
          · have hf := ho163; clear ho163
            rcases bool_tf (!decide (c132.2.2 = (0 : Int))) with hb160 | hb160
            · have hf := if_t hb160 hf
              refine t_region ?_
              refine tl_d rfl (d_move rfl ?_)
              refine tl_d rfl (d_neq rfl rfl ?_)
              refine tl_d rfl (d_move rfl ?_)
              refine tl_off (gd_off rfl rfl rfl hb160) rfl rfl ?_
              refine tl_off (gd_off rfl rfl rfl hb160) rfl rfl ?_
              refine tl_d rfl (d_pick_true rfl hb160 rfl ?_)
              refine tl_nil ?_
              have hr := Option.some.inj hf; subst hr
              exact q_cut true rfl ⟨rfl, ⟨rfl, ⟨rfl, ⟨rfl, ⟨rfl, ⟨rfl, ⟨rfl, ⟨rfl, trivial⟩⟩⟩⟩⟩⟩⟩⟩ ⟨mem_at 9 rfl, trivial⟩ [0, 1] (Sel.cons rfl (Sel.cons rfl Sel.nil)) rfl
            · have hf := if_f hb160 hf
              refine t_region ?_
              refine tl_d rfl (d_move rfl ?_)
              refine tl_d rfl (d_neq rfl rfl ?_)
              refine tl_d rfl (d_move rfl ?_)
              refine tl_dg (gd_on rfl rfl rfl hb160) rfl (d_move rfl ?_)
              refine tl_dg (gd_on rfl rfl rfl hb160) rfl (d_gtr rfl rfl ?_)
              refine tl_d rfl (d_pick_false rfl hb160 rfl ?_)
              refine tl_nil ?_
              have hr := Option.some.inj hf; subst hr
              exact q_cut (decide ((9223372036854775807 : Int) < c132.1)) rfl ⟨rfl, ⟨rfl, ⟨rfl, ⟨rfl, ⟨rfl, ⟨rfl, ⟨rfl, ⟨rfl, trivial⟩⟩⟩⟩⟩⟩⟩⟩ ⟨mem_at 9 rfl, trivial⟩ [0, 1] (Sel.cons rfl (Sel.cons rfl Sel.nil)) rfl
          rintro s161 rfl
          refine q_then_code ?_
          refine t_cond rfl (fun hb164 => ?_) (fun hb164 => ?_)
          · have hf := if_t hb164 hf
            refine t_seq ?_
            refine t_region ?_
            refine tl_d rfl (d_assign rfl ?_)
            refine tl_d rfl (d_assign rfl ?_)
            refine tl_nil ?_
            refine q_then_code ?_
            refine t_ret ?_
            refine q_then_ret ?_
            refine q_block_ret ?_
            refine q_then_ret ?_
            refine q_then_ret ?_
            have hr := Option.some.inj hf; try subst hr
            have hf := hout47
            refine q_block_ret ?_
            refine q_then_ret ?_
            have hr := Option.some.inj hf; subst hr
            refine q_ret (post := fun w w' m v => ∃ v0 v1, v = .tuple #[v0, v1] ∧ OwnRes rApi_Item 64 w w' m v0 ([] : (List Api_Item)) ∧ ∀ m', (∀ b, b ∈ m' → b ∈ m ∨ bufBlk v0 = some b) → (rInt .i64).val w' m' v1 (4 : Int)) hR _ (.inl rfl) (fun a w hs => ?_)
            exact ⟨_, run_results rfl (RvOk.cons (rv_tmp hs rfl) (RvOk.cons (rv_tmp hs rfl) RvOk.nil)), _, _, rfl, ownres_nil, fun m' hm' => ⟨[_], ⟨rfl, rfl⟩, rfl⟩⟩
          · have hf := if_f hb164 hf
            refine t_skip ?_
            refine q_then_code ?_
            refine t_seq ?_
            refine t_region ?_
            refine tl_d rfl (d_move rfl ?_)
            refine tl_d rfl (d_conv Try.underlying91 Try.underlying2 rfl ?_)
            refine tl_d rfl (d_field_own rfl fo54_3 ?_)
            refine tl_g _ rfl (g_store_box 1 rfl rfl rfl (Fld.at0 fl_Api_Item_Size) trivial (hv_int (wrap_wrap _ _)) ty2 (List.mem_singleton_self _) ?_)
            refine tl_nil ?_
            refine q_then_code ?_
            refine t_seq ?_
            refine t_region ?_
            refine tl_d rfl (d_move rfl ?_)
            refine tl_d rfl (d_add rfl rfl ?_)
            refine tl_d rfl (d_move rfl ?_)
            refine tl_d rfl (d_add rfl rfl ?_)
            refine tl_d rfl (d_assign rfl ?_)
            refine tl_nil ?_
            refine q_then_code ?_
            obtain ⟨hn168, hf⟩ := need_some hf
            refine t_region ?_
            refine tl_d rfl (d_move rfl ?_)
            refine tl_d rfl (d_load_box 1 rfl rfl (Fld.self rApi_Item) trivial ty54 rfl (fun v170 => ?_))
            refine tl_g [] rfl (g_buildSlice (R := rApi_Item) (l := [(((((((⟨[], ((a0).getD (s45).toNat (rInt .u8).zeroD), (rArr 32 (rInt .u8)).zeroD, (0 : Int)⟩ : Api_Item)).set_Name c78.1)).set_Of (((sub a0 (IntKind.i64.wrap ((IntKind.i64.wrap (s45 + (1 : Int))) + c78.2.1)) (IntKind.i64.wrap ((IntKind.i64.wrap ((IntKind.i64.wrap (s45 + (1 : Int))) + c78.2.1)) + (32 : Int))))).take 32))).set_Size (IntKind.i64.wrap c132.1))]) rfl Try.underlying52 ty54 ⟨rfl, by decide, by decide, by decide⟩ (PartsOk.cons rfl rfl (hv_fact (mem_at 0 rfl)) PartsOk.nil) rfl (fun v172 => ?_))
            refine tl_g _ rfl (g_append_buf 0 2 rfl rfl rfl rfl rfl rfl Try.underlying52 ⟨_, Try.underlying52, fun k h => by cases h⟩ ty54 hn168 (List.mem_singleton_self _) (fun v173 => ?_))
            refine tl_d rfl (d_assign rfl ?_)
            refine tl_nil ?_
            refine q_block_normal ?_
            refine q_then_code ?_
            refine t_region ?_
            refine tl_d rfl (d_move rfl ?_)
            refine tl_d rfl (d_add rfl rfl ?_)
            refine tl_d rfl (d_assign rfl ?_)
            refine tl_nil ?_
            exact q_round kq48 ((s43 ++ [(((((((⟨[], ((a0).getD (s45).toNat (rInt .u8).zeroD), (rArr 32 (rInt .u8)).zeroD, (0 : Int)⟩ : Api_Item)).set_Name c78.1)).set_Of (((sub a0 (IntKind.i64.wrap ((IntKind.i64.wrap (s45 + (1 : Int))) + c78.2.1)) (IntKind.i64.wrap ((IntKind.i64.wrap ((IntKind.i64.wrap (s45 + (1 : Int))) + c78.2.1)) + (32 : Int))))).take 32))).set_Size (IntKind.i64.wrap c132.1))]), (IntKind.i64.wrap ((IntKind.i64.wrap ((IntKind.i64.wrap ((IntKind.i64.wrap (s45 + (1 : Int))) + c78.2.1)) + (32 : Int))) + c132.2.1)), (IntKind.i64.wrap (s46 + (1 : Int))), v173) (Nat.lt_succ_self kq48) ⟨(wrap_wrap _ _), (wrap_wrap _ _)⟩ hf ⟨rfl, ⟨rfl, ⟨rfl, ⟨rfl, trivial⟩⟩⟩⟩ ⟨mem_at 1 rfl, trivial⟩ [0] (Sel.cons rfl Sel.nil) rfl
    · have hf := if_f hb58 hf
      refine t_exit ?_
      refine q_then_exit ?_
      refine q_then_exit ?_
      have hr := Option.some.inj hf; try subst hr
      have hf := hout47
      try dsimp only at hf
      refine q_block_hit ?_
      refine q_then_code ?_
      refine t_seq ?_
      obtain ⟨c174, hc175, hf⟩ := bind_some hf
      refine t_region ?_
      refine tl_d rfl (d_move rfl ?_)
      refine tl_g [] rfl (g_callo2 rfl hfn37 (FnX.flat (fun _ _ _ _ _ ⟨v0, v1, e, h0, h1⟩ => ⟨v0, v1, e, Flat.own Flat.int h0, fun m' hm' => Flat.val Flat.int (h1 [] (by intro b hb; cases hb))⟩) (cofferref15_Bytes_ok _ _ _ _ hc175)) (Evs.cons rfl Evs.nil) (fun a w hs => bor_one hs 0 rfl (fun hs1 => bor_end hs1 ((hv_fact (mem_at 0 rfl)) _ _ _ _ hs1))) (fun v182 v183 => ?_))
      refine tl_int (mem_at 0 rfl) (fun hv187 hw186 => ?_)
      subst hv187
      refine tl_d rfl (d_move rfl ?_)
      refine tl_d rfl (d_extract rfl rfl ?_)
      refine tl_d rfl (d_extract rfl rfl ?_)
      refine tl_d rfl (d_assign rfl ?_)
      refine tl_d rfl (d_assign rfl ?_)
      refine tl_nil ?_
      refine q_then_code ?_
      refine t_seq ?_
      refine t_seq ?_
      obtain ⟨o195, ho196, hf⟩ := bind_some hf
      refine t_cut (X := Bool) (fun x => match x with | s194 => (([(4, z44), (126, .bool s194)], [], [Own.buf z44 64 rApi_Item s43]) : Sym)) (fun x => match x with | s194 => s194 = o195) ?_ ?_
      · have hf := ho196; clear ho196
        rcases bool_tf (!decide (c174.2 = (0 : Int))) with hb188 | hb188
        · have hf := if_t hb188 hf
          refine t_region ?_
          refine tl_d rfl (d_move rfl ?_)
          refine tl_d rfl (d_neq rfl rfl ?_)
          refine tl_d rfl (d_move rfl ?_)
          refine tl_off (gd_off rfl rfl rfl hb188) rfl rfl ?_
          refine tl_off (gd_off rfl rfl rfl hb188) rfl rfl ?_
          refine tl_off (gd_off rfl rfl rfl hb188) rfl rfl ?_
          refine tl_off (gd_off rfl rfl rfl hb188) rfl rfl ?_
          refine tl_off (gd_off rfl rfl rfl hb188) rfl rfl ?_
          refine tl_d rfl (d_pick_true rfl hb188 rfl ?_)
          refine tl_nil ?_
          have hr := Option.some.inj hf; subst hr
          exact q_cut true rfl ⟨rfl, ⟨rfl, trivial⟩⟩ trivial [0] (Sel.cons rfl Sel.nil) rfl
        · have hf := if_f hb188 hf
          refine t_region ?_
          refine tl_d rfl (d_move rfl ?_)
          refine tl_d rfl (d_neq rfl rfl ?_)
          refine tl_d rfl (d_move rfl ?_)
          refine tl_dg (gd_on rfl rfl rfl hb188) rfl (d_move rfl ?_)
          refine tl_freeze 1 rfl ?_
          refine tl_dg (gd_on rfl rfl rfl hb188) rfl (d_bytes_str rfl (mem_at 0 rfl) Try.underlying32 Try.underlying5 Try.underlying9 (fun v198 => ?_))
          refine tl_dg (gd_on rfl rfl rfl hb188) rfl (d_move rfl ?_)
          refine tl_dg (gd_on rfl rfl rfl hb188) rfl (d_bytes_str rfl (mem_at 4 rfl) Try.underlying32 Try.underlying5 Try.underlying9 (fun v200 => ?_))
          refine tl_dg (gd_on rfl rfl rfl hb188) rfl (d_str_cmp (!decide (c174.1 = a0)) rfl rfl (mem_at 1 rfl) (mem_at 0 rfl) (.inr (.inl ⟨rfl, rfl⟩)) ?_)
          refine tl_d rfl (d_pick_false rfl hb188 rfl ?_)
          refine tl_nil ?_
          have hr := Option.some.inj hf; subst hr
          exact q_cut (!decide (c174.1 = a0)) rfl ⟨rfl, ⟨rfl, trivial⟩⟩ trivial [0] (Sel.cons rfl Sel.nil) rfl
      rintro s194 rfl
      refine q_then_code ?_
      refine t_cond rfl (fun hb202 => ?_) (fun hb202 => ?_)
      · have hf := if_t hb202 hf
        refine t_seq ?_
        refine t_region ?_
        refine tl_d rfl (d_assign rfl ?_)
        refine tl_d rfl (d_assign rfl ?_)
        refine tl_nil ?_
        refine q_then_code ?_
        refine t_ret ?_
        refine q_then_ret ?_
        have hr := Option.some.inj hf; subst hr
        refine q_ret (post := fun w w' m v => ∃ v0 v1, v = .tuple #[v0, v1] ∧ OwnRes rApi_Item 64 w w' m v0 ([] : (List Api_Item)) ∧ ∀ m', (∀ b, b ∈ m' → b ∈ m ∨ bufBlk v0 = some b) → (rInt .i64).val w' m' v1 (4 : Int)) hR _ (.inl rfl) (fun a w hs => ?_)
        exact ⟨_, run_results rfl (RvOk.cons (rv_tmp hs rfl) (RvOk.cons (rv_tmp hs rfl) RvOk.nil)), _, _, rfl, ownres_nil, fun m' hm' => ⟨[_], ⟨rfl, rfl⟩, rfl⟩⟩
      · have hf := if_f hb202 hf
        refine t_skip ?_
        refine q_then_code ?_
        refine t_seq ?_
        refine t_region ?_
        refine tl_d rfl (d_move rfl ?_)
        refine tl_d rfl (d_assign rfl ?_)
        refine tl_d rfl (d_assign rfl ?_)
        refine tl_nil ?_
        refine q_then_code ?_
        refine t_ret ?_
        have hr := Option.some.inj hf; subst hr
        refine q_ret (post := fun w w' m v => ∃ v0 v1, v = .tuple #[v0, v1] ∧ OwnRes rApi_Item 64 w w' m v0 s43 ∧ ∀ m', (∀ b, b ∈ m' → b ∈ m ∨ bufBlk v0 = some b) → (rInt .i64).val w' m' v1 (0 : Int)) hR _ (.inl rfl) (fun a w hs => ?_)
        exact ⟨_, run_results rfl (RvOk.cons (rv_tmp hs rfl) (RvOk.cons (rv_tmp hs rfl) RvOk.nil)), _, _, rfl, (hs.ownres (i := 0) rfl), fun m' hm' => ⟨[_], ⟨rfl, rfl⟩, rfl⟩⟩

def cofferref9_Less.f (a0 : (List Int)) (a1 : (List Int)) : Option (Bool) := (some (lexLt (sub a0 (0 : Int) (32 : Int)) (sub a1 (0 : Int) (32 : Int))))
set_option maxRecDepth 100000 in
set_option maxHeartbeats 400000 in
theorem cofferref9_Less_ok (a0 : (List Int)) (a1 : (List Int)) (u0 u1 : Value) (r : Bool) (hf : cofferref9_Less.f a0 a1 = some r) : Cf.FnX true Try.prog 45 [u0, u1] (fun w m => (rArr 32 (rInt .u8)).val w m u0 a0 ∧ (rArr 32 (rInt .u8)).val w m u1 a1) (fun w w' m v => rBool.val w' m v r) := by
  unfold cofferref9_Less.f at hf
  refine fn_of Try.func45 rfl (Nat.le_of_ble_eq_true rfl) [(rArr 32 (rInt .u8)).fact u0 a0, (rArr 32 (rInt .u8)).fact u1 a1] (fun w m h f hf => ?_) ?_
  · simp at hf; rcases hf with rfl | rfl
    · exact h.1
    · exact h.2
  intro w0 m0 R hR
  refine t_seq ?_
  refine t_region ?_
  refine tl_g [] rfl (g_box (R := (rArr 32 (rInt .u8))) rfl rfl (hv_fact (mem_at 0 rfl)) (fun b3 => ?_))
  refine tl_g [] rfl (g_box (R := (rArr 32 (rInt .u8))) rfl rfl (hv_fact (mem_at 1 rfl)) (fun b4 => ?_))
  refine tl_d rfl (d_assign rfl ?_)
  refine tl_nil ?_
  refine q_then_code ?_
  refine t_seq ?_
  refine t_any (n := 6) [] mixed ⟨by kernel_rfl, .inl rfl⟩ (np_then np_body) ?_
  refine ta_freezebox 0 rfl ?_
  refine ta_take (i := 0) rfl (by kernel_rfl) gd_none (d_slice_place (i := (0 : Int)) (j := (32 : Int)) 1 rfl (mem_at 0 rfl) (.inl ⟨rfl, rfl⟩) (.inl ⟨rfl, rfl⟩) Try.underlying29 ty5 (by decide) (by decide) (fun v15 => ?_))
  refine ta_take (i := 1) rfl (by kernel_rfl) gd_none (d_bytes_str rfl (mem_at 0 rfl) Try.underlying32 Try.underlying5 Try.underlying9 (fun v18 => ?_))
  refine ta_freezebox 1 rfl ?_
  refine ta_take (i := 2) rfl (by kernel_rfl) gd_none (d_slice_place (i := (0 : Int)) (j := (32 : Int)) 1 rfl (mem_at 0 rfl) (.inl ⟨rfl, rfl⟩) (.inl ⟨rfl, rfl⟩) Try.underlying29 ty5 (by decide) (by decide) (fun v20 => ?_))
  refine ta_take (i := 3) rfl (by kernel_rfl) gd_none (d_bytes_str rfl (mem_at 0 rfl) Try.underlying32 Try.underlying5 Try.underlying9 (fun v23 => ?_))
  refine ta_take (i := 4) rfl (by kernel_rfl) gd_none (d_str_cmp (lexLt (sub a0 (0 : Int) (32 : Int)) (sub a1 (0 : Int) (32 : Int))) rfl rfl (mem_at 3 rfl) (mem_at 0 rfl) (.inr (.inr (.inl ⟨rfl, rfl⟩))) ?_)
  refine ta_take (i := 5) rfl (by kernel_rfl) gd_none (d_assign rfl ?_)
  refine ta_done (by kernel_rfl) ?_
  refine q_then_code ?_
  refine t_ret ?_
  have hr := Option.some.inj hf; subst hr
  refine q_ret (post := fun w w' m v => rBool.val w' m v (lexLt (sub a0 (0 : Int) (32 : Int)) (sub a1 (0 : Int) (32 : Int)))) hR _ (.inl rfl) (fun a w hs => ?_)
  exact ⟨_, run_results rfl (RvOk.cons (rv_tmp hs rfl) RvOk.nil), (hs.hv hv_bool)⟩

def cofferref17_With.l0 (a0 : (List (List Int))) (a1 : (List Int)) : Nat → Int → Option (Int)
  | 0, _ => none
  | k + 1, s3 => ((if (decide (s3 < ((a0).length : Int))) = true then (need (0 ≤ s3 ∧ s3 < ((a0).length : Int)) ((cofferref9_Less.f ((a0).getD (s3).toNat (rArr 32 (rInt .u8)).zeroD) a1).bind fun c17 => (some c17))) else (some false))).bind fun s22 => (if s22 = true then (cofferref17_With.l0 a0 a1 k (IntKind.i64.wrap (s3 + (1 : Int)))) else (some (s3)))
def cofferref17_With.f (k : Nat) (a0 : (List (List Int))) (a1 : (List Int)) : Option ((List (List Int))) := (cofferref17_With.l0 a0 a1 k (0 : Int)).bind fun o95 => (match o95 with | s3 => ((if (decide (s3 < ((a0).length : Int))) = true then (need (0 ≤ s3 ∧ s3 < ((a0).length : Int)) ((some (decide (((a0).getD (s3).toNat (rArr 32 (rInt .u8)).zeroD) = a1))))) else (some false))).bind fun s46 => (if s46 = true then (some a0) else (need (0 ≤ (0 : Int) ∧ (0 : Int) ≤ s3 ∧ s3 ≤ ((a0).length : Int)) (need (fits 32 ((([] : List (List Int))).length + ((sub a0 (0 : Int) s3)).length)) (need (fits 32 (((([] : List (List Int)) ++ (sub a0 (0 : Int) s3))).length + ([a1]).length)) (need (0 ≤ s3 ∧ s3 ≤ ((a0).length : Int) ∧ ((a0).length : Int) ≤ ((a0).length : Int)) (need (fits 32 ((((([] : List (List Int)) ++ (sub a0 (0 : Int) s3)) ++ [a1])).length + ((sub a0 s3 ((a0).length : Int))).length)) ((some (((([] : List (List Int)) ++ (sub a0 (0 : Int) s3)) ++ [a1]) ++ (sub a0 s3 ((a0).length : Int))))))))))))
set_option maxRecDepth 100000 in
set_option maxHeartbeats 1980000 in
theorem cofferref17_With_ok (k : Nat) (a0 : (List (List Int))) (a1 : (List Int)) (u0 u1 : Value) (r : (List (List Int))) (hf : cofferref17_With.f k a0 a1 = some r) : Cf.FnX true Try.prog 29 [u0, u1] (fun w m => (rSl 32 (rArr 32 (rInt .u8))).val w m u0 a0 ∧ (rArr 32 (rInt .u8)).val w m u1 a1) (fun w w' m v => (rSl 32 (rArr 32 (rInt .u8))).val w' m v r) := by
  unfold cofferref17_With.f at hf
  refine fn_of Try.func29 rfl (Nat.le_of_ble_eq_true rfl) [(rSl 32 (rArr 32 (rInt .u8))).fact u0 a0, (rArr 32 (rInt .u8)).fact u1 a1] (fun w m h f hf => ?_) ?_
  · simp at hf; rcases hf with rfl | rfl
    · exact h.1
    · exact h.2
  intro w0 m0 R hR
  refine t_seq ?_
  refine t_region ?_
  refine tl_g [] rfl (g_box (R := (rArr 32 (rInt .u8))) rfl rfl (hv_fact (mem_at 1 rfl)) (fun b2 => ?_))
  refine tl_d rfl (d_assign rfl ?_)
  refine tl_nil ?_
  refine q_then_code ?_
  refine t_seq ?_
  refine t_region ?_
  refine tl_d rfl (d_assign rfl ?_)
  refine tl_nil ?_
  refine q_then_code ?_
  refine t_seq ?_
  refine t_block ?_
  obtain ⟨o95, ho96, hf⟩ := bind_some hf
  refine t_loop (X := Int) (O := Int) (fun k x => match x with | s3 => cofferref17_With.l0 a0 a1 k s3) o95 (fun x => match x with | s3 => (([(0, u0), (3, .pointer (some ⟨b2, 0, none⟩)), (5, .int .i64 s3)], [(rSl 32 (rArr 32 (rInt .u8))).fact u0 a0], [Own.box b2 (rArr 32 (rInt .u8)) a1]) : Sym)) (fun x => match x with | s3 => IntKind.i64.wrap s3 = s3) k (0 : Int) ho96 rfl ⟨rfl, ⟨rfl, ⟨rfl, trivial⟩⟩⟩ ⟨mem_at 0 rfl, trivial⟩ [0] (Sel.cons rfl Sel.nil) rfl ?_
  clear ho96
  rintro k7 s3 hw_s3 hk6
  have hout4 := hf; clear hf
  obtain ⟨kq5, rfl⟩ : ∃ q, k7 = q + 1 := by cases k7 with | zero => cases hk6 | succ q => exact ⟨q, rfl⟩
  have hf := hk6
  clear hk6; dsimp only [cofferref17_With.l0] at hf
  refine t_seq ?_
  refine t_seq ?_
  obtain ⟨o23, ho24, hf⟩ := bind_some hf
  refine t_cut (X := Bool) (fun x => match x with | s22 => (([(0, u0), (3, .pointer (some ⟨b2, 0, none⟩)), (5, (.int .i64 s3)), (17, .bool s22)], [(rSl 32 (rArr 32 (rInt .u8))).fact u0 a0], [Own.box b2 (rArr 32 (rInt .u8)) a1]) : Sym)) (fun x => match x with | s22 => s22 = o23) ?_ ?_
  · have hf := ho24; clear ho24
    rcases bool_tf (decide (s3 < ((a0).length : Int))) with hb9 | hb9
    · have hf := if_t hb9 hf
      obtain ⟨hn10, hf⟩ := need_some hf
      obtain ⟨c17, hc18, hf⟩ := bind_some hf
      refine t_any (n := 12) [] mixed ⟨by kernel_rfl, .inl rfl⟩ (np_cut (np_then (np_then (np_then (np_block (np_then np_body)))))) ?_
      refine ta_take (i := 0) rfl (by kernel_rfl) gd_none (d_move rfl ?_)
      refine ta_take (i := 1) rfl (by kernel_rfl) gd_none (d_move rfl ?_)
      refine ta_take (i := 2) rfl (by kernel_rfl) gd_none (d_len_sl rfl (mem_at 0 rfl) Try.underlying23 (fun hl25 _ => ?_))
      refine ta_take (i := 3) rfl (by kernel_rfl) gd_none (d_lss rfl rfl ?_)
      refine ta_take (i := 4) rfl (by kernel_rfl) gd_none (d_move rfl ?_)
      refine ta_take (i := 5) rfl (by kernel_rfl) (gd_on rfl rfl rfl hb9) (d_move rfl ?_)
      refine ta_take (i := 6) rfl (by kernel_rfl) (gd_on rfl rfl rfl hb9) (d_move rfl ?_)
      refine ta_take (i := 7) rfl (by kernel_rfl) (gd_on rfl rfl rfl hb9) (d_index_sl rfl (mem_at 0 rfl) rfl Try.underlying23 ty29 hn10 (fun p26 => ?_))
      refine ta_take (i := 8) rfl (by kernel_rfl) (gd_on rfl rfl rfl hb9) (d_load_place rfl (mem_at 0 rfl) ty29 (fun v28 => ?_))
      refine ta_take (i := 9) rfl (by kernel_rfl) (gd_on rfl rfl rfl hb9) (d_load_box 0 rfl rfl (Fld.self (rArr 32 (rInt .u8))) trivial ty29 rfl (fun v30 => ?_))
      refine ta_one (i := 10) (by kernel_rfl) rfl rfl (gd_on rfl rfl rfl hb9) (g_call1 rfl hfn45 (cofferref9_Less_ok _ _ _ _ _ hc18) (Evs.cons rfl (Evs.cons rfl Evs.nil)) (fun a w hs => ⟨(hv_fact (mem_at 1 rfl)) _ _ _ _ hs, (hv_fact (mem_at 0 rfl)) _ _ _ _ hs⟩) (fun v32 => ?_))
      refine ta_bool (mem_at 0 rfl) (fun hv34 => ?_)
      subst hv34
      refine ta_take (i := 11) rfl (by kernel_rfl) gd_none (d_pick_true rfl hb9 rfl ?_)
      refine ta_done (by kernel_rfl) ?_
      have hr := Option.some.inj hf; subst hr
      exact q_cut c17 rfl ⟨rfl, ⟨rfl, ⟨rfl, ⟨rfl, trivial⟩⟩⟩⟩ ⟨mem_at 4 rfl, trivial⟩ [0] (Sel.cons rfl Sel.nil) rfl
    · have hf := if_f hb9 hf
      refine t_any (n := 12) [] mixed ⟨by kernel_rfl, .inl rfl⟩ (np_cut (np_then (np_then (np_then (np_block (np_then np_body)))))) ?_
      refine ta_take (i := 0) rfl (by kernel_rfl) gd_none (d_move rfl ?_)
      refine ta_take (i := 1) rfl (by kernel_rfl) gd_none (d_move rfl ?_)
      refine ta_take (i := 2) rfl (by kernel_rfl) gd_none (d_len_sl rfl (mem_at 0 rfl) Try.underlying23 (fun hl35 _ => ?_))
      refine ta_take (i := 3) rfl (by kernel_rfl) gd_none (d_lss rfl rfl ?_)
      refine ta_take (i := 4) rfl (by kernel_rfl) gd_none (d_move rfl ?_)
      refine ta_off (i := 5) rfl (by kernel_rfl) (gd_off rfl rfl rfl hb9) ?_
      refine ta_off (i := 6) rfl (by kernel_rfl) (gd_off rfl rfl rfl hb9) ?_
      refine ta_off (i := 7) rfl (by kernel_rfl) (gd_off rfl rfl rfl hb9) ?_
      refine ta_off (i := 8) rfl (by kernel_rfl) (gd_off rfl rfl rfl hb9) ?_
      refine ta_off (i := 9) rfl (by kernel_rfl) (gd_off rfl rfl rfl hb9) ?_
      refine ta_off (i := 10) rfl (by kernel_rfl) (gd_off rfl rfl rfl hb9) ?_
      refine ta_take (i := 11) rfl (by kernel_rfl) gd_none (d_pick_false rfl hb9 rfl ?_)
      refine ta_done (by kernel_rfl) ?_
      have hr := Option.some.inj hf; subst hr
      exact q_cut false rfl ⟨rfl, ⟨rfl, ⟨rfl, ⟨rfl, trivial⟩⟩⟩⟩ ⟨mem_at 0 rfl, trivial⟩ [0] (Sel.cons rfl Sel.nil) rfl
  rintro s22 rfl
  refine q_then_code ?_
  refine t_cond rfl (fun hb36 => ?_) (fun hb36 => ?_)
  · have hf := if_t hb36 hf
    refine t_skip ?_
    refine q_then_code ?_
    refine t_block ?_
    refine t_region ?_
    refine tl_d rfl (d_move rfl ?_)
    refine tl_d rfl (d_add rfl rfl ?_)
    refine tl_d rfl (d_assign rfl ?_)
    refine tl_nil ?_
    refine q_block_normal ?_
    exact q_round kq5 (IntKind.i64.wrap (s3 + (1 : Int))) (Nat.lt_succ_self kq5) (wrap_wrap _ _) hf ⟨rfl, ⟨rfl, ⟨rfl, trivial⟩⟩⟩ ⟨mem_at 0 rfl, trivial⟩ [0] (Sel.cons rfl Sel.nil) rfl
  · have hf := if_f hb36 hf
    refine t_exit ?_
    refine q_then_exit ?_
    refine q_then_exit ?_
    have hr := Option.some.inj hf; try subst hr
    have hf := hout4
    try dsimp only at hf
    refine q_block_hit ?_
    refine q_then_code ?_
    refine t_seq ?_
    refine t_seq ?_
    obtain ⟨o47, ho48, hf⟩ := bind_some hf
    refine t_cut (X := Bool) (fun x => match x with | s46 => (([(0, u0), (3, .pointer (some ⟨b2, 0, none⟩)), (5, (.int .i64 s3)), (31, .bool s46)], [(rSl 32 (rArr 32 (rInt .u8))).fact u0 a0], [Own.box b2 (rArr 32 (rInt .u8)) a1]) : Sym)) (fun x => match x with | s46 => s46 = o47) ?_ ?_
    · have hf := ho48; clear ho48
      rcases bool_tf (decide (s3 < ((a0).length : Int))) with hb38 | hb38
      · have hf := if_t hb38 hf
        obtain ⟨hn39, hf⟩ := need_some hf
        refine t_any (n := 12) [] mixed ⟨by kernel_rfl, .inl rfl⟩ (np_cut (np_then (np_then np_body))) ?_
        refine ta_take (i := 0) rfl (by kernel_rfl) gd_none (d_move rfl ?_)
        refine ta_take (i := 1) rfl (by kernel_rfl) gd_none (d_move rfl ?_)
        refine ta_take (i := 2) rfl (by kernel_rfl) gd_none (d_len_sl rfl (mem_at 0 rfl) Try.underlying23 (fun hl49 _ => ?_))
        refine ta_take (i := 3) rfl (by kernel_rfl) gd_none (d_lss rfl rfl ?_)
        refine ta_take (i := 4) rfl (by kernel_rfl) gd_none (d_move rfl ?_)
        refine ta_take (i := 5) rfl (by kernel_rfl) (gd_on rfl rfl rfl hb38) (d_move rfl ?_)
        refine ta_take (i := 6) rfl (by kernel_rfl) (gd_on rfl rfl rfl hb38) (d_move rfl ?_)
        refine ta_take (i := 7) rfl (by kernel_rfl) (gd_on rfl rfl rfl hb38) (d_index_sl rfl (mem_at 0 rfl) rfl Try.underlying23 ty29 hn39 (fun p50 => ?_))
        refine ta_take (i := 8) rfl (by kernel_rfl) (gd_on rfl rfl rfl hb38) (d_load_place rfl (mem_at 0 rfl) ty29 (fun v52 => ?_))
        refine ta_take (i := 9) rfl (by kernel_rfl) (gd_on rfl rfl rfl hb38) (d_load_box 0 rfl rfl (Fld.self (rArr 32 (rInt .u8))) trivial ty29 rfl (fun v54 => ?_))
        refine ta_take (i := 10) rfl (by kernel_rfl) (gd_on rfl rfl rfl hb38) (d_eql_agg rfl rfl (mem_at 1 rfl) (mem_at 0 rfl) rfl (EqAt.arr Try.underlying29 ty5 (EqAt.int Try.underlying5)) (by decide) (by kernel_rfl) ?_)
        refine ta_take (i := 11) rfl (by kernel_rfl) gd_none (d_pick_true rfl hb38 rfl ?_)
        refine ta_done (by kernel_rfl) ?_
        have hr := Option.some.inj hf; subst hr
        exact q_cut (decide (((a0).getD (s3).toNat (rArr 32 (rInt .u8)).zeroD) = a1)) rfl ⟨rfl, ⟨rfl, ⟨rfl, ⟨rfl, trivial⟩⟩⟩⟩ ⟨mem_at 3 rfl, trivial⟩ [0] (Sel.cons rfl Sel.nil) rfl
      · have hf := if_f hb38 hf
        refine t_any (n := 12) [] mixed ⟨by kernel_rfl, .inl rfl⟩ (np_cut (np_then (np_then np_body))) ?_
        refine ta_take (i := 0) rfl (by kernel_rfl) gd_none (d_move rfl ?_)
        refine ta_take (i := 1) rfl (by kernel_rfl) gd_none (d_move rfl ?_)
        refine ta_take (i := 2) rfl (by kernel_rfl) gd_none (d_len_sl rfl (mem_at 0 rfl) Try.underlying23 (fun hl56 _ => ?_))
        refine ta_take (i := 3) rfl (by kernel_rfl) gd_none (d_lss rfl rfl ?_)
        refine ta_take (i := 4) rfl (by kernel_rfl) gd_none (d_move rfl ?_)
        refine ta_off (i := 5) rfl (by kernel_rfl) (gd_off rfl rfl rfl hb38) ?_
        refine ta_off (i := 6) rfl (by kernel_rfl) (gd_off rfl rfl rfl hb38) ?_
        refine ta_off (i := 7) rfl (by kernel_rfl) (gd_off rfl rfl rfl hb38) ?_
        refine ta_off (i := 8) rfl (by kernel_rfl) (gd_off rfl rfl rfl hb38) ?_
        refine ta_off (i := 9) rfl (by kernel_rfl) (gd_off rfl rfl rfl hb38) ?_
        refine ta_off (i := 10) rfl (by kernel_rfl) (gd_off rfl rfl rfl hb38) ?_
        refine ta_take (i := 11) rfl (by kernel_rfl) gd_none (d_pick_false rfl hb38 rfl ?_)
        refine ta_done (by kernel_rfl) ?_
        have hr := Option.some.inj hf; subst hr
        exact q_cut false rfl ⟨rfl, ⟨rfl, ⟨rfl, ⟨rfl, trivial⟩⟩⟩⟩ ⟨mem_at 0 rfl, trivial⟩ [0] (Sel.cons rfl Sel.nil) rfl
    rintro s46 rfl
    refine q_then_code ?_
    refine t_cond rfl (fun hb57 => ?_) (fun hb57 => ?_)
    · have hf := if_t hb57 hf
      refine t_seq ?_
      refine t_region ?_
      refine tl_d rfl (d_move rfl ?_)
      refine tl_d rfl (d_assign rfl ?_)
      refine tl_nil ?_
      refine q_then_code ?_
      refine t_ret ?_
      refine q_then_ret ?_
      have hr := Option.some.inj hf; subst hr
      refine q_ret (post := fun w w' m v => (rSl 32 (rArr 32 (rInt .u8))).val w' m v a0) hR _ (.inl rfl) (fun a w hs => ?_)
      exact ⟨_, run_results rfl (RvOk.cons (rv_tmp hs rfl) RvOk.nil), (hs.hv (hv_fact (mem_at 0 rfl)))⟩
    · have hf := if_f hb57 hf
      refine t_skip ?_
      refine q_then_code ?_
      refine t_seq ?_
      obtain ⟨hn61, hf⟩ := need_some hf
      obtain ⟨hn62, hf⟩ := need_some hf
      obtain ⟨hn67, hf⟩ := need_some hf
      obtain ⟨hn71, hf⟩ := need_some hf
      obtain ⟨hn72, hf⟩ := need_some hf
      refine t_cut (X := Value) (fun x => match x with | z74 => (([(4, z74)], [], [Own.buf z74 32 (rArr 32 (rInt .u8)) (((([] : List (List Int)) ++ (sub a0 (0 : Int) s3)) ++ [a1]) ++ (sub a0 s3 ((a0).length : Int)))]) : Sym)) (fun _ => True) ?_ ?_
      · refine t_any (n := 13) [1, 2, 3, 4, 5, 6, 7, 8, 9, 10, 11, 12] mixed ⟨by kernel_rfl, .inl rfl⟩ (np_cut (np_then np_body)) ?_
        refine ta_take (i := 1) rfl (by kernel_rfl) gd_none (d_move rfl ?_)
        refine ta_take (i := 2) rfl (by kernel_rfl) gd_none (d_move rfl ?_)
        refine ta_take (i := 3) rfl (by kernel_rfl) gd_none (d_slice_sl (i := (0 : Int)) (j := s3) rfl (mem_at 0 rfl) (.inl ⟨rfl, rfl⟩) (.inr ⟨_, _, rfl, rfl⟩) Try.underlying23 ty29 hn61 (fun v75 => ?_))
        refine ta_take (i := 5) rfl (by kernel_rfl) gd_none (d_load_box 0 rfl rfl (Fld.self (rArr 32 (rInt .u8))) trivial ty29 rfl (fun v77 => ?_))
        refine ta_take (i := 8) rfl (by kernel_rfl) gd_none (d_move rfl ?_)
        refine ta_take (i := 9) rfl (by kernel_rfl) gd_none (d_move rfl ?_)
        refine ta_take (i := 10) rfl (by kernel_rfl) gd_none (d_slice_sl (i := s3) (j := ((a0).length : Int)) rfl (mem_at 2 rfl) (.inr ⟨_, _, rfl, rfl⟩) (.inl ⟨rfl, rfl⟩) Try.underlying23 ty29 hn71 (fun v79 => ?_))
        refine ta_two (i := 0) (j := 6) (by kernel_rfl) rfl rfl rfl gd_none gd_none ?_ ?_
        · refine g_buildSlice (R := (rArr 32 (rInt .u8))) (l := []) rfl Try.underlying23 ty29 ⟨rfl, by decide, by decide, by decide⟩ PartsOk.nil rfl (fun v81 => ?_)
          refine ta_two (i := 4) (j := 6) (by kernel_rfl) rfl rfl rfl gd_none gd_none ?_ ?_
          · refine g_append_sl (l2 := (sub a0 (0 : Int) s3)) 1 rfl rfl rfl rfl (hv_fact (mem_at 2 rfl)) Try.underlying23 ⟨_, Try.underlying23, fun k h => by cases h⟩ ty29 hn62 (by decide) (fun v82 => ?_)
            refine ta_one (i := 6) (by kernel_rfl) rfl rfl gd_none (g_buildSlice (R := (rArr 32 (rInt .u8))) (l := [a1]) rfl Try.underlying23 ty29 ⟨rfl, by decide, by decide, by decide⟩ (PartsOk.cons rfl rfl (hv_fact (mem_at 1 rfl)) PartsOk.nil) rfl (fun v83 => ?_))
            refine ta_one (i := 7) (by kernel_rfl) rfl rfl gd_none (g_append_buf 1 2 rfl rfl rfl rfl rfl rfl Try.underlying23 ⟨_, Try.underlying23, fun k h => by cases h⟩ ty29 hn67 (by decide) (fun v84 => ?_))
            refine ta_one (i := 11) (by kernel_rfl) rfl rfl gd_none (g_append_sl (l2 := (sub a0 s3 ((a0).length : Int))) 1 rfl rfl rfl rfl (hv_fact (mem_at 0 rfl)) Try.underlying23 ⟨_, Try.underlying23, fun k h => by cases h⟩ ty29 hn72 (by decide) (fun v85 => ?_))
            refine ta_take (i := 12) rfl (by kernel_rfl) gd_none (d_assign rfl ?_)
            refine ta_done (by kernel_rfl) ?_
            exact q_cut v85 trivial ⟨rfl, trivial⟩ trivial [1] (Sel.cons rfl Sel.nil) rfl
          · refine g_buildSlice (R := (rArr 32 (rInt .u8))) (l := [a1]) rfl Try.underlying23 ty29 ⟨rfl, by decide, by decide, by decide⟩ (PartsOk.cons rfl rfl (hv_fact (mem_at 1 rfl)) PartsOk.nil) rfl (fun v86 => ?_)
            refine ta_one (i := 4) (by kernel_rfl) rfl rfl gd_none (g_append_sl (l2 := (sub a0 (0 : Int) s3)) 1 rfl rfl rfl rfl (hv_fact (mem_at 2 rfl)) Try.underlying23 ⟨_, Try.underlying23, fun k h => by cases h⟩ ty29 hn62 (by decide) (fun v87 => ?_))
            refine ta_one (i := 7) (by kernel_rfl) rfl rfl gd_none (g_append_buf 1 2 rfl rfl rfl rfl rfl rfl Try.underlying23 ⟨_, Try.underlying23, fun k h => by cases h⟩ ty29 hn67 (by decide) (fun v88 => ?_))
            refine ta_one (i := 11) (by kernel_rfl) rfl rfl gd_none (g_append_sl (l2 := (sub a0 s3 ((a0).length : Int))) 1 rfl rfl rfl rfl (hv_fact (mem_at 0 rfl)) Try.underlying23 ⟨_, Try.underlying23, fun k h => by cases h⟩ ty29 hn72 (by decide) (fun v89 => ?_))
            refine ta_take (i := 12) rfl (by kernel_rfl) gd_none (d_assign rfl ?_)
            refine ta_done (by kernel_rfl) ?_
            exact q_cut v89 trivial ⟨rfl, trivial⟩ trivial [1] (Sel.cons rfl Sel.nil) rfl
        · refine g_buildSlice (R := (rArr 32 (rInt .u8))) (l := [a1]) rfl Try.underlying23 ty29 ⟨rfl, by decide, by decide, by decide⟩ (PartsOk.cons rfl rfl (hv_fact (mem_at 1 rfl)) PartsOk.nil) rfl (fun v90 => ?_)
          refine ta_one (i := 0) (by kernel_rfl) rfl rfl gd_none (g_buildSlice (R := (rArr 32 (rInt .u8))) (l := []) rfl Try.underlying23 ty29 ⟨rfl, by decide, by decide, by decide⟩ PartsOk.nil rfl (fun v91 => ?_))
          refine ta_one (i := 4) (by kernel_rfl) rfl rfl gd_none (g_append_sl (l2 := (sub a0 (0 : Int) s3)) 2 rfl rfl rfl rfl (hv_fact (mem_at 2 rfl)) Try.underlying23 ⟨_, Try.underlying23, fun k h => by cases h⟩ ty29 hn62 (by decide) (fun v92 => ?_))
          refine ta_one (i := 7) (by kernel_rfl) rfl rfl gd_none (g_append_buf 2 1 rfl rfl rfl rfl rfl rfl Try.underlying23 ⟨_, Try.underlying23, fun k h => by cases h⟩ ty29 hn67 (by decide) (fun v93 => ?_))
          refine ta_one (i := 11) (by kernel_rfl) rfl rfl gd_none (g_append_sl (l2 := (sub a0 s3 ((a0).length : Int))) 2 rfl rfl rfl rfl (hv_fact (mem_at 0 rfl)) Try.underlying23 ⟨_, Try.underlying23, fun k h => by cases h⟩ ty29 hn72 (by decide) (fun v94 => ?_))
          refine ta_take (i := 12) rfl (by kernel_rfl) gd_none (d_assign rfl ?_)
          refine ta_done (by kernel_rfl) ?_
          exact q_cut v94 trivial ⟨rfl, trivial⟩ trivial [2] (Sel.cons rfl Sel.nil) rfl
      rintro z74 _
      refine q_then_code ?_
      refine t_ret ?_
      have hr := Option.some.inj hf; subst hr
      refine q_ret (post := fun w w' m v => (rSl 32 (rArr 32 (rInt .u8))).val w' m v (((([] : List (List Int)) ++ (sub a0 (0 : Int) s3)) ++ [a1]) ++ (sub a0 s3 ((a0).length : Int)))) hR _ (.inl rfl) (fun a w hs => ?_)
      exact ⟨_, run_results rfl (RvOk.cons (rv_tmp hs rfl) RvOk.nil), (ownres_val hs.m0 (hs.ownres (i := 0) rfl))⟩

def cofferref18_Mark.l3 (c113 : (List Api_Item) × Int) (a0 : (List Api_Object)) : Nat → (List Bool) → Bool → Int → Option ((List Bool) × Bool)
  | 0, _, _, _ => none
  | k + 1, s133, s135, s136 => (if (decide (s136 < ((c113.1).length : Int))) = true then ((need (0 ≤ s136 ∧ s136 < ((c113.1).length : Int)) ((cofferref17_Find.f k a0 ((((c113.1).getD (s136).toNat rApi_Item.zeroD)).Of)).bind fun c156 => ((if (decide ((0 : Int) ≤ c156)) = true then (need (0 ≤ c156 ∧ c156 < ((s133).length : Int)) ((some (!((s133).getD (c156).toNat rBool.zeroD))))) else (some false))).bind fun s176 => ((if s176 = true then (need (0 ≤ c156 ∧ c156 < ((s133).length : Int)) ((some (((s133).set (c156).toNat true), true)))) else (some (s133, s135)))).bind fun (s181, s183) => (some (s181, s183))))).bind fun (s144, s146) => (cofferref18_Mark.l3 c113 a0 k s144 s146 (IntKind.i64.wrap (s136 + (1 : Int)))) else (some ((s133, s135))))
def cofferref18_Mark.l2 (a0 : (List Api_Object)) : Nat → (List Bool) → (List Bool) → Bool → Int → Option ((List Bool) × (List Bool) × Bool)
  | 0, _, _, _, _ => none
  | k + 1, s64, s66, s68, s69 => (if (decide (s69 < ((a0).length : Int))) = true then (((need (0 ≤ s69 ∧ s69 < ((s64).length : Int)) ((if (!((s64).getD (s69).toNat rBool.zeroD)) = true then (some true) else (need (0 ≤ s69 ∧ s69 < ((s66).length : Int)) ((some ((s66).getD (s69).toNat rBool.zeroD)))))))).bind fun s91 => (if s91 = true then (some (s64, s66, s68)) else (need (0 ≤ s69 ∧ s69 < ((s66).length : Int)) ((need (0 ≤ s69 ∧ s69 < ((a0).length : Int)) ((cofferref15_Take.f k (((a0).getD (s69).toNat rApi_Object.zeroD)).Data).bind fun c113 => (cofferref18_Mark.l3 c113 a0 k s64 s68 (0 : Int)).bind fun o192 => (match o192 with | (s133, s135) => (some (s133, ((s66).set (s69).toNat true), s135))))))))).bind fun (s77, s79, s81) => (cofferref18_Mark.l2 a0 k s77 s79 s81 (IntKind.i64.wrap (s69 + (1 : Int)))) else (some ((s64, s66, s68))))
def cofferref18_Mark.l4 (a0 : (List Api_Object)) (s54 : (List Bool)) : Nat → (List (List Int)) → Int → Option ((List (List Int)))
  | 0, _, _ => none
  | k + 1, s196, s199 => (if (decide (s199 < ((a0).length : Int))) = true then ((need (0 ≤ s199 ∧ s199 < ((s54).length : Int)) (((if ((s54).getD (s199).toNat rBool.zeroD) = true then (need (0 ≤ s199 ∧ s199 < ((a0).length : Int)) ((cofferref17_With.f k s196 (((a0).getD (s199).toNat rApi_Object.zeroD)).Of).bind fun c231 => (some c231))) else (some s196))).bind fun s218 => (some s218)))).bind fun s208 => (cofferref18_Mark.l4 a0 s54 k s208 (IntKind.i64.wrap (s199 + (1 : Int)))) else (some (s196)))
def cofferref18_Mark.l1 (a0 : (List Api_Object)) : Nat → (List Bool) → (List Bool) → Bool → Option ((List Bool) × (List Bool))
  | 0, _, _, _ => none
  | k + 1, s54, s56, s58 => (if s58 = true then (cofferref18_Mark.l2 a0 k s54 s56 false (0 : Int)).bind fun o194 => (match o194 with | (s64, s66, s68) => (cofferref18_Mark.l1 a0 k s64 s66 s68)) else (some ((s54, s56))))
def cofferref18_Mark.l0 (a1 : (List (List Int))) (a0 : (List Api_Object)) : Nat → (List Bool) → Int → Option ((List Bool))
  | 0, _, _ => none
  | k + 1, s11, s13 => (if (decide (s13 < ((a1).length : Int))) = true then ((need (0 ≤ s13 ∧ s13 < ((a1).length : Int)) ((cofferref17_Find.f k a0 ((a1).getD (s13).toNat (rArr 32 (rInt .u8)).zeroD)).bind fun c30 => ((if (decide ((0 : Int) ≤ c30)) = true then (need (0 ≤ c30 ∧ c30 < ((s11).length : Int)) ((some ((s11).set (c30).toNat true)))) else (some s11))).bind fun s44 => (some s44)))).bind fun s21 => (cofferref18_Mark.l0 a1 a0 k s21 (IntKind.i64.wrap (s13 + (1 : Int)))) else (some (s11)))
def cofferref18_Mark.f (k : Nat) (a0 : (List Api_Object)) (a1 : (List (List Int))) : Option ((List (List Int))) := (need ((0 : Int) ≤ ((a0).length : Int) ∧ (((a0).length : Int) : Int) ≤ ((a0).length : Int) ∧ ((a0).length : Int) * ((1 : Nat) : Int) ≤ ((maxB : Nat) : Int) ∧ (((a0).length : Int) : Int) ≤ ((maxB : Nat) : Int)) ((need ((0 : Int) ≤ ((a0).length : Int) ∧ (((a0).length : Int) : Int) ≤ ((a0).length : Int) ∧ ((a0).length : Int) * ((1 : Nat) : Int) ≤ ((maxB : Nat) : Int) ∧ (((a0).length : Int) : Int) ≤ ((maxB : Nat) : Int)) ((cofferref18_Mark.l0 a1 a0 k (List.replicate (((a0).length : Int) : Int).toNat rBool.zeroD) (0 : Int)).bind fun o247 => (match o247 with | s11 => (cofferref18_Mark.l1 a0 k s11 (List.replicate (((a0).length : Int) : Int).toNat rBool.zeroD) true).bind fun o245 => (match o245 with | (s54, s56) => (cofferref18_Mark.l4 a0 s54 k ([] : (List (List Int))) (0 : Int)).bind fun o243 => (match o243 with | s196 => (some s196))))))))
set_option maxRecDepth 100000 in
set_option maxHeartbeats 5260000 in
theorem cofferref18_Mark_ok (k : Nat) (a0 : (List Api_Object)) (a1 : (List (List Int))) (u0 u1 : Value) (r : (List (List Int))) (hf : cofferref18_Mark.f k a0 a1 = some r) : Cf.FnX true Try.prog 13 [u0, u1] (fun w m => (rSl 56 rApi_Object).val w m u0 a0 ∧ (rSl 32 (rArr 32 (rInt .u8))).val w m u1 a1) (fun w w' m v => (rSl 32 (rArr 32 (rInt .u8))).val w' m v r) := by
  unfold cofferref18_Mark.f at hf
  refine fn_of Try.func13 rfl (Nat.le_of_ble_eq_true rfl) [(rSl 56 rApi_Object).fact u0 a0, (rSl 32 (rArr 32 (rInt .u8))).fact u1 a1] (fun w m h f hf => ?_) ?_
  · simp at hf; rcases hf with rfl | rfl
    · exact h.1
    · exact h.2
  intro w0 m0 R hR
  refine t_seq ?_
  refine t_region ?_
  refine tl_d rfl (d_assign rfl ?_)
  refine tl_nil ?_
  refine q_then_code ?_
  refine t_seq ?_
  obtain ⟨hn3, hf⟩ := need_some hf
  refine t_region ?_
  refine tl_d rfl (d_move rfl ?_)
  refine tl_d rfl (d_len_sl rfl (mem_at 0 rfl) Try.underlying22 (fun hl4 _ => ?_))
  refine tl_g [] rfl (g_makeSlice rfl Try.underlying60 ty4 rfl rfl hn3 (fun v5 => ?_))
  refine tl_d rfl (d_assign rfl ?_)
  refine tl_nil ?_
  refine q_then_code ?_
  refine t_seq ?_
  obtain ⟨hn8, hf⟩ := need_some hf
  refine t_region ?_
  refine tl_d rfl (d_move rfl ?_)
  refine tl_d rfl (d_len_sl rfl (mem_at 0 rfl) Try.underlying22 (fun hl9 _ => ?_))
  refine tl_g [] rfl (g_makeSlice rfl Try.underlying60 ty4 rfl rfl hn8 (fun v10 => ?_))
  refine tl_d rfl (d_assign rfl ?_)
  refine tl_nil ?_
  refine q_then_code ?_
  refine t_seq ?_
  refine t_seq ?_
  refine t_region ?_
  refine tl_d rfl (d_assign rfl ?_)
  refine tl_nil ?_
  refine q_then_code ?_
  refine t_block ?_
  obtain ⟨o247, ho248, hf⟩ := bind_some hf
  refine t_loop (X := (List Bool) × Int × Value) (O := (List Bool)) (fun k x => match x with | (s11, s13, z12) => cofferref18_Mark.l0 a1 a0 k s11 s13) o247 (fun x => match x with | (s11, s13, z12) => (([(0, u0), (1, u1), (5, z12), (6, v10), (7, .int .i64 s13)], [(rSl 56 rApi_Object).fact u0 a0, (rSl 32 (rArr 32 (rInt .u8))).fact u1 a1], [Own.buf z12 1 rBool s11, Own.buf v10 1 rBool (List.replicate (((a0).length : Int) : Int).toNat rBool.zeroD)]) : Sym)) (fun x => match x with | (s11, s13, z12) => IntKind.i64.wrap s13 = s13) k ((List.replicate (((a0).length : Int) : Int).toNat rBool.zeroD), (0 : Int), v5) ho248 rfl ⟨rfl, ⟨rfl, ⟨rfl, ⟨rfl, ⟨rfl, trivial⟩⟩⟩⟩⟩ ⟨mem_at 0 rfl, ⟨mem_at 1 rfl, trivial⟩⟩ [0, 1] (Sel.cons rfl (Sel.cons rfl Sel.nil)) rfl ?_
  clear ho248
  rintro k17 ⟨s11, s13, z12⟩ hw_s13 hk16
  have hout14 := hf; clear hf
  obtain ⟨kq15, rfl⟩ : ∃ q, k17 = q + 1 := by cases k17 with | zero => cases hk16 | succ q => exact ⟨q, rfl⟩
  have hf := hk16
  clear hk16; dsimp only [cofferref18_Mark.l0] at hf
  refine t_seq ?_
  refine t_seq ?_
  refine t_region ?_
  refine tl_d rfl (d_move rfl ?_)
  refine tl_d rfl (d_move rfl ?_)
  refine tl_d rfl (d_len_sl rfl (mem_at 1 rfl) Try.underlying23 (fun hl19 _ => ?_))
  refine tl_d rfl (d_lss rfl rfl ?_)
  refine tl_nil ?_
  refine q_then_code ?_
  refine t_cond rfl (fun hb20 => ?_) (fun hb20 => ?_)
  · have hf := if_t hb20 hf
    refine t_skip ?_
    refine q_then_code ?_
    refine t_seq ?_
    obtain ⟨o23, ho24, hf⟩ := bind_some hf
    refine t_cut (X := (List Bool) × Value) (fun x => match x with | (s21, z22) => (([(0, u0), (1, u1), (5, z22), (6, v10), (7, (.int .i64 s13))], [(rSl 56 rApi_Object).fact u0 a0, (rSl 32 (rArr 32 (rInt .u8))).fact u1 a1], [Own.buf z22 1 rBool s21, Own.buf v10 1 rBool (List.replicate (((a0).length : Int) : Int).toNat rBool.zeroD)]) : Sym)) (fun x => match x with | (s21, z22) => s21 = o23) ?_ ?_
    · have hf := ho24
      clear ho24
      refine t_block ?_
      refine t_seq ?_
      obtain ⟨hn25, hf⟩ := need_some hf
      obtain ⟨c30, hc31, hf⟩ := bind_some hf
      refine t_region ?_
      refine tl_d rfl (d_move rfl ?_)
      refine tl_d rfl (d_move rfl ?_)
      refine tl_d rfl (d_move rfl ?_)
      refine tl_d rfl (d_index_sl rfl (mem_at 1 rfl) rfl Try.underlying23 ty29 hn25 (fun p36 => ?_))
      refine tl_d rfl (d_load_place rfl (mem_at 0 rfl) ty29 (fun v38 => ?_))
      refine tl_g [] rfl (g_call1 rfl hfn16 (cofferref17_Find_ok _ _ _ _ _ _ hc31) (Evs.cons rfl (Evs.cons rfl Evs.nil)) (fun a w hs => ⟨(hv_fact (mem_at 2 rfl)) _ _ _ _ hs, (hv_fact (mem_at 0 rfl)) _ _ _ _ hs⟩) (fun v40 => ?_))
      refine tl_int (mem_at 0 rfl) (fun hv43 hw42 => ?_)
      subst hv43
      refine tl_d rfl (d_assign rfl ?_)
      refine tl_nil ?_
      refine q_then_code ?_
      refine t_seq ?_
      refine t_region ?_
      refine tl_d rfl (d_move rfl ?_)
      refine tl_d rfl (d_geq rfl rfl ?_)
      refine tl_nil ?_
      refine q_then_code ?_
      obtain ⟨o46, ho47, hf⟩ := bind_some hf
      refine t_cut (X := (List Bool) × Value) (fun x => match x with | (s44, z45) => (([(0, u0), (1, u1), (5, z45), (6, v10), (7, (.int .i64 s13))], [(rSl 56 rApi_Object).fact u0 a0, (rSl 32 (rArr 32 (rInt .u8))).fact u1 a1], [Own.buf z45 1 rBool s44, Own.buf v10 1 rBool (List.replicate (((a0).length : Int) : Int).toNat rBool.zeroD)]) : Sym)) (fun x => match x with | (s44, z45) => s44 = o46) ?_ ?_
      · have hf := ho47
        clear ho47
        refine t_cond rfl (fun hb48 => ?_) (fun hb48 => ?_)
        · have hf := if_t hb48 hf
          obtain ⟨hn49, hf⟩ := need_some hf
          refine t_region ?_
          refine tl_d rfl (d_move rfl ?_)
          refine tl_d rfl (d_move rfl ?_)
          refine tl_d rfl (d_index_buf 0 rfl rfl rfl Try.underlying60 ty4 hn49 (fun p52 hp53 => ?_))
          refine tl_g _ rfl (g_store_buf (j := (c30).toNat) 0 rfl hp53 rfl rfl rfl (toNat_lt hn49) (Fld.self rBool) trivial hv_bool ty4 (List.mem_singleton_self _) ?_)
          refine tl_nil ?_
          have hr := Option.some.inj hf; subst hr
          exact q_cut (((s11).set (c30).toNat true), z12) rfl ⟨rfl, ⟨rfl, ⟨rfl, ⟨rfl, ⟨rfl, trivial⟩⟩⟩⟩⟩ ⟨mem_at 3 rfl, ⟨mem_at 4 rfl, trivial⟩⟩ [0, 1] (Sel.cons rfl (Sel.cons rfl Sel.nil)) rfl
        · have hf := if_f hb48 hf
          refine t_skip ?_
          have hr := Option.some.inj hf; subst hr
          exact q_cut (s11, z12) rfl ⟨rfl, ⟨rfl, ⟨rfl, ⟨rfl, ⟨rfl, trivial⟩⟩⟩⟩⟩ ⟨mem_at 3 rfl, ⟨mem_at 4 rfl, trivial⟩⟩ [0, 1] (Sel.cons rfl (Sel.cons rfl Sel.nil)) rfl
      rintro ⟨s44, z45⟩ rfl
      refine q_block_normal ?_
      have hr := Option.some.inj hf; subst hr
      exact q_cut (s44, z45) rfl ⟨rfl, ⟨rfl, ⟨rfl, ⟨rfl, ⟨rfl, trivial⟩⟩⟩⟩⟩ ⟨mem_at 0 rfl, ⟨mem_at 1 rfl, trivial⟩⟩ [0, 1] (Sel.cons rfl (Sel.cons rfl Sel.nil)) rfl
    rintro ⟨s21, z22⟩ rfl
    refine q_then_code ?_
    refine t_region ?_
    refine tl_d rfl (d_move rfl ?_)
    refine tl_d rfl (d_add rfl rfl ?_)
    refine tl_d rfl (d_assign rfl ?_)
    refine tl_nil ?_
    exact q_round kq15 (s21, (IntKind.i64.wrap (s13 + (1 : Int))), z22) (Nat.lt_succ_self kq15) (wrap_wrap _ _) hf ⟨rfl, ⟨rfl, ⟨rfl, ⟨rfl, ⟨rfl, trivial⟩⟩⟩⟩⟩ ⟨mem_at 0 rfl, ⟨mem_at 1 rfl, trivial⟩⟩ [0, 1] (Sel.cons rfl (Sel.cons rfl Sel.nil)) rfl
  · have hf := if_f hb20 hf
    refine t_exit ?_
    refine q_then_exit ?_
    refine q_then_exit ?_
    have hr := Option.some.inj hf; try subst hr
    have hf := hout14
    try dsimp only at hf
    refine q_block_hit ?_
    refine q_then_code ?_
    refine t_seq ?_
    refine t_seq ?_
    refine t_region ?_
    refine tl_d rfl (d_assign rfl ?_)
    refine tl_nil ?_
    refine q_then_code ?_
    refine t_block ?_
    obtain ⟨o245, ho246, hf⟩ := bind_some hf
    refine t_loop (X := (List Bool) × (List Bool) × Bool × Value × Value) (O := (List Bool) × (List Bool)) (fun k x => match x with | (s54, s56, s58, z55, z57) => cofferref18_Mark.l1 a0 k s54 s56 s58) o245 (fun x => match x with | (s54, s56, s58, z55, z57) => (([(0, u0), (5, z55), (6, z57), (9, .bool s58)], [(rSl 56 rApi_Object).fact u0 a0], [Own.buf z55 1 rBool s54, Own.buf z57 1 rBool s56]) : Sym)) (fun x => match x with | (s54, s56, s58, z55, z57) => True) k (s11, (List.replicate (((a0).length : Int) : Int).toNat rBool.zeroD), true, z12, v10) ho246 trivial ⟨rfl, ⟨rfl, ⟨rfl, ⟨rfl, trivial⟩⟩⟩⟩ ⟨mem_at 0 rfl, trivial⟩ [0, 1] (Sel.cons rfl (Sel.cons rfl Sel.nil)) rfl ?_
    clear ho246
    rintro k62 ⟨s54, s56, s58, z55, z57⟩ _ hk61
    have hout59 := hf; clear hf
    obtain ⟨kq60, rfl⟩ : ∃ q, k62 = q + 1 := by cases k62 with | zero => cases hk61 | succ q => exact ⟨q, rfl⟩
    have hf := hk61
    clear hk61; dsimp only [cofferref18_Mark.l1] at hf
    refine t_seq ?_
    refine t_seq ?_
    refine t_region ?_
    refine tl_d rfl (d_move rfl ?_)
    refine tl_nil ?_
    refine q_then_code ?_
    refine t_cond rfl (fun hb63 => ?_) (fun hb63 => ?_)
    · have hf := if_t hb63 hf
      refine t_skip ?_
      refine q_then_code ?_
      refine t_block ?_
      refine t_seq ?_
      refine t_region ?_
      refine tl_d rfl (d_assign rfl ?_)
      refine tl_nil ?_
      refine q_then_code ?_
      refine t_seq ?_
      refine t_region ?_
      refine tl_d rfl (d_assign rfl ?_)
      refine tl_nil ?_
      refine q_then_code ?_
      refine t_block ?_
      obtain ⟨o194, ho195, hf⟩ := bind_some hf
      refine t_loop (X := (List Bool) × (List Bool) × Bool × Int × Value × Value) (O := (List Bool) × (List Bool) × Bool) (fun k x => match x with | (s64, s66, s68, s69, z65, z67) => cofferref18_Mark.l2 a0 k s64 s66 s68 s69) o194 (fun x => match x with | (s64, s66, s68, s69, z65, z67) => (([(0, u0), (5, z65), (6, z67), (9, .bool s68), (10, .int .i64 s69)], [(rSl 56 rApi_Object).fact u0 a0], [Own.buf z65 1 rBool s64, Own.buf z67 1 rBool s66]) : Sym)) (fun x => match x with | (s64, s66, s68, s69, z65, z67) => IntKind.i64.wrap s69 = s69) kq60 (s54, s56, false, (0 : Int), z55, z57) ho195 rfl ⟨rfl, ⟨rfl, ⟨rfl, ⟨rfl, ⟨rfl, trivial⟩⟩⟩⟩⟩ ⟨mem_at 0 rfl, trivial⟩ [0, 1] (Sel.cons rfl (Sel.cons rfl Sel.nil)) rfl ?_
      clear ho195
      rintro k73 ⟨s64, s66, s68, s69, z65, z67⟩ hw_s69 hk72
      have hout70 := hf; clear hf
      obtain ⟨kq71, rfl⟩ : ∃ q, k73 = q + 1 := by cases k73 with | zero => cases hk72 | succ q => exact ⟨q, rfl⟩
      have hf := hk72
      clear hk72; dsimp only [cofferref18_Mark.l2] at hf
      refine t_seq ?_
      refine t_seq ?_
      refine t_region ?_
      refine tl_d rfl (d_move rfl ?_)
      refine tl_d rfl (d_move rfl ?_)
      refine tl_d rfl (d_len_sl rfl (mem_at 0 rfl) Try.underlying22 (fun hl75 _ => ?_))
      refine tl_d rfl (d_lss rfl rfl ?_)
      refine tl_nil ?_
      refine q_then_code ?_
      refine t_cond rfl (fun hb76 => ?_) (fun hb76 => ?_)
      · have hf := if_t hb76 hf
        refine t_skip ?_
        refine q_then_code ?_
        refine t_seq ?_
        obtain ⟨o82, ho83, hf⟩ := bind_some hf
        refine t_cut (X := (List Bool) × (List Bool) × Bool × Value × Value) (fun x => match x with | (s77, s79, s81, z78, z80) => (([(0, u0), (5, z78), (6, z80), (9, .bool s81), (10, (.int .i64 s69))], [(rSl 56 rApi_Object).fact u0 a0], [Own.buf z78 1 rBool s77, Own.buf z80 1 rBool s79]) : Sym)) (fun x => match x with | (s77, s79, s81, z78, z80) => (s77, s79, s81) = o82) ?_ ?_
        · have hf := ho83
          clear ho83
          refine t_block ?_
          refine t_seq ?_
          refine t_seq ?_
          obtain ⟨o92, ho93, hf⟩ := bind_some hf
          refine t_cut (X := Bool) (fun x => match x with | s91 => (([(0, u0), (5, z65), (6, z67), (9, (.bool s68)), (10, (.int .i64 s69)), (57, .bool s91)], [(rSl 56 rApi_Object).fact u0 a0], [Own.buf z65 1 rBool s64, Own.buf z67 1 rBool s66]) : Sym)) (fun x => match x with | s91 => s91 = o92) ?_ ?_
          · have hf := ho93; clear ho93
            obtain ⟨hn84, hf⟩ := need_some hf
            rcases bool_tf (!((s64).getD (s69).toNat rBool.zeroD)) with hb87 | hb87
            · have hf := if_t hb87 hf
              refine t_region ?_
              refine tl_d rfl (d_move rfl ?_)
              refine tl_d rfl (d_move rfl ?_)
              refine tl_d rfl (d_index_buf 0 rfl rfl rfl Try.underlying60 ty4 hn84 (fun p94 hp95 => ?_))
              refine tl_d rfl (d_load_buf_bool (j := (s69).toNat) 0 rfl hp95 rfl rfl (toNat_lt hn84) (Fld.self rBool) trivial ty4 rfl (?_))
              refine tl_d rfl (d_not rfl ?_)
              refine tl_d rfl (d_move rfl ?_)
              refine tl_off (gd_off rfl rfl rfl hb87) rfl rfl ?_
              refine tl_off (gd_off rfl rfl rfl hb87) rfl rfl ?_
              refine tl_off (gd_off rfl rfl rfl hb87) rfl rfl ?_
              refine tl_off (gd_off rfl rfl rfl hb87) rfl rfl ?_
              refine tl_d rfl (d_pick_true rfl hb87 rfl ?_)
              refine tl_nil ?_
              have hr := Option.some.inj hf; subst hr
              exact q_cut true rfl ⟨rfl, ⟨rfl, ⟨rfl, ⟨rfl, ⟨rfl, ⟨rfl, trivial⟩⟩⟩⟩⟩⟩ ⟨mem_at 0 rfl, trivial⟩ [0, 1] (Sel.cons rfl (Sel.cons rfl Sel.nil)) rfl
            · have hf := if_f hb87 hf
              obtain ⟨hn88, hf⟩ := need_some hf
              refine t_region ?_
              refine tl_d rfl (d_move rfl ?_)
              refine tl_d rfl (d_move rfl ?_)
              refine tl_d rfl (d_index_buf 0 rfl rfl rfl Try.underlying60 ty4 hn84 (fun p96 hp97 => ?_))
              refine tl_d rfl (d_load_buf_bool (j := (s69).toNat) 0 rfl hp97 rfl rfl (toNat_lt hn84) (Fld.self rBool) trivial ty4 rfl (?_))
              refine tl_d rfl (d_not rfl ?_)
              refine tl_d rfl (d_move rfl ?_)
              refine tl_dg (gd_on rfl rfl rfl hb87) rfl (d_move rfl ?_)
              refine tl_dg (gd_on rfl rfl rfl hb87) rfl (d_move rfl ?_)
              refine tl_dg (gd_on rfl rfl rfl hb87) rfl (d_index_buf 1 rfl rfl rfl Try.underlying60 ty4 hn88 (fun p98 hp99 => ?_))
              refine tl_dg (gd_on rfl rfl rfl hb87) rfl (d_load_buf_bool (j := (s69).toNat) 1 rfl hp99 rfl rfl (toNat_lt hn88) (Fld.self rBool) trivial ty4 rfl (?_))
              refine tl_d rfl (d_pick_false rfl hb87 rfl ?_)
              refine tl_nil ?_
              have hr := Option.some.inj hf; subst hr
              exact q_cut ((s66).getD (s69).toNat rBool.zeroD) rfl ⟨rfl, ⟨rfl, ⟨rfl, ⟨rfl, ⟨rfl, ⟨rfl, trivial⟩⟩⟩⟩⟩⟩ ⟨mem_at 0 rfl, trivial⟩ [0, 1] (Sel.cons rfl (Sel.cons rfl Sel.nil)) rfl
          rintro s91 rfl
          refine q_then_code ?_
          refine t_cond rfl (fun hb100 => ?_) (fun hb100 => ?_)
          · have hf := if_t hb100 hf
            refine t_exit ?_
            refine q_then_exit ?_
            refine q_block_hit ?_
            have hr := Option.some.inj hf; subst hr
            exact q_cut (s64, s66, s68, z65, z67) rfl ⟨rfl, ⟨rfl, ⟨rfl, ⟨rfl, ⟨rfl, trivial⟩⟩⟩⟩⟩ ⟨mem_at 0 rfl, trivial⟩ [0, 1] (Sel.cons rfl (Sel.cons rfl Sel.nil)) rfl
          · have hf := if_f hb100 hf
            refine t_skip ?_
            refine q_then_code ?_
            refine t_seq ?_
            obtain ⟨hn101, hf⟩ := need_some hf
            refine t_region ?_
            refine tl_d rfl (d_move rfl ?_)
            refine tl_d rfl (d_move rfl ?_)
            refine tl_d rfl (d_index_buf 1 rfl rfl rfl Try.underlying60 ty4 hn101 (fun p104 hp105 => ?_))
            refine tl_g _ rfl (g_store_buf (j := (s69).toNat) 1 rfl hp105 rfl rfl rfl (toNat_lt hn101) (Fld.self rBool) trivial hv_bool ty4 (List.mem_singleton_self _) ?_)
            refine tl_nil ?_
            refine q_then_code ?_
            refine t_seq ?_
            obtain ⟨hn106, hf⟩ := need_some hf
            obtain ⟨c113, hc114, hf⟩ := bind_some hf
            refine t_region ?_
            refine tl_d rfl (d_move rfl ?_)
            refine tl_d rfl (d_move rfl ?_)
            refine tl_d rfl (d_index_sl rfl (mem_at 0 rfl) rfl Try.underlying22 ty34 hn106 (fun p121 => ?_))
            refine tl_d rfl (d_field_place rfl (mem_at 0 rfl) fo34_1 fl_Api_Object_Data trivial (fun p123 => ?_))
            refine tl_d rfl (d_load_place rfl (mem_at 0 rfl) ty32 (fun v125 => ?_))
            refine tl_g [] rfl (g_callo2 rfl hfn28 (cofferref15_Take_ok _ _ _ _ hc114) (Evs.cons rfl Evs.nil) (fun a w hs => (hv_fact (mem_at 0 rfl)) _ _ _ _ hs) (fun v127 v128 => ?_))
            refine tl_int (mem_at 0 rfl) (fun hv132 hw131 => ?_)
            subst hv132
            refine tl_d rfl (d_move rfl ?_)
            refine tl_d rfl (d_extract rfl rfl ?_)
            refine tl_d rfl (d_extract rfl rfl ?_)
            refine tl_d rfl (d_assign rfl ?_)
            refine tl_d rfl (d_assign rfl ?_)
            refine tl_nil ?_
            refine q_then_code ?_
            refine t_seq ?_
            refine t_region ?_
            refine tl_d rfl (d_assign rfl ?_)
            refine tl_nil ?_
            refine q_then_code ?_
            refine t_block ?_
            obtain ⟨o192, ho193, hf⟩ := bind_some hf
            refine t_loop (X := (List Bool) × Bool × Int × Value) (O := (List Bool) × Bool) (fun k x => match x with | (s133, s135, s136, z134) => cofferref18_Mark.l3 c113 a0 k s133 s135 s136) o192 (fun x => match x with | (s133, s135, s136, z134) => (([(0, u0), (5, z134), (6, z67), (9, .bool s135), (10, (.int .i64 s69)), (11, v127), (13, .int .i64 s136)], [(rSl 56 rApi_Object).fact u0 a0], [Own.buf z134 1 rBool s133, Own.buf z67 1 rBool ((s66).set (s69).toNat true), Own.buf v127 64 rApi_Item c113.1]) : Sym)) (fun x => match x with | (s133, s135, s136, z134) => IntKind.i64.wrap s136 = s136) kq71 (s64, s68, (0 : Int), z65) ho193 rfl ⟨rfl, ⟨rfl, ⟨rfl, ⟨rfl, ⟨rfl, ⟨rfl, ⟨rfl, trivial⟩⟩⟩⟩⟩⟩⟩ ⟨mem_at 4 rfl, trivial⟩ [0, 1, 2] (Sel.cons rfl (Sel.cons rfl (Sel.cons rfl Sel.nil))) rfl ?_
            clear ho193
            rintro k140 ⟨s133, s135, s136, z134⟩ hw_s136 hk139
            have hout137 := hf; clear hf
            obtain ⟨kq138, rfl⟩ : ∃ q, k140 = q + 1 := by cases k140 with | zero => cases hk139 | succ q => exact ⟨q, rfl⟩
            have hf := hk139
            clear hk139; dsimp only [cofferref18_Mark.l3] at hf
            refine t_seq ?_
            refine t_seq ?_
            refine t_region ?_
            refine tl_d rfl (d_move rfl ?_)
            refine tl_d rfl (d_move rfl ?_)
            refine tl_d rfl (d_len_buf 2 rfl rfl Try.underlying52 (fun hl142 _ => ?_))
            refine tl_d rfl (d_lss rfl rfl ?_)
            refine tl_nil ?_
            refine q_then_code ?_
            refine t_cond rfl (fun hb143 => ?_) (fun hb143 => ?_)
            · have hf := if_t hb143 hf
              refine t_skip ?_
              refine q_then_code ?_
              refine t_seq ?_
              obtain ⟨o147, ho148, hf⟩ := bind_some hf
              refine t_cut (X := (List Bool) × Bool × Value) (fun x => match x with | (s144, s146, z145) => (([(0, u0), (5, z145), (6, z67), (9, .bool s146), (10, (.int .i64 s69)), (11, v127), (13, (.int .i64 s136))], [(rSl 56 rApi_Object).fact u0 a0], [Own.buf z145 1 rBool s144, Own.buf z67 1 rBool ((s66).set (s69).toNat true), Own.buf v127 64 rApi_Item c113.1]) : Sym)) (fun x => match x with | (s144, s146, z145) => (s144, s146) = o147) ?_ ?_
              · have hf := ho148
                clear ho148
                refine t_block ?_
                refine t_seq ?_
                obtain ⟨hn149, hf⟩ := need_some hf
                obtain ⟨c156, hc157, hf⟩ := bind_some hf
                refine t_region ?_
                refine tl_d rfl (d_move rfl ?_)
                refine tl_d rfl (d_move rfl ?_)
                refine tl_d rfl (d_move rfl ?_)
                refine tl_d rfl (d_index_buf 2 rfl rfl rfl Try.underlying52 ty54 hn149 (fun p162 hp163 => ?_))
                refine tl_d rfl (d_field_buf rfl hp163 fo54_2 (fun p164 hp165 => ?_))
                refine tl_d rfl (d_load_buf (j := (s136).toNat) 2 rfl hp165 rfl rfl (toNat_lt hn149) fl_Api_Item_Of trivial ty29 rfl (fun v166 => ?_))
                refine tl_g [] rfl (g_call1 rfl hfn16 (cofferref17_Find_ok _ _ _ _ _ _ hc157) (Evs.cons rfl (Evs.cons rfl Evs.nil)) (fun a w hs => ⟨(hv_fact (mem_at 1 rfl)) _ _ _ _ hs, (hv_fact (mem_at 0 rfl)) _ _ _ _ hs⟩) (fun v168 => ?_))
                refine tl_int (mem_at 0 rfl) (fun hv171 hw170 => ?_)
                subst hv171
                refine tl_d rfl (d_assign rfl ?_)
                refine tl_nil ?_
                refine q_then_code ?_
                refine t_seq ?_
                obtain ⟨o177, ho178, hf⟩ := bind_some hf
                refine t_cut (X := Bool) (fun x => match x with | s176 => (([(0, u0), (5, z134), (6, z67), (9, (.bool s135)), (10, (.int .i64 s69)), (11, v127), (13, (.int .i64 s136)), (14, (.int .i64 c156)), (91, .bool s176)], [(rSl 56 rApi_Object).fact u0 a0], [Own.buf z134 1 rBool s133, Own.buf z67 1 rBool ((s66).set (s69).toNat true), Own.buf v127 64 rApi_Item c113.1]) : Sym)) (fun x => match x with | s176 => s176 = o177) ?_ ?_
                · have hf := ho178; clear ho178
                  rcases bool_tf (decide ((0 : Int) ≤ c156)) with hb172 | hb172
                  · have hf := if_t hb172 hf
                    obtain ⟨hn173, hf⟩ := need_some hf
                    refine t_region ?_
                    refine tl_d rfl (d_move rfl ?_)
                    refine tl_d rfl (d_geq rfl rfl ?_)
                    refine tl_d rfl (d_move rfl ?_)
                    refine tl_dg (gd_on rfl rfl rfl hb172) rfl (d_move rfl ?_)
                    refine tl_dg (gd_on rfl rfl rfl hb172) rfl (d_move rfl ?_)
                    refine tl_dg (gd_on rfl rfl rfl hb172) rfl (d_index_buf 0 rfl rfl rfl Try.underlying60 ty4 hn173 (fun p179 hp180 => ?_))
                    refine tl_dg (gd_on rfl rfl rfl hb172) rfl (d_load_buf_bool (j := (c156).toNat) 0 rfl hp180 rfl rfl (toNat_lt hn173) (Fld.self rBool) trivial ty4 rfl (?_))
                    refine tl_dg (gd_on rfl rfl rfl hb172) rfl (d_not rfl ?_)
                    refine tl_d rfl (d_pick_true rfl hb172 rfl ?_)
                    refine tl_nil ?_
                    have hr := Option.some.inj hf; subst hr
                    exact q_cut (!((s133).getD (c156).toNat rBool.zeroD)) rfl ⟨rfl, ⟨rfl, ⟨rfl, ⟨rfl, ⟨rfl, ⟨rfl, ⟨rfl, ⟨rfl, ⟨rfl, trivial⟩⟩⟩⟩⟩⟩⟩⟩⟩ ⟨mem_at 2 rfl, trivial⟩ [0, 1, 2] (Sel.cons rfl (Sel.cons rfl (Sel.cons rfl Sel.nil))) rfl
                  · have hf := if_f hb172 hf
                    refine t_region ?_
                    refine tl_d rfl (d_move rfl ?_)
                    refine tl_d rfl (d_geq rfl rfl ?_)
                    refine tl_d rfl (d_move rfl ?_)
                    refine tl_off (gd_off rfl rfl rfl hb172) rfl rfl ?_
                    refine tl_off (gd_off rfl rfl rfl hb172) rfl rfl ?_
                    refine tl_off (gd_off rfl rfl rfl hb172) rfl rfl ?_
                    refine tl_off (gd_off rfl rfl rfl hb172) rfl rfl ?_
                    refine tl_off (gd_off rfl rfl rfl hb172) rfl rfl ?_
                    refine tl_d rfl (d_pick_false rfl hb172 rfl ?_)
                    refine tl_nil ?_
                    have hr := Option.some.inj hf; subst hr
                    exact q_cut false rfl ⟨rfl, ⟨rfl, ⟨rfl, ⟨rfl, ⟨rfl, ⟨rfl, ⟨rfl, ⟨rfl, ⟨rfl, trivial⟩⟩⟩⟩⟩⟩⟩⟩⟩ ⟨mem_at 2 rfl, trivial⟩ [0, 1, 2] (Sel.cons rfl (Sel.cons rfl (Sel.cons rfl Sel.nil))) rfl
                rintro s176 rfl
                refine q_then_code ?_
                obtain ⟨o184, ho185, hf⟩ := bind_some hf
                refine t_cut (X := (List Bool) × Bool × Value) (fun x => match x with | (s181, s183, z182) => (([(0, u0), (5, z182), (6, z67), (9, .bool s183), (10, (.int .i64 s69)), (11, v127), (13, (.int .i64 s136))], [(rSl 56 rApi_Object).fact u0 a0], [Own.buf z182 1 rBool s181, Own.buf z67 1 rBool ((s66).set (s69).toNat true), Own.buf v127 64 rApi_Item c113.1]) : Sym)) (fun x => match x with | (s181, s183, z182) => (s181, s183) = o184) ?_ ?_
                · have hf := ho185
                  clear ho185
                  refine t_cond rfl (fun hb186 => ?_) (fun hb186 => ?_)
                  · have hf := if_t hb186 hf
                    obtain ⟨hn187, hf⟩ := need_some hf
                    refine t_region ?_
                    refine tl_d rfl (d_move rfl ?_)
                    refine tl_d rfl (d_move rfl ?_)
                    refine tl_d rfl (d_index_buf 0 rfl rfl rfl Try.underlying60 ty4 hn187 (fun p190 hp191 => ?_))
                    refine tl_g _ rfl (g_store_buf (j := (c156).toNat) 0 rfl hp191 rfl rfl rfl (toNat_lt hn187) (Fld.self rBool) trivial hv_bool ty4 (List.mem_singleton_self _) ?_)
                    refine tl_d rfl (d_assign rfl ?_)
                    refine tl_nil ?_
                    have hr := Option.some.inj hf; subst hr
                    exact q_cut (((s133).set (c156).toNat true), true, z134) rfl ⟨rfl, ⟨rfl, ⟨rfl, ⟨rfl, ⟨rfl, ⟨rfl, ⟨rfl, trivial⟩⟩⟩⟩⟩⟩⟩ ⟨mem_at 0 rfl, trivial⟩ [0, 1, 2] (Sel.cons rfl (Sel.cons rfl (Sel.cons rfl Sel.nil))) rfl
                  · have hf := if_f hb186 hf
                    refine t_skip ?_
                    have hr := Option.some.inj hf; subst hr
                    exact q_cut (s133, s135, z134) rfl ⟨rfl, ⟨rfl, ⟨rfl, ⟨rfl, ⟨rfl, ⟨rfl, ⟨rfl, trivial⟩⟩⟩⟩⟩⟩⟩ ⟨mem_at 0 rfl, trivial⟩ [0, 1, 2] (Sel.cons rfl (Sel.cons rfl (Sel.cons rfl Sel.nil))) rfl
                rintro ⟨s181, s183, z182⟩ rfl
                refine q_block_normal ?_
                have hr := Option.some.inj hf; subst hr
                exact q_cut (s181, s183, z182) rfl ⟨rfl, ⟨rfl, ⟨rfl, ⟨rfl, ⟨rfl, ⟨rfl, ⟨rfl, trivial⟩⟩⟩⟩⟩⟩⟩ ⟨mem_at 0 rfl, trivial⟩ [0, 1, 2] (Sel.cons rfl (Sel.cons rfl (Sel.cons rfl Sel.nil))) rfl
              rintro ⟨s144, s146, z145⟩ rfl
              refine q_then_code ?_
              refine t_region ?_
              refine tl_d rfl (d_move rfl ?_)
              refine tl_d rfl (d_add rfl rfl ?_)
              refine tl_d rfl (d_assign rfl ?_)
              refine tl_nil ?_
              exact q_round kq138 (s144, s146, (IntKind.i64.wrap (s136 + (1 : Int))), z145) (Nat.lt_succ_self kq138) (wrap_wrap _ _) hf ⟨rfl, ⟨rfl, ⟨rfl, ⟨rfl, ⟨rfl, ⟨rfl, ⟨rfl, trivial⟩⟩⟩⟩⟩⟩⟩ ⟨mem_at 0 rfl, trivial⟩ [0, 1, 2] (Sel.cons rfl (Sel.cons rfl (Sel.cons rfl Sel.nil))) rfl
            · have hf := if_f hb143 hf
              refine t_exit ?_
              refine q_then_exit ?_
              refine q_then_exit ?_
              have hr := Option.some.inj hf; try subst hr
              have hf := hout137
              try dsimp only at hf
              refine q_block_hit ?_
              refine q_block_normal ?_
              have hr := Option.some.inj hf; subst hr
              exact q_cut (s133, ((s66).set (s69).toNat true), s135, z134, z67) rfl ⟨rfl, ⟨rfl, ⟨rfl, ⟨rfl, ⟨rfl, trivial⟩⟩⟩⟩⟩ ⟨mem_at 0 rfl, trivial⟩ [0, 1] (Sel.cons rfl (Sel.cons rfl Sel.nil)) rfl
        rintro ⟨s77, s79, s81, z78, z80⟩ rfl
        refine q_then_code ?_
        refine t_region ?_
        refine tl_d rfl (d_move rfl ?_)
        refine tl_d rfl (d_add rfl rfl ?_)
        refine tl_d rfl (d_assign rfl ?_)
        refine tl_nil ?_
        exact q_round kq71 (s77, s79, s81, (IntKind.i64.wrap (s69 + (1 : Int))), z78, z80) (Nat.lt_succ_self kq71) (wrap_wrap _ _) hf ⟨rfl, ⟨rfl, ⟨rfl, ⟨rfl, ⟨rfl, trivial⟩⟩⟩⟩⟩ ⟨mem_at 0 rfl, trivial⟩ [0, 1] (Sel.cons rfl (Sel.cons rfl Sel.nil)) rfl
      · have hf := if_f hb76 hf
        refine t_exit ?_
        refine q_then_exit ?_
        refine q_then_exit ?_
        have hr := Option.some.inj hf; try subst hr
        have hf := hout70
        try dsimp only at hf
        refine q_block_hit ?_
        refine q_block_normal ?_
        exact q_round kq60 (s64, s66, s68, z65, z67) (Nat.lt_succ_self kq60) trivial hf ⟨rfl, ⟨rfl, ⟨rfl, ⟨rfl, trivial⟩⟩⟩⟩ ⟨mem_at 0 rfl, trivial⟩ [0, 1] (Sel.cons rfl (Sel.cons rfl Sel.nil)) rfl
    · have hf := if_f hb63 hf
      refine t_exit ?_
      refine q_then_exit ?_
      refine q_then_exit ?_
      have hr := Option.some.inj hf; try subst hr
      have hf := hout59
      try dsimp only at hf
      refine q_block_hit ?_
      refine q_then_code ?_
      refine t_seq ?_
      refine t_region ?_
      refine tl_d rfl (d_assign rfl ?_)
      refine tl_nil ?_
      refine q_then_code ?_
      refine t_seq ?_
      refine t_seq ?_
      refine t_region ?_
      refine tl_d rfl (d_assign rfl ?_)
      refine tl_nil ?_
      refine q_then_code ?_
      refine t_block ?_
      refine t_fact ((rSl 32 (rArr 32 (rInt .u8))).fact (.slice none 0 0) ([] : (List (List Int)))) nil_fact ?_
      obtain ⟨o243, ho244, hf⟩ := bind_some hf
      refine t_loop (X := (List (List Int)) × Int × Value) (O := (List (List Int))) (fun k x => match x with | (s196, s199, z197) => cofferref18_Mark.l4 a0 s54 k s196 s199) o243 (fun x => match x with | (s196, s199, z197) => (([(0, u0), (5, z55), (15, z197), (16, .int .i64 s199)], [(rSl 56 rApi_Object).fact u0 a0, (rSl 32 (rArr 32 (rInt .u8))).fact z197 s196], [Own.buf z55 1 rBool s54]) : Sym)) (fun x => match x with | (s196, s199, z197) => IntKind.i64.wrap s199 = s199) k (([] : (List (List Int))), (0 : Int), (.slice none 0 0)) ho244 rfl ⟨rfl, ⟨rfl, ⟨rfl, ⟨rfl, trivial⟩⟩⟩⟩ ⟨mem_at 1 rfl, ⟨mem_at 0 rfl, trivial⟩⟩ [0] (Sel.cons rfl Sel.nil) rfl ?_
      clear ho244
      rintro k204 ⟨s196, s199, z197⟩ hw_s199 hk203
      have hout201 := hf; clear hf
      obtain ⟨kq202, rfl⟩ : ∃ q, k204 = q + 1 := by cases k204 with | zero => cases hk203 | succ q => exact ⟨q, rfl⟩
      have hf := hk203
      clear hk203; dsimp only [cofferref18_Mark.l4] at hf
      refine t_seq ?_
      refine t_seq ?_
      refine t_region ?_
      refine tl_d rfl (d_move rfl ?_)
      refine tl_d rfl (d_move rfl ?_)
      refine tl_d rfl (d_len_sl rfl (mem_at 0 rfl) Try.underlying22 (fun hl206 _ => ?_))
      refine tl_d rfl (d_lss rfl rfl ?_)
      refine tl_nil ?_
      refine q_then_code ?_
      refine t_cond rfl (fun hb207 => ?_) (fun hb207 => ?_)
      · have hf := if_t hb207 hf
        refine t_skip ?_
        refine q_then_code ?_
        refine t_seq ?_
        obtain ⟨o211, ho212, hf⟩ := bind_some hf
        refine t_cut (X := (List (List Int)) × Value) (fun x => match x with | (s208, z209) => (([(0, u0), (5, z55), (15, z209), (16, (.int .i64 s199))], [(rSl 56 rApi_Object).fact u0 a0, (rSl 32 (rArr 32 (rInt .u8))).fact z209 s208], [Own.buf z55 1 rBool s54]) : Sym)) (fun x => match x with | (s208, z209) => s208 = o211) ?_ ?_
        · have hf := ho212
          clear ho212
          refine t_block ?_
          refine t_seq ?_
          obtain ⟨hn213, hf⟩ := need_some hf
          refine t_region ?_
          refine tl_d rfl (d_move rfl ?_)
          refine tl_d rfl (d_move rfl ?_)
          refine tl_d rfl (d_index_buf 0 rfl rfl rfl Try.underlying60 ty4 hn213 (fun p216 hp217 => ?_))
          refine tl_d rfl (d_load_buf_bool (j := (s199).toNat) 0 rfl hp217 rfl rfl (toNat_lt hn213) (Fld.self rBool) trivial ty4 rfl (?_))
          refine tl_nil ?_
          refine q_then_code ?_
          obtain ⟨o221, ho222, hf⟩ := bind_some hf
          refine t_cut (X := (List (List Int)) × Value) (fun x => match x with | (s218, z219) => (([(0, u0), (5, z55), (15, z219), (16, (.int .i64 s199))], [(rSl 56 rApi_Object).fact u0 a0, (rSl 32 (rArr 32 (rInt .u8))).fact z219 s218], [Own.buf z55 1 rBool s54]) : Sym)) (fun x => match x with | (s218, z219) => s218 = o221) ?_ ?_
          · have hf := ho222
            clear ho222
            refine t_cond rfl (fun hb223 => ?_) (fun hb223 => ?_)
            · have hf := if_t hb223 hf
              obtain ⟨hn224, hf⟩ := need_some hf
              obtain ⟨c231, hc232, hf⟩ := bind_some hf
              refine t_region ?_
              refine tl_d rfl (d_move rfl ?_)
              refine tl_d rfl (d_move rfl ?_)
              refine tl_d rfl (d_move rfl ?_)
              refine tl_d rfl (d_index_sl rfl (mem_at 0 rfl) rfl Try.underlying22 ty34 hn224 (fun p235 => ?_))
              refine tl_d rfl (d_field_place rfl (mem_at 0 rfl) fo34_0 fl_Api_Object_Of trivial (fun p237 => ?_))
              refine tl_d rfl (d_load_place rfl (mem_at 0 rfl) ty29 (fun v239 => ?_))
              refine tl_g [] rfl (g_call1 rfl hfn29 (cofferref17_With_ok _ _ _ _ _ _ hc232) (Evs.cons rfl (Evs.cons rfl Evs.nil)) (fun a w hs => ⟨(hv_fact (mem_at 4 rfl)) _ _ _ _ hs, (hv_fact (mem_at 0 rfl)) _ _ _ _ hs⟩) (fun v241 => ?_))
              refine tl_d rfl (d_assign rfl ?_)
              refine tl_nil ?_
              have hr := Option.some.inj hf; subst hr
              exact q_cut (c231, v241) rfl ⟨rfl, ⟨rfl, ⟨rfl, ⟨rfl, trivial⟩⟩⟩⟩ ⟨mem_at 4 rfl, ⟨mem_at 0 rfl, trivial⟩⟩ [0] (Sel.cons rfl Sel.nil) rfl
            · have hf := if_f hb223 hf
              refine t_skip ?_
              have hr := Option.some.inj hf; subst hr
              exact q_cut (s196, z197) rfl ⟨rfl, ⟨rfl, ⟨rfl, ⟨rfl, trivial⟩⟩⟩⟩ ⟨mem_at 0 rfl, ⟨mem_at 1 rfl, trivial⟩⟩ [0] (Sel.cons rfl Sel.nil) rfl
          rintro ⟨s218, z219⟩ rfl
          refine q_block_normal ?_
          have hr := Option.some.inj hf; subst hr
          exact q_cut (s218, z219) rfl ⟨rfl, ⟨rfl, ⟨rfl, ⟨rfl, trivial⟩⟩⟩⟩ ⟨mem_at 0 rfl, ⟨mem_at 1 rfl, trivial⟩⟩ [0] (Sel.cons rfl Sel.nil) rfl
        rintro ⟨s208, z209⟩ rfl
        refine q_then_code ?_
        refine t_region ?_
        refine tl_d rfl (d_move rfl ?_)
        refine tl_d rfl (d_add rfl rfl ?_)
        refine tl_d rfl (d_assign rfl ?_)
        refine tl_nil ?_
        exact q_round kq202 (s208, (IntKind.i64.wrap (s199 + (1 : Int))), z209) (Nat.lt_succ_self kq202) (wrap_wrap _ _) hf ⟨rfl, ⟨rfl, ⟨rfl, ⟨rfl, trivial⟩⟩⟩⟩ ⟨mem_at 0 rfl, ⟨mem_at 1 rfl, trivial⟩⟩ [0] (Sel.cons rfl Sel.nil) rfl
      · have hf := if_f hb207 hf
        refine t_exit ?_
        refine q_then_exit ?_
        refine q_then_exit ?_
        have hr := Option.some.inj hf; try subst hr
        have hf := hout201
        try dsimp only at hf
        refine q_block_hit ?_
        refine q_then_code ?_
        refine t_seq ?_
        refine t_region ?_
        refine tl_d rfl (d_move rfl ?_)
        refine tl_d rfl (d_assign rfl ?_)
        refine tl_nil ?_
        refine q_then_code ?_
        refine t_ret ?_
        have hr := Option.some.inj hf; subst hr
        refine q_ret (post := fun w w' m v => (rSl 32 (rArr 32 (rInt .u8))).val w' m v s196) hR _ (.inl rfl) (fun a w hs => ?_)
        exact ⟨_, run_results rfl (RvOk.cons (rv_tmp hs rfl) RvOk.nil), (hs.hv (hv_fact (mem_at 1 rfl)))⟩

def cofferref18_Lost.l1 (c1 : (List (List Int))) (s10 : Int) (a0 : (List Api_Object)) : Nat → Bool → Int → Option (Bool)
  | 0, _, _ => none
  | k + 1, s24, s25 => (if (decide (s25 < ((c1).length : Int))) = true then ((if s24 = true then (some true) else (need (0 ≤ s25 ∧ s25 < ((c1).length : Int)) (need (0 ≤ s10 ∧ s10 < ((a0).length : Int)) ((some (decide (((c1).getD (s25).toNat (rArr 32 (rInt .u8)).zeroD) = (((a0).getD (s10).toNat rApi_Object.zeroD)).Of)))))))).bind fun s46 => (cofferref18_Lost.l1 c1 s10 a0 k s46 (IntKind.i64.wrap (s25 + (1 : Int)))) else (some (s24)))
def cofferref18_Lost.l0 (a0 : (List Api_Object)) (c1 : (List (List Int))) : Nat → (List (List Int)) → Int → Option ((List (List Int)))
  | 0, _, _ => none
  | k + 1, s7, s10 => (if (decide (s10 < ((a0).length : Int))) = true then ((cofferref18_Lost.l1 c1 s10 a0 k false (0 : Int)).bind fun o84 => (match o84 with | s24 => ((if (!s24) = true then (need (0 ≤ s10 ∧ s10 < ((a0).length : Int)) ((cofferref17_With.f k s7 (((a0).getD (s10).toNat rApi_Object.zeroD)).Of).bind fun c72 => (some c72))) else (some s7))).bind fun s59 => (some s59))).bind fun s19 => (cofferref18_Lost.l0 a0 c1 k s19 (IntKind.i64.wrap (s10 + (1 : Int)))) else (some (s7)))
def cofferref18_Lost.f (k : Nat) (a0 : (List Api_Object)) (a1 : (List (List Int))) : Option ((List (List Int))) := ((cofferref18_Mark.f k a0 a1).bind fun c1 => (cofferref18_Lost.l0 a0 c1 k ([] : (List (List Int))) (0 : Int)).bind fun o86 => (match o86 with | s7 => (some s7)))
set_option maxRecDepth 100000 in
set_option maxHeartbeats 2170000 in
theorem cofferref18_Lost_ok (k : Nat) (a0 : (List Api_Object)) (a1 : (List (List Int))) (u0 u1 : Value) (r : (List (List Int))) (hf : cofferref18_Lost.f k a0 a1 = some r) : Cf.FnX true Try.prog 14 [u0, u1] (fun w m => (rSl 56 rApi_Object).val w m u0 a0 ∧ (rSl 32 (rArr 32 (rInt .u8))).val w m u1 a1) (fun w w' m v => (rSl 32 (rArr 32 (rInt .u8))).val w' m v r) := by
  unfold cofferref18_Lost.f at hf
  refine fn_of Try.func14 rfl (Nat.le_of_ble_eq_true rfl) [(rSl 56 rApi_Object).fact u0 a0, (rSl 32 (rArr 32 (rInt .u8))).fact u1 a1] (fun w m h f hf => ?_) ?_
  · simp at hf; rcases hf with rfl | rfl
    · exact h.1
    · exact h.2
  intro w0 m0 R hR
  refine t_seq ?_
  refine t_region ?_
  refine tl_d rfl (d_assign rfl ?_)
  refine tl_nil ?_
  refine q_then_code ?_
  refine t_seq ?_
  obtain ⟨c1, hc2, hf⟩ := bind_some hf
  refine t_region ?_
  refine tl_d rfl (d_move rfl ?_)
  refine tl_d rfl (d_move rfl ?_)
  refine tl_g [] rfl (g_call1 rfl hfn13 (cofferref18_Mark_ok _ _ _ _ _ _ hc2) (Evs.cons rfl (Evs.cons rfl Evs.nil)) (fun a w hs => ⟨(hv_fact (mem_at 0 rfl)) _ _ _ _ hs, (hv_fact (mem_at 1 rfl)) _ _ _ _ hs⟩) (fun v5 => ?_))
  refine tl_d rfl (d_assign rfl ?_)
  refine tl_nil ?_
  refine q_then_code ?_
  refine t_seq ?_
  refine t_region ?_
  refine tl_d rfl (d_assign rfl ?_)
  refine tl_nil ?_
  refine q_then_code ?_
  refine t_seq ?_
  refine t_seq ?_
  refine t_region ?_
  refine tl_d rfl (d_assign rfl ?_)
  refine tl_nil ?_
  refine q_then_code ?_
  refine t_block ?_
  refine t_fact ((rSl 32 (rArr 32 (rInt .u8))).fact (.slice none 0 0) ([] : (List (List Int)))) nil_fact ?_
  obtain ⟨o86, ho87, hf⟩ := bind_some hf
  refine t_loop (X := (List (List Int)) × Int × Value) (O := (List (List Int))) (fun k x => match x with | (s7, s10, z8) => cofferref18_Lost.l0 a0 c1 k s7 s10) o86 (fun x => match x with | (s7, s10, z8) => (([(0, u0), (5, v5), (6, z8), (7, .int .i64 s10)], [(rSl 56 rApi_Object).fact u0 a0, (rSl 32 (rArr 32 (rInt .u8))).fact v5 c1, (rSl 32 (rArr 32 (rInt .u8))).fact z8 s7], []) : Sym)) (fun x => match x with | (s7, s10, z8) => IntKind.i64.wrap s10 = s10) k (([] : (List (List Int))), (0 : Int), (.slice none 0 0)) ho87 rfl ⟨rfl, ⟨rfl, ⟨rfl, ⟨rfl, trivial⟩⟩⟩⟩ ⟨mem_at 2 rfl, ⟨mem_at 1 rfl, ⟨mem_at 0 rfl, trivial⟩⟩⟩ [] (Sel.nil) rfl ?_
  clear ho87
  rintro k15 ⟨s7, s10, z8⟩ hw_s10 hk14
  have hout12 := hf; clear hf
  obtain ⟨kq13, rfl⟩ : ∃ q, k15 = q + 1 := by cases k15 with | zero => cases hk14 | succ q => exact ⟨q, rfl⟩
  have hf := hk14
  clear hk14; dsimp only [cofferref18_Lost.l0] at hf
  refine t_seq ?_
  refine t_seq ?_
  refine t_region ?_
  refine tl_d rfl (d_move rfl ?_)
  refine tl_d rfl (d_move rfl ?_)
  refine tl_d rfl (d_len_sl rfl (mem_at 0 rfl) Try.underlying22 (fun hl17 _ => ?_))
  refine tl_d rfl (d_lss rfl rfl ?_)
  refine tl_nil ?_
  refine q_then_code ?_
  refine t_cond rfl (fun hb18 => ?_) (fun hb18 => ?_)
  · have hf := if_t hb18 hf
    refine t_skip ?_
    refine q_then_code ?_
    refine t_seq ?_
    obtain ⟨o22, ho23, hf⟩ := bind_some hf
    refine t_cut (X := (List (List Int)) × Value) (fun x => match x with | (s19, z20) => (([(0, u0), (5, v5), (6, z20), (7, (.int .i64 s10))], [(rSl 56 rApi_Object).fact u0 a0, (rSl 32 (rArr 32 (rInt .u8))).fact v5 c1, (rSl 32 (rArr 32 (rInt .u8))).fact z20 s19], []) : Sym)) (fun x => match x with | (s19, z20) => s19 = o22) ?_ ?_
    · have hf := ho23
      clear ho23
      refine t_block ?_
      refine t_seq ?_
      refine t_region ?_
      refine tl_d rfl (d_assign rfl ?_)
      refine tl_nil ?_
      refine q_then_code ?_
      refine t_seq ?_
      refine t_seq ?_
      refine t_region ?_
      refine tl_d rfl (d_assign rfl ?_)
      refine tl_nil ?_
      refine q_then_code ?_
      refine t_block ?_
      obtain ⟨o84, ho85, hf⟩ := bind_some hf
      refine t_loop (X := Bool × Int) (O := Bool) (fun k x => match x with | (s24, s25) => cofferref18_Lost.l1 c1 s10 a0 k s24 s25) o84 (fun x => match x with | (s24, s25) => (([(0, u0), (5, v5), (6, z8), (7, (.int .i64 s10)), (8, .bool s24), (9, .int .i64 s25)], [(rSl 56 rApi_Object).fact u0 a0, (rSl 32 (rArr 32 (rInt .u8))).fact v5 c1, (rSl 32 (rArr 32 (rInt .u8))).fact z8 s7], []) : Sym)) (fun x => match x with | (s24, s25) => IntKind.i64.wrap s25 = s25) kq13 (false, (0 : Int)) ho85 rfl ⟨rfl, ⟨rfl, ⟨rfl, ⟨rfl, ⟨rfl, ⟨rfl, trivial⟩⟩⟩⟩⟩⟩ ⟨mem_at 0 rfl, ⟨mem_at 1 rfl, ⟨mem_at 2 rfl, trivial⟩⟩⟩ [] (Sel.nil) rfl ?_
      clear ho85
      rintro k29 ⟨s24, s25⟩ hw_s25 hk28
      have hout26 := hf; clear hf
      obtain ⟨kq27, rfl⟩ : ∃ q, k29 = q + 1 := by cases k29 with | zero => cases hk28 | succ q => exact ⟨q, rfl⟩
      have hf := hk28
      clear hk28; dsimp only [cofferref18_Lost.l1] at hf
      refine t_seq ?_
      refine t_seq ?_
      refine t_region ?_
      refine tl_d rfl (d_move rfl ?_)
      refine tl_d rfl (d_move rfl ?_)
      refine tl_d rfl (d_len_sl rfl (mem_at 1 rfl) Try.underlying23 (fun hl31 _ => ?_))
      refine tl_d rfl (d_lss rfl rfl ?_)
      refine tl_nil ?_
      refine q_then_code ?_
      refine t_cond rfl (fun hb32 => ?_) (fun hb32 => ?_)
      · have hf := if_t hb32 hf
        refine t_skip ?_
        refine q_then_code ?_
        refine t_seq ?_
        refine t_block ?_
        obtain ⟨o47, ho48, hf⟩ := bind_some hf
        refine t_cut (X := Bool) (fun x => match x with | s46 => (([(0, u0), (5, v5), (6, z8), (7, (.int .i64 s10)), (8, .bool s46), (9, (.int .i64 s25))], [(rSl 56 rApi_Object).fact u0 a0, (rSl 32 (rArr 32 (rInt .u8))).fact v5 c1, (rSl 32 (rArr 32 (rInt .u8))).fact z8 s7], []) : Sym)) (fun x => match x with | s46 => s46 = o47) ?_ ?_
        · have hf := ho48; clear ho48
          rcases bool_tf s24 with hb33 | hb33
          · have hf := if_t hb33 hf
            refine t_any (n := 14) [] mixed ⟨by kernel_rfl, .inl rfl⟩ (np_cut (np_block (np_then (np_then (np_block (np_then (np_block (np_cut (np_then (np_then (np_block (np_then np_body)))))))))))) ?_
            refine ta_take (i := 0) rfl (by kernel_rfl) gd_none (d_move rfl ?_)
            refine ta_take (i := 1) rfl (by kernel_rfl) gd_none (d_move rfl ?_)
            refine ta_off (i := 2) rfl (by kernel_rfl) (gd_off rfl rfl rfl hb33) ?_
            refine ta_off (i := 3) rfl (by kernel_rfl) (gd_off rfl rfl rfl hb33) ?_
            refine ta_off (i := 4) rfl (by kernel_rfl) (gd_off rfl rfl rfl hb33) ?_
            refine ta_off (i := 5) rfl (by kernel_rfl) (gd_off rfl rfl rfl hb33) ?_
            refine ta_off (i := 6) rfl (by kernel_rfl) (gd_off rfl rfl rfl hb33) ?_
            refine ta_off (i := 7) rfl (by kernel_rfl) (gd_off rfl rfl rfl hb33) ?_
            refine ta_off (i := 8) rfl (by kernel_rfl) (gd_off rfl rfl rfl hb33) ?_
            refine ta_off (i := 9) rfl (by kernel_rfl) (gd_off rfl rfl rfl hb33) ?_
            refine ta_off (i := 10) rfl (by kernel_rfl) (gd_off rfl rfl rfl hb33) ?_
            refine ta_off (i := 11) rfl (by kernel_rfl) (gd_off rfl rfl rfl hb33) ?_
            refine ta_take (i := 12) rfl (by kernel_rfl) gd_none (d_pick_true rfl hb33 rfl ?_)
            refine ta_take (i := 13) rfl (by kernel_rfl) gd_none (d_assign rfl ?_)
            refine ta_done (by kernel_rfl) ?_
            have hr := Option.some.inj hf; subst hr
            exact q_cut true rfl ⟨rfl, ⟨rfl, ⟨rfl, ⟨rfl, ⟨rfl, ⟨rfl, trivial⟩⟩⟩⟩⟩⟩ ⟨mem_at 0 rfl, ⟨mem_at 1 rfl, ⟨mem_at 2 rfl, trivial⟩⟩⟩ [] (Sel.nil) rfl
          · have hf := if_f hb33 hf
            obtain ⟨hn34, hf⟩ := need_some hf
            obtain ⟨hn39, hf⟩ := need_some hf
            refine t_any (n := 14) [] mixed ⟨by kernel_rfl, .inl rfl⟩ (np_cut (np_block (np_then (np_then (np_block (np_then (np_block (np_cut (np_then (np_then (np_block (np_then np_body)))))))))))) ?_
            refine ta_take (i := 0) rfl (by kernel_rfl) gd_none (d_move rfl ?_)
            refine ta_take (i := 1) rfl (by kernel_rfl) gd_none (d_move rfl ?_)
            refine ta_take (i := 2) rfl (by kernel_rfl) (gd_on rfl rfl rfl hb33) (d_move rfl ?_)
            refine ta_take (i := 3) rfl (by kernel_rfl) (gd_on rfl rfl rfl hb33) (d_move rfl ?_)
            refine ta_take (i := 4) rfl (by kernel_rfl) (gd_on rfl rfl rfl hb33) (d_index_sl rfl (mem_at 1 rfl) rfl Try.underlying23 ty29 hn34 (fun p49 => ?_))
            refine ta_take (i := 5) rfl (by kernel_rfl) (gd_on rfl rfl rfl hb33) (d_load_place rfl (mem_at 0 rfl) ty29 (fun v51 => ?_))
            refine ta_take (i := 6) rfl (by kernel_rfl) (gd_on rfl rfl rfl hb33) (d_move rfl ?_)
            refine ta_take (i := 7) rfl (by kernel_rfl) (gd_on rfl rfl rfl hb33) (d_move rfl ?_)
            refine ta_take (i := 8) rfl (by kernel_rfl) (gd_on rfl rfl rfl hb33) (d_index_sl rfl (mem_at 2 rfl) rfl Try.underlying22 ty34 hn39 (fun p53 => ?_))
            refine ta_take (i := 9) rfl (by kernel_rfl) (gd_on rfl rfl rfl hb33) (d_field_place rfl (mem_at 0 rfl) fo34_0 fl_Api_Object_Of trivial (fun p55 => ?_))
            refine ta_take (i := 10) rfl (by kernel_rfl) (gd_on rfl rfl rfl hb33) (d_load_place rfl (mem_at 0 rfl) ty29 (fun v57 => ?_))
            refine ta_take (i := 11) rfl (by kernel_rfl) (gd_on rfl rfl rfl hb33) (d_eql_agg rfl rfl (mem_at 3 rfl) (mem_at 0 rfl) rfl (EqAt.arr Try.underlying29 ty5 (EqAt.int Try.underlying5)) (by decide) (by kernel_rfl) ?_)
            refine ta_take (i := 12) rfl (by kernel_rfl) gd_none (d_pick_false rfl hb33 rfl ?_)
            refine ta_take (i := 13) rfl (by kernel_rfl) gd_none (d_assign rfl ?_)
            refine ta_done (by kernel_rfl) ?_
            have hr := Option.some.inj hf; subst hr
            exact q_cut (decide (((c1).getD (s25).toNat (rArr 32 (rInt .u8)).zeroD) = (((a0).getD (s10).toNat rApi_Object.zeroD)).Of)) rfl ⟨rfl, ⟨rfl, ⟨rfl, ⟨rfl, ⟨rfl, ⟨rfl, trivial⟩⟩⟩⟩⟩⟩ ⟨mem_at 5 rfl, ⟨mem_at 6 rfl, ⟨mem_at 7 rfl, trivial⟩⟩⟩ [] (Sel.nil) rfl
        rintro s46 rfl
        refine q_block_normal ?_
        refine q_then_code ?_
        refine t_region ?_
        refine tl_d rfl (d_move rfl ?_)
        refine tl_d rfl (d_add rfl rfl ?_)
        refine tl_d rfl (d_assign rfl ?_)
        refine tl_nil ?_
        exact q_round kq27 (s46, (IntKind.i64.wrap (s25 + (1 : Int)))) (Nat.lt_succ_self kq27) (wrap_wrap _ _) hf ⟨rfl, ⟨rfl, ⟨rfl, ⟨rfl, ⟨rfl, ⟨rfl, trivial⟩⟩⟩⟩⟩⟩ ⟨mem_at 0 rfl, ⟨mem_at 1 rfl, ⟨mem_at 2 rfl, trivial⟩⟩⟩ [] (Sel.nil) rfl
      · have hf := if_f hb32 hf
        refine t_exit ?_
        refine q_then_exit ?_
        refine q_then_exit ?_
        have hr := Option.some.inj hf; try subst hr
        have hf := hout26
        try dsimp only at hf
        refine q_block_hit ?_
        refine q_then_code ?_
        refine t_seq ?_
        refine t_region ?_
        refine tl_d rfl (d_move rfl ?_)
        refine tl_d rfl (d_not rfl ?_)
        refine tl_nil ?_
        refine q_then_code ?_
        obtain ⟨o62, ho63, hf⟩ := bind_some hf
        refine t_cut (X := (List (List Int)) × Value) (fun x => match x with | (s59, z60) => (([(0, u0), (5, v5), (6, z60), (7, (.int .i64 s10))], [(rSl 56 rApi_Object).fact u0 a0, (rSl 32 (rArr 32 (rInt .u8))).fact v5 c1, (rSl 32 (rArr 32 (rInt .u8))).fact z60 s59], []) : Sym)) (fun x => match x with | (s59, z60) => s59 = o62) ?_ ?_
        · have hf := ho63
          clear ho63
          refine t_cond rfl (fun hb64 => ?_) (fun hb64 => ?_)
          · have hf := if_t hb64 hf
            obtain ⟨hn65, hf⟩ := need_some hf
            obtain ⟨c72, hc73, hf⟩ := bind_some hf
            refine t_region ?_
            refine tl_d rfl (d_move rfl ?_)
            refine tl_d rfl (d_move rfl ?_)
            refine tl_d rfl (d_move rfl ?_)
            refine tl_d rfl (d_index_sl rfl (mem_at 0 rfl) rfl Try.underlying22 ty34 hn65 (fun p76 => ?_))
            refine tl_d rfl (d_field_place rfl (mem_at 0 rfl) fo34_0 fl_Api_Object_Of trivial (fun p78 => ?_))
            refine tl_d rfl (d_load_place rfl (mem_at 0 rfl) ty29 (fun v80 => ?_))
            refine tl_g [] rfl (g_call1 rfl hfn29 (cofferref17_With_ok _ _ _ _ _ _ hc73) (Evs.cons rfl (Evs.cons rfl Evs.nil)) (fun a w hs => ⟨(hv_fact (mem_at 5 rfl)) _ _ _ _ hs, (hv_fact (mem_at 0 rfl)) _ _ _ _ hs⟩) (fun v82 => ?_))
            refine tl_d rfl (d_assign rfl ?_)
            refine tl_nil ?_
            have hr := Option.some.inj hf; subst hr
            exact q_cut (c72, v82) rfl ⟨rfl, ⟨rfl, ⟨rfl, ⟨rfl, trivial⟩⟩⟩⟩ ⟨mem_at 4 rfl, ⟨mem_at 5 rfl, ⟨mem_at 0 rfl, trivial⟩⟩⟩ [] (Sel.nil) rfl
          · have hf := if_f hb64 hf
            refine t_skip ?_
            have hr := Option.some.inj hf; subst hr
            exact q_cut (s7, z8) rfl ⟨rfl, ⟨rfl, ⟨rfl, ⟨rfl, trivial⟩⟩⟩⟩ ⟨mem_at 0 rfl, ⟨mem_at 1 rfl, ⟨mem_at 2 rfl, trivial⟩⟩⟩ [] (Sel.nil) rfl
        rintro ⟨s59, z60⟩ rfl
        refine q_block_normal ?_
        have hr := Option.some.inj hf; subst hr
        exact q_cut (s59, z60) rfl ⟨rfl, ⟨rfl, ⟨rfl, ⟨rfl, trivial⟩⟩⟩⟩ ⟨mem_at 0 rfl, ⟨mem_at 1 rfl, ⟨mem_at 2 rfl, trivial⟩⟩⟩ [] (Sel.nil) rfl
    rintro ⟨s19, z20⟩ rfl
    refine q_then_code ?_
    refine t_region ?_
    refine tl_d rfl (d_move rfl ?_)
    refine tl_d rfl (d_add rfl rfl ?_)
    refine tl_d rfl (d_assign rfl ?_)
    refine tl_nil ?_
    exact q_round kq13 (s19, (IntKind.i64.wrap (s10 + (1 : Int))), z20) (Nat.lt_succ_self kq13) (wrap_wrap _ _) hf ⟨rfl, ⟨rfl, ⟨rfl, ⟨rfl, trivial⟩⟩⟩⟩ ⟨mem_at 0 rfl, ⟨mem_at 1 rfl, ⟨mem_at 2 rfl, trivial⟩⟩⟩ [] (Sel.nil) rfl
  · have hf := if_f hb18 hf
    refine t_exit ?_
    refine q_then_exit ?_
    refine q_then_exit ?_
    have hr := Option.some.inj hf; try subst hr
    have hf := hout12
    try dsimp only at hf
    refine q_block_hit ?_
    refine q_then_code ?_
    refine t_seq ?_
    refine t_region ?_
    refine tl_d rfl (d_move rfl ?_)
    refine tl_d rfl (d_assign rfl ?_)
    refine tl_nil ?_
    refine q_then_code ?_
    refine t_ret ?_
    have hr := Option.some.inj hf; subst hr
    refine q_ret (post := fun w w' m v => (rSl 32 (rArr 32 (rInt .u8))).val w' m v s7) hR _ (.inl rfl) (fun a w hs => ?_)
    exact ⟨_, run_results rfl (RvOk.cons (rv_tmp hs rfl) RvOk.nil), (hs.hv (hv_fact (mem_at 2 rfl)))⟩

def cofferlaw18_ReachAll.l2 : Nat → (List (List Int)) → Int → Option ((List (List Int)))
  | 0, _, _ => none
  | k + 1, s168, s170 => (if (decide (s170 < ((s168).length : Int))) = true then (need (0 ≤ s170 ∧ s170 < ((s168).length : Int)) ((cofferlaw18_ReachAll.l2 k ((s168).set (s170).toNat ((List.replicate 32 (rInt .u8).zeroD).set 0 (1 : Int))) (IntKind.i64.wrap (s170 + (1 : Int)))))) else (some (s168)))
def cofferlaw18_ReachAll.l1 : Nat → (List (List Int)) → Int → Option ((List (List Int)))
  | 0, _, _ => none
  | k + 1, s149, s151 => (if (decide (s151 < ((s149).length : Int))) = true then (need (0 ≤ s151 ∧ s151 < ((s149).length : Int)) ((cofferlaw18_ReachAll.l1 k ((s149).set (s151).toNat ((List.replicate 32 (rInt .u8).zeroD).set 0 (1 : Int))) (IntKind.i64.wrap (s151 + (1 : Int)))))) else (some (s149)))
def cofferlaw18_ReachAll.l0 (a0 : (List Api_Object)) (a1 : (List (List Int))) : Nat → Int → Option (Sum (Bool) (Unit))
  | 0, _ => none
  | k + 1, s38 => (if (decide (s38 < (2 : Int))) = true then ((reach_Mark.f k a0 ((List.replicate ((0 : Int) : Int).toNat (rArr 32 (rInt .u8)).zeroD) ++ a1)).bind fun c44 => (reach_Lost.f k a0 ((List.replicate ((0 : Int) : Int).toNat (rArr 32 (rInt .u8)).zeroD) ++ a1)).bind fun c48 => (((cofferref18_Mark.f k a0 a1).bind fun c56 => (cofferref17_AlikeIDs.f k c44 c56).bind fun c60 => (if (!c60) = true then (some true) else ((cofferref18_Lost.f k a0 a1).bind fun c66 => (cofferref17_AlikeIDs.f k c48 c66).bind fun c70 => (if (!c70) = true then (some true) else ((cofferref17_AlikeIDs.f k ((List.replicate ((0 : Int) : Int).toNat (rArr 32 (rInt .u8)).zeroD) ++ a1) a1).bind fun c76 => (if (!c76) = true then (some true) else (need (0 ≤ (IntKind.i64.wrap (((a1).length : Int) + (1 : Int))) ∧ (IntKind.i64.wrap (((a1).length : Int) + (1 : Int))) ≤ ((((List.replicate ((0 : Int) : Int).toNat (rArr 32 (rInt .u8)).zeroD) ++ a1) ++ (((List.replicate ((IntKind.i64.wrap (((a1).length : Int) + (1 : Int))) - (0 : Int) : Int).toNat (rArr 32 (rInt .u8)).zeroD)).drop (a1).length)).length : Int)) (need (0 ≤ ((a1).length : Int) ∧ ((a1).length : Int) < (((sub (((List.replicate ((0 : Int) : Int).toNat (rArr 32 (rInt .u8)).zeroD) ++ a1) ++ (((List.replicate ((IntKind.i64.wrap (((a1).length : Int) + (1 : Int))) - (0 : Int) : Int).toNat (rArr 32 (rInt .u8)).zeroD)).drop (a1).length)) 0 (IntKind.i64.wrap (((a1).length : Int) + (1 : Int))))).length : Int)) ((some (!decide ((((sub (((List.replicate ((0 : Int) : Int).toNat (rArr 32 (rInt .u8)).zeroD) ++ a1) ++ (((List.replicate ((IntKind.i64.wrap (((a1).length : Int) + (1 : Int))) - (0 : Int) : Int).toNat (rArr 32 (rInt .u8)).zeroD)).drop (a1).length)) 0 (IntKind.i64.wrap (((a1).length : Int) + (1 : Int))))).getD (((a1).length : Int)).toNat (rArr 32 (rInt .u8)).zeroD) = (List.replicate 32 (rInt .u8).zeroD)))))))))))))).bind fun s94 => (if s94 = true then (some (.inl false)) else (cofferlaw18_ReachAll.l1 k c44 (0 : Int)).bind fun o189 => (match o189 with | s149 => (cofferlaw18_ReachAll.l2 k c48 (0 : Int)).bind fun o187 => (match o187 with | s168 => (cofferlaw18_ReachAll.l0 a0 a1 k (IntKind.i64.wrap (s38 + (1 : Int)))))))) else (some (.inr ())))
def cofferlaw18_ReachAll.f (k : Nat) (a0 : (List Api_Object)) (a1 : (List (List Int))) : Option (Bool) := ((cofferlaw18_begun.f k ).bind fun c1 => (if (!c1) = true then (some false) else (((cofferlaw17_Light.f k a0 (40 : Int)).bind fun c10 => (if (!c10) = true then (some true) else (some (decide ((40 : Int) < ((a1).length : Int))))))).bind fun s17 => (if s17 = true then (some true) else (need ((0 : Int) ≤ (0 : Int) ∧ ((0 : Int) : Int) ≤ (IntKind.i64.wrap (((a1).length : Int) + (1 : Int))) ∧ (IntKind.i64.wrap (((a1).length : Int) + (1 : Int))) * ((32 : Nat) : Int) ≤ ((maxB : Nat) : Int) ∧ ((IntKind.i64.wrap (((a1).length : Int) + (1 : Int))) : Int) ≤ ((maxB : Nat) : Int)) (need ((a1).length ≤ ((List.replicate ((IntKind.i64.wrap (((a1).length : Int) + (1 : Int))) - (0 : Int) : Int).toNat (rArr 32 (rInt .u8)).zeroD)).length) ((cofferlaw18_ReachAll.l0 a0 a1 k (0 : Int)).bind fun o191 => (match o191 with | .inl r => some r | .inr _ => (some true))))))))
set_option maxRecDepth 100000 in
set_option maxHeartbeats 4900000 in
theorem cofferlaw18_ReachAll_ok (k : Nat) (a0 : (List Api_Object)) (a1 : (List (List Int))) (u0 u1 : Value) (r : Bool) (hf : cofferlaw18_ReachAll.f k a0 a1 = some r) : Cf.FnX false Try.prog 3 [u0, u1] (fun w m => (rSl 56 rApi_Object).val w m u0 a0 ∧ (rSl 32 (rArr 32 (rInt .u8))).val w m u1 a1) (fun w w' m v => rBool.val w' m v r) := by
  unfold cofferlaw18_ReachAll.f at hf
  refine fn_of Try.func3 rfl (Nat.le_of_ble_eq_true rfl) [(rSl 56 rApi_Object).fact u0 a0, (rSl 32 (rArr 32 (rInt .u8))).fact u1 a1] (fun w m h f hf => ?_) ?_
  · simp at hf; rcases hf with rfl | rfl
    · exact h.1
    · exact h.2
  intro w0 m0 R hR
  refine t_seq ?_
  refine t_region ?_
  refine tl_d rfl (d_assign rfl ?_)
  refine tl_nil ?_
  refine q_then_code ?_
  refine t_seq ?_
  refine t_seq ?_
  obtain ⟨c1, hc2, hf⟩ := bind_some hf
  refine t_region ?_
  refine tl_g [] rfl (g_call1 rfl hfn8 (cofferlaw18_begun_ok _ _ hc2) Evs.nil (fun a w hs => trivial) (fun v6 => ?_))
  refine tl_bool (mem_at 0 rfl) (fun hv8 => ?_)
  subst hv8
  refine tl_d rfl (d_not rfl ?_)
  refine tl_nil ?_
  refine q_then_code ?_
  refine t_cond rfl (fun hb9 => ?_) (fun hb9 => ?_)
  · have hf := if_t hb9 hf
    refine t_seq ?_
    refine t_region ?_
    refine tl_d rfl (d_assign rfl ?_)
    refine tl_nil ?_
    refine q_then_code ?_
    refine t_ret ?_
    refine q_then_ret ?_
    have hr := Option.some.inj hf; subst hr
    refine q_ret (post := fun w w' m v => rBool.val w' m v false) hR _ (.inl rfl) (fun a w hs => ?_)
    exact ⟨_, run_results rfl (RvOk.cons (rv_tmp hs rfl) RvOk.nil), (hs.hv hv_bool)⟩
  · have hf := if_f hb9 hf
    refine t_skip ?_
    refine q_then_code ?_
    refine t_seq ?_
    refine t_seq ?_
    obtain ⟨o18, ho19, hf⟩ := bind_some hf
    refine t_cut (X := Bool) (fun x => match x with | s17 => (([(0, u0), (1, u1), (20, .bool s17)], [(rSl 56 rApi_Object).fact u0 a0, (rSl 32 (rArr 32 (rInt .u8))).fact u1 a1], []) : Sym)) (fun x => match x with | s17 => s17 = o18) ?_ ?_
    · have hf := ho19; clear ho19
      obtain ⟨c10, hc11, hf⟩ := bind_some hf
      rcases bool_tf (!c10) with hb15 | hb15
      · have hf := if_t hb15 hf
        refine t_region ?_
        refine tl_d rfl (d_move rfl ?_)
        refine tl_g [] rfl (g_call1 rfl hfn9 (cofferlaw17_Light_ok _ _ _ _ _ hc11).weak (Evs.cons rfl (Evs.cons rfl Evs.nil)) (fun a w hs => ⟨(hv_fact (mem_at 1 rfl)) _ _ _ _ hs, (hv_int rfl) _ _ _ _ hs⟩) (fun v20 => ?_))
        refine tl_bool (mem_at 0 rfl) (fun hv22 => ?_)
        subst hv22
        refine tl_d rfl (d_not rfl ?_)
        refine tl_d rfl (d_move rfl ?_)
        refine tl_off (gd_off rfl rfl rfl hb15) rfl rfl ?_
        refine tl_off (gd_off rfl rfl rfl hb15) rfl rfl ?_
        refine tl_off (gd_off rfl rfl rfl hb15) rfl rfl ?_
        refine tl_d rfl (d_pick_true rfl hb15 rfl ?_)
        refine tl_nil ?_
        have hr := Option.some.inj hf; subst hr
        exact q_cut true rfl ⟨rfl, ⟨rfl, ⟨rfl, trivial⟩⟩⟩ ⟨mem_at 2 rfl, ⟨mem_at 3 rfl, trivial⟩⟩ [] (Sel.nil) rfl
      · have hf := if_f hb15 hf
        refine t_region ?_
        refine tl_d rfl (d_move rfl ?_)
        refine tl_g [] rfl (g_call1 rfl hfn9 (cofferlaw17_Light_ok _ _ _ _ _ hc11).weak (Evs.cons rfl (Evs.cons rfl Evs.nil)) (fun a w hs => ⟨(hv_fact (mem_at 1 rfl)) _ _ _ _ hs, (hv_int rfl) _ _ _ _ hs⟩) (fun v23 => ?_))
        refine tl_bool (mem_at 0 rfl) (fun hv25 => ?_)
        subst hv25
        refine tl_d rfl (d_not rfl ?_)
        refine tl_d rfl (d_move rfl ?_)
        refine tl_dg (gd_on rfl rfl rfl hb15) rfl (d_move rfl ?_)
        refine tl_dg (gd_on rfl rfl rfl hb15) rfl (d_len_sl rfl (mem_at 3 rfl) Try.underlying23 (fun hl26 _ => ?_))
        refine tl_dg (gd_on rfl rfl rfl hb15) rfl (d_gtr rfl rfl ?_)
        refine tl_d rfl (d_pick_false rfl hb15 rfl ?_)
        refine tl_nil ?_
        have hr := Option.some.inj hf; subst hr
        exact q_cut (decide ((40 : Int) < ((a1).length : Int))) rfl ⟨rfl, ⟨rfl, ⟨rfl, trivial⟩⟩⟩ ⟨mem_at 2 rfl, ⟨mem_at 3 rfl, trivial⟩⟩ [] (Sel.nil) rfl
    rintro s17 rfl
    refine q_then_code ?_
    refine t_cond rfl (fun hb27 => ?_) (fun hb27 => ?_)
    · have hf := if_t hb27 hf
      refine t_seq ?_
      refine t_region ?_
      refine tl_d rfl (d_assign rfl ?_)
      refine tl_nil ?_
      refine q_then_code ?_
      refine t_ret ?_
      refine q_then_ret ?_
      have hr := Option.some.inj hf; subst hr
      refine q_ret (post := fun w w' m v => rBool.val w' m v true) hR _ (.inl rfl) (fun a w hs => ?_)
      exact ⟨_, run_results rfl (RvOk.cons (rv_tmp hs rfl) RvOk.nil), (hs.hv hv_bool)⟩
    · have hf := if_f hb27 hf
      refine t_skip ?_
      refine q_then_code ?_
      refine t_seq ?_
      obtain ⟨hn30, hf⟩ := need_some hf
      obtain ⟨hn31, hf⟩ := need_some hf
      refine t_region ?_
      refine tl_d rfl (d_move rfl ?_)
      refine tl_d rfl (d_len_sl rfl (mem_at 1 rfl) Try.underlying23 (fun hl33 _ => ?_))
      refine tl_d rfl (d_add rfl rfl ?_)
      refine tl_g [] rfl (g_makeSlices rfl Try.underlying23 ty29 rfl rfl hn30 (fun v34 => ?_))
      refine tl_d rfl (d_move rfl ?_)
      refine tl_g _ rfl (g_append_sls (l2 := a1) 0 rfl rfl rfl rfl (hv_fact (mem_at 1 rfl)) Try.underlying23 ⟨_, Try.underlying23, fun k h => by cases h⟩ ty29 hn31 (List.mem_singleton_self _) (fun v35 => ?_))
      refine tl_d rfl (d_assign rfl ?_)
      refine tl_nil ?_
      refine q_then_code ?_
      refine t_seq ?_
      refine t_seq ?_
      refine t_region ?_
      refine tl_d rfl (d_assign rfl ?_)
      refine tl_nil ?_
      refine q_then_code ?_
      refine t_block ?_
      refine t_freezes 0 rfl ?_
      obtain ⟨o191, ho192, hf⟩ := bind_some hf
      refine t_loop (X := Int) (O := Sum (Bool) (Unit)) (fun k x => match x with | s38 => cofferlaw18_ReachAll.l0 a0 a1 k s38) o191 (fun x => match x with | s38 => (([(0, u0), (1, u1), (5, v35), (6, .int .i64 s38)], [(rSl 56 rApi_Object).fact u0 a0, (rSl 32 (rArr 32 (rInt .u8))).fact u1 a1, (rSl 32 (rArr 32 (rInt .u8))).fact v35 ((List.replicate ((0 : Int) : Int).toNat (rArr 32 (rInt .u8)).zeroD) ++ a1), (rSx 32 (rArr 32 (rInt .u8))).fact v35 (((List.replicate ((0 : Int) : Int).toNat (rArr 32 (rInt .u8)).zeroD) ++ a1), (((List.replicate ((IntKind.i64.wrap (((a1).length : Int) + (1 : Int))) - (0 : Int) : Int).toNat (rArr 32 (rInt .u8)).zeroD)).drop (a1).length))], []) : Sym)) (fun x => match x with | s38 => IntKind.i64.wrap s38 = s38) k (0 : Int) ho192 rfl ⟨rfl, ⟨rfl, ⟨rfl, ⟨rfl, trivial⟩⟩⟩⟩ ⟨mem_at 2 rfl, ⟨mem_at 3 rfl, ⟨mem_at 1 rfl, ⟨mem_at 0 rfl, trivial⟩⟩⟩⟩ [] (Sel.nil) rfl ?_
      clear ho192
      rintro k42 s38 hw_s38 hk41
      have hout39 := hf; clear hf
      obtain ⟨kq40, rfl⟩ : ∃ q, k42 = q + 1 := by cases k42 with | zero => cases hk41 | succ q => exact ⟨q, rfl⟩
      have hf := hk41
      clear hk41; dsimp only [cofferlaw18_ReachAll.l0] at hf
      refine t_seq ?_
      refine t_seq ?_
      refine t_region ?_
      refine tl_d rfl (d_move rfl ?_)
      refine tl_d rfl (d_lss rfl rfl ?_)
      refine tl_nil ?_
      refine q_then_code ?_
      refine t_cond rfl (fun hb43 => ?_) (fun hb43 => ?_)
      · have hf := if_t hb43 hf
        refine t_skip ?_
        refine q_then_code ?_
        refine t_seq ?_
        refine t_block ?_
        refine t_seq ?_
        obtain ⟨c44, hc45, hf⟩ := bind_some hf
        obtain ⟨c48, hc49, hf⟩ := bind_some hf
        refine t_region ?_
        refine tl_d rfl (d_move rfl ?_)
        refine tl_d rfl (d_move rfl ?_)
        refine tl_g [] rfl (g_callo rfl hfn10 (reach_Mark_ok _ _ _ _ _ _ hc45) (Evs.cons rfl (Evs.cons rfl Evs.nil)) (fun a w hs => ⟨(hv_fact (mem_at 0 rfl)) _ _ _ _ hs, (hv_fact (mem_at 2 rfl)) _ _ _ _ hs⟩) (fun v52 => ?_))
        refine tl_d rfl (d_move rfl ?_)
        refine tl_d rfl (d_move rfl ?_)
        refine tl_g [] rfl (g_callo rfl hfn11 (reach_Lost_ok _ _ _ _ _ _ hc49) (Evs.cons rfl (Evs.cons rfl Evs.nil)) (fun a w hs => ⟨(hv_fact (mem_at 0 rfl)) _ _ _ _ hs, (hv_fact (mem_at 2 rfl)) _ _ _ _ hs⟩) (fun v54 => ?_))
        refine tl_d rfl (d_assign rfl ?_)
        refine tl_d rfl (d_assign rfl ?_)
        refine tl_nil ?_
        refine q_then_code ?_
        refine t_seq ?_
        refine t_seq ?_
        obtain ⟨o95, ho96, hf⟩ := bind_some hf
        refine t_cut (X := Bool) (fun x => match x with | s94 => (([(0, u0), (1, u1), (5, v35), (6, (.int .i64 s38)), (7, v52), (8, v54), (69, .bool s94)], [(rSl 56 rApi_Object).fact u0 a0, (rSl 32 (rArr 32 (rInt .u8))).fact u1 a1, (rSl 32 (rArr 32 (rInt .u8))).fact v35 ((List.replicate ((0 : Int) : Int).toNat (rArr 32 (rInt .u8)).zeroD) ++ a1), (rSx 32 (rArr 32 (rInt .u8))).fact v35 (((List.replicate ((0 : Int) : Int).toNat (rArr 32 (rInt .u8)).zeroD) ++ a1), (((List.replicate ((IntKind.i64.wrap (((a1).length : Int) + (1 : Int))) - (0 : Int) : Int).toNat (rArr 32 (rInt .u8)).zeroD)).drop (a1).length))], [Own.buf v52 32 (rArr 32 (rInt .u8)) c44, Own.buf v54 32 (rArr 32 (rInt .u8)) c48]) : Sym)) (fun x => match x with | s94 => s94 = o95) ?_ ?_
        · have hf := ho96; clear ho96
          obtain ⟨c56, hc57, hf⟩ := bind_some hf
          obtain ⟨c60, hc61, hf⟩ := bind_some hf
          rcases bool_tf (!c60) with hb65 | hb65
          · have hf := if_t hb65 hf
            refine t_region ?_
            refine tl_d rfl (d_move rfl ?_)
            refine tl_d rfl (d_move rfl ?_)
            refine tl_d rfl (d_move rfl ?_)
            refine tl_g [] rfl (g_call1 rfl hfn13 (cofferref18_Mark_ok _ _ _ _ _ _ hc57).weak (Evs.cons rfl (Evs.cons rfl Evs.nil)) (fun a w hs => ⟨(hv_fact (mem_at 0 rfl)) _ _ _ _ hs, (hv_fact (mem_at 1 rfl)) _ _ _ _ hs⟩) (fun v97 => ?_))
            refine tl_g [] rfl (g_call1 rfl hfn12 (FnX.flat (fun _ _ _ _ _ h => Flat.val Flat.bool h) (cofferref17_AlikeIDs_ok _ _ _ _ _ _ hc61).weak) (Evs.cons rfl (Evs.cons rfl Evs.nil)) (fun a w hs => bor_one hs 0 rfl (fun hs1 => bor_end hs1 ⟨(hv_fact (mem_at 0 rfl)) _ _ _ _ hs1, (hv_fact (mem_at 1 rfl)) _ _ _ _ hs1⟩)) (fun v99 => ?_))
            refine tl_bool (mem_at 0 rfl) (fun hv101 => ?_)
            subst hv101
            refine tl_d rfl (d_not rfl ?_)
            refine tl_d rfl (d_move rfl ?_)
            refine tl_off (gd_off rfl rfl rfl hb65) rfl rfl ?_
            refine tl_off (gd_off rfl rfl rfl hb65) rfl rfl ?_
            refine tl_off (gd_off rfl rfl rfl hb65) rfl rfl ?_
            refine tl_off (gd_off rfl rfl rfl hb65) rfl rfl ?_
            refine tl_off (gd_off rfl rfl rfl hb65) rfl rfl ?_
            refine tl_off (gd_off rfl rfl rfl hb65) rfl rfl ?_
            refine tl_d rfl (d_pick_true rfl hb65 rfl ?_)
            refine tl_d rfl (d_move rfl ?_)
            refine tl_off (gd_off rfl rfl rfl rfl) rfl rfl ?_
            refine tl_off (gd_off rfl rfl rfl rfl) rfl rfl ?_
            refine tl_off (gd_off rfl rfl rfl rfl) rfl rfl ?_
            refine tl_off (gd_off rfl rfl rfl rfl) rfl rfl ?_
            refine tl_d rfl (d_pick_true rfl rfl rfl ?_)
            refine tl_d rfl (d_move rfl ?_)
            refine tl_off (gd_off rfl rfl rfl rfl) rfl rfl ?_
            refine tl_off (gd_off rfl rfl rfl rfl) rfl rfl ?_
            refine tl_off (gd_off rfl rfl rfl rfl) rfl rfl ?_
            refine tl_off (gd_off rfl rfl rfl rfl) rfl rfl ?_
            refine tl_off (gd_off rfl rfl rfl rfl) rfl rfl ?_
            refine tl_off (gd_off rfl rfl rfl rfl) rfl rfl ?_
            refine tl_off (gd_off rfl rfl rfl rfl) rfl rfl ?_
            refine tl_off (gd_off rfl rfl rfl rfl) rfl rfl ?_
            refine tl_off (gd_off rfl rfl rfl rfl) rfl rfl ?_
            refine tl_off (gd_off rfl rfl rfl rfl) rfl rfl ?_
            refine tl_off (gd_off rfl rfl rfl rfl) rfl rfl ?_
            refine tl_d rfl (d_pick_true rfl rfl rfl ?_)
            refine tl_nil ?_
            have hr := Option.some.inj hf; subst hr
            exact q_cut true rfl ⟨rfl, ⟨rfl, ⟨rfl, ⟨rfl, ⟨rfl, ⟨rfl, ⟨rfl, trivial⟩⟩⟩⟩⟩⟩⟩ ⟨mem_at 2 rfl, ⟨mem_at 3 rfl, ⟨mem_at 4 rfl, ⟨mem_at 5 rfl, trivial⟩⟩⟩⟩ [0, 1] (Sel.cons rfl (Sel.cons rfl Sel.nil)) rfl
          · have hf := if_f hb65 hf
            obtain ⟨c66, hc67, hf⟩ := bind_some hf
            obtain ⟨c70, hc71, hf⟩ := bind_some hf
            rcases bool_tf (!c70) with hb75 | hb75
            · have hf := if_t hb75 hf
              refine t_region ?_
              refine tl_d rfl (d_move rfl ?_)
              refine tl_d rfl (d_move rfl ?_)
              refine tl_d rfl (d_move rfl ?_)
              refine tl_g [] rfl (g_call1 rfl hfn13 (cofferref18_Mark_ok _ _ _ _ _ _ hc57).weak (Evs.cons rfl (Evs.cons rfl Evs.nil)) (fun a w hs => ⟨(hv_fact (mem_at 0 rfl)) _ _ _ _ hs, (hv_fact (mem_at 1 rfl)) _ _ _ _ hs⟩) (fun v102 => ?_))
              refine tl_g [] rfl (g_call1 rfl hfn12 (FnX.flat (fun _ _ _ _ _ h => Flat.val Flat.bool h) (cofferref17_AlikeIDs_ok _ _ _ _ _ _ hc61).weak) (Evs.cons rfl (Evs.cons rfl Evs.nil)) (fun a w hs => bor_one hs 0 rfl (fun hs1 => bor_end hs1 ⟨(hv_fact (mem_at 0 rfl)) _ _ _ _ hs1, (hv_fact (mem_at 1 rfl)) _ _ _ _ hs1⟩)) (fun v104 => ?_))
              refine tl_bool (mem_at 0 rfl) (fun hv106 => ?_)
              subst hv106
              refine tl_d rfl (d_not rfl ?_)
              refine tl_d rfl (d_move rfl ?_)
              refine tl_dg (gd_on rfl rfl rfl hb65) rfl (d_move rfl ?_)
              refine tl_dg (gd_on rfl rfl rfl hb65) rfl (d_move rfl ?_)
              refine tl_dg (gd_on rfl rfl rfl hb65) rfl (d_move rfl ?_)
              refine tl_gg [] (gd_on rfl rfl rfl hb65) (g_call1 rfl hfn14 (cofferref18_Lost_ok _ _ _ _ _ _ hc67).weak (Evs.cons rfl (Evs.cons rfl Evs.nil)) (fun a w hs => ⟨(hv_fact (mem_at 2 rfl)) _ _ _ _ hs, (hv_fact (mem_at 3 rfl)) _ _ _ _ hs⟩) (fun v107 => ?_))
              refine tl_gg [] (gd_on rfl rfl rfl hb65) (g_call1 rfl hfn12 (FnX.flat (fun _ _ _ _ _ h => Flat.val Flat.bool h) (cofferref17_AlikeIDs_ok _ _ _ _ _ _ hc71).weak) (Evs.cons rfl (Evs.cons rfl Evs.nil)) (fun a w hs => bor_one hs 1 rfl (fun hs1 => bor_end hs1 ⟨(hv_fact (mem_at 0 rfl)) _ _ _ _ hs1, (hv_fact (mem_at 1 rfl)) _ _ _ _ hs1⟩)) (fun v109 => ?_))
              refine tl_bool (mem_at 0 rfl) (fun hv111 => ?_)
              subst hv111
              refine tl_dg (gd_on rfl rfl rfl hb65) rfl (d_not rfl ?_)
              refine tl_d rfl (d_pick_false rfl hb65 rfl ?_)
              refine tl_d rfl (d_move rfl ?_)
              refine tl_off (gd_off rfl rfl rfl hb75) rfl rfl ?_
              refine tl_off (gd_off rfl rfl rfl hb75) rfl rfl ?_
              refine tl_off (gd_off rfl rfl rfl hb75) rfl rfl ?_
              refine tl_off (gd_off rfl rfl rfl hb75) rfl rfl ?_
              refine tl_d rfl (d_pick_true rfl hb75 rfl ?_)
              refine tl_d rfl (d_move rfl ?_)
              refine tl_off (gd_off rfl rfl rfl rfl) rfl rfl ?_
              refine tl_off (gd_off rfl rfl rfl rfl) rfl rfl ?_
              refine tl_off (gd_off rfl rfl rfl rfl) rfl rfl ?_
              refine tl_off (gd_off rfl rfl rfl rfl) rfl rfl ?_
              refine tl_off (gd_off rfl rfl rfl rfl) rfl rfl ?_
              refine tl_off (gd_off rfl rfl rfl rfl) rfl rfl ?_
              refine tl_off (gd_off rfl rfl rfl rfl) rfl rfl ?_
              refine tl_off (gd_off rfl rfl rfl rfl) rfl rfl ?_
              refine tl_off (gd_off rfl rfl rfl rfl) rfl rfl ?_
              refine tl_off (gd_off rfl rfl rfl rfl) rfl rfl ?_
              refine tl_off (gd_off rfl rfl rfl rfl) rfl rfl ?_
              refine tl_d rfl (d_pick_true rfl rfl rfl ?_)
              refine tl_nil ?_
              have hr := Option.some.inj hf; subst hr
              exact q_cut true rfl ⟨rfl, ⟨rfl, ⟨rfl, ⟨rfl, ⟨rfl, ⟨rfl, ⟨rfl, trivial⟩⟩⟩⟩⟩⟩⟩ ⟨mem_at 4 rfl, ⟨mem_at 5 rfl, ⟨mem_at 6 rfl, ⟨mem_at 7 rfl, trivial⟩⟩⟩⟩ [0, 1] (Sel.cons rfl (Sel.cons rfl Sel.nil)) rfl
            · have hf := if_f hb75 hf
              obtain ⟨c76, hc77, hf⟩ := bind_some hf
              rcases bool_tf (!c76) with hb81 | hb81
              · have hf := if_t hb81 hf
                refine t_region ?_
                refine tl_d rfl (d_move rfl ?_)
                refine tl_d rfl (d_move rfl ?_)
                refine tl_d rfl (d_move rfl ?_)
                refine tl_g [] rfl (g_call1 rfl hfn13 (cofferref18_Mark_ok _ _ _ _ _ _ hc57).weak (Evs.cons rfl (Evs.cons rfl Evs.nil)) (fun a w hs => ⟨(hv_fact (mem_at 0 rfl)) _ _ _ _ hs, (hv_fact (mem_at 1 rfl)) _ _ _ _ hs⟩) (fun v112 => ?_))
                refine tl_g [] rfl (g_call1 rfl hfn12 (FnX.flat (fun _ _ _ _ _ h => Flat.val Flat.bool h) (cofferref17_AlikeIDs_ok _ _ _ _ _ _ hc61).weak) (Evs.cons rfl (Evs.cons rfl Evs.nil)) (fun a w hs => bor_one hs 0 rfl (fun hs1 => bor_end hs1 ⟨(hv_fact (mem_at 0 rfl)) _ _ _ _ hs1, (hv_fact (mem_at 1 rfl)) _ _ _ _ hs1⟩)) (fun v114 => ?_))
                refine tl_bool (mem_at 0 rfl) (fun hv116 => ?_)
                subst hv116
                refine tl_d rfl (d_not rfl ?_)
                refine tl_d rfl (d_move rfl ?_)
                refine tl_dg (gd_on rfl rfl rfl hb65) rfl (d_move rfl ?_)
                refine tl_dg (gd_on rfl rfl rfl hb65) rfl (d_move rfl ?_)
                refine tl_dg (gd_on rfl rfl rfl hb65) rfl (d_move rfl ?_)
                refine tl_gg [] (gd_on rfl rfl rfl hb65) (g_call1 rfl hfn14 (cofferref18_Lost_ok _ _ _ _ _ _ hc67).weak (Evs.cons rfl (Evs.cons rfl Evs.nil)) (fun a w hs => ⟨(hv_fact (mem_at 2 rfl)) _ _ _ _ hs, (hv_fact (mem_at 3 rfl)) _ _ _ _ hs⟩) (fun v117 => ?_))
                refine tl_gg [] (gd_on rfl rfl rfl hb65) (g_call1 rfl hfn12 (FnX.flat (fun _ _ _ _ _ h => Flat.val Flat.bool h) (cofferref17_AlikeIDs_ok _ _ _ _ _ _ hc71).weak) (Evs.cons rfl (Evs.cons rfl Evs.nil)) (fun a w hs => bor_one hs 1 rfl (fun hs1 => bor_end hs1 ⟨(hv_fact (mem_at 0 rfl)) _ _ _ _ hs1, (hv_fact (mem_at 1 rfl)) _ _ _ _ hs1⟩)) (fun v119 => ?_))
                refine tl_bool (mem_at 0 rfl) (fun hv121 => ?_)
                subst hv121
                refine tl_dg (gd_on rfl rfl rfl hb65) rfl (d_not rfl ?_)
                refine tl_d rfl (d_pick_false rfl hb65 rfl ?_)
                refine tl_d rfl (d_move rfl ?_)
                refine tl_dg (gd_on rfl rfl rfl hb75) rfl (d_move rfl ?_)
                refine tl_dg (gd_on rfl rfl rfl hb75) rfl (d_move rfl ?_)
                refine tl_gg [] (gd_on rfl rfl rfl hb75) (g_call1 rfl hfn12 (cofferref17_AlikeIDs_ok _ _ _ _ _ _ hc77).weak (Evs.cons rfl (Evs.cons rfl Evs.nil)) (fun a w hs => ⟨(hv_fact (mem_at 6 rfl)) _ _ _ _ hs, (hv_fact (mem_at 5 rfl)) _ _ _ _ hs⟩) (fun v122 => ?_))
                refine tl_bool (mem_at 0 rfl) (fun hv124 => ?_)
                subst hv124
                refine tl_dg (gd_on rfl rfl rfl hb75) rfl (d_not rfl ?_)
                refine tl_d rfl (d_pick_false rfl hb75 rfl ?_)
                refine tl_d rfl (d_move rfl ?_)
                refine tl_off (gd_off rfl rfl rfl hb81) rfl rfl ?_
                refine tl_off (gd_off rfl rfl rfl hb81) rfl rfl ?_
                refine tl_off (gd_off rfl rfl rfl hb81) rfl rfl ?_
                refine tl_off (gd_off rfl rfl rfl hb81) rfl rfl ?_
                refine tl_off (gd_off rfl rfl rfl hb81) rfl rfl ?_
                refine tl_off (gd_off rfl rfl rfl hb81) rfl rfl ?_
                refine tl_off (gd_off rfl rfl rfl hb81) rfl rfl ?_
                refine tl_off (gd_off rfl rfl rfl hb81) rfl rfl ?_
                refine tl_off (gd_off rfl rfl rfl hb81) rfl rfl ?_
                refine tl_off (gd_off rfl rfl rfl hb81) rfl rfl ?_
                refine tl_off (gd_off rfl rfl rfl hb81) rfl rfl ?_
                refine tl_d rfl (d_pick_true rfl hb81 rfl ?_)
                refine tl_nil ?_
                have hr := Option.some.inj hf; subst hr
                exact q_cut true rfl ⟨rfl, ⟨rfl, ⟨rfl, ⟨rfl, ⟨rfl, ⟨rfl, ⟨rfl, trivial⟩⟩⟩⟩⟩⟩⟩ ⟨mem_at 5 rfl, ⟨mem_at 6 rfl, ⟨mem_at 7 rfl, ⟨mem_at 8 rfl, trivial⟩⟩⟩⟩ [0, 1] (Sel.cons rfl (Sel.cons rfl Sel.nil)) rfl
              · have hf := if_f hb81 hf
                obtain ⟨hn85, hf⟩ := need_some hf
                obtain ⟨hn87, hf⟩ := need_some hf
                refine t_region ?_
                refine tl_d rfl (d_move rfl ?_)
                refine tl_d rfl (d_move rfl ?_)
                refine tl_d rfl (d_move rfl ?_)
                refine tl_g [] rfl (g_call1 rfl hfn13 (cofferref18_Mark_ok _ _ _ _ _ _ hc57).weak (Evs.cons rfl (Evs.cons rfl Evs.nil)) (fun a w hs => ⟨(hv_fact (mem_at 0 rfl)) _ _ _ _ hs, (hv_fact (mem_at 1 rfl)) _ _ _ _ hs⟩) (fun v125 => ?_))
                refine tl_g [] rfl (g_call1 rfl hfn12 (FnX.flat (fun _ _ _ _ _ h => Flat.val Flat.bool h) (cofferref17_AlikeIDs_ok _ _ _ _ _ _ hc61).weak) (Evs.cons rfl (Evs.cons rfl Evs.nil)) (fun a w hs => bor_one hs 0 rfl (fun hs1 => bor_end hs1 ⟨(hv_fact (mem_at 0 rfl)) _ _ _ _ hs1, (hv_fact (mem_at 1 rfl)) _ _ _ _ hs1⟩)) (fun v127 => ?_))
                refine tl_bool (mem_at 0 rfl) (fun hv129 => ?_)
                subst hv129
                refine tl_d rfl (d_not rfl ?_)
                refine tl_d rfl (d_move rfl ?_)
                refine tl_dg (gd_on rfl rfl rfl hb65) rfl (d_move rfl ?_)
                refine tl_dg (gd_on rfl rfl rfl hb65) rfl (d_move rfl ?_)
                refine tl_dg (gd_on rfl rfl rfl hb65) rfl (d_move rfl ?_)
                refine tl_gg [] (gd_on rfl rfl rfl hb65) (g_call1 rfl hfn14 (cofferref18_Lost_ok _ _ _ _ _ _ hc67).weak (Evs.cons rfl (Evs.cons rfl Evs.nil)) (fun a w hs => ⟨(hv_fact (mem_at 2 rfl)) _ _ _ _ hs, (hv_fact (mem_at 3 rfl)) _ _ _ _ hs⟩) (fun v130 => ?_))
                refine tl_gg [] (gd_on rfl rfl rfl hb65) (g_call1 rfl hfn12 (FnX.flat (fun _ _ _ _ _ h => Flat.val Flat.bool h) (cofferref17_AlikeIDs_ok _ _ _ _ _ _ hc71).weak) (Evs.cons rfl (Evs.cons rfl Evs.nil)) (fun a w hs => bor_one hs 1 rfl (fun hs1 => bor_end hs1 ⟨(hv_fact (mem_at 0 rfl)) _ _ _ _ hs1, (hv_fact (mem_at 1 rfl)) _ _ _ _ hs1⟩)) (fun v132 => ?_))
                refine tl_bool (mem_at 0 rfl) (fun hv134 => ?_)
                subst hv134
                refine tl_dg (gd_on rfl rfl rfl hb65) rfl (d_not rfl ?_)
                refine tl_d rfl (d_pick_false rfl hb65 rfl ?_)
                refine tl_d rfl (d_move rfl ?_)
                refine tl_dg (gd_on rfl rfl rfl hb75) rfl (d_move rfl ?_)
                refine tl_dg (gd_on rfl rfl rfl hb75) rfl (d_move rfl ?_)
                refine tl_gg [] (gd_on rfl rfl rfl hb75) (g_call1 rfl hfn12 (cofferref17_AlikeIDs_ok _ _ _ _ _ _ hc77).weak (Evs.cons rfl (Evs.cons rfl Evs.nil)) (fun a w hs => ⟨(hv_fact (mem_at 6 rfl)) _ _ _ _ hs, (hv_fact (mem_at 5 rfl)) _ _ _ _ hs⟩) (fun v135 => ?_))
                refine tl_bool (mem_at 0 rfl) (fun hv137 => ?_)
                subst hv137
                refine tl_dg (gd_on rfl rfl rfl hb75) rfl (d_not rfl ?_)
                refine tl_d rfl (d_pick_false rfl hb75 rfl ?_)
                refine tl_d rfl (d_move rfl ?_)
                refine tl_dg (gd_on rfl rfl rfl hb81) rfl (d_move rfl ?_)
                refine tl_dg (gd_on rfl rfl rfl hb81) rfl (d_move rfl ?_)
                refine tl_dg (gd_on rfl rfl rfl hb81) rfl (d_len_sl rfl (mem_at 6 rfl) Try.underlying23 (fun hl138 _ => ?_))
                refine tl_dg (gd_on rfl rfl rfl hb81) rfl (d_add rfl rfl ?_)
                refine tl_dg (gd_on rfl rfl rfl hb81) rfl (d_slice_sx (j := (IntKind.i64.wrap (((a1).length : Int) + (1 : Int)))) (s := (((List.replicate ((IntKind.i64.wrap (((a1).length : Int) + (1 : Int))) - (0 : Int) : Int).toNat (rArr 32 (rInt .u8)).zeroD)).drop (a1).length)) rfl (mem_at 8 rfl) (.inr ⟨_, _, rfl, rfl⟩) Try.underlying23 ty29 hn85 (fun v139 => ?_))
                refine tl_dg (gd_on rfl rfl rfl hb81) rfl (d_move rfl ?_)
                refine tl_dg (gd_on rfl rfl rfl hb81) rfl (d_len_sl rfl (mem_at 7 rfl) Try.underlying23 (fun hl141 _ => ?_))
                refine tl_dg (gd_on rfl rfl rfl hb81) rfl (d_index_sl rfl (mem_at 0 rfl) rfl Try.underlying23 ty29 hn87 (fun p142 => ?_))
                refine tl_dg (gd_on rfl rfl rfl hb81) rfl (d_load_place rfl (mem_at 0 rfl) ty29 (fun v144 => ?_))
                refine tl_dg (gd_on rfl rfl rfl hb81) rfl (d_build_arr (y := (List.replicate 32 (rInt .u8).zeroD)) ty29 Try.underlying29 ty5 BuildOk.nil (fun v146 => ?_))
                refine tl_dg (gd_on rfl rfl rfl hb81) rfl (d_neq_agg rfl rfl (mem_at 1 rfl) (mem_at 0 rfl) rfl (EqAt.arr Try.underlying29 ty5 (EqAt.int Try.underlying5)) (by decide) (by kernel_rfl) ?_)
                refine tl_d rfl (d_pick_false rfl hb81 rfl ?_)
                refine tl_nil ?_
                have hr := Option.some.inj hf; subst hr
                exact q_cut (!decide ((((sub (((List.replicate ((0 : Int) : Int).toNat (rArr 32 (rInt .u8)).zeroD) ++ a1) ++ (((List.replicate ((IntKind.i64.wrap (((a1).length : Int) + (1 : Int))) - (0 : Int) : Int).toNat (rArr 32 (rInt .u8)).zeroD)).drop (a1).length)) 0 (IntKind.i64.wrap (((a1).length : Int) + (1 : Int))))).getD (((a1).length : Int)).toNat (rArr 32 (rInt .u8)).zeroD) = (List.replicate 32 (rInt .u8).zeroD))) rfl ⟨rfl, ⟨rfl, ⟨rfl, ⟨rfl, ⟨rfl, ⟨rfl, ⟨rfl, trivial⟩⟩⟩⟩⟩⟩⟩ ⟨mem_at 9 rfl, ⟨mem_at 10 rfl, ⟨mem_at 11 rfl, ⟨mem_at 12 rfl, trivial⟩⟩⟩⟩ [0, 1] (Sel.cons rfl (Sel.cons rfl Sel.nil)) rfl
        rintro s94 rfl
        refine q_then_code ?_
        refine t_cond rfl (fun hb148 => ?_) (fun hb148 => ?_)
        · have hf := if_t hb148 hf
          refine t_seq ?_
          refine t_region ?_
          refine tl_d rfl (d_assign rfl ?_)
          refine tl_nil ?_
          refine q_then_code ?_
          refine t_ret ?_
          refine q_then_ret ?_
          refine q_block_ret ?_
          refine q_then_ret ?_
          refine q_then_ret ?_
          have hr := Option.some.inj hf; try subst hr
          have hf := hout39
          refine q_block_ret ?_
          refine q_then_ret ?_
          have hr := Option.some.inj hf; subst hr
          refine q_ret (post := fun w w' m v => rBool.val w' m v false) hR _ (.inl rfl) (fun a w hs => ?_)
          exact ⟨_, run_results rfl (RvOk.cons (rv_tmp hs rfl) RvOk.nil), (hs.hv hv_bool)⟩
        · have hf := if_f hb148 hf
          refine t_skip ?_
          refine q_then_code ?_
          refine t_seq ?_
          refine t_seq ?_
          refine t_region ?_
          refine tl_d rfl (d_assign rfl ?_)
          refine tl_nil ?_
          refine q_then_code ?_
          refine t_block ?_
          obtain ⟨o189, ho190, hf⟩ := bind_some hf
          refine t_loop (X := (List (List Int)) × Int × Value) (O := (List (List Int))) (fun k x => match x with | (s149, s151, z150) => cofferlaw18_ReachAll.l1 k s149 s151) o189 (fun x => match x with | (s149, s151, z150) => (([(0, u0), (1, u1), (5, v35), (6, (.int .i64 s38)), (7, z150), (8, v54), (9, .int .i64 s151)], [(rSl 56 rApi_Object).fact u0 a0, (rSl 32 (rArr 32 (rInt .u8))).fact u1 a1, (rSl 32 (rArr 32 (rInt .u8))).fact v35 ((List.replicate ((0 : Int) : Int).toNat (rArr 32 (rInt .u8)).zeroD) ++ a1), (rSx 32 (rArr 32 (rInt .u8))).fact v35 (((List.replicate ((0 : Int) : Int).toNat (rArr 32 (rInt .u8)).zeroD) ++ a1), (((List.replicate ((IntKind.i64.wrap (((a1).length : Int) + (1 : Int))) - (0 : Int) : Int).toNat (rArr 32 (rInt .u8)).zeroD)).drop (a1).length))], [Own.buf z150 32 (rArr 32 (rInt .u8)) s149, Own.buf v54 32 (rArr 32 (rInt .u8)) c48]) : Sym)) (fun x => match x with | (s149, s151, z150) => IntKind.i64.wrap s151 = s151) kq40 (c44, (0 : Int), v52) ho190 rfl ⟨rfl, ⟨rfl, ⟨rfl, ⟨rfl, ⟨rfl, ⟨rfl, ⟨rfl, trivial⟩⟩⟩⟩⟩⟩⟩ ⟨mem_at 0 rfl, ⟨mem_at 1 rfl, ⟨mem_at 2 rfl, ⟨mem_at 3 rfl, trivial⟩⟩⟩⟩ [0, 1] (Sel.cons rfl (Sel.cons rfl Sel.nil)) rfl ?_
          clear ho190
          rintro k155 ⟨s149, s151, z150⟩ hw_s151 hk154
          have hout152 := hf; clear hf
          obtain ⟨kq153, rfl⟩ : ∃ q, k155 = q + 1 := by cases k155 with | zero => cases hk154 | succ q => exact ⟨q, rfl⟩
          have hf := hk154
          clear hk154; dsimp only [cofferlaw18_ReachAll.l1] at hf
          refine t_seq ?_
          refine t_seq ?_
          refine t_region ?_
          refine tl_d rfl (d_move rfl ?_)
          refine tl_d rfl (d_move rfl ?_)
          refine tl_d rfl (d_len_buf 0 rfl rfl Try.underlying23 (fun hl157 _ => ?_))
          refine tl_d rfl (d_lss rfl rfl ?_)
          refine tl_nil ?_
          refine q_then_code ?_
          refine t_cond rfl (fun hb158 => ?_) (fun hb158 => ?_)
          · have hf := if_t hb158 hf
            refine t_skip ?_
            refine q_then_code ?_
            refine t_seq ?_
            refine t_block ?_
            obtain ⟨hn161, hf⟩ := need_some hf
            refine t_region ?_
            refine tl_d rfl (d_move rfl ?_)
            refine tl_d rfl (d_move rfl ?_)
            refine tl_d rfl (d_build_arr (y := ((List.replicate 32 (rInt .u8).zeroD).set 0 (1 : Int))) ty29 Try.underlying29 ty5 (BuildOk.cons rfl (Fld.elem 32 (rInt .u8) 0 (rInt .u8).zeroD) (by decide) rfl (hv_int rfl) BuildOk.nil) (fun v164 => ?_))
            refine tl_d rfl (d_index_buf 0 rfl rfl rfl Try.underlying23 ty29 hn161 (fun p166 hp167 => ?_))
            refine tl_g _ rfl (g_store_buf (j := (s151).toNat) 0 rfl hp167 rfl rfl rfl (toNat_lt hn161) (Fld.self (rArr 32 (rInt .u8))) trivial (hv_fact (mem_at 0 rfl)) ty29 (List.mem_singleton_self _) ?_)
            refine tl_nil ?_
            refine q_block_normal ?_
            refine q_then_code ?_
            refine t_region ?_
            refine tl_d rfl (d_move rfl ?_)
            refine tl_d rfl (d_add rfl rfl ?_)
            refine tl_d rfl (d_assign rfl ?_)
            refine tl_nil ?_
            exact q_round kq153 (((s149).set (s151).toNat ((List.replicate 32 (rInt .u8).zeroD).set 0 (1 : Int))), (IntKind.i64.wrap (s151 + (1 : Int))), z150) (Nat.lt_succ_self kq153) (wrap_wrap _ _) hf ⟨rfl, ⟨rfl, ⟨rfl, ⟨rfl, ⟨rfl, ⟨rfl, ⟨rfl, trivial⟩⟩⟩⟩⟩⟩⟩ ⟨mem_at 1 rfl, ⟨mem_at 2 rfl, ⟨mem_at 3 rfl, ⟨mem_at 4 rfl, trivial⟩⟩⟩⟩ [0, 1] (Sel.cons rfl (Sel.cons rfl Sel.nil)) rfl
          · have hf := if_f hb158 hf
            refine t_exit ?_
            refine q_then_exit ?_
            refine q_then_exit ?_
            have hr := Option.some.inj hf; try subst hr
            have hf := hout152
            try dsimp only at hf
            refine q_block_hit ?_
            refine q_then_code ?_
            refine t_seq ?_
            refine t_region ?_
            refine tl_d rfl (d_assign rfl ?_)
            refine tl_nil ?_
            refine q_then_code ?_
            refine t_block ?_
            obtain ⟨o187, ho188, hf⟩ := bind_some hf
            refine t_loop (X := (List (List Int)) × Int × Value) (O := (List (List Int))) (fun k x => match x with | (s168, s170, z169) => cofferlaw18_ReachAll.l2 k s168 s170) o187 (fun x => match x with | (s168, s170, z169) => (([(0, u0), (1, u1), (5, v35), (6, (.int .i64 s38)), (8, z169), (10, .int .i64 s170)], [(rSl 56 rApi_Object).fact u0 a0, (rSl 32 (rArr 32 (rInt .u8))).fact u1 a1, (rSl 32 (rArr 32 (rInt .u8))).fact v35 ((List.replicate ((0 : Int) : Int).toNat (rArr 32 (rInt .u8)).zeroD) ++ a1), (rSx 32 (rArr 32 (rInt .u8))).fact v35 (((List.replicate ((0 : Int) : Int).toNat (rArr 32 (rInt .u8)).zeroD) ++ a1), (((List.replicate ((IntKind.i64.wrap (((a1).length : Int) + (1 : Int))) - (0 : Int) : Int).toNat (rArr 32 (rInt .u8)).zeroD)).drop (a1).length))], [Own.buf z169 32 (rArr 32 (rInt .u8)) s168]) : Sym)) (fun x => match x with | (s168, s170, z169) => IntKind.i64.wrap s170 = s170) kq40 (c48, (0 : Int), v54) ho188 rfl ⟨rfl, ⟨rfl, ⟨rfl, ⟨rfl, ⟨rfl, ⟨rfl, trivial⟩⟩⟩⟩⟩⟩ ⟨mem_at 0 rfl, ⟨mem_at 1 rfl, ⟨mem_at 2 rfl, ⟨mem_at 3 rfl, trivial⟩⟩⟩⟩ [1] (Sel.cons rfl Sel.nil) rfl ?_
            clear ho188
            rintro k174 ⟨s168, s170, z169⟩ hw_s170 hk173
            have hout171 := hf; clear hf
            obtain ⟨kq172, rfl⟩ : ∃ q, k174 = q + 1 := by cases k174 with | zero => cases hk173 | succ q => exact ⟨q, rfl⟩
            have hf := hk173
            clear hk173; dsimp only [cofferlaw18_ReachAll.l2] at hf
            refine t_seq ?_
            refine t_seq ?_
            refine t_region ?_
            refine tl_d rfl (d_move rfl ?_)
            refine tl_d rfl (d_move rfl ?_)
            refine tl_d rfl (d_len_buf 0 rfl rfl Try.underlying23 (fun hl176 _ => ?_))
            refine tl_d rfl (d_lss rfl rfl ?_)
            refine tl_nil ?_
            refine q_then_code ?_
            refine t_cond rfl (fun hb177 => ?_) (fun hb177 => ?_)
            · have hf := if_t hb177 hf
              refine t_skip ?_
              refine q_then_code ?_
              refine t_seq ?_
              refine t_block ?_
              obtain ⟨hn180, hf⟩ := need_some hf
              refine t_region ?_
              refine tl_d rfl (d_move rfl ?_)
              refine tl_d rfl (d_move rfl ?_)
              refine tl_d rfl (d_build_arr (y := ((List.replicate 32 (rInt .u8).zeroD).set 0 (1 : Int))) ty29 Try.underlying29 ty5 (BuildOk.cons rfl (Fld.elem 32 (rInt .u8) 0 (rInt .u8).zeroD) (by decide) rfl (hv_int rfl) BuildOk.nil) (fun v183 => ?_))
              refine tl_d rfl (d_index_buf 0 rfl rfl rfl Try.underlying23 ty29 hn180 (fun p185 hp186 => ?_))
              refine tl_g _ rfl (g_store_buf (j := (s170).toNat) 0 rfl hp186 rfl rfl rfl (toNat_lt hn180) (Fld.self (rArr 32 (rInt .u8))) trivial (hv_fact (mem_at 0 rfl)) ty29 (List.mem_singleton_self _) ?_)
              refine tl_nil ?_
              refine q_block_normal ?_
              refine q_then_code ?_
              refine t_region ?_
              refine tl_d rfl (d_move rfl ?_)
              refine tl_d rfl (d_add rfl rfl ?_)
              refine tl_d rfl (d_assign rfl ?_)
              refine tl_nil ?_
              exact q_round kq172 (((s168).set (s170).toNat ((List.replicate 32 (rInt .u8).zeroD).set 0 (1 : Int))), (IntKind.i64.wrap (s170 + (1 : Int))), z169) (Nat.lt_succ_self kq172) (wrap_wrap _ _) hf ⟨rfl, ⟨rfl, ⟨rfl, ⟨rfl, ⟨rfl, ⟨rfl, trivial⟩⟩⟩⟩⟩⟩ ⟨mem_at 1 rfl, ⟨mem_at 2 rfl, ⟨mem_at 3 rfl, ⟨mem_at 4 rfl, trivial⟩⟩⟩⟩ [0] (Sel.cons rfl Sel.nil) rfl
            · have hf := if_f hb177 hf
              refine t_exit ?_
              refine q_then_exit ?_
              refine q_then_exit ?_
              have hr := Option.some.inj hf; try subst hr
              have hf := hout171
              try dsimp only at hf
              refine q_block_hit ?_
              refine q_block_normal ?_
              refine q_then_code ?_
              refine t_region ?_
              refine tl_d rfl (d_move rfl ?_)
              refine tl_d rfl (d_add rfl rfl ?_)
              refine tl_d rfl (d_assign rfl ?_)
              refine tl_nil ?_
              exact q_round kq40 (IntKind.i64.wrap (s38 + (1 : Int))) (Nat.lt_succ_self kq40) (wrap_wrap _ _) hf ⟨rfl, ⟨rfl, ⟨rfl, ⟨rfl, trivial⟩⟩⟩⟩ ⟨mem_at 0 rfl, ⟨mem_at 1 rfl, ⟨mem_at 2 rfl, ⟨mem_at 3 rfl, trivial⟩⟩⟩⟩ [] (Sel.nil) rfl
      · have hf := if_f hb43 hf
        refine t_exit ?_
        refine q_then_exit ?_
        refine q_then_exit ?_
        have hr := Option.some.inj hf; try subst hr
        have hf := hout39
        try dsimp only at hf
        refine q_block_hit ?_
        refine q_then_code ?_
        refine t_seq ?_
        refine t_region ?_
        refine tl_d rfl (d_assign rfl ?_)
        refine tl_nil ?_
        refine q_then_code ?_
        refine t_ret ?_
        have hr := Option.some.inj hf; subst hr
        refine q_ret (post := fun w w' m v => rBool.val w' m v true) hR _ (.inl rfl) (fun a w hs => ?_)
        exact ⟨_, run_results rfl (RvOk.cons (rv_tmp hs rfl) RvOk.nil), (hs.hv hv_bool)⟩

end Go.Proofs.Ytbcipfhhmkjigaa
