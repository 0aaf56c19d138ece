/- Functions of the program as plain Lean functions, each with the proof that the call comes to it. -/
import Derived.Test.YtbcipfhhmkjigaaPT
import Derived.Lib.IndexAny
import Derived.Test.YtbcipfhhmkjigaaPMB
import Derived.Test.YtbcipfhhmkjigaaPR
import Derived.Test.YtbcipfhhmkjigaaPKB
set_option linter.unusedVariables false
open Go Go.Cf Go.Proofs
namespace Go.Proofs.Ytbcipfhhmkjigaa

def cofferlaw17_Light.l0 (a0 : (List Api_Object)) : Nat → Int → Option (Sum (Bool) (Unit))
  | 0, _ => none
  | k + 1, s4 => (if (decide (s4 < ((a0).length : Int))) = true then (need (0 ≤ s4 ∧ s4 < ((a0).length : Int)) ((if (decide ((5000 : Int) < (((((a0).getD (s4).toNat rApi_Object.zeroD)).Data).length : Int))) = true then (some (.inl false)) else (cofferlaw17_Light.l0 a0 k (IntKind.i64.wrap (s4 + (1 : Int))))))) else (some (.inr ())))
def cofferlaw17_Light.f (k : Nat) (a0 : (List Api_Object)) (a1 : Int) : Option (Bool) := (if (decide (a1 < ((a0).length : Int))) = true then (some false) else (cofferlaw17_Light.l0 a0 k (0 : Int)).bind fun o28 => (match o28 with | .inl r => some r | .inr _ => (some true)))
set_option maxRecDepth 100000 in
set_option maxHeartbeats 1230000 in
theorem cofferlaw17_Light_ok (k : Nat) (a0 : (List Api_Object)) (a1 : Int) (u0 : Value) (r : Bool) (hf : cofferlaw17_Light.f k a0 a1 = some r) : Cf.FnX true Try.prog 9 [u0, (.int .i64 a1)] (fun w m => (rSl 56 rApi_Object).val w m u0 a0 ∧ (rInt .i64).val w m (.int .i64 a1) a1) (fun w w' m v => rBool.val w' m v r) := by
  unfold cofferlaw17_Light.f at hf
  refine fn_of Try.func9 rfl (Nat.le_of_ble_eq_true rfl) [(rSl 56 rApi_Object).fact u0 a0, (rInt .i64).fact (.int .i64 a1) a1] (fun w m h f hf => ?_) ?_
  · simp at hf; rcases hf with rfl | rfl
    · exact h.1
    · exact h.2
  intro w0 m0 R hR
  refine t_int (mem_at 1 rfl) (fun _ hw1 => ?_)
  refine t_seq ?_
  refine t_region ?_
  refine tl_d rfl (d_assign rfl ?_)
  refine tl_nil ?_
  refine q_then_code ?_
  refine t_seq ?_
  refine t_seq ?_
  refine t_region ?_
  refine tl_d rfl (d_move rfl ?_)
  refine tl_d rfl (d_len_sl rfl (mem_at 0 rfl) Try.underlying22 (fun hl2 _ => ?_))
  refine tl_d rfl (d_move rfl ?_)
  refine tl_d rfl (d_gtr rfl rfl ?_)
  refine tl_nil ?_
  refine q_then_code ?_
  refine t_cond rfl (fun hb3 => ?_) (fun hb3 => ?_)
  · have hf := if_t hb3 hf
    refine t_seq ?_
    refine t_region ?_
    refine tl_d rfl (d_assign rfl ?_)
    refine tl_nil ?_
    refine q_then_code ?_
    refine t_ret ?_
    refine q_then_ret ?_
    have hr := Option.some.inj hf; subst hr
    refine q_ret (post := fun w w' m v => rBool.val w' m v false) hR _ (.inl rfl) (fun a w hs => ?_)
    exact ⟨_, run_results rfl (RvOk.cons (rv_tmp hs rfl) RvOk.nil), (hs.hv hv_bool)⟩
  · have hf := if_f hb3 hf
    refine t_skip ?_
    refine q_then_code ?_
    refine t_seq ?_
    refine t_seq ?_
    refine t_region ?_
    refine tl_d rfl (d_assign rfl ?_)
    refine tl_nil ?_
    refine q_then_code ?_
    refine t_block ?_
    obtain ⟨o28, ho29, hf⟩ := bind_some hf
    refine t_loop (X := Int) (O := Sum (Bool) (Unit)) (fun kl x => match x with | s4 => cofferlaw17_Light.l0 a0 kl s4) o28 (fun x => match x with | s4 => (([(0, u0), (5, .int .i64 s4)], [(rSl 56 rApi_Object).fact u0 a0], []) : Sym)) (fun x => match x with | s4 => IntKind.i64.wrap s4 = s4) k (0 : Int) ho29 rfl ⟨rfl, ⟨rfl, trivial⟩⟩ ⟨mem_at 0 rfl, trivial⟩ [] (Sel.nil) rfl ?_
    clear ho29
    rintro k8 s4 hw_s4 hk7
    have hout5 := hf; clear hf
    obtain ⟨kq6, rfl⟩ : ∃ q, k8 = q + 1 := by cases k8 with | zero => cases hk7 | succ q => exact ⟨q, rfl⟩
    have hf := hk7
    clear hk7; dsimp only [cofferlaw17_Light.l0] at hf
    refine t_seq ?_
    refine t_seq ?_
    refine t_region ?_
    refine tl_d rfl (d_move rfl ?_)
    refine tl_d rfl (d_move rfl ?_)
    refine tl_d rfl (d_len_sl rfl (mem_at 0 rfl) Try.underlying22 (fun hl10 _ => ?_))
    refine tl_d rfl (d_lss rfl rfl ?_)
    refine tl_nil ?_
    refine q_then_code ?_
    refine t_cond rfl (fun hb11 => ?_) (fun hb11 => ?_)
    · have hf := if_t hb11 hf
      refine t_skip ?_
      refine q_then_code ?_
      refine t_seq ?_
      refine t_block ?_
      refine t_seq ?_
      obtain ⟨hn12, hf⟩ := need_some hf
      refine t_region ?_
      refine tl_d rfl (d_move rfl ?_)
      refine tl_d rfl (d_move rfl ?_)
      refine tl_d rfl (d_index_sl rfl (mem_at 0 rfl) rfl Try.underlying22 ty34 hn12 (fun p20 => ?_))
      refine tl_d rfl (d_field_place rfl (mem_at 0 rfl) fo34_1 fl_Api_Object_Data trivial (fun p22 => ?_))
      refine tl_d rfl (d_load_place rfl (mem_at 0 rfl) ty32 (fun v24 => ?_))
      refine tl_d rfl (d_len_sl rfl (mem_at 0 rfl) Try.underlying32 (fun hl26 _ => ?_))
      refine tl_d rfl (d_gtr rfl rfl ?_)
      refine tl_nil ?_
      refine q_then_code ?_
      refine t_cond rfl (fun hb27 => ?_) (fun hb27 => ?_)
      · have hf := if_t hb27 hf
        refine t_seq ?_
        refine t_region ?_
        refine tl_d rfl (d_assign rfl ?_)
        refine tl_nil ?_
        refine q_then_code ?_
        refine t_ret ?_
        refine q_block_ret ?_
        refine q_then_ret ?_
        refine q_then_ret ?_
        have hr := Option.some.inj hf; try subst hr
        have hf := hout5
        refine q_block_ret ?_
        refine q_then_ret ?_
        have hr := Option.some.inj hf; subst hr
        refine q_ret (post := fun w w' m v => rBool.val w' m v false) hR _ (.inl rfl) (fun a w hs => ?_)
        exact ⟨_, run_results rfl (RvOk.cons (rv_tmp hs rfl) RvOk.nil), (hs.hv hv_bool)⟩
      · have hf := if_f hb27 hf
        refine t_skip ?_
        refine q_block_normal ?_
        refine q_then_code ?_
        refine t_region ?_
        refine tl_d rfl (d_move rfl ?_)
        refine tl_d rfl (d_add rfl rfl ?_)
        refine tl_d rfl (d_assign rfl ?_)
        refine tl_nil ?_
        exact q_round kq6 (IntKind.i64.wrap (s4 + (1 : Int))) (Nat.lt_succ_self kq6) (wrap_wrap _ _) hf ⟨rfl, ⟨rfl, trivial⟩⟩ ⟨mem_at 3 rfl, trivial⟩ [] (Sel.nil) rfl
    · have hf := if_f hb11 hf
      refine t_exit ?_
      refine q_then_exit ?_
      refine q_then_exit ?_
      have hr := Option.some.inj hf; try subst hr
      have hf := hout5
      try dsimp only at hf
      refine q_block_hit ?_
      refine q_then_code ?_
      refine t_seq ?_
      refine t_region ?_
      refine tl_d rfl (d_assign rfl ?_)
      refine tl_nil ?_
      refine q_then_code ?_
      refine t_ret ?_
      have hr := Option.some.inj hf; subst hr
      refine q_ret (post := fun w w' m v => rBool.val w' m v true) hR _ (.inl rfl) (fun a w hs => ?_)
      exact ⟨_, run_results rfl (RvOk.cons (rv_tmp hs rfl) RvOk.nil), (hs.hv hv_bool)⟩

def cofferref17_AlikeIDs.l0 (a0 : (List (List Int))) (a1 : (List (List Int))) : Nat → Int → Option (Sum (Bool) (Unit))
  | 0, _ => none
  | k + 1, s6 => (if (decide (s6 < ((a0).length : Int))) = true then (need (0 ≤ s6 ∧ s6 < ((a0).length : Int)) (need (0 ≤ s6 ∧ s6 < ((a1).length : Int)) ((if (!decide (((a0).getD (s6).toNat (rArr 32 (rInt .u8)).zeroD) = ((a1).getD (s6).toNat (rArr 32 (rInt .u8)).zeroD))) = true then (some (.inl false)) else (cofferref17_AlikeIDs.l0 a0 a1 k (IntKind.i64.wrap (s6 + (1 : Int)))))))) else (some (.inr ())))
def cofferref17_AlikeIDs.f (k : Nat) (a0 : (List (List Int))) (a1 : (List (List Int))) : Option (Bool) := (if (!decide (((a0).length : Int) = ((a1).length : Int))) = true then (some false) else (cofferref17_AlikeIDs.l0 a0 a1 k (0 : Int)).bind fun o33 => (match o33 with | .inl r => some r | .inr _ => (some true)))
set_option maxRecDepth 100000 in
set_option maxHeartbeats 1260000 in
theorem cofferref17_AlikeIDs_ok (k : Nat) (a0 : (List (List Int))) (a1 : (List (List Int))) (u0 u1 : Value) (r : Bool) (hf : cofferref17_AlikeIDs.f k a0 a1 = some r) : Cf.FnX true Try.prog 12 [u0, u1] (fun w m => (rSl 32 (rArr 32 (rInt .u8))).val w m u0 a0 ∧ (rSl 32 (rArr 32 (rInt .u8))).val w m u1 a1) (fun w w' m v => rBool.val w' m v r) := by
  unfold cofferref17_AlikeIDs.f at hf
  refine fn_of Try.func12 rfl (Nat.le_of_ble_eq_true rfl) [(rSl 32 (rArr 32 (rInt .u8))).fact u0 a0, (rSl 32 (rArr 32 (rInt .u8))).fact u1 a1] (fun w m h f hf => ?_) ?_
  · simp at hf; rcases hf with rfl | rfl
    · exact h.1
    · exact h.2
  intro w0 m0 R hR
  refine t_seq ?_
  refine t_region ?_
  refine tl_d rfl (d_assign rfl ?_)
  refine tl_nil ?_
  refine q_then_code ?_
  refine t_seq ?_
  refine t_seq ?_
  refine t_region ?_
  refine tl_d rfl (d_move rfl ?_)
  refine tl_d rfl (d_len_sl rfl (mem_at 0 rfl) Try.underlying23 (fun hl3 _ => ?_))
  refine tl_d rfl (d_move rfl ?_)
  refine tl_d rfl (d_len_sl rfl (mem_at 1 rfl) Try.underlying23 (fun hl4 _ => ?_))
  refine tl_d rfl (d_neq rfl rfl ?_)
  refine tl_nil ?_
  refine q_then_code ?_
  refine t_cond rfl (fun hb5 => ?_) (fun hb5 => ?_)
  · have hf := if_t hb5 hf
    refine t_seq ?_
    refine t_region ?_
    refine tl_d rfl (d_assign rfl ?_)
    refine tl_nil ?_
    refine q_then_code ?_
    refine t_ret ?_
    refine q_then_ret ?_
    have hr := Option.some.inj hf; subst hr
    refine q_ret (post := fun w w' m v => rBool.val w' m v false) hR _ (.inl rfl) (fun a w hs => ?_)
    exact ⟨_, run_results rfl (RvOk.cons (rv_tmp hs rfl) RvOk.nil), (hs.hv hv_bool)⟩
  · have hf := if_f hb5 hf
    refine t_skip ?_
    refine q_then_code ?_
    refine t_seq ?_
    refine t_seq ?_
    refine t_region ?_
    refine tl_d rfl (d_assign rfl ?_)
    refine tl_nil ?_
    refine q_then_code ?_
    refine t_block ?_
    obtain ⟨o33, ho34, hf⟩ := bind_some hf
    refine t_loop (X := Int) (O := Sum (Bool) (Unit)) (fun kl x => match x with | s6 => cofferref17_AlikeIDs.l0 a0 a1 kl s6) o33 (fun x => match x with | s6 => (([(0, u0), (1, u1), (5, .int .i64 s6)], [(rSl 32 (rArr 32 (rInt .u8))).fact u0 a0, (rSl 32 (rArr 32 (rInt .u8))).fact u1 a1], []) : Sym)) (fun x => match x with | s6 => IntKind.i64.wrap s6 = s6) k (0 : Int) ho34 rfl ⟨rfl, ⟨rfl, ⟨rfl, trivial⟩⟩⟩ ⟨mem_at 0 rfl, ⟨mem_at 1 rfl, trivial⟩⟩ [] (Sel.nil) rfl ?_
    clear ho34
    rintro k10 s6 hw_s6 hk9
    have hout7 := hf; clear hf
    obtain ⟨kq8, rfl⟩ : ∃ q, k10 = q + 1 := by cases k10 with | zero => cases hk9 | succ q => exact ⟨q, rfl⟩
    have hf := hk9
    clear hk9; dsimp only [cofferref17_AlikeIDs.l0] at hf
    refine t_seq ?_
    refine t_seq ?_
    refine t_region ?_
    refine tl_d rfl (d_move rfl ?_)
    refine tl_d rfl (d_move rfl ?_)
    refine tl_d rfl (d_len_sl rfl (mem_at 0 rfl) Try.underlying23 (fun hl12 _ => ?_))
    refine tl_d rfl (d_lss rfl rfl ?_)
    refine tl_nil ?_
    refine q_then_code ?_
    refine t_cond rfl (fun hb13 => ?_) (fun hb13 => ?_)
    · have hf := if_t hb13 hf
      refine t_skip ?_
      refine q_then_code ?_
      refine t_seq ?_
      refine t_block ?_
      refine t_seq ?_
      obtain ⟨hn14, hf⟩ := need_some hf
      obtain ⟨hn19, hf⟩ := need_some hf
      refine t_any (n := 9) [] mixed ⟨by kernel_rfl, .inl rfl⟩ (np_then (np_block (np_then (np_then (np_block (np_then np_body)))))) ?_
      refine ta_take (i := 0) rfl (by kernel_rfl) gd_none (d_move rfl ?_)
      refine ta_take (i := 1) rfl (by kernel_rfl) gd_none (d_move rfl ?_)
      refine ta_take (i := 2) rfl (by kernel_rfl) gd_none (d_index_sl rfl (mem_at 0 rfl) rfl Try.underlying23 ty29 hn14 (fun p24 => ?_))
      refine ta_take (i := 3) rfl (by kernel_rfl) gd_none (d_load_place rfl (mem_at 0 rfl) ty29 (fun v26 => ?_))
      refine ta_take (i := 4) rfl (by kernel_rfl) gd_none (d_move rfl ?_)
      refine ta_take (i := 5) rfl (by kernel_rfl) gd_none (d_move rfl ?_)
      refine ta_take (i := 6) rfl (by kernel_rfl) gd_none (d_index_sl rfl (mem_at 3 rfl) rfl Try.underlying23 ty29 hn19 (fun p28 => ?_))
      refine ta_take (i := 7) rfl (by kernel_rfl) gd_none (d_load_place rfl (mem_at 0 rfl) ty29 (fun v30 => ?_))
      refine ta_take (i := 8) rfl (by kernel_rfl) gd_none (d_neq_agg rfl rfl (mem_at 2 rfl) (mem_at 0 rfl) rfl (EqAt.arr Try.underlying29 ty5 (EqAt.int Try.underlying5)) (by decide) (by kernel_rfl) ?_)
      refine ta_done (by kernel_rfl) ?_
      refine q_then_code ?_
      refine t_cond rfl (fun hb32 => ?_) (fun hb32 => ?_)
      · have hf := if_t hb32 hf
        refine t_seq ?_
        refine t_region ?_
        refine tl_d rfl (d_assign rfl ?_)
        refine tl_nil ?_
        refine q_then_code ?_
        refine t_ret ?_
        refine q_block_ret ?_
        refine q_then_ret ?_
        refine q_then_ret ?_
        have hr := Option.some.inj hf; try subst hr
        have hf := hout7
        refine q_block_ret ?_
        refine q_then_ret ?_
        have hr := Option.some.inj hf; subst hr
        refine q_ret (post := fun w w' m v => rBool.val w' m v false) hR _ (.inl rfl) (fun a w hs => ?_)
        exact ⟨_, run_results rfl (RvOk.cons (rv_tmp hs rfl) RvOk.nil), (hs.hv hv_bool)⟩
      · have hf := if_f hb32 hf
        refine t_skip ?_
        refine q_block_normal ?_
        refine q_then_code ?_
        refine t_region ?_
        refine tl_d rfl (d_move rfl ?_)
        refine tl_d rfl (d_add rfl rfl ?_)
        refine tl_d rfl (d_assign rfl ?_)
        refine tl_nil ?_
        exact q_round kq8 (IntKind.i64.wrap (s6 + (1 : Int))) (Nat.lt_succ_self kq8) (wrap_wrap _ _) hf ⟨rfl, ⟨rfl, ⟨rfl, trivial⟩⟩⟩ ⟨mem_at 4 rfl, ⟨mem_at 5 rfl, trivial⟩⟩ [] (Sel.nil) rfl
    · have hf := if_f hb13 hf
      refine t_exit ?_
      refine q_then_exit ?_
      refine q_then_exit ?_
      have hr := Option.some.inj hf; try subst hr
      have hf := hout7
      try dsimp only at hf
      refine q_block_hit ?_
      refine q_then_code ?_
      refine t_seq ?_
      refine t_region ?_
      refine tl_d rfl (d_assign rfl ?_)
      refine tl_nil ?_
      refine q_then_code ?_
      refine t_ret ?_
      have hr := Option.some.inj hf; subst hr
      refine q_ret (post := fun w w' m v => rBool.val w' m v true) hR _ (.inl rfl) (fun a w hs => ?_)
      exact ⟨_, run_results rfl (RvOk.cons (rv_tmp hs rfl) RvOk.nil), (hs.hv hv_bool)⟩

def walk_begin.l0 (a0 : (List Api_Object)) : Nat → (List ((List Int) × (List Int))) → Int → Option ((List ((List Int) × (List Int))))
  | 0, _, _ => none
  | k + 1, s13, s14 => (if (decide (s14 < ((a0).length : Int))) = true then ((need (0 ≤ s14 ∧ s14 < ((a0).length : Int)) (((if (!(mget s13 ((((a0).getD (s14).toNat rApi_Object.zeroD)).Of)).isSome) = true then (some (mset s13 ((((a0).getD (s14).toNat rApi_Object.zeroD)).Of) ((((a0).getD (s14).toNat rApi_Object.zeroD)).Data))) else (some s13))).bind fun s42 => (some s42)))).bind fun s20 => (walk_begin.l0 a0 k s20 (IntKind.i64.wrap (s14 + (1 : Int)))) else (some (s13)))
def walk_begin.f (k : Nat) (a0 : (List Api_Object)) (a1 : Bool) : Option ((List ((List Int) × (List Int))) × (List ((List Int) × Int)) × Int × Bool × (List Api_File) × Int) := (walk_begin.l0 a0 k ([] : (List ((List Int) × (List Int)))) (0 : Int)).bind fun o54 => (match o54 with | s13 => (some (s13, ([] : (List ((List Int) × Int))), (0 : Int), a1, ([] : List Api_File), (0 : Int))))
set_option maxRecDepth 100000 in
set_option maxHeartbeats 1370000 in
theorem walk_begin_ok (k : Nat) (a0 : (List Api_Object)) (a1 : Bool) (h0 : Nat) (u0 : Value) (r : (List ((List Int) × (List Int))) × (List ((List Int) × Int)) × Int × Bool × (List Api_File) × Int) (hf : walk_begin.f k a0 a1 = some r) : Cf.FnM true Try.prog 30 [u0, (.bool a1)] [] [(rSl 56 rApi_Object).fact u0 a0, rBool.fact (.bool a1) a1, past h0] (fun v N fs => ∃ (q0 : Nat) (q1 : Nat) (q2 : Nat) (y3 : Value), v = (.pointer (some ⟨q0, 0, none⟩)) ∧ N = [Own.box q0 rWalk_way (⟨(.map (some q1)), (.map (some q2)), r.2.2.1, r.2.2.2.1, y3, r.2.2.2.2.2⟩ : Walk_way), Own.map q1 (rArr 32 (rInt .u8)) (rSl 1 (rInt .u8)) r.1, Own.map q2 (rArr 32 (rInt .u8)) (rInt .i64) r.2.1, Own.buf y3 48 (rFileF h0) r.2.2.2.2.1] ∧ fs = []) := by
  unfold walk_begin.f at hf
  refine fn_ofN Try.func30 rfl (Nat.le_of_ble_eq_true rfl) ?_
  intro w0 m0 R hR
  refine t_seq ?_
  refine t_region ?_
  refine tl_d rfl (d_assign rfl ?_)
  refine tl_nil ?_
  refine q_then_code ?_
  refine t_seq ?_
  refine t_region ?_
  refine tl_d rfl (d_move rfl ?_)
  refine tl_g [] rfl (g_makeMap (rArr 32 (rInt .u8)) (rSl 1 (rInt .u8)) rfl (fun b6 => ?_))
  refine tl_g [] rfl (g_makeMap (rArr 32 (rInt .u8)) (rInt .i64) rfl (fun b7 => ?_))
  refine tl_d rfl (d_build2 (y := (⟨(.map (some b6)), (.map (some b7)), (0 : Int), a1, (.slice none 0 0), (0 : Int)⟩ : Walk_way)) ty70 rfl pl70 (BuildOk.cons rfl fl_Walk_way_tell trivial rfl hv_bool (BuildOk.cons rfl fl_Walk_way_objects trivial rfl (hv_val rfl) (BuildOk.cons rfl fl_Walk_way_met trivial rfl (hv_val rfl) BuildOk.nil))) (fun v8 => ?_))
  refine tl_g [] rfl (g_box (R := rWalk_way) rfl rfl (hv_fact (mem_at 0 rfl)) (fun b10 => ?_))
  refine tl_nilbuf 48 (rFileF h0) ?_
  refine tl_d rfl (d_assign rfl ?_)
  refine tl_nil ?_
  refine q_then_code ?_
  refine t_seq ?_
  refine t_seq ?_
  refine t_region ?_
  refine tl_d rfl (d_move rfl ?_)
  refine tl_d rfl (d_len_sl rfl (mem_at 1 rfl) Try.underlying22 (fun hl12 _ => ?_))
  refine tl_d rfl (d_move rfl ?_)
  refine tl_nil ?_
  refine q_then_code ?_
  refine t_block ?_
  obtain ⟨o54, ho55, hf⟩ := bind_some hf
  refine t_loop (X := (List ((List Int) × (List Int))) × Int) (O := (List ((List Int) × (List Int)))) (fun kl x => match x with | (s13, s14) => walk_begin.l0 a0 kl s13 s14) o54 (fun x => match x with | (s13, s14) => (([(5, .pointer (some ⟨b10, 0, none⟩)), (15, u0), (16, (.int .i64 ((a0).length : Int))), (17, .int .i64 s14)], [past h0, (rSl 56 rApi_Object).fact u0 a0], [Own.box b10 rWalk_way (⟨(.map (some b6)), (.map (some b7)), (0 : Int), a1, (.slice none 0 0), (0 : Int)⟩ : Walk_way), Own.map b6 (rArr 32 (rInt .u8)) (rSl 1 (rInt .u8)) s13, Own.map b7 (rArr 32 (rInt .u8)) (rInt .i64) ([] : (List ((List Int) × Int))), Own.buf (.slice none 0 0) 48 (rFileF h0) ([] : List Api_File)]) : Sym)) (fun x => match x with | (s13, s14) => IntKind.i64.wrap s14 = s14) k (([] : (List ((List Int) × (List Int)))), (0 : Int)) ho55 rfl ⟨rfl, ⟨rfl, ⟨rfl, ⟨rfl, trivial⟩⟩⟩⟩ ⟨mem_at 3 rfl, ⟨mem_at 1 rfl, trivial⟩⟩ [2, 0, 1, 3] (Sel.cons rfl (Sel.cons rfl (Sel.cons rfl (Sel.cons rfl Sel.nil)))) rfl ?_
  clear ho55
  rintro k18 ⟨s13, s14⟩ hw_s14 hk17
  have hout15 := hf; clear hf
  obtain ⟨kq16, rfl⟩ : ∃ q, k18 = q + 1 := by cases k18 with | zero => cases hk17 | succ q => exact ⟨q, rfl⟩
  have hf := hk17
  clear hk17; dsimp only [walk_begin.l0] at hf
  refine t_seq ?_
  refine t_region ?_
  refine tl_d rfl (d_lss rfl rfl ?_)
  refine tl_nil ?_
  refine q_then_code ?_
  refine t_seq ?_
  refine t_cond rfl (fun hb19 => ?_) (fun hb19 => ?_)
  · have hf := if_t hb19 hf
    refine t_skip ?_
    refine q_then_code ?_
    refine t_seq ?_
    obtain ⟨o21, ho22, hf⟩ := bind_some hf
    refine t_cut (X := (List ((List Int) × (List Int)))) (fun x => match x with | s20 => (([(5, .pointer (some ⟨b10, 0, none⟩)), (15, u0), (16, (.int .i64 ((a0).length : Int))), (17, (.int .i64 s14))], [past h0, (rSl 56 rApi_Object).fact u0 a0], [Own.box b10 rWalk_way (⟨(.map (some b6)), (.map (some b7)), (0 : Int), a1, (.slice none 0 0), (0 : Int)⟩ : Walk_way), Own.map b6 (rArr 32 (rInt .u8)) (rSl 1 (rInt .u8)) s20, Own.map b7 (rArr 32 (rInt .u8)) (rInt .i64) ([] : (List ((List Int) × Int))), Own.buf (.slice none 0 0) 48 (rFileF h0) ([] : List Api_File)]) : Sym)) (fun x => match x with | s20 => s20 = o21) ?_ ?_
    · have hf := ho22
      clear ho22
      refine t_block ?_
      refine t_seq ?_
      obtain ⟨hn23, hf⟩ := need_some hf
      refine t_region ?_
      refine tl_d rfl (d_index_sl rfl (mem_at 1 rfl) rfl Try.underlying22 ty34 hn23 (fun p29 => ?_))
      refine tl_d rfl (d_load_place rfl (mem_at 0 rfl) ty34 (fun v31 => ?_))
      refine tl_g [] rfl (g_alloc rfl ty34 (fun b33 => ?_))
      refine tl_M [Own.box b10 rWalk_way (⟨(.map (some b6)), (.map (some b7)), (0 : Int), a1, (.slice none 0 0), (0 : Int)⟩ : Walk_way), Own.map b6 (rArr 32 (rInt .u8)) (rSl 1 (rInt .u8)) s13, Own.map b7 (rArr 32 (rInt .u8)) (rInt .i64) ([] : (List ((List Int) × Int))), Own.buf (.slice none 0 0) 48 (rFileF h0) ([] : List Api_File), Own.box b33 rApi_Object rApi_Object.zeroD] rfl ?_
      refine tl_g _ rfl (g_store_box 4 rfl rfl rfl (Fld.self rApi_Object) trivial (hv_fact (mem_at 0 rfl)) ty34 (List.mem_singleton_self _) ?_)
      refine tl_M [Own.box b10 rWalk_way (⟨(.map (some b6)), (.map (some b7)), (0 : Int), a1, (.slice none 0 0), (0 : Int)⟩ : Walk_way), Own.map b6 (rArr 32 (rInt .u8)) (rSl 1 (rInt .u8)) s13, Own.map b7 (rArr 32 (rInt .u8)) (rInt .i64) ([] : (List ((List Int) × Int))), Own.buf (.slice none 0 0) 48 (rFileF h0) ([] : List Api_File), Own.box b33 rApi_Object ((a0).getD (s14).toNat rApi_Object.zeroD)] rfl ?_
      refine tl_nil ?_
      refine q_then_code ?_
      refine t_seq ?_
      refine t_any (n := 12) [] mixed ⟨by kernel_rfl, .inl rfl⟩ (np_then (np_block (np_cut (np_then (np_then (np_block (np_then np_body))))))) ?_
      refine ta_take (i := 0) rfl (by kernel_rfl) gd_none (d_move rfl ?_)
      refine ta_take (i := 1) rfl (by kernel_rfl) gd_none (d_nilCheck rfl ?_)
      refine ta_take (i := 2) rfl (by kernel_rfl) gd_none (d_field_own rfl fo70_0 ?_)
      refine ta_take (i := 3) rfl (by kernel_rfl) gd_none (d_load_raw 0 (.map (some b6)) rfl rfl (Fld.at0 fl_Walk_way_objects) trivial tyr67 rfl rfl ?_)
      refine ta_take (i := 4) rfl (by kernel_rfl) gd_none (d_field_own rfl fo34_0 ?_)
      refine ta_take (i := 5) rfl (by kernel_rfl) gd_none (d_load_box 4 rfl rfl (Fld.at0 fl_Api_Object_Of) trivial ty29 rfl (fun v38 => ?_))
      refine ta_take (i := 6) rfl (by kernel_rfl) gd_none (d_lookup_own_ok 1 rfl rfl rfl (hv_fact (mem_at 0 rfl)) Try.underlying67 (KeyAt.ints Try.underlying29 Try.underlying5 ty5) ty32 rfl (fun v40 => ?_))
      refine ta_take (i := 7) rfl (by kernel_rfl) gd_none (d_move rfl ?_)
      refine ta_take (i := 8) rfl (by kernel_rfl) gd_none (d_extract rfl rfl ?_)
      refine ta_take (i := 9) rfl (by kernel_rfl) gd_none (d_extract rfl rfl ?_)
      refine ta_take (i := 10) rfl (by kernel_rfl) gd_none (d_assign rfl ?_)
      refine ta_take (i := 11) rfl (by kernel_rfl) gd_none (d_assign rfl ?_)
      refine ta_done (by kernel_rfl) ?_
      refine q_then_code ?_
      refine t_seq ?_
      refine t_region ?_
      refine tl_d rfl (d_move rfl ?_)
      refine tl_d rfl (d_not rfl ?_)
      refine tl_nil ?_
      refine q_then_code ?_
      obtain ⟨o43, ho44, hf⟩ := bind_some hf
      refine t_cut (X := (List ((List Int) × (List Int)))) (fun x => match x with | s42 => (([(5, .pointer (some ⟨b10, 0, none⟩)), (15, u0), (16, (.int .i64 ((a0).length : Int))), (17, (.int .i64 s14))], [past h0, (rSl 56 rApi_Object).fact u0 a0], [Own.box b10 rWalk_way (⟨(.map (some b6)), (.map (some b7)), (0 : Int), a1, (.slice none 0 0), (0 : Int)⟩ : Walk_way), Own.map b6 (rArr 32 (rInt .u8)) (rSl 1 (rInt .u8)) s42, Own.map b7 (rArr 32 (rInt .u8)) (rInt .i64) ([] : (List ((List Int) × Int))), Own.buf (.slice none 0 0) 48 (rFileF h0) ([] : List Api_File)]) : Sym)) (fun x => match x with | s42 => s42 = o43) ?_ ?_
      · have hf := ho44
        clear ho44
        refine t_cond rfl (fun hb45 => ?_) (fun hb45 => ?_)
        · have hf := if_t hb45 hf
          refine t_any (n := 9) [1, 5, 6, 7, 8, 9, 10, 11, 12, 13, 14, 15, 16] mixed ⟨by kernel_rfl, .inl rfl⟩ (np_cut (np_block (np_cut (np_then (np_then (np_block (np_then np_body))))))) ?_
          refine ta_take (i := 0) rfl (by kernel_rfl) gd_none (d_move rfl ?_)
          refine ta_take (i := 1) rfl (by kernel_rfl) gd_none (d_nilCheck rfl ?_)
          refine ta_take (i := 2) rfl (by kernel_rfl) gd_none (d_field_own rfl fo70_0 ?_)
          refine ta_take (i := 3) rfl (by kernel_rfl) gd_none (d_load_raw 0 (.map (some b6)) rfl rfl (Fld.at0 fl_Walk_way_objects) trivial tyr67 rfl rfl ?_)
          refine ta_take (i := 4) rfl (by kernel_rfl) gd_none (d_field_own rfl fo34_0 ?_)
          refine ta_take (i := 5) rfl (by kernel_rfl) gd_none (d_load_box 4 rfl rfl (Fld.at0 fl_Api_Object_Of) trivial ty29 rfl (fun v50 => ?_))
          refine ta_take (i := 6) rfl (by kernel_rfl) gd_none (d_field_own rfl fo34_1 ?_)
          refine ta_take (i := 7) rfl (by kernel_rfl) gd_none (d_load_box 4 rfl rfl (Fld.at0 fl_Api_Object_Data) trivial ty32 rfl (fun v52 => ?_))
          refine ta_one (i := 8) (by kernel_rfl) rfl rfl gd_none (g_mapUpdate 1 rfl rfl rfl (hv_fact (mem_at 1 rfl)) rfl (hv_fact (mem_at 0 rfl)) Try.underlying67 (KeyAt.ints Try.underlying29 Try.underlying5 ty5) (by decide) ?_)
          refine ta_M [Own.box b10 rWalk_way (⟨(.map (some b6)), (.map (some b7)), (0 : Int), a1, (.slice none 0 0), (0 : Int)⟩ : Walk_way), Own.map b6 (rArr 32 (rInt .u8)) (rSl 1 (rInt .u8)) (mset s13 ((((a0).getD (s14).toNat rApi_Object.zeroD)).Of) ((((a0).getD (s14).toNat rApi_Object.zeroD)).Data)), Own.map b7 (rArr 32 (rInt .u8)) (rInt .i64) ([] : (List ((List Int) × Int))), Own.buf (.slice none 0 0) 48 (rFileF h0) ([] : List Api_File), Own.box b33 rApi_Object ((a0).getD (s14).toNat rApi_Object.zeroD)] rfl ?_
          refine ta_done (by kernel_rfl) ?_
          have hr := Option.some.inj hf; subst hr
          exact q_cut (mset s13 ((((a0).getD (s14).toNat rApi_Object.zeroD)).Of) ((((a0).getD (s14).toNat rApi_Object.zeroD)).Data)) rfl ⟨rfl, ⟨rfl, ⟨rfl, ⟨rfl, trivial⟩⟩⟩⟩ ⟨mem_at 6 rfl, ⟨mem_at 7 rfl, trivial⟩⟩ [0, 1, 2, 3] (Sel.cons rfl (Sel.cons rfl (Sel.cons rfl (Sel.cons rfl Sel.nil)))) rfl
        · have hf := if_f hb45 hf
          refine t_skip ?_
          have hr := Option.some.inj hf; subst hr
          exact q_cut s13 rfl ⟨rfl, ⟨rfl, ⟨rfl, ⟨rfl, trivial⟩⟩⟩⟩ ⟨mem_at 4 rfl, ⟨mem_at 5 rfl, trivial⟩⟩ [0, 1, 2, 3] (Sel.cons rfl (Sel.cons rfl (Sel.cons rfl (Sel.cons rfl Sel.nil)))) rfl
      rintro s42 rfl
      refine q_block_normal ?_
      have hr := Option.some.inj hf; subst hr
      exact q_cut s42 rfl ⟨rfl, ⟨rfl, ⟨rfl, ⟨rfl, trivial⟩⟩⟩⟩ ⟨mem_at 0 rfl, ⟨mem_at 1 rfl, trivial⟩⟩ [0, 1, 2, 3] (Sel.cons rfl (Sel.cons rfl (Sel.cons rfl (Sel.cons rfl Sel.nil)))) rfl
    rintro s20 rfl
    refine q_then_code ?_
    refine t_region ?_
    refine tl_d rfl (d_add rfl rfl ?_)
    refine tl_d rfl (d_move rfl ?_)
    refine tl_nil ?_
    exact q_round kq16 (s20, (IntKind.i64.wrap (s14 + (1 : Int)))) (Nat.lt_succ_self kq16) (wrap_wrap _ _) hf ⟨rfl, ⟨rfl, ⟨rfl, ⟨rfl, trivial⟩⟩⟩⟩ ⟨mem_at 0 rfl, ⟨mem_at 1 rfl, trivial⟩⟩ [0, 1, 2, 3] (Sel.cons rfl (Sel.cons rfl (Sel.cons rfl (Sel.cons rfl Sel.nil)))) rfl
  · have hf := if_f hb19 hf
    refine t_exit ?_
    refine q_then_exit ?_
    refine q_then_exit ?_
    have hr := Option.some.inj hf; try subst hr
    have hf := hout15
    try dsimp only at hf
    refine q_block_hit ?_
    refine q_then_code ?_
    refine t_seq ?_
    refine t_region ?_
    refine tl_d rfl (d_move rfl ?_)
    refine tl_d rfl (d_assign rfl ?_)
    refine tl_nil ?_
    refine q_then_code ?_
    refine t_ret ?_
    have hr := Option.some.inj hf; subst hr
    exact q_retN (post := fun v N fs => ∃ (q0 : Nat) (q1 : Nat) (q2 : Nat) (y3 : Value), v = (.pointer (some ⟨q0, 0, none⟩)) ∧ N = [Own.box q0 rWalk_way (⟨(.map (some q1)), (.map (some q2)), (s13, ([] : (List ((List Int) × Int))), (0 : Int), a1, ([] : List Api_File), (0 : Int)).2.2.1, (s13, ([] : (List ((List Int) × Int))), (0 : Int), a1, ([] : List Api_File), (0 : Int)).2.2.2.1, y3, (s13, ([] : (List ((List Int) × Int))), (0 : Int), a1, ([] : List Api_File), (0 : Int)).2.2.2.2.2⟩ : Walk_way), Own.map q1 (rArr 32 (rInt .u8)) (rSl 1 (rInt .u8)) (s13, ([] : (List ((List Int) × Int))), (0 : Int), a1, ([] : List Api_File), (0 : Int)).1, Own.map q2 (rArr 32 (rInt .u8)) (rInt .i64) (s13, ([] : (List ((List Int) × Int))), (0 : Int), a1, ([] : List Api_File), (0 : Int)).2.1, Own.buf y3 48 (rFileF h0) (s13, ([] : (List ((List Int) × Int))), (0 : Int), a1, ([] : List Api_File), (0 : Int)).2.2.2.2.1] ∧ fs = []) hR _ (.inl rfl) [Own.box b10 rWalk_way (⟨(.map (some b6)), (.map (some b7)), (0 : Int), a1, (.slice none 0 0), (0 : Int)⟩ : Walk_way), Own.map b6 (rArr 32 (rInt .u8)) (rSl 1 (rInt .u8)) s13, Own.map b7 (rArr 32 (rInt .u8)) (rInt .i64) ([] : (List ((List Int) × Int))), Own.buf (.slice none 0 0) 48 (rFileF h0) ([] : List Api_File)] [] [0, 1, 2, 3] (Sel.cons rfl (Sel.cons rfl (Sel.cons rfl (Sel.cons rfl Sel.nil)))) rfl HasFs.nil (.pointer (some ⟨b10, 0, none⟩)) (fun a w hs => run_results (vs := [(.pointer (some ⟨b10, 0, none⟩))]) rfl (RvOk.cons (rv_tmp hs rfl) RvOk.nil)) ⟨b10, b6, b7, (.slice none 0 0), rfl, rfl, rfl⟩

def stringslite_HasPrefix.f (a0 : (List Int)) (a1 : (List Int)) : Option (Bool) := ((if (decide (((a1).length : Int) ≤ ((a0).length : Int))) = true then (need (0 ≤ (0 : Int) ∧ (0 : Int) ≤ ((a1).length : Int) ∧ ((a1).length : Int) ≤ ((a0).length : Int)) ((some (decide ((sub a0 (0 : Int) ((a1).length : Int)) = a1))))) else (some false))).bind fun s8 => (some s8)
set_option maxRecDepth 100000 in
set_option maxHeartbeats 600000 in
theorem stringslite_HasPrefix_ok (a0 : (List Int)) (a1 : (List Int)) (u0 u1 : Value) (r : Bool) (hf : stringslite_HasPrefix.f a0 a1 = some r) : Cf.FnX true Try.prog 79 [u0, u1] (fun w m => rStr.val w m u0 a0 ∧ rStr.val w m u1 a1) (fun w w' m v => rBool.val w' m v r) := by
  unfold stringslite_HasPrefix.f at hf
  refine fn_of Try.func79 rfl (Nat.le_of_ble_eq_true rfl) [rStr.fact u0 a0, rStr.fact u1 a1] (fun w m h f hf => ?_) ?_
  · simp at hf; rcases hf with rfl | rfl
    · exact h.1
    · exact h.2
  intro w0 m0 R hR
  refine t_seq ?_
  refine t_region ?_
  refine tl_d rfl (d_assign rfl ?_)
  refine tl_nil ?_
  refine q_then_code ?_
  refine t_seq ?_
  obtain ⟨o9, ho10, hf⟩ := bind_some hf
  refine t_cut (X := Bool) (fun x => match x with | s8 => (([(4, .bool s8)], [], []) : Sym)) (fun x => match x with | s8 => s8 = o9) ?_ ?_
  · have hf := ho10; clear ho10
    rcases bool_tf (decide (((a1).length : Int) ≤ ((a0).length : Int))) with hb3 | hb3
    · have hf := if_t hb3 hf
      obtain ⟨hn7, hf⟩ := need_some hf
      refine t_region ?_
      refine tl_d rfl (d_move rfl ?_)
      refine tl_d rfl (d_len_str rfl (mem_at 0 rfl) Try.underlying9 (fun hl11 => ?_))
      refine tl_d rfl (d_move rfl ?_)
      refine tl_d rfl (d_len_str rfl (mem_at 1 rfl) Try.underlying9 (fun hl12 => ?_))
      refine tl_d rfl (d_geq rfl rfl ?_)
      refine tl_d rfl (d_move rfl ?_)
      refine tl_dg (gd_on rfl rfl rfl hb3) rfl (d_move rfl ?_)
      refine tl_dg (gd_on rfl rfl rfl hb3) rfl (d_move rfl ?_)
      refine tl_dg (gd_on rfl rfl rfl hb3) rfl (d_len_str rfl (mem_at 1 rfl) Try.underlying9 (fun hl13 => ?_))
      refine tl_dg (gd_on rfl rfl rfl hb3) rfl (d_slice_str (i := (0 : Int)) (j := ((a1).length : Int)) rfl (mem_at 0 rfl) (.inl ⟨rfl, rfl⟩) (.inr ⟨_, _, rfl, rfl⟩) Try.underlying9 hn7 (fun v14 => ?_))
      refine tl_dg (gd_on rfl rfl rfl hb3) rfl (d_move rfl ?_)
      refine tl_dg (gd_on rfl rfl rfl hb3) rfl (d_str_cmp (decide ((sub a0 (0 : Int) ((a1).length : Int)) = a1)) rfl rfl (mem_at 0 rfl) (mem_at 2 rfl) (.inl ⟨rfl, rfl⟩) ?_)
      refine tl_d rfl (d_pick_true rfl hb3 rfl ?_)
      refine tl_d rfl (d_assign rfl ?_)
      refine tl_nil ?_
      have hr := Option.some.inj hf; subst hr
      exact q_cut (decide ((sub a0 (0 : Int) ((a1).length : Int)) = a1)) rfl ⟨rfl, trivial⟩ trivial [] (Sel.nil) rfl
    · have hf := if_f hb3 hf
      refine t_region ?_
      refine tl_d rfl (d_move rfl ?_)
      refine tl_d rfl (d_len_str rfl (mem_at 0 rfl) Try.underlying9 (fun hl16 => ?_))
      refine tl_d rfl (d_move rfl ?_)
      refine tl_d rfl (d_len_str rfl (mem_at 1 rfl) Try.underlying9 (fun hl17 => ?_))
      refine tl_d rfl (d_geq rfl rfl ?_)
      refine tl_d rfl (d_move rfl ?_)
      refine tl_off (gd_off rfl rfl rfl hb3) rfl rfl ?_
      refine tl_off (gd_off rfl rfl rfl hb3) rfl rfl ?_
      refine tl_off (gd_off rfl rfl rfl hb3) rfl rfl ?_
      refine tl_off (gd_off rfl rfl rfl hb3) rfl rfl ?_
      refine tl_off (gd_off rfl rfl rfl hb3) rfl rfl ?_
      refine tl_off (gd_off rfl rfl rfl hb3) rfl rfl ?_
      refine tl_d rfl (d_pick_false rfl hb3 rfl ?_)
      refine tl_d rfl (d_assign rfl ?_)
      refine tl_nil ?_
      have hr := Option.some.inj hf; subst hr
      exact q_cut false rfl ⟨rfl, trivial⟩ trivial [] (Sel.nil) rfl
  rintro s8 rfl
  refine q_then_code ?_
  refine t_ret ?_
  have hr := Option.some.inj hf; subst hr
  refine q_ret (post := fun w w' m v => rBool.val w' m v s8) hR _ (.inl rfl) (fun a w hs => ?_)
  exact ⟨_, run_results rfl (RvOk.cons (rv_tmp hs rfl) RvOk.nil), (hs.hv hv_bool)⟩

def strings_HasPrefix.f (a0 : (List Int)) (a1 : (List Int)) : Option (Bool) := ((stringslite_HasPrefix.f a0 a1).bind fun c1 => (some c1))
set_option maxRecDepth 100000 in
set_option maxHeartbeats 400000 in
theorem strings_HasPrefix_ok (a0 : (List Int)) (a1 : (List Int)) (u0 u1 : Value) (r : Bool) (hf : strings_HasPrefix.f a0 a1 = some r) : Cf.FnX true Try.prog 60 [u0, u1] (fun w m => rStr.val w m u0 a0 ∧ rStr.val w m u1 a1) (fun w w' m v => rBool.val w' m v r) := by
  unfold strings_HasPrefix.f at hf
  refine fn_of Try.func60 rfl (Nat.le_of_ble_eq_true rfl) [rStr.fact u0 a0, rStr.fact u1 a1] (fun w m h f hf => ?_) ?_
  · simp at hf; rcases hf with rfl | rfl
    · exact h.1
    · exact h.2
  intro w0 m0 R hR
  refine t_seq ?_
  refine t_region ?_
  refine tl_d rfl (d_assign rfl ?_)
  refine tl_nil ?_
  refine q_then_code ?_
  refine t_seq ?_
  obtain ⟨c1, hc2, hf⟩ := bind_some hf
  refine t_region ?_
  refine tl_d rfl (d_move rfl ?_)
  refine tl_d rfl (d_move rfl ?_)
  refine tl_g [] rfl (g_call1 rfl hfn79 (stringslite_HasPrefix_ok _ _ _ _ _ hc2) (Evs.cons rfl (Evs.cons rfl Evs.nil)) (fun a w hs => ⟨(hv_fact (mem_at 0 rfl)) _ _ _ _ hs, (hv_fact (mem_at 1 rfl)) _ _ _ _ hs⟩) (fun v6 => ?_))
  refine tl_bool (mem_at 0 rfl) (fun hv8 => ?_)
  subst hv8
  refine tl_d rfl (d_assign rfl ?_)
  refine tl_nil ?_
  refine q_then_code ?_
  refine t_ret ?_
  have hr := Option.some.inj hf; subst hr
  refine q_ret (post := fun w w' m v => rBool.val w' m v c1) hR _ (.inl rfl) (fun a w hs => ?_)
  exact ⟨_, run_results rfl (RvOk.cons (rv_tmp hs rfl) RvOk.nil), (hs.hv hv_bool)⟩

def octet_TakeCount.l0 (a0 : (List Int)) : Nat → Int → Int → Option (Sum (Int × Int × Int) (Unit))
  | 0, _, _ => none
  | k + 1, s3, s4 => (if (decide (s4 < ((a0).length : Int))) = true then (need (0 ≤ s4 ∧ s4 < ((a0).length : Int)) (((if (decide (s4 = (9 : Int))) = true then (some (decide ((1 : Int) < ((a0).getD (s4).toNat (rInt .u8).zeroD)))) else (some false))).bind fun s18 => ((if s18 = true then (some s18) else ((if (decide (((a0).getD (s4).toNat (rInt .u8).zeroD) = (0 : Int))) = true then (some (decide ((0 : Int) < s4))) else (some false))).bind fun s26 => (some s26))).bind fun s21 => (if s21 = true then (some (.inl ((0 : Int), (0 : Int), (4 : Int)))) else (need (0 ≤ (IntKind.u64.wrap ((7 : Int) * (IntKind.u64.wrap s4)))) ((if (decide (((a0).getD (s4).toNat (rInt .u8).zeroD) < (128 : Int))) = true then (some (.inl ((ior .u64 s3 (ishl .u64 (iand .u8 ((a0).getD (s4).toNat (rInt .u8).zeroD) (127 : Int)) (IntKind.u64.wrap ((7 : Int) * (IntKind.u64.wrap s4))))), (IntKind.i64.wrap (s4 + (1 : Int))), (0 : Int)))) else (octet_TakeCount.l0 a0 k (ior .u64 s3 (ishl .u64 (iand .u8 ((a0).getD (s4).toNat (rInt .u8).zeroD) (127 : Int)) (IntKind.u64.wrap ((7 : Int) * (IntKind.u64.wrap s4))))) (IntKind.i64.wrap (s4 + (1 : Int)))))))))) else (some (.inr ())))
def octet_TakeCount.f (k : Nat) (a0 : (List Int)) : Option (Int × Int × Int) := (octet_TakeCount.l0 a0 k (0 : Int) (0 : Int)).bind fun o32 => (match o32 with | .inl r => some r | .inr _ => (some ((0 : Int), (0 : Int), (3 : Int))))
set_option maxRecDepth 100000 in
set_option maxHeartbeats 2300000 in
theorem octet_TakeCount_ok (k : Nat) (a0 : (List Int)) (u0 : Value) (r : Int × Int × Int) (hf : octet_TakeCount.f k a0 = some r) : Cf.FnX true Try.prog 61 [u0] (fun w m => (rSl 1 (rInt .u8)).val w m u0 a0) (fun w w' m v => ∃ v0 v1 v2, v = .tuple #[v0, v1, v2] ∧ (rInt .u64).val w' m v0 r.1 ∧ (rInt .i64).val w' m v1 r.2.1 ∧ (rInt .i64).val w' m v2 r.2.2) := by
  unfold octet_TakeCount.f at hf
  refine fn_of Try.func61 rfl (Nat.le_of_ble_eq_true rfl) [(rSl 1 (rInt .u8)).fact u0 a0] (fun w m h f hf => ?_) ?_
  · simp at hf; obtain rfl := hf; exact h
  intro w0 m0 R hR
  refine t_seq ?_
  refine t_region ?_
  refine tl_d rfl (d_assign rfl ?_)
  refine tl_d rfl (d_assign rfl ?_)
  refine tl_d rfl (d_assign rfl ?_)
  refine tl_nil ?_
  refine q_then_code ?_
  refine t_seq ?_
  refine t_region ?_
  refine tl_d rfl (d_assign rfl ?_)
  refine tl_nil ?_
  refine q_then_code ?_
  refine t_seq ?_
  refine t_seq ?_
  refine t_region ?_
  refine tl_d rfl (d_move rfl ?_)
  refine tl_d rfl (d_len_sl rfl (mem_at 0 rfl) Try.underlying32 (fun hl2 _ => ?_))
  refine tl_d rfl (d_move rfl ?_)
  refine tl_nil ?_
  refine q_then_code ?_
  refine t_block ?_
  obtain ⟨o32, ho33, hf⟩ := bind_some hf
  refine t_loop (X := Int × Int) (O := Sum (Int × Int × Int) (Unit)) (fun kl x => match x with | (s3, s4) => octet_TakeCount.l0 a0 kl s3 s4) o32 (fun x => match x with | (s3, s4) => (([(5, .int .u64 s3), (8, u0), (9, (.int .i64 ((a0).length : Int))), (10, .int .i64 s4)], [(rSl 1 (rInt .u8)).fact u0 a0], []) : Sym)) (fun x => match x with | (s3, s4) => IntKind.u64.wrap s3 = s3 ∧ IntKind.i64.wrap s4 = s4) k ((0 : Int), (0 : Int)) ho33 ⟨rfl, rfl⟩ ⟨rfl, ⟨rfl, ⟨rfl, ⟨rfl, trivial⟩⟩⟩⟩ ⟨mem_at 0 rfl, trivial⟩ [] (Sel.nil) rfl ?_
  clear ho33
  rintro k8 ⟨s3, s4⟩ ⟨hw_s3, hw_s4⟩ hk7
  have hout5 := hf; clear hf
  obtain ⟨kq6, rfl⟩ : ∃ q, k8 = q + 1 := by cases k8 with | zero => cases hk7 | succ q => exact ⟨q, rfl⟩
  have hf := hk7
  clear hk7; dsimp only [octet_TakeCount.l0] at hf
  refine t_seq ?_
  refine t_region ?_
  refine tl_d rfl (d_lss rfl rfl ?_)
  refine tl_nil ?_
  refine q_then_code ?_
  refine t_seq ?_
  refine t_cond rfl (fun hb9 => ?_) (fun hb9 => ?_)
  · have hf := if_t hb9 hf
    refine t_skip ?_
    refine q_then_code ?_
    refine t_seq ?_
    refine t_block ?_
    refine t_seq ?_
    obtain ⟨hn10, hf⟩ := need_some hf
    refine t_region ?_
    refine tl_d rfl (d_move rfl ?_)
    refine tl_d rfl (d_index_sl rfl (mem_at 0 rfl) rfl Try.underlying32 ty5 hn10 (fun p14 => ?_))
    refine tl_d rfl (d_load_int rfl (mem_at 0 rfl) ty5 (fun hw16 => ?_))
    refine tl_d rfl (d_assign rfl ?_)
    refine tl_d rfl (d_assign rfl ?_)
    refine tl_nil ?_
    refine q_then_code ?_
    refine t_seq ?_
    refine t_block ?_
    refine t_seq ?_
    refine t_seq ?_
    obtain ⟨o19, ho20, hf⟩ := bind_some hf
    refine t_cut (X := Bool) (fun x => match x with | s18 => (([(5, (.int .u64 s3)), (6, (.int .i64 s4)), (7, (.int .u8 ((a0).getD (s4).toNat (rInt .u8).zeroD))), (8, u0), (9, (.int .i64 ((a0).length : Int))), (10, (.int .i64 s4)), (15, .bool s18)], [(rSl 1 (rInt .u8)).fact u0 a0], []) : Sym)) (fun x => match x with | s18 => s18 = o19) ?_ ?_
    · have hf := ho20; clear ho20
      rcases bool_tf (decide (s4 = (9 : Int))) with hb17 | hb17
      · have hf := if_t hb17 hf
        refine t_region ?_
        refine tl_d rfl (d_move rfl ?_)
        refine tl_d rfl (d_eql rfl rfl ?_)
        refine tl_d rfl (d_move rfl ?_)
        refine tl_dg (gd_on rfl rfl rfl hb17) rfl (d_move rfl ?_)
        refine tl_dg (gd_on rfl rfl rfl hb17) rfl (d_gtr rfl rfl ?_)
        refine tl_d rfl (d_pick_true rfl hb17 rfl ?_)
        refine tl_d rfl (d_assign rfl ?_)
        refine tl_nil ?_
        have hr := Option.some.inj hf; subst hr
        exact q_cut (decide ((1 : Int) < ((a0).getD (s4).toNat (rInt .u8).zeroD))) rfl ⟨rfl, ⟨rfl, ⟨rfl, ⟨rfl, ⟨rfl, ⟨rfl, ⟨rfl, trivial⟩⟩⟩⟩⟩⟩⟩ ⟨mem_at 1 rfl, trivial⟩ [] (Sel.nil) rfl
      · have hf := if_f hb17 hf
        refine t_region ?_
        refine tl_d rfl (d_move rfl ?_)
        refine tl_d rfl (d_eql rfl rfl ?_)
        refine tl_d rfl (d_move rfl ?_)
        refine tl_off (gd_off rfl rfl rfl hb17) rfl rfl ?_
        refine tl_off (gd_off rfl rfl rfl hb17) rfl rfl ?_
        refine tl_d rfl (d_pick_false rfl hb17 rfl ?_)
        refine tl_d rfl (d_assign rfl ?_)
        refine tl_nil ?_
        have hr := Option.some.inj hf; subst hr
        exact q_cut false rfl ⟨rfl, ⟨rfl, ⟨rfl, ⟨rfl, ⟨rfl, ⟨rfl, ⟨rfl, trivial⟩⟩⟩⟩⟩⟩⟩ ⟨mem_at 1 rfl, trivial⟩ [] (Sel.nil) rfl
    rintro s18 rfl
    refine q_then_code ?_
    obtain ⟨o22, ho23, hf⟩ := bind_some hf
    refine t_cut (X := Bool) (fun x => match x with | s21 => (([(5, (.int .u64 s3)), (6, (.int .i64 s4)), (7, (.int .u8 ((a0).getD (s4).toNat (rInt .u8).zeroD))), (8, u0), (9, (.int .i64 ((a0).length : Int))), (10, (.int .i64 s4)), (15, .bool s21)], [(rSl 1 (rInt .u8)).fact u0 a0], []) : Sym)) (fun x => match x with | s21 => s21 = o22) ?_ ?_
    · have hf := ho23
      clear ho23
      refine t_cond rfl (fun hb24 => ?_) (fun hb24 => ?_)
      · have hf := if_t hb24 hf
        refine t_skip ?_
        have hr := Option.some.inj hf; subst hr
        exact q_cut s18 rfl ⟨rfl, ⟨rfl, ⟨rfl, ⟨rfl, ⟨rfl, ⟨rfl, ⟨rfl, trivial⟩⟩⟩⟩⟩⟩⟩ ⟨mem_at 0 rfl, trivial⟩ [] (Sel.nil) rfl
      · have hf := if_f hb24 hf
        obtain ⟨o27, ho28, hf⟩ := bind_some hf
        refine t_cut (X := Bool) (fun x => match x with | s26 => (([(5, (.int .u64 s3)), (6, (.int .i64 s4)), (7, (.int .u8 ((a0).getD (s4).toNat (rInt .u8).zeroD))), (8, u0), (9, (.int .i64 ((a0).length : Int))), (10, (.int .i64 s4)), (15, .bool s26)], [(rSl 1 (rInt .u8)).fact u0 a0], []) : Sym)) (fun x => match x with | s26 => s26 = o27) ?_ ?_
        · have hf := ho28; clear ho28
          rcases bool_tf (decide (((a0).getD (s4).toNat (rInt .u8).zeroD) = (0 : Int))) with hb25 | hb25
          · have hf := if_t hb25 hf
            refine t_region ?_
            refine tl_d rfl (d_move rfl ?_)
            refine tl_d rfl (d_eql rfl rfl ?_)
            refine tl_d rfl (d_move rfl ?_)
            refine tl_dg (gd_on rfl rfl rfl hb25) rfl (d_move rfl ?_)
            refine tl_dg (gd_on rfl rfl rfl hb25) rfl (d_gtr rfl rfl ?_)
            refine tl_d rfl (d_pick_true rfl hb25 rfl ?_)
            refine tl_d rfl (d_assign rfl ?_)
            refine tl_nil ?_
            have hr := Option.some.inj hf; subst hr
            exact q_cut (decide ((0 : Int) < s4)) rfl ⟨rfl, ⟨rfl, ⟨rfl, ⟨rfl, ⟨rfl, ⟨rfl, ⟨rfl, trivial⟩⟩⟩⟩⟩⟩⟩ ⟨mem_at 0 rfl, trivial⟩ [] (Sel.nil) rfl
          · have hf := if_f hb25 hf
            refine t_region ?_
            refine tl_d rfl (d_move rfl ?_)
            refine tl_d rfl (d_eql rfl rfl ?_)
            refine tl_d rfl (d_move rfl ?_)
            refine tl_off (gd_off rfl rfl rfl hb25) rfl rfl ?_
            refine tl_off (gd_off rfl rfl rfl hb25) rfl rfl ?_
            refine tl_d rfl (d_pick_false rfl hb25 rfl ?_)
            refine tl_d rfl (d_assign rfl ?_)
            refine tl_nil ?_
            have hr := Option.some.inj hf; subst hr
            exact q_cut false rfl ⟨rfl, ⟨rfl, ⟨rfl, ⟨rfl, ⟨rfl, ⟨rfl, ⟨rfl, trivial⟩⟩⟩⟩⟩⟩⟩ ⟨mem_at 0 rfl, trivial⟩ [] (Sel.nil) rfl
        rintro s26 rfl
        have hr := Option.some.inj hf; subst hr
        exact q_cut s26 rfl ⟨rfl, ⟨rfl, ⟨rfl, ⟨rfl, ⟨rfl, ⟨rfl, ⟨rfl, trivial⟩⟩⟩⟩⟩⟩⟩ ⟨mem_at 0 rfl, trivial⟩ [] (Sel.nil) rfl
    rintro s21 rfl
    refine q_then_code ?_
    refine t_cond rfl (fun hb29 => ?_) (fun hb29 => ?_)
    · have hf := if_t hb29 hf
      refine t_seq ?_
      refine t_region ?_
      refine tl_d rfl (d_assign rfl ?_)
      refine tl_d rfl (d_assign rfl ?_)
      refine tl_d rfl (d_assign rfl ?_)
      refine tl_nil ?_
      refine q_then_code ?_
      refine t_ret ?_
      refine q_block_ret ?_
      refine q_then_ret ?_
      refine q_block_ret ?_
      refine q_then_ret ?_
      refine q_then_ret ?_
      have hr := Option.some.inj hf; try subst hr
      have hf := hout5
      refine q_block_ret ?_
      refine q_then_ret ?_
      have hr := Option.some.inj hf; subst hr
      refine q_ret (post := fun w w' m v => ∃ v0 v1 v2, v = .tuple #[v0, v1, v2] ∧ (rInt .u64).val w' m v0 (0 : Int) ∧ (rInt .i64).val w' m v1 (0 : Int) ∧ (rInt .i64).val w' m v2 (4 : Int)) hR _ (.inl rfl) (fun a w hs => ?_)
      exact ⟨_, run_results rfl (RvOk.cons (rv_tmp hs rfl) (RvOk.cons (rv_tmp hs rfl) (RvOk.cons (rv_tmp hs rfl) RvOk.nil))), _, _, _, rfl, (hs.hv (hv_int rfl)), (hs.hv (hv_int rfl)), (hs.hv (hv_int rfl))⟩
    · have hf := if_f hb29 hf
      refine t_skip ?_
      refine q_block_normal ?_
      refine q_then_code ?_
      refine t_seq ?_
      obtain ⟨hn30, hf⟩ := need_some hf
      refine t_region ?_
      refine tl_d rfl (d_move rfl ?_)
      refine tl_d rfl (d_move rfl ?_)
      refine tl_d rfl (d_and rfl rfl ?_)
      refine tl_d rfl (d_conv_id Try.underlying5 Try.underlying91 rfl (wrap_widen rfl (wrap_wrap _ _)) ?_)
      refine tl_d rfl (d_move rfl ?_)
      refine tl_d rfl (d_conv Try.underlying3 Try.underlying110 rfl ?_)
      refine tl_d rfl (d_mul rfl rfl ?_)
      refine tl_d rfl (d_shl rfl rfl hn30 ?_)
      refine tl_d rfl (d_or rfl rfl ?_)
      refine tl_d rfl (d_assign rfl ?_)
      refine tl_nil ?_
      refine q_then_code ?_
      refine t_seq ?_
      refine t_region ?_
      refine tl_d rfl (d_move rfl ?_)
      refine tl_d rfl (d_lss rfl rfl ?_)
      refine tl_nil ?_
      refine q_then_code ?_
      refine t_cond rfl (fun hb31 => ?_) (fun hb31 => ?_)
      · have hf := if_t hb31 hf
        refine t_seq ?_
        refine t_region ?_
        refine tl_d rfl (d_move rfl ?_)
        refine tl_d rfl (d_move rfl ?_)
        refine tl_d rfl (d_add rfl rfl ?_)
        refine tl_d rfl (d_assign rfl ?_)
        refine tl_d rfl (d_assign rfl ?_)
        refine tl_d rfl (d_assign rfl ?_)
        refine tl_nil ?_
        refine q_then_code ?_
        refine t_ret ?_
        refine q_block_ret ?_
        refine q_then_ret ?_
        refine q_then_ret ?_
        have hr := Option.some.inj hf; try subst hr
        have hf := hout5
        refine q_block_ret ?_
        refine q_then_ret ?_
        have hr := Option.some.inj hf; subst hr
        refine q_ret (post := fun w w' m v => ∃ v0 v1 v2, v = .tuple #[v0, v1, v2] ∧ (rInt .u64).val w' m v0 (ior .u64 s3 (ishl .u64 (iand .u8 ((a0).getD (s4).toNat (rInt .u8).zeroD) (127 : Int)) (IntKind.u64.wrap ((7 : Int) * (IntKind.u64.wrap s4))))) ∧ (rInt .i64).val w' m v1 (IntKind.i64.wrap (s4 + (1 : Int))) ∧ (rInt .i64).val w' m v2 (0 : Int)) hR _ (.inl rfl) (fun a w hs => ?_)
        exact ⟨_, run_results rfl (RvOk.cons (rv_tmp hs rfl) (RvOk.cons (rv_tmp hs rfl) (RvOk.cons (rv_tmp hs rfl) RvOk.nil))), _, _, _, rfl, (hs.hv (hv_int (wrap_wrap _ _))), (hs.hv (hv_int (wrap_wrap _ _))), (hs.hv (hv_int rfl))⟩
      · have hf := if_f hb31 hf
        refine t_skip ?_
        refine q_block_normal ?_
        refine q_then_code ?_
        refine t_region ?_
        refine tl_d rfl (d_add rfl rfl ?_)
        refine tl_d rfl (d_move rfl ?_)
        refine tl_nil ?_
        exact q_round kq6 ((ior .u64 s3 (ishl .u64 (iand .u8 ((a0).getD (s4).toNat (rInt .u8).zeroD) (127 : Int)) (IntKind.u64.wrap ((7 : Int) * (IntKind.u64.wrap s4))))), (IntKind.i64.wrap (s4 + (1 : Int)))) (Nat.lt_succ_self kq6) ⟨(wrap_wrap _ _), (wrap_wrap _ _)⟩ hf ⟨rfl, ⟨rfl, ⟨rfl, ⟨rfl, trivial⟩⟩⟩⟩ ⟨mem_at 0 rfl, trivial⟩ [] (Sel.nil) rfl
  · have hf := if_f hb9 hf
    refine t_exit ?_
    refine q_then_exit ?_
    refine q_then_exit ?_
    have hr := Option.some.inj hf; try subst hr
    have hf := hout5
    try dsimp only at hf
    refine q_block_hit ?_
    refine q_then_code ?_
    refine t_seq ?_
    refine t_region ?_
    refine tl_d rfl (d_assign rfl ?_)
    refine tl_d rfl (d_assign rfl ?_)
    refine tl_d rfl (d_assign rfl ?_)
    refine tl_nil ?_
    refine q_then_code ?_
    refine t_ret ?_
    have hr := Option.some.inj hf; subst hr
    refine q_ret (post := fun w w' m v => ∃ v0 v1 v2, v = .tuple #[v0, v1, v2] ∧ (rInt .u64).val w' m v0 (0 : Int) ∧ (rInt .i64).val w' m v1 (0 : Int) ∧ (rInt .i64).val w' m v2 (3 : Int)) hR _ (.inl rfl) (fun a w hs => ?_)
    exact ⟨_, run_results rfl (RvOk.cons (rv_tmp hs rfl) (RvOk.cons (rv_tmp hs rfl) (RvOk.cons (rv_tmp hs rfl) RvOk.nil))), _, _, _, rfl, (hs.hv (hv_int rfl)), (hs.hv (hv_int rfl)), (hs.hv (hv_int rfl))⟩

def octet_own.f (a0 : (List Int)) (a1 : Int) : Option ((List Int)) := (need ((0 : Int) ≤ (0 : Int) ∧ ((0 : Int) : Int) ≤ (IntKind.i64.wrap (((a0).length : Int) + a1)) ∧ (IntKind.i64.wrap (((a0).length : Int) + a1)) * ((1 : Nat) : Int) ≤ ((maxB : Nat) : Int) ∧ ((IntKind.i64.wrap (((a0).length : Int) + a1)) : Int) ≤ ((maxB : Nat) : Int)) (need (fits 1 (((List.replicate ((0 : Int) : Int).toNat (rInt .u8).zeroD)).length + (a0).length)) ((some ((List.replicate ((0 : Int) : Int).toNat (rInt .u8).zeroD) ++ a0)))))
set_option maxRecDepth 100000 in
set_option maxHeartbeats 400000 in
theorem octet_own_ok (a0 : (List Int)) (a1 : Int) (u0 : Value) (r : (List Int)) (hf : octet_own.f a0 a1 = some r) : Cf.FnX true Try.prog 87 [u0, (.int .i64 a1)] (fun w m => (rSl 1 (rInt .u8)).val w m u0 a0 ∧ (rInt .i64).val w m (.int .i64 a1) a1) (fun w w' m v => OwnRes (rInt .u8) 1 w w' m v r) := by
  unfold octet_own.f at hf
  refine fn_of Try.func87 rfl (Nat.le_of_ble_eq_true rfl) [(rSl 1 (rInt .u8)).fact u0 a0, (rInt .i64).fact (.int .i64 a1) a1] (fun w m h f hf => ?_) ?_
  · simp at hf; rcases hf with rfl | rfl
    · exact h.1
    · exact h.2
  intro w0 m0 R hR
  refine t_int (mem_at 1 rfl) (fun _ hw1 => ?_)
  refine t_seq ?_
  refine t_region ?_
  refine tl_d rfl (d_assign rfl ?_)
  refine tl_nil ?_
  refine q_then_code ?_
  refine t_seq ?_
  obtain ⟨hn3, hf⟩ := need_some hf
  obtain ⟨hn4, hf⟩ := need_some hf
  refine t_region ?_
  refine tl_d rfl (d_move rfl ?_)
  refine tl_d rfl (d_len_sl rfl (mem_at 0 rfl) Try.underlying32 (fun hl6 _ => ?_))
  refine tl_d rfl (d_move rfl ?_)
  refine tl_d rfl (d_add rfl rfl ?_)
  refine tl_g [] rfl (g_makeSlice rfl Try.underlying32 ty5 rfl rfl hn3 (fun v7 => ?_))
  refine tl_d rfl (d_move rfl ?_)
  refine tl_g _ rfl (g_append_sl (l2 := a0) 0 rfl rfl rfl rfl (hv_fact (mem_at 0 rfl)) Try.underlying32 ⟨_, Try.underlying32, fun k h => by cases h⟩ ty5 hn4 (List.mem_singleton_self _) (fun v8 => ?_))
  refine tl_d rfl (d_assign rfl ?_)
  refine tl_nil ?_
  refine q_then_code ?_
  refine t_ret ?_
  have hr := Option.some.inj hf; subst hr
  refine q_ret (post := fun w w' m v => OwnRes (rInt .u8) 1 w w' m v ((List.replicate ((0 : Int) : Int).toNat (rInt .u8).zeroD) ++ a0)) hR _ (.inl rfl) (fun a w hs => ?_)
  exact ⟨_, run_results rfl (RvOk.cons (rv_tmp hs rfl) RvOk.nil), (hs.ownres (i := 0) rfl)⟩

def octet_TakeText.f (k : Nat) (a0 : (List Int)) : Option ((List Int) × Int × Int) := ((octet_TakeCount.f k a0).bind fun c1 => (if (!decide (c1.2.2 = (0 : Int))) = true then (some (([] : (List Int)), (0 : Int), c1.2.2)) else (if (decide ((65536 : Int) < c1.1)) = true then (some (([] : (List Int)), (0 : Int), (2 : Int))) else (if (decide ((IntKind.u64.wrap (IntKind.i64.wrap (((a0).length : Int) - c1.2.1))) < c1.1)) = true then (some (([] : (List Int)), (0 : Int), (3 : Int))) else (need (0 ≤ c1.2.1 ∧ c1.2.1 ≤ (IntKind.i64.wrap (c1.2.1 + (IntKind.i64.wrap c1.1))) ∧ (IntKind.i64.wrap (c1.2.1 + (IntKind.i64.wrap c1.1))) ≤ ((a0).length : Int)) ((octet_own.f (sub a0 c1.2.1 (IntKind.i64.wrap (c1.2.1 + (IntKind.i64.wrap c1.1)))) (0 : Int)).bind fun c35 => (some (c35, (IntKind.i64.wrap (c1.2.1 + (IntKind.i64.wrap c1.1))), (0 : Int)))))))))
set_option maxRecDepth 100000 in
set_option maxHeartbeats 1380000 in
theorem octet_TakeText_ok (k : Nat) (a0 : (List Int)) (u0 : Value) (r : (List Int) × Int × Int) (hf : octet_TakeText.f k a0 = some r) : Cf.FnX true Try.prog 80 [u0] (fun w m => (rSl 1 (rInt .u8)).val w m u0 a0) (fun w w' m v => ∃ v0 v1 v2, v = .tuple #[v0, v1, v2] ∧ OwnRes (rInt .u8) 1 w w' m v0 r.1 ∧ ∀ m', (∀ b, b ∈ m' → b ∈ m ∨ bufBlk v0 = some b) → (rInt .i64).val w' m' v1 r.2.1 ∧ (rInt .i64).val w' m' v2 r.2.2) := by
  unfold octet_TakeText.f at hf
  refine fn_of Try.func80 rfl (Nat.le_of_ble_eq_true rfl) [(rSl 1 (rInt .u8)).fact u0 a0] (fun w m h f hf => ?_) ?_
  · simp at hf; obtain rfl := hf; exact h
  intro w0 m0 R hR
  refine t_seq ?_
  refine t_region ?_
  refine tl_d rfl (d_assign rfl ?_)
  refine tl_d rfl (d_assign rfl ?_)
  refine tl_d rfl (d_assign rfl ?_)
  refine tl_nil ?_
  refine q_then_code ?_
  refine t_seq ?_
  obtain ⟨c1, hc2, hf⟩ := bind_some hf
  refine t_region ?_
  refine tl_d rfl (d_move rfl ?_)
  refine tl_g [] rfl (g_call3 rfl hfn61 (octet_TakeCount_ok _ _ _ _ hc2) (Evs.cons rfl Evs.nil) (fun a w hs => (hv_fact (mem_at 0 rfl)) _ _ _ _ hs) (fun v15 v16 v17 => ?_))
  refine tl_int (mem_at 0 rfl) (fun hv22 hw21 => ?_)
  subst hv22
  refine tl_int (mem_at 1 rfl) (fun hv24 hw23 => ?_)
  subst hv24
  refine tl_int (mem_at 2 rfl) (fun hv26 hw25 => ?_)
  subst hv26
  refine tl_d rfl (d_move rfl ?_)
  refine tl_d rfl (d_extract rfl rfl ?_)
  refine tl_d rfl (d_extract rfl rfl ?_)
  refine tl_d rfl (d_extract rfl rfl ?_)
  refine tl_d rfl (d_assign rfl ?_)
  refine tl_d rfl (d_assign rfl ?_)
  refine tl_d rfl (d_assign rfl ?_)
  refine tl_nil ?_
  refine q_then_code ?_
  refine t_seq ?_
  refine t_block ?_
  refine t_seq ?_
  refine t_region ?_
  refine tl_d rfl (d_move rfl ?_)
  refine tl_d rfl (d_neq rfl rfl ?_)
  refine tl_d rfl (d_assign rfl ?_)
  refine tl_nil ?_
  refine q_then_code ?_
  refine t_cond rfl (fun hb27 => ?_) (fun hb27 => ?_)
  · have hf := if_t hb27 hf
    refine t_seq ?_
    refine t_region ?_
    refine tl_d rfl (d_move rfl ?_)
    refine tl_d rfl (d_assign rfl ?_)
    refine tl_d rfl (d_assign rfl ?_)
    refine tl_d rfl (d_assign rfl ?_)
    refine tl_nil ?_
    refine q_then_code ?_
    refine t_ret ?_
    refine q_block_ret ?_
    refine q_then_ret ?_
    have hr := Option.some.inj hf; subst hr
    refine q_ret (post := fun w w' m v => ∃ v0 v1 v2, v = .tuple #[v0, v1, v2] ∧ OwnRes (rInt .u8) 1 w w' m v0 ([] : (List Int)) ∧ ∀ m', (∀ b, b ∈ m' → b ∈ m ∨ bufBlk v0 = some b) → (rInt .i64).val w' m' v1 (0 : Int) ∧ (rInt .i64).val w' m' v2 c1.2.2) hR _ (.inl rfl) (fun a w hs => ?_)
    exact ⟨_, run_results rfl (RvOk.cons (rv_tmp hs rfl) (RvOk.cons (rv_tmp hs rfl) (RvOk.cons (rv_tmp hs rfl) RvOk.nil))), _, _, _, rfl, ownres_nil, fun m' hm' => ⟨⟨[_], ⟨rfl, rfl⟩, rfl⟩, ⟨[_], ⟨rfl, hw25⟩, rfl⟩⟩⟩
  · have hf := if_f hb27 hf
    refine t_seq ?_
    refine t_region ?_
    refine tl_d rfl (d_move rfl ?_)
    refine tl_d rfl (d_gtr rfl rfl ?_)
    refine tl_d rfl (d_assign rfl ?_)
    refine tl_nil ?_
    refine q_then_code ?_
    refine t_cond rfl (fun hb28 => ?_) (fun hb28 => ?_)
    · have hf := if_t hb28 hf
      refine t_seq ?_
      refine t_region ?_
      refine tl_d rfl (d_assign rfl ?_)
      refine tl_d rfl (d_assign rfl ?_)
      refine tl_d rfl (d_assign rfl ?_)
      refine tl_nil ?_
      refine q_then_code ?_
      refine t_ret ?_
      refine q_block_ret ?_
      refine q_then_ret ?_
      have hr := Option.some.inj hf; subst hr
      refine q_ret (post := fun w w' m v => ∃ v0 v1 v2, v = .tuple #[v0, v1, v2] ∧ OwnRes (rInt .u8) 1 w w' m v0 ([] : (List Int)) ∧ ∀ m', (∀ b, b ∈ m' → b ∈ m ∨ bufBlk v0 = some b) → (rInt .i64).val w' m' v1 (0 : Int) ∧ (rInt .i64).val w' m' v2 (2 : Int)) hR _ (.inl rfl) (fun a w hs => ?_)
      exact ⟨_, run_results rfl (RvOk.cons (rv_tmp hs rfl) (RvOk.cons (rv_tmp hs rfl) (RvOk.cons (rv_tmp hs rfl) RvOk.nil))), _, _, _, rfl, ownres_nil, fun m' hm' => ⟨⟨[_], ⟨rfl, rfl⟩, rfl⟩, ⟨[_], ⟨rfl, rfl⟩, rfl⟩⟩⟩
    · have hf := if_f hb28 hf
      refine t_seq ?_
      refine t_region ?_
      refine tl_d rfl (d_move rfl ?_)
      refine tl_d rfl (d_len_sl rfl (mem_at 3 rfl) Try.underlying32 (fun hl30 _ => ?_))
      refine tl_d rfl (d_move rfl ?_)
      refine tl_d rfl (d_sub rfl rfl ?_)
      refine tl_d rfl (d_conv Try.underlying3 Try.underlying91 rfl ?_)
      refine tl_d rfl (d_move rfl ?_)
      refine tl_d rfl (d_lss rfl rfl ?_)
      refine tl_d rfl (d_assign rfl ?_)
      refine tl_nil ?_
      refine q_then_code ?_
      refine t_cond rfl (fun hb31 => ?_) (fun hb31 => ?_)
      · have hf := if_t hb31 hf
        refine t_seq ?_
        refine t_region ?_
        refine tl_d rfl (d_assign rfl ?_)
        refine tl_d rfl (d_assign rfl ?_)
        refine tl_d rfl (d_assign rfl ?_)
        refine tl_nil ?_
        refine q_then_code ?_
        refine t_ret ?_
        refine q_block_ret ?_
        refine q_then_ret ?_
        have hr := Option.some.inj hf; subst hr
        refine q_ret (post := fun w w' m v => ∃ v0 v1 v2, v = .tuple #[v0, v1, v2] ∧ OwnRes (rInt .u8) 1 w w' m v0 ([] : (List Int)) ∧ ∀ m', (∀ b, b ∈ m' → b ∈ m ∨ bufBlk v0 = some b) → (rInt .i64).val w' m' v1 (0 : Int) ∧ (rInt .i64).val w' m' v2 (3 : Int)) hR _ (.inl rfl) (fun a w hs => ?_)
        exact ⟨_, run_results rfl (RvOk.cons (rv_tmp hs rfl) (RvOk.cons (rv_tmp hs rfl) (RvOk.cons (rv_tmp hs rfl) RvOk.nil))), _, _, _, rfl, ownres_nil, fun m' hm' => ⟨⟨[_], ⟨rfl, rfl⟩, rfl⟩, ⟨[_], ⟨rfl, rfl⟩, rfl⟩⟩⟩
      · have hf := if_f hb31 hf
        refine t_skip ?_
        refine q_block_normal ?_
        refine q_then_code ?_
        refine t_seq ?_
        refine t_region ?_
        refine tl_d rfl (d_move rfl ?_)
        refine tl_d rfl (d_move rfl ?_)
        refine tl_d rfl (d_conv Try.underlying91 Try.underlying3 rfl ?_)
        refine tl_d rfl (d_add rfl rfl ?_)
        refine tl_d rfl (d_assign rfl ?_)
        refine tl_nil ?_
        refine q_then_code ?_
        refine t_seq ?_
        obtain ⟨hn34, hf⟩ := need_some hf
        obtain ⟨c35, hc36, hf⟩ := bind_some hf
        refine t_region ?_
        refine tl_d rfl (d_move rfl ?_)
        refine tl_d rfl (d_move rfl ?_)
        refine tl_d rfl (d_move rfl ?_)
        refine tl_d rfl (d_slice_sl (i := c1.2.1) (j := (IntKind.i64.wrap (c1.2.1 + (IntKind.i64.wrap c1.1)))) rfl (mem_at 3 rfl) (.inr ⟨_, _, rfl, rfl⟩) (.inr ⟨_, _, rfl, rfl⟩) Try.underlying32 ty5 hn34 (fun v39 => ?_))
        refine tl_g [] rfl (g_callo rfl hfn87 (octet_own_ok _ _ _ _ hc36) (Evs.cons rfl (Evs.cons rfl Evs.nil)) (fun a w hs => ⟨(hv_fact (mem_at 0 rfl)) _ _ _ _ hs, (hv_int rfl) _ _ _ _ hs⟩) (fun v41 => ?_))
        refine tl_d rfl (d_move rfl ?_)
        refine tl_d rfl (d_assign rfl ?_)
        refine tl_d rfl (d_assign rfl ?_)
        refine tl_d rfl (d_assign rfl ?_)
        refine tl_nil ?_
        refine q_then_code ?_
        refine t_ret ?_
        have hr := Option.some.inj hf; subst hr
        refine q_ret (post := fun w w' m v => ∃ v0 v1 v2, v = .tuple #[v0, v1, v2] ∧ OwnRes (rInt .u8) 1 w w' m v0 c35 ∧ ∀ m', (∀ b, b ∈ m' → b ∈ m ∨ bufBlk v0 = some b) → (rInt .i64).val w' m' v1 (IntKind.i64.wrap (c1.2.1 + (IntKind.i64.wrap c1.1))) ∧ (rInt .i64).val w' m' v2 (0 : Int)) hR _ (.inl rfl) (fun a w hs => ?_)
        exact ⟨_, run_results rfl (RvOk.cons (rv_tmp hs rfl) (RvOk.cons (rv_tmp hs rfl) (RvOk.cons (rv_tmp hs rfl) RvOk.nil))), _, _, _, rfl, (hs.ownres (i := 0) rfl), fun m' hm' => ⟨⟨[_], ⟨rfl, (wrap_wrap _ _)⟩, rfl⟩, ⟨[_], ⟨rfl, rfl⟩, rfl⟩⟩⟩

def folder_item.f (k : Nat) (a0 : (List Int)) : Option (Api_Item × (List Int) × Bool) := (if (decide (((a0).length : Int) = (0 : Int))) = true then (some (rApi_Item.zeroD, ([] : (List Int)), false)) else (need (0 ≤ (0 : Int) ∧ (0 : Int) < ((a0).length : Int)) ((need (0 ≤ (1 : Int) ∧ (1 : Int) ≤ ((a0).length : Int) ∧ ((a0).length : Int) ≤ ((a0).length : Int)) ((octet_TakeText.f k (sub a0 (1 : Int) ((a0).length : Int))).bind fun c22 => (if (!decide (c22.2.2 = (0 : Int))) = true then (some (((rApi_Item.zeroD).set_Kind ((a0).getD ((0 : Int)).toNat (rInt .u8).zeroD)), ([] : (List Int)), false)) else (need (0 ≤ (IntKind.i64.wrap ((1 : Int) + c22.2.1)) ∧ (IntKind.i64.wrap ((1 : Int) + c22.2.1)) ≤ ((a0).length : Int) ∧ ((a0).length : Int) ≤ ((a0).length : Int)) ((if (decide ((((sub a0 (IntKind.i64.wrap ((1 : Int) + c22.2.1)) ((a0).length : Int))).length : Int) < (32 : Int))) = true then (some (((rApi_Item.zeroD).set_Kind ((a0).getD ((0 : Int)).toNat (rInt .u8).zeroD)), ([] : (List Int)), false)) else (need (0 ≤ (0 : Int) ∧ (0 : Int) ≤ (32 : Int) ∧ (32 : Int) ≤ (((sub a0 (IntKind.i64.wrap ((1 : Int) + c22.2.1)) ((a0).length : Int))).length : Int)) (need (32 ≤ ((sub (sub a0 (IntKind.i64.wrap ((1 : Int) + c22.2.1)) ((a0).length : Int)) (0 : Int) (32 : Int))).length) ((need (0 ≤ (32 : Int) ∧ (32 : Int) ≤ (((sub a0 (IntKind.i64.wrap ((1 : Int) + c22.2.1)) ((a0).length : Int))).length : Int) ∧ (((sub a0 (IntKind.i64.wrap ((1 : Int) + c22.2.1)) ((a0).length : Int))).length : Int) ≤ (((sub a0 (IntKind.i64.wrap ((1 : Int) + c22.2.1)) ((a0).length : Int))).length : Int)) (((octet_TakeCount.f k (sub (sub a0 (IntKind.i64.wrap ((1 : Int) + c22.2.1)) ((a0).length : Int)) (32 : Int) (((sub a0 (IntKind.i64.wrap ((1 : Int) + c22.2.1)) ((a0).length : Int))).length : Int))).bind fun c88 => ((if (!decide (c88.2.2 = (0 : Int))) = true then (some true) else (some (decide ((9223372036854775807 : Int) < c88.1))))).bind fun s115 => (if s115 = true then (some (((((((rApi_Item.zeroD).set_Kind ((a0).getD ((0 : Int)).toNat (rInt .u8).zeroD))).set_Name c22.1)).set_Of (((sub (sub a0 (IntKind.i64.wrap ((1 : Int) + c22.2.1)) ((a0).length : Int)) (0 : Int) (32 : Int))).take 32)), ([] : (List Int)), false)) else (need (0 ≤ c88.2.1 ∧ c88.2.1 ≤ (((sub (sub a0 (IntKind.i64.wrap ((1 : Int) + c22.2.1)) ((a0).length : Int)) (32 : Int) (((sub a0 (IntKind.i64.wrap ((1 : Int) + c22.2.1)) ((a0).length : Int))).length : Int))).length : Int) ∧ (((sub (sub a0 (IntKind.i64.wrap ((1 : Int) + c22.2.1)) ((a0).length : Int)) (32 : Int) (((sub a0 (IntKind.i64.wrap ((1 : Int) + c22.2.1)) ((a0).length : Int))).length : Int))).length : Int) ≤ (((sub (sub a0 (IntKind.i64.wrap ((1 : Int) + c22.2.1)) ((a0).length : Int)) (32 : Int) (((sub a0 (IntKind.i64.wrap ((1 : Int) + c22.2.1)) ((a0).length : Int))).length : Int))).length : Int)) ((some (((((((((rApi_Item.zeroD).set_Kind ((a0).getD ((0 : Int)).toNat (rInt .u8).zeroD))).set_Name c22.1)).set_Of (((sub (sub a0 (IntKind.i64.wrap ((1 : Int) + c22.2.1)) ((a0).length : Int)) (0 : Int) (32 : Int))).take 32))).set_Size (IntKind.i64.wrap c88.1)), (sub (sub (sub a0 (IntKind.i64.wrap ((1 : Int) + c22.2.1)) ((a0).length : Int)) (32 : Int) (((sub a0 (IntKind.i64.wrap ((1 : Int) + c22.2.1)) ((a0).length : Int))).length : Int)) c88.2.1 (((sub (sub a0 (IntKind.i64.wrap ((1 : Int) + c22.2.1)) ((a0).length : Int)) (32 : Int) (((sub a0 (IntKind.i64.wrap ((1 : Int) + c22.2.1)) ((a0).length : Int))).length : Int))).length : Int)), true))))))))))))))))))))
set_option maxRecDepth 100000 in
set_option maxHeartbeats 2540000 in
theorem folder_item_ok (k : Nat) (a0 : (List Int)) (u0 : Value) (r : Api_Item × (List Int) × Bool) (hf : folder_item.f k a0 = some r) : Cf.FnX true Try.prog 62 [u0] (fun w m => (rSl 1 (rInt .u8)).val w m u0 a0) (fun w w' m v => ∃ v0 v1 v2, v = .tuple #[v0, v1, v2] ∧ rApi_Item.val w' m v0 r.1 ∧ (rSl 1 (rInt .u8)).val w' m v1 r.2.1 ∧ rBool.val w' m v2 r.2.2) := by
  unfold folder_item.f at hf
  refine fn_of Try.func62 rfl (Nat.le_of_ble_eq_true rfl) [(rSl 1 (rInt .u8)).fact u0 a0] (fun w m h f hf => ?_) ?_
  · simp at hf; obtain rfl := hf; exact h
  intro w0 m0 R hR
  refine t_seq ?_
  refine t_region ?_
  refine tl_g [] rfl (g_alloc rfl ty54 (fun b2 => ?_))
  refine tl_d rfl (d_assign rfl ?_)
  refine tl_d rfl (d_assign rfl ?_)
  refine tl_nil ?_
  refine q_then_code ?_
  refine t_seq ?_
  refine t_region ?_
  refine tl_g [] rfl (g_alloc rfl ty54 (fun b4 => ?_))
  refine tl_nil ?_
  refine q_then_code ?_
  refine t_seq ?_
  refine t_seq ?_
  refine t_region ?_
  refine tl_d rfl (d_move rfl ?_)
  refine tl_d rfl (d_len_sl rfl (mem_at 0 rfl) Try.underlying32 (fun hl6 _ => ?_))
  refine tl_d rfl (d_eql rfl rfl ?_)
  refine tl_nil ?_
  refine q_then_code ?_
  refine t_cond rfl (fun hb7 => ?_) (fun hb7 => ?_)
  · have hf := if_t hb7 hf
    refine t_seq ?_
    refine t_region ?_
    refine tl_d rfl (d_load_box 1 rfl rfl (Fld.self rApi_Item) trivial ty54 rfl (fun v10 => ?_))
    refine tl_g _ rfl (g_store_box 0 rfl rfl rfl (Fld.self rApi_Item) trivial (hv_fact (mem_at 0 rfl)) ty54 (List.mem_singleton_self _) ?_)
    refine tl_d rfl (d_assign rfl ?_)
    refine tl_d rfl (d_assign rfl ?_)
    refine tl_nil ?_
    refine q_then_code ?_
    refine t_ret ?_
    refine q_then_ret ?_
    have hr := Option.some.inj hf; subst hr
    refine q_ret (post := fun w w' m v => ∃ v0 v1 v2, v = .tuple #[v0, v1, v2] ∧ rApi_Item.val w' m v0 rApi_Item.zeroD ∧ (rSl 1 (rInt .u8)).val w' m v1 ([] : (List Int)) ∧ rBool.val w' m v2 false) hR _ (.inl rfl) (fun a w hs => ?_)
    obtain ⟨x0, hx0, hy0⟩ := rv_cell (t := 2) (ty := 54) hs 0 rfl rfl ty54
    exact ⟨_, run_results rfl (RvOk.cons hx0 (RvOk.cons (rv_tmp hs rfl) (RvOk.cons (rv_tmp hs rfl) RvOk.nil))), _, _, _, rfl, hy0, (hs.hv hv_nil), (hs.hv hv_bool)⟩
  · have hf := if_f hb7 hf
    refine t_skip ?_
    refine q_then_code ?_
    refine t_seq ?_
    obtain ⟨hn12, hf⟩ := need_some hf
    refine t_region ?_
    refine tl_d rfl (d_move rfl ?_)
    refine tl_d rfl (d_index_sl rfl (mem_at 0 rfl) rfl Try.underlying32 ty5 hn12 (fun p16 => ?_))
    refine tl_d rfl (d_load_int rfl (mem_at 0 rfl) ty5 (fun hw18 => ?_))
    refine tl_d rfl (d_conv_id Try.underlying5 Try.underlying3 rfl (wrap_widen rfl hw18) ?_)
    refine tl_d rfl (d_field_own rfl fo54_1 ?_)
    refine tl_g _ rfl (g_store_box 1 rfl rfl rfl (Fld.at0 fl_Api_Item_Kind) trivial (hv_int (wrap_widen rfl hw18)) ty3 (List.mem_singleton_self _) ?_)
    refine tl_nil ?_
    refine q_then_code ?_
    refine t_seq ?_
    obtain ⟨hn21, hf⟩ := need_some hf
    obtain ⟨c22, hc23, hf⟩ := bind_some hf
    refine t_region ?_
    refine tl_d rfl (d_move rfl ?_)
    refine tl_d rfl (d_slice_sl (i := (1 : Int)) (j := ((a0).length : Int)) rfl (mem_at 1 rfl) (.inr ⟨_, _, rfl, rfl⟩) (.inl ⟨rfl, rfl⟩) Try.underlying32 ty5 hn21 (fun v34 => ?_))
    refine tl_g [] rfl (g_callo3 rfl hfn80 (octet_TakeText_ok _ _ _ _ hc23) (Evs.cons rfl Evs.nil) (fun a w hs => (hv_fact (mem_at 0 rfl)) _ _ _ _ hs) (fun v36 v37 v38 => ?_))
    refine tl_int (mem_at 0 rfl) (fun hv43 hw42 => ?_)
    subst hv43
    refine tl_int (mem_at 1 rfl) (fun hv45 hw44 => ?_)
    subst hv45
    refine tl_d rfl (d_move rfl ?_)
    refine tl_d rfl (d_extract rfl rfl ?_)
    refine tl_d rfl (d_extract rfl rfl ?_)
    refine tl_d rfl (d_extract rfl rfl ?_)
    refine tl_d rfl (d_assign rfl ?_)
    refine tl_d rfl (d_assign rfl ?_)
    refine tl_d rfl (d_assign rfl ?_)
    refine tl_nil ?_
    refine q_then_code ?_
    refine t_seq ?_
    refine t_seq ?_
    refine t_region ?_
    refine tl_d rfl (d_move rfl ?_)
    refine tl_d rfl (d_neq rfl rfl ?_)
    refine tl_nil ?_
    refine q_then_code ?_
    refine t_cond rfl (fun hb46 => ?_) (fun hb46 => ?_)
    · have hf := if_t hb46 hf
      refine t_seq ?_
      refine t_region ?_
      refine tl_d rfl (d_load_box 1 rfl rfl (Fld.self rApi_Item) trivial ty54 rfl (fun v49 => ?_))
      refine tl_g _ rfl (g_store_box 0 rfl rfl rfl (Fld.self rApi_Item) trivial (hv_fact (mem_at 0 rfl)) ty54 (List.mem_singleton_self _) ?_)
      refine tl_d rfl (d_assign rfl ?_)
      refine tl_d rfl (d_assign rfl ?_)
      refine tl_nil ?_
      refine q_then_code ?_
      refine t_ret ?_
      refine q_then_ret ?_
      have hr := Option.some.inj hf; subst hr
      refine q_ret (post := fun w w' m v => ∃ v0 v1 v2, v = .tuple #[v0, v1, v2] ∧ rApi_Item.val w' m v0 ((rApi_Item.zeroD).set_Kind ((a0).getD ((0 : Int)).toNat (rInt .u8).zeroD)) ∧ (rSl 1 (rInt .u8)).val w' m v1 ([] : (List Int)) ∧ rBool.val w' m v2 false) hR _ (.inl rfl) (fun a w hs => ?_)
      obtain ⟨x0, hx0, hy0⟩ := rv_cell (t := 2) (ty := 54) hs 0 rfl rfl ty54
      exact ⟨_, run_results rfl (RvOk.cons hx0 (RvOk.cons (rv_tmp hs rfl) (RvOk.cons (rv_tmp hs rfl) RvOk.nil))), _, _, _, rfl, hy0, (hs.hv hv_nil), (hs.hv hv_bool)⟩
    · have hf := if_f hb46 hf
      refine t_skip ?_
      refine q_then_code ?_
      refine t_seq ?_
      obtain ⟨hn53, hf⟩ := need_some hf
      refine t_region ?_
      refine tl_d rfl (d_move rfl ?_)
      refine tl_d rfl (d_move rfl ?_)
      refine tl_d rfl (d_add rfl rfl ?_)
      refine tl_d rfl (d_slice_sl (i := (IntKind.i64.wrap ((1 : Int) + c22.2.1))) (j := ((a0).length : Int)) rfl (mem_at 4 rfl) (.inr ⟨_, _, rfl, rfl⟩) (.inl ⟨rfl, rfl⟩) Try.underlying32 ty5 hn53 (fun v54 => ?_))
      refine tl_d rfl (d_assign rfl ?_)
      refine tl_nil ?_
      refine q_then_code ?_
      refine t_seq ?_
      refine t_seq ?_
      refine t_region ?_
      refine tl_d rfl (d_move rfl ?_)
      refine tl_d rfl (d_len_sl rfl (mem_at 0 rfl) Try.underlying32 (fun hl57 _ => ?_))
      refine tl_d rfl (d_lss rfl rfl ?_)
      refine tl_nil ?_
      refine q_then_code ?_
      refine t_cond rfl (fun hb58 => ?_) (fun hb58 => ?_)
      · have hf := if_t hb58 hf
        refine t_seq ?_
        refine t_region ?_
        refine tl_d rfl (d_load_box 1 rfl rfl (Fld.self rApi_Item) trivial ty54 rfl (fun v61 => ?_))
        refine tl_g _ rfl (g_store_box 0 rfl rfl rfl (Fld.self rApi_Item) trivial (hv_fact (mem_at 0 rfl)) ty54 (List.mem_singleton_self _) ?_)
        refine tl_d rfl (d_assign rfl ?_)
        refine tl_d rfl (d_assign rfl ?_)
        refine tl_nil ?_
        refine q_then_code ?_
        refine t_ret ?_
        refine q_then_ret ?_
        have hr := Option.some.inj hf; subst hr
        refine q_ret (post := fun w w' m v => ∃ v0 v1 v2, v = .tuple #[v0, v1, v2] ∧ rApi_Item.val w' m v0 ((rApi_Item.zeroD).set_Kind ((a0).getD ((0 : Int)).toNat (rInt .u8).zeroD)) ∧ (rSl 1 (rInt .u8)).val w' m v1 ([] : (List Int)) ∧ rBool.val w' m v2 false) hR _ (.inl rfl) (fun a w hs => ?_)
        obtain ⟨x0, hx0, hy0⟩ := rv_cell (t := 2) (ty := 54) hs 0 rfl rfl ty54
        exact ⟨_, run_results rfl (RvOk.cons hx0 (RvOk.cons (rv_tmp hs rfl) (RvOk.cons (rv_tmp hs rfl) RvOk.nil))), _, _, _, rfl, hy0, (hs.hv hv_nil), (hs.hv hv_bool)⟩
      · have hf := if_f hb58 hf
        refine t_skip ?_
        refine q_then_code ?_
        refine t_seq ?_
        obtain ⟨hn68, hf⟩ := need_some hf
        obtain ⟨hn69, hf⟩ := need_some hf
        refine t_any (n := 9) [1, 3, 4, 5, 6, 7, 8, 9, 10, 11, 12, 13, 14] mixed ⟨by kernel_rfl, .inr ⟨rfl, by kernel_rfl⟩⟩ (np_then np_body) ?_
        refine ta_take (i := 0) rfl (by kernel_rfl) gd_none (d_move rfl ?_)
        refine ta_freeze 2 rfl ?_
        refine ta_take (i := 1) rfl (by kernel_rfl) gd_none (d_bytes_str rfl (mem_at 0 rfl) Try.underlying32 Try.underlying5 Try.underlying9 (fun v75 => ?_))
        refine ta_take (i := 2) rfl (by kernel_rfl) gd_none (d_move rfl ?_)
        refine ta_take (i := 3) rfl (by kernel_rfl) gd_none (d_slice_sl (i := (0 : Int)) (j := (32 : Int)) rfl (mem_at 2 rfl) (.inl ⟨rfl, rfl⟩) (.inr ⟨_, _, rfl, rfl⟩) Try.underlying32 ty5 hn68 (fun v77 => ?_))
        refine ta_take (i := 4) rfl (by kernel_rfl) gd_none (d_s2ap rfl (mem_at 0 rfl) Try.underlying29 hn69 (by decide) (fun p79 => ?_))
        refine ta_take (i := 5) rfl (by kernel_rfl) gd_none (d_load_place rfl (mem_at 0 rfl) ty29 (fun v81 => ?_))
        refine ta_take (i := 6) rfl (by kernel_rfl) gd_none (d_field_own rfl fo54_0 ?_)
        refine ta_one (i := 7) (by kernel_rfl) rfl rfl gd_none (g_store_box 1 rfl rfl rfl (Fld.at0 fl_Api_Item_Name) trivial (hv_fact (mem_at 3 rfl)) ty9 (by decide) ?_)
        refine ta_take (i := 8) rfl (by kernel_rfl) gd_none (d_field_own rfl fo54_2 ?_)
        refine ta_last [0, 1, 2, 3, 4, 5, 6, 7, 8, 9, 10, 11, 12, 13, 14, 15, 16, 17, 18, 19, 20, 21, 22, 23, 24, 25, 26, 27, 28, 29, 30, 31, 32, 33, 34, 35, 36, 37, 38, 39, 40, 41, 42, 43, 44, 45, 46, 47, 48, 49, 50, 51, 52, 53, 54, 55, 56, 57, 58, 59] (by kernel_rfl) (by kernel_rfl) rfl gd_none (g_store_box 1 rfl rfl rfl (Fld.at0 fl_Api_Item_Of) trivial (hv_fact (mem_at 0 rfl)) ty29 (by decide) ?_)
        refine q_then_code ?_
        refine t_seq ?_
        obtain ⟨hn85, hf⟩ := need_some hf
        refine t_region ?_
        refine tl_d rfl (d_move rfl ?_)
        refine tl_d rfl (d_slice_sl (i := (32 : Int)) (j := (((sub a0 (IntKind.i64.wrap ((1 : Int) + c22.2.1)) ((a0).length : Int))).length : Int)) rfl (mem_at 5 rfl) (.inr ⟨_, _, rfl, rfl⟩) (.inl ⟨rfl, rfl⟩) Try.underlying32 ty5 hn85 (fun v86 => ?_))
        refine tl_d rfl (d_assign rfl ?_)
        refine tl_nil ?_
        refine q_then_code ?_
        refine t_seq ?_
        obtain ⟨c88, hc89, hf⟩ := bind_some hf
        refine t_region ?_
        refine tl_d rfl (d_move rfl ?_)
        refine tl_g [] rfl (g_call3 rfl hfn61 (octet_TakeCount_ok _ _ _ _ hc89) (Evs.cons rfl Evs.nil) (fun a w hs => (hv_fact (mem_at 0 rfl)) _ _ _ _ hs) (fun v102 v103 v104 => ?_))
        refine tl_int (mem_at 0 rfl) (fun hv109 hw108 => ?_)
        subst hv109
        refine tl_int (mem_at 1 rfl) (fun hv111 hw110 => ?_)
        subst hv111
        refine tl_int (mem_at 2 rfl) (fun hv113 hw112 => ?_)
        subst hv113
        refine tl_d rfl (d_move rfl ?_)
        refine tl_d rfl (d_extract rfl rfl ?_)
        refine tl_d rfl (d_extract rfl rfl ?_)
        refine tl_d rfl (d_extract rfl rfl ?_)
        refine tl_d rfl (d_assign rfl ?_)
        refine tl_d rfl (d_assign rfl ?_)
        refine tl_d rfl (d_assign rfl ?_)
        refine tl_nil ?_
        refine q_then_code ?_
        refine t_seq ?_
        refine t_seq ?_
        obtain ⟨o116, ho117, hf⟩ := bind_some hf
        refine t_cut (X := Bool) (fun x => match x with | s115 => (([(0, v86), (2, .pointer (some ⟨b2, 0, none⟩)), (5, .pointer (some ⟨b4, 0, none⟩)), (7, (.int .i64 c88.2.1)), (9, (.int .u64 c88.1)), (58, .bool s115)], [(rSl 1 (rInt .u8)).fact v86 (sub (sub a0 (IntKind.i64.wrap ((1 : Int) + c22.2.1)) ((a0).length : Int)) (32 : Int) (((sub a0 (IntKind.i64.wrap ((1 : Int) + c22.2.1)) ((a0).length : Int))).length : Int))], [Own.box b2 rApi_Item rApi_Item.zeroD, Own.box b4 rApi_Item ((((((rApi_Item.zeroD).set_Kind ((a0).getD ((0 : Int)).toNat (rInt .u8).zeroD))).set_Name c22.1)).set_Of (((sub (sub a0 (IntKind.i64.wrap ((1 : Int) + c22.2.1)) ((a0).length : Int)) (0 : Int) (32 : Int))).take 32))]) : Sym)) (fun x => match x with | s115 => s115 = o116) ?_ ?_
        · have hf := ho117; clear ho117
          rcases bool_tf (!decide (c88.2.2 = (0 : Int))) with hb114 | hb114
          · have hf := if_t hb114 hf
            refine t_region ?_
            refine tl_d rfl (d_move rfl ?_)
            refine tl_d rfl (d_neq rfl rfl ?_)
            refine tl_d rfl (d_move rfl ?_)
            refine tl_off (gd_off rfl rfl rfl hb114) rfl rfl ?_
            refine tl_off (gd_off rfl rfl rfl hb114) rfl rfl ?_
            refine tl_d rfl (d_pick_true rfl hb114 rfl ?_)
            refine tl_nil ?_
            have hr := Option.some.inj hf; subst hr
            exact q_cut true rfl ⟨rfl, ⟨rfl, ⟨rfl, ⟨rfl, ⟨rfl, ⟨rfl, trivial⟩⟩⟩⟩⟩⟩ ⟨mem_at 3 rfl, trivial⟩ [0, 1] (Sel.cons rfl (Sel.cons rfl Sel.nil)) rfl
          · have hf := if_f hb114 hf
            refine t_region ?_
            refine tl_d rfl (d_move rfl ?_)
            refine tl_d rfl (d_neq rfl rfl ?_)
            refine tl_d rfl (d_move rfl ?_)
            refine tl_dg (gd_on rfl rfl rfl hb114) rfl (d_move rfl ?_)
            refine tl_dg (gd_on rfl rfl rfl hb114) rfl (d_gtr rfl rfl ?_)
            refine tl_d rfl (d_pick_false rfl hb114 rfl ?_)
            refine tl_nil ?_
            have hr := Option.some.inj hf; subst hr
            exact q_cut (decide ((9223372036854775807 : Int) < c88.1)) rfl ⟨rfl, ⟨rfl, ⟨rfl, ⟨rfl, ⟨rfl, ⟨rfl, trivial⟩⟩⟩⟩⟩⟩ ⟨mem_at 3 rfl, trivial⟩ [0, 1] (Sel.cons rfl (Sel.cons rfl Sel.nil)) rfl
        rintro s115 rfl
        refine q_then_code ?_
        refine t_cond rfl (fun hb118 => ?_) (fun hb118 => ?_)
        · have hf := if_t hb118 hf
          refine t_seq ?_
          refine t_region ?_
          refine tl_d rfl (d_load_box 1 rfl rfl (Fld.self rApi_Item) trivial ty54 rfl (fun v121 => ?_))
          refine tl_g _ rfl (g_store_box 0 rfl rfl rfl (Fld.self rApi_Item) trivial (hv_fact (mem_at 0 rfl)) ty54 (List.mem_singleton_self _) ?_)
          refine tl_d rfl (d_assign rfl ?_)
          refine tl_d rfl (d_assign rfl ?_)
          refine tl_nil ?_
          refine q_then_code ?_
          refine t_ret ?_
          refine q_then_ret ?_
          have hr := Option.some.inj hf; subst hr
          refine q_ret (post := fun w w' m v => ∃ v0 v1 v2, v = .tuple #[v0, v1, v2] ∧ rApi_Item.val w' m v0 ((((((rApi_Item.zeroD).set_Kind ((a0).getD ((0 : Int)).toNat (rInt .u8).zeroD))).set_Name c22.1)).set_Of (((sub (sub a0 (IntKind.i64.wrap ((1 : Int) + c22.2.1)) ((a0).length : Int)) (0 : Int) (32 : Int))).take 32)) ∧ (rSl 1 (rInt .u8)).val w' m v1 ([] : (List Int)) ∧ rBool.val w' m v2 false) hR _ (.inl rfl) (fun a w hs => ?_)
          obtain ⟨x0, hx0, hy0⟩ := rv_cell (t := 2) (ty := 54) hs 0 rfl rfl ty54
          exact ⟨_, run_results rfl (RvOk.cons hx0 (RvOk.cons (rv_tmp hs rfl) (RvOk.cons (rv_tmp hs rfl) RvOk.nil))), _, _, _, rfl, hy0, (hs.hv hv_nil), (hs.hv hv_bool)⟩
        · have hf := if_f hb118 hf
          refine t_skip ?_
          refine q_then_code ?_
          refine t_seq ?_
          refine t_region ?_
          refine tl_d rfl (d_move rfl ?_)
          refine tl_d rfl (d_conv Try.underlying91 Try.underlying2 rfl ?_)
          refine tl_d rfl (d_field_own rfl fo54_3 ?_)
          refine tl_g _ rfl (g_store_box 1 rfl rfl rfl (Fld.at0 fl_Api_Item_Size) trivial (hv_int (wrap_wrap _ _)) ty2 (List.mem_singleton_self _) ?_)
          refine tl_nil ?_
          refine q_then_code ?_
          refine t_seq ?_
          obtain ⟨hn127, hf⟩ := need_some hf
          refine t_any (n := 7) [0, 2, 3, 4, 5, 6, 7, 8, 9, 10, 11, 12, 13] mixed ⟨by kernel_rfl, .inl rfl⟩ (np_then np_body) ?_
          refine ta_take (i := 0) rfl (by kernel_rfl) gd_none (d_load_box 1 rfl rfl (Fld.self rApi_Item) trivial ty54 rfl (fun v128 => ?_))
          refine ta_take (i := 1) rfl (by kernel_rfl) gd_none (d_move rfl ?_)
          refine ta_take (i := 2) rfl (by kernel_rfl) gd_none (d_move rfl ?_)
          refine ta_take (i := 3) rfl (by kernel_rfl) gd_none (d_slice_sl (i := c88.2.1) (j := (((sub (sub a0 (IntKind.i64.wrap ((1 : Int) + c22.2.1)) ((a0).length : Int)) (32 : Int) (((sub a0 (IntKind.i64.wrap ((1 : Int) + c22.2.1)) ((a0).length : Int))).length : Int))).length : Int)) rfl (mem_at 1 rfl) (.inr ⟨_, _, rfl, rfl⟩) (.inl ⟨rfl, rfl⟩) Try.underlying32 ty5 hn127 (fun v130 => ?_))
          refine ta_one (i := 4) (by kernel_rfl) rfl rfl gd_none (g_store_box 0 rfl rfl rfl (Fld.self rApi_Item) trivial (hv_fact (mem_at 1 rfl)) ty54 (by decide) ?_)
          refine ta_take (i := 5) rfl (by kernel_rfl) gd_none (d_assign rfl ?_)
          refine ta_take (i := 6) rfl (by kernel_rfl) gd_none (d_assign rfl ?_)
          refine ta_done (by kernel_rfl) ?_
          refine q_then_code ?_
          refine t_ret ?_
          have hr := Option.some.inj hf; subst hr
          refine q_ret (post := fun w w' m v => ∃ v0 v1 v2, v = .tuple #[v0, v1, v2] ∧ rApi_Item.val w' m v0 ((((((((rApi_Item.zeroD).set_Kind ((a0).getD ((0 : Int)).toNat (rInt .u8).zeroD))).set_Name c22.1)).set_Of (((sub (sub a0 (IntKind.i64.wrap ((1 : Int) + c22.2.1)) ((a0).length : Int)) (0 : Int) (32 : Int))).take 32))).set_Size (IntKind.i64.wrap c88.1)) ∧ (rSl 1 (rInt .u8)).val w' m v1 (sub (sub (sub a0 (IntKind.i64.wrap ((1 : Int) + c22.2.1)) ((a0).length : Int)) (32 : Int) (((sub a0 (IntKind.i64.wrap ((1 : Int) + c22.2.1)) ((a0).length : Int))).length : Int)) c88.2.1 (((sub (sub a0 (IntKind.i64.wrap ((1 : Int) + c22.2.1)) ((a0).length : Int)) (32 : Int) (((sub a0 (IntKind.i64.wrap ((1 : Int) + c22.2.1)) ((a0).length : Int))).length : Int))).length : Int)) ∧ rBool.val w' m v2 true) hR _ (.inl rfl) (fun a w hs => ?_)
          obtain ⟨x0, hx0, hy0⟩ := rv_cell (t := 2) (ty := 54) hs 0 rfl rfl ty54
          exact ⟨_, run_results rfl (RvOk.cons hx0 (RvOk.cons (rv_tmp hs rfl) (RvOk.cons (rv_tmp hs rfl) RvOk.nil))), _, _, _, rfl, hy0, (hs.hv (hv_fact (mem_at 0 rfl))), (hs.hv hv_bool)⟩


/-- strings.Contains, where the piece is one byte. -/
def strings_Contains.f (a0 a1 : List Int) : Option Bool := match a1 with
  | [c] => some (a0.contains c)
  | _ => none
theorem strings_Contains_ok (a0 a1 : List Int) (u0 u1 : Value) (r : Bool) (hf : strings_Contains.f a0 a1 = some r) : Cf.FnX true Try.prog 88 [u0, u1] (fun w m => rStr.val w m u0 a0 ∧ rStr.val w m u1 a1) (fun w w' m v => rBool.val w' m v r) := by
  intro w m hm hpre
  obtain ⟨h0, h1⟩ := hpre
  obtain ⟨s, rfl, rfl, _⟩ := val_str h0
  obtain ⟨p, rfl, rfl, _⟩ := val_str h1
  unfold strings_Contains.f at hf
  split at hf
  · next c hc =>
    obtain ⟨b, hb, rfl⟩ : ∃ b, p = ⟨#[b]⟩ ∧ (b.toNat : Int) = c := by
      obtain ⟨⟨l⟩⟩ := p
      unfold strL at hc
      match l, hc with
      | [b], hc => exact ⟨b, rfl, by simpa using hc⟩
    subst hb
    have hr := Option.some.inj hf; subst hr
    refine (Any.strings_Contains_one Try.lays144 s b w).mono ?_
    rintro e w' ⟨rfl, rfl⟩
    refine ⟨_, rfl, After.refl _, [.bool _], ?_, rfl⟩
    have e : (strL s).contains (b.toNat : Int) = decide (0 ≤ Lib.indexByte s.data.toList b) := by
      rw [← Lib.contains_iff_indexByte]
      unfold strL
      generalize s.data.toList = l
      induction l with
      | nil => rfl
      | cons x l ih =>
        rw [List.map_cons, List.contains_cons, List.contains_cons, ih]
        congr 1
        have : ((b.toNat : Int) = (x.toNat : Int)) ↔ b = x := ⟨fun h => UInt8.toNat_inj.1 (Int.ofNat.inj h), fun h => by rw [h]⟩
        rw [Bool.eq_iff_iff, beq_iff_eq, beq_iff_eq]
        exact this
    show [Value.bool _] = [Value.bool _]
    rw [e]
  · cases hf

def folder_MayName.f (a0 : (List Int)) : Option (Bool) := ((if (decide ((1 : Int) ≤ ((a0).length : Int))) = true then (if (decide (((a0).length : Int) ≤ (64 : Int))) = true then (if (!decide (a0 = [46])) = true then (if (!decide (a0 = [46, 46])) = true then ((strings_Contains.f a0 [47]).bind fun c9 => (if (!c9) = true then ((strings_Contains.f a0 [0]).bind fun c15 => (some (!c15))) else (some false))) else (some false)) else (some false)) else (some false)) else (some false))).bind fun s20 => (some s20)
set_option maxRecDepth 100000 in
set_option maxHeartbeats 2340000 in
theorem folder_MayName_ok (a0 : (List Int)) (u0 : Value) (r : Bool) (hf : folder_MayName.f a0 = some r) : Cf.FnX true Try.prog 81 [u0] (fun w m => rStr.val w m u0 a0) (fun w w' m v => rBool.val w' m v r) := by
  unfold folder_MayName.f at hf
  refine fn_of Try.func81 rfl (Nat.le_of_ble_eq_true rfl) [rStr.fact u0 a0] (fun w m h f hf => ?_) ?_
  · simp at hf; obtain rfl := hf; exact h
  intro w0 m0 R hR
  refine t_seq ?_
  refine t_region ?_
  refine tl_d rfl (d_assign rfl ?_)
  refine tl_nil ?_
  refine q_then_code ?_
  refine t_seq ?_
  obtain ⟨o21, ho22, hf⟩ := bind_some hf
  refine t_cut (X := Bool) (fun x => match x with | s20 => (([(2, .bool s20)], [], []) : Sym)) (fun x => match x with | s20 => s20 = o21) ?_ ?_
  · have hf := ho22; clear ho22
    rcases bool_tf (decide ((1 : Int) ≤ ((a0).length : Int))) with hb2 | hb2
    · have hf := if_t hb2 hf
      rcases bool_tf (decide (((a0).length : Int) ≤ (64 : Int))) with hb4 | hb4
      · have hf := if_t hb4 hf
        rcases bool_tf (!decide (a0 = [46])) with hb6 | hb6
        · have hf := if_t hb6 hf
          rcases bool_tf (!decide (a0 = [46, 46])) with hb8 | hb8
          · have hf := if_t hb8 hf
            obtain ⟨c9, hc10, hf⟩ := bind_some hf
            rcases bool_tf (!c9) with hb14 | hb14
            · have hf := if_t hb14 hf
              obtain ⟨c15, hc16, hf⟩ := bind_some hf
              refine t_region ?_
              refine tl_d rfl (d_move rfl ?_)
              refine tl_d rfl (d_len_str rfl (mem_at 0 rfl) Try.underlying9 (fun hl23 => ?_))
              refine tl_d rfl (d_geq rfl rfl ?_)
              refine tl_d rfl (d_move rfl ?_)
              refine tl_dg (gd_on rfl rfl rfl hb2) rfl (d_move rfl ?_)
              refine tl_dg (gd_on rfl rfl rfl hb2) rfl (d_len_str rfl (mem_at 0 rfl) Try.underlying9 (fun hl24 => ?_))
              refine tl_dg (gd_on rfl rfl rfl hb2) rfl (d_leq rfl rfl ?_)
              refine tl_d rfl (d_pick_true rfl hb2 rfl ?_)
              refine tl_d rfl (d_move rfl ?_)
              refine tl_dg (gd_on rfl rfl rfl hb4) rfl (d_move rfl ?_)
              refine tl_fact (rStr.fact (.string ⟨#[46]⟩) [46]) (str_fact rfl (by decide)) ?_
              refine tl_dg (gd_on rfl rfl rfl hb4) rfl (d_str_cmp (!decide (a0 = [46])) rfl rfl (mem_at 1 rfl) (mem_at 0 rfl) (.inr (.inl ⟨rfl, rfl⟩)) ?_)
              refine tl_d rfl (d_pick_true rfl hb4 rfl ?_)
              refine tl_d rfl (d_move rfl ?_)
              refine tl_dg (gd_on rfl rfl rfl hb6) rfl (d_move rfl ?_)
              refine tl_fact (rStr.fact (.string ⟨#[46, 46]⟩) [46, 46]) (str_fact rfl (by decide)) ?_
              refine tl_dg (gd_on rfl rfl rfl hb6) rfl (d_str_cmp (!decide (a0 = [46, 46])) rfl rfl (mem_at 2 rfl) (mem_at 0 rfl) (.inr (.inl ⟨rfl, rfl⟩)) ?_)
              refine tl_d rfl (d_pick_true rfl hb6 rfl ?_)
              refine tl_d rfl (d_move rfl ?_)
              refine tl_dg (gd_on rfl rfl rfl hb8) rfl (d_move rfl ?_)
              refine tl_gg [] (gd_on rfl rfl rfl hb8) (g_call1 rfl hfn88 (strings_Contains_ok _ _ _ _ _ hc10) (Evs.cons rfl (Evs.cons rfl Evs.nil)) (fun a w hs => ⟨(hv_fact (mem_at 2 rfl)) _ _ _ _ hs, (hv_str rfl (by decide)) _ _ _ _ hs⟩) (fun v27 => ?_))
              refine tl_bool (mem_at 0 rfl) (fun hv29 => ?_)
              subst hv29
              refine tl_dg (gd_on rfl rfl rfl hb8) rfl (d_not rfl ?_)
              refine tl_d rfl (d_pick_true rfl hb8 rfl ?_)
              refine tl_d rfl (d_move rfl ?_)
              refine tl_dg (gd_on rfl rfl rfl hb14) rfl (d_move rfl ?_)
              refine tl_gg [] (gd_on rfl rfl rfl hb14) (g_call1 rfl hfn88 (strings_Contains_ok _ _ _ _ _ hc16) (Evs.cons rfl (Evs.cons rfl Evs.nil)) (fun a w hs => ⟨(hv_fact (mem_at 3 rfl)) _ _ _ _ hs, (hv_str rfl (by decide)) _ _ _ _ hs⟩) (fun v30 => ?_))
              refine tl_bool (mem_at 0 rfl) (fun hv32 => ?_)
              subst hv32
              refine tl_dg (gd_on rfl rfl rfl hb14) rfl (d_not rfl ?_)
              refine tl_d rfl (d_pick_true rfl hb14 rfl ?_)
              refine tl_d rfl (d_assign rfl ?_)
              refine tl_nil ?_
              have hr := Option.some.inj hf; subst hr
              exact q_cut (!c15) rfl ⟨rfl, trivial⟩ trivial [] (Sel.nil) rfl
            · have hf := if_f hb14 hf
              refine t_region ?_
              refine tl_d rfl (d_move rfl ?_)
              refine tl_d rfl (d_len_str rfl (mem_at 0 rfl) Try.underlying9 (fun hl33 => ?_))
              refine tl_d rfl (d_geq rfl rfl ?_)
              refine tl_d rfl (d_move rfl ?_)
              refine tl_dg (gd_on rfl rfl rfl hb2) rfl (d_move rfl ?_)
              refine tl_dg (gd_on rfl rfl rfl hb2) rfl (d_len_str rfl (mem_at 0 rfl) Try.underlying9 (fun hl34 => ?_))
              refine tl_dg (gd_on rfl rfl rfl hb2) rfl (d_leq rfl rfl ?_)
              refine tl_d rfl (d_pick_true rfl hb2 rfl ?_)
              refine tl_d rfl (d_move rfl ?_)
              refine tl_dg (gd_on rfl rfl rfl hb4) rfl (d_move rfl ?_)
              refine tl_fact (rStr.fact (.string ⟨#[46]⟩) [46]) (str_fact rfl (by decide)) ?_
              refine tl_dg (gd_on rfl rfl rfl hb4) rfl (d_str_cmp (!decide (a0 = [46])) rfl rfl (mem_at 1 rfl) (mem_at 0 rfl) (.inr (.inl ⟨rfl, rfl⟩)) ?_)
              refine tl_d rfl (d_pick_true rfl hb4 rfl ?_)
              refine tl_d rfl (d_move rfl ?_)
              refine tl_dg (gd_on rfl rfl rfl hb6) rfl (d_move rfl ?_)
              refine tl_fact (rStr.fact (.string ⟨#[46, 46]⟩) [46, 46]) (str_fact rfl (by decide)) ?_
              refine tl_dg (gd_on rfl rfl rfl hb6) rfl (d_str_cmp (!decide (a0 = [46, 46])) rfl rfl (mem_at 2 rfl) (mem_at 0 rfl) (.inr (.inl ⟨rfl, rfl⟩)) ?_)
              refine tl_d rfl (d_pick_true rfl hb6 rfl ?_)
              refine tl_d rfl (d_move rfl ?_)
              refine tl_dg (gd_on rfl rfl rfl hb8) rfl (d_move rfl ?_)
              refine tl_gg [] (gd_on rfl rfl rfl hb8) (g_call1 rfl hfn88 (strings_Contains_ok _ _ _ _ _ hc10) (Evs.cons rfl (Evs.cons rfl Evs.nil)) (fun a w hs => ⟨(hv_fact (mem_at 2 rfl)) _ _ _ _ hs, (hv_str rfl (by decide)) _ _ _ _ hs⟩) (fun v37 => ?_))
              refine tl_bool (mem_at 0 rfl) (fun hv39 => ?_)
              subst hv39
              refine tl_dg (gd_on rfl rfl rfl hb8) rfl (d_not rfl ?_)
              refine tl_d rfl (d_pick_true rfl hb8 rfl ?_)
              refine tl_d rfl (d_move rfl ?_)
              refine tl_off (gd_off rfl rfl rfl hb14) rfl rfl ?_
              refine tl_off (gd_off rfl rfl rfl hb14) rfl rfl ?_
              refine tl_off (gd_off rfl rfl rfl hb14) rfl rfl ?_
              refine tl_d rfl (d_pick_false rfl hb14 rfl ?_)
              refine tl_d rfl (d_assign rfl ?_)
              refine tl_nil ?_
              have hr := Option.some.inj hf; subst hr
              exact q_cut false rfl ⟨rfl, trivial⟩ trivial [] (Sel.nil) rfl
          · have hf := if_f hb8 hf
            refine t_region ?_
            refine tl_d rfl (d_move rfl ?_)
            refine tl_d rfl (d_len_str rfl (mem_at 0 rfl) Try.underlying9 (fun hl40 => ?_))
            refine tl_d rfl (d_geq rfl rfl ?_)
            refine tl_d rfl (d_move rfl ?_)
            refine tl_dg (gd_on rfl rfl rfl hb2) rfl (d_move rfl ?_)
            refine tl_dg (gd_on rfl rfl rfl hb2) rfl (d_len_str rfl (mem_at 0 rfl) Try.underlying9 (fun hl41 => ?_))
            refine tl_dg (gd_on rfl rfl rfl hb2) rfl (d_leq rfl rfl ?_)
            refine tl_d rfl (d_pick_true rfl hb2 rfl ?_)
            refine tl_d rfl (d_move rfl ?_)
            refine tl_dg (gd_on rfl rfl rfl hb4) rfl (d_move rfl ?_)
            refine tl_fact (rStr.fact (.string ⟨#[46]⟩) [46]) (str_fact rfl (by decide)) ?_
            refine tl_dg (gd_on rfl rfl rfl hb4) rfl (d_str_cmp (!decide (a0 = [46])) rfl rfl (mem_at 1 rfl) (mem_at 0 rfl) (.inr (.inl ⟨rfl, rfl⟩)) ?_)
            refine tl_d rfl (d_pick_true rfl hb4 rfl ?_)
            refine tl_d rfl (d_move rfl ?_)
            refine tl_dg (gd_on rfl rfl rfl hb6) rfl (d_move rfl ?_)
            refine tl_fact (rStr.fact (.string ⟨#[46, 46]⟩) [46, 46]) (str_fact rfl (by decide)) ?_
            refine tl_dg (gd_on rfl rfl rfl hb6) rfl (d_str_cmp (!decide (a0 = [46, 46])) rfl rfl (mem_at 2 rfl) (mem_at 0 rfl) (.inr (.inl ⟨rfl, rfl⟩)) ?_)
            refine tl_d rfl (d_pick_true rfl hb6 rfl ?_)
            refine tl_d rfl (d_move rfl ?_)
            refine tl_off (gd_off rfl rfl rfl hb8) rfl rfl ?_
            refine tl_off (gd_off rfl rfl rfl hb8) rfl rfl ?_
            refine tl_off (gd_off rfl rfl rfl hb8) rfl rfl ?_
            refine tl_d rfl (d_pick_false rfl hb8 rfl ?_)
            refine tl_d rfl (d_move rfl ?_)
            refine tl_off (gd_off rfl rfl rfl rfl) rfl rfl ?_
            refine tl_off (gd_off rfl rfl rfl rfl) rfl rfl ?_
            refine tl_off (gd_off rfl rfl rfl rfl) rfl rfl ?_
            refine tl_d rfl (d_pick_false rfl rfl rfl ?_)
            refine tl_d rfl (d_assign rfl ?_)
            refine tl_nil ?_
            have hr := Option.some.inj hf; subst hr
            exact q_cut false rfl ⟨rfl, trivial⟩ trivial [] (Sel.nil) rfl
        · have hf := if_f hb6 hf
          refine t_region ?_
          refine tl_d rfl (d_move rfl ?_)
          refine tl_d rfl (d_len_str rfl (mem_at 0 rfl) Try.underlying9 (fun hl44 => ?_))
          refine tl_d rfl (d_geq rfl rfl ?_)
          refine tl_d rfl (d_move rfl ?_)
          refine tl_dg (gd_on rfl rfl rfl hb2) rfl (d_move rfl ?_)
          refine tl_dg (gd_on rfl rfl rfl hb2) rfl (d_len_str rfl (mem_at 0 rfl) Try.underlying9 (fun hl45 => ?_))
          refine tl_dg (gd_on rfl rfl rfl hb2) rfl (d_leq rfl rfl ?_)
          refine tl_d rfl (d_pick_true rfl hb2 rfl ?_)
          refine tl_d rfl (d_move rfl ?_)
          refine tl_dg (gd_on rfl rfl rfl hb4) rfl (d_move rfl ?_)
          refine tl_fact (rStr.fact (.string ⟨#[46]⟩) [46]) (str_fact rfl (by decide)) ?_
          refine tl_dg (gd_on rfl rfl rfl hb4) rfl (d_str_cmp (!decide (a0 = [46])) rfl rfl (mem_at 1 rfl) (mem_at 0 rfl) (.inr (.inl ⟨rfl, rfl⟩)) ?_)
          refine tl_d rfl (d_pick_true rfl hb4 rfl ?_)
          refine tl_d rfl (d_move rfl ?_)
          refine tl_off (gd_off rfl rfl rfl hb6) rfl rfl ?_
          refine tl_off (gd_off rfl rfl rfl hb6) rfl rfl ?_
          refine tl_d rfl (d_pick_false rfl hb6 rfl ?_)
          refine tl_d rfl (d_move rfl ?_)
          refine tl_off (gd_off rfl rfl rfl rfl) rfl rfl ?_
          refine tl_off (gd_off rfl rfl rfl rfl) rfl rfl ?_
          refine tl_off (gd_off rfl rfl rfl rfl) rfl rfl ?_
          refine tl_d rfl (d_pick_false rfl rfl rfl ?_)
          refine tl_d rfl (d_move rfl ?_)
          refine tl_off (gd_off rfl rfl rfl rfl) rfl rfl ?_
          refine tl_off (gd_off rfl rfl rfl rfl) rfl rfl ?_
          refine tl_off (gd_off rfl rfl rfl rfl) rfl rfl ?_
          refine tl_d rfl (d_pick_false rfl rfl rfl ?_)
          refine tl_d rfl (d_assign rfl ?_)
          refine tl_nil ?_
          have hr := Option.some.inj hf; subst hr
          exact q_cut false rfl ⟨rfl, trivial⟩ trivial [] (Sel.nil) rfl
      · have hf := if_f hb4 hf
        refine t_region ?_
        refine tl_d rfl (d_move rfl ?_)
        refine tl_d rfl (d_len_str rfl (mem_at 0 rfl) Try.underlying9 (fun hl47 => ?_))
        refine tl_d rfl (d_geq rfl rfl ?_)
        refine tl_d rfl (d_move rfl ?_)
        refine tl_dg (gd_on rfl rfl rfl hb2) rfl (d_move rfl ?_)
        refine tl_dg (gd_on rfl rfl rfl hb2) rfl (d_len_str rfl (mem_at 0 rfl) Try.underlying9 (fun hl48 => ?_))
        refine tl_dg (gd_on rfl rfl rfl hb2) rfl (d_leq rfl rfl ?_)
        refine tl_d rfl (d_pick_true rfl hb2 rfl ?_)
        refine tl_d rfl (d_move rfl ?_)
        refine tl_off (gd_off rfl rfl rfl hb4) rfl rfl ?_
        refine tl_off (gd_off rfl rfl rfl hb4) rfl rfl ?_
        refine tl_d rfl (d_pick_false rfl hb4 rfl ?_)
        refine tl_d rfl (d_move rfl ?_)
        refine tl_off (gd_off rfl rfl rfl rfl) rfl rfl ?_
        refine tl_off (gd_off rfl rfl rfl rfl) rfl rfl ?_
        refine tl_d rfl (d_pick_false rfl rfl rfl ?_)
        refine tl_d rfl (d_move rfl ?_)
        refine tl_off (gd_off rfl rfl rfl rfl) rfl rfl ?_
        refine tl_off (gd_off rfl rfl rfl rfl) rfl rfl ?_
        refine tl_off (gd_off rfl rfl rfl rfl) rfl rfl ?_
        refine tl_d rfl (d_pick_false rfl rfl rfl ?_)
        refine tl_d rfl (d_move rfl ?_)
        refine tl_off (gd_off rfl rfl rfl rfl) rfl rfl ?_
        refine tl_off (gd_off rfl rfl rfl rfl) rfl rfl ?_
        refine tl_off (gd_off rfl rfl rfl rfl) rfl rfl ?_
        refine tl_d rfl (d_pick_false rfl rfl rfl ?_)
        refine tl_d rfl (d_assign rfl ?_)
        refine tl_nil ?_
        have hr := Option.some.inj hf; subst hr
        exact q_cut false rfl ⟨rfl, trivial⟩ trivial [] (Sel.nil) rfl
    · have hf := if_f hb2 hf
      refine t_region ?_
      refine tl_d rfl (d_move rfl ?_)
      refine tl_d rfl (d_len_str rfl (mem_at 0 rfl) Try.underlying9 (fun hl49 => ?_))
      refine tl_d rfl (d_geq rfl rfl ?_)
      refine tl_d rfl (d_move rfl ?_)
      refine tl_off (gd_off rfl rfl rfl hb2) rfl rfl ?_
      refine tl_off (gd_off rfl rfl rfl hb2) rfl rfl ?_
      refine tl_off (gd_off rfl rfl rfl hb2) rfl rfl ?_
      refine tl_d rfl (d_pick_false rfl hb2 rfl ?_)
      refine tl_d rfl (d_move rfl ?_)
      refine tl_off (gd_off rfl rfl rfl rfl) rfl rfl ?_
      refine tl_off (gd_off rfl rfl rfl rfl) rfl rfl ?_
      refine tl_d rfl (d_pick_false rfl rfl rfl ?_)
      refine tl_d rfl (d_move rfl ?_)
      refine tl_off (gd_off rfl rfl rfl rfl) rfl rfl ?_
      refine tl_off (gd_off rfl rfl rfl rfl) rfl rfl ?_
      refine tl_d rfl (d_pick_false rfl rfl rfl ?_)
      refine tl_d rfl (d_move rfl ?_)
      refine tl_off (gd_off rfl rfl rfl rfl) rfl rfl ?_
      refine tl_off (gd_off rfl rfl rfl rfl) rfl rfl ?_
      refine tl_off (gd_off rfl rfl rfl rfl) rfl rfl ?_
      refine tl_d rfl (d_pick_false rfl rfl rfl ?_)
      refine tl_d rfl (d_move rfl ?_)
      refine tl_off (gd_off rfl rfl rfl rfl) rfl rfl ?_
      refine tl_off (gd_off rfl rfl rfl rfl) rfl rfl ?_
      refine tl_off (gd_off rfl rfl rfl rfl) rfl rfl ?_
      refine tl_d rfl (d_pick_false rfl rfl rfl ?_)
      refine tl_d rfl (d_assign rfl ?_)
      refine tl_nil ?_
      have hr := Option.some.inj hf; subst hr
      exact q_cut false rfl ⟨rfl, trivial⟩ trivial [] (Sel.nil) rfl
  rintro s20 rfl
  refine q_then_code ?_
  refine t_ret ?_
  have hr := Option.some.inj hf; subst hr
  refine q_ret (post := fun w w' m v => rBool.val w' m v s20) hR _ (.inl rfl) (fun a w hs => ?_)
  exact ⟨_, run_results rfl (RvOk.cons (rv_tmp hs rfl) RvOk.nil), (hs.hv hv_bool)⟩

def folder_May.l0 (a0 : (List Api_Item)) : Nat → Int → Option (Sum (Bool) (Unit))
  | 0, _ => none
  | k + 1, s6 => (if (decide (s6 < ((a0).length : Int))) = true then (need (0 ≤ s6 ∧ s6 < ((a0).length : Int)) (((folder_MayName.f ((((a0).getD (s6).toNat rApi_Item.zeroD)).Name)).bind fun c25 => ((if (!c25) = true then (some (!c25)) else ((if (decide ((0 : Int) < s6)) = true then (need (0 ≤ (IntKind.i64.wrap (s6 - (1 : Int))) ∧ (IntKind.i64.wrap (s6 - (1 : Int))) < ((a0).length : Int)) ((some (lexLt ((((a0).getD (s6).toNat rApi_Item.zeroD)).Name) (((a0).getD ((IntKind.i64.wrap (s6 - (1 : Int)))).toNat rApi_Item.zeroD)).Name || decide (((((a0).getD (s6).toNat rApi_Item.zeroD)).Name) = (((a0).getD ((IntKind.i64.wrap (s6 - (1 : Int)))).toNat rApi_Item.zeroD)).Name))))) else (some false))).bind fun s49 => ((if s49 = true then (some s49) else (some (decide (((((a0).getD (s6).toNat rApi_Item.zeroD)).Size) < (0 : Int)))))).bind fun s60 => (some s60))).bind fun s35 => (if s35 = true then (some (.inl false)) else ((if (!decide (((((a0).getD (s6).toNat rApi_Item.zeroD)).Kind) = (1 : Int))) = true then (if (!decide (((((a0).getD (s6).toNat rApi_Item.zeroD)).Kind) = (2 : Int))) = true then (some true) else (some (!decide (((((a0).getD (s6).toNat rApi_Item.zeroD)).Size) = (0 : Int))))) else (some false))).bind fun s72 => (if s72 = true then (some (.inl false)) else (folder_May.l0 a0 k (IntKind.i64.wrap (s6 + (1 : Int))))))))) else (some (.inr ())))
def folder_May.f (k : Nat) (a0 : (List Api_Item)) : Option (Bool) := (if (decide ((64 : Int) < ((a0).length : Int))) = true then (some false) else (folder_May.l0 a0 k (0 : Int)).bind fun o82 => (match o82 with | .inl r => some r | .inr _ => (some true)))
set_option maxRecDepth 100000 in
set_option maxHeartbeats 2970000 in
theorem folder_May_ok (k : Nat) (a0 : (List Api_Item)) (u0 : Value) (r : Bool) (hf : folder_May.f k a0 = some r) : Cf.FnX true Try.prog 63 [u0] (fun w m => (rSl 64 rApi_Item).val w m u0 a0) (fun w w' m v => rBool.val w' m v r) := by
  unfold folder_May.f at hf
  refine fn_of Try.func63 rfl (Nat.le_of_ble_eq_true rfl) [(rSl 64 rApi_Item).fact u0 a0] (fun w m h f hf => ?_) ?_
  · simp at hf; obtain rfl := hf; exact h
  intro w0 m0 R hR
  refine t_seq ?_
  refine t_region ?_
  refine tl_d rfl (d_assign rfl ?_)
  refine tl_nil ?_
  refine q_then_code ?_
  refine t_seq ?_
  refine t_seq ?_
  refine t_region ?_
  refine tl_d rfl (d_move rfl ?_)
  refine tl_d rfl (d_len_sl rfl (mem_at 0 rfl) Try.underlying52 (fun hl2 _ => ?_))
  refine tl_d rfl (d_gtr rfl rfl ?_)
  refine tl_nil ?_
  refine q_then_code ?_
  refine t_cond rfl (fun hb3 => ?_) (fun hb3 => ?_)
  · have hf := if_t hb3 hf
    refine t_seq ?_
    refine t_region ?_
    refine tl_d rfl (d_assign rfl ?_)
    refine tl_nil ?_
    refine q_then_code ?_
    refine t_ret ?_
    refine q_then_ret ?_
    have hr := Option.some.inj hf; subst hr
    refine q_ret (post := fun w w' m v => rBool.val w' m v false) hR _ (.inl rfl) (fun a w hs => ?_)
    exact ⟨_, run_results rfl (RvOk.cons (rv_tmp hs rfl) RvOk.nil), (hs.hv hv_bool)⟩
  · have hf := if_f hb3 hf
    refine t_skip ?_
    refine q_then_code ?_
    refine t_seq ?_
    refine t_seq ?_
    refine t_region ?_
    refine tl_d rfl (d_move rfl ?_)
    refine tl_d rfl (d_len_sl rfl (mem_at 0 rfl) Try.underlying52 (fun hl5 _ => ?_))
    refine tl_d rfl (d_move rfl ?_)
    refine tl_nil ?_
    refine q_then_code ?_
    refine t_block ?_
    obtain ⟨o82, ho83, hf⟩ := bind_some hf
    refine t_loop (X := Int) (O := Sum (Bool) (Unit)) (fun kl x => match x with | s6 => folder_May.l0 a0 kl s6) o82 (fun x => match x with | s6 => (([(0, u0), (8, u0), (9, (.int .i64 ((a0).length : Int))), (10, .int .i64 s6)], [(rSl 64 rApi_Item).fact u0 a0], []) : Sym)) (fun x => match x with | s6 => IntKind.i64.wrap s6 = s6) k (0 : Int) ho83 rfl ⟨rfl, ⟨rfl, ⟨rfl, ⟨rfl, trivial⟩⟩⟩⟩ ⟨mem_at 0 rfl, trivial⟩ [] (Sel.nil) rfl ?_
    clear ho83
    rintro k10 s6 hw_s6 hk9
    have hout7 := hf; clear hf
    obtain ⟨kq8, rfl⟩ : ∃ q, k10 = q + 1 := by cases k10 with | zero => cases hk9 | succ q => exact ⟨q, rfl⟩
    have hf := hk9
    clear hk9; dsimp only [folder_May.l0] at hf
    refine t_seq ?_
    refine t_region ?_
    refine tl_d rfl (d_lss rfl rfl ?_)
    refine tl_nil ?_
    refine q_then_code ?_
    refine t_seq ?_
    refine t_cond rfl (fun hb11 => ?_) (fun hb11 => ?_)
    · have hf := if_t hb11 hf
      refine t_skip ?_
      refine q_then_code ?_
      refine t_seq ?_
      refine t_block ?_
      refine t_seq ?_
      obtain ⟨hn12, hf⟩ := need_some hf
      refine t_region ?_
      refine tl_d rfl (d_move rfl ?_)
      refine tl_d rfl (d_index_sl rfl (mem_at 0 rfl) rfl Try.underlying52 ty54 hn12 (fun p18 => ?_))
      refine tl_d rfl (d_load_place rfl (mem_at 0 rfl) ty54 (fun v20 => ?_))
      refine tl_g [] rfl (g_alloc rfl ty54 (fun b22 => ?_))
      refine tl_d rfl (d_assign rfl ?_)
      refine tl_g _ rfl (g_store_box 0 rfl rfl rfl (Fld.self rApi_Item) trivial (hv_fact (mem_at 0 rfl)) ty54 (List.mem_singleton_self _) ?_)
      refine tl_nil ?_
      refine q_then_code ?_
      refine t_block ?_
      refine t_seq ?_
      refine t_seq ?_
      obtain ⟨c25, hc26, hf⟩ := bind_some hf
      refine t_region ?_
      refine tl_d rfl (d_field_own rfl fo54_0 ?_)
      refine tl_d rfl (d_load_box 0 rfl rfl (Fld.at0 fl_Api_Item_Name) trivial ty9 rfl (fun v30 => ?_))
      refine tl_g [] rfl (g_call1 rfl hfn81 (folder_MayName_ok _ _ _ hc26) (Evs.cons rfl Evs.nil) (fun a w hs => (hv_fact (mem_at 0 rfl)) _ _ _ _ hs) (fun v32 => ?_))
      refine tl_bool (mem_at 0 rfl) (fun hv34 => ?_)
      subst hv34
      refine tl_d rfl (d_not rfl ?_)
      refine tl_d rfl (d_assign rfl ?_)
      refine tl_nil ?_
      refine q_then_code ?_
      obtain ⟨o36, ho37, hf⟩ := bind_some hf
      refine t_cut (X := Bool) (fun x => match x with | s35 => (([(0, u0), (4, .pointer (some ⟨b22, 0, none⟩)), (8, u0), (9, (.int .i64 ((a0).length : Int))), (10, (.int .i64 s6)), (15, .bool s35)], [(rSl 64 rApi_Item).fact u0 a0], [Own.box b22 rApi_Item ((a0).getD (s6).toNat rApi_Item.zeroD)]) : Sym)) (fun x => match x with | s35 => s35 = o36) ?_ ?_
      · have hf := ho37
        clear ho37
        refine t_cond rfl (fun hb38 => ?_) (fun hb38 => ?_)
        · have hf := if_t hb38 hf
          refine t_skip ?_
          have hr := Option.some.inj hf; subst hr
          exact q_cut (!c25) rfl ⟨rfl, ⟨rfl, ⟨rfl, ⟨rfl, ⟨rfl, ⟨rfl, trivial⟩⟩⟩⟩⟩⟩ ⟨mem_at 4 rfl, trivial⟩ [0] (Sel.cons rfl Sel.nil) rfl
        · have hf := if_f hb38 hf
          refine t_seq ?_
          obtain ⟨o50, ho51, hf⟩ := bind_some hf
          refine t_cut (X := Bool) (fun x => match x with | s49 => (([(0, u0), (4, .pointer (some ⟨b22, 0, none⟩)), (8, u0), (9, (.int .i64 ((a0).length : Int))), (10, (.int .i64 s6)), (15, .bool s49)], [(rSl 64 rApi_Item).fact u0 a0], [Own.box b22 rApi_Item ((a0).getD (s6).toNat rApi_Item.zeroD)]) : Sym)) (fun x => match x with | s49 => s49 = o50) ?_ ?_
          · have hf := ho51; clear ho51
            rcases bool_tf (decide ((0 : Int) < s6)) with hb39 | hb39
            · have hf := if_t hb39 hf
              obtain ⟨hn42, hf⟩ := need_some hf
              refine t_any (n := 14) [] mixed ⟨by kernel_rfl, .inl rfl⟩ (np_cut (np_then (np_cut (np_then (np_block (np_block (np_then (np_then (np_block (np_then np_body)))))))))) ?_
              refine ta_take (i := 0) rfl (by kernel_rfl) gd_none (d_move rfl ?_)
              refine ta_take (i := 1) rfl (by kernel_rfl) gd_none (d_gtr rfl rfl ?_)
              refine ta_take (i := 2) rfl (by kernel_rfl) gd_none (d_move rfl ?_)
              refine ta_take (i := 3) rfl (by kernel_rfl) (gd_on rfl rfl rfl hb39) (d_field_own rfl fo54_0 ?_)
              refine ta_take (i := 4) rfl (by kernel_rfl) (gd_on rfl rfl rfl hb39) (d_load_box 0 rfl rfl (Fld.at0 fl_Api_Item_Name) trivial ty9 rfl (fun v52 => ?_))
              refine ta_take (i := 5) rfl (by kernel_rfl) (gd_on rfl rfl rfl hb39) (d_move rfl ?_)
              refine ta_take (i := 6) rfl (by kernel_rfl) (gd_on rfl rfl rfl hb39) (d_move rfl ?_)
              refine ta_take (i := 7) rfl (by kernel_rfl) (gd_on rfl rfl rfl hb39) (d_sub rfl rfl ?_)
              refine ta_take (i := 8) rfl (by kernel_rfl) (gd_on rfl rfl rfl hb39) (d_index_sl rfl (mem_at 5 rfl) rfl Try.underlying52 ty54 hn42 (fun p54 => ?_))
              refine ta_take (i := 9) rfl (by kernel_rfl) (gd_on rfl rfl rfl hb39) (d_field_place rfl (mem_at 0 rfl) fo54_0 fl_Api_Item_Name trivial (fun p56 => ?_))
              refine ta_take (i := 10) rfl (by kernel_rfl) (gd_on rfl rfl rfl hb39) (d_load_place rfl (mem_at 0 rfl) ty9 (fun v58 => ?_))
              refine ta_take (i := 11) rfl (by kernel_rfl) (gd_on rfl rfl rfl hb39) (d_str_cmp (lexLt ((((a0).getD (s6).toNat rApi_Item.zeroD)).Name) (((a0).getD ((IntKind.i64.wrap (s6 - (1 : Int)))).toNat rApi_Item.zeroD)).Name || decide (((((a0).getD (s6).toNat rApi_Item.zeroD)).Name) = (((a0).getD ((IntKind.i64.wrap (s6 - (1 : Int)))).toNat rApi_Item.zeroD)).Name)) rfl rfl (mem_at 3 rfl) (mem_at 0 rfl) (.inr (.inr (.inr (.inl ⟨rfl, rfl⟩)))) ?_)
              refine ta_take (i := 12) rfl (by kernel_rfl) gd_none (d_pick_true rfl hb39 rfl ?_)
              refine ta_take (i := 13) rfl (by kernel_rfl) gd_none (d_assign rfl ?_)
              refine ta_done (by kernel_rfl) ?_
              have hr := Option.some.inj hf; subst hr
              exact q_cut (lexLt ((((a0).getD (s6).toNat rApi_Item.zeroD)).Name) (((a0).getD ((IntKind.i64.wrap (s6 - (1 : Int)))).toNat rApi_Item.zeroD)).Name || decide (((((a0).getD (s6).toNat rApi_Item.zeroD)).Name) = (((a0).getD ((IntKind.i64.wrap (s6 - (1 : Int)))).toNat rApi_Item.zeroD)).Name)) rfl ⟨rfl, ⟨rfl, ⟨rfl, ⟨rfl, ⟨rfl, ⟨rfl, trivial⟩⟩⟩⟩⟩⟩ ⟨mem_at 8 rfl, trivial⟩ [0] (Sel.cons rfl Sel.nil) rfl
            · have hf := if_f hb39 hf
              refine t_any (n := 14) [] mixed ⟨by kernel_rfl, .inl rfl⟩ (np_cut (np_then (np_cut (np_then (np_block (np_block (np_then (np_then (np_block (np_then np_body)))))))))) ?_
              refine ta_take (i := 0) rfl (by kernel_rfl) gd_none (d_move rfl ?_)
              refine ta_take (i := 1) rfl (by kernel_rfl) gd_none (d_gtr rfl rfl ?_)
              refine ta_take (i := 2) rfl (by kernel_rfl) gd_none (d_move rfl ?_)
              refine ta_off (i := 3) rfl (by kernel_rfl) (gd_off rfl rfl rfl hb39) ?_
              refine ta_off (i := 4) rfl (by kernel_rfl) (gd_off rfl rfl rfl hb39) ?_
              refine ta_off (i := 5) rfl (by kernel_rfl) (gd_off rfl rfl rfl hb39) ?_
              refine ta_off (i := 6) rfl (by kernel_rfl) (gd_off rfl rfl rfl hb39) ?_
              refine ta_off (i := 7) rfl (by kernel_rfl) (gd_off rfl rfl rfl hb39) ?_
              refine ta_off (i := 8) rfl (by kernel_rfl) (gd_off rfl rfl rfl hb39) ?_
              refine ta_off (i := 9) rfl (by kernel_rfl) (gd_off rfl rfl rfl hb39) ?_
              refine ta_off (i := 10) rfl (by kernel_rfl) (gd_off rfl rfl rfl hb39) ?_
              refine ta_off (i := 11) rfl (by kernel_rfl) (gd_off rfl rfl rfl hb39) ?_
              refine ta_take (i := 12) rfl (by kernel_rfl) gd_none (d_pick_false rfl hb39 rfl ?_)
              refine ta_take (i := 13) rfl (by kernel_rfl) gd_none (d_assign rfl ?_)
              refine ta_done (by kernel_rfl) ?_
              have hr := Option.some.inj hf; subst hr
              exact q_cut false rfl ⟨rfl, ⟨rfl, ⟨rfl, ⟨rfl, ⟨rfl, ⟨rfl, trivial⟩⟩⟩⟩⟩⟩ ⟨mem_at 4 rfl, trivial⟩ [0] (Sel.cons rfl Sel.nil) rfl
          rintro s49 rfl
          refine q_then_code ?_
          obtain ⟨o61, ho62, hf⟩ := bind_some hf
          refine t_cut (X := Bool) (fun x => match x with | s60 => (([(0, u0), (4, .pointer (some ⟨b22, 0, none⟩)), (8, u0), (9, (.int .i64 ((a0).length : Int))), (10, (.int .i64 s6)), (15, .bool s60)], [(rSl 64 rApi_Item).fact u0 a0], [Own.box b22 rApi_Item ((a0).getD (s6).toNat rApi_Item.zeroD)]) : Sym)) (fun x => match x with | s60 => s60 = o61) ?_ ?_
          · have hf := ho62
            clear ho62
            refine t_cond rfl (fun hb63 => ?_) (fun hb63 => ?_)
            · have hf := if_t hb63 hf
              refine t_skip ?_
              have hr := Option.some.inj hf; subst hr
              exact q_cut s49 rfl ⟨rfl, ⟨rfl, ⟨rfl, ⟨rfl, ⟨rfl, ⟨rfl, trivial⟩⟩⟩⟩⟩⟩ ⟨mem_at 0 rfl, trivial⟩ [0] (Sel.cons rfl Sel.nil) rfl
            · have hf := if_f hb63 hf
              refine t_region ?_
              refine tl_d rfl (d_field_own rfl fo54_3 ?_)
              refine tl_d rfl (d_load_box_int 0 rfl rfl (Fld.at0 fl_Api_Item_Size) trivial ty2 rfl (fun hw65 => ?_))
              refine tl_d rfl (d_lss rfl rfl ?_)
              refine tl_d rfl (d_assign rfl ?_)
              refine tl_nil ?_
              have hr := Option.some.inj hf; subst hr
              exact q_cut (decide (((((a0).getD (s6).toNat rApi_Item.zeroD)).Size) < (0 : Int))) rfl ⟨rfl, ⟨rfl, ⟨rfl, ⟨rfl, ⟨rfl, ⟨rfl, trivial⟩⟩⟩⟩⟩⟩ ⟨mem_at 0 rfl, trivial⟩ [0] (Sel.cons rfl Sel.nil) rfl
          rintro s60 rfl
          have hr := Option.some.inj hf; subst hr
          exact q_cut s60 rfl ⟨rfl, ⟨rfl, ⟨rfl, ⟨rfl, ⟨rfl, ⟨rfl, trivial⟩⟩⟩⟩⟩⟩ ⟨mem_at 0 rfl, trivial⟩ [0] (Sel.cons rfl Sel.nil) rfl
      rintro s35 rfl
      refine q_then_code ?_
      refine t_cond rfl (fun hb66 => ?_) (fun hb66 => ?_)
      · have hf := if_t hb66 hf
        refine t_seq ?_
        refine t_region ?_
        refine tl_d rfl (d_assign rfl ?_)
        refine tl_nil ?_
        refine q_then_code ?_
        refine t_ret ?_
        refine q_block_ret ?_
        refine q_block_ret ?_
        refine q_then_ret ?_
        refine q_then_ret ?_
        have hr := Option.some.inj hf; try subst hr
        have hf := hout7
        refine q_block_ret ?_
        refine q_then_ret ?_
        have hr := Option.some.inj hf; subst hr
        refine q_ret (post := fun w w' m v => rBool.val w' m v false) hR _ (.inl rfl) (fun a w hs => ?_)
        exact ⟨_, run_results rfl (RvOk.cons (rv_tmp hs rfl) RvOk.nil), (hs.hv hv_bool)⟩
      · have hf := if_f hb66 hf
        refine t_seq ?_
        obtain ⟨o73, ho74, hf⟩ := bind_some hf
        refine t_cut (X := Bool) (fun x => match x with | s72 => (([(0, u0), (8, u0), (9, (.int .i64 ((a0).length : Int))), (10, (.int .i64 s6)), (36, .bool s72)], [(rSl 64 rApi_Item).fact u0 a0], []) : Sym)) (fun x => match x with | s72 => s72 = o73) ?_ ?_
        · have hf := ho74; clear ho74
          rcases bool_tf (!decide (((((a0).getD (s6).toNat rApi_Item.zeroD)).Kind) = (1 : Int))) with hb68 | hb68
          · have hf := if_t hb68 hf
            rcases bool_tf (!decide (((((a0).getD (s6).toNat rApi_Item.zeroD)).Kind) = (2 : Int))) with hb70 | hb70
            · have hf := if_t hb70 hf
              refine t_region ?_
              refine tl_d rfl (d_field_own rfl fo54_1 ?_)
              refine tl_d rfl (d_load_box_int 0 rfl rfl (Fld.at0 fl_Api_Item_Kind) trivial ty3 rfl (fun hw75 => ?_))
              refine tl_d rfl (d_neq rfl rfl ?_)
              refine tl_d rfl (d_move rfl ?_)
              refine tl_dg (gd_on rfl rfl rfl hb68) rfl (d_field_own rfl fo54_1 ?_)
              refine tl_dg (gd_on rfl rfl rfl hb68) rfl (d_load_box_int 0 rfl rfl (Fld.at0 fl_Api_Item_Kind) trivial ty3 rfl (fun hw76 => ?_))
              refine tl_dg (gd_on rfl rfl rfl hb68) rfl (d_neq rfl rfl ?_)
              refine tl_dg (gd_on rfl rfl rfl hb68) rfl (d_move rfl ?_)
              refine tl_off (gd_off rfl rfl rfl hb70) rfl rfl ?_
              refine tl_off (gd_off rfl rfl rfl hb70) rfl rfl ?_
              refine tl_off (gd_off rfl rfl rfl hb70) rfl rfl ?_
              refine tl_dg (gd_on rfl rfl rfl hb68) rfl (d_pick_true rfl hb70 rfl ?_)
              refine tl_d rfl (d_pick_true rfl hb68 rfl ?_)
              refine tl_d rfl (d_assign rfl ?_)
              refine tl_nil ?_
              have hr := Option.some.inj hf; subst hr
              exact q_cut true rfl ⟨rfl, ⟨rfl, ⟨rfl, ⟨rfl, ⟨rfl, trivial⟩⟩⟩⟩⟩ ⟨mem_at 0 rfl, trivial⟩ [] (Sel.nil) rfl
            · have hf := if_f hb70 hf
              refine t_region ?_
              refine tl_d rfl (d_field_own rfl fo54_1 ?_)
              refine tl_d rfl (d_load_box_int 0 rfl rfl (Fld.at0 fl_Api_Item_Kind) trivial ty3 rfl (fun hw77 => ?_))
              refine tl_d rfl (d_neq rfl rfl ?_)
              refine tl_d rfl (d_move rfl ?_)
              refine tl_dg (gd_on rfl rfl rfl hb68) rfl (d_field_own rfl fo54_1 ?_)
              refine tl_dg (gd_on rfl rfl rfl hb68) rfl (d_load_box_int 0 rfl rfl (Fld.at0 fl_Api_Item_Kind) trivial ty3 rfl (fun hw78 => ?_))
              refine tl_dg (gd_on rfl rfl rfl hb68) rfl (d_neq rfl rfl ?_)
              refine tl_dg (gd_on rfl rfl rfl hb68) rfl (d_move rfl ?_)
              refine tl_dg (gd_on rfl rfl rfl hb70) rfl (d_field_own rfl fo54_3 ?_)
              refine tl_dg (gd_on rfl rfl rfl hb70) rfl (d_load_box_int 0 rfl rfl (Fld.at0 fl_Api_Item_Size) trivial ty2 rfl (fun hw79 => ?_))
              refine tl_dg (gd_on rfl rfl rfl hb70) rfl (d_neq rfl rfl ?_)
              refine tl_dg (gd_on rfl rfl rfl hb68) rfl (d_pick_false rfl hb70 rfl ?_)
              refine tl_d rfl (d_pick_true rfl hb68 rfl ?_)
              refine tl_d rfl (d_assign rfl ?_)
              refine tl_nil ?_
              have hr := Option.some.inj hf; subst hr
              exact q_cut (!decide (((((a0).getD (s6).toNat rApi_Item.zeroD)).Size) = (0 : Int))) rfl ⟨rfl, ⟨rfl, ⟨rfl, ⟨rfl, ⟨rfl, trivial⟩⟩⟩⟩⟩ ⟨mem_at 0 rfl, trivial⟩ [] (Sel.nil) rfl
          · have hf := if_f hb68 hf
            refine t_region ?_
            refine tl_d rfl (d_field_own rfl fo54_1 ?_)
            refine tl_d rfl (d_load_box_int 0 rfl rfl (Fld.at0 fl_Api_Item_Kind) trivial ty3 rfl (fun hw80 => ?_))
            refine tl_d rfl (d_neq rfl rfl ?_)
            refine tl_d rfl (d_move rfl ?_)
            refine tl_off (gd_off rfl rfl rfl hb68) rfl rfl ?_
            refine tl_off (gd_off rfl rfl rfl hb68) rfl rfl ?_
            refine tl_off (gd_off rfl rfl rfl hb68) rfl rfl ?_
            refine tl_off (gd_off rfl rfl rfl hb68) rfl rfl ?_
            refine tl_off (gd_offu rfl rfl rfl) rfl rfl ?_
            refine tl_off (gd_offu rfl rfl rfl) rfl rfl ?_
            refine tl_off (gd_offu rfl rfl rfl) rfl rfl ?_
            refine tl_off (gd_off rfl rfl rfl hb68) rfl rfl ?_
            refine tl_d rfl (d_pick_false rfl hb68 rfl ?_)
            refine tl_d rfl (d_assign rfl ?_)
            refine tl_nil ?_
            have hr := Option.some.inj hf; subst hr
            exact q_cut false rfl ⟨rfl, ⟨rfl, ⟨rfl, ⟨rfl, ⟨rfl, trivial⟩⟩⟩⟩⟩ ⟨mem_at 0 rfl, trivial⟩ [] (Sel.nil) rfl
        rintro s72 rfl
        refine q_then_code ?_
        refine t_cond rfl (fun hb81 => ?_) (fun hb81 => ?_)
        · have hf := if_t hb81 hf
          refine t_seq ?_
          refine t_region ?_
          refine tl_d rfl (d_assign rfl ?_)
          refine tl_nil ?_
          refine q_then_code ?_
          refine t_ret ?_
          refine q_block_ret ?_
          refine q_block_ret ?_
          refine q_then_ret ?_
          refine q_then_ret ?_
          have hr := Option.some.inj hf; try subst hr
          have hf := hout7
          refine q_block_ret ?_
          refine q_then_ret ?_
          have hr := Option.some.inj hf; subst hr
          refine q_ret (post := fun w w' m v => rBool.val w' m v false) hR _ (.inl rfl) (fun a w hs => ?_)
          exact ⟨_, run_results rfl (RvOk.cons (rv_tmp hs rfl) RvOk.nil), (hs.hv hv_bool)⟩
        · have hf := if_f hb81 hf
          refine t_skip ?_
          refine q_block_normal ?_
          refine q_block_normal ?_
          refine q_then_code ?_
          refine t_region ?_
          refine tl_d rfl (d_add rfl rfl ?_)
          refine tl_d rfl (d_move rfl ?_)
          refine tl_nil ?_
          exact q_round kq8 (IntKind.i64.wrap (s6 + (1 : Int))) (Nat.lt_succ_self kq8) (wrap_wrap _ _) hf ⟨rfl, ⟨rfl, ⟨rfl, ⟨rfl, trivial⟩⟩⟩⟩ ⟨mem_at 0 rfl, trivial⟩ [] (Sel.nil) rfl
    · have hf := if_f hb11 hf
      refine t_exit ?_
      refine q_then_exit ?_
      refine q_then_exit ?_
      have hr := Option.some.inj hf; try subst hr
      have hf := hout7
      try dsimp only at hf
      refine q_block_hit ?_
      refine q_then_code ?_
      refine t_seq ?_
      refine t_region ?_
      refine tl_d rfl (d_assign rfl ?_)
      refine tl_nil ?_
      refine q_then_code ?_
      refine t_ret ?_
      have hr := Option.some.inj hf; subst hr
      refine q_ret (post := fun w w' m v => rBool.val w' m v true) hR _ (.inl rfl) (fun a w hs => ?_)
      exact ⟨_, run_results rfl (RvOk.cons (rv_tmp hs rfl) RvOk.nil), (hs.hv hv_bool)⟩

def folder_Take.l0 (c26 : Int × Int × Int) : Nat → (List Int) → (List Api_Item) → Int → Option (Sum ((List Api_Item) × Int) ((List Int) × (List Api_Item)))
  | 0, _, _, _ => none
  | k + 1, s62, s65, s67 => (if (decide (s67 < c26.1)) = true then ((folder_item.f k s62).bind fun c73 => (if (!c73.2.2) = true then (some (.inl (([] : (List Api_Item)), (4 : Int)))) else (need (fits 64 ((s65).length + ([c73.1]).length)) ((folder_Take.l0 c26 k c73.2.1 (s65 ++ [c73.1]) (IntKind.u64.wrap (s67 + (1 : Int)))))))) else (some (.inr (s62, s65))))
def folder_Take.f (k : Nat) (a0 : (List Int)) : Option ((List Api_Item) × Int) := ((if (decide ((4000 : Int) < ((a0).length : Int))) = true then (some true) else ((strings_HasPrefix.f a0 [68, 49]).bind fun c5 => (some (!c5))))).bind fun s10 => (if s10 = true then (some (([] : (List Api_Item)), (4 : Int))) else (need (0 ≤ (2 : Int) ∧ (2 : Int) ≤ ((a0).length : Int) ∧ ((a0).length : Int) ≤ ((a0).length : Int)) (((octet_TakeCount.f k (sub a0 (2 : Int) ((a0).length : Int))).bind fun c26 => ((if (!decide (c26.2.2 = (0 : Int))) = true then (some true) else (some (decide ((64 : Int) < c26.1))))).bind fun s53 => (if s53 = true then (some (([] : (List Api_Item)), (4 : Int))) else (need (0 ≤ c26.2.1 ∧ c26.2.1 ≤ (((sub a0 (2 : Int) ((a0).length : Int))).length : Int) ∧ (((sub a0 (2 : Int) ((a0).length : Int))).length : Int) ≤ (((sub a0 (2 : Int) ((a0).length : Int))).length : Int)) ((folder_Take.l0 c26 k (sub (sub a0 (2 : Int) ((a0).length : Int)) c26.2.1 (((sub a0 (2 : Int) ((a0).length : Int))).length : Int)) ([] : List Api_Item) (0 : Int)).bind fun o117 => (match o117 with | .inl r => some r | .inr (s62, s65) => ((if (decide ((0 : Int) < ((s62).length : Int))) = true then (some true) else ((folder_May.f k s65).bind fun c103 => (some (!c103))))).bind fun s108 => (if s108 = true then (some (([] : (List Api_Item)), (4 : Int))) else (some (s65, (0 : Int))))))))))))
set_option maxRecDepth 100000 in
set_option maxHeartbeats 3180000 in
theorem folder_Take_ok (k : Nat) (a0 : (List Int)) (u0 : Value) (r : (List Api_Item) × Int) (hf : folder_Take.f k a0 = some r) : Cf.FnX true Try.prog 42 [u0] (fun w m => (rSl 1 (rInt .u8)).val w m u0 a0) (fun w w' m v => ∃ v0 v1, v = .tuple #[v0, v1] ∧ OwnRes rApi_Item 64 w w' m v0 r.1 ∧ ∀ m', (∀ b, b ∈ m' → b ∈ m ∨ bufBlk v0 = some b) → (rInt .i64).val w' m' v1 r.2) := by
  unfold folder_Take.f at hf
  refine fn_of Try.func42 rfl (Nat.le_of_ble_eq_true rfl) [(rSl 1 (rInt .u8)).fact u0 a0] (fun w m h f hf => ?_) ?_
  · simp at hf; obtain rfl := hf; exact h
  intro w0 m0 R hR
  refine t_seq ?_
  refine t_region ?_
  refine tl_d rfl (d_assign rfl ?_)
  refine tl_d rfl (d_assign rfl ?_)
  refine tl_nil ?_
  refine q_then_code ?_
  refine t_seq ?_
  refine t_seq ?_
  obtain ⟨o11, ho12, hf⟩ := bind_some hf
  refine t_cut (X := Bool) (fun x => match x with | s10 => (([(0, u0), (19, .bool s10)], [(rSl 1 (rInt .u8)).fact u0 a0], []) : Sym)) (fun x => match x with | s10 => s10 = o11) ?_ ?_
  · have hf := ho12; clear ho12
    rcases bool_tf (decide ((4000 : Int) < ((a0).length : Int))) with hb2 | hb2
    · have hf := if_t hb2 hf
      refine t_region ?_
      refine tl_d rfl (d_move rfl ?_)
      refine tl_d rfl (d_len_sl rfl (mem_at 0 rfl) Try.underlying32 (fun hl13 _ => ?_))
      refine tl_d rfl (d_gtr rfl rfl ?_)
      refine tl_d rfl (d_move rfl ?_)
      refine tl_off (gd_off rfl rfl rfl hb2) rfl rfl ?_
      refine tl_off (gd_off rfl rfl rfl hb2) rfl rfl ?_
      refine tl_off (gd_off rfl rfl rfl hb2) rfl rfl ?_
      refine tl_off (gd_off rfl rfl rfl hb2) rfl rfl ?_
      refine tl_d rfl (d_pick_true rfl hb2 rfl ?_)
      refine tl_nil ?_
      have hr := Option.some.inj hf; subst hr
      exact q_cut true rfl ⟨rfl, ⟨rfl, trivial⟩⟩ ⟨mem_at 0 rfl, trivial⟩ [] (Sel.nil) rfl
    · have hf := if_f hb2 hf
      obtain ⟨c5, hc6, hf⟩ := bind_some hf
      refine t_region ?_
      refine tl_d rfl (d_move rfl ?_)
      refine tl_d rfl (d_len_sl rfl (mem_at 0 rfl) Try.underlying32 (fun hl14 _ => ?_))
      refine tl_d rfl (d_gtr rfl rfl ?_)
      refine tl_d rfl (d_move rfl ?_)
      refine tl_dg (gd_on rfl rfl rfl hb2) rfl (d_move rfl ?_)
      refine tl_dg (gd_on rfl rfl rfl hb2) rfl (d_bytes_str rfl (mem_at 0 rfl) Try.underlying32 Try.underlying5 Try.underlying9 (fun v15 => ?_))
      refine tl_gg [] (gd_on rfl rfl rfl hb2) (g_call1 rfl hfn60 (strings_HasPrefix_ok _ _ _ _ _ hc6) (Evs.cons rfl (Evs.cons rfl Evs.nil)) (fun a w hs => ⟨(hv_fact (mem_at 0 rfl)) _ _ _ _ hs, (hv_str rfl (by decide)) _ _ _ _ hs⟩) (fun v17 => ?_))
      refine tl_bool (mem_at 0 rfl) (fun hv19 => ?_)
      subst hv19
      refine tl_dg (gd_on rfl rfl rfl hb2) rfl (d_not rfl ?_)
      refine tl_d rfl (d_pick_false rfl hb2 rfl ?_)
      refine tl_nil ?_
      have hr := Option.some.inj hf; subst hr
      exact q_cut (!c5) rfl ⟨rfl, ⟨rfl, trivial⟩⟩ ⟨mem_at 2 rfl, trivial⟩ [] (Sel.nil) rfl
  rintro s10 rfl
  refine q_then_code ?_
  refine t_cond rfl (fun hb20 => ?_) (fun hb20 => ?_)
  · have hf := if_t hb20 hf
    refine t_seq ?_
    refine t_region ?_
    refine tl_d rfl (d_assign rfl ?_)
    refine tl_d rfl (d_assign rfl ?_)
    refine tl_nil ?_
    refine q_then_code ?_
    refine t_ret ?_
    refine q_then_ret ?_
    have hr := Option.some.inj hf; subst hr
    refine q_ret (post := fun w w' m v => ∃ v0 v1, v = .tuple #[v0, v1] ∧ OwnRes rApi_Item 64 w w' m v0 ([] : (List Api_Item)) ∧ ∀ m', (∀ b, b ∈ m' → b ∈ m ∨ bufBlk v0 = some b) → (rInt .i64).val w' m' v1 (4 : Int)) hR _ (.inl rfl) (fun a w hs => ?_)
    exact ⟨_, run_results rfl (RvOk.cons (rv_tmp hs rfl) (RvOk.cons (rv_tmp hs rfl) RvOk.nil)), _, _, rfl, ownres_nil, fun m' hm' => ⟨[_], ⟨rfl, rfl⟩, rfl⟩⟩
  · have hf := if_f hb20 hf
    refine t_skip ?_
    refine q_then_code ?_
    refine t_seq ?_
    obtain ⟨hn23, hf⟩ := need_some hf
    refine t_region ?_
    refine tl_d rfl (d_move rfl ?_)
    refine tl_d rfl (d_slice_sl (i := (2 : Int)) (j := ((a0).length : Int)) rfl (mem_at 0 rfl) (.inr ⟨_, _, rfl, rfl⟩) (.inl ⟨rfl, rfl⟩) Try.underlying32 ty5 hn23 (fun v24 => ?_))
    refine tl_d rfl (d_assign rfl ?_)
    refine tl_nil ?_
    refine q_then_code ?_
    refine t_seq ?_
    obtain ⟨c26, hc27, hf⟩ := bind_some hf
    refine t_region ?_
    refine tl_d rfl (d_move rfl ?_)
    refine tl_g [] rfl (g_call3 rfl hfn61 (octet_TakeCount_ok _ _ _ _ hc27) (Evs.cons rfl Evs.nil) (fun a w hs => (hv_fact (mem_at 0 rfl)) _ _ _ _ hs) (fun v40 v41 v42 => ?_))
    refine tl_int (mem_at 0 rfl) (fun hv47 hw46 => ?_)
    subst hv47
    refine tl_int (mem_at 1 rfl) (fun hv49 hw48 => ?_)
    subst hv49
    refine tl_int (mem_at 2 rfl) (fun hv51 hw50 => ?_)
    subst hv51
    refine tl_d rfl (d_move rfl ?_)
    refine tl_d rfl (d_extract rfl rfl ?_)
    refine tl_d rfl (d_extract rfl rfl ?_)
    refine tl_d rfl (d_extract rfl rfl ?_)
    refine tl_d rfl (d_assign rfl ?_)
    refine tl_d rfl (d_assign rfl ?_)
    refine tl_d rfl (d_assign rfl ?_)
    refine tl_nil ?_
    refine q_then_code ?_
    refine t_seq ?_
    refine t_seq ?_
    obtain ⟨o54, ho55, hf⟩ := bind_some hf
    refine t_cut (X := Bool) (fun x => match x with | s53 => (([(0, v24), (4, (.int .u64 c26.1)), (5, (.int .i64 c26.2.1)), (33, .bool s53)], [(rSl 1 (rInt .u8)).fact v24 (sub a0 (2 : Int) ((a0).length : Int))], []) : Sym)) (fun x => match x with | s53 => s53 = o54) ?_ ?_
    · have hf := ho55; clear ho55
      rcases bool_tf (!decide (c26.2.2 = (0 : Int))) with hb52 | hb52
      · have hf := if_t hb52 hf
        refine t_region ?_
        refine tl_d rfl (d_move rfl ?_)
        refine tl_d rfl (d_neq rfl rfl ?_)
        refine tl_d rfl (d_move rfl ?_)
        refine tl_off (gd_off rfl rfl rfl hb52) rfl rfl ?_
        refine tl_off (gd_off rfl rfl rfl hb52) rfl rfl ?_
        refine tl_d rfl (d_pick_true rfl hb52 rfl ?_)
        refine tl_nil ?_
        have hr := Option.some.inj hf; subst hr
        exact q_cut true rfl ⟨rfl, ⟨rfl, ⟨rfl, ⟨rfl, trivial⟩⟩⟩⟩ ⟨mem_at 3 rfl, trivial⟩ [] (Sel.nil) rfl
      · have hf := if_f hb52 hf
        refine t_region ?_
        refine tl_d rfl (d_move rfl ?_)
        refine tl_d rfl (d_neq rfl rfl ?_)
        refine tl_d rfl (d_move rfl ?_)
        refine tl_dg (gd_on rfl rfl rfl hb52) rfl (d_move rfl ?_)
        refine tl_dg (gd_on rfl rfl rfl hb52) rfl (d_gtr rfl rfl ?_)
        refine tl_d rfl (d_pick_false rfl hb52 rfl ?_)
        refine tl_nil ?_
        have hr := Option.some.inj hf; subst hr
        exact q_cut (decide ((64 : Int) < c26.1)) rfl ⟨rfl, ⟨rfl, ⟨rfl, ⟨rfl, trivial⟩⟩⟩⟩ ⟨mem_at 3 rfl, trivial⟩ [] (Sel.nil) rfl
    rintro s53 rfl
    refine q_then_code ?_
    refine t_cond rfl (fun hb56 => ?_) (fun hb56 => ?_)
    · have hf := if_t hb56 hf
      refine t_seq ?_
      refine t_region ?_
      refine tl_d rfl (d_assign rfl ?_)
      refine tl_d rfl (d_assign rfl ?_)
      refine tl_nil ?_
      refine q_then_code ?_
      refine t_ret ?_
      refine q_then_ret ?_
      have hr := Option.some.inj hf; subst hr
      refine q_ret (post := fun w w' m v => ∃ v0 v1, v = .tuple #[v0, v1] ∧ OwnRes rApi_Item 64 w w' m v0 ([] : (List Api_Item)) ∧ ∀ m', (∀ b, b ∈ m' → b ∈ m ∨ bufBlk v0 = some b) → (rInt .i64).val w' m' v1 (4 : Int)) hR _ (.inl rfl) (fun a w hs => ?_)
      exact ⟨_, run_results rfl (RvOk.cons (rv_tmp hs rfl) (RvOk.cons (rv_tmp hs rfl) RvOk.nil)), _, _, rfl, ownres_nil, fun m' hm' => ⟨[_], ⟨rfl, rfl⟩, rfl⟩⟩
    · have hf := if_f hb56 hf
      refine t_skip ?_
      refine q_then_code ?_
      refine t_seq ?_
      obtain ⟨hn59, hf⟩ := need_some hf
      refine t_region ?_
      refine tl_d rfl (d_move rfl ?_)
      refine tl_d rfl (d_move rfl ?_)
      refine tl_d rfl (d_slice_sl (i := c26.2.1) (j := (((sub a0 (2 : Int) ((a0).length : Int))).length : Int)) rfl (mem_at 0 rfl) (.inr ⟨_, _, rfl, rfl⟩) (.inl ⟨rfl, rfl⟩) Try.underlying32 ty5 hn59 (fun v60 => ?_))
      refine tl_d rfl (d_assign rfl ?_)
      refine tl_nil ?_
      refine q_then_code ?_
      refine t_seq ?_
      refine t_region ?_
      refine tl_d rfl (d_assign rfl ?_)
      refine tl_nil ?_
      refine q_then_code ?_
      refine t_seq ?_
      refine t_seq ?_
      refine t_region ?_
      refine tl_d rfl (d_move rfl ?_)
      refine tl_d rfl (d_move rfl ?_)
      refine tl_nil ?_
      refine q_then_code ?_
      refine t_block ?_
      refine t_nilbuf 64 rApi_Item ?_
      obtain ⟨o117, ho118, hf⟩ := bind_some hf
      refine t_loop (X := (List Int) × (List Api_Item) × Int × Value × Value) (O := Sum ((List Api_Item) × Int) ((List Int) × (List Api_Item))) (fun kl x => match x with | (s62, s65, s67, z63, z66) => folder_Take.l0 c26 kl s62 s65 s67) o117 (fun x => match x with | (s62, s65, s67, z63, z66) => (([(0, z63), (7, z66), (37, (.int .u64 c26.1)), (38, .int .u64 s67)], [(rSl 1 (rInt .u8)).fact z63 s62], [Own.buf z66 64 rApi_Item s65]) : Sym)) (fun x => match x with | (s62, s65, s67, z63, z66) => IntKind.u64.wrap s67 = s67) k ((sub (sub a0 (2 : Int) ((a0).length : Int)) c26.2.1 (((sub a0 (2 : Int) ((a0).length : Int))).length : Int)), ([] : List Api_Item), (0 : Int), v60, (.slice none 0 0)) ho118 rfl ⟨rfl, ⟨rfl, ⟨rfl, ⟨rfl, trivial⟩⟩⟩⟩ ⟨mem_at 0 rfl, trivial⟩ [0] (Sel.cons rfl Sel.nil) rfl ?_
      clear ho118
      rintro k71 ⟨s62, s65, s67, z63, z66⟩ hw_s67 hk70
      have hout68 := hf; clear hf
      obtain ⟨kq69, rfl⟩ : ∃ q, k71 = q + 1 := by cases k71 with | zero => cases hk70 | succ q => exact ⟨q, rfl⟩
      have hf := hk70
      clear hk70; dsimp only [folder_Take.l0] at hf
      refine t_seq ?_
      refine t_region ?_
      refine tl_d rfl (d_lss rfl rfl ?_)
      refine tl_nil ?_
      refine q_then_code ?_
      refine t_seq ?_
      refine t_cond rfl (fun hb72 => ?_) (fun hb72 => ?_)
      · have hf := if_t hb72 hf
        refine t_skip ?_
        refine q_then_code ?_
        refine t_seq ?_
        refine t_block ?_
        refine t_seq ?_
        obtain ⟨c73, hc74, hf⟩ := bind_some hf
        refine t_region ?_
        refine tl_d rfl (d_move rfl ?_)
        refine tl_g [] rfl (g_call3 rfl hfn62 (folder_item_ok _ _ _ _ hc74) (Evs.cons rfl Evs.nil) (fun a w hs => (hv_fact (mem_at 0 rfl)) _ _ _ _ hs) (fun v83 v84 v85 => ?_))
        refine tl_bool (mem_at 2 rfl) (fun hv89 => ?_)
        subst hv89
        refine tl_d rfl (d_move rfl ?_)
        refine tl_d rfl (d_extract rfl rfl ?_)
        refine tl_d rfl (d_extract rfl rfl ?_)
        refine tl_d rfl (d_extract rfl rfl ?_)
        refine tl_g [] rfl (g_alloc rfl ty54 (fun b90 => ?_))
        refine tl_g _ rfl (g_store_box 1 rfl rfl rfl (Fld.self rApi_Item) trivial (hv_fact (mem_at 0 rfl)) ty54 (List.mem_singleton_self _) ?_)
        refine tl_d rfl (d_assign rfl ?_)
        refine tl_d rfl (d_assign rfl ?_)
        refine tl_nil ?_
        refine q_then_code ?_
        refine t_seq ?_
        refine t_seq ?_
        refine t_region ?_
        refine tl_d rfl (d_move rfl ?_)
        refine tl_d rfl (d_not rfl ?_)
        refine tl_nil ?_
        refine q_then_code ?_
        refine t_cond rfl (fun hb91 => ?_) (fun hb91 => ?_)
        · have hf := if_t hb91 hf
          refine t_seq ?_
          refine t_region ?_
          refine tl_d rfl (d_assign rfl ?_)
          refine tl_d rfl (d_assign rfl ?_)
          refine tl_nil ?_
          refine q_then_code ?_
          refine t_ret ?_
          refine q_then_ret ?_
          refine q_block_ret ?_
          refine q_then_ret ?_
          refine q_then_ret ?_
          have hr := Option.some.inj hf; try subst hr
          have hf := hout68
          refine q_block_ret ?_
          refine q_then_ret ?_
          have hr := Option.some.inj hf; subst hr
          refine q_ret (post := fun w w' m v => ∃ v0 v1, v = .tuple #[v0, v1] ∧ OwnRes rApi_Item 64 w w' m v0 ([] : (List Api_Item)) ∧ ∀ m', (∀ b, b ∈ m' → b ∈ m ∨ bufBlk v0 = some b) → (rInt .i64).val w' m' v1 (4 : Int)) hR _ (.inl rfl) (fun a w hs => ?_)
          exact ⟨_, run_results rfl (RvOk.cons (rv_tmp hs rfl) (RvOk.cons (rv_tmp hs rfl) RvOk.nil)), _, _, rfl, ownres_nil, fun m' hm' => ⟨[_], ⟨rfl, rfl⟩, rfl⟩⟩
        · have hf := if_f hb91 hf
          refine t_skip ?_
          refine q_then_code ?_
          obtain ⟨hn95, hf⟩ := need_some hf
          refine t_region ?_
          refine tl_d rfl (d_move rfl ?_)
          refine tl_d rfl (d_load_box 1 rfl rfl (Fld.self rApi_Item) trivial ty54 rfl (fun v97 => ?_))
          refine tl_g [] rfl (g_buildSlice (R := rApi_Item) (l := [c73.1]) rfl Try.underlying52 ty54 ⟨rfl, by decide, by decide, by decide⟩ (PartsOk.cons rfl rfl (hv_fact (mem_at 0 rfl)) PartsOk.nil) rfl (fun v99 => ?_))
          refine tl_g _ rfl (g_append_buf 0 2 rfl rfl rfl rfl rfl rfl Try.underlying52 ⟨_, Try.underlying52, fun k h => by cases h⟩ ty54 hn95 (List.mem_singleton_self _) (fun v100 => ?_))
          refine tl_d rfl (d_move rfl ?_)
          refine tl_d rfl (d_assign rfl ?_)
          refine tl_d rfl (d_assign rfl ?_)
          refine tl_nil ?_
          refine q_block_normal ?_
          refine q_then_code ?_
          refine t_region ?_
          refine tl_d rfl (d_add rfl rfl ?_)
          refine tl_d rfl (d_move rfl ?_)
          refine tl_nil ?_
          exact q_round kq69 (c73.2.1, (s65 ++ [c73.1]), (IntKind.u64.wrap (s67 + (1 : Int))), v84, v100) (Nat.lt_succ_self kq69) (wrap_wrap _ _) hf ⟨rfl, ⟨rfl, ⟨rfl, ⟨rfl, trivial⟩⟩⟩⟩ ⟨mem_at 2 rfl, trivial⟩ [0] (Sel.cons rfl Sel.nil) rfl
      · have hf := if_f hb72 hf
        refine t_exit ?_
        refine q_then_exit ?_
        refine q_then_exit ?_
        have hr := Option.some.inj hf; try subst hr
        have hf := hout68
        try dsimp only at hf
        refine q_block_hit ?_
        refine q_then_code ?_
        refine t_seq ?_
        refine t_seq ?_
        obtain ⟨o109, ho110, hf⟩ := bind_some hf
        refine t_cut (X := Bool) (fun x => match x with | s108 => (([(7, z66), (61, .bool s108)], [], [Own.buf z66 64 rApi_Item s65]) : Sym)) (fun x => match x with | s108 => s108 = o109) ?_ ?_
        · have hf := ho110; clear ho110
          rcases bool_tf (decide ((0 : Int) < ((s62).length : Int))) with hb102 | hb102
          · have hf := if_t hb102 hf
            refine t_region ?_
            refine tl_d rfl (d_move rfl ?_)
            refine tl_d rfl (d_len_sl rfl (mem_at 0 rfl) Try.underlying32 (fun hl111 _ => ?_))
            refine tl_d rfl (d_gtr rfl rfl ?_)
            refine tl_d rfl (d_move rfl ?_)
            refine tl_off (gd_off rfl rfl rfl hb102) rfl rfl ?_
            refine tl_off (gd_off rfl rfl rfl hb102) rfl rfl ?_
            refine tl_off (gd_off rfl rfl rfl hb102) rfl rfl ?_
            refine tl_d rfl (d_pick_true rfl hb102 rfl ?_)
            refine tl_nil ?_
            have hr := Option.some.inj hf; subst hr
            exact q_cut true rfl ⟨rfl, ⟨rfl, trivial⟩⟩ trivial [0] (Sel.cons rfl Sel.nil) rfl
          · have hf := if_f hb102 hf
            obtain ⟨c103, hc104, hf⟩ := bind_some hf
            refine t_region ?_
            refine tl_d rfl (d_move rfl ?_)
            refine tl_d rfl (d_len_sl rfl (mem_at 0 rfl) Try.underlying32 (fun hl112 _ => ?_))
            refine tl_d rfl (d_gtr rfl rfl ?_)
            refine tl_d rfl (d_move rfl ?_)
            refine tl_dg (gd_on rfl rfl rfl hb102) rfl (d_move rfl ?_)
            refine tl_gg [] (gd_on rfl rfl rfl hb102) (g_call1 rfl hfn63 (FnX.flat (fun _ _ _ _ _ h => Flat.val Flat.bool h) (folder_May_ok _ _ _ _ hc104)) (Evs.cons rfl Evs.nil) (fun a w hs => bor_one hs 0 rfl (fun hs1 => bor_end hs1 ((hv_fact (mem_at 0 rfl)) _ _ _ _ hs1))) (fun v113 => ?_))
            refine tl_bool (mem_at 0 rfl) (fun hv115 => ?_)
            subst hv115
            refine tl_dg (gd_on rfl rfl rfl hb102) rfl (d_not rfl ?_)
            refine tl_d rfl (d_pick_false rfl hb102 rfl ?_)
            refine tl_nil ?_
            have hr := Option.some.inj hf; subst hr
            exact q_cut (!c103) rfl ⟨rfl, ⟨rfl, trivial⟩⟩ trivial [0] (Sel.cons rfl Sel.nil) rfl
        rintro s108 rfl
        refine q_then_code ?_
        refine t_cond rfl (fun hb116 => ?_) (fun hb116 => ?_)
        · have hf := if_t hb116 hf
          refine t_seq ?_
          refine t_region ?_
          refine tl_d rfl (d_assign rfl ?_)
          refine tl_d rfl (d_assign rfl ?_)
          refine tl_nil ?_
          refine q_then_code ?_
          refine t_ret ?_
          refine q_then_ret ?_
          have hr := Option.some.inj hf; subst hr
          refine q_ret (post := fun w w' m v => ∃ v0 v1, v = .tuple #[v0, v1] ∧ OwnRes rApi_Item 64 w w' m v0 ([] : (List Api_Item)) ∧ ∀ m', (∀ b, b ∈ m' → b ∈ m ∨ bufBlk v0 = some b) → (rInt .i64).val w' m' v1 (4 : Int)) hR _ (.inl rfl) (fun a w hs => ?_)
          exact ⟨_, run_results rfl (RvOk.cons (rv_tmp hs rfl) (RvOk.cons (rv_tmp hs rfl) RvOk.nil)), _, _, rfl, ownres_nil, fun m' hm' => ⟨[_], ⟨rfl, rfl⟩, rfl⟩⟩
        · have hf := if_f hb116 hf
          refine t_skip ?_
          refine q_then_code ?_
          refine t_seq ?_
          refine t_region ?_
          refine tl_d rfl (d_move rfl ?_)
          refine tl_d rfl (d_assign rfl ?_)
          refine tl_d rfl (d_assign rfl ?_)
          refine tl_nil ?_
          refine q_then_code ?_
          refine t_ret ?_
          have hr := Option.some.inj hf; subst hr
          refine q_ret (post := fun w w' m v => ∃ v0 v1, v = .tuple #[v0, v1] ∧ OwnRes rApi_Item 64 w w' m v0 s65 ∧ ∀ m', (∀ b, b ∈ m' → b ∈ m ∨ bufBlk v0 = some b) → (rInt .i64).val w' m' v1 (0 : Int)) hR _ (.inl rfl) (fun a w hs => ?_)
          exact ⟨_, run_results rfl (RvOk.cons (rv_tmp hs rfl) (RvOk.cons (rv_tmp hs rfl) RvOk.nil)), _, _, rfl, (hs.ownres (i := 0) rfl), fun m' hm' => ⟨[_], ⟨rfl, rfl⟩, rfl⟩⟩

def walk_way_bad.f (x3 : (List ((List Int) × (List Int)))) (x5 : (List ((List Int) × Int))) (x6 : Int) (x7 : Bool) (x9 : (List Api_File)) (x10 : Int) (a1 : Int) : Option (Bool × (List ((List Int) × (List Int))) × (List ((List Int) × Int)) × Int × Bool × (List Api_File) × Int) := ((if (decide (x10 = (0 : Int))) = true then (some a1) else (some x10))).bind fun s13 => (some ((!decide (s13 = (0 : Int))), x3, x5, x6, x7, x9, s13))
set_option maxRecDepth 100000 in
set_option maxHeartbeats 520000 in
theorem walk_way_bad_ok (x3 : (List ((List Int) × (List Int)))) (x5 : (List ((List Int) × Int))) (x6 : Int) (x7 : Bool) (x9 : (List Api_File)) (x10 : Int) (a1 : Int) (h0 : Nat) (b1 : Nat) (b2 : Nat) (b4 : Nat) (z8 : Value) (r : Bool × (List ((List Int) × (List Int))) × (List ((List Int) × Int)) × Int × Bool × (List Api_File) × Int) (hf : walk_way_bad.f x3 x5 x6 x7 x9 x10 a1 = some r) : Cf.FnM true Try.prog 46 [(.pointer (some ⟨b1, 0, none⟩)), (.int .i64 a1)] [Own.box b1 rWalk_way (⟨(.map (some b2)), (.map (some b4)), x6, x7, z8, x10⟩ : Walk_way), Own.map b2 (rArr 32 (rInt .u8)) (rSl 1 (rInt .u8)) x3, Own.map b4 (rArr 32 (rInt .u8)) (rInt .i64) x5, Own.buf z8 48 (rFileF h0) x9] [(rInt .i64).fact (.int .i64 a1) a1, past h0] (fun v N fs => ∃ (y0 : Value), v = (.bool r.1) ∧ N = [Own.box b1 rWalk_way (⟨(.map (some b2)), (.map (some b4)), r.2.2.2.1, r.2.2.2.2.1, y0, r.2.2.2.2.2.2⟩ : Walk_way), Own.map b2 (rArr 32 (rInt .u8)) (rSl 1 (rInt .u8)) r.2.1, Own.map b4 (rArr 32 (rInt .u8)) (rInt .i64) r.2.2.1, Own.buf y0 48 (rFileF h0) r.2.2.2.2.2.1] ∧ fs = [rBool.fact (.bool r.1) r.1]) := by
  unfold walk_way_bad.f at hf
  refine fn_ofN Try.func46 rfl (Nat.le_of_ble_eq_true rfl) ?_
  intro w0 m0 R hR
  refine t_int (mem_at 0 rfl) (fun _ hw1 => ?_)
  refine t_seq ?_
  refine t_region ?_
  refine tl_d rfl (d_assign rfl ?_)
  refine tl_nil ?_
  refine q_then_code ?_
  refine t_seq ?_
  refine t_seq ?_
  refine t_region ?_
  refine tl_d rfl (d_move rfl ?_)
  refine tl_d rfl (d_nilCheck rfl ?_)
  refine tl_d rfl (d_field_own rfl fo70_5 ?_)
  refine tl_d rfl (d_load_box_int 0 rfl rfl (Fld.at0 fl_Walk_way_error) trivial ty37 rfl (fun hw12 => ?_))
  refine tl_d rfl (d_eql rfl rfl ?_)
  refine tl_nil ?_
  refine q_then_code ?_
  obtain ⟨o14, ho15, hf⟩ := bind_some hf
  refine t_cut (X := Int) (fun x => match x with | s13 => (([(0, .pointer (some ⟨b1, 0, none⟩))], [past h0], [Own.box b1 rWalk_way (⟨(.map (some b2)), (.map (some b4)), x6, x7, z8, s13⟩ : Walk_way), Own.map b2 (rArr 32 (rInt .u8)) (rSl 1 (rInt .u8)) x3, Own.map b4 (rArr 32 (rInt .u8)) (rInt .i64) x5, Own.buf z8 48 (rFileF h0) x9]) : Sym)) (fun x => match x with | s13 => s13 = o14) ?_ ?_
  · have hf := ho15
    clear ho15
    refine t_cond rfl (fun hb16 => ?_) (fun hb16 => ?_)
    · have hf := if_t hb16 hf
      refine t_region ?_
      refine tl_d rfl (d_move rfl ?_)
      refine tl_d rfl (d_move rfl ?_)
      refine tl_d rfl (d_nilCheck rfl ?_)
      refine tl_d rfl (d_field_own rfl fo70_5 ?_)
      refine tl_g _ rfl (g_store_boxy 0 rfl rfl rfl (Fld.at0 fl_Walk_way_error) trivial (hv_int hw1) ty37 (List.mem_singleton_self _) (⟨(.map (some b2)), (.map (some b4)), x6, x7, z8, a1⟩ : Walk_way) rfl ?_)
      refine tl_nil ?_
      have hr := Option.some.inj hf; subst hr
      exact q_cut a1 rfl ⟨rfl, trivial⟩ ⟨mem_at 1 rfl, trivial⟩ [0, 1, 2, 3] (Sel.cons rfl (Sel.cons rfl (Sel.cons rfl (Sel.cons rfl Sel.nil)))) rfl
    · have hf := if_f hb16 hf
      refine t_skip ?_
      have hr := Option.some.inj hf; subst hr
      exact q_cut x10 rfl ⟨rfl, trivial⟩ ⟨mem_at 1 rfl, trivial⟩ [0, 1, 2, 3] (Sel.cons rfl (Sel.cons rfl (Sel.cons rfl (Sel.cons rfl Sel.nil)))) rfl
  rintro s13 rfl
  refine q_then_code ?_
  refine t_seq ?_
  refine t_region ?_
  refine tl_d rfl (d_move rfl ?_)
  refine tl_d rfl (d_nilCheck rfl ?_)
  refine tl_d rfl (d_field_own rfl fo70_5 ?_)
  refine tl_d rfl (d_load_box_int 0 rfl rfl (Fld.at0 fl_Walk_way_error) trivial ty37 rfl (fun hw18 => ?_))
  refine tl_d rfl (d_neq rfl rfl ?_)
  refine tl_d rfl (d_assign rfl ?_)
  refine tl_nil ?_
  refine q_then_code ?_
  refine t_ret ?_
  have hr := Option.some.inj hf; subst hr
  exact q_retN (post := fun v N fs => ∃ (y0 : Value), v = (.bool ((!decide (s13 = (0 : Int))), x3, x5, x6, x7, x9, s13).1) ∧ N = [Own.box b1 rWalk_way (⟨(.map (some b2)), (.map (some b4)), ((!decide (s13 = (0 : Int))), x3, x5, x6, x7, x9, s13).2.2.2.1, ((!decide (s13 = (0 : Int))), x3, x5, x6, x7, x9, s13).2.2.2.2.1, y0, ((!decide (s13 = (0 : Int))), x3, x5, x6, x7, x9, s13).2.2.2.2.2.2⟩ : Walk_way), Own.map b2 (rArr 32 (rInt .u8)) (rSl 1 (rInt .u8)) ((!decide (s13 = (0 : Int))), x3, x5, x6, x7, x9, s13).2.1, Own.map b4 (rArr 32 (rInt .u8)) (rInt .i64) ((!decide (s13 = (0 : Int))), x3, x5, x6, x7, x9, s13).2.2.1, Own.buf y0 48 (rFileF h0) ((!decide (s13 = (0 : Int))), x3, x5, x6, x7, x9, s13).2.2.2.2.2.1] ∧ fs = [rBool.fact (.bool ((!decide (s13 = (0 : Int))), x3, x5, x6, x7, x9, s13).1) ((!decide (s13 = (0 : Int))), x3, x5, x6, x7, x9, s13).1]) hR _ (.inl rfl) [Own.box b1 rWalk_way (⟨(.map (some b2)), (.map (some b4)), x6, x7, z8, s13⟩ : Walk_way), Own.map b2 (rArr 32 (rInt .u8)) (rSl 1 (rInt .u8)) x3, Own.map b4 (rArr 32 (rInt .u8)) (rInt .i64) x5, Own.buf z8 48 (rFileF h0) x9] [rBool.fact (.bool (!decide (s13 = (0 : Int)))) (!decide (s13 = (0 : Int)))] [0, 1, 2, 3] (Sel.cons rfl (Sel.cons rfl (Sel.cons rfl (Sel.cons rfl Sel.nil)))) rfl (HasFs.cons hv_bool HasFs.nil) (.bool (!decide (s13 = (0 : Int)))) (fun a w hs => run_results (vs := [(.bool (!decide (s13 = (0 : Int))))]) rfl (RvOk.cons (rv_tmp hs rfl) RvOk.nil)) ⟨z8, rfl, rfl, rfl⟩

def walk_way_object.f (x3 : (List ((List Int) × (List Int)))) (x5 : (List ((List Int) × Int))) (x6 : Int) (x7 : Bool) (x9 : (List Api_File)) (x10 : Int) (a1 : (List Int)) : Option ((List Int) × Bool × (List ((List Int) × (List Int))) × (List ((List Int) × Int)) × Int × Bool × (List Api_File) × Int) := (if (decide ((1024 : Int) < (IntKind.i64.wrap (x6 + (1 : Int))))) = true then ((walk_way_bad.f x3 x5 (IntKind.i64.wrap (x6 + (1 : Int))) x7 x9 x10 (2 : Int)).bind fun c18 => (some (([] : (List Int)), false, c18.2.1, c18.2.2.1, c18.2.2.2.1, c18.2.2.2.2.1, c18.2.2.2.2.2.1, c18.2.2.2.2.2.2))) else (if (!(mget x3 a1).isSome) = true then ((walk_way_bad.f x3 x5 (IntKind.i64.wrap (x6 + (1 : Int))) x7 x9 x10 (15 : Int)).bind fun c33 => (some (([] : (List Int)), false, c33.2.1, c33.2.2.1, c33.2.2.2.1, c33.2.2.2.2.1, c33.2.2.2.2.2.1, c33.2.2.2.2.2.2))) else (some (((mget x3 a1).getD (rSl 1 (rInt .u8)).zeroD), true, x3, (mset x5 a1 (IntKind.i64.wrap (((mget x5 a1).getD (rInt .i64).zeroD) + (1 : Int)))), (IntKind.i64.wrap (x6 + (1 : Int))), x7, x9, x10))))
set_option maxRecDepth 100000 in
set_option maxHeartbeats 1500000 in
theorem walk_way_object_ok (x3 : (List ((List Int) × (List Int)))) (x5 : (List ((List Int) × Int))) (x6 : Int) (x7 : Bool) (x9 : (List Api_File)) (x10 : Int) (a1 : (List Int)) (h0 : Nat) (b1 : Nat) (b2 : Nat) (b4 : Nat) (z8 : Value) (u1 : Value) (r : (List Int) × Bool × (List ((List Int) × (List Int))) × (List ((List Int) × Int)) × Int × Bool × (List Api_File) × Int) (hf : walk_way_object.f x3 x5 x6 x7 x9 x10 a1 = some r) : Cf.FnM true Try.prog 47 [(.pointer (some ⟨b1, 0, none⟩)), u1] [Own.box b1 rWalk_way (⟨(.map (some b2)), (.map (some b4)), x6, x7, z8, x10⟩ : Walk_way), Own.map b2 (rArr 32 (rInt .u8)) (rSl 1 (rInt .u8)) x3, Own.map b4 (rArr 32 (rInt .u8)) (rInt .i64) x5, Own.buf z8 48 (rFileF h0) x9] [(rArr 32 (rInt .u8)).fact u1 a1, past h0] (fun v N fs => ∃ (y0 : Value) (y1 : Value), v = (.tuple #[y0, (.bool r.2.1)]) ∧ N = [Own.box b1 rWalk_way (⟨(.map (some b2)), (.map (some b4)), r.2.2.2.2.1, r.2.2.2.2.2.1, y1, r.2.2.2.2.2.2.2⟩ : Walk_way), Own.map b2 (rArr 32 (rInt .u8)) (rSl 1 (rInt .u8)) r.2.2.1, Own.map b4 (rArr 32 (rInt .u8)) (rInt .i64) r.2.2.2.1, Own.buf y1 48 (rFileF h0) r.2.2.2.2.2.2.1] ∧ fs = [(rSl 1 (rInt .u8)).fact y0 r.1, rBool.fact (.bool r.2.1) r.2.1]) := by
  unfold walk_way_object.f at hf
  refine fn_ofN Try.func47 rfl (Nat.le_of_ble_eq_true rfl) ?_
  intro w0 m0 R hR
  refine t_seq ?_
  refine t_region ?_
  refine tl_g [] rfl (g_box (R := (rArr 32 (rInt .u8))) rfl rfl (hv_fact (mem_at 0 rfl)) (fun b12 => ?_))
  refine tl_M [Own.box b1 rWalk_way (⟨(.map (some b2)), (.map (some b4)), x6, x7, z8, x10⟩ : Walk_way), Own.map b2 (rArr 32 (rInt .u8)) (rSl 1 (rInt .u8)) x3, Own.map b4 (rArr 32 (rInt .u8)) (rInt .i64) x5, Own.buf z8 48 (rFileF h0) x9, Own.box b12 (rArr 32 (rInt .u8)) a1] rfl ?_
  refine tl_d rfl (d_assign rfl ?_)
  refine tl_d rfl (d_assign rfl ?_)
  refine tl_nil ?_
  refine q_then_code ?_
  refine t_seq ?_
  refine t_region ?_
  refine tl_d rfl (d_move rfl ?_)
  refine tl_d rfl (d_nilCheck rfl ?_)
  refine tl_d rfl (d_field_own rfl fo70_2 ?_)
  refine tl_d rfl (d_load_box_int 0 rfl rfl (Fld.at0 fl_Walk_way_count) trivial ty3 rfl (fun hw14 => ?_))
  refine tl_d rfl (d_add rfl rfl ?_)
  refine tl_d rfl (d_nilCheck rfl ?_)
  refine tl_d rfl (d_field_own rfl fo70_2 ?_)
  refine tl_g _ rfl (g_store_boxy 0 rfl rfl rfl (Fld.at0 fl_Walk_way_count) trivial (hv_int (wrap_wrap _ _)) ty3 (List.mem_singleton_self _) (⟨(.map (some b2)), (.map (some b4)), (IntKind.i64.wrap (x6 + (1 : Int))), x7, z8, x10⟩ : Walk_way) rfl ?_)
  refine tl_M [Own.box b1 rWalk_way (⟨(.map (some b2)), (.map (some b4)), (IntKind.i64.wrap (x6 + (1 : Int))), x7, z8, x10⟩ : Walk_way), Own.map b2 (rArr 32 (rInt .u8)) (rSl 1 (rInt .u8)) x3, Own.map b4 (rArr 32 (rInt .u8)) (rInt .i64) x5, Own.buf z8 48 (rFileF h0) x9, Own.box b12 (rArr 32 (rInt .u8)) a1] rfl ?_
  refine tl_nil ?_
  refine q_then_code ?_
  refine t_seq ?_
  refine t_seq ?_
  refine t_region ?_
  refine tl_d rfl (d_move rfl ?_)
  refine tl_d rfl (d_nilCheck rfl ?_)
  refine tl_d rfl (d_field_own rfl fo70_2 ?_)
  refine tl_d rfl (d_load_box_int 0 rfl rfl (Fld.at0 fl_Walk_way_count) trivial ty3 rfl (fun hw16 => ?_))
  refine tl_d rfl (d_gtr rfl rfl ?_)
  refine tl_nil ?_
  refine q_then_code ?_
  refine t_cond rfl (fun hb17 => ?_) (fun hb17 => ?_)
  · have hf := if_t hb17 hf
    refine t_seq ?_
    obtain ⟨c18, hc19, hf⟩ := bind_some hf
    refine t_region ?_
    refine tl_d rfl (d_move rfl ?_)
    refine tl_sel [Own.box b1 rWalk_way (⟨(.map (some b2)), (.map (some b4)), (IntKind.i64.wrap (x6 + (1 : Int))), x7, z8, x10⟩ : Walk_way), Own.map b2 (rArr 32 (rInt .u8)) (rSl 1 (rInt .u8)) x3, Own.map b4 (rArr 32 (rInt .u8)) (rInt .i64) x5, Own.buf z8 48 (rFileF h0) x9, Own.box b12 (rArr 32 (rInt .u8)) a1] [0, 1, 2, 3, 4] (Sel.cons rfl (Sel.cons rfl (Sel.cons rfl (Sel.cons rfl (Sel.cons rfl Sel.nil))))) rfl ?_
    refine tl_g1 rfl (g_callM (Min := [Own.box b1 rWalk_way (⟨(.map (some b2)), (.map (some b4)), (IntKind.i64.wrap (x6 + (1 : Int))), x7, z8, x10⟩ : Walk_way), Own.map b2 (rArr 32 (rInt .u8)) (rSl 1 (rInt .u8)) x3, Own.map b4 (rArr 32 (rInt .u8)) (rInt .i64) x5, Own.buf z8 48 (rFileF h0) x9]) (B := [Own.box b12 (rArr 32 (rInt .u8)) a1]) rfl hfn46 (walk_way_bad_ok _ _ _ _ _ _ _ _ _ _ _ _ _ hc19) (Evs.cons rfl (Evs.cons rfl Evs.nil)) (HasFs.cons (hv_int rfl) (HasFs.mem (mem_at 1 rfl) HasFs.nil)) ?_)
    rintro _ _ _ ⟨z23, rfl, rfl, rfl⟩
    refine tl_sel [Own.box b1 rWalk_way (⟨(.map (some b2)), (.map (some b4)), c18.2.2.2.1, c18.2.2.2.2.1, z23, c18.2.2.2.2.2.2⟩ : Walk_way), Own.map b2 (rArr 32 (rInt .u8)) (rSl 1 (rInt .u8)) c18.2.1, Own.map b4 (rArr 32 (rInt .u8)) (rInt .i64) c18.2.2.1, Own.buf z23 48 (rFileF h0) c18.2.2.2.2.2.1, Own.box b12 (rArr 32 (rInt .u8)) a1] [0, 1, 2, 3, 4] (Sel.cons rfl (Sel.cons rfl (Sel.cons rfl (Sel.cons rfl (Sel.cons rfl Sel.nil))))) rfl ?_
    refine tl_M [Own.box b1 rWalk_way (⟨(.map (some b2)), (.map (some b4)), c18.2.2.2.1, c18.2.2.2.2.1, z23, c18.2.2.2.2.2.2⟩ : Walk_way), Own.map b2 (rArr 32 (rInt .u8)) (rSl 1 (rInt .u8)) c18.2.1, Own.map b4 (rArr 32 (rInt .u8)) (rInt .i64) c18.2.2.1, Own.buf z23 48 (rFileF h0) c18.2.2.2.2.2.1, Own.box b12 (rArr 32 (rInt .u8)) a1] rfl ?_
    refine tl_nil ?_
    refine q_then_code ?_
    refine t_seq ?_
    refine t_region ?_
    refine tl_d rfl (d_assign rfl ?_)
    refine tl_d rfl (d_assign rfl ?_)
    refine tl_nil ?_
    refine q_then_code ?_
    refine t_ret ?_
    refine q_then_ret ?_
    have hr := Option.some.inj hf; subst hr
    exact q_retN (post := fun v N fs => ∃ (y0 : Value) (y1 : Value), v = (.tuple #[y0, (.bool (([] : (List Int)), false, c18.2.1, c18.2.2.1, c18.2.2.2.1, c18.2.2.2.2.1, c18.2.2.2.2.2.1, c18.2.2.2.2.2.2).2.1)]) ∧ N = [Own.box b1 rWalk_way (⟨(.map (some b2)), (.map (some b4)), (([] : (List Int)), false, c18.2.1, c18.2.2.1, c18.2.2.2.1, c18.2.2.2.2.1, c18.2.2.2.2.2.1, c18.2.2.2.2.2.2).2.2.2.2.1, (([] : (List Int)), false, c18.2.1, c18.2.2.1, c18.2.2.2.1, c18.2.2.2.2.1, c18.2.2.2.2.2.1, c18.2.2.2.2.2.2).2.2.2.2.2.1, y1, (([] : (List Int)), false, c18.2.1, c18.2.2.1, c18.2.2.2.1, c18.2.2.2.2.1, c18.2.2.2.2.2.1, c18.2.2.2.2.2.2).2.2.2.2.2.2.2⟩ : Walk_way), Own.map b2 (rArr 32 (rInt .u8)) (rSl 1 (rInt .u8)) (([] : (List Int)), false, c18.2.1, c18.2.2.1, c18.2.2.2.1, c18.2.2.2.2.1, c18.2.2.2.2.2.1, c18.2.2.2.2.2.2).2.2.1, Own.map b4 (rArr 32 (rInt .u8)) (rInt .i64) (([] : (List Int)), false, c18.2.1, c18.2.2.1, c18.2.2.2.1, c18.2.2.2.2.1, c18.2.2.2.2.2.1, c18.2.2.2.2.2.2).2.2.2.1, Own.buf y1 48 (rFileF h0) (([] : (List Int)), false, c18.2.1, c18.2.2.1, c18.2.2.2.1, c18.2.2.2.2.1, c18.2.2.2.2.2.1, c18.2.2.2.2.2.2).2.2.2.2.2.2.1] ∧ fs = [(rSl 1 (rInt .u8)).fact y0 (([] : (List Int)), false, c18.2.1, c18.2.2.1, c18.2.2.2.1, c18.2.2.2.2.1, c18.2.2.2.2.2.1, c18.2.2.2.2.2.2).1, rBool.fact (.bool (([] : (List Int)), false, c18.2.1, c18.2.2.1, c18.2.2.2.1, c18.2.2.2.2.1, c18.2.2.2.2.2.1, c18.2.2.2.2.2.2).2.1) (([] : (List Int)), false, c18.2.1, c18.2.2.1, c18.2.2.2.1, c18.2.2.2.2.1, c18.2.2.2.2.2.1, c18.2.2.2.2.2.2).2.1]) hR _ (.inl rfl) [Own.box b1 rWalk_way (⟨(.map (some b2)), (.map (some b4)), c18.2.2.2.1, c18.2.2.2.2.1, z23, c18.2.2.2.2.2.2⟩ : Walk_way), Own.map b2 (rArr 32 (rInt .u8)) (rSl 1 (rInt .u8)) c18.2.1, Own.map b4 (rArr 32 (rInt .u8)) (rInt .i64) c18.2.2.1, Own.buf z23 48 (rFileF h0) c18.2.2.2.2.2.1] [(rSl 1 (rInt .u8)).fact (.slice none 0 0) ([] : (List Int)), rBool.fact (.bool false) false] [0, 1, 2, 3] (Sel.cons rfl (Sel.cons rfl (Sel.cons rfl (Sel.cons rfl Sel.nil)))) rfl (HasFs.cons hv_nil (HasFs.cons hv_bool HasFs.nil)) (.tuple #[(.slice none 0 0), (.bool false)]) (fun a w hs => run_results (vs := [(.slice none 0 0), (.bool false)]) rfl (RvOk.cons (rv_tmp hs rfl) (RvOk.cons (rv_tmp hs rfl) RvOk.nil))) ⟨(.slice none 0 0), z23, rfl, rfl, rfl⟩
  · have hf := if_f hb17 hf
    refine t_skip ?_
    refine q_then_code ?_
    refine t_seq ?_
    refine t_any (n := 11) [] mixed ⟨by kernel_rfl, .inl rfl⟩ (np_then np_body) ?_
    refine ta_take (i := 0) rfl (by kernel_rfl) gd_none (d_move rfl ?_)
    refine ta_take (i := 1) rfl (by kernel_rfl) gd_none (d_nilCheck rfl ?_)
    refine ta_take (i := 2) rfl (by kernel_rfl) gd_none (d_field_own rfl fo70_0 ?_)
    refine ta_take (i := 3) rfl (by kernel_rfl) gd_none (d_load_raw 0 (.map (some b2)) rfl rfl (Fld.at0 fl_Walk_way_objects) trivial tyr67 rfl rfl ?_)
    refine ta_take (i := 4) rfl (by kernel_rfl) gd_none (d_load_box 4 rfl rfl (Fld.self (rArr 32 (rInt .u8))) trivial ty29 rfl (fun v28 => ?_))
    refine ta_take (i := 5) rfl (by kernel_rfl) gd_none (d_lookup_own_ok 1 rfl rfl rfl (hv_fact (mem_at 0 rfl)) Try.underlying67 (KeyAt.ints Try.underlying29 Try.underlying5 ty5) ty32 rfl (fun v30 => ?_))
    refine ta_take (i := 6) rfl (by kernel_rfl) gd_none (d_move rfl ?_)
    refine ta_take (i := 7) rfl (by kernel_rfl) gd_none (d_extract rfl rfl ?_)
    refine ta_take (i := 8) rfl (by kernel_rfl) gd_none (d_extract rfl rfl ?_)
    refine ta_take (i := 9) rfl (by kernel_rfl) gd_none (d_assign rfl ?_)
    refine ta_take (i := 10) rfl (by kernel_rfl) gd_none (d_assign rfl ?_)
    refine ta_done (by kernel_rfl) ?_
    refine q_then_code ?_
    refine t_seq ?_
    refine t_seq ?_
    refine t_region ?_
    refine tl_d rfl (d_move rfl ?_)
    refine tl_d rfl (d_not rfl ?_)
    refine tl_nil ?_
    refine q_then_code ?_
    refine t_cond rfl (fun hb32 => ?_) (fun hb32 => ?_)
    · have hf := if_t hb32 hf
      refine t_seq ?_
      obtain ⟨c33, hc34, hf⟩ := bind_some hf
      refine t_region ?_
      refine tl_d rfl (d_move rfl ?_)
      refine tl_sel [Own.box b1 rWalk_way (⟨(.map (some b2)), (.map (some b4)), (IntKind.i64.wrap (x6 + (1 : Int))), x7, z8, x10⟩ : Walk_way), Own.map b2 (rArr 32 (rInt .u8)) (rSl 1 (rInt .u8)) x3, Own.map b4 (rArr 32 (rInt .u8)) (rInt .i64) x5, Own.buf z8 48 (rFileF h0) x9, Own.box b12 (rArr 32 (rInt .u8)) a1] [0, 1, 2, 3, 4] (Sel.cons rfl (Sel.cons rfl (Sel.cons rfl (Sel.cons rfl (Sel.cons rfl Sel.nil))))) rfl ?_
      refine tl_g1 rfl (g_callM (Min := [Own.box b1 rWalk_way (⟨(.map (some b2)), (.map (some b4)), (IntKind.i64.wrap (x6 + (1 : Int))), x7, z8, x10⟩ : Walk_way), Own.map b2 (rArr 32 (rInt .u8)) (rSl 1 (rInt .u8)) x3, Own.map b4 (rArr 32 (rInt .u8)) (rInt .i64) x5, Own.buf z8 48 (rFileF h0) x9]) (B := [Own.box b12 (rArr 32 (rInt .u8)) a1]) rfl hfn46 (walk_way_bad_ok _ _ _ _ _ _ _ _ _ _ _ _ _ hc34) (Evs.cons rfl (Evs.cons rfl Evs.nil)) (HasFs.cons (hv_int rfl) (HasFs.mem (mem_at 3 rfl) HasFs.nil)) ?_)
      rintro _ _ _ ⟨z38, rfl, rfl, rfl⟩
      refine tl_sel [Own.box b1 rWalk_way (⟨(.map (some b2)), (.map (some b4)), c33.2.2.2.1, c33.2.2.2.2.1, z38, c33.2.2.2.2.2.2⟩ : Walk_way), Own.map b2 (rArr 32 (rInt .u8)) (rSl 1 (rInt .u8)) c33.2.1, Own.map b4 (rArr 32 (rInt .u8)) (rInt .i64) c33.2.2.1, Own.buf z38 48 (rFileF h0) c33.2.2.2.2.2.1, Own.box b12 (rArr 32 (rInt .u8)) a1] [0, 1, 2, 3, 4] (Sel.cons rfl (Sel.cons rfl (Sel.cons rfl (Sel.cons rfl (Sel.cons rfl Sel.nil))))) rfl ?_
      refine tl_M [Own.box b1 rWalk_way (⟨(.map (some b2)), (.map (some b4)), c33.2.2.2.1, c33.2.2.2.2.1, z38, c33.2.2.2.2.2.2⟩ : Walk_way), Own.map b2 (rArr 32 (rInt .u8)) (rSl 1 (rInt .u8)) c33.2.1, Own.map b4 (rArr 32 (rInt .u8)) (rInt .i64) c33.2.2.1, Own.buf z38 48 (rFileF h0) c33.2.2.2.2.2.1, Own.box b12 (rArr 32 (rInt .u8)) a1] rfl ?_
      refine tl_nil ?_
      refine q_then_code ?_
      refine t_seq ?_
      refine t_region ?_
      refine tl_d rfl (d_assign rfl ?_)
      refine tl_d rfl (d_assign rfl ?_)
      refine tl_nil ?_
      refine q_then_code ?_
      refine t_ret ?_
      refine q_then_ret ?_
      have hr := Option.some.inj hf; subst hr
      exact q_retN (post := fun v N fs => ∃ (y0 : Value) (y1 : Value), v = (.tuple #[y0, (.bool (([] : (List Int)), false, c33.2.1, c33.2.2.1, c33.2.2.2.1, c33.2.2.2.2.1, c33.2.2.2.2.2.1, c33.2.2.2.2.2.2).2.1)]) ∧ N = [Own.box b1 rWalk_way (⟨(.map (some b2)), (.map (some b4)), (([] : (List Int)), false, c33.2.1, c33.2.2.1, c33.2.2.2.1, c33.2.2.2.2.1, c33.2.2.2.2.2.1, c33.2.2.2.2.2.2).2.2.2.2.1, (([] : (List Int)), false, c33.2.1, c33.2.2.1, c33.2.2.2.1, c33.2.2.2.2.1, c33.2.2.2.2.2.1, c33.2.2.2.2.2.2).2.2.2.2.2.1, y1, (([] : (List Int)), false, c33.2.1, c33.2.2.1, c33.2.2.2.1, c33.2.2.2.2.1, c33.2.2.2.2.2.1, c33.2.2.2.2.2.2).2.2.2.2.2.2.2⟩ : Walk_way), Own.map b2 (rArr 32 (rInt .u8)) (rSl 1 (rInt .u8)) (([] : (List Int)), false, c33.2.1, c33.2.2.1, c33.2.2.2.1, c33.2.2.2.2.1, c33.2.2.2.2.2.1, c33.2.2.2.2.2.2).2.2.1, Own.map b4 (rArr 32 (rInt .u8)) (rInt .i64) (([] : (List Int)), false, c33.2.1, c33.2.2.1, c33.2.2.2.1, c33.2.2.2.2.1, c33.2.2.2.2.2.1, c33.2.2.2.2.2.2).2.2.2.1, Own.buf y1 48 (rFileF h0) (([] : (List Int)), false, c33.2.1, c33.2.2.1, c33.2.2.2.1, c33.2.2.2.2.1, c33.2.2.2.2.2.1, c33.2.2.2.2.2.2).2.2.2.2.2.2.1] ∧ fs = [(rSl 1 (rInt .u8)).fact y0 (([] : (List Int)), false, c33.2.1, c33.2.2.1, c33.2.2.2.1, c33.2.2.2.2.1, c33.2.2.2.2.2.1, c33.2.2.2.2.2.2).1, rBool.fact (.bool (([] : (List Int)), false, c33.2.1, c33.2.2.1, c33.2.2.2.1, c33.2.2.2.2.1, c33.2.2.2.2.2.1, c33.2.2.2.2.2.2).2.1) (([] : (List Int)), false, c33.2.1, c33.2.2.1, c33.2.2.2.1, c33.2.2.2.2.1, c33.2.2.2.2.2.1, c33.2.2.2.2.2.2).2.1]) hR _ (.inl rfl) [Own.box b1 rWalk_way (⟨(.map (some b2)), (.map (some b4)), c33.2.2.2.1, c33.2.2.2.2.1, z38, c33.2.2.2.2.2.2⟩ : Walk_way), Own.map b2 (rArr 32 (rInt .u8)) (rSl 1 (rInt .u8)) c33.2.1, Own.map b4 (rArr 32 (rInt .u8)) (rInt .i64) c33.2.2.1, Own.buf z38 48 (rFileF h0) c33.2.2.2.2.2.1] [(rSl 1 (rInt .u8)).fact (.slice none 0 0) ([] : (List Int)), rBool.fact (.bool false) false] [0, 1, 2, 3] (Sel.cons rfl (Sel.cons rfl (Sel.cons rfl (Sel.cons rfl Sel.nil)))) rfl (HasFs.cons hv_nil (HasFs.cons hv_bool HasFs.nil)) (.tuple #[(.slice none 0 0), (.bool false)]) (fun a w hs => run_results (vs := [(.slice none 0 0), (.bool false)]) rfl (RvOk.cons (rv_tmp hs rfl) (RvOk.cons (rv_tmp hs rfl) RvOk.nil))) ⟨(.slice none 0 0), z38, rfl, rfl, rfl⟩
    · have hf := if_f hb32 hf
      refine t_skip ?_
      refine q_then_code ?_
      refine t_seq ?_
      refine t_cut (X := Unit) (fun _ => (([(0, (.pointer (some ⟨b1, 0, none⟩))), (6, v30)], [past h0, (rSl 1 (rInt .u8)).fact v30 ((mget x3 a1).getD (rSl 1 (rInt .u8)).zeroD)], [Own.box b1 rWalk_way (⟨(.map (some b2)), (.map (some b4)), (IntKind.i64.wrap (x6 + (1 : Int))), x7, z8, x10⟩ : Walk_way), Own.map b2 (rArr 32 (rInt .u8)) (rSl 1 (rInt .u8)) x3, Own.map b4 (rArr 32 (rInt .u8)) (rInt .i64) (mset x5 a1 (IntKind.i64.wrap (((mget x5 a1).getD (rInt .i64).zeroD) + (1 : Int)))), Own.buf z8 48 (rFileF h0) x9]) : Sym)) (fun _ => True) ?_ ?_
      · refine t_any (n := 10) [2, 5, 6, 7, 8, 9, 10, 11, 12, 13, 14, 15, 16] mixed ⟨by kernel_rfl, .inl rfl⟩ (np_cut (np_then np_body)) ?_
        refine ta_take (i := 0) rfl (by kernel_rfl) gd_none (d_move rfl ?_)
        refine ta_take (i := 1) rfl (by kernel_rfl) gd_none (d_nilCheck rfl ?_)
        refine ta_take (i := 2) rfl (by kernel_rfl) gd_none (d_field_own rfl fo70_1 ?_)
        refine ta_take (i := 3) rfl (by kernel_rfl) gd_none (d_load_raw 0 (.map (some b4)) rfl rfl (Fld.at0 fl_Walk_way_met) trivial tyr68 rfl rfl ?_)
        refine ta_take (i := 4) rfl (by kernel_rfl) gd_none (d_load_box 4 rfl rfl (Fld.self (rArr 32 (rInt .u8))) trivial ty29 rfl (fun v47 => ?_))
        refine ta_two (i := 5) (j := 7) (by kernel_rfl) rfl rfl rfl gd_none gd_none ?_ ?_
        · refine gop_of rfl rfl (d_lookup_own 2 rfl rfl rfl (hv_fact (mem_at 0 rfl)) Try.underlying68 (KeyAt.ints Try.underlying29 Try.underlying5 ty5) ty3 rfl (fun v49 => ?_))
          refine ta_int (mem_at 0 rfl) (fun hv52 hw51 => ?_)
          subst hv52
          refine ta_take (i := 6) rfl (by kernel_rfl) gd_none (d_add rfl rfl ?_)
          refine ta_one (i := 7) (by kernel_rfl) rfl rfl gd_none (g_mapEntry 2 rfl rfl rfl rfl (hv_fact (mem_at 1 rfl)) Try.underlying68 (KeyAt.ints Try.underlying29 Try.underlying5 ty5) ty3 (by decide) (fun v53 b54 => ?_))
          refine ta_M [Own.box b1 rWalk_way (⟨(.map (some b2)), (.map (some b4)), (IntKind.i64.wrap (x6 + (1 : Int))), x7, z8, x10⟩ : Walk_way), Own.map b2 (rArr 32 (rInt .u8)) (rSl 1 (rInt .u8)) x3, Own.ment b4 (rArr 32 (rInt .u8)) (rInt .i64) x5 a1 b54, Own.buf z8 48 (rFileF h0) x9, Own.box b12 (rArr 32 (rInt .u8)) a1] rfl ?_
          refine ta_take (i := 8) rfl (by kernel_rfl) gd_none (d_extract rfl rfl ?_)
          refine ta_one (i := 9) (by kernel_rfl) rfl rfl gd_none (g_entryStore 2 rfl rfl rfl rfl (hv_int (wrap_wrap _ _)) (by decide) ?_)
          refine ta_M [Own.box b1 rWalk_way (⟨(.map (some b2)), (.map (some b4)), (IntKind.i64.wrap (x6 + (1 : Int))), x7, z8, x10⟩ : Walk_way), Own.map b2 (rArr 32 (rInt .u8)) (rSl 1 (rInt .u8)) x3, Own.map b4 (rArr 32 (rInt .u8)) (rInt .i64) (mset x5 a1 (IntKind.i64.wrap (((mget x5 a1).getD (rInt .i64).zeroD) + (1 : Int)))), Own.buf z8 48 (rFileF h0) x9, Own.box b12 (rArr 32 (rInt .u8)) a1] rfl ?_
          refine ta_done (by kernel_rfl) ?_
          exact q_cut () trivial ⟨rfl, ⟨rfl, trivial⟩⟩ ⟨mem_at 5 rfl, ⟨mem_at 2 rfl, trivial⟩⟩ [0, 1, 2, 3] (Sel.cons rfl (Sel.cons rfl (Sel.cons rfl (Sel.cons rfl Sel.nil)))) rfl
        · refine g_mapEntry 2 rfl rfl rfl rfl (hv_fact (mem_at 0 rfl)) Try.underlying68 (KeyAt.ints Try.underlying29 Try.underlying5 ty5) ty3 (by decide) (fun v55 b56 => ?_)
          refine ta_M [Own.box b1 rWalk_way (⟨(.map (some b2)), (.map (some b4)), (IntKind.i64.wrap (x6 + (1 : Int))), x7, z8, x10⟩ : Walk_way), Own.map b2 (rArr 32 (rInt .u8)) (rSl 1 (rInt .u8)) x3, Own.ment b4 (rArr 32 (rInt .u8)) (rInt .i64) x5 a1 b56, Own.buf z8 48 (rFileF h0) x9, Own.box b12 (rArr 32 (rInt .u8)) a1] rfl ?_
          refine ta_take (i := 8) rfl (by kernel_rfl) gd_none (d_extract rfl rfl ?_)
          refine ta_one (i := 5) (by kernel_rfl) rfl rfl gd_none (gop_of rfl rfl (d_lookup_ment 2 rfl rfl rfl (hv_fact (mem_at 0 rfl)) Try.underlying68 (KeyAt.ints Try.underlying29 Try.underlying5 ty5) ty3 rfl (fun v57 => ?_)))
          refine ta_int (mem_at 0 rfl) (fun hv60 hw59 => ?_)
          subst hv60
          refine ta_take (i := 6) rfl (by kernel_rfl) gd_none (d_add rfl rfl ?_)
          refine ta_one (i := 9) (by kernel_rfl) rfl rfl gd_none (g_entryStore 2 rfl rfl rfl rfl (hv_int (wrap_wrap _ _)) (by decide) ?_)
          refine ta_M [Own.box b1 rWalk_way (⟨(.map (some b2)), (.map (some b4)), (IntKind.i64.wrap (x6 + (1 : Int))), x7, z8, x10⟩ : Walk_way), Own.map b2 (rArr 32 (rInt .u8)) (rSl 1 (rInt .u8)) x3, Own.map b4 (rArr 32 (rInt .u8)) (rInt .i64) (mset x5 a1 (IntKind.i64.wrap (((mget x5 a1).getD (rInt .i64).zeroD) + (1 : Int)))), Own.buf z8 48 (rFileF h0) x9, Own.box b12 (rArr 32 (rInt .u8)) a1] rfl ?_
          refine ta_done (by kernel_rfl) ?_
          exact q_cut () trivial ⟨rfl, ⟨rfl, trivial⟩⟩ ⟨mem_at 5 rfl, ⟨mem_at 2 rfl, trivial⟩⟩ [0, 1, 2, 3] (Sel.cons rfl (Sel.cons rfl (Sel.cons rfl (Sel.cons rfl Sel.nil)))) rfl
      rintro _ _
      refine q_then_code ?_
      refine t_seq ?_
      refine t_region ?_
      refine tl_d rfl (d_move rfl ?_)
      refine tl_d rfl (d_assign rfl ?_)
      refine tl_d rfl (d_assign rfl ?_)
      refine tl_nil ?_
      refine q_then_code ?_
      refine t_ret ?_
      have hr := Option.some.inj hf; subst hr
      exact q_retN (post := fun v N fs => ∃ (y0 : Value) (y1 : Value), v = (.tuple #[y0, (.bool (((mget x3 a1).getD (rSl 1 (rInt .u8)).zeroD), true, x3, (mset x5 a1 (IntKind.i64.wrap (((mget x5 a1).getD (rInt .i64).zeroD) + (1 : Int)))), (IntKind.i64.wrap (x6 + (1 : Int))), x7, x9, x10).2.1)]) ∧ N = [Own.box b1 rWalk_way (⟨(.map (some b2)), (.map (some b4)), (((mget x3 a1).getD (rSl 1 (rInt .u8)).zeroD), true, x3, (mset x5 a1 (IntKind.i64.wrap (((mget x5 a1).getD (rInt .i64).zeroD) + (1 : Int)))), (IntKind.i64.wrap (x6 + (1 : Int))), x7, x9, x10).2.2.2.2.1, (((mget x3 a1).getD (rSl 1 (rInt .u8)).zeroD), true, x3, (mset x5 a1 (IntKind.i64.wrap (((mget x5 a1).getD (rInt .i64).zeroD) + (1 : Int)))), (IntKind.i64.wrap (x6 + (1 : Int))), x7, x9, x10).2.2.2.2.2.1, y1, (((mget x3 a1).getD (rSl 1 (rInt .u8)).zeroD), true, x3, (mset x5 a1 (IntKind.i64.wrap (((mget x5 a1).getD (rInt .i64).zeroD) + (1 : Int)))), (IntKind.i64.wrap (x6 + (1 : Int))), x7, x9, x10).2.2.2.2.2.2.2⟩ : Walk_way), Own.map b2 (rArr 32 (rInt .u8)) (rSl 1 (rInt .u8)) (((mget x3 a1).getD (rSl 1 (rInt .u8)).zeroD), true, x3, (mset x5 a1 (IntKind.i64.wrap (((mget x5 a1).getD (rInt .i64).zeroD) + (1 : Int)))), (IntKind.i64.wrap (x6 + (1 : Int))), x7, x9, x10).2.2.1, Own.map b4 (rArr 32 (rInt .u8)) (rInt .i64) (((mget x3 a1).getD (rSl 1 (rInt .u8)).zeroD), true, x3, (mset x5 a1 (IntKind.i64.wrap (((mget x5 a1).getD (rInt .i64).zeroD) + (1 : Int)))), (IntKind.i64.wrap (x6 + (1 : Int))), x7, x9, x10).2.2.2.1, Own.buf y1 48 (rFileF h0) (((mget x3 a1).getD (rSl 1 (rInt .u8)).zeroD), true, x3, (mset x5 a1 (IntKind.i64.wrap (((mget x5 a1).getD (rInt .i64).zeroD) + (1 : Int)))), (IntKind.i64.wrap (x6 + (1 : Int))), x7, x9, x10).2.2.2.2.2.2.1] ∧ fs = [(rSl 1 (rInt .u8)).fact y0 (((mget x3 a1).getD (rSl 1 (rInt .u8)).zeroD), true, x3, (mset x5 a1 (IntKind.i64.wrap (((mget x5 a1).getD (rInt .i64).zeroD) + (1 : Int)))), (IntKind.i64.wrap (x6 + (1 : Int))), x7, x9, x10).1, rBool.fact (.bool (((mget x3 a1).getD (rSl 1 (rInt .u8)).zeroD), true, x3, (mset x5 a1 (IntKind.i64.wrap (((mget x5 a1).getD (rInt .i64).zeroD) + (1 : Int)))), (IntKind.i64.wrap (x6 + (1 : Int))), x7, x9, x10).2.1) (((mget x3 a1).getD (rSl 1 (rInt .u8)).zeroD), true, x3, (mset x5 a1 (IntKind.i64.wrap (((mget x5 a1).getD (rInt .i64).zeroD) + (1 : Int)))), (IntKind.i64.wrap (x6 + (1 : Int))), x7, x9, x10).2.1]) hR _ (.inl rfl) [Own.box b1 rWalk_way (⟨(.map (some b2)), (.map (some b4)), (IntKind.i64.wrap (x6 + (1 : Int))), x7, z8, x10⟩ : Walk_way), Own.map b2 (rArr 32 (rInt .u8)) (rSl 1 (rInt .u8)) x3, Own.map b4 (rArr 32 (rInt .u8)) (rInt .i64) (mset x5 a1 (IntKind.i64.wrap (((mget x5 a1).getD (rInt .i64).zeroD) + (1 : Int)))), Own.buf z8 48 (rFileF h0) x9] [(rSl 1 (rInt .u8)).fact v30 ((mget x3 a1).getD (rSl 1 (rInt .u8)).zeroD), rBool.fact (.bool true) true] [0, 1, 2, 3] (Sel.cons rfl (Sel.cons rfl (Sel.cons rfl (Sel.cons rfl Sel.nil)))) rfl (HasFs.cons (hv_fact (mem_at 1 rfl)) (HasFs.cons hv_bool HasFs.nil)) (.tuple #[v30, (.bool true)]) (fun a w hs => run_results (vs := [v30, (.bool true)]) rfl (RvOk.cons (rv_tmp hs rfl) (RvOk.cons (rv_tmp hs rfl) RvOk.nil))) ⟨v30, z8, rfl, rfl, rfl⟩


def slices_Clone_64.f (a0 : List Int) : Option (List Int) := some a0
set_option maxRecDepth 100000 in
theorem slices_Clone_64_ok (a0 : List Int) (u0 : Value) (r : List Int) (hf : slices_Clone_64.f a0 = some r) : Cf.FnX true Try.prog 64 [u0] (fun w m => (rSl 1 (rInt .u8)).val w m u0 a0) (fun w w' m v => OwnRes (rInt .u8) 1 w w' m v r) := by
  have hr := Option.some.inj hf; subst hr
  refine fn_of Try.func64 rfl (Nat.le_of_ble_eq_true rfl) [(rSl 1 (rInt .u8)).fact u0 a0] (fun w m h f hf => ?_) ?_
  · simp at hf; obtain rfl := hf; exact h
  intro w0 m0 R hR
  refine t_seq ?_
  refine t_region ?_
  refine tl_d rfl (d_assign rfl ?_)
  refine tl_nil ?_
  refine q_then_code ?_
  refine t_seq ?_
  refine t_seq ?_
  refine t_region ?_
  refine tl_d rfl (d_move rfl ?_)
  refine tl_d rfl (d_eql_nil rfl (mem_at 0 rfl) Try.underlying32 (fun b hb => ?_))
  refine tl_nil ?_
  refine q_then_code ?_
  refine t_cond rfl (fun h1 => ?_) (fun h1 => ?_)
  · refine t_seq ?_
    refine t_region ?_
    refine tl_d rfl (d_assign rfl ?_)
    refine tl_nil ?_
    refine q_then_code ?_
    refine t_ret ?_
    refine q_then_ret ?_
    obtain rfl := hb h1
    refine q_ret (post := fun w w' m v => OwnRes (rInt .u8) 1 w w' m v ([] : List Int)) hR _ (.inl rfl) (fun a w hs => ?_)
    exact ⟨_, run_results rfl (RvOk.cons (rv_tmp hs rfl) RvOk.nil), ownres_nil⟩
  · refine t_skip ?_
    refine q_then_code ?_
    refine t_len (mem_at 0 rfl) (fun hl1 hl2 => ?_)
    refine t_seq ?_
    refine t_region ?_
    refine tl_g [] rfl (g_buildSlice (R := (rInt .u8)) (l := ([] : List Int)) rfl Try.underlying32 ty5 ⟨rfl, by decide, by decide, by decide⟩ PartsOk.nil rfl (fun v1 => ?_))
    refine tl_d rfl (d_move rfl ?_)
    refine tl_g _ rfl (g_append_sl (l2 := a0) 0 rfl rfl rfl rfl (hv_fact (mem_at 0 rfl)) Try.underlying32 ⟨_, Try.underlying32, fun k h => by cases h⟩ ty5 ⟨by simpa using hl2, by simpa using hl1⟩ (List.mem_singleton_self _) (fun v2 => ?_))
    refine tl_d rfl (d_assign rfl ?_)
    refine tl_nil ?_
    refine q_then_code ?_
    refine t_ret ?_
    refine q_ret (post := fun w w' m v => OwnRes (rInt .u8) 1 w w' m v (([] : List Int) ++ a0)) hR _ (.inl rfl) (fun a w hs => ?_)
    exact ⟨_, run_results rfl (RvOk.cons (rv_tmp hs rfl) RvOk.nil), (hs.ownres (i := 0) rfl)⟩

def walk_way_file.f (x3 : (List ((List Int) × (List Int)))) (x5 : (List ((List Int) × Int))) (x6 : Int) (x7 : Bool) (x9 : (List Api_File)) (x10 : Int) (a1 : Api_Item) (a2 : (List Int)) : Option ((List ((List Int) × (List Int))) × (List ((List Int) × Int)) × Int × Bool × (List Api_File) × Int) := ((walk_way_object.f x3 x5 x6 x7 x9 x10 ((a1).Of)).bind fun c15 => (if (!c15.2.1) = true then (some (c15.2.2.1, c15.2.2.2.1, c15.2.2.2.2.1, c15.2.2.2.2.2.1, c15.2.2.2.2.2.2.1, c15.2.2.2.2.2.2.2)) else (if (!decide (((c15.1).length : Int) = ((a1).Size))) = true then ((walk_way_bad.f c15.2.2.1 c15.2.2.2.1 c15.2.2.2.2.1 c15.2.2.2.2.2.1 c15.2.2.2.2.2.2.1 c15.2.2.2.2.2.2.2 (9 : Int)).bind fun c33 => (some (c33.2.1, c33.2.2.1, c33.2.2.2.1, c33.2.2.2.2.1, c33.2.2.2.2.2.1, c33.2.2.2.2.2.2))) else ((if c15.2.2.2.2.2.1 = true then (need ((a2).length + (((a1).Name)).length ≤ maxB) ((slices_Clone_64.f c15.1).bind fun c49 => need (fits 48 ((c15.2.2.2.2.2.2.1).length + ([(⟨(a2 ++ ((a1).Name)), false, c49⟩ : Api_File)]).length)) ((some (c15.2.2.2.2.2.2.1 ++ [(⟨(a2 ++ ((a1).Name)), false, c49⟩ : Api_File)]))))) else (some c15.2.2.2.2.2.2.1))).bind fun s39 => (some (c15.2.2.1, c15.2.2.2.1, c15.2.2.2.2.1, c15.2.2.2.2.2.1, s39, c15.2.2.2.2.2.2.2)))))
set_option maxRecDepth 100000 in
set_option maxHeartbeats 1210000 in
theorem walk_way_file_ok (x3 : (List ((List Int) × (List Int)))) (x5 : (List ((List Int) × Int))) (x6 : Int) (x7 : Bool) (x9 : (List Api_File)) (x10 : Int) (a1 : Api_Item) (a2 : (List Int)) (h0 : Nat) (b1 : Nat) (b2 : Nat) (b4 : Nat) (z8 : Value) (u1 : Value) (u2 : Value) (r : (List ((List Int) × (List Int))) × (List ((List Int) × Int)) × Int × Bool × (List Api_File) × Int) (hf : walk_way_file.f x3 x5 x6 x7 x9 x10 a1 a2 = some r) : Cf.FnM true Try.prog 48 [(.pointer (some ⟨b1, 0, none⟩)), u1, u2] [Own.box b1 rWalk_way (⟨(.map (some b2)), (.map (some b4)), x6, x7, z8, x10⟩ : Walk_way), Own.map b2 (rArr 32 (rInt .u8)) (rSl 1 (rInt .u8)) x3, Own.map b4 (rArr 32 (rInt .u8)) (rInt .i64) x5, Own.buf z8 48 (rFileF h0) x9] [rApi_Item.fact u1 a1, rStr.fact u2 a2, past h0] (fun v N fs => ∃ (y0 : Value), v = (.tuple #[]) ∧ N = [Own.box b1 rWalk_way (⟨(.map (some b2)), (.map (some b4)), r.2.2.1, r.2.2.2.1, y0, r.2.2.2.2.2⟩ : Walk_way), Own.map b2 (rArr 32 (rInt .u8)) (rSl 1 (rInt .u8)) r.1, Own.map b4 (rArr 32 (rInt .u8)) (rInt .i64) r.2.1, Own.buf y0 48 (rFileF h0) r.2.2.2.2.1] ∧ fs = []) := by
  unfold walk_way_file.f at hf
  refine fn_ofN Try.func48 rfl (Nat.le_of_ble_eq_true rfl) ?_
  intro w0 m0 R hR
  refine t_seq ?_
  refine t_region ?_
  refine tl_g [] rfl (g_box (R := rApi_Item) rfl rfl (hv_fact (mem_at 0 rfl)) (fun b12 => ?_))
  refine tl_M [Own.box b1 rWalk_way (⟨(.map (some b2)), (.map (some b4)), x6, x7, z8, x10⟩ : Walk_way), Own.map b2 (rArr 32 (rInt .u8)) (rSl 1 (rInt .u8)) x3, Own.map b4 (rArr 32 (rInt .u8)) (rInt .i64) x5, Own.buf z8 48 (rFileF h0) x9, Own.box b12 rApi_Item a1] rfl ?_
  refine tl_nil ?_
  refine q_then_code ?_
  refine t_seq ?_
  obtain ⟨c15, hc16, hf⟩ := bind_some hf
  refine t_region ?_
  refine tl_d rfl (d_move rfl ?_)
  refine tl_d rfl (d_field_own rfl fo54_2 ?_)
  refine tl_d rfl (d_load_box 4 rfl rfl (Fld.at0 fl_Api_Item_Of) trivial ty29 rfl (fun v21 => ?_))
  refine tl_sel [Own.box b1 rWalk_way (⟨(.map (some b2)), (.map (some b4)), x6, x7, z8, x10⟩ : Walk_way), Own.map b2 (rArr 32 (rInt .u8)) (rSl 1 (rInt .u8)) x3, Own.map b4 (rArr 32 (rInt .u8)) (rInt .i64) x5, Own.buf z8 48 (rFileF h0) x9, Own.box b12 rApi_Item a1] [0, 1, 2, 3, 4] (Sel.cons rfl (Sel.cons rfl (Sel.cons rfl (Sel.cons rfl (Sel.cons rfl Sel.nil))))) rfl ?_
  refine tl_g1 rfl (g_callM (Min := [Own.box b1 rWalk_way (⟨(.map (some b2)), (.map (some b4)), x6, x7, z8, x10⟩ : Walk_way), Own.map b2 (rArr 32 (rInt .u8)) (rSl 1 (rInt .u8)) x3, Own.map b4 (rArr 32 (rInt .u8)) (rInt .i64) x5, Own.buf z8 48 (rFileF h0) x9]) (B := [Own.box b12 rApi_Item a1]) rfl hfn47 (walk_way_object_ok _ _ _ _ _ _ _ _ _ _ _ _ _ _ hc16) (Evs.cons rfl (Evs.cons rfl Evs.nil)) (HasFs.cons (hv_fact (mem_at 0 rfl)) (HasFs.mem (mem_at 3 rfl) HasFs.nil)) ?_)
  rintro _ _ _ ⟨z23, z26, rfl, rfl, rfl⟩
  refine tl_sel [Own.box b1 rWalk_way (⟨(.map (some b2)), (.map (some b4)), c15.2.2.2.2.1, c15.2.2.2.2.2.1, z26, c15.2.2.2.2.2.2.2⟩ : Walk_way), Own.map b2 (rArr 32 (rInt .u8)) (rSl 1 (rInt .u8)) c15.2.2.1, Own.map b4 (rArr 32 (rInt .u8)) (rInt .i64) c15.2.2.2.1, Own.buf z26 48 (rFileF h0) c15.2.2.2.2.2.2.1, Own.box b12 rApi_Item a1] [0, 1, 2, 3, 4] (Sel.cons rfl (Sel.cons rfl (Sel.cons rfl (Sel.cons rfl (Sel.cons rfl Sel.nil))))) rfl ?_
  refine tl_M [Own.box b1 rWalk_way (⟨(.map (some b2)), (.map (some b4)), c15.2.2.2.2.1, c15.2.2.2.2.2.1, z26, c15.2.2.2.2.2.2.2⟩ : Walk_way), Own.map b2 (rArr 32 (rInt .u8)) (rSl 1 (rInt .u8)) c15.2.2.1, Own.map b4 (rArr 32 (rInt .u8)) (rInt .i64) c15.2.2.2.1, Own.buf z26 48 (rFileF h0) c15.2.2.2.2.2.2.1, Own.box b12 rApi_Item a1] rfl ?_
  refine tl_d rfl (d_move rfl ?_)
  refine tl_d rfl (d_extract rfl rfl ?_)
  refine tl_d rfl (d_extract rfl rfl ?_)
  refine tl_d rfl (d_assign rfl ?_)
  refine tl_d rfl (d_assign rfl ?_)
  refine tl_nil ?_
  refine q_then_code ?_
  refine t_seq ?_
  refine t_seq ?_
  refine t_region ?_
  refine tl_d rfl (d_move rfl ?_)
  refine tl_d rfl (d_not rfl ?_)
  refine tl_nil ?_
  refine q_then_code ?_
  refine t_cond rfl (fun hb27 => ?_) (fun hb27 => ?_)
  · have hf := if_t hb27 hf
    refine t_ret ?_
    refine q_then_ret ?_
    have hr := Option.some.inj hf; subst hr
    exact q_retN (post := fun v N fs => ∃ (y0 : Value), v = (.tuple #[]) ∧ N = [Own.box b1 rWalk_way (⟨(.map (some b2)), (.map (some b4)), (c15.2.2.1, c15.2.2.2.1, c15.2.2.2.2.1, c15.2.2.2.2.2.1, c15.2.2.2.2.2.2.1, c15.2.2.2.2.2.2.2).2.2.1, (c15.2.2.1, c15.2.2.2.1, c15.2.2.2.2.1, c15.2.2.2.2.2.1, c15.2.2.2.2.2.2.1, c15.2.2.2.2.2.2.2).2.2.2.1, y0, (c15.2.2.1, c15.2.2.2.1, c15.2.2.2.2.1, c15.2.2.2.2.2.1, c15.2.2.2.2.2.2.1, c15.2.2.2.2.2.2.2).2.2.2.2.2⟩ : Walk_way), Own.map b2 (rArr 32 (rInt .u8)) (rSl 1 (rInt .u8)) (c15.2.2.1, c15.2.2.2.1, c15.2.2.2.2.1, c15.2.2.2.2.2.1, c15.2.2.2.2.2.2.1, c15.2.2.2.2.2.2.2).1, Own.map b4 (rArr 32 (rInt .u8)) (rInt .i64) (c15.2.2.1, c15.2.2.2.1, c15.2.2.2.2.1, c15.2.2.2.2.2.1, c15.2.2.2.2.2.2.1, c15.2.2.2.2.2.2.2).2.1, Own.buf y0 48 (rFileF h0) (c15.2.2.1, c15.2.2.2.1, c15.2.2.2.2.1, c15.2.2.2.2.2.1, c15.2.2.2.2.2.2.1, c15.2.2.2.2.2.2.2).2.2.2.2.1] ∧ fs = []) hR _ (.inl rfl) [Own.box b1 rWalk_way (⟨(.map (some b2)), (.map (some b4)), c15.2.2.2.2.1, c15.2.2.2.2.2.1, z26, c15.2.2.2.2.2.2.2⟩ : Walk_way), Own.map b2 (rArr 32 (rInt .u8)) (rSl 1 (rInt .u8)) c15.2.2.1, Own.map b4 (rArr 32 (rInt .u8)) (rInt .i64) c15.2.2.2.1, Own.buf z26 48 (rFileF h0) c15.2.2.2.2.2.2.1] [] [0, 1, 2, 3] (Sel.cons rfl (Sel.cons rfl (Sel.cons rfl (Sel.cons rfl Sel.nil)))) rfl HasFs.nil (.tuple #[]) (fun a w hs => run_results (vs := []) rfl (RvOk.nil)) ⟨z26, rfl, rfl, rfl⟩
  · have hf := if_f hb27 hf
    refine t_skip ?_
    refine q_then_code ?_
    refine t_seq ?_
    refine t_seq ?_
    refine t_region ?_
    refine tl_d rfl (d_move rfl ?_)
    refine tl_d rfl (d_len_sl rfl (mem_at 0 rfl) Try.underlying32 (fun hl30 _ => ?_))
    refine tl_d rfl (d_field_own rfl fo54_3 ?_)
    refine tl_d rfl (d_load_box_int 4 rfl rfl (Fld.at0 fl_Api_Item_Size) trivial ty2 rfl (fun hw31 => ?_))
    refine tl_d rfl (d_neq rfl rfl ?_)
    refine tl_nil ?_
    refine q_then_code ?_
    refine t_cond rfl (fun hb32 => ?_) (fun hb32 => ?_)
    · have hf := if_t hb32 hf
      refine t_seq ?_
      obtain ⟨c33, hc34, hf⟩ := bind_some hf
      refine t_region ?_
      refine tl_d rfl (d_move rfl ?_)
      refine tl_sel [Own.box b1 rWalk_way (⟨(.map (some b2)), (.map (some b4)), c15.2.2.2.2.1, c15.2.2.2.2.2.1, z26, c15.2.2.2.2.2.2.2⟩ : Walk_way), Own.map b2 (rArr 32 (rInt .u8)) (rSl 1 (rInt .u8)) c15.2.2.1, Own.map b4 (rArr 32 (rInt .u8)) (rInt .i64) c15.2.2.2.1, Own.buf z26 48 (rFileF h0) c15.2.2.2.2.2.2.1, Own.box b12 rApi_Item a1] [0, 1, 2, 3, 4] (Sel.cons rfl (Sel.cons rfl (Sel.cons rfl (Sel.cons rfl (Sel.cons rfl Sel.nil))))) rfl ?_
      refine tl_g1 rfl (g_callM (Min := [Own.box b1 rWalk_way (⟨(.map (some b2)), (.map (some b4)), c15.2.2.2.2.1, c15.2.2.2.2.2.1, z26, c15.2.2.2.2.2.2.2⟩ : Walk_way), Own.map b2 (rArr 32 (rInt .u8)) (rSl 1 (rInt .u8)) c15.2.2.1, Own.map b4 (rArr 32 (rInt .u8)) (rInt .i64) c15.2.2.2.1, Own.buf z26 48 (rFileF h0) c15.2.2.2.2.2.2.1]) (B := [Own.box b12 rApi_Item a1]) rfl hfn46 (walk_way_bad_ok _ _ _ _ _ _ _ _ _ _ _ _ _ hc34) (Evs.cons rfl (Evs.cons rfl Evs.nil)) (HasFs.cons (hv_int rfl) (HasFs.mem (mem_at 5 rfl) HasFs.nil)) ?_)
      rintro _ _ _ ⟨z38, rfl, rfl, rfl⟩
      refine tl_sel [Own.box b1 rWalk_way (⟨(.map (some b2)), (.map (some b4)), c33.2.2.2.1, c33.2.2.2.2.1, z38, c33.2.2.2.2.2.2⟩ : Walk_way), Own.map b2 (rArr 32 (rInt .u8)) (rSl 1 (rInt .u8)) c33.2.1, Own.map b4 (rArr 32 (rInt .u8)) (rInt .i64) c33.2.2.1, Own.buf z38 48 (rFileF h0) c33.2.2.2.2.2.1, Own.box b12 rApi_Item a1] [0, 1, 2, 3, 4] (Sel.cons rfl (Sel.cons rfl (Sel.cons rfl (Sel.cons rfl (Sel.cons rfl Sel.nil))))) rfl ?_
      refine tl_M [Own.box b1 rWalk_way (⟨(.map (some b2)), (.map (some b4)), c33.2.2.2.1, c33.2.2.2.2.1, z38, c33.2.2.2.2.2.2⟩ : Walk_way), Own.map b2 (rArr 32 (rInt .u8)) (rSl 1 (rInt .u8)) c33.2.1, Own.map b4 (rArr 32 (rInt .u8)) (rInt .i64) c33.2.2.1, Own.buf z38 48 (rFileF h0) c33.2.2.2.2.2.1, Own.box b12 rApi_Item a1] rfl ?_
      refine tl_nil ?_
      refine q_then_code ?_
      refine t_ret ?_
      refine q_then_ret ?_
      have hr := Option.some.inj hf; subst hr
      exact q_retN (post := fun v N fs => ∃ (y0 : Value), v = (.tuple #[]) ∧ N = [Own.box b1 rWalk_way (⟨(.map (some b2)), (.map (some b4)), (c33.2.1, c33.2.2.1, c33.2.2.2.1, c33.2.2.2.2.1, c33.2.2.2.2.2.1, c33.2.2.2.2.2.2).2.2.1, (c33.2.1, c33.2.2.1, c33.2.2.2.1, c33.2.2.2.2.1, c33.2.2.2.2.2.1, c33.2.2.2.2.2.2).2.2.2.1, y0, (c33.2.1, c33.2.2.1, c33.2.2.2.1, c33.2.2.2.2.1, c33.2.2.2.2.2.1, c33.2.2.2.2.2.2).2.2.2.2.2⟩ : Walk_way), Own.map b2 (rArr 32 (rInt .u8)) (rSl 1 (rInt .u8)) (c33.2.1, c33.2.2.1, c33.2.2.2.1, c33.2.2.2.2.1, c33.2.2.2.2.2.1, c33.2.2.2.2.2.2).1, Own.map b4 (rArr 32 (rInt .u8)) (rInt .i64) (c33.2.1, c33.2.2.1, c33.2.2.2.1, c33.2.2.2.2.1, c33.2.2.2.2.2.1, c33.2.2.2.2.2.2).2.1, Own.buf y0 48 (rFileF h0) (c33.2.1, c33.2.2.1, c33.2.2.2.1, c33.2.2.2.2.1, c33.2.2.2.2.2.1, c33.2.2.2.2.2.2).2.2.2.2.1] ∧ fs = []) hR _ (.inl rfl) [Own.box b1 rWalk_way (⟨(.map (some b2)), (.map (some b4)), c33.2.2.2.1, c33.2.2.2.2.1, z38, c33.2.2.2.2.2.2⟩ : Walk_way), Own.map b2 (rArr 32 (rInt .u8)) (rSl 1 (rInt .u8)) c33.2.1, Own.map b4 (rArr 32 (rInt .u8)) (rInt .i64) c33.2.2.1, Own.buf z38 48 (rFileF h0) c33.2.2.2.2.2.1] [] [0, 1, 2, 3] (Sel.cons rfl (Sel.cons rfl (Sel.cons rfl (Sel.cons rfl Sel.nil)))) rfl HasFs.nil (.tuple #[]) (fun a w hs => run_results (vs := []) rfl (RvOk.nil)) ⟨z38, rfl, rfl, rfl⟩
    · have hf := if_f hb32 hf
      refine t_skip ?_
      refine q_then_code ?_
      refine t_seq ?_
      refine t_region ?_
      refine tl_d rfl (d_move rfl ?_)
      refine tl_d rfl (d_nilCheck rfl ?_)
      refine tl_d rfl (d_field_own rfl fo70_3 ?_)
      refine tl_d rfl (d_load_box_bool 0 rfl rfl (Fld.at0 fl_Walk_way_tell) trivial ty4 rfl (?_))
      refine tl_nil ?_
      refine q_then_code ?_
      obtain ⟨o41, ho42, hf⟩ := bind_some hf
      refine t_cut (X := (List Api_File) × Value) (fun x => match x with | (s39, z40) => (([(0, .pointer (some ⟨b1, 0, none⟩))], [past h0], [Own.box b1 rWalk_way (⟨(.map (some b2)), (.map (some b4)), c15.2.2.2.2.1, c15.2.2.2.2.2.1, z40, c15.2.2.2.2.2.2.2⟩ : Walk_way), Own.map b2 (rArr 32 (rInt .u8)) (rSl 1 (rInt .u8)) c15.2.2.1, Own.map b4 (rArr 32 (rInt .u8)) (rInt .i64) c15.2.2.2.1, Own.buf z40 48 (rFileF h0) s39]) : Sym)) (fun x => match x with | (s39, z40) => s39 = o41) ?_ ?_
      · have hf := ho42
        clear ho42
        refine t_cond rfl (fun hb43 => ?_) (fun hb43 => ?_)
        · have hf := if_t hb43 hf
          obtain ⟨hn46, hf⟩ := need_some hf
          obtain ⟨c49, hc50, hf⟩ := bind_some hf
          obtain ⟨hn58, hf⟩ := need_some hf
          refine t_any (n := 16) [3, 5, 6, 7, 8, 9, 10, 11, 12, 13, 14, 15, 16] mixed ⟨by kernel_rfl, .inr ⟨rfl, by kernel_rfl⟩⟩ (np_cut np_body) ?_
          refine ta_take (i := 0) rfl (by kernel_rfl) gd_none (d_move rfl ?_)
          refine ta_take (i := 1) rfl (by kernel_rfl) gd_none (d_move rfl ?_)
          refine ta_take (i := 2) rfl (by kernel_rfl) gd_none (d_nilCheck rfl ?_)
          refine ta_take (i := 3) rfl (by kernel_rfl) gd_none (d_field_own rfl fo70_4 ?_)
          refine ta_take (i := 4) rfl (by kernel_rfl) gd_none (d_load_raw 0 z26 rfl rfl (Fld.at0 fl_Walk_way_files) trivial tyr40 rfl rfl ?_)
          refine ta_take (i := 5) rfl (by kernel_rfl) gd_none (d_move rfl ?_)
          refine ta_take (i := 6) rfl (by kernel_rfl) gd_none (d_field_own rfl fo54_0 ?_)
          refine ta_take (i := 7) rfl (by kernel_rfl) gd_none (d_load_box 4 rfl rfl (Fld.at0 fl_Api_Item_Name) trivial ty9 rfl (fun v60 => ?_))
          refine ta_take (i := 8) rfl (by kernel_rfl) gd_none (d_str_add rfl rfl (mem_at 5 rfl) (mem_at 0 rfl) hn46 (fun v62 => ?_))
          refine ta_take (i := 9) rfl (by kernel_rfl) gd_none (d_move rfl ?_)
          refine ta_one (i := 10) (by kernel_rfl) rfl rfl gd_none (g_calloF rfl hfn64 (mem_at 7 rfl) (slices_Clone_64_ok _ _ _ hc50) (Evs.cons rfl Evs.nil) (fun a w hs => (hv_fact (mem_at 2 rfl)) _ _ _ _ hs) (fun v64 => ?_))
          refine ta_M [Own.box b1 rWalk_way (⟨(.map (some b2)), (.map (some b4)), c15.2.2.2.2.1, c15.2.2.2.2.2.1, z26, c15.2.2.2.2.2.2.2⟩ : Walk_way), Own.map b2 (rArr 32 (rInt .u8)) (rSl 1 (rInt .u8)) c15.2.2.1, Own.map b4 (rArr 32 (rInt .u8)) (rInt .i64) c15.2.2.2.1, Own.buf z26 48 (rFileF h0) c15.2.2.2.2.2.2.1, Own.box b12 rApi_Item a1, Own.buf v64 1 (rInt .u8) c49] rfl ?_
          refine ta_freezeF 5 rfl (mem_at 0 rfl) ?_
          refine ta_take (i := 11) rfl (by kernel_rfl) gd_none (d_build2 (y := (⟨(a2 ++ ((a1).Name)), false, c49⟩ : Api_File)) (tyF48 h0) rfl pl48 (BuildOk.cons rfl (flF_Path h0) trivial rfl (hv_fact (mem_at 2 rfl)) (BuildOk.cons rfl (flF_Data h0) trivial rfl (hv_fact (mem_at 0 rfl)) BuildOk.nil)) (fun v67 => ?_))
          refine ta_M [Own.box b1 rWalk_way (⟨(.map (some b2)), (.map (some b4)), c15.2.2.2.2.1, c15.2.2.2.2.2.1, z26, c15.2.2.2.2.2.2.2⟩ : Walk_way), Own.map b2 (rArr 32 (rInt .u8)) (rSl 1 (rInt .u8)) c15.2.2.1, Own.map b4 (rArr 32 (rInt .u8)) (rInt .i64) c15.2.2.2.1, Own.buf z26 48 (rFileF h0) c15.2.2.2.2.2.2.1, Own.box b12 rApi_Item a1, Own.gone] rfl ?_
          refine ta_one (i := 12) (by kernel_rfl) rfl rfl gd_none (g_buildSlice (R := (rFileF h0)) (l := [(⟨(a2 ++ ((a1).Name)), false, c49⟩ : Api_File)]) rfl Try.underlying40 (tyF48 h0) ⟨rfl, Nat.le_of_ble_eq_true rfl, Nat.le_of_ble_eq_true rfl, Nat.le_of_ble_eq_true rfl⟩ (PartsOk.cons rfl rfl (hv_fact (mem_at 0 rfl)) PartsOk.nil) rfl (fun v70 => ?_))
          refine ta_M [Own.box b1 rWalk_way (⟨(.map (some b2)), (.map (some b4)), c15.2.2.2.2.1, c15.2.2.2.2.2.1, z26, c15.2.2.2.2.2.2.2⟩ : Walk_way), Own.map b2 (rArr 32 (rInt .u8)) (rSl 1 (rInt .u8)) c15.2.2.1, Own.map b4 (rArr 32 (rInt .u8)) (rInt .i64) c15.2.2.2.1, Own.buf z26 48 (rFileF h0) c15.2.2.2.2.2.2.1, Own.box b12 rApi_Item a1, Own.gone, Own.buf v70 48 (rFileF h0) [(⟨(a2 ++ ((a1).Name)), false, c49⟩ : Api_File)]] rfl ?_
          refine ta_one (i := 13) (by kernel_rfl) rfl rfl gd_none (g_append_buf 3 6 rfl rfl rfl rfl rfl rfl Try.underlying40 ⟨_, Try.underlying40, fun k h => by cases h⟩ (tyF48 h0) hn58 (by decide) (fun v71 => ?_))
          refine ta_M [Own.box b1 rWalk_way (⟨(.map (some b2)), (.map (some b4)), c15.2.2.2.2.1, c15.2.2.2.2.2.1, z26, c15.2.2.2.2.2.2.2⟩ : Walk_way), Own.map b2 (rArr 32 (rInt .u8)) (rSl 1 (rInt .u8)) c15.2.2.1, Own.map b4 (rArr 32 (rInt .u8)) (rInt .i64) c15.2.2.2.1, Own.buf v71 48 (rFileF h0) (c15.2.2.2.2.2.2.1 ++ [(⟨(a2 ++ ((a1).Name)), false, c49⟩ : Api_File)]), Own.box b12 rApi_Item a1, Own.gone, Own.buf v70 48 (rFileF h0) [(⟨(a2 ++ ((a1).Name)), false, c49⟩ : Api_File)]] rfl ?_
          refine ta_take (i := 14) rfl (by kernel_rfl) gd_none (d_nilCheck rfl ?_)
          refine ta_take (i := 15) rfl (by kernel_rfl) gd_none (d_field_own rfl fo70_4 ?_)
          refine ta_last [0, 1, 2, 3, 4, 5, 6, 7, 8, 9, 10, 11, 12, 13, 14, 15, 16, 17, 18, 19, 20, 21, 22, 23, 24, 25, 26, 27, 28, 29, 30, 31, 32, 33, 34, 35, 36, 37, 38, 39, 40, 41, 42, 43, 44, 45, 46, 47, 48, 49, 50, 51, 52, 53, 54, 55, 56, 57, 58, 59] (by kernel_rfl) (by kernel_rfl) rfl gd_none (g_store_raw (j := 3) 0 rfl rfl rfl rfl (Fld.at0 fl_Walk_way_files) trivial tyr40 (by decide) (⟨(.map (some b2)), (.map (some b4)), c15.2.2.2.2.1, c15.2.2.2.2.2.1, v71, c15.2.2.2.2.2.2.2⟩ : Walk_way) rfl ?_)
          have hr := Option.some.inj hf; subst hr
          exact q_cut ((c15.2.2.2.2.2.2.1 ++ [(⟨(a2 ++ ((a1).Name)), false, c49⟩ : Api_File)]), v71) rfl ⟨rfl, trivial⟩ ⟨mem_at 10 rfl, trivial⟩ [0, 1, 2, 3] (Sel.cons rfl (Sel.cons rfl (Sel.cons rfl (Sel.cons rfl Sel.nil)))) rfl
        · have hf := if_f hb43 hf
          refine t_skip ?_
          have hr := Option.some.inj hf; subst hr
          exact q_cut (c15.2.2.2.2.2.2.1, z26) rfl ⟨rfl, trivial⟩ ⟨mem_at 5 rfl, trivial⟩ [0, 1, 2, 3] (Sel.cons rfl (Sel.cons rfl (Sel.cons rfl (Sel.cons rfl Sel.nil)))) rfl
      rintro ⟨s39, z40⟩ rfl
      have hr := Option.some.inj hf; subst hr
      exact q_retN (post := fun v N fs => ∃ (y0 : Value), v = (.tuple #[]) ∧ N = [Own.box b1 rWalk_way (⟨(.map (some b2)), (.map (some b4)), (c15.2.2.1, c15.2.2.2.1, c15.2.2.2.2.1, c15.2.2.2.2.2.1, s39, c15.2.2.2.2.2.2.2).2.2.1, (c15.2.2.1, c15.2.2.2.1, c15.2.2.2.2.1, c15.2.2.2.2.2.1, s39, c15.2.2.2.2.2.2.2).2.2.2.1, y0, (c15.2.2.1, c15.2.2.2.1, c15.2.2.2.2.1, c15.2.2.2.2.2.1, s39, c15.2.2.2.2.2.2.2).2.2.2.2.2⟩ : Walk_way), Own.map b2 (rArr 32 (rInt .u8)) (rSl 1 (rInt .u8)) (c15.2.2.1, c15.2.2.2.1, c15.2.2.2.2.1, c15.2.2.2.2.2.1, s39, c15.2.2.2.2.2.2.2).1, Own.map b4 (rArr 32 (rInt .u8)) (rInt .i64) (c15.2.2.1, c15.2.2.2.1, c15.2.2.2.2.1, c15.2.2.2.2.2.1, s39, c15.2.2.2.2.2.2.2).2.1, Own.buf y0 48 (rFileF h0) (c15.2.2.1, c15.2.2.2.1, c15.2.2.2.2.1, c15.2.2.2.2.2.1, s39, c15.2.2.2.2.2.2.2).2.2.2.2.1] ∧ fs = []) hR _ (.inr rfl) [Own.box b1 rWalk_way (⟨(.map (some b2)), (.map (some b4)), c15.2.2.2.2.1, c15.2.2.2.2.2.1, z40, c15.2.2.2.2.2.2.2⟩ : Walk_way), Own.map b2 (rArr 32 (rInt .u8)) (rSl 1 (rInt .u8)) c15.2.2.1, Own.map b4 (rArr 32 (rInt .u8)) (rInt .i64) c15.2.2.2.1, Own.buf z40 48 (rFileF h0) s39] [] [0, 1, 2, 3] (Sel.cons rfl (Sel.cons rfl (Sel.cons rfl (Sel.cons rfl Sel.nil)))) rfl HasFs.nil (.tuple #[]) (fun a w hs => run_results (vs := []) rfl (RvOk.nil)) ⟨z40, rfl, rfl, rfl⟩

end Go.Proofs.Ytbcipfhhmkjigaa
