/- Functions of the program as plain Lean functions, each with the proof that the call comes to it. -/
import Derived.Test.YtbcipfhhmkjigaaPF0
set_option linter.unusedVariables false
open Go Go.Cf Go.Proofs
namespace Go.Proofs.Ytbcipfhhmkjigaa

def cofferref2_block.l2 (s95 : (List Int)) : Nat → (List Int) → Int → Option ((List Int))
  | 0, _, _ => none
  | k + 1, s204, s205 => (if (decide (s205 < (8 : Int))) = true then (need (0 ≤ s205 ∧ s205 < 8) (need (0 ≤ s205 ∧ s205 < 8) (need (0 ≤ s205 ∧ s205 < 8) ((cofferref2_block.l2 s95 k ((s204).set (s205).toNat (iand .u64 (IntKind.u64.wrap (((s204).getD (s205).toNat (rInt .u64).zeroD) + ((s95).getD (s205).toNat (rInt .u64).zeroD))) (4294967295 : Int))) (IntKind.i64.wrap (s205 + (1 : Int)))))))) else (some (s204)))
def cofferref2_block.l1 (a2 : (List Int)) (s9 : (List Int)) : Nat → (List Int) → Int → Option ((List Int))
  | 0, _, _ => none
  | k + 1, s95, s96 => (if (decide (s96 < (64 : Int))) = true then ((cofferref2_turn.f k ((s95).getD ((4 : Int)).toNat (rInt .u64).zeroD) (6 : Int)).bind fun c106 => (cofferref2_turn.f k ((s95).getD ((4 : Int)).toNat (rInt .u64).zeroD) (11 : Int)).bind fun c112 => (cofferref2_turn.f k ((s95).getD ((4 : Int)).toNat (rInt .u64).zeroD) (25 : Int)).bind fun c118 => (need (0 ≤ s96 ∧ s96 < 64) (need (0 ≤ s96 ∧ s96 < 64) (((cofferref2_turn.f k ((s95).getD ((0 : Int)).toNat (rInt .u64).zeroD) (2 : Int)).bind fun c148 => (cofferref2_turn.f k ((s95).getD ((0 : Int)).toNat (rInt .u64).zeroD) (13 : Int)).bind fun c154 => (cofferref2_turn.f k ((s95).getD ((0 : Int)).toNat (rInt .u64).zeroD) (22 : Int)).bind fun c160 => (cofferref2_block.l1 a2 s9 k [(iand .u64 (IntKind.u64.wrap ((IntKind.u64.wrap ((IntKind.u64.wrap ((IntKind.u64.wrap ((IntKind.u64.wrap ((IntKind.u64.wrap (((s95).getD ((7 : Int)).toNat (rInt .u64).zeroD) + (ixor .u64 (ixor .u64 c106 c112) c118))) + (ixor .u64 (iand .u64 ((s95).getD ((4 : Int)).toNat (rInt .u64).zeroD) ((s95).getD ((5 : Int)).toNat (rInt .u64).zeroD)) (iand .u64 (IntKind.u64.wrap ((4294967295 : Int) - ((s95).getD ((4 : Int)).toNat (rInt .u64).zeroD))) ((s95).getD ((6 : Int)).toNat (rInt .u64).zeroD))))) + ((a2).getD (s96).toNat (rInt .u64).zeroD))) + ((s9).getD (s96).toNat (rInt .u64).zeroD))) + (ixor .u64 (ixor .u64 c148 c154) c160))) + (ixor .u64 (ixor .u64 (iand .u64 ((s95).getD ((0 : Int)).toNat (rInt .u64).zeroD) ((s95).getD ((1 : Int)).toNat (rInt .u64).zeroD)) (iand .u64 ((s95).getD ((0 : Int)).toNat (rInt .u64).zeroD) ((s95).getD ((2 : Int)).toNat (rInt .u64).zeroD))) (iand .u64 ((s95).getD ((1 : Int)).toNat (rInt .u64).zeroD) ((s95).getD ((2 : Int)).toNat (rInt .u64).zeroD))))) (4294967295 : Int)), ((s95).getD ((0 : Int)).toNat (rInt .u64).zeroD), ((s95).getD ((1 : Int)).toNat (rInt .u64).zeroD), ((s95).getD ((2 : Int)).toNat (rInt .u64).zeroD), (iand .u64 (IntKind.u64.wrap (((s95).getD ((3 : Int)).toNat (rInt .u64).zeroD) + (IntKind.u64.wrap ((IntKind.u64.wrap ((IntKind.u64.wrap ((IntKind.u64.wrap (((s95).getD ((7 : Int)).toNat (rInt .u64).zeroD) + (ixor .u64 (ixor .u64 c106 c112) c118))) + (ixor .u64 (iand .u64 ((s95).getD ((4 : Int)).toNat (rInt .u64).zeroD) ((s95).getD ((5 : Int)).toNat (rInt .u64).zeroD)) (iand .u64 (IntKind.u64.wrap ((4294967295 : Int) - ((s95).getD ((4 : Int)).toNat (rInt .u64).zeroD))) ((s95).getD ((6 : Int)).toNat (rInt .u64).zeroD))))) + ((a2).getD (s96).toNat (rInt .u64).zeroD))) + ((s9).getD (s96).toNat (rInt .u64).zeroD))))) (4294967295 : Int)), ((s95).getD ((4 : Int)).toNat (rInt .u64).zeroD), ((s95).getD ((5 : Int)).toNat (rInt .u64).zeroD), ((s95).getD ((6 : Int)).toNat (rInt .u64).zeroD)] (IntKind.i64.wrap (s96 + (1 : Int))))))))) else (some (s95)))
def cofferref2_block.l0 : Nat → (List Int) → Int → Option ((List Int))
  | 0, _, _ => none
  | k + 1, s9, s10 => (if (decide (s10 < (64 : Int))) = true then (need (0 ≤ (IntKind.i64.wrap (s10 - (15 : Int))) ∧ (IntKind.i64.wrap (s10 - (15 : Int))) < 64) (need (0 ≤ (IntKind.i64.wrap (s10 - (2 : Int))) ∧ (IntKind.i64.wrap (s10 - (2 : Int))) < 64) (((cofferref2_turn.f k ((s9).getD ((IntKind.i64.wrap (s10 - (15 : Int)))).toNat (rInt .u64).zeroD) (7 : Int)).bind fun c22 => (cofferref2_turn.f k ((s9).getD ((IntKind.i64.wrap (s10 - (15 : Int)))).toNat (rInt .u64).zeroD) (18 : Int)).bind fun c28 => (cofferref2_down.f k ((s9).getD ((IntKind.i64.wrap (s10 - (15 : Int)))).toNat (rInt .u64).zeroD) (3 : Int)).bind fun c34 => ((cofferref2_turn.f k ((s9).getD ((IntKind.i64.wrap (s10 - (2 : Int)))).toNat (rInt .u64).zeroD) (17 : Int)).bind fun c52 => (cofferref2_turn.f k ((s9).getD ((IntKind.i64.wrap (s10 - (2 : Int)))).toNat (rInt .u64).zeroD) (19 : Int)).bind fun c58 => (cofferref2_down.f k ((s9).getD ((IntKind.i64.wrap (s10 - (2 : Int)))).toNat (rInt .u64).zeroD) (10 : Int)).bind fun c64 => (need (0 ≤ (IntKind.i64.wrap (s10 - (16 : Int))) ∧ (IntKind.i64.wrap (s10 - (16 : Int))) < 64) (need (0 ≤ (IntKind.i64.wrap (s10 - (7 : Int))) ∧ (IntKind.i64.wrap (s10 - (7 : Int))) < 64) (need (0 ≤ s10 ∧ s10 < 64) ((cofferref2_block.l0 k ((s9).set (s10).toNat (iand .u64 (IntKind.u64.wrap ((IntKind.u64.wrap ((IntKind.u64.wrap (((s9).getD ((IntKind.i64.wrap (s10 - (16 : Int)))).toNat (rInt .u64).zeroD) + (ixor .u64 (ixor .u64 c22 c28) c34))) + ((s9).getD ((IntKind.i64.wrap (s10 - (7 : Int)))).toNat (rInt .u64).zeroD))) + (ixor .u64 (ixor .u64 c52 c58) c64))) (4294967295 : Int))) (IntKind.i64.wrap (s10 + (1 : Int))))))))))))) else (some (s9)))
def cofferref2_block.f (k : Nat) (a0 : (List Int)) (a1 : (List Int)) (a2 : (List Int)) : Option ((List Int)) := (cofferref2_block.l0 k a1 (16 : Int)).bind fun o226 => (match o226 with | s9 => (cofferref2_block.l1 a2 s9 k a0 (0 : Int)).bind fun o224 => (match o224 with | s95 => (cofferref2_block.l2 s95 k a0 (0 : Int)).bind fun o222 => (match o222 with | s204 => (some s204))))
set_option maxRecDepth 100000 in
set_option maxHeartbeats 4030000 in
theorem cofferref2_block_ok (k : Nat) (a0 : (List Int)) (a1 : (List Int)) (a2 : (List Int)) (u0 u1 u2 : Value) (r : (List Int)) (hf : cofferref2_block.f k a0 a1 a2 = some r) : Cf.FnX true Try.prog 53 [u0, u1, u2] (fun w m => (rArr 8 (rInt .u64)).val w m u0 a0 ∧ (rArr 64 (rInt .u64)).val w m u1 a1 ∧ (rArr 64 (rInt .u64)).val w m u2 a2) (fun w w' m v => (rArr 8 (rInt .u64)).val w' m v r) := by
  unfold cofferref2_block.f at hf
  refine fn_of Try.func53 rfl (Nat.le_of_ble_eq_true rfl) [(rArr 8 (rInt .u64)).fact u0 a0, (rArr 64 (rInt .u64)).fact u1 a1, (rArr 64 (rInt .u64)).fact u2 a2] (fun w m h f hf => ?_) ?_
  · simp at hf; rcases hf with rfl | rfl | rfl
    · exact h.1
    · exact h.2.1
    · exact h.2.2
  intro w0 m0 R hR
  refine t_seq ?_
  refine t_region ?_
  refine tl_g [] rfl (g_box (R := (rArr 8 (rInt .u64))) rfl rfl (hv_fact (mem_at 0 rfl)) (fun b5 => ?_))
  refine tl_g [] rfl (g_box (R := (rArr 64 (rInt .u64))) rfl rfl (hv_fact (mem_at 1 rfl)) (fun b6 => ?_))
  refine tl_g [] rfl (g_box (R := (rArr 64 (rInt .u64))) rfl rfl (hv_fact (mem_at 2 rfl)) (fun b7 => ?_))
  refine tl_g [] rfl (g_alloc rfl ty103 (fun b8 => ?_))
  refine tl_nil ?_
  refine q_then_code ?_
  refine t_seq ?_
  refine t_seq ?_
  refine t_region ?_
  refine tl_d rfl (d_assign rfl ?_)
  refine tl_nil ?_
  refine q_then_code ?_
  refine t_block ?_
  obtain ⟨o226, ho227, hf⟩ := bind_some hf
  refine t_loop (X := (List Int) × Int) (O := (List Int)) (fun k x => match x with | (s9, s10) => cofferref2_block.l0 k s9 s10) o226 (fun x => match x with | (s9, s10) => (([(3, .pointer (some ⟨b5, 0, none⟩)), (4, .pointer (some ⟨b6, 0, none⟩)), (5, .pointer (some ⟨b7, 0, none⟩)), (6, .pointer (some ⟨b8, 0, none⟩)), (7, .int .i64 s10)], [], [Own.box b5 (rArr 8 (rInt .u64)) a0, Own.box b6 (rArr 64 (rInt .u64)) s9, Own.box b7 (rArr 64 (rInt .u64)) a2, Own.box b8 (rArr 8 (rInt .u64)) (rArr 8 (rInt .u64)).zeroD]) : Sym)) (fun x => match x with | (s9, s10) => IntKind.i64.wrap s10 = s10) k (a1, (16 : Int)) ho227 rfl ⟨rfl, ⟨rfl, ⟨rfl, ⟨rfl, ⟨rfl, trivial⟩⟩⟩⟩⟩ trivial [0, 1, 2, 3] (Sel.cons rfl (Sel.cons rfl (Sel.cons rfl (Sel.cons rfl Sel.nil)))) rfl ?_
  clear ho227
  rintro k14 ⟨s9, s10⟩ hw_s10 hk13
  have hout11 := hf; clear hf
  obtain ⟨kq12, rfl⟩ : ∃ q, k14 = q + 1 := by cases k14 with | zero => cases hk13 | succ q => exact ⟨q, rfl⟩
  have hf := hk13
  clear hk13; dsimp only [cofferref2_block.l0] at hf
  refine t_seq ?_
  refine t_seq ?_
  refine t_region ?_
  refine tl_d rfl (d_move rfl ?_)
  refine tl_d rfl (d_lss rfl rfl ?_)
  refine tl_nil ?_
  refine q_then_code ?_
  refine t_cond rfl (fun hb15 => ?_) (fun hb15 => ?_)
  · have hf := if_t hb15 hf
    refine t_skip ?_
    refine q_then_code ?_
    refine t_seq ?_
    refine t_block ?_
    refine t_seq ?_
    obtain ⟨hn16, hf⟩ := need_some hf
    obtain ⟨hn18, hf⟩ := need_some hf
    refine t_any (n := 10) [] mixed ⟨by kernel_rfl, .inl rfl⟩ (np_then (np_block (np_then (np_then (np_block (np_then np_body)))))) ?_
    refine ta_take (i := 0) rfl (by kernel_rfl) gd_none (d_move rfl ?_)
    refine ta_take (i := 1) rfl (by kernel_rfl) gd_none (d_sub rfl rfl ?_)
    refine ta_take (i := 2) rfl (by kernel_rfl) gd_none (d_index_own rfl rfl Try.underlying101 ty91 hn16 ?_)
    refine ta_take (i := 3) rfl (by kernel_rfl) gd_none (d_load_box_int 1 rfl rfl (Fld.at0 (Fld.elem 64 (rInt .u64) ((IntKind.i64.wrap (s10 - (15 : Int)))).toNat (rInt .u64).zeroD)) (toNat_lt hn16) ty91 rfl (fun hw20 => ?_))
    refine ta_take (i := 4) rfl (by kernel_rfl) gd_none (d_move rfl ?_)
    refine ta_take (i := 5) rfl (by kernel_rfl) gd_none (d_sub rfl rfl ?_)
    refine ta_take (i := 6) rfl (by kernel_rfl) gd_none (d_index_own rfl rfl Try.underlying101 ty91 hn18 ?_)
    refine ta_take (i := 7) rfl (by kernel_rfl) gd_none (d_load_box_int 1 rfl rfl (Fld.at0 (Fld.elem 64 (rInt .u64) ((IntKind.i64.wrap (s10 - (2 : Int)))).toNat (rInt .u64).zeroD)) (toNat_lt hn18) ty91 rfl (fun hw21 => ?_))
    refine ta_take (i := 8) rfl (by kernel_rfl) gd_none (d_assign rfl ?_)
    refine ta_take (i := 9) rfl (by kernel_rfl) gd_none (d_assign rfl ?_)
    refine ta_done (by kernel_rfl) ?_
    refine q_then_code ?_
    refine t_seq ?_
    obtain ⟨c22, hc23, hf⟩ := bind_some hf
    obtain ⟨c28, hc29, hf⟩ := bind_some hf
    obtain ⟨c34, hc35, hf⟩ := bind_some hf
    refine t_region ?_
    refine tl_d rfl (d_move rfl ?_)
    refine tl_g [] rfl (g_call1 rfl hfn66 (cofferref2_turn_ok _ _ _ _ hc23) (Evs.cons rfl (Evs.cons rfl Evs.nil)) (fun a w hs => ⟨(hv_int hw20) _ _ _ _ hs, (hv_int rfl) _ _ _ _ hs⟩) (fun v40 => ?_))
    refine tl_int (mem_at 0 rfl) (fun hv43 hw42 => ?_)
    subst hv43
    refine tl_d rfl (d_move rfl ?_)
    refine tl_g [] rfl (g_call1 rfl hfn66 (cofferref2_turn_ok _ _ _ _ hc29) (Evs.cons rfl (Evs.cons rfl Evs.nil)) (fun a w hs => ⟨(hv_int hw20) _ _ _ _ hs, (hv_int rfl) _ _ _ _ hs⟩) (fun v44 => ?_))
    refine tl_int (mem_at 0 rfl) (fun hv47 hw46 => ?_)
    subst hv47
    refine tl_d rfl (d_xor rfl rfl ?_)
    refine tl_d rfl (d_move rfl ?_)
    refine tl_g [] rfl (g_call1 rfl hfn67 (cofferref2_down_ok _ _ _ _ hc35) (Evs.cons rfl (Evs.cons rfl Evs.nil)) (fun a w hs => ⟨(hv_int hw20) _ _ _ _ hs, (hv_int rfl) _ _ _ _ hs⟩) (fun v48 => ?_))
    refine tl_int (mem_at 0 rfl) (fun hv51 hw50 => ?_)
    subst hv51
    refine tl_d rfl (d_xor rfl rfl ?_)
    refine tl_d rfl (d_assign rfl ?_)
    refine tl_nil ?_
    refine q_then_code ?_
    refine t_seq ?_
    obtain ⟨c52, hc53, hf⟩ := bind_some hf
    obtain ⟨c58, hc59, hf⟩ := bind_some hf
    obtain ⟨c64, hc65, hf⟩ := bind_some hf
    refine t_region ?_
    refine tl_d rfl (d_move rfl ?_)
    refine tl_g [] rfl (g_call1 rfl hfn66 (cofferref2_turn_ok _ _ _ _ hc53) (Evs.cons rfl (Evs.cons rfl Evs.nil)) (fun a w hs => ⟨(hv_int hw21) _ _ _ _ hs, (hv_int rfl) _ _ _ _ hs⟩) (fun v70 => ?_))
    refine tl_int (mem_at 0 rfl) (fun hv73 hw72 => ?_)
    subst hv73
    refine tl_d rfl (d_move rfl ?_)
    refine tl_g [] rfl (g_call1 rfl hfn66 (cofferref2_turn_ok _ _ _ _ hc59) (Evs.cons rfl (Evs.cons rfl Evs.nil)) (fun a w hs => ⟨(hv_int hw21) _ _ _ _ hs, (hv_int rfl) _ _ _ _ hs⟩) (fun v74 => ?_))
    refine tl_int (mem_at 0 rfl) (fun hv77 hw76 => ?_)
    subst hv77
    refine tl_d rfl (d_xor rfl rfl ?_)
    refine tl_d rfl (d_move rfl ?_)
    refine tl_g [] rfl (g_call1 rfl hfn67 (cofferref2_down_ok _ _ _ _ hc65) (Evs.cons rfl (Evs.cons rfl Evs.nil)) (fun a w hs => ⟨(hv_int hw21) _ _ _ _ hs, (hv_int rfl) _ _ _ _ hs⟩) (fun v78 => ?_))
    refine tl_int (mem_at 0 rfl) (fun hv81 hw80 => ?_)
    subst hv81
    refine tl_d rfl (d_xor rfl rfl ?_)
    refine tl_d rfl (d_assign rfl ?_)
    refine tl_nil ?_
    refine q_then_code ?_
    obtain ⟨hn82, hf⟩ := need_some hf
    obtain ⟨hn84, hf⟩ := need_some hf
    obtain ⟨hn86, hf⟩ := need_some hf
    refine t_any (n := 16) [] mixed ⟨by kernel_rfl, .inr ⟨rfl, by kernel_rfl⟩⟩ (np_block (np_then (np_then (np_block (np_then np_body))))) ?_
    refine ta_take (i := 0) rfl (by kernel_rfl) gd_none (d_move rfl ?_)
    refine ta_take (i := 1) rfl (by kernel_rfl) gd_none (d_move rfl ?_)
    refine ta_take (i := 2) rfl (by kernel_rfl) gd_none (d_sub rfl rfl ?_)
    refine ta_take (i := 3) rfl (by kernel_rfl) gd_none (d_index_own rfl rfl Try.underlying101 ty91 hn82 ?_)
    refine ta_take (i := 4) rfl (by kernel_rfl) gd_none (d_load_box_int 1 rfl rfl (Fld.at0 (Fld.elem 64 (rInt .u64) ((IntKind.i64.wrap (s10 - (16 : Int)))).toNat (rInt .u64).zeroD)) (toNat_lt hn82) ty91 rfl (fun hw87 => ?_))
    refine ta_take (i := 5) rfl (by kernel_rfl) gd_none (d_move rfl ?_)
    refine ta_take (i := 6) rfl (by kernel_rfl) gd_none (d_add rfl rfl ?_)
    refine ta_take (i := 7) rfl (by kernel_rfl) gd_none (d_move rfl ?_)
    refine ta_take (i := 8) rfl (by kernel_rfl) gd_none (d_sub rfl rfl ?_)
    refine ta_take (i := 9) rfl (by kernel_rfl) gd_none (d_index_own rfl rfl Try.underlying101 ty91 hn84 ?_)
    refine ta_take (i := 10) rfl (by kernel_rfl) gd_none (d_load_box_int 1 rfl rfl (Fld.at0 (Fld.elem 64 (rInt .u64) ((IntKind.i64.wrap (s10 - (7 : Int)))).toNat (rInt .u64).zeroD)) (toNat_lt hn84) ty91 rfl (fun hw88 => ?_))
    refine ta_take (i := 11) rfl (by kernel_rfl) gd_none (d_add rfl rfl ?_)
    refine ta_take (i := 12) rfl (by kernel_rfl) gd_none (d_move rfl ?_)
    refine ta_take (i := 13) rfl (by kernel_rfl) gd_none (d_add rfl rfl ?_)
    refine ta_take (i := 14) rfl (by kernel_rfl) gd_none (d_and rfl rfl ?_)
    refine ta_take (i := 15) rfl (by kernel_rfl) gd_none (d_index_own rfl rfl Try.underlying101 ty91 hn86 ?_)
    refine ta_last [0, 1, 2, 3, 4, 5, 6, 7, 8, 9, 10, 11, 12, 13, 14, 15, 16, 17, 18, 19, 20, 21, 22, 23, 24, 25, 26, 27, 28, 29, 30, 31, 32, 33, 34, 35, 36, 37, 38, 39, 40, 41, 42, 43, 44, 45, 46, 47, 48, 49, 50, 51, 52, 53, 54, 55, 56, 57, 58, 59] (by kernel_rfl) (by kernel_rfl) rfl gd_none (g_store_box 1 rfl rfl rfl (Fld.at0 (Fld.elem 64 (rInt .u64) (s10).toNat (rInt .u64).zeroD)) (toNat_lt hn86) (hv_int (wrap_wrap _ _)) ty91 (by decide) ?_)
    refine q_block_normal ?_
    refine q_then_code ?_
    refine t_region ?_
    refine tl_d rfl (d_move rfl ?_)
    refine tl_d rfl (d_add rfl rfl ?_)
    refine tl_d rfl (d_assign rfl ?_)
    refine tl_nil ?_
    exact q_round kq12 (((s9).set (s10).toNat (iand .u64 (IntKind.u64.wrap ((IntKind.u64.wrap ((IntKind.u64.wrap (((s9).getD ((IntKind.i64.wrap (s10 - (16 : Int)))).toNat (rInt .u64).zeroD) + (ixor .u64 (ixor .u64 c22 c28) c34))) + ((s9).getD ((IntKind.i64.wrap (s10 - (7 : Int)))).toNat (rInt .u64).zeroD))) + (ixor .u64 (ixor .u64 c52 c58) c64))) (4294967295 : Int))), (IntKind.i64.wrap (s10 + (1 : Int)))) (Nat.lt_succ_self kq12) (wrap_wrap _ _) hf ⟨rfl, ⟨rfl, ⟨rfl, ⟨rfl, ⟨rfl, trivial⟩⟩⟩⟩⟩ trivial [0, 1, 2, 3] (Sel.cons rfl (Sel.cons rfl (Sel.cons rfl (Sel.cons rfl Sel.nil)))) rfl
  · have hf := if_f hb15 hf
    refine t_exit ?_
    refine q_then_exit ?_
    refine q_then_exit ?_
    have hr := Option.some.inj hf; try subst hr
    have hf := hout11
    try dsimp only at hf
    refine q_block_hit ?_
    refine q_then_code ?_
    refine t_seq ?_
    refine t_region ?_
    refine tl_d rfl (d_load_box 0 rfl rfl (Fld.self (rArr 8 (rInt .u64))) trivial ty103 rfl (fun v92 => ?_))
    refine tl_g [] rfl (g_alloc rfl ty103 (fun b94 => ?_))
    refine tl_M [Own.box b5 (rArr 8 (rInt .u64)) a0, Own.box b6 (rArr 64 (rInt .u64)) s9, Own.box b7 (rArr 64 (rInt .u64)) a2, Own.box b8 (rArr 8 (rInt .u64)) (rArr 8 (rInt .u64)).zeroD, Own.box b94 (rArr 8 (rInt .u64)) (rArr 8 (rInt .u64)).zeroD] rfl ?_
    refine tl_g _ rfl (g_store_box 4 rfl rfl rfl (Fld.self (rArr 8 (rInt .u64))) trivial (hv_fact (mem_at 0 rfl)) ty103 (List.mem_singleton_self _) ?_)
    refine tl_M [Own.box b5 (rArr 8 (rInt .u64)) a0, Own.box b6 (rArr 64 (rInt .u64)) s9, Own.box b7 (rArr 64 (rInt .u64)) a2, Own.box b8 (rArr 8 (rInt .u64)) (rArr 8 (rInt .u64)).zeroD, Own.box b94 (rArr 8 (rInt .u64)) a0] rfl ?_
    refine tl_nil ?_
    refine q_then_code ?_
    refine t_seq ?_
    refine t_seq ?_
    refine t_region ?_
    refine tl_d rfl (d_assign rfl ?_)
    refine tl_nil ?_
    refine q_then_code ?_
    refine t_block ?_
    obtain ⟨o224, ho225, hf⟩ := bind_some hf
    refine t_loop (X := (List Int) × Int) (O := (List Int)) (fun k x => match x with | (s95, s96) => cofferref2_block.l1 a2 s9 k s95 s96) o224 (fun x => match x with | (s95, s96) => (([(3, .pointer (some ⟨b5, 0, none⟩)), (4, .pointer (some ⟨b6, 0, none⟩)), (5, .pointer (some ⟨b7, 0, none⟩)), (6, .pointer (some ⟨b8, 0, none⟩)), (12, .pointer (some ⟨b94, 0, none⟩)), (13, .int .i64 s96)], [], [Own.box b5 (rArr 8 (rInt .u64)) a0, Own.box b6 (rArr 64 (rInt .u64)) s9, Own.box b7 (rArr 64 (rInt .u64)) a2, Own.box b8 (rArr 8 (rInt .u64)) (rArr 8 (rInt .u64)).zeroD, Own.box b94 (rArr 8 (rInt .u64)) s95]) : Sym)) (fun x => match x with | (s95, s96) => IntKind.i64.wrap s96 = s96) k (a0, (0 : Int)) ho225 rfl ⟨rfl, ⟨rfl, ⟨rfl, ⟨rfl, ⟨rfl, ⟨rfl, trivial⟩⟩⟩⟩⟩⟩ trivial [0, 1, 2, 3, 4] (Sel.cons rfl (Sel.cons rfl (Sel.cons rfl (Sel.cons rfl (Sel.cons rfl Sel.nil))))) rfl ?_
    clear ho225
    rintro k100 ⟨s95, s96⟩ hw_s96 hk99
    have hout97 := hf; clear hf
    obtain ⟨kq98, rfl⟩ : ∃ q, k100 = q + 1 := by cases k100 with | zero => cases hk99 | succ q => exact ⟨q, rfl⟩
    have hf := hk99
    clear hk99; dsimp only [cofferref2_block.l1] at hf
    refine t_seq ?_
    refine t_seq ?_
    refine t_region ?_
    refine tl_d rfl (d_move rfl ?_)
    refine tl_d rfl (d_lss rfl rfl ?_)
    refine tl_nil ?_
    refine q_then_code ?_
    refine t_cond rfl (fun hb101 => ?_) (fun hb101 => ?_)
    · have hf := if_t hb101 hf
      refine t_skip ?_
      refine q_then_code ?_
      refine t_seq ?_
      refine t_block ?_
      refine t_seq ?_
      refine t_any (n := 6) [] mixed ⟨by kernel_rfl, .inl rfl⟩ (np_then (np_block (np_then (np_then (np_block (np_then np_body)))))) ?_
      refine ta_take (i := 0) rfl (by kernel_rfl) gd_none (d_index_own rfl rfl Try.underlying103 ty91 (by decide) ?_)
      refine ta_take (i := 1) rfl (by kernel_rfl) gd_none (d_load_box_int 4 rfl rfl (Fld.at0 (Fld.elem 8 (rInt .u64) ((4 : Int)).toNat (rInt .u64).zeroD)) (by decide) ty91 rfl (fun hw104 => ?_))
      refine ta_take (i := 2) rfl (by kernel_rfl) gd_none (d_index_own rfl rfl Try.underlying103 ty91 (by decide) ?_)
      refine ta_take (i := 3) rfl (by kernel_rfl) gd_none (d_load_box_int 4 rfl rfl (Fld.at0 (Fld.elem 8 (rInt .u64) ((0 : Int)).toNat (rInt .u64).zeroD)) (by decide) ty91 rfl (fun hw105 => ?_))
      refine ta_take (i := 4) rfl (by kernel_rfl) gd_none (d_assign rfl ?_)
      refine ta_take (i := 5) rfl (by kernel_rfl) gd_none (d_assign rfl ?_)
      refine ta_done (by kernel_rfl) ?_
      refine q_then_code ?_
      refine t_seq ?_
      obtain ⟨c106, hc107, hf⟩ := bind_some hf
      obtain ⟨c112, hc113, hf⟩ := bind_some hf
      obtain ⟨c118, hc119, hf⟩ := bind_some hf
      refine t_region ?_
      refine tl_d rfl (d_move rfl ?_)
      refine tl_g [] rfl (g_call1 rfl hfn66 (cofferref2_turn_ok _ _ _ _ hc107) (Evs.cons rfl (Evs.cons rfl Evs.nil)) (fun a w hs => ⟨(hv_int hw104) _ _ _ _ hs, (hv_int rfl) _ _ _ _ hs⟩) (fun v124 => ?_))
      refine tl_int (mem_at 0 rfl) (fun hv127 hw126 => ?_)
      subst hv127
      refine tl_d rfl (d_move rfl ?_)
      refine tl_g [] rfl (g_call1 rfl hfn66 (cofferref2_turn_ok _ _ _ _ hc113) (Evs.cons rfl (Evs.cons rfl Evs.nil)) (fun a w hs => ⟨(hv_int hw104) _ _ _ _ hs, (hv_int rfl) _ _ _ _ hs⟩) (fun v128 => ?_))
      refine tl_int (mem_at 0 rfl) (fun hv131 hw130 => ?_)
      subst hv131
      refine tl_d rfl (d_xor rfl rfl ?_)
      refine tl_d rfl (d_move rfl ?_)
      refine tl_g [] rfl (g_call1 rfl hfn66 (cofferref2_turn_ok _ _ _ _ hc119) (Evs.cons rfl (Evs.cons rfl Evs.nil)) (fun a w hs => ⟨(hv_int hw104) _ _ _ _ hs, (hv_int rfl) _ _ _ _ hs⟩) (fun v132 => ?_))
      refine tl_int (mem_at 0 rfl) (fun hv135 hw134 => ?_)
      subst hv135
      refine tl_d rfl (d_xor rfl rfl ?_)
      refine tl_d rfl (d_assign rfl ?_)
      refine tl_nil ?_
      refine q_then_code ?_
      refine t_seq ?_
      refine t_region ?_
      refine tl_d rfl (d_move rfl ?_)
      refine tl_d rfl (d_index_own rfl rfl Try.underlying103 ty91 (by decide) ?_)
      refine tl_d rfl (d_load_box_int 4 rfl rfl (Fld.at0 (Fld.elem 8 (rInt .u64) ((5 : Int)).toNat (rInt .u64).zeroD)) (by decide) ty91 rfl (fun hw138 => ?_))
      refine tl_d rfl (d_and rfl rfl ?_)
      refine tl_d rfl (d_move rfl ?_)
      refine tl_d rfl (d_sub rfl rfl ?_)
      refine tl_d rfl (d_index_own rfl rfl Try.underlying103 ty91 (by decide) ?_)
      refine tl_d rfl (d_load_box_int 4 rfl rfl (Fld.at0 (Fld.elem 8 (rInt .u64) ((6 : Int)).toNat (rInt .u64).zeroD)) (by decide) ty91 rfl (fun hw139 => ?_))
      refine tl_d rfl (d_and rfl rfl ?_)
      refine tl_d rfl (d_xor rfl rfl ?_)
      refine tl_d rfl (d_assign rfl ?_)
      refine tl_nil ?_
      refine q_then_code ?_
      refine t_seq ?_
      obtain ⟨hn141, hf⟩ := need_some hf
      obtain ⟨hn143, hf⟩ := need_some hf
      refine t_any (n := 15) [] mixed ⟨by kernel_rfl, .inl rfl⟩ (np_then (np_block (np_then (np_then (np_block (np_then np_body)))))) ?_
      refine ta_take (i := 0) rfl (by kernel_rfl) gd_none (d_index_own rfl rfl Try.underlying103 ty91 (by decide) ?_)
      refine ta_take (i := 1) rfl (by kernel_rfl) gd_none (d_load_box_int 4 rfl rfl (Fld.at0 (Fld.elem 8 (rInt .u64) ((7 : Int)).toNat (rInt .u64).zeroD)) (by decide) ty91 rfl (fun hw145 => ?_))
      refine ta_take (i := 2) rfl (by kernel_rfl) gd_none (d_move rfl ?_)
      refine ta_take (i := 3) rfl (by kernel_rfl) gd_none (d_add rfl rfl ?_)
      refine ta_take (i := 4) rfl (by kernel_rfl) gd_none (d_move rfl ?_)
      refine ta_take (i := 5) rfl (by kernel_rfl) gd_none (d_add rfl rfl ?_)
      refine ta_take (i := 6) rfl (by kernel_rfl) gd_none (d_move rfl ?_)
      refine ta_take (i := 7) rfl (by kernel_rfl) gd_none (d_index_own rfl rfl Try.underlying101 ty91 hn141 ?_)
      refine ta_take (i := 8) rfl (by kernel_rfl) gd_none (d_load_box_int 2 rfl rfl (Fld.at0 (Fld.elem 64 (rInt .u64) (s96).toNat (rInt .u64).zeroD)) (toNat_lt hn141) ty91 rfl (fun hw146 => ?_))
      refine ta_take (i := 9) rfl (by kernel_rfl) gd_none (d_add rfl rfl ?_)
      refine ta_take (i := 10) rfl (by kernel_rfl) gd_none (d_move rfl ?_)
      refine ta_take (i := 11) rfl (by kernel_rfl) gd_none (d_index_own rfl rfl Try.underlying101 ty91 hn143 ?_)
      refine ta_take (i := 12) rfl (by kernel_rfl) gd_none (d_load_box_int 1 rfl rfl (Fld.at0 (Fld.elem 64 (rInt .u64) (s96).toNat (rInt .u64).zeroD)) (toNat_lt hn143) ty91 rfl (fun hw147 => ?_))
      refine ta_take (i := 13) rfl (by kernel_rfl) gd_none (d_add rfl rfl ?_)
      refine ta_take (i := 14) rfl (by kernel_rfl) gd_none (d_assign rfl ?_)
      refine ta_done (by kernel_rfl) ?_
      refine q_then_code ?_
      refine t_seq ?_
      obtain ⟨c148, hc149, hf⟩ := bind_some hf
      obtain ⟨c154, hc155, hf⟩ := bind_some hf
      obtain ⟨c160, hc161, hf⟩ := bind_some hf
      refine t_region ?_
      refine tl_d rfl (d_move rfl ?_)
      refine tl_g [] rfl (g_call1 rfl hfn66 (cofferref2_turn_ok _ _ _ _ hc149) (Evs.cons rfl (Evs.cons rfl Evs.nil)) (fun a w hs => ⟨(hv_int hw105) _ _ _ _ hs, (hv_int rfl) _ _ _ _ hs⟩) (fun v166 => ?_))
      refine tl_int (mem_at 0 rfl) (fun hv169 hw168 => ?_)
      subst hv169
      refine tl_d rfl (d_move rfl ?_)
      refine tl_g [] rfl (g_call1 rfl hfn66 (cofferref2_turn_ok _ _ _ _ hc155) (Evs.cons rfl (Evs.cons rfl Evs.nil)) (fun a w hs => ⟨(hv_int hw105) _ _ _ _ hs, (hv_int rfl) _ _ _ _ hs⟩) (fun v170 => ?_))
      refine tl_int (mem_at 0 rfl) (fun hv173 hw172 => ?_)
      subst hv173
      refine tl_d rfl (d_xor rfl rfl ?_)
      refine tl_d rfl (d_move rfl ?_)
      refine tl_g [] rfl (g_call1 rfl hfn66 (cofferref2_turn_ok _ _ _ _ hc161) (Evs.cons rfl (Evs.cons rfl Evs.nil)) (fun a w hs => ⟨(hv_int hw105) _ _ _ _ hs, (hv_int rfl) _ _ _ _ hs⟩) (fun v174 => ?_))
      refine tl_int (mem_at 0 rfl) (fun hv177 hw176 => ?_)
      subst hv177
      refine tl_d rfl (d_xor rfl rfl ?_)
      refine tl_d rfl (d_assign rfl ?_)
      refine tl_nil ?_
      refine q_then_code ?_
      refine t_seq ?_
      refine t_region ?_
      refine tl_d rfl (d_move rfl ?_)
      refine tl_d rfl (d_index_own rfl rfl Try.underlying103 ty91 (by decide) ?_)
      refine tl_d rfl (d_load_box_int 4 rfl rfl (Fld.at0 (Fld.elem 8 (rInt .u64) ((1 : Int)).toNat (rInt .u64).zeroD)) (by decide) ty91 rfl (fun hw182 => ?_))
      refine tl_d rfl (d_and rfl rfl ?_)
      refine tl_d rfl (d_move rfl ?_)
      refine tl_d rfl (d_index_own rfl rfl Try.underlying103 ty91 (by decide) ?_)
      refine tl_d rfl (d_load_box_int 4 rfl rfl (Fld.at0 (Fld.elem 8 (rInt .u64) ((2 : Int)).toNat (rInt .u64).zeroD)) (by decide) ty91 rfl (fun hw183 => ?_))
      refine tl_d rfl (d_and rfl rfl ?_)
      refine tl_d rfl (d_xor rfl rfl ?_)
      refine tl_d rfl (d_index_own rfl rfl Try.underlying103 ty91 (by decide) ?_)
      refine tl_d rfl (d_load_box_int 4 rfl rfl (Fld.at0 (Fld.elem 8 (rInt .u64) ((1 : Int)).toNat (rInt .u64).zeroD)) (by decide) ty91 rfl (fun hw184 => ?_))
      refine tl_d rfl (d_index_own rfl rfl Try.underlying103 ty91 (by decide) ?_)
      refine tl_d rfl (d_load_box_int 4 rfl rfl (Fld.at0 (Fld.elem 8 (rInt .u64) ((2 : Int)).toNat (rInt .u64).zeroD)) (by decide) ty91 rfl (fun hw185 => ?_))
      refine tl_d rfl (d_and rfl rfl ?_)
      refine tl_d rfl (d_xor rfl rfl ?_)
      refine tl_d rfl (d_assign rfl ?_)
      refine tl_nil ?_
      refine q_then_code ?_
      refine t_region ?_
      refine tl_d rfl (d_move rfl ?_)
      refine tl_d rfl (d_move rfl ?_)
      refine tl_d rfl (d_add rfl rfl ?_)
      refine tl_d rfl (d_move rfl ?_)
      refine tl_d rfl (d_add rfl rfl ?_)
      refine tl_d rfl (d_and rfl rfl ?_)
      refine tl_d rfl (d_index_own rfl rfl Try.underlying103 ty91 (by decide) ?_)
      refine tl_d rfl (d_load_box_int 4 rfl rfl (Fld.at0 (Fld.elem 8 (rInt .u64) ((0 : Int)).toNat (rInt .u64).zeroD)) (by decide) ty91 rfl (fun hw195 => ?_))
      refine tl_d rfl (d_index_own rfl rfl Try.underlying103 ty91 (by decide) ?_)
      refine tl_d rfl (d_load_box_int 4 rfl rfl (Fld.at0 (Fld.elem 8 (rInt .u64) ((1 : Int)).toNat (rInt .u64).zeroD)) (by decide) ty91 rfl (fun hw196 => ?_))
      refine tl_d rfl (d_index_own rfl rfl Try.underlying103 ty91 (by decide) ?_)
      refine tl_d rfl (d_load_box_int 4 rfl rfl (Fld.at0 (Fld.elem 8 (rInt .u64) ((2 : Int)).toNat (rInt .u64).zeroD)) (by decide) ty91 rfl (fun hw197 => ?_))
      refine tl_d rfl (d_index_own rfl rfl Try.underlying103 ty91 (by decide) ?_)
      refine tl_d rfl (d_load_box_int 4 rfl rfl (Fld.at0 (Fld.elem 8 (rInt .u64) ((3 : Int)).toNat (rInt .u64).zeroD)) (by decide) ty91 rfl (fun hw198 => ?_))
      refine tl_d rfl (d_move rfl ?_)
      refine tl_d rfl (d_add rfl rfl ?_)
      refine tl_d rfl (d_and rfl rfl ?_)
      refine tl_d rfl (d_index_own rfl rfl Try.underlying103 ty91 (by decide) ?_)
      refine tl_d rfl (d_load_box_int 4 rfl rfl (Fld.at0 (Fld.elem 8 (rInt .u64) ((4 : Int)).toNat (rInt .u64).zeroD)) (by decide) ty91 rfl (fun hw199 => ?_))
      refine tl_d rfl (d_index_own rfl rfl Try.underlying103 ty91 (by decide) ?_)
      refine tl_d rfl (d_load_box_int 4 rfl rfl (Fld.at0 (Fld.elem 8 (rInt .u64) ((5 : Int)).toNat (rInt .u64).zeroD)) (by decide) ty91 rfl (fun hw200 => ?_))
      refine tl_d rfl (d_index_own rfl rfl Try.underlying103 ty91 (by decide) ?_)
      refine tl_d rfl (d_load_box_int 4 rfl rfl (Fld.at0 (Fld.elem 8 (rInt .u64) ((6 : Int)).toNat (rInt .u64).zeroD)) (by decide) ty91 rfl (fun hw201 => ?_))
      refine tl_d rfl (d_build_arr (y := [(iand .u64 (IntKind.u64.wrap ((IntKind.u64.wrap ((IntKind.u64.wrap ((IntKind.u64.wrap ((IntKind.u64.wrap ((IntKind.u64.wrap (((s95).getD ((7 : Int)).toNat (rInt .u64).zeroD) + (ixor .u64 (ixor .u64 c106 c112) c118))) + (ixor .u64 (iand .u64 ((s95).getD ((4 : Int)).toNat (rInt .u64).zeroD) ((s95).getD ((5 : Int)).toNat (rInt .u64).zeroD)) (iand .u64 (IntKind.u64.wrap ((4294967295 : Int) - ((s95).getD ((4 : Int)).toNat (rInt .u64).zeroD))) ((s95).getD ((6 : Int)).toNat (rInt .u64).zeroD))))) + ((a2).getD (s96).toNat (rInt .u64).zeroD))) + ((s9).getD (s96).toNat (rInt .u64).zeroD))) + (ixor .u64 (ixor .u64 c148 c154) c160))) + (ixor .u64 (ixor .u64 (iand .u64 ((s95).getD ((0 : Int)).toNat (rInt .u64).zeroD) ((s95).getD ((1 : Int)).toNat (rInt .u64).zeroD)) (iand .u64 ((s95).getD ((0 : Int)).toNat (rInt .u64).zeroD) ((s95).getD ((2 : Int)).toNat (rInt .u64).zeroD))) (iand .u64 ((s95).getD ((1 : Int)).toNat (rInt .u64).zeroD) ((s95).getD ((2 : Int)).toNat (rInt .u64).zeroD))))) (4294967295 : Int)), ((s95).getD ((0 : Int)).toNat (rInt .u64).zeroD), ((s95).getD ((1 : Int)).toNat (rInt .u64).zeroD), ((s95).getD ((2 : Int)).toNat (rInt .u64).zeroD), (iand .u64 (IntKind.u64.wrap (((s95).getD ((3 : Int)).toNat (rInt .u64).zeroD) + (IntKind.u64.wrap ((IntKind.u64.wrap ((IntKind.u64.wrap ((IntKind.u64.wrap (((s95).getD ((7 : Int)).toNat (rInt .u64).zeroD) + (ixor .u64 (ixor .u64 c106 c112) c118))) + (ixor .u64 (iand .u64 ((s95).getD ((4 : Int)).toNat (rInt .u64).zeroD) ((s95).getD ((5 : Int)).toNat (rInt .u64).zeroD)) (iand .u64 (IntKind.u64.wrap ((4294967295 : Int) - ((s95).getD ((4 : Int)).toNat (rInt .u64).zeroD))) ((s95).getD ((6 : Int)).toNat (rInt .u64).zeroD))))) + ((a2).getD (s96).toNat (rInt .u64).zeroD))) + ((s9).getD (s96).toNat (rInt .u64).zeroD))))) (4294967295 : Int)), ((s95).getD ((4 : Int)).toNat (rInt .u64).zeroD), ((s95).getD ((5 : Int)).toNat (rInt .u64).zeroD), ((s95).getD ((6 : Int)).toNat (rInt .u64).zeroD)]) ty103 Try.underlying103 ty91 (BuildOk.cons rfl (Fld.elem 8 (rInt .u64) 0 (rInt .u64).zeroD) (by decide) rfl (hv_int (wrap_wrap _ _)) (BuildOk.cons rfl (Fld.elem 8 (rInt .u64) 1 (rInt .u64).zeroD) (by decide) rfl (hv_int hw195) (BuildOk.cons rfl (Fld.elem 8 (rInt .u64) 2 (rInt .u64).zeroD) (by decide) rfl (hv_int hw196) (BuildOk.cons rfl (Fld.elem 8 (rInt .u64) 3 (rInt .u64).zeroD) (by decide) rfl (hv_int hw197) (BuildOk.cons rfl (Fld.elem 8 (rInt .u64) 4 (rInt .u64).zeroD) (by decide) rfl (hv_int (wrap_wrap _ _)) (BuildOk.cons rfl (Fld.elem 8 (rInt .u64) 5 (rInt .u64).zeroD) (by decide) rfl (hv_int hw199) (BuildOk.cons rfl (Fld.elem 8 (rInt .u64) 6 (rInt .u64).zeroD) (by decide) rfl (hv_int hw200) (BuildOk.cons rfl (Fld.elem 8 (rInt .u64) 7 (rInt .u64).zeroD) (by decide) rfl (hv_int hw201) BuildOk.nil)))))))) (fun v202 => ?_))
      refine tl_g _ rfl (g_store_box 4 rfl rfl rfl (Fld.self (rArr 8 (rInt .u64))) trivial (hv_fact (mem_at 0 rfl)) ty103 (List.mem_singleton_self _) ?_)
      refine tl_M [Own.box b5 (rArr 8 (rInt .u64)) a0, Own.box b6 (rArr 64 (rInt .u64)) s9, Own.box b7 (rArr 64 (rInt .u64)) a2, Own.box b8 (rArr 8 (rInt .u64)) (rArr 8 (rInt .u64)).zeroD, Own.box b94 (rArr 8 (rInt .u64)) [(iand .u64 (IntKind.u64.wrap ((IntKind.u64.wrap ((IntKind.u64.wrap ((IntKind.u64.wrap ((IntKind.u64.wrap ((IntKind.u64.wrap (((s95).getD ((7 : Int)).toNat (rInt .u64).zeroD) + (ixor .u64 (ixor .u64 c106 c112) c118))) + (ixor .u64 (iand .u64 ((s95).getD ((4 : Int)).toNat (rInt .u64).zeroD) ((s95).getD ((5 : Int)).toNat (rInt .u64).zeroD)) (iand .u64 (IntKind.u64.wrap ((4294967295 : Int) - ((s95).getD ((4 : Int)).toNat (rInt .u64).zeroD))) ((s95).getD ((6 : Int)).toNat (rInt .u64).zeroD))))) + ((a2).getD (s96).toNat (rInt .u64).zeroD))) + ((s9).getD (s96).toNat (rInt .u64).zeroD))) + (ixor .u64 (ixor .u64 c148 c154) c160))) + (ixor .u64 (ixor .u64 (iand .u64 ((s95).getD ((0 : Int)).toNat (rInt .u64).zeroD) ((s95).getD ((1 : Int)).toNat (rInt .u64).zeroD)) (iand .u64 ((s95).getD ((0 : Int)).toNat (rInt .u64).zeroD) ((s95).getD ((2 : Int)).toNat (rInt .u64).zeroD))) (iand .u64 ((s95).getD ((1 : Int)).toNat (rInt .u64).zeroD) ((s95).getD ((2 : Int)).toNat (rInt .u64).zeroD))))) (4294967295 : Int)), ((s95).getD ((0 : Int)).toNat (rInt .u64).zeroD), ((s95).getD ((1 : Int)).toNat (rInt .u64).zeroD), ((s95).getD ((2 : Int)).toNat (rInt .u64).zeroD), (iand .u64 (IntKind.u64.wrap (((s95).getD ((3 : Int)).toNat (rInt .u64).zeroD) + (IntKind.u64.wrap ((IntKind.u64.wrap ((IntKind.u64.wrap ((IntKind.u64.wrap (((s95).getD ((7 : Int)).toNat (rInt .u64).zeroD) + (ixor .u64 (ixor .u64 c106 c112) c118))) + (ixor .u64 (iand .u64 ((s95).getD ((4 : Int)).toNat (rInt .u64).zeroD) ((s95).getD ((5 : Int)).toNat (rInt .u64).zeroD)) (iand .u64 (IntKind.u64.wrap ((4294967295 : Int) - ((s95).getD ((4 : Int)).toNat (rInt .u64).zeroD))) ((s95).getD ((6 : Int)).toNat (rInt .u64).zeroD))))) + ((a2).getD (s96).toNat (rInt .u64).zeroD))) + ((s9).getD (s96).toNat (rInt .u64).zeroD))))) (4294967295 : Int)), ((s95).getD ((4 : Int)).toNat (rInt .u64).zeroD), ((s95).getD ((5 : Int)).toNat (rInt .u64).zeroD), ((s95).getD ((6 : Int)).toNat (rInt .u64).zeroD)]] rfl ?_
      refine tl_nil ?_
      refine q_block_normal ?_
      refine q_then_code ?_
      refine t_region ?_
      refine tl_d rfl (d_move rfl ?_)
      refine tl_d rfl (d_add rfl rfl ?_)
      refine tl_d rfl (d_assign rfl ?_)
      refine tl_nil ?_
      exact q_round kq98 ([(iand .u64 (IntKind.u64.wrap ((IntKind.u64.wrap ((IntKind.u64.wrap ((IntKind.u64.wrap ((IntKind.u64.wrap ((IntKind.u64.wrap (((s95).getD ((7 : Int)).toNat (rInt .u64).zeroD) + (ixor .u64 (ixor .u64 c106 c112) c118))) + (ixor .u64 (iand .u64 ((s95).getD ((4 : Int)).toNat (rInt .u64).zeroD) ((s95).getD ((5 : Int)).toNat (rInt .u64).zeroD)) (iand .u64 (IntKind.u64.wrap ((4294967295 : Int) - ((s95).getD ((4 : Int)).toNat (rInt .u64).zeroD))) ((s95).getD ((6 : Int)).toNat (rInt .u64).zeroD))))) + ((a2).getD (s96).toNat (rInt .u64).zeroD))) + ((s9).getD (s96).toNat (rInt .u64).zeroD))) + (ixor .u64 (ixor .u64 c148 c154) c160))) + (ixor .u64 (ixor .u64 (iand .u64 ((s95).getD ((0 : Int)).toNat (rInt .u64).zeroD) ((s95).getD ((1 : Int)).toNat (rInt .u64).zeroD)) (iand .u64 ((s95).getD ((0 : Int)).toNat (rInt .u64).zeroD) ((s95).getD ((2 : Int)).toNat (rInt .u64).zeroD))) (iand .u64 ((s95).getD ((1 : Int)).toNat (rInt .u64).zeroD) ((s95).getD ((2 : Int)).toNat (rInt .u64).zeroD))))) (4294967295 : Int)), ((s95).getD ((0 : Int)).toNat (rInt .u64).zeroD), ((s95).getD ((1 : Int)).toNat (rInt .u64).zeroD), ((s95).getD ((2 : Int)).toNat (rInt .u64).zeroD), (iand .u64 (IntKind.u64.wrap (((s95).getD ((3 : Int)).toNat (rInt .u64).zeroD) + (IntKind.u64.wrap ((IntKind.u64.wrap ((IntKind.u64.wrap ((IntKind.u64.wrap (((s95).getD ((7 : Int)).toNat (rInt .u64).zeroD) + (ixor .u64 (ixor .u64 c106 c112) c118))) + (ixor .u64 (iand .u64 ((s95).getD ((4 : Int)).toNat (rInt .u64).zeroD) ((s95).getD ((5 : Int)).toNat (rInt .u64).zeroD)) (iand .u64 (IntKind.u64.wrap ((4294967295 : Int) - ((s95).getD ((4 : Int)).toNat (rInt .u64).zeroD))) ((s95).getD ((6 : Int)).toNat (rInt .u64).zeroD))))) + ((a2).getD (s96).toNat (rInt .u64).zeroD))) + ((s9).getD (s96).toNat (rInt .u64).zeroD))))) (4294967295 : Int)), ((s95).getD ((4 : Int)).toNat (rInt .u64).zeroD), ((s95).getD ((5 : Int)).toNat (rInt .u64).zeroD), ((s95).getD ((6 : Int)).toNat (rInt .u64).zeroD)], (IntKind.i64.wrap (s96 + (1 : Int)))) (Nat.lt_succ_self kq98) (wrap_wrap _ _) hf ⟨rfl, ⟨rfl, ⟨rfl, ⟨rfl, ⟨rfl, ⟨rfl, trivial⟩⟩⟩⟩⟩⟩ trivial [0, 1, 2, 3, 4] (Sel.cons rfl (Sel.cons rfl (Sel.cons rfl (Sel.cons rfl (Sel.cons rfl Sel.nil))))) rfl
    · have hf := if_f hb101 hf
      refine t_exit ?_
      refine q_then_exit ?_
      refine q_then_exit ?_
      have hr := Option.some.inj hf; try subst hr
      have hf := hout97
      try dsimp only at hf
      refine q_block_hit ?_
      refine q_then_code ?_
      refine t_seq ?_
      refine t_seq ?_
      refine t_region ?_
      refine tl_d rfl (d_assign rfl ?_)
      refine tl_nil ?_
      refine q_then_code ?_
      refine t_block ?_
      obtain ⟨o222, ho223, hf⟩ := bind_some hf
      refine t_loop (X := (List Int) × Int) (O := (List Int)) (fun k x => match x with | (s204, s205) => cofferref2_block.l2 s95 k s204 s205) o222 (fun x => match x with | (s204, s205) => (([(3, .pointer (some ⟨b5, 0, none⟩)), (6, .pointer (some ⟨b8, 0, none⟩)), (12, .pointer (some ⟨b94, 0, none⟩)), (21, .int .i64 s205)], [], [Own.box b5 (rArr 8 (rInt .u64)) s204, Own.box b8 (rArr 8 (rInt .u64)) (rArr 8 (rInt .u64)).zeroD, Own.box b94 (rArr 8 (rInt .u64)) s95]) : Sym)) (fun x => match x with | (s204, s205) => IntKind.i64.wrap s205 = s205) k (a0, (0 : Int)) ho223 rfl ⟨rfl, ⟨rfl, ⟨rfl, ⟨rfl, trivial⟩⟩⟩⟩ trivial [0, 3, 4] (Sel.cons rfl (Sel.cons rfl (Sel.cons rfl Sel.nil))) rfl ?_
      clear ho223
      rintro k209 ⟨s204, s205⟩ hw_s205 hk208
      have hout206 := hf; clear hf
      obtain ⟨kq207, rfl⟩ : ∃ q, k209 = q + 1 := by cases k209 with | zero => cases hk208 | succ q => exact ⟨q, rfl⟩
      have hf := hk208
      clear hk208; dsimp only [cofferref2_block.l2] at hf
      refine t_seq ?_
      refine t_seq ?_
      refine t_region ?_
      refine tl_d rfl (d_move rfl ?_)
      refine tl_d rfl (d_lss rfl rfl ?_)
      refine tl_nil ?_
      refine q_then_code ?_
      refine t_cond rfl (fun hb210 => ?_) (fun hb210 => ?_)
      · have hf := if_t hb210 hf
        refine t_skip ?_
        refine q_then_code ?_
        refine t_seq ?_
        refine t_block ?_
        obtain ⟨hn211, hf⟩ := need_some hf
        obtain ⟨hn213, hf⟩ := need_some hf
        obtain ⟨hn215, hf⟩ := need_some hf
        refine t_any (n := 10) [] mixed ⟨by kernel_rfl, .inr ⟨rfl, by kernel_rfl⟩⟩ (np_block (np_then (np_then (np_block (np_then np_body))))) ?_
        refine ta_take (i := 0) rfl (by kernel_rfl) gd_none (d_move rfl ?_)
        refine ta_take (i := 1) rfl (by kernel_rfl) gd_none (d_move rfl ?_)
        refine ta_take (i := 2) rfl (by kernel_rfl) gd_none (d_index_own rfl rfl Try.underlying103 ty91 hn211 ?_)
        refine ta_take (i := 3) rfl (by kernel_rfl) gd_none (d_load_box_int 0 rfl rfl (Fld.at0 (Fld.elem 8 (rInt .u64) (s205).toNat (rInt .u64).zeroD)) (toNat_lt hn211) ty91 rfl (fun hw216 => ?_))
        refine ta_take (i := 4) rfl (by kernel_rfl) gd_none (d_move rfl ?_)
        refine ta_take (i := 5) rfl (by kernel_rfl) gd_none (d_index_own rfl rfl Try.underlying103 ty91 hn213 ?_)
        refine ta_take (i := 6) rfl (by kernel_rfl) gd_none (d_load_box_int 2 rfl rfl (Fld.at0 (Fld.elem 8 (rInt .u64) (s205).toNat (rInt .u64).zeroD)) (toNat_lt hn213) ty91 rfl (fun hw217 => ?_))
        refine ta_take (i := 7) rfl (by kernel_rfl) gd_none (d_add rfl rfl ?_)
        refine ta_take (i := 8) rfl (by kernel_rfl) gd_none (d_and rfl rfl ?_)
        refine ta_take (i := 9) rfl (by kernel_rfl) gd_none (d_index_own rfl rfl Try.underlying103 ty91 hn215 ?_)
        refine ta_last [0, 1, 2, 3, 4, 5, 6, 7, 8, 9, 10, 11, 12, 13, 14, 15, 16, 17, 18, 19, 20, 21, 22, 23, 24, 25, 26, 27, 28, 29, 30, 31, 32, 33, 34, 35, 36, 37, 38, 39, 40, 41, 42, 43, 44, 45, 46, 47, 48, 49, 50, 51, 52, 53, 54, 55, 56, 57, 58, 59] (by kernel_rfl) (by kernel_rfl) rfl gd_none (g_store_box 0 rfl rfl rfl (Fld.at0 (Fld.elem 8 (rInt .u64) (s205).toNat (rInt .u64).zeroD)) (toNat_lt hn215) (hv_int (wrap_wrap _ _)) ty91 (by decide) ?_)
        refine q_block_normal ?_
        refine q_then_code ?_
        refine t_region ?_
        refine tl_d rfl (d_move rfl ?_)
        refine tl_d rfl (d_add rfl rfl ?_)
        refine tl_d rfl (d_assign rfl ?_)
        refine tl_nil ?_
        exact q_round kq207 (((s204).set (s205).toNat (iand .u64 (IntKind.u64.wrap (((s204).getD (s205).toNat (rInt .u64).zeroD) + ((s95).getD (s205).toNat (rInt .u64).zeroD))) (4294967295 : Int))), (IntKind.i64.wrap (s205 + (1 : Int)))) (Nat.lt_succ_self kq207) (wrap_wrap _ _) hf ⟨rfl, ⟨rfl, ⟨rfl, ⟨rfl, trivial⟩⟩⟩⟩ trivial [0, 1, 2] (Sel.cons rfl (Sel.cons rfl (Sel.cons rfl Sel.nil))) rfl
      · have hf := if_f hb210 hf
        refine t_exit ?_
        refine q_then_exit ?_
        refine q_then_exit ?_
        have hr := Option.some.inj hf; try subst hr
        have hf := hout206
        try dsimp only at hf
        refine q_block_hit ?_
        refine q_then_code ?_
        refine t_seq ?_
        refine t_region ?_
        refine tl_d rfl (d_load_box 0 rfl rfl (Fld.self (rArr 8 (rInt .u64))) trivial ty103 rfl (fun v220 => ?_))
        refine tl_g _ rfl (g_store_box 1 rfl rfl rfl (Fld.self (rArr 8 (rInt .u64))) trivial (hv_fact (mem_at 0 rfl)) ty103 (List.mem_singleton_self _) ?_)
        refine tl_nil ?_
        refine q_then_code ?_
        refine t_ret ?_
        have hr := Option.some.inj hf; subst hr
        refine q_ret (post := fun w w' m v => (rArr 8 (rInt .u64)).val w' m v s204) hR _ (.inl rfl) (fun a w hs => ?_)
        obtain ⟨x0, hx0, hy0⟩ := rv_cell (t := 6) (ty := 103) hs 1 rfl rfl ty103
        exact ⟨_, run_results rfl (RvOk.cons hx0 RvOk.nil), hy0⟩

def cofferref2_Sum.l3 (s58 : Int) (s37 : (List Int)) : Nat → (List Int) → Int → Option ((List Int))
  | 0, _, _ => none
  | k + 1, s68, s69 => (if (decide (s69 < (64 : Int))) = true then (need (0 ≤ (IntKind.i64.wrap (s69.tdiv (4 : Int))) ∧ (IntKind.i64.wrap (s69.tdiv (4 : Int))) < 64) (need (0 ≤ (IntKind.i64.wrap (s58 + s69)) ∧ (IntKind.i64.wrap (s58 + s69)) < ((s37).length : Int)) (need (0 ≤ (IntKind.i64.wrap (s69.tdiv (4 : Int))) ∧ (IntKind.i64.wrap (s69.tdiv (4 : Int))) < 64) ((cofferref2_Sum.l3 s58 s37 k ((s68).set ((IntKind.i64.wrap (s69.tdiv (4 : Int)))).toNat (IntKind.u64.wrap ((IntKind.u64.wrap (((s68).getD ((IntKind.i64.wrap (s69.tdiv (4 : Int)))).toNat (rInt .u64).zeroD) * (256 : Int))) + ((s37).getD ((IntKind.i64.wrap (s58 + s69))).toNat (rInt .u8).zeroD)))) (IntKind.i64.wrap (s69 + (1 : Int)))))))) else (some (s68)))
def cofferref2_Sum.l4 (s57 : (List Int)) : Nat → (List Int) → Int → Option ((List Int))
  | 0, _, _ => none
  | k + 1, s108, s109 => (if (decide (s109 < (32 : Int))) = true then (need (0 ≤ (IntKind.i64.wrap (s109.tdiv (4 : Int))) ∧ (IntKind.i64.wrap (s109.tdiv (4 : Int))) < 8) (need (0 ≤ (IntKind.i64.wrap ((24 : Int) - (IntKind.i64.wrap ((8 : Int) * (s109.tmod (4 : Int))))))) (need (0 ≤ s109 ∧ s109 < 32) ((cofferref2_Sum.l4 s57 k ((s108).set (s109).toNat (IntKind.u8.wrap (ishr .u64 ((s57).getD ((IntKind.i64.wrap (s109.tdiv (4 : Int)))).toNat (rInt .u64).zeroD) (IntKind.i64.wrap ((24 : Int) - (IntKind.i64.wrap ((8 : Int) * (s109.tmod (4 : Int))))))))) (IntKind.i64.wrap (s109 + (1 : Int)))))))) else (some (s108)))
def cofferref2_Sum.l2 (s37 : (List Int)) (c3 : (List Int)) : Nat → (List Int) → Int → Option ((List Int))
  | 0, _, _ => none
  | k + 1, s57, s58 => (if (decide (s58 < ((s37).length : Int))) = true then (cofferref2_Sum.l3 s58 s37 k (rArr 64 (rInt .u64)).zeroD (0 : Int)).bind fun o104 => (match o104 with | s68 => ((cofferref2_block.f k s57 s68 c3).bind fun c92 => (cofferref2_Sum.l2 s37 c3 k c92 (IntKind.i64.wrap (s58 + (64 : Int)))))) else (some (s57)))
def cofferref2_Sum.l1 (a0 : (List Int)) : Nat → (List Int) → Int → Option ((List Int))
  | 0, _, _ => none
  | k + 1, s37, s39 => (if (decide (s39 < (8 : Int))) = true then (need (0 ≤ (IntKind.i64.wrap ((56 : Int) - (IntKind.i64.wrap ((8 : Int) * s39))))) (need (fits 1 ((s37).length + ([(IntKind.u8.wrap (ishr .u64 (IntKind.u64.wrap (((a0).length : Int) * (8 : Int))) (IntKind.i64.wrap ((56 : Int) - (IntKind.i64.wrap ((8 : Int) * s39))))))]).length)) ((cofferref2_Sum.l1 a0 k (s37 ++ [(IntKind.u8.wrap (ishr .u64 (IntKind.u64.wrap (((a0).length : Int) * (8 : Int))) (IntKind.i64.wrap ((56 : Int) - (IntKind.i64.wrap ((8 : Int) * s39))))))]) (IntKind.i64.wrap (s39 + (1 : Int))))))) else (some (s37)))
def cofferref2_Sum.l0 : Nat → (List Int) → Option ((List Int))
  | 0, _ => none
  | k + 1, s21 => (if (!decide ((((s21).length : Int).tmod (64 : Int)) = (56 : Int))) = true then (need (fits 1 ((s21).length + ([(0 : Int)]).length)) ((cofferref2_Sum.l0 k (s21 ++ [(0 : Int)])))) else (some (s21)))
def cofferref2_Sum.f (k : Nat) (a0 : (List Int)) : Option ((List Int)) := ((cofferref2_keys.f).bind fun c3 => (need (fits 1 ((([] : List Int)).length + (a0).length)) (need (fits 1 (((([] : List Int) ++ a0)).length + ([(128 : Int)]).length)) ((cofferref2_Sum.l0 k ((([] : List Int) ++ a0) ++ [(128 : Int)])).bind fun o130 => (match o130 with | s21 => (cofferref2_Sum.l1 a0 k s21 (0 : Int)).bind fun o128 => (match o128 with | s37 => (cofferref2_Sum.l2 s37 c3 k [(1779033703 : Int), (3144134277 : Int), (1013904242 : Int), (2773480762 : Int), (1359893119 : Int), (2600822924 : Int), (528734635 : Int), (1541459225 : Int)] (0 : Int)).bind fun o126 => (match o126 with | s57 => (cofferref2_Sum.l4 s57 k (rArr 32 (rInt .u8)).zeroD (0 : Int)).bind fun o124 => (match o124 with | s108 => (some s108)))))))))
set_option maxRecDepth 100000 in
set_option maxHeartbeats 3530000 in
theorem cofferref2_Sum_ok (k : Nat) (a0 : (List Int)) (u0 : Value) (r : (List Int)) (hf : cofferref2_Sum.f k a0 = some r) : Cf.FnX true Try.prog 36 [u0] (fun w m => (rSl 1 (rInt .u8)).val w m u0 a0) (fun w w' m v => (rArr 32 (rInt .u8)).val w' m v r) := by
  unfold cofferref2_Sum.f at hf
  refine fn_of Try.func36 rfl (Nat.le_of_ble_eq_true rfl) [(rSl 1 (rInt .u8)).fact u0 a0] (fun w m h f hf => ?_) ?_
  · simp at hf; obtain rfl := hf; exact h
  intro w0 m0 R hR
  refine t_seq ?_
  refine t_region ?_
  refine tl_g [] rfl (g_alloc rfl ty29 (fun b2 => ?_))
  refine tl_nil ?_
  refine q_then_code ?_
  refine t_seq ?_
  obtain ⟨c3, hc4, hf⟩ := bind_some hf
  refine t_region ?_
  refine tl_g [] rfl (g_call1 rfl hfn52 (cofferref2_keys_ok _ hc4) Evs.nil (fun a w hs => trivial) (fun v8 => ?_))
  refine tl_g [] rfl (g_alloc rfl ty101 (fun b10 => ?_))
  refine tl_g _ rfl (g_store_box 1 rfl rfl rfl (Fld.self (rArr 64 (rInt .u64))) trivial (hv_fact (mem_at 0 rfl)) ty101 (List.mem_singleton_self _) ?_)
  refine tl_nil ?_
  refine q_then_code ?_
  refine t_seq ?_
  obtain ⟨hn12, hf⟩ := need_some hf
  obtain ⟨hn15, hf⟩ := need_some hf
  refine t_region ?_
  refine tl_g [] rfl (g_buildSlice (R := (rInt .u8)) (l := []) rfl Try.underlying32 ty5 ⟨rfl, by decide, by decide, by decide⟩ PartsOk.nil rfl (fun v17 => ?_))
  refine tl_d rfl (d_move rfl ?_)
  refine tl_g _ rfl (g_append_sl (l2 := a0) 2 rfl rfl rfl rfl (hv_fact (mem_at 1 rfl)) Try.underlying32 ⟨_, Try.underlying32, fun k h => by cases h⟩ ty5 hn12 (List.mem_singleton_self _) (fun v18 => ?_))
  refine tl_g [] rfl (g_buildSlice (R := (rInt .u8)) (l := [(128 : Int)]) rfl Try.underlying32 ty5 ⟨rfl, by decide, by decide, by decide⟩ (PartsOk.cons rfl rfl (hv_int rfl) PartsOk.nil) rfl (fun v19 => ?_))
  refine tl_g _ rfl (g_append_buf 2 3 rfl rfl rfl rfl rfl rfl Try.underlying32 ⟨_, Try.underlying32, fun k h => by cases h⟩ ty5 hn15 (List.mem_singleton_self _) (fun v20 => ?_))
  refine tl_d rfl (d_assign rfl ?_)
  refine tl_nil ?_
  refine q_then_code ?_
  refine t_seq ?_
  refine t_block ?_
  obtain ⟨o130, ho131, hf⟩ := bind_some hf
  refine t_loop (X := (List Int) × Value) (O := (List Int)) (fun k x => match x with | (s21, z22) => cofferref2_Sum.l0 k s21) o130 (fun x => match x with | (s21, z22) => (([(0, u0), (2, .pointer (some ⟨b2, 0, none⟩)), (3, .pointer (some ⟨b10, 0, none⟩)), (4, z22)], [(rSl 1 (rInt .u8)).fact u0 a0], [Own.box b2 (rArr 32 (rInt .u8)) (rArr 32 (rInt .u8)).zeroD, Own.box b10 (rArr 64 (rInt .u64)) c3, Own.buf z22 1 (rInt .u8) s21]) : Sym)) (fun x => match x with | (s21, z22) => True) k (((([] : List Int) ++ a0) ++ [(128 : Int)]), v20) ho131 trivial ⟨rfl, ⟨rfl, ⟨rfl, ⟨rfl, trivial⟩⟩⟩⟩ ⟨mem_at 1 rfl, trivial⟩ [0, 1, 2] (Sel.cons rfl (Sel.cons rfl (Sel.cons rfl Sel.nil))) rfl ?_
  clear ho131
  rintro k26 ⟨s21, z22⟩ _ hk25
  have hout23 := hf; clear hf
  obtain ⟨kq24, rfl⟩ : ∃ q, k26 = q + 1 := by cases k26 with | zero => cases hk25 | succ q => exact ⟨q, rfl⟩
  have hf := hk25
  clear hk25; dsimp only [cofferref2_Sum.l0] at hf
  refine t_seq ?_
  refine t_seq ?_
  refine t_region ?_
  refine tl_d rfl (d_move rfl ?_)
  refine tl_d rfl (d_len_buf 2 rfl rfl Try.underlying32 (fun hl28 _ => ?_))
  refine tl_d rfl (d_rem rfl rfl (by decide) ?_)
  refine tl_d rfl (d_neq rfl rfl ?_)
  refine tl_nil ?_
  refine q_then_code ?_
  refine t_cond rfl (fun hb29 => ?_) (fun hb29 => ?_)
  · have hf := if_t hb29 hf
    refine t_skip ?_
    refine q_then_code ?_
    refine t_block ?_
    obtain ⟨hn31, hf⟩ := need_some hf
    refine t_region ?_
    refine tl_d rfl (d_move rfl ?_)
    refine tl_g [] rfl (g_buildSlice (R := (rInt .u8)) (l := [(0 : Int)]) rfl Try.underlying32 ty5 ⟨rfl, by decide, by decide, by decide⟩ (PartsOk.cons rfl rfl (hv_int rfl) PartsOk.nil) rfl (fun v33 => ?_))
    refine tl_g _ rfl (g_append_buf 2 3 rfl rfl rfl rfl rfl rfl Try.underlying32 ⟨_, Try.underlying32, fun k h => by cases h⟩ ty5 hn31 (List.mem_singleton_self _) (fun v34 => ?_))
    refine tl_d rfl (d_assign rfl ?_)
    refine tl_nil ?_
    refine q_block_normal ?_
    exact q_round kq24 ((s21 ++ [(0 : Int)]), v34) (Nat.lt_succ_self kq24) trivial hf ⟨rfl, ⟨rfl, ⟨rfl, ⟨rfl, trivial⟩⟩⟩⟩ ⟨mem_at 0 rfl, trivial⟩ [0, 1, 2] (Sel.cons rfl (Sel.cons rfl (Sel.cons rfl Sel.nil))) rfl
  · have hf := if_f hb29 hf
    refine t_exit ?_
    refine q_then_exit ?_
    refine q_then_exit ?_
    have hr := Option.some.inj hf; try subst hr
    have hf := hout23
    try dsimp only at hf
    refine q_block_hit ?_
    refine q_then_code ?_
    refine t_seq ?_
    refine t_region ?_
    refine tl_d rfl (d_move rfl ?_)
    refine tl_d rfl (d_len_sl rfl (mem_at 0 rfl) Try.underlying32 (fun hl36 _ => ?_))
    refine tl_d rfl (d_conv_id Try.underlying3 Try.underlying91 rfl (wrap_lenu hl36) ?_)
    refine tl_d rfl (d_mul rfl rfl ?_)
    refine tl_d rfl (d_assign rfl ?_)
    refine tl_nil ?_
    refine q_then_code ?_
    refine t_seq ?_
    refine t_seq ?_
    refine t_region ?_
    refine tl_d rfl (d_assign rfl ?_)
    refine tl_nil ?_
    refine q_then_code ?_
    refine t_block ?_
    obtain ⟨o128, ho129, hf⟩ := bind_some hf
    refine t_loop (X := (List Int) × Int × Value) (O := (List Int)) (fun k x => match x with | (s37, s39, z38) => cofferref2_Sum.l1 a0 k s37 s39) o128 (fun x => match x with | (s37, s39, z38) => (([(2, .pointer (some ⟨b2, 0, none⟩)), (3, .pointer (some ⟨b10, 0, none⟩)), (4, z38), (5, (.int .u64 (IntKind.u64.wrap (((a0).length : Int) * (8 : Int))))), (6, .int .i64 s39)], [], [Own.box b2 (rArr 32 (rInt .u8)) (rArr 32 (rInt .u8)).zeroD, Own.box b10 (rArr 64 (rInt .u64)) c3, Own.buf z38 1 (rInt .u8) s37]) : Sym)) (fun x => match x with | (s37, s39, z38) => IntKind.i64.wrap s39 = s39) k (s21, (0 : Int), z22) ho129 rfl ⟨rfl, ⟨rfl, ⟨rfl, ⟨rfl, ⟨rfl, trivial⟩⟩⟩⟩⟩ trivial [0, 1, 2] (Sel.cons rfl (Sel.cons rfl (Sel.cons rfl Sel.nil))) rfl ?_
    clear ho129
    rintro k43 ⟨s37, s39, z38⟩ hw_s39 hk42
    have hout40 := hf; clear hf
    obtain ⟨kq41, rfl⟩ : ∃ q, k43 = q + 1 := by cases k43 with | zero => cases hk42 | succ q => exact ⟨q, rfl⟩
    have hf := hk42
    clear hk42; dsimp only [cofferref2_Sum.l1] at hf
    refine t_seq ?_
    refine t_seq ?_
    refine t_region ?_
    refine tl_d rfl (d_move rfl ?_)
    refine tl_d rfl (d_lss rfl rfl ?_)
    refine tl_nil ?_
    refine q_then_code ?_
    refine t_cond rfl (fun hb44 => ?_) (fun hb44 => ?_)
    · have hf := if_t hb44 hf
      refine t_skip ?_
      refine q_then_code ?_
      refine t_seq ?_
      refine t_block ?_
      obtain ⟨hn45, hf⟩ := need_some hf
      obtain ⟨hn47, hf⟩ := need_some hf
      refine t_region ?_
      refine tl_d rfl (d_move rfl ?_)
      refine tl_d rfl (d_move rfl ?_)
      refine tl_d rfl (d_move rfl ?_)
      refine tl_d rfl (d_mul rfl rfl ?_)
      refine tl_d rfl (d_sub rfl rfl ?_)
      refine tl_d rfl (d_shr rfl rfl hn45 ?_)
      refine tl_d rfl (d_conv Try.underlying91 Try.underlying5 rfl ?_)
      refine tl_g [] rfl (g_buildSlice (R := (rInt .u8)) (l := [(IntKind.u8.wrap (ishr .u64 (IntKind.u64.wrap (((a0).length : Int) * (8 : Int))) (IntKind.i64.wrap ((56 : Int) - (IntKind.i64.wrap ((8 : Int) * s39))))))]) rfl Try.underlying32 ty5 ⟨rfl, by decide, by decide, by decide⟩ (PartsOk.cons rfl rfl (hv_int (wrap_wrap _ _)) PartsOk.nil) rfl (fun v49 => ?_))
      refine tl_g _ rfl (g_append_buf 2 3 rfl rfl rfl rfl rfl rfl Try.underlying32 ⟨_, Try.underlying32, fun k h => by cases h⟩ ty5 hn47 (List.mem_singleton_self _) (fun v50 => ?_))
      refine tl_d rfl (d_assign rfl ?_)
      refine tl_nil ?_
      refine q_block_normal ?_
      refine q_then_code ?_
      refine t_region ?_
      refine tl_d rfl (d_move rfl ?_)
      refine tl_d rfl (d_add rfl rfl ?_)
      refine tl_d rfl (d_assign rfl ?_)
      refine tl_nil ?_
      exact q_round kq41 ((s37 ++ [(IntKind.u8.wrap (ishr .u64 (IntKind.u64.wrap (((a0).length : Int) * (8 : Int))) (IntKind.i64.wrap ((56 : Int) - (IntKind.i64.wrap ((8 : Int) * s39))))))]), (IntKind.i64.wrap (s39 + (1 : Int))), v50) (Nat.lt_succ_self kq41) (wrap_wrap _ _) hf ⟨rfl, ⟨rfl, ⟨rfl, ⟨rfl, ⟨rfl, trivial⟩⟩⟩⟩⟩ trivial [0, 1, 2] (Sel.cons rfl (Sel.cons rfl (Sel.cons rfl Sel.nil))) rfl
    · have hf := if_f hb44 hf
      refine t_exit ?_
      refine q_then_exit ?_
      refine q_then_exit ?_
      have hr := Option.some.inj hf; try subst hr
      have hf := hout40
      try dsimp only at hf
      refine q_block_hit ?_
      refine q_then_code ?_
      refine t_seq ?_
      refine t_region ?_
      refine tl_d rfl (d_build_arr (y := [(1779033703 : Int), (3144134277 : Int), (1013904242 : Int), (2773480762 : Int), (1359893119 : Int), (2600822924 : Int), (528734635 : Int), (1541459225 : Int)]) ty103 Try.underlying103 ty91 (BuildOk.cons rfl (Fld.elem 8 (rInt .u64) 0 (rInt .u64).zeroD) (by decide) rfl (hv_int rfl) (BuildOk.cons rfl (Fld.elem 8 (rInt .u64) 1 (rInt .u64).zeroD) (by decide) rfl (hv_int rfl) (BuildOk.cons rfl (Fld.elem 8 (rInt .u64) 2 (rInt .u64).zeroD) (by decide) rfl (hv_int rfl) (BuildOk.cons rfl (Fld.elem 8 (rInt .u64) 3 (rInt .u64).zeroD) (by decide) rfl (hv_int rfl) (BuildOk.cons rfl (Fld.elem 8 (rInt .u64) 4 (rInt .u64).zeroD) (by decide) rfl (hv_int rfl) (BuildOk.cons rfl (Fld.elem 8 (rInt .u64) 5 (rInt .u64).zeroD) (by decide) rfl (hv_int rfl) (BuildOk.cons rfl (Fld.elem 8 (rInt .u64) 6 (rInt .u64).zeroD) (by decide) rfl (hv_int rfl) (BuildOk.cons rfl (Fld.elem 8 (rInt .u64) 7 (rInt .u64).zeroD) (by decide) rfl (hv_int rfl) BuildOk.nil)))))))) (fun v54 => ?_))
      refine tl_g [] rfl (g_alloc rfl ty103 (fun b56 => ?_))
      refine tl_g _ rfl (g_store_box 3 rfl rfl rfl (Fld.self (rArr 8 (rInt .u64))) trivial (hv_fact (mem_at 0 rfl)) ty103 (List.mem_singleton_self _) ?_)
      refine tl_nil ?_
      refine q_then_code ?_
      refine t_seq ?_
      refine t_seq ?_
      refine t_region ?_
      refine tl_d rfl (d_assign rfl ?_)
      refine tl_nil ?_
      refine q_then_code ?_
      refine t_block ?_
      obtain ⟨o126, ho127, hf⟩ := bind_some hf
      refine t_loop (X := (List Int) × Int) (O := (List Int)) (fun k x => match x with | (s57, s58) => cofferref2_Sum.l2 s37 c3 k s57 s58) o126 (fun x => match x with | (s57, s58) => (([(2, .pointer (some ⟨b2, 0, none⟩)), (3, .pointer (some ⟨b10, 0, none⟩)), (4, z38), (7, .pointer (some ⟨b56, 0, none⟩)), (8, .int .i64 s58)], [], [Own.box b2 (rArr 32 (rInt .u8)) (rArr 32 (rInt .u8)).zeroD, Own.box b10 (rArr 64 (rInt .u64)) c3, Own.buf z38 1 (rInt .u8) s37, Own.box b56 (rArr 8 (rInt .u64)) s57]) : Sym)) (fun x => match x with | (s57, s58) => IntKind.i64.wrap s58 = s58) k ([(1779033703 : Int), (3144134277 : Int), (1013904242 : Int), (2773480762 : Int), (1359893119 : Int), (2600822924 : Int), (528734635 : Int), (1541459225 : Int)], (0 : Int)) ho127 rfl ⟨rfl, ⟨rfl, ⟨rfl, ⟨rfl, ⟨rfl, trivial⟩⟩⟩⟩⟩ trivial [0, 1, 2, 3] (Sel.cons rfl (Sel.cons rfl (Sel.cons rfl (Sel.cons rfl Sel.nil)))) rfl ?_
      clear ho127
      rintro k62 ⟨s57, s58⟩ hw_s58 hk61
      have hout59 := hf; clear hf
      obtain ⟨kq60, rfl⟩ : ∃ q, k62 = q + 1 := by cases k62 with | zero => cases hk61 | succ q => exact ⟨q, rfl⟩
      have hf := hk61
      clear hk61; dsimp only [cofferref2_Sum.l2] at hf
      refine t_seq ?_
      refine t_seq ?_
      refine t_region ?_
      refine tl_d rfl (d_move rfl ?_)
      refine tl_d rfl (d_move rfl ?_)
      refine tl_d rfl (d_len_buf 2 rfl rfl Try.underlying32 (fun hl64 _ => ?_))
      refine tl_d rfl (d_lss rfl rfl ?_)
      refine tl_nil ?_
      refine q_then_code ?_
      refine t_cond rfl (fun hb65 => ?_) (fun hb65 => ?_)
      · have hf := if_t hb65 hf
        refine t_skip ?_
        refine q_then_code ?_
        refine t_seq ?_
        refine t_block ?_
        refine t_seq ?_
        refine t_region ?_
        refine tl_g [] rfl (g_alloc rfl ty101 (fun b67 => ?_))
        refine tl_M [Own.box b2 (rArr 32 (rInt .u8)) (rArr 32 (rInt .u8)).zeroD, Own.box b10 (rArr 64 (rInt .u64)) c3, Own.buf z38 1 (rInt .u8) s37, Own.box b56 (rArr 8 (rInt .u64)) s57, Own.box b67 (rArr 64 (rInt .u64)) (rArr 64 (rInt .u64)).zeroD] rfl ?_
        refine tl_nil ?_
        refine q_then_code ?_
        refine t_seq ?_
        refine t_seq ?_
        refine t_region ?_
        refine tl_d rfl (d_assign rfl ?_)
        refine tl_nil ?_
        refine q_then_code ?_
        refine t_block ?_
        obtain ⟨o104, ho105, hf⟩ := bind_some hf
        refine t_loop (X := (List Int) × Int) (O := (List Int)) (fun k x => match x with | (s68, s69) => cofferref2_Sum.l3 s58 s37 k s68 s69) o104 (fun x => match x with | (s68, s69) => (([(2, .pointer (some ⟨b2, 0, none⟩)), (3, .pointer (some ⟨b10, 0, none⟩)), (4, z38), (7, .pointer (some ⟨b56, 0, none⟩)), (8, (.int .i64 s58)), (9, .pointer (some ⟨b67, 0, none⟩)), (10, .int .i64 s69)], [], [Own.box b2 (rArr 32 (rInt .u8)) (rArr 32 (rInt .u8)).zeroD, Own.box b10 (rArr 64 (rInt .u64)) c3, Own.buf z38 1 (rInt .u8) s37, Own.box b56 (rArr 8 (rInt .u64)) s57, Own.box b67 (rArr 64 (rInt .u64)) s68]) : Sym)) (fun x => match x with | (s68, s69) => IntKind.i64.wrap s69 = s69) kq60 ((rArr 64 (rInt .u64)).zeroD, (0 : Int)) ho105 rfl ⟨rfl, ⟨rfl, ⟨rfl, ⟨rfl, ⟨rfl, ⟨rfl, ⟨rfl, trivial⟩⟩⟩⟩⟩⟩⟩ trivial [0, 1, 2, 3, 4] (Sel.cons rfl (Sel.cons rfl (Sel.cons rfl (Sel.cons rfl (Sel.cons rfl Sel.nil))))) rfl ?_
        clear ho105
        rintro k73 ⟨s68, s69⟩ hw_s69 hk72
        have hout70 := hf; clear hf
        obtain ⟨kq71, rfl⟩ : ∃ q, k73 = q + 1 := by cases k73 with | zero => cases hk72 | succ q => exact ⟨q, rfl⟩
        have hf := hk72
        clear hk72; dsimp only [cofferref2_Sum.l3] at hf
        refine t_seq ?_
        refine t_seq ?_
        refine t_region ?_
        refine tl_d rfl (d_move rfl ?_)
        refine tl_d rfl (d_lss rfl rfl ?_)
        refine tl_nil ?_
        refine q_then_code ?_
        refine t_cond rfl (fun hb74 => ?_) (fun hb74 => ?_)
        · have hf := if_t hb74 hf
          refine t_skip ?_
          refine q_then_code ?_
          refine t_seq ?_
          refine t_block ?_
          obtain ⟨hn75, hf⟩ := need_some hf
          obtain ⟨hn77, hf⟩ := need_some hf
          obtain ⟨hn81, hf⟩ := need_some hf
          refine t_any (n := 16) [] mixed ⟨by kernel_rfl, .inr ⟨rfl, by kernel_rfl⟩⟩ (np_block (np_then (np_then (np_block (np_then (np_block (np_then (np_then (np_block (np_then np_body)))))))))) ?_
          refine ta_take (i := 0) rfl (by kernel_rfl) gd_none (d_move rfl ?_)
          refine ta_take (i := 1) rfl (by kernel_rfl) gd_none (d_quo rfl rfl (by decide) ?_)
          refine ta_take (i := 2) rfl (by kernel_rfl) gd_none (d_move rfl ?_)
          refine ta_take (i := 3) rfl (by kernel_rfl) gd_none (d_quo rfl rfl (by decide) ?_)
          refine ta_take (i := 4) rfl (by kernel_rfl) gd_none (d_index_own rfl rfl Try.underlying101 ty91 hn75 ?_)
          refine ta_take (i := 5) rfl (by kernel_rfl) gd_none (d_load_box_int 4 rfl rfl (Fld.at0 (Fld.elem 64 (rInt .u64) ((IntKind.i64.wrap (s69.tdiv (4 : Int)))).toNat (rInt .u64).zeroD)) (toNat_lt hn75) ty91 rfl (fun hw82 => ?_))
          refine ta_take (i := 6) rfl (by kernel_rfl) gd_none (d_mul rfl rfl ?_)
          refine ta_take (i := 7) rfl (by kernel_rfl) gd_none (d_move rfl ?_)
          refine ta_take (i := 8) rfl (by kernel_rfl) gd_none (d_move rfl ?_)
          refine ta_take (i := 9) rfl (by kernel_rfl) gd_none (d_move rfl ?_)
          refine ta_take (i := 10) rfl (by kernel_rfl) gd_none (d_add rfl rfl ?_)
          refine ta_take (i := 11) rfl (by kernel_rfl) gd_none (d_index_buf 2 rfl rfl rfl Try.underlying32 ty5 hn77 (fun p83 hp84 => ?_))
          refine ta_take (i := 12) rfl (by kernel_rfl) gd_none (d_load_buf_int (j := ((IntKind.i64.wrap (s58 + s69))).toNat) 2 rfl hp84 rfl rfl (toNat_lt hn77) (Fld.self (rInt .u8)) trivial ty5 rfl (fun hw85 => ?_))
          refine ta_take (i := 13) rfl (by kernel_rfl) gd_none (d_conv_id Try.underlying5 Try.underlying91 rfl (wrap_widen rfl hw85) ?_)
          refine ta_take (i := 14) rfl (by kernel_rfl) gd_none (d_add rfl rfl ?_)
          refine ta_take (i := 15) rfl (by kernel_rfl) gd_none (d_index_own rfl rfl Try.underlying101 ty91 hn81 ?_)
          refine ta_last [0, 1, 2, 3, 4, 5, 6, 7, 8, 9, 10, 11, 12, 13, 14, 15, 16, 17, 18, 19, 20, 21, 22, 23, 24, 25, 26, 27, 28, 29, 30, 31, 32, 33, 34, 35, 36, 37, 38, 39, 40, 41, 42, 43, 44, 45, 46, 47, 48, 49, 50, 51, 52, 53, 54, 55, 56, 57, 58, 59] (by kernel_rfl) (by kernel_rfl) rfl gd_none (g_store_box 4 rfl rfl rfl (Fld.at0 (Fld.elem 64 (rInt .u64) ((IntKind.i64.wrap (s69.tdiv (4 : Int)))).toNat (rInt .u64).zeroD)) (toNat_lt hn81) (hv_int (wrap_wrap _ _)) ty91 (by decide) ?_)
          refine q_block_normal ?_
          refine q_then_code ?_
          refine t_region ?_
          refine tl_d rfl (d_move rfl ?_)
          refine tl_d rfl (d_add rfl rfl ?_)
          refine tl_d rfl (d_assign rfl ?_)
          refine tl_nil ?_
          exact q_round kq71 (((s68).set ((IntKind.i64.wrap (s69.tdiv (4 : Int)))).toNat (IntKind.u64.wrap ((IntKind.u64.wrap (((s68).getD ((IntKind.i64.wrap (s69.tdiv (4 : Int)))).toNat (rInt .u64).zeroD) * (256 : Int))) + ((s37).getD ((IntKind.i64.wrap (s58 + s69))).toNat (rInt .u8).zeroD)))), (IntKind.i64.wrap (s69 + (1 : Int)))) (Nat.lt_succ_self kq71) (wrap_wrap _ _) hf ⟨rfl, ⟨rfl, ⟨rfl, ⟨rfl, ⟨rfl, ⟨rfl, ⟨rfl, trivial⟩⟩⟩⟩⟩⟩⟩ trivial [0, 1, 2, 3, 4] (Sel.cons rfl (Sel.cons rfl (Sel.cons rfl (Sel.cons rfl (Sel.cons rfl Sel.nil))))) rfl
        · have hf := if_f hb74 hf
          refine t_exit ?_
          refine q_then_exit ?_
          refine q_then_exit ?_
          have hr := Option.some.inj hf; try subst hr
          have hf := hout70
          try dsimp only at hf
          refine q_block_hit ?_
          refine q_then_code ?_
          obtain ⟨c92, hc93, hf⟩ := bind_some hf
          refine t_region ?_
          refine tl_d rfl (d_load_box 3 rfl rfl (Fld.self (rArr 8 (rInt .u64))) trivial ty103 rfl (fun v96 => ?_))
          refine tl_d rfl (d_load_box 4 rfl rfl (Fld.self (rArr 64 (rInt .u64))) trivial ty101 rfl (fun v98 => ?_))
          refine tl_d rfl (d_load_box 1 rfl rfl (Fld.self (rArr 64 (rInt .u64))) trivial ty101 rfl (fun v100 => ?_))
          refine tl_g [] rfl (g_call1 rfl hfn53 (cofferref2_block_ok _ _ _ _ _ _ _ _ hc93) (Evs.cons rfl (Evs.cons rfl (Evs.cons rfl Evs.nil))) (fun a w hs => ⟨(hv_fact (mem_at 2 rfl)) _ _ _ _ hs, (hv_fact (mem_at 1 rfl)) _ _ _ _ hs, (hv_fact (mem_at 0 rfl)) _ _ _ _ hs⟩) (fun v102 => ?_))
          refine tl_g _ rfl (g_store_box 3 rfl rfl rfl (Fld.self (rArr 8 (rInt .u64))) trivial (hv_fact (mem_at 0 rfl)) ty103 (List.mem_singleton_self _) ?_)
          refine tl_M [Own.box b2 (rArr 32 (rInt .u8)) (rArr 32 (rInt .u8)).zeroD, Own.box b10 (rArr 64 (rInt .u64)) c3, Own.buf z38 1 (rInt .u8) s37, Own.box b56 (rArr 8 (rInt .u64)) c92, Own.box b67 (rArr 64 (rInt .u64)) s68] rfl ?_
          refine tl_nil ?_
          refine q_block_normal ?_
          refine q_then_code ?_
          refine t_region ?_
          refine tl_d rfl (d_move rfl ?_)
          refine tl_d rfl (d_add rfl rfl ?_)
          refine tl_d rfl (d_assign rfl ?_)
          refine tl_nil ?_
          exact q_round kq60 (c92, (IntKind.i64.wrap (s58 + (64 : Int)))) (Nat.lt_succ_self kq60) (wrap_wrap _ _) hf ⟨rfl, ⟨rfl, ⟨rfl, ⟨rfl, ⟨rfl, trivial⟩⟩⟩⟩⟩ trivial [0, 1, 2, 3] (Sel.cons rfl (Sel.cons rfl (Sel.cons rfl (Sel.cons rfl Sel.nil)))) rfl
      · have hf := if_f hb65 hf
        refine t_exit ?_
        refine q_then_exit ?_
        refine q_then_exit ?_
        have hr := Option.some.inj hf; try subst hr
        have hf := hout59
        try dsimp only at hf
        refine q_block_hit ?_
        refine q_then_code ?_
        refine t_seq ?_
        refine t_region ?_
        refine tl_g [] rfl (g_alloc rfl ty29 (fun b107 => ?_))
        refine tl_M [Own.box b2 (rArr 32 (rInt .u8)) (rArr 32 (rInt .u8)).zeroD, Own.box b10 (rArr 64 (rInt .u64)) c3, Own.buf z38 1 (rInt .u8) s37, Own.box b56 (rArr 8 (rInt .u64)) s57, Own.box b107 (rArr 32 (rInt .u8)) (rArr 32 (rInt .u8)).zeroD] rfl ?_
        refine tl_nil ?_
        refine q_then_code ?_
        refine t_seq ?_
        refine t_seq ?_
        refine t_region ?_
        refine tl_d rfl (d_assign rfl ?_)
        refine tl_nil ?_
        refine q_then_code ?_
        refine t_block ?_
        obtain ⟨o124, ho125, hf⟩ := bind_some hf
        refine t_loop (X := (List Int) × Int) (O := (List Int)) (fun k x => match x with | (s108, s109) => cofferref2_Sum.l4 s57 k s108 s109) o124 (fun x => match x with | (s108, s109) => (([(2, .pointer (some ⟨b2, 0, none⟩)), (7, .pointer (some ⟨b56, 0, none⟩)), (11, .pointer (some ⟨b107, 0, none⟩)), (12, .int .i64 s109)], [], [Own.box b2 (rArr 32 (rInt .u8)) (rArr 32 (rInt .u8)).zeroD, Own.box b56 (rArr 8 (rInt .u64)) s57, Own.box b107 (rArr 32 (rInt .u8)) s108]) : Sym)) (fun x => match x with | (s108, s109) => IntKind.i64.wrap s109 = s109) k ((rArr 32 (rInt .u8)).zeroD, (0 : Int)) ho125 rfl ⟨rfl, ⟨rfl, ⟨rfl, ⟨rfl, trivial⟩⟩⟩⟩ trivial [0, 3, 4] (Sel.cons rfl (Sel.cons rfl (Sel.cons rfl Sel.nil))) rfl ?_
        clear ho125
        rintro k113 ⟨s108, s109⟩ hw_s109 hk112
        have hout110 := hf; clear hf
        obtain ⟨kq111, rfl⟩ : ∃ q, k113 = q + 1 := by cases k113 with | zero => cases hk112 | succ q => exact ⟨q, rfl⟩
        have hf := hk112
        clear hk112; dsimp only [cofferref2_Sum.l4] at hf
        refine t_seq ?_
        refine t_seq ?_
        refine t_region ?_
        refine tl_d rfl (d_move rfl ?_)
        refine tl_d rfl (d_lss rfl rfl ?_)
        refine tl_nil ?_
        refine q_then_code ?_
        refine t_cond rfl (fun hb114 => ?_) (fun hb114 => ?_)
        · have hf := if_t hb114 hf
          refine t_skip ?_
          refine q_then_code ?_
          refine t_seq ?_
          refine t_block ?_
          obtain ⟨hn115, hf⟩ := need_some hf
          obtain ⟨hn117, hf⟩ := need_some hf
          obtain ⟨hn118, hf⟩ := need_some hf
          refine t_region ?_
          refine tl_d rfl (d_move rfl ?_)
          refine tl_d rfl (d_move rfl ?_)
          refine tl_d rfl (d_quo rfl rfl (by decide) ?_)
          refine tl_d rfl (d_index_own rfl rfl Try.underlying103 ty91 hn115 ?_)
          refine tl_d rfl (d_load_box_int 1 rfl rfl (Fld.at0 (Fld.elem 8 (rInt .u64) ((IntKind.i64.wrap (s109.tdiv (4 : Int)))).toNat (rInt .u64).zeroD)) (toNat_lt hn115) ty91 rfl (fun hw119 => ?_))
          refine tl_d rfl (d_move rfl ?_)
          refine tl_d rfl (d_rem rfl rfl (by decide) ?_)
          refine tl_d rfl (d_mul rfl rfl ?_)
          refine tl_d rfl (d_sub rfl rfl ?_)
          refine tl_d rfl (d_shr rfl rfl hn117 ?_)
          refine tl_d rfl (d_conv Try.underlying91 Try.underlying5 rfl ?_)
          refine tl_d rfl (d_index_own rfl rfl Try.underlying29 ty5 hn118 ?_)
          refine tl_g _ rfl (g_store_box 2 rfl rfl rfl (Fld.at0 (Fld.elem 32 (rInt .u8) (s109).toNat (rInt .u8).zeroD)) (toNat_lt hn118) (hv_int (wrap_wrap _ _)) ty5 (List.mem_singleton_self _) ?_)
          refine tl_nil ?_
          refine q_block_normal ?_
          refine q_then_code ?_
          refine t_region ?_
          refine tl_d rfl (d_move rfl ?_)
          refine tl_d rfl (d_add rfl rfl ?_)
          refine tl_d rfl (d_assign rfl ?_)
          refine tl_nil ?_
          exact q_round kq111 (((s108).set (s109).toNat (IntKind.u8.wrap (ishr .u64 ((s57).getD ((IntKind.i64.wrap (s109.tdiv (4 : Int)))).toNat (rInt .u64).zeroD) (IntKind.i64.wrap ((24 : Int) - (IntKind.i64.wrap ((8 : Int) * (s109.tmod (4 : Int))))))))), (IntKind.i64.wrap (s109 + (1 : Int)))) (Nat.lt_succ_self kq111) (wrap_wrap _ _) hf ⟨rfl, ⟨rfl, ⟨rfl, ⟨rfl, trivial⟩⟩⟩⟩ trivial [0, 1, 2] (Sel.cons rfl (Sel.cons rfl (Sel.cons rfl Sel.nil))) rfl
        · have hf := if_f hb114 hf
          refine t_exit ?_
          refine q_then_exit ?_
          refine q_then_exit ?_
          have hr := Option.some.inj hf; try subst hr
          have hf := hout110
          try dsimp only at hf
          refine q_block_hit ?_
          refine q_then_code ?_
          refine t_seq ?_
          refine t_region ?_
          refine tl_d rfl (d_load_box 2 rfl rfl (Fld.self (rArr 32 (rInt .u8))) trivial ty29 rfl (fun v122 => ?_))
          refine tl_g _ rfl (g_store_box 0 rfl rfl rfl (Fld.self (rArr 32 (rInt .u8))) trivial (hv_fact (mem_at 0 rfl)) ty29 (List.mem_singleton_self _) ?_)
          refine tl_nil ?_
          refine q_then_code ?_
          refine t_ret ?_
          have hr := Option.some.inj hf; subst hr
          refine q_ret (post := fun w w' m v => (rArr 32 (rInt .u8)).val w' m v s108) hR _ (.inl rfl) (fun a w hs => ?_)
          obtain ⟨x0, hx0, hy0⟩ := rv_cell (t := 2) (ty := 29) hs 0 rfl rfl ty29
          exact ⟨_, run_results rfl (RvOk.cons hx0 RvOk.nil), hy0⟩

def cofferlaw17_Of.f (k : Nat) (a0 : (List Int)) : Option (Api_Object) := ((cofferref2_Sum.f k a0).bind fun c3 => need (fits 1 ((([] : List Int)).length + (a0).length)) ((some (⟨c3, (([] : List Int) ++ a0)⟩ : Api_Object))))
set_option maxRecDepth 100000 in
set_option maxHeartbeats 400000 in
theorem cofferlaw17_Of_ok (k : Nat) (a0 : (List Int)) (u0 : Value) (r : Api_Object) (hf : cofferlaw17_Of.f k a0 = some r) : Cf.FnX true Try.prog 24 [u0] (fun w m => (rSl 1 (rInt .u8)).val w m u0 a0) (fun w w' m v => rApi_Object.val w' m v r) := by
  unfold cofferlaw17_Of.f at hf
  refine fn_of Try.func24 rfl (Nat.le_of_ble_eq_true rfl) [(rSl 1 (rInt .u8)).fact u0 a0] (fun w m h f hf => ?_) ?_
  · simp at hf; obtain rfl := hf; exact h
  intro w0 m0 R hR
  refine t_seq ?_
  refine t_region ?_
  refine tl_g [] rfl (g_alloc rfl ty34 (fun b2 => ?_))
  refine tl_nil ?_
  refine q_then_code ?_
  refine t_seq ?_
  obtain ⟨c3, hc4, hf⟩ := bind_some hf
  obtain ⟨hn8, hf⟩ := need_some hf
  refine t_region ?_
  refine tl_d rfl (d_move rfl ?_)
  refine tl_g [] rfl (g_call1 rfl hfn36 (cofferref2_Sum_ok _ _ _ _ hc4) (Evs.cons rfl Evs.nil) (fun a w hs => (hv_fact (mem_at 0 rfl)) _ _ _ _ hs) (fun v13 => ?_))
  refine tl_g [] rfl (g_buildSlice (R := (rInt .u8)) (l := []) rfl Try.underlying32 ty5 ⟨rfl, by decide, by decide, by decide⟩ PartsOk.nil rfl (fun v15 => ?_))
  refine tl_d rfl (d_move rfl ?_)
  refine tl_g _ rfl (g_append_sl (l2 := a0) 1 rfl rfl rfl rfl (hv_fact (mem_at 1 rfl)) Try.underlying32 ⟨_, Try.underlying32, fun k h => by cases h⟩ ty5 hn8 (List.mem_singleton_self _) (fun v16 => ?_))
  refine tl_freeze 1 rfl ?_
  refine tl_d rfl (d_build2 (y := (⟨c3, (([] : List Int) ++ a0)⟩ : Api_Object)) ty34 rfl pl34 (BuildOk.cons rfl fl_Api_Object_Of trivial rfl (hv_fact (mem_at 1 rfl)) (BuildOk.cons rfl fl_Api_Object_Data trivial rfl (hv_fact (mem_at 0 rfl)) BuildOk.nil)) (fun v17 => ?_))
  refine tl_g _ rfl (g_store_box 0 rfl rfl rfl (Fld.self rApi_Object) trivial (hv_fact (mem_at 0 rfl)) ty34 (List.mem_singleton_self _) ?_)
  refine tl_nil ?_
  refine q_then_code ?_
  refine t_ret ?_
  have hr := Option.some.inj hf; subst hr
  refine q_ret (post := fun w w' m v => rApi_Object.val w' m v (⟨c3, (([] : List Int) ++ a0)⟩ : Api_Object)) hR _ (.inl rfl) (fun a w hs => ?_)
  obtain ⟨x0, hx0, hy0⟩ := rv_cell (t := 2) (ty := 34) hs 0 rfl rfl ty34
  exact ⟨_, run_results rfl (RvOk.cons hx0 RvOk.nil), hy0⟩

def cofferref15_MayName.l0 (a0 : (List Int)) : Nat → Int → Option (Sum (Bool) (Unit))
  | 0, _ => none
  | k + 1, s1 => (if (decide (s1 < ((a0).length : Int))) = true then ((need (0 ≤ s1 ∧ s1 < ((a0).length : Int)) ((if (decide (((a0).getD (s1).toNat 0) = (47 : Int))) = true then (some true) else (need (0 ≤ s1 ∧ s1 < ((a0).length : Int)) ((some (decide (((a0).getD (s1).toNat 0) = (0 : Int)))))))))).bind fun s14 => (if s14 = true then (some (.inl false)) else (cofferref15_MayName.l0 a0 k (IntKind.i64.wrap (s1 + (1 : Int))))) else (some (.inr ())))
def cofferref15_MayName.f (k : Nat) (a0 : (List Int)) : Option (Bool) := (cofferref15_MayName.l0 a0 k (0 : Int)).bind fun o41 => (match o41 with | .inl r => some r | .inr _ => ((if (decide ((1 : Int) ≤ ((a0).length : Int))) = true then (if (decide (((a0).length : Int) ≤ (64 : Int))) = true then (if (!decide (a0 = [46])) = true then (some (!decide (a0 = [46, 46]))) else (some false)) else (some false)) else (some false))).bind fun s28 => (some s28))
set_option maxRecDepth 100000 in
set_option maxHeartbeats 2200000 in
theorem cofferref15_MayName_ok (k : Nat) (a0 : (List Int)) (u0 : Value) (r : Bool) (hf : cofferref15_MayName.f k a0 = some r) : Cf.FnX true Try.prog 68 [u0] (fun w m => rStr.val w m u0 a0) (fun w w' m v => rBool.val w' m v r) := by
  unfold cofferref15_MayName.f at hf
  refine fn_of Try.func68 rfl (Nat.le_of_ble_eq_true rfl) [rStr.fact u0 a0] (fun w m h f hf => ?_) ?_
  · simp at hf; obtain rfl := hf; exact h
  intro w0 m0 R hR
  refine t_seq ?_
  refine t_region ?_
  refine tl_d rfl (d_assign rfl ?_)
  refine tl_nil ?_
  refine q_then_code ?_
  refine t_seq ?_
  refine t_seq ?_
  refine t_region ?_
  refine tl_d rfl (d_assign rfl ?_)
  refine tl_nil ?_
  refine q_then_code ?_
  refine t_block ?_
  obtain ⟨o41, ho42, hf⟩ := bind_some hf
  refine t_loop (X := Int) (O := Sum (Bool) (Unit)) (fun k x => match x with | s1 => cofferref15_MayName.l0 a0 k s1) o41 (fun x => match x with | s1 => (([(0, u0), (3, .int .i64 s1)], [rStr.fact u0 a0], []) : Sym)) (fun x => match x with | s1 => IntKind.i64.wrap s1 = s1) k (0 : Int) ho42 rfl ⟨rfl, ⟨rfl, trivial⟩⟩ ⟨mem_at 0 rfl, trivial⟩ [] (Sel.nil) rfl ?_
  clear ho42
  rintro k5 s1 hw_s1 hk4
  have hout2 := hf; clear hf
  obtain ⟨kq3, rfl⟩ : ∃ q, k5 = q + 1 := by cases k5 with | zero => cases hk4 | succ q => exact ⟨q, rfl⟩
  have hf := hk4
  clear hk4; dsimp only [cofferref15_MayName.l0] at hf
  refine t_seq ?_
  refine t_seq ?_
  refine t_region ?_
  refine tl_d rfl (d_move rfl ?_)
  refine tl_d rfl (d_move rfl ?_)
  refine tl_d rfl (d_len_str rfl (mem_at 0 rfl) Try.underlying9 (fun hl7 => ?_))
  refine tl_d rfl (d_lss rfl rfl ?_)
  refine tl_nil ?_
  refine q_then_code ?_
  refine t_cond rfl (fun hb8 => ?_) (fun hb8 => ?_)
  · have hf := if_t hb8 hf
    refine t_skip ?_
    refine q_then_code ?_
    refine t_seq ?_
    refine t_block ?_
    refine t_seq ?_
    obtain ⟨o15, ho16, hf⟩ := bind_some hf
    refine t_cut (X := Bool) (fun x => match x with | s14 => (([(0, u0), (3, (.int .i64 s1)), (19, .bool s14)], [rStr.fact u0 a0], []) : Sym)) (fun x => match x with | s14 => s14 = o15) ?_ ?_
    · have hf := ho16; clear ho16
      obtain ⟨hn9, hf⟩ := need_some hf
      rcases bool_tf (decide (((a0).getD (s1).toNat 0) = (47 : Int))) with hb11 | hb11
      · have hf := if_t hb11 hf
        refine t_region ?_
        refine tl_d rfl (d_move rfl ?_)
        refine tl_d rfl (d_move rfl ?_)
        refine tl_d rfl (d_index_str rfl (mem_at 0 rfl) rfl Try.underlying9 hn9 (fun hw17 => ?_))
        refine tl_d rfl (d_eql rfl rfl ?_)
        refine tl_d rfl (d_move rfl ?_)
        refine tl_off (gd_off rfl rfl rfl hb11) rfl rfl ?_
        refine tl_off (gd_off rfl rfl rfl hb11) rfl rfl ?_
        refine tl_off (gd_off rfl rfl rfl hb11) rfl rfl ?_
        refine tl_off (gd_off rfl rfl rfl hb11) rfl rfl ?_
        refine tl_d rfl (d_pick_true rfl hb11 rfl ?_)
        refine tl_nil ?_
        have hr := Option.some.inj hf; subst hr
        exact q_cut true rfl ⟨rfl, ⟨rfl, ⟨rfl, trivial⟩⟩⟩ ⟨mem_at 0 rfl, trivial⟩ [] (Sel.nil) rfl
      · have hf := if_f hb11 hf
        obtain ⟨hn12, hf⟩ := need_some hf
        refine t_region ?_
        refine tl_d rfl (d_move rfl ?_)
        refine tl_d rfl (d_move rfl ?_)
        refine tl_d rfl (d_index_str rfl (mem_at 0 rfl) rfl Try.underlying9 hn9 (fun hw18 => ?_))
        refine tl_d rfl (d_eql rfl rfl ?_)
        refine tl_d rfl (d_move rfl ?_)
        refine tl_dg (gd_on rfl rfl rfl hb11) rfl (d_move rfl ?_)
        refine tl_dg (gd_on rfl rfl rfl hb11) rfl (d_move rfl ?_)
        refine tl_dg (gd_on rfl rfl rfl hb11) rfl (d_index_str rfl (mem_at 0 rfl) rfl Try.underlying9 hn12 (fun hw19 => ?_))
        refine tl_dg (gd_on rfl rfl rfl hb11) rfl (d_eql rfl rfl ?_)
        refine tl_d rfl (d_pick_false rfl hb11 rfl ?_)
        refine tl_nil ?_
        have hr := Option.some.inj hf; subst hr
        exact q_cut (decide (((a0).getD (s1).toNat 0) = (0 : Int))) rfl ⟨rfl, ⟨rfl, ⟨rfl, trivial⟩⟩⟩ ⟨mem_at 0 rfl, trivial⟩ [] (Sel.nil) rfl
    rintro s14 rfl
    refine q_then_code ?_
    refine t_cond rfl (fun hb20 => ?_) (fun hb20 => ?_)
    · have hf := if_t hb20 hf
      refine t_seq ?_
      refine t_region ?_
      refine tl_d rfl (d_assign rfl ?_)
      refine tl_nil ?_
      refine q_then_code ?_
      refine t_ret ?_
      refine q_block_ret ?_
      refine q_then_ret ?_
      refine q_then_ret ?_
      have hr := Option.some.inj hf; try subst hr
      have hf := hout2
      refine q_block_ret ?_
      refine q_then_ret ?_
      have hr := Option.some.inj hf; subst hr
      refine q_ret (post := fun w w' m v => rBool.val w' m v false) hR _ (.inl rfl) (fun a w hs => ?_)
      exact ⟨_, run_results rfl (RvOk.cons (rv_tmp hs rfl) RvOk.nil), (hs.hv hv_bool)⟩
    · have hf := if_f hb20 hf
      refine t_skip ?_
      refine q_block_normal ?_
      refine q_then_code ?_
      refine t_region ?_
      refine tl_d rfl (d_move rfl ?_)
      refine tl_d rfl (d_add rfl rfl ?_)
      refine tl_d rfl (d_assign rfl ?_)
      refine tl_nil ?_
      exact q_round kq3 (IntKind.i64.wrap (s1 + (1 : Int))) (Nat.lt_succ_self kq3) (wrap_wrap _ _) hf ⟨rfl, ⟨rfl, trivial⟩⟩ ⟨mem_at 0 rfl, trivial⟩ [] (Sel.nil) rfl
  · have hf := if_f hb8 hf
    refine t_exit ?_
    refine q_then_exit ?_
    refine q_then_exit ?_
    have hr := Option.some.inj hf; try subst hr
    have hf := hout2
    try dsimp only at hf
    refine q_block_hit ?_
    refine q_then_code ?_
    refine t_seq ?_
    obtain ⟨o29, ho30, hf⟩ := bind_some hf
    refine t_cut (X := Bool) (fun x => match x with | s28 => (([(2, .bool s28)], [], []) : Sym)) (fun x => match x with | s28 => s28 = o29) ?_ ?_
    · have hf := ho30; clear ho30
      rcases bool_tf (decide ((1 : Int) ≤ ((a0).length : Int))) with hb22 | hb22
      · have hf := if_t hb22 hf
        rcases bool_tf (decide (((a0).length : Int) ≤ (64 : Int))) with hb24 | hb24
        · have hf := if_t hb24 hf
          rcases bool_tf (!decide (a0 = [46])) with hb26 | hb26
          · have hf := if_t hb26 hf
            refine t_region ?_
            refine tl_d rfl (d_move rfl ?_)
            refine tl_d rfl (d_len_str rfl (mem_at 0 rfl) Try.underlying9 (fun hl31 => ?_))
            refine tl_d rfl (d_geq rfl rfl ?_)
            refine tl_d rfl (d_move rfl ?_)
            refine tl_dg (gd_on rfl rfl rfl hb22) rfl (d_move rfl ?_)
            refine tl_dg (gd_on rfl rfl rfl hb22) rfl (d_len_str rfl (mem_at 0 rfl) Try.underlying9 (fun hl32 => ?_))
            refine tl_dg (gd_on rfl rfl rfl hb22) rfl (d_leq rfl rfl ?_)
            refine tl_d rfl (d_pick_true rfl hb22 rfl ?_)
            refine tl_d rfl (d_move rfl ?_)
            refine tl_dg (gd_on rfl rfl rfl hb24) rfl (d_move rfl ?_)
            refine tl_fact (rStr.fact (.string ⟨#[46]⟩) [46]) (str_fact rfl (by decide)) ?_
            refine tl_dg (gd_on rfl rfl rfl hb24) rfl (d_str_cmp (!decide (a0 = [46])) rfl rfl (mem_at 1 rfl) (mem_at 0 rfl) (.inr (.inl ⟨rfl, rfl⟩)) ?_)
            refine tl_d rfl (d_pick_true rfl hb24 rfl ?_)
            refine tl_d rfl (d_move rfl ?_)
            refine tl_dg (gd_on rfl rfl rfl hb26) rfl (d_move rfl ?_)
            refine tl_fact (rStr.fact (.string ⟨#[46, 46]⟩) [46, 46]) (str_fact rfl (by decide)) ?_
            refine tl_dg (gd_on rfl rfl rfl hb26) rfl (d_str_cmp (!decide (a0 = [46, 46])) rfl rfl (mem_at 2 rfl) (mem_at 0 rfl) (.inr (.inl ⟨rfl, rfl⟩)) ?_)
            refine tl_d rfl (d_pick_true rfl hb26 rfl ?_)
            refine tl_d rfl (d_assign rfl ?_)
            refine tl_nil ?_
            have hr := Option.some.inj hf; subst hr
            exact q_cut (!decide (a0 = [46, 46])) rfl ⟨rfl, trivial⟩ trivial [] (Sel.nil) rfl
          · have hf := if_f hb26 hf
            refine t_region ?_
            refine tl_d rfl (d_move rfl ?_)
            refine tl_d rfl (d_len_str rfl (mem_at 0 rfl) Try.underlying9 (fun hl35 => ?_))
            refine tl_d rfl (d_geq rfl rfl ?_)
            refine tl_d rfl (d_move rfl ?_)
            refine tl_dg (gd_on rfl rfl rfl hb22) rfl (d_move rfl ?_)
            refine tl_dg (gd_on rfl rfl rfl hb22) rfl (d_len_str rfl (mem_at 0 rfl) Try.underlying9 (fun hl36 => ?_))
            refine tl_dg (gd_on rfl rfl rfl hb22) rfl (d_leq rfl rfl ?_)
            refine tl_d rfl (d_pick_true rfl hb22 rfl ?_)
            refine tl_d rfl (d_move rfl ?_)
            refine tl_dg (gd_on rfl rfl rfl hb24) rfl (d_move rfl ?_)
            refine tl_fact (rStr.fact (.string ⟨#[46]⟩) [46]) (str_fact rfl (by decide)) ?_
            refine tl_dg (gd_on rfl rfl rfl hb24) rfl (d_str_cmp (!decide (a0 = [46])) rfl rfl (mem_at 1 rfl) (mem_at 0 rfl) (.inr (.inl ⟨rfl, rfl⟩)) ?_)
            refine tl_d rfl (d_pick_true rfl hb24 rfl ?_)
            refine tl_d rfl (d_move rfl ?_)
            refine tl_off (gd_off rfl rfl rfl hb26) rfl rfl ?_
            refine tl_off (gd_off rfl rfl rfl hb26) rfl rfl ?_
            refine tl_d rfl (d_pick_false rfl hb26 rfl ?_)
            refine tl_d rfl (d_assign rfl ?_)
            refine tl_nil ?_
            have hr := Option.some.inj hf; subst hr
            exact q_cut false rfl ⟨rfl, trivial⟩ trivial [] (Sel.nil) rfl
        · have hf := if_f hb24 hf
          refine t_region ?_
          refine tl_d rfl (d_move rfl ?_)
          refine tl_d rfl (d_len_str rfl (mem_at 0 rfl) Try.underlying9 (fun hl38 => ?_))
          refine tl_d rfl (d_geq rfl rfl ?_)
          refine tl_d rfl (d_move rfl ?_)
          refine tl_dg (gd_on rfl rfl rfl hb22) rfl (d_move rfl ?_)
          refine tl_dg (gd_on rfl rfl rfl hb22) rfl (d_len_str rfl (mem_at 0 rfl) Try.underlying9 (fun hl39 => ?_))
          refine tl_dg (gd_on rfl rfl rfl hb22) rfl (d_leq rfl rfl ?_)
          refine tl_d rfl (d_pick_true rfl hb22 rfl ?_)
          refine tl_d rfl (d_move rfl ?_)
          refine tl_off (gd_off rfl rfl rfl hb24) rfl rfl ?_
          refine tl_off (gd_off rfl rfl rfl hb24) rfl rfl ?_
          refine tl_d rfl (d_pick_false rfl hb24 rfl ?_)
          refine tl_d rfl (d_move rfl ?_)
          refine tl_off (gd_off rfl rfl rfl rfl) rfl rfl ?_
          refine tl_off (gd_off rfl rfl rfl rfl) rfl rfl ?_
          refine tl_d rfl (d_pick_false rfl rfl rfl ?_)
          refine tl_d rfl (d_assign rfl ?_)
          refine tl_nil ?_
          have hr := Option.some.inj hf; subst hr
          exact q_cut false rfl ⟨rfl, trivial⟩ trivial [] (Sel.nil) rfl
      · have hf := if_f hb22 hf
        refine t_region ?_
        refine tl_d rfl (d_move rfl ?_)
        refine tl_d rfl (d_len_str rfl (mem_at 0 rfl) Try.underlying9 (fun hl40 => ?_))
        refine tl_d rfl (d_geq rfl rfl ?_)
        refine tl_d rfl (d_move rfl ?_)
        refine tl_off (gd_off rfl rfl rfl hb22) rfl rfl ?_
        refine tl_off (gd_off rfl rfl rfl hb22) rfl rfl ?_
        refine tl_off (gd_off rfl rfl rfl hb22) rfl rfl ?_
        refine tl_d rfl (d_pick_false rfl hb22 rfl ?_)
        refine tl_d rfl (d_move rfl ?_)
        refine tl_off (gd_off rfl rfl rfl rfl) rfl rfl ?_
        refine tl_off (gd_off rfl rfl rfl rfl) rfl rfl ?_
        refine tl_d rfl (d_pick_false rfl rfl rfl ?_)
        refine tl_d rfl (d_move rfl ?_)
        refine tl_off (gd_off rfl rfl rfl rfl) rfl rfl ?_
        refine tl_off (gd_off rfl rfl rfl rfl) rfl rfl ?_
        refine tl_d rfl (d_pick_false rfl rfl rfl ?_)
        refine tl_d rfl (d_assign rfl ?_)
        refine tl_nil ?_
        have hr := Option.some.inj hf; subst hr
        exact q_cut false rfl ⟨rfl, trivial⟩ trivial [] (Sel.nil) rfl
    rintro s28 rfl
    refine q_then_code ?_
    refine t_ret ?_
    have hr := Option.some.inj hf; subst hr
    refine q_ret (post := fun w w' m v => rBool.val w' m v s28) hR _ (.inl rfl) (fun a w hs => ?_)
    exact ⟨_, run_results rfl (RvOk.cons (rv_tmp hs rfl) RvOk.nil), (hs.hv hv_bool)⟩

def cofferref15_May.l0 (a0 : (List Api_Item)) : Nat → Int → Option (Sum (Bool) (Unit))
  | 0, _ => none
  | k + 1, s4 => (if (decide (s4 < ((a0).length : Int))) = true then (need (0 ≤ s4 ∧ s4 < ((a0).length : Int)) ((((cofferref15_MayName.f k ((((a0).getD (s4).toNat rApi_Item.zeroD)).Name)).bind fun c25 => (if (!c25) = true then (some true) else (if (decide (((((a0).getD (s4).toNat rApi_Item.zeroD)).Kind) < (1 : Int))) = true then (some true) else (if (decide ((2 : Int) < ((((a0).getD (s4).toNat rApi_Item.zeroD)).Kind))) = true then (some true) else (if (decide (((((a0).getD (s4).toNat rApi_Item.zeroD)).Size) < (0 : Int))) = true then (some true) else (if (decide (((((a0).getD (s4).toNat rApi_Item.zeroD)).Kind) = (2 : Int))) = true then (if (!decide (((((a0).getD (s4).toNat rApi_Item.zeroD)).Size) = (0 : Int))) = true then (some true) else (if (decide ((0 : Int) < s4)) = true then (need (0 ≤ (IntKind.i64.wrap (s4 - (1 : Int))) ∧ (IntKind.i64.wrap (s4 - (1 : Int))) < ((a0).length : Int)) ((some (!lexLt (((a0).getD ((IntKind.i64.wrap (s4 - (1 : Int)))).toNat rApi_Item.zeroD)).Name ((((a0).getD (s4).toNat rApi_Item.zeroD)).Name))))) else (some false))) else (if (decide ((0 : Int) < s4)) = true then (need (0 ≤ (IntKind.i64.wrap (s4 - (1 : Int))) ∧ (IntKind.i64.wrap (s4 - (1 : Int))) < ((a0).length : Int)) ((some (!lexLt (((a0).getD ((IntKind.i64.wrap (s4 - (1 : Int)))).toNat rApi_Item.zeroD)).Name ((((a0).getD (s4).toNat rApi_Item.zeroD)).Name))))) else (some false))))))))).bind fun s61 => (if s61 = true then (some (.inl false)) else (cofferref15_May.l0 a0 k (IntKind.i64.wrap (s4 + (1 : Int))))))) else (some (.inr ())))
def cofferref15_May.f (k : Nat) (a0 : (List Api_Item)) : Option (Bool) := (if (decide ((64 : Int) < ((a0).length : Int))) = true then (some false) else (cofferref15_May.l0 a0 k (0 : Int)).bind fun o155 => (match o155 with | .inl r => some r | .inr _ => (some true)))
set_option maxRecDepth 100000 in
set_option maxHeartbeats 6010000 in
theorem cofferref15_May_ok (k : Nat) (a0 : (List Api_Item)) (u0 : Value) (r : Bool) (hf : cofferref15_May.f k a0 = some r) : Cf.FnX true Try.prog 54 [u0] (fun w m => (rSl 64 rApi_Item).val w m u0 a0) (fun w w' m v => rBool.val w' m v r) := by
  unfold cofferref15_May.f at hf
  refine fn_of Try.func54 rfl (Nat.le_of_ble_eq_true rfl) [(rSl 64 rApi_Item).fact u0 a0] (fun w m h f hf => ?_) ?_
  · simp at hf; obtain rfl := hf; exact h
  intro w0 m0 R hR
  refine t_seq ?_
  refine t_region ?_
  refine tl_d rfl (d_assign rfl ?_)
  refine tl_nil ?_
  refine q_then_code ?_
  refine t_seq ?_
  refine t_seq ?_
  refine t_region ?_
  refine tl_d rfl (d_move rfl ?_)
  refine tl_d rfl (d_len_sl rfl (mem_at 0 rfl) Try.underlying52 (fun hl2 _ => ?_))
  refine tl_d rfl (d_gtr rfl rfl ?_)
  refine tl_nil ?_
  refine q_then_code ?_
  refine t_cond rfl (fun hb3 => ?_) (fun hb3 => ?_)
  · have hf := if_t hb3 hf
    refine t_seq ?_
    refine t_region ?_
    refine tl_d rfl (d_assign rfl ?_)
    refine tl_nil ?_
    refine q_then_code ?_
    refine t_ret ?_
    refine q_then_ret ?_
    have hr := Option.some.inj hf; subst hr
    refine q_ret (post := fun w w' m v => rBool.val w' m v false) hR _ (.inl rfl) (fun a w hs => ?_)
    exact ⟨_, run_results rfl (RvOk.cons (rv_tmp hs rfl) RvOk.nil), (hs.hv hv_bool)⟩
  · have hf := if_f hb3 hf
    refine t_skip ?_
    refine q_then_code ?_
    refine t_seq ?_
    refine t_seq ?_
    refine t_region ?_
    refine tl_d rfl (d_assign rfl ?_)
    refine tl_nil ?_
    refine q_then_code ?_
    refine t_block ?_
    obtain ⟨o155, ho156, hf⟩ := bind_some hf
    refine t_loop (X := Int) (O := Sum (Bool) (Unit)) (fun k x => match x with | s4 => cofferref15_May.l0 a0 k s4) o155 (fun x => match x with | s4 => (([(0, u0), (3, .int .i64 s4)], [(rSl 64 rApi_Item).fact u0 a0], []) : Sym)) (fun x => match x with | s4 => IntKind.i64.wrap s4 = s4) k (0 : Int) ho156 rfl ⟨rfl, ⟨rfl, trivial⟩⟩ ⟨mem_at 0 rfl, trivial⟩ [] (Sel.nil) rfl ?_
    clear ho156
    rintro k8 s4 hw_s4 hk7
    have hout5 := hf; clear hf
    obtain ⟨kq6, rfl⟩ : ∃ q, k8 = q + 1 := by cases k8 with | zero => cases hk7 | succ q => exact ⟨q, rfl⟩
    have hf := hk7
    clear hk7; dsimp only [cofferref15_May.l0] at hf
    refine t_seq ?_
    refine t_seq ?_
    refine t_region ?_
    refine tl_d rfl (d_move rfl ?_)
    refine tl_d rfl (d_move rfl ?_)
    refine tl_d rfl (d_len_sl rfl (mem_at 0 rfl) Try.underlying52 (fun hl10 _ => ?_))
    refine tl_d rfl (d_lss rfl rfl ?_)
    refine tl_nil ?_
    refine q_then_code ?_
    refine t_cond rfl (fun hb11 => ?_) (fun hb11 => ?_)
    · have hf := if_t hb11 hf
      refine t_skip ?_
      refine q_then_code ?_
      refine t_seq ?_
      refine t_block ?_
      refine t_seq ?_
      obtain ⟨hn12, hf⟩ := need_some hf
      refine t_region ?_
      refine tl_d rfl (d_move rfl ?_)
      refine tl_d rfl (d_move rfl ?_)
      refine tl_d rfl (d_index_sl rfl (mem_at 0 rfl) rfl Try.underlying52 ty54 hn12 (fun p18 => ?_))
      refine tl_d rfl (d_load_place rfl (mem_at 0 rfl) ty54 (fun v20 => ?_))
      refine tl_g [] rfl (g_alloc rfl ty54 (fun b22 => ?_))
      refine tl_g _ rfl (g_store_box 0 rfl rfl rfl (Fld.self rApi_Item) trivial (hv_fact (mem_at 0 rfl)) ty54 (List.mem_singleton_self _) ?_)
      refine tl_nil ?_
      refine q_then_code ?_
      refine t_seq ?_
      obtain ⟨o62, ho63, hf⟩ := bind_some hf
      refine t_cut (X := Bool) (fun x => match x with | s61 => (([(0, u0), (3, (.int .i64 s4)), (61, .bool s61)], [(rSl 64 rApi_Item).fact u0 a0], []) : Sym)) (fun x => match x with | s61 => s61 = o62) ?_ ?_
      · have hf := ho63; clear ho63
        obtain ⟨c25, hc26, hf⟩ := bind_some hf
        rcases bool_tf (!c25) with hb30 | hb30
        · have hf := if_t hb30 hf
          refine t_any (n := 44) [] mixed ⟨by kernel_rfl, .inl rfl⟩ (np_cut (np_then (np_block (np_then (np_then (np_block (np_then np_body))))))) ?_
          refine ta_take (i := 0) rfl (by kernel_rfl) gd_none (d_field_own rfl fo54_0 ?_)
          refine ta_take (i := 1) rfl (by kernel_rfl) gd_none (d_load_box 0 rfl rfl (Fld.at0 fl_Api_Item_Name) trivial ty9 rfl (fun v64 => ?_))
          refine ta_one (i := 2) (by kernel_rfl) rfl rfl gd_none (g_call1 rfl hfn68 (cofferref15_MayName_ok _ _ _ _ hc26) (Evs.cons rfl Evs.nil) (fun a w hs => (hv_fact (mem_at 0 rfl)) _ _ _ _ hs) (fun v66 => ?_))
          refine ta_bool (mem_at 0 rfl) (fun hv68 => ?_)
          subst hv68
          refine ta_take (i := 3) rfl (by kernel_rfl) gd_none (d_not rfl ?_)
          refine ta_take (i := 4) rfl (by kernel_rfl) gd_none (d_move rfl ?_)
          refine ta_off (i := 5) rfl (by kernel_rfl) (gd_off rfl rfl rfl hb30) ?_
          refine ta_off (i := 6) rfl (by kernel_rfl) (gd_off rfl rfl rfl hb30) ?_
          refine ta_off (i := 7) rfl (by kernel_rfl) (gd_off rfl rfl rfl hb30) ?_
          refine ta_take (i := 8) rfl (by kernel_rfl) gd_none (d_pick_true rfl hb30 rfl ?_)
          refine ta_take (i := 9) rfl (by kernel_rfl) gd_none (d_move rfl ?_)
          refine ta_off (i := 10) rfl (by kernel_rfl) (gd_off rfl rfl rfl rfl) ?_
          refine ta_off (i := 11) rfl (by kernel_rfl) (gd_off rfl rfl rfl rfl) ?_
          refine ta_off (i := 12) rfl (by kernel_rfl) (gd_off rfl rfl rfl rfl) ?_
          refine ta_take (i := 13) rfl (by kernel_rfl) gd_none (d_pick_true rfl rfl rfl ?_)
          refine ta_take (i := 14) rfl (by kernel_rfl) gd_none (d_move rfl ?_)
          refine ta_off (i := 15) rfl (by kernel_rfl) (gd_off rfl rfl rfl rfl) ?_
          refine ta_off (i := 16) rfl (by kernel_rfl) (gd_off rfl rfl rfl rfl) ?_
          refine ta_off (i := 17) rfl (by kernel_rfl) (gd_off rfl rfl rfl rfl) ?_
          refine ta_take (i := 18) rfl (by kernel_rfl) gd_none (d_pick_true rfl rfl rfl ?_)
          refine ta_take (i := 19) rfl (by kernel_rfl) gd_none (d_move rfl ?_)
          refine ta_off (i := 20) rfl (by kernel_rfl) (gd_off rfl rfl rfl rfl) ?_
          refine ta_off (i := 21) rfl (by kernel_rfl) (gd_off rfl rfl rfl rfl) ?_
          refine ta_off (i := 22) rfl (by kernel_rfl) (gd_off rfl rfl rfl rfl) ?_
          refine ta_off (i := 23) rfl (by kernel_rfl) (gd_off rfl rfl rfl rfl) ?_
          refine ta_off (i := 24) rfl (by kernel_rfl) (gd_offu rfl rfl rfl) ?_
          refine ta_off (i := 25) rfl (by kernel_rfl) (gd_offu rfl rfl rfl) ?_
          refine ta_off (i := 26) rfl (by kernel_rfl) (gd_offu rfl rfl rfl) ?_
          refine ta_off (i := 27) rfl (by kernel_rfl) (gd_off rfl rfl rfl rfl) ?_
          refine ta_take (i := 28) rfl (by kernel_rfl) gd_none (d_pick_true rfl rfl rfl ?_)
          refine ta_take (i := 29) rfl (by kernel_rfl) gd_none (d_move rfl ?_)
          refine ta_off (i := 30) rfl (by kernel_rfl) (gd_off rfl rfl rfl rfl) ?_
          refine ta_off (i := 31) rfl (by kernel_rfl) (gd_off rfl rfl rfl rfl) ?_
          refine ta_off (i := 32) rfl (by kernel_rfl) (gd_off rfl rfl rfl rfl) ?_
          refine ta_off (i := 33) rfl (by kernel_rfl) (gd_offu rfl rfl rfl) ?_
          refine ta_off (i := 34) rfl (by kernel_rfl) (gd_offu rfl rfl rfl) ?_
          refine ta_off (i := 35) rfl (by kernel_rfl) (gd_offu rfl rfl rfl) ?_
          refine ta_off (i := 36) rfl (by kernel_rfl) (gd_offu rfl rfl rfl) ?_
          refine ta_off (i := 37) rfl (by kernel_rfl) (gd_offu rfl rfl rfl) ?_
          refine ta_off (i := 38) rfl (by kernel_rfl) (gd_offu rfl rfl rfl) ?_
          refine ta_off (i := 39) rfl (by kernel_rfl) (gd_offu rfl rfl rfl) ?_
          refine ta_off (i := 40) rfl (by kernel_rfl) (gd_offu rfl rfl rfl) ?_
          refine ta_off (i := 41) rfl (by kernel_rfl) (gd_offu rfl rfl rfl) ?_
          refine ta_off (i := 42) rfl (by kernel_rfl) (gd_off rfl rfl rfl rfl) ?_
          refine ta_take (i := 43) rfl (by kernel_rfl) gd_none (d_pick_true rfl rfl rfl ?_)
          refine ta_done (by kernel_rfl) ?_
          have hr := Option.some.inj hf; subst hr
          exact q_cut true rfl ⟨rfl, ⟨rfl, ⟨rfl, trivial⟩⟩⟩ ⟨mem_at 4 rfl, trivial⟩ [] (Sel.nil) rfl
        · have hf := if_f hb30 hf
          rcases bool_tf (decide (((((a0).getD (s4).toNat rApi_Item.zeroD)).Kind) < (1 : Int))) with hb32 | hb32
          · have hf := if_t hb32 hf
            refine t_any (n := 44) [] mixed ⟨by kernel_rfl, .inl rfl⟩ (np_cut (np_then (np_block (np_then (np_then (np_block (np_then np_body))))))) ?_
            refine ta_take (i := 0) rfl (by kernel_rfl) gd_none (d_field_own rfl fo54_0 ?_)
            refine ta_take (i := 1) rfl (by kernel_rfl) gd_none (d_load_box 0 rfl rfl (Fld.at0 fl_Api_Item_Name) trivial ty9 rfl (fun v69 => ?_))
            refine ta_one (i := 2) (by kernel_rfl) rfl rfl gd_none (g_call1 rfl hfn68 (cofferref15_MayName_ok _ _ _ _ hc26) (Evs.cons rfl Evs.nil) (fun a w hs => (hv_fact (mem_at 0 rfl)) _ _ _ _ hs) (fun v71 => ?_))
            refine ta_bool (mem_at 0 rfl) (fun hv73 => ?_)
            subst hv73
            refine ta_take (i := 3) rfl (by kernel_rfl) gd_none (d_not rfl ?_)
            refine ta_take (i := 4) rfl (by kernel_rfl) gd_none (d_move rfl ?_)
            refine ta_take (i := 5) rfl (by kernel_rfl) (gd_on rfl rfl rfl hb30) (d_field_own rfl fo54_1 ?_)
            refine ta_take (i := 6) rfl (by kernel_rfl) (gd_on rfl rfl rfl hb30) (d_load_box_int 0 rfl rfl (Fld.at0 fl_Api_Item_Kind) trivial ty3 rfl (fun hw74 => ?_))
            refine ta_take (i := 7) rfl (by kernel_rfl) (gd_on rfl rfl rfl hb30) (d_lss rfl rfl ?_)
            refine ta_take (i := 8) rfl (by kernel_rfl) gd_none (d_pick_false rfl hb30 rfl ?_)
            refine ta_take (i := 9) rfl (by kernel_rfl) gd_none (d_move rfl ?_)
            refine ta_off (i := 10) rfl (by kernel_rfl) (gd_off rfl rfl rfl hb32) ?_
            refine ta_off (i := 11) rfl (by kernel_rfl) (gd_off rfl rfl rfl hb32) ?_
            refine ta_off (i := 12) rfl (by kernel_rfl) (gd_off rfl rfl rfl hb32) ?_
            refine ta_take (i := 13) rfl (by kernel_rfl) gd_none (d_pick_true rfl hb32 rfl ?_)
            refine ta_take (i := 14) rfl (by kernel_rfl) gd_none (d_move rfl ?_)
            refine ta_off (i := 15) rfl (by kernel_rfl) (gd_off rfl rfl rfl rfl) ?_
            refine ta_off (i := 16) rfl (by kernel_rfl) (gd_off rfl rfl rfl rfl) ?_
            refine ta_off (i := 17) rfl (by kernel_rfl) (gd_off rfl rfl rfl rfl) ?_
            refine ta_take (i := 18) rfl (by kernel_rfl) gd_none (d_pick_true rfl rfl rfl ?_)
            refine ta_take (i := 19) rfl (by kernel_rfl) gd_none (d_move rfl ?_)
            refine ta_off (i := 20) rfl (by kernel_rfl) (gd_off rfl rfl rfl rfl) ?_
            refine ta_off (i := 21) rfl (by kernel_rfl) (gd_off rfl rfl rfl rfl) ?_
            refine ta_off (i := 22) rfl (by kernel_rfl) (gd_off rfl rfl rfl rfl) ?_
            refine ta_off (i := 23) rfl (by kernel_rfl) (gd_off rfl rfl rfl rfl) ?_
            refine ta_off (i := 24) rfl (by kernel_rfl) (gd_offu rfl rfl rfl) ?_
            refine ta_off (i := 25) rfl (by kernel_rfl) (gd_offu rfl rfl rfl) ?_
            refine ta_off (i := 26) rfl (by kernel_rfl) (gd_offu rfl rfl rfl) ?_
            refine ta_off (i := 27) rfl (by kernel_rfl) (gd_off rfl rfl rfl rfl) ?_
            refine ta_take (i := 28) rfl (by kernel_rfl) gd_none (d_pick_true rfl rfl rfl ?_)
            refine ta_take (i := 29) rfl (by kernel_rfl) gd_none (d_move rfl ?_)
            refine ta_off (i := 30) rfl (by kernel_rfl) (gd_off rfl rfl rfl rfl) ?_
            refine ta_off (i := 31) rfl (by kernel_rfl) (gd_off rfl rfl rfl rfl) ?_
            refine ta_off (i := 32) rfl (by kernel_rfl) (gd_off rfl rfl rfl rfl) ?_
            refine ta_off (i := 33) rfl (by kernel_rfl) (gd_offu rfl rfl rfl) ?_
            refine ta_off (i := 34) rfl (by kernel_rfl) (gd_offu rfl rfl rfl) ?_
            refine ta_off (i := 35) rfl (by kernel_rfl) (gd_offu rfl rfl rfl) ?_
            refine ta_off (i := 36) rfl (by kernel_rfl) (gd_offu rfl rfl rfl) ?_
            refine ta_off (i := 37) rfl (by kernel_rfl) (gd_offu rfl rfl rfl) ?_
            refine ta_off (i := 38) rfl (by kernel_rfl) (gd_offu rfl rfl rfl) ?_
            refine ta_off (i := 39) rfl (by kernel_rfl) (gd_offu rfl rfl rfl) ?_
            refine ta_off (i := 40) rfl (by kernel_rfl) (gd_offu rfl rfl rfl) ?_
            refine ta_off (i := 41) rfl (by kernel_rfl) (gd_offu rfl rfl rfl) ?_
            refine ta_off (i := 42) rfl (by kernel_rfl) (gd_off rfl rfl rfl rfl) ?_
            refine ta_take (i := 43) rfl (by kernel_rfl) gd_none (d_pick_true rfl rfl rfl ?_)
            refine ta_done (by kernel_rfl) ?_
            have hr := Option.some.inj hf; subst hr
            exact q_cut true rfl ⟨rfl, ⟨rfl, ⟨rfl, trivial⟩⟩⟩ ⟨mem_at 4 rfl, trivial⟩ [] (Sel.nil) rfl
          · have hf := if_f hb32 hf
            rcases bool_tf (decide ((2 : Int) < ((((a0).getD (s4).toNat rApi_Item.zeroD)).Kind))) with hb34 | hb34
            · have hf := if_t hb34 hf
              refine t_any (n := 44) [] mixed ⟨by kernel_rfl, .inl rfl⟩ (np_cut (np_then (np_block (np_then (np_then (np_block (np_then np_body))))))) ?_
              refine ta_take (i := 0) rfl (by kernel_rfl) gd_none (d_field_own rfl fo54_0 ?_)
              refine ta_take (i := 1) rfl (by kernel_rfl) gd_none (d_load_box 0 rfl rfl (Fld.at0 fl_Api_Item_Name) trivial ty9 rfl (fun v75 => ?_))
              refine ta_one (i := 2) (by kernel_rfl) rfl rfl gd_none (g_call1 rfl hfn68 (cofferref15_MayName_ok _ _ _ _ hc26) (Evs.cons rfl Evs.nil) (fun a w hs => (hv_fact (mem_at 0 rfl)) _ _ _ _ hs) (fun v77 => ?_))
              refine ta_bool (mem_at 0 rfl) (fun hv79 => ?_)
              subst hv79
              refine ta_take (i := 3) rfl (by kernel_rfl) gd_none (d_not rfl ?_)
              refine ta_take (i := 4) rfl (by kernel_rfl) gd_none (d_move rfl ?_)
              refine ta_take (i := 5) rfl (by kernel_rfl) (gd_on rfl rfl rfl hb30) (d_field_own rfl fo54_1 ?_)
              refine ta_take (i := 6) rfl (by kernel_rfl) (gd_on rfl rfl rfl hb30) (d_load_box_int 0 rfl rfl (Fld.at0 fl_Api_Item_Kind) trivial ty3 rfl (fun hw80 => ?_))
              refine ta_take (i := 7) rfl (by kernel_rfl) (gd_on rfl rfl rfl hb30) (d_lss rfl rfl ?_)
              refine ta_take (i := 8) rfl (by kernel_rfl) gd_none (d_pick_false rfl hb30 rfl ?_)
              refine ta_take (i := 9) rfl (by kernel_rfl) gd_none (d_move rfl ?_)
              refine ta_take (i := 10) rfl (by kernel_rfl) (gd_on rfl rfl rfl hb32) (d_field_own rfl fo54_1 ?_)
              refine ta_take (i := 11) rfl (by kernel_rfl) (gd_on rfl rfl rfl hb32) (d_load_box_int 0 rfl rfl (Fld.at0 fl_Api_Item_Kind) trivial ty3 rfl (fun hw81 => ?_))
              refine ta_take (i := 12) rfl (by kernel_rfl) (gd_on rfl rfl rfl hb32) (d_gtr rfl rfl ?_)
              refine ta_take (i := 13) rfl (by kernel_rfl) gd_none (d_pick_false rfl hb32 rfl ?_)
              refine ta_take (i := 14) rfl (by kernel_rfl) gd_none (d_move rfl ?_)
              refine ta_off (i := 15) rfl (by kernel_rfl) (gd_off rfl rfl rfl hb34) ?_
              refine ta_off (i := 16) rfl (by kernel_rfl) (gd_off rfl rfl rfl hb34) ?_
              refine ta_off (i := 17) rfl (by kernel_rfl) (gd_off rfl rfl rfl hb34) ?_
              refine ta_take (i := 18) rfl (by kernel_rfl) gd_none (d_pick_true rfl hb34 rfl ?_)
              refine ta_take (i := 19) rfl (by kernel_rfl) gd_none (d_move rfl ?_)
              refine ta_off (i := 20) rfl (by kernel_rfl) (gd_off rfl rfl rfl rfl) ?_
              refine ta_off (i := 21) rfl (by kernel_rfl) (gd_off rfl rfl rfl rfl) ?_
              refine ta_off (i := 22) rfl (by kernel_rfl) (gd_off rfl rfl rfl rfl) ?_
              refine ta_off (i := 23) rfl (by kernel_rfl) (gd_off rfl rfl rfl rfl) ?_
              refine ta_off (i := 24) rfl (by kernel_rfl) (gd_offu rfl rfl rfl) ?_
              refine ta_off (i := 25) rfl (by kernel_rfl) (gd_offu rfl rfl rfl) ?_
              refine ta_off (i := 26) rfl (by kernel_rfl) (gd_offu rfl rfl rfl) ?_
              refine ta_off (i := 27) rfl (by kernel_rfl) (gd_off rfl rfl rfl rfl) ?_
              refine ta_take (i := 28) rfl (by kernel_rfl) gd_none (d_pick_true rfl rfl rfl ?_)
              refine ta_take (i := 29) rfl (by kernel_rfl) gd_none (d_move rfl ?_)
              refine ta_off (i := 30) rfl (by kernel_rfl) (gd_off rfl rfl rfl rfl) ?_
              refine ta_off (i := 31) rfl (by kernel_rfl) (gd_off rfl rfl rfl rfl) ?_
              refine ta_off (i := 32) rfl (by kernel_rfl) (gd_off rfl rfl rfl rfl) ?_
              refine ta_off (i := 33) rfl (by kernel_rfl) (gd_offu rfl rfl rfl) ?_
              refine ta_off (i := 34) rfl (by kernel_rfl) (gd_offu rfl rfl rfl) ?_
              refine ta_off (i := 35) rfl (by kernel_rfl) (gd_offu rfl rfl rfl) ?_
              refine ta_off (i := 36) rfl (by kernel_rfl) (gd_offu rfl rfl rfl) ?_
              refine ta_off (i := 37) rfl (by kernel_rfl) (gd_offu rfl rfl rfl) ?_
              refine ta_off (i := 38) rfl (by kernel_rfl) (gd_offu rfl rfl rfl) ?_
              refine ta_off (i := 39) rfl (by kernel_rfl) (gd_offu rfl rfl rfl) ?_
              refine ta_off (i := 40) rfl (by kernel_rfl) (gd_offu rfl rfl rfl) ?_
              refine ta_off (i := 41) rfl (by kernel_rfl) (gd_offu rfl rfl rfl) ?_
              refine ta_off (i := 42) rfl (by kernel_rfl) (gd_off rfl rfl rfl rfl) ?_
              refine ta_take (i := 43) rfl (by kernel_rfl) gd_none (d_pick_true rfl rfl rfl ?_)
              refine ta_done (by kernel_rfl) ?_
              have hr := Option.some.inj hf; subst hr
              exact q_cut true rfl ⟨rfl, ⟨rfl, ⟨rfl, trivial⟩⟩⟩ ⟨mem_at 4 rfl, trivial⟩ [] (Sel.nil) rfl
            · have hf := if_f hb34 hf
              rcases bool_tf (decide (((((a0).getD (s4).toNat rApi_Item.zeroD)).Size) < (0 : Int))) with hb36 | hb36
              · have hf := if_t hb36 hf
                refine t_any (n := 44) [] mixed ⟨by kernel_rfl, .inl rfl⟩ (np_cut (np_then (np_block (np_then (np_then (np_block (np_then np_body))))))) ?_
                refine ta_take (i := 0) rfl (by kernel_rfl) gd_none (d_field_own rfl fo54_0 ?_)
                refine ta_take (i := 1) rfl (by kernel_rfl) gd_none (d_load_box 0 rfl rfl (Fld.at0 fl_Api_Item_Name) trivial ty9 rfl (fun v82 => ?_))
                refine ta_one (i := 2) (by kernel_rfl) rfl rfl gd_none (g_call1 rfl hfn68 (cofferref15_MayName_ok _ _ _ _ hc26) (Evs.cons rfl Evs.nil) (fun a w hs => (hv_fact (mem_at 0 rfl)) _ _ _ _ hs) (fun v84 => ?_))
                refine ta_bool (mem_at 0 rfl) (fun hv86 => ?_)
                subst hv86
                refine ta_take (i := 3) rfl (by kernel_rfl) gd_none (d_not rfl ?_)
                refine ta_take (i := 4) rfl (by kernel_rfl) gd_none (d_move rfl ?_)
                refine ta_take (i := 5) rfl (by kernel_rfl) (gd_on rfl rfl rfl hb30) (d_field_own rfl fo54_1 ?_)
                refine ta_take (i := 6) rfl (by kernel_rfl) (gd_on rfl rfl rfl hb30) (d_load_box_int 0 rfl rfl (Fld.at0 fl_Api_Item_Kind) trivial ty3 rfl (fun hw87 => ?_))
                refine ta_take (i := 7) rfl (by kernel_rfl) (gd_on rfl rfl rfl hb30) (d_lss rfl rfl ?_)
                refine ta_take (i := 8) rfl (by kernel_rfl) gd_none (d_pick_false rfl hb30 rfl ?_)
                refine ta_take (i := 9) rfl (by kernel_rfl) gd_none (d_move rfl ?_)
                refine ta_take (i := 10) rfl (by kernel_rfl) (gd_on rfl rfl rfl hb32) (d_field_own rfl fo54_1 ?_)
                refine ta_take (i := 11) rfl (by kernel_rfl) (gd_on rfl rfl rfl hb32) (d_load_box_int 0 rfl rfl (Fld.at0 fl_Api_Item_Kind) trivial ty3 rfl (fun hw88 => ?_))
                refine ta_take (i := 12) rfl (by kernel_rfl) (gd_on rfl rfl rfl hb32) (d_gtr rfl rfl ?_)
                refine ta_take (i := 13) rfl (by kernel_rfl) gd_none (d_pick_false rfl hb32 rfl ?_)
                refine ta_take (i := 14) rfl (by kernel_rfl) gd_none (d_move rfl ?_)
                refine ta_take (i := 15) rfl (by kernel_rfl) (gd_on rfl rfl rfl hb34) (d_field_own rfl fo54_3 ?_)
                refine ta_take (i := 16) rfl (by kernel_rfl) (gd_on rfl rfl rfl hb34) (d_load_box_int 0 rfl rfl (Fld.at0 fl_Api_Item_Size) trivial ty2 rfl (fun hw89 => ?_))
                refine ta_take (i := 17) rfl (by kernel_rfl) (gd_on rfl rfl rfl hb34) (d_lss rfl rfl ?_)
                refine ta_take (i := 18) rfl (by kernel_rfl) gd_none (d_pick_false rfl hb34 rfl ?_)
                refine ta_take (i := 19) rfl (by kernel_rfl) gd_none (d_move rfl ?_)
                refine ta_off (i := 20) rfl (by kernel_rfl) (gd_off rfl rfl rfl hb36) ?_
                refine ta_off (i := 21) rfl (by kernel_rfl) (gd_off rfl rfl rfl hb36) ?_
                refine ta_off (i := 22) rfl (by kernel_rfl) (gd_off rfl rfl rfl hb36) ?_
                refine ta_off (i := 23) rfl (by kernel_rfl) (gd_off rfl rfl rfl hb36) ?_
                refine ta_off (i := 24) rfl (by kernel_rfl) (gd_offu rfl rfl rfl) ?_
                refine ta_off (i := 25) rfl (by kernel_rfl) (gd_offu rfl rfl rfl) ?_
                refine ta_off (i := 26) rfl (by kernel_rfl) (gd_offu rfl rfl rfl) ?_
                refine ta_off (i := 27) rfl (by kernel_rfl) (gd_off rfl rfl rfl hb36) ?_
                refine ta_take (i := 28) rfl (by kernel_rfl) gd_none (d_pick_true rfl hb36 rfl ?_)
                refine ta_take (i := 29) rfl (by kernel_rfl) gd_none (d_move rfl ?_)
                refine ta_off (i := 30) rfl (by kernel_rfl) (gd_off rfl rfl rfl rfl) ?_
                refine ta_off (i := 31) rfl (by kernel_rfl) (gd_off rfl rfl rfl rfl) ?_
                refine ta_off (i := 32) rfl (by kernel_rfl) (gd_off rfl rfl rfl rfl) ?_
                refine ta_off (i := 33) rfl (by kernel_rfl) (gd_offu rfl rfl rfl) ?_
                refine ta_off (i := 34) rfl (by kernel_rfl) (gd_offu rfl rfl rfl) ?_
                refine ta_off (i := 35) rfl (by kernel_rfl) (gd_offu rfl rfl rfl) ?_
                refine ta_off (i := 36) rfl (by kernel_rfl) (gd_offu rfl rfl rfl) ?_
                refine ta_off (i := 37) rfl (by kernel_rfl) (gd_offu rfl rfl rfl) ?_
                refine ta_off (i := 38) rfl (by kernel_rfl) (gd_offu rfl rfl rfl) ?_
                refine ta_off (i := 39) rfl (by kernel_rfl) (gd_offu rfl rfl rfl) ?_
                refine ta_off (i := 40) rfl (by kernel_rfl) (gd_offu rfl rfl rfl) ?_
                refine ta_off (i := 41) rfl (by kernel_rfl) (gd_offu rfl rfl rfl) ?_
                refine ta_off (i := 42) rfl (by kernel_rfl) (gd_off rfl rfl rfl rfl) ?_
                refine ta_take (i := 43) rfl (by kernel_rfl) gd_none (d_pick_true rfl rfl rfl ?_)
                refine ta_done (by kernel_rfl) ?_
                have hr := Option.some.inj hf; subst hr
                exact q_cut true rfl ⟨rfl, ⟨rfl, ⟨rfl, trivial⟩⟩⟩ ⟨mem_at 4 rfl, trivial⟩ [] (Sel.nil) rfl
              · have hf := if_f hb36 hf
                rcases bool_tf (decide (((((a0).getD (s4).toNat rApi_Item.zeroD)).Kind) = (2 : Int))) with hb38 | hb38
                · have hf := if_t hb38 hf
                  rcases bool_tf (!decide (((((a0).getD (s4).toNat rApi_Item.zeroD)).Size) = (0 : Int))) with hb40 | hb40
                  · have hf := if_t hb40 hf
                    refine t_any (n := 44) [] mixed ⟨by kernel_rfl, .inl rfl⟩ (np_cut (np_then (np_block (np_then (np_then (np_block (np_then np_body))))))) ?_
                    refine ta_take (i := 0) rfl (by kernel_rfl) gd_none (d_field_own rfl fo54_0 ?_)
                    refine ta_take (i := 1) rfl (by kernel_rfl) gd_none (d_load_box 0 rfl rfl (Fld.at0 fl_Api_Item_Name) trivial ty9 rfl (fun v90 => ?_))
                    refine ta_one (i := 2) (by kernel_rfl) rfl rfl gd_none (g_call1 rfl hfn68 (cofferref15_MayName_ok _ _ _ _ hc26) (Evs.cons rfl Evs.nil) (fun a w hs => (hv_fact (mem_at 0 rfl)) _ _ _ _ hs) (fun v92 => ?_))
                    refine ta_bool (mem_at 0 rfl) (fun hv94 => ?_)
                    subst hv94
                    refine ta_take (i := 3) rfl (by kernel_rfl) gd_none (d_not rfl ?_)
                    refine ta_take (i := 4) rfl (by kernel_rfl) gd_none (d_move rfl ?_)
                    refine ta_take (i := 5) rfl (by kernel_rfl) (gd_on rfl rfl rfl hb30) (d_field_own rfl fo54_1 ?_)
                    refine ta_take (i := 6) rfl (by kernel_rfl) (gd_on rfl rfl rfl hb30) (d_load_box_int 0 rfl rfl (Fld.at0 fl_Api_Item_Kind) trivial ty3 rfl (fun hw95 => ?_))
                    refine ta_take (i := 7) rfl (by kernel_rfl) (gd_on rfl rfl rfl hb30) (d_lss rfl rfl ?_)
                    refine ta_take (i := 8) rfl (by kernel_rfl) gd_none (d_pick_false rfl hb30 rfl ?_)
                    refine ta_take (i := 9) rfl (by kernel_rfl) gd_none (d_move rfl ?_)
                    refine ta_take (i := 10) rfl (by kernel_rfl) (gd_on rfl rfl rfl hb32) (d_field_own rfl fo54_1 ?_)
                    refine ta_take (i := 11) rfl (by kernel_rfl) (gd_on rfl rfl rfl hb32) (d_load_box_int 0 rfl rfl (Fld.at0 fl_Api_Item_Kind) trivial ty3 rfl (fun hw96 => ?_))
                    refine ta_take (i := 12) rfl (by kernel_rfl) (gd_on rfl rfl rfl hb32) (d_gtr rfl rfl ?_)
                    refine ta_take (i := 13) rfl (by kernel_rfl) gd_none (d_pick_false rfl hb32 rfl ?_)
                    refine ta_take (i := 14) rfl (by kernel_rfl) gd_none (d_move rfl ?_)
                    refine ta_take (i := 15) rfl (by kernel_rfl) (gd_on rfl rfl rfl hb34) (d_field_own rfl fo54_3 ?_)
                    refine ta_take (i := 16) rfl (by kernel_rfl) (gd_on rfl rfl rfl hb34) (d_load_box_int 0 rfl rfl (Fld.at0 fl_Api_Item_Size) trivial ty2 rfl (fun hw97 => ?_))
                    refine ta_take (i := 17) rfl (by kernel_rfl) (gd_on rfl rfl rfl hb34) (d_lss rfl rfl ?_)
                    refine ta_take (i := 18) rfl (by kernel_rfl) gd_none (d_pick_false rfl hb34 rfl ?_)
                    refine ta_take (i := 19) rfl (by kernel_rfl) gd_none (d_move rfl ?_)
                    refine ta_take (i := 20) rfl (by kernel_rfl) (gd_on rfl rfl rfl hb36) (d_field_own rfl fo54_1 ?_)
                    refine ta_take (i := 21) rfl (by kernel_rfl) (gd_on rfl rfl rfl hb36) (d_load_box_int 0 rfl rfl (Fld.at0 fl_Api_Item_Kind) trivial ty3 rfl (fun hw98 => ?_))
                    refine ta_take (i := 22) rfl (by kernel_rfl) (gd_on rfl rfl rfl hb36) (d_eql rfl rfl ?_)
                    refine ta_take (i := 23) rfl (by kernel_rfl) (gd_on rfl rfl rfl hb36) (d_move rfl ?_)
                    refine ta_take (i := 24) rfl (by kernel_rfl) (gd_on rfl rfl rfl hb38) (d_field_own rfl fo54_3 ?_)
                    refine ta_take (i := 25) rfl (by kernel_rfl) (gd_on rfl rfl rfl hb38) (d_load_box_int 0 rfl rfl (Fld.at0 fl_Api_Item_Size) trivial ty2 rfl (fun hw99 => ?_))
                    refine ta_take (i := 26) rfl (by kernel_rfl) (gd_on rfl rfl rfl hb38) (d_neq rfl rfl ?_)
                    refine ta_take (i := 27) rfl (by kernel_rfl) (gd_on rfl rfl rfl hb36) (d_pick_true rfl hb38 rfl ?_)
                    refine ta_take (i := 28) rfl (by kernel_rfl) gd_none (d_pick_false rfl hb36 rfl ?_)
                    refine ta_take (i := 29) rfl (by kernel_rfl) gd_none (d_move rfl ?_)
                    refine ta_off (i := 30) rfl (by kernel_rfl) (gd_off rfl rfl rfl hb40) ?_
                    refine ta_off (i := 31) rfl (by kernel_rfl) (gd_off rfl rfl rfl hb40) ?_
                    refine ta_off (i := 32) rfl (by kernel_rfl) (gd_off rfl rfl rfl hb40) ?_
                    refine ta_off (i := 33) rfl (by kernel_rfl) (gd_offu rfl rfl rfl) ?_
                    refine ta_off (i := 34) rfl (by kernel_rfl) (gd_offu rfl rfl rfl) ?_
                    refine ta_off (i := 35) rfl (by kernel_rfl) (gd_offu rfl rfl rfl) ?_
                    refine ta_off (i := 36) rfl (by kernel_rfl) (gd_offu rfl rfl rfl) ?_
                    refine ta_off (i := 37) rfl (by kernel_rfl) (gd_offu rfl rfl rfl) ?_
                    refine ta_off (i := 38) rfl (by kernel_rfl) (gd_offu rfl rfl rfl) ?_
                    refine ta_off (i := 39) rfl (by kernel_rfl) (gd_offu rfl rfl rfl) ?_
                    refine ta_off (i := 40) rfl (by kernel_rfl) (gd_offu rfl rfl rfl) ?_
                    refine ta_off (i := 41) rfl (by kernel_rfl) (gd_offu rfl rfl rfl) ?_
                    refine ta_off (i := 42) rfl (by kernel_rfl) (gd_off rfl rfl rfl hb40) ?_
                    refine ta_take (i := 43) rfl (by kernel_rfl) gd_none (d_pick_true rfl hb40 rfl ?_)
                    refine ta_done (by kernel_rfl) ?_
                    have hr := Option.some.inj hf; subst hr
                    exact q_cut true rfl ⟨rfl, ⟨rfl, ⟨rfl, trivial⟩⟩⟩ ⟨mem_at 4 rfl, trivial⟩ [] (Sel.nil) rfl
                  · have hf := if_f hb40 hf
                    rcases bool_tf (decide ((0 : Int) < s4)) with hb41 | hb41
                    · have hf := if_t hb41 hf
                      obtain ⟨hn42, hf⟩ := need_some hf
                      refine t_any (n := 44) [] mixed ⟨by kernel_rfl, .inl rfl⟩ (np_cut (np_then (np_block (np_then (np_then (np_block (np_then np_body))))))) ?_
                      refine ta_take (i := 0) rfl (by kernel_rfl) gd_none (d_field_own rfl fo54_0 ?_)
                      refine ta_take (i := 1) rfl (by kernel_rfl) gd_none (d_load_box 0 rfl rfl (Fld.at0 fl_Api_Item_Name) trivial ty9 rfl (fun v100 => ?_))
                      refine ta_one (i := 2) (by kernel_rfl) rfl rfl gd_none (g_call1 rfl hfn68 (cofferref15_MayName_ok _ _ _ _ hc26) (Evs.cons rfl Evs.nil) (fun a w hs => (hv_fact (mem_at 0 rfl)) _ _ _ _ hs) (fun v102 => ?_))
                      refine ta_bool (mem_at 0 rfl) (fun hv104 => ?_)
                      subst hv104
                      refine ta_take (i := 3) rfl (by kernel_rfl) gd_none (d_not rfl ?_)
                      refine ta_take (i := 4) rfl (by kernel_rfl) gd_none (d_move rfl ?_)
                      refine ta_take (i := 5) rfl (by kernel_rfl) (gd_on rfl rfl rfl hb30) (d_field_own rfl fo54_1 ?_)
                      refine ta_take (i := 6) rfl (by kernel_rfl) (gd_on rfl rfl rfl hb30) (d_load_box_int 0 rfl rfl (Fld.at0 fl_Api_Item_Kind) trivial ty3 rfl (fun hw105 => ?_))
                      refine ta_take (i := 7) rfl (by kernel_rfl) (gd_on rfl rfl rfl hb30) (d_lss rfl rfl ?_)
                      refine ta_take (i := 8) rfl (by kernel_rfl) gd_none (d_pick_false rfl hb30 rfl ?_)
                      refine ta_take (i := 9) rfl (by kernel_rfl) gd_none (d_move rfl ?_)
                      refine ta_take (i := 10) rfl (by kernel_rfl) (gd_on rfl rfl rfl hb32) (d_field_own rfl fo54_1 ?_)
                      refine ta_take (i := 11) rfl (by kernel_rfl) (gd_on rfl rfl rfl hb32) (d_load_box_int 0 rfl rfl (Fld.at0 fl_Api_Item_Kind) trivial ty3 rfl (fun hw106 => ?_))
                      refine ta_take (i := 12) rfl (by kernel_rfl) (gd_on rfl rfl rfl hb32) (d_gtr rfl rfl ?_)
                      refine ta_take (i := 13) rfl (by kernel_rfl) gd_none (d_pick_false rfl hb32 rfl ?_)
                      refine ta_take (i := 14) rfl (by kernel_rfl) gd_none (d_move rfl ?_)
                      refine ta_take (i := 15) rfl (by kernel_rfl) (gd_on rfl rfl rfl hb34) (d_field_own rfl fo54_3 ?_)
                      refine ta_take (i := 16) rfl (by kernel_rfl) (gd_on rfl rfl rfl hb34) (d_load_box_int 0 rfl rfl (Fld.at0 fl_Api_Item_Size) trivial ty2 rfl (fun hw107 => ?_))
                      refine ta_take (i := 17) rfl (by kernel_rfl) (gd_on rfl rfl rfl hb34) (d_lss rfl rfl ?_)
                      refine ta_take (i := 18) rfl (by kernel_rfl) gd_none (d_pick_false rfl hb34 rfl ?_)
                      refine ta_take (i := 19) rfl (by kernel_rfl) gd_none (d_move rfl ?_)
                      refine ta_take (i := 20) rfl (by kernel_rfl) (gd_on rfl rfl rfl hb36) (d_field_own rfl fo54_1 ?_)
                      refine ta_take (i := 21) rfl (by kernel_rfl) (gd_on rfl rfl rfl hb36) (d_load_box_int 0 rfl rfl (Fld.at0 fl_Api_Item_Kind) trivial ty3 rfl (fun hw108 => ?_))
                      refine ta_take (i := 22) rfl (by kernel_rfl) (gd_on rfl rfl rfl hb36) (d_eql rfl rfl ?_)
                      refine ta_take (i := 23) rfl (by kernel_rfl) (gd_on rfl rfl rfl hb36) (d_move rfl ?_)
                      refine ta_take (i := 24) rfl (by kernel_rfl) (gd_on rfl rfl rfl hb38) (d_field_own rfl fo54_3 ?_)
                      refine ta_take (i := 25) rfl (by kernel_rfl) (gd_on rfl rfl rfl hb38) (d_load_box_int 0 rfl rfl (Fld.at0 fl_Api_Item_Size) trivial ty2 rfl (fun hw109 => ?_))
                      refine ta_take (i := 26) rfl (by kernel_rfl) (gd_on rfl rfl rfl hb38) (d_neq rfl rfl ?_)
                      refine ta_take (i := 27) rfl (by kernel_rfl) (gd_on rfl rfl rfl hb36) (d_pick_true rfl hb38 rfl ?_)
                      refine ta_take (i := 28) rfl (by kernel_rfl) gd_none (d_pick_false rfl hb36 rfl ?_)
                      refine ta_take (i := 29) rfl (by kernel_rfl) gd_none (d_move rfl ?_)
                      refine ta_take (i := 30) rfl (by kernel_rfl) (gd_on rfl rfl rfl hb40) (d_move rfl ?_)
                      refine ta_take (i := 31) rfl (by kernel_rfl) (gd_on rfl rfl rfl hb40) (d_gtr rfl rfl ?_)
                      refine ta_take (i := 32) rfl (by kernel_rfl) (gd_on rfl rfl rfl hb40) (d_move rfl ?_)
                      refine ta_take (i := 33) rfl (by kernel_rfl) (gd_on rfl rfl rfl hb41) (d_move rfl ?_)
                      refine ta_take (i := 34) rfl (by kernel_rfl) (gd_on rfl rfl rfl hb41) (d_move rfl ?_)
                      refine ta_take (i := 35) rfl (by kernel_rfl) (gd_on rfl rfl rfl hb41) (d_sub rfl rfl ?_)
                      refine ta_take (i := 36) rfl (by kernel_rfl) (gd_on rfl rfl rfl hb41) (d_index_sl rfl (mem_at 4 rfl) rfl Try.underlying52 ty54 hn42 (fun p110 => ?_))
                      refine ta_take (i := 37) rfl (by kernel_rfl) (gd_on rfl rfl rfl hb41) (d_field_place rfl (mem_at 0 rfl) fo54_0 fl_Api_Item_Name trivial (fun p112 => ?_))
                      refine ta_take (i := 38) rfl (by kernel_rfl) (gd_on rfl rfl rfl hb41) (d_load_place rfl (mem_at 0 rfl) ty9 (fun v114 => ?_))
                      refine ta_take (i := 39) rfl (by kernel_rfl) (gd_on rfl rfl rfl hb41) (d_field_own rfl fo54_0 ?_)
                      refine ta_take (i := 40) rfl (by kernel_rfl) (gd_on rfl rfl rfl hb41) (d_load_box 0 rfl rfl (Fld.at0 fl_Api_Item_Name) trivial ty9 rfl (fun v116 => ?_))
                      refine ta_take (i := 41) rfl (by kernel_rfl) (gd_on rfl rfl rfl hb41) (d_str_cmp (!lexLt (((a0).getD ((IntKind.i64.wrap (s4 - (1 : Int)))).toNat rApi_Item.zeroD)).Name ((((a0).getD (s4).toNat rApi_Item.zeroD)).Name)) rfl rfl (mem_at 1 rfl) (mem_at 0 rfl) (.inr (.inr (.inr (.inr (.inr ⟨rfl, rfl⟩))))) ?_)
                      refine ta_take (i := 42) rfl (by kernel_rfl) (gd_on rfl rfl rfl hb40) (d_pick_true rfl hb41 rfl ?_)
                      refine ta_take (i := 43) rfl (by kernel_rfl) gd_none (d_pick_false rfl hb40 rfl ?_)
                      refine ta_done (by kernel_rfl) ?_
                      have hr := Option.some.inj hf; subst hr
                      exact q_cut (!lexLt (((a0).getD ((IntKind.i64.wrap (s4 - (1 : Int)))).toNat rApi_Item.zeroD)).Name ((((a0).getD (s4).toNat rApi_Item.zeroD)).Name)) rfl ⟨rfl, ⟨rfl, ⟨rfl, trivial⟩⟩⟩ ⟨mem_at 8 rfl, trivial⟩ [] (Sel.nil) rfl
                    · have hf := if_f hb41 hf
                      refine t_any (n := 44) [] mixed ⟨by kernel_rfl, .inl rfl⟩ (np_cut (np_then (np_block (np_then (np_then (np_block (np_then np_body))))))) ?_
                      refine ta_take (i := 0) rfl (by kernel_rfl) gd_none (d_field_own rfl fo54_0 ?_)
                      refine ta_take (i := 1) rfl (by kernel_rfl) gd_none (d_load_box 0 rfl rfl (Fld.at0 fl_Api_Item_Name) trivial ty9 rfl (fun v118 => ?_))
                      refine ta_one (i := 2) (by kernel_rfl) rfl rfl gd_none (g_call1 rfl hfn68 (cofferref15_MayName_ok _ _ _ _ hc26) (Evs.cons rfl Evs.nil) (fun a w hs => (hv_fact (mem_at 0 rfl)) _ _ _ _ hs) (fun v120 => ?_))
                      refine ta_bool (mem_at 0 rfl) (fun hv122 => ?_)
                      subst hv122
                      refine ta_take (i := 3) rfl (by kernel_rfl) gd_none (d_not rfl ?_)
                      refine ta_take (i := 4) rfl (by kernel_rfl) gd_none (d_move rfl ?_)
                      refine ta_take (i := 5) rfl (by kernel_rfl) (gd_on rfl rfl rfl hb30) (d_field_own rfl fo54_1 ?_)
                      refine ta_take (i := 6) rfl (by kernel_rfl) (gd_on rfl rfl rfl hb30) (d_load_box_int 0 rfl rfl (Fld.at0 fl_Api_Item_Kind) trivial ty3 rfl (fun hw123 => ?_))
                      refine ta_take (i := 7) rfl (by kernel_rfl) (gd_on rfl rfl rfl hb30) (d_lss rfl rfl ?_)
                      refine ta_take (i := 8) rfl (by kernel_rfl) gd_none (d_pick_false rfl hb30 rfl ?_)
                      refine ta_take (i := 9) rfl (by kernel_rfl) gd_none (d_move rfl ?_)
                      refine ta_take (i := 10) rfl (by kernel_rfl) (gd_on rfl rfl rfl hb32) (d_field_own rfl fo54_1 ?_)
                      refine ta_take (i := 11) rfl (by kernel_rfl) (gd_on rfl rfl rfl hb32) (d_load_box_int 0 rfl rfl (Fld.at0 fl_Api_Item_Kind) trivial ty3 rfl (fun hw124 => ?_))
                      refine ta_take (i := 12) rfl (by kernel_rfl) (gd_on rfl rfl rfl hb32) (d_gtr rfl rfl ?_)
                      refine ta_take (i := 13) rfl (by kernel_rfl) gd_none (d_pick_false rfl hb32 rfl ?_)
                      refine ta_take (i := 14) rfl (by kernel_rfl) gd_none (d_move rfl ?_)
                      refine ta_take (i := 15) rfl (by kernel_rfl) (gd_on rfl rfl rfl hb34) (d_field_own rfl fo54_3 ?_)
                      refine ta_take (i := 16) rfl (by kernel_rfl) (gd_on rfl rfl rfl hb34) (d_load_box_int 0 rfl rfl (Fld.at0 fl_Api_Item_Size) trivial ty2 rfl (fun hw125 => ?_))
                      refine ta_take (i := 17) rfl (by kernel_rfl) (gd_on rfl rfl rfl hb34) (d_lss rfl rfl ?_)
                      refine ta_take (i := 18) rfl (by kernel_rfl) gd_none (d_pick_false rfl hb34 rfl ?_)
                      refine ta_take (i := 19) rfl (by kernel_rfl) gd_none (d_move rfl ?_)
                      refine ta_take (i := 20) rfl (by kernel_rfl) (gd_on rfl rfl rfl hb36) (d_field_own rfl fo54_1 ?_)
                      refine ta_take (i := 21) rfl (by kernel_rfl) (gd_on rfl rfl rfl hb36) (d_load_box_int 0 rfl rfl (Fld.at0 fl_Api_Item_Kind) trivial ty3 rfl (fun hw126 => ?_))
                      refine ta_take (i := 22) rfl (by kernel_rfl) (gd_on rfl rfl rfl hb36) (d_eql rfl rfl ?_)
                      refine ta_take (i := 23) rfl (by kernel_rfl) (gd_on rfl rfl rfl hb36) (d_move rfl ?_)
                      refine ta_take (i := 24) rfl (by kernel_rfl) (gd_on rfl rfl rfl hb38) (d_field_own rfl fo54_3 ?_)
                      refine ta_take (i := 25) rfl (by kernel_rfl) (gd_on rfl rfl rfl hb38) (d_load_box_int 0 rfl rfl (Fld.at0 fl_Api_Item_Size) trivial ty2 rfl (fun hw127 => ?_))
                      refine ta_take (i := 26) rfl (by kernel_rfl) (gd_on rfl rfl rfl hb38) (d_neq rfl rfl ?_)
                      refine ta_take (i := 27) rfl (by kernel_rfl) (gd_on rfl rfl rfl hb36) (d_pick_true rfl hb38 rfl ?_)
                      refine ta_take (i := 28) rfl (by kernel_rfl) gd_none (d_pick_false rfl hb36 rfl ?_)
                      refine ta_take (i := 29) rfl (by kernel_rfl) gd_none (d_move rfl ?_)
                      refine ta_take (i := 30) rfl (by kernel_rfl) (gd_on rfl rfl rfl hb40) (d_move rfl ?_)
                      refine ta_take (i := 31) rfl (by kernel_rfl) (gd_on rfl rfl rfl hb40) (d_gtr rfl rfl ?_)
                      refine ta_take (i := 32) rfl (by kernel_rfl) (gd_on rfl rfl rfl hb40) (d_move rfl ?_)
                      refine ta_off (i := 33) rfl (by kernel_rfl) (gd_off rfl rfl rfl hb41) ?_
                      refine ta_off (i := 34) rfl (by kernel_rfl) (gd_off rfl rfl rfl hb41) ?_
                      refine ta_off (i := 35) rfl (by kernel_rfl) (gd_off rfl rfl rfl hb41) ?_
                      refine ta_off (i := 36) rfl (by kernel_rfl) (gd_off rfl rfl rfl hb41) ?_
                      refine ta_off (i := 37) rfl (by kernel_rfl) (gd_off rfl rfl rfl hb41) ?_
                      refine ta_off (i := 38) rfl (by kernel_rfl) (gd_off rfl rfl rfl hb41) ?_
                      refine ta_off (i := 39) rfl (by kernel_rfl) (gd_off rfl rfl rfl hb41) ?_
                      refine ta_off (i := 40) rfl (by kernel_rfl) (gd_off rfl rfl rfl hb41) ?_
                      refine ta_off (i := 41) rfl (by kernel_rfl) (gd_off rfl rfl rfl hb41) ?_
                      refine ta_take (i := 42) rfl (by kernel_rfl) (gd_on rfl rfl rfl hb40) (d_pick_false rfl hb41 rfl ?_)
                      refine ta_take (i := 43) rfl (by kernel_rfl) gd_none (d_pick_false rfl hb40 rfl ?_)
                      refine ta_done (by kernel_rfl) ?_
                      have hr := Option.some.inj hf; subst hr
                      exact q_cut false rfl ⟨rfl, ⟨rfl, ⟨rfl, trivial⟩⟩⟩ ⟨mem_at 4 rfl, trivial⟩ [] (Sel.nil) rfl
                · have hf := if_f hb38 hf
                  rcases bool_tf (decide ((0 : Int) < s4)) with hb51 | hb51
                  · have hf := if_t hb51 hf
                    obtain ⟨hn52, hf⟩ := need_some hf
                    refine t_any (n := 44) [] mixed ⟨by kernel_rfl, .inl rfl⟩ (np_cut (np_then (np_block (np_then (np_then (np_block (np_then np_body))))))) ?_
                    refine ta_take (i := 0) rfl (by kernel_rfl) gd_none (d_field_own rfl fo54_0 ?_)
                    refine ta_take (i := 1) rfl (by kernel_rfl) gd_none (d_load_box 0 rfl rfl (Fld.at0 fl_Api_Item_Name) trivial ty9 rfl (fun v128 => ?_))
                    refine ta_one (i := 2) (by kernel_rfl) rfl rfl gd_none (g_call1 rfl hfn68 (cofferref15_MayName_ok _ _ _ _ hc26) (Evs.cons rfl Evs.nil) (fun a w hs => (hv_fact (mem_at 0 rfl)) _ _ _ _ hs) (fun v130 => ?_))
                    refine ta_bool (mem_at 0 rfl) (fun hv132 => ?_)
                    subst hv132
                    refine ta_take (i := 3) rfl (by kernel_rfl) gd_none (d_not rfl ?_)
                    refine ta_take (i := 4) rfl (by kernel_rfl) gd_none (d_move rfl ?_)
                    refine ta_take (i := 5) rfl (by kernel_rfl) (gd_on rfl rfl rfl hb30) (d_field_own rfl fo54_1 ?_)
                    refine ta_take (i := 6) rfl (by kernel_rfl) (gd_on rfl rfl rfl hb30) (d_load_box_int 0 rfl rfl (Fld.at0 fl_Api_Item_Kind) trivial ty3 rfl (fun hw133 => ?_))
                    refine ta_take (i := 7) rfl (by kernel_rfl) (gd_on rfl rfl rfl hb30) (d_lss rfl rfl ?_)
                    refine ta_take (i := 8) rfl (by kernel_rfl) gd_none (d_pick_false rfl hb30 rfl ?_)
                    refine ta_take (i := 9) rfl (by kernel_rfl) gd_none (d_move rfl ?_)
                    refine ta_take (i := 10) rfl (by kernel_rfl) (gd_on rfl rfl rfl hb32) (d_field_own rfl fo54_1 ?_)
                    refine ta_take (i := 11) rfl (by kernel_rfl) (gd_on rfl rfl rfl hb32) (d_load_box_int 0 rfl rfl (Fld.at0 fl_Api_Item_Kind) trivial ty3 rfl (fun hw134 => ?_))
                    refine ta_take (i := 12) rfl (by kernel_rfl) (gd_on rfl rfl rfl hb32) (d_gtr rfl rfl ?_)
                    refine ta_take (i := 13) rfl (by kernel_rfl) gd_none (d_pick_false rfl hb32 rfl ?_)
                    refine ta_take (i := 14) rfl (by kernel_rfl) gd_none (d_move rfl ?_)
                    refine ta_take (i := 15) rfl (by kernel_rfl) (gd_on rfl rfl rfl hb34) (d_field_own rfl fo54_3 ?_)
                    refine ta_take (i := 16) rfl (by kernel_rfl) (gd_on rfl rfl rfl hb34) (d_load_box_int 0 rfl rfl (Fld.at0 fl_Api_Item_Size) trivial ty2 rfl (fun hw135 => ?_))
                    refine ta_take (i := 17) rfl (by kernel_rfl) (gd_on rfl rfl rfl hb34) (d_lss rfl rfl ?_)
                    refine ta_take (i := 18) rfl (by kernel_rfl) gd_none (d_pick_false rfl hb34 rfl ?_)
                    refine ta_take (i := 19) rfl (by kernel_rfl) gd_none (d_move rfl ?_)
                    refine ta_take (i := 20) rfl (by kernel_rfl) (gd_on rfl rfl rfl hb36) (d_field_own rfl fo54_1 ?_)
                    refine ta_take (i := 21) rfl (by kernel_rfl) (gd_on rfl rfl rfl hb36) (d_load_box_int 0 rfl rfl (Fld.at0 fl_Api_Item_Kind) trivial ty3 rfl (fun hw136 => ?_))
                    refine ta_take (i := 22) rfl (by kernel_rfl) (gd_on rfl rfl rfl hb36) (d_eql rfl rfl ?_)
                    refine ta_take (i := 23) rfl (by kernel_rfl) (gd_on rfl rfl rfl hb36) (d_move rfl ?_)
                    refine ta_off (i := 24) rfl (by kernel_rfl) (gd_off rfl rfl rfl hb38) ?_
                    refine ta_off (i := 25) rfl (by kernel_rfl) (gd_off rfl rfl rfl hb38) ?_
                    refine ta_off (i := 26) rfl (by kernel_rfl) (gd_off rfl rfl rfl hb38) ?_
                    refine ta_take (i := 27) rfl (by kernel_rfl) (gd_on rfl rfl rfl hb36) (d_pick_false rfl hb38 rfl ?_)
                    refine ta_take (i := 28) rfl (by kernel_rfl) gd_none (d_pick_false rfl hb36 rfl ?_)
                    refine ta_take (i := 29) rfl (by kernel_rfl) gd_none (d_move rfl ?_)
                    refine ta_take (i := 30) rfl (by kernel_rfl) (gd_on rfl rfl rfl rfl) (d_move rfl ?_)
                    refine ta_take (i := 31) rfl (by kernel_rfl) (gd_on rfl rfl rfl rfl) (d_gtr rfl rfl ?_)
                    refine ta_take (i := 32) rfl (by kernel_rfl) (gd_on rfl rfl rfl rfl) (d_move rfl ?_)
                    refine ta_take (i := 33) rfl (by kernel_rfl) (gd_on rfl rfl rfl hb51) (d_move rfl ?_)
                    refine ta_take (i := 34) rfl (by kernel_rfl) (gd_on rfl rfl rfl hb51) (d_move rfl ?_)
                    refine ta_take (i := 35) rfl (by kernel_rfl) (gd_on rfl rfl rfl hb51) (d_sub rfl rfl ?_)
                    refine ta_take (i := 36) rfl (by kernel_rfl) (gd_on rfl rfl rfl hb51) (d_index_sl rfl (mem_at 4 rfl) rfl Try.underlying52 ty54 hn52 (fun p137 => ?_))
                    refine ta_take (i := 37) rfl (by kernel_rfl) (gd_on rfl rfl rfl hb51) (d_field_place rfl (mem_at 0 rfl) fo54_0 fl_Api_Item_Name trivial (fun p139 => ?_))
                    refine ta_take (i := 38) rfl (by kernel_rfl) (gd_on rfl rfl rfl hb51) (d_load_place rfl (mem_at 0 rfl) ty9 (fun v141 => ?_))
                    refine ta_take (i := 39) rfl (by kernel_rfl) (gd_on rfl rfl rfl hb51) (d_field_own rfl fo54_0 ?_)
                    refine ta_take (i := 40) rfl (by kernel_rfl) (gd_on rfl rfl rfl hb51) (d_load_box 0 rfl rfl (Fld.at0 fl_Api_Item_Name) trivial ty9 rfl (fun v143 => ?_))
                    refine ta_take (i := 41) rfl (by kernel_rfl) (gd_on rfl rfl rfl hb51) (d_str_cmp (!lexLt (((a0).getD ((IntKind.i64.wrap (s4 - (1 : Int)))).toNat rApi_Item.zeroD)).Name ((((a0).getD (s4).toNat rApi_Item.zeroD)).Name)) rfl rfl (mem_at 1 rfl) (mem_at 0 rfl) (.inr (.inr (.inr (.inr (.inr ⟨rfl, rfl⟩))))) ?_)
                    refine ta_take (i := 42) rfl (by kernel_rfl) (gd_on rfl rfl rfl rfl) (d_pick_true rfl hb51 rfl ?_)
                    refine ta_take (i := 43) rfl (by kernel_rfl) gd_none (d_pick_false rfl rfl rfl ?_)
                    refine ta_done (by kernel_rfl) ?_
                    have hr := Option.some.inj hf; subst hr
                    exact q_cut (!lexLt (((a0).getD ((IntKind.i64.wrap (s4 - (1 : Int)))).toNat rApi_Item.zeroD)).Name ((((a0).getD (s4).toNat rApi_Item.zeroD)).Name)) rfl ⟨rfl, ⟨rfl, ⟨rfl, trivial⟩⟩⟩ ⟨mem_at 8 rfl, trivial⟩ [] (Sel.nil) rfl
                  · have hf := if_f hb51 hf
                    refine t_any (n := 44) [] mixed ⟨by kernel_rfl, .inl rfl⟩ (np_cut (np_then (np_block (np_then (np_then (np_block (np_then np_body))))))) ?_
                    refine ta_take (i := 0) rfl (by kernel_rfl) gd_none (d_field_own rfl fo54_0 ?_)
                    refine ta_take (i := 1) rfl (by kernel_rfl) gd_none (d_load_box 0 rfl rfl (Fld.at0 fl_Api_Item_Name) trivial ty9 rfl (fun v145 => ?_))
                    refine ta_one (i := 2) (by kernel_rfl) rfl rfl gd_none (g_call1 rfl hfn68 (cofferref15_MayName_ok _ _ _ _ hc26) (Evs.cons rfl Evs.nil) (fun a w hs => (hv_fact (mem_at 0 rfl)) _ _ _ _ hs) (fun v147 => ?_))
                    refine ta_bool (mem_at 0 rfl) (fun hv149 => ?_)
                    subst hv149
                    refine ta_take (i := 3) rfl (by kernel_rfl) gd_none (d_not rfl ?_)
                    refine ta_take (i := 4) rfl (by kernel_rfl) gd_none (d_move rfl ?_)
                    refine ta_take (i := 5) rfl (by kernel_rfl) (gd_on rfl rfl rfl hb30) (d_field_own rfl fo54_1 ?_)
                    refine ta_take (i := 6) rfl (by kernel_rfl) (gd_on rfl rfl rfl hb30) (d_load_box_int 0 rfl rfl (Fld.at0 fl_Api_Item_Kind) trivial ty3 rfl (fun hw150 => ?_))
                    refine ta_take (i := 7) rfl (by kernel_rfl) (gd_on rfl rfl rfl hb30) (d_lss rfl rfl ?_)
                    refine ta_take (i := 8) rfl (by kernel_rfl) gd_none (d_pick_false rfl hb30 rfl ?_)
                    refine ta_take (i := 9) rfl (by kernel_rfl) gd_none (d_move rfl ?_)
                    refine ta_take (i := 10) rfl (by kernel_rfl) (gd_on rfl rfl rfl hb32) (d_field_own rfl fo54_1 ?_)
                    refine ta_take (i := 11) rfl (by kernel_rfl) (gd_on rfl rfl rfl hb32) (d_load_box_int 0 rfl rfl (Fld.at0 fl_Api_Item_Kind) trivial ty3 rfl (fun hw151 => ?_))
                    refine ta_take (i := 12) rfl (by kernel_rfl) (gd_on rfl rfl rfl hb32) (d_gtr rfl rfl ?_)
                    refine ta_take (i := 13) rfl (by kernel_rfl) gd_none (d_pick_false rfl hb32 rfl ?_)
                    refine ta_take (i := 14) rfl (by kernel_rfl) gd_none (d_move rfl ?_)
                    refine ta_take (i := 15) rfl (by kernel_rfl) (gd_on rfl rfl rfl hb34) (d_field_own rfl fo54_3 ?_)
                    refine ta_take (i := 16) rfl (by kernel_rfl) (gd_on rfl rfl rfl hb34) (d_load_box_int 0 rfl rfl (Fld.at0 fl_Api_Item_Size) trivial ty2 rfl (fun hw152 => ?_))
                    refine ta_take (i := 17) rfl (by kernel_rfl) (gd_on rfl rfl rfl hb34) (d_lss rfl rfl ?_)
                    refine ta_take (i := 18) rfl (by kernel_rfl) gd_none (d_pick_false rfl hb34 rfl ?_)
                    refine ta_take (i := 19) rfl (by kernel_rfl) gd_none (d_move rfl ?_)
                    refine ta_take (i := 20) rfl (by kernel_rfl) (gd_on rfl rfl rfl hb36) (d_field_own rfl fo54_1 ?_)
                    refine ta_take (i := 21) rfl (by kernel_rfl) (gd_on rfl rfl rfl hb36) (d_load_box_int 0 rfl rfl (Fld.at0 fl_Api_Item_Kind) trivial ty3 rfl (fun hw153 => ?_))
                    refine ta_take (i := 22) rfl (by kernel_rfl) (gd_on rfl rfl rfl hb36) (d_eql rfl rfl ?_)
                    refine ta_take (i := 23) rfl (by kernel_rfl) (gd_on rfl rfl rfl hb36) (d_move rfl ?_)
                    refine ta_off (i := 24) rfl (by kernel_rfl) (gd_off rfl rfl rfl hb38) ?_
                    refine ta_off (i := 25) rfl (by kernel_rfl) (gd_off rfl rfl rfl hb38) ?_
                    refine ta_off (i := 26) rfl (by kernel_rfl) (gd_off rfl rfl rfl hb38) ?_
                    refine ta_take (i := 27) rfl (by kernel_rfl) (gd_on rfl rfl rfl hb36) (d_pick_false rfl hb38 rfl ?_)
                    refine ta_take (i := 28) rfl (by kernel_rfl) gd_none (d_pick_false rfl hb36 rfl ?_)
                    refine ta_take (i := 29) rfl (by kernel_rfl) gd_none (d_move rfl ?_)
                    refine ta_take (i := 30) rfl (by kernel_rfl) (gd_on rfl rfl rfl rfl) (d_move rfl ?_)
                    refine ta_take (i := 31) rfl (by kernel_rfl) (gd_on rfl rfl rfl rfl) (d_gtr rfl rfl ?_)
                    refine ta_take (i := 32) rfl (by kernel_rfl) (gd_on rfl rfl rfl rfl) (d_move rfl ?_)
                    refine ta_off (i := 33) rfl (by kernel_rfl) (gd_off rfl rfl rfl hb51) ?_
                    refine ta_off (i := 34) rfl (by kernel_rfl) (gd_off rfl rfl rfl hb51) ?_
                    refine ta_off (i := 35) rfl (by kernel_rfl) (gd_off rfl rfl rfl hb51) ?_
                    refine ta_off (i := 36) rfl (by kernel_rfl) (gd_off rfl rfl rfl hb51) ?_
                    refine ta_off (i := 37) rfl (by kernel_rfl) (gd_off rfl rfl rfl hb51) ?_
                    refine ta_off (i := 38) rfl (by kernel_rfl) (gd_off rfl rfl rfl hb51) ?_
                    refine ta_off (i := 39) rfl (by kernel_rfl) (gd_off rfl rfl rfl hb51) ?_
                    refine ta_off (i := 40) rfl (by kernel_rfl) (gd_off rfl rfl rfl hb51) ?_
                    refine ta_off (i := 41) rfl (by kernel_rfl) (gd_off rfl rfl rfl hb51) ?_
                    refine ta_take (i := 42) rfl (by kernel_rfl) (gd_on rfl rfl rfl rfl) (d_pick_false rfl hb51 rfl ?_)
                    refine ta_take (i := 43) rfl (by kernel_rfl) gd_none (d_pick_false rfl rfl rfl ?_)
                    refine ta_done (by kernel_rfl) ?_
                    have hr := Option.some.inj hf; subst hr
                    exact q_cut false rfl ⟨rfl, ⟨rfl, ⟨rfl, trivial⟩⟩⟩ ⟨mem_at 4 rfl, trivial⟩ [] (Sel.nil) rfl
      rintro s61 rfl
      refine q_then_code ?_
      refine t_cond rfl (fun hb154 => ?_) (fun hb154 => ?_)
      · have hf := if_t hb154 hf
        refine t_seq ?_
        refine t_region ?_
        refine tl_d rfl (d_assign rfl ?_)
        refine tl_nil ?_
        refine q_then_code ?_
        refine t_ret ?_
        refine q_block_ret ?_
        refine q_then_ret ?_
        refine q_then_ret ?_
        have hr := Option.some.inj hf; try subst hr
        have hf := hout5
        refine q_block_ret ?_
        refine q_then_ret ?_
        have hr := Option.some.inj hf; subst hr
        refine q_ret (post := fun w w' m v => rBool.val w' m v false) hR _ (.inl rfl) (fun a w hs => ?_)
        exact ⟨_, run_results rfl (RvOk.cons (rv_tmp hs rfl) RvOk.nil), (hs.hv hv_bool)⟩
      · have hf := if_f hb154 hf
        refine t_skip ?_
        refine q_block_normal ?_
        refine q_then_code ?_
        refine t_region ?_
        refine tl_d rfl (d_move rfl ?_)
        refine tl_d rfl (d_add rfl rfl ?_)
        refine tl_d rfl (d_assign rfl ?_)
        refine tl_nil ?_
        exact q_round kq6 (IntKind.i64.wrap (s4 + (1 : Int))) (Nat.lt_succ_self kq6) (wrap_wrap _ _) hf ⟨rfl, ⟨rfl, trivial⟩⟩ ⟨mem_at 0 rfl, trivial⟩ [] (Sel.nil) rfl
    · have hf := if_f hb11 hf
      refine t_exit ?_
      refine q_then_exit ?_
      refine q_then_exit ?_
      have hr := Option.some.inj hf; try subst hr
      have hf := hout5
      try dsimp only at hf
      refine q_block_hit ?_
      refine q_then_code ?_
      refine t_seq ?_
      refine t_region ?_
      refine tl_d rfl (d_assign rfl ?_)
      refine tl_nil ?_
      refine q_then_code ?_
      refine t_ret ?_
      have hr := Option.some.inj hf; subst hr
      refine q_ret (post := fun w w' m v => rBool.val w' m v true) hR _ (.inl rfl) (fun a w hs => ?_)
      exact ⟨_, run_results rfl (RvOk.cons (rv_tmp hs rfl) RvOk.nil), (hs.hv hv_bool)⟩

def cofferref1_Count.l0 : Nat → Int → (List Int) → Option (Int × (List Int))
  | 0, _, _ => none
  | k + 1, s6, s7 => (if (decide ((128 : Int) ≤ s6)) = true then (need (fits 1 ((s7).length + ([(IntKind.u8.wrap (IntKind.u64.wrap ((s6.tmod (128 : Int)) + (128 : Int))))]).length)) ((cofferref1_Count.l0 k (IntKind.u64.wrap (s6.tdiv (128 : Int))) (s7 ++ [(IntKind.u8.wrap (IntKind.u64.wrap ((s6.tmod (128 : Int)) + (128 : Int))))])))) else (some ((s6, s7))))
def cofferref1_Count.f (k : Nat) (a0 : (List Int)) (a1 : Int) : Option ((List Int)) := (need (fits 1 ((([] : List Int)).length + (a0).length)) ((cofferref1_Count.l0 k a1 (([] : List Int) ++ a0)).bind fun o24 => (match o24 with | (s6, s7) => (need (fits 1 ((s7).length + ([(IntKind.u8.wrap s6)]).length)) ((some (s7 ++ [(IntKind.u8.wrap s6)])))))))
set_option maxRecDepth 100000 in
set_option maxHeartbeats 860000 in
theorem cofferref1_Count_ok (k : Nat) (a0 : (List Int)) (a1 : Int) (u0 : Value) (r : (List Int)) (hf : cofferref1_Count.f k a0 a1 = some r) : Cf.FnX true Try.prog 55 [u0, (.int .u64 a1)] (fun w m => (rSl 1 (rInt .u8)).val w m u0 a0 ∧ (rInt .u64).val w m (.int .u64 a1) a1) (fun w w' m v => OwnRes (rInt .u8) 1 w w' m v r) := by
  unfold cofferref1_Count.f at hf
  refine fn_of Try.func55 rfl (Nat.le_of_ble_eq_true rfl) [(rSl 1 (rInt .u8)).fact u0 a0, (rInt .u64).fact (.int .u64 a1) a1] (fun w m h f hf => ?_) ?_
  · simp at hf; rcases hf with rfl | rfl
    · exact h.1
    · exact h.2
  intro w0 m0 R hR
  refine t_int (mem_at 1 rfl) (fun _ hw1 => ?_)
  refine t_seq ?_
  refine t_region ?_
  refine tl_d rfl (d_assign rfl ?_)
  refine tl_nil ?_
  refine q_then_code ?_
  refine t_seq ?_
  obtain ⟨hn2, hf⟩ := need_some hf
  refine t_region ?_
  refine tl_g [] rfl (g_buildSlice (R := (rInt .u8)) (l := []) rfl Try.underlying32 ty5 ⟨rfl, by decide, by decide, by decide⟩ PartsOk.nil rfl (fun v4 => ?_))
  refine tl_d rfl (d_move rfl ?_)
  refine tl_g _ rfl (g_append_sl (l2 := a0) 0 rfl rfl rfl rfl (hv_fact (mem_at 0 rfl)) Try.underlying32 ⟨_, Try.underlying32, fun k h => by cases h⟩ ty5 hn2 (List.mem_singleton_self _) (fun v5 => ?_))
  refine tl_d rfl (d_assign rfl ?_)
  refine tl_nil ?_
  refine q_then_code ?_
  refine t_seq ?_
  refine t_block ?_
  obtain ⟨o24, ho25, hf⟩ := bind_some hf
  refine t_loop (X := Int × (List Int) × Value) (O := Int × (List Int)) (fun k x => match x with | (s6, s7, z8) => cofferref1_Count.l0 k s6 s7) o24 (fun x => match x with | (s6, s7, z8) => (([(1, .int .u64 s6), (5, z8)], [], [Own.buf z8 1 (rInt .u8) s7]) : Sym)) (fun x => match x with | (s6, s7, z8) => IntKind.u64.wrap s6 = s6) k (a1, (([] : List Int) ++ a0), v5) ho25 hw1 ⟨rfl, ⟨rfl, trivial⟩⟩ trivial [0] (Sel.cons rfl Sel.nil) rfl ?_
  clear ho25
  rintro k12 ⟨s6, s7, z8⟩ hw_s6 hk11
  have hout9 := hf; clear hf
  obtain ⟨kq10, rfl⟩ : ∃ q, k12 = q + 1 := by cases k12 with | zero => cases hk11 | succ q => exact ⟨q, rfl⟩
  have hf := hk11
  clear hk11; dsimp only [cofferref1_Count.l0] at hf
  refine t_seq ?_
  refine t_seq ?_
  refine t_region ?_
  refine tl_d rfl (d_move rfl ?_)
  refine tl_d rfl (d_geq rfl rfl ?_)
  refine tl_nil ?_
  refine q_then_code ?_
  refine t_cond rfl (fun hb13 => ?_) (fun hb13 => ?_)
  · have hf := if_t hb13 hf
    refine t_skip ?_
    refine q_then_code ?_
    refine t_block ?_
    refine t_seq ?_
    obtain ⟨hn15, hf⟩ := need_some hf
    refine t_region ?_
    refine tl_d rfl (d_move rfl ?_)
    refine tl_d rfl (d_move rfl ?_)
    refine tl_d rfl (d_rem rfl rfl (by decide) ?_)
    refine tl_d rfl (d_add rfl rfl ?_)
    refine tl_d rfl (d_conv Try.underlying91 Try.underlying5 rfl ?_)
    refine tl_g [] rfl (g_buildSlice (R := (rInt .u8)) (l := [(IntKind.u8.wrap (IntKind.u64.wrap ((s6.tmod (128 : Int)) + (128 : Int))))]) rfl Try.underlying32 ty5 ⟨rfl, by decide, by decide, by decide⟩ (PartsOk.cons rfl rfl (hv_int (wrap_wrap _ _)) PartsOk.nil) rfl (fun v17 => ?_))
    refine tl_g _ rfl (g_append_buf 0 1 rfl rfl rfl rfl rfl rfl Try.underlying32 ⟨_, Try.underlying32, fun k h => by cases h⟩ ty5 hn15 (List.mem_singleton_self _) (fun v18 => ?_))
    refine tl_d rfl (d_assign rfl ?_)
    refine tl_nil ?_
    refine q_then_code ?_
    refine t_region ?_
    refine tl_d rfl (d_move rfl ?_)
    refine tl_d rfl (d_quo rfl rfl (by decide) ?_)
    refine tl_d rfl (d_assign rfl ?_)
    refine tl_nil ?_
    refine q_block_normal ?_
    exact q_round kq10 ((IntKind.u64.wrap (s6.tdiv (128 : Int))), (s7 ++ [(IntKind.u8.wrap (IntKind.u64.wrap ((s6.tmod (128 : Int)) + (128 : Int))))]), v18) (Nat.lt_succ_self kq10) (wrap_wrap _ _) hf ⟨rfl, ⟨rfl, trivial⟩⟩ trivial [0] (Sel.cons rfl Sel.nil) rfl
  · have hf := if_f hb13 hf
    refine t_exit ?_
    refine q_then_exit ?_
    refine q_then_exit ?_
    have hr := Option.some.inj hf; try subst hr
    have hf := hout9
    try dsimp only at hf
    refine q_block_hit ?_
    refine q_then_code ?_
    refine t_seq ?_
    obtain ⟨hn20, hf⟩ := need_some hf
    refine t_region ?_
    refine tl_d rfl (d_move rfl ?_)
    refine tl_d rfl (d_move rfl ?_)
    refine tl_d rfl (d_conv Try.underlying91 Try.underlying5 rfl ?_)
    refine tl_g [] rfl (g_buildSlice (R := (rInt .u8)) (l := [(IntKind.u8.wrap s6)]) rfl Try.underlying32 ty5 ⟨rfl, by decide, by decide, by decide⟩ (PartsOk.cons rfl rfl (hv_int (wrap_wrap _ _)) PartsOk.nil) rfl (fun v22 => ?_))
    refine tl_g _ rfl (g_append_buf 0 1 rfl rfl rfl rfl rfl rfl Try.underlying32 ⟨_, Try.underlying32, fun k h => by cases h⟩ ty5 hn20 (List.mem_singleton_self _) (fun v23 => ?_))
    refine tl_d rfl (d_assign rfl ?_)
    refine tl_nil ?_
    refine q_then_code ?_
    refine t_ret ?_
    have hr := Option.some.inj hf; subst hr
    refine q_ret (post := fun w w' m v => OwnRes (rInt .u8) 1 w w' m v (s7 ++ [(IntKind.u8.wrap s6)])) hR _ (.inl rfl) (fun a w hs => ?_)
    exact ⟨_, run_results rfl (RvOk.cons (rv_tmp hs rfl) RvOk.nil), (hs.ownres (i := 0) rfl)⟩

def cofferref1_Text.f (k : Nat) (a0 : (List Int)) (a1 : (List Int)) : Option ((List Int) × Int) := (if (decide ((65536 : Int) < ((a1).length : Int))) = true then (some (([] : (List Int)), (2 : Int))) else ((cofferref1_Count.f k a0 ((a1).length : Int)).bind fun c5 => need (fits 1 ((c5).length + (a1).length)) ((some ((c5 ++ a1), (0 : Int))))))
set_option maxRecDepth 100000 in
set_option maxHeartbeats 540000 in
theorem cofferref1_Text_ok (k : Nat) (a0 : (List Int)) (a1 : (List Int)) (u0 u1 : Value) (r : (List Int) × Int) (hf : cofferref1_Text.f k a0 a1 = some r) : Cf.FnX true Try.prog 56 [u0, u1] (fun w m => (rSl 1 (rInt .u8)).val w m u0 a0 ∧ (rSl 1 (rInt .u8)).val w m u1 a1) (fun w w' m v => ∃ v0 v1, v = .tuple #[v0, v1] ∧ OwnRes (rInt .u8) 1 w w' m v0 r.1 ∧ ∀ m', (∀ b, b ∈ m' → b ∈ m ∨ bufBlk v0 = some b) → (rInt .i64).val w' m' v1 r.2) := by
  unfold cofferref1_Text.f at hf
  refine fn_of Try.func56 rfl (Nat.le_of_ble_eq_true rfl) [(rSl 1 (rInt .u8)).fact u0 a0, (rSl 1 (rInt .u8)).fact u1 a1] (fun w m h f hf => ?_) ?_
  · simp at hf; rcases hf with rfl | rfl
    · exact h.1
    · exact h.2
  intro w0 m0 R hR
  refine t_seq ?_
  refine t_region ?_
  refine tl_d rfl (d_assign rfl ?_)
  refine tl_d rfl (d_assign rfl ?_)
  refine tl_nil ?_
  refine q_then_code ?_
  refine t_seq ?_
  refine t_seq ?_
  refine t_region ?_
  refine tl_d rfl (d_move rfl ?_)
  refine tl_d rfl (d_len_sl rfl (mem_at 1 rfl) Try.underlying32 (fun hl2 _ => ?_))
  refine tl_d rfl (d_gtr rfl rfl ?_)
  refine tl_nil ?_
  refine q_then_code ?_
  refine t_cond rfl (fun hb3 => ?_) (fun hb3 => ?_)
  · have hf := if_t hb3 hf
    refine t_seq ?_
    refine t_region ?_
    refine tl_d rfl (d_assign rfl ?_)
    refine tl_d rfl (d_assign rfl ?_)
    refine tl_nil ?_
    refine q_then_code ?_
    refine t_ret ?_
    refine q_then_ret ?_
    have hr := Option.some.inj hf; subst hr
    refine q_ret (post := fun w w' m v => ∃ v0 v1, v = .tuple #[v0, v1] ∧ OwnRes (rInt .u8) 1 w w' m v0 ([] : (List Int)) ∧ ∀ m', (∀ b, b ∈ m' → b ∈ m ∨ bufBlk v0 = some b) → (rInt .i64).val w' m' v1 (2 : Int)) hR _ (.inl rfl) (fun a w hs => ?_)
    exact ⟨_, run_results rfl (RvOk.cons (rv_tmp hs rfl) (RvOk.cons (rv_tmp hs rfl) RvOk.nil)), _, _, rfl, ownres_nil, fun m' hm' => ⟨[_], ⟨rfl, rfl⟩, rfl⟩⟩
  · have hf := if_f hb3 hf
    refine t_skip ?_
    refine q_then_code ?_
    refine t_seq ?_
    obtain ⟨c5, hc6, hf⟩ := bind_some hf
    obtain ⟨hn9, hf⟩ := need_some hf
    refine t_region ?_
    refine tl_d rfl (d_move rfl ?_)
    refine tl_d rfl (d_move rfl ?_)
    refine tl_d rfl (d_len_sl rfl (mem_at 1 rfl) Try.underlying32 (fun hl11 _ => ?_))
    refine tl_d rfl (d_conv_id Try.underlying3 Try.underlying91 rfl (wrap_lenu hl11) ?_)
    refine tl_g [] rfl (g_callo rfl hfn55 (cofferref1_Count_ok _ _ _ _ _ hc6) (Evs.cons rfl (Evs.cons rfl Evs.nil)) (fun a w hs => ⟨(hv_fact (mem_at 0 rfl)) _ _ _ _ hs, (hv_int (wrap_lenu hl11)) _ _ _ _ hs⟩) (fun v12 => ?_))
    refine tl_d rfl (d_move rfl ?_)
    refine tl_g _ rfl (g_append_sl (l2 := a1) 0 rfl rfl rfl rfl (hv_fact (mem_at 1 rfl)) Try.underlying32 ⟨_, Try.underlying32, fun k h => by cases h⟩ ty5 hn9 (List.mem_singleton_self _) (fun v14 => ?_))
    refine tl_d rfl (d_assign rfl ?_)
    refine tl_d rfl (d_assign rfl ?_)
    refine tl_nil ?_
    refine q_then_code ?_
    refine t_ret ?_
    have hr := Option.some.inj hf; subst hr
    refine q_ret (post := fun w w' m v => ∃ v0 v1, v = .tuple #[v0, v1] ∧ OwnRes (rInt .u8) 1 w w' m v0 (c5 ++ a1) ∧ ∀ m', (∀ b, b ∈ m' → b ∈ m ∨ bufBlk v0 = some b) → (rInt .i64).val w' m' v1 (0 : Int)) hR _ (.inl rfl) (fun a w hs => ?_)
    exact ⟨_, run_results rfl (RvOk.cons (rv_tmp hs rfl) (RvOk.cons (rv_tmp hs rfl) RvOk.nil)), _, _, rfl, (hs.ownres (i := 0) rfl), fun m' hm' => ⟨[_], ⟨rfl, rfl⟩, rfl⟩⟩

def cofferref15_Bytes.l0 (a0 : (List Api_Item)) : Nat → (List Int) → Int → Option ((List Int))
  | 0, _, _ => none
  | k + 1, s22, s24 => (if (decide (s24 < ((a0).length : Int))) = true then (need (0 ≤ s24 ∧ s24 < ((a0).length : Int)) ((need (fits 1 ((s22).length + ([(IntKind.u8.wrap ((((a0).getD (s24).toNat rApi_Item.zeroD)).Kind))]).length)) ((cofferref1_Text.f k (s22 ++ [(IntKind.u8.wrap ((((a0).getD (s24).toNat rApi_Item.zeroD)).Kind))]) ((((a0).getD (s24).toNat rApi_Item.zeroD)).Name)).bind fun c51 => (need (fits 1 ((c51.1).length + ((sub ((((a0).getD (s24).toNat rApi_Item.zeroD)).Of) (0 : Int) (32 : Int))).length)) ((cofferref1_Count.f k (c51.1 ++ (sub ((((a0).getD (s24).toNat rApi_Item.zeroD)).Of) (0 : Int) (32 : Int))) (IntKind.u64.wrap (((a0).getD (s24).toNat rApi_Item.zeroD)).Size)).bind fun c101 => (cofferref15_Bytes.l0 a0 k c101 (IntKind.i64.wrap (s24 + (1 : Int)))))))))) else (some (s22)))
def cofferref15_Bytes.f (k : Nat) (a0 : (List Api_Item)) : Option ((List Int) × Int) := ((cofferref15_May.f k a0).bind fun c1 => (if (!c1) = true then (some (([] : (List Int)), (1 : Int))) else ((cofferref1_Count.f k [(68 : Int), (49 : Int)] ((a0).length : Int)).bind fun c13 => (cofferref15_Bytes.l0 a0 k c13 (0 : Int)).bind fun o118 => (match o118 with | s22 => (if (decide ((4000 : Int) < ((s22).length : Int))) = true then (some (([] : (List Int)), (2 : Int))) else (some (s22, (0 : Int))))))))
set_option maxRecDepth 100000 in
set_option maxHeartbeats 2060000 in
theorem cofferref15_Bytes_ok (k : Nat) (a0 : (List Api_Item)) (u0 : Value) (r : (List Int) × Int) (hf : cofferref15_Bytes.f k a0 = some r) : Cf.FnX true Try.prog 37 [u0] (fun w m => (rSl 64 rApi_Item).val w m u0 a0) (fun w w' m v => ∃ v0 v1, v = .tuple #[v0, v1] ∧ OwnRes (rInt .u8) 1 w w' m v0 r.1 ∧ ∀ m', (∀ b, b ∈ m' → b ∈ m ∨ bufBlk v0 = some b) → (rInt .i64).val w' m' v1 r.2) := by
  unfold cofferref15_Bytes.f at hf
  refine fn_of Try.func37 rfl (Nat.le_of_ble_eq_true rfl) [(rSl 64 rApi_Item).fact u0 a0] (fun w m h f hf => ?_) ?_
  · simp at hf; obtain rfl := hf; exact h
  intro w0 m0 R hR
  refine t_seq ?_
  refine t_region ?_
  refine tl_d rfl (d_assign rfl ?_)
  refine tl_d rfl (d_assign rfl ?_)
  refine tl_nil ?_
  refine q_then_code ?_
  refine t_seq ?_
  refine t_seq ?_
  obtain ⟨c1, hc2, hf⟩ := bind_some hf
  refine t_region ?_
  refine tl_d rfl (d_move rfl ?_)
  refine tl_g [] rfl (g_call1 rfl hfn54 (cofferref15_May_ok _ _ _ _ hc2) (Evs.cons rfl Evs.nil) (fun a w hs => (hv_fact (mem_at 0 rfl)) _ _ _ _ hs) (fun v6 => ?_))
  refine tl_bool (mem_at 0 rfl) (fun hv8 => ?_)
  subst hv8
  refine tl_d rfl (d_not rfl ?_)
  refine tl_nil ?_
  refine q_then_code ?_
  refine t_cond rfl (fun hb9 => ?_) (fun hb9 => ?_)
  · have hf := if_t hb9 hf
    refine t_seq ?_
    refine t_region ?_
    refine tl_d rfl (d_assign rfl ?_)
    refine tl_d rfl (d_assign rfl ?_)
    refine tl_nil ?_
    refine q_then_code ?_
    refine t_ret ?_
    refine q_then_ret ?_
    have hr := Option.some.inj hf; subst hr
    refine q_ret (post := fun w w' m v => ∃ v0 v1, v = .tuple #[v0, v1] ∧ OwnRes (rInt .u8) 1 w w' m v0 ([] : (List Int)) ∧ ∀ m', (∀ b, b ∈ m' → b ∈ m ∨ bufBlk v0 = some b) → (rInt .i64).val w' m' v1 (1 : Int)) hR _ (.inl rfl) (fun a w hs => ?_)
    exact ⟨_, run_results rfl (RvOk.cons (rv_tmp hs rfl) (RvOk.cons (rv_tmp hs rfl) RvOk.nil)), _, _, rfl, ownres_nil, fun m' hm' => ⟨[_], ⟨rfl, rfl⟩, rfl⟩⟩
  · have hf := if_f hb9 hf
    refine t_skip ?_
    refine q_then_code ?_
    refine t_seq ?_
    obtain ⟨c13, hc14, hf⟩ := bind_some hf
    refine t_region ?_
    refine tl_g [] rfl (g_buildSlice (R := (rInt .u8)) (l := [(68 : Int), (49 : Int)]) rfl Try.underlying32 ty5 ⟨rfl, by decide, by decide, by decide⟩ (PartsOk.cons rfl rfl (hv_int rfl) (PartsOk.cons rfl rfl (hv_int rfl) PartsOk.nil)) rfl (fun v17 => ?_))
    refine tl_g _ rfl (g_mark 0 rfl rfl rfl (by simp) Try.underlying32 Try.underlying5 (List.mem_singleton_self _) ?_)
    refine tl_d rfl (d_move rfl ?_)
    refine tl_d rfl (d_len_sl rfl (mem_at 2 rfl) Try.underlying52 (fun hl19 _ => ?_))
    refine tl_d rfl (d_conv_id Try.underlying3 Try.underlying91 rfl (wrap_lenu hl19) ?_)
    refine tl_g [] rfl (g_callo rfl hfn55 (cofferref1_Count_ok _ _ _ _ _ hc14) (Evs.cons rfl (Evs.cons rfl Evs.nil)) (fun a w hs => ⟨(hv_fact (mem_at 0 rfl)) _ _ _ _ hs, (hv_int (wrap_lenu hl19)) _ _ _ _ hs⟩) (fun v20 => ?_))
    refine tl_d rfl (d_assign rfl ?_)
    refine tl_nil ?_
    refine q_then_code ?_
    refine t_seq ?_
    refine t_seq ?_
    refine t_region ?_
    refine tl_d rfl (d_assign rfl ?_)
    refine tl_nil ?_
    refine q_then_code ?_
    refine t_block ?_
    obtain ⟨o118, ho119, hf⟩ := bind_some hf
    refine t_loop (X := (List Int) × Int × Value) (O := (List Int)) (fun k x => match x with | (s22, s24, z23) => cofferref15_Bytes.l0 a0 k s22 s24) o118 (fun x => match x with | (s22, s24, z23) => (([(0, u0), (4, z23), (5, .int .i64 s24)], [(rSl 64 rApi_Item).fact u0 a0], [Own.buf z23 1 (rInt .u8) s22]) : Sym)) (fun x => match x with | (s22, s24, z23) => IntKind.i64.wrap s24 = s24) k (c13, (0 : Int), v20) ho119 rfl ⟨rfl, ⟨rfl, ⟨rfl, trivial⟩⟩⟩ ⟨mem_at 2 rfl, trivial⟩ [1] (Sel.cons rfl Sel.nil) rfl ?_
    clear ho119
    rintro k28 ⟨s22, s24, z23⟩ hw_s24 hk27
    have hout25 := hf; clear hf
    obtain ⟨kq26, rfl⟩ : ∃ q, k28 = q + 1 := by cases k28 with | zero => cases hk27 | succ q => exact ⟨q, rfl⟩
    have hf := hk27
    clear hk27; dsimp only [cofferref15_Bytes.l0] at hf
    refine t_seq ?_
    refine t_seq ?_
    refine t_region ?_
    refine tl_d rfl (d_move rfl ?_)
    refine tl_d rfl (d_move rfl ?_)
    refine tl_d rfl (d_len_sl rfl (mem_at 0 rfl) Try.underlying52 (fun hl30 _ => ?_))
    refine tl_d rfl (d_lss rfl rfl ?_)
    refine tl_nil ?_
    refine q_then_code ?_
    refine t_cond rfl (fun hb31 => ?_) (fun hb31 => ?_)
    · have hf := if_t hb31 hf
      refine t_skip ?_
      refine q_then_code ?_
      refine t_seq ?_
      refine t_block ?_
      refine t_seq ?_
      obtain ⟨hn32, hf⟩ := need_some hf
      refine t_region ?_
      refine tl_d rfl (d_move rfl ?_)
      refine tl_d rfl (d_move rfl ?_)
      refine tl_d rfl (d_index_sl rfl (mem_at 0 rfl) rfl Try.underlying52 ty54 hn32 (fun p38 => ?_))
      refine tl_d rfl (d_load_place rfl (mem_at 0 rfl) ty54 (fun v40 => ?_))
      refine tl_g [] rfl (g_alloc rfl ty54 (fun b42 => ?_))
      refine tl_g _ rfl (g_store_box 1 rfl rfl rfl (Fld.self rApi_Item) trivial (hv_fact (mem_at 0 rfl)) ty54 (List.mem_singleton_self _) ?_)
      refine tl_nil ?_
      refine q_then_code ?_
      refine t_seq ?_
      obtain ⟨hn45, hf⟩ := need_some hf
      obtain ⟨c51, hc52, hf⟩ := bind_some hf
      refine t_cut (X := Value) (fun x => match x with | z59 => (([(0, u0), (4, z59), (5, (.int .i64 s24)), (6, (.pointer (some ⟨b42, 0, none⟩)))], [(rSl 64 rApi_Item).fact u0 a0], [Own.buf z59 1 (rInt .u8) c51.1, Own.box b42 rApi_Item ((a0).getD (s24).toNat rApi_Item.zeroD)]) : Sym)) (fun _ => True) ?_ ?_
      · refine t_any (n := 14) [0, 2, 3, 4, 5, 6, 7, 8, 9, 10, 11, 12, 13] mixed ⟨by kernel_rfl, .inl rfl⟩ (np_cut (np_then (np_block (np_then (np_then (np_block (np_then np_body))))))) ?_
        refine ta_take (i := 0) rfl (by kernel_rfl) gd_none (d_move rfl ?_)
        refine ta_take (i := 1) rfl (by kernel_rfl) gd_none (d_field_own rfl fo54_1 ?_)
        refine ta_take (i := 2) rfl (by kernel_rfl) gd_none (d_load_box_int 1 rfl rfl (Fld.at0 fl_Api_Item_Kind) trivial ty3 rfl (fun hw60 => ?_))
        refine ta_take (i := 3) rfl (by kernel_rfl) gd_none (d_conv Try.underlying3 Try.underlying5 rfl ?_)
        refine ta_take (i := 6) rfl (by kernel_rfl) gd_none (d_field_own rfl fo54_0 ?_)
        refine ta_take (i := 7) rfl (by kernel_rfl) gd_none (d_load_box 1 rfl rfl (Fld.at0 fl_Api_Item_Name) trivial ty9 rfl (fun v61 => ?_))
        refine ta_two (i := 4) (j := 8) (by kernel_rfl) rfl rfl rfl gd_none gd_none ?_ ?_
        · refine g_buildSlice (R := (rInt .u8)) (l := [(IntKind.u8.wrap ((((a0).getD (s24).toNat rApi_Item.zeroD)).Kind))]) rfl Try.underlying32 ty5 ⟨rfl, by decide, by decide, by decide⟩ (PartsOk.cons rfl rfl (hv_int (wrap_wrap _ _)) PartsOk.nil) rfl (fun v63 => ?_)
          refine ta_two (i := 5) (j := 8) (by kernel_rfl) rfl rfl rfl gd_none gd_none ?_ ?_
          · refine g_append_buf 0 2 rfl rfl rfl rfl rfl rfl Try.underlying32 ⟨_, Try.underlying32, fun k h => by cases h⟩ ty5 hn45 (by decide) (fun v64 => ?_)
            refine ta_one (i := 8) (by kernel_rfl) rfl rfl gd_none (g_str_bytes rfl rfl (hv_fact (mem_at 0 rfl)) Try.underlying9 Try.underlying32 Try.underlying5 rfl (fun v65 => ?_))
            refine ta_one (i := 9) (by kernel_rfl) rfl rfl gd_none (g_callo2 rfl hfn56 (FnX.flat (fun _ _ _ _ _ ⟨v0, v1, e, h0, h1⟩ => ⟨v0, v1, e, Flat.own Flat.int h0, fun m' hm' => Flat.val Flat.int (h1 [] (by intro b hb; cases hb))⟩) (cofferref1_Text_ok _ _ _ _ _ _ hc52)) (Evs.cons rfl (Evs.cons rfl Evs.nil)) (fun a w hs => bor_one hs 0 rfl (fun hs1 => bor_end hs1 ⟨(hv_fact (mem_at 0 rfl)) _ _ _ _ hs1, (hv_fact (mem_at 1 rfl)) _ _ _ _ hs1⟩)) (fun v67 v68 => ?_))
            refine ta_int (mem_at 0 rfl) (fun hv72 hw71 => ?_)
            subst hv72
            refine ta_take (i := 10) rfl (by kernel_rfl) gd_none (d_move rfl ?_)
            refine ta_take (i := 11) rfl (by kernel_rfl) gd_none (d_extract rfl rfl ?_)
            refine ta_take (i := 12) rfl (by kernel_rfl) gd_none (d_extract rfl rfl ?_)
            refine ta_take (i := 13) rfl (by kernel_rfl) gd_none (d_assign rfl ?_)
            refine ta_done (by kernel_rfl) ?_
            exact q_cut v67 trivial ⟨rfl, ⟨rfl, ⟨rfl, ⟨rfl, trivial⟩⟩⟩⟩ ⟨mem_at 5 rfl, trivial⟩ [3, 1] (Sel.cons rfl (Sel.cons rfl Sel.nil)) rfl
          · refine g_str_bytes rfl rfl (hv_fact (mem_at 0 rfl)) Try.underlying9 Try.underlying32 Try.underlying5 rfl (fun v73 => ?_)
            refine ta_one (i := 5) (by kernel_rfl) rfl rfl gd_none (g_append_buf 0 2 rfl rfl rfl rfl rfl rfl Try.underlying32 ⟨_, Try.underlying32, fun k h => by cases h⟩ ty5 hn45 (by decide) (fun v75 => ?_))
            refine ta_one (i := 9) (by kernel_rfl) rfl rfl gd_none (g_callo2 rfl hfn56 (FnX.flat (fun _ _ _ _ _ ⟨v0, v1, e, h0, h1⟩ => ⟨v0, v1, e, Flat.own Flat.int h0, fun m' hm' => Flat.val Flat.int (h1 [] (by intro b hb; cases hb))⟩) (cofferref1_Text_ok _ _ _ _ _ _ hc52)) (Evs.cons rfl (Evs.cons rfl Evs.nil)) (fun a w hs => bor_one hs 0 rfl (fun hs1 => bor_end hs1 ⟨(hv_fact (mem_at 0 rfl)) _ _ _ _ hs1, (hv_fact (mem_at 1 rfl)) _ _ _ _ hs1⟩)) (fun v76 v77 => ?_))
            refine ta_int (mem_at 0 rfl) (fun hv81 hw80 => ?_)
            subst hv81
            refine ta_take (i := 10) rfl (by kernel_rfl) gd_none (d_move rfl ?_)
            refine ta_take (i := 11) rfl (by kernel_rfl) gd_none (d_extract rfl rfl ?_)
            refine ta_take (i := 12) rfl (by kernel_rfl) gd_none (d_extract rfl rfl ?_)
            refine ta_take (i := 13) rfl (by kernel_rfl) gd_none (d_assign rfl ?_)
            refine ta_done (by kernel_rfl) ?_
            exact q_cut v76 trivial ⟨rfl, ⟨rfl, ⟨rfl, ⟨rfl, trivial⟩⟩⟩⟩ ⟨mem_at 5 rfl, trivial⟩ [3, 1] (Sel.cons rfl (Sel.cons rfl Sel.nil)) rfl
        · refine g_str_bytes rfl rfl (hv_fact (mem_at 0 rfl)) Try.underlying9 Try.underlying32 Try.underlying5 rfl (fun v82 => ?_)
          refine ta_one (i := 4) (by kernel_rfl) rfl rfl gd_none (g_buildSlice (R := (rInt .u8)) (l := [(IntKind.u8.wrap ((((a0).getD (s24).toNat rApi_Item.zeroD)).Kind))]) rfl Try.underlying32 ty5 ⟨rfl, by decide, by decide, by decide⟩ (PartsOk.cons rfl rfl (hv_int (wrap_wrap _ _)) PartsOk.nil) rfl (fun v84 => ?_))
          refine ta_one (i := 5) (by kernel_rfl) rfl rfl gd_none (g_append_buf 0 2 rfl rfl rfl rfl rfl rfl Try.underlying32 ⟨_, Try.underlying32, fun k h => by cases h⟩ ty5 hn45 (by decide) (fun v85 => ?_))
          refine ta_one (i := 9) (by kernel_rfl) rfl rfl gd_none (g_callo2 rfl hfn56 (FnX.flat (fun _ _ _ _ _ ⟨v0, v1, e, h0, h1⟩ => ⟨v0, v1, e, Flat.own Flat.int h0, fun m' hm' => Flat.val Flat.int (h1 [] (by intro b hb; cases hb))⟩) (cofferref1_Text_ok _ _ _ _ _ _ hc52)) (Evs.cons rfl (Evs.cons rfl Evs.nil)) (fun a w hs => bor_one hs 0 rfl (fun hs1 => bor_end hs1 ⟨(hv_fact (mem_at 0 rfl)) _ _ _ _ hs1, (hv_fact (mem_at 1 rfl)) _ _ _ _ hs1⟩)) (fun v86 v87 => ?_))
          refine ta_int (mem_at 0 rfl) (fun hv91 hw90 => ?_)
          subst hv91
          refine ta_take (i := 10) rfl (by kernel_rfl) gd_none (d_move rfl ?_)
          refine ta_take (i := 11) rfl (by kernel_rfl) gd_none (d_extract rfl rfl ?_)
          refine ta_take (i := 12) rfl (by kernel_rfl) gd_none (d_extract rfl rfl ?_)
          refine ta_take (i := 13) rfl (by kernel_rfl) gd_none (d_assign rfl ?_)
          refine ta_done (by kernel_rfl) ?_
          exact q_cut v86 trivial ⟨rfl, ⟨rfl, ⟨rfl, ⟨rfl, trivial⟩⟩⟩⟩ ⟨mem_at 5 rfl, trivial⟩ [3, 1] (Sel.cons rfl (Sel.cons rfl Sel.nil)) rfl
      rintro z59 _
      refine q_then_code ?_
      obtain ⟨hn96, hf⟩ := need_some hf
      obtain ⟨c101, hc102, hf⟩ := bind_some hf
      refine t_any (n := 9) [0, 2, 3, 4, 5, 6, 7, 8, 9, 10, 11, 12, 13] mixed ⟨by kernel_rfl, .inl rfl⟩ (np_block (np_then (np_then (np_block (np_then np_body))))) ?_
      refine ta_take (i := 0) rfl (by kernel_rfl) gd_none (d_move rfl ?_)
      refine ta_take (i := 1) rfl (by kernel_rfl) gd_none (d_field_own rfl fo54_2 ?_)
      refine ta_freezebox 1 rfl ?_
      refine ta_sub (mem_at 0 rfl) (Fld.at0 fl_Api_Item_Of) trivial ?_
      refine ta_take (i := 2) rfl (by kernel_rfl) gd_none (d_slice_place (i := (0 : Int)) (j := (32 : Int)) 1 rfl (mem_at 0 rfl) (.inl ⟨rfl, rfl⟩) (.inl ⟨rfl, rfl⟩) Try.underlying29 ty5 (by decide) (by decide) (fun v105 => ?_))
      refine ta_take (i := 4) rfl (by kernel_rfl) gd_none (d_field_place rfl (mem_at 2 rfl) fo54_3 fl_Api_Item_Size trivial (fun p109 => ?_))
      refine ta_take (i := 5) rfl (by kernel_rfl) gd_none (d_load_int rfl (mem_at 0 rfl) ty2 (fun hw111 => ?_))
      refine ta_take (i := 6) rfl (by kernel_rfl) gd_none (d_conv Try.underlying2 Try.underlying91 rfl ?_)
      refine ta_one (i := 3) (by kernel_rfl) rfl rfl gd_none (g_append_sl (l2 := (sub ((((a0).getD (s24).toNat rApi_Item.zeroD)).Of) (0 : Int) (32 : Int))) 0 rfl rfl rfl rfl (hv_fact (mem_at 1 rfl)) Try.underlying32 ⟨_, Try.underlying32, fun k h => by cases h⟩ ty5 hn96 (by decide) (fun v112 => ?_))
      refine ta_one (i := 7) (by kernel_rfl) rfl rfl gd_none (g_callo rfl hfn55 (FnX.flat (fun _ _ _ _ _ h => Flat.own Flat.int h) (cofferref1_Count_ok _ _ _ _ _ hc102)) (Evs.cons rfl (Evs.cons rfl Evs.nil)) (fun a w hs => bor_one hs 0 rfl (fun hs1 => bor_end hs1 ⟨(hv_fact (mem_at 0 rfl)) _ _ _ _ hs1, (hv_int (wrap_wrap _ _)) _ _ _ _ hs1⟩)) (fun v113 => ?_))
      refine ta_take (i := 8) rfl (by kernel_rfl) gd_none (d_assign rfl ?_)
      refine ta_done (by kernel_rfl) ?_
      refine q_block_normal ?_
      refine q_then_code ?_
      refine t_region ?_
      refine tl_d rfl (d_move rfl ?_)
      refine tl_d rfl (d_add rfl rfl ?_)
      refine tl_d rfl (d_assign rfl ?_)
      refine tl_nil ?_
      exact q_round kq26 (c101, (IntKind.i64.wrap (s24 + (1 : Int))), v113) (Nat.lt_succ_self kq26) (wrap_wrap _ _) hf ⟨rfl, ⟨rfl, ⟨rfl, trivial⟩⟩⟩ ⟨mem_at 4 rfl, trivial⟩ [2] (Sel.cons rfl Sel.nil) rfl
    · have hf := if_f hb31 hf
      refine t_exit ?_
      refine q_then_exit ?_
      refine q_then_exit ?_
      have hr := Option.some.inj hf; try subst hr
      have hf := hout25
      try dsimp only at hf
      refine q_block_hit ?_
      refine q_then_code ?_
      refine t_seq ?_
      refine t_seq ?_
      refine t_region ?_
      refine tl_d rfl (d_move rfl ?_)
      refine tl_d rfl (d_len_buf 0 rfl rfl Try.underlying32 (fun hl116 _ => ?_))
      refine tl_d rfl (d_gtr rfl rfl ?_)
      refine tl_nil ?_
      refine q_then_code ?_
      refine t_cond rfl (fun hb117 => ?_) (fun hb117 => ?_)
      · have hf := if_t hb117 hf
        refine t_seq ?_
        refine t_region ?_
        refine tl_d rfl (d_assign rfl ?_)
        refine tl_d rfl (d_assign rfl ?_)
        refine tl_nil ?_
        refine q_then_code ?_
        refine t_ret ?_
        refine q_then_ret ?_
        have hr := Option.some.inj hf; subst hr
        refine q_ret (post := fun w w' m v => ∃ v0 v1, v = .tuple #[v0, v1] ∧ OwnRes (rInt .u8) 1 w w' m v0 ([] : (List Int)) ∧ ∀ m', (∀ b, b ∈ m' → b ∈ m ∨ bufBlk v0 = some b) → (rInt .i64).val w' m' v1 (2 : Int)) hR _ (.inl rfl) (fun a w hs => ?_)
        exact ⟨_, run_results rfl (RvOk.cons (rv_tmp hs rfl) (RvOk.cons (rv_tmp hs rfl) RvOk.nil)), _, _, rfl, ownres_nil, fun m' hm' => ⟨[_], ⟨rfl, rfl⟩, rfl⟩⟩
      · have hf := if_f hb117 hf
        refine t_skip ?_
        refine q_then_code ?_
        refine t_seq ?_
        refine t_region ?_
        refine tl_d rfl (d_move rfl ?_)
        refine tl_d rfl (d_assign rfl ?_)
        refine tl_d rfl (d_assign rfl ?_)
        refine tl_nil ?_
        refine q_then_code ?_
        refine t_ret ?_
        have hr := Option.some.inj hf; subst hr
        refine q_ret (post := fun w w' m v => ∃ v0 v1, v = .tuple #[v0, v1] ∧ OwnRes (rInt .u8) 1 w w' m v0 s22 ∧ ∀ m', (∀ b, b ∈ m' → b ∈ m ∨ bufBlk v0 = some b) → (rInt .i64).val w' m' v1 (0 : Int)) hR _ (.inl rfl) (fun a w hs => ?_)
        exact ⟨_, run_results rfl (RvOk.cons (rv_tmp hs rfl) (RvOk.cons (rv_tmp hs rfl) RvOk.nil)), _, _, rfl, (hs.ownres (i := 0) rfl), fun m' hm' => ⟨[_], ⟨rfl, rfl⟩, rfl⟩⟩

def cofferlaw17_Folder.f (k : Nat) (a0 : (List Api_Item)) : Option (Api_Object) := ((cofferref15_Bytes.f k a0).bind fun c3 => ((cofferlaw17_Of.f k c3.1).bind fun c18 => (some c18)))
set_option maxRecDepth 100000 in
set_option maxHeartbeats 400000 in
theorem cofferlaw17_Folder_ok (k : Nat) (a0 : (List Api_Item)) (u0 : Value) (r : Api_Object) (hf : cofferlaw17_Folder.f k a0 = some r) : Cf.FnX true Try.prog 25 [u0] (fun w m => (rSl 64 rApi_Item).val w m u0 a0) (fun w w' m v => rApi_Object.val w' m v r) := by
  unfold cofferlaw17_Folder.f at hf
  refine fn_of Try.func25 rfl (Nat.le_of_ble_eq_true rfl) [(rSl 64 rApi_Item).fact u0 a0] (fun w m h f hf => ?_) ?_
  · simp at hf; obtain rfl := hf; exact h
  intro w0 m0 R hR
  refine t_seq ?_
  refine t_region ?_
  refine tl_g [] rfl (g_alloc rfl ty34 (fun b2 => ?_))
  refine tl_nil ?_
  refine q_then_code ?_
  refine t_seq ?_
  obtain ⟨c3, hc4, hf⟩ := bind_some hf
  refine t_region ?_
  refine tl_d rfl (d_move rfl ?_)
  refine tl_g [] rfl (g_callo2 rfl hfn37 (cofferref15_Bytes_ok _ _ _ _ hc4) (Evs.cons rfl Evs.nil) (fun a w hs => (hv_fact (mem_at 0 rfl)) _ _ _ _ hs) (fun v11 v12 => ?_))
  refine tl_int (mem_at 0 rfl) (fun hv16 hw15 => ?_)
  subst hv16
  refine tl_d rfl (d_move rfl ?_)
  refine tl_d rfl (d_extract rfl rfl ?_)
  refine tl_d rfl (d_extract rfl rfl ?_)
  refine tl_d rfl (d_assign rfl ?_)
  refine tl_d rfl (d_assign rfl ?_)
  refine tl_nil ?_
  refine q_then_code ?_
  refine t_seq ?_
  obtain ⟨c18, hc19, hf⟩ := bind_some hf
  refine t_region ?_
  refine tl_d rfl (d_move rfl ?_)
  refine tl_freeze 1 rfl ?_
  refine tl_g [] rfl (g_call1 rfl hfn24 (cofferlaw17_Of_ok _ _ _ _ hc19) (Evs.cons rfl Evs.nil) (fun a w hs => (hv_fact (mem_at 0 rfl)) _ _ _ _ hs) (fun v23 => ?_))
  refine tl_g _ rfl (g_store_box 0 rfl rfl rfl (Fld.self rApi_Object) trivial (hv_fact (mem_at 0 rfl)) ty34 (List.mem_singleton_self _) ?_)
  refine tl_nil ?_
  refine q_then_code ?_
  refine t_ret ?_
  have hr := Option.some.inj hf; subst hr
  refine q_ret (post := fun w w' m v => rApi_Object.val w' m v c18) hR _ (.inl rfl) (fun a w hs => ?_)
  obtain ⟨x0, hx0, hy0⟩ := rv_cell (t := 2) (ty := 34) hs 0 rfl rfl ty34
  exact ⟨_, run_results rfl (RvOk.cons hx0 RvOk.nil), hy0⟩

def cofferlaw18_begun.f (k : Nat) : Option (Bool) := ((cofferlaw17_Of.f k [(7 : Int)]).bind fun c3 => (cofferlaw17_Of.f k [(8 : Int)]).bind fun c9 => ((cofferlaw17_Folder.f k [(⟨[97], (1 : Int), ((c3).Of), (1 : Int)⟩ : Api_Item)]).bind fun c31 => ((reach_Mark.f k [c3, c9, c31] [((c31).Of)]).bind fun c62 => (reach_Lost.f k [c3, c9, c31] [((c31).Of)]).bind fun c69 => ((if (decide (((c62).length : Int) = (2 : Int))) = true then (if (decide (((c69).length : Int) = (1 : Int))) = true then (need (0 ≤ (0 : Int) ∧ (0 : Int) < ((c69).length : Int)) ((some (decide (((c69).getD ((0 : Int)).toNat (rArr 32 (rInt .u8)).zeroD) = ((c9).Of)))))) else (some false)) else (some false))).bind fun s107 => (some s107))))
set_option maxRecDepth 100000 in
set_option maxHeartbeats 1800000 in
theorem cofferlaw18_begun_ok (k : Nat) (r : Bool) (hf : cofferlaw18_begun.f k  = some r) : Cf.FnX false Try.prog 8 [] (fun w m => True) (fun w w' m v => rBool.val w' m v r) := by
  unfold cofferlaw18_begun.f at hf
  refine fn_of Try.func8 rfl (Nat.le_of_ble_eq_true rfl) [] (fun w m h f hf => ?_) ?_
  · cases hf
  intro w0 m0 R hR
  refine t_seq ?_
  refine t_region ?_
  refine tl_d rfl (d_assign rfl ?_)
  refine tl_nil ?_
  refine q_then_code ?_
  refine t_seq ?_
  obtain ⟨c3, hc4, hf⟩ := bind_some hf
  obtain ⟨c9, hc10, hf⟩ := bind_some hf
  refine t_region ?_
  refine tl_g [] rfl (g_buildSlice (R := (rInt .u8)) (l := [(7 : Int)]) rfl Try.underlying32 ty5 ⟨rfl, by decide, by decide, by decide⟩ (PartsOk.cons rfl rfl (hv_int rfl) PartsOk.nil) rfl (fun v15 => ?_))
  refine tl_freeze 0 rfl ?_
  refine tl_g [] rfl (g_call1 rfl hfn24 (cofferlaw17_Of_ok _ _ _ _ hc4).weak (Evs.cons rfl Evs.nil) (fun a w hs => (hv_fact (mem_at 0 rfl)) _ _ _ _ hs) (fun v17 => ?_))
  refine tl_g [] rfl (g_buildSlice (R := (rInt .u8)) (l := [(8 : Int)]) rfl Try.underlying32 ty5 ⟨rfl, by decide, by decide, by decide⟩ (PartsOk.cons rfl rfl (hv_int rfl) PartsOk.nil) rfl (fun v19 => ?_))
  refine tl_freeze 1 rfl ?_
  refine tl_g [] rfl (g_call1 rfl hfn24 (cofferlaw17_Of_ok _ _ _ _ hc10).weak (Evs.cons rfl Evs.nil) (fun a w hs => (hv_fact (mem_at 0 rfl)) _ _ _ _ hs) (fun v21 => ?_))
  refine tl_g [] rfl (g_alloc rfl ty34 (fun b23 => ?_))
  refine tl_g [] rfl (g_alloc rfl ty34 (fun b24 => ?_))
  refine tl_g _ rfl (g_store_box 2 rfl rfl rfl (Fld.self rApi_Object) trivial (hv_fact (mem_at 2 rfl)) ty34 (List.mem_singleton_self _) ?_)
  refine tl_g _ rfl (g_store_box 3 rfl rfl rfl (Fld.self rApi_Object) trivial (hv_fact (mem_at 0 rfl)) ty34 (List.mem_singleton_self _) ?_)
  refine tl_nil ?_
  refine q_then_code ?_
  refine t_seq ?_
  obtain ⟨c31, hc32, hf⟩ := bind_some hf
  refine t_region ?_
  refine tl_d rfl (d_field_own rfl fo34_0 ?_)
  refine tl_d rfl (d_load_box 2 rfl rfl (Fld.at0 fl_Api_Object_Of) trivial ty29 rfl (fun v36 => ?_))
  refine tl_d rfl (d_build2 (y := (⟨[97], (1 : Int), ((c3).Of), (1 : Int)⟩ : Api_Item)) ty54 rfl pl54 (BuildOk.cons rfl fl_Api_Item_Name trivial rfl (hv_str rfl (by decide)) (BuildOk.cons rfl fl_Api_Item_Kind trivial rfl (hv_int rfl) (BuildOk.cons rfl fl_Api_Item_Of trivial rfl (hv_fact (mem_at 0 rfl)) (BuildOk.cons rfl fl_Api_Item_Size trivial rfl (hv_int rfl) BuildOk.nil)))) (fun v38 => ?_))
  refine tl_g [] rfl (g_buildSlice (R := rApi_Item) (l := [(⟨[97], (1 : Int), ((c3).Of), (1 : Int)⟩ : Api_Item)]) rfl Try.underlying52 ty54 ⟨rfl, by decide, by decide, by decide⟩ (PartsOk.cons rfl rfl (hv_fact (mem_at 0 rfl)) PartsOk.nil) rfl (fun v40 => ?_))
  refine tl_M [Own.gone, Own.gone, Own.box b23 rApi_Object c3, Own.box b24 rApi_Object c9, Own.buf v40 64 rApi_Item [(⟨[97], (1 : Int), ((c3).Of), (1 : Int)⟩ : Api_Item)]] rfl ?_
  refine tl_freeze 4 rfl ?_
  refine tl_g [] rfl (g_call1 rfl hfn25 (cofferlaw17_Folder_ok _ _ _ _ hc32).weak (Evs.cons rfl Evs.nil) (fun a w hs => (hv_fact (mem_at 0 rfl)) _ _ _ _ hs) (fun v42 => ?_))
  refine tl_M [Own.gone, Own.gone, Own.box b23 rApi_Object c3, Own.box b24 rApi_Object c9, Own.gone] rfl ?_
  refine tl_g [] rfl (g_alloc rfl ty34 (fun b44 => ?_))
  refine tl_M [Own.gone, Own.gone, Own.box b23 rApi_Object c3, Own.box b24 rApi_Object c9, Own.gone, Own.box b44 rApi_Object rApi_Object.zeroD] rfl ?_
  refine tl_g _ rfl (g_store_box 5 rfl rfl rfl (Fld.self rApi_Object) trivial (hv_fact (mem_at 0 rfl)) ty34 (List.mem_singleton_self _) ?_)
  refine tl_M [Own.gone, Own.gone, Own.box b23 rApi_Object c3, Own.box b24 rApi_Object c9, Own.gone, Own.box b44 rApi_Object c31] rfl ?_
  refine tl_nil ?_
  refine q_then_code ?_
  refine t_seq ?_
  refine t_region ?_
  refine tl_d rfl (d_load_box 2 rfl rfl (Fld.self rApi_Object) trivial ty34 rfl (fun v52 => ?_))
  refine tl_d rfl (d_load_box 3 rfl rfl (Fld.self rApi_Object) trivial ty34 rfl (fun v54 => ?_))
  refine tl_d rfl (d_load_box 5 rfl rfl (Fld.self rApi_Object) trivial ty34 rfl (fun v56 => ?_))
  refine tl_g [] rfl (g_buildSlice (R := rApi_Object) (l := [c3, c9, c31]) rfl Try.underlying22 ty34 ⟨rfl, by decide, by decide, by decide⟩ (PartsOk.cons rfl rfl (hv_fact (mem_at 2 rfl)) (PartsOk.cons rfl rfl (hv_fact (mem_at 1 rfl)) (PartsOk.cons rfl rfl (hv_fact (mem_at 0 rfl)) PartsOk.nil))) rfl (fun v58 => ?_))
  refine tl_M [Own.gone, Own.gone, Own.box b23 rApi_Object c3, Own.box b24 rApi_Object c9, Own.gone, Own.box b44 rApi_Object c31, Own.buf v58 56 rApi_Object [c3, c9, c31]] rfl ?_
  refine tl_d rfl (d_assign rfl ?_)
  refine tl_nil ?_
  refine q_then_code ?_
  refine t_seq ?_
  obtain ⟨c62, hc63, hf⟩ := bind_some hf
  obtain ⟨c69, hc70, hf⟩ := bind_some hf
  refine t_cut (X := Value × Value) (fun x => match x with | (z73, z74) => (([(2, (.pointer (some ⟨b24, 0, none⟩))), (5, z73), (6, z74)], [], [Own.box b24 rApi_Object c9, Own.buf z73 32 (rArr 32 (rInt .u8)) c62, Own.buf z74 32 (rArr 32 (rInt .u8)) c69]) : Sym)) (fun _ => True) ?_ ?_
  · refine t_any (n := 12) [] mixed ⟨by kernel_rfl, .inl rfl⟩ (np_cut (np_then np_body)) ?_
    refine ta_take (i := 0) rfl (by kernel_rfl) gd_none (d_move rfl ?_)
    refine ta_take (i := 1) rfl (by kernel_rfl) gd_none (d_field_own rfl fo34_0 ?_)
    refine ta_take (i := 2) rfl (by kernel_rfl) gd_none (d_load_box 5 rfl rfl (Fld.at0 fl_Api_Object_Of) trivial ty29 rfl (fun v75 => ?_))
    refine ta_take (i := 5) rfl (by kernel_rfl) gd_none (d_move rfl ?_)
    refine ta_take (i := 6) rfl (by kernel_rfl) gd_none (d_field_own rfl fo34_0 ?_)
    refine ta_take (i := 7) rfl (by kernel_rfl) gd_none (d_load_box 5 rfl rfl (Fld.at0 fl_Api_Object_Of) trivial ty29 rfl (fun v77 => ?_))
    refine ta_two (i := 3) (j := 8) (by kernel_rfl) rfl rfl rfl gd_none gd_none ?_ ?_
    · refine g_buildSlice (R := (rArr 32 (rInt .u8))) (l := [((c31).Of)]) rfl Try.underlying23 ty29 ⟨rfl, by decide, by decide, by decide⟩ (PartsOk.cons rfl rfl (hv_fact (mem_at 1 rfl)) PartsOk.nil) rfl (fun v79 => ?_)
      refine ta_M [Own.gone, Own.gone, Own.box b23 rApi_Object c3, Own.box b24 rApi_Object c9, Own.gone, Own.box b44 rApi_Object c31, Own.buf v58 56 rApi_Object [c3, c9, c31], Own.buf v79 32 (rArr 32 (rInt .u8)) [((c31).Of)]] rfl ?_
      refine ta_two (i := 4) (j := 8) (by kernel_rfl) rfl rfl rfl gd_none gd_none ?_ ?_
      · refine g_callo rfl hfn10 (FnX.flat (fun _ _ _ _ _ h => Flat.own (Flat.arr Flat.int) h) (reach_Mark_ok _ _ _ _ _ _ hc63)) (Evs.cons rfl (Evs.cons rfl Evs.nil)) (fun a w hs => bor_one hs 6 rfl (fun hs1 => bor_one hs1 7 rfl (fun hs2 => bor_end hs2 ⟨(hv_fact (mem_at 1 rfl)) _ _ _ _ hs2, (hv_fact (mem_at 0 rfl)) _ _ _ _ hs2⟩))) (fun v80 => ?_)
        refine ta_M [Own.gone, Own.gone, Own.box b23 rApi_Object c3, Own.box b24 rApi_Object c9, Own.gone, Own.box b44 rApi_Object c31, Own.buf v58 56 rApi_Object [c3, c9, c31], Own.buf v79 32 (rArr 32 (rInt .u8)) [((c31).Of)], Own.buf v80 32 (rArr 32 (rInt .u8)) c62] rfl ?_
        refine ta_one (i := 8) (by kernel_rfl) rfl rfl gd_none (g_buildSlice (R := (rArr 32 (rInt .u8))) (l := [((c31).Of)]) rfl Try.underlying23 ty29 ⟨rfl, by decide, by decide, by decide⟩ (PartsOk.cons rfl rfl (hv_fact (mem_at 0 rfl)) PartsOk.nil) rfl (fun v82 => ?_))
        refine ta_M [Own.gone, Own.gone, Own.box b23 rApi_Object c3, Own.box b24 rApi_Object c9, Own.gone, Own.box b44 rApi_Object c31, Own.buf v58 56 rApi_Object [c3, c9, c31], Own.buf v79 32 (rArr 32 (rInt .u8)) [((c31).Of)], Own.buf v80 32 (rArr 32 (rInt .u8)) c62, Own.buf v82 32 (rArr 32 (rInt .u8)) [((c31).Of)]] rfl ?_
        refine ta_one (i := 9) (by kernel_rfl) rfl rfl gd_none (g_callo rfl hfn11 (FnX.flat (fun _ _ _ _ _ h => Flat.own (Flat.arr Flat.int) h) (reach_Lost_ok _ _ _ _ _ _ hc70)) (Evs.cons rfl (Evs.cons rfl Evs.nil)) (fun a w hs => bor_one hs 6 rfl (fun hs1 => bor_one hs1 9 rfl (fun hs2 => bor_end hs2 ⟨(hv_fact (mem_at 1 rfl)) _ _ _ _ hs2, (hv_fact (mem_at 0 rfl)) _ _ _ _ hs2⟩))) (fun v83 => ?_))
        refine ta_M [Own.gone, Own.gone, Own.box b23 rApi_Object c3, Own.box b24 rApi_Object c9, Own.gone, Own.box b44 rApi_Object c31, Own.buf v58 56 rApi_Object [c3, c9, c31], Own.buf v79 32 (rArr 32 (rInt .u8)) [((c31).Of)], Own.buf v80 32 (rArr 32 (rInt .u8)) c62, Own.buf v82 32 (rArr 32 (rInt .u8)) [((c31).Of)], Own.buf v83 32 (rArr 32 (rInt .u8)) c69] rfl ?_
        refine ta_take (i := 10) rfl (by kernel_rfl) gd_none (d_assign rfl ?_)
        refine ta_take (i := 11) rfl (by kernel_rfl) gd_none (d_assign rfl ?_)
        refine ta_done (by kernel_rfl) ?_
        exact q_cut (v80, v83) trivial ⟨rfl, ⟨rfl, ⟨rfl, trivial⟩⟩⟩ trivial [3, 8, 10] (Sel.cons rfl (Sel.cons rfl (Sel.cons rfl Sel.nil))) rfl
      · refine g_buildSlice (R := (rArr 32 (rInt .u8))) (l := [((c31).Of)]) rfl Try.underlying23 ty29 ⟨rfl, by decide, by decide, by decide⟩ (PartsOk.cons rfl rfl (hv_fact (mem_at 0 rfl)) PartsOk.nil) rfl (fun v85 => ?_)
        refine ta_M [Own.gone, Own.gone, Own.box b23 rApi_Object c3, Own.box b24 rApi_Object c9, Own.gone, Own.box b44 rApi_Object c31, Own.buf v58 56 rApi_Object [c3, c9, c31], Own.buf v79 32 (rArr 32 (rInt .u8)) [((c31).Of)], Own.buf v85 32 (rArr 32 (rInt .u8)) [((c31).Of)]] rfl ?_
        refine ta_one (i := 4) (by kernel_rfl) rfl rfl gd_none (g_callo rfl hfn10 (FnX.flat (fun _ _ _ _ _ h => Flat.own (Flat.arr Flat.int) h) (reach_Mark_ok _ _ _ _ _ _ hc63)) (Evs.cons rfl (Evs.cons rfl Evs.nil)) (fun a w hs => bor_one hs 6 rfl (fun hs1 => bor_one hs1 7 rfl (fun hs2 => bor_end hs2 ⟨(hv_fact (mem_at 1 rfl)) _ _ _ _ hs2, (hv_fact (mem_at 0 rfl)) _ _ _ _ hs2⟩))) (fun v86 => ?_))
        refine ta_M [Own.gone, Own.gone, Own.box b23 rApi_Object c3, Own.box b24 rApi_Object c9, Own.gone, Own.box b44 rApi_Object c31, Own.buf v58 56 rApi_Object [c3, c9, c31], Own.buf v79 32 (rArr 32 (rInt .u8)) [((c31).Of)], Own.buf v85 32 (rArr 32 (rInt .u8)) [((c31).Of)], Own.buf v86 32 (rArr 32 (rInt .u8)) c62] rfl ?_
        refine ta_one (i := 9) (by kernel_rfl) rfl rfl gd_none (g_callo rfl hfn11 (FnX.flat (fun _ _ _ _ _ h => Flat.own (Flat.arr Flat.int) h) (reach_Lost_ok _ _ _ _ _ _ hc70)) (Evs.cons rfl (Evs.cons rfl Evs.nil)) (fun a w hs => bor_one hs 6 rfl (fun hs1 => bor_one hs1 8 rfl (fun hs2 => bor_end hs2 ⟨(hv_fact (mem_at 1 rfl)) _ _ _ _ hs2, (hv_fact (mem_at 0 rfl)) _ _ _ _ hs2⟩))) (fun v88 => ?_))
        refine ta_M [Own.gone, Own.gone, Own.box b23 rApi_Object c3, Own.box b24 rApi_Object c9, Own.gone, Own.box b44 rApi_Object c31, Own.buf v58 56 rApi_Object [c3, c9, c31], Own.buf v79 32 (rArr 32 (rInt .u8)) [((c31).Of)], Own.buf v85 32 (rArr 32 (rInt .u8)) [((c31).Of)], Own.buf v86 32 (rArr 32 (rInt .u8)) c62, Own.buf v88 32 (rArr 32 (rInt .u8)) c69] rfl ?_
        refine ta_take (i := 10) rfl (by kernel_rfl) gd_none (d_assign rfl ?_)
        refine ta_take (i := 11) rfl (by kernel_rfl) gd_none (d_assign rfl ?_)
        refine ta_done (by kernel_rfl) ?_
        exact q_cut (v86, v88) trivial ⟨rfl, ⟨rfl, ⟨rfl, trivial⟩⟩⟩ trivial [3, 9, 10] (Sel.cons rfl (Sel.cons rfl (Sel.cons rfl Sel.nil))) rfl
    · refine g_buildSlice (R := (rArr 32 (rInt .u8))) (l := [((c31).Of)]) rfl Try.underlying23 ty29 ⟨rfl, by decide, by decide, by decide⟩ (PartsOk.cons rfl rfl (hv_fact (mem_at 0 rfl)) PartsOk.nil) rfl (fun v90 => ?_)
      refine ta_M [Own.gone, Own.gone, Own.box b23 rApi_Object c3, Own.box b24 rApi_Object c9, Own.gone, Own.box b44 rApi_Object c31, Own.buf v58 56 rApi_Object [c3, c9, c31], Own.buf v90 32 (rArr 32 (rInt .u8)) [((c31).Of)]] rfl ?_
      refine ta_one (i := 3) (by kernel_rfl) rfl rfl gd_none (g_buildSlice (R := (rArr 32 (rInt .u8))) (l := [((c31).Of)]) rfl Try.underlying23 ty29 ⟨rfl, by decide, by decide, by decide⟩ (PartsOk.cons rfl rfl (hv_fact (mem_at 1 rfl)) PartsOk.nil) rfl (fun v91 => ?_))
      refine ta_M [Own.gone, Own.gone, Own.box b23 rApi_Object c3, Own.box b24 rApi_Object c9, Own.gone, Own.box b44 rApi_Object c31, Own.buf v58 56 rApi_Object [c3, c9, c31], Own.buf v90 32 (rArr 32 (rInt .u8)) [((c31).Of)], Own.buf v91 32 (rArr 32 (rInt .u8)) [((c31).Of)]] rfl ?_
      refine ta_one (i := 4) (by kernel_rfl) rfl rfl gd_none (g_callo rfl hfn10 (FnX.flat (fun _ _ _ _ _ h => Flat.own (Flat.arr Flat.int) h) (reach_Mark_ok _ _ _ _ _ _ hc63)) (Evs.cons rfl (Evs.cons rfl Evs.nil)) (fun a w hs => bor_one hs 6 rfl (fun hs1 => bor_one hs1 8 rfl (fun hs2 => bor_end hs2 ⟨(hv_fact (mem_at 1 rfl)) _ _ _ _ hs2, (hv_fact (mem_at 0 rfl)) _ _ _ _ hs2⟩))) (fun v92 => ?_))
      refine ta_M [Own.gone, Own.gone, Own.box b23 rApi_Object c3, Own.box b24 rApi_Object c9, Own.gone, Own.box b44 rApi_Object c31, Own.buf v58 56 rApi_Object [c3, c9, c31], Own.buf v90 32 (rArr 32 (rInt .u8)) [((c31).Of)], Own.buf v91 32 (rArr 32 (rInt .u8)) [((c31).Of)], Own.buf v92 32 (rArr 32 (rInt .u8)) c62] rfl ?_
      refine ta_one (i := 9) (by kernel_rfl) rfl rfl gd_none (g_callo rfl hfn11 (FnX.flat (fun _ _ _ _ _ h => Flat.own (Flat.arr Flat.int) h) (reach_Lost_ok _ _ _ _ _ _ hc70)) (Evs.cons rfl (Evs.cons rfl Evs.nil)) (fun a w hs => bor_one hs 6 rfl (fun hs1 => bor_one hs1 7 rfl (fun hs2 => bor_end hs2 ⟨(hv_fact (mem_at 1 rfl)) _ _ _ _ hs2, (hv_fact (mem_at 0 rfl)) _ _ _ _ hs2⟩))) (fun v94 => ?_))
      refine ta_M [Own.gone, Own.gone, Own.box b23 rApi_Object c3, Own.box b24 rApi_Object c9, Own.gone, Own.box b44 rApi_Object c31, Own.buf v58 56 rApi_Object [c3, c9, c31], Own.buf v90 32 (rArr 32 (rInt .u8)) [((c31).Of)], Own.buf v91 32 (rArr 32 (rInt .u8)) [((c31).Of)], Own.buf v92 32 (rArr 32 (rInt .u8)) c62, Own.buf v94 32 (rArr 32 (rInt .u8)) c69] rfl ?_
      refine ta_take (i := 10) rfl (by kernel_rfl) gd_none (d_assign rfl ?_)
      refine ta_take (i := 11) rfl (by kernel_rfl) gd_none (d_assign rfl ?_)
      refine ta_done (by kernel_rfl) ?_
      exact q_cut (v92, v94) trivial ⟨rfl, ⟨rfl, ⟨rfl, trivial⟩⟩⟩ trivial [3, 9, 10] (Sel.cons rfl (Sel.cons rfl (Sel.cons rfl Sel.nil))) rfl
  rintro ⟨z73, z74⟩ _
  refine q_then_code ?_
  refine t_seq ?_
  obtain ⟨o108, ho109, hf⟩ := bind_some hf
  refine t_cut (X := Bool) (fun x => match x with | s107 => (([(0, .bool s107)], [], []) : Sym)) (fun x => match x with | s107 => s107 = o108) ?_ ?_
  · have hf := ho109; clear ho109
    rcases bool_tf (decide (((c62).length : Int) = (2 : Int))) with hb97 | hb97
    · have hf := if_t hb97 hf
      rcases bool_tf (decide (((c69).length : Int) = (1 : Int))) with hb99 | hb99
      · have hf := if_t hb99 hf
        obtain ⟨hn100, hf⟩ := need_some hf
        refine t_any (n := 17) [] mixed ⟨by kernel_rfl, .inl rfl⟩ (np_cut (np_then np_body)) ?_
        refine ta_take (i := 0) rfl (by kernel_rfl) gd_none (d_move rfl ?_)
        refine ta_take (i := 1) rfl (by kernel_rfl) gd_none (d_len_buf 1 rfl rfl Try.underlying23 (fun hl110 _ => ?_))
        refine ta_take (i := 2) rfl (by kernel_rfl) gd_none (d_eql rfl rfl ?_)
        refine ta_take (i := 3) rfl (by kernel_rfl) gd_none (d_move rfl ?_)
        refine ta_take (i := 4) rfl (by kernel_rfl) (gd_on rfl rfl rfl hb97) (d_move rfl ?_)
        refine ta_take (i := 5) rfl (by kernel_rfl) (gd_on rfl rfl rfl hb97) (d_len_buf 2 rfl rfl Try.underlying23 (fun hl111 _ => ?_))
        refine ta_take (i := 6) rfl (by kernel_rfl) (gd_on rfl rfl rfl hb97) (d_eql rfl rfl ?_)
        refine ta_take (i := 7) rfl (by kernel_rfl) gd_none (d_pick_true rfl hb97 rfl ?_)
        refine ta_take (i := 8) rfl (by kernel_rfl) gd_none (d_move rfl ?_)
        refine ta_take (i := 9) rfl (by kernel_rfl) (gd_on rfl rfl rfl hb99) (d_move rfl ?_)
        refine ta_take (i := 10) rfl (by kernel_rfl) (gd_on rfl rfl rfl hb99) (d_index_buf 2 rfl rfl rfl Try.underlying23 ty29 hn100 (fun p112 hp113 => ?_))
        refine ta_take (i := 11) rfl (by kernel_rfl) (gd_on rfl rfl rfl hb99) (d_load_buf (j := ((0 : Int)).toNat) 2 rfl hp113 rfl rfl (toNat_lt hn100) (Fld.self (rArr 32 (rInt .u8))) trivial ty29 rfl (fun v114 => ?_))
        refine ta_take (i := 12) rfl (by kernel_rfl) (gd_on rfl rfl rfl hb99) (d_field_own rfl fo34_0 ?_)
        refine ta_take (i := 13) rfl (by kernel_rfl) (gd_on rfl rfl rfl hb99) (d_load_box 0 rfl rfl (Fld.at0 fl_Api_Object_Of) trivial ty29 rfl (fun v116 => ?_))
        refine ta_take (i := 14) rfl (by kernel_rfl) (gd_on rfl rfl rfl hb99) (d_eql_agg rfl rfl (mem_at 1 rfl) (mem_at 0 rfl) rfl (EqAt.arr Try.underlying29 ty5 (EqAt.int Try.underlying5)) (by decide) (by kernel_rfl) ?_)
        refine ta_take (i := 15) rfl (by kernel_rfl) gd_none (d_pick_true rfl hb99 rfl ?_)
        refine ta_take (i := 16) rfl (by kernel_rfl) gd_none (d_assign rfl ?_)
        refine ta_done (by kernel_rfl) ?_
        have hr := Option.some.inj hf; subst hr
        exact q_cut (decide (((c69).getD ((0 : Int)).toNat (rArr 32 (rInt .u8)).zeroD) = ((c9).Of))) rfl ⟨rfl, trivial⟩ trivial [] (Sel.nil) rfl
      · have hf := if_f hb99 hf
        refine t_any (n := 17) [] mixed ⟨by kernel_rfl, .inl rfl⟩ (np_cut (np_then np_body)) ?_
        refine ta_take (i := 0) rfl (by kernel_rfl) gd_none (d_move rfl ?_)
        refine ta_take (i := 1) rfl (by kernel_rfl) gd_none (d_len_buf 1 rfl rfl Try.underlying23 (fun hl118 _ => ?_))
        refine ta_take (i := 2) rfl (by kernel_rfl) gd_none (d_eql rfl rfl ?_)
        refine ta_take (i := 3) rfl (by kernel_rfl) gd_none (d_move rfl ?_)
        refine ta_take (i := 4) rfl (by kernel_rfl) (gd_on rfl rfl rfl hb97) (d_move rfl ?_)
        refine ta_take (i := 5) rfl (by kernel_rfl) (gd_on rfl rfl rfl hb97) (d_len_buf 2 rfl rfl Try.underlying23 (fun hl119 _ => ?_))
        refine ta_take (i := 6) rfl (by kernel_rfl) (gd_on rfl rfl rfl hb97) (d_eql rfl rfl ?_)
        refine ta_take (i := 7) rfl (by kernel_rfl) gd_none (d_pick_true rfl hb97 rfl ?_)
        refine ta_take (i := 8) rfl (by kernel_rfl) gd_none (d_move rfl ?_)
        refine ta_off (i := 9) rfl (by kernel_rfl) (gd_off rfl rfl rfl hb99) ?_
        refine ta_off (i := 10) rfl (by kernel_rfl) (gd_off rfl rfl rfl hb99) ?_
        refine ta_off (i := 11) rfl (by kernel_rfl) (gd_off rfl rfl rfl hb99) ?_
        refine ta_off (i := 12) rfl (by kernel_rfl) (gd_off rfl rfl rfl hb99) ?_
        refine ta_off (i := 13) rfl (by kernel_rfl) (gd_off rfl rfl rfl hb99) ?_
        refine ta_off (i := 14) rfl (by kernel_rfl) (gd_off rfl rfl rfl hb99) ?_
        refine ta_take (i := 15) rfl (by kernel_rfl) gd_none (d_pick_false rfl hb99 rfl ?_)
        refine ta_take (i := 16) rfl (by kernel_rfl) gd_none (d_assign rfl ?_)
        refine ta_done (by kernel_rfl) ?_
        have hr := Option.some.inj hf; subst hr
        exact q_cut false rfl ⟨rfl, trivial⟩ trivial [] (Sel.nil) rfl
    · have hf := if_f hb97 hf
      refine t_any (n := 17) [] mixed ⟨by kernel_rfl, .inl rfl⟩ (np_cut (np_then np_body)) ?_
      refine ta_take (i := 0) rfl (by kernel_rfl) gd_none (d_move rfl ?_)
      refine ta_take (i := 1) rfl (by kernel_rfl) gd_none (d_len_buf 1 rfl rfl Try.underlying23 (fun hl120 _ => ?_))
      refine ta_take (i := 2) rfl (by kernel_rfl) gd_none (d_eql rfl rfl ?_)
      refine ta_take (i := 3) rfl (by kernel_rfl) gd_none (d_move rfl ?_)
      refine ta_off (i := 4) rfl (by kernel_rfl) (gd_off rfl rfl rfl hb97) ?_
      refine ta_off (i := 5) rfl (by kernel_rfl) (gd_off rfl rfl rfl hb97) ?_
      refine ta_off (i := 6) rfl (by kernel_rfl) (gd_off rfl rfl rfl hb97) ?_
      refine ta_take (i := 7) rfl (by kernel_rfl) gd_none (d_pick_false rfl hb97 rfl ?_)
      refine ta_take (i := 8) rfl (by kernel_rfl) gd_none (d_move rfl ?_)
      refine ta_off (i := 9) rfl (by kernel_rfl) (gd_off rfl rfl rfl rfl) ?_
      refine ta_off (i := 10) rfl (by kernel_rfl) (gd_off rfl rfl rfl rfl) ?_
      refine ta_off (i := 11) rfl (by kernel_rfl) (gd_off rfl rfl rfl rfl) ?_
      refine ta_off (i := 12) rfl (by kernel_rfl) (gd_off rfl rfl rfl rfl) ?_
      refine ta_off (i := 13) rfl (by kernel_rfl) (gd_off rfl rfl rfl rfl) ?_
      refine ta_off (i := 14) rfl (by kernel_rfl) (gd_off rfl rfl rfl rfl) ?_
      refine ta_take (i := 15) rfl (by kernel_rfl) gd_none (d_pick_false rfl rfl rfl ?_)
      refine ta_take (i := 16) rfl (by kernel_rfl) gd_none (d_assign rfl ?_)
      refine ta_done (by kernel_rfl) ?_
      have hr := Option.some.inj hf; subst hr
      exact q_cut false rfl ⟨rfl, trivial⟩ trivial [] (Sel.nil) rfl
  rintro s107 rfl
  refine q_then_code ?_
  refine t_ret ?_
  have hr := Option.some.inj hf; subst hr
  refine q_ret (post := fun w w' m v => rBool.val w' m v s107) hR _ (.inl rfl) (fun a w hs => ?_)
  exact ⟨_, run_results rfl (RvOk.cons (rv_tmp hs rfl) RvOk.nil), (hs.hv hv_bool)⟩

end Go.Proofs.Ytbcipfhhmkjigaa
