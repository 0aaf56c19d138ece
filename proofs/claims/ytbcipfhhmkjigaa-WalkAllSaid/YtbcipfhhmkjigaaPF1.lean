/- Functions of the program as plain Lean functions, each with the proof that the call comes to it. -/
import Derived.Test.YtbcipfhhmkjigaaPF0
set_option linter.unusedVariables false
open Go Go.Cf Go.Proofs
namespace Go.Proofs.Ytbcipfhhmkjigaa

def walk_way_enter.l0 (self : (List ((List Int) × (List Int))) → (List ((List Int) × Int)) → Int → Bool → (List Api_File) → Int → (List Int) → (List Int) → Int → Option ((List ((List Int) × (List Int))) × (List ((List Int) × Int)) × Int × Bool × (List Api_File) × Int)) (c46 : (List Api_Item) × Int) (a2 : (List Int)) (a3 : Int) : Nat → (List ((List Int) × (List Int))) → (List ((List Int) × Int)) → Int → Bool → (List Api_File) → Int → Int → Option (Sum ((List ((List Int) × (List Int))) × (List ((List Int) × Int)) × Int × Bool × (List Api_File) × Int) ((List ((List Int) × (List Int))) × (List ((List Int) × Int)) × Int × Bool × (List Api_File) × Int))
  | 0, _, _, _, _, _, _, _ => none
  | k + 1, s99, s100, s101, s102, s103, s105, s106 => (if (decide (s106 < ((c46.1).length : Int))) = true then (need (0 ≤ s106 ∧ s106 < ((c46.1).length : Int)) (((if (decide (((((c46.1).getD (s106).toNat rApi_Item.zeroD)).Kind) = (2 : Int))) = true then (need ((a2).length + (((((c46.1).getD (s106).toNat rApi_Item.zeroD)).Name)).length ≤ maxB) (need (((a2 ++ ((((c46.1).getD (s106).toNat rApi_Item.zeroD)).Name))).length + ([47]).length ≤ maxB) ((self s99 s100 s101 s102 s103 s105 ((((c46.1).getD (s106).toNat rApi_Item.zeroD)).Of) ((a2 ++ ((((c46.1).getD (s106).toNat rApi_Item.zeroD)).Name)) ++ [47]) (IntKind.i64.wrap (a3 + (1 : Int)))).bind fun c146 => (some (c146.1, c146.2.1, c146.2.2.1, c146.2.2.2.1, c146.2.2.2.2.1, c146.2.2.2.2.2))))) else ((walk_way_file.f s99 s100 s101 s102 s103 s105 ((c46.1).getD (s106).toNat rApi_Item.zeroD) a2).bind fun c161 => (some (c161.1, c161.2.1, c161.2.2.1, c161.2.2.2.1, c161.2.2.2.2.1, c161.2.2.2.2.2))))).bind fun (s125, s126, s127, s128, s129, s131) => (if (!decide (s131 = (0 : Int))) = true then (some (.inl (s125, s126, s127, s128, s129, s131))) else (walk_way_enter.l0 self c46 a2 a3 k s125 s126 s127 s128 s129 s131 (IntKind.i64.wrap (s106 + (1 : Int))))))) else (some (.inr (s99, s100, s101, s102, s103, s105))))
def walk_way_enter.f : Nat → (List ((List Int) × (List Int))) → (List ((List Int) × Int)) → Int → Bool → (List Api_File) → Int → (List Int) → (List Int) → Int → Option ((List ((List Int) × (List Int))) × (List ((List Int) × Int)) × Int × Bool × (List Api_File) × Int)
  | 0, _, _, _, _, _, _, _, _, _ => none
  | k + 1, x3, x5, x6, x7, x9, x10, a1, a2, a3 => ((if (decide ((8 : Int) < a3)) = true then ((walk_way_bad.f x3 x5 x6 x7 x9 x10 (2 : Int)).bind fun c14 => (some (c14.2.1, c14.2.2.1, c14.2.2.2.1, c14.2.2.2.2.1, c14.2.2.2.2.2.1, c14.2.2.2.2.2.2, c14.1))) else (some (x3, x5, x6, x7, x9, x10, false)))).bind fun (s18, s19, s20, s21, s22, s24, s25) => (if s25 = true then (some (s18, s19, s20, s21, s22, s24)) else ((walk_way_object.f s18 s19 s20 s21 s22 s24 a1).bind fun c33 => (if (!c33.2.1) = true then (some (c33.2.2.1, c33.2.2.2.1, c33.2.2.2.2.1, c33.2.2.2.2.2.1, c33.2.2.2.2.2.2.1, c33.2.2.2.2.2.2.2)) else ((folder_Take.f k c33.1).bind fun c46 => ((walk_way_bad.f c33.2.2.1 c33.2.2.2.1 c33.2.2.2.2.1 c33.2.2.2.2.2.1 c33.2.2.2.2.2.2.1 c33.2.2.2.2.2.2.2 c46.2).bind fun c60 => (if c60.1 = true then (some (c60.2.1, c60.2.2.1, c60.2.2.2.1, c60.2.2.2.2.1, c60.2.2.2.2.2.1, c60.2.2.2.2.2.2)) else ((if (decide (((c46.1).length : Int) = (0 : Int))) = true then (if (decide ((1 : Int) < a3)) = true then (some c60.2.2.2.2.1) else (some false)) else (some false))).bind fun s70 => ((if s70 = true then (need (0 ≤ (0 : Int) ∧ (0 : Int) ≤ (IntKind.i64.wrap (((a2).length : Int) - (1 : Int))) ∧ (IntKind.i64.wrap (((a2).length : Int) - (1 : Int))) ≤ ((a2).length : Int)) (need (fits 48 ((c60.2.2.2.2.2.1).length + ([(⟨(sub a2 (0 : Int) (IntKind.i64.wrap (((a2).length : Int) - (1 : Int)))), true, []⟩ : Api_File)]).length)) ((some (c60.2.2.2.2.2.1 ++ [(⟨(sub a2 (0 : Int) (IntKind.i64.wrap (((a2).length : Int) - (1 : Int)))), true, []⟩ : Api_File)]))))) else (some c60.2.2.2.2.2.1))).bind fun s76 => (walk_way_enter.l0 (walk_way_enter.f k) c46 a2 a3 k c60.2.1 c60.2.2.1 c60.2.2.2.1 c60.2.2.2.2.1 s76 c60.2.2.2.2.2.2 (0 : Int)).bind fun o170 => (match o170 with | .inl r => some r | .inr (s99, s100, s101, s102, s103, s105) => (some (s99, s100, s101, s102, s103, s105)))))))))
set_option maxRecDepth 100000 in
set_option maxHeartbeats 3530000 in
theorem walk_way_enter_ok : ∀ (k : Nat) (x3 : (List ((List Int) × (List Int)))) (x5 : (List ((List Int) × Int))) (x6 : Int) (x7 : Bool) (x9 : (List Api_File)) (x10 : Int) (a1 : (List Int)) (a2 : (List Int)) (a3 : Int) (h0 : Nat) (b1 : Nat) (b2 : Nat) (b4 : Nat) (z8 : Value) (u1 : Value) (u2 : Value) (r : (List ((List Int) × (List Int))) × (List ((List Int) × Int)) × Int × Bool × (List Api_File) × Int) (hf : walk_way_enter.f k x3 x5 x6 x7 x9 x10 a1 a2 a3 = some r), Cf.FnM true Try.prog 31 [(.pointer (some ⟨b1, 0, none⟩)), u1, u2, (.int .i64 a3)] [Own.box b1 rWalk_way (⟨(.map (some b2)), (.map (some b4)), x6, x7, z8, x10⟩ : Walk_way), Own.map b2 (rArr 32 (rInt .u8)) (rSl 1 (rInt .u8)) x3, Own.map b4 (rArr 32 (rInt .u8)) (rInt .i64) x5, Own.buf z8 48 (rFileF h0) x9] [(rArr 32 (rInt .u8)).fact u1 a1, rStr.fact u2 a2, (rInt .i64).fact (.int .i64 a3) a3, past h0] (fun v N fs => ∃ (y0 : Value), v = (.tuple #[]) ∧ N = [Own.box b1 rWalk_way (⟨(.map (some b2)), (.map (some b4)), r.2.2.1, r.2.2.2.1, y0, r.2.2.2.2.2⟩ : Walk_way), Own.map b2 (rArr 32 (rInt .u8)) (rSl 1 (rInt .u8)) r.1, Own.map b4 (rArr 32 (rInt .u8)) (rInt .i64) r.2.1, Own.buf y0 48 (rFileF h0) r.2.2.2.2.1] ∧ fs = []) := by
  intro k
  induction k with
  | zero =>
    intro x3 x5 x6 x7 x9 x10 a1 a2 a3 h0 b1 b2 b4 z8 u1 u2 r hf
    cases hf
  | succ k ih =>
    intro x3 x5 x6 x7 x9 x10 a1 a2 a3 h0 b1 b2 b4 z8 u1 u2 r hf
    rw [walk_way_enter.f] at hf
    refine fn_ofN Try.func31 rfl (Nat.le_of_ble_eq_true rfl) ?_
    intro w0 m0 R hR
    refine t_int (mem_at 2 rfl) (fun _ hw3 => ?_)
    refine t_seq ?_
    refine t_region ?_
    refine tl_g [] rfl (g_box (R := (rArr 32 (rInt .u8))) rfl rfl (hv_fact (mem_at 0 rfl)) (fun b12 => ?_))
    refine tl_M [Own.box b1 rWalk_way (⟨(.map (some b2)), (.map (some b4)), x6, x7, z8, x10⟩ : Walk_way), Own.map b2 (rArr 32 (rInt .u8)) (rSl 1 (rInt .u8)) x3, Own.map b4 (rArr 32 (rInt .u8)) (rInt .i64) x5, Own.buf z8 48 (rFileF h0) x9, Own.box b12 (rArr 32 (rInt .u8)) a1] rfl ?_
    refine tl_nil ?_
    refine q_then_code ?_
    refine t_seq ?_
    refine t_seq ?_
    obtain ⟨o26, ho27, hf⟩ := bind_some hf
    refine t_cut (X := (List ((List Int) × (List Int))) × (List ((List Int) × Int)) × Int × Bool × (List Api_File) × Int × Bool × Value) (fun x => match x with | (s18, s19, s20, s21, s22, s24, s25, z23) => (([(0, .pointer (some ⟨b1, 0, none⟩)), (2, u2), (3, (.int .i64 a3)), (5, .pointer (some ⟨b12, 0, none⟩)), (19, .bool s25)], [past h0, rStr.fact u2 a2], [Own.box b1 rWalk_way (⟨(.map (some b2)), (.map (some b4)), s20, s21, z23, s24⟩ : Walk_way), Own.map b2 (rArr 32 (rInt .u8)) (rSl 1 (rInt .u8)) s18, Own.map b4 (rArr 32 (rInt .u8)) (rInt .i64) s19, Own.buf z23 48 (rFileF h0) s22, Own.box b12 (rArr 32 (rInt .u8)) a1]) : Sym)) (fun x => match x with | (s18, s19, s20, s21, s22, s24, s25, z23) => (s18, s19, s20, s21, s22, s24, s25) = o26) ?_ ?_
    · have hf := ho27; clear ho27
      rcases bool_tf (decide ((8 : Int) < a3)) with hb13 | hb13
      · have hf := if_t hb13 hf
        obtain ⟨c14, hc15, hf⟩ := bind_some hf
        refine t_region ?_
        refine tl_d rfl (d_move rfl ?_)
        refine tl_d rfl (d_gtr rfl rfl ?_)
        refine tl_d rfl (d_move rfl ?_)
        refine tl_dg (gd_on rfl rfl rfl hb13) rfl (d_move rfl ?_)
        refine tl_sel [Own.box b1 rWalk_way (⟨(.map (some b2)), (.map (some b4)), x6, x7, z8, x10⟩ : Walk_way), Own.map b2 (rArr 32 (rInt .u8)) (rSl 1 (rInt .u8)) x3, Own.map b4 (rArr 32 (rInt .u8)) (rInt .i64) x5, Own.buf z8 48 (rFileF h0) x9, Own.box b12 (rArr 32 (rInt .u8)) a1] [0, 1, 2, 3, 4] (Sel.cons rfl (Sel.cons rfl (Sel.cons rfl (Sel.cons rfl (Sel.cons rfl Sel.nil))))) rfl ?_
        refine tl_gg1 (gd_on rfl rfl rfl hb13) (g_callM (Min := [Own.box b1 rWalk_way (⟨(.map (some b2)), (.map (some b4)), x6, x7, z8, x10⟩ : Walk_way), Own.map b2 (rArr 32 (rInt .u8)) (rSl 1 (rInt .u8)) x3, Own.map b4 (rArr 32 (rInt .u8)) (rInt .i64) x5, Own.buf z8 48 (rFileF h0) x9]) (B := [Own.box b12 (rArr 32 (rInt .u8)) a1]) rfl hfn46 (walk_way_bad_ok _ _ _ _ _ _ _ _ _ _ _ _ _ hc15) (Evs.cons rfl (Evs.cons rfl Evs.nil)) (HasFs.cons (hv_int rfl) (HasFs.mem (mem_at 3 rfl) HasFs.nil)) ?_)
        rintro _ _ _ ⟨z29, rfl, rfl, rfl⟩
        refine tl_sel [Own.box b1 rWalk_way (⟨(.map (some b2)), (.map (some b4)), c14.2.2.2.1, c14.2.2.2.2.1, z29, c14.2.2.2.2.2.2⟩ : Walk_way), Own.map b2 (rArr 32 (rInt .u8)) (rSl 1 (rInt .u8)) c14.2.1, Own.map b4 (rArr 32 (rInt .u8)) (rInt .i64) c14.2.2.1, Own.buf z29 48 (rFileF h0) c14.2.2.2.2.2.1, Own.box b12 (rArr 32 (rInt .u8)) a1] [0, 1, 2, 3, 4] (Sel.cons rfl (Sel.cons rfl (Sel.cons rfl (Sel.cons rfl (Sel.cons rfl Sel.nil))))) rfl ?_
        refine tl_M [Own.box b1 rWalk_way (⟨(.map (some b2)), (.map (some b4)), c14.2.2.2.1, c14.2.2.2.2.1, z29, c14.2.2.2.2.2.2⟩ : Walk_way), Own.map b2 (rArr 32 (rInt .u8)) (rSl 1 (rInt .u8)) c14.2.1, Own.map b4 (rArr 32 (rInt .u8)) (rInt .i64) c14.2.2.1, Own.buf z29 48 (rFileF h0) c14.2.2.2.2.2.1, Own.box b12 (rArr 32 (rInt .u8)) a1] rfl ?_
        refine tl_d rfl (d_pick_true rfl hb13 rfl ?_)
        refine tl_nil ?_
        have hr := Option.some.inj hf; subst hr
        exact q_cut (c14.2.1, c14.2.2.1, c14.2.2.2.1, c14.2.2.2.2.1, c14.2.2.2.2.2.1, c14.2.2.2.2.2.2, c14.1, z29) rfl ⟨rfl, ⟨rfl, ⟨rfl, ⟨rfl, ⟨rfl, trivial⟩⟩⟩⟩⟩ ⟨mem_at 4 rfl, ⟨mem_at 2 rfl, trivial⟩⟩ [0, 1, 2, 3, 4] (Sel.cons rfl (Sel.cons rfl (Sel.cons rfl (Sel.cons rfl (Sel.cons rfl Sel.nil))))) rfl
      · have hf := if_f hb13 hf
        refine t_region ?_
        refine tl_d rfl (d_move rfl ?_)
        refine tl_d rfl (d_gtr rfl rfl ?_)
        refine tl_d rfl (d_move rfl ?_)
        refine tl_off (gd_off rfl rfl rfl hb13) rfl rfl ?_
        refine tl_off (gd_off rfl rfl rfl hb13) rfl rfl ?_
        refine tl_d rfl (d_pick_false rfl hb13 rfl ?_)
        refine tl_nil ?_
        have hr := Option.some.inj hf; subst hr
        exact q_cut (x3, x5, x6, x7, x9, x10, false, z8) rfl ⟨rfl, ⟨rfl, ⟨rfl, ⟨rfl, ⟨rfl, trivial⟩⟩⟩⟩⟩ ⟨mem_at 3 rfl, ⟨mem_at 1 rfl, trivial⟩⟩ [0, 1, 2, 3, 4] (Sel.cons rfl (Sel.cons rfl (Sel.cons rfl (Sel.cons rfl (Sel.cons rfl Sel.nil))))) rfl
    rintro ⟨s18, s19, s20, s21, s22, s24, s25, z23⟩ rfl
    refine q_then_code ?_
    refine t_cond rfl (fun hb30 => ?_) (fun hb30 => ?_)
    · have hf := if_t hb30 hf
      refine t_ret ?_
      refine q_then_ret ?_
      have hr := Option.some.inj hf; subst hr
      exact q_retN (post := fun v N fs => ∃ (y0 : Value), v = (.tuple #[]) ∧ N = [Own.box b1 rWalk_way (⟨(.map (some b2)), (.map (some b4)), (s18, s19, s20, s21, s22, s24).2.2.1, (s18, s19, s20, s21, s22, s24).2.2.2.1, y0, (s18, s19, s20, s21, s22, s24).2.2.2.2.2⟩ : Walk_way), Own.map b2 (rArr 32 (rInt .u8)) (rSl 1 (rInt .u8)) (s18, s19, s20, s21, s22, s24).1, Own.map b4 (rArr 32 (rInt .u8)) (rInt .i64) (s18, s19, s20, s21, s22, s24).2.1, Own.buf y0 48 (rFileF h0) (s18, s19, s20, s21, s22, s24).2.2.2.2.1] ∧ fs = []) hR _ (.inl rfl) [Own.box b1 rWalk_way (⟨(.map (some b2)), (.map (some b4)), s20, s21, z23, s24⟩ : Walk_way), Own.map b2 (rArr 32 (rInt .u8)) (rSl 1 (rInt .u8)) s18, Own.map b4 (rArr 32 (rInt .u8)) (rInt .i64) s19, Own.buf z23 48 (rFileF h0) s22] [] [0, 1, 2, 3] (Sel.cons rfl (Sel.cons rfl (Sel.cons rfl (Sel.cons rfl Sel.nil)))) rfl HasFs.nil (.tuple #[]) (fun a w hs => run_results (vs := []) rfl (RvOk.nil)) ⟨z23, rfl, rfl, rfl⟩
    · have hf := if_f hb30 hf
      refine t_skip ?_
      refine q_then_code ?_
      refine t_seq ?_
      obtain ⟨c33, hc34, hf⟩ := bind_some hf
      refine t_region ?_
      refine tl_d rfl (d_move rfl ?_)
      refine tl_d rfl (d_load_box 4 rfl rfl (Fld.self (rArr 32 (rInt .u8))) trivial ty29 rfl (fun v39 => ?_))
      refine tl_sel [Own.box b1 rWalk_way (⟨(.map (some b2)), (.map (some b4)), s20, s21, z23, s24⟩ : Walk_way), Own.map b2 (rArr 32 (rInt .u8)) (rSl 1 (rInt .u8)) s18, Own.map b4 (rArr 32 (rInt .u8)) (rInt .i64) s19, Own.buf z23 48 (rFileF h0) s22, Own.box b12 (rArr 32 (rInt .u8)) a1] [0, 1, 2, 3, 4] (Sel.cons rfl (Sel.cons rfl (Sel.cons rfl (Sel.cons rfl (Sel.cons rfl Sel.nil))))) rfl ?_
      refine tl_g1 rfl (g_callM (Min := [Own.box b1 rWalk_way (⟨(.map (some b2)), (.map (some b4)), s20, s21, z23, s24⟩ : Walk_way), Own.map b2 (rArr 32 (rInt .u8)) (rSl 1 (rInt .u8)) s18, Own.map b4 (rArr 32 (rInt .u8)) (rInt .i64) s19, Own.buf z23 48 (rFileF h0) s22]) (B := [Own.box b12 (rArr 32 (rInt .u8)) a1]) rfl hfn47 (walk_way_object_ok _ _ _ _ _ _ _ _ _ _ _ _ _ _ hc34) (Evs.cons rfl (Evs.cons rfl Evs.nil)) (HasFs.cons (hv_fact (mem_at 0 rfl)) (HasFs.mem (mem_at 1 rfl) HasFs.nil)) ?_)
      rintro _ _ _ ⟨z41, z44, rfl, rfl, rfl⟩
      refine tl_sel [Own.box b1 rWalk_way (⟨(.map (some b2)), (.map (some b4)), c33.2.2.2.2.1, c33.2.2.2.2.2.1, z44, c33.2.2.2.2.2.2.2⟩ : Walk_way), Own.map b2 (rArr 32 (rInt .u8)) (rSl 1 (rInt .u8)) c33.2.2.1, Own.map b4 (rArr 32 (rInt .u8)) (rInt .i64) c33.2.2.2.1, Own.buf z44 48 (rFileF h0) c33.2.2.2.2.2.2.1, Own.box b12 (rArr 32 (rInt .u8)) a1] [0, 1, 2, 3, 4] (Sel.cons rfl (Sel.cons rfl (Sel.cons rfl (Sel.cons rfl (Sel.cons rfl Sel.nil))))) rfl ?_
      refine tl_M [Own.box b1 rWalk_way (⟨(.map (some b2)), (.map (some b4)), c33.2.2.2.2.1, c33.2.2.2.2.2.1, z44, c33.2.2.2.2.2.2.2⟩ : Walk_way), Own.map b2 (rArr 32 (rInt .u8)) (rSl 1 (rInt .u8)) c33.2.2.1, Own.map b4 (rArr 32 (rInt .u8)) (rInt .i64) c33.2.2.2.1, Own.buf z44 48 (rFileF h0) c33.2.2.2.2.2.2.1, Own.box b12 (rArr 32 (rInt .u8)) a1] rfl ?_
      refine tl_d rfl (d_move rfl ?_)
      refine tl_d rfl (d_extract rfl rfl ?_)
      refine tl_d rfl (d_extract rfl rfl ?_)
      refine tl_d rfl (d_assign rfl ?_)
      refine tl_d rfl (d_assign rfl ?_)
      refine tl_nil ?_
      refine q_then_code ?_
      refine t_seq ?_
      refine t_seq ?_
      refine t_region ?_
      refine tl_d rfl (d_move rfl ?_)
      refine tl_d rfl (d_not rfl ?_)
      refine tl_nil ?_
      refine q_then_code ?_
      refine t_cond rfl (fun hb45 => ?_) (fun hb45 => ?_)
      · have hf := if_t hb45 hf
        refine t_ret ?_
        refine q_then_ret ?_
        have hr := Option.some.inj hf; subst hr
        exact q_retN (post := fun v N fs => ∃ (y0 : Value), v = (.tuple #[]) ∧ N = [Own.box b1 rWalk_way (⟨(.map (some b2)), (.map (some b4)), (c33.2.2.1, c33.2.2.2.1, c33.2.2.2.2.1, c33.2.2.2.2.2.1, c33.2.2.2.2.2.2.1, c33.2.2.2.2.2.2.2).2.2.1, (c33.2.2.1, c33.2.2.2.1, c33.2.2.2.2.1, c33.2.2.2.2.2.1, c33.2.2.2.2.2.2.1, c33.2.2.2.2.2.2.2).2.2.2.1, y0, (c33.2.2.1, c33.2.2.2.1, c33.2.2.2.2.1, c33.2.2.2.2.2.1, c33.2.2.2.2.2.2.1, c33.2.2.2.2.2.2.2).2.2.2.2.2⟩ : Walk_way), Own.map b2 (rArr 32 (rInt .u8)) (rSl 1 (rInt .u8)) (c33.2.2.1, c33.2.2.2.1, c33.2.2.2.2.1, c33.2.2.2.2.2.1, c33.2.2.2.2.2.2.1, c33.2.2.2.2.2.2.2).1, Own.map b4 (rArr 32 (rInt .u8)) (rInt .i64) (c33.2.2.1, c33.2.2.2.1, c33.2.2.2.2.1, c33.2.2.2.2.2.1, c33.2.2.2.2.2.2.1, c33.2.2.2.2.2.2.2).2.1, Own.buf y0 48 (rFileF h0) (c33.2.2.1, c33.2.2.2.1, c33.2.2.2.2.1, c33.2.2.2.2.2.1, c33.2.2.2.2.2.2.1, c33.2.2.2.2.2.2.2).2.2.2.2.1] ∧ fs = []) hR _ (.inl rfl) [Own.box b1 rWalk_way (⟨(.map (some b2)), (.map (some b4)), c33.2.2.2.2.1, c33.2.2.2.2.2.1, z44, c33.2.2.2.2.2.2.2⟩ : Walk_way), Own.map b2 (rArr 32 (rInt .u8)) (rSl 1 (rInt .u8)) c33.2.2.1, Own.map b4 (rArr 32 (rInt .u8)) (rInt .i64) c33.2.2.2.1, Own.buf z44 48 (rFileF h0) c33.2.2.2.2.2.2.1] [] [0, 1, 2, 3] (Sel.cons rfl (Sel.cons rfl (Sel.cons rfl (Sel.cons rfl Sel.nil)))) rfl HasFs.nil (.tuple #[]) (fun a w hs => run_results (vs := []) rfl (RvOk.nil)) ⟨z44, rfl, rfl, rfl⟩
      · have hf := if_f hb45 hf
        refine t_skip ?_
        refine q_then_code ?_
        refine t_seq ?_
        obtain ⟨c46, hc47, hf⟩ := bind_some hf
        refine t_region ?_
        refine tl_d rfl (d_move rfl ?_)
        refine tl_g [] rfl (g_callo2 rfl hfn42 (folder_Take_ok _ _ _ _ hc47) (Evs.cons rfl Evs.nil) (fun a w hs => (hv_fact (mem_at 0 rfl)) _ _ _ _ hs) (fun v54 v55 => ?_))
        refine tl_int (mem_at 0 rfl) (fun hv59 hw58 => ?_)
        subst hv59
        refine tl_M [Own.box b1 rWalk_way (⟨(.map (some b2)), (.map (some b4)), c33.2.2.2.2.1, c33.2.2.2.2.2.1, z44, c33.2.2.2.2.2.2.2⟩ : Walk_way), Own.map b2 (rArr 32 (rInt .u8)) (rSl 1 (rInt .u8)) c33.2.2.1, Own.map b4 (rArr 32 (rInt .u8)) (rInt .i64) c33.2.2.2.1, Own.buf z44 48 (rFileF h0) c33.2.2.2.2.2.2.1, Own.box b12 (rArr 32 (rInt .u8)) a1, Own.buf v54 64 rApi_Item c46.1] rfl ?_
        refine tl_d rfl (d_move rfl ?_)
        refine tl_d rfl (d_extract rfl rfl ?_)
        refine tl_d rfl (d_extract rfl rfl ?_)
        refine tl_d rfl (d_assign rfl ?_)
        refine tl_d rfl (d_assign rfl ?_)
        refine tl_nil ?_
        refine q_then_code ?_
        refine t_seq ?_
        refine t_seq ?_
        obtain ⟨c60, hc61, hf⟩ := bind_some hf
        refine t_region ?_
        refine tl_d rfl (d_move rfl ?_)
        refine tl_d rfl (d_move rfl ?_)
        refine tl_sel [Own.box b1 rWalk_way (⟨(.map (some b2)), (.map (some b4)), c33.2.2.2.2.1, c33.2.2.2.2.2.1, z44, c33.2.2.2.2.2.2.2⟩ : Walk_way), Own.map b2 (rArr 32 (rInt .u8)) (rSl 1 (rInt .u8)) c33.2.2.1, Own.map b4 (rArr 32 (rInt .u8)) (rInt .i64) c33.2.2.2.1, Own.buf z44 48 (rFileF h0) c33.2.2.2.2.2.2.1, Own.box b12 (rArr 32 (rInt .u8)) a1, Own.buf v54 64 rApi_Item c46.1] [0, 1, 2, 3, 4, 5] (Sel.cons rfl (Sel.cons rfl (Sel.cons rfl (Sel.cons rfl (Sel.cons rfl (Sel.cons rfl Sel.nil)))))) rfl ?_
        refine tl_g1 rfl (g_callM (Min := [Own.box b1 rWalk_way (⟨(.map (some b2)), (.map (some b4)), c33.2.2.2.2.1, c33.2.2.2.2.2.1, z44, c33.2.2.2.2.2.2.2⟩ : Walk_way), Own.map b2 (rArr 32 (rInt .u8)) (rSl 1 (rInt .u8)) c33.2.2.1, Own.map b4 (rArr 32 (rInt .u8)) (rInt .i64) c33.2.2.2.1, Own.buf z44 48 (rFileF h0) c33.2.2.2.2.2.2.1]) (B := [Own.box b12 (rArr 32 (rInt .u8)) a1, Own.buf v54 64 rApi_Item c46.1]) rfl hfn46 (walk_way_bad_ok _ _ _ _ _ _ _ _ _ _ _ _ _ hc61) (Evs.cons rfl (Evs.cons rfl Evs.nil)) (HasFs.cons (hv_int hw58) (HasFs.mem (mem_at 4 rfl) HasFs.nil)) ?_)
        rintro _ _ _ ⟨z65, rfl, rfl, rfl⟩
        refine tl_sel [Own.box b1 rWalk_way (⟨(.map (some b2)), (.map (some b4)), c60.2.2.2.1, c60.2.2.2.2.1, z65, c60.2.2.2.2.2.2⟩ : Walk_way), Own.map b2 (rArr 32 (rInt .u8)) (rSl 1 (rInt .u8)) c60.2.1, Own.map b4 (rArr 32 (rInt .u8)) (rInt .i64) c60.2.2.1, Own.buf z65 48 (rFileF h0) c60.2.2.2.2.2.1, Own.box b12 (rArr 32 (rInt .u8)) a1, Own.buf v54 64 rApi_Item c46.1] [0, 1, 2, 3, 4, 5] (Sel.cons rfl (Sel.cons rfl (Sel.cons rfl (Sel.cons rfl (Sel.cons rfl (Sel.cons rfl Sel.nil)))))) rfl ?_
        refine tl_M [Own.box b1 rWalk_way (⟨(.map (some b2)), (.map (some b4)), c60.2.2.2.1, c60.2.2.2.2.1, z65, c60.2.2.2.2.2.2⟩ : Walk_way), Own.map b2 (rArr 32 (rInt .u8)) (rSl 1 (rInt .u8)) c60.2.1, Own.map b4 (rArr 32 (rInt .u8)) (rInt .i64) c60.2.2.1, Own.buf z65 48 (rFileF h0) c60.2.2.2.2.2.1, Own.box b12 (rArr 32 (rInt .u8)) a1, Own.buf v54 64 rApi_Item c46.1] rfl ?_
        refine tl_nil ?_
        refine q_then_code ?_
        refine t_cond rfl (fun hb66 => ?_) (fun hb66 => ?_)
        · have hf := if_t hb66 hf
          refine t_ret ?_
          refine q_then_ret ?_
          have hr := Option.some.inj hf; subst hr
          exact q_retN (post := fun v N fs => ∃ (y0 : Value), v = (.tuple #[]) ∧ N = [Own.box b1 rWalk_way (⟨(.map (some b2)), (.map (some b4)), (c60.2.1, c60.2.2.1, c60.2.2.2.1, c60.2.2.2.2.1, c60.2.2.2.2.2.1, c60.2.2.2.2.2.2).2.2.1, (c60.2.1, c60.2.2.1, c60.2.2.2.1, c60.2.2.2.2.1, c60.2.2.2.2.2.1, c60.2.2.2.2.2.2).2.2.2.1, y0, (c60.2.1, c60.2.2.1, c60.2.2.2.1, c60.2.2.2.2.1, c60.2.2.2.2.2.1, c60.2.2.2.2.2.2).2.2.2.2.2⟩ : Walk_way), Own.map b2 (rArr 32 (rInt .u8)) (rSl 1 (rInt .u8)) (c60.2.1, c60.2.2.1, c60.2.2.2.1, c60.2.2.2.2.1, c60.2.2.2.2.2.1, c60.2.2.2.2.2.2).1, Own.map b4 (rArr 32 (rInt .u8)) (rInt .i64) (c60.2.1, c60.2.2.1, c60.2.2.2.1, c60.2.2.2.2.1, c60.2.2.2.2.2.1, c60.2.2.2.2.2.2).2.1, Own.buf y0 48 (rFileF h0) (c60.2.1, c60.2.2.1, c60.2.2.2.1, c60.2.2.2.2.1, c60.2.2.2.2.2.1, c60.2.2.2.2.2.2).2.2.2.2.1] ∧ fs = []) hR _ (.inl rfl) [Own.box b1 rWalk_way (⟨(.map (some b2)), (.map (some b4)), c60.2.2.2.1, c60.2.2.2.2.1, z65, c60.2.2.2.2.2.2⟩ : Walk_way), Own.map b2 (rArr 32 (rInt .u8)) (rSl 1 (rInt .u8)) c60.2.1, Own.map b4 (rArr 32 (rInt .u8)) (rInt .i64) c60.2.2.1, Own.buf z65 48 (rFileF h0) c60.2.2.2.2.2.1] [] [0, 1, 2, 3] (Sel.cons rfl (Sel.cons rfl (Sel.cons rfl (Sel.cons rfl Sel.nil)))) rfl HasFs.nil (.tuple #[]) (fun a w hs => run_results (vs := []) rfl (RvOk.nil)) ⟨z65, rfl, rfl, rfl⟩
        · have hf := if_f hb66 hf
          refine t_skip ?_
          refine q_then_code ?_
          refine t_seq ?_
          refine t_seq ?_
          obtain ⟨o71, ho72, hf⟩ := bind_some hf
          refine t_cut (X := Bool) (fun x => match x with | s70 => (([(0, .pointer (some ⟨b1, 0, none⟩)), (2, u2), (3, (.int .i64 a3)), (10, v54), (48, .bool s70)], [past h0, rStr.fact u2 a2], [Own.box b1 rWalk_way (⟨(.map (some b2)), (.map (some b4)), c60.2.2.2.1, c60.2.2.2.2.1, z65, c60.2.2.2.2.2.2⟩ : Walk_way), Own.map b2 (rArr 32 (rInt .u8)) (rSl 1 (rInt .u8)) c60.2.1, Own.map b4 (rArr 32 (rInt .u8)) (rInt .i64) c60.2.2.1, Own.buf z65 48 (rFileF h0) c60.2.2.2.2.2.1, Own.buf v54 64 rApi_Item c46.1]) : Sym)) (fun x => match x with | s70 => s70 = o71) ?_ ?_
          · have hf := ho72; clear ho72
            rcases bool_tf (decide (((c46.1).length : Int) = (0 : Int))) with hb68 | hb68
            · have hf := if_t hb68 hf
              rcases bool_tf (decide ((1 : Int) < a3)) with hb69 | hb69
              · have hf := if_t hb69 hf
                refine t_region ?_
                refine tl_d rfl (d_move rfl ?_)
                refine tl_d rfl (d_len_buf 5 rfl rfl Try.underlying52 (fun hl73 _ => ?_))
                refine tl_d rfl (d_eql rfl rfl ?_)
                refine tl_d rfl (d_move rfl ?_)
                refine tl_dg (gd_on rfl rfl rfl hb68) rfl (d_move rfl ?_)
                refine tl_dg (gd_on rfl rfl rfl hb68) rfl (d_gtr rfl rfl ?_)
                refine tl_d rfl (d_pick_true rfl hb68 rfl ?_)
                refine tl_d rfl (d_move rfl ?_)
                refine tl_dg (gd_on rfl rfl rfl hb69) rfl (d_move rfl ?_)
                refine tl_dg (gd_on rfl rfl rfl hb69) rfl (d_nilCheck rfl ?_)
                refine tl_dg (gd_on rfl rfl rfl hb69) rfl (d_field_own rfl fo70_3 ?_)
                refine tl_dg (gd_on rfl rfl rfl hb69) rfl (d_load_box_bool 0 rfl rfl (Fld.at0 fl_Walk_way_tell) trivial ty4 rfl (?_))
                refine tl_d rfl (d_pick_true rfl hb69 rfl ?_)
                refine tl_nil ?_
                have hr := Option.some.inj hf; subst hr
                exact q_cut c60.2.2.2.2.1 rfl ⟨rfl, ⟨rfl, ⟨rfl, ⟨rfl, ⟨rfl, trivial⟩⟩⟩⟩⟩ ⟨mem_at 5 rfl, ⟨mem_at 6 rfl, trivial⟩⟩ [0, 1, 2, 3, 5] (Sel.cons rfl (Sel.cons rfl (Sel.cons rfl (Sel.cons rfl (Sel.cons rfl Sel.nil))))) rfl
              · have hf := if_f hb69 hf
                refine t_region ?_
                refine tl_d rfl (d_move rfl ?_)
                refine tl_d rfl (d_len_buf 5 rfl rfl Try.underlying52 (fun hl74 _ => ?_))
                refine tl_d rfl (d_eql rfl rfl ?_)
                refine tl_d rfl (d_move rfl ?_)
                refine tl_dg (gd_on rfl rfl rfl hb68) rfl (d_move rfl ?_)
                refine tl_dg (gd_on rfl rfl rfl hb68) rfl (d_gtr rfl rfl ?_)
                refine tl_d rfl (d_pick_true rfl hb68 rfl ?_)
                refine tl_d rfl (d_move rfl ?_)
                refine tl_off (gd_off rfl rfl rfl hb69) rfl rfl ?_
                refine tl_off (gd_off rfl rfl rfl hb69) rfl rfl ?_
                refine tl_off (gd_off rfl rfl rfl hb69) rfl rfl ?_
                refine tl_off (gd_off rfl rfl rfl hb69) rfl rfl ?_
                refine tl_d rfl (d_pick_false rfl hb69 rfl ?_)
                refine tl_nil ?_
                have hr := Option.some.inj hf; subst hr
                exact q_cut false rfl ⟨rfl, ⟨rfl, ⟨rfl, ⟨rfl, ⟨rfl, trivial⟩⟩⟩⟩⟩ ⟨mem_at 5 rfl, ⟨mem_at 6 rfl, trivial⟩⟩ [0, 1, 2, 3, 5] (Sel.cons rfl (Sel.cons rfl (Sel.cons rfl (Sel.cons rfl (Sel.cons rfl Sel.nil))))) rfl
            · have hf := if_f hb68 hf
              refine t_region ?_
              refine tl_d rfl (d_move rfl ?_)
              refine tl_d rfl (d_len_buf 5 rfl rfl Try.underlying52 (fun hl75 _ => ?_))
              refine tl_d rfl (d_eql rfl rfl ?_)
              refine tl_d rfl (d_move rfl ?_)
              refine tl_off (gd_off rfl rfl rfl hb68) rfl rfl ?_
              refine tl_off (gd_off rfl rfl rfl hb68) rfl rfl ?_
              refine tl_d rfl (d_pick_false rfl hb68 rfl ?_)
              refine tl_d rfl (d_move rfl ?_)
              refine tl_off (gd_off rfl rfl rfl rfl) rfl rfl ?_
              refine tl_off (gd_off rfl rfl rfl rfl) rfl rfl ?_
              refine tl_off (gd_off rfl rfl rfl rfl) rfl rfl ?_
              refine tl_off (gd_off rfl rfl rfl rfl) rfl rfl ?_
              refine tl_d rfl (d_pick_false rfl rfl rfl ?_)
              refine tl_nil ?_
              have hr := Option.some.inj hf; subst hr
              exact q_cut false rfl ⟨rfl, ⟨rfl, ⟨rfl, ⟨rfl, ⟨rfl, trivial⟩⟩⟩⟩⟩ ⟨mem_at 5 rfl, ⟨mem_at 6 rfl, trivial⟩⟩ [0, 1, 2, 3, 5] (Sel.cons rfl (Sel.cons rfl (Sel.cons rfl (Sel.cons rfl (Sel.cons rfl Sel.nil))))) rfl
          rintro s70 rfl
          refine q_then_code ?_
          obtain ⟨o78, ho79, hf⟩ := bind_some hf
          refine t_cut (X := (List Api_File) × Value) (fun x => match x with | (s76, z77) => (([(0, .pointer (some ⟨b1, 0, none⟩)), (2, u2), (3, (.int .i64 a3)), (10, v54)], [past h0, rStr.fact u2 a2], [Own.box b1 rWalk_way (⟨(.map (some b2)), (.map (some b4)), c60.2.2.2.1, c60.2.2.2.2.1, z77, c60.2.2.2.2.2.2⟩ : Walk_way), Own.map b2 (rArr 32 (rInt .u8)) (rSl 1 (rInt .u8)) c60.2.1, Own.map b4 (rArr 32 (rInt .u8)) (rInt .i64) c60.2.2.1, Own.buf z77 48 (rFileF h0) s76, Own.buf v54 64 rApi_Item c46.1]) : Sym)) (fun x => match x with | (s76, z77) => s76 = o78) ?_ ?_
          · have hf := ho79
            clear ho79
            refine t_cond rfl (fun hb80 => ?_) (fun hb80 => ?_)
            · have hf := if_t hb80 hf
              obtain ⟨hn84, hf⟩ := need_some hf
              obtain ⟨hn88, hf⟩ := need_some hf
              refine t_any (n := 15) [3, 5, 6, 7, 8, 9, 10, 11, 12, 13, 14, 15, 16] mixed ⟨by kernel_rfl, .inr ⟨rfl, by kernel_rfl⟩⟩ (np_cut (np_then np_body)) ?_
              refine ta_take (i := 0) rfl (by kernel_rfl) gd_none (d_move rfl ?_)
              refine ta_take (i := 1) rfl (by kernel_rfl) gd_none (d_move rfl ?_)
              refine ta_take (i := 2) rfl (by kernel_rfl) gd_none (d_nilCheck rfl ?_)
              refine ta_take (i := 3) rfl (by kernel_rfl) gd_none (d_field_own rfl fo70_4 ?_)
              refine ta_take (i := 4) rfl (by kernel_rfl) gd_none (d_load_raw 0 z65 rfl rfl (Fld.at0 fl_Walk_way_files) trivial tyr40 rfl rfl ?_)
              refine ta_take (i := 5) rfl (by kernel_rfl) gd_none (d_move rfl ?_)
              refine ta_take (i := 6) rfl (by kernel_rfl) gd_none (d_move rfl ?_)
              refine ta_take (i := 7) rfl (by kernel_rfl) gd_none (d_len_str rfl (mem_at 1 rfl) Try.underlying9 (fun hl90 => ?_))
              refine ta_take (i := 8) rfl (by kernel_rfl) gd_none (d_sub rfl rfl ?_)
              refine ta_take (i := 9) rfl (by kernel_rfl) gd_none (d_slice_str (i := (0 : Int)) (j := (IntKind.i64.wrap (((a2).length : Int) - (1 : Int)))) rfl (mem_at 1 rfl) (.inl ⟨rfl, rfl⟩) (.inr ⟨_, _, rfl, rfl⟩) Try.underlying9 hn84 (fun v91 => ?_))
              refine ta_take (i := 10) rfl (by kernel_rfl) gd_none (d_build2 (y := (⟨(sub a2 (0 : Int) (IntKind.i64.wrap (((a2).length : Int) - (1 : Int)))), true, []⟩ : Api_File)) (tyF48 h0) rfl pl48 (BuildOk.cons rfl (flF_Path h0) trivial rfl (hv_fact (mem_at 0 rfl)) (BuildOk.cons rfl (flF_Dir h0) trivial rfl hv_bool BuildOk.nil)) (fun v93 => ?_))
              refine ta_one (i := 11) (by kernel_rfl) rfl rfl gd_none (g_buildSlice (R := (rFileF h0)) (l := [(⟨(sub a2 (0 : Int) (IntKind.i64.wrap (((a2).length : Int) - (1 : Int)))), true, []⟩ : Api_File)]) rfl Try.underlying40 (tyF48 h0) ⟨rfl, Nat.le_of_ble_eq_true rfl, Nat.le_of_ble_eq_true rfl, Nat.le_of_ble_eq_true rfl⟩ (PartsOk.cons rfl rfl (hv_fact (mem_at 0 rfl)) PartsOk.nil) rfl (fun v95 => ?_))
              refine ta_M [Own.box b1 rWalk_way (⟨(.map (some b2)), (.map (some b4)), c60.2.2.2.1, c60.2.2.2.2.1, z65, c60.2.2.2.2.2.2⟩ : Walk_way), Own.map b2 (rArr 32 (rInt .u8)) (rSl 1 (rInt .u8)) c60.2.1, Own.map b4 (rArr 32 (rInt .u8)) (rInt .i64) c60.2.2.1, Own.buf z65 48 (rFileF h0) c60.2.2.2.2.2.1, Own.buf v54 64 rApi_Item c46.1, Own.buf v95 48 (rFileF h0) [(⟨(sub a2 (0 : Int) (IntKind.i64.wrap (((a2).length : Int) - (1 : Int)))), true, []⟩ : Api_File)]] rfl ?_
              refine ta_one (i := 12) (by kernel_rfl) rfl rfl gd_none (g_append_buf 3 5 rfl rfl rfl rfl rfl rfl Try.underlying40 ⟨_, Try.underlying40, fun k h => by cases h⟩ (tyF48 h0) hn88 (by decide) (fun v96 => ?_))
              refine ta_M [Own.box b1 rWalk_way (⟨(.map (some b2)), (.map (some b4)), c60.2.2.2.1, c60.2.2.2.2.1, z65, c60.2.2.2.2.2.2⟩ : Walk_way), Own.map b2 (rArr 32 (rInt .u8)) (rSl 1 (rInt .u8)) c60.2.1, Own.map b4 (rArr 32 (rInt .u8)) (rInt .i64) c60.2.2.1, Own.buf v96 48 (rFileF h0) (c60.2.2.2.2.2.1 ++ [(⟨(sub a2 (0 : Int) (IntKind.i64.wrap (((a2).length : Int) - (1 : Int)))), true, []⟩ : Api_File)]), Own.buf v54 64 rApi_Item c46.1, Own.buf v95 48 (rFileF h0) [(⟨(sub a2 (0 : Int) (IntKind.i64.wrap (((a2).length : Int) - (1 : Int)))), true, []⟩ : Api_File)]] rfl ?_
              refine ta_take (i := 13) rfl (by kernel_rfl) gd_none (d_nilCheck rfl ?_)
              refine ta_take (i := 14) rfl (by kernel_rfl) gd_none (d_field_own rfl fo70_4 ?_)
              refine ta_last [0, 1, 2, 3, 4, 5, 6, 7, 8, 9, 10, 11, 12, 13, 14, 15, 16, 17, 18, 19, 20, 21, 22, 23, 24, 25, 26, 27, 28, 29, 30, 31, 32, 33, 34, 35, 36, 37, 38, 39, 40, 41, 42, 43, 44, 45, 46, 47, 48, 49, 50, 51, 52, 53, 54, 55, 56, 57, 58, 59] (by kernel_rfl) (by kernel_rfl) rfl gd_none (g_store_raw (j := 3) 0 rfl rfl rfl rfl (Fld.at0 fl_Walk_way_files) trivial tyr40 (by decide) (⟨(.map (some b2)), (.map (some b4)), c60.2.2.2.1, c60.2.2.2.2.1, v96, c60.2.2.2.2.2.2⟩ : Walk_way) rfl ?_)
              have hr := Option.some.inj hf; subst hr
              exact q_cut ((c60.2.2.2.2.2.1 ++ [(⟨(sub a2 (0 : Int) (IntKind.i64.wrap (((a2).length : Int) - (1 : Int)))), true, []⟩ : Api_File)]), v96) rfl ⟨rfl, ⟨rfl, ⟨rfl, ⟨rfl, trivial⟩⟩⟩⟩ ⟨mem_at 2 rfl, ⟨mem_at 3 rfl, trivial⟩⟩ [0, 1, 2, 3, 4] (Sel.cons rfl (Sel.cons rfl (Sel.cons rfl (Sel.cons rfl (Sel.cons rfl Sel.nil))))) rfl
            · have hf := if_f hb80 hf
              refine t_skip ?_
              have hr := Option.some.inj hf; subst hr
              exact q_cut (c60.2.2.2.2.2.1, z65) rfl ⟨rfl, ⟨rfl, ⟨rfl, ⟨rfl, trivial⟩⟩⟩⟩ ⟨mem_at 0 rfl, ⟨mem_at 1 rfl, trivial⟩⟩ [0, 1, 2, 3, 4] (Sel.cons rfl (Sel.cons rfl (Sel.cons rfl (Sel.cons rfl (Sel.cons rfl Sel.nil))))) rfl
          rintro ⟨s76, z77⟩ rfl
          refine q_then_code ?_
          refine t_seq ?_
          refine t_region ?_
          refine tl_d rfl (d_move rfl ?_)
          refine tl_d rfl (d_len_buf 4 rfl rfl Try.underlying52 (fun hl98 _ => ?_))
          refine tl_d rfl (d_move rfl ?_)
          refine tl_nil ?_
          refine q_then_code ?_
          refine t_block ?_
          obtain ⟨o170, ho171, hf⟩ := bind_some hf
          refine t_loop (X := (List ((List Int) × (List Int))) × (List ((List Int) × Int)) × Int × Bool × (List Api_File) × Int × Int × Value) (O := Sum ((List ((List Int) × (List Int))) × (List ((List Int) × Int)) × Int × Bool × (List Api_File) × Int) ((List ((List Int) × (List Int))) × (List ((List Int) × Int)) × Int × Bool × (List Api_File) × Int)) (fun kl x => match x with | (s99, s100, s101, s102, s103, s105, s106, z104) => walk_way_enter.l0 (walk_way_enter.f k) c46 a2 a3 kl s99 s100 s101 s102 s103 s105 s106) o170 (fun x => match x with | (s99, s100, s101, s102, s103, s105, s106, z104) => (([(0, .pointer (some ⟨b1, 0, none⟩)), (2, u2), (3, (.int .i64 a3)), (64, v54), (65, (.int .i64 ((c46.1).length : Int))), (66, .int .i64 s106)], [past h0, rStr.fact u2 a2], [Own.box b1 rWalk_way (⟨(.map (some b2)), (.map (some b4)), s101, s102, z104, s105⟩ : Walk_way), Own.map b2 (rArr 32 (rInt .u8)) (rSl 1 (rInt .u8)) s99, Own.map b4 (rArr 32 (rInt .u8)) (rInt .i64) s100, Own.buf z104 48 (rFileF h0) s103, Own.buf v54 64 rApi_Item c46.1]) : Sym)) (fun x => match x with | (s99, s100, s101, s102, s103, s105, s106, z104) => IntKind.i64.wrap s106 = s106) k (c60.2.1, c60.2.2.1, c60.2.2.2.1, c60.2.2.2.2.1, s76, c60.2.2.2.2.2.2, (0 : Int), z77) ho171 rfl ⟨rfl, ⟨rfl, ⟨rfl, ⟨rfl, ⟨rfl, ⟨rfl, trivial⟩⟩⟩⟩⟩⟩ ⟨mem_at 0 rfl, ⟨mem_at 1 rfl, trivial⟩⟩ [0, 1, 2, 3, 4] (Sel.cons rfl (Sel.cons rfl (Sel.cons rfl (Sel.cons rfl (Sel.cons rfl Sel.nil))))) rfl ?_
          clear ho171
          rintro k110 ⟨s99, s100, s101, s102, s103, s105, s106, z104⟩ hw_s106 hk109
          have hout107 := hf; clear hf
          obtain ⟨kq108, rfl⟩ : ∃ q, k110 = q + 1 := by cases k110 with | zero => cases hk109 | succ q => exact ⟨q, rfl⟩
          have hf := hk109
          clear hk109; dsimp only [walk_way_enter.l0] at hf
          refine t_seq ?_
          refine t_region ?_
          refine tl_d rfl (d_lss rfl rfl ?_)
          refine tl_nil ?_
          refine q_then_code ?_
          refine t_seq ?_
          refine t_cond rfl (fun hb111 => ?_) (fun hb111 => ?_)
          · have hf := if_t hb111 hf
            refine t_skip ?_
            refine q_then_code ?_
            refine t_seq ?_
            refine t_block ?_
            refine t_seq ?_
            obtain ⟨hn112, hf⟩ := need_some hf
            refine t_region ?_
            refine tl_d rfl (d_index_buf 4 rfl rfl rfl Try.underlying52 ty54 hn112 (fun p118 hp119 => ?_))
            refine tl_d rfl (d_load_buf (j := (s106).toNat) 4 rfl hp119 rfl rfl (toNat_lt hn112) (Fld.self rApi_Item) trivial ty54 rfl (fun v120 => ?_))
            refine tl_g [] rfl (g_alloc rfl ty54 (fun b122 => ?_))
            refine tl_M [Own.box b1 rWalk_way (⟨(.map (some b2)), (.map (some b4)), s101, s102, z104, s105⟩ : Walk_way), Own.map b2 (rArr 32 (rInt .u8)) (rSl 1 (rInt .u8)) s99, Own.map b4 (rArr 32 (rInt .u8)) (rInt .i64) s100, Own.buf z104 48 (rFileF h0) s103, Own.buf v54 64 rApi_Item c46.1, Own.box b122 rApi_Item rApi_Item.zeroD] rfl ?_
            refine tl_g _ rfl (g_store_box 5 rfl rfl rfl (Fld.self rApi_Item) trivial (hv_fact (mem_at 0 rfl)) ty54 (List.mem_singleton_self _) ?_)
            refine tl_M [Own.box b1 rWalk_way (⟨(.map (some b2)), (.map (some b4)), s101, s102, z104, s105⟩ : Walk_way), Own.map b2 (rArr 32 (rInt .u8)) (rSl 1 (rInt .u8)) s99, Own.map b4 (rArr 32 (rInt .u8)) (rInt .i64) s100, Own.buf z104 48 (rFileF h0) s103, Own.buf v54 64 rApi_Item c46.1, Own.box b122 rApi_Item ((c46.1).getD (s106).toNat rApi_Item.zeroD)] rfl ?_
            refine tl_nil ?_
            refine q_then_code ?_
            refine t_seq ?_
            refine t_seq ?_
            refine t_region ?_
            refine tl_d rfl (d_field_own rfl fo54_1 ?_)
            refine tl_d rfl (d_load_box_int 5 rfl rfl (Fld.at0 fl_Api_Item_Kind) trivial ty3 rfl (fun hw124 => ?_))
            refine tl_d rfl (d_eql rfl rfl ?_)
            refine tl_nil ?_
            refine q_then_code ?_
            obtain ⟨o132, ho133, hf⟩ := bind_some hf
            refine t_cut (X := (List ((List Int) × (List Int))) × (List ((List Int) × Int)) × Int × Bool × (List Api_File) × Int × Value) (fun x => match x with | (s125, s126, s127, s128, s129, s131, z130) => (([(0, .pointer (some ⟨b1, 0, none⟩)), (2, u2), (3, (.int .i64 a3)), (64, v54), (65, (.int .i64 ((c46.1).length : Int))), (66, (.int .i64 s106))], [past h0, rStr.fact u2 a2], [Own.box b1 rWalk_way (⟨(.map (some b2)), (.map (some b4)), s127, s128, z130, s131⟩ : Walk_way), Own.map b2 (rArr 32 (rInt .u8)) (rSl 1 (rInt .u8)) s125, Own.map b4 (rArr 32 (rInt .u8)) (rInt .i64) s126, Own.buf z130 48 (rFileF h0) s129, Own.buf v54 64 rApi_Item c46.1]) : Sym)) (fun x => match x with | (s125, s126, s127, s128, s129, s131, z130) => (s125, s126, s127, s128, s129, s131) = o132) ?_ ?_
            · have hf := ho133
              clear ho133
              refine t_cond rfl (fun hb134 => ?_) (fun hb134 => ?_)
              · have hf := if_t hb134 hf
                obtain ⟨hn139, hf⟩ := need_some hf
                obtain ⟨hn143, hf⟩ := need_some hf
                obtain ⟨c146, hc147, hf⟩ := bind_some hf
                refine t_region ?_
                refine tl_d rfl (d_move rfl ?_)
                refine tl_d rfl (d_field_own rfl fo54_2 ?_)
                refine tl_d rfl (d_load_box 5 rfl rfl (Fld.at0 fl_Api_Item_Of) trivial ty29 rfl (fun v149 => ?_))
                refine tl_d rfl (d_move rfl ?_)
                refine tl_d rfl (d_field_own rfl fo54_0 ?_)
                refine tl_d rfl (d_load_box 5 rfl rfl (Fld.at0 fl_Api_Item_Name) trivial ty9 rfl (fun v151 => ?_))
                refine tl_d rfl (d_str_add rfl rfl (mem_at 4 rfl) (mem_at 0 rfl) hn139 (fun v153 => ?_))
                refine tl_fact (rStr.fact (.string ⟨#[47]⟩) [47]) (str_fact rfl (by decide)) ?_
                refine tl_d rfl (d_str_add rfl rfl (mem_at 1 rfl) (mem_at 0 rfl) hn143 (fun v156 => ?_))
                refine tl_d rfl (d_move rfl ?_)
                refine tl_d rfl (d_add rfl rfl ?_)
                refine tl_sel [Own.box b1 rWalk_way (⟨(.map (some b2)), (.map (some b4)), s101, s102, z104, s105⟩ : Walk_way), Own.map b2 (rArr 32 (rInt .u8)) (rSl 1 (rInt .u8)) s99, Own.map b4 (rArr 32 (rInt .u8)) (rInt .i64) s100, Own.buf z104 48 (rFileF h0) s103, Own.buf v54 64 rApi_Item c46.1, Own.box b122 rApi_Item ((c46.1).getD (s106).toNat rApi_Item.zeroD)] [0, 1, 2, 3, 4, 5] (Sel.cons rfl (Sel.cons rfl (Sel.cons rfl (Sel.cons rfl (Sel.cons rfl (Sel.cons rfl Sel.nil)))))) rfl ?_
                refine tl_g1 rfl (g_callM (Min := [Own.box b1 rWalk_way (⟨(.map (some b2)), (.map (some b4)), s101, s102, z104, s105⟩ : Walk_way), Own.map b2 (rArr 32 (rInt .u8)) (rSl 1 (rInt .u8)) s99, Own.map b4 (rArr 32 (rInt .u8)) (rInt .i64) s100, Own.buf z104 48 (rFileF h0) s103]) (B := [Own.buf v54 64 rApi_Item c46.1, Own.box b122 rApi_Item ((c46.1).getD (s106).toNat rApi_Item.zeroD)]) rfl hfn31 (ih _ _ _ _ _ _ _ _ _ _ _ _ _ _ _ _ _ hc147) (Evs.cons rfl (Evs.cons rfl (Evs.cons rfl (Evs.cons rfl Evs.nil)))) (HasFs.cons (hv_fact (mem_at 4 rfl)) (HasFs.cons (hv_fact (mem_at 0 rfl)) (HasFs.cons (hv_int (wrap_wrap _ _)) (HasFs.mem (mem_at 6 rfl) HasFs.nil)))) ?_)
                rintro _ _ _ ⟨z158, rfl, rfl, rfl⟩
                refine tl_sel [Own.box b1 rWalk_way (⟨(.map (some b2)), (.map (some b4)), c146.2.2.1, c146.2.2.2.1, z158, c146.2.2.2.2.2⟩ : Walk_way), Own.map b2 (rArr 32 (rInt .u8)) (rSl 1 (rInt .u8)) c146.1, Own.map b4 (rArr 32 (rInt .u8)) (rInt .i64) c146.2.1, Own.buf z158 48 (rFileF h0) c146.2.2.2.2.1, Own.buf v54 64 rApi_Item c46.1, Own.box b122 rApi_Item ((c46.1).getD (s106).toNat rApi_Item.zeroD)] [0, 1, 2, 3, 4, 5] (Sel.cons rfl (Sel.cons rfl (Sel.cons rfl (Sel.cons rfl (Sel.cons rfl (Sel.cons rfl Sel.nil)))))) rfl ?_
                refine tl_M [Own.box b1 rWalk_way (⟨(.map (some b2)), (.map (some b4)), c146.2.2.1, c146.2.2.2.1, z158, c146.2.2.2.2.2⟩ : Walk_way), Own.map b2 (rArr 32 (rInt .u8)) (rSl 1 (rInt .u8)) c146.1, Own.map b4 (rArr 32 (rInt .u8)) (rInt .i64) c146.2.1, Own.buf z158 48 (rFileF h0) c146.2.2.2.2.1, Own.buf v54 64 rApi_Item c46.1, Own.box b122 rApi_Item ((c46.1).getD (s106).toNat rApi_Item.zeroD)] rfl ?_
                refine tl_nil ?_
                have hr := Option.some.inj hf; subst hr
                exact q_cut (c146.1, c146.2.1, c146.2.2.1, c146.2.2.2.1, c146.2.2.2.2.1, c146.2.2.2.2.2, z158) rfl ⟨rfl, ⟨rfl, ⟨rfl, ⟨rfl, ⟨rfl, ⟨rfl, trivial⟩⟩⟩⟩⟩⟩ ⟨mem_at 6 rfl, ⟨mem_at 7 rfl, trivial⟩⟩ [0, 1, 2, 3, 4] (Sel.cons rfl (Sel.cons rfl (Sel.cons rfl (Sel.cons rfl (Sel.cons rfl Sel.nil))))) rfl
              · have hf := if_f hb134 hf
                obtain ⟨c161, hc162, hf⟩ := bind_some hf
                refine t_region ?_
                refine tl_d rfl (d_move rfl ?_)
                refine tl_d rfl (d_load_box 5 rfl rfl (Fld.self rApi_Item) trivial ty54 rfl (fun v164 => ?_))
                refine tl_d rfl (d_move rfl ?_)
                refine tl_sel [Own.box b1 rWalk_way (⟨(.map (some b2)), (.map (some b4)), s101, s102, z104, s105⟩ : Walk_way), Own.map b2 (rArr 32 (rInt .u8)) (rSl 1 (rInt .u8)) s99, Own.map b4 (rArr 32 (rInt .u8)) (rInt .i64) s100, Own.buf z104 48 (rFileF h0) s103, Own.buf v54 64 rApi_Item c46.1, Own.box b122 rApi_Item ((c46.1).getD (s106).toNat rApi_Item.zeroD)] [0, 1, 2, 3, 4, 5] (Sel.cons rfl (Sel.cons rfl (Sel.cons rfl (Sel.cons rfl (Sel.cons rfl (Sel.cons rfl Sel.nil)))))) rfl ?_
                refine tl_g1 rfl (g_callM (Min := [Own.box b1 rWalk_way (⟨(.map (some b2)), (.map (some b4)), s101, s102, z104, s105⟩ : Walk_way), Own.map b2 (rArr 32 (rInt .u8)) (rSl 1 (rInt .u8)) s99, Own.map b4 (rArr 32 (rInt .u8)) (rInt .i64) s100, Own.buf z104 48 (rFileF h0) s103]) (B := [Own.buf v54 64 rApi_Item c46.1, Own.box b122 rApi_Item ((c46.1).getD (s106).toNat rApi_Item.zeroD)]) rfl hfn48 (walk_way_file_ok _ _ _ _ _ _ _ _ _ _ _ _ _ _ _ _ hc162) (Evs.cons rfl (Evs.cons rfl (Evs.cons rfl Evs.nil))) (HasFs.cons (hv_fact (mem_at 0 rfl)) (HasFs.cons (hv_fact (mem_at 3 rfl)) (HasFs.mem (mem_at 2 rfl) HasFs.nil))) ?_)
                rintro _ _ _ ⟨z166, rfl, rfl, rfl⟩
                refine tl_sel [Own.box b1 rWalk_way (⟨(.map (some b2)), (.map (some b4)), c161.2.2.1, c161.2.2.2.1, z166, c161.2.2.2.2.2⟩ : Walk_way), Own.map b2 (rArr 32 (rInt .u8)) (rSl 1 (rInt .u8)) c161.1, Own.map b4 (rArr 32 (rInt .u8)) (rInt .i64) c161.2.1, Own.buf z166 48 (rFileF h0) c161.2.2.2.2.1, Own.buf v54 64 rApi_Item c46.1, Own.box b122 rApi_Item ((c46.1).getD (s106).toNat rApi_Item.zeroD)] [0, 1, 2, 3, 4, 5] (Sel.cons rfl (Sel.cons rfl (Sel.cons rfl (Sel.cons rfl (Sel.cons rfl (Sel.cons rfl Sel.nil)))))) rfl ?_
                refine tl_M [Own.box b1 rWalk_way (⟨(.map (some b2)), (.map (some b4)), c161.2.2.1, c161.2.2.2.1, z166, c161.2.2.2.2.2⟩ : Walk_way), Own.map b2 (rArr 32 (rInt .u8)) (rSl 1 (rInt .u8)) c161.1, Own.map b4 (rArr 32 (rInt .u8)) (rInt .i64) c161.2.1, Own.buf z166 48 (rFileF h0) c161.2.2.2.2.1, Own.buf v54 64 rApi_Item c46.1, Own.box b122 rApi_Item ((c46.1).getD (s106).toNat rApi_Item.zeroD)] rfl ?_
                refine tl_nil ?_
                have hr := Option.some.inj hf; subst hr
                exact q_cut (c161.1, c161.2.1, c161.2.2.1, c161.2.2.2.1, c161.2.2.2.2.1, c161.2.2.2.2.2, z166) rfl ⟨rfl, ⟨rfl, ⟨rfl, ⟨rfl, ⟨rfl, ⟨rfl, trivial⟩⟩⟩⟩⟩⟩ ⟨mem_at 2 rfl, ⟨mem_at 3 rfl, trivial⟩⟩ [0, 1, 2, 3, 4] (Sel.cons rfl (Sel.cons rfl (Sel.cons rfl (Sel.cons rfl (Sel.cons rfl Sel.nil))))) rfl
            rintro ⟨s125, s126, s127, s128, s129, s131, z130⟩ rfl
            refine q_then_code ?_
            refine t_seq ?_
            refine t_region ?_
            refine tl_d rfl (d_move rfl ?_)
            refine tl_d rfl (d_nilCheck rfl ?_)
            refine tl_d rfl (d_field_own rfl fo70_5 ?_)
            refine tl_d rfl (d_load_box_int 0 rfl rfl (Fld.at0 fl_Walk_way_error) trivial ty37 rfl (fun hw168 => ?_))
            refine tl_d rfl (d_neq rfl rfl ?_)
            refine tl_nil ?_
            refine q_then_code ?_
            refine t_cond rfl (fun hb169 => ?_) (fun hb169 => ?_)
            · have hf := if_t hb169 hf
              refine t_ret ?_
              refine q_block_ret ?_
              refine q_then_ret ?_
              refine q_then_ret ?_
              have hr := Option.some.inj hf; try subst hr
              have hf := hout107
              refine q_block_ret ?_
              have hr := Option.some.inj hf; subst hr
              exact q_retN (post := fun v N fs => ∃ (y0 : Value), v = (.tuple #[]) ∧ N = [Own.box b1 rWalk_way (⟨(.map (some b2)), (.map (some b4)), (s125, s126, s127, s128, s129, s131).2.2.1, (s125, s126, s127, s128, s129, s131).2.2.2.1, y0, (s125, s126, s127, s128, s129, s131).2.2.2.2.2⟩ : Walk_way), Own.map b2 (rArr 32 (rInt .u8)) (rSl 1 (rInt .u8)) (s125, s126, s127, s128, s129, s131).1, Own.map b4 (rArr 32 (rInt .u8)) (rInt .i64) (s125, s126, s127, s128, s129, s131).2.1, Own.buf y0 48 (rFileF h0) (s125, s126, s127, s128, s129, s131).2.2.2.2.1] ∧ fs = []) hR _ (.inl rfl) [Own.box b1 rWalk_way (⟨(.map (some b2)), (.map (some b4)), s127, s128, z130, s131⟩ : Walk_way), Own.map b2 (rArr 32 (rInt .u8)) (rSl 1 (rInt .u8)) s125, Own.map b4 (rArr 32 (rInt .u8)) (rInt .i64) s126, Own.buf z130 48 (rFileF h0) s129] [] [0, 1, 2, 3] (Sel.cons rfl (Sel.cons rfl (Sel.cons rfl (Sel.cons rfl Sel.nil)))) rfl HasFs.nil (.tuple #[]) (fun a w hs => run_results (vs := []) rfl (RvOk.nil)) ⟨z130, rfl, rfl, rfl⟩
            · have hf := if_f hb169 hf
              refine t_skip ?_
              refine q_block_normal ?_
              refine q_then_code ?_
              refine t_region ?_
              refine tl_d rfl (d_add rfl rfl ?_)
              refine tl_d rfl (d_move rfl ?_)
              refine tl_nil ?_
              exact q_round kq108 (s125, s126, s127, s128, s129, s131, (IntKind.i64.wrap (s106 + (1 : Int))), z130) (Nat.lt_succ_self kq108) (wrap_wrap _ _) hf ⟨rfl, ⟨rfl, ⟨rfl, ⟨rfl, ⟨rfl, ⟨rfl, trivial⟩⟩⟩⟩⟩⟩ ⟨mem_at 0 rfl, ⟨mem_at 1 rfl, trivial⟩⟩ [0, 1, 2, 3, 4] (Sel.cons rfl (Sel.cons rfl (Sel.cons rfl (Sel.cons rfl (Sel.cons rfl Sel.nil))))) rfl
          · have hf := if_f hb111 hf
            refine t_exit ?_
            refine q_then_exit ?_
            refine q_then_exit ?_
            have hr := Option.some.inj hf; try subst hr
            have hf := hout107
            try dsimp only at hf
            refine q_block_hit ?_
            have hr := Option.some.inj hf; subst hr
            exact q_retN (post := fun v N fs => ∃ (y0 : Value), v = (.tuple #[]) ∧ N = [Own.box b1 rWalk_way (⟨(.map (some b2)), (.map (some b4)), (s99, s100, s101, s102, s103, s105).2.2.1, (s99, s100, s101, s102, s103, s105).2.2.2.1, y0, (s99, s100, s101, s102, s103, s105).2.2.2.2.2⟩ : Walk_way), Own.map b2 (rArr 32 (rInt .u8)) (rSl 1 (rInt .u8)) (s99, s100, s101, s102, s103, s105).1, Own.map b4 (rArr 32 (rInt .u8)) (rInt .i64) (s99, s100, s101, s102, s103, s105).2.1, Own.buf y0 48 (rFileF h0) (s99, s100, s101, s102, s103, s105).2.2.2.2.1] ∧ fs = []) hR _ (.inr rfl) [Own.box b1 rWalk_way (⟨(.map (some b2)), (.map (some b4)), s101, s102, z104, s105⟩ : Walk_way), Own.map b2 (rArr 32 (rInt .u8)) (rSl 1 (rInt .u8)) s99, Own.map b4 (rArr 32 (rInt .u8)) (rInt .i64) s100, Own.buf z104 48 (rFileF h0) s103] [] [0, 1, 2, 3] (Sel.cons rfl (Sel.cons rfl (Sel.cons rfl (Sel.cons rfl Sel.nil)))) rfl HasFs.nil (.tuple #[]) (fun a w hs => run_results (vs := []) rfl (RvOk.nil)) ⟨z104, rfl, rfl, rfl⟩

def bytes_Compare.f (a0 : (List Int)) (a1 : (List Int)) : Option (Int) := (some (cmp3 a0 a1))
set_option maxRecDepth 100000 in
set_option maxHeartbeats 400000 in
theorem bytes_Compare_ok (a0 : (List Int)) (a1 : (List Int)) (u0 u1 : Value) (r : Int) (hf : bytes_Compare.f a0 a1 = some r) : Cf.FnX true Try.prog 35 [u0, u1] (fun w m => (rSl 1 (rInt .u8)).val w m u0 a0 ∧ (rSl 1 (rInt .u8)).val w m u1 a1) (fun w w' m v => (rInt .i64).val w' m v r) := by
  unfold bytes_Compare.f at hf
  refine fn_of Try.func35 rfl (Nat.le_of_ble_eq_true rfl) [(rSl 1 (rInt .u8)).fact u0 a0, (rSl 1 (rInt .u8)).fact u1 a1] (fun w m h f hf => ?_) ?_
  · simp at hf; rcases hf with rfl | rfl
    · exact h.1
    · exact h.2
  intro w0 m0 R hR
  refine t_seq ?_
  refine t_region ?_
  refine tl_d rfl (d_assign rfl ?_)
  refine tl_nil ?_
  refine q_then_code ?_
  refine t_seq ?_
  refine t_region ?_
  refine tl_d rfl (d_move rfl ?_)
  refine tl_d rfl (d_move rfl ?_)
  refine tl_d rfl (d_compare Try.func51 (by kernel_rfl) (by kernel_rfl) (by kernel_rfl) (by kernel_rfl) rfl rfl (mem_at 0 rfl) (mem_at 1 rfl) ?_)
  refine tl_d rfl (d_assign rfl ?_)
  refine tl_nil ?_
  refine q_then_code ?_
  refine t_ret ?_
  have hr := Option.some.inj hf; subst hr
  refine q_ret (post := fun w w' m v => (rInt .i64).val w' m v (cmp3 a0 a1)) hR _ (.inl rfl) (fun a w hs => ?_)
  exact ⟨_, run_results rfl (RvOk.cons (rv_tmp hs rfl) RvOk.nil), (hs.hv (hv_int (cmp3_wrap _ _)))⟩

def walk_Close_1.f (a0 : (List Int)) (a1 : (List Int)) : Option (Int) := ((bytes_Compare.f (sub a0 (0 : Int) (32 : Int)) (sub a1 (0 : Int) (32 : Int))).bind fun c11 => (some c11))
set_option maxRecDepth 100000 in
set_option maxHeartbeats 400000 in
theorem walk_Close_1_ok (a0 : (List Int)) (a1 : (List Int)) (u0 u1 : Value) (r : Int) (hf : walk_Close_1.f a0 a1 = some r) : Cf.FnX true Try.prog 34 [u0, u1] (fun w m => (rArr 32 (rInt .u8)).val w m u0 a0 ∧ (rArr 32 (rInt .u8)).val w m u1 a1) (fun w w' m v => (rInt .i64).val w' m v r) := by
  unfold walk_Close_1.f at hf
  refine fn_of Try.func34 rfl (Nat.le_of_ble_eq_true rfl) [(rArr 32 (rInt .u8)).fact u0 a0, (rArr 32 (rInt .u8)).fact u1 a1] (fun w m h f hf => ?_) ?_
  · simp at hf; rcases hf with rfl | rfl
    · exact h.1
    · exact h.2
  intro w0 m0 R hR
  refine t_seq ?_
  refine t_region ?_
  refine tl_g [] rfl (g_box (R := (rArr 32 (rInt .u8))) rfl rfl (hv_fact (mem_at 0 rfl)) (fun b3 => ?_))
  refine tl_g [] rfl (g_box (R := (rArr 32 (rInt .u8))) rfl rfl (hv_fact (mem_at 1 rfl)) (fun b4 => ?_))
  refine tl_d rfl (d_assign rfl ?_)
  refine tl_nil ?_
  refine q_then_code ?_
  refine t_seq ?_
  obtain ⟨c11, hc12, hf⟩ := bind_some hf
  refine t_any (n := 4) [] mixed ⟨by kernel_rfl, .inl rfl⟩ (np_then np_body) ?_
  refine ta_freezebox 0 rfl ?_
  refine ta_take (i := 0) rfl (by kernel_rfl) gd_none (d_slice_place (i := (0 : Int)) (j := (32 : Int)) 1 rfl (mem_at 0 rfl) (.inl ⟨rfl, rfl⟩) (.inl ⟨rfl, rfl⟩) Try.underlying29 ty5 (by decide) (by decide) (fun v17 => ?_))
  refine ta_freezebox 1 rfl ?_
  refine ta_take (i := 1) rfl (by kernel_rfl) gd_none (d_slice_place (i := (0 : Int)) (j := (32 : Int)) 1 rfl (mem_at 0 rfl) (.inl ⟨rfl, rfl⟩) (.inl ⟨rfl, rfl⟩) Try.underlying29 ty5 (by decide) (by decide) (fun v20 => ?_))
  refine ta_one (i := 2) (by kernel_rfl) rfl rfl gd_none (g_call1 rfl hfn35 (bytes_Compare_ok _ _ _ _ _ hc12) (Evs.cons rfl (Evs.cons rfl Evs.nil)) (fun a w hs => ⟨(hv_fact (mem_at 2 rfl)) _ _ _ _ hs, (hv_fact (mem_at 0 rfl)) _ _ _ _ hs⟩) (fun v23 => ?_))
  refine ta_int (mem_at 0 rfl) (fun hv26 hw25 => ?_)
  subst hv26
  refine ta_take (i := 3) rfl (by kernel_rfl) gd_none (d_assign rfl ?_)
  refine ta_done (by kernel_rfl) ?_
  refine q_then_code ?_
  refine t_ret ?_
  have hr := Option.some.inj hf; subst hr
  refine q_ret (post := fun w w' m v => (rInt .i64).val w' m v c11) hR _ (.inl rfl) (fun a w hs => ?_)
  exact ⟨_, run_results rfl (RvOk.cons (rv_tmp hs rfl) RvOk.nil), (hs.hv (hv_int hw25))⟩


theorem slices_SortedFunc_ok (a0 : List (List Int × Int)) (bk : Nat) (r : List (List Int)) (hf : slices_SortedFunc.f a0 = some r) : Cf.FnX false Try.prog 32 [.func (.func 50) #[] #[.pointer (some ⟨bk, 0, none⟩)], .func (.func 34) #[] #[]] (fun w m => cntR.at_ w m ⟨bk, 0, none⟩ a0) (fun w w' m v => OwnRes idR 32 w w' m v r) :=
  slices_SortedFunc_of (fun x y u1 u2 => walk_Close_1_ok x y u1 u2 _ rfl) a0 bk r hf


def walk_Close.f (k : Nat) (a0 : (List Api_Object)) (a1 : (List Int)) : Option ((List (List Int)) × Int) := ((walk_begin.f k a0 false).bind fun c3 => ((walk_way_enter.f k c3.1 c3.2.1 c3.2.2.1 c3.2.2.2.1 c3.2.2.2.2.1 c3.2.2.2.2.2 a1 ([] : List Int) (1 : Int)).bind fun c16 => (if (!decide (c16.2.2.2.2.2 = (0 : Int))) = true then (some (([] : (List (List Int))), c16.2.2.2.2.2)) else ((slices_SortedFunc.f c16.2.1).bind fun c30 => (some (c30, (0 : Int)))))))
set_option maxRecDepth 100000 in
set_option maxHeartbeats 890000 in
theorem walk_Close_ok (k : Nat) (a0 : (List Api_Object)) (a1 : (List Int)) (u0 u1 : Value) (r : (List (List Int)) × Int) (hf : walk_Close.f k a0 a1 = some r) : Cf.FnX false Try.prog 18 [u0, u1] (fun w m => (rSl 56 rApi_Object).val w m u0 a0 ∧ (rArr 32 (rInt .u8)).val w m u1 a1) (fun w w' m v => ∃ v0 v1, v = .tuple #[v0, v1] ∧ OwnRes (rArr 32 (rInt .u8)) 32 w w' m v0 r.1 ∧ ∀ m', (∀ b, b ∈ m' → b ∈ m ∨ bufBlk v0 = some b) → (rInt .i64).val w' m' v1 r.2) := by
  unfold walk_Close.f at hf
  refine fn_of Try.func18 rfl (Nat.le_of_ble_eq_true rfl) [(rSl 56 rApi_Object).fact u0 a0, (rArr 32 (rInt .u8)).fact u1 a1] (fun w m h f hf => ?_) ?_
  · simp at hf; rcases hf with rfl | rfl
    · exact h.1
    · exact h.2
  intro w0 m0 R hR
  refine t_past ?_
  refine t_seq ?_
  refine t_region ?_
  refine tl_g [] rfl (g_box (R := (rArr 32 (rInt .u8))) rfl rfl (hv_fact (mem_at 2 rfl)) (fun b2 => ?_))
  refine tl_d rfl (d_assign rfl ?_)
  refine tl_d rfl (d_assign rfl ?_)
  refine tl_nil ?_
  refine q_then_code ?_
  refine t_seq ?_
  obtain ⟨c3, hc4, hf⟩ := bind_some hf
  refine t_region ?_
  refine tl_d rfl (d_move rfl ?_)
  refine tl_sel [Own.box b2 (rArr 32 (rInt .u8)) a1] [0] (Sel.cons rfl Sel.nil) rfl ?_
  refine tl_g1 rfl (g_callM (Min := []) (B := [Own.box b2 (rArr 32 (rInt .u8)) a1]) rfl hfn30 (walk_begin_ok _ _ _ _ _ _ hc4).weak (Evs.cons rfl (Evs.cons rfl Evs.nil)) (HasFs.cons (hv_fact (mem_at 1 rfl)) (HasFs.cons hv_bool (HasFs.mem (mem_at 0 rfl) HasFs.nil))) ?_)
  rintro _ _ _ ⟨b9, b10, b11, z12, rfl, rfl, rfl⟩
  refine tl_sel [Own.box b2 (rArr 32 (rInt .u8)) a1, Own.box b9 rWalk_way (⟨(.map (some b10)), (.map (some b11)), c3.2.2.1, c3.2.2.2.1, z12, c3.2.2.2.2.2⟩ : Walk_way), Own.map b10 (rArr 32 (rInt .u8)) (rSl 1 (rInt .u8)) c3.1, Own.map b11 (rArr 32 (rInt .u8)) (rInt .i64) c3.2.1, Own.buf z12 48 (rFileF w0.heap.size) c3.2.2.2.2.1] [4, 0, 1, 2, 3] (Sel.cons rfl (Sel.cons rfl (Sel.cons rfl (Sel.cons rfl (Sel.cons rfl Sel.nil))))) rfl ?_
  refine tl_M [Own.box b2 (rArr 32 (rInt .u8)) a1, Own.box b9 rWalk_way (⟨(.map (some b10)), (.map (some b11)), c3.2.2.1, c3.2.2.2.1, z12, c3.2.2.2.2.2⟩ : Walk_way), Own.map b10 (rArr 32 (rInt .u8)) (rSl 1 (rInt .u8)) c3.1, Own.map b11 (rArr 32 (rInt .u8)) (rInt .i64) c3.2.1, Own.buf z12 48 (rFileF w0.heap.size) c3.2.2.2.2.1] rfl ?_
  refine tl_d rfl (d_assign rfl ?_)
  refine tl_nil ?_
  refine q_then_code ?_
  refine t_seq ?_
  obtain ⟨c16, hc17, hf⟩ := bind_some hf
  refine t_region ?_
  refine tl_d rfl (d_move rfl ?_)
  refine tl_d rfl (d_load_box 0 rfl rfl (Fld.self (rArr 32 (rInt .u8))) trivial ty29 rfl (fun v19 => ?_))
  refine tl_fact (rStr.fact (.string .empty) ([] : List Int)) (str_fact rfl (by decide)) ?_
  refine tl_sel [Own.box b9 rWalk_way (⟨(.map (some b10)), (.map (some b11)), c3.2.2.1, c3.2.2.2.1, z12, c3.2.2.2.2.2⟩ : Walk_way), Own.map b10 (rArr 32 (rInt .u8)) (rSl 1 (rInt .u8)) c3.1, Own.map b11 (rArr 32 (rInt .u8)) (rInt .i64) c3.2.1, Own.buf z12 48 (rFileF w0.heap.size) c3.2.2.2.2.1, Own.box b2 (rArr 32 (rInt .u8)) a1] [1, 2, 3, 4, 0] (Sel.cons rfl (Sel.cons rfl (Sel.cons rfl (Sel.cons rfl (Sel.cons rfl Sel.nil))))) rfl ?_
  refine tl_g1 rfl (g_callM (Min := [Own.box b9 rWalk_way (⟨(.map (some b10)), (.map (some b11)), c3.2.2.1, c3.2.2.2.1, z12, c3.2.2.2.2.2⟩ : Walk_way), Own.map b10 (rArr 32 (rInt .u8)) (rSl 1 (rInt .u8)) c3.1, Own.map b11 (rArr 32 (rInt .u8)) (rInt .i64) c3.2.1, Own.buf z12 48 (rFileF w0.heap.size) c3.2.2.2.2.1]) (B := [Own.box b2 (rArr 32 (rInt .u8)) a1]) rfl hfn31 (walk_way_enter_ok _ _ _ _ _ _ _ _ _ _ _ _ _ _ _ _ _ _ hc17).weak (Evs.cons rfl (Evs.cons rfl (Evs.cons rfl (Evs.cons rfl Evs.nil)))) (HasFs.cons (hv_fact (mem_at 1 rfl)) (HasFs.cons (hv_fact (mem_at 0 rfl)) (HasFs.cons (hv_int rfl) (HasFs.mem (mem_at 2 rfl) HasFs.nil)))) ?_)
  rintro _ _ _ ⟨z22, rfl, rfl, rfl⟩
  refine tl_sel [Own.box b2 (rArr 32 (rInt .u8)) a1, Own.box b9 rWalk_way (⟨(.map (some b10)), (.map (some b11)), c16.2.2.1, c16.2.2.2.1, z22, c16.2.2.2.2.2⟩ : Walk_way), Own.map b10 (rArr 32 (rInt .u8)) (rSl 1 (rInt .u8)) c16.1, Own.map b11 (rArr 32 (rInt .u8)) (rInt .i64) c16.2.1, Own.buf z22 48 (rFileF w0.heap.size) c16.2.2.2.2.1] [4, 0, 1, 2, 3] (Sel.cons rfl (Sel.cons rfl (Sel.cons rfl (Sel.cons rfl (Sel.cons rfl Sel.nil))))) rfl ?_
  refine tl_M [Own.box b2 (rArr 32 (rInt .u8)) a1, Own.box b9 rWalk_way (⟨(.map (some b10)), (.map (some b11)), c16.2.2.1, c16.2.2.2.1, z22, c16.2.2.2.2.2⟩ : Walk_way), Own.map b10 (rArr 32 (rInt .u8)) (rSl 1 (rInt .u8)) c16.1, Own.map b11 (rArr 32 (rInt .u8)) (rInt .i64) c16.2.1, Own.buf z22 48 (rFileF w0.heap.size) c16.2.2.2.2.1] rfl ?_
  refine tl_nil ?_
  refine q_then_code ?_
  refine t_seq ?_
  refine t_seq ?_
  refine t_region ?_
  refine tl_d rfl (d_move rfl ?_)
  refine tl_d rfl (d_nilCheck rfl ?_)
  refine tl_d rfl (d_field_own rfl fo70_5 ?_)
  refine tl_d rfl (d_load_box_int 1 rfl rfl (Fld.at0 fl_Walk_way_error) trivial ty37 rfl (fun hw24 => ?_))
  refine tl_d rfl (d_neq rfl rfl ?_)
  refine tl_nil ?_
  refine q_then_code ?_
  refine t_cond rfl (fun hb25 => ?_) (fun hb25 => ?_)
  · have hf := if_t hb25 hf
    refine t_seq ?_
    refine t_any (n := 6) [] mixed ⟨by kernel_rfl, .inl rfl⟩ (np_then (np_then np_body)) ?_
    refine ta_take (i := 0) rfl (by kernel_rfl) gd_none (d_move rfl ?_)
    refine ta_take (i := 1) rfl (by kernel_rfl) gd_none (d_nilCheck rfl ?_)
    refine ta_take (i := 2) rfl (by kernel_rfl) gd_none (d_field_own rfl fo70_5 ?_)
    refine ta_take (i := 3) rfl (by kernel_rfl) gd_none (d_load_box_int 1 rfl rfl (Fld.at0 fl_Walk_way_error) trivial ty37 rfl (fun hw27 => ?_))
    refine ta_take (i := 4) rfl (by kernel_rfl) gd_none (d_assign rfl ?_)
    refine ta_take (i := 5) rfl (by kernel_rfl) gd_none (d_assign rfl ?_)
    refine ta_done (by kernel_rfl) ?_
    refine q_then_code ?_
    refine t_ret ?_
    refine q_then_ret ?_
    have hr := Option.some.inj hf; subst hr
    refine q_ret (post := fun w w' m v => ∃ v0 v1, v = .tuple #[v0, v1] ∧ OwnRes (rArr 32 (rInt .u8)) 32 w w' m v0 ([] : (List (List Int))) ∧ ∀ m', (∀ b, b ∈ m' → b ∈ m ∨ bufBlk v0 = some b) → (rInt .i64).val w' m' v1 c16.2.2.2.2.2) hR _ (.inl rfl) (fun a w hs => ?_)
    exact ⟨_, run_results rfl (RvOk.cons (rv_tmp hs rfl) (RvOk.cons (rv_tmp hs rfl) RvOk.nil)), _, _, rfl, ownres_nil, fun m' hm' => ⟨[_], ⟨rfl, hw27⟩, rfl⟩⟩
  · have hf := if_f hb25 hf
    refine t_skip ?_
    refine q_then_code ?_
    refine t_seq ?_
    obtain ⟨c30, hc31, hf⟩ := bind_some hf
    refine t_region ?_
    refine tl_d rfl (d_move rfl ?_)
    refine tl_d rfl (d_nilCheck rfl ?_)
    refine tl_d rfl (d_field_own rfl fo70_1 ?_)
    refine tl_d rfl (d_load_raw 1 (.map (some b11)) rfl rfl (Fld.at0 fl_Walk_way_met) trivial tyr68 rfl rfl ?_)
    refine tl_freezemap 3 rfl ?_
    refine tl_g [] rfl (g_keys (RK := (rArr 32 (rInt .u8))) (RV := (rInt .i64)) rfl hfn33 rfl keys33 rfl (hv_fact (mem_at 0 rfl)) (fun b35 => ?_))
    refine tl_M [Own.box b2 (rArr 32 (rInt .u8)) a1, Own.box b9 rWalk_way (⟨(.map (some b10)), (.map (some b11)), c16.2.2.1, c16.2.2.2.1, z22, c16.2.2.2.2.2⟩ : Walk_way), Own.map b10 (rArr 32 (rInt .u8)) (rSl 1 (rInt .u8)) c16.1, Own.gone, Own.buf z22 48 (rFileF w0.heap.size) c16.2.2.2.2.1, Own.box b35 (rMp (rArr 32 (rInt .u8)) (rInt .i64)) c16.2.1] rfl ?_
    refine tl_freezebox 5 rfl ?_
    refine tl_g [] rfl (g_callo rfl hfn32 (slices_SortedFunc_ok _ _ _ hc31) (Evs.cons rfl (Evs.cons rfl Evs.nil)) (fun a w hs => hs.place (mem_at 0 rfl)) (fun v36 => ?_))
    refine tl_M [Own.box b2 (rArr 32 (rInt .u8)) a1, Own.box b9 rWalk_way (⟨(.map (some b10)), (.map (some b11)), c16.2.2.1, c16.2.2.2.1, z22, c16.2.2.2.2.2⟩ : Walk_way), Own.map b10 (rArr 32 (rInt .u8)) (rSl 1 (rInt .u8)) c16.1, Own.gone, Own.buf z22 48 (rFileF w0.heap.size) c16.2.2.2.2.1, Own.gone, Own.buf v36 32 (rArr 32 (rInt .u8)) c30] rfl ?_
    refine tl_d rfl (d_assign rfl ?_)
    refine tl_d rfl (d_assign rfl ?_)
    refine tl_nil ?_
    refine q_then_code ?_
    refine t_ret ?_
    have hr := Option.some.inj hf; subst hr
    refine q_ret (post := fun w w' m v => ∃ v0 v1, v = .tuple #[v0, v1] ∧ OwnRes (rArr 32 (rInt .u8)) 32 w w' m v0 c30 ∧ ∀ m', (∀ b, b ∈ m' → b ∈ m ∨ bufBlk v0 = some b) → (rInt .i64).val w' m' v1 (0 : Int)) hR _ (.inl rfl) (fun a w hs => ?_)
    exact ⟨_, run_results rfl (RvOk.cons (rv_tmp hs rfl) (RvOk.cons (rv_tmp hs rfl) RvOk.nil)), _, _, rfl, (hs.ownres (i := 6) rfl), fun m' hm' => ⟨[_], ⟨rfl, rfl⟩, rfl⟩⟩

def walk_Files.f (k : Nat) (a0 : (List Api_Object)) (a1 : (List Int)) : Option ((List Api_File) × Int) := ((walk_begin.f k a0 true).bind fun c3 => ((walk_way_enter.f k c3.1 c3.2.1 c3.2.2.1 c3.2.2.2.1 c3.2.2.2.2.1 c3.2.2.2.2.2 a1 ([] : List Int) (1 : Int)).bind fun c16 => (if (!decide (c16.2.2.2.2.2 = (0 : Int))) = true then (some (([] : (List Api_File)), c16.2.2.2.2.2)) else (some (c16.2.2.2.2.1, (0 : Int))))))
set_option maxRecDepth 100000 in
set_option maxHeartbeats 820000 in
theorem walk_Files_okF (k : Nat) (a0 : (List Api_Object)) (a1 : (List Int)) (u0 u1 : Value) (r : (List Api_File) × Int) (hf : walk_Files.f k a0 a1 = some r) : Cf.FnX true Try.prog 19 [u0, u1] (fun w m => (rSl 56 rApi_Object).val w m u0 a0 ∧ (rArr 32 (rInt .u8)).val w m u1 a1) (fun w w' m v => ∃ v0 v1, v = .tuple #[v0, v1] ∧ OwnRes (rFileF w.heap.size) 48 w w' m v0 r.1 ∧ ∀ m', (∀ b, b ∈ m' → b ∈ m ∨ bufBlk v0 = some b) → (rInt .i64).val w' m' v1 r.2) := by
  unfold walk_Files.f at hf
  refine fn_of Try.func19 rfl (Nat.le_of_ble_eq_true rfl) [(rSl 56 rApi_Object).fact u0 a0, (rArr 32 (rInt .u8)).fact u1 a1] (fun w m h f hf => ?_) ?_
  · simp at hf; rcases hf with rfl | rfl
    · exact h.1
    · exact h.2
  intro w0 m0 R hR
  refine t_past ?_
  refine t_seq ?_
  refine t_region ?_
  refine tl_g [] rfl (g_box (R := (rArr 32 (rInt .u8))) rfl rfl (hv_fact (mem_at 2 rfl)) (fun b2 => ?_))
  refine tl_d rfl (d_assign rfl ?_)
  refine tl_d rfl (d_assign rfl ?_)
  refine tl_nil ?_
  refine q_then_code ?_
  refine t_seq ?_
  obtain ⟨c3, hc4, hf⟩ := bind_some hf
  refine t_region ?_
  refine tl_d rfl (d_move rfl ?_)
  refine tl_sel [Own.box b2 (rArr 32 (rInt .u8)) a1] [0] (Sel.cons rfl Sel.nil) rfl ?_
  refine tl_g1 rfl (g_callM (Min := []) (B := [Own.box b2 (rArr 32 (rInt .u8)) a1]) rfl hfn30 (walk_begin_ok _ _ _ _ _ _ hc4) (Evs.cons rfl (Evs.cons rfl Evs.nil)) (HasFs.cons (hv_fact (mem_at 1 rfl)) (HasFs.cons hv_bool (HasFs.mem (mem_at 0 rfl) HasFs.nil))) ?_)
  rintro _ _ _ ⟨b9, b10, b11, z12, rfl, rfl, rfl⟩
  refine tl_sel [Own.box b2 (rArr 32 (rInt .u8)) a1, Own.box b9 rWalk_way (⟨(.map (some b10)), (.map (some b11)), c3.2.2.1, c3.2.2.2.1, z12, c3.2.2.2.2.2⟩ : Walk_way), Own.map b10 (rArr 32 (rInt .u8)) (rSl 1 (rInt .u8)) c3.1, Own.map b11 (rArr 32 (rInt .u8)) (rInt .i64) c3.2.1, Own.buf z12 48 (rFileF w0.heap.size) c3.2.2.2.2.1] [4, 0, 1, 2, 3] (Sel.cons rfl (Sel.cons rfl (Sel.cons rfl (Sel.cons rfl (Sel.cons rfl Sel.nil))))) rfl ?_
  refine tl_M [Own.box b2 (rArr 32 (rInt .u8)) a1, Own.box b9 rWalk_way (⟨(.map (some b10)), (.map (some b11)), c3.2.2.1, c3.2.2.2.1, z12, c3.2.2.2.2.2⟩ : Walk_way), Own.map b10 (rArr 32 (rInt .u8)) (rSl 1 (rInt .u8)) c3.1, Own.map b11 (rArr 32 (rInt .u8)) (rInt .i64) c3.2.1, Own.buf z12 48 (rFileF w0.heap.size) c3.2.2.2.2.1] rfl ?_
  refine tl_d rfl (d_assign rfl ?_)
  refine tl_nil ?_
  refine q_then_code ?_
  refine t_seq ?_
  obtain ⟨c16, hc17, hf⟩ := bind_some hf
  refine t_region ?_
  refine tl_d rfl (d_move rfl ?_)
  refine tl_d rfl (d_load_box 0 rfl rfl (Fld.self (rArr 32 (rInt .u8))) trivial ty29 rfl (fun v19 => ?_))
  refine tl_fact (rStr.fact (.string .empty) ([] : List Int)) (str_fact rfl (by decide)) ?_
  refine tl_sel [Own.box b9 rWalk_way (⟨(.map (some b10)), (.map (some b11)), c3.2.2.1, c3.2.2.2.1, z12, c3.2.2.2.2.2⟩ : Walk_way), Own.map b10 (rArr 32 (rInt .u8)) (rSl 1 (rInt .u8)) c3.1, Own.map b11 (rArr 32 (rInt .u8)) (rInt .i64) c3.2.1, Own.buf z12 48 (rFileF w0.heap.size) c3.2.2.2.2.1, Own.box b2 (rArr 32 (rInt .u8)) a1] [1, 2, 3, 4, 0] (Sel.cons rfl (Sel.cons rfl (Sel.cons rfl (Sel.cons rfl (Sel.cons rfl Sel.nil))))) rfl ?_
  refine tl_g1 rfl (g_callM (Min := [Own.box b9 rWalk_way (⟨(.map (some b10)), (.map (some b11)), c3.2.2.1, c3.2.2.2.1, z12, c3.2.2.2.2.2⟩ : Walk_way), Own.map b10 (rArr 32 (rInt .u8)) (rSl 1 (rInt .u8)) c3.1, Own.map b11 (rArr 32 (rInt .u8)) (rInt .i64) c3.2.1, Own.buf z12 48 (rFileF w0.heap.size) c3.2.2.2.2.1]) (B := [Own.box b2 (rArr 32 (rInt .u8)) a1]) rfl hfn31 (walk_way_enter_ok _ _ _ _ _ _ _ _ _ _ _ _ _ _ _ _ _ _ hc17) (Evs.cons rfl (Evs.cons rfl (Evs.cons rfl (Evs.cons rfl Evs.nil)))) (HasFs.cons (hv_fact (mem_at 1 rfl)) (HasFs.cons (hv_fact (mem_at 0 rfl)) (HasFs.cons (hv_int rfl) (HasFs.mem (mem_at 2 rfl) HasFs.nil)))) ?_)
  rintro _ _ _ ⟨z22, rfl, rfl, rfl⟩
  refine tl_sel [Own.box b2 (rArr 32 (rInt .u8)) a1, Own.box b9 rWalk_way (⟨(.map (some b10)), (.map (some b11)), c16.2.2.1, c16.2.2.2.1, z22, c16.2.2.2.2.2⟩ : Walk_way), Own.map b10 (rArr 32 (rInt .u8)) (rSl 1 (rInt .u8)) c16.1, Own.map b11 (rArr 32 (rInt .u8)) (rInt .i64) c16.2.1, Own.buf z22 48 (rFileF w0.heap.size) c16.2.2.2.2.1] [4, 0, 1, 2, 3] (Sel.cons rfl (Sel.cons rfl (Sel.cons rfl (Sel.cons rfl (Sel.cons rfl Sel.nil))))) rfl ?_
  refine tl_M [Own.box b2 (rArr 32 (rInt .u8)) a1, Own.box b9 rWalk_way (⟨(.map (some b10)), (.map (some b11)), c16.2.2.1, c16.2.2.2.1, z22, c16.2.2.2.2.2⟩ : Walk_way), Own.map b10 (rArr 32 (rInt .u8)) (rSl 1 (rInt .u8)) c16.1, Own.map b11 (rArr 32 (rInt .u8)) (rInt .i64) c16.2.1, Own.buf z22 48 (rFileF w0.heap.size) c16.2.2.2.2.1] rfl ?_
  refine tl_nil ?_
  refine q_then_code ?_
  refine t_seq ?_
  refine t_seq ?_
  refine t_region ?_
  refine tl_d rfl (d_move rfl ?_)
  refine tl_d rfl (d_nilCheck rfl ?_)
  refine tl_d rfl (d_field_own rfl fo70_5 ?_)
  refine tl_d rfl (d_load_box_int 1 rfl rfl (Fld.at0 fl_Walk_way_error) trivial ty37 rfl (fun hw24 => ?_))
  refine tl_d rfl (d_neq rfl rfl ?_)
  refine tl_nil ?_
  refine q_then_code ?_
  refine t_cond rfl (fun hb25 => ?_) (fun hb25 => ?_)
  · have hf := if_t hb25 hf
    refine t_seq ?_
    refine t_any (n := 6) [] mixed ⟨by kernel_rfl, .inl rfl⟩ (np_then (np_then np_body)) ?_
    refine ta_take (i := 0) rfl (by kernel_rfl) gd_none (d_move rfl ?_)
    refine ta_take (i := 1) rfl (by kernel_rfl) gd_none (d_nilCheck rfl ?_)
    refine ta_take (i := 2) rfl (by kernel_rfl) gd_none (d_field_own rfl fo70_5 ?_)
    refine ta_take (i := 3) rfl (by kernel_rfl) gd_none (d_load_box_int 1 rfl rfl (Fld.at0 fl_Walk_way_error) trivial ty37 rfl (fun hw27 => ?_))
    refine ta_take (i := 4) rfl (by kernel_rfl) gd_none (d_assign rfl ?_)
    refine ta_take (i := 5) rfl (by kernel_rfl) gd_none (d_assign rfl ?_)
    refine ta_done (by kernel_rfl) ?_
    refine q_then_code ?_
    refine t_ret ?_
    refine q_then_ret ?_
    have hr := Option.some.inj hf; subst hr
    refine q_ret (post := fun w w' m v => ∃ v0 v1, v = .tuple #[v0, v1] ∧ OwnRes (rFileF w.heap.size) 48 w w' m v0 ([] : (List Api_File)) ∧ ∀ m', (∀ b, b ∈ m' → b ∈ m ∨ bufBlk v0 = some b) → (rInt .i64).val w' m' v1 c16.2.2.2.2.2) hR _ (.inl rfl) (fun a w hs => ?_)
    exact ⟨_, run_results rfl (RvOk.cons (rv_tmp hs rfl) (RvOk.cons (rv_tmp hs rfl) RvOk.nil)), _, _, rfl, ownres_nil, fun m' hm' => ⟨[_], ⟨rfl, hw27⟩, rfl⟩⟩
  · have hf := if_f hb25 hf
    refine t_skip ?_
    refine q_then_code ?_
    refine t_seq ?_
    refine t_region ?_
    refine tl_d rfl (d_move rfl ?_)
    refine tl_d rfl (d_nilCheck rfl ?_)
    refine tl_d rfl (d_field_own rfl fo70_4 ?_)
    refine tl_d rfl (d_load_raw 1 z22 rfl rfl (Fld.at0 fl_Walk_way_files) trivial tyr40 rfl rfl ?_)
    refine tl_d rfl (d_assign rfl ?_)
    refine tl_d rfl (d_assign rfl ?_)
    refine tl_nil ?_
    refine q_then_code ?_
    refine t_ret ?_
    have hr := Option.some.inj hf; subst hr
    refine q_ret (post := fun w w' m v => ∃ v0 v1, v = .tuple #[v0, v1] ∧ OwnRes (rFileF w.heap.size) 48 w w' m v0 c16.2.2.2.2.1 ∧ ∀ m', (∀ b, b ∈ m' → b ∈ m ∨ bufBlk v0 = some b) → (rInt .i64).val w' m' v1 (0 : Int)) hR _ (.inl rfl) (fun a w hs => ?_)
    exact ⟨_, run_results rfl (RvOk.cons (rv_tmp hs rfl) (RvOk.cons (rv_tmp hs rfl) RvOk.nil)), _, _, rfl, (hs.ownres (i := 4) rfl), fun m' hm' => ⟨[_], ⟨rfl, rfl⟩, rfl⟩⟩
theorem walk_Files_ok (k : Nat) (a0 : (List Api_Object)) (a1 : (List Int)) (u0 u1 : Value) (r : (List Api_File) × Int) (hf : walk_Files.f k a0 a1 = some r) : Cf.FnX true Try.prog 19 [u0, u1] (fun w m => (rSl 56 rApi_Object).val w m u0 a0 ∧ (rArr 32 (rInt .u8)).val w m u1 a1) (fun w w' m v => ∃ v0 v1, v = .tuple #[v0, v1] ∧ OwnRes rApi_File 48 w w' m v0 r.1 ∧ ∀ m', (∀ b, b ∈ m' → b ∈ m ∨ bufBlk v0 = some b) → (rInt .i64).val w' m' v1 r.2) := fun w m hm hp =>
  (walk_Files_okF k a0 a1 u0 u1 r hf w m hm hp).mono fun _ _ ⟨v, h1, h2, v0, v1, e, ho, hr⟩ => ⟨v, h1, h2, v0, v1, e, OwnRes.weaker (R := rFileF w.heap.size) rfl (fun _ _ _ _ h => rFileF_plain h) ho, hr⟩

def cofferref2_keys.f : Option ((List Int)) := (some [(1116352408 : Int), (1899447441 : Int), (3049323471 : Int), (3921009573 : Int), (961987163 : Int), (1508970993 : Int), (2453635748 : Int), (2870763221 : Int), (3624381080 : Int), (310598401 : Int), (607225278 : Int), (1426881987 : Int), (1925078388 : Int), (2162078206 : Int), (2614888103 : Int), (3248222580 : Int), (3835390401 : Int), (4022224774 : Int), (264347078 : Int), (604807628 : Int), (770255983 : Int), (1249150122 : Int), (1555081692 : Int), (1996064986 : Int), (2554220882 : Int), (2821834349 : Int), (2952996808 : Int), (3210313671 : Int), (3336571891 : Int), (3584528711 : Int), (113926993 : Int), (338241895 : Int), (666307205 : Int), (773529912 : Int), (1294757372 : Int), (1396182291 : Int), (1695183700 : Int), (1986661051 : Int), (2177026350 : Int), (2456956037 : Int), (2730485921 : Int), (2820302411 : Int), (3259730800 : Int), (3345764771 : Int), (3516065817 : Int), (3600352804 : Int), (4094571909 : Int), (275423344 : Int), (430227734 : Int), (506948616 : Int), (659060556 : Int), (883997877 : Int), (958139571 : Int), (1322822218 : Int), (1537002063 : Int), (1747873779 : Int), (1955562222 : Int), (2024104815 : Int), (2227730452 : Int), (2361852424 : Int), (2428436474 : Int), (2756734187 : Int), (3204031479 : Int), (3329325298 : Int)])
set_option maxRecDepth 100000 in
set_option maxHeartbeats 400000 in
theorem cofferref2_keys_ok (r : (List Int)) (hf : cofferref2_keys.f  = some r) : Cf.FnX true Try.prog 52 [] (fun w m => True) (fun w w' m v => (rArr 64 (rInt .u64)).val w' m v r) := by
  unfold cofferref2_keys.f at hf
  refine fn_of Try.func52 rfl (Nat.le_of_ble_eq_true rfl) [] (fun w m h f hf => ?_) ?_
  · cases hf
  intro w0 m0 R hR
  refine t_seq ?_
  refine t_region ?_
  refine tl_g [] rfl (g_alloc rfl ty101 (fun b2 => ?_))
  refine tl_nil ?_
  refine q_then_code ?_
  refine t_seq ?_
  refine t_region ?_
  refine tl_d rfl (d_build_arr (y := [(1116352408 : Int), (1899447441 : Int), (3049323471 : Int), (3921009573 : Int), (961987163 : Int), (1508970993 : Int), (2453635748 : Int), (2870763221 : Int), (3624381080 : Int), (310598401 : Int), (607225278 : Int), (1426881987 : Int), (1925078388 : Int), (2162078206 : Int), (2614888103 : Int), (3248222580 : Int), (3835390401 : Int), (4022224774 : Int), (264347078 : Int), (604807628 : Int), (770255983 : Int), (1249150122 : Int), (1555081692 : Int), (1996064986 : Int), (2554220882 : Int), (2821834349 : Int), (2952996808 : Int), (3210313671 : Int), (3336571891 : Int), (3584528711 : Int), (113926993 : Int), (338241895 : Int), (666307205 : Int), (773529912 : Int), (1294757372 : Int), (1396182291 : Int), (1695183700 : Int), (1986661051 : Int), (2177026350 : Int), (2456956037 : Int), (2730485921 : Int), (2820302411 : Int), (3259730800 : Int), (3345764771 : Int), (3516065817 : Int), (3600352804 : Int), (4094571909 : Int), (275423344 : Int), (430227734 : Int), (506948616 : Int), (659060556 : Int), (883997877 : Int), (958139571 : Int), (1322822218 : Int), (1537002063 : Int), (1747873779 : Int), (1955562222 : Int), (2024104815 : Int), (2227730452 : Int), (2361852424 : Int), (2428436474 : Int), (2756734187 : Int), (3204031479 : Int), (3329325298 : Int)]) ty101 Try.underlying101 ty91 (BuildOk.cons rfl (Fld.elem 64 (rInt .u64) 0 (rInt .u64).zeroD) (by decide) rfl (hv_int rfl) (BuildOk.cons rfl (Fld.elem 64 (rInt .u64) 1 (rInt .u64).zeroD) (by decide) rfl (hv_int rfl) (BuildOk.cons rfl (Fld.elem 64 (rInt .u64) 2 (rInt .u64).zeroD) (by decide) rfl (hv_int rfl) (BuildOk.cons rfl (Fld.elem 64 (rInt .u64) 3 (rInt .u64).zeroD) (by decide) rfl (hv_int rfl) (BuildOk.cons rfl (Fld.elem 64 (rInt .u64) 4 (rInt .u64).zeroD) (by decide) rfl (hv_int rfl) (BuildOk.cons rfl (Fld.elem 64 (rInt .u64) 5 (rInt .u64).zeroD) (by decide) rfl (hv_int rfl) (BuildOk.cons rfl (Fld.elem 64 (rInt .u64) 6 (rInt .u64).zeroD) (by decide) rfl (hv_int rfl) (BuildOk.cons rfl (Fld.elem 64 (rInt .u64) 7 (rInt .u64).zeroD) (by decide) rfl (hv_int rfl) (BuildOk.cons rfl (Fld.elem 64 (rInt .u64) 8 (rInt .u64).zeroD) (by decide) rfl (hv_int rfl) (BuildOk.cons rfl (Fld.elem 64 (rInt .u64) 9 (rInt .u64).zeroD) (by decide) rfl (hv_int rfl) (BuildOk.cons rfl (Fld.elem 64 (rInt .u64) 10 (rInt .u64).zeroD) (by decide) rfl (hv_int rfl) (BuildOk.cons rfl (Fld.elem 64 (rInt .u64) 11 (rInt .u64).zeroD) (by decide) rfl (hv_int rfl) (BuildOk.cons rfl (Fld.elem 64 (rInt .u64) 12 (rInt .u64).zeroD) (by decide) rfl (hv_int rfl) (BuildOk.cons rfl (Fld.elem 64 (rInt .u64) 13 (rInt .u64).zeroD) (by decide) rfl (hv_int rfl) (BuildOk.cons rfl (Fld.elem 64 (rInt .u64) 14 (rInt .u64).zeroD) (by decide) rfl (hv_int rfl) (BuildOk.cons rfl (Fld.elem 64 (rInt .u64) 15 (rInt .u64).zeroD) (by decide) rfl (hv_int rfl) (BuildOk.cons rfl (Fld.elem 64 (rInt .u64) 16 (rInt .u64).zeroD) (by decide) rfl (hv_int rfl) (BuildOk.cons rfl (Fld.elem 64 (rInt .u64) 17 (rInt .u64).zeroD) (by decide) rfl (hv_int rfl) (BuildOk.cons rfl (Fld.elem 64 (rInt .u64) 18 (rInt .u64).zeroD) (by decide) rfl (hv_int rfl) (BuildOk.cons rfl (Fld.elem 64 (rInt .u64) 19 (rInt .u64).zeroD) (by decide) rfl (hv_int rfl) (BuildOk.cons rfl (Fld.elem 64 (rInt .u64) 20 (rInt .u64).zeroD) (by decide) rfl (hv_int rfl) (BuildOk.cons rfl (Fld.elem 64 (rInt .u64) 21 (rInt .u64).zeroD) (by decide) rfl (hv_int rfl) (BuildOk.cons rfl (Fld.elem 64 (rInt .u64) 22 (rInt .u64).zeroD) (by decide) rfl (hv_int rfl) (BuildOk.cons rfl (Fld.elem 64 (rInt .u64) 23 (rInt .u64).zeroD) (by decide) rfl (hv_int rfl) (BuildOk.cons rfl (Fld.elem 64 (rInt .u64) 24 (rInt .u64).zeroD) (by decide) rfl (hv_int rfl) (BuildOk.cons rfl (Fld.elem 64 (rInt .u64) 25 (rInt .u64).zeroD) (by decide) rfl (hv_int rfl) (BuildOk.cons rfl (Fld.elem 64 (rInt .u64) 26 (rInt .u64).zeroD) (by decide) rfl (hv_int rfl) (BuildOk.cons rfl (Fld.elem 64 (rInt .u64) 27 (rInt .u64).zeroD) (by decide) rfl (hv_int rfl) (BuildOk.cons rfl (Fld.elem 64 (rInt .u64) 28 (rInt .u64).zeroD) (by decide) rfl (hv_int rfl) (BuildOk.cons rfl (Fld.elem 64 (rInt .u64) 29 (rInt .u64).zeroD) (by decide) rfl (hv_int rfl) (BuildOk.cons rfl (Fld.elem 64 (rInt .u64) 30 (rInt .u64).zeroD) (by decide) rfl (hv_int rfl) (BuildOk.cons rfl (Fld.elem 64 (rInt .u64) 31 (rInt .u64).zeroD) (by decide) rfl (hv_int rfl) (BuildOk.cons rfl (Fld.elem 64 (rInt .u64) 32 (rInt .u64).zeroD) (by decide) rfl (hv_int rfl) (BuildOk.cons rfl (Fld.elem 64 (rInt .u64) 33 (rInt .u64).zeroD) (by decide) rfl (hv_int rfl) (BuildOk.cons rfl (Fld.elem 64 (rInt .u64) 34 (rInt .u64).zeroD) (by decide) rfl (hv_int rfl) (BuildOk.cons rfl (Fld.elem 64 (rInt .u64) 35 (rInt .u64).zeroD) (by decide) rfl (hv_int rfl) (BuildOk.cons rfl (Fld.elem 64 (rInt .u64) 36 (rInt .u64).zeroD) (by decide) rfl (hv_int rfl) (BuildOk.cons rfl (Fld.elem 64 (rInt .u64) 37 (rInt .u64).zeroD) (by decide) rfl (hv_int rfl) (BuildOk.cons rfl (Fld.elem 64 (rInt .u64) 38 (rInt .u64).zeroD) (by decide) rfl (hv_int rfl) (BuildOk.cons rfl (Fld.elem 64 (rInt .u64) 39 (rInt .u64).zeroD) (by decide) rfl (hv_int rfl) (BuildOk.cons rfl (Fld.elem 64 (rInt .u64) 40 (rInt .u64).zeroD) (by decide) rfl (hv_int rfl) (BuildOk.cons rfl (Fld.elem 64 (rInt .u64) 41 (rInt .u64).zeroD) (by decide) rfl (hv_int rfl) (BuildOk.cons rfl (Fld.elem 64 (rInt .u64) 42 (rInt .u64).zeroD) (by decide) rfl (hv_int rfl) (BuildOk.cons rfl (Fld.elem 64 (rInt .u64) 43 (rInt .u64).zeroD) (by decide) rfl (hv_int rfl) (BuildOk.cons rfl (Fld.elem 64 (rInt .u64) 44 (rInt .u64).zeroD) (by decide) rfl (hv_int rfl) (BuildOk.cons rfl (Fld.elem 64 (rInt .u64) 45 (rInt .u64).zeroD) (by decide) rfl (hv_int rfl) (BuildOk.cons rfl (Fld.elem 64 (rInt .u64) 46 (rInt .u64).zeroD) (by decide) rfl (hv_int rfl) (BuildOk.cons rfl (Fld.elem 64 (rInt .u64) 47 (rInt .u64).zeroD) (by decide) rfl (hv_int rfl) (BuildOk.cons rfl (Fld.elem 64 (rInt .u64) 48 (rInt .u64).zeroD) (by decide) rfl (hv_int rfl) (BuildOk.cons rfl (Fld.elem 64 (rInt .u64) 49 (rInt .u64).zeroD) (by decide) rfl (hv_int rfl) (BuildOk.cons rfl (Fld.elem 64 (rInt .u64) 50 (rInt .u64).zeroD) (by decide) rfl (hv_int rfl) (BuildOk.cons rfl (Fld.elem 64 (rInt .u64) 51 (rInt .u64).zeroD) (by decide) rfl (hv_int rfl) (BuildOk.cons rfl (Fld.elem 64 (rInt .u64) 52 (rInt .u64).zeroD) (by decide) rfl (hv_int rfl) (BuildOk.cons rfl (Fld.elem 64 (rInt .u64) 53 (rInt .u64).zeroD) (by decide) rfl (hv_int rfl) (BuildOk.cons rfl (Fld.elem 64 (rInt .u64) 54 (rInt .u64).zeroD) (by decide) rfl (hv_int rfl) (BuildOk.cons rfl (Fld.elem 64 (rInt .u64) 55 (rInt .u64).zeroD) (by decide) rfl (hv_int rfl) (BuildOk.cons rfl (Fld.elem 64 (rInt .u64) 56 (rInt .u64).zeroD) (by decide) rfl (hv_int rfl) (BuildOk.cons rfl (Fld.elem 64 (rInt .u64) 57 (rInt .u64).zeroD) (by decide) rfl (hv_int rfl) (BuildOk.cons rfl (Fld.elem 64 (rInt .u64) 58 (rInt .u64).zeroD) (by decide) rfl (hv_int rfl) (BuildOk.cons rfl (Fld.elem 64 (rInt .u64) 59 (rInt .u64).zeroD) (by decide) rfl (hv_int rfl) (BuildOk.cons rfl (Fld.elem 64 (rInt .u64) 60 (rInt .u64).zeroD) (by decide) rfl (hv_int rfl) (BuildOk.cons rfl (Fld.elem 64 (rInt .u64) 61 (rInt .u64).zeroD) (by decide) rfl (hv_int rfl) (BuildOk.cons rfl (Fld.elem 64 (rInt .u64) 62 (rInt .u64).zeroD) (by decide) rfl (hv_int rfl) (BuildOk.cons rfl (Fld.elem 64 (rInt .u64) 63 (rInt .u64).zeroD) (by decide) rfl (hv_int rfl) BuildOk.nil)))))))))))))))))))))))))))))))))))))))))))))))))))))))))))))))) (fun v5 => ?_))
  refine tl_g _ rfl (g_store_box 0 rfl rfl rfl (Fld.self (rArr 64 (rInt .u64))) trivial (hv_fact (mem_at 0 rfl)) ty101 (List.mem_singleton_self _) ?_)
  refine tl_nil ?_
  refine q_then_code ?_
  refine t_ret ?_
  have hr := Option.some.inj hf; subst hr
  refine q_ret (post := fun w w' m v => (rArr 64 (rInt .u64)).val w' m v [(1116352408 : Int), (1899447441 : Int), (3049323471 : Int), (3921009573 : Int), (961987163 : Int), (1508970993 : Int), (2453635748 : Int), (2870763221 : Int), (3624381080 : Int), (310598401 : Int), (607225278 : Int), (1426881987 : Int), (1925078388 : Int), (2162078206 : Int), (2614888103 : Int), (3248222580 : Int), (3835390401 : Int), (4022224774 : Int), (264347078 : Int), (604807628 : Int), (770255983 : Int), (1249150122 : Int), (1555081692 : Int), (1996064986 : Int), (2554220882 : Int), (2821834349 : Int), (2952996808 : Int), (3210313671 : Int), (3336571891 : Int), (3584528711 : Int), (113926993 : Int), (338241895 : Int), (666307205 : Int), (773529912 : Int), (1294757372 : Int), (1396182291 : Int), (1695183700 : Int), (1986661051 : Int), (2177026350 : Int), (2456956037 : Int), (2730485921 : Int), (2820302411 : Int), (3259730800 : Int), (3345764771 : Int), (3516065817 : Int), (3600352804 : Int), (4094571909 : Int), (275423344 : Int), (430227734 : Int), (506948616 : Int), (659060556 : Int), (883997877 : Int), (958139571 : Int), (1322822218 : Int), (1537002063 : Int), (1747873779 : Int), (1955562222 : Int), (2024104815 : Int), (2227730452 : Int), (2361852424 : Int), (2428436474 : Int), (2756734187 : Int), (3204031479 : Int), (3329325298 : Int)]) hR _ (.inl rfl) (fun a w hs => ?_)
  obtain ⟨x0, hx0, hy0⟩ := rv_cell (t := 0) (ty := 101) hs 0 rfl rfl ty101
  exact ⟨_, run_results rfl (RvOk.cons hx0 RvOk.nil), hy0⟩

def cofferref2_turn.l0 (a1 : Int) : Nat → Int → Int → Option (Int)
  | 0, _, _ => none
  | k + 1, s1, s2 => (if (decide (s2 < a1)) = true then (cofferref2_turn.l0 a1 k (IntKind.u64.wrap ((IntKind.u64.wrap (s1.tdiv (2 : Int))) + (IntKind.u64.wrap ((s1.tmod (2 : Int)) * (2147483648 : Int))))) (IntKind.i64.wrap (s2 + (1 : Int)))) else (some (s1)))
def cofferref2_turn.f (k : Nat) (a0 : Int) (a1 : Int) : Option (Int) := (cofferref2_turn.l0 a1 k a0 (0 : Int)).bind fun o8 => (match o8 with | s1 => (some s1))
set_option maxRecDepth 100000 in
set_option maxHeartbeats 770000 in
theorem cofferref2_turn_ok (k : Nat) (a0 : Int) (a1 : Int) (r : Int) (hf : cofferref2_turn.f k a0 a1 = some r) : Cf.FnX true Try.prog 66 [(.int .u64 a0), (.int .i64 a1)] (fun w m => (rInt .u64).val w m (.int .u64 a0) a0 ∧ (rInt .i64).val w m (.int .i64 a1) a1) (fun w w' m v => (rInt .u64).val w' m v r) := by
  unfold cofferref2_turn.f at hf
  refine fn_of Try.func66 rfl (Nat.le_of_ble_eq_true rfl) [(rInt .u64).fact (.int .u64 a0) a0, (rInt .i64).fact (.int .i64 a1) a1] (fun w m h f hf => ?_) ?_
  · simp at hf; rcases hf with rfl | rfl
    · exact h.1
    · exact h.2
  intro w0 m0 R hR
  refine t_int (mem_at 0 rfl) (fun _ hw0 => ?_)
  refine t_int (mem_at 1 rfl) (fun _ hw1 => ?_)
  refine t_seq ?_
  refine t_region ?_
  refine tl_d rfl (d_assign rfl ?_)
  refine tl_nil ?_
  refine q_then_code ?_
  refine t_seq ?_
  refine t_seq ?_
  refine t_region ?_
  refine tl_d rfl (d_assign rfl ?_)
  refine tl_nil ?_
  refine q_then_code ?_
  refine t_block ?_
  obtain ⟨o8, ho9, hf⟩ := bind_some hf
  refine t_loop (X := Int × Int) (O := Int) (fun kl x => match x with | (s1, s2) => cofferref2_turn.l0 a1 kl s1 s2) o8 (fun x => match x with | (s1, s2) => (([(0, .int .u64 s1), (1, (.int .i64 a1)), (5, .int .i64 s2)], [], []) : Sym)) (fun x => match x with | (s1, s2) => IntKind.u64.wrap s1 = s1 ∧ IntKind.i64.wrap s2 = s2) k (a0, (0 : Int)) ho9 ⟨hw0, rfl⟩ ⟨rfl, ⟨rfl, ⟨rfl, trivial⟩⟩⟩ trivial [] (Sel.nil) rfl ?_
  clear ho9
  rintro k6 ⟨s1, s2⟩ ⟨hw_s1, hw_s2⟩ hk5
  have hout3 := hf; clear hf
  obtain ⟨kq4, rfl⟩ : ∃ q, k6 = q + 1 := by cases k6 with | zero => cases hk5 | succ q => exact ⟨q, rfl⟩
  have hf := hk5
  clear hk5; dsimp only [cofferref2_turn.l0] at hf
  refine t_seq ?_
  refine t_seq ?_
  refine t_region ?_
  refine tl_d rfl (d_move rfl ?_)
  refine tl_d rfl (d_move rfl ?_)
  refine tl_d rfl (d_lss rfl rfl ?_)
  refine tl_nil ?_
  refine q_then_code ?_
  refine t_cond rfl (fun hb7 => ?_) (fun hb7 => ?_)
  · have hf := if_t hb7 hf
    refine t_skip ?_
    refine q_then_code ?_
    refine t_seq ?_
    refine t_block ?_
    refine t_region ?_
    refine tl_d rfl (d_move rfl ?_)
    refine tl_d rfl (d_quo rfl rfl (by decide) ?_)
    refine tl_d rfl (d_move rfl ?_)
    refine tl_d rfl (d_rem rfl rfl (by decide) ?_)
    refine tl_d rfl (d_mul rfl rfl ?_)
    refine tl_d rfl (d_add rfl rfl ?_)
    refine tl_d rfl (d_assign rfl ?_)
    refine tl_nil ?_
    refine q_block_normal ?_
    refine q_then_code ?_
    refine t_region ?_
    refine tl_d rfl (d_move rfl ?_)
    refine tl_d rfl (d_add rfl rfl ?_)
    refine tl_d rfl (d_assign rfl ?_)
    refine tl_nil ?_
    exact q_round kq4 ((IntKind.u64.wrap ((IntKind.u64.wrap (s1.tdiv (2 : Int))) + (IntKind.u64.wrap ((s1.tmod (2 : Int)) * (2147483648 : Int))))), (IntKind.i64.wrap (s2 + (1 : Int)))) (Nat.lt_succ_self kq4) ⟨(wrap_wrap _ _), (wrap_wrap _ _)⟩ hf ⟨rfl, ⟨rfl, ⟨rfl, trivial⟩⟩⟩ trivial [] (Sel.nil) rfl
  · have hf := if_f hb7 hf
    refine t_exit ?_
    refine q_then_exit ?_
    refine q_then_exit ?_
    have hr := Option.some.inj hf; try subst hr
    have hf := hout3
    try dsimp only at hf
    refine q_block_hit ?_
    refine q_then_code ?_
    refine t_seq ?_
    refine t_region ?_
    refine tl_d rfl (d_move rfl ?_)
    refine tl_d rfl (d_assign rfl ?_)
    refine tl_nil ?_
    refine q_then_code ?_
    refine t_ret ?_
    have hr := Option.some.inj hf; subst hr
    refine q_ret (post := fun w w' m v => (rInt .u64).val w' m v s1) hR _ (.inl rfl) (fun a w hs => ?_)
    exact ⟨_, run_results rfl (RvOk.cons (rv_tmp hs rfl) RvOk.nil), (hs.hv (hv_int hw_s1))⟩

def cofferref2_down.l0 (a1 : Int) : Nat → Int → Int → Option (Int)
  | 0, _, _ => none
  | k + 1, s1, s2 => (if (decide (s2 < a1)) = true then (cofferref2_down.l0 a1 k (IntKind.u64.wrap (s1.tdiv (2 : Int))) (IntKind.i64.wrap (s2 + (1 : Int)))) else (some (s1)))
def cofferref2_down.f (k : Nat) (a0 : Int) (a1 : Int) : Option (Int) := (cofferref2_down.l0 a1 k a0 (0 : Int)).bind fun o8 => (match o8 with | s1 => (some s1))
set_option maxRecDepth 100000 in
set_option maxHeartbeats 730000 in
theorem cofferref2_down_ok (k : Nat) (a0 : Int) (a1 : Int) (r : Int) (hf : cofferref2_down.f k a0 a1 = some r) : Cf.FnX true Try.prog 67 [(.int .u64 a0), (.int .i64 a1)] (fun w m => (rInt .u64).val w m (.int .u64 a0) a0 ∧ (rInt .i64).val w m (.int .i64 a1) a1) (fun w w' m v => (rInt .u64).val w' m v r) := by
  unfold cofferref2_down.f at hf
  refine fn_of Try.func67 rfl (Nat.le_of_ble_eq_true rfl) [(rInt .u64).fact (.int .u64 a0) a0, (rInt .i64).fact (.int .i64 a1) a1] (fun w m h f hf => ?_) ?_
  · simp at hf; rcases hf with rfl | rfl
    · exact h.1
    · exact h.2
  intro w0 m0 R hR
  refine t_int (mem_at 0 rfl) (fun _ hw0 => ?_)
  refine t_int (mem_at 1 rfl) (fun _ hw1 => ?_)
  refine t_seq ?_
  refine t_region ?_
  refine tl_d rfl (d_assign rfl ?_)
  refine tl_nil ?_
  refine q_then_code ?_
  refine t_seq ?_
  refine t_seq ?_
  refine t_region ?_
  refine tl_d rfl (d_assign rfl ?_)
  refine tl_nil ?_
  refine q_then_code ?_
  refine t_block ?_
  obtain ⟨o8, ho9, hf⟩ := bind_some hf
  refine t_loop (X := Int × Int) (O := Int) (fun kl x => match x with | (s1, s2) => cofferref2_down.l0 a1 kl s1 s2) o8 (fun x => match x with | (s1, s2) => (([(0, .int .u64 s1), (1, (.int .i64 a1)), (5, .int .i64 s2)], [], []) : Sym)) (fun x => match x with | (s1, s2) => IntKind.u64.wrap s1 = s1 ∧ IntKind.i64.wrap s2 = s2) k (a0, (0 : Int)) ho9 ⟨hw0, rfl⟩ ⟨rfl, ⟨rfl, ⟨rfl, trivial⟩⟩⟩ trivial [] (Sel.nil) rfl ?_
  clear ho9
  rintro k6 ⟨s1, s2⟩ ⟨hw_s1, hw_s2⟩ hk5
  have hout3 := hf; clear hf
  obtain ⟨kq4, rfl⟩ : ∃ q, k6 = q + 1 := by cases k6 with | zero => cases hk5 | succ q => exact ⟨q, rfl⟩
  have hf := hk5
  clear hk5; dsimp only [cofferref2_down.l0] at hf
  refine t_seq ?_
  refine t_seq ?_
  refine t_region ?_
  refine tl_d rfl (d_move rfl ?_)
  refine tl_d rfl (d_move rfl ?_)
  refine tl_d rfl (d_lss rfl rfl ?_)
  refine tl_nil ?_
  refine q_then_code ?_
  refine t_cond rfl (fun hb7 => ?_) (fun hb7 => ?_)
  · have hf := if_t hb7 hf
    refine t_skip ?_
    refine q_then_code ?_
    refine t_seq ?_
    refine t_block ?_
    refine t_region ?_
    refine tl_d rfl (d_move rfl ?_)
    refine tl_d rfl (d_quo rfl rfl (by decide) ?_)
    refine tl_d rfl (d_assign rfl ?_)
    refine tl_nil ?_
    refine q_block_normal ?_
    refine q_then_code ?_
    refine t_region ?_
    refine tl_d rfl (d_move rfl ?_)
    refine tl_d rfl (d_add rfl rfl ?_)
    refine tl_d rfl (d_assign rfl ?_)
    refine tl_nil ?_
    exact q_round kq4 ((IntKind.u64.wrap (s1.tdiv (2 : Int))), (IntKind.i64.wrap (s2 + (1 : Int)))) (Nat.lt_succ_self kq4) ⟨(wrap_wrap _ _), (wrap_wrap _ _)⟩ hf ⟨rfl, ⟨rfl, ⟨rfl, trivial⟩⟩⟩ trivial [] (Sel.nil) rfl
  · have hf := if_f hb7 hf
    refine t_exit ?_
    refine q_then_exit ?_
    refine q_then_exit ?_
    have hr := Option.some.inj hf; try subst hr
    have hf := hout3
    try dsimp only at hf
    refine q_block_hit ?_
    refine q_then_code ?_
    refine t_seq ?_
    refine t_region ?_
    refine tl_d rfl (d_move rfl ?_)
    refine tl_d rfl (d_assign rfl ?_)
    refine tl_nil ?_
    refine q_then_code ?_
    refine t_ret ?_
    have hr := Option.some.inj hf; subst hr
    refine q_ret (post := fun w w' m v => (rInt .u64).val w' m v s1) hR _ (.inl rfl) (fun a w hs => ?_)
    exact ⟨_, run_results rfl (RvOk.cons (rv_tmp hs rfl) RvOk.nil), (hs.hv (hv_int hw_s1))⟩

def cofferref2_block.l2 (s95 : (List Int)) : Nat → (List Int) → Int → Option ((List Int))
  | 0, _, _ => none
  | k + 1, s204, s205 => (if (decide (s205 < (8 : Int))) = true then (need (0 ≤ s205 ∧ s205 < 8) (need (0 ≤ s205 ∧ s205 < 8) (need (0 ≤ s205 ∧ s205 < 8) ((cofferref2_block.l2 s95 k ((s204).set (s205).toNat (iand .u64 (IntKind.u64.wrap (((s204).getD (s205).toNat (rInt .u64).zeroD) + ((s95).getD (s205).toNat (rInt .u64).zeroD))) (4294967295 : Int))) (IntKind.i64.wrap (s205 + (1 : Int)))))))) else (some (s204)))
def cofferref2_block.l1 (a2 : (List Int)) (s9 : (List Int)) : Nat → (List Int) → Int → Option ((List Int))
  | 0, _, _ => none
  | k + 1, s95, s96 => (if (decide (s96 < (64 : Int))) = true then ((cofferref2_turn.f k ((s95).getD ((4 : Int)).toNat (rInt .u64).zeroD) (6 : Int)).bind fun c106 => (cofferref2_turn.f k ((s95).getD ((4 : Int)).toNat (rInt .u64).zeroD) (11 : Int)).bind fun c112 => (cofferref2_turn.f k ((s95).getD ((4 : Int)).toNat (rInt .u64).zeroD) (25 : Int)).bind fun c118 => (need (0 ≤ s96 ∧ s96 < 64) (need (0 ≤ s96 ∧ s96 < 64) (((cofferref2_turn.f k ((s95).getD ((0 : Int)).toNat (rInt .u64).zeroD) (2 : Int)).bind fun c148 => (cofferref2_turn.f k ((s95).getD ((0 : Int)).toNat (rInt .u64).zeroD) (13 : Int)).bind fun c154 => (cofferref2_turn.f k ((s95).getD ((0 : Int)).toNat (rInt .u64).zeroD) (22 : Int)).bind fun c160 => (cofferref2_block.l1 a2 s9 k [(iand .u64 (IntKind.u64.wrap ((IntKind.u64.wrap ((IntKind.u64.wrap ((IntKind.u64.wrap ((IntKind.u64.wrap ((IntKind.u64.wrap (((s95).getD ((7 : Int)).toNat (rInt .u64).zeroD) + (ixor .u64 (ixor .u64 c106 c112) c118))) + (ixor .u64 (iand .u64 ((s95).getD ((4 : Int)).toNat (rInt .u64).zeroD) ((s95).getD ((5 : Int)).toNat (rInt .u64).zeroD)) (iand .u64 (IntKind.u64.wrap ((4294967295 : Int) - ((s95).getD ((4 : Int)).toNat (rInt .u64).zeroD))) ((s95).getD ((6 : Int)).toNat (rInt .u64).zeroD))))) + ((a2).getD (s96).toNat (rInt .u64).zeroD))) + ((s9).getD (s96).toNat (rInt .u64).zeroD))) + (ixor .u64 (ixor .u64 c148 c154) c160))) + (ixor .u64 (ixor .u64 (iand .u64 ((s95).getD ((0 : Int)).toNat (rInt .u64).zeroD) ((s95).getD ((1 : Int)).toNat (rInt .u64).zeroD)) (iand .u64 ((s95).getD ((0 : Int)).toNat (rInt .u64).zeroD) ((s95).getD ((2 : Int)).toNat (rInt .u64).zeroD))) (iand .u64 ((s95).getD ((1 : Int)).toNat (rInt .u64).zeroD) ((s95).getD ((2 : Int)).toNat (rInt .u64).zeroD))))) (4294967295 : Int)), ((s95).getD ((0 : Int)).toNat (rInt .u64).zeroD), ((s95).getD ((1 : Int)).toNat (rInt .u64).zeroD), ((s95).getD ((2 : Int)).toNat (rInt .u64).zeroD), (iand .u64 (IntKind.u64.wrap (((s95).getD ((3 : Int)).toNat (rInt .u64).zeroD) + (IntKind.u64.wrap ((IntKind.u64.wrap ((IntKind.u64.wrap ((IntKind.u64.wrap (((s95).getD ((7 : Int)).toNat (rInt .u64).zeroD) + (ixor .u64 (ixor .u64 c106 c112) c118))) + (ixor .u64 (iand .u64 ((s95).getD ((4 : Int)).toNat (rInt .u64).zeroD) ((s95).getD ((5 : Int)).toNat (rInt .u64).zeroD)) (iand .u64 (IntKind.u64.wrap ((4294967295 : Int) - ((s95).getD ((4 : Int)).toNat (rInt .u64).zeroD))) ((s95).getD ((6 : Int)).toNat (rInt .u64).zeroD))))) + ((a2).getD (s96).toNat (rInt .u64).zeroD))) + ((s9).getD (s96).toNat (rInt .u64).zeroD))))) (4294967295 : Int)), ((s95).getD ((4 : Int)).toNat (rInt .u64).zeroD), ((s95).getD ((5 : Int)).toNat (rInt .u64).zeroD), ((s95).getD ((6 : Int)).toNat (rInt .u64).zeroD)] (IntKind.i64.wrap (s96 + (1 : Int))))))))) else (some (s95)))
def cofferref2_block.l0 : Nat → (List Int) → Int → Option ((List Int))
  | 0, _, _ => none
  | k + 1, s9, s10 => (if (decide (s10 < (64 : Int))) = true then (need (0 ≤ (IntKind.i64.wrap (s10 - (15 : Int))) ∧ (IntKind.i64.wrap (s10 - (15 : Int))) < 64) (need (0 ≤ (IntKind.i64.wrap (s10 - (2 : Int))) ∧ (IntKind.i64.wrap (s10 - (2 : Int))) < 64) (((cofferref2_turn.f k ((s9).getD ((IntKind.i64.wrap (s10 - (15 : Int)))).toNat (rInt .u64).zeroD) (7 : Int)).bind fun c22 => (cofferref2_turn.f k ((s9).getD ((IntKind.i64.wrap (s10 - (15 : Int)))).toNat (rInt .u64).zeroD) (18 : Int)).bind fun c28 => (cofferref2_down.f k ((s9).getD ((IntKind.i64.wrap (s10 - (15 : Int)))).toNat (rInt .u64).zeroD) (3 : Int)).bind fun c34 => ((cofferref2_turn.f k ((s9).getD ((IntKind.i64.wrap (s10 - (2 : Int)))).toNat (rInt .u64).zeroD) (17 : Int)).bind fun c52 => (cofferref2_turn.f k ((s9).getD ((IntKind.i64.wrap (s10 - (2 : Int)))).toNat (rInt .u64).zeroD) (19 : Int)).bind fun c58 => (cofferref2_down.f k ((s9).getD ((IntKind.i64.wrap (s10 - (2 : Int)))).toNat (rInt .u64).zeroD) (10 : Int)).bind fun c64 => (need (0 ≤ (IntKind.i64.wrap (s10 - (16 : Int))) ∧ (IntKind.i64.wrap (s10 - (16 : Int))) < 64) (need (0 ≤ (IntKind.i64.wrap (s10 - (7 : Int))) ∧ (IntKind.i64.wrap (s10 - (7 : Int))) < 64) (need (0 ≤ s10 ∧ s10 < 64) ((cofferref2_block.l0 k ((s9).set (s10).toNat (iand .u64 (IntKind.u64.wrap ((IntKind.u64.wrap ((IntKind.u64.wrap (((s9).getD ((IntKind.i64.wrap (s10 - (16 : Int)))).toNat (rInt .u64).zeroD) + (ixor .u64 (ixor .u64 c22 c28) c34))) + ((s9).getD ((IntKind.i64.wrap (s10 - (7 : Int)))).toNat (rInt .u64).zeroD))) + (ixor .u64 (ixor .u64 c52 c58) c64))) (4294967295 : Int))) (IntKind.i64.wrap (s10 + (1 : Int))))))))))))) else (some (s9)))
def cofferref2_block.f (k : Nat) (a0 : (List Int)) (a1 : (List Int)) (a2 : (List Int)) : Option ((List Int)) := (cofferref2_block.l0 k a1 (16 : Int)).bind fun o226 => (match o226 with | s9 => (cofferref2_block.l1 a2 s9 k a0 (0 : Int)).bind fun o224 => (match o224 with | s95 => (cofferref2_block.l2 s95 k a0 (0 : Int)).bind fun o222 => (match o222 with | s204 => (some s204))))
set_option maxRecDepth 100000 in
set_option maxHeartbeats 4030000 in
theorem cofferref2_block_ok (k : Nat) (a0 : (List Int)) (a1 : (List Int)) (a2 : (List Int)) (u0 u1 u2 : Value) (r : (List Int)) (hf : cofferref2_block.f k a0 a1 a2 = some r) : Cf.FnX true Try.prog 53 [u0, u1, u2] (fun w m => (rArr 8 (rInt .u64)).val w m u0 a0 ∧ (rArr 64 (rInt .u64)).val w m u1 a1 ∧ (rArr 64 (rInt .u64)).val w m u2 a2) (fun w w' m v => (rArr 8 (rInt .u64)).val w' m v r) := by
  unfold cofferref2_block.f at hf
  refine fn_of Try.func53 rfl (Nat.le_of_ble_eq_true rfl) [(rArr 8 (rInt .u64)).fact u0 a0, (rArr 64 (rInt .u64)).fact u1 a1, (rArr 64 (rInt .u64)).fact u2 a2] (fun w m h f hf => ?_) ?_
  · simp at hf; rcases hf with rfl | rfl | rfl
    · exact h.1
    · exact h.2.1
    · exact h.2.2
  intro w0 m0 R hR
  refine t_seq ?_
  refine t_region ?_
  refine tl_g [] rfl (g_box (R := (rArr 8 (rInt .u64))) rfl rfl (hv_fact (mem_at 0 rfl)) (fun b5 => ?_))
  refine tl_g [] rfl (g_box (R := (rArr 64 (rInt .u64))) rfl rfl (hv_fact (mem_at 1 rfl)) (fun b6 => ?_))
  refine tl_g [] rfl (g_box (R := (rArr 64 (rInt .u64))) rfl rfl (hv_fact (mem_at 2 rfl)) (fun b7 => ?_))
  refine tl_g [] rfl (g_alloc rfl ty103 (fun b8 => ?_))
  refine tl_nil ?_
  refine q_then_code ?_
  refine t_seq ?_
  refine t_seq ?_
  refine t_region ?_
  refine tl_d rfl (d_assign rfl ?_)
  refine tl_nil ?_
  refine q_then_code ?_
  refine t_block ?_
  obtain ⟨o226, ho227, hf⟩ := bind_some hf
  refine t_loop (X := (List Int) × Int) (O := (List Int)) (fun kl x => match x with | (s9, s10) => cofferref2_block.l0 kl s9 s10) o226 (fun x => match x with | (s9, s10) => (([(3, .pointer (some ⟨b5, 0, none⟩)), (4, .pointer (some ⟨b6, 0, none⟩)), (5, .pointer (some ⟨b7, 0, none⟩)), (6, .pointer (some ⟨b8, 0, none⟩)), (7, .int .i64 s10)], [], [Own.box b5 (rArr 8 (rInt .u64)) a0, Own.box b6 (rArr 64 (rInt .u64)) s9, Own.box b7 (rArr 64 (rInt .u64)) a2, Own.box b8 (rArr 8 (rInt .u64)) (rArr 8 (rInt .u64)).zeroD]) : Sym)) (fun x => match x with | (s9, s10) => IntKind.i64.wrap s10 = s10) k (a1, (16 : Int)) ho227 rfl ⟨rfl, ⟨rfl, ⟨rfl, ⟨rfl, ⟨rfl, trivial⟩⟩⟩⟩⟩ trivial [0, 1, 2, 3] (Sel.cons rfl (Sel.cons rfl (Sel.cons rfl (Sel.cons rfl Sel.nil)))) rfl ?_
  clear ho227
  rintro k14 ⟨s9, s10⟩ hw_s10 hk13
  have hout11 := hf; clear hf
  obtain ⟨kq12, rfl⟩ : ∃ q, k14 = q + 1 := by cases k14 with | zero => cases hk13 | succ q => exact ⟨q, rfl⟩
  have hf := hk13
  clear hk13; dsimp only [cofferref2_block.l0] at hf
  refine t_seq ?_
  refine t_seq ?_
  refine t_region ?_
  refine tl_d rfl (d_move rfl ?_)
  refine tl_d rfl (d_lss rfl rfl ?_)
  refine tl_nil ?_
  refine q_then_code ?_
  refine t_cond rfl (fun hb15 => ?_) (fun hb15 => ?_)
  · have hf := if_t hb15 hf
    refine t_skip ?_
    refine q_then_code ?_
    refine t_seq ?_
    refine t_block ?_
    refine t_seq ?_
    obtain ⟨hn16, hf⟩ := need_some hf
    obtain ⟨hn18, hf⟩ := need_some hf
    refine t_any (n := 10) [] mixed ⟨by kernel_rfl, .inl rfl⟩ (np_then (np_block (np_then (np_then (np_block (np_then np_body)))))) ?_
    refine ta_take (i := 0) rfl (by kernel_rfl) gd_none (d_move rfl ?_)
    refine ta_take (i := 1) rfl (by kernel_rfl) gd_none (d_sub rfl rfl ?_)
    refine ta_take (i := 2) rfl (by kernel_rfl) gd_none (d_index_own rfl rfl Try.underlying101 ty91 hn16 ?_)
    refine ta_take (i := 3) rfl (by kernel_rfl) gd_none (d_load_box_int 1 rfl rfl (Fld.at0 (Fld.elem 64 (rInt .u64) ((IntKind.i64.wrap (s10 - (15 : Int)))).toNat (rInt .u64).zeroD)) (toNat_lt hn16) ty91 rfl (fun hw20 => ?_))
    refine ta_take (i := 4) rfl (by kernel_rfl) gd_none (d_move rfl ?_)
    refine ta_take (i := 5) rfl (by kernel_rfl) gd_none (d_sub rfl rfl ?_)
    refine ta_take (i := 6) rfl (by kernel_rfl) gd_none (d_index_own rfl rfl Try.underlying101 ty91 hn18 ?_)
    refine ta_take (i := 7) rfl (by kernel_rfl) gd_none (d_load_box_int 1 rfl rfl (Fld.at0 (Fld.elem 64 (rInt .u64) ((IntKind.i64.wrap (s10 - (2 : Int)))).toNat (rInt .u64).zeroD)) (toNat_lt hn18) ty91 rfl (fun hw21 => ?_))
    refine ta_take (i := 8) rfl (by kernel_rfl) gd_none (d_assign rfl ?_)
    refine ta_take (i := 9) rfl (by kernel_rfl) gd_none (d_assign rfl ?_)
    refine ta_done (by kernel_rfl) ?_
    refine q_then_code ?_
    refine t_seq ?_
    obtain ⟨c22, hc23, hf⟩ := bind_some hf
    obtain ⟨c28, hc29, hf⟩ := bind_some hf
    obtain ⟨c34, hc35, hf⟩ := bind_some hf
    refine t_region ?_
    refine tl_d rfl (d_move rfl ?_)
    refine tl_g [] rfl (g_call1 rfl hfn66 (cofferref2_turn_ok _ _ _ _ hc23) (Evs.cons rfl (Evs.cons rfl Evs.nil)) (fun a w hs => ⟨(hv_int hw20) _ _ _ _ hs, (hv_int rfl) _ _ _ _ hs⟩) (fun v40 => ?_))
    refine tl_int (mem_at 0 rfl) (fun hv43 hw42 => ?_)
    subst hv43
    refine tl_d rfl (d_move rfl ?_)
    refine tl_g [] rfl (g_call1 rfl hfn66 (cofferref2_turn_ok _ _ _ _ hc29) (Evs.cons rfl (Evs.cons rfl Evs.nil)) (fun a w hs => ⟨(hv_int hw20) _ _ _ _ hs, (hv_int rfl) _ _ _ _ hs⟩) (fun v44 => ?_))
    refine tl_int (mem_at 0 rfl) (fun hv47 hw46 => ?_)
    subst hv47
    refine tl_d rfl (d_xor rfl rfl ?_)
    refine tl_d rfl (d_move rfl ?_)
    refine tl_g [] rfl (g_call1 rfl hfn67 (cofferref2_down_ok _ _ _ _ hc35) (Evs.cons rfl (Evs.cons rfl Evs.nil)) (fun a w hs => ⟨(hv_int hw20) _ _ _ _ hs, (hv_int rfl) _ _ _ _ hs⟩) (fun v48 => ?_))
    refine tl_int (mem_at 0 rfl) (fun hv51 hw50 => ?_)
    subst hv51
    refine tl_d rfl (d_xor rfl rfl ?_)
    refine tl_d rfl (d_assign rfl ?_)
    refine tl_nil ?_
    refine q_then_code ?_
    refine t_seq ?_
    obtain ⟨c52, hc53, hf⟩ := bind_some hf
    obtain ⟨c58, hc59, hf⟩ := bind_some hf
    obtain ⟨c64, hc65, hf⟩ := bind_some hf
    refine t_region ?_
    refine tl_d rfl (d_move rfl ?_)
    refine tl_g [] rfl (g_call1 rfl hfn66 (cofferref2_turn_ok _ _ _ _ hc53) (Evs.cons rfl (Evs.cons rfl Evs.nil)) (fun a w hs => ⟨(hv_int hw21) _ _ _ _ hs, (hv_int rfl) _ _ _ _ hs⟩) (fun v70 => ?_))
    refine tl_int (mem_at 0 rfl) (fun hv73 hw72 => ?_)
    subst hv73
    refine tl_d rfl (d_move rfl ?_)
    refine tl_g [] rfl (g_call1 rfl hfn66 (cofferref2_turn_ok _ _ _ _ hc59) (Evs.cons rfl (Evs.cons rfl Evs.nil)) (fun a w hs => ⟨(hv_int hw21) _ _ _ _ hs, (hv_int rfl) _ _ _ _ hs⟩) (fun v74 => ?_))
    refine tl_int (mem_at 0 rfl) (fun hv77 hw76 => ?_)
    subst hv77
    refine tl_d rfl (d_xor rfl rfl ?_)
    refine tl_d rfl (d_move rfl ?_)
    refine tl_g [] rfl (g_call1 rfl hfn67 (cofferref2_down_ok _ _ _ _ hc65) (Evs.cons rfl (Evs.cons rfl Evs.nil)) (fun a w hs => ⟨(hv_int hw21) _ _ _ _ hs, (hv_int rfl) _ _ _ _ hs⟩) (fun v78 => ?_))
    refine tl_int (mem_at 0 rfl) (fun hv81 hw80 => ?_)
    subst hv81
    refine tl_d rfl (d_xor rfl rfl ?_)
    refine tl_d rfl (d_assign rfl ?_)
    refine tl_nil ?_
    refine q_then_code ?_
    obtain ⟨hn82, hf⟩ := need_some hf
    obtain ⟨hn84, hf⟩ := need_some hf
    obtain ⟨hn86, hf⟩ := need_some hf
    refine t_any (n := 16) [] mixed ⟨by kernel_rfl, .inr ⟨rfl, by kernel_rfl⟩⟩ (np_block (np_then (np_then (np_block (np_then np_body))))) ?_
    refine ta_take (i := 0) rfl (by kernel_rfl) gd_none (d_move rfl ?_)
    refine ta_take (i := 1) rfl (by kernel_rfl) gd_none (d_move rfl ?_)
    refine ta_take (i := 2) rfl (by kernel_rfl) gd_none (d_sub rfl rfl ?_)
    refine ta_take (i := 3) rfl (by kernel_rfl) gd_none (d_index_own rfl rfl Try.underlying101 ty91 hn82 ?_)
    refine ta_take (i := 4) rfl (by kernel_rfl) gd_none (d_load_box_int 1 rfl rfl (Fld.at0 (Fld.elem 64 (rInt .u64) ((IntKind.i64.wrap (s10 - (16 : Int)))).toNat (rInt .u64).zeroD)) (toNat_lt hn82) ty91 rfl (fun hw87 => ?_))
    refine ta_take (i := 5) rfl (by kernel_rfl) gd_none (d_move rfl ?_)
    refine ta_take (i := 6) rfl (by kernel_rfl) gd_none (d_add rfl rfl ?_)
    refine ta_take (i := 7) rfl (by kernel_rfl) gd_none (d_move rfl ?_)
    refine ta_take (i := 8) rfl (by kernel_rfl) gd_none (d_sub rfl rfl ?_)
    refine ta_take (i := 9) rfl (by kernel_rfl) gd_none (d_index_own rfl rfl Try.underlying101 ty91 hn84 ?_)
    refine ta_take (i := 10) rfl (by kernel_rfl) gd_none (d_load_box_int 1 rfl rfl (Fld.at0 (Fld.elem 64 (rInt .u64) ((IntKind.i64.wrap (s10 - (7 : Int)))).toNat (rInt .u64).zeroD)) (toNat_lt hn84) ty91 rfl (fun hw88 => ?_))
    refine ta_take (i := 11) rfl (by kernel_rfl) gd_none (d_add rfl rfl ?_)
    refine ta_take (i := 12) rfl (by kernel_rfl) gd_none (d_move rfl ?_)
    refine ta_take (i := 13) rfl (by kernel_rfl) gd_none (d_add rfl rfl ?_)
    refine ta_take (i := 14) rfl (by kernel_rfl) gd_none (d_and rfl rfl ?_)
    refine ta_take (i := 15) rfl (by kernel_rfl) gd_none (d_index_own rfl rfl Try.underlying101 ty91 hn86 ?_)
    refine ta_last [0, 1, 2, 3, 4, 5, 6, 7, 8, 9, 10, 11, 12, 13, 14, 15, 16, 17, 18, 19, 20, 21, 22, 23, 24, 25, 26, 27, 28, 29, 30, 31, 32, 33, 34, 35, 36, 37, 38, 39, 40, 41, 42, 43, 44, 45, 46, 47, 48, 49, 50, 51, 52, 53, 54, 55, 56, 57, 58, 59] (by kernel_rfl) (by kernel_rfl) rfl gd_none (g_store_box 1 rfl rfl rfl (Fld.at0 (Fld.elem 64 (rInt .u64) (s10).toNat (rInt .u64).zeroD)) (toNat_lt hn86) (hv_int (wrap_wrap _ _)) ty91 (by decide) ?_)
    refine q_block_normal ?_
    refine q_then_code ?_
    refine t_region ?_
    refine tl_d rfl (d_move rfl ?_)
    refine tl_d rfl (d_add rfl rfl ?_)
    refine tl_d rfl (d_assign rfl ?_)
    refine tl_nil ?_
    exact q_round kq12 (((s9).set (s10).toNat (iand .u64 (IntKind.u64.wrap ((IntKind.u64.wrap ((IntKind.u64.wrap (((s9).getD ((IntKind.i64.wrap (s10 - (16 : Int)))).toNat (rInt .u64).zeroD) + (ixor .u64 (ixor .u64 c22 c28) c34))) + ((s9).getD ((IntKind.i64.wrap (s10 - (7 : Int)))).toNat (rInt .u64).zeroD))) + (ixor .u64 (ixor .u64 c52 c58) c64))) (4294967295 : Int))), (IntKind.i64.wrap (s10 + (1 : Int)))) (Nat.lt_succ_self kq12) (wrap_wrap _ _) hf ⟨rfl, ⟨rfl, ⟨rfl, ⟨rfl, ⟨rfl, trivial⟩⟩⟩⟩⟩ trivial [0, 1, 2, 3] (Sel.cons rfl (Sel.cons rfl (Sel.cons rfl (Sel.cons rfl Sel.nil)))) rfl
  · have hf := if_f hb15 hf
    refine t_exit ?_
    refine q_then_exit ?_
    refine q_then_exit ?_
    have hr := Option.some.inj hf; try subst hr
    have hf := hout11
    try dsimp only at hf
    refine q_block_hit ?_
    refine q_then_code ?_
    refine t_seq ?_
    refine t_region ?_
    refine tl_d rfl (d_load_box 0 rfl rfl (Fld.self (rArr 8 (rInt .u64))) trivial ty103 rfl (fun v92 => ?_))
    refine tl_g [] rfl (g_alloc rfl ty103 (fun b94 => ?_))
    refine tl_M [Own.box b5 (rArr 8 (rInt .u64)) a0, Own.box b6 (rArr 64 (rInt .u64)) s9, Own.box b7 (rArr 64 (rInt .u64)) a2, Own.box b8 (rArr 8 (rInt .u64)) (rArr 8 (rInt .u64)).zeroD, Own.box b94 (rArr 8 (rInt .u64)) (rArr 8 (rInt .u64)).zeroD] rfl ?_
    refine tl_g _ rfl (g_store_box 4 rfl rfl rfl (Fld.self (rArr 8 (rInt .u64))) trivial (hv_fact (mem_at 0 rfl)) ty103 (List.mem_singleton_self _) ?_)
    refine tl_M [Own.box b5 (rArr 8 (rInt .u64)) a0, Own.box b6 (rArr 64 (rInt .u64)) s9, Own.box b7 (rArr 64 (rInt .u64)) a2, Own.box b8 (rArr 8 (rInt .u64)) (rArr 8 (rInt .u64)).zeroD, Own.box b94 (rArr 8 (rInt .u64)) a0] rfl ?_
    refine tl_nil ?_
    refine q_then_code ?_
    refine t_seq ?_
    refine t_seq ?_
    refine t_region ?_
    refine tl_d rfl (d_assign rfl ?_)
    refine tl_nil ?_
    refine q_then_code ?_
    refine t_block ?_
    obtain ⟨o224, ho225, hf⟩ := bind_some hf
    refine t_loop (X := (List Int) × Int) (O := (List Int)) (fun kl x => match x with | (s95, s96) => cofferref2_block.l1 a2 s9 kl s95 s96) o224 (fun x => match x with | (s95, s96) => (([(3, .pointer (some ⟨b5, 0, none⟩)), (4, .pointer (some ⟨b6, 0, none⟩)), (5, .pointer (some ⟨b7, 0, none⟩)), (6, .pointer (some ⟨b8, 0, none⟩)), (12, .pointer (some ⟨b94, 0, none⟩)), (13, .int .i64 s96)], [], [Own.box b5 (rArr 8 (rInt .u64)) a0, Own.box b6 (rArr 64 (rInt .u64)) s9, Own.box b7 (rArr 64 (rInt .u64)) a2, Own.box b8 (rArr 8 (rInt .u64)) (rArr 8 (rInt .u64)).zeroD, Own.box b94 (rArr 8 (rInt .u64)) s95]) : Sym)) (fun x => match x with | (s95, s96) => IntKind.i64.wrap s96 = s96) k (a0, (0 : Int)) ho225 rfl ⟨rfl, ⟨rfl, ⟨rfl, ⟨rfl, ⟨rfl, ⟨rfl, trivial⟩⟩⟩⟩⟩⟩ trivial [0, 1, 2, 3, 4] (Sel.cons rfl (Sel.cons rfl (Sel.cons rfl (Sel.cons rfl (Sel.cons rfl Sel.nil))))) rfl ?_
    clear ho225
    rintro k100 ⟨s95, s96⟩ hw_s96 hk99
    have hout97 := hf; clear hf
    obtain ⟨kq98, rfl⟩ : ∃ q, k100 = q + 1 := by cases k100 with | zero => cases hk99 | succ q => exact ⟨q, rfl⟩
    have hf := hk99
    clear hk99; dsimp only [cofferref2_block.l1] at hf
    refine t_seq ?_
    refine t_seq ?_
    refine t_region ?_
    refine tl_d rfl (d_move rfl ?_)
    refine tl_d rfl (d_lss rfl rfl ?_)
    refine tl_nil ?_
    refine q_then_code ?_
    refine t_cond rfl (fun hb101 => ?_) (fun hb101 => ?_)
    · have hf := if_t hb101 hf
      refine t_skip ?_
      refine q_then_code ?_
      refine t_seq ?_
      refine t_block ?_
      refine t_seq ?_
      refine t_any (n := 6) [] mixed ⟨by kernel_rfl, .inl rfl⟩ (np_then (np_block (np_then (np_then (np_block (np_then np_body)))))) ?_
      refine ta_take (i := 0) rfl (by kernel_rfl) gd_none (d_index_own rfl rfl Try.underlying103 ty91 (by decide) ?_)
      refine ta_take (i := 1) rfl (by kernel_rfl) gd_none (d_load_box_int 4 rfl rfl (Fld.at0 (Fld.elem 8 (rInt .u64) ((4 : Int)).toNat (rInt .u64).zeroD)) (by decide) ty91 rfl (fun hw104 => ?_))
      refine ta_take (i := 2) rfl (by kernel_rfl) gd_none (d_index_own rfl rfl Try.underlying103 ty91 (by decide) ?_)
      refine ta_take (i := 3) rfl (by kernel_rfl) gd_none (d_load_box_int 4 rfl rfl (Fld.at0 (Fld.elem 8 (rInt .u64) ((0 : Int)).toNat (rInt .u64).zeroD)) (by decide) ty91 rfl (fun hw105 => ?_))
      refine ta_take (i := 4) rfl (by kernel_rfl) gd_none (d_assign rfl ?_)
      refine ta_take (i := 5) rfl (by kernel_rfl) gd_none (d_assign rfl ?_)
      refine ta_done (by kernel_rfl) ?_
      refine q_then_code ?_
      refine t_seq ?_
      obtain ⟨c106, hc107, hf⟩ := bind_some hf
      obtain ⟨c112, hc113, hf⟩ := bind_some hf
      obtain ⟨c118, hc119, hf⟩ := bind_some hf
      refine t_region ?_
      refine tl_d rfl (d_move rfl ?_)
      refine tl_g [] rfl (g_call1 rfl hfn66 (cofferref2_turn_ok _ _ _ _ hc107) (Evs.cons rfl (Evs.cons rfl Evs.nil)) (fun a w hs => ⟨(hv_int hw104) _ _ _ _ hs, (hv_int rfl) _ _ _ _ hs⟩) (fun v124 => ?_))
      refine tl_int (mem_at 0 rfl) (fun hv127 hw126 => ?_)
      subst hv127
      refine tl_d rfl (d_move rfl ?_)
      refine tl_g [] rfl (g_call1 rfl hfn66 (cofferref2_turn_ok _ _ _ _ hc113) (Evs.cons rfl (Evs.cons rfl Evs.nil)) (fun a w hs => ⟨(hv_int hw104) _ _ _ _ hs, (hv_int rfl) _ _ _ _ hs⟩) (fun v128 => ?_))
      refine tl_int (mem_at 0 rfl) (fun hv131 hw130 => ?_)
      subst hv131
      refine tl_d rfl (d_xor rfl rfl ?_)
      refine tl_d rfl (d_move rfl ?_)
      refine tl_g [] rfl (g_call1 rfl hfn66 (cofferref2_turn_ok _ _ _ _ hc119) (Evs.cons rfl (Evs.cons rfl Evs.nil)) (fun a w hs => ⟨(hv_int hw104) _ _ _ _ hs, (hv_int rfl) _ _ _ _ hs⟩) (fun v132 => ?_))
      refine tl_int (mem_at 0 rfl) (fun hv135 hw134 => ?_)
      subst hv135
      refine tl_d rfl (d_xor rfl rfl ?_)
      refine tl_d rfl (d_assign rfl ?_)
      refine tl_nil ?_
      refine q_then_code ?_
      refine t_seq ?_
      refine t_region ?_
      refine tl_d rfl (d_move rfl ?_)
      refine tl_d rfl (d_index_own rfl rfl Try.underlying103 ty91 (by decide) ?_)
      refine tl_d rfl (d_load_box_int 4 rfl rfl (Fld.at0 (Fld.elem 8 (rInt .u64) ((5 : Int)).toNat (rInt .u64).zeroD)) (by decide) ty91 rfl (fun hw138 => ?_))
      refine tl_d rfl (d_and rfl rfl ?_)
      refine tl_d rfl (d_move rfl ?_)
      refine tl_d rfl (d_sub rfl rfl ?_)
      refine tl_d rfl (d_index_own rfl rfl Try.underlying103 ty91 (by decide) ?_)
      refine tl_d rfl (d_load_box_int 4 rfl rfl (Fld.at0 (Fld.elem 8 (rInt .u64) ((6 : Int)).toNat (rInt .u64).zeroD)) (by decide) ty91 rfl (fun hw139 => ?_))
      refine tl_d rfl (d_and rfl rfl ?_)
      refine tl_d rfl (d_xor rfl rfl ?_)
      refine tl_d rfl (d_assign rfl ?_)
      refine tl_nil ?_
      refine q_then_code ?_
      refine t_seq ?_
      obtain ⟨hn141, hf⟩ := need_some hf
      obtain ⟨hn143, hf⟩ := need_some hf
      refine t_any (n := 15) [] mixed ⟨by kernel_rfl, .inl rfl⟩ (np_then (np_block (np_then (np_then (np_block (np_then np_body)))))) ?_
      refine ta_take (i := 0) rfl (by kernel_rfl) gd_none (d_index_own rfl rfl Try.underlying103 ty91 (by decide) ?_)
      refine ta_take (i := 1) rfl (by kernel_rfl) gd_none (d_load_box_int 4 rfl rfl (Fld.at0 (Fld.elem 8 (rInt .u64) ((7 : Int)).toNat (rInt .u64).zeroD)) (by decide) ty91 rfl (fun hw145 => ?_))
      refine ta_take (i := 2) rfl (by kernel_rfl) gd_none (d_move rfl ?_)
      refine ta_take (i := 3) rfl (by kernel_rfl) gd_none (d_add rfl rfl ?_)
      refine ta_take (i := 4) rfl (by kernel_rfl) gd_none (d_move rfl ?_)
      refine ta_take (i := 5) rfl (by kernel_rfl) gd_none (d_add rfl rfl ?_)
      refine ta_take (i := 6) rfl (by kernel_rfl) gd_none (d_move rfl ?_)
      refine ta_take (i := 7) rfl (by kernel_rfl) gd_none (d_index_own rfl rfl Try.underlying101 ty91 hn141 ?_)
      refine ta_take (i := 8) rfl (by kernel_rfl) gd_none (d_load_box_int 2 rfl rfl (Fld.at0 (Fld.elem 64 (rInt .u64) (s96).toNat (rInt .u64).zeroD)) (toNat_lt hn141) ty91 rfl (fun hw146 => ?_))
      refine ta_take (i := 9) rfl (by kernel_rfl) gd_none (d_add rfl rfl ?_)
      refine ta_take (i := 10) rfl (by kernel_rfl) gd_none (d_move rfl ?_)
      refine ta_take (i := 11) rfl (by kernel_rfl) gd_none (d_index_own rfl rfl Try.underlying101 ty91 hn143 ?_)
      refine ta_take (i := 12) rfl (by kernel_rfl) gd_none (d_load_box_int 1 rfl rfl (Fld.at0 (Fld.elem 64 (rInt .u64) (s96).toNat (rInt .u64).zeroD)) (toNat_lt hn143) ty91 rfl (fun hw147 => ?_))
      refine ta_take (i := 13) rfl (by kernel_rfl) gd_none (d_add rfl rfl ?_)
      refine ta_take (i := 14) rfl (by kernel_rfl) gd_none (d_assign rfl ?_)
      refine ta_done (by kernel_rfl) ?_
      refine q_then_code ?_
      refine t_seq ?_
      obtain ⟨c148, hc149, hf⟩ := bind_some hf
      obtain ⟨c154, hc155, hf⟩ := bind_some hf
      obtain ⟨c160, hc161, hf⟩ := bind_some hf
      refine t_region ?_
      refine tl_d rfl (d_move rfl ?_)
      refine tl_g [] rfl (g_call1 rfl hfn66 (cofferref2_turn_ok _ _ _ _ hc149) (Evs.cons rfl (Evs.cons rfl Evs.nil)) (fun a w hs => ⟨(hv_int hw105) _ _ _ _ hs, (hv_int rfl) _ _ _ _ hs⟩) (fun v166 => ?_))
      refine tl_int (mem_at 0 rfl) (fun hv169 hw168 => ?_)
      subst hv169
      refine tl_d rfl (d_move rfl ?_)
      refine tl_g [] rfl (g_call1 rfl hfn66 (cofferref2_turn_ok _ _ _ _ hc155) (Evs.cons rfl (Evs.cons rfl Evs.nil)) (fun a w hs => ⟨(hv_int hw105) _ _ _ _ hs, (hv_int rfl) _ _ _ _ hs⟩) (fun v170 => ?_))
      refine tl_int (mem_at 0 rfl) (fun hv173 hw172 => ?_)
      subst hv173
      refine tl_d rfl (d_xor rfl rfl ?_)
      refine tl_d rfl (d_move rfl ?_)
      refine tl_g [] rfl (g_call1 rfl hfn66 (cofferref2_turn_ok _ _ _ _ hc161) (Evs.cons rfl (Evs.cons rfl Evs.nil)) (fun a w hs => ⟨(hv_int hw105) _ _ _ _ hs, (hv_int rfl) _ _ _ _ hs⟩) (fun v174 => ?_))
      refine tl_int (mem_at 0 rfl) (fun hv177 hw176 => ?_)
      subst hv177
      refine tl_d rfl (d_xor rfl rfl ?_)
      refine tl_d rfl (d_assign rfl ?_)
      refine tl_nil ?_
      refine q_then_code ?_
      refine t_seq ?_
      refine t_region ?_
      refine tl_d rfl (d_move rfl ?_)
      refine tl_d rfl (d_index_own rfl rfl Try.underlying103 ty91 (by decide) ?_)
      refine tl_d rfl (d_load_box_int 4 rfl rfl (Fld.at0 (Fld.elem 8 (rInt .u64) ((1 : Int)).toNat (rInt .u64).zeroD)) (by decide) ty91 rfl (fun hw182 => ?_))
      refine tl_d rfl (d_and rfl rfl ?_)
      refine tl_d rfl (d_move rfl ?_)
      refine tl_d rfl (d_index_own rfl rfl Try.underlying103 ty91 (by decide) ?_)
      refine tl_d rfl (d_load_box_int 4 rfl rfl (Fld.at0 (Fld.elem 8 (rInt .u64) ((2 : Int)).toNat (rInt .u64).zeroD)) (by decide) ty91 rfl (fun hw183 => ?_))
      refine tl_d rfl (d_and rfl rfl ?_)
      refine tl_d rfl (d_xor rfl rfl ?_)
      refine tl_d rfl (d_index_own rfl rfl Try.underlying103 ty91 (by decide) ?_)
      refine tl_d rfl (d_load_box_int 4 rfl rfl (Fld.at0 (Fld.elem 8 (rInt .u64) ((1 : Int)).toNat (rInt .u64).zeroD)) (by decide) ty91 rfl (fun hw184 => ?_))
      refine tl_d rfl (d_index_own rfl rfl Try.underlying103 ty91 (by decide) ?_)
      refine tl_d rfl (d_load_box_int 4 rfl rfl (Fld.at0 (Fld.elem 8 (rInt .u64) ((2 : Int)).toNat (rInt .u64).zeroD)) (by decide) ty91 rfl (fun hw185 => ?_))
      refine tl_d rfl (d_and rfl rfl ?_)
      refine tl_d rfl (d_xor rfl rfl ?_)
      refine tl_d rfl (d_assign rfl ?_)
      refine tl_nil ?_
      refine q_then_code ?_
      refine t_region ?_
      refine tl_d rfl (d_move rfl ?_)
      refine tl_d rfl (d_move rfl ?_)
      refine tl_d rfl (d_add rfl rfl ?_)
      refine tl_d rfl (d_move rfl ?_)
      refine tl_d rfl (d_add rfl rfl ?_)
      refine tl_d rfl (d_and rfl rfl ?_)
      refine tl_d rfl (d_index_own rfl rfl Try.underlying103 ty91 (by decide) ?_)
      refine tl_d rfl (d_load_box_int 4 rfl rfl (Fld.at0 (Fld.elem 8 (rInt .u64) ((0 : Int)).toNat (rInt .u64).zeroD)) (by decide) ty91 rfl (fun hw195 => ?_))
      refine tl_d rfl (d_index_own rfl rfl Try.underlying103 ty91 (by decide) ?_)
      refine tl_d rfl (d_load_box_int 4 rfl rfl (Fld.at0 (Fld.elem 8 (rInt .u64) ((1 : Int)).toNat (rInt .u64).zeroD)) (by decide) ty91 rfl (fun hw196 => ?_))
      refine tl_d rfl (d_index_own rfl rfl Try.underlying103 ty91 (by decide) ?_)
      refine tl_d rfl (d_load_box_int 4 rfl rfl (Fld.at0 (Fld.elem 8 (rInt .u64) ((2 : Int)).toNat (rInt .u64).zeroD)) (by decide) ty91 rfl (fun hw197 => ?_))
      refine tl_d rfl (d_index_own rfl rfl Try.underlying103 ty91 (by decide) ?_)
      refine tl_d rfl (d_load_box_int 4 rfl rfl (Fld.at0 (Fld.elem 8 (rInt .u64) ((3 : Int)).toNat (rInt .u64).zeroD)) (by decide) ty91 rfl (fun hw198 => ?_))
      refine tl_d rfl (d_move rfl ?_)
      refine tl_d rfl (d_add rfl rfl ?_)
      refine tl_d rfl (d_and rfl rfl ?_)
      refine tl_d rfl (d_index_own rfl rfl Try.underlying103 ty91 (by decide) ?_)
      refine tl_d rfl (d_load_box_int 4 rfl rfl (Fld.at0 (Fld.elem 8 (rInt .u64) ((4 : Int)).toNat (rInt .u64).zeroD)) (by decide) ty91 rfl (fun hw199 => ?_))
      refine tl_d rfl (d_index_own rfl rfl Try.underlying103 ty91 (by decide) ?_)
      refine tl_d rfl (d_load_box_int 4 rfl rfl (Fld.at0 (Fld.elem 8 (rInt .u64) ((5 : Int)).toNat (rInt .u64).zeroD)) (by decide) ty91 rfl (fun hw200 => ?_))
      refine tl_d rfl (d_index_own rfl rfl Try.underlying103 ty91 (by decide) ?_)
      refine tl_d rfl (d_load_box_int 4 rfl rfl (Fld.at0 (Fld.elem 8 (rInt .u64) ((6 : Int)).toNat (rInt .u64).zeroD)) (by decide) ty91 rfl (fun hw201 => ?_))
      refine tl_d rfl (d_build_arr (y := [(iand .u64 (IntKind.u64.wrap ((IntKind.u64.wrap ((IntKind.u64.wrap ((IntKind.u64.wrap ((IntKind.u64.wrap ((IntKind.u64.wrap (((s95).getD ((7 : Int)).toNat (rInt .u64).zeroD) + (ixor .u64 (ixor .u64 c106 c112) c118))) + (ixor .u64 (iand .u64 ((s95).getD ((4 : Int)).toNat (rInt .u64).zeroD) ((s95).getD ((5 : Int)).toNat (rInt .u64).zeroD)) (iand .u64 (IntKind.u64.wrap ((4294967295 : Int) - ((s95).getD ((4 : Int)).toNat (rInt .u64).zeroD))) ((s95).getD ((6 : Int)).toNat (rInt .u64).zeroD))))) + ((a2).getD (s96).toNat (rInt .u64).zeroD))) + ((s9).getD (s96).toNat (rInt .u64).zeroD))) + (ixor .u64 (ixor .u64 c148 c154) c160))) + (ixor .u64 (ixor .u64 (iand .u64 ((s95).getD ((0 : Int)).toNat (rInt .u64).zeroD) ((s95).getD ((1 : Int)).toNat (rInt .u64).zeroD)) (iand .u64 ((s95).getD ((0 : Int)).toNat (rInt .u64).zeroD) ((s95).getD ((2 : Int)).toNat (rInt .u64).zeroD))) (iand .u64 ((s95).getD ((1 : Int)).toNat (rInt .u64).zeroD) ((s95).getD ((2 : Int)).toNat (rInt .u64).zeroD))))) (4294967295 : Int)), ((s95).getD ((0 : Int)).toNat (rInt .u64).zeroD), ((s95).getD ((1 : Int)).toNat (rInt .u64).zeroD), ((s95).getD ((2 : Int)).toNat (rInt .u64).zeroD), (iand .u64 (IntKind.u64.wrap (((s95).getD ((3 : Int)).toNat (rInt .u64).zeroD) + (IntKind.u64.wrap ((IntKind.u64.wrap ((IntKind.u64.wrap ((IntKind.u64.wrap (((s95).getD ((7 : Int)).toNat (rInt .u64).zeroD) + (ixor .u64 (ixor .u64 c106 c112) c118))) + (ixor .u64 (iand .u64 ((s95).getD ((4 : Int)).toNat (rInt .u64).zeroD) ((s95).getD ((5 : Int)).toNat (rInt .u64).zeroD)) (iand .u64 (IntKind.u64.wrap ((4294967295 : Int) - ((s95).getD ((4 : Int)).toNat (rInt .u64).zeroD))) ((s95).getD ((6 : Int)).toNat (rInt .u64).zeroD))))) + ((a2).getD (s96).toNat (rInt .u64).zeroD))) + ((s9).getD (s96).toNat (rInt .u64).zeroD))))) (4294967295 : Int)), ((s95).getD ((4 : Int)).toNat (rInt .u64).zeroD), ((s95).getD ((5 : Int)).toNat (rInt .u64).zeroD), ((s95).getD ((6 : Int)).toNat (rInt .u64).zeroD)]) ty103 Try.underlying103 ty91 (BuildOk.cons rfl (Fld.elem 8 (rInt .u64) 0 (rInt .u64).zeroD) (by decide) rfl (hv_int (wrap_wrap _ _)) (BuildOk.cons rfl (Fld.elem 8 (rInt .u64) 1 (rInt .u64).zeroD) (by decide) rfl (hv_int hw195) (BuildOk.cons rfl (Fld.elem 8 (rInt .u64) 2 (rInt .u64).zeroD) (by decide) rfl (hv_int hw196) (BuildOk.cons rfl (Fld.elem 8 (rInt .u64) 3 (rInt .u64).zeroD) (by decide) rfl (hv_int hw197) (BuildOk.cons rfl (Fld.elem 8 (rInt .u64) 4 (rInt .u64).zeroD) (by decide) rfl (hv_int (wrap_wrap _ _)) (BuildOk.cons rfl (Fld.elem 8 (rInt .u64) 5 (rInt .u64).zeroD) (by decide) rfl (hv_int hw199) (BuildOk.cons rfl (Fld.elem 8 (rInt .u64) 6 (rInt .u64).zeroD) (by decide) rfl (hv_int hw200) (BuildOk.cons rfl (Fld.elem 8 (rInt .u64) 7 (rInt .u64).zeroD) (by decide) rfl (hv_int hw201) BuildOk.nil)))))))) (fun v202 => ?_))
      refine tl_g _ rfl (g_store_box 4 rfl rfl rfl (Fld.self (rArr 8 (rInt .u64))) trivial (hv_fact (mem_at 0 rfl)) ty103 (List.mem_singleton_self _) ?_)
      refine tl_M [Own.box b5 (rArr 8 (rInt .u64)) a0, Own.box b6 (rArr 64 (rInt .u64)) s9, Own.box b7 (rArr 64 (rInt .u64)) a2, Own.box b8 (rArr 8 (rInt .u64)) (rArr 8 (rInt .u64)).zeroD, Own.box b94 (rArr 8 (rInt .u64)) [(iand .u64 (IntKind.u64.wrap ((IntKind.u64.wrap ((IntKind.u64.wrap ((IntKind.u64.wrap ((IntKind.u64.wrap ((IntKind.u64.wrap (((s95).getD ((7 : Int)).toNat (rInt .u64).zeroD) + (ixor .u64 (ixor .u64 c106 c112) c118))) + (ixor .u64 (iand .u64 ((s95).getD ((4 : Int)).toNat (rInt .u64).zeroD) ((s95).getD ((5 : Int)).toNat (rInt .u64).zeroD)) (iand .u64 (IntKind.u64.wrap ((4294967295 : Int) - ((s95).getD ((4 : Int)).toNat (rInt .u64).zeroD))) ((s95).getD ((6 : Int)).toNat (rInt .u64).zeroD))))) + ((a2).getD (s96).toNat (rInt .u64).zeroD))) + ((s9).getD (s96).toNat (rInt .u64).zeroD))) + (ixor .u64 (ixor .u64 c148 c154) c160))) + (ixor .u64 (ixor .u64 (iand .u64 ((s95).getD ((0 : Int)).toNat (rInt .u64).zeroD) ((s95).getD ((1 : Int)).toNat (rInt .u64).zeroD)) (iand .u64 ((s95).getD ((0 : Int)).toNat (rInt .u64).zeroD) ((s95).getD ((2 : Int)).toNat (rInt .u64).zeroD))) (iand .u64 ((s95).getD ((1 : Int)).toNat (rInt .u64).zeroD) ((s95).getD ((2 : Int)).toNat (rInt .u64).zeroD))))) (4294967295 : Int)), ((s95).getD ((0 : Int)).toNat (rInt .u64).zeroD), ((s95).getD ((1 : Int)).toNat (rInt .u64).zeroD), ((s95).getD ((2 : Int)).toNat (rInt .u64).zeroD), (iand .u64 (IntKind.u64.wrap (((s95).getD ((3 : Int)).toNat (rInt .u64).zeroD) + (IntKind.u64.wrap ((IntKind.u64.wrap ((IntKind.u64.wrap ((IntKind.u64.wrap (((s95).getD ((7 : Int)).toNat (rInt .u64).zeroD) + (ixor .u64 (ixor .u64 c106 c112) c118))) + (ixor .u64 (iand .u64 ((s95).getD ((4 : Int)).toNat (rInt .u64).zeroD) ((s95).getD ((5 : Int)).toNat (rInt .u64).zeroD)) (iand .u64 (IntKind.u64.wrap ((4294967295 : Int) - ((s95).getD ((4 : Int)).toNat (rInt .u64).zeroD))) ((s95).getD ((6 : Int)).toNat (rInt .u64).zeroD))))) + ((a2).getD (s96).toNat (rInt .u64).zeroD))) + ((s9).getD (s96).toNat (rInt .u64).zeroD))))) (4294967295 : Int)), ((s95).getD ((4 : Int)).toNat (rInt .u64).zeroD), ((s95).getD ((5 : Int)).toNat (rInt .u64).zeroD), ((s95).getD ((6 : Int)).toNat (rInt .u64).zeroD)]] rfl ?_
      refine tl_nil ?_
      refine q_block_normal ?_
      refine q_then_code ?_
      refine t_region ?_
      refine tl_d rfl (d_move rfl ?_)
      refine tl_d rfl (d_add rfl rfl ?_)
      refine tl_d rfl (d_assign rfl ?_)
      refine tl_nil ?_
      exact q_round kq98 ([(iand .u64 (IntKind.u64.wrap ((IntKind.u64.wrap ((IntKind.u64.wrap ((IntKind.u64.wrap ((IntKind.u64.wrap ((IntKind.u64.wrap (((s95).getD ((7 : Int)).toNat (rInt .u64).zeroD) + (ixor .u64 (ixor .u64 c106 c112) c118))) + (ixor .u64 (iand .u64 ((s95).getD ((4 : Int)).toNat (rInt .u64).zeroD) ((s95).getD ((5 : Int)).toNat (rInt .u64).zeroD)) (iand .u64 (IntKind.u64.wrap ((4294967295 : Int) - ((s95).getD ((4 : Int)).toNat (rInt .u64).zeroD))) ((s95).getD ((6 : Int)).toNat (rInt .u64).zeroD))))) + ((a2).getD (s96).toNat (rInt .u64).zeroD))) + ((s9).getD (s96).toNat (rInt .u64).zeroD))) + (ixor .u64 (ixor .u64 c148 c154) c160))) + (ixor .u64 (ixor .u64 (iand .u64 ((s95).getD ((0 : Int)).toNat (rInt .u64).zeroD) ((s95).getD ((1 : Int)).toNat (rInt .u64).zeroD)) (iand .u64 ((s95).getD ((0 : Int)).toNat (rInt .u64).zeroD) ((s95).getD ((2 : Int)).toNat (rInt .u64).zeroD))) (iand .u64 ((s95).getD ((1 : Int)).toNat (rInt .u64).zeroD) ((s95).getD ((2 : Int)).toNat (rInt .u64).zeroD))))) (4294967295 : Int)), ((s95).getD ((0 : Int)).toNat (rInt .u64).zeroD), ((s95).getD ((1 : Int)).toNat (rInt .u64).zeroD), ((s95).getD ((2 : Int)).toNat (rInt .u64).zeroD), (iand .u64 (IntKind.u64.wrap (((s95).getD ((3 : Int)).toNat (rInt .u64).zeroD) + (IntKind.u64.wrap ((IntKind.u64.wrap ((IntKind.u64.wrap ((IntKind.u64.wrap (((s95).getD ((7 : Int)).toNat (rInt .u64).zeroD) + (ixor .u64 (ixor .u64 c106 c112) c118))) + (ixor .u64 (iand .u64 ((s95).getD ((4 : Int)).toNat (rInt .u64).zeroD) ((s95).getD ((5 : Int)).toNat (rInt .u64).zeroD)) (iand .u64 (IntKind.u64.wrap ((4294967295 : Int) - ((s95).getD ((4 : Int)).toNat (rInt .u64).zeroD))) ((s95).getD ((6 : Int)).toNat (rInt .u64).zeroD))))) + ((a2).getD (s96).toNat (rInt .u64).zeroD))) + ((s9).getD (s96).toNat (rInt .u64).zeroD))))) (4294967295 : Int)), ((s95).getD ((4 : Int)).toNat (rInt .u64).zeroD), ((s95).getD ((5 : Int)).toNat (rInt .u64).zeroD), ((s95).getD ((6 : Int)).toNat (rInt .u64).zeroD)], (IntKind.i64.wrap (s96 + (1 : Int)))) (Nat.lt_succ_self kq98) (wrap_wrap _ _) hf ⟨rfl, ⟨rfl, ⟨rfl, ⟨rfl, ⟨rfl, ⟨rfl, trivial⟩⟩⟩⟩⟩⟩ trivial [0, 1, 2, 3, 4] (Sel.cons rfl (Sel.cons rfl (Sel.cons rfl (Sel.cons rfl (Sel.cons rfl Sel.nil))))) rfl
    · have hf := if_f hb101 hf
      refine t_exit ?_
      refine q_then_exit ?_
      refine q_then_exit ?_
      have hr := Option.some.inj hf; try subst hr
      have hf := hout97
      try dsimp only at hf
      refine q_block_hit ?_
      refine q_then_code ?_
      refine t_seq ?_
      refine t_seq ?_
      refine t_region ?_
      refine tl_d rfl (d_assign rfl ?_)
      refine tl_nil ?_
      refine q_then_code ?_
      refine t_block ?_
      obtain ⟨o222, ho223, hf⟩ := bind_some hf
      refine t_loop (X := (List Int) × Int) (O := (List Int)) (fun kl x => match x with | (s204, s205) => cofferref2_block.l2 s95 kl s204 s205) o222 (fun x => match x with | (s204, s205) => (([(3, .pointer (some ⟨b5, 0, none⟩)), (6, .pointer (some ⟨b8, 0, none⟩)), (12, .pointer (some ⟨b94, 0, none⟩)), (21, .int .i64 s205)], [], [Own.box b5 (rArr 8 (rInt .u64)) s204, Own.box b8 (rArr 8 (rInt .u64)) (rArr 8 (rInt .u64)).zeroD, Own.box b94 (rArr 8 (rInt .u64)) s95]) : Sym)) (fun x => match x with | (s204, s205) => IntKind.i64.wrap s205 = s205) k (a0, (0 : Int)) ho223 rfl ⟨rfl, ⟨rfl, ⟨rfl, ⟨rfl, trivial⟩⟩⟩⟩ trivial [0, 3, 4] (Sel.cons rfl (Sel.cons rfl (Sel.cons rfl Sel.nil))) rfl ?_
      clear ho223
      rintro k209 ⟨s204, s205⟩ hw_s205 hk208
      have hout206 := hf; clear hf
      obtain ⟨kq207, rfl⟩ : ∃ q, k209 = q + 1 := by cases k209 with | zero => cases hk208 | succ q => exact ⟨q, rfl⟩
      have hf := hk208
      clear hk208; dsimp only [cofferref2_block.l2] at hf
      refine t_seq ?_
      refine t_seq ?_
      refine t_region ?_
      refine tl_d rfl (d_move rfl ?_)
      refine tl_d rfl (d_lss rfl rfl ?_)
      refine tl_nil ?_
      refine q_then_code ?_
      refine t_cond rfl (fun hb210 => ?_) (fun hb210 => ?_)
      · have hf := if_t hb210 hf
        refine t_skip ?_
        refine q_then_code ?_
        refine t_seq ?_
        refine t_block ?_
        obtain ⟨hn211, hf⟩ := need_some hf
        obtain ⟨hn213, hf⟩ := need_some hf
        obtain ⟨hn215, hf⟩ := need_some hf
        refine t_any (n := 10) [] mixed ⟨by kernel_rfl, .inr ⟨rfl, by kernel_rfl⟩⟩ (np_block (np_then (np_then (np_block (np_then np_body))))) ?_
        refine ta_take (i := 0) rfl (by kernel_rfl) gd_none (d_move rfl ?_)
        refine ta_take (i := 1) rfl (by kernel_rfl) gd_none (d_move rfl ?_)
        refine ta_take (i := 2) rfl (by kernel_rfl) gd_none (d_index_own rfl rfl Try.underlying103 ty91 hn211 ?_)
        refine ta_take (i := 3) rfl (by kernel_rfl) gd_none (d_load_box_int 0 rfl rfl (Fld.at0 (Fld.elem 8 (rInt .u64) (s205).toNat (rInt .u64).zeroD)) (toNat_lt hn211) ty91 rfl (fun hw216 => ?_))
        refine ta_take (i := 4) rfl (by kernel_rfl) gd_none (d_move rfl ?_)
        refine ta_take (i := 5) rfl (by kernel_rfl) gd_none (d_index_own rfl rfl Try.underlying103 ty91 hn213 ?_)
        refine ta_take (i := 6) rfl (by kernel_rfl) gd_none (d_load_box_int 2 rfl rfl (Fld.at0 (Fld.elem 8 (rInt .u64) (s205).toNat (rInt .u64).zeroD)) (toNat_lt hn213) ty91 rfl (fun hw217 => ?_))
        refine ta_take (i := 7) rfl (by kernel_rfl) gd_none (d_add rfl rfl ?_)
        refine ta_take (i := 8) rfl (by kernel_rfl) gd_none (d_and rfl rfl ?_)
        refine ta_take (i := 9) rfl (by kernel_rfl) gd_none (d_index_own rfl rfl Try.underlying103 ty91 hn215 ?_)
        refine ta_last [0, 1, 2, 3, 4, 5, 6, 7, 8, 9, 10, 11, 12, 13, 14, 15, 16, 17, 18, 19, 20, 21, 22, 23, 24, 25, 26, 27, 28, 29, 30, 31, 32, 33, 34, 35, 36, 37, 38, 39, 40, 41, 42, 43, 44, 45, 46, 47, 48, 49, 50, 51, 52, 53, 54, 55, 56, 57, 58, 59] (by kernel_rfl) (by kernel_rfl) rfl gd_none (g_store_box 0 rfl rfl rfl (Fld.at0 (Fld.elem 8 (rInt .u64) (s205).toNat (rInt .u64).zeroD)) (toNat_lt hn215) (hv_int (wrap_wrap _ _)) ty91 (by decide) ?_)
        refine q_block_normal ?_
        refine q_then_code ?_
        refine t_region ?_
        refine tl_d rfl (d_move rfl ?_)
        refine tl_d rfl (d_add rfl rfl ?_)
        refine tl_d rfl (d_assign rfl ?_)
        refine tl_nil ?_
        exact q_round kq207 (((s204).set (s205).toNat (iand .u64 (IntKind.u64.wrap (((s204).getD (s205).toNat (rInt .u64).zeroD) + ((s95).getD (s205).toNat (rInt .u64).zeroD))) (4294967295 : Int))), (IntKind.i64.wrap (s205 + (1 : Int)))) (Nat.lt_succ_self kq207) (wrap_wrap _ _) hf ⟨rfl, ⟨rfl, ⟨rfl, ⟨rfl, trivial⟩⟩⟩⟩ trivial [0, 1, 2] (Sel.cons rfl (Sel.cons rfl (Sel.cons rfl Sel.nil))) rfl
      · have hf := if_f hb210 hf
        refine t_exit ?_
        refine q_then_exit ?_
        refine q_then_exit ?_
        have hr := Option.some.inj hf; try subst hr
        have hf := hout206
        try dsimp only at hf
        refine q_block_hit ?_
        refine q_then_code ?_
        refine t_seq ?_
        refine t_region ?_
        refine tl_d rfl (d_load_box 0 rfl rfl (Fld.self (rArr 8 (rInt .u64))) trivial ty103 rfl (fun v220 => ?_))
        refine tl_g _ rfl (g_store_box 1 rfl rfl rfl (Fld.self (rArr 8 (rInt .u64))) trivial (hv_fact (mem_at 0 rfl)) ty103 (List.mem_singleton_self _) ?_)
        refine tl_nil ?_
        refine q_then_code ?_
        refine t_ret ?_
        have hr := Option.some.inj hf; subst hr
        refine q_ret (post := fun w w' m v => (rArr 8 (rInt .u64)).val w' m v s204) hR _ (.inl rfl) (fun a w hs => ?_)
        obtain ⟨x0, hx0, hy0⟩ := rv_cell (t := 6) (ty := 103) hs 1 rfl rfl ty103
        exact ⟨_, run_results rfl (RvOk.cons hx0 RvOk.nil), hy0⟩

def cofferref2_Sum.l3 (s58 : Int) (s37 : (List Int)) : Nat → (List Int) → Int → Option ((List Int))
  | 0, _, _ => none
  | k + 1, s68, s69 => (if (decide (s69 < (64 : Int))) = true then (need (0 ≤ (IntKind.i64.wrap (s69.tdiv (4 : Int))) ∧ (IntKind.i64.wrap (s69.tdiv (4 : Int))) < 64) (need (0 ≤ (IntKind.i64.wrap (s58 + s69)) ∧ (IntKind.i64.wrap (s58 + s69)) < ((s37).length : Int)) (need (0 ≤ (IntKind.i64.wrap (s69.tdiv (4 : Int))) ∧ (IntKind.i64.wrap (s69.tdiv (4 : Int))) < 64) ((cofferref2_Sum.l3 s58 s37 k ((s68).set ((IntKind.i64.wrap (s69.tdiv (4 : Int)))).toNat (IntKind.u64.wrap ((IntKind.u64.wrap (((s68).getD ((IntKind.i64.wrap (s69.tdiv (4 : Int)))).toNat (rInt .u64).zeroD) * (256 : Int))) + ((s37).getD ((IntKind.i64.wrap (s58 + s69))).toNat (rInt .u8).zeroD)))) (IntKind.i64.wrap (s69 + (1 : Int)))))))) else (some (s68)))
def cofferref2_Sum.l4 (s57 : (List Int)) : Nat → (List Int) → Int → Option ((List Int))
  | 0, _, _ => none
  | k + 1, s108, s109 => (if (decide (s109 < (32 : Int))) = true then (need (0 ≤ (IntKind.i64.wrap (s109.tdiv (4 : Int))) ∧ (IntKind.i64.wrap (s109.tdiv (4 : Int))) < 8) (need (0 ≤ (IntKind.i64.wrap ((24 : Int) - (IntKind.i64.wrap ((8 : Int) * (s109.tmod (4 : Int))))))) (need (0 ≤ s109 ∧ s109 < 32) ((cofferref2_Sum.l4 s57 k ((s108).set (s109).toNat (IntKind.u8.wrap (ishr .u64 ((s57).getD ((IntKind.i64.wrap (s109.tdiv (4 : Int)))).toNat (rInt .u64).zeroD) (IntKind.i64.wrap ((24 : Int) - (IntKind.i64.wrap ((8 : Int) * (s109.tmod (4 : Int))))))))) (IntKind.i64.wrap (s109 + (1 : Int)))))))) else (some (s108)))
def cofferref2_Sum.l2 (s37 : (List Int)) (c3 : (List Int)) : Nat → (List Int) → Int → Option ((List Int))
  | 0, _, _ => none
  | k + 1, s57, s58 => (if (decide (s58 < ((s37).length : Int))) = true then (cofferref2_Sum.l3 s58 s37 k (rArr 64 (rInt .u64)).zeroD (0 : Int)).bind fun o104 => (match o104 with | s68 => ((cofferref2_block.f k s57 s68 c3).bind fun c92 => (cofferref2_Sum.l2 s37 c3 k c92 (IntKind.i64.wrap (s58 + (64 : Int)))))) else (some (s57)))
def cofferref2_Sum.l1 (a0 : (List Int)) : Nat → (List Int) → Int → Option ((List Int))
  | 0, _, _ => none
  | k + 1, s37, s39 => (if (decide (s39 < (8 : Int))) = true then (need (0 ≤ (IntKind.i64.wrap ((56 : Int) - (IntKind.i64.wrap ((8 : Int) * s39))))) (need (fits 1 ((s37).length + ([(IntKind.u8.wrap (ishr .u64 (IntKind.u64.wrap (((a0).length : Int) * (8 : Int))) (IntKind.i64.wrap ((56 : Int) - (IntKind.i64.wrap ((8 : Int) * s39))))))]).length)) ((cofferref2_Sum.l1 a0 k (s37 ++ [(IntKind.u8.wrap (ishr .u64 (IntKind.u64.wrap (((a0).length : Int) * (8 : Int))) (IntKind.i64.wrap ((56 : Int) - (IntKind.i64.wrap ((8 : Int) * s39))))))]) (IntKind.i64.wrap (s39 + (1 : Int))))))) else (some (s37)))
def cofferref2_Sum.l0 : Nat → (List Int) → Option ((List Int))
  | 0, _ => none
  | k + 1, s21 => (if (!decide ((((s21).length : Int).tmod (64 : Int)) = (56 : Int))) = true then (need (fits 1 ((s21).length + ([(0 : Int)]).length)) ((cofferref2_Sum.l0 k (s21 ++ [(0 : Int)])))) else (some (s21)))
def cofferref2_Sum.f (k : Nat) (a0 : (List Int)) : Option ((List Int)) := ((cofferref2_keys.f).bind fun c3 => (need (fits 1 ((([] : List Int)).length + (a0).length)) (need (fits 1 (((([] : List Int) ++ a0)).length + ([(128 : Int)]).length)) ((cofferref2_Sum.l0 k ((([] : List Int) ++ a0) ++ [(128 : Int)])).bind fun o130 => (match o130 with | s21 => (cofferref2_Sum.l1 a0 k s21 (0 : Int)).bind fun o128 => (match o128 with | s37 => (cofferref2_Sum.l2 s37 c3 k [(1779033703 : Int), (3144134277 : Int), (1013904242 : Int), (2773480762 : Int), (1359893119 : Int), (2600822924 : Int), (528734635 : Int), (1541459225 : Int)] (0 : Int)).bind fun o126 => (match o126 with | s57 => (cofferref2_Sum.l4 s57 k (rArr 32 (rInt .u8)).zeroD (0 : Int)).bind fun o124 => (match o124 with | s108 => (some s108)))))))))
set_option maxRecDepth 100000 in
set_option maxHeartbeats 3530000 in
theorem cofferref2_Sum_ok (k : Nat) (a0 : (List Int)) (u0 : Value) (r : (List Int)) (hf : cofferref2_Sum.f k a0 = some r) : Cf.FnX true Try.prog 36 [u0] (fun w m => (rSl 1 (rInt .u8)).val w m u0 a0) (fun w w' m v => (rArr 32 (rInt .u8)).val w' m v r) := by
  unfold cofferref2_Sum.f at hf
  refine fn_of Try.func36 rfl (Nat.le_of_ble_eq_true rfl) [(rSl 1 (rInt .u8)).fact u0 a0] (fun w m h f hf => ?_) ?_
  · simp at hf; obtain rfl := hf; exact h
  intro w0 m0 R hR
  refine t_seq ?_
  refine t_region ?_
  refine tl_g [] rfl (g_alloc rfl ty29 (fun b2 => ?_))
  refine tl_nil ?_
  refine q_then_code ?_
  refine t_seq ?_
  obtain ⟨c3, hc4, hf⟩ := bind_some hf
  refine t_region ?_
  refine tl_g [] rfl (g_call1 rfl hfn52 (cofferref2_keys_ok _ hc4) Evs.nil (fun a w hs => trivial) (fun v8 => ?_))
  refine tl_g [] rfl (g_alloc rfl ty101 (fun b10 => ?_))
  refine tl_g _ rfl (g_store_box 1 rfl rfl rfl (Fld.self (rArr 64 (rInt .u64))) trivial (hv_fact (mem_at 0 rfl)) ty101 (List.mem_singleton_self _) ?_)
  refine tl_nil ?_
  refine q_then_code ?_
  refine t_seq ?_
  obtain ⟨hn12, hf⟩ := need_some hf
  obtain ⟨hn15, hf⟩ := need_some hf
  refine t_region ?_
  refine tl_g [] rfl (g_buildSlice (R := (rInt .u8)) (l := []) rfl Try.underlying32 ty5 ⟨rfl, by decide, by decide, by decide⟩ PartsOk.nil rfl (fun v17 => ?_))
  refine tl_d rfl (d_move rfl ?_)
  refine tl_g _ rfl (g_append_sl (l2 := a0) 2 rfl rfl rfl rfl (hv_fact (mem_at 1 rfl)) Try.underlying32 ⟨_, Try.underlying32, fun k h => by cases h⟩ ty5 hn12 (List.mem_singleton_self _) (fun v18 => ?_))
  refine tl_g [] rfl (g_buildSlice (R := (rInt .u8)) (l := [(128 : Int)]) rfl Try.underlying32 ty5 ⟨rfl, by decide, by decide, by decide⟩ (PartsOk.cons rfl rfl (hv_int rfl) PartsOk.nil) rfl (fun v19 => ?_))
  refine tl_g _ rfl (g_append_buf 2 3 rfl rfl rfl rfl rfl rfl Try.underlying32 ⟨_, Try.underlying32, fun k h => by cases h⟩ ty5 hn15 (List.mem_singleton_self _) (fun v20 => ?_))
  refine tl_d rfl (d_assign rfl ?_)
  refine tl_nil ?_
  refine q_then_code ?_
  refine t_seq ?_
  refine t_block ?_
  obtain ⟨o130, ho131, hf⟩ := bind_some hf
  refine t_loop (X := (List Int) × Value) (O := (List Int)) (fun kl x => match x with | (s21, z22) => cofferref2_Sum.l0 kl s21) o130 (fun x => match x with | (s21, z22) => (([(0, u0), (2, .pointer (some ⟨b2, 0, none⟩)), (3, .pointer (some ⟨b10, 0, none⟩)), (4, z22)], [(rSl 1 (rInt .u8)).fact u0 a0], [Own.box b2 (rArr 32 (rInt .u8)) (rArr 32 (rInt .u8)).zeroD, Own.box b10 (rArr 64 (rInt .u64)) c3, Own.buf z22 1 (rInt .u8) s21]) : Sym)) (fun x => match x with | (s21, z22) => True) k (((([] : List Int) ++ a0) ++ [(128 : Int)]), v20) ho131 trivial ⟨rfl, ⟨rfl, ⟨rfl, ⟨rfl, trivial⟩⟩⟩⟩ ⟨mem_at 1 rfl, trivial⟩ [0, 1, 2] (Sel.cons rfl (Sel.cons rfl (Sel.cons rfl Sel.nil))) rfl ?_
  clear ho131
  rintro k26 ⟨s21, z22⟩ _ hk25
  have hout23 := hf; clear hf
  obtain ⟨kq24, rfl⟩ : ∃ q, k26 = q + 1 := by cases k26 with | zero => cases hk25 | succ q => exact ⟨q, rfl⟩
  have hf := hk25
  clear hk25; dsimp only [cofferref2_Sum.l0] at hf
  refine t_seq ?_
  refine t_seq ?_
  refine t_region ?_
  refine tl_d rfl (d_move rfl ?_)
  refine tl_d rfl (d_len_buf 2 rfl rfl Try.underlying32 (fun hl28 _ => ?_))
  refine tl_d rfl (d_rem rfl rfl (by decide) ?_)
  refine tl_d rfl (d_neq rfl rfl ?_)
  refine tl_nil ?_
  refine q_then_code ?_
  refine t_cond rfl (fun hb29 => ?_) (fun hb29 => ?_)
  · have hf := if_t hb29 hf
    refine t_skip ?_
    refine q_then_code ?_
    refine t_block ?_
    obtain ⟨hn31, hf⟩ := need_some hf
    refine t_region ?_
    refine tl_d rfl (d_move rfl ?_)
    refine tl_g [] rfl (g_buildSlice (R := (rInt .u8)) (l := [(0 : Int)]) rfl Try.underlying32 ty5 ⟨rfl, by decide, by decide, by decide⟩ (PartsOk.cons rfl rfl (hv_int rfl) PartsOk.nil) rfl (fun v33 => ?_))
    refine tl_g _ rfl (g_append_buf 2 3 rfl rfl rfl rfl rfl rfl Try.underlying32 ⟨_, Try.underlying32, fun k h => by cases h⟩ ty5 hn31 (List.mem_singleton_self _) (fun v34 => ?_))
    refine tl_d rfl (d_assign rfl ?_)
    refine tl_nil ?_
    refine q_block_normal ?_
    exact q_round kq24 ((s21 ++ [(0 : Int)]), v34) (Nat.lt_succ_self kq24) trivial hf ⟨rfl, ⟨rfl, ⟨rfl, ⟨rfl, trivial⟩⟩⟩⟩ ⟨mem_at 0 rfl, trivial⟩ [0, 1, 2] (Sel.cons rfl (Sel.cons rfl (Sel.cons rfl Sel.nil))) rfl
  · have hf := if_f hb29 hf
    refine t_exit ?_
    refine q_then_exit ?_
    refine q_then_exit ?_
    have hr := Option.some.inj hf; try subst hr
    have hf := hout23
    try dsimp only at hf
    refine q_block_hit ?_
    refine q_then_code ?_
    refine t_seq ?_
    refine t_region ?_
    refine tl_d rfl (d_move rfl ?_)
    refine tl_d rfl (d_len_sl rfl (mem_at 0 rfl) Try.underlying32 (fun hl36 _ => ?_))
    refine tl_d rfl (d_conv_id Try.underlying3 Try.underlying91 rfl (wrap_lenu hl36) ?_)
    refine tl_d rfl (d_mul rfl rfl ?_)
    refine tl_d rfl (d_assign rfl ?_)
    refine tl_nil ?_
    refine q_then_code ?_
    refine t_seq ?_
    refine t_seq ?_
    refine t_region ?_
    refine tl_d rfl (d_assign rfl ?_)
    refine tl_nil ?_
    refine q_then_code ?_
    refine t_block ?_
    obtain ⟨o128, ho129, hf⟩ := bind_some hf
    refine t_loop (X := (List Int) × Int × Value) (O := (List Int)) (fun kl x => match x with | (s37, s39, z38) => cofferref2_Sum.l1 a0 kl s37 s39) o128 (fun x => match x with | (s37, s39, z38) => (([(2, .pointer (some ⟨b2, 0, none⟩)), (3, .pointer (some ⟨b10, 0, none⟩)), (4, z38), (5, (.int .u64 (IntKind.u64.wrap (((a0).length : Int) * (8 : Int))))), (6, .int .i64 s39)], [], [Own.box b2 (rArr 32 (rInt .u8)) (rArr 32 (rInt .u8)).zeroD, Own.box b10 (rArr 64 (rInt .u64)) c3, Own.buf z38 1 (rInt .u8) s37]) : Sym)) (fun x => match x with | (s37, s39, z38) => IntKind.i64.wrap s39 = s39) k (s21, (0 : Int), z22) ho129 rfl ⟨rfl, ⟨rfl, ⟨rfl, ⟨rfl, ⟨rfl, trivial⟩⟩⟩⟩⟩ trivial [0, 1, 2] (Sel.cons rfl (Sel.cons rfl (Sel.cons rfl Sel.nil))) rfl ?_
    clear ho129
    rintro k43 ⟨s37, s39, z38⟩ hw_s39 hk42
    have hout40 := hf; clear hf
    obtain ⟨kq41, rfl⟩ : ∃ q, k43 = q + 1 := by cases k43 with | zero => cases hk42 | succ q => exact ⟨q, rfl⟩
    have hf := hk42
    clear hk42; dsimp only [cofferref2_Sum.l1] at hf
    refine t_seq ?_
    refine t_seq ?_
    refine t_region ?_
    refine tl_d rfl (d_move rfl ?_)
    refine tl_d rfl (d_lss rfl rfl ?_)
    refine tl_nil ?_
    refine q_then_code ?_
    refine t_cond rfl (fun hb44 => ?_) (fun hb44 => ?_)
    · have hf := if_t hb44 hf
      refine t_skip ?_
      refine q_then_code ?_
      refine t_seq ?_
      refine t_block ?_
      obtain ⟨hn45, hf⟩ := need_some hf
      obtain ⟨hn47, hf⟩ := need_some hf
      refine t_region ?_
      refine tl_d rfl (d_move rfl ?_)
      refine tl_d rfl (d_move rfl ?_)
      refine tl_d rfl (d_move rfl ?_)
      refine tl_d rfl (d_mul rfl rfl ?_)
      refine tl_d rfl (d_sub rfl rfl ?_)
      refine tl_d rfl (d_shr rfl rfl hn45 ?_)
      refine tl_d rfl (d_conv Try.underlying91 Try.underlying5 rfl ?_)
      refine tl_g [] rfl (g_buildSlice (R := (rInt .u8)) (l := [(IntKind.u8.wrap (ishr .u64 (IntKind.u64.wrap (((a0).length : Int) * (8 : Int))) (IntKind.i64.wrap ((56 : Int) - (IntKind.i64.wrap ((8 : Int) * s39))))))]) rfl Try.underlying32 ty5 ⟨rfl, by decide, by decide, by decide⟩ (PartsOk.cons rfl rfl (hv_int (wrap_wrap _ _)) PartsOk.nil) rfl (fun v49 => ?_))
      refine tl_g _ rfl (g_append_buf 2 3 rfl rfl rfl rfl rfl rfl Try.underlying32 ⟨_, Try.underlying32, fun k h => by cases h⟩ ty5 hn47 (List.mem_singleton_self _) (fun v50 => ?_))
      refine tl_d rfl (d_assign rfl ?_)
      refine tl_nil ?_
      refine q_block_normal ?_
      refine q_then_code ?_
      refine t_region ?_
      refine tl_d rfl (d_move rfl ?_)
      refine tl_d rfl (d_add rfl rfl ?_)
      refine tl_d rfl (d_assign rfl ?_)
      refine tl_nil ?_
      exact q_round kq41 ((s37 ++ [(IntKind.u8.wrap (ishr .u64 (IntKind.u64.wrap (((a0).length : Int) * (8 : Int))) (IntKind.i64.wrap ((56 : Int) - (IntKind.i64.wrap ((8 : Int) * s39))))))]), (IntKind.i64.wrap (s39 + (1 : Int))), v50) (Nat.lt_succ_self kq41) (wrap_wrap _ _) hf ⟨rfl, ⟨rfl, ⟨rfl, ⟨rfl, ⟨rfl, trivial⟩⟩⟩⟩⟩ trivial [0, 1, 2] (Sel.cons rfl (Sel.cons rfl (Sel.cons rfl Sel.nil))) rfl
    · have hf := if_f hb44 hf
      refine t_exit ?_
      refine q_then_exit ?_
      refine q_then_exit ?_
      have hr := Option.some.inj hf; try subst hr
      have hf := hout40
      try dsimp only at hf
      refine q_block_hit ?_
      refine q_then_code ?_
      refine t_seq ?_
      refine t_region ?_
      refine tl_d rfl (d_build_arr (y := [(1779033703 : Int), (3144134277 : Int), (1013904242 : Int), (2773480762 : Int), (1359893119 : Int), (2600822924 : Int), (528734635 : Int), (1541459225 : Int)]) ty103 Try.underlying103 ty91 (BuildOk.cons rfl (Fld.elem 8 (rInt .u64) 0 (rInt .u64).zeroD) (by decide) rfl (hv_int rfl) (BuildOk.cons rfl (Fld.elem 8 (rInt .u64) 1 (rInt .u64).zeroD) (by decide) rfl (hv_int rfl) (BuildOk.cons rfl (Fld.elem 8 (rInt .u64) 2 (rInt .u64).zeroD) (by decide) rfl (hv_int rfl) (BuildOk.cons rfl (Fld.elem 8 (rInt .u64) 3 (rInt .u64).zeroD) (by decide) rfl (hv_int rfl) (BuildOk.cons rfl (Fld.elem 8 (rInt .u64) 4 (rInt .u64).zeroD) (by decide) rfl (hv_int rfl) (BuildOk.cons rfl (Fld.elem 8 (rInt .u64) 5 (rInt .u64).zeroD) (by decide) rfl (hv_int rfl) (BuildOk.cons rfl (Fld.elem 8 (rInt .u64) 6 (rInt .u64).zeroD) (by decide) rfl (hv_int rfl) (BuildOk.cons rfl (Fld.elem 8 (rInt .u64) 7 (rInt .u64).zeroD) (by decide) rfl (hv_int rfl) BuildOk.nil)))))))) (fun v54 => ?_))
      refine tl_g [] rfl (g_alloc rfl ty103 (fun b56 => ?_))
      refine tl_g _ rfl (g_store_box 3 rfl rfl rfl (Fld.self (rArr 8 (rInt .u64))) trivial (hv_fact (mem_at 0 rfl)) ty103 (List.mem_singleton_self _) ?_)
      refine tl_nil ?_
      refine q_then_code ?_
      refine t_seq ?_
      refine t_seq ?_
      refine t_region ?_
      refine tl_d rfl (d_assign rfl ?_)
      refine tl_nil ?_
      refine q_then_code ?_
      refine t_block ?_
      obtain ⟨o126, ho127, hf⟩ := bind_some hf
      refine t_loop (X := (List Int) × Int) (O := (List Int)) (fun kl x => match x with | (s57, s58) => cofferref2_Sum.l2 s37 c3 kl s57 s58) o126 (fun x => match x with | (s57, s58) => (([(2, .pointer (some ⟨b2, 0, none⟩)), (3, .pointer (some ⟨b10, 0, none⟩)), (4, z38), (7, .pointer (some ⟨b56, 0, none⟩)), (8, .int .i64 s58)], [], [Own.box b2 (rArr 32 (rInt .u8)) (rArr 32 (rInt .u8)).zeroD, Own.box b10 (rArr 64 (rInt .u64)) c3, Own.buf z38 1 (rInt .u8) s37, Own.box b56 (rArr 8 (rInt .u64)) s57]) : Sym)) (fun x => match x with | (s57, s58) => IntKind.i64.wrap s58 = s58) k ([(1779033703 : Int), (3144134277 : Int), (1013904242 : Int), (2773480762 : Int), (1359893119 : Int), (2600822924 : Int), (528734635 : Int), (1541459225 : Int)], (0 : Int)) ho127 rfl ⟨rfl, ⟨rfl, ⟨rfl, ⟨rfl, ⟨rfl, trivial⟩⟩⟩⟩⟩ trivial [0, 1, 2, 3] (Sel.cons rfl (Sel.cons rfl (Sel.cons rfl (Sel.cons rfl Sel.nil)))) rfl ?_
      clear ho127
      rintro k62 ⟨s57, s58⟩ hw_s58 hk61
      have hout59 := hf; clear hf
      obtain ⟨kq60, rfl⟩ : ∃ q, k62 = q + 1 := by cases k62 with | zero => cases hk61 | succ q => exact ⟨q, rfl⟩
      have hf := hk61
      clear hk61; dsimp only [cofferref2_Sum.l2] at hf
      refine t_seq ?_
      refine t_seq ?_
      refine t_region ?_
      refine tl_d rfl (d_move rfl ?_)
      refine tl_d rfl (d_move rfl ?_)
      refine tl_d rfl (d_len_buf 2 rfl rfl Try.underlying32 (fun hl64 _ => ?_))
      refine tl_d rfl (d_lss rfl rfl ?_)
      refine tl_nil ?_
      refine q_then_code ?_
      refine t_cond rfl (fun hb65 => ?_) (fun hb65 => ?_)
      · have hf := if_t hb65 hf
        refine t_skip ?_
        refine q_then_code ?_
        refine t_seq ?_
        refine t_block ?_
        refine t_seq ?_
        refine t_region ?_
        refine tl_g [] rfl (g_alloc rfl ty101 (fun b67 => ?_))
        refine tl_M [Own.box b2 (rArr 32 (rInt .u8)) (rArr 32 (rInt .u8)).zeroD, Own.box b10 (rArr 64 (rInt .u64)) c3, Own.buf z38 1 (rInt .u8) s37, Own.box b56 (rArr 8 (rInt .u64)) s57, Own.box b67 (rArr 64 (rInt .u64)) (rArr 64 (rInt .u64)).zeroD] rfl ?_
        refine tl_nil ?_
        refine q_then_code ?_
        refine t_seq ?_
        refine t_seq ?_
        refine t_region ?_
        refine tl_d rfl (d_assign rfl ?_)
        refine tl_nil ?_
        refine q_then_code ?_
        refine t_block ?_
        obtain ⟨o104, ho105, hf⟩ := bind_some hf
        refine t_loop (X := (List Int) × Int) (O := (List Int)) (fun kl x => match x with | (s68, s69) => cofferref2_Sum.l3 s58 s37 kl s68 s69) o104 (fun x => match x with | (s68, s69) => (([(2, .pointer (some ⟨b2, 0, none⟩)), (3, .pointer (some ⟨b10, 0, none⟩)), (4, z38), (7, .pointer (some ⟨b56, 0, none⟩)), (8, (.int .i64 s58)), (9, .pointer (some ⟨b67, 0, none⟩)), (10, .int .i64 s69)], [], [Own.box b2 (rArr 32 (rInt .u8)) (rArr 32 (rInt .u8)).zeroD, Own.box b10 (rArr 64 (rInt .u64)) c3, Own.buf z38 1 (rInt .u8) s37, Own.box b56 (rArr 8 (rInt .u64)) s57, Own.box b67 (rArr 64 (rInt .u64)) s68]) : Sym)) (fun x => match x with | (s68, s69) => IntKind.i64.wrap s69 = s69) kq60 ((rArr 64 (rInt .u64)).zeroD, (0 : Int)) ho105 rfl ⟨rfl, ⟨rfl, ⟨rfl, ⟨rfl, ⟨rfl, ⟨rfl, ⟨rfl, trivial⟩⟩⟩⟩⟩⟩⟩ trivial [0, 1, 2, 3, 4] (Sel.cons rfl (Sel.cons rfl (Sel.cons rfl (Sel.cons rfl (Sel.cons rfl Sel.nil))))) rfl ?_
        clear ho105
        rintro k73 ⟨s68, s69⟩ hw_s69 hk72
        have hout70 := hf; clear hf
        obtain ⟨kq71, rfl⟩ : ∃ q, k73 = q + 1 := by cases k73 with | zero => cases hk72 | succ q => exact ⟨q, rfl⟩
        have hf := hk72
        clear hk72; dsimp only [cofferref2_Sum.l3] at hf
        refine t_seq ?_
        refine t_seq ?_
        refine t_region ?_
        refine tl_d rfl (d_move rfl ?_)
        refine tl_d rfl (d_lss rfl rfl ?_)
        refine tl_nil ?_
        refine q_then_code ?_
        refine t_cond rfl (fun hb74 => ?_) (fun hb74 => ?_)
        · have hf := if_t hb74 hf
          refine t_skip ?_
          refine q_then_code ?_
          refine t_seq ?_
          refine t_block ?_
          obtain ⟨hn75, hf⟩ := need_some hf
          obtain ⟨hn77, hf⟩ := need_some hf
          obtain ⟨hn81, hf⟩ := need_some hf
          refine t_any (n := 16) [] mixed ⟨by kernel_rfl, .inr ⟨rfl, by kernel_rfl⟩⟩ (np_block (np_then (np_then (np_block (np_then (np_block (np_then (np_then (np_block (np_then np_body)))))))))) ?_
          refine ta_take (i := 0) rfl (by kernel_rfl) gd_none (d_move rfl ?_)
          refine ta_take (i := 1) rfl (by kernel_rfl) gd_none (d_quo rfl rfl (by decide) ?_)
          refine ta_take (i := 2) rfl (by kernel_rfl) gd_none (d_move rfl ?_)
          refine ta_take (i := 3) rfl (by kernel_rfl) gd_none (d_quo rfl rfl (by decide) ?_)
          refine ta_take (i := 4) rfl (by kernel_rfl) gd_none (d_index_own rfl rfl Try.underlying101 ty91 hn75 ?_)
          refine ta_take (i := 5) rfl (by kernel_rfl) gd_none (d_load_box_int 4 rfl rfl (Fld.at0 (Fld.elem 64 (rInt .u64) ((IntKind.i64.wrap (s69.tdiv (4 : Int)))).toNat (rInt .u64).zeroD)) (toNat_lt hn75) ty91 rfl (fun hw82 => ?_))
          refine ta_take (i := 6) rfl (by kernel_rfl) gd_none (d_mul rfl rfl ?_)
          refine ta_take (i := 7) rfl (by kernel_rfl) gd_none (d_move rfl ?_)
          refine ta_take (i := 8) rfl (by kernel_rfl) gd_none (d_move rfl ?_)
          refine ta_take (i := 9) rfl (by kernel_rfl) gd_none (d_move rfl ?_)
          refine ta_take (i := 10) rfl (by kernel_rfl) gd_none (d_add rfl rfl ?_)
          refine ta_take (i := 11) rfl (by kernel_rfl) gd_none (d_index_buf 2 rfl rfl rfl Try.underlying32 ty5 hn77 (fun p83 hp84 => ?_))
          refine ta_take (i := 12) rfl (by kernel_rfl) gd_none (d_load_buf_int (j := ((IntKind.i64.wrap (s58 + s69))).toNat) 2 rfl hp84 rfl rfl (toNat_lt hn77) (Fld.self (rInt .u8)) trivial ty5 rfl (fun hw85 => ?_))
          refine ta_take (i := 13) rfl (by kernel_rfl) gd_none (d_conv_id Try.underlying5 Try.underlying91 rfl (wrap_widen rfl hw85) ?_)
          refine ta_take (i := 14) rfl (by kernel_rfl) gd_none (d_add rfl rfl ?_)
          refine ta_take (i := 15) rfl (by kernel_rfl) gd_none (d_index_own rfl rfl Try.underlying101 ty91 hn81 ?_)
          refine ta_last [0, 1, 2, 3, 4, 5, 6, 7, 8, 9, 10, 11, 12, 13, 14, 15, 16, 17, 18, 19, 20, 21, 22, 23, 24, 25, 26, 27, 28, 29, 30, 31, 32, 33, 34, 35, 36, 37, 38, 39, 40, 41, 42, 43, 44, 45, 46, 47, 48, 49, 50, 51, 52, 53, 54, 55, 56, 57, 58, 59] (by kernel_rfl) (by kernel_rfl) rfl gd_none (g_store_box 4 rfl rfl rfl (Fld.at0 (Fld.elem 64 (rInt .u64) ((IntKind.i64.wrap (s69.tdiv (4 : Int)))).toNat (rInt .u64).zeroD)) (toNat_lt hn81) (hv_int (wrap_wrap _ _)) ty91 (by decide) ?_)
          refine q_block_normal ?_
          refine q_then_code ?_
          refine t_region ?_
          refine tl_d rfl (d_move rfl ?_)
          refine tl_d rfl (d_add rfl rfl ?_)
          refine tl_d rfl (d_assign rfl ?_)
          refine tl_nil ?_
          exact q_round kq71 (((s68).set ((IntKind.i64.wrap (s69.tdiv (4 : Int)))).toNat (IntKind.u64.wrap ((IntKind.u64.wrap (((s68).getD ((IntKind.i64.wrap (s69.tdiv (4 : Int)))).toNat (rInt .u64).zeroD) * (256 : Int))) + ((s37).getD ((IntKind.i64.wrap (s58 + s69))).toNat (rInt .u8).zeroD)))), (IntKind.i64.wrap (s69 + (1 : Int)))) (Nat.lt_succ_self kq71) (wrap_wrap _ _) hf ⟨rfl, ⟨rfl, ⟨rfl, ⟨rfl, ⟨rfl, ⟨rfl, ⟨rfl, trivial⟩⟩⟩⟩⟩⟩⟩ trivial [0, 1, 2, 3, 4] (Sel.cons rfl (Sel.cons rfl (Sel.cons rfl (Sel.cons rfl (Sel.cons rfl Sel.nil))))) rfl
        · have hf := if_f hb74 hf
          refine t_exit ?_
          refine q_then_exit ?_
          refine q_then_exit ?_
          have hr := Option.some.inj hf; try subst hr
          have hf := hout70
          try dsimp only at hf
          refine q_block_hit ?_
          refine q_then_code ?_
          obtain ⟨c92, hc93, hf⟩ := bind_some hf
          refine t_region ?_
          refine tl_d rfl (d_load_box 3 rfl rfl (Fld.self (rArr 8 (rInt .u64))) trivial ty103 rfl (fun v96 => ?_))
          refine tl_d rfl (d_load_box 4 rfl rfl (Fld.self (rArr 64 (rInt .u64))) trivial ty101 rfl (fun v98 => ?_))
          refine tl_d rfl (d_load_box 1 rfl rfl (Fld.self (rArr 64 (rInt .u64))) trivial ty101 rfl (fun v100 => ?_))
          refine tl_g [] rfl (g_call1 rfl hfn53 (cofferref2_block_ok _ _ _ _ _ _ _ _ hc93) (Evs.cons rfl (Evs.cons rfl (Evs.cons rfl Evs.nil))) (fun a w hs => ⟨(hv_fact (mem_at 2 rfl)) _ _ _ _ hs, (hv_fact (mem_at 1 rfl)) _ _ _ _ hs, (hv_fact (mem_at 0 rfl)) _ _ _ _ hs⟩) (fun v102 => ?_))
          refine tl_g _ rfl (g_store_box 3 rfl rfl rfl (Fld.self (rArr 8 (rInt .u64))) trivial (hv_fact (mem_at 0 rfl)) ty103 (List.mem_singleton_self _) ?_)
          refine tl_M [Own.box b2 (rArr 32 (rInt .u8)) (rArr 32 (rInt .u8)).zeroD, Own.box b10 (rArr 64 (rInt .u64)) c3, Own.buf z38 1 (rInt .u8) s37, Own.box b56 (rArr 8 (rInt .u64)) c92, Own.box b67 (rArr 64 (rInt .u64)) s68] rfl ?_
          refine tl_nil ?_
          refine q_block_normal ?_
          refine q_then_code ?_
          refine t_region ?_
          refine tl_d rfl (d_move rfl ?_)
          refine tl_d rfl (d_add rfl rfl ?_)
          refine tl_d rfl (d_assign rfl ?_)
          refine tl_nil ?_
          exact q_round kq60 (c92, (IntKind.i64.wrap (s58 + (64 : Int)))) (Nat.lt_succ_self kq60) (wrap_wrap _ _) hf ⟨rfl, ⟨rfl, ⟨rfl, ⟨rfl, ⟨rfl, trivial⟩⟩⟩⟩⟩ trivial [0, 1, 2, 3] (Sel.cons rfl (Sel.cons rfl (Sel.cons rfl (Sel.cons rfl Sel.nil)))) rfl
      · have hf := if_f hb65 hf
        refine t_exit ?_
        refine q_then_exit ?_
        refine q_then_exit ?_
        have hr := Option.some.inj hf; try subst hr
        have hf := hout59
        try dsimp only at hf
        refine q_block_hit ?_
        refine q_then_code ?_
        refine t_seq ?_
        refine t_region ?_
        refine tl_g [] rfl (g_alloc rfl ty29 (fun b107 => ?_))
        refine tl_M [Own.box b2 (rArr 32 (rInt .u8)) (rArr 32 (rInt .u8)).zeroD, Own.box b10 (rArr 64 (rInt .u64)) c3, Own.buf z38 1 (rInt .u8) s37, Own.box b56 (rArr 8 (rInt .u64)) s57, Own.box b107 (rArr 32 (rInt .u8)) (rArr 32 (rInt .u8)).zeroD] rfl ?_
        refine tl_nil ?_
        refine q_then_code ?_
        refine t_seq ?_
        refine t_seq ?_
        refine t_region ?_
        refine tl_d rfl (d_assign rfl ?_)
        refine tl_nil ?_
        refine q_then_code ?_
        refine t_block ?_
        obtain ⟨o124, ho125, hf⟩ := bind_some hf
        refine t_loop (X := (List Int) × Int) (O := (List Int)) (fun kl x => match x with | (s108, s109) => cofferref2_Sum.l4 s57 kl s108 s109) o124 (fun x => match x with | (s108, s109) => (([(2, .pointer (some ⟨b2, 0, none⟩)), (7, .pointer (some ⟨b56, 0, none⟩)), (11, .pointer (some ⟨b107, 0, none⟩)), (12, .int .i64 s109)], [], [Own.box b2 (rArr 32 (rInt .u8)) (rArr 32 (rInt .u8)).zeroD, Own.box b56 (rArr 8 (rInt .u64)) s57, Own.box b107 (rArr 32 (rInt .u8)) s108]) : Sym)) (fun x => match x with | (s108, s109) => IntKind.i64.wrap s109 = s109) k ((rArr 32 (rInt .u8)).zeroD, (0 : Int)) ho125 rfl ⟨rfl, ⟨rfl, ⟨rfl, ⟨rfl, trivial⟩⟩⟩⟩ trivial [0, 3, 4] (Sel.cons rfl (Sel.cons rfl (Sel.cons rfl Sel.nil))) rfl ?_
        clear ho125
        rintro k113 ⟨s108, s109⟩ hw_s109 hk112
        have hout110 := hf; clear hf
        obtain ⟨kq111, rfl⟩ : ∃ q, k113 = q + 1 := by cases k113 with | zero => cases hk112 | succ q => exact ⟨q, rfl⟩
        have hf := hk112
        clear hk112; dsimp only [cofferref2_Sum.l4] at hf
        refine t_seq ?_
        refine t_seq ?_
        refine t_region ?_
        refine tl_d rfl (d_move rfl ?_)
        refine tl_d rfl (d_lss rfl rfl ?_)
        refine tl_nil ?_
        refine q_then_code ?_
        refine t_cond rfl (fun hb114 => ?_) (fun hb114 => ?_)
        · have hf := if_t hb114 hf
          refine t_skip ?_
          refine q_then_code ?_
          refine t_seq ?_
          refine t_block ?_
          obtain ⟨hn115, hf⟩ := need_some hf
          obtain ⟨hn117, hf⟩ := need_some hf
          obtain ⟨hn118, hf⟩ := need_some hf
          refine t_region ?_
          refine tl_d rfl (d_move rfl ?_)
          refine tl_d rfl (d_move rfl ?_)
          refine tl_d rfl (d_quo rfl rfl (by decide) ?_)
          refine tl_d rfl (d_index_own rfl rfl Try.underlying103 ty91 hn115 ?_)
          refine tl_d rfl (d_load_box_int 1 rfl rfl (Fld.at0 (Fld.elem 8 (rInt .u64) ((IntKind.i64.wrap (s109.tdiv (4 : Int)))).toNat (rInt .u64).zeroD)) (toNat_lt hn115) ty91 rfl (fun hw119 => ?_))
          refine tl_d rfl (d_move rfl ?_)
          refine tl_d rfl (d_rem rfl rfl (by decide) ?_)
          refine tl_d rfl (d_mul rfl rfl ?_)
          refine tl_d rfl (d_sub rfl rfl ?_)
          refine tl_d rfl (d_shr rfl rfl hn117 ?_)
          refine tl_d rfl (d_conv Try.underlying91 Try.underlying5 rfl ?_)
          refine tl_d rfl (d_index_own rfl rfl Try.underlying29 ty5 hn118 ?_)
          refine tl_g _ rfl (g_store_box 2 rfl rfl rfl (Fld.at0 (Fld.elem 32 (rInt .u8) (s109).toNat (rInt .u8).zeroD)) (toNat_lt hn118) (hv_int (wrap_wrap _ _)) ty5 (List.mem_singleton_self _) ?_)
          refine tl_nil ?_
          refine q_block_normal ?_
          refine q_then_code ?_
          refine t_region ?_
          refine tl_d rfl (d_move rfl ?_)
          refine tl_d rfl (d_add rfl rfl ?_)
          refine tl_d rfl (d_assign rfl ?_)
          refine tl_nil ?_
          exact q_round kq111 (((s108).set (s109).toNat (IntKind.u8.wrap (ishr .u64 ((s57).getD ((IntKind.i64.wrap (s109.tdiv (4 : Int)))).toNat (rInt .u64).zeroD) (IntKind.i64.wrap ((24 : Int) - (IntKind.i64.wrap ((8 : Int) * (s109.tmod (4 : Int))))))))), (IntKind.i64.wrap (s109 + (1 : Int)))) (Nat.lt_succ_self kq111) (wrap_wrap _ _) hf ⟨rfl, ⟨rfl, ⟨rfl, ⟨rfl, trivial⟩⟩⟩⟩ trivial [0, 1, 2] (Sel.cons rfl (Sel.cons rfl (Sel.cons rfl Sel.nil))) rfl
        · have hf := if_f hb114 hf
          refine t_exit ?_
          refine q_then_exit ?_
          refine q_then_exit ?_
          have hr := Option.some.inj hf; try subst hr
          have hf := hout110
          try dsimp only at hf
          refine q_block_hit ?_
          refine q_then_code ?_
          refine t_seq ?_
          refine t_region ?_
          refine tl_d rfl (d_load_box 2 rfl rfl (Fld.self (rArr 32 (rInt .u8))) trivial ty29 rfl (fun v122 => ?_))
          refine tl_g _ rfl (g_store_box 0 rfl rfl rfl (Fld.self (rArr 32 (rInt .u8))) trivial (hv_fact (mem_at 0 rfl)) ty29 (List.mem_singleton_self _) ?_)
          refine tl_nil ?_
          refine q_then_code ?_
          refine t_ret ?_
          have hr := Option.some.inj hf; subst hr
          refine q_ret (post := fun w w' m v => (rArr 32 (rInt .u8)).val w' m v s108) hR _ (.inl rfl) (fun a w hs => ?_)
          obtain ⟨x0, hx0, hy0⟩ := rv_cell (t := 2) (ty := 29) hs 0 rfl rfl ty29
          exact ⟨_, run_results rfl (RvOk.cons hx0 RvOk.nil), hy0⟩

def cofferlaw17_Of.f (k : Nat) (a0 : (List Int)) : Option (Api_Object) := ((cofferref2_Sum.f k a0).bind fun c3 => need (fits 1 ((([] : List Int)).length + (a0).length)) ((some (⟨c3, (([] : List Int) ++ a0)⟩ : Api_Object))))
set_option maxRecDepth 100000 in
set_option maxHeartbeats 400000 in
theorem cofferlaw17_Of_ok (k : Nat) (a0 : (List Int)) (u0 : Value) (r : Api_Object) (hf : cofferlaw17_Of.f k a0 = some r) : Cf.FnX true Try.prog 24 [u0] (fun w m => (rSl 1 (rInt .u8)).val w m u0 a0) (fun w w' m v => rApi_Object.val w' m v r) := by
  unfold cofferlaw17_Of.f at hf
  refine fn_of Try.func24 rfl (Nat.le_of_ble_eq_true rfl) [(rSl 1 (rInt .u8)).fact u0 a0] (fun w m h f hf => ?_) ?_
  · simp at hf; obtain rfl := hf; exact h
  intro w0 m0 R hR
  refine t_seq ?_
  refine t_region ?_
  refine tl_g [] rfl (g_alloc rfl ty34 (fun b2 => ?_))
  refine tl_nil ?_
  refine q_then_code ?_
  refine t_seq ?_
  obtain ⟨c3, hc4, hf⟩ := bind_some hf
  obtain ⟨hn8, hf⟩ := need_some hf
  refine t_region ?_
  refine tl_d rfl (d_move rfl ?_)
  refine tl_g [] rfl (g_call1 rfl hfn36 (cofferref2_Sum_ok _ _ _ _ hc4) (Evs.cons rfl Evs.nil) (fun a w hs => (hv_fact (mem_at 0 rfl)) _ _ _ _ hs) (fun v13 => ?_))
  refine tl_g [] rfl (g_buildSlice (R := (rInt .u8)) (l := []) rfl Try.underlying32 ty5 ⟨rfl, by decide, by decide, by decide⟩ PartsOk.nil rfl (fun v15 => ?_))
  refine tl_d rfl (d_move rfl ?_)
  refine tl_g _ rfl (g_append_sl (l2 := a0) 1 rfl rfl rfl rfl (hv_fact (mem_at 1 rfl)) Try.underlying32 ⟨_, Try.underlying32, fun k h => by cases h⟩ ty5 hn8 (List.mem_singleton_self _) (fun v16 => ?_))
  refine tl_freeze 1 rfl ?_
  refine tl_d rfl (d_build2 (y := (⟨c3, (([] : List Int) ++ a0)⟩ : Api_Object)) ty34 rfl pl34 (BuildOk.cons rfl fl_Api_Object_Of trivial rfl (hv_fact (mem_at 1 rfl)) (BuildOk.cons rfl fl_Api_Object_Data trivial rfl (hv_fact (mem_at 0 rfl)) BuildOk.nil)) (fun v17 => ?_))
  refine tl_g _ rfl (g_store_box 0 rfl rfl rfl (Fld.self rApi_Object) trivial (hv_fact (mem_at 0 rfl)) ty34 (List.mem_singleton_self _) ?_)
  refine tl_nil ?_
  refine q_then_code ?_
  refine t_ret ?_
  have hr := Option.some.inj hf; subst hr
  refine q_ret (post := fun w w' m v => rApi_Object.val w' m v (⟨c3, (([] : List Int) ++ a0)⟩ : Api_Object)) hR _ (.inl rfl) (fun a w hs => ?_)
  obtain ⟨x0, hx0, hy0⟩ := rv_cell (t := 2) (ty := 34) hs 0 rfl rfl ty34
  exact ⟨_, run_results rfl (RvOk.cons hx0 RvOk.nil), hy0⟩

def cofferref15_MayName.l0 (a0 : (List Int)) : Nat → Int → Option (Sum (Bool) (Unit))
  | 0, _ => none
  | k + 1, s1 => (if (decide (s1 < ((a0).length : Int))) = true then ((need (0 ≤ s1 ∧ s1 < ((a0).length : Int)) ((if (decide (((a0).getD (s1).toNat 0) = (47 : Int))) = true then (some true) else (need (0 ≤ s1 ∧ s1 < ((a0).length : Int)) ((some (decide (((a0).getD (s1).toNat 0) = (0 : Int)))))))))).bind fun s14 => (if s14 = true then (some (.inl false)) else (cofferref15_MayName.l0 a0 k (IntKind.i64.wrap (s1 + (1 : Int))))) else (some (.inr ())))
def cofferref15_MayName.f (k : Nat) (a0 : (List Int)) : Option (Bool) := (cofferref15_MayName.l0 a0 k (0 : Int)).bind fun o41 => (match o41 with | .inl r => some r | .inr _ => ((if (decide ((1 : Int) ≤ ((a0).length : Int))) = true then (if (decide (((a0).length : Int) ≤ (64 : Int))) = true then (if (!decide (a0 = [46])) = true then (some (!decide (a0 = [46, 46]))) else (some false)) else (some false)) else (some false))).bind fun s28 => (some s28))
set_option maxRecDepth 100000 in
set_option maxHeartbeats 2200000 in
theorem cofferref15_MayName_ok (k : Nat) (a0 : (List Int)) (u0 : Value) (r : Bool) (hf : cofferref15_MayName.f k a0 = some r) : Cf.FnX true Try.prog 68 [u0] (fun w m => rStr.val w m u0 a0) (fun w w' m v => rBool.val w' m v r) := by
  unfold cofferref15_MayName.f at hf
  refine fn_of Try.func68 rfl (Nat.le_of_ble_eq_true rfl) [rStr.fact u0 a0] (fun w m h f hf => ?_) ?_
  · simp at hf; obtain rfl := hf; exact h
  intro w0 m0 R hR
  refine t_seq ?_
  refine t_region ?_
  refine tl_d rfl (d_assign rfl ?_)
  refine tl_nil ?_
  refine q_then_code ?_
  refine t_seq ?_
  refine t_seq ?_
  refine t_region ?_
  refine tl_d rfl (d_assign rfl ?_)
  refine tl_nil ?_
  refine q_then_code ?_
  refine t_block ?_
  obtain ⟨o41, ho42, hf⟩ := bind_some hf
  refine t_loop (X := Int) (O := Sum (Bool) (Unit)) (fun kl x => match x with | s1 => cofferref15_MayName.l0 a0 kl s1) o41 (fun x => match x with | s1 => (([(0, u0), (3, .int .i64 s1)], [rStr.fact u0 a0], []) : Sym)) (fun x => match x with | s1 => IntKind.i64.wrap s1 = s1) k (0 : Int) ho42 rfl ⟨rfl, ⟨rfl, trivial⟩⟩ ⟨mem_at 0 rfl, trivial⟩ [] (Sel.nil) rfl ?_
  clear ho42
  rintro k5 s1 hw_s1 hk4
  have hout2 := hf; clear hf
  obtain ⟨kq3, rfl⟩ : ∃ q, k5 = q + 1 := by cases k5 with | zero => cases hk4 | succ q => exact ⟨q, rfl⟩
  have hf := hk4
  clear hk4; dsimp only [cofferref15_MayName.l0] at hf
  refine t_seq ?_
  refine t_seq ?_
  refine t_region ?_
  refine tl_d rfl (d_move rfl ?_)
  refine tl_d rfl (d_move rfl ?_)
  refine tl_d rfl (d_len_str rfl (mem_at 0 rfl) Try.underlying9 (fun hl7 => ?_))
  refine tl_d rfl (d_lss rfl rfl ?_)
  refine tl_nil ?_
  refine q_then_code ?_
  refine t_cond rfl (fun hb8 => ?_) (fun hb8 => ?_)
  · have hf := if_t hb8 hf
    refine t_skip ?_
    refine q_then_code ?_
    refine t_seq ?_
    refine t_block ?_
    refine t_seq ?_
    obtain ⟨o15, ho16, hf⟩ := bind_some hf
    refine t_cut (X := Bool) (fun x => match x with | s14 => (([(0, u0), (3, (.int .i64 s1)), (19, .bool s14)], [rStr.fact u0 a0], []) : Sym)) (fun x => match x with | s14 => s14 = o15) ?_ ?_
    · have hf := ho16; clear ho16
      obtain ⟨hn9, hf⟩ := need_some hf
      rcases bool_tf (decide (((a0).getD (s1).toNat 0) = (47 : Int))) with hb11 | hb11
      · have hf := if_t hb11 hf
        refine t_region ?_
        refine tl_d rfl (d_move rfl ?_)
        refine tl_d rfl (d_move rfl ?_)
        refine tl_d rfl (d_index_str rfl (mem_at 0 rfl) rfl Try.underlying9 hn9 (fun hw17 => ?_))
        refine tl_d rfl (d_eql rfl rfl ?_)
        refine tl_d rfl (d_move rfl ?_)
        refine tl_off (gd_off rfl rfl rfl hb11) rfl rfl ?_
        refine tl_off (gd_off rfl rfl rfl hb11) rfl rfl ?_
        refine tl_off (gd_off rfl rfl rfl hb11) rfl rfl ?_
        refine tl_off (gd_off rfl rfl rfl hb11) rfl rfl ?_
        refine tl_d rfl (d_pick_true rfl hb11 rfl ?_)
        refine tl_nil ?_
        have hr := Option.some.inj hf; subst hr
        exact q_cut true rfl ⟨rfl, ⟨rfl, ⟨rfl, trivial⟩⟩⟩ ⟨mem_at 0 rfl, trivial⟩ [] (Sel.nil) rfl
      · have hf := if_f hb11 hf
        obtain ⟨hn12, hf⟩ := need_some hf
        refine t_region ?_
        refine tl_d rfl (d_move rfl ?_)
        refine tl_d rfl (d_move rfl ?_)
        refine tl_d rfl (d_index_str rfl (mem_at 0 rfl) rfl Try.underlying9 hn9 (fun hw18 => ?_))
        refine tl_d rfl (d_eql rfl rfl ?_)
        refine tl_d rfl (d_move rfl ?_)
        refine tl_dg (gd_on rfl rfl rfl hb11) rfl (d_move rfl ?_)
        refine tl_dg (gd_on rfl rfl rfl hb11) rfl (d_move rfl ?_)
        refine tl_dg (gd_on rfl rfl rfl hb11) rfl (d_index_str rfl (mem_at 0 rfl) rfl Try.underlying9 hn12 (fun hw19 => ?_))
        refine tl_dg (gd_on rfl rfl rfl hb11) rfl (d_eql rfl rfl ?_)
        refine tl_d rfl (d_pick_false rfl hb11 rfl ?_)
        refine tl_nil ?_
        have hr := Option.some.inj hf; subst hr
        exact q_cut (decide (((a0).getD (s1).toNat 0) = (0 : Int))) rfl ⟨rfl, ⟨rfl, ⟨rfl, trivial⟩⟩⟩ ⟨mem_at 0 rfl, trivial⟩ [] (Sel.nil) rfl
    rintro s14 rfl
    refine q_then_code ?_
    refine t_cond rfl (fun hb20 => ?_) (fun hb20 => ?_)
    · have hf := if_t hb20 hf
      refine t_seq ?_
      refine t_region ?_
      refine tl_d rfl (d_assign rfl ?_)
      refine tl_nil ?_
      refine q_then_code ?_
      refine t_ret ?_
      refine q_block_ret ?_
      refine q_then_ret ?_
      refine q_then_ret ?_
      have hr := Option.some.inj hf; try subst hr
      have hf := hout2
      refine q_block_ret ?_
      refine q_then_ret ?_
      have hr := Option.some.inj hf; subst hr
      refine q_ret (post := fun w w' m v => rBool.val w' m v false) hR _ (.inl rfl) (fun a w hs => ?_)
      exact ⟨_, run_results rfl (RvOk.cons (rv_tmp hs rfl) RvOk.nil), (hs.hv hv_bool)⟩
    · have hf := if_f hb20 hf
      refine t_skip ?_
      refine q_block_normal ?_
      refine q_then_code ?_
      refine t_region ?_
      refine tl_d rfl (d_move rfl ?_)
      refine tl_d rfl (d_add rfl rfl ?_)
      refine tl_d rfl (d_assign rfl ?_)
      refine tl_nil ?_
      exact q_round kq3 (IntKind.i64.wrap (s1 + (1 : Int))) (Nat.lt_succ_self kq3) (wrap_wrap _ _) hf ⟨rfl, ⟨rfl, trivial⟩⟩ ⟨mem_at 0 rfl, trivial⟩ [] (Sel.nil) rfl
  · have hf := if_f hb8 hf
    refine t_exit ?_
    refine q_then_exit ?_
    refine q_then_exit ?_
    have hr := Option.some.inj hf; try subst hr
    have hf := hout2
    try dsimp only at hf
    refine q_block_hit ?_
    refine q_then_code ?_
    refine t_seq ?_
    obtain ⟨o29, ho30, hf⟩ := bind_some hf
    refine t_cut (X := Bool) (fun x => match x with | s28 => (([(2, .bool s28)], [], []) : Sym)) (fun x => match x with | s28 => s28 = o29) ?_ ?_
    · have hf := ho30; clear ho30
      rcases bool_tf (decide ((1 : Int) ≤ ((a0).length : Int))) with hb22 | hb22
      · have hf := if_t hb22 hf
        rcases bool_tf (decide (((a0).length : Int) ≤ (64 : Int))) with hb24 | hb24
        · have hf := if_t hb24 hf
          rcases bool_tf (!decide (a0 = [46])) with hb26 | hb26
          · have hf := if_t hb26 hf
            refine t_region ?_
            refine tl_d rfl (d_move rfl ?_)
            refine tl_d rfl (d_len_str rfl (mem_at 0 rfl) Try.underlying9 (fun hl31 => ?_))
            refine tl_d rfl (d_geq rfl rfl ?_)
            refine tl_d rfl (d_move rfl ?_)
            refine tl_dg (gd_on rfl rfl rfl hb22) rfl (d_move rfl ?_)
            refine tl_dg (gd_on rfl rfl rfl hb22) rfl (d_len_str rfl (mem_at 0 rfl) Try.underlying9 (fun hl32 => ?_))
            refine tl_dg (gd_on rfl rfl rfl hb22) rfl (d_leq rfl rfl ?_)
            refine tl_d rfl (d_pick_true rfl hb22 rfl ?_)
            refine tl_d rfl (d_move rfl ?_)
            refine tl_dg (gd_on rfl rfl rfl hb24) rfl (d_move rfl ?_)
            refine tl_fact (rStr.fact (.string ⟨#[46]⟩) [46]) (str_fact rfl (by decide)) ?_
            refine tl_dg (gd_on rfl rfl rfl hb24) rfl (d_str_cmp (!decide (a0 = [46])) rfl rfl (mem_at 1 rfl) (mem_at 0 rfl) (.inr (.inl ⟨rfl, rfl⟩)) ?_)
            refine tl_d rfl (d_pick_true rfl hb24 rfl ?_)
            refine tl_d rfl (d_move rfl ?_)
            refine tl_dg (gd_on rfl rfl rfl hb26) rfl (d_move rfl ?_)
            refine tl_fact (rStr.fact (.string ⟨#[46, 46]⟩) [46, 46]) (str_fact rfl (by decide)) ?_
            refine tl_dg (gd_on rfl rfl rfl hb26) rfl (d_str_cmp (!decide (a0 = [46, 46])) rfl rfl (mem_at 2 rfl) (mem_at 0 rfl) (.inr (.inl ⟨rfl, rfl⟩)) ?_)
            refine tl_d rfl (d_pick_true rfl hb26 rfl ?_)
            refine tl_d rfl (d_assign rfl ?_)
            refine tl_nil ?_
            have hr := Option.some.inj hf; subst hr
            exact q_cut (!decide (a0 = [46, 46])) rfl ⟨rfl, trivial⟩ trivial [] (Sel.nil) rfl
          · have hf := if_f hb26 hf
            refine t_region ?_
            refine tl_d rfl (d_move rfl ?_)
            refine tl_d rfl (d_len_str rfl (mem_at 0 rfl) Try.underlying9 (fun hl35 => ?_))
            refine tl_d rfl (d_geq rfl rfl ?_)
            refine tl_d rfl (d_move rfl ?_)
            refine tl_dg (gd_on rfl rfl rfl hb22) rfl (d_move rfl ?_)
            refine tl_dg (gd_on rfl rfl rfl hb22) rfl (d_len_str rfl (mem_at 0 rfl) Try.underlying9 (fun hl36 => ?_))
            refine tl_dg (gd_on rfl rfl rfl hb22) rfl (d_leq rfl rfl ?_)
            refine tl_d rfl (d_pick_true rfl hb22 rfl ?_)
            refine tl_d rfl (d_move rfl ?_)
            refine tl_dg (gd_on rfl rfl rfl hb24) rfl (d_move rfl ?_)
            refine tl_fact (rStr.fact (.string ⟨#[46]⟩) [46]) (str_fact rfl (by decide)) ?_
            refine tl_dg (gd_on rfl rfl rfl hb24) rfl (d_str_cmp (!decide (a0 = [46])) rfl rfl (mem_at 1 rfl) (mem_at 0 rfl) (.inr (.inl ⟨rfl, rfl⟩)) ?_)
            refine tl_d rfl (d_pick_true rfl hb24 rfl ?_)
            refine tl_d rfl (d_move rfl ?_)
            refine tl_off (gd_off rfl rfl rfl hb26) rfl rfl ?_
            refine tl_off (gd_off rfl rfl rfl hb26) rfl rfl ?_
            refine tl_d rfl (d_pick_false rfl hb26 rfl ?_)
            refine tl_d rfl (d_assign rfl ?_)
            refine tl_nil ?_
            have hr := Option.some.inj hf; subst hr
            exact q_cut false rfl ⟨rfl, trivial⟩ trivial [] (Sel.nil) rfl
        · have hf := if_f hb24 hf
          refine t_region ?_
          refine tl_d rfl (d_move rfl ?_)
          refine tl_d rfl (d_len_str rfl (mem_at 0 rfl) Try.underlying9 (fun hl38 => ?_))
          refine tl_d rfl (d_geq rfl rfl ?_)
          refine tl_d rfl (d_move rfl ?_)
          refine tl_dg (gd_on rfl rfl rfl hb22) rfl (d_move rfl ?_)
          refine tl_dg (gd_on rfl rfl rfl hb22) rfl (d_len_str rfl (mem_at 0 rfl) Try.underlying9 (fun hl39 => ?_))
          refine tl_dg (gd_on rfl rfl rfl hb22) rfl (d_leq rfl rfl ?_)
          refine tl_d rfl (d_pick_true rfl hb22 rfl ?_)
          refine tl_d rfl (d_move rfl ?_)
          refine tl_off (gd_off rfl rfl rfl hb24) rfl rfl ?_
          refine tl_off (gd_off rfl rfl rfl hb24) rfl rfl ?_
          refine tl_d rfl (d_pick_false rfl hb24 rfl ?_)
          refine tl_d rfl (d_move rfl ?_)
          refine tl_off (gd_off rfl rfl rfl rfl) rfl rfl ?_
          refine tl_off (gd_off rfl rfl rfl rfl) rfl rfl ?_
          refine tl_d rfl (d_pick_false rfl rfl rfl ?_)
          refine tl_d rfl (d_assign rfl ?_)
          refine tl_nil ?_
          have hr := Option.some.inj hf; subst hr
          exact q_cut false rfl ⟨rfl, trivial⟩ trivial [] (Sel.nil) rfl
      · have hf := if_f hb22 hf
        refine t_region ?_
        refine tl_d rfl (d_move rfl ?_)
        refine tl_d rfl (d_len_str rfl (mem_at 0 rfl) Try.underlying9 (fun hl40 => ?_))
        refine tl_d rfl (d_geq rfl rfl ?_)
        refine tl_d rfl (d_move rfl ?_)
        refine tl_off (gd_off rfl rfl rfl hb22) rfl rfl ?_
        refine tl_off (gd_off rfl rfl rfl hb22) rfl rfl ?_
        refine tl_off (gd_off rfl rfl rfl hb22) rfl rfl ?_
        refine tl_d rfl (d_pick_false rfl hb22 rfl ?_)
        refine tl_d rfl (d_move rfl ?_)
        refine tl_off (gd_off rfl rfl rfl rfl) rfl rfl ?_
        refine tl_off (gd_off rfl rfl rfl rfl) rfl rfl ?_
        refine tl_d rfl (d_pick_false rfl rfl rfl ?_)
        refine tl_d rfl (d_move rfl ?_)
        refine tl_off (gd_off rfl rfl rfl rfl) rfl rfl ?_
        refine tl_off (gd_off rfl rfl rfl rfl) rfl rfl ?_
        refine tl_d rfl (d_pick_false rfl rfl rfl ?_)
        refine tl_d rfl (d_assign rfl ?_)
        refine tl_nil ?_
        have hr := Option.some.inj hf; subst hr
        exact q_cut false rfl ⟨rfl, trivial⟩ trivial [] (Sel.nil) rfl
    rintro s28 rfl
    refine q_then_code ?_
    refine t_ret ?_
    have hr := Option.some.inj hf; subst hr
    refine q_ret (post := fun w w' m v => rBool.val w' m v s28) hR _ (.inl rfl) (fun a w hs => ?_)
    exact ⟨_, run_results rfl (RvOk.cons (rv_tmp hs rfl) RvOk.nil), (hs.hv hv_bool)⟩

end Go.Proofs.Ytbcipfhhmkjigaa
