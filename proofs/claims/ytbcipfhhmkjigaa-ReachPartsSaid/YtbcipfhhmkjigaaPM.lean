/- reach.those: the contract. -/
import Derived.Test.YtbcipfhhmkjigaaPK
import Derived.Test.YtbcipfhhmkjigaaPL
import Derived.Test.YtbcipfhhmkjigaaCfK
set_option linter.unusedVariables false
open Go Go.Cf Go.Proofs Go.RowKit
namespace Go.Proofs.Ytbcipfhhmkjigaa
abbrev idR : Rep (List Int) := rArr 32 (rInt .u8)
theorem keyAt : KeyAt Try.prog 29 idR := KeyAt.ints Try.underlying29 Try.underlying5 ty5
theorem ty58k : TyOk Try.prog 58 (rMp idR rReach_object) 8 := ty_of (by kernel_rfl) Try.underlying58 rfl
theorem ty23v : TyOk Try.prog 23 (rVal (.slice none 0 0) rfl) 24 := ty_of (by kernel_rfl) Try.underlying23 rfl
/-- The names of those that are reached, or are not. -/
def thoseL (a0 : List (List Int × Reach_object)) (a1 : Bool) : List (List Int) := (a0.filter fun p => decide (((mget a0 p.1).getD rReach_object.zeroD).reached = a1)).map (·.1)
def reach_those.f (a0 : List (List Int × Reach_object)) (a1 : Bool) : Option (List (List Int)) := need (fits 32 a0.length) (some (sortN (cmpSub 32) (thoseL a0 a1)))
def pickL (a0 : List (List Int × Reach_object)) (a1 : Bool) (l : List (List Int × Reach_object)) : List (List Int) := (l.filter fun p => decide (((mget a0 p.1).getD rReach_object.zeroD).reached = a1)).map (·.1)
theorem pickL_len (a0 : List (List Int × Reach_object)) (a1 : Bool) (l : List (List Int × Reach_object)) : (pickL a0 a1 l).length ≤ l.length := by unfold pickL; rw [List.length_map]; exact List.length_filter_le _ _
theorem pickL_snoc (a0 : List (List Int × Reach_object)) (a1 : Bool) (l : List (List Int × Reach_object)) (p : List Int × Reach_object) : pickL a0 a1 (l ++ [p]) = pickL a0 a1 l ++ if ((mget a0 p.1).getD rReach_object.zeroD).reached = a1 then [p.1] else [] := by
  unfold pickL
  rw [List.filter_append, List.map_append]
  congr 1
  by_cases h : ((mget a0 p.1).getD rReach_object.zeroD).reached = a1 <;> simp [h]
theorem enters57 : ∀ args w, (callFunc 57 args).run Try.prog w = .ok (.enter 57 args) w := enters_of Try.func57 (by kernel_rfl) rfl
theorem hfn38 : HasFn Try.prog 38 := ⟨Try.f38, Try.func38, by decide, _, rfl⟩
theorem hfn39 : HasFn Try.prog 39 := ⟨Try.f39, Try.func39, by decide, _, rfl⟩
instance : Inhabited Reach_object := ⟨⟨[], false⟩⟩
set_option maxRecDepth 100000 in
set_option maxHeartbeats 2000000 in
theorem reach_those_of (hcmp : ∀ (x y : List Int) (u1 u2 : Value), FnX true Try.prog 40 [u1, u2] (fun w m => idR.val w m u1 x ∧ idR.val w m u2 y) (fun _ w' m v => (rInt .i64).val w' m v (cmpSub 32 x y)))
    (a0 : List (List Int × Reach_object)) (a1 : Bool) (u0 : Value) (r : List (List Int)) (hf : reach_those.f a0 a1 = some r) : Cf.FnX false Try.prog 26 [u0, (.bool a1)] (fun w m => (rMp idR rReach_object).val w m u0 a0 ∧ rBool.val w m (.bool a1) a1) (fun w w' m v => OwnRes idR 32 w w' m v r) := by
  unfold reach_those.f at hf
  obtain ⟨hfit, hf⟩ := need_some hf
  have hr := Option.some.inj hf; subst hr
  suffices hmain : (∀ x ∈ thoseL a0 a1, x.length = 32) → FnX false Try.prog 26 [u0, (.bool a1)] (fun w m => (rMp idR rReach_object).val w m u0 a0 ∧ rBool.val w m (.bool a1) a1) (fun w w' m v => OwnRes idR 32 w w' m v (sortN (cmpSub 32) (thoseL a0 a1))) by
    intro wS mS hmS hpreS
    refine hmain ?_ wS mS hmS hpreS
    obtain ⟨cs, hcs, _⟩ := hpreS.1
    intro x hx
    unfold thoseL at hx
    obtain ⟨p, hp, rfl⟩ := List.mem_map.1 hx
    have hp := (List.mem_filter.1 hp).1
    rcases hcs with ⟨_, rfl⟩ | ⟨b, _, _, es, c, _, hrows, _⟩
    · cases hp
    · obtain ⟨L, e1, e2, e3⟩ := hrows.zip
      rw [← e2] at hp
      obtain ⟨q, hq, rfl⟩ := List.mem_map.1 hp
      obtain ⟨_, ⟨h, _⟩, _⟩ := (e3 q hq).1
      exact h
  intro hlen0
  have hsort : ∀ l l' : List (List Int), l.Perm (thoseL a0 a1) → l'.Perm l → Rising (cmpSub 32) l' → l' = sortN (cmpSub 32) (thoseL a0 a1) := fun l l' h1 h2 h3 => sort_is (ordC_sub 32) hlen0 (h2.trans h1) h3
  refine fn_ofM Try.func26 rfl (Nat.le_of_ble_eq_true rfl) [(rMp idR rReach_object).fact u0 a0] (fun w m h f hf => by simp at hf; subst hf; exact h.1) ?_
  intro w0 m0 R hR
  refine t_seq ?_
  refine t_region ?_
  refine tl_g [] rfl (g_box rfl rfl (hv_fact (mem_at 0 rfl)) (fun b2 => ?_))
  refine tl_freezebox 0 rfl ?_
  refine tl_g [] rfl (g_box (R := rBool) (y := a1) rfl rfl hv_bool (fun b3 => ?_))
  refine tl_freezebox 1 rfl ?_
  refine tl_d rfl (d_assign rfl ?_)
  refine tl_nil ?_
  refine q_then_code ?_
  refine t_seq ?_
  refine t_region ?_
  refine tl_g [] rfl (g_alloc (R := rVal (.slice none 0 0) rfl) rfl ty23v (fun b5 => ?_))
  refine tl_nil ?_
  refine q_then_code ?_
  refine t_seq ?_
  refine t_seq ?_
  refine t_region ?_
  refine tl_d rfl (d_load_place rfl (mem_at 1 rfl) ty58k (fun v7 => ?_))
  refine tl_g [] rfl (g_keys (RK := idR) (RV := rReach_object) rfl hfn38 rfl keys38 rfl (hv_fact (mem_at 0 rfl)) (fun bk => ?_))
  refine tl_nil ?_
  refine q_then_code ?_
  refine t_block ?_
  intro a w hs
  obtain ⟨cs, T, hbk, hcs⟩ := hs.own _ (List.mem_of_getElem? (i := 3) rfl)
  rcases hcs with ⟨hcs, ha0⟩ | ⟨b, hcs, _, es, c, hb, hrows, hborn⟩
  · have hcs : cs = #[.map none] := by apply Array.toList_inj.1; rw [hcs]
    subst hcs
    have hBm : w.cell? ⟨bk, 0, none⟩ = some (.map none) := by simp [World.cell?, hbk]
    refine wp_collect hs rfl rfl enters57 rfl (n := 3) (by decide) (keys57_nil Fence.wide 2 trivial rfl bk w hBm (lt_of_get hbk)) (R := idR) (nb := 32) (z := .slice none 0 0) (hz := rfl) (Flat.arr Flat.int) 2 rfl (fun _ => []) rfl ?_ ?_
    · intro l pre x hlen
      simp at hlen
    · intro D v xs hS
      have hperm : ([] : List (List Int)).Perm (thoseL a0 a1) := by rw [ha0]; exact List.Perm.refl _
      refine (show QT _ _ _ _ _ from ?_)
      refine q_block_normal ?_
      refine q_then_code ?_
      refine t_seq ?_
      refine t_region ?_
      refine tl_d rfl (d_load_val 2 rfl rfl ty23v rfl ?_)
      refine tl_g [4] rfl (g_sort (R := idR) (c := cmpSub 32) 4 rfl hfn39 sorts39 sortsNone39 rfl (ordC_sub 32).swo hcmp rfl rfl (by decide) (fun l' hp hs' => ?_))
      refine tl_nil ?_
      refine q_then_code ?_
      refine t_seq ?_
      refine t_region ?_
      refine tl_d rfl (d_load_val 2 rfl rfl ty23v rfl ?_)
      refine tl_d rfl (d_assign rfl ?_)
      refine tl_nil ?_
      refine q_then_code ?_
      refine t_ret ?_
      obtain rfl := hsort _ _ hperm hp hs'
      exact q_retM (post := fun w w' m v => OwnRes idR 32 w w' m v (sortN (cmpSub 32) (thoseL a0 a1))) (l := sortN (cmpSub 32) (thoseL a0 a1)) 4 5 (Flat.arr Flat.int) hR rfl rfl rfl rfl (fun w h => h)
  · have hcs : cs = #[.map (some b)] := by apply Array.toList_inj.1; rw [hcs]
    subst hcs
    have hBm : w.cell? ⟨bk, 0, none⟩ = some (.map (some b)) := by simp [World.cell?, hbk]
    obtain ⟨L, e1, e2, e3⟩ := hrows.zip
    have hnd : (L.map (·.1)).Nodup := by rw [e1]; exact nodup_of_map hborn.nodup
    obtain ⟨dat, hdat⟩ := zip_fun L hnd
    have hesl : es.size = a0.length := by have := hrows.len; simpa using this
    have hkey : ∀ e ∈ es.toList, ∀ w m, idR.val w m e.key (dat e).1 := fun e he w' m' => by
      rw [← e1] at he
      obtain ⟨q, hq, rfl⟩ := List.mem_map.1 he
      rw [hdat q hq]
      obtain ⟨c1, h1, h2⟩ := (e3 q hq).1
      exact ⟨c1, Flat.arr Flat.int _ _ _ _ _ _ h1, h2⟩
    have hmapd : es.toList.map dat = a0 := by
      rw [← e1, ← e2, List.map_map]
      exact List.map_congr_left fun q hq => hdat q hq
    refine wp_collect hs rfl rfl enters57 rfl (n := 3) (by decide) (keys57 Fence.wide 2 trivial rfl (by decide) bk b es c w hBm (lt_of_get hbk) hb hborn (fun e he => ⟨_, hkey e he⟩)) (R := idR) (nb := 32) (z := .slice none 0 0) (hz := rfl) (Flat.arr Flat.int) 2 rfl (fun xs => pickL a0 a1 (xs.map fun x => dat x.1)) rfl ?_ ?_
    · intro l pre x hlen
      have hl1 : (pickL a0 a1 (pre.map fun x => dat x.1)).length + 1 ≤ a0.length := by
        have := pickL_len a0 a1 (pre.map fun x => dat x.1)
        rw [List.length_map] at this
        omega
      rw [List.map_append]
      show RoundOk _ _ _ _ _ _ _ _ _ _ _ _ _ _ (pickL a0 a1 (pre.map fun x => dat x.1)) (pickL a0 a1 ((pre.map fun x => dat x.1) ++ [dat x.1]))
      rw [pickL_snoc]
      generalize pickL a0 a1 (pre.map fun x => dat x.1) = l0 at hl1 ⊢
      have hk := hkey x.1 x.2
      generalize (dat x.1).1 = kl at hk ⊢
      generalize x.1.key = key at hk ⊢
      intro W v kp
      refine ti_more (idR.fact key kl) hk ?_
      refine ti_region ?_
      refine tli_g [] rfl calm_alloc (g_alloc rfl ty29 (fun b6 => ?_))
      refine tli_g [2] rfl calm_store (g_store_box (R := idR) 2 rfl rfl rfl (Fld.self _) trivial (hv_fact (mem_at 0 rfl)) ty29 (by decide) ?_)
      refine tli_nil ?_
      refine fun aa ww hs => ⟨_, _, _, hs, ?_, ⟨_, rfl⟩, fun W2 => ?_⟩
      · intro o ho
        simp at ho
        rcases ho with rfl | rfl | rfl
        · exact CellOwn.box
        · exact CellOwn.buf
        · exact CellOwn.box
      refine ti_block ?_
      refine ti_seq ?_
      refine ti_cut (X := Unit) (fun _ => (([(15, .bool (decide (((mget a0 kl).getD rReach_object.zeroD).reached = a1))), (6, .pointer (some ⟨b6, 0, none⟩)), (5, .pointer (some ⟨b5, 0, none⟩))], [idR.fact key kl], [Own.box b5 (rVal (.slice none 0 0) rfl) v, Own.buf v 32 idR l0, Own.box b6 idR kl]) : Sym)) (fun _ => True) ?_ ?_
      · refine ti_any mixed ?_
        refine tai_3 (i := 0) (j := 1) (l := 4) (by kernel_rfl) ?_ ?_ ?_
        · refine taiop rfl rfl calm_load (d_load_place rfl (mem_at 3 rfl) ty58k (fun m0 => ?_))
          refine tai_2 (i := 1) (j := 4) (by kernel_rfl) ?_ ?_
          · refine taiop rfl rfl calm_load (d_load_box 2 rfl rfl (Fld.self idR) trivial ty29 rfl (fun k1 => ?_))
            refine tai_2 (i := 2) (j := 4) (by kernel_rfl) ?_ ?_
            · refine taiop rfl rfl calm_lookup (d_lookup_fr rfl (mem_at 1 rfl) rfl (hv_fact (mem_at 0 rfl)) Try.underlying58 keyAt ty85 (fun o2 => ?_))
              refine tai_2 (i := 3) (j := 4) (by kernel_rfl) ?_ ?_
              · refine taiop rfl rfl calm_field (d_as_bool (fun K' hK => d_field (K := K') rfl (mem_at 0 rfl) rfl Try.underlying85 rfl rfl ty4 fl_Reach_object_reached trivial hK) ?_)
                refine tai_1 (i := 4) (by kernel_rfl) ?_
                refine taiop rfl rfl calm_load (d_as_bool (fun K' hK => d_load_place (K := K') rfl (mem_at 5 rfl) ty4 hK) ?_)
                refine tai_1 (i := 5) (by kernel_rfl) ?_
                refine taiop rfl rfl calm_bin (d_eql_bool rfl rfl Try.underlying4 ?_)
                refine tai_done (by kernel_rfl) ?_
                exact q_cut () trivial ⟨rfl, rfl, rfl, trivial⟩ ⟨mem_at 3 rfl, trivial⟩ [0, 1, 2] (Sel.cons rfl (Sel.cons rfl (Sel.cons rfl Sel.nil))) rfl
              · refine taiop rfl rfl calm_load (d_as_bool (fun K' hK => d_load_place (K := K') rfl (mem_at 5 rfl) ty4 hK) ?_)
                refine tai_1 (i := 3) (by kernel_rfl) ?_
                refine taiop rfl rfl calm_field (d_as_bool (fun K' hK => d_field (K := K') rfl (mem_at 0 rfl) rfl Try.underlying85 rfl rfl ty4 fl_Reach_object_reached trivial hK) ?_)
                refine tai_1 (i := 5) (by kernel_rfl) ?_
                refine taiop rfl rfl calm_bin (d_eql_bool rfl rfl Try.underlying4 ?_)
                refine tai_done (by kernel_rfl) ?_
                exact q_cut () trivial ⟨rfl, rfl, rfl, trivial⟩ ⟨mem_at 3 rfl, trivial⟩ [0, 1, 2] (Sel.cons rfl (Sel.cons rfl (Sel.cons rfl Sel.nil))) rfl
            · refine taiop rfl rfl calm_load (d_as_bool (fun K' hK => d_load_place (K := K') rfl (mem_at 4 rfl) ty4 hK) ?_)
              refine tai_1 (i := 2) (by kernel_rfl) ?_
              refine taiop rfl rfl calm_lookup (d_lookup_fr rfl (mem_at 1 rfl) rfl (hv_fact (mem_at 0 rfl)) Try.underlying58 keyAt ty85 (fun o2 => ?_))
              refine tai_1 (i := 3) (by kernel_rfl) ?_
              refine taiop rfl rfl calm_field (d_as_bool (fun K' hK => d_field (K := K') rfl (mem_at 0 rfl) rfl Try.underlying85 rfl rfl ty4 fl_Reach_object_reached trivial hK) ?_)
              refine tai_1 (i := 5) (by kernel_rfl) ?_
              refine taiop rfl rfl calm_bin (d_eql_bool rfl rfl Try.underlying4 ?_)
              refine tai_done (by kernel_rfl) ?_
              exact q_cut () trivial ⟨rfl, rfl, rfl, trivial⟩ ⟨mem_at 3 rfl, trivial⟩ [0, 1, 2] (Sel.cons rfl (Sel.cons rfl (Sel.cons rfl Sel.nil))) rfl
          · refine taiop rfl rfl calm_load (d_as_bool (fun K' hK => d_load_place (K := K') rfl (mem_at 3 rfl) ty4 hK) ?_)
            refine tai_1 (i := 1) (by kernel_rfl) ?_
            refine taiop rfl rfl calm_load (d_load_box 2 rfl rfl (Fld.self idR) trivial ty29 rfl (fun k1 => ?_))
            refine tai_1 (i := 2) (by kernel_rfl) ?_
            refine taiop rfl rfl calm_lookup (d_lookup_fr rfl (mem_at 1 rfl) rfl (hv_fact (mem_at 0 rfl)) Try.underlying58 keyAt ty85 (fun o2 => ?_))
            refine tai_1 (i := 3) (by kernel_rfl) ?_
            refine taiop rfl rfl calm_field (d_as_bool (fun K' hK => d_field (K := K') rfl (mem_at 0 rfl) rfl Try.underlying85 rfl rfl ty4 fl_Reach_object_reached trivial hK) ?_)
            refine tai_1 (i := 5) (by kernel_rfl) ?_
            refine taiop rfl rfl calm_bin (d_eql_bool rfl rfl Try.underlying4 ?_)
            refine tai_done (by kernel_rfl) ?_
            exact q_cut () trivial ⟨rfl, rfl, rfl, trivial⟩ ⟨mem_at 3 rfl, trivial⟩ [0, 1, 2] (Sel.cons rfl (Sel.cons rfl (Sel.cons rfl Sel.nil))) rfl
        · refine taiop rfl rfl calm_load (d_load_box 2 rfl rfl (Fld.self idR) trivial ty29 rfl (fun k1 => ?_))
          refine tai_2 (i := 0) (j := 4) (by kernel_rfl) ?_ ?_
          · refine taiop rfl rfl calm_load (d_load_place rfl (mem_at 4 rfl) ty58k (fun m0 => ?_))
            refine tai_2 (i := 2) (j := 4) (by kernel_rfl) ?_ ?_
            · refine taiop rfl rfl calm_lookup (d_lookup_fr rfl (mem_at 0 rfl) rfl (hv_fact (mem_at 1 rfl)) Try.underlying58 keyAt ty85 (fun o2 => ?_))
              refine tai_2 (i := 3) (j := 4) (by kernel_rfl) ?_ ?_
              · refine taiop rfl rfl calm_field (d_as_bool (fun K' hK => d_field (K := K') rfl (mem_at 0 rfl) rfl Try.underlying85 rfl rfl ty4 fl_Reach_object_reached trivial hK) ?_)
                refine tai_1 (i := 4) (by kernel_rfl) ?_
                refine taiop rfl rfl calm_load (d_as_bool (fun K' hK => d_load_place (K := K') rfl (mem_at 5 rfl) ty4 hK) ?_)
                refine tai_1 (i := 5) (by kernel_rfl) ?_
                refine taiop rfl rfl calm_bin (d_eql_bool rfl rfl Try.underlying4 ?_)
                refine tai_done (by kernel_rfl) ?_
                exact q_cut () trivial ⟨rfl, rfl, rfl, trivial⟩ ⟨mem_at 3 rfl, trivial⟩ [0, 1, 2] (Sel.cons rfl (Sel.cons rfl (Sel.cons rfl Sel.nil))) rfl
              · refine taiop rfl rfl calm_load (d_as_bool (fun K' hK => d_load_place (K := K') rfl (mem_at 5 rfl) ty4 hK) ?_)
                refine tai_1 (i := 3) (by kernel_rfl) ?_
                refine taiop rfl rfl calm_field (d_as_bool (fun K' hK => d_field (K := K') rfl (mem_at 0 rfl) rfl Try.underlying85 rfl rfl ty4 fl_Reach_object_reached trivial hK) ?_)
                refine tai_1 (i := 5) (by kernel_rfl) ?_
                refine taiop rfl rfl calm_bin (d_eql_bool rfl rfl Try.underlying4 ?_)
                refine tai_done (by kernel_rfl) ?_
                exact q_cut () trivial ⟨rfl, rfl, rfl, trivial⟩ ⟨mem_at 3 rfl, trivial⟩ [0, 1, 2] (Sel.cons rfl (Sel.cons rfl (Sel.cons rfl Sel.nil))) rfl
            · refine taiop rfl rfl calm_load (d_as_bool (fun K' hK => d_load_place (K := K') rfl (mem_at 4 rfl) ty4 hK) ?_)
              refine tai_1 (i := 2) (by kernel_rfl) ?_
              refine taiop rfl rfl calm_lookup (d_lookup_fr rfl (mem_at 0 rfl) rfl (hv_fact (mem_at 1 rfl)) Try.underlying58 keyAt ty85 (fun o2 => ?_))
              refine tai_1 (i := 3) (by kernel_rfl) ?_
              refine taiop rfl rfl calm_field (d_as_bool (fun K' hK => d_field (K := K') rfl (mem_at 0 rfl) rfl Try.underlying85 rfl rfl ty4 fl_Reach_object_reached trivial hK) ?_)
              refine tai_1 (i := 5) (by kernel_rfl) ?_
              refine taiop rfl rfl calm_bin (d_eql_bool rfl rfl Try.underlying4 ?_)
              refine tai_done (by kernel_rfl) ?_
              exact q_cut () trivial ⟨rfl, rfl, rfl, trivial⟩ ⟨mem_at 3 rfl, trivial⟩ [0, 1, 2] (Sel.cons rfl (Sel.cons rfl (Sel.cons rfl Sel.nil))) rfl
          · refine taiop rfl rfl calm_load (d_as_bool (fun K' hK => d_load_place (K := K') rfl (mem_at 3 rfl) ty4 hK) ?_)
            refine tai_1 (i := 0) (by kernel_rfl) ?_
            refine taiop rfl rfl calm_load (d_load_place rfl (mem_at 4 rfl) ty58k (fun m0 => ?_))
            refine tai_1 (i := 2) (by kernel_rfl) ?_
            refine taiop rfl rfl calm_lookup (d_lookup_fr rfl (mem_at 0 rfl) rfl (hv_fact (mem_at 1 rfl)) Try.underlying58 keyAt ty85 (fun o2 => ?_))
            refine tai_1 (i := 3) (by kernel_rfl) ?_
            refine taiop rfl rfl calm_field (d_as_bool (fun K' hK => d_field (K := K') rfl (mem_at 0 rfl) rfl Try.underlying85 rfl rfl ty4 fl_Reach_object_reached trivial hK) ?_)
            refine tai_1 (i := 5) (by kernel_rfl) ?_
            refine taiop rfl rfl calm_bin (d_eql_bool rfl rfl Try.underlying4 ?_)
            refine tai_done (by kernel_rfl) ?_
            exact q_cut () trivial ⟨rfl, rfl, rfl, trivial⟩ ⟨mem_at 3 rfl, trivial⟩ [0, 1, 2] (Sel.cons rfl (Sel.cons rfl (Sel.cons rfl Sel.nil))) rfl
        · refine taiop rfl rfl calm_load (d_as_bool (fun K' hK => d_load_place (K := K') rfl (mem_at 2 rfl) ty4 hK) ?_)
          refine tai_2 (i := 0) (j := 1) (by kernel_rfl) ?_ ?_
          · refine taiop rfl rfl calm_load (d_load_place rfl (mem_at 3 rfl) ty58k (fun m0 => ?_))
            refine tai_1 (i := 1) (by kernel_rfl) ?_
            refine taiop rfl rfl calm_load (d_load_box 2 rfl rfl (Fld.self idR) trivial ty29 rfl (fun k1 => ?_))
            refine tai_1 (i := 2) (by kernel_rfl) ?_
            refine taiop rfl rfl calm_lookup (d_lookup_fr rfl (mem_at 1 rfl) rfl (hv_fact (mem_at 0 rfl)) Try.underlying58 keyAt ty85 (fun o2 => ?_))
            refine tai_1 (i := 3) (by kernel_rfl) ?_
            refine taiop rfl rfl calm_field (d_as_bool (fun K' hK => d_field (K := K') rfl (mem_at 0 rfl) rfl Try.underlying85 rfl rfl ty4 fl_Reach_object_reached trivial hK) ?_)
            refine tai_1 (i := 5) (by kernel_rfl) ?_
            refine taiop rfl rfl calm_bin (d_eql_bool rfl rfl Try.underlying4 ?_)
            refine tai_done (by kernel_rfl) ?_
            exact q_cut () trivial ⟨rfl, rfl, rfl, trivial⟩ ⟨mem_at 3 rfl, trivial⟩ [0, 1, 2] (Sel.cons rfl (Sel.cons rfl (Sel.cons rfl Sel.nil))) rfl
          · refine taiop rfl rfl calm_load (d_load_box 2 rfl rfl (Fld.self idR) trivial ty29 rfl (fun k1 => ?_))
            refine tai_1 (i := 0) (by kernel_rfl) ?_
            refine taiop rfl rfl calm_load (d_load_place rfl (mem_at 4 rfl) ty58k (fun m0 => ?_))
            refine tai_1 (i := 2) (by kernel_rfl) ?_
            refine taiop rfl rfl calm_lookup (d_lookup_fr rfl (mem_at 0 rfl) rfl (hv_fact (mem_at 1 rfl)) Try.underlying58 keyAt ty85 (fun o2 => ?_))
            refine tai_1 (i := 3) (by kernel_rfl) ?_
            refine taiop rfl rfl calm_field (d_as_bool (fun K' hK => d_field (K := K') rfl (mem_at 0 rfl) rfl Try.underlying85 rfl rfl ty4 fl_Reach_object_reached trivial hK) ?_)
            refine tai_1 (i := 5) (by kernel_rfl) ?_
            refine taiop rfl rfl calm_bin (d_eql_bool rfl rfl Try.underlying4 ?_)
            refine tai_done (by kernel_rfl) ?_
            exact q_cut () trivial ⟨rfl, rfl, rfl, trivial⟩ ⟨mem_at 3 rfl, trivial⟩ [0, 1, 2] (Sel.cons rfl (Sel.cons rfl (Sel.cons rfl Sel.nil))) rfl
      rintro _ _
      refine qi_then_code ?_
      refine ti_cond rfl (fun hd => ?_) (fun hd => ?_)
      · refine ti_region ?_
        refine tli_d rfl calm_load (d_load_val 0 rfl rfl ty23v rfl ?_)
        refine tli_d rfl calm_load (d_load_box 2 rfl rfl (Fld.self idR) trivial ty29 rfl (fun k17 => ?_))
        refine tli_g [] rfl calm_buildSlice (g_buildSlice (R := idR) (l := [kl]) rfl Try.underlying23 ty29 ⟨rfl, by decide, by decide, by decide⟩ (PartsOk.cons rfl rfl (hv_fact (mem_at 0 rfl)) PartsOk.nil) rfl (fun v18 => ?_))
        refine tli_g [1] rfl calm_append (g_append_buf (l := l0) (l2 := [kl]) 1 3 rfl rfl rfl rfl rfl rfl Try.underlying23 ⟨_, Try.underlying23, fun k h => by cases h⟩ ty29 ?_ (by decide) (fun v19 => ?_))
        · unfold fits at hfit
          simp only [List.length_singleton]
          constructor <;> omega
        refine tli_buf_one 1 rfl (fun h1 => ?_)
        refine tli_g [0] rfl calm_store (g_store_box (R := rVal (.slice none 0 0) rfl) 0 rfl rfl rfl (Fld.self _) trivial (hv_val h1) ty23v (by decide) ?_)
        refine tli_nil ?_
        refine q_block_normal ?_
        refine fun a3 w3 hs3 => ⟨rfl, _, _, _, _, 0, hs3, rfl, ?_⟩
        rw [if_pos (by simpa using hd)]
        rfl
      · refine ti_skip ?_
        refine q_block_normal ?_
        refine fun a3 w3 hs3 => ⟨rfl, _, _, _, _, 0, hs3, rfl, ?_⟩
        rw [if_neg (by simpa using hd), List.append_nil]
        rfl
    · intro D v xs hS
      have hperm : (pickL a0 a1 (xs.map fun x => dat x.1)).Perm (thoseL a0 a1) := by
        have h1 : (xs.map fun x => dat x.1).Perm a0 := by
          have := hS.map dat
          rw [hmapd, List.map_map] at this
          exact this
        unfold pickL thoseL
        exact (h1.filter _).map _
      refine (show QT _ _ _ _ _ from ?_)
      refine q_block_normal ?_
      refine q_then_code ?_
      refine t_seq ?_
      refine t_region ?_
      refine tl_d rfl (d_load_val 2 rfl rfl ty23v rfl ?_)
      refine tl_g [4] rfl (g_sort (R := idR) (c := cmpSub 32) 4 rfl hfn39 sorts39 sortsNone39 rfl (ordC_sub 32).swo hcmp rfl rfl (by decide) (fun l' hp hs' => ?_))
      refine tl_nil ?_
      refine q_then_code ?_
      refine t_seq ?_
      refine t_region ?_
      refine tl_d rfl (d_load_val 2 rfl rfl ty23v rfl ?_)
      refine tl_d rfl (d_assign rfl ?_)
      refine tl_nil ?_
      refine q_then_code ?_
      refine t_ret ?_
      obtain rfl := hsort _ _ hperm hp hs'
      exact q_retM (post := fun w w' m v => OwnRes idR 32 w w' m v (sortN (cmpSub 32) (thoseL a0 a1))) (l := sortN (cmpSub 32) (thoseL a0 a1)) 4 5 (Flat.arr Flat.int) hR rfl rfl rfl rfl (fun w h => h)
#print axioms reach_those_of
end Go.Proofs.Ytbcipfhhmkjigaa
