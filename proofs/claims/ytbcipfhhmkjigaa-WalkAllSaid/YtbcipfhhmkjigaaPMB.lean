/- slices.SortedFunc over maps.Keys of a map of counts: the contract. -/
import Derived.Test.YtbcipfhhmkjigaaPKB
import Derived.Test.YtbcipfhhmkjigaaPO
import Derived.Test.YtbcipfhhmkjigaaPL
import Derived.Test.YtbcipfhhmkjigaaCfP
set_option linter.unusedVariables false
set_option linter.unusedSimpArgs false
open Go Go.Cf Go.Proofs Go.RowKit Go.Shelf Go.Sort Go.Lib
namespace Go.Proofs.Ytbcipfhhmkjigaa
theorem sorts39b : SortsK Try.prog 39 34 32 := by
  intro α _ enc hk h1 cf hO blk off cap d w hcmp hH hblk hsz
  have eg : ∀ args w, (callFunc 34 args).run Try.prog w = .ok (.enter 34 args) w := enters_of Try.func34 (by kernel_rfl) rfl
  exact AnyQ.slices_SortFunc Try.sort39 32 ty29''.run_agg ty29''.run_size enc hk h1 cf hO 34 #[] blk off cap d w eg hcmp hH hblk hsz
abbrev cntR : Rep (List (List Int × Int)) := rMp idR (rInt .i64)
theorem enters50 : ∀ args w, (callFunc 50 args).run Try.prog w = .ok (.enter 50 args) w := enters_of Try.func50 (by kernel_rfl) rfl
theorem hfk33 : HasFn Try.prog 33 := ⟨Try.f33, Try.func33, by decide, _, rfl⟩
theorem hfk65 : HasFn Try.prog 65 := ⟨Try.f65, Try.func65, by decide, _, rfl⟩
theorem hfk49 : HasFn Try.prog 49 := ⟨Try.f49, Try.func49, by decide, _, rfl⟩
theorem hfk32 : HasFn Try.prog 32 := ⟨Try.f32, Try.func32, by decide, _, rfl⟩
/-- What comes of a collection: the names, in some order. -/
def Collected (a0 : List (List Int × Int)) (w w' : World) (m : List Nat) (v : Value) : Prop := ∃ l, (l.Perm (a0.map (·.1)) ∧ ∀ x ∈ l, x.length = 32) ∧ OwnRes idR 32 w w' m v l
set_option maxRecDepth 100000 in
set_option maxHeartbeats 2000000 in
theorem append65 (a0 : List (List Int × Int)) (bk : Nat) (hfit : fits 32 a0.length) : FnX false Try.prog 65 [.slice none 0 0, .func (.func 50) #[] #[.pointer (some ⟨bk, 0, none⟩)]] (fun w m => cntR.at_ w m ⟨bk, 0, none⟩ a0) (fun w w' m v => Collected a0 w w' m v) := by
  refine fn_ofM Try.func65 rfl (Nat.le_of_ble_eq_true rfl) [cntR.place ⟨bk, 0, none⟩ a0] (fun w m h f hf => by simp at hf; subst hf; exact h) ?_
  intro w0 m0 R hR
  refine t_seq ?_
  refine t_region ?_
  refine tl_g [] rfl (g_box (R := rVal (.slice none 0 0) rfl) (y := .slice none 0 0) rfl rfl (hv_val rfl) (fun b5 => ?_))
  refine tl_d rfl (d_assign rfl ?_)
  refine tl_nil ?_
  refine q_then_code ?_
  refine t_seq ?_
  refine t_seq ?_
  refine t_region ?_
  refine tl_d rfl (d_move rfl ?_)
  refine tl_nil ?_
  refine q_then_code ?_
  refine t_block ?_
  intro a w hs
  obtain ⟨cs, hcs, _, hbm, c, T, fr, hbk, pre, post, hc, hpre⟩ := hs.place (R := cntR) (p := ⟨bk, 0, none⟩) (x := a0) (mem_at 0 rfl)
  have hpre : pre = [] := List.length_eq_zero_iff.1 hpre
  subst hpre
  rw [List.nil_append] at hc
  have hbk : w.heap[bk]? = some (.cells c T fr) := hbk
  have cell0 : ∀ x, cs = [x] → w.cell? ⟨bk, 0, none⟩ = some x := fun x e => by
    subst e
    obtain ⟨c⟩ := c
    have hc : c = [x] ++ post := hc
    subst hc
    simp [World.cell?, hbk]
  rcases hcs with ⟨hcs, ha0⟩ | ⟨b, hcs, _, es, cl, hb, hrows, hborn⟩
  · refine wp_collect hs rfl rfl enters50 rfl (n := 3) (by decide) (keys50_nil Fence.wide 2 trivial rfl bk w (cell0 _ hcs) (lt_of_get hbk)) (R := idR) (nb := 32) (z := .slice none 0 0) (hz := rfl) (Flat.arr Flat.int) 0 rfl (fun _ => []) rfl ?_ ?_
    · intro l pre x hlen
      simp at hlen
    · intro D v xs hS
      refine (show QT _ _ _ _ _ from ?_)
      refine q_block_normal ?_
      refine q_then_code ?_
      refine t_seq ?_
      refine t_region ?_
      refine tl_d rfl (d_load_val 0 rfl rfl ty23v rfl ?_)
      refine tl_d rfl (d_assign rfl ?_)
      refine tl_nil ?_
      refine q_then_code ?_
      refine t_ret ?_
      exact q_retM (post := fun w w' m v => Collected a0 w w' m v) (l := ([] : List (List Int))) 1 2 (Flat.arr Flat.int) hR rfl rfl rfl rfl (fun w h => ⟨[], ⟨by rw [ha0]; exact List.Perm.refl _, (by intro x hx; cases hx)⟩, h⟩)
  · obtain ⟨L, e1, e2, e3⟩ := hrows.zip
    have hnd : (L.map (·.1)).Nodup := by rw [e1]; exact nodup_of_map hborn.nodup
    obtain ⟨dat, hdat⟩ := zip_fun L hnd
    have hesl : es.size = a0.length := by have := hrows.len; simpa using this
    have hkey : ∀ e ∈ es.toList, ∀ w m, idR.val w m e.key (dat e).1 := fun e he w' m' => by
      rw [← e1] at he
      obtain ⟨q, hq, rfl⟩ := List.mem_map.1 he
      rw [hdat q hq]
      obtain ⟨c1, h1, h2⟩ := (e3 q hq).1
      exact ⟨c1, Flat.arr Flat.int _ _ _ _ _ _ h1, h2⟩
    have hmapd : es.toList.map dat = a0 := by
      rw [← e1, ← e2, List.map_map]
      exact List.map_congr_left fun q hq => hdat q hq
    have hlen32 : ∀ x ∈ a0, x.1.length = 32 := fun x hx => by
      rw [← e2] at hx
      obtain ⟨q, hq, rfl⟩ := List.mem_map.1 hx
      obtain ⟨_, ⟨h, _⟩, _⟩ := (e3 q hq).1
      exact h
    refine wp_collect hs rfl rfl enters50 rfl (n := 3) (by decide) (keys50 Fence.wide 2 trivial rfl (by decide) bk b es cl w (cell0 _ hcs) (lt_of_get hbk) hb hborn (fun e he => ⟨_, hkey e he⟩)) (R := idR) (nb := 32) (z := .slice none 0 0) (hz := rfl) (Flat.arr Flat.int) 0 rfl (fun xs => (xs.map fun x => dat x.1).map (·.1)) rfl ?_ ?_
    · intro l pre x hlen
      have hl1 : ((pre.map fun x => dat x.1).map (·.1)).length + 1 ≤ a0.length := by
        simp only [List.length_map]; omega
      rw [List.map_append, List.map_append]
      show RoundOk _ _ _ _ _ _ _ _ _ _ _ _ _ _ ((pre.map fun x => dat x.1).map (·.1)) ((pre.map fun x => dat x.1).map (·.1) ++ [(dat x.1).1])
      generalize (pre.map fun x => dat x.1).map (·.1) = l0 at hl1 ⊢
      have hk := hkey x.1 x.2
      generalize (dat x.1).1 = kl at hk ⊢
      generalize x.1.key = key at hk ⊢
      intro W v kp
      refine ti_more (idR.fact key kl) hk ?_
      refine ti_region ?_
      refine tli_g [] rfl calm_alloc (g_alloc rfl ty29 (fun b6 => ?_))
      refine tli_g [2] rfl calm_store (g_store_box (R := idR) 2 rfl rfl rfl (Fld.self _) trivial (hv_fact (mem_at 0 rfl)) ty29 (by decide) ?_)
      refine tli_nil ?_
      refine fun aa ww hs => ⟨_, _, _, hs, ?_, ⟨_, rfl⟩, fun W2 => ?_⟩
      · intro o ho
        simp at ho
        rcases ho with rfl | rfl | rfl
        · exact CellOwn.box
        · exact CellOwn.buf
        · exact CellOwn.box
      refine ti_block ?_
      refine ti_region ?_
      refine tli_d rfl calm_load (d_load_val 0 rfl rfl ty23v rfl ?_)
      refine tli_d rfl calm_load (d_load_box 2 rfl rfl (Fld.self idR) trivial ty29 rfl (fun k17 => ?_))
      refine tli_g [] rfl calm_buildSlice (g_buildSlice (R := idR) (l := [kl]) rfl Try.underlying23 ty29 ⟨rfl, by decide, by decide, by decide⟩ (PartsOk.cons rfl rfl (hv_fact (mem_at 0 rfl)) PartsOk.nil) rfl (fun v18 => ?_))
      refine tli_g [1] rfl calm_append (g_append_buf (l := l0) (l2 := [kl]) 1 3 rfl rfl rfl rfl rfl rfl Try.underlying23 ⟨_, Try.underlying23, fun k h => by cases h⟩ ty29 ?_ (by decide) (fun v19 => ?_))
      · unfold fits at hfit
        simp only [List.length_singleton]
        constructor <;> omega
      refine tli_buf_one 1 rfl (fun h1 => ?_)
      refine tli_g [0] rfl calm_store (g_store_box (R := rVal (.slice none 0 0) rfl) 0 rfl rfl rfl (Fld.self _) trivial (hv_val h1) ty23v (by decide) ?_)
      refine tli_nil ?_
      refine q_block_normal ?_
      exact fun a3 w3 hs3 => ⟨rfl, _, _, _, _, 0, hs3, rfl, rfl⟩
    · intro D v xs hS
      have h1 : (xs.map fun x => dat x.1).Perm a0 := by
        have := hS.map dat
        rw [hmapd, List.map_map] at this
        exact this
      refine (show QT _ _ _ _ _ from ?_)
      refine q_block_normal ?_
      refine q_then_code ?_
      refine t_seq ?_
      refine t_region ?_
      refine tl_d rfl (d_load_val 0 rfl rfl ty23v rfl ?_)
      refine tl_d rfl (d_assign rfl ?_)
      refine tl_nil ?_
      refine q_then_code ?_
      refine t_ret ?_
      exact q_retM (post := fun w w' m v => Collected a0 w w' m v) (l := (xs.map fun x => dat x.1).map (·.1)) 1 2 (Flat.arr Flat.int) hR rfl rfl rfl rfl (fun w h => ⟨_, ⟨h1.map _, (by
        intro x hx
        obtain ⟨p, hp, rfl⟩ := List.mem_map.1 hx
        exact hlen32 p (h1.mem_iff.1 hp))⟩, h⟩)
set_option maxRecDepth 100000 in
theorem collect49 (a0 : List (List Int × Int)) (bk : Nat) (hfit : fits 32 a0.length) : FnX false Try.prog 49 [.func (.func 50) #[] #[.pointer (some ⟨bk, 0, none⟩)]] (fun w m => cntR.at_ w m ⟨bk, 0, none⟩ a0) (fun w w' m v => Collected a0 w w' m v) := by
  refine fn_of Try.func49 rfl (Nat.le_of_ble_eq_true rfl) [cntR.place ⟨bk, 0, none⟩ a0] (fun w m h f hf => by simp at hf; subst hf; exact h) ?_
  intro w0 m0 R hR
  refine t_seq ?_
  refine t_region ?_
  refine tl_d rfl (d_assign rfl ?_)
  refine tl_nil ?_
  refine q_then_code ?_
  refine t_seq ?_
  refine t_region ?_
  refine tl_d rfl (d_move rfl ?_)
  refine tl_g [] rfl (g_call_ownE rfl hfk65 (append65 a0 bk hfit) (Evs.cons rfl (Evs.cons rfl Evs.nil)) (fun a w hs => hs.place (mem_at 0 rfl)) (fun v l hZ => ?_))
  refine tl_d rfl (d_assign rfl ?_)
  refine tl_nil ?_
  refine q_then_code ?_
  refine t_ret ?_
  refine q_ret (post := fun w w' m v => Collected a0 w w' m v) hR _ (.inl rfl) (fun a w hs => ?_)
  exact ⟨_, run_results rfl (RvOk.cons (rv_tmp hs rfl) RvOk.nil), _, hZ, hs.ownres (i := 0) rfl⟩
/-- The names of a map, in order. -/
def namesOf (a0 : List (List Int × Int)) : List (List Int) := sortN (cmpSub 32) (a0.map (·.1))
def slices_SortedFunc.f (a0 : List (List Int × Int)) : Option (List (List Int)) := need (fits 32 a0.length) (some (namesOf a0))
set_option maxRecDepth 100000 in
theorem slices_SortedFunc_of (hcmp : ∀ (x y : List Int) (u1 u2 : Value), FnX true Try.prog 34 [u1, u2] (fun w m => idR.val w m u1 x ∧ idR.val w m u2 y) (fun _ w' m v => (rInt .i64).val w' m v (cmpSub 32 x y)))
    (a0 : List (List Int × Int)) (bk : Nat) (r : List (List Int)) (hf : slices_SortedFunc.f a0 = some r) : FnX false Try.prog 32 [.func (.func 50) #[] #[.pointer (some ⟨bk, 0, none⟩)], .func (.func 34) #[] #[]] (fun w m => cntR.at_ w m ⟨bk, 0, none⟩ a0) (fun w w' m v => OwnRes idR 32 w w' m v r) := by
  unfold slices_SortedFunc.f at hf
  obtain ⟨hfit, hf⟩ := need_some hf
  have hr := Option.some.inj hf; subst hr
  refine fn_of Try.func32 rfl (Nat.le_of_ble_eq_true rfl) [cntR.place ⟨bk, 0, none⟩ a0] (fun w m h f hf => by simp at hf; subst hf; exact h) ?_
  intro w0 m0 R hR
  refine t_seq ?_
  refine t_region ?_
  refine tl_d rfl (d_assign rfl ?_)
  refine tl_nil ?_
  refine q_then_code ?_
  refine t_seq ?_
  refine t_region ?_
  refine tl_d rfl (d_move rfl ?_)
  refine tl_g [] rfl (g_call_ownE rfl hfk49 (collect49 a0 bk hfit) (Evs.cons rfl Evs.nil) (fun a w hs => hs.place (mem_at 0 rfl)) (fun v l hZ => ?_))
  refine tl_d rfl (d_assign rfl ?_)
  refine tl_nil ?_
  refine q_then_code ?_
  refine t_seq ?_
  refine t_region ?_
  refine tl_d rfl (d_move rfl ?_)
  refine tl_d rfl (d_move rfl ?_)
  refine tl_g [0] rfl (g_sort2 (R := idR) (c := cmpSub 32) 0 rfl hfn39 sorts39b sortsNone39 rfl (ordC_sub 32).swo hcmp rfl rfl rfl (by decide) (fun l' hp hs' => ?_))
  refine tl_nil ?_
  refine q_then_code ?_
  refine t_seq ?_
  refine t_region ?_
  refine tl_d rfl (d_move rfl ?_)
  refine tl_d rfl (d_assign rfl ?_)
  refine tl_nil ?_
  refine q_then_code ?_
  refine t_ret ?_
  have e : l' = namesOf a0 := sort_is (ordC_sub 32) (fun x hx => hZ.2 x (hZ.1.mem_iff.2 hx)) (hp.trans hZ.1) hs'
  subst e
  refine q_ret (post := fun w w' m v => OwnRes idR 32 w w' m v (namesOf a0)) hR _ (.inl rfl) (fun a w hs => ?_)
  exact ⟨_, run_results rfl (RvOk.cons (rv_tmp hs rfl) RvOk.nil), hs.ownres (i := 0) rfl⟩
#print axioms slices_SortedFunc_of
end Go.Proofs.Ytbcipfhhmkjigaa
