/- maps.Keys$1 of a map of counts: the iterator's contract. -/
import Derived.Test.YtbcipfhhmkjigaaPT
import Derived.Test.YtbcipfhhmkjigaaCfF
import Derived.Shelf.AbstractIn
import Derived.RangeFuncSeq
import Derived.WalkKit
import Derived.OwnWalkIn
import Derived.TacticsInMore
import Derived.RegionIn
import Derived.LoopNIn
import Derived.LoopIn
import Derived.Laws.IdiomRangeMap
set_option linter.unusedVariables false
open Go Go.Cf Go.Proofs Go.RowKit
namespace Go.Proofs.Ytbcipfhhmkjigaa
theorem ty29k : TyOk Try.prog 29 (rArr 32 (rInt .u8)) 32 := ty_of (by kernel_rfl) Try.underlying29 rfl
set_option maxRecDepth 100000 in
set_option maxHeartbeats 2000000 in
theorem keys50 (F : Fence) (n : Nat) (hF : F.fn 50) (hro : F.round = none) (hn : 1 ≤ n) (Bm b : Nat) (es : Array MapEntry) (c : Nat) (w : World) (hBm : w.cell? ⟨Bm, 0, none⟩ = some (.map (some b))) (hBl : Bm < w.heap.size) (hb : w.heap[b]? = some (.map es c)) (hB : Born es.toList c)
    (hk : ∀ e ∈ es.toList, ∃ l : List Int, ∀ w m, (rArr 32 (rInt .u8)).val w m e.key l) :
    SeqStopsA F n Try.prog 50 #[.pointer (some ⟨Bm, 0, none⟩)] (fun e : { e // e ∈ es.toList } => #[e.1.key]) (fun xs => (xs.map (·.1)).Perm es.toList) (fun _ => True) es.size w := fun l J Jx W hW hJ hJx hY h0 => by
  have mixed := mixed
  have t68 := Try.underlying68; have t29 := Try.underlying29; have t4 := Try.underlying4
  have a68 : ∀ w, (isAgg 68).run Try.prog w = .ok false w := run_isAgg_plain Try.underlying68 rfl
  have a29 := ty29k.run_agg; have z29 := ty29k.run_size; have v29 := ty29k.run_zero
  have u68 := run_underlying (P := Try.prog) Try.underlying68; have u29 := run_underlying (P := Try.prog) Try.underlying29; have u4 := run_underlying (P := Try.prog) Try.underlying4
  have hmW : W.cell? ⟨Bm, 0, none⟩ = some (.map (some b)) := (hW.cell (p := ⟨Bm, 0, none⟩) hBl).trans hBm
  have hbW : W.heap[b]? = some (.map es c) := (hW.block b (lt_of_get hb)).trans hb
  refine callsIn_of_wp Try.func50 rfl hF ?_ hro
  simp only [show Try.f50.ntmps = 14 from rfl, List.size_toArray, List.length_cons, List.length_nil, Nat.reduceAdd, Nat.reduceSub, Array.replicate_succ, Array.replicate_zero, List.push_toArray, List.append_toArray, List.nil_append, List.cons_append]
  gi_wp2_with (first
    | (gi_at_range; refine wpListIn_range_iter _ rfl _ 68 rfl Try.underlying68 b rfl hbW hB ?_; intro w0 hi0 hg0 hs0)
    | gi_in)
  gi_loopw [] (fun wr => ∃ xs : List { e // e ∈ es.toList }, Iter wr b W.heap.size es c (xs.map (·.1)) ∧ J xs wr ∧ W.heap.size < wr.heap.size)
    (fun wr => Cf.leftN b W.heap.size es.size wr)
  case atStart => exact ⟨[], hi0, hJ [] W w0 none h0 hg0 (fun r e => by cases e), by omega⟩
  case round =>
    obtain ⟨xs, hi, hJs, hlt⟩ := hrel
    gi_wp2_with (first
      | (gi_at_next; refine wpListIn_next_iter _ rfl _ rfl b W.heap.size rfl hi ?_ ?_)
      | gi_in)
    · intro hp
      gi_wp2
      go_end0
      exact ⟨⟨_, rfl⟩, .inl ⟨xs, hp, hJs⟩⟩
    · intro e w2 he hi2 hg2 hs2 hen
      have he' : e ∈ es.toList := by simpa using he
      obtain ⟨kl, hkv⟩ := hk e he'
      have hfact : ((rArr 32 (rInt .u8)).fact e.key kl).p w2 [] := hkv w2 []
      have hs := okst_frame (P := Try.prog) (w := w2) [.func (.yield l) #[] #[], .pointer (some ⟨Bm, 0, none⟩), undef, u3, .map (some b), .pointer (some ⟨W.heap.size, 0, none⟩), .tuple #[.bool true, e.key, e.val], u7, u8, u9, u10, u11, u12, u13] [(rArr 32 (rInt .u8)).fact e.key kl] (by intro f hf; simp at hf; subst hf; exact hfact)
      refine (show TLI F n ⟨Try.prog, w2, 14, [], [], fun _ => True, true⟩ _ _ _ _ _ _ from ?_) _ _ hs
      refine tli_d rfl calm_extract (d_extract rfl rfl ?_)
      refine tli_nil ?_
      rename_i K1 hK1
      refine fun a1 w1 hs1 => hK1 a1 w1 ((show TI F n ⟨Try.prog, w2, 14, [], [], fun _ => True, true⟩ _ _ _ _ _ from ?_) a1 w1 hs1)
      refine ti_seq ?_
      refine ti_cond rfl (fun _ => ?_) (fun h => by cases h)
      refine ti_skip ?_
      refine qi_then_code ?_
      refine ti_block ?_
      refine ti_seq ?_
      refine ti_region ?_
      refine tli_d rfl calm_entry (d_entry hi2 (fun _ => trivial) rfl ?_)
      refine tli_d rfl calm_extract (d_extract rfl rfl ?_)
      refine tli_g [] rfl calm_alloc (g_alloc rfl ty29k (fun b1 => ?_))
      refine tli_g _ rfl calm_store (g_store_box (R := rArr 32 (rInt .u8)) 0 rfl rfl rfl (Fld.self _) trivial (hv_fact (mem_at 0 rfl)) ty29k (List.mem_singleton_self _) ?_)
      refine tli_nil ?_
      refine qi_then_code ?_
      refine ti_seq ?_
      refine ti_region ?_
      refine tli_d rfl calm_move (d_move rfl ?_)
      refine tli_d rfl calm_load (d_load_box 0 rfl rfl (Fld.self (rArr 32 (rInt .u8))) trivial ty29k rfl (fun v1 => ?_))
      intro a3 w3 hs3
      have hv1 : v1 = e.key := id_val (hs3.fact (R := rArr 32 (rInt .u8)) (x := kl) (mem_at 0 rfl)) (hkv w3 [])
      subst hv1
      have hJ2 : J xs w2 := hJ xs wr w2 (some W.heap.size) hJs hg2 (fun r er => by
        cases er
        obtain ⟨since, hr, _⟩ := hi.it
        exact ⟨Nat.le_refl _, _, hr, rfl⟩)
      have hJ3 : J xs w3 := hJ xs w2 w3 none hJ2 (hs3.below.grown fun _ => trivial) (fun r er => by cases er)
      have hlen : xs.length < es.size := by have := hi2.len; simp at this; omega
      obtain ⟨fn', tmps', as', bd', hy, hR⟩ := hY xs ⟨e, he'⟩ w3 hJ3 hlen
      refine wpListIn_plain rfl fun K3 hK3 => ?_
      have e10 : a3.eval (.tmp 10) = .func (.yield l) #[] #[] := hs3.ev rfl
      have e11 : a3.eval (.tmp 11) = e.key := hs3.ev rfl
      refine ⟨?_, ?_⟩
      · simp [Oper.about, resolve, Deferred.ofValue, e10, Target.leads, Sem.run_pure]
      · rw [Oper.semAt_plain F _ _ (by intro c hc; cases hc)]
        have hrun : (execOp a3.eval { dst := some 12, op := Op.call { callee := Callee.value (Operand.tmp 10), args := #[Operand.tmp 11], argTypes := #[29] }, type := 4, pos := "iter.go:28", after := #[{ on := 0, ground := Ground.data }, { on := 1, ground := Ground.data }], guard := none }).run Try.prog w3 = .ok (.round l fn' tmps' as' bd') w3 := by
          simp [execOp, resolve, Deferred.ofValue, invoke, e10, e11, hy]
        rw [hrun]
        refine ⟨fun _ => hn, hR.mono ?_⟩
        rintro e4 w4 (⟨rfl, hJ4, hk4⟩ | ⟨rfl, hJ4⟩)
        · refine hK3 _ _ ?_
          have hs4 : OKst ⟨Try.prog, w4, 14, [], [], fun _ => True, true⟩ _ _ _ _ _ := (hs3.restart w4).put (d := 12) (show 12 < 14 by decide) (.bool true) (fs := []) (by intro f hf; cases hf)
          refine (show TLI F n ⟨Try.prog, w4, 14, [], [], fun _ => True, true⟩ _ _ _ _ _ _ from ?_) _ _ hs4
          refine tli_d rfl calm_un (d_not rfl ?_)
          refine tli_nil ?_
          refine qi_then_code ?_
          refine ti_cond rfl (fun h => by simp at h) (fun _ => ?_)
          refine ti_skip ?_
          refine q_block_normal ?_
          intro a5 w5 hs5
          obtain ⟨x0, x1, x2, x3, x4, x5, x6, x7, x8, x9, x10, x11, x12, x13, rfl⟩ := act14 hs5.defers hs5.size
          have g0 : x0 = _ := Option.some.inj (hs5.env 0 _ rfl)
          have g1 : x1 = _ := Option.some.inj (hs5.env 1 _ rfl)
          have g2 : x2 = _ := Option.some.inj (hs5.env 2 _ rfl)
          have g4 : x4 = _ := Option.some.inj (hs5.env 4 _ rfl)
          have g5 : x5 = _ := Option.some.inj (hs5.env 5 _ rfl)
          subst g0; subst g1; subst g2; subst g4; subst g5
          have hi3 : Iter w3 b W.heap.size es c (xs.map (·.1) ++ [e]) := hi2.past hs3.below (fun _ => trivial)
          have hi5 : Iter w5 b W.heap.size es c ((xs ++ [(⟨e, he'⟩ : { e // e ∈ es.toList })]).map (fun x => x.1)) := by
            rw [List.map_append]
            exact (hi3.walks hk4).past hs5.below (fun _ => trivial)
          have hJ5 : J (xs ++ [⟨e, he'⟩]) w5 := hJ _ w4 w5 none hJ4 (hs5.below.grown fun _ => trivial) (fun r er => by cases er)
          have hsz5 : W.heap.size < w5.heap.size := by
            obtain ⟨since, hr, _⟩ := hi5.it
            exact lt_of_get hr
          go_roundw
          case rel => exact ⟨_, _, _, _, _, _, _, _, _, ⟨_, hi5, hJ5, hsz5⟩, rfl⟩
          case measure =>
            rw [hi5.leftN, hi.leftN]
            simp
            omega
        · refine hK3 _ _ ?_
          have hs4 : OKst ⟨Try.prog, w4, 14, [], [], fun _ => True, true⟩ _ _ _ _ _ := (hs3.restart w4).put (d := 12) (show 12 < 14 by decide) (.bool false) (fs := []) (by intro f hf; cases hf)
          refine (show TLI F n ⟨Try.prog, w4, 14, [], [], fun _ => True, true⟩ _ _ _ _ _ _ from ?_) _ _ hs4
          refine tli_d rfl calm_un (d_not rfl ?_)
          refine tli_nil ?_
          refine qi_then_code ?_
          refine ti_cond rfl (fun _ => ?_) (fun h => by simp at h)
          intro a5 w5 hs5
          refine wpIn_ret ?_
          have hJ5 := hJx _ w4 w5 none hJ4 (hs5.below.grown fun _ => trivial) (fun r er => by cases er)
          obtain ⟨x0, x1, x2, x3, x4, x5, x6, x7, x8, x9, x10, x11, x12, x13, rfl⟩ := act14 hs5.defers hs5.size
          have hfin : bodyPost Try.prog Try.f50 (fun e W' => (∃ v, e = Ending.returned v) ∧ ((∃ xs : List { e // e ∈ es.toList }, (xs.map (fun x => x.1)).Perm es.toList ∧ J xs W') ∨ ∃ pre : List { e // e ∈ es.toList }, True ∧ Jx pre W')) .ret { tmps := #[x0, x1, x2, x3, x4, x5, x6, x7, x8, x9, x10, x11, x12, x13], defers := [] } w5 := bodyPost_ret (results_none rfl _ _ _) rfl ⟨⟨_, rfl⟩, .inr ⟨_, trivial, hJ5⟩⟩
          exact hfin
set_option maxRecDepth 100000 in
set_option maxHeartbeats 1000000 in
theorem keys50_nil (F : Fence) (n : Nat) (hF : F.fn 50) (hro : F.round = none) (Bm : Nat) (w : World) (hBm : w.cell? ⟨Bm, 0, none⟩ = some (.map none)) (hBl : Bm < w.heap.size) :
    SeqStopsA F n Try.prog 50 #[.pointer (some ⟨Bm, 0, none⟩)] (fun e : { e : MapEntry // e ∈ (#[] : Array MapEntry).toList } => #[e.1.key]) (fun xs => (xs.map (·.1)).Perm (#[] : Array MapEntry).toList) (fun _ => True) (#[] : Array MapEntry).size w := fun l J Jx W hW hJ hJx hY h0 => by
  have mixed := mixed
  have t68 := Try.underlying68; have t29 := Try.underlying29; have t4 := Try.underlying4
  have a68 : ∀ w, (isAgg 68).run Try.prog w = .ok false w := run_isAgg_plain Try.underlying68 rfl
  have u68 := run_underlying (P := Try.prog) Try.underlying68; have u29 := run_underlying (P := Try.prog) Try.underlying29; have u4 := run_underlying (P := Try.prog) Try.underlying4
  have hmW : W.cell? ⟨Bm, 0, none⟩ = some (.map none) := (hW.cell (p := ⟨Bm, 0, none⟩) hBl).trans hBm
  refine callsIn_of_wp Try.func50 rfl hF ?_ hro
  simp only [show Try.f50.ntmps = 14 from rfl, List.size_toArray, List.length_cons, List.length_nil, Nat.reduceAdd, Nat.reduceSub, Array.replicate_succ, Array.replicate_zero, List.push_toArray, List.append_toArray, List.nil_append, List.cons_append]
  have hrg := run_range_nilMap (P := Try.prog) W 68 29 3 Try.underlying68
  have hnx : ∀ ty, (Instr.next (.pointer (some ⟨W.heap.size, 0, none⟩)) false ty).run Try.prog (W.alloc (.mapIter none 0 #[] 0)) = _ := fun ty => run_next_nilMap _ ty 0 0 #[]
  gi_wp2
  refine wpIn_loop_rounds 1 ?_
  rw [roundsIn_succ]
  gi_wp2
  go_end0
  exact ⟨⟨_, rfl⟩, .inl ⟨[], by simp, hJ [] W _ none h0 (World.grownBy_alloc W _ none) (fun r e => by cases e)⟩⟩
/-- maps.Keys: a function value over a new block that holds the map. -/
theorem keys33 (mb : Option Nat) (w : World) : Calls Try.prog 33 #[.map mb] w fun e w' => e = .returned (.func (.func 50) #[] #[.pointer (some ⟨w.heap.size, 0, none⟩)]) ∧ ∃ q, w' = { w.alloc (.cells #[.map mb] 68) with drawn := q } := by
  have mixed := mixed
  go_enter Try.func33, (show Try.f33.ntmps = 4 from rfl)
  go_wp2
  go_ret
  exact ⟨rfl, _, rfl⟩
#print axioms keys50
#print axioms keys33
end Go.Proofs.Ytbcipfhhmkjigaa
