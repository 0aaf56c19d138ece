/- What is reached: the program's worklist, the document's rounds. -/
import Derived.Test.YtbcipfhhmkjigaaQG
set_option linter.unusedVariables false
set_option linter.unusedSimpArgs false
namespace Go.Proofs.Ytbcipfhhmkjigaa
open Go Go.Cf

abbrev Objs := List Api_Object
/-- The bytes under a name: the first object's. -/
def dat (l : Objs) (x : List Int) : Option (List Int) := (l.find? fun o => decide (o.Of = x)).map (·.Data)
def T (b : List Int) : List Api_Item := (tkR (tk b)).1
inductive Rch (l : Objs) (roots : List (List Int)) : List Int → Prop
  | root {x : List Int} : x ∈ roots → (dat l x).isSome = true → Rch l roots x
  | step {x d : List Int} {i : Api_Item} : Rch l roots x → dat l x = some d → i ∈ T d → (dat l i.Of).isSome = true → Rch l roots i.Of
theorem Rch.some {l : Objs} {roots : List (List Int)} {x : List Int} (h : Rch l roots x) : (dat l x).isSome = true := by
  cases h with
  | root _ h => exact h
  | step _ _ _ h => exact h
/-- What comes in is well formed, and not too great. -/
structure Wf (l : Objs) : Prop where
  data : ∀ o ∈ l, IsB o.Data ∧ o.Data.length ≤ 5000
  id : ∀ o ∈ l, o.Of.length = 32
  len : l.length ≤ 40
theorem T_len (b : List Int) : (T b).length ≤ 64 := by
  unfold T tkR tk
  split
  · next l h =>
    split at h
    · cases h
    · split at h
      · cases h
      · split at h
        · cases h
        · split at h
          · next l' hits =>
            split at h
            · next hm => cases h; exact (may_item hm).1
            · cases h
          · cases h
  · simp
theorem T_id {b : List Int} (hb : IsB b) : ∀ i ∈ T b, i.Of.length = 32 := by
  unfold T tkR tk
  split
  · next l h =>
    split at h
    · cases h
    · split at h
      · cases h
      · split at h
        · cases h
        · split at h
          · next l' hits =>
            split at h
            · cases h
              exact fun i hi => ((its_enc _ ((hb.drop 2).drop _) hits).2.2.2 i hi).2.1
            · cases h
          · cases h
  · intro i hi; cases hi
theorem dat_mem {l : Objs} {x d : List Int} (h : dat l x = some d) : ∃ o ∈ l, o.Of = x ∧ o.Data = d := by
  unfold dat at h
  obtain ⟨o, h1, h2⟩ := Option.map_eq_some_iff.1 h
  exact ⟨o, List.mem_of_find?_eq_some h1, by have := List.find?_some h1; simpa using this, h2⟩
theorem dat_isSome {l : Objs} {x : List Int} : (dat l x).isSome = true ↔ ∃ o ∈ l, o.Of = x := by
  unfold dat
  rw [Option.isSome_map, List.find?_isSome]
  simp
/-! ### The program's -/
abbrev Mp := List (List Int × Reach_object)
theorem follow_l0 (l : Objs) (hl : l.length ≤ 40) : ∀ (n i k : Nat) (s : Mp), n + i = l.length → n < k → (s.map (·.1)).Nodup → (∀ x, mget s x = (dat (l.take i) x).map (⟨·, false⟩)) →
    ∃ s', reach_follow.l0 l k s i = some s' ∧ (s'.map (·.1)).Nodup ∧ ∀ x, mget s' x = (dat l x).map (⟨·, false⟩) := by
  intro n
  induction n with
  | zero =>
    intro i k s hi hk hn hs
    obtain ⟨q, rfl⟩ : ∃ q, k = q + 1 := ⟨k - 1, by omega⟩
    rw [reach_follow.l0, if_neg (by simp; omega)]
    refine ⟨s, rfl, hn, fun x => ?_⟩
    rw [hs x, List.take_of_length_le (by omega)]
  | succ n ih =>
    intro i k s hi hk hn hs
    obtain ⟨q, rfl⟩ : ∃ q, k = q + 1 := ⟨k - 1, by omega⟩
    have hlt : i < l.length := by omega
    obtain ⟨o, ho⟩ : ∃ o, l.getD i rApi_Object.zeroD = o := ⟨_, rfl⟩
    have hoi : l[i]? = some o := by rw [List.getElem?_eq_getElem hlt, ← ho, List.getD_eq_getElem?_getD, List.getElem?_eq_getElem hlt]; rfl
    have htk : l.take (i + 1) = l.take i ++ [o] := by rw [List.take_add_one, hoi]; rfl
    have hdat : ∀ x, dat (l.take (i + 1)) x = (dat (l.take i) x).or (if o.Of = x then some o.Data else none) := fun x => by
      unfold dat
      rw [htk, List.find?_append]
      cases h : List.find? (fun o => decide (o.Of = x)) (l.take i) with
      | some y => simp
      | none =>
        simp only [Option.none_or, Option.map_none, List.find?_singleton]
        by_cases e : o.Of = x <;> simp [e]
    rw [reach_follow.l0, if_pos (by simp; omega), need_pos (by omega), wrap_succ hlt (by unfold maxB; omega)]
    simp only [Int.toNat_natCast, ho]
    cases hm : mget s o.Of with
    | none =>
      simp only [Option.isSome_none, Bool.not_false, if_true, Option.bind_some]
      refine ih (i + 1) q _ (by omega) (by omega) (nodup_mset hn) (fun x => ?_)
      rw [mget_mset, hs x, hdat x]
      by_cases e : x = o.Of
      · subst e
        rw [hs o.Of] at hm
        have : dat (l.take i) o.Of = none := by cases h : dat (l.take i) o.Of with
          | none => rfl
          | some d => rw [h] at hm; cases hm
        simp [this]
      · rw [if_neg e, if_neg (fun e' => e e'.symm)]
        cases dat (l.take i) x <;> rfl
    | some v =>
      simp only [Option.isSome_some, Bool.not_true, Bool.false_eq_true, if_false, Option.bind_some]
      refine ih (i + 1) q _ (by omega) (by omega) hn (fun x => ?_)
      rw [hs x, hdat x]
      by_cases e : o.Of = x
      · subst e
        rw [hs o.Of] at hm
        cases h : dat (l.take i) o.Of with
        | none => rw [h] at hm; cases hm
        | some d => rfl
      · rw [if_neg e]
        cases dat (l.take i) x <;> rfl
theorem follow_l2 (c : List Api_Item × Int) (hc : c.1.length ≤ 64) : ∀ (n i k : Nat) (s : List (List Int)), n + i = c.1.length → n < k → s.length ≤ 4000 + i → reach_follow.l2 c k s i = some (s ++ (c.1.drop i).map (·.Of)) := by
  intro n
  induction n with
  | zero =>
    intro i k s hi hk hs
    obtain ⟨q, rfl⟩ : ∃ q, k = q + 1 := ⟨k - 1, by omega⟩
    rw [reach_follow.l2, if_neg (by simp; omega), List.drop_eq_nil_of_le (by omega)]
    simp
  | succ n ih =>
    intro i k s hi hk hs
    obtain ⟨q, rfl⟩ : ∃ q, k = q + 1 := ⟨k - 1, by omega⟩
    have hlt : i < c.1.length := by omega
    rw [reach_follow.l2, if_pos (by simp; omega), need_pos (by omega), need_pos (by unfold fits maxB; simp; omega), wrap_succ hlt (by unfold maxB; omega), ih (i + 1) q _ (by omega) (by omega) (by simp; omega), drop_cons hlt rApi_Item.zeroD]
    simp
/-- So many names are not reached yet. -/
def unr (s : Mp) : Nat := (s.filter fun p => !p.2.reached).length
theorem unr_mset : ∀ {s : Mp} {k : List Int} {o : Reach_object}, mget s k = some o → o.reached = false → unr (mset s k ⟨o.data, true⟩) + 1 = unr s
  | [], _, _, h, _ => by cases h
  | p :: s, k, o, h, ho => by
    unfold mget at h
    unfold mset unr
    by_cases e : k = p.1
    · rw [if_pos e] at h ⊢
      cases h
      simp [List.filter_cons, ho]
    · rw [if_neg e] at h ⊢
      have := unr_mset (s := s) h ho
      unfold unr at this
      simp only [List.filter_cons]
      cases p.2.reached
      · simp; omega
      · simpa using this
structure FInv (l : Objs) (roots : List (List Int)) (s : Mp) (todo : List (List Int)) : Prop where
  nd : (s.map (·.1)).Nodup
  dt : ∀ x, (mget s x).map (·.data) = dat l x
  sound : ∀ x o, mget s x = some o → o.reached = true → Rch l roots x
  soundT : ∀ x ∈ todo, (dat l x).isSome = true → Rch l roots x
  root : ∀ x ∈ roots, ∀ o, mget s x = some o → o.reached = true ∨ x ∈ todo
  closed : ∀ x o, mget s x = some o → o.reached = true → ∀ i ∈ T o.data, ∀ p, mget s i.Of = some p → p.reached = true ∨ i.Of ∈ todo
theorem follow_l1 (l : Objs) (hw : Wf l) (roots : List (List Int)) : ∀ (m k : Nat) (s : Mp) (todo : List (List Int)), 65 * unr s + todo.length ≤ m → m + 6000 < k → todo.length ≤ 4000 → 65 * unr s + todo.length ≤ 4000 → FInv l roots s todo →
    ∃ s', (∃ t', reach_follow.l1 k s todo = some (s', t')) ∧ FInv l roots s' [] := by
  intro m
  induction m with
  | zero =>
    intro k s todo hm hk _ _ hi
    obtain ⟨q, rfl⟩ : ∃ q, k = q + 1 := ⟨k - 1, by omega⟩
    have : todo = [] := List.length_eq_zero_iff.1 (by omega)
    subst this
    rw [reach_follow.l1, if_neg (by simp)]
    exact ⟨s, ⟨_, rfl⟩, hi⟩
  | succ m ih =>
    intro k s todo hm hk ht4 hm4 hi
    obtain ⟨q, rfl⟩ : ∃ q, k = q + 1 := ⟨k - 1, by omega⟩
    rcases Nat.eq_zero_or_pos todo.length with h0 | hpos
    · have : todo = [] := List.length_eq_zero_iff.1 h0
      subst this
      rw [reach_follow.l1, if_neg (by simp)]
      exact ⟨s, ⟨_, rfl⟩, hi⟩
    · obtain ⟨t, x, rfl⟩ : ∃ t x, todo = t ++ [x] := ⟨todo.dropLast, todo.getLast (List.length_pos_iff.1 hpos), (List.dropLast_concat_getLast _).symm⟩
      have hlen : (((t ++ [x]).length : Nat) : Int) - 1 = (t.length : Int) := by simp
      have hwr : IntKind.i64.wrap ((((t ++ [x]).length : Nat) : Int) - 1) = (t.length : Int) := by rw [hlen, wrapI (by omega) (by simp at ht4; omega)]
      rw [reach_follow.l1, if_pos (by simp), hwr, need_pos (by simp; omega), need_pos (by simp; omega)]
      have hg : (t ++ [x]).getD t.length idR.zeroD = x := by simp
      have htake : (t ++ [x]).take t.length = t := by simp
      simp only [Int.toNat_natCast, hg, htake]
      simp only [List.length_append, List.length_singleton] at hm ht4 hm4
      cases hmx : mget s x with
      | none =>
        simp only [Option.isSome_none, Bool.not_false, if_true, Option.bind_some]
        have hnone : dat l x = none := by rw [← hi.dt x, hmx]; rfl
        refine ih q s t (by omega) (by omega) (by omega) (by omega) ⟨hi.nd, hi.dt, hi.sound, fun y hy => hi.soundT y (by simp [hy]), fun y hy o ho => ?_, fun y o ho hr i hii p hp => ?_⟩
        · rcases hi.root y hy o ho with h | h
          · exact .inl h
          · rcases List.mem_append.1 h with h | h
            · exact .inr h
            · simp at h; subst h; rw [hmx] at ho; cases ho
        · rcases hi.closed y o ho hr i hii p hp with h | h
          · exact .inl h
          · rcases List.mem_append.1 h with h | h
            · exact .inr h
            · simp at h; rw [h, hmx] at hp; cases hp
      | some o =>
        simp only [Option.isSome_some, Bool.not_true, Bool.false_eq_true, if_false, Option.getD_some, Option.bind_some]
        cases hr : o.reached with
        | true =>
          simp only [if_true, Option.bind_some]
          refine ih q s t (by omega) (by omega) (by omega) (by omega) ⟨hi.nd, hi.dt, hi.sound, fun y hy => hi.soundT y (by simp [hy]), fun y hy o' ho => ?_, fun y o' ho hr' i hii p hp => ?_⟩
          · rcases hi.root y hy o' ho with h | h
            · exact .inl h
            · rcases List.mem_append.1 h with h | h
              · exact .inr h
              · simp at h; subst h; rw [hmx] at ho; cases ho; exact .inl hr
          · rcases hi.closed y o' ho hr' i hii p hp with h | h
            · exact .inl h
            · rcases List.mem_append.1 h with h | h
              · exact .inr h
              · simp at h; rw [h, hmx] at hp; cases hp; exact .inl hr
        | false =>
          simp only [Bool.false_eq_true, if_false]
          have hdx : dat l x = some o.data := by rw [← hi.dt x, hmx]; rfl
          obtain ⟨ob, hob, _, hobd⟩ := dat_mem hdx
          have hbd := hw.data ob hob
          rw [hobd] at hbd
          have hset : o.set_reached true = ⟨o.data, true⟩ := rfl
          rw [hset]
          rw [folder_Take_is o.data hbd.1 (by unfold maxB; omega) q (by omega)]
          simp only [Option.bind_some]
          have hTl : ((tkR (tk o.data)).1).length ≤ 64 := T_len o.data
          have hl2 := follow_l2 (tkR (tk o.data)) hTl (tkR (tk o.data)).1.length 0 q t (by omega) (by omega) (by omega)
          rw [show ((0 : Nat) : Int) = 0 from rfl, List.drop_zero] at hl2
          rw [hl2]
          simp only [Option.bind_some]
          have hun := unr_mset hmx hr
          have hRx : Rch l roots x := hi.soundT x (by simp) (by rw [hdx]; rfl)
          have hgm : ∀ y, mget (mset s x ⟨o.data, true⟩) y = if y = x then some ⟨o.data, true⟩ else mget s y := fun y => mget_mset s x y _
          refine ih q _ _ ?_ (by omega) ?_ ?_ ⟨nodup_mset hi.nd, fun y => ?_, fun y p hp hrp => ?_, fun y hy hs => ?_, fun y hy p hp => ?_, fun y p hp hrp i hii p' hp' => ?_⟩
          · simp only [List.length_append, List.length_map]; omega
          · simp only [List.length_append, List.length_map]; omega
          · simp only [List.length_append, List.length_map]; omega
          · rw [hgm y]
            by_cases e : y = x
            · rw [if_pos e, e, hdx]; rfl
            · rw [if_neg e]; exact hi.dt y
          · rw [hgm y] at hp
            by_cases e : y = x
            · rw [e]; exact hRx
            · rw [if_neg e] at hp; exact hi.sound y p hp hrp
          · rcases List.mem_append.1 hy with h | h
            · exact hi.soundT y (by simp [h]) hs
            · obtain ⟨i, hii, rfl⟩ := List.mem_map.1 h
              exact .step hRx hdx hii hs
          · rw [hgm y] at hp
            by_cases e : y = x
            · rw [if_pos e] at hp; cases hp; exact .inl rfl
            · rw [if_neg e] at hp
              rcases hi.root y hy p hp with h | h
              · exact .inl h
              · rcases List.mem_append.1 h with h | h
                · exact .inr (List.mem_append_left _ h)
                · simp at h; exact absurd h e
          · rw [hgm i.Of] at hp'
            by_cases e' : i.Of = x
            · rw [if_pos e'] at hp'; cases hp'; exact .inl rfl
            · rw [if_neg e'] at hp'
              rw [hgm y] at hp
              by_cases e : y = x
              · rw [if_pos e] at hp; cases hp
                exact .inr (List.mem_append_right _ (List.mem_map.2 ⟨i, hii, rfl⟩))
              · rw [if_neg e] at hp
                rcases hi.closed y p hp hrp i hii p' hp' with h | h
                · exact .inl h
                · rcases List.mem_append.1 h with h | h
                  · exact .inr (List.mem_append_left _ h)
                  · simp at h; exact absurd h e'
theorem unr_le (s : Mp) : unr s ≤ s.length := List.length_filter_le _ _
/-- What the program comes to: a map of all names, each marked if it is reached. -/
structure Followed (l : Objs) (roots : List (List Int)) (s : Mp) : Prop where
  nd : (s.map (·.1)).Nodup
  keys : ∀ x, x ∈ s.map (·.1) ↔ (dat l x).isSome = true
  mark : ∀ x o, mget s x = some o → (o.reached = true ↔ Rch l roots x)
  len : s.length ≤ l.length
theorem nodup_length_le {α : Type} [DecidableEq α] : ∀ {l m : List α}, l.Nodup → (∀ x ∈ l, x ∈ m) → l.length ≤ m.length
  | [], _, _, _ => Nat.zero_le _
  | x :: l, m, h, hs => by
    rw [List.nodup_cons] at h
    have hx := hs x (by simp)
    have := nodup_length_le (l := l) (m := m.erase x) h.2 (fun y hy => (List.mem_erase_of_ne (fun e => h.1 (by rw [← e]; exact hy))).2 (hs y (by simp [hy])))
    rw [List.length_erase_of_mem hx] at this
    have hpos := List.length_pos_of_mem hx
    simp only [List.length_cons]
    omega
theorem follow_is (l : Objs) (hw : Wf l) (roots : List (List Int)) (hr : roots.length ≤ 200) (k : Nat) (hk : 20000 ≤ k) : ∃ s, reach_follow.f k l roots = some s ∧ Followed l roots s := by
  unfold reach_follow.f
  obtain ⟨s0, h1, h2, h3⟩ := follow_l0 l hw.len l.length 0 k [] (by omega) (by have := hw.len; omega) (by simp) (fun x => by simp [mget, dat])
  rw [show ((0 : Nat) : Int) = 0 from rfl] at h1
  rw [h1]
  simp only [Option.bind_some, slices_Clone_41.f]
  have hk0 : ∀ x, x ∈ s0.map (·.1) ↔ (dat l x).isSome = true := fun x => by rw [← mget_isSome, h3 x, Option.isSome_map]
  have hl0 : s0.length ≤ l.length := by
    have := nodup_length_le (l := s0.map (·.1)) (m := l.map (·.Of)) h2 (fun x hx => by
      obtain ⟨o, ho, e⟩ := dat_isSome.1 ((hk0 x).1 hx)
      exact List.mem_map.2 ⟨o, ho, e⟩)
    simpa using this
  have hu := unr_le s0
  have hll := hw.len
  obtain ⟨s', ⟨t', h4⟩, h5⟩ := follow_l1 l hw roots (65 * unr s0 + roots.length) k s0 roots (by omega) (by omega) (by omega) (by omega)
    (by
      have hno : ∀ x o, mget s0 x = some o → o.reached = true → False := fun x o ho hro => by
        rw [h3 x] at ho
        cases hd : dat l x with
        | none => rw [hd] at ho; cases ho
        | some d => rw [hd] at ho; cases ho; cases hro
      exact ⟨h2, (fun x => by rw [h3 x, Option.map_map]; cases dat l x <;> rfl), (fun x o ho hro => (hno x o ho hro).elim), (fun x hx hs => Rch.root hx hs), (fun x hx o ho => Or.inr hx), (fun x o ho hro => (hno x o ho hro).elim)⟩)
  rw [h4]
  have hkeys : ∀ x, x ∈ s'.map (·.1) ↔ (dat l x).isSome = true := fun x => by rw [← mget_isSome, ← h5.dt x, Option.isSome_map]
  refine ⟨s', rfl, h5.nd, hkeys, fun x o ho => ⟨h5.sound x o ho, fun hR => ?_⟩, ?_⟩
  · have key : ∀ x, Rch l roots x → ∀ o, mget s' x = some o → o.reached = true := by
      intro x hR
      induction hR with
      | root hx hs =>
        intro o ho
        rcases h5.root _ hx o ho with h | h
        · exact h
        · cases h
      | step hRx hd hii hs ih =>
        intro p hp
        rename_i x0 d0 i0
        cases hmx : mget s' x0 with
        | none => have := h5.dt x0; rw [hmx, hd] at this; cases this
        | some o0 =>
          have hd0 : o0.data = d0 := by have := h5.dt x0; rw [hmx, hd] at this; exact Option.some.inj this
          rcases h5.closed x0 o0 hmx (ih o0 hmx) i0 (by rw [hd0]; exact hii) p hp with h | h
          · exact h
          · cases h
    exact key x hR o ho
  · have := nodup_length_le (l := s'.map (·.1)) (m := l.map (·.Of)) h5.nd (fun x hx => by
      obtain ⟨o, ho, e⟩ := dat_isSome.1 ((hkeys x).1 hx)
      exact List.mem_map.2 ⟨o, ho, e⟩)
    simpa using this
/-- A rising list of just those names. -/
structure Names (P : List Int → Prop) (a : List (List Int)) : Prop where
  up : Up a
  mem : ∀ x, x ∈ a ↔ P x
  len : Len32 a
theorem Names.eq {P : List Int → Prop} {a b : List (List Int)} (h : Names P a) (k : Names P b) : a = b := Up.ext h.up k.up (fun x => (h.mem x).trans (k.mem x).symm)
theorem those_is {l : Objs} (hw : Wf l) {roots : List (List Int)} {s : Mp} (h : Followed l roots s) (flag : Bool) : ∃ a, reach_those.f s flag = some a ∧ Names (fun x => (dat l x).isSome = true ∧ (Rch l roots x ↔ flag = true)) a := by
  unfold reach_those.f
  have hlen := h.len
  have hll := hw.len
  rw [need_pos (by unfold fits maxB; omega)]
  have hmem : ∀ x, x ∈ thoseL s flag ↔ (dat l x).isSome = true ∧ (Rch l roots x ↔ flag = true) := fun x => by
    unfold thoseL
    rw [List.mem_map]
    constructor
    · rintro ⟨p, hp, rfl⟩
      obtain ⟨hp1, hp2⟩ := List.mem_filter.1 hp
      have hg := mget_mem h.nd hp1
      rw [hg] at hp2
      simp at hp2
      refine ⟨(h.keys p.1).1 (List.mem_map.2 ⟨p, hp1, rfl⟩), ?_⟩
      rw [← h.mark p.1 p.2 hg, hp2]
    · rintro ⟨h1, h2⟩
      obtain ⟨p, hp, rfl⟩ := List.mem_map.1 ((h.keys x).2 h1)
      have hg := mget_mem h.nd hp
      refine ⟨p, List.mem_filter.2 ⟨hp, ?_⟩, rfl⟩
      rw [hg]
      simp only [Option.getD_some, decide_eq_true_eq]
      rw [← h.mark p.1 p.2 hg] at h2
      rw [Bool.eq_iff_iff]
      exact h2
  have h32 : Len32 (thoseL s flag) := fun x hx => by
    obtain ⟨o, ho, rfl⟩ := dat_isSome.1 ((hmem x).1 hx).1
    exact hw.id o ho
  have hnd : (thoseL s flag).Nodup := by
    unfold thoseL
    exact (h.nd.sublist (List.Sublist.map _ List.filter_sublist))
  obtain ⟨h1, h2⟩ := sort_up h32 hnd
  exact ⟨_, rfl, h1, fun x => (h2 x).trans (hmem x), fun x hx => h32 x ((h2 x).1 hx)⟩
theorem Mark_is (l : Objs) (hw : Wf l) (roots : List (List Int)) (hr : roots.length ≤ 200) (k : Nat) (hk : 20000 ≤ k) : ∃ a, reach_Mark.f k l roots = some a ∧ Names (fun x => Rch l roots x) a := by
  obtain ⟨s, h1, h2⟩ := follow_is l hw roots hr k hk
  obtain ⟨a, h3, h4⟩ := those_is hw h2 true
  refine ⟨a, by unfold reach_Mark.f; rw [h1]; simp [h3], h4.up, fun x => ?_, h4.len⟩
  rw [h4.mem x]
  simp only [iff_true]
  exact ⟨fun h => h.2, fun h => ⟨h.some, h⟩⟩
theorem Lost_is (l : Objs) (hw : Wf l) (roots : List (List Int)) (hr : roots.length ≤ 200) (k : Nat) (hk : 20000 ≤ k) : ∃ a, reach_Lost.f k l roots = some a ∧ Names (fun x => (dat l x).isSome = true ∧ ¬ Rch l roots x) a := by
  obtain ⟨s, h1, h2⟩ := follow_is l hw roots hr k hk
  obtain ⟨a, h3, h4⟩ := those_is hw h2 false
  refine ⟨a, by unfold reach_Lost.f; rw [h1]; simp [h3], h4.up, fun x => ?_, h4.len⟩
  rw [h4.mem x]
  simp
end Go.Proofs.Ytbcipfhhmkjigaa
