/- WalkAll: the program's recursion goes as the document's list. -/
import Derived.Test.YtbcipfhhmkjigaaVA
set_option linter.unusedVariables false
set_option linter.unusedSimpArgs false
namespace Go.Proofs.Ytbcipfhhmkjigaa
open Go Go.Cf
abbrev Way := (List (List Int × List Int)) × (List (List Int × Int)) × Int × Bool × (List Api_File) × Int
/-- What is met, by the program and by the document. -/
structure Rel (c : Nat) (names : List (List Int)) (met : List (List Int × Int)) : Prop where
  up : Up names
  len : Len32 names
  nl : names.length ≤ c
  nd : (met.map (·.1)).Nodup
  mem : ∀ x, x ∈ met.map (·.1) ↔ x ∈ names
theorem mset_mem (met : List (List Int × Int)) (x y : List Int) (v : Int) : y ∈ (mset met x v).map (·.1) ↔ y ∈ met.map (·.1) ∨ y = x := by
  rw [keys_mset]
  split
  · next h => exact ⟨.inl, fun h' => h'.elim id (fun e => e ▸ h)⟩
  · simp
theorem Rel.step {c : Nat} {names : List (List Int)} {met : List (List Int × Int)} (h : Rel c names met) {x : List Int} (hx : x.length = 32) (v : Int) : Rel (c + 1) (wins x names) (mset met x v) :=
  ⟨wins_up h.up, wins_len hx h.len, Nat.le_trans (wins_length _ _) (Nat.succ_le_succ h.nl), nodup_mset h.nd, fun y => by rw [mset_mem, wins_mem, h.mem]; exact Or.comm⟩
theorem object_ok (m : List (List Int × List Int)) (met : List (List Int × Int)) (c : Nat) (tell : Bool) (files : List Api_File) (x d : List Int) (hc : c ≤ 1023) (h : mget m x = some d) :
    ∃ v, walk_way_object.f m met (c : Int) tell files 0 x = some (d, true, m, mset met x v, ((c + 1 : Nat) : Int), tell, files, 0) := by
  unfold walk_way_object.f
  have hw : IntKind.i64.wrap ((c : Int) + 1) = ((c + 1 : Nat) : Int) := by rw [wrapI (by omega) (by omega)]; omega
  rw [hw, if_neg (by simp; omega), h]
  simp only [Option.isSome_some, Bool.not_true, Bool.false_eq_true, if_false, Option.getD_some]
  exact ⟨_, rfl⟩
theorem object_none (m : List (List Int × List Int)) (met : List (List Int × Int)) (c : Nat) (tell : Bool) (files : List Api_File) (x : List Int) (hc : c ≤ 1023) (h : mget m x = none) :
    walk_way_object.f m met (c : Int) tell files 0 x = some ([], false, m, met, ((c + 1 : Nat) : Int), tell, files, 15) := by
  unfold walk_way_object.f
  have hw : IntKind.i64.wrap ((c : Int) + 1) = ((c + 1 : Nat) : Int) := by rw [wrapI (by omega) (by omega)]; omega
  rw [hw, if_neg (by simp; omega), h]
  rfl
theorem object_over (m : List (List Int × List Int)) (met : List (List Int × Int)) (tell : Bool) (files : List Api_File) (x : List Int) :
    walk_way_object.f m met ((1024 : Nat) : Int) tell files 0 x = some ([], false, m, met, 1025, tell, files, 2) := by
  unfold walk_way_object.f
  have hw : IntKind.i64.wrap (((1024 : Nat) : Int) + 1) = 1025 := rfl
  rw [hw, if_pos (by decide)]
  rfl
def fp (tell : Bool) (fd : List Api_File) : List Api_File := if tell then fd else []
/-- The program's state behind some of what is to be met, and the document's. -/
def Sim (l : Objs) (K : Nat) (m : List (List Int × List Int)) (tell : Bool) (c : Nat) (names : List (List Int)) (fd : List Api_File) (todo rest : List Todo) (o : Way) : Prop :=
  (∃ e, e ≠ 0 ∧ o.2.2.2.2.2 = e ∧ Doc l K c names fd (todo ++ rest) = docErr e) ∨
  ∃ met' c' names' fd', c + todo.length ≤ c' ∧ c' ≤ 1024 ∧ o = (m, met', ((c' : Nat) : Int), tell, fp tell fd', 0) ∧ Rel c' names' met' ∧ fd'.length ≤ c' ∧ Doc l K c names fd (todo ++ rest) = Doc l K c' names' fd' rest
/-- The path ahead of a folder's items. -/
def pp (x : Todo) : List Int := if 1 < x.deep then x.path ++ [47] else []
theorem kids_cons (x : Todo) (it : Api_Item) (r : List Api_Item) : kids x (it :: r) = ⟨it, x.deep + 1, pp x ++ it.Name⟩ :: kids x r := by
  unfold kids pp
  rw [List.map_cons]
  by_cases h : 1 < x.deep <;> simp [h]
section
variable {l : Objs} (hw : Wf l) {K : Nat} (hK : 100000 ≤ K) {m : List (List Int × List Int)} (hm : ∀ x, mget m x = dat l x) (tell : Bool)
include hw hK hm
theorem file_sim {c : Nat} {names : List (List Int)} {met : List (List Int × Int)} {fd : List Api_File} (hrel : Rel c names met) (hc : c ≤ 1024) (hfd : fd.length ≤ c) (it : Api_Item) (path : List Int) (d : Int) (hx : TodoOk ⟨it, d, path ++ it.Name⟩) (hk : it.Kind = 1) (rest : List Todo) (hr : rest.length ≤ 64 * c + 64) :
    ∃ o, walk_way_file.f m met (c : Int) tell (fp tell fd) 0 it path = some o ∧ Sim l K m tell c names fd [⟨it, d, path ++ it.Name⟩] rest o := by
  have hdoc := doc_cons l hw K c hK hc names hrel.len hrel.nl fd hfd ⟨it, d, path ++ it.Name⟩ hx rest hr
  dsimp only at hdoc
  unfold walk_way_file.f Sim
  rw [List.singleton_append]
  rcases Nat.lt_or_ge c 1024 with hlt | hge
  · rw [if_neg (by rw [hk]; omega)] at hdoc
    cases hdt : dat l it.Of with
    | none =>
      rw [hdt] at hdoc
      rw [object_none m met c tell (fp tell fd) it.Of (by omega) (by rw [hm]; exact hdt)]
      exact ⟨_, rfl, .inl ⟨15, by decide, rfl, hdoc⟩⟩
    | some b =>
      rw [hdt] at hdoc
      simp only [] at hdoc
      rw [if_pos hk] at hdoc
      obtain ⟨v, e⟩ := object_ok m met c tell (fp tell fd) it.Of b (by omega) (by rw [hm]; exact hdt)
      rw [e]
      simp only [Option.bind_some, Bool.not_true, Bool.false_eq_true, if_false]
      by_cases hs : (b.length : Int) = it.Size
      · rw [if_pos hs] at hdoc
        rw [if_neg (by simp [hs])]
        have hrel' := hrel.step hx.id v
        have hp := hx.path
        have hd := hx.deep
        dsimp only at hp hd
        cases tell with
        | true =>
          simp only [if_true]
          rw [need_pos (by simp at hp; unfold maxB; omega)]
          simp only [show slices_Clone_64.f b = some b from rfl, Option.bind_some]
          rw [show fp true fd = fd from rfl, need_pos (by unfold fits maxB; simp; omega)]
          simp only [Option.bind_some]
          exact ⟨_, rfl, .inr ⟨_, c + 1, _, fd ++ [⟨path ++ it.Name, false, b⟩], by simp, by omega, rfl, hrel', by simp; omega, hdoc⟩⟩
        | false =>
          simp only [Bool.false_eq_true, if_false, Option.bind_some]
          exact ⟨_, rfl, .inr ⟨_, c + 1, _, fd ++ [⟨path ++ it.Name, false, b⟩], by simp, by omega, rfl, hrel', by simp; omega, hdoc⟩⟩
      · rw [if_neg hs] at hdoc
        rw [if_pos (by simp [hs])]
        exact ⟨_, rfl, .inl ⟨9, by decide, rfl, hdoc⟩⟩
  · have : c = 1024 := by omega
    subst this
    rw [if_pos (by omega)] at hdoc
    rw [object_over]
    exact ⟨_, rfl, .inl ⟨2, by decide, rfl, hdoc⟩⟩
theorem l0_sim (x : Todo) (hx : TodoOk x) (hd8 : x.deep ≤ 8) (its : List Api_Item) (hil : its.length ≤ 64) (hit : ∀ i ∈ its, i.Of.length = 32 ∧ i.Name.length ≤ 64 ∧ (i.Kind = 1 ∨ i.Kind = 2)) (self : (List ((List Int) × (List Int))) → (List ((List Int) × Int)) → Int → Bool → (List Api_File) → Int → (List Int) → (List Int) → Int → Option Way)
    (hself : ∀ (y : Todo), TodoOk y → y.item.Kind = 2 → y.deep = x.deep + 1 → ∀ (c : Nat) (names : List (List Int)) (met : List (List Int × Int)) (fd : List Api_File) (rest : List Todo), Rel c names met → c ≤ 1024 → fd.length ≤ c → rest.length ≤ 64 * c + 64 →
      ∃ o, self m met (c : Int) tell (fp tell fd) 0 y.item.Of (pp y) y.deep = some o ∧ Sim l K m tell c names fd [y] rest o) :
    ∀ (n i k : Nat) (c : Nat) (names : List (List Int)) (met : List (List Int × Int)) (fd : List Api_File) (rest : List Todo), n + i = its.length → n < k → Rel c names met → c ≤ 1024 → fd.length ≤ c → (kids x (its.drop i) ++ rest).length ≤ 64 * c + 64 →
      ∃ o, walk_way_enter.l0 self (its, 0) (pp x) x.deep k m met (c : Int) tell (fp tell fd) 0 (i : Int) = some o ∧
        ((∃ e w, e ≠ 0 ∧ o = .inl w ∧ w.2.2.2.2.2 = e ∧ Doc l K c names fd (kids x (its.drop i) ++ rest) = docErr e) ∨
         (∃ w, o = .inr w ∧ Sim l K m tell c names fd (kids x (its.drop i)) rest w ∧ w.2.2.2.2.2 = 0)) := by
  intro n
  induction n with
  | zero =>
    intro i k c names met fd rest hi hk hrel hc hfd hr
    obtain ⟨q, rfl⟩ : ∃ q, k = q + 1 := ⟨k - 1, by omega⟩
    rw [walk_way_enter.l0, if_neg (by simp; omega)]
    refine ⟨_, rfl, .inr ⟨_, rfl, .inr ⟨met, c, names, fd, ?_, hc, rfl, hrel, hfd, ?_⟩, rfl⟩⟩
    · rw [List.drop_of_length_le (by omega)]; simp [kids]
    · rw [List.drop_of_length_le (by omega)]; rfl
  | succ n ih =>
    intro i k c names met fd rest hi hk hrel hc hfd hr
    obtain ⟨q, rfl⟩ : ∃ q, k = q + 1 := ⟨k - 1, by omega⟩
    have hlt : i < its.length := by omega
    have hg : its.getD ((i : Int)).toNat rApi_Item.zeroD = its[i] := by simp [hlt]
    obtain ⟨h32, hnm, hkd⟩ := hit _ (List.getElem_mem hlt)
    have hdrop : kids x (its.drop i) = ⟨its[i], x.deep + 1, pp x ++ its[i].Name⟩ :: kids x (its.drop (i + 1)) := by rw [List.drop_eq_getElem_cons hlt, kids_cons]
    have hd := hx.deep
    have hp := hx.path
    have hppl : ((pp x).length : Int) ≤ 70 * x.deep + 1 := by
      unfold pp
      split
      · simp; omega
      · simp; omega
    obtain ⟨y, hy⟩ : ∃ y : Todo, y = ⟨its[i], x.deep + 1, pp x ++ its[i].Name⟩ := ⟨_, rfl⟩
    have hyok : TodoOk y := by
      subst hy
      exact ⟨h32, hkd, by dsimp only; omega, by dsimp only; simp; omega⟩
    have hr' : (kids x (its.drop (i + 1)) ++ rest).length ≤ 64 * c + 64 := by
      rw [hdrop] at hr
      simp at hr ⊢
      omega
    have hw8 : IntKind.i64.wrap (x.deep + 1) = x.deep + 1 := wrapI (by omega) (by omega)
    rw [walk_way_enter.l0, if_pos (by simp; omega), need_pos (by simp; omega)]
    simp only [hg, hw8]
    rw [hdrop, ← hy]
    have hone : ∃ o, ((if (decide (its[i].Kind = (2 : Int))) = true then (need ((pp x).length + (its[i].Name).length ≤ maxB) (need (((pp x ++ its[i].Name)).length + ([47]).length ≤ maxB) ((self m met (c : Int) tell (fp tell fd) 0 its[i].Of ((pp x ++ its[i].Name) ++ [47]) (x.deep + 1)).bind fun c146 => (some (c146.1, c146.2.1, c146.2.2.1, c146.2.2.2.1, c146.2.2.2.2.1, c146.2.2.2.2.2))))) else ((walk_way_file.f m met (c : Int) tell (fp tell fd) 0 its[i] (pp x)).bind fun c161 => (some (c161.1, c161.2.1, c161.2.2.1, c161.2.2.2.1, c161.2.2.2.2.1, c161.2.2.2.2.2)))) : Option Way) = some o ∧ Sim l K m tell c names fd [y] (kids x (its.drop (i + 1)) ++ rest) o := by
      by_cases h2 : its[i].Kind = 2
      · obtain ⟨o, ho, hs⟩ := hself y hyok (by rw [hy]; exact h2) (by rw [hy]) c names met fd (kids x (its.drop (i + 1)) ++ rest) hrel hc hfd hr'
        have hpy : pp y = pp x ++ its[i].Name ++ [47] := by
          rw [hy]
          unfold pp
          dsimp only
          rw [if_pos (show 1 < x.deep + 1 by omega)]
        rw [hpy, hy] at ho
        dsimp only at ho
        rw [if_pos (decide_eq_true h2), need_pos (by unfold maxB; omega), need_pos (by simp; unfold maxB; omega), ho]
        exact ⟨o, rfl, hs⟩
      · obtain ⟨o, ho, hs⟩ := file_sim hw hK hm tell hrel hc hfd its[i] (pp x) (x.deep + 1) (hy ▸ hyok) (hkd.resolve_right h2) (kids x (its.drop (i + 1)) ++ rest) hr'
        rw [if_neg (by simpa using h2), ho]
        exact ⟨o, rfl, hy ▸ hs⟩
    obtain ⟨o, ho, hs⟩ := hone
    rw [ho]
    simp only [Option.bind_some]
    rcases hs with ⟨e, he0, he, hdoc⟩ | ⟨met', c', names', fd', h1, h2, rfl, hrel', hfd', hdoc⟩
    · obtain ⟨o1, o2, o3, o4, o5, o6⟩ := o
      have he : o6 = e := he
      subst he
      refine ⟨.inl (o1, o2, o3, o4, o5, o6), ?_, .inl ⟨o6, _, he0, rfl, rfl, hdoc⟩⟩
      dsimp only
      rw [if_pos (by simp [he0])]
    · dsimp only
      have h1 : c + 1 ≤ c' := h1
      have hw2 : IntKind.i64.wrap ((i : Int) + 1) = ((i + 1 : Nat) : Int) := by rw [wrapI (by omega) (by omega)]; omega
      rw [if_neg (by simp), hw2]
      obtain ⟨o, ho2, h3⟩ := ih (i + 1) q c' names' met' fd' rest (by omega) (by omega) hrel' h2 hfd' (by omega)
      refine ⟨o, ho2, ?_⟩
      rcases h3 with ⟨e, w, he0, rfl, he, hdoc2⟩ | ⟨w, rfl, hs2, hw0⟩
      · exact .inl ⟨e, w, he0, rfl, he, by rw [List.cons_append]; exact hdoc.trans hdoc2⟩
      · rcases hs2 with ⟨e, he0, he, _⟩ | ⟨met2, c2, names2, fd2, g1, g2, g3, g4, g5, g6⟩
        · rw [hw0] at he; exact absurd he.symm he0
        · exact .inr ⟨w, rfl, .inr ⟨met2, c2, names2, fd2, by simp; omega, g2, g3, g4, g5, by rw [List.cons_append]; exact hdoc.trans g6⟩, hw0⟩
theorem enter_sim : ∀ (n k : Nat) (x : Todo), TodoOk x → x.item.Kind = 2 → x.deep + n = 9 → 7000 + n < k → ∀ (c : Nat) (names : List (List Int)) (met : List (List Int × Int)) (fd : List Api_File) (rest : List Todo), Rel c names met → c ≤ 1024 → fd.length ≤ c → rest.length ≤ 64 * c + 64 →
    ∃ o, walk_way_enter.f k m met (c : Int) tell (fp tell fd) 0 x.item.Of (pp x) x.deep = some o ∧ Sim l K m tell c names fd [x] rest o := by
  have hb : ∀ (a : List (List Int × List Int)) (b : List (List Int × Int)) (c : Int) (d : Bool) (f : List Api_File) (e : Int), walk_way_bad.f a b c d f 0 e = some (!decide (e = 0), a, b, c, d, f, e) := fun a b c d f e => by unfold walk_way_bad.f; rfl
  intro n
  induction n with
  | zero =>
    intro k x hx hk2 hd hk c names met fd rest hrel hc hfd hr
    obtain ⟨q, rfl⟩ : ∃ q, k = q + 1 := ⟨k - 1, by omega⟩
    have hdoc := doc_cons l hw K c hK hc names hrel.len hrel.nl fd hfd x hx rest hr
    rw [if_pos (.inl ⟨hk2, by omega⟩)] at hdoc
    rw [walk_way_enter.f, if_pos (decide_eq_true (by omega)), hb]
    exact ⟨_, rfl, .inl ⟨2, by decide, rfl, hdoc⟩⟩
  | succ n ih =>
    intro k x hx hk2 hd hk c names met fd rest hrel hc hfd hr
    obtain ⟨q, rfl⟩ : ∃ q, k = q + 1 := ⟨k - 1, by omega⟩
    have hdoc := doc_cons l hw K c hK hc names hrel.len hrel.nl fd hfd x hx rest hr
    have hd1 := hx.deep
    rw [walk_way_enter.f, if_neg (by simp; omega)]
    simp only [Option.bind_some, Bool.false_eq_true, if_false]
    unfold Sim
    rw [List.singleton_append]
    rcases Nat.lt_or_ge c 1024 with hlt | hge
    · rw [if_neg (by omega)] at hdoc
      cases hdt : dat l x.item.Of with
      | none =>
        rw [hdt] at hdoc
        rw [object_none m met c tell (fp tell fd) x.item.Of (by omega) (by rw [hm]; exact hdt)]
        exact ⟨_, rfl, .inl ⟨15, by decide, rfl, hdoc⟩⟩
      | some b =>
        rw [hdt] at hdoc
        simp only [] at hdoc
        rw [if_neg (by rw [hk2]; decide)] at hdoc
        obtain ⟨v, e⟩ := object_ok m met c tell (fp tell fd) x.item.Of b (by omega) (by rw [hm]; exact hdt)
        rw [e]
        simp only [Option.bind_some, Bool.not_true, Bool.false_eq_true, if_false]
        obtain ⟨ob, hob, _, hobd⟩ := dat_mem hdt
        have hdb := hw.data ob hob
        rw [hobd] at hdb
        have htk := folder_Take_is b hdb.1 (by unfold maxB; omega) q (by omega)
        have hrel' := hrel.step hx.id v
        cases ht : tk b with
        | none =>
          rw [ht] at hdoc htk
          rw [htk]
          simp only [Option.bind_some]
          rw [show (tkR (none : Option (List Api_Item))) = ([], 4) from rfl, hb]
          exact ⟨_, rfl, .inl ⟨4, by decide, rfl, hdoc⟩⟩
        | some its =>
          have hT : T b = its := by unfold T; rw [ht]; rfl
          have hil : its.length ≤ 64 := by rw [← hT]; exact T_len _
          have hit : ∀ i ∈ its, i.Of.length = 32 ∧ i.Name.length ≤ 64 ∧ (i.Kind = 1 ∨ i.Kind = 2) := by
            rw [← hT]; exact fun i hi => ⟨T_id hdb.1 i hi, T_may b i hi⟩
          rw [ht] at hdoc htk
          simp only [] at hdoc
          rw [htk]
          simp only [Option.bind_some]
          rw [show (tkR (some its)) = (its, 0) from rfl, hb]
          simp only [Option.bind_some]
          rw [if_neg (by simp)]
          -- the files behind
          obtain ⟨fd1, hfd1⟩ : ∃ fd1, fd1 = if its = [] ∧ 1 < x.deep then fd ++ [⟨x.path, true, []⟩] else fd := ⟨_, rfl⟩
          have hfd1l : fd1.length ≤ c + 1 := by
            rw [hfd1]
            split
            · simp; omega
            · omega
          have hfiles : (((if (decide (((its).length : Int) = (0 : Int))) = true then (if (decide ((1 : Int) < x.deep)) = true then (some tell) else (some false)) else (some false)).bind fun s70 => (if s70 = true then (need (0 ≤ (0 : Int) ∧ (0 : Int) ≤ (IntKind.i64.wrap (((pp x).length : Int) - (1 : Int))) ∧ (IntKind.i64.wrap (((pp x).length : Int) - (1 : Int))) ≤ ((pp x).length : Int)) (need (fits 48 (((fp tell fd)).length + ([(⟨(sub (pp x) (0 : Int) (IntKind.i64.wrap (((pp x).length : Int) - (1 : Int)))), true, []⟩ : Api_File)]).length)) ((some ((fp tell fd) ++ [(⟨(sub (pp x) (0 : Int) (IntKind.i64.wrap (((pp x).length : Int) - (1 : Int)))), true, []⟩ : Api_File)]))))) else (some (fp tell fd)))) : Option (List Api_File)) = some (fp tell fd1) := by
            by_cases he : its = []
            · by_cases h1 : 1 < x.deep
              · rw [if_pos (by rw [he]; rfl), if_pos (decide_eq_true h1)]
                simp only [Option.bind_some]
                rw [if_pos ⟨he, h1⟩] at hfd1
                cases tell with
                | false => rw [if_neg (by decide), hfd1]; rfl
                | true =>
                  have hpl : (pp x).length = x.path.length + 1 := by unfold pp; rw [if_pos h1]; simp
                  have hp := hx.path
                  have hwl : IntKind.i64.wrap (((pp x).length : Int) - 1) = (x.path.length : Int) := by rw [hpl, wrapI (by omega) (by omega)]; omega
                  have hsub : sub (pp x) 0 (x.path.length : Int) = x.path := by
                    unfold pp sub
                    rw [if_pos h1]
                    simp
                  rw [if_pos rfl, hwl, need_pos (by rw [hpl]; omega), hsub, need_pos (by rw [show fp true fd = fd from rfl]; unfold fits maxB; simp; omega), hfd1]
                  rfl
              · rw [if_pos (by rw [he]; rfl), if_neg (by simpa using h1)]
                rw [if_neg (fun h => h1 h.2)] at hfd1
                rw [hfd1]; rfl
            · rw [if_neg (by simpa using he)]
              rw [if_neg (fun h => he h.1)] at hfd1
              rw [hfd1]; rfl
          rw [← Option.bind_assoc, hfiles]
          simp only [Option.bind_some]
          rw [← hfd1] at hdoc
          obtain ⟨o, ho, h3⟩ := l0_sim hw hK hm tell x hx (by omega) its hil hit (walk_way_enter.f q) (fun y hy hy2 hyd c names met fd rest a1 a2 a3 a4 => ih q y hy hy2 (by omega) (by omega) c names met fd rest a1 a2 a3 a4)
            its.length 0 q (c + 1) (wins x.item.Of names) (mset met x.item.Of v) fd1 rest (by omega) (by omega) hrel' (by omega) hfd1l (by simp [kids]; omega)
          rw [show ((0 : Nat) : Int) = 0 from rfl] at ho
          rw [ho]
          simp only [Option.bind_some]
          rw [List.drop_zero] at h3
          rcases h3 with ⟨e, w, he0, rfl, he, hdoc2⟩ | ⟨w, rfl, hs2, hw0⟩
          · exact ⟨w, rfl, .inl ⟨e, he0, he, hdoc.trans hdoc2⟩⟩
          · rcases hs2 with ⟨e, he0, he, _⟩ | ⟨met2, c2, names2, fd2, g1, g2, g3, g4, g5, g6⟩
            · rw [hw0] at he; exact absurd he.symm he0
            · exact ⟨w, rfl, .inr ⟨met2, c2, names2, fd2, by simp; omega, g2, g3, g4, g5, hdoc.trans g6⟩⟩
    · have : c = 1024 := by omega
      subst this
      rw [if_pos (by omega)] at hdoc
      rw [object_over]
      exact ⟨_, rfl, .inl ⟨2, by decide, rfl, hdoc⟩⟩
end
end Go.Proofs.Ytbcipfhhmkjigaa
