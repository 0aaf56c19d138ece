/- The law of trees, in plain words. -/
import Derived.Test.YtbcipfhhmkjigaaVB
set_option linter.unusedVariables false
set_option linter.unusedSimpArgs false
namespace Go.Proofs.Ytbcipfhhmkjigaa
open Go Go.Cf
set_option maxRecDepth 1000000 in
theorem walk_begun (k : Nat) : cofferlaw17_begun.f (k + 300) = some true := by kernel_rfl
theorem begin_l0 (l : Objs) (hl : l.length ≤ 1000) : ∀ (n i k : Nat) (s : List (List Int × List Int)), n + i = l.length → n < k → (∀ x, mget s x = dat (l.take i) x) →
    ∃ s', walk_begin.l0 l k s i = some s' ∧ ∀ x, mget s' x = dat l x := by
  intro n
  induction n with
  | zero =>
    intro i k s hi hk hs
    obtain ⟨q, rfl⟩ : ∃ q, k = q + 1 := ⟨k - 1, by omega⟩
    rw [walk_begin.l0, if_neg (by simp; omega)]
    refine ⟨s, rfl, fun x => ?_⟩
    rw [hs x, List.take_of_length_le (by omega)]
  | succ n ih =>
    intro i k s hi hk hs
    obtain ⟨q, rfl⟩ : ∃ q, k = q + 1 := ⟨k - 1, by omega⟩
    have hlt : i < l.length := by omega
    obtain ⟨o, ho⟩ : ∃ o, l.getD i rApi_Object.zeroD = o := ⟨_, rfl⟩
    have hoi : l[i]? = some o := by rw [List.getElem?_eq_getElem hlt, ← ho, List.getD_eq_getElem?_getD, List.getElem?_eq_getElem hlt]; rfl
    have htk : l.take (i + 1) = l.take i ++ [o] := by rw [List.take_add_one, hoi]; rfl
    have hdat : ∀ x, dat (l.take (i + 1)) x = (dat (l.take i) x).or (if o.Of = x then some o.Data else none) := fun x => by
      unfold dat
      rw [htk, List.find?_append]
      cases h : List.find? (fun o => decide (o.Of = x)) (l.take i) with
      | some y => simp
      | none =>
        simp only [Option.none_or, Option.map_none, List.find?_singleton]
        by_cases e : o.Of = x <;> simp [e]
    rw [walk_begin.l0, if_pos (by simp; omega), need_pos (by omega), wrap_succ hlt (by unfold maxB; omega)]
    simp only [Int.toNat_natCast, ho]
    cases hm : mget s o.Of with
    | none =>
      simp only [Option.isSome_none, Bool.not_false, if_true, Option.bind_some]
      refine ih (i + 1) q _ (by omega) (by omega) (fun x => ?_)
      rw [mget_mset, hs x, hdat x]
      by_cases e : x = o.Of
      · subst e
        rw [hs o.Of] at hm
        simp [hm]
      · rw [if_neg e, if_neg (fun e' => e e'.symm)]
        cases dat (l.take i) x <;> rfl
    | some v =>
      simp only [Option.isSome_some, Bool.not_true, Bool.false_eq_true, if_false, Option.bind_some]
      refine ih (i + 1) q _ (by omega) (by omega) (fun x => ?_)
      rw [hs x, hdat x]
      by_cases e : o.Of = x
      · subst e
        rw [hs o.Of] at hm
        rw [hm]; rfl
      · rw [if_neg e]
        cases dat (l.take i) x <;> rfl
theorem begin_is (l : Objs) (hl : l.length ≤ 1000) (tell : Bool) (k : Nat) (hk : l.length < k) : ∃ m, walk_begin.f k l tell = some (m, [], 0, tell, [], 0) ∧ ∀ x, mget m x = dat l x := by
  obtain ⟨m, h1, h2⟩ := begin_l0 l hl l.length 0 k [] (by omega) hk (fun x => by simp [dat, mget])
  refine ⟨m, ?_, h2⟩
  unfold walk_begin.f
  rw [show ((0 : Nat) : Int) = 0 from rfl] at h1
  rw [h1]
  rfl
/-- The program's two answers are the document's. -/
theorem walk_both (l : Objs) (hw : Wf l) (root : List Int) (hr : root.length = 32) (k : Nat) (hk : 150000 ≤ k) : ∃ a f e, walk_Close.f k l root = some (a, e) ∧ walk_Files.f k l root = some (f, e) ∧ cofferref17_Walk.f k l root = some (a, f, e) ∧ a.length ≤ 1024 ∧ f.length ≤ 1024 := by
  have hll := hw.len
  obtain ⟨m, b1, b2⟩ := begin_is l (by omega) false k (by omega)
  obtain ⟨m', d1, d2⟩ := begin_is l (by omega) true k (by omega)
  obtain ⟨x, hx⟩ : ∃ x : Todo, x = ⟨⟨[], 2, root, 0⟩, 1, []⟩ := ⟨_, rfl⟩
  have hxok : TodoOk x := by subst hx; exact ⟨hr, .inr rfl, ⟨Int.le_refl _, by show (1 : Int) ≤ 10; decide⟩, by simp⟩
  have hrel : Rel 0 [] [] := ⟨List.Pairwise.nil, (fun _ h => by cases h), Nat.le_refl _, List.Pairwise.nil, fun _ => Iff.rfl⟩
  obtain ⟨o, o1, o2⟩ := enter_sim hw (K := k) (by omega) b2 false 8 k x hxok (by rw [hx]) (by rw [hx]; rfl) (by omega) 0 [] [] [] [] hrel (by omega) (by simp) (by simp)
  obtain ⟨o', p1, p2⟩ := enter_sim hw (K := k) (by omega) d2 true 8 k x hxok (by rw [hx]) (by rw [hx]; rfl) (by omega) 0 [] [] [] [] hrel (by omega) (by simp) (by simp)
  have hpp : pp x = [] := by rw [hx]; rfl
  have hof : x.item.Of = root := by rw [hx]
  have hdp : x.deep = 1 := by rw [hx]
  rw [hpp, hof, hdp, show ((0 : Nat) : Int) = 0 from rfl] at o1 p1
  rw [show fp false ([] : List Api_File) = [] from rfl] at o1
  rw [show fp true ([] : List Api_File) = [] from rfl] at p1
  have hwalk : cofferref17_Walk.f k l root = (Doc l k 0 [] [] [x]).bind fun o264 => (match o264 with | .inl r => some r | .inr (s17, s20) => (some (s17, s20, (0 : Int)))) := by
    unfold cofferref17_Walk.f Doc
    rw [hx]
    rfl
  unfold walk_Close.f walk_Files.f
  rw [b1, d1]
  simp only [Option.bind_some]
  rw [o1, p1, hwalk]
  simp only [Option.bind_some]
  unfold Sim at o2 p2
  rw [List.singleton_append] at o2 p2
  rcases o2 with ⟨e, he0, he, hdoc⟩ | ⟨met, c1, names1, fd1, g1, g2, rfl, g4, g5, g6⟩
  · rcases p2 with ⟨e', he0', he', hdoc'⟩ | ⟨met', c2, names2, fd2, g1, g2, rfl, g4, g5, g6⟩
    · have : e = e' := by
        rw [hdoc] at hdoc'
        unfold docErr at hdoc'
        simpa using hdoc'
      subst this
      rw [he, he', hdoc, if_pos (by simp [he0]), if_pos (by simp [he0])]
      exact ⟨[], [], e, rfl, rfl, rfl, by simp, by simp⟩
    · rw [doc_nil l k c2 (by omega) g2] at g6
      rw [g6] at hdoc
      unfold docErr at hdoc
      simp at hdoc
  · rw [doc_nil l k c1 (by omega) g2] at g6
    rcases p2 with ⟨e', he0', he', hdoc'⟩ | ⟨met', c2, names2, fd2, h1, h2, rfl, h4, h5, h6⟩
    · rw [g6] at hdoc'
      unfold docErr at hdoc'
      simp at hdoc'
    · rw [doc_nil l k c2 (by omega) h2, g6] at h6
      have h6 := Option.some.inj h6
      have h6 := Sum.inr.inj h6
      have e1 : names1 = names2 := congrArg Prod.fst h6
      have e2 : fd1 = fd2 := congrArg Prod.snd h6
      subst e1 e2
      rw [g6]
      dsimp only
      rw [if_neg (by simp), if_neg (by simp)]
      have hml : met.length ≤ 1024 := by
        have hp := (List.perm_ext_iff_of_nodup g4.nd (g4.up.imp (fun {a b} h e => by subst e; rw [cmp3_refl] at h; omega) : names1.Nodup)).2 g4.mem
        have := hp.length_eq
        have hn := g4.nl
        simp at this
        omega
      unfold slices_SortedFunc.f
      rw [need_pos (by unfold fits maxB; omega)]
      have h32 : Len32 (met.map (·.1)) := fun y hy => g4.len y ((g4.mem y).1 hy)
      have hs := sort_up h32 g4.nd
      have hno : namesOf met = names1 := Up.ext hs.1 g4.up (fun y => (hs.2 y).trans (g4.mem y))
      rw [hno]
      refine ⟨names1, fd1, 0, rfl, rfl, rfl, by have := g4.nl; omega, by omega⟩
theorem AlikeFiles_same (f : List Api_File) (hf : f.length ≤ 100000) : ∀ (n i k : Nat), n + i = f.length → n < k → cofferref17_AlikeFiles.l0 f f k i = some (.inr ()) := by
  intro n
  induction n with
  | zero =>
    intro i k hi hk
    obtain ⟨q, rfl⟩ : ∃ q, k = q + 1 := ⟨k - 1, by omega⟩
    rw [cofferref17_AlikeFiles.l0, if_neg (by simp; omega)]
  | succ n ih =>
    intro i k hi hk
    obtain ⟨q, rfl⟩ : ∃ q, k = q + 1 := ⟨k - 1, by omega⟩
    rw [cofferref17_AlikeFiles.l0, if_pos (by simp; omega), need_pos (by omega), need_pos (by omega), if_neg (by simp), need_pos (by omega), need_pos (by omega), if_neg (by simp), need_pos (by omega), need_pos (by omega)]
    simp only [Option.bind_some]
    rw [if_neg (by simp), wrap_succ (i := i) (n := f.length) (by omega) (by unfold maxB; omega)]
    exact ih (i + 1) q (by omega) (by omega)
theorem walkAll_l1 : ∀ (n i k : Nat) (s : List Api_File), n + i = s.length → n < k → s.length ≤ 100000 → ∃ r, cofferlaw17_WalkAll.l1 k s i = some r := by
  intro n
  induction n with
  | zero =>
    intro i k s hi hk hl
    obtain ⟨q, rfl⟩ : ∃ q, k = q + 1 := ⟨k - 1, by omega⟩
    rw [cofferlaw17_WalkAll.l1, if_neg (by simp; omega)]
    exact ⟨_, rfl⟩
  | succ n ih =>
    intro i k s hi hk hl
    obtain ⟨q, rfl⟩ : ∃ q, k = q + 1 := ⟨k - 1, by omega⟩
    rw [cofferlaw17_WalkAll.l1, if_pos (by simp; omega), need_pos (by omega), need_pos (by omega), wrap_succ (i := i) (n := s.length) (by omega) (by unfold maxB; omega)]
    exact ih (i + 1) q _ (by simp; omega) (by omega) (by simp; omega)
theorem walkAll_l2 : ∀ (n i k : Nat) (s : List (List Int)), n + i = s.length → n < k → s.length ≤ 100000 → ∃ r, cofferlaw17_WalkAll.l2 k s i = some r := by
  intro n
  induction n with
  | zero =>
    intro i k s hi hk hl
    obtain ⟨q, rfl⟩ : ∃ q, k = q + 1 := ⟨k - 1, by omega⟩
    rw [cofferlaw17_WalkAll.l2, if_neg (by simp; omega)]
    exact ⟨_, rfl⟩
  | succ n ih =>
    intro i k s hi hk hl
    obtain ⟨q, rfl⟩ : ∃ q, k = q + 1 := ⟨k - 1, by omega⟩
    rw [cofferlaw17_WalkAll.l2, if_pos (by simp; omega), need_pos (by omega), wrap_succ (i := i) (n := s.length) (by omega) (by unfold maxB; omega)]
    exact ih (i + 1) q _ (by simp; omega) (by omega) (by simp; omega)
theorem walkAll_turn (l : Objs) (hw : Wf l) (root : List Int) (hr : root.length = 32) (k : Nat) (hk : 150000 ≤ k) (i : Int) (hi : i < 2) : cofferlaw17_WalkAll.l0 l root (k + 1) i = cofferlaw17_WalkAll.l0 l root k (IntKind.i64.wrap (i + 1)) := by
  obtain ⟨a, f, e, h1, h2, h3, ha, hf⟩ := walk_both l hw root hr k hk
  obtain ⟨r1, f1⟩ := walkAll_l1 f.length 0 k f (by omega) (by omega) (by omega)
  obtain ⟨r2, f2⟩ := walkAll_l2 a.length 0 k a (by omega) (by omega) (by omega)
  rw [show ((0 : Nat) : Int) = 0 from rfl] at f1 f2
  have haf := AlikeFiles_same f (by omega) f.length 0 k (by omega) (by omega)
  rw [show ((0 : Nat) : Int) = 0 from rfl] at haf
  rw [cofferlaw17_WalkAll.l0, if_pos (by simpa using hi), h1]
  simp only [Option.bind_some]
  rw [h2]
  simp only [Option.bind_some]
  rw [h3]
  simp only [Option.bind_some]
  rw [if_neg (by simp), if_neg (by simp), AlikeIDs_is a a (by omega) k (by omega)]
  simp only [Option.bind_some, decide_true, Bool.not_true, Bool.false_eq_true, if_false]
  unfold cofferref17_AlikeFiles.f
  rw [if_neg (by simp), haf]
  simp only [Option.bind_some, Bool.not_true, Bool.false_eq_true, if_false]
  rw [f1]
  simp only [Option.bind_some]
  rw [f2]
  rfl
def cofferlaw17_WalkAll.Pure : Prop := ∀ (a0 : (List Api_Object)) (a1 : (List Int)), (rSl 56 rApi_Object).wf a0 → (rArr 32 (rInt .u8)).wf a1 → ∃ k, cofferlaw17_WalkAll.f k a0 a1 = some true
theorem WalkAll_pure : cofferlaw17_WalkAll.Pure := by
  intro l root hl hr
  refine ⟨300000, ?_⟩
  unfold cofferlaw17_WalkAll.f
  rw [show (300000 : Nat) = 299700 + 300 from rfl, walk_begun 299700]
  simp only [Option.bind_some, Bool.not_true, Bool.false_eq_true, if_false]
  have hli := Light_is l 40 (by omega) 300000 (by omega)
  rw [show ((40 : Nat) : Int) = 40 from rfl] at hli
  rw [show (299700 + 300 : Nat) = 300000 from rfl, hli]
  simp only [Option.bind_some]
  by_cases h1 : l.length ≤ 40 ∧ ∀ o ∈ l, o.Data.length ≤ 5000
  · rw [decide_eq_true h1]
    simp only [Bool.not_true, Bool.false_eq_true, if_false]
    have hw := light_wf (by omega) hl h1
    have hr32 : root.length = 32 := (wf_arr hr).1
    rw [show (300000 : Nat) = 299999 + 1 from rfl, walkAll_turn l hw root hr32 299999 (by omega) 0 (by omega)]
    rw [show (299999 : Nat) = 299998 + 1 from rfl, show IntKind.i64.wrap (0 + 1) = 1 from rfl, walkAll_turn l hw root hr32 299998 (by omega) 1 (by omega)]
    rw [show (299998 : Nat) = 299997 + 1 from rfl, show IntKind.i64.wrap (1 + 1) = 2 from rfl, cofferlaw17_WalkAll.l0, if_neg (by decide)]
    rfl
  · rw [decide_eq_false h1]
    rfl
end Go.Proofs.Ytbcipfhhmkjigaa
