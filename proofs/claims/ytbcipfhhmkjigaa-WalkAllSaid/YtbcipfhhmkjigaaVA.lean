/- WalkAll: the document's list against the program's recursion. -/
import Derived.Test.YtbcipfhhmkjigaaQT
import Derived.Test.YtbcipfhhmkjigaaQN
import Derived.KernelRfl
set_option linter.unusedVariables false
set_option linter.unusedSimpArgs false
namespace Go.Proofs.Ytbcipfhhmkjigaa
open Go Go.Cf
abbrev Todo := Cofferref17_todo
abbrev DocOut := Sum ((List (List Int)) × (List Api_File) × Int) ((List (List Int)) × (List Api_File))
/-- What is to be met is well formed. -/
structure TodoOk (x : Todo) : Prop where
  id : x.item.Of.length = 32
  kind : x.item.Kind = 1 ∨ x.item.Kind = 2
  deep : 1 ≤ x.deep ∧ x.deep ≤ 10
  path : (x.path.length : Int) ≤ 70 * x.deep
/-- The items of a folder, as what is to be met. -/
def kids (x : Todo) (l : List Api_Item) : List Todo := l.map fun it => ⟨it, x.deep + 1, if 1 < x.deep then x.path ++ [47] ++ it.Name else it.Name⟩
theorem doc_l1 (x : Todo) (rest : List Todo) (hx : TodoOk x) (l : List Api_Item) (e : Int) (hl : l.length ≤ 64) (hn : ∀ i ∈ l, i.Name.length ≤ 64) : ∀ (n i k : Nat) (s : List Todo), n + i = l.length → n < k → s.length = i → s = kids x (l.take i) →
    cofferref17_Walk.l1 (l, e) (x :: rest) k s (i : Int) = some (kids x l) := by
  intro n
  induction n with
  | zero =>
    intro i k s hi hk hs he
    obtain ⟨q, rfl⟩ : ∃ q, k = q + 1 := ⟨k - 1, by omega⟩
    rw [cofferref17_Walk.l1, if_neg (by simp; omega), he, List.take_of_length_le (by omega)]
  | succ n ih =>
    intro i k s hi hk hs he
    obtain ⟨q, rfl⟩ : ∃ q, k = q + 1 := ⟨k - 1, by omega⟩
    have hil : i < l.length := by omega
    have hg : l.getD ((i : Int)).toNat rApi_Item.zeroD = l[i] := by simp [hil]
    have hz : (x :: rest).getD ((0 : Int)).toNat rCofferref17_todo.zeroD = x := rfl
    have hnl := hn _ (List.getElem_mem hil)
    have hd := hx.deep
    have hp := hx.path
    have hwd : IntKind.i64.wrap (x.deep + 1) = x.deep + 1 := wrapI (by omega) (by omega)
    rw [cofferref17_Walk.l1, if_pos (by simp; omega), need_pos (by simp; omega)]
    simp only [hg, hz, hwd]
    have hnext : kids x (l.take (i + 1)) = s ++ [⟨l[i], x.deep + 1, if 1 < x.deep then x.path ++ [47] ++ l[i].Name else l[i].Name⟩] := by
      rw [he, List.take_add_one, List.getElem?_eq_getElem hil]
      unfold kids
      rw [List.map_append]
      rfl
    have hfit : fits 88 (s.length + 1) := by unfold fits maxB; omega
    by_cases h1 : 1 < x.deep
    · rw [if_pos (decide_eq_true h1), need_pos (by unfold maxB; simp; omega), need_pos (by unfold maxB; simp; omega)]
      simp only [Option.bind_some]
      rw [need_pos (by simp; omega), need_pos (by simpa using hfit), wrap_succ (i := i) (n := 100) (by omega) (by unfold maxB; omega)]
      rw [if_pos h1] at hnext
      rw [← hnext]
      exact ih (i + 1) q _ (by omega) (by omega) (by rw [hnext]; simp [hs]) rfl
    · rw [if_neg (by simpa using h1)]
      simp only [Option.bind_some]
      rw [need_pos (by simp; omega), need_pos (by simpa using hfit), wrap_succ (i := i) (n := 100) (by omega) (by unfold maxB; omega)]
      rw [if_neg h1] at hnext
      rw [← hnext]
      exact ih (i + 1) q _ (by omega) (by omega) (by rw [hnext]; simp [hs]) rfl
/-- The document's loop, met c times. -/
def Doc (l : Objs) (K : Nat) (c : Nat) (names : List (List Int)) (files : List Api_File) (todo : List Todo) : Option DocOut := cofferref17_Walk.l0 l (K - c) names files todo (c : Int)
def docErr (e : Int) : Option DocOut := some (.inl ([], [], e))
theorem doc_nil (l : Objs) (K c : Nat) (hK : 100000 ≤ K) (hc : c ≤ 1024) (names : List (List Int)) (files : List Api_File) : Doc l K c names files [] = some (.inr (names, files)) := by
  unfold Doc
  obtain ⟨q, hq⟩ : ∃ q, K - c = q + 1 := ⟨K - c - 1, by omega⟩
  rw [hq, cofferref17_Walk.l0, if_neg (by simp)]
theorem doc_cons (l : Objs) (hw : Wf l) (K c : Nat) (hK : 100000 ≤ K) (hc : c ≤ 1024) (names : List (List Int)) (hn : Len32 names) (hnl : names.length ≤ c) (files : List Api_File) (hf : files.length ≤ c) (x : Todo) (hx : TodoOk x) (rest : List Todo) (hr : rest.length ≤ 64 * c + 64) :
    Doc l K c names files (x :: rest) =
      if (x.item.Kind = 2 ∧ 8 < x.deep) ∨ 1024 ≤ c then docErr 2 else
      match dat l x.item.Of with
      | none => docErr 15
      | some d => if x.item.Kind = 1 then (if (d.length : Int) = x.item.Size then Doc l K (c + 1) (wins x.item.Of names) (files ++ [⟨x.path, false, d⟩]) rest else docErr 9)
        else match tk d with
          | none => docErr 4
          | some its => Doc l K (c + 1) (wins x.item.Of names) (if its = [] ∧ 1 < x.deep then files ++ [⟨x.path, true, []⟩] else files) (kids x its ++ rest) := by
  unfold Doc
  obtain ⟨q, hq⟩ : ∃ q, K - c = q + 1 := ⟨K - c - 1, by omega⟩
  have hq2 : K - (c + 1) = q := by omega
  have hz : (x :: rest).getD ((0 : Int)).toNat rCofferref17_todo.zeroD = x := rfl
  have hlen : ((x :: rest).length : Int) = (rest.length : Int) + 1 := by simp
  rw [hq, cofferref17_Walk.l0, if_pos (by rw [hlen]; exact decide_eq_true (by omega)), need_pos (by rw [hlen]; omega), need_pos (by rw [hlen]; omega)]
  simp only [hz]
  have hsub : sub (x :: rest) 1 ((x :: rest).length : Int) = rest := by exact sub_from (x :: rest) (i := 1) 1 rfl
  rw [hsub]
  have hcond : (if decide (x.item.Kind = 2) = true then (if decide ((8 : Int) < x.deep) = true then some true else some (decide ((1024 : Int) ≤ (c : Int)))) else some (decide ((1024 : Int) ≤ (c : Int)))) = some (decide ((x.item.Kind = 2 ∧ 8 < x.deep) ∨ 1024 ≤ c)) := by
    by_cases h1 : x.item.Kind = 2 <;> by_cases h2 : (8 : Int) < x.deep <;> simp [h1, h2] <;> omega
  rw [hcond]
  simp only [Option.bind_some]
  by_cases hov : (x.item.Kind = 2 ∧ 8 < x.deep) ∨ 1024 ≤ c
  · rw [if_pos (decide_eq_true hov), if_pos hov]; rfl
  · rw [if_neg (by simpa using hov), if_neg hov]
    have hll := hw.len
    rw [ref17_Find_is l (by omega) _ q (by omega)]
    simp only [Option.bind_some]
    have hwr : IntKind.i64.wrap ((c : Int) + 1) = ((c + 1 : Nat) : Int) := by rw [wrapI (by omega) (by omega)]; omega
    cases hp : pl l x.item.Of with
    | none =>
      rw [pl_none hp]
      simp only []
      rw [if_pos (by decide)]
      rfl
    | some j =>
      obtain ⟨hj, h7, h8⟩ := pl_some hp
      rw [h8]
      simp only []
      rw [if_neg (by simp)]
      have hgj : l.getD ((j : Int)).toNat rApi_Object.zeroD = l[j] := by simp [hj]
      simp only [hgj]
      rw [ref17_With_is names _ hn hx.id (by omega) q (by omega)]
      simp only [Option.bind_some]
      have hdj := hw.data _ (List.getElem_mem hj)
      rw [hq2]
      by_cases hk : x.item.Kind = 1
      · rw [if_pos (decide_eq_true hk), if_pos hk, need_pos (by omega)]
        by_cases hs : ((l[j].Data.length : Nat) : Int) = x.item.Size
        · rw [if_neg (by simp [hs]), if_pos hs, need_pos (by omega), need_pos (by unfold fits maxB; simp; omega), hwr]
        · rw [if_pos (by simp [hs]), if_neg hs]; rfl
      · rw [if_neg (by simpa using hk), if_neg hk, need_pos (by omega)]
        have htk := ref15_Take_is _ hdj.1 (by unfold maxB; omega) q (by omega)
        obtain ⟨c143, hc143⟩ : ∃ c, tkR (tk l[j].Data) = c := ⟨_, rfl⟩
        rw [hc143] at htk
        rw [htk]
        simp only [Option.bind_some]
        cases ht : tk l[j].Data with
        | none =>
          obtain rfl : ([], 4) = c143 := by rw [← hc143, ht]; rfl
          exact if_pos (by decide)
        | some its =>
          have hT : T l[j].Data = its := by unfold T; rw [ht]; rfl
          have hil : its.length ≤ 64 := by rw [← hT]; exact T_len _
          have hin : ∀ i ∈ its, i.Name.length ≤ 64 := by rw [← hT]; exact fun i hi => (T_may _ i hi).1
          obtain rfl : (its, 0) = c143 := by rw [← hc143, ht]; rfl
          rw [if_neg (by simp)]
          have hl1 := doc_l1 x rest hx its 0 hil hin its.length 0 q [] (by omega) (by omega) rfl (by simp [kids])
          rw [show ((0 : Nat) : Int) = 0 from rfl] at hl1
          have hkl : (kids x its).length = its.length := by simp [kids]
          by_cases he : its = []
          · subst he
            by_cases hd : 1 < x.deep
            · rw [if_pos (by simp)]
              simp only [Option.bind_some]
              rw [if_pos (decide_eq_true hd), need_pos (by unfold fits maxB; simp; omega)]
              simp only [Option.bind_some]
              rw [hl1]
              simp only [Option.bind_some]
              rw [need_pos (by rw [hkl]; unfold fits maxB; omega), hwr, if_pos (by simp [hd])]
            · rw [if_pos (by simp)]
              simp only [Option.bind_some]
              rw [if_neg (by simpa using hd)]
              simp only [Option.bind_some]
              rw [hl1]
              simp only [Option.bind_some]
              rw [need_pos (by rw [hkl]; unfold fits maxB; omega), hwr, if_neg (by simp [hd])]
          · have hne : ¬ ((its.length : Int) = 0) := by
              intro h
              exact he (List.length_eq_zero_iff.1 (by omega))
            rw [if_neg (by simpa using hne)]
            simp only [Option.bind_some, Bool.false_eq_true, if_false]
            rw [hl1]
            simp only [Option.bind_some]
            rw [need_pos (by rw [hkl]; unfold fits maxB; omega), hwr, if_neg (fun h => he h.1)]
end Go.Proofs.Ytbcipfhhmkjigaa
